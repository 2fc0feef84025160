/-
  The contracts of the calendar: which days there are, a day's number.
-/
import Derived.Test.YtfoblnepbncieaaCivil
namespace Go.Proofs.Ytfoblnepbncieaa
open Go.ChangeShapes Go.WideShapes Go.ChangeAt Go.RowKit

theorem retib {k : IntKind} {a b : Int} {c : Bool} (h : a = b) : Ending.returned (.tuple #[.int k a, .bool c]) = .returned (.tuple #[.int k b, .bool c]) := by rw [h]

theorem civil_may (y m d : Int) (w : World) :
    Calls Try.prog 35 #[.agg #[.int .i64 y, .int .i64 m, .int .i64 d]] w fun e w' => e = .returned (.bool (Civ.may y m d)) ∧ Below w.heap.size w w' := by
  by_cases h1 : -999999999 ≤ y
  · by_cases h2 : y ≤ 999999999
    · by_cases h3 : 1 ≤ d
      · go_enter Try.func35, Try.ntmps35
        go_wp2
        go_quiet ((go_at_call 33; exact quiet_same (civil_length _ _ _)))
        go_wp2
        go_ret
        refine ⟨ret_bool ?_, ?_⟩
        · rw [Bool.eq_iff_iff]; simp [Civ.may, h1, h2, h3]
        · (repeat (first | with_reducible assumption | with_reducible exact bl_refl _ | with_reducible refine bl_alloc ?_ _ | with_reducible refine bl_set ?_ (by simp) _ | with_reducible refine bl_drew ?_ | with_reducible refine bl_drewN ?_ _ | with_reducible refine bl_trans ?_ (by assumption)))
      · have hd : decide (1 ≤ d) = false := by simpa using h3
        go_enter Try.func35, Try.ntmps35
        go_wp2
        go_quiet (fail)
        go_wp2
        go_ret
        refine ⟨ret_bool ?_, ?_⟩
        · rw [Bool.eq_iff_iff]; simp [Civ.may]; omega
        · (repeat (first | with_reducible assumption | with_reducible exact bl_refl _ | with_reducible refine bl_alloc ?_ _ | with_reducible refine bl_set ?_ (by simp) _ | with_reducible refine bl_drew ?_ | with_reducible refine bl_drewN ?_ _ | with_reducible refine bl_trans ?_ (by assumption)))
    · have hd : decide (y ≤ 999999999) = false := by simpa using h2
      go_enter Try.func35, Try.ntmps35
      go_wp2
      go_quiet (fail)
      go_wp2
      go_ret
      refine ⟨ret_bool ?_, ?_⟩
      · rw [Bool.eq_iff_iff]; simp [Civ.may]; omega
      · (repeat (first | with_reducible assumption | with_reducible exact bl_refl _ | with_reducible refine bl_alloc ?_ _ | with_reducible refine bl_set ?_ (by simp) _ | with_reducible refine bl_drew ?_ | with_reducible refine bl_drewN ?_ _ | with_reducible refine bl_trans ?_ (by assumption)))
  · have hd : decide (-999999999 ≤ y) = false := by simpa using h1
    go_enter Try.func35, Try.ntmps35
    go_wp2
    go_quiet (fail)
    go_wp2
    go_ret
    refine ⟨ret_bool ?_, ?_⟩
    · rw [Bool.eq_iff_iff]; simp [Civ.may]; omega
    · (repeat (first | with_reducible assumption | with_reducible exact bl_refl _ | with_reducible refine bl_alloc ?_ _ | with_reducible refine bl_set ?_ (by simp) _ | with_reducible refine bl_drew ?_ | with_reducible refine bl_drewN ?_ _ | with_reducible refine bl_trans ?_ (by assumption)))

theorem civil_may_is (y m d : Int) (b : Bool) (h : Civ.may y m d = b) (w : World) :
    Calls Try.prog 35 #[.agg #[.int .i64 y, .int .i64 m, .int .i64 d]] w fun e w' => e = .returned (.bool b) ∧ Below w.heap.size w w' := by
  rw [← h]; exact civil_may y m d w

theorem may_iff (y m d : Int) : Civ.may y m d = true ↔ (-999999999 ≤ y ∧ y ≤ 999999999 ∧ 1 ≤ d ∧ d ≤ Civ.len y m) := by simp [Civ.may]

theorem civil_number_no (y m d : Int) (h : Civ.may y m d = false) (w : World) :
    Calls Try.prog 36 #[.agg #[.int .i64 y, .int .i64 m, .int .i64 d]] w fun e w' => e = .returned (.tuple #[.int .i64 0, .bool false]) ∧ Below w.heap.size w w' := by
  have H := Lib.hid h
  clear h
  go_enter Try.func36, Try.ntmps36
  go_wp2_with fail
  refine (civil_may_is y m d false H.out _).mono ?_
  rintro e w1 ⟨rfl, hb⟩
  go_wp2_with fail
  go_ret2
  refine ⟨rfl, ?_⟩
  (repeat (first | with_reducible assumption | with_reducible exact bl_refl _ | with_reducible refine bl_alloc ?_ _ | with_reducible refine bl_set ?_ (by simp) _ | with_reducible refine bl_drew ?_ | with_reducible refine bl_drewN ?_ _ | with_reducible refine bl_trans ?_ (by assumption)))

theorem civil_number_yes (y m d : Int) (h : Civ.may y m d = true) (w : World) :
    Calls Try.prog 36 #[.agg #[.int .i64 y, .int .i64 m, .int .i64 d]] w fun e w' => e = .returned (.tuple #[.int .i64 (Civ.num y m d), .bool true]) ∧ Below w.heap.size w w' := by
  obtain ⟨y1, y2, d1, d2⟩ := (may_iff y m d).1 h
  have H := Lib.hid h
  have nb := Civ.num_bounds y m d d1 d2
  obtain ⟨m1, m2, nb⟩ := nb
  have d3 : d ≤ 31 := by have := Civ.len_pos y m m1 m2; omega
  have M := Lib.hid (Civ.num_march y m d m1 m2)
  clear h nb d2
  by_cases c : m ≤ 2
  · have f1 : 0 ≤ y - 1 - 400 * ((y - 1) / 400) := by omega
    have f2 : y - 1 - 400 * ((y - 1) / 400) ≤ 399 := by omega
    have f3 : -2500001 ≤ (y - 1) / 400 := by omega
    have f4 : (y - 1) / 400 ≤ 2500001 := by omega
    go_enter Try.func36, Try.ntmps36
    go_wp2_with fail
    refine (civil_may_is y m d true H.out _).mono ?_
    rintro e w1 ⟨rfl, hb⟩
    obtain ⟨t0, t1, t2, tf0, tf1, tf2, tl⟩ := keep3 (b := w.heap.size) (x := .int .i64 y) (y := .int .i64 m) (z := .int .i64 d) hb (by simp [*]) (by simp [*]) (by simp [*]) (by simp [*]) (by simp [*]) (by simp [*])
    go_wp2_with fail
    go_quiet (fail)
    go_wp2_with fail
    refine (civil_floor (y - 1) 400 _ (by omega) (by omega) (by omega) (by omega)).mono ?_
    rintro e w2 ⟨rfl, rfl⟩
    go_wp2_with fail
    go_ret2
    refine ⟨retib ?_, ?_⟩
    · rw [M.out, if_pos c]
    · (repeat (first | with_reducible assumption | with_reducible exact bl_refl _ | with_reducible refine bl_alloc ?_ _ | with_reducible refine bl_set ?_ (by simp) _ | with_reducible refine bl_drew ?_ | with_reducible refine bl_drewN ?_ _ | with_reducible refine bl_trans ?_ (by assumption)))
  · have f1 : 0 ≤ y - 400 * (y / 400) := by omega
    have f2 : y - 400 * (y / 400) ≤ 399 := by omega
    have f3 : -2500001 ≤ y / 400 := by omega
    have f4 : y / 400 ≤ 2500001 := by omega
    go_enter Try.func36, Try.ntmps36
    go_wp2_with fail
    refine (civil_may_is y m d true H.out _).mono ?_
    rintro e w1 ⟨rfl, hb⟩
    obtain ⟨t0, t1, t2, tf0, tf1, tf2, tl⟩ := keep3 (b := w.heap.size) (x := .int .i64 y) (y := .int .i64 m) (z := .int .i64 d) hb (by simp [*]) (by simp [*]) (by simp [*]) (by simp [*]) (by simp [*]) (by simp [*])
    go_wp2_with fail
    go_quiet (fail)
    go_wp2_with fail
    refine (civil_floor y 400 _ (by omega) (by omega) (by omega) (by omega)).mono ?_
    rintro e w2 ⟨rfl, rfl⟩
    go_wp2_with fail
    go_ret2
    refine ⟨retib ?_, ?_⟩
    · rw [M.out, if_neg (by omega)]
    · (repeat (first | with_reducible assumption | with_reducible exact bl_refl _ | with_reducible refine bl_alloc ?_ _ | with_reducible refine bl_set ?_ (by simp) _ | with_reducible refine bl_drew ?_ | with_reducible refine bl_drewN ?_ _ | with_reducible refine bl_trans ?_ (by assumption)))

end Go.Proofs.Ytfoblnepbncieaa
