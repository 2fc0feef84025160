/-
  The contracts of the calendar: weekdays, days of the year, weeks.
-/
import Derived.Test.YtfoblnepbncieaaCivilO
import Derived.Deep.RegionHeld3
import Derived.Deep.DeepCutAuto
namespace Go.Proofs.Ytfoblnepbncieaa
open Go.ChangeShapes Go.WideShapes Go.ChangeAt Go.RowKit

theorem civil_weekday_no (y m d : Int) (h : Civ.may y m d = false) (w : World) :
    Calls Try.prog 38 #[.agg #[.int .i64 y, .int .i64 m, .int .i64 d]] w fun e w' => e = .returned (.int .i64 0) ∧ Below w.heap.size w w' := by
  have H := Lib.hid h
  clear h
  go_enter Try.func38, Try.ntmps38
  go_wp2_with fail
  refine (civil_number_no y m d H.out _).mono ?_
  rintro e w1 ⟨rfl, hb⟩
  go_wp2_with fail
  go_ret
  refine ⟨rfl, ?_⟩
  (repeat (first | with_reducible assumption | with_reducible exact bl_refl _ | with_reducible refine bl_alloc ?_ _ | with_reducible refine bl_set ?_ (by simp) _ | with_reducible refine bl_drew ?_ | with_reducible refine bl_drewN ?_ _ | with_reducible refine bl_trans ?_ (by assumption)))

theorem wday_eq (n : Int) : (n.tmod 7 + 10) % 7 + 1 = (n + 3) % 7 + 1 := by
  have := Civ.tmod_cases n 7
  omega

theorem civil_weekday_yes (y m d : Int) (h : Civ.may y m d = true) (w : World) :
    Calls Try.prog 38 #[.agg #[.int .i64 y, .int .i64 m, .int .i64 d]] w fun e w' => e = .returned (.int .i64 (Civ.wday y m d)) ∧ Below w.heap.size w w' := by
  have H := Lib.hid h
  clear h
  have HW := Lib.hid (show Civ.wday y m d = (Civ.num y m d + 3) % 7 + 1 from rfl)
  have HN := Lib.hid (civil_number_yes y m d H.out)
  generalize Civ.num y m d = n at HW HN
  have hb : -6 ≤ n.tmod 7 ∧ n.tmod 7 ≤ 6 := by have := Civ.tmod_cases n 7; omega
  obtain ⟨hb1, hb2⟩ := hb
  go_enter Try.func38, Try.ntmps38
  go_wp2_with fail
  refine (HN.out _).mono ?_
  rintro e w1 ⟨rfl, hb⟩
  go_wp2_with fail
  go_ret
  refine ⟨ret_int ?_, ?_⟩
  · rw [HW.out]; exact wday_eq n
  · (repeat (first | with_reducible assumption | with_reducible exact bl_refl _ | with_reducible refine bl_alloc ?_ _ | with_reducible refine bl_set ?_ (by simp) _ | with_reducible refine bl_drew ?_ | with_reducible refine bl_drewN ?_ _ | with_reducible refine bl_trans ?_ (by assumption)))

theorem civil_yearday_no (y m d : Int) (h : Civ.may y m d = false) (w : World) :
    Calls Try.prog 39 #[.agg #[.int .i64 y, .int .i64 m, .int .i64 d]] w fun e w' => e = .returned (.int .i64 0) ∧ Below w.heap.size w w' := by
  have H := Lib.hid h
  clear h
  go_enter Try.func39, Try.ntmps39
  go_wp2_with fail
  refine (civil_may_is y m d _ H.out _).mono ?_
  rintro e w1 ⟨rfl, hb⟩
  go_wp2_with fail
  go_ret
  refine ⟨rfl, ?_⟩
  (repeat (first | with_reducible assumption | with_reducible exact bl_refl _ | with_reducible refine bl_alloc ?_ _ | with_reducible refine bl_set ?_ (by simp) _ | with_reducible refine bl_drew ?_ | with_reducible refine bl_drewN ?_ _ | with_reducible refine bl_trans ?_ (by assumption)))

theorem cum_bound (y m : Int) (h1 : 1 ≤ m) (h2 : m ≤ 13) : 0 ≤ Civ.cum y m ∧ Civ.cum y m ≤ 366 := by
  have a := Civ.cum_mono y 1 m (by omega) h1 h2
  have b := Civ.cum_mono y m 13 h1 h2 (by omega)
  rw [Civ.cum_one] at a
  rw [Civ.cum_13] at b
  have := Civ.lp_01 y
  omega

theorem civil_yearday_yes (y m d : Int) (h : Civ.may y m d = true) (w : World) :
    Calls Try.prog 39 #[.agg #[.int .i64 y, .int .i64 m, .int .i64 d]] w fun e w' => e = .returned (.int .i64 (Civ.yday y m d)) ∧ Below w.heap.size w w' := by
  obtain ⟨y1, y2, d1, d2⟩ := (may_iff y m d).1 h
  have H := Lib.hid h
  obtain ⟨m1, m2, _⟩ := Civ.num_bounds y m d d1 d2
  have d3 : d ≤ 31 := by have := Civ.len_pos y m m1 m2; omega
  clear h d2
  have HY := Lib.hid (show Civ.yday y m d = Civ.cum y m + d from rfl)
  go_enter Try.func39, Try.ntmps39
  go_wp2_with fail
  refine (civil_may_is y m d _ H.out _).mono ?_
  rintro e w1 ⟨rfl, hb⟩
  obtain ⟨t0, t1, t2, tf0, tf1, tf2, tl⟩ := keep3 (b := w.heap.size) (x := .int .i64 y) (y := .int .i64 m) (z := .int .i64 d) hb (by simp [*]) (by simp [*]) (by simp [*]) (by simp [*]) (by simp [*]) (by simp [*])
  go_wp2_with fail
  go_loop [3, 13] (fun n i => ∃ k : Nat, (k : Int) ≤ m - 1 ∧ i = .int .i64 k ∧ n = .int .i64 (Civ.cum y (k + 1) + d)) (fun _ i => (m - 1 - intOf i).toNat)
  case atStart => exact ⟨0, by omega, rfl, by show _ = Value.int .i64 (Civ.cum y 1 + d); rw [Civ.cum_one]; simp⟩
  case round =>
    obtain ⟨k, hk, rfl, rfl⟩ := hrel
    have cb := cum_bound y (k + 1) (by omega) (by omega)
    obtain ⟨cb1, cb2⟩ := cb
    by_cases hlt : (k : Int) < m - 1
    · have lb := Civ.len_pos y (k + 1) (by omega) (by omega)
      obtain ⟨lb1, lb2⟩ := lb
      have CS := Lib.hid (Civ.cum_succ y (k + 1) (by omega) (by omega))
      go_wp2_with (go_at_call 33; refine (civil_length _ _ _).mono ?_; rintro e w' ⟨rfl, rfl⟩)
      go_round
      case rel => exact ⟨k + 1, by omega, by go_num, by rw [show ((k + 1 : Nat) : Int) + 1 = (k : Int) + 1 + 1 from by omega, CS.out]; go_num⟩
      case measure => simp [intOf]; omega
    · go_wp2_with fail
      go_ret
      refine ⟨ret_int ?_, ?_⟩
      · rw [HY.out, show (k : Int) + 1 = m from by omega]
      · (repeat (first | with_reducible assumption | with_reducible exact bl_refl _ | with_reducible refine bl_alloc ?_ _ | with_reducible refine bl_set ?_ (by simp) _ | with_reducible refine bl_drew ?_ | with_reducible refine bl_drewN ?_ _ | with_reducible refine bl_trans ?_ (by assumption)))

theorem civil_weeks (y : Int) (h1 : -999999999 ≤ y) (h2 : y ≤ 999999999) (w : World) :
    Calls Try.prog 60 #[.int .i64 y] w fun e w' => e = .returned (.int .i64 (Civ.weeks y)) ∧ Below w.heap.size w w' := by
  have hm : Civ.may y 1 1 = true := (may_iff y 1 1).2 ⟨h1, h2, by omega, by have := Civ.len_pos y 1; omega⟩
  have HN := Lib.hid (civil_weekday_yes y 1 1 hm)
  have HW := Lib.hid (show Civ.weeks y = if Civ.wday y 1 1 = 4 ∨ Civ.wday y 1 1 = 3 ∧ Civ.leap y = true then 53 else 52 from rfl)
  clear hm
  generalize Civ.wday y 1 1 = k at HN HW
  go_enter Try.func60, Try.ntmps60
  go_wp2_with fail
  refine (HN.out _).mono ?_
  rintro e w1 ⟨rfl, hb⟩
  go_wp2_with (go_at_call 31; refine (civil_leap _ _).mono ?_; rintro e w' ⟨rfl, rfl⟩)
  all_goals go_ret
  all_goals refine ⟨ret_int ?_, ?_⟩
  all_goals (first | ((repeat (first | with_reducible assumption | with_reducible exact bl_refl _ | with_reducible refine bl_alloc ?_ _ | with_reducible refine bl_set ?_ (by simp) _ | with_reducible refine bl_drew ?_ | with_reducible refine bl_drewN ?_ _ | with_reducible refine bl_trans ?_ (by assumption))); done) | (rw [HW.out]; simp_all; done))

end Go.Proofs.Ytfoblnepbncieaa
