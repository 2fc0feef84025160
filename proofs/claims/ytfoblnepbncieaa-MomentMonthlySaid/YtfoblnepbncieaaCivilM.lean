/-
  The contract of civil.Months.
-/
import Derived.Test.YtfoblnepbncieaaCivilW
namespace Go.Proofs.Ytfoblnepbncieaa
open Go.ChangeShapes Go.WideShapes Go.ChangeAt Go.RowKit

theorem civil_months_no (y m d n : Int) (h : Civ.may y m d = false ∨ n < -9007199254740992 ∨ 9007199254740992 < n) (w : World) :
    Calls Try.prog 37 #[.agg #[.int .i64 y, .int .i64 m, .int .i64 d], .int .i64 n] w fun e w' => e = .returned (.tuple #[.agg #[.int .i64 0, .int .i64 0, .int .i64 0], .bool false]) ∧ Below w.heap.size w w' := by
  cases hm : Civ.may y m d
  · have HM := Lib.hid hm
    clear hm h
    go_enter Try.func37, Try.ntmps37
    go_wp2_with fail
    refine (civil_may_is _ _ _ _ HM.out _).mono ?_
    rintro e w1 ⟨rfl, hb⟩
    have z1 : w.heap.size < w.heap.size + 1 + 1 := by omega
    obtain ⟨r0, r1, r2, rf0, rf1, rf2, rl⟩ := keep3 (b := w.heap.size + 1) (x := .int .i64 0) (y := .int .i64 0) (z := .int .i64 0) hb (by simp [*]) (by simp [*]) (by simp [*]) (by simp [*]) (by simp [*]) (by simp [*])
    go_wp2_with fail
    refine bodyPost_ret (v := .tuple #[.agg #[.int .i64 0, .int .i64 0, .int .i64 0], .bool false]) (by simp [results, Try.results37, go_sem, *]) rfl ⟨?_, ?_⟩
    · rfl
    · (repeat (first | with_reducible assumption | with_reducible exact bl_refl _ | with_reducible refine bl_alloc ?_ _ | with_reducible refine bl_set ?_ (by simp) _ | with_reducible refine bl_drew ?_ | with_reducible refine bl_drewN ?_ _ | with_reducible refine bl_trans ?_ (by assumption)))
  · have HM := Lib.hid hm
    have hn : n < -9007199254740992 ∨ (-9007199254740992 ≤ n ∧ 9007199254740992 < n) := by rw [hm] at h; simp at h; omega
    clear hm h
    rcases hn with hn | ⟨hn1, hn⟩
    all_goals
      go_enter Try.func37, Try.ntmps37
      go_wp2_with fail
      refine (civil_may_is _ _ _ _ HM.out _).mono ?_
      rintro e w1 ⟨rfl, hb⟩
      have z1 : w.heap.size < w.heap.size + 1 + 1 := by omega
      obtain ⟨r0, r1, r2, rf0, rf1, rf2, rl⟩ := keep3 (b := w.heap.size + 1) (x := .int .i64 0) (y := .int .i64 0) (z := .int .i64 0) hb (by simp [*]) (by simp [*]) (by simp [*]) (by simp [*]) (by simp [*]) (by simp [*])
      go_wp2_with fail
      refine bodyPost_ret (v := .tuple #[.agg #[.int .i64 0, .int .i64 0, .int .i64 0], .bool false]) (by simp [results, Try.results37, go_sem, *]) rfl ⟨?_, ?_⟩
      · rfl
      · (repeat (first | with_reducible assumption | with_reducible exact bl_refl _ | with_reducible refine bl_alloc ?_ _ | with_reducible refine bl_set ?_ (by simp) _ | with_reducible refine bl_drew ?_ | with_reducible refine bl_drewN ?_ _ | with_reducible refine bl_trans ?_ (by assumption)))

def moY (y m n : Int) : Int := (12 * y + m - 1 + n) / 12
def moM (y m n : Int) : Int := (12 * y + m - 1 + n) - 12 * moY y m n + 1
def moD (y m d n : Int) : Int := min d (Civ.len (moY y m n) (moM y m n))

set_option maxHeartbeats 1000000 in
theorem civil_months_yes (y m d n : Int) (h : Civ.may y m d = true) (n1 : -9007199254740992 ≤ n) (n2 : n ≤ 9007199254740992) (b : Bool) (hb0 : Civ.may (moY y m n) (moM y m n) (moD y m d n) = b) (w : World) :
    Calls Try.prog 37 #[.agg #[.int .i64 y, .int .i64 m, .int .i64 d], .int .i64 n] w fun e w' =>
      e = .returned (.tuple #[if b then .agg #[.int .i64 (moY y m n), .int .i64 (moM y m n), .int .i64 (moD y m d n)] else .agg #[.int .i64 0, .int .i64 0, .int .i64 0], .bool b]) ∧ Below w.heap.size w w' := by
  obtain ⟨y1, y2, d1, d2⟩ := (may_iff y m d).1 h
  obtain ⟨m1, m2, _⟩ := Civ.num_bounds y m d d1 d2
  have H := Lib.hid h
  have HB := Lib.hid hb0
  clear h d2 hb0
  have q1 : -1000000000000000000 ≤ 12 * y + m - 1 + n := by omega
  have q2 : 12 * y + m - 1 + n ≤ 1000000000000000000 := by omega
  have q3 : -100000000000000000 ≤ moY y m n ∧ moY y m n ≤ 100000000000000000 := by unfold moY; omega
  obtain ⟨q3, q4⟩ := q3
  have q5 : 1 ≤ moM y m n ∧ moM y m n ≤ 12 := by unfold moM moY; omega
  obtain ⟨q5, q6⟩ := q5
  have HY := Lib.hid (show (12 * y + m - 1 + n) / 12 = moY y m n from rfl)
  have HM := Lib.hid (show (12 * y + m - 1 + n) - 12 * moY y m n + 1 = moM y m n from rfl)
  have HD := Lib.hid (show min d (Civ.len (moY y m n) (moM y m n)) = moD y m d n from rfl)
  generalize moD y m d n = D at *
  generalize moM y m n = M at *
  generalize moY y m n = Y at *
  go_enter Try.func37, Try.ntmps37
  go_wp2_with fail
  refine (civil_may_is _ _ _ _ H.out _).mono ?_
  rintro e w1 ⟨rfl, hb⟩
  have z1 : w.heap.size < w.heap.size + 1 + 1 := by omega
  obtain ⟨r0, r1, r2, rf0, rf1, rf2, rl⟩ := keep3 (b := w.heap.size + 1) (x := .int .i64 0) (y := .int .i64 0) (z := .int .i64 0) hb (by simp [*]) (by simp [*]) (by simp [*]) (by simp [*]) (by simp [*]) (by simp [*])
  obtain ⟨t0, t1, t2, tf0, tf1, tf2, tl⟩ := keep3 (b := w.heap.size) (x := .int .i64 y) (y := .int .i64 m) (z := .int .i64 d) hb (by simp [*]) (by simp [*]) (by simp [*]) (by simp [*]) (by simp [*]) (by simp [*])
  have hbW : Below w.heap.size w w1 := by (repeat (first | with_reducible assumption | with_reducible exact bl_refl _ | with_reducible refine bl_alloc ?_ _ | with_reducible refine bl_set ?_ (by simp) _ | with_reducible refine bl_drew ?_ | with_reducible refine bl_drewN ?_ _ | with_reducible refine bl_trans ?_ (by assumption)))
  clear hb
  go_wp2_with fail
  refine (civil_floor _ 12 _ (by omega) q1 q2 (by omega)).mono ?_
  rw [HY.out]
  rintro e w2 ⟨rfl, rfl⟩
  have hm := HM.out
  go_wp2_with fail
  by_cases c : d ≤ Civ.len Y M
  · obtain rfl : d = D := (Int.min_eq_left c).symm.trans HD.out
    go_region_held3 (fun w' => w'.cell? ⟨w.heap.size, 2, none⟩ = some (.int .i64 d) ∧ w'.cell? ⟨w1.heap.size, 0, none⟩ = some (.int .i64 Y) ∧ w'.cell? ⟨w1.heap.size, 1, none⟩ = some (.int .i64 M))
      ((simp [go_sem, *]))
      (first
        | (go_at_call 33; refine (civil_length _ _ _).mono ?_; rintro e w' ⟨rfl, rfl⟩))
    cases b
    all_goals
      go_wp2_with fail
      refine (civil_may_is _ _ _ _ HB.out _).mono ?_
      rintro e w3 ⟨rfl, hb3⟩
      have g3 : Below w1.heap.size w1 w3 := by (repeat (first | with_reducible assumption | with_reducible exact bl_refl _ | with_reducible refine bl_alloc ?_ _ | with_reducible refine bl_set ?_ (by simp) _ | with_reducible refine bl_drew ?_ | with_reducible refine bl_drewN ?_ _ | with_reducible refine bl_trans ?_ (by assumption)))
      obtain ⟨r0, r1, r2, rf0, rf1, rf2, rl⟩ := keep3 g3 r0 r1 r2 rf0 rf1 rf2
      obtain ⟨o0, o1, o2, of0, of1, of2, ol⟩ := keep3 (b := w1.heap.size) (x := .int .i64 Y) (y := .int .i64 M) (z := .int .i64 (d)) hb3 (by simp [*]) (by simp [*]) (by simp [*]) (by simp [*]) (by simp [*]) (by simp [*])
      go_wp2_with fail
    · refine bodyPost_ret (v := .tuple #[.agg #[.int .i64 0, .int .i64 0, .int .i64 0], .bool false]) (by simp [results, Try.results37, go_sem, *]) rfl ⟨?_, ?_⟩
      · rfl
      · (repeat (first | with_reducible assumption | with_reducible exact bl_refl _ | with_reducible refine bl_alloc ?_ _ | with_reducible refine bl_set ?_ (by simp) _ | with_reducible refine bl_drew ?_ | with_reducible refine bl_drewN ?_ _ | with_reducible refine bl_trans ?_ (by assumption)))
    · refine bodyPost_ret (v := .tuple #[.agg #[.int .i64 Y, .int .i64 M, .int .i64 (d)], .bool true]) (by simp [results, Try.results37, go_sem, *]) rfl ⟨?_, ?_⟩
      · rfl
      · (repeat (first | with_reducible assumption | with_reducible exact bl_refl _ | with_reducible refine bl_alloc ?_ _ | with_reducible refine bl_set ?_ (by simp) _ | with_reducible refine bl_drew ?_ | with_reducible refine bl_drewN ?_ _ | with_reducible refine bl_trans ?_ (by assumption)))
  · have e : D = Civ.len Y M := HD.out.symm.trans (Int.min_eq_right (by omega))
    subst e
    have c' : Civ.len Y M < d := by omega
    go_region_held3 (fun w' => w'.cell? ⟨w.heap.size, 2, none⟩ = some (.int .i64 d) ∧ w'.cell? ⟨w1.heap.size, 0, none⟩ = some (.int .i64 Y) ∧ w'.cell? ⟨w1.heap.size, 1, none⟩ = some (.int .i64 M))
      ((simp [go_sem, *]))
      (first
        | (go_at_call 33; refine (civil_length _ _ _).mono ?_; rintro e w' ⟨rfl, rfl⟩))
    cases b
    all_goals
      go_wp2_with fail
      refine (civil_may_is _ _ _ _ HB.out _).mono ?_
      rintro e w3 ⟨rfl, hb3⟩
      have g3 : Below w1.heap.size w1 w3 := by (repeat (first | with_reducible assumption | with_reducible exact bl_refl _ | with_reducible refine bl_alloc ?_ _ | with_reducible refine bl_set ?_ (by simp) _ | with_reducible refine bl_drew ?_ | with_reducible refine bl_drewN ?_ _ | with_reducible refine bl_trans ?_ (by assumption)))
      obtain ⟨r0, r1, r2, rf0, rf1, rf2, rl⟩ := keep3 g3 r0 r1 r2 rf0 rf1 rf2
      obtain ⟨o0, o1, o2, of0, of1, of2, ol⟩ := keep3 (b := w1.heap.size) (x := .int .i64 Y) (y := .int .i64 M) (z := .int .i64 (Civ.len Y M)) hb3 (by simp [*]) (by simp [*]) (by simp [*]) (by simp [*]) (by simp [*]) (by simp [*])
      go_wp2_with fail
    · refine bodyPost_ret (v := .tuple #[.agg #[.int .i64 0, .int .i64 0, .int .i64 0], .bool false]) (by simp [results, Try.results37, go_sem, *]) rfl ⟨?_, ?_⟩
      · rfl
      · (repeat (first | with_reducible assumption | with_reducible exact bl_refl _ | with_reducible refine bl_alloc ?_ _ | with_reducible refine bl_set ?_ (by simp) _ | with_reducible refine bl_drew ?_ | with_reducible refine bl_drewN ?_ _ | with_reducible refine bl_trans ?_ (by assumption)))
    · refine bodyPost_ret (v := .tuple #[.agg #[.int .i64 Y, .int .i64 M, .int .i64 (Civ.len Y M)], .bool true]) (by simp [results, Try.results37, go_sem, *]) rfl ⟨?_, ?_⟩
      · rfl
      · (repeat (first | with_reducible assumption | with_reducible exact bl_refl _ | with_reducible refine bl_alloc ?_ _ | with_reducible refine bl_set ?_ (by simp) _ | with_reducible refine bl_drew ?_ | with_reducible refine bl_drewN ?_ _ | with_reducible refine bl_trans ?_ (by assumption)))

end Go.Proofs.Ytfoblnepbncieaa
