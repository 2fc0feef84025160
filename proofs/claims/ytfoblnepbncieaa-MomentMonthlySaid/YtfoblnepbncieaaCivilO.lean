/-
  The contract of civil.Of: a number's day.
-/
import Derived.Test.YtfoblnepbncieaaCivilN
namespace Go.Proofs.Ytfoblnepbncieaa
open Go.ChangeShapes Go.WideShapes Go.ChangeAt Go.RowKit

/-- is there a day of that number -/
def numB (n : Int) : Bool := decide (Civ.first ≤ n ∧ n ≤ Civ.last)

theorem of_may_b (n : Int) : Civ.may (Civ.ofY n) (Civ.ofM n) (Civ.ofD n) = numB n := by
  obtain ⟨a, b, c, e, f⟩ := Civ.of_spec n
  have g := Civ.of_may n
  rw [Bool.eq_iff_iff, may_iff]
  simp only [numB, decide_eq_true_eq]
  constructor
  · intro h; exact g.1 ⟨h.1, h.2.1⟩
  · intro h; have := g.2 h; exact ⟨this.1, this.2, c, e⟩

theorem numB_far (n : Int) (h : n < -400000000000 ∨ 400000000000 < n) : numB n = false := by
  apply decide_eq_false
  show ¬ ((-365243219162 : Int) ≤ n ∧ n ≤ 365241780471)
  omega

theorem civil_of_far (n : Int) (h : n < -400000000000 ∨ 400000000000 < n) (w : World) :
    Calls Try.prog 47 #[.int .i64 n] w fun e w' => e = .returned (.tuple #[.agg #[.int .i64 0, .int .i64 0, .int .i64 0], .bool false]) ∧ Below w.heap.size w w' := by
  rcases h with h | h
  · go_enter Try.func47, Try.ntmps47
    go_wp2
    refine bodyPost_ret (v := .tuple #[.agg #[.int .i64 0, .int .i64 0, .int .i64 0], .bool false]) (by simp [results, Try.results47, go_sem]) rfl ⟨?_, ?_⟩
    · rfl
    · (repeat (first | with_reducible assumption | with_reducible exact bl_refl _ | with_reducible refine bl_alloc ?_ _ | with_reducible refine bl_set ?_ (by simp) _ | with_reducible refine bl_drew ?_ | with_reducible refine bl_drewN ?_ _ | with_reducible refine bl_trans ?_ (by assumption)))
  · have h' : ¬ n < -400000000000 := by omega
    go_enter Try.func47, Try.ntmps47
    go_wp2
    refine bodyPost_ret (v := .tuple #[.agg #[.int .i64 0, .int .i64 0, .int .i64 0], .bool false]) (by simp [results, Try.results47, go_sem]) rfl ⟨?_, ?_⟩
    · rfl
    · (repeat (first | with_reducible assumption | with_reducible exact bl_refl _ | with_reducible refine bl_alloc ?_ _ | with_reducible refine bl_set ?_ (by simp) _ | with_reducible refine bl_drew ?_ | with_reducible refine bl_drewN ?_ _ | with_reducible refine bl_trans ?_ (by assumption)))

/-- the bounds that the walk asks for -/
theorem of_bounds (n : Int) (h1 : -400000000000 ≤ n) (h2 : n ≤ 400000000000) :
    (-2737910 ≤ Civ.ofEra n ∧ Civ.ofEra n ≤ 2737915) ∧ (0 ≤ Civ.ofDoe n ∧ Civ.ofDoe n ≤ 146096) ∧ (0 ≤ Civ.ofYoe n ∧ Civ.ofYoe n ≤ 399) ∧ (0 ≤ Civ.ofDoy n ∧ Civ.ofDoy n ≤ 365) ∧
    (0 ≤ Civ.ofMp n ∧ Civ.ofMp n ≤ 11) := by
  obtain ⟨a1, a2, a3, a4, a5, a6, a7, a8, a9⟩ := Civ.of_march n (Civ.ofEra n) (Civ.ofDoe n) (Civ.ofYoe n) (Civ.ofDoy n) (Civ.ofMp n) rfl rfl rfl rfl rfl
  refine ⟨?_, ?_, ⟨a3, a4⟩, ⟨a5, a6⟩, a1, a2⟩
  · unfold Civ.ofEra; omega
  · unfold Civ.ofDoe Civ.ofEra; omega

set_option maxHeartbeats 1000000 in
theorem civil_of_near (n : Int) (h1 : -400000000000 ≤ n) (h2 : n ≤ 400000000000) (b : Bool) (h : numB n = b) (w : World) :
    Calls Try.prog 47 #[.int .i64 n] w fun e w' => e = .returned (.tuple #[if b then .agg #[.int .i64 (Civ.ofY n), .int .i64 (Civ.ofM n), .int .i64 (Civ.ofD n)] else .agg #[.int .i64 0, .int .i64 0, .int .i64 0], .bool b]) ∧ Below w.heap.size w w' := by
  have hm := of_may_b n
  rw [h] at hm
  clear h
  obtain ⟨⟨e1, e2⟩, ⟨f1, f2⟩, ⟨g1, g2⟩, ⟨i1, i2⟩, j1, j2⟩ := of_bounds n h1 h2
  have HE := Lib.hid (show (n + 719468) / 146097 = Civ.ofEra n from rfl)
  have HD := Lib.hid (show n + 719468 - 146097 * Civ.ofEra n = Civ.ofDoe n from rfl)
  have HY := Lib.hid (show (Civ.ofDoe n - Civ.ofDoe n / 1460 + Civ.ofDoe n / 36524 - Civ.ofDoe n / 146096) / 365 = Civ.ofYoe n from rfl)
  have HO := Lib.hid (show Civ.ofDoe n - (365 * Civ.ofYoe n + Civ.ofYoe n / 4 - Civ.ofYoe n / 100) = Civ.ofDoy n from rfl)
  have HM := Lib.hid (show (5 * Civ.ofDoy n + 2) / 153 = Civ.ofMp n from rfl)
  have HMAY := Lib.hid hm
  have HY2 := Lib.hid (show Civ.ofY n = if 10 ≤ Civ.ofMp n then 400 * Civ.ofEra n + Civ.ofYoe n + 1 else 400 * Civ.ofEra n + Civ.ofYoe n from rfl)
  have HM2 := Lib.hid (show Civ.ofM n = if 10 ≤ Civ.ofMp n then Civ.ofMp n + 3 - 12 else Civ.ofMp n + 3 from rfl)
  have HD2 := Lib.hid (show Civ.ofD n = Civ.ofDoy n - (153 * Civ.ofMp n + 2) / 5 + 1 from rfl)
  clear hm
  generalize Civ.ofY n = oy at *
  generalize Civ.ofM n = om at *
  generalize Civ.ofD n = od at *
  generalize Civ.ofEra n = era at *
  generalize Civ.ofDoe n = doe at *
  generalize Civ.ofYoe n = yoe at *
  generalize Civ.ofDoy n = doy at *
  generalize Civ.ofMp n = mp at *
  go_enter Try.func47, Try.ntmps47
  go_wp2_with fail
  refine (civil_floor (n + 719468) 146097 _ (by omega) (by omega) (by omega) (by omega)).mono ?_
  rw [HE.out]
  rintro e w2 ⟨rfl, rfl⟩
  have hd := HD.out
  have hy := HY.out
  have ho := HO.out
  have hm := HM.out
  have hp : 10 ≤ mp ∨ mp ≤ 9 := by omega
  rcases hp with hp | hp
  · have hm2 : Civ.may (400 * era + yoe + 1) (mp + 3 - 12) (doy - (153 * mp + 2) / 5 + 1) = b := by
      have := HMAY.out
      rw [HY2.out, HM2.out, HD2.out, if_pos hp, if_pos hp] at this
      exact this
    have HM3 := Lib.hid hm2
    clear hm2
    cases b
    all_goals
      go_wp2_with fail
      refine (civil_may_is _ _ _ _ HM3.out _).mono ?_
      rintro e w1 ⟨rfl, hb⟩
      have z1 : w.heap.size < w.heap.size + 1 + 1 := by omega
      obtain ⟨r0, r1, r2, rf0, rf1, rf2, rl⟩ := keep3 (b := w.heap.size) (x := .int .i64 0) (y := .int .i64 0) (z := .int .i64 0) hb (by simp [*]) (by simp [*]) (by simp [*]) (by simp [*]) (by simp [*]) (by simp [*])
      obtain ⟨t0, t1, t2, tf0, tf1, tf2, tl⟩ := keep3 (b := w.heap.size + 1) (x := .int .i64 (400 * era + yoe + 1)) (y := .int .i64 (mp + 3 - 12)) (z := .int .i64 (doy - (153 * mp + 2) / 5 + 1)) hb (by simp [*]) (by simp [*]) (by simp [*]) (by simp [*]) (by simp [*]) (by simp [*])
      go_wp2_with fail
    · refine bodyPost_ret (v := .tuple #[.agg #[.int .i64 0, .int .i64 0, .int .i64 0], .bool false]) (by simp [results, Try.results47, go_sem, *]) rfl ⟨?_, ?_⟩
      · rfl
      · (repeat (first | with_reducible assumption | with_reducible exact bl_refl _ | with_reducible refine bl_alloc ?_ _ | with_reducible refine bl_set ?_ (by simp) _ | with_reducible refine bl_drew ?_ | with_reducible refine bl_drewN ?_ _ | with_reducible refine bl_trans ?_ (by assumption)))
    · refine bodyPost_ret (v := .tuple #[.agg #[.int .i64 (400 * era + yoe + 1), .int .i64 (mp + 3 - 12), .int .i64 (doy - (153 * mp + 2) / 5 + 1)], .bool true]) (by simp [results, Try.results47, go_sem, *]) rfl ⟨?_, ?_⟩
      · rw [HY2.out, HM2.out, HD2.out, if_pos hp, if_pos hp]
      · (repeat (first | with_reducible assumption | with_reducible exact bl_refl _ | with_reducible refine bl_alloc ?_ _ | with_reducible refine bl_set ?_ (by simp) _ | with_reducible refine bl_drew ?_ | with_reducible refine bl_drewN ?_ _ | with_reducible refine bl_trans ?_ (by assumption)))
  · have hm2 : Civ.may (400 * era + yoe) (mp + 3) (doy - (153 * mp + 2) / 5 + 1) = b := by
      have := HMAY.out
      rw [HY2.out, HM2.out, HD2.out, if_neg (show ¬ 10 ≤ mp by omega), if_neg (show ¬ 10 ≤ mp by omega)] at this
      exact this
    have HM3 := Lib.hid hm2
    clear hm2
    cases b
    all_goals
      go_wp2_with fail
      refine (civil_may_is _ _ _ _ HM3.out _).mono ?_
      rintro e w1 ⟨rfl, hb⟩
      have z1 : w.heap.size < w.heap.size + 1 + 1 := by omega
      obtain ⟨r0, r1, r2, rf0, rf1, rf2, rl⟩ := keep3 (b := w.heap.size) (x := .int .i64 0) (y := .int .i64 0) (z := .int .i64 0) hb (by simp [*]) (by simp [*]) (by simp [*]) (by simp [*]) (by simp [*]) (by simp [*])
      obtain ⟨t0, t1, t2, tf0, tf1, tf2, tl⟩ := keep3 (b := w.heap.size + 1) (x := .int .i64 (400 * era + yoe)) (y := .int .i64 (mp + 3)) (z := .int .i64 (doy - (153 * mp + 2) / 5 + 1)) hb (by simp [*]) (by simp [*]) (by simp [*]) (by simp [*]) (by simp [*]) (by simp [*])
      go_wp2_with fail
    · refine bodyPost_ret (v := .tuple #[.agg #[.int .i64 0, .int .i64 0, .int .i64 0], .bool false]) (by simp [results, Try.results47, go_sem, *]) rfl ⟨?_, ?_⟩
      · rfl
      · (repeat (first | with_reducible assumption | with_reducible exact bl_refl _ | with_reducible refine bl_alloc ?_ _ | with_reducible refine bl_set ?_ (by simp) _ | with_reducible refine bl_drew ?_ | with_reducible refine bl_drewN ?_ _ | with_reducible refine bl_trans ?_ (by assumption)))
    · refine bodyPost_ret (v := .tuple #[.agg #[.int .i64 (400 * era + yoe), .int .i64 (mp + 3), .int .i64 (doy - (153 * mp + 2) / 5 + 1)], .bool true]) (by simp [results, Try.results47, go_sem, *]) rfl ⟨?_, ?_⟩
      · rw [HY2.out, HM2.out, HD2.out, if_neg (show ¬ 10 ≤ mp by omega), if_neg (show ¬ 10 ≤ mp by omega)]
      · (repeat (first | with_reducible assumption | with_reducible exact bl_refl _ | with_reducible refine bl_alloc ?_ _ | with_reducible refine bl_set ?_ (by simp) _ | with_reducible refine bl_drew ?_ | with_reducible refine bl_drewN ?_ _ | with_reducible refine bl_trans ?_ (by assumption)))

/-- a number's day, for every number -/
theorem civil_of (n : Int) (b : Bool) (h : numB n = b) (w : World) :
    Calls Try.prog 47 #[.int .i64 n] w fun e w' => e = .returned (.tuple #[if b then .agg #[.int .i64 (Civ.ofY n), .int .i64 (Civ.ofM n), .int .i64 (Civ.ofD n)] else .agg #[.int .i64 0, .int .i64 0, .int .i64 0], .bool b]) ∧ Below w.heap.size w w' := by
  by_cases c : -400000000000 ≤ n ∧ n ≤ 400000000000
  · exact civil_of_near n c.1 c.2 b h w
  · have f := numB_far n (by omega)
    rw [h] at f
    subst f
    exact civil_of_far n (by omega) w

end Go.Proofs.Ytfoblnepbncieaa
