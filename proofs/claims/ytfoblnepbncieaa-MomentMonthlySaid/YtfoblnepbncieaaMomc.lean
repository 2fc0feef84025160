/-
  The contracts of moment's functions: between two moments, which one is ahead.
-/
import Derived.Test.YtfoblnepbncieaaMomb
namespace Go.Proofs.Ytfoblnepbncieaa
open Go.ChangeShapes Go.WideShapes Go.ChangeAt Go.RowKit

/-- between two moments that may be and are alike -/
theorem moment_between_yes (y m d s : Int) (z : Bool) (o v u f t p : Int) (h : mayM y m d s z o = true) (g : mayM v u f t z p = true) (w : World) :
    Calls Try.prog 55 #[.agg #[.int .i64 y, .int .i64 m, .int .i64 d, .int .i64 s, .bool z, .int .i64 o], .agg #[.int .i64 v, .int .i64 u, .int .i64 f, .int .i64 t, .bool z, .int .i64 p]] w fun e w' =>
      e = .returned (.tuple #[.int .i64 (ins v u f t p - ins y m d s o), .bool true]) ∧ Below w.heap.size w w' := by
  obtain ⟨i1, i2⟩ := ins_in y m d s z o h
  obtain ⟨j1, j2⟩ := ins_in v u f t z p g
  have HI := Lib.hid (moment_instant_yes y m d s z o h)
  have HJ := Lib.hid (moment_instant_yes v u f t z p g)
  clear h g
  generalize ins y m d s o = i at *
  generalize ins v u f t p = j at *
  have z1 : w.heap.size < w.heap.size + 1 + 1 := by omega
  cases z
  all_goals
    go_enter Try.func55, Try.ntmps55
    go_wp2_with fail
    refine (HI.out _).mono ?_
    rintro e w1 ⟨rfl, hb1⟩
    obtain ⟨a0, a1, a2, a3, a4, a5, al⟩ := keepc6 (b := w.heap.size) (c0 := .int .i64 y) (c1 := .int .i64 m) (c2 := .int .i64 d) (c3 := .int .i64 s) (c4 := .bool _) (c5 := .int .i64 o) hb1 (by simp [go_sem, *]) (by simp [go_sem, *]) (by simp [go_sem, *]) (by simp [go_sem, *]) (by simp [go_sem]; rfl) (by simp [go_sem, *])
    obtain ⟨b0, b1, b2, b3, b4, b5, bl⟩ := keepc6 (b := w.heap.size + 1) (c0 := .int .i64 v) (c1 := .int .i64 u) (c2 := .int .i64 f) (c3 := .int .i64 t) (c4 := .bool _) (c5 := .int .i64 p) hb1 (by simp [go_sem, *]) (by simp [go_sem, *]) (by simp [go_sem, *]) (by simp [go_sem, *]) (by simp [go_sem]; rfl) (by simp [go_sem, *])
    have g1 : Below w.heap.size w w1 := by (repeat (first | with_reducible assumption | with_reducible exact bl_refl _ | with_reducible refine bl_alloc ?_ _ | with_reducible refine bl_set ?_ (by simp) _ | with_reducible refine bl_drew ?_ | with_reducible refine bl_drewN ?_ _ | with_reducible refine bl_trans ?_ (by assumption)))
    go_wp2_with fail
    refine (HJ.out _).mono ?_
    rintro e w2 ⟨rfl, hb2⟩
    obtain ⟨a0, a1, a2, a3, a4, a5, al⟩ := keepc6 hb2 a0 a1 a2 a3 a4 a5
    obtain ⟨b0, b1, b2, b3, b4, b5, bl⟩ := keepc6 hb2 b0 b1 b2 b3 b4 b5
    go_wp2_with fail
    go_ret2
    refine ⟨rfl, ?_⟩
    (repeat (first | with_reducible assumption | with_reducible exact bl_refl _ | with_reducible refine bl_alloc ?_ _ | with_reducible refine bl_set ?_ (by simp) _ | with_reducible refine bl_drew ?_ | with_reducible refine bl_drewN ?_ _ | with_reducible refine bl_trans ?_ (by assumption)))

theorem moment_between_mixed (y m d s : Int) (z : Bool) (o v u f t : Int) (x : Bool) (p : Int) (h : mayM y m d s z o = true) (g : mayM v u f t x p = true) (hz : z ≠ x) (w : World) :
    Calls Try.prog 55 #[.agg #[.int .i64 y, .int .i64 m, .int .i64 d, .int .i64 s, .bool z, .int .i64 o], .agg #[.int .i64 v, .int .i64 u, .int .i64 f, .int .i64 t, .bool x, .int .i64 p]] w fun e w' =>
      e = .returned (.tuple #[.int .i64 0, .bool false]) ∧ Below w.heap.size w w' := by
  have HI := Lib.hid (moment_instant_yes y m d s z o h)
  have HJ := Lib.hid (moment_instant_yes v u f t x p g)
  clear h g
  generalize ins y m d s o = i at *
  generalize ins v u f t p = j at *
  have z1 : w.heap.size < w.heap.size + 1 + 1 := by omega
  cases z <;> cases x <;> (try exact absurd rfl hz)
  all_goals
    clear hz
    go_enter Try.func55, Try.ntmps55
    go_wp2_with fail
    refine (HI.out _).mono ?_
    rintro e w1 ⟨rfl, hb1⟩
    obtain ⟨a4, _, al⟩ := keep1 (b := w.heap.size) (o := 4) (v := .bool _) hb1 (by simp [go_sem]; rfl) (by simp [go_sem, *])
    obtain ⟨b0, b1, b2, b3, b4, b5, bl⟩ := keepc6 (b := w.heap.size + 1) (c0 := .int .i64 v) (c1 := .int .i64 u) (c2 := .int .i64 f) (c3 := .int .i64 t) (c4 := .bool _) (c5 := .int .i64 p) hb1 (by simp [go_sem, *]) (by simp [go_sem, *]) (by simp [go_sem, *]) (by simp [go_sem, *]) (by simp [go_sem]; rfl) (by simp [go_sem, *])
    have g1 : Below w.heap.size w w1 := by (repeat (first | with_reducible assumption | with_reducible exact bl_refl _ | with_reducible refine bl_alloc ?_ _ | with_reducible refine bl_set ?_ (by simp) _ | with_reducible refine bl_drew ?_ | with_reducible refine bl_drewN ?_ _ | with_reducible refine bl_trans ?_ (by assumption)))
    go_wp2_with fail
    refine (HJ.out _).mono ?_
    rintro e w2 ⟨rfl, hb2⟩
    have a4 := below_keeps hb2 _ _ _ a4
    have al := lt_of_cell a4
    obtain ⟨b0, b1, b2, b3, b4, b5, bl⟩ := keepc6 hb2 b0 b1 b2 b3 b4 b5
    go_wp2_with fail
    go_ret2
    refine ⟨rfl, ?_⟩
    (repeat (first | with_reducible assumption | with_reducible exact bl_refl _ | with_reducible refine bl_alloc ?_ _ | with_reducible refine bl_set ?_ (by simp) _ | with_reducible refine bl_drew ?_ | with_reducible refine bl_drewN ?_ _ | with_reducible refine bl_trans ?_ (by assumption)))

def sgnI (n : Int) : Int := if 0 < n then -1 else if n < 0 then 1 else 0

/-- ahead or behind, by what Between gives -/
theorem moment_cmp_gen (A B : Value) (y m d s : Int) (z : Bool) (o v u f t : Int) (x : Bool) (p n : Int) (b : Bool) (hA : A = .agg #[.int .i64 y, .int .i64 m, .int .i64 d, .int .i64 s, .bool z, .int .i64 o]) (hB : B = .agg #[.int .i64 v, .int .i64 u, .int .i64 f, .int .i64 t, .bool x, .int .i64 p])
    (hbt : ∀ w, Calls Try.prog 55 #[A, B] w fun e w' => e = .returned (.tuple #[.int .i64 n, .bool b]) ∧ Below w.heap.size w w') (w : World) :
    Calls Try.prog 56 #[A, B] w fun e w' =>
      e = .returned (.tuple #[.int .i64 (if b then sgnI n else 0), .bool b]) ∧ Below w.heap.size w w' := by
  subst hA hB
  have HB := Lib.hid hbt
  clear hbt
  cases b
  · go_enter Try.func56, Try.ntmps56
    go_wp2_with fail
    refine (HB.out _).mono ?_
    rintro e w1 ⟨rfl, hb1⟩
    go_wp2_with fail
    go_ret2
    refine ⟨rfl, ?_⟩
    (repeat (first | with_reducible assumption | with_reducible exact bl_refl _ | with_reducible refine bl_alloc ?_ _ | with_reducible refine bl_set ?_ (by simp) _ | with_reducible refine bl_drew ?_ | with_reducible refine bl_drewN ?_ _ | with_reducible refine bl_trans ?_ (by assumption)))
  · have HS : (0 < n ∧ sgnI n = -1) ∨ (n < 0 ∧ sgnI n = 1) ∨ (n ≤ 0 ∧ 0 ≤ n ∧ sgnI n = 0) := by
      unfold sgnI
      by_cases c : 0 < n
      · rw [if_pos c]; omega
      · rw [if_neg c]
        by_cases c2 : n < 0
        · rw [if_pos c2]; omega
        · rw [if_neg c2]; omega
    rcases HS with ⟨c, hs⟩ | ⟨c, hs⟩ | ⟨c, c2, hs⟩
    all_goals
      have HS := Lib.hid hs
      clear hs
      go_enter Try.func56, Try.ntmps56
      go_wp2_with fail
      refine (HB.out _).mono ?_
      rintro e w1 ⟨rfl, hb1⟩
      go_wp2_with fail
      go_ret2
      refine ⟨?_, ?_⟩
    · (try rw [if_pos rfl]); rw [HS.out]; rfl
    · (repeat (first | with_reducible assumption | with_reducible exact bl_refl _ | with_reducible refine bl_alloc ?_ _ | with_reducible refine bl_set ?_ (by simp) _ | with_reducible refine bl_drew ?_ | with_reducible refine bl_drewN ?_ _ | with_reducible refine bl_trans ?_ (by assumption)))
    · (try rw [if_pos rfl]); rw [HS.out]; rfl
    · (repeat (first | with_reducible assumption | with_reducible exact bl_refl _ | with_reducible refine bl_alloc ?_ _ | with_reducible refine bl_set ?_ (by simp) _ | with_reducible refine bl_drew ?_ | with_reducible refine bl_drewN ?_ _ | with_reducible refine bl_trans ?_ (by assumption)))
    · (try rw [if_pos rfl]); rw [HS.out]; rfl
    · (repeat (first | with_reducible assumption | with_reducible exact bl_refl _ | with_reducible refine bl_alloc ?_ _ | with_reducible refine bl_set ?_ (by simp) _ | with_reducible refine bl_drew ?_ | with_reducible refine bl_drewN ?_ _ | with_reducible refine bl_trans ?_ (by assumption)))

theorem moment_instant1 (y m d s : Int) (z : Bool) (o : Int) (h : mayM y m d s z o = true) (w : World) :
    Calls Try.prog 64 #[.agg #[.int .i64 y, .int .i64 m, .int .i64 d, .int .i64 s, .bool z, .int .i64 o]] w fun e w' => e = .returned (.int .i64 (ins y m d s o)) ∧ Below w.heap.size w w' := by
  have HI := Lib.hid (moment_instant_yes y m d s z o h)
  clear h
  generalize ins y m d s o = i at *
  go_enter Try.func64, Try.ntmps64
  go_wp2_with fail
  refine (HI.out _).mono ?_
  rintro e w1 ⟨rfl, hb1⟩
  go_wp2_with fail
  go_ret
  refine ⟨rfl, ?_⟩
  (repeat (first | with_reducible assumption | with_reducible exact bl_refl _ | with_reducible refine bl_alloc ?_ _ | with_reducible refine bl_set ?_ (by simp) _ | with_reducible refine bl_drew ?_ | with_reducible refine bl_drewN ?_ _ | with_reducible refine bl_trans ?_ (by assumption)))

end Go.Proofs.Ytfoblnepbncieaa
