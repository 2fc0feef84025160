/-
  Tools for moments: six cells; and the contracts of moment's functions.
-/
import Derived.Test.YtfoblnepbncieaaClock
import Derived.Test.YtfoblnepbncieaaCivilM
import Derived.Test.YtfoblnepbncieaaCivilK
import Derived.Test.YtfoblnepbncieaaCivilG
namespace Go.Proofs.Ytfoblnepbncieaa
open Go.ChangeShapes Go.WideShapes Go.ChangeAt Go.RowKit

theorem keepc6 {W w1 : World} {b : Nat} {c0 c1 c2 c3 c4 c5 : Value} (hb : Below W.heap.size W w1)
    (h0 : W.cell? ⟨b, 0, none⟩ = some c0) (h1 : W.cell? ⟨b, 1, none⟩ = some c1) (h2 : W.cell? ⟨b, 2, none⟩ = some c2)
    (h3 : W.cell? ⟨b, 3, none⟩ = some c3) (h4 : W.cell? ⟨b, 4, none⟩ = some c4) (h5 : W.cell? ⟨b, 5, none⟩ = some c5) :
    w1.cell? ⟨b, 0, none⟩ = some c0 ∧ w1.cell? ⟨b, 1, none⟩ = some c1 ∧ w1.cell? ⟨b, 2, none⟩ = some c2 ∧
    w1.cell? ⟨b, 3, none⟩ = some c3 ∧ w1.cell? ⟨b, 4, none⟩ = some c4 ∧ w1.cell? ⟨b, 5, none⟩ = some c5 ∧ b < w1.heap.size :=
  ⟨below_keeps hb _ _ _ h0, below_keeps hb _ _ _ h1, below_keeps hb _ _ _ h2, below_keeps hb _ _ _ h3, below_keeps hb _ _ _ h4, below_keeps hb _ _ _ h5, lt_of_cell (below_keeps hb _ _ _ h0)⟩

theorem keepf6 {W w1 : World} {b : Nat} {c0 c1 c2 c3 c4 c5 : Value} (hb : Below W.heap.size W w1)
    (h0 : W.cell? ⟨b, 0, none⟩ = some c0) (h1 : W.cell? ⟨b, 1, none⟩ = some c1) (h2 : W.cell? ⟨b, 2, none⟩ = some c2)
    (h3 : W.cell? ⟨b, 3, none⟩ = some c3) (h4 : W.cell? ⟨b, 4, none⟩ = some c4) (h5 : W.cell? ⟨b, 5, none⟩ = some c5)
    (f0 : W.frozen? ⟨b, 0, none⟩ = false) (f1 : W.frozen? ⟨b, 1, none⟩ = false) (f2 : W.frozen? ⟨b, 2, none⟩ = false)
    (f3 : W.frozen? ⟨b, 3, none⟩ = false) (f4 : W.frozen? ⟨b, 4, none⟩ = false) (f5 : W.frozen? ⟨b, 5, none⟩ = false) :
    (w1.cell? ⟨b, 0, none⟩ = some c0 ∧ w1.cell? ⟨b, 1, none⟩ = some c1 ∧ w1.cell? ⟨b, 2, none⟩ = some c2 ∧
    w1.cell? ⟨b, 3, none⟩ = some c3 ∧ w1.cell? ⟨b, 4, none⟩ = some c4 ∧ w1.cell? ⟨b, 5, none⟩ = some c5 ∧ b < w1.heap.size) ∧
    w1.frozen? ⟨b, 0, none⟩ = false ∧ w1.frozen? ⟨b, 1, none⟩ = false ∧ w1.frozen? ⟨b, 2, none⟩ = false ∧
    w1.frozen? ⟨b, 3, none⟩ = false ∧ w1.frozen? ⟨b, 4, none⟩ = false ∧ w1.frozen? ⟨b, 5, none⟩ = false :=
  ⟨keepc6 hb h0 h1 h2 h3 h4 h5, (keep1 hb h0 f0).2.1, (keep1 hb h1 f1).2.1, (keep1 hb h2 f2).2.1, (keep1 hb h3 f3).2.1, (keep1 hb h4 f4).2.1, (keep1 hb h5 f5).2.1⟩

theorem mayC_iff (s : Int) (z : Bool) (o : Int) : mayC s z o = true ↔ (0 ≤ s ∧ s < 86400 ∧ -64800 ≤ o ∧ o ≤ 64800 ∧ (z = true ∨ o = 0)) := by simp [mayC]

def mayM (y m d s : Int) (z : Bool) (o : Int) : Bool := Civ.may y m d && mayC s z o
def ins (y m d s o : Int) : Int := 86400 * Civ.num y m d + s - o

theorem num_in (y m d : Int) (h : Civ.may y m d = true) : -365243219162 ≤ Civ.num y m d ∧ Civ.num y m d ≤ 365241780471 :=
  of_decide_eq_true ((numB_range _).symm.trans (numB_num y m d h))

theorem moment_may (y m d s : Int) (z : Bool) (o : Int) (w : World) :
    Calls Try.prog 53 #[.agg #[.int .i64 y, .int .i64 m, .int .i64 d, .int .i64 s, .bool z, .int .i64 o]] w fun e w' => e = .returned (.bool (mayM y m d s z o)) ∧ Below w.heap.size w w' := by
  cases h : Civ.may y m d
  · have H := Lib.hid h
    have HM := Lib.hid (show mayM y m d s z o = false by simp [mayM, h])
    clear h
    rw [HM.out]
    go_enter Try.func53, Try.ntmps53
    go_wp2_with fail
    refine (civil_may_is y m d _ H.out _).mono ?_
    rintro e w1 ⟨rfl, hb⟩
    go_wp2_with fail
    go_ret
    refine ⟨rfl, ?_⟩
    (repeat (first | with_reducible assumption | with_reducible exact bl_refl _ | with_reducible refine bl_alloc ?_ _ | with_reducible refine bl_set ?_ (by simp) _ | with_reducible refine bl_drew ?_ | with_reducible refine bl_drewN ?_ _ | with_reducible refine bl_trans ?_ (by assumption)))
  · have H := Lib.hid h
    have HM := Lib.hid (show mayM y m d s z o = mayC s z o by simp [mayM, h])
    clear h
    rw [HM.out]
    go_enter Try.func53, Try.ntmps53
    go_wp2_with fail
    refine (civil_may_is y m d _ H.out _).mono ?_
    rintro e w1 ⟨rfl, hb⟩
    obtain ⟨t0, t1, t2, t3, t4, t5, tl⟩ := keepc6 (b := w.heap.size) (c0 := .int .i64 y) (c1 := .int .i64 m) (c2 := .int .i64 d) (c3 := .int .i64 s) (c4 := .bool z) (c5 := .int .i64 o) hb (by simp [*]) (by simp [*]) (by simp [*]) (by simp [*]) (by simp [*]) (by simp [*])
    go_wp2_with fail
    refine (clock_may s z o _).mono ?_
    rintro e w2 ⟨rfl, hb2⟩
    go_wp2_with fail
    go_ret
    refine ⟨rfl, ?_⟩
    (repeat (first | with_reducible assumption | with_reducible exact bl_refl _ | with_reducible refine bl_alloc ?_ _ | with_reducible refine bl_set ?_ (by simp) _ | with_reducible refine bl_drew ?_ | with_reducible refine bl_drewN ?_ _ | with_reducible refine bl_trans ?_ (by assumption)))

theorem moment_instant_no (y m d s : Int) (z : Bool) (o : Int) (h : mayM y m d s z o = false) (w : World) :
    Calls Try.prog 51 #[.agg #[.int .i64 y, .int .i64 m, .int .i64 d, .int .i64 s, .bool z, .int .i64 o]] w fun e w' => e = .returned (.tuple #[.int .i64 0, .bool false]) ∧ Below w.heap.size w w' := by
  cases hd : Civ.may y m d
  · have H := Lib.hid hd
    clear hd h
    go_enter Try.func51, Try.ntmps51
    go_wp2_with fail
    refine (civil_number_no y m d H.out _).mono ?_
    rintro e w1 ⟨rfl, hb⟩
    go_wp2_with fail
    go_ret2
    refine ⟨rfl, ?_⟩
    (repeat (first | with_reducible assumption | with_reducible exact bl_refl _ | with_reducible refine bl_alloc ?_ _ | with_reducible refine bl_set ?_ (by simp) _ | with_reducible refine bl_drew ?_ | with_reducible refine bl_drewN ?_ _ | with_reducible refine bl_trans ?_ (by assumption)))
  · have H := Lib.hid hd
    have HC := Lib.hid (show mayC s z o = false by simpa [mayM, hd] using h)
    clear hd h
    go_enter Try.func51, Try.ntmps51
    go_wp2_with fail
    refine (civil_number_yes y m d H.out _).mono ?_
    rintro e w1 ⟨rfl, hb⟩
    obtain ⟨t0, t1, t2, t3, t4, t5, tl⟩ := keepc6 (b := w.heap.size) (c0 := .int .i64 y) (c1 := .int .i64 m) (c2 := .int .i64 d) (c3 := .int .i64 s) (c4 := .bool z) (c5 := .int .i64 o) hb (by simp [*]) (by simp [*]) (by simp [*]) (by simp [*]) (by simp [*]) (by simp [*])
    go_wp2_with fail
    refine (clock_may_is s z o _ HC.out _).mono ?_
    rintro e w2 ⟨rfl, hb2⟩
    go_wp2_with fail
    go_ret2
    refine ⟨rfl, ?_⟩
    (repeat (first | with_reducible assumption | with_reducible exact bl_refl _ | with_reducible refine bl_alloc ?_ _ | with_reducible refine bl_set ?_ (by simp) _ | with_reducible refine bl_drew ?_ | with_reducible refine bl_drewN ?_ _ | with_reducible refine bl_trans ?_ (by assumption)))

theorem moment_instant_yes (y m d s : Int) (z : Bool) (o : Int) (h : mayM y m d s z o = true) (w : World) :
    Calls Try.prog 51 #[.agg #[.int .i64 y, .int .i64 m, .int .i64 d, .int .i64 s, .bool z, .int .i64 o]] w fun e w' => e = .returned (.tuple #[.int .i64 (ins y m d s o), .bool true]) ∧ Below w.heap.size w w' := by
  have h1 : Civ.may y m d = true ∧ mayC s z o = true := by simpa [mayM] using h
  obtain ⟨hd, hc⟩ := h1
  obtain ⟨s1, s2, o1, o2, _⟩ := (mayC_iff s z o).1 hc
  obtain ⟨n1, n2⟩ := num_in y m d hd
  have HN := Lib.hid (civil_number_yes y m d hd)
  have HC := Lib.hid hc
  have HI := Lib.hid (show ins y m d s o = 86400 * Civ.num y m d + s - o from rfl)
  clear h hd hc
  generalize Civ.num y m d = n at *
  go_enter Try.func51, Try.ntmps51
  go_wp2_with fail
  refine (HN.out _).mono ?_
  rintro e w1 ⟨rfl, hb⟩
  obtain ⟨t0, t1, t2, t3, t4, t5, tl⟩ := keepc6 (b := w.heap.size) (c0 := .int .i64 y) (c1 := .int .i64 m) (c2 := .int .i64 d) (c3 := .int .i64 s) (c4 := .bool z) (c5 := .int .i64 o) hb (by simp [*]) (by simp [*]) (by simp [*]) (by simp [*]) (by simp [*]) (by simp [*])
  go_wp2_with fail
  refine (clock_may_is s z o _ HC.out _).mono ?_
  rintro e w2 ⟨rfl, hb2⟩
  obtain ⟨t0, t1, t2, t3, t4, t5, tl⟩ := keepc6 hb2 t0 t1 t2 t3 t4 t5
  go_wp2_with fail
  go_ret2
  refine ⟨retib ?_, ?_⟩
  · rw [HI.out]
  · (repeat (first | with_reducible assumption | with_reducible exact bl_refl _ | with_reducible refine bl_alloc ?_ _ | with_reducible refine bl_set ?_ (by simp) _ | with_reducible refine bl_drew ?_ | with_reducible refine bl_drewN ?_ _ | with_reducible refine bl_trans ?_ (by assumption)))

end Go.Proofs.Ytfoblnepbncieaa
