/-
  The stage's own examples and its laws: for every input they return true.
-/
import Derived.Test.YtfoblnepbncieaaClock
namespace Go.Proofs.Ytfoblnepbncieaa
open Go.ChangeShapes Go.WideShapes Go.ChangeAt Go.RowKit

theorem law07_awake (w : World) : Calls Try.prog 18 #[] w fun e w' => e = .returned (.bool true) ∧ Below w.heap.size w w' := by
  go_enter Try.func18, Try.ntmps18
  go_wp2_with fail
  refine (clock_of 23 59 59 _).mono ?_
  rintro e w1 ⟨rfl, hb1⟩
  go_wp2_with fail
  refine (clock_later_yes 86399 false 0 2 _ (by decide) (by decide) (by decide)).mono ?_
  rintro e w2 ⟨rfl, hb2⟩
  obtain ⟨ka, fa, _⟩ := keep1 (b := w1.heap.size) (o := 0) (v := .int .i64 86399) hb2 (by simp) (by simp)
  go_wp2_with fail
  refine (clock_later_yes 0 false 0 (-1) _ (by decide) (by decide) (by decide)).mono ?_
  rintro e w3 ⟨rfl, hb3⟩
  have g3 : Below w2.heap.size w2 w3 := by (repeat (first | with_reducible assumption | with_reducible exact bl_refl _ | with_reducible refine bl_alloc ?_ _ | with_reducible refine bl_set ?_ (by simp) _ | with_reducible refine bl_drew ?_ | with_reducible refine bl_drewN ?_ _ | with_reducible refine bl_trans ?_ (by assumption)))
  obtain ⟨ka3, fa3, _⟩ := keep1 g3 ka fa
  obtain ⟨kb3, fb3, _⟩ := keep1 (b := w2.heap.size) (o := 0) (v := .int .i64 1) hb3 (by simp) (by simp)
  clear ka fa
  go_wp2_with fail
  refine (clock_between_yes 36000 true 3600 32400 0 _ (by decide) (by decide) (by decide) (by decide)).mono ?_
  rintro e w4 ⟨rfl, hb4⟩
  have g4 : Below w3.heap.size w3 w4 := by (repeat (first | with_reducible assumption | with_reducible exact bl_refl _ | with_reducible refine bl_alloc ?_ _ | with_reducible refine bl_set ?_ (by simp) _ | with_reducible refine bl_drew ?_ | with_reducible refine bl_drewN ?_ _ | with_reducible refine bl_trans ?_ (by assumption)))
  obtain ⟨ka4, fa4, _⟩ := keep1 g4 ka3 fa3
  obtain ⟨kb4, fb4, _⟩ := keep1 g4 kb3 fb3
  obtain ⟨kc4, fc4, _⟩ := keep1 (b := w3.heap.size) (o := 0) (v := .int .i64 86399) hb4 (by simp) (by simp)
  clear ka3 fa3 kb3 fb3
  go_wp2_with fail
  go_ret
  refine ⟨rfl, ?_⟩
  (repeat (first | with_reducible assumption | with_reducible exact bl_refl _ | with_reducible refine bl_alloc ?_ _ | with_reducible refine bl_set ?_ (by simp) _ | with_reducible refine bl_drew ?_ | with_reducible refine bl_drewN ?_ _ | with_reducible refine bl_trans ?_ (by assumption)))

end Go.Proofs.Ytfoblnepbncieaa
