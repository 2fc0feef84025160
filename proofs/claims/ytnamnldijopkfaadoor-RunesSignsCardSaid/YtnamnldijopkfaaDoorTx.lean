/-
  The walk of RunesSigns: for every rune it returns true.
-/
import Derived.Test.YtnamnldijopkfaaDoorTw
namespace Go.Proofs.YtnamnldijopkfaaDoor
open Go.ChangeShapes Go.WideShapes Go.ChangeAt Go.RowKit Go.Joins

set_option maxHeartbeats 4000000 in
set_option maxRecDepth 100000 in
theorem signs_walk (r : Int) (w : World) (hE : Env w) : Calls Tryd.prog 4 #[.int .i32 r] w fun e w' => e = .returned (.bool true) ∧ Below w.heap.size w w' := by
  have HE := Lib.hid hE
  have LK := Lib.hid (letter_k r)
  have DK := Lib.hid (digit_k r)
  have SK := Lib.hid (space_k r)
  clear hE
  go_enter Tryd.func4, Tryd.ntmps4
  go_wp2_with fail
  refine (awake15 _ HE.out).mono ?_
  rintro e w1 ⟨rfl, hb⟩
  have hc : r ≤ 8 ∨ r = 9 ∨ r = 10 ∨ (11 ≤ r ∧ r ≤ 12) ∨ r = 13 ∨ (14 ≤ r ∧ r ≤ 31) ∨ r = 32 ∨ (33 ≤ r ∧ r ≤ 47) ∨ (48 ≤ r ∧ r ≤ 57) ∨ (58 ≤ r ∧ r ≤ 64) ∨ (65 ≤ r ∧ r ≤ 90) ∨ (91 ≤ r ∧ r ≤ 94) ∨ r = 95 ∨ r = 96 ∨ (97 ≤ r ∧ r ≤ 122) ∨ (123 ≤ r ∧ r ≤ 127) ∨ 128 ≤ r := by omega
  rcases hc with hc | hc | hc | hc | hc | hc | hc | hc | hc | hc | hc | hc | hc | hc | hc | hc | hc
  · have f0 : ¬ (97 : Int) ≤ r := by omega
    have f1 : ¬ (65 : Int) ≤ r := by omega
    have f2 : ¬ (128 : Int) ≤ r := by omega
    have f3 : ¬ (48 : Int) ≤ r := by omega
    have f4 : r ≤ (122 : Int) := by omega
    have f5 : r ≤ (90 : Int) := by omega
    have f6 : r ≤ (57 : Int) := by omega
    have g95 : (r == 95) = false := by rw [beq_eq_false_iff_ne]; omega
    have g32 : (r == 32) = false := by rw [beq_eq_false_iff_ne]; omega
    have g9 : (r == 9) = false := by rw [beq_eq_false_iff_ne]; omega
    have g10 : (r == 10) = false := by rw [beq_eq_false_iff_ne]; omega
    have g13 : (r == 13) = false := by rw [beq_eq_false_iff_ne]; omega
    rw [show letterB r = false from decide_eq_false (by omega)] at LK
    rw [show digitB r = false from decide_eq_false (by omega)] at DK
    rw [show spaceB r = false from decide_eq_false (by omega)] at SK
    clear hc
    go_wp2_with fail
    refine (LK.out _).mono ?_
    rintro e w2 ⟨rfl, rfl⟩
    go_wp2_with fail
    refine (DK.out _).mono ?_
    rintro e w2 ⟨rfl, rfl⟩
    go_wp2_with fail
    refine (SK.out _).mono ?_
    rintro e w2 ⟨rfl, rfl⟩
    go_wp2_with fail
    go_ret
    first
      | exact ⟨rfl, hb⟩
      | (refine ⟨ret_bool ?_, hb⟩; simp; omega)
      | (refine ⟨ret_bool ?_, hb⟩; simp [*]; done)
      | (refine ⟨ret_bool ?_, hb⟩; simp [*]; omega)
  · subst hc
    rw [show letterB 9 = false by decide] at LK
    rw [show digitB 9 = false by decide] at DK
    rw [show spaceB 9 = true by decide] at SK
    go_wp2_with fail
    refine (LK.out _).mono ?_
    rintro e w2 ⟨rfl, rfl⟩
    go_wp2_with fail
    refine (DK.out _).mono ?_
    rintro e w2 ⟨rfl, rfl⟩
    go_wp2_with fail
    refine (SK.out _).mono ?_
    rintro e w2 ⟨rfl, rfl⟩
    go_wp2_with fail
    go_ret
    first
      | exact ⟨rfl, hb⟩
      | (refine ⟨ret_bool ?_, hb⟩; simp; omega)
      | (refine ⟨ret_bool ?_, hb⟩; simp [*]; done)
      | (refine ⟨ret_bool ?_, hb⟩; simp [*]; omega)
  · subst hc
    rw [show letterB 10 = false by decide] at LK
    rw [show digitB 10 = false by decide] at DK
    rw [show spaceB 10 = true by decide] at SK
    go_wp2_with fail
    refine (LK.out _).mono ?_
    rintro e w2 ⟨rfl, rfl⟩
    go_wp2_with fail
    refine (DK.out _).mono ?_
    rintro e w2 ⟨rfl, rfl⟩
    go_wp2_with fail
    refine (SK.out _).mono ?_
    rintro e w2 ⟨rfl, rfl⟩
    go_wp2_with fail
    go_ret
    first
      | exact ⟨rfl, hb⟩
      | (refine ⟨ret_bool ?_, hb⟩; simp; omega)
      | (refine ⟨ret_bool ?_, hb⟩; simp [*]; done)
      | (refine ⟨ret_bool ?_, hb⟩; simp [*]; omega)
  · have f0 : ¬ (97 : Int) ≤ r := by omega
    have f1 : ¬ (65 : Int) ≤ r := by omega
    have f2 : ¬ (128 : Int) ≤ r := by omega
    have f3 : ¬ (48 : Int) ≤ r := by omega
    have f4 : r ≤ (122 : Int) := by omega
    have f5 : r ≤ (90 : Int) := by omega
    have f6 : r ≤ (57 : Int) := by omega
    have g95 : (r == 95) = false := by rw [beq_eq_false_iff_ne]; omega
    have g32 : (r == 32) = false := by rw [beq_eq_false_iff_ne]; omega
    have g9 : (r == 9) = false := by rw [beq_eq_false_iff_ne]; omega
    have g10 : (r == 10) = false := by rw [beq_eq_false_iff_ne]; omega
    have g13 : (r == 13) = false := by rw [beq_eq_false_iff_ne]; omega
    rw [show letterB r = false from decide_eq_false (by omega)] at LK
    rw [show digitB r = false from decide_eq_false (by omega)] at DK
    rw [show spaceB r = false from decide_eq_false (by omega)] at SK
    clear hc
    go_wp2_with fail
    refine (LK.out _).mono ?_
    rintro e w2 ⟨rfl, rfl⟩
    go_wp2_with fail
    refine (DK.out _).mono ?_
    rintro e w2 ⟨rfl, rfl⟩
    go_wp2_with fail
    refine (SK.out _).mono ?_
    rintro e w2 ⟨rfl, rfl⟩
    go_wp2_with fail
    go_ret
    first
      | exact ⟨rfl, hb⟩
      | (refine ⟨ret_bool ?_, hb⟩; simp; omega)
      | (refine ⟨ret_bool ?_, hb⟩; simp [*]; done)
      | (refine ⟨ret_bool ?_, hb⟩; simp [*]; omega)
  · subst hc
    rw [show letterB 13 = false by decide] at LK
    rw [show digitB 13 = false by decide] at DK
    rw [show spaceB 13 = true by decide] at SK
    go_wp2_with fail
    refine (LK.out _).mono ?_
    rintro e w2 ⟨rfl, rfl⟩
    go_wp2_with fail
    refine (DK.out _).mono ?_
    rintro e w2 ⟨rfl, rfl⟩
    go_wp2_with fail
    refine (SK.out _).mono ?_
    rintro e w2 ⟨rfl, rfl⟩
    go_wp2_with fail
    go_ret
    first
      | exact ⟨rfl, hb⟩
      | (refine ⟨ret_bool ?_, hb⟩; simp; omega)
      | (refine ⟨ret_bool ?_, hb⟩; simp [*]; done)
      | (refine ⟨ret_bool ?_, hb⟩; simp [*]; omega)
  · have f0 : ¬ (97 : Int) ≤ r := by omega
    have f1 : ¬ (65 : Int) ≤ r := by omega
    have f2 : ¬ (128 : Int) ≤ r := by omega
    have f3 : ¬ (48 : Int) ≤ r := by omega
    have f4 : r ≤ (122 : Int) := by omega
    have f5 : r ≤ (90 : Int) := by omega
    have f6 : r ≤ (57 : Int) := by omega
    have g95 : (r == 95) = false := by rw [beq_eq_false_iff_ne]; omega
    have g32 : (r == 32) = false := by rw [beq_eq_false_iff_ne]; omega
    have g9 : (r == 9) = false := by rw [beq_eq_false_iff_ne]; omega
    have g10 : (r == 10) = false := by rw [beq_eq_false_iff_ne]; omega
    have g13 : (r == 13) = false := by rw [beq_eq_false_iff_ne]; omega
    rw [show letterB r = false from decide_eq_false (by omega)] at LK
    rw [show digitB r = false from decide_eq_false (by omega)] at DK
    rw [show spaceB r = false from decide_eq_false (by omega)] at SK
    clear hc
    go_wp2_with fail
    refine (LK.out _).mono ?_
    rintro e w2 ⟨rfl, rfl⟩
    go_wp2_with fail
    refine (DK.out _).mono ?_
    rintro e w2 ⟨rfl, rfl⟩
    go_wp2_with fail
    refine (SK.out _).mono ?_
    rintro e w2 ⟨rfl, rfl⟩
    go_wp2_with fail
    go_ret
    first
      | exact ⟨rfl, hb⟩
      | (refine ⟨ret_bool ?_, hb⟩; simp; omega)
      | (refine ⟨ret_bool ?_, hb⟩; simp [*]; done)
      | (refine ⟨ret_bool ?_, hb⟩; simp [*]; omega)
  · subst hc
    rw [show letterB 32 = false by decide] at LK
    rw [show digitB 32 = false by decide] at DK
    rw [show spaceB 32 = true by decide] at SK
    go_wp2_with fail
    refine (LK.out _).mono ?_
    rintro e w2 ⟨rfl, rfl⟩
    go_wp2_with fail
    refine (DK.out _).mono ?_
    rintro e w2 ⟨rfl, rfl⟩
    go_wp2_with fail
    refine (SK.out _).mono ?_
    rintro e w2 ⟨rfl, rfl⟩
    go_wp2_with fail
    go_ret
    first
      | exact ⟨rfl, hb⟩
      | (refine ⟨ret_bool ?_, hb⟩; simp; omega)
      | (refine ⟨ret_bool ?_, hb⟩; simp [*]; done)
      | (refine ⟨ret_bool ?_, hb⟩; simp [*]; omega)
  · have f0 : ¬ (97 : Int) ≤ r := by omega
    have f1 : ¬ (65 : Int) ≤ r := by omega
    have f2 : ¬ (128 : Int) ≤ r := by omega
    have f3 : ¬ (48 : Int) ≤ r := by omega
    have f4 : r ≤ (122 : Int) := by omega
    have f5 : r ≤ (90 : Int) := by omega
    have f6 : r ≤ (57 : Int) := by omega
    have g95 : (r == 95) = false := by rw [beq_eq_false_iff_ne]; omega
    have g32 : (r == 32) = false := by rw [beq_eq_false_iff_ne]; omega
    have g9 : (r == 9) = false := by rw [beq_eq_false_iff_ne]; omega
    have g10 : (r == 10) = false := by rw [beq_eq_false_iff_ne]; omega
    have g13 : (r == 13) = false := by rw [beq_eq_false_iff_ne]; omega
    rw [show letterB r = false from decide_eq_false (by omega)] at LK
    rw [show digitB r = false from decide_eq_false (by omega)] at DK
    rw [show spaceB r = false from decide_eq_false (by omega)] at SK
    clear hc
    go_wp2_with fail
    refine (LK.out _).mono ?_
    rintro e w2 ⟨rfl, rfl⟩
    go_wp2_with fail
    refine (DK.out _).mono ?_
    rintro e w2 ⟨rfl, rfl⟩
    go_wp2_with fail
    refine (SK.out _).mono ?_
    rintro e w2 ⟨rfl, rfl⟩
    go_wp2_with fail
    go_ret
    first
      | exact ⟨rfl, hb⟩
      | (refine ⟨ret_bool ?_, hb⟩; simp; omega)
      | (refine ⟨ret_bool ?_, hb⟩; simp [*]; done)
      | (refine ⟨ret_bool ?_, hb⟩; simp [*]; omega)
  · have f0 : ¬ (97 : Int) ≤ r := by omega
    have f1 : ¬ (65 : Int) ≤ r := by omega
    have f2 : ¬ (128 : Int) ≤ r := by omega
    have f3 : (48 : Int) ≤ r := by omega
    have f4 : r ≤ (122 : Int) := by omega
    have f5 : r ≤ (90 : Int) := by omega
    have f6 : r ≤ (57 : Int) := by omega
    have g95 : (r == 95) = false := by rw [beq_eq_false_iff_ne]; omega
    have g32 : (r == 32) = false := by rw [beq_eq_false_iff_ne]; omega
    have g9 : (r == 9) = false := by rw [beq_eq_false_iff_ne]; omega
    have g10 : (r == 10) = false := by rw [beq_eq_false_iff_ne]; omega
    have g13 : (r == 13) = false := by rw [beq_eq_false_iff_ne]; omega
    rw [show letterB r = false from decide_eq_false (by omega)] at LK
    rw [show digitB r = true from decide_eq_true (by omega)] at DK
    rw [show spaceB r = false from decide_eq_false (by omega)] at SK
    clear hc
    go_wp2_with fail
    refine (LK.out _).mono ?_
    rintro e w2 ⟨rfl, rfl⟩
    go_wp2_with fail
    refine (DK.out _).mono ?_
    rintro e w2 ⟨rfl, rfl⟩
    go_wp2_with fail
    refine (SK.out _).mono ?_
    rintro e w2 ⟨rfl, rfl⟩
    go_wp2_with fail
    go_ret
    first
      | exact ⟨rfl, hb⟩
      | (refine ⟨ret_bool ?_, hb⟩; simp; omega)
      | (refine ⟨ret_bool ?_, hb⟩; simp [*]; done)
      | (refine ⟨ret_bool ?_, hb⟩; simp [*]; omega)
  · have f0 : ¬ (97 : Int) ≤ r := by omega
    have f1 : ¬ (65 : Int) ≤ r := by omega
    have f2 : ¬ (128 : Int) ≤ r := by omega
    have f3 : (48 : Int) ≤ r := by omega
    have f4 : r ≤ (122 : Int) := by omega
    have f5 : r ≤ (90 : Int) := by omega
    have f6 : ¬ r ≤ (57 : Int) := by omega
    have g95 : (r == 95) = false := by rw [beq_eq_false_iff_ne]; omega
    have g32 : (r == 32) = false := by rw [beq_eq_false_iff_ne]; omega
    have g9 : (r == 9) = false := by rw [beq_eq_false_iff_ne]; omega
    have g10 : (r == 10) = false := by rw [beq_eq_false_iff_ne]; omega
    have g13 : (r == 13) = false := by rw [beq_eq_false_iff_ne]; omega
    rw [show letterB r = false from decide_eq_false (by omega)] at LK
    rw [show digitB r = false from decide_eq_false (by omega)] at DK
    rw [show spaceB r = false from decide_eq_false (by omega)] at SK
    clear hc
    go_wp2_with fail
    refine (LK.out _).mono ?_
    rintro e w2 ⟨rfl, rfl⟩
    go_wp2_with fail
    refine (DK.out _).mono ?_
    rintro e w2 ⟨rfl, rfl⟩
    go_wp2_with fail
    refine (SK.out _).mono ?_
    rintro e w2 ⟨rfl, rfl⟩
    go_wp2_with fail
    go_ret
    first
      | exact ⟨rfl, hb⟩
      | (refine ⟨ret_bool ?_, hb⟩; simp; omega)
      | (refine ⟨ret_bool ?_, hb⟩; simp [*]; done)
      | (refine ⟨ret_bool ?_, hb⟩; simp [*]; omega)
  · have f0 : ¬ (97 : Int) ≤ r := by omega
    have f1 : (65 : Int) ≤ r := by omega
    have f2 : ¬ (128 : Int) ≤ r := by omega
    have f3 : (48 : Int) ≤ r := by omega
    have f4 : r ≤ (122 : Int) := by omega
    have f5 : r ≤ (90 : Int) := by omega
    have f6 : ¬ r ≤ (57 : Int) := by omega
    have g95 : (r == 95) = false := by rw [beq_eq_false_iff_ne]; omega
    have g32 : (r == 32) = false := by rw [beq_eq_false_iff_ne]; omega
    have g9 : (r == 9) = false := by rw [beq_eq_false_iff_ne]; omega
    have g10 : (r == 10) = false := by rw [beq_eq_false_iff_ne]; omega
    have g13 : (r == 13) = false := by rw [beq_eq_false_iff_ne]; omega
    rw [show letterB r = true from decide_eq_true (by omega)] at LK
    rw [show digitB r = false from decide_eq_false (by omega)] at DK
    rw [show spaceB r = false from decide_eq_false (by omega)] at SK
    clear hc
    go_wp2_with fail
    refine (LK.out _).mono ?_
    rintro e w2 ⟨rfl, rfl⟩
    go_wp2_with fail
    refine (DK.out _).mono ?_
    rintro e w2 ⟨rfl, rfl⟩
    go_wp2_with fail
    refine (SK.out _).mono ?_
    rintro e w2 ⟨rfl, rfl⟩
    go_wp2_with fail
    go_ret
    first
      | exact ⟨rfl, hb⟩
      | (refine ⟨ret_bool ?_, hb⟩; simp; omega)
      | (refine ⟨ret_bool ?_, hb⟩; simp [*]; done)
      | (refine ⟨ret_bool ?_, hb⟩; simp [*]; omega)
  · have f0 : ¬ (97 : Int) ≤ r := by omega
    have f1 : (65 : Int) ≤ r := by omega
    have f2 : ¬ (128 : Int) ≤ r := by omega
    have f3 : (48 : Int) ≤ r := by omega
    have f4 : r ≤ (122 : Int) := by omega
    have f5 : ¬ r ≤ (90 : Int) := by omega
    have f6 : ¬ r ≤ (57 : Int) := by omega
    have g95 : (r == 95) = false := by rw [beq_eq_false_iff_ne]; omega
    have g32 : (r == 32) = false := by rw [beq_eq_false_iff_ne]; omega
    have g9 : (r == 9) = false := by rw [beq_eq_false_iff_ne]; omega
    have g10 : (r == 10) = false := by rw [beq_eq_false_iff_ne]; omega
    have g13 : (r == 13) = false := by rw [beq_eq_false_iff_ne]; omega
    rw [show letterB r = false from decide_eq_false (by omega)] at LK
    rw [show digitB r = false from decide_eq_false (by omega)] at DK
    rw [show spaceB r = false from decide_eq_false (by omega)] at SK
    clear hc
    go_wp2_with fail
    refine (LK.out _).mono ?_
    rintro e w2 ⟨rfl, rfl⟩
    go_wp2_with fail
    refine (DK.out _).mono ?_
    rintro e w2 ⟨rfl, rfl⟩
    go_wp2_with fail
    refine (SK.out _).mono ?_
    rintro e w2 ⟨rfl, rfl⟩
    go_wp2_with fail
    go_ret
    first
      | exact ⟨rfl, hb⟩
      | (refine ⟨ret_bool ?_, hb⟩; simp; omega)
      | (refine ⟨ret_bool ?_, hb⟩; simp [*]; done)
      | (refine ⟨ret_bool ?_, hb⟩; simp [*]; omega)
  · subst hc
    rw [show letterB 95 = true by decide] at LK
    rw [show digitB 95 = false by decide] at DK
    rw [show spaceB 95 = false by decide] at SK
    go_wp2_with fail
    refine (LK.out _).mono ?_
    rintro e w2 ⟨rfl, rfl⟩
    go_wp2_with fail
    refine (DK.out _).mono ?_
    rintro e w2 ⟨rfl, rfl⟩
    go_wp2_with fail
    refine (SK.out _).mono ?_
    rintro e w2 ⟨rfl, rfl⟩
    go_wp2_with fail
    go_ret
    first
      | exact ⟨rfl, hb⟩
      | (refine ⟨ret_bool ?_, hb⟩; simp; omega)
      | (refine ⟨ret_bool ?_, hb⟩; simp [*]; done)
      | (refine ⟨ret_bool ?_, hb⟩; simp [*]; omega)
  · subst hc
    rw [show letterB 96 = false by decide] at LK
    rw [show digitB 96 = false by decide] at DK
    rw [show spaceB 96 = false by decide] at SK
    go_wp2_with fail
    refine (LK.out _).mono ?_
    rintro e w2 ⟨rfl, rfl⟩
    go_wp2_with fail
    refine (DK.out _).mono ?_
    rintro e w2 ⟨rfl, rfl⟩
    go_wp2_with fail
    refine (SK.out _).mono ?_
    rintro e w2 ⟨rfl, rfl⟩
    go_wp2_with fail
    go_ret
    first
      | exact ⟨rfl, hb⟩
      | (refine ⟨ret_bool ?_, hb⟩; simp; omega)
      | (refine ⟨ret_bool ?_, hb⟩; simp [*]; done)
      | (refine ⟨ret_bool ?_, hb⟩; simp [*]; omega)
  · have f0 : (97 : Int) ≤ r := by omega
    have f1 : (65 : Int) ≤ r := by omega
    have f2 : ¬ (128 : Int) ≤ r := by omega
    have f3 : (48 : Int) ≤ r := by omega
    have f4 : r ≤ (122 : Int) := by omega
    have f5 : ¬ r ≤ (90 : Int) := by omega
    have f6 : ¬ r ≤ (57 : Int) := by omega
    have g95 : (r == 95) = false := by rw [beq_eq_false_iff_ne]; omega
    have g32 : (r == 32) = false := by rw [beq_eq_false_iff_ne]; omega
    have g9 : (r == 9) = false := by rw [beq_eq_false_iff_ne]; omega
    have g10 : (r == 10) = false := by rw [beq_eq_false_iff_ne]; omega
    have g13 : (r == 13) = false := by rw [beq_eq_false_iff_ne]; omega
    rw [show letterB r = true from decide_eq_true (by omega)] at LK
    rw [show digitB r = false from decide_eq_false (by omega)] at DK
    rw [show spaceB r = false from decide_eq_false (by omega)] at SK
    clear hc
    go_wp2_with fail
    refine (LK.out _).mono ?_
    rintro e w2 ⟨rfl, rfl⟩
    go_wp2_with fail
    refine (DK.out _).mono ?_
    rintro e w2 ⟨rfl, rfl⟩
    go_wp2_with fail
    refine (SK.out _).mono ?_
    rintro e w2 ⟨rfl, rfl⟩
    go_wp2_with fail
    go_ret
    first
      | exact ⟨rfl, hb⟩
      | (refine ⟨ret_bool ?_, hb⟩; simp; omega)
      | (refine ⟨ret_bool ?_, hb⟩; simp [*]; done)
      | (refine ⟨ret_bool ?_, hb⟩; simp [*]; omega)
  · have f0 : (97 : Int) ≤ r := by omega
    have f1 : (65 : Int) ≤ r := by omega
    have f2 : ¬ (128 : Int) ≤ r := by omega
    have f3 : (48 : Int) ≤ r := by omega
    have f4 : ¬ r ≤ (122 : Int) := by omega
    have f5 : ¬ r ≤ (90 : Int) := by omega
    have f6 : ¬ r ≤ (57 : Int) := by omega
    have g95 : (r == 95) = false := by rw [beq_eq_false_iff_ne]; omega
    have g32 : (r == 32) = false := by rw [beq_eq_false_iff_ne]; omega
    have g9 : (r == 9) = false := by rw [beq_eq_false_iff_ne]; omega
    have g10 : (r == 10) = false := by rw [beq_eq_false_iff_ne]; omega
    have g13 : (r == 13) = false := by rw [beq_eq_false_iff_ne]; omega
    rw [show letterB r = false from decide_eq_false (by omega)] at LK
    rw [show digitB r = false from decide_eq_false (by omega)] at DK
    rw [show spaceB r = false from decide_eq_false (by omega)] at SK
    clear hc
    go_wp2_with fail
    refine (LK.out _).mono ?_
    rintro e w2 ⟨rfl, rfl⟩
    go_wp2_with fail
    refine (DK.out _).mono ?_
    rintro e w2 ⟨rfl, rfl⟩
    go_wp2_with fail
    refine (SK.out _).mono ?_
    rintro e w2 ⟨rfl, rfl⟩
    go_wp2_with fail
    go_ret
    first
      | exact ⟨rfl, hb⟩
      | (refine ⟨ret_bool ?_, hb⟩; simp; omega)
      | (refine ⟨ret_bool ?_, hb⟩; simp [*]; done)
      | (refine ⟨ret_bool ?_, hb⟩; simp [*]; omega)
  · have f0 : (97 : Int) ≤ r := by omega
    have f1 : (65 : Int) ≤ r := by omega
    have f2 : (128 : Int) ≤ r := by omega
    have f3 : (48 : Int) ≤ r := by omega
    have f4 : ¬ r ≤ (122 : Int) := by omega
    have f5 : ¬ r ≤ (90 : Int) := by omega
    have f6 : ¬ r ≤ (57 : Int) := by omega
    have g95 : (r == 95) = false := by rw [beq_eq_false_iff_ne]; omega
    have g32 : (r == 32) = false := by rw [beq_eq_false_iff_ne]; omega
    have g9 : (r == 9) = false := by rw [beq_eq_false_iff_ne]; omega
    have g10 : (r == 10) = false := by rw [beq_eq_false_iff_ne]; omega
    have g13 : (r == 13) = false := by rw [beq_eq_false_iff_ne]; omega
    rw [show letterB r = true from decide_eq_true (by omega)] at LK
    rw [show digitB r = false from decide_eq_false (by omega)] at DK
    rw [show spaceB r = false from decide_eq_false (by omega)] at SK
    clear hc
    go_wp2_with fail
    refine (LK.out _).mono ?_
    rintro e w2 ⟨rfl, rfl⟩
    go_wp2_with fail
    refine (DK.out _).mono ?_
    rintro e w2 ⟨rfl, rfl⟩
    go_wp2_with fail
    refine (SK.out _).mono ?_
    rintro e w2 ⟨rfl, rfl⟩
    go_wp2_with fail
    go_ret
    first
      | exact ⟨rfl, hb⟩
      | (refine ⟨ret_bool ?_, hb⟩; simp; omega)
      | (refine ⟨ret_bool ?_, hb⟩; simp [*]; done)
      | (refine ⟨ret_bool ?_, hb⟩; simp [*]; omega)

end Go.Proofs.YtnamnldijopkfaaDoor
