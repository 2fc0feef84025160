/-
  The document's examples of chapter 15: the law's awake.
-/
import Derived.Test.YtnamnldijopkfaaDoorTm
namespace Go.Proofs.YtnamnldijopkfaaDoor
open Go.ChangeShapes Go.WideShapes Go.ChangeAt Go.RowKit Go.Joins

theorem before_ex (w : World) (hE : Env w) : Calls Tryd.prog 57 #[.string ⟨#[97, 98, 99]⟩, .string ⟨#[]⟩] w fun e w' => e = .returned (.string ⟨#[]⟩) ∧ Below w.heap.size w w' := by
  obtain ⟨_, m, hm⟩ := hE
  have CU := Lib.hid (Tryd.strings_Cut ⟨#[97, 98, 99]⟩ ⟨#[]⟩ m w (by decide) hm)
  rw [show (Lib.cut (ByteArray.mk #[97, 98, 99]).data.toList (ByteArray.mk #[]).data.toList) = ([], [97, 98, 99], true) by decide +kernel] at CU
  go_enter Tryd.func57, Tryd.ntmps57
  go_wp2_with fail
  refine (CU.out).mono ?_
  rintro e w2 ⟨rfl, n, rfl⟩
  go_wp2_with fail
  go_ret
  exact ⟨rfl, bl_drewN (bl_refl _) _⟩

theorem after_ex (w : World) (hE : Env w) : Calls Tryd.prog 58 #[.string ⟨#[97, 98, 99]⟩, .string ⟨#[]⟩] w fun e w' => e = .returned (.string ⟨#[97, 98, 99]⟩) ∧ Below w.heap.size w w' := by
  obtain ⟨_, m, hm⟩ := hE
  have CU := Lib.hid (Tryd.strings_Cut ⟨#[97, 98, 99]⟩ ⟨#[]⟩ m w (by decide) hm)
  rw [show (Lib.cut (ByteArray.mk #[97, 98, 99]).data.toList (ByteArray.mk #[]).data.toList) = ([], [97, 98, 99], true) by decide +kernel] at CU
  go_enter Tryd.func58, Tryd.ntmps58
  go_wp2_with fail
  refine (CU.out).mono ?_
  rintro e w2 ⟨rfl, n, rfl⟩
  go_wp2_with fail
  go_ret
  exact ⟨rfl, bl_drewN (bl_refl _) _⟩

theorem split_ex (w : World) (hE : Env w) : Calls Tryd.prog 56 #[.string ⟨#[97, 44, 44, 98]⟩, .string ⟨#[44]⟩] w fun e w' =>
    e = .returned (.slice (some ⟨w.heap.size, 0, none⟩) 3 3) ∧ w'.cell? ⟨w.heap.size, 1, none⟩ = some (.string ⟨#[]⟩) ∧ Below w.heap.size w w' := by
  obtain ⟨_, m, hm⟩ := hE
  have SP := Lib.hid (Tryd.strings_Split ⟨#[97, 44, 44, 98]⟩ ⟨#[44]⟩ m w (by decide) hm (by decide))
  rw [show Lib.countB ⟨#[97, 44, 44, 98]⟩ ⟨#[44]⟩ = 2 by decide +kernel, show Lib.splitB ⟨#[44]⟩ 0 2 ⟨#[97, 44, 44, 98]⟩ = [⟨#[97]⟩, ⟨#[]⟩, ⟨#[98]⟩] by decide +kernel] at SP
  go_enter Tryd.func56, Tryd.ntmps56
  go_wp2_with fail
  refine (SP.out).mono ?_
  rintro e w2 ⟨rfl, rfl⟩
  go_wp2_with fail
  go_ret
  exact ⟨rfl, by simp, bl_alloc (bl_refl _) _⟩

theorem sub_ex1 (w : World) : Calls Tryd.prog 19 #[.string ⟨#[102, 111, 111, 98, 97, 114]⟩, .int .i64 3, .int .i64 (-1)] w fun e w' => e = .returned (.tuple #[.string ⟨#[111, 98, 97, 114]⟩, .bool true]) ∧ Below w.heap.size w w' := by
  have h := sub_yes [102, 111, 111, 98, 97, 114] 3 (-1) 2 w (by decide) (by omega) (.inr ⟨by omega, by decide +kernel, by omega⟩)
  rw [show subT [102, 111, 111, 98, 97, 114] 2 (-1) = [111, 98, 97, 114] by decide +kernel] at h
  exact h
theorem sub_ex2 (w : World) : Calls Tryd.prog 19 #[.string ⟨#[102, 111, 111, 98, 97, 114]⟩, .int .i64 (-2), .int .i64 1] w fun e w' => e = .returned (.tuple #[.string ⟨#[97]⟩, .bool true]) ∧ Below w.heap.size w w' := by
  have h := sub_yes [102, 111, 111, 98, 97, 114] (-2) 1 4 w (by decide) (by omega) (.inl ⟨by omega, by decide +kernel, by decide +kernel⟩)
  rw [show subT [102, 111, 111, 98, 97, 114] 4 1 = [97] by decide +kernel] at h
  exact h
theorem sub_ex3 (w : World) : Calls Tryd.prog 19 #[.string ⟨#[97]⟩, .int .i64 0, .int .i64 1] w fun e w' => e = .returned (.tuple #[.string ⟨#[]⟩, .bool false]) ∧ Below w.heap.size w w' :=
  sub_no [97] 0 1 w (by decide) (by omega) (by omega)
theorem upper_ex (w : World) : Calls Tryd.prog 23 #[.string ⟨#[97, 195, 169]⟩] w fun e w' => e = .returned (.string ⟨#[65, 195, 169]⟩) ∧ Below w.heap.size w w' := by
  have h := upper_k [97, 195, 169] w (by decide)
  rw [show encL ((rns [97, 195, 169]).map upR) = [65, 195, 169] by decide +kernel] at h
  exact h

set_option maxHeartbeats 2000000 in
set_option maxRecDepth 100000 in
theorem awake15 (w : World) (hE : Env w) : Calls Tryd.prog 16 #[] w fun e w' => e = .returned (.bool true) ∧ Below w.heap.size w w' := by
  have HE := Lib.hid hE
  clear hE
  go_enter Tryd.func16, Tryd.ntmps16
  go_wp2_with fail
  refine (sub_ex1 _).mono ?_
  rintro e w1 ⟨rfl, hb1⟩
  go_wp2_with fail
  refine (sub_ex2 _).mono ?_
  rintro e w2 ⟨rfl, hb2⟩
  go_wp2_with fail
  refine (sub_ex3 _).mono ?_
  rintro e w3 ⟨rfl, hb3⟩
  have hb3 := bl_trans hb1 (bl_trans hb2 hb3)
  go_wp2_with fail
  refine (split_ex _ (HE.out.keep (kept_below hb3))).mono ?_
  rintro e w4 ⟨rfl, c1, hb4⟩
  have hb4 := bl_trans hb3 hb4
  have E4 := Lib.hid (HE.out.keep (kept_below hb4))
  go_wp2_with fail
  refine (upper_ex _).mono ?_
  rintro e w5 ⟨rfl, hb⟩
  have c1 := below_keeps hb _ _ _ c1
  have E5 := Lib.hid (E4.out.keep (kept_below hb))
  have hb5 := bl_trans hb4 hb
  clear hb
  go_wp2_with fail
  refine (before_ex _ E5.out).mono ?_
  rintro e w6 ⟨rfl, hb⟩
  have E6 := Lib.hid (E5.out.keep (kept_below hb))
  have hb6 := bl_trans hb5 hb
  clear hb
  go_wp2_with fail
  refine (after_ex _ E6.out).mono ?_
  rintro e w7 ⟨rfl, hb⟩
  have hb7 := bl_trans hb6 hb
  clear hb
  go_wp2_with fail
  go_ret
  exact ⟨rfl, hb7⟩

end Go.Proofs.YtnamnldijopkfaaDoor
