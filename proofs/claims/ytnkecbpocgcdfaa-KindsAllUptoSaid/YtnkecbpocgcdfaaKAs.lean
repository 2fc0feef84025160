/-
  KindsAll's second form: where what it reads is of bulk at most 1048576 it returns true.
-/
import Derived.Test.YtnkecbpocgcdfaaKAw
namespace Go.Proofs.Ytnkecbpocgcdfaa
open Go.ChangeShapes Go.WideShapes Go.ChangeAt Go.RowKit Go.Joins

theorem all_walk_bk (Ts : List Ty) (v : Value) (w : World) (hT : IsTy w (.mk 0 Ts []) v (.slice none 0 0)) (h : bkL Ts ≤ 1048576) :
    Calls Try.prog 7 #[v] w fun e w' => e = .returned (.bool true) ∧ Below w.heap.size w w' :=
  all_walk Ts v w hT (fun t ht => by
    obtain ⟨j, hj, rfl⟩ := List.getElem_of_mem ht
    exact small_of_bk _ (Nat.le_trans (bkL_mem Ts j hj) h))

set_option maxRecDepth 100000 in
theorem kindsAll_lifted (os : Os) (started : os.Started) (H : Type) (enc : TypeId × Value → H) (FI : Stop.Interp) :
    ReturnsInHanded {} Try.checked os 7 .any ((Rows.OpenSpec.upto Rows.kindsAllSpec).pre6 enc Try.prog Try.f7 Rows.kindsAllUptoRow.domain false) (((Rows.OpenSpec.upto Rows.kindsAllSpec).at FI).post enc Try.prog Try.f7 false true false false) := by
  refine returnsInHanded_of_cond (C := Try.checked) (s := Rows.OpenSpec.upto Rows.kindsAllSpec) (k := Rows.uptoSmall) rfl Try.own started (by kernel_rfl) Try.func7
    (OpenSpec.witness (enc := enc) (C := Try.checked) (s := Rows.OpenSpec.upto Rows.kindsAllSpec) (k := Rows.uptoSmall) rfl false ⟨#[], #[.slice none 0 0], []⟩ 8 (by kernel_rfl) (by kernel_rfl) (by kernel_rfl)
      (x := ([.nil], [], [])) (by kernel_rfl) rfl (by kernel_rfl)) ?_
  intro W base args ds gs before hval0 hW _ hk _
  have hval : ∀ (j : Nat) t v, Try.f7.params[j]? = some t → args[j]? = some v → Value.okWide Try.prog W .any base t v := hval0
  have hW' := hW
  obtain ⟨p, q, hA0, hV, rfl, hfz, hnd⟩ := hW
  have hA : DataW.TrodAll enc Try.prog W 0 (fun _ => true) true Try.f7.params.toList args.toList ds p := hA0
  rw [Try.params7] at hA hval
  obtain ⟨v0, vs0, d0, ds0, p0, q0, hargs, rfl, rfl, h0, r0⟩ := trodAll_cons hA
  obtain ⟨rfl, rfl, rfl⟩ := trodAll_nil r0
  obtain rfl : args = #[v0] := by cases args; simp_all
  obtain ⟨rfl, rfl⟩ := trodVars_none hV
  obtain ⟨a0T, a0w, a0b⟩ := open_types_bk (hval 0 23 v0 rfl rfl) h0
  have hbulk := of_decide_eq_true hk
  simp only [Rows.uptoBulkAll, List.append_nil] at hbulk
  clear hA0 hval0
  refine (all_walk_bk a0T _ W a0w (by omega)).mono fun e W' ⟨he, hg⟩ => ?_
  subst he
  exact ⟨_, rfl, law_post_upto Try.laidOut (by kernel_rfl) rfl rfl Try.underlying4 hW' rfl hg⟩

theorem kindsAll_holds : Rows.KindsAllUptoSaid :=
  OpenClaim.holds_of_cond 7 Try.f7 rfl rfl rfl rfl rfl rfl rfl ⟨rfl, rfl, rfl, rfl, rfl⟩ rfl rfl rfl rfl rfl (by kernel_rfl) Try.func7 (by kernel_rfl)
    (of_decide_eq_true (by kernel_rfl)) (by unfold Func.isWrapper; first | (rw [if_pos (by decide +kernel)]; kernel_rfl) | (rw [if_neg (by decide +kernel)]; exact ⟨rfl, rfl⟩))
    (fun os started H enc _ F => kindsAll_lifted os started H enc F)

#print axioms kindsAll_holds

end Go.Proofs.Ytnkecbpocgcdfaa
