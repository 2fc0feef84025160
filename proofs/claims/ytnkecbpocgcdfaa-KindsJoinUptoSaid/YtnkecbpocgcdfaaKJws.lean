/-
  KindsJoin's second form: where what it reads is of bulk at most 1048576 it returns true.
-/
import Derived.Test.YtnkecbpocgcdfaaKJw
namespace Go.Proofs.Ytnkecbpocgcdfaa
open Go.ChangeShapes Go.WideShapes Go.ChangeAt Go.RowKit Go.Joins

theorem joins_walk_bk (a : Ty) (ai an : Value) (b : Ty) (bi bn : Value) (c : Ty) (ci cn : Value) (w : World) (hA : IsTy w a ai an) (hB : IsTy w b bi bn) (hC : IsTy w c ci cn)
    (h : a.bk ≤ 1048576 ∧ b.bk ≤ 1048576 ∧ c.bk ≤ 1048576) :
    Calls Try.prog 6 #[tyV a ai an, tyV b bi bn, tyV c ci cn] w fun e w' => e = .returned (.bool true) ∧ Below w.heap.size w w' :=
  joins_walk a ai an b bi bn c ci cn w hA hB hC (small_of_bk a h.1) (small_of_bk b h.2.1)

set_option maxRecDepth 100000 in
theorem kindsJoin_lifted (os : Os) (started : os.Started) (H : Type) (enc : TypeId × Value → H) (FI : Stop.Interp) :
    ReturnsInHanded {} Try.checked os 6 .any ((Rows.OpenSpec.upto Rows.kindsJoinSpec).pre6 enc Try.prog Try.f6 Rows.kindsJoinUptoRow.domain false) (((Rows.OpenSpec.upto Rows.kindsJoinSpec).at FI).post enc Try.prog Try.f6 false true false false) := by
  refine returnsInHanded_of_cond (C := Try.checked) (s := Rows.OpenSpec.upto Rows.kindsJoinSpec) (k := Rows.uptoSmall) rfl Try.own started (by kernel_rfl) Try.func6
    (OpenSpec.witness (enc := enc) (C := Try.checked) (s := Rows.OpenSpec.upto Rows.kindsJoinSpec) (k := Rows.uptoSmall) rfl false ⟨#[], #[.agg #[.int .i64 0, .slice none 0 0, .slice none 0 0], .agg #[.int .i64 0, .slice none 0 0, .slice none 0 0], .agg #[.int .i64 0, .slice none 0 0, .slice none 0 0]], []⟩ 8 (by kernel_rfl) (by kernel_rfl) (by kernel_rfl)
      (x := ([.agg [.lit (.int .i64 0), .nil, .nil], .agg [.lit (.int .i64 0), .nil, .nil], .agg [.lit (.int .i64 0), .nil, .nil]], [], [])) (by kernel_rfl) rfl (by kernel_rfl)) ?_
  intro W base args ds gs before hval0 hW _ hk _
  have hval : ∀ (j : Nat) t v, Try.f6.params[j]? = some t → args[j]? = some v → Value.okWide Try.prog W .any base t v := hval0
  have hW' := hW
  obtain ⟨p, q, hA0, hV, rfl, hfz, hnd⟩ := hW
  have hA : DataW.TrodAll enc Try.prog W 0 (fun _ => true) true Try.f6.params.toList args.toList ds p := hA0
  rw [Try.params6] at hA hval
  obtain ⟨v0, vs0, d0, ds0, p0, q0, hargs, rfl, rfl, h0, r0⟩ := trodAll_cons hA
  obtain ⟨v1, vs1, d1, ds1, p1, q1, rfl, rfl, rfl, h1, r1⟩ := trodAll_cons r0
  obtain ⟨v2, vs2, d2, ds2, p2, q2, rfl, rfl, rfl, h2, r2⟩ := trodAll_cons r1
  obtain ⟨rfl, rfl, rfl⟩ := trodAll_nil r2
  obtain rfl : args = #[v0, v1, v2] := by cases args; simp_all
  obtain ⟨rfl, rfl⟩ := trodVars_none hV
  obtain ⟨a0T, a0i, a0n, rfl, a0w, a0b⟩ := open_type_bk (hval 0 26 v0 rfl rfl) h0
  obtain ⟨a1T, a1i, a1n, rfl, a1w, a1b⟩ := open_type_bk (hval 1 26 v1 rfl rfl) h1
  obtain ⟨a2T, a2i, a2n, rfl, a2w, a2b⟩ := open_type_bk (hval 2 26 v2 rfl rfl) h2
  have hbulk := of_decide_eq_true hk
  simp only [Rows.uptoBulkAll, List.append_nil] at hbulk
  clear hA0 hval0
  refine (joins_walk_bk a0T a0i a0n a1T a1i a1n a2T a2i a2n W a0w a1w a2w ⟨by omega, by omega, by omega⟩).mono fun e W' ⟨he, hg⟩ => ?_
  subst he
  exact ⟨_, rfl, law_post_upto Try.laidOut (by kernel_rfl) rfl rfl Try.underlying4 hW' rfl hg⟩

theorem kindsJoin_holds : Rows.KindsJoinUptoSaid :=
  OpenClaim.holds_of_cond 6 Try.f6 rfl rfl rfl rfl rfl rfl rfl ⟨rfl, rfl, rfl, rfl, rfl⟩ rfl rfl rfl rfl rfl (by kernel_rfl) Try.func6 (by kernel_rfl)
    (of_decide_eq_true (by kernel_rfl)) (by unfold Func.isWrapper; first | (rw [if_pos (by decide +kernel)]; kernel_rfl) | (rw [if_neg (by decide +kernel)]; exact ⟨rfl, rfl⟩))
    (fun os started H enc _ F => kindsJoin_lifted os started H enc F)

#print axioms kindsJoin_holds

end Go.Proofs.Ytnkecbpocgcdfaa
