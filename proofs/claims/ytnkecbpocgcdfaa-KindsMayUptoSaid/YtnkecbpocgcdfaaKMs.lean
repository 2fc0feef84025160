/-
  KindsMay's second form: where what it reads is of bulk at most 1048576 it returns true.
-/
import Derived.Test.YtnkecbpocgcdfaaKMw
import Derived.ChangeMaps5
namespace Go.Proofs.Ytnkecbpocgcdfaa
open Go.ChangeShapes Go.WideShapes Go.ChangeAt Go.RowKit Go.Joins

theorem may_walk_bk (a : Ty) (ai an : Value) (b : Ty) (bi bn : Value) (x : ByteArray) (w : World) (hA : IsTy w a ai an) (hB : IsTy w b bi bn) (h : a.bk ≤ 1048576 ∧ b.bk ≤ 1048576) :
    Calls Try.prog 8 #[tyV a ai an, tyV b bi bn, .string x] w fun e w' => e = .returned (.bool true) ∧ Below w.heap.size w w' :=
  may_walk a ai an b bi bn x w hA hB h.1 h.2

set_option maxRecDepth 100000 in
theorem kindsMay_lifted (os : Os) (started : os.Started) (H : Type) (enc : TypeId × Value → H) (FI : Stop.Interp) :
    ReturnsInHanded {} Try.checked os 8 .any ((Rows.OpenSpec.upto Rows.kindsMaySpec).pre6 enc Try.prog Try.f8 Rows.kindsMayUptoRow.domain false) (((Rows.OpenSpec.upto Rows.kindsMaySpec).at FI).post enc Try.prog Try.f8 false true false false) := by
  refine returnsInHanded_of_cond (C := Try.checked) (s := Rows.OpenSpec.upto Rows.kindsMaySpec) (k := Rows.uptoSmall) rfl Try.own started (by kernel_rfl) Try.func8
    (OpenSpec.witness (enc := enc) (C := Try.checked) (s := Rows.OpenSpec.upto Rows.kindsMaySpec) (k := Rows.uptoSmall) rfl false ⟨#[], #[.agg #[.int .i64 0, .slice none 0 0, .slice none 0 0], .agg #[.int .i64 0, .slice none 0 0, .slice none 0 0], .string ⟨#[]⟩], []⟩ 8 (by kernel_rfl) (by kernel_rfl) (by kernel_rfl)
      (x := ([.agg [.lit (.int .i64 0), .nil, .nil], .agg [.lit (.int .i64 0), .nil, .nil], .lit (.string [])], [], [])) (by kernel_rfl) rfl (by kernel_rfl)) ?_
  intro W base args ds gs before hval0 hW _ hk _
  have hval : ∀ (j : Nat) t v, Try.f8.params[j]? = some t → args[j]? = some v → Value.okWide Try.prog W .any base t v := hval0
  have hW' := hW
  obtain ⟨p, q, hA0, hV, rfl, hfz, hnd⟩ := hW
  have hA : DataW.TrodAll enc Try.prog W 0 (fun _ => true) true Try.f8.params.toList args.toList ds p := hA0
  rw [Try.params8] at hA hval
  obtain ⟨v0, vs0, d0, ds0, p0, q0, hargs, rfl, rfl, h0, r0⟩ := trodAll_cons hA
  obtain ⟨v1, vs1, d1, ds1, p1, q1, rfl, rfl, rfl, h1, r1⟩ := trodAll_cons r0
  obtain ⟨v2, vs2, d2, ds2, p2, q2, rfl, rfl, rfl, h2, r2⟩ := trodAll_cons r1
  obtain ⟨rfl, rfl, rfl⟩ := trodAll_nil r2
  obtain rfl : args = #[v0, v1, v2] := by cases args; simp_all
  obtain ⟨rfl, rfl⟩ := trodVars_none hV
  obtain ⟨a0T, a0i, a0n, rfl, a0w, a0b⟩ := open_type_bk (hval 0 26 v0 rfl rfl) h0
  obtain ⟨a1T, a1i, a1n, rfl, a1w, a1b⟩ := open_type_bk (hval 1 26 v1 rfl rfl) h1
  obtain ⟨a2, rfl, rfl, rfl, a2w⟩ := Go.ChangeMaps.open_string Try.underlying9 (hval 2 9 v2 rfl rfl) h2
  have hbulk := of_decide_eq_true hk
  simp only [Rows.uptoBulkAll, List.append_nil] at hbulk
  clear hA0 hval0
  refine (may_walk_bk a0T a0i a0n a1T a1i a1n a2 W a0w a1w ⟨by omega, by omega⟩).mono fun e W' ⟨he, hg⟩ => ?_
  subst he
  exact ⟨_, rfl, law_post_upto Try.laidOut (by kernel_rfl) rfl rfl Try.underlying4 hW' rfl hg⟩

theorem kindsMay_holds : Rows.KindsMayUptoSaid :=
  OpenClaim.holds_of_cond 8 Try.f8 rfl rfl rfl rfl rfl rfl rfl ⟨rfl, rfl, rfl, rfl, rfl⟩ rfl rfl rfl rfl rfl (by kernel_rfl) Try.func8 (by kernel_rfl)
    (of_decide_eq_true (by kernel_rfl)) (by unfold Func.isWrapper; first | (rw [if_pos (by decide +kernel)]; kernel_rfl) | (rw [if_neg (by decide +kernel)]; exact ⟨rfl, rfl⟩))
    (fun os started H enc _ F => kindsMay_lifted os started H enc F)

#print axioms kindsMay_holds

end Go.Proofs.Ytnkecbpocgcdfaa
