/-
  RunesWhole's card, the second form: where what it reads is of bulk at most 1048576 it returns true.
-/
import Derived.Test.YtnamnldijopkfaaDoorTy
namespace Go.Proofs.YtnamnldijopkfaaDoor
open Go.ChangeShapes Go.WideShapes Go.ChangeAt Go.RowKit Go.Joins

theorem Rows_str {H : Type} (x : ByteArray) : Rows.uptoBulk (DataW.lit (H := H) (.string x.data.toList)) = x.size + 1 := by
  simp only [Rows.uptoBulk, Array.length_toList]
  rfl

theorem whole_walk_b (s : ByteArray) (k : Int) (w : World) (hE : Env w) (hk : 0 ≤ k ∧ k ≤ 65535) (hl : s.size ≤ 1048576) :
    Calls Tryd.prog 3 #[.string s, .int .u16 k] w fun e w' => e = .returned (.bool true) ∧ Below w.heap.size w w' := by
  have h := whole_walk s.data.toList k w hE hk (by rw [Array.length_toList]; exact hl)
  rw [strOfL_of] at h
  exact h

theorem runesWhole_laid (os : Os) : laidMet Tryd.prog Rows.runesWholeUptoRow.laid ((laidWorld os).forCall (fun _ _ => 0) ⟨#[], #[.string ⟨#[]⟩, .int .u16 0], []⟩).memory :=
  (Go.LaidIn.of_run (l := Rows.runesWholeUptoRow.laid) [1, 0] 8 (by kernel_rfl) (by kernel_rfl) (by kernel_rfl) (by kernel_rfl)).met

theorem runesWhole_reads (os : Os) {H : Type} (enc : TypeId × Value → H) : ∃ places, DataW.whole enc Tryd.prog ((laidWorld os).forCall (fun _ _ => 0) ⟨#[], #[.string ⟨#[]⟩, .int .u16 0], []⟩).memory Tryd.f3.params.toList Rows.runesWholeSpec.vars false (#[.string ⟨#[]⟩, .int .u16 0] : Array Value).toList 8 = some ([.lit (.string []), .lit (.int .u16 0)], [], places) :=
  ⟨[], by kernel_rfl⟩

set_option maxRecDepth 100000 in
set_option maxHeartbeats 2000000 in
theorem runesWhole_lifted (os : Os) (started : os.Started) (H : Type) (enc : TypeId × Value → H) (FI : Stop.Interp) :
    ReturnsInHanded {} Tryd.checked os 3 .any ((Rows.OpenSpec.upto Rows.runesWholeSpec).preRow enc Tryd.prog Tryd.f3 Rows.runesWholeUptoRow.domain false Rows.runesWholeUptoRow.laid) (((Rows.OpenSpec.upto Rows.runesWholeSpec).at FI).post enc Tryd.prog Tryd.f3 false true false false) := by
  obtain ⟨places, hx⟩ := runesWhole_reads os enc
  refine returnsInHanded_of_row (C := Tryd.checked) (s := Rows.OpenSpec.upto Rows.runesWholeSpec) Tryd.own started (by kernel_rfl) Tryd.func3
    (witness_row_atRef (enc := enc) (C := Tryd.checked) false (laidWorld os) #[.string ⟨#[]⟩, .int .u16 0] rfl (by kernel_rfl) (by kernel_rfl) (by kernel_rfl)
      (OpenSpec.preRow_of_cond 8 hx (by kernel_rfl) (fun k hk => by cases hk; kernel_rfl) (by kernel_rfl) (runesWhole_laid os))) ?_
  intro W base args ds gs before hval0 hW _ hcond _ hL hS _
  have hval : ∀ (j : Nat) t v, Tryd.f3.params[j]? = some t → args[j]? = some v → Value.okWide Tryd.prog W .any base t v := hval0
  have hW' := hW
  have hE := env_of hL hS
  obtain ⟨p, q, hA0, hV, rfl, hfz, hnd⟩ := hW
  have hA : DataW.TrodAll enc Tryd.prog W 0 (fun _ => true) true Tryd.f3.params.toList args.toList ds p := hA0
  rw [Tryd.params3] at hA hval
  obtain ⟨v0, vs0, d0, ds0, p0, q0, hargs, rfl, rfl, h0, r0⟩ := trodAll_cons hA
  obtain ⟨v1, vs1, d1, ds1, p1, q1, rfl, rfl, rfl, h1, r1⟩ := trodAll_cons r0
  obtain ⟨rfl, rfl, rfl⟩ := trodAll_nil r1
  obtain rfl : args = #[v0, v1] := by cases args; simp_all
  obtain ⟨rfl, rfl⟩ := trodVars_none hV
  obtain ⟨a0, rfl, rfl, rfl, a0w⟩ := Go.ChangeMaps.open_string Tryd.underlying9 (hval 0 9 v0 rfl rfl) h0
  obtain ⟨a1, rfl, rfl, rfl, a1w⟩ := open_int Tryd.underlying22 (hval 1 22 v1 rfl rfl) h1
  have hbulk := of_decide_eq_true (hcond _ rfl)
  simp only [Rows.uptoBulkAll, List.append_nil] at hbulk
  clear hA0 hval0
  refine (whole_walk_b a0 a1 W hE (by simpa [Lit.wf, IntKind.min, IntKind.max, IntKind.signed, IntKind.bits] using a1w) (by have := Rows_str (H := H) a0; omega)).mono fun e W' ⟨he, hg⟩ => ?_
  subst he
  exact ⟨_, rfl, law_post Tryd.laidOut (by kernel_rfl) rfl rfl Tryd.underlying4 hW' rfl hg⟩

theorem runesWhole_said : Rows.RunesWholeUptoSaid :=
  OpenClaim.holds_of_cond 3 Tryd.f3 rfl rfl rfl rfl rfl rfl rfl ⟨rfl, rfl, rfl, rfl, rfl⟩ rfl rfl rfl rfl rfl (by kernel_rfl) Tryd.func3 (by kernel_rfl)
    (of_decide_eq_true (by kernel_rfl)) (by unfold Func.isWrapper; first | (rw [if_pos (by decide +kernel)]; kernel_rfl) | (rw [if_neg (by decide +kernel)]; exact ⟨rfl, rfl⟩))
    (fun os started H enc _ F => by rw [OpenClaim.pre_eq_preRow]; exact runesWhole_lifted os started H enc F)

theorem runesWhole_plain (f : FuncId) (fn : Func) (hf : Tryd.pinned.checked.prog.funcNamed "casuist/casuistlaw15.RunesWhole" = some f) (hfn : Tryd.pinned.checked.prog.funcs[f]? = some fn) :
    false = Tryd.pinned.checked.prog.looks [] ∧ ∀ (j : Nat) t, fn.params[j]? = some t → Tryd.pinned.checked.prog.wantsStandIn t = false := by
  obtain rfl : f = 3 := Option.some.inj ((show Tryd.prog.funcNamed "casuist/casuistlaw15.RunesWhole" = some 3 by kernel_rfl).symm.trans hf) |>.symm
  obtain rfl : fn = Tryd.f3 := (Option.some.inj (Tryd.func3.symm.trans hfn)).symm
  refine ⟨by kernel_rfl, fun j t ht => ?_⟩
  rw [Tryd.params3] at ht
  have hm := Array.mem_of_getElem? ht
  simp only [List.mem_toArray, List.mem_cons, List.not_mem_nil, or_false] at hm
  rcases hm with rfl | rfl
  · exact (show Tryd.prog.wantsStandIn 9 = false by kernel_rfl)
  · exact (show Tryd.prog.wantsStandIn 22 = false by kernel_rfl)

theorem runesWhole_holds : Rows.RunesWholeUptoCardSaid :=
  Claim7.holds_tied_plain_at .later [] _ _ _ _ runesWhole_said (fun _ h => by cases h) (by kernel_rfl) (fun _ h => by cases h) runesWholeUpto_row_tie rfl ⟨rfl, rfl⟩ (by kernel_rfl) rfl runesWhole_plain (by kernel_rfl)

#print axioms runesWhole_holds

end Go.Proofs.YtnamnldijopkfaaDoor
