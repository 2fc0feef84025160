/-
  NameReads' card, the second form: where what it reads is of bulk at most 1048576 it returns true.
-/
import Derived.Test.YtnamnldijopkfaaDoorTuq
import Derived.Test.YtnamnldijopkfaaDoorTcb
import Derived.Test.YtnamnldijopkfaaDoorTce
namespace Go.Proofs.YtnamnldijopkfaaDoor
open Go.ChangeShapes Go.WideShapes Go.ChangeAt Go.RowKit Go.Joins

theorem reads_walk_b (s : ByteArray) (w : World) (hE : Env4 w) (hl : s.size ≤ 1048576) :
    Calls Tryd.prog 15 #[.string s] w fun e w' => e = .returned (.bool true) ∧ Below w.heap.size w w' := by
  have h := reads_walk s.data.toList w hE.env hE.tab (by rw [Array.length_toList]; exact hl)
  rw [strOfL_of] at h
  exact h

theorem nameReads_laid (os : Os) : laidMet Tryd.prog Rows.nameReadsUptoRow.laid ((laidWorld4 os).forCall (fun _ _ => 0) ⟨#[], #[.string ⟨#[]⟩], []⟩).memory :=
  laidMet_of_run3 (l := Rows.nameReadsUptoRow.laid) 10 (by kernel_rfl) (by kernel_rfl) (by kernel_rfl)

theorem nameReads_reads (os : Os) {H : Type} (enc : TypeId × Value → H) : ∃ places, DataW.whole enc Tryd.prog ((laidWorld4 os).forCall (fun _ _ => 0) ⟨#[], #[.string ⟨#[]⟩], []⟩).memory Tryd.f15.params.toList Rows.nameReadsSpec.vars false (#[.string ⟨#[]⟩] : Array Value).toList 8 = some ([.lit (.string [])], [], places) :=
  ⟨[], by kernel_rfl⟩

set_option maxRecDepth 100000 in
set_option maxHeartbeats 2000000 in
theorem nameReads_lifted (os : Os) (started : os.Started) (H : Type) (enc : TypeId × Value → H) (FI : Stop.Interp) :
    ReturnsInHanded {} Tryd.checked os 15 .any ((Rows.OpenSpec.upto Rows.nameReadsSpec).preRow enc Tryd.prog Tryd.f15 Rows.nameReadsUptoRow.domain false Rows.nameReadsUptoRow.laid) (((Rows.OpenSpec.upto Rows.nameReadsSpec).at FI).post enc Tryd.prog Tryd.f15 false true false false) := by
  obtain ⟨places, hx⟩ := nameReads_reads os enc
  refine returnsInHanded_of_row (C := Tryd.checked) (s := Rows.OpenSpec.upto Rows.nameReadsSpec) Tryd.own started (by kernel_rfl) Tryd.func15
    (witness_row_atRef (enc := enc) (C := Tryd.checked) false (laidWorld4 os) #[.string ⟨#[]⟩] rfl (by kernel_rfl) (by kernel_rfl) (by kernel_rfl)
      (OpenSpec.preRow_of_cond 8 hx (by kernel_rfl) (fun k hk => by cases hk; kernel_rfl) (by kernel_rfl) (nameReads_laid os))) ?_
  intro W base args ds gs before hval0 hW _ hcond _ hL hS _
  have hval : ∀ (j : Nat) t v, Tryd.f15.params[j]? = some t → args[j]? = some v → Value.okWide Tryd.prog W .any base t v := hval0
  have hW' := hW
  have hE := env_of4 hL hS
  obtain ⟨p, q, hA0, hV, rfl, hfz, hnd⟩ := hW
  have hA : DataW.TrodAll enc Tryd.prog W 0 (fun _ => true) true Tryd.f15.params.toList args.toList ds p := hA0
  rw [Tryd.params15] at hA hval
  obtain ⟨v0, vs0, d0, ds0, p0, q0, hargs, rfl, rfl, h0, r0⟩ := trodAll_cons hA
  obtain ⟨rfl, rfl, rfl⟩ := trodAll_nil r0
  obtain rfl : args = #[v0] := by cases args; simp_all
  obtain ⟨rfl, rfl⟩ := trodVars_none hV
  obtain ⟨a0, rfl, rfl, rfl, a0w⟩ := Go.ChangeMaps.open_string Tryd.underlying9 (hval 0 9 v0 rfl rfl) h0
  have hbulk := of_decide_eq_true (hcond _ rfl)
  simp only [Rows.uptoBulkAll, List.append_nil] at hbulk
  clear hA0 hval0
  refine (reads_walk_b a0 W hE  (by have := Rows_str (H := H) a0; omega)).mono fun e W' ⟨he, hg⟩ => ?_
  subst he
  exact ⟨_, rfl, law_post Tryd.laidOut (by kernel_rfl) rfl rfl Tryd.underlying4 hW' rfl hg⟩

theorem nameReads_said : Rows.NameReadsUptoSaid :=
  OpenClaim.holds_of_cond 15 Tryd.f15 rfl rfl rfl rfl rfl rfl rfl ⟨rfl, rfl, rfl, rfl, rfl⟩ rfl rfl rfl rfl rfl (by kernel_rfl) Tryd.func15 (by kernel_rfl)
    (of_decide_eq_true (by kernel_rfl)) (by unfold Func.isWrapper; first | (rw [if_pos (by decide +kernel)]; kernel_rfl) | (rw [if_neg (by decide +kernel)]; exact ⟨rfl, rfl⟩))
    (fun os started H enc _ F => by rw [OpenClaim.pre_eq_preRow]; exact nameReads_lifted os started H enc F)

theorem nameReads_plain (f : FuncId) (fn : Func) (hf : Tryd.pinned.checked.prog.funcNamed "casuist/casuistlaw17.NameReads" = some f) (hfn : Tryd.pinned.checked.prog.funcs[f]? = some fn) :
    false = Tryd.pinned.checked.prog.looks [] ∧ ∀ (j : Nat) t, fn.params[j]? = some t → Tryd.pinned.checked.prog.wantsStandIn t = false := by
  obtain rfl : f = 15 := Option.some.inj ((show Tryd.prog.funcNamed "casuist/casuistlaw17.NameReads" = some 15 by kernel_rfl).symm.trans hf) |>.symm
  obtain rfl : fn = Tryd.f15 := (Option.some.inj (Tryd.func15.symm.trans hfn)).symm
  refine ⟨by kernel_rfl, fun j t ht => ?_⟩
  rw [Tryd.params15] at ht
  have hm := Array.mem_of_getElem? ht
  simp only [List.mem_toArray, List.mem_cons, List.not_mem_nil, or_false] at hm
  rcases hm with rfl
  · exact (show Tryd.prog.wantsStandIn 9 = false by kernel_rfl)

theorem nameReads_holds : Rows.NameReadsUptoCardSaid :=
  Claim7.holds_tied_plain_at .later [] _ _ _ _ nameReads_said (fun _ h => by cases h) (by kernel_rfl) (fun _ h => by cases h) nameReadsUpto_row_tie rfl ⟨rfl, rfl⟩ (by kernel_rfl) rfl nameReads_plain (by kernel_rfl)

#print axioms nameReads_holds

end Go.Proofs.YtnamnldijopkfaaDoor
