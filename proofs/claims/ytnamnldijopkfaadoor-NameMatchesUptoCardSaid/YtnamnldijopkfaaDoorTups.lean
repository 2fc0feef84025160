/-
  NameMatches' card, the second form: where what it reads is of bulk at most 1048576 it returns true.
-/
import Derived.Test.YtnamnldijopkfaaDoorTup
import Derived.Test.YtnamnldijopkfaaDoorTcs
import Derived.Test.YtnamnldijopkfaaDoorTcb
namespace Go.Proofs.YtnamnldijopkfaaDoor
open Go.ChangeShapes Go.WideShapes Go.ChangeAt Go.RowKit Go.Joins

theorem matches_walk_b (ns : List (List UInt8)) (vn : Value) (s : ByteArray) (w : World) (hE : Env4 w) (hN : Strs w vn ns) (hl : bkS ns + s.size ≤ 1048576) :
    Calls Tryd.prog 13 #[vn, .string s] w fun e w' => e = .returned (.bool true) ∧ Below w.heap.size w w' := by
  have h := matches_walk ns vn s.data.toList w hE.env hE.tab hN (by have := bkS_len ns; omega) (fun m hm => by have := bkS_mem ns m hm; omega) (by rw [Array.length_toList]; have : s.data.size = s.size := rfl; omega)
  rw [strOfL_of] at h
  exact h

theorem nameMatches_laid (os : Os) : laidMet Tryd.prog Rows.nameMatchesUptoRow.laid ((laidWorld4 os).forCall (fun _ _ => 0) ⟨#[], #[.slice none 0 0, .string ⟨#[]⟩], []⟩).memory :=
  laidMet_of_run3 (l := Rows.nameMatchesUptoRow.laid) 10 (by kernel_rfl) (by kernel_rfl) (by kernel_rfl)

theorem nameMatches_reads (os : Os) {H : Type} (enc : TypeId × Value → H) : ∃ places, DataW.whole enc Tryd.prog ((laidWorld4 os).forCall (fun _ _ => 0) ⟨#[], #[.slice none 0 0, .string ⟨#[]⟩], []⟩).memory Tryd.f13.params.toList Rows.nameMatchesSpec.vars false (#[.slice none 0 0, .string ⟨#[]⟩] : Array Value).toList 8 = some ([.nil, .lit (.string [])], [], places) :=
  ⟨[], by kernel_rfl⟩

set_option maxRecDepth 100000 in
set_option maxHeartbeats 2000000 in
theorem nameMatches_lifted (os : Os) (started : os.Started) (H : Type) (enc : TypeId × Value → H) (FI : Stop.Interp) :
    ReturnsInHanded {} Tryd.checked os 13 .any ((Rows.OpenSpec.upto Rows.nameMatchesSpec).preRow enc Tryd.prog Tryd.f13 Rows.nameMatchesUptoRow.domain false Rows.nameMatchesUptoRow.laid) (((Rows.OpenSpec.upto Rows.nameMatchesSpec).at FI).post enc Tryd.prog Tryd.f13 false true false false) := by
  obtain ⟨places, hx⟩ := nameMatches_reads os enc
  refine returnsInHanded_of_row (C := Tryd.checked) (s := Rows.OpenSpec.upto Rows.nameMatchesSpec) Tryd.own started (by kernel_rfl) Tryd.func13
    (witness_row_atRef (enc := enc) (C := Tryd.checked) false (laidWorld4 os) #[.slice none 0 0, .string ⟨#[]⟩] rfl (by kernel_rfl) (by kernel_rfl) (by kernel_rfl)
      (OpenSpec.preRow_of_cond 8 hx (by kernel_rfl) (fun k hk => by cases hk; kernel_rfl) (by kernel_rfl) (nameMatches_laid os))) ?_
  intro W base args ds gs before hval0 hW _ hcond _ hL hS _
  have hval : ∀ (j : Nat) t v, Tryd.f13.params[j]? = some t → args[j]? = some v → Value.okWide Tryd.prog W .any base t v := hval0
  have hW' := hW
  have hE := env_of4 hL hS
  obtain ⟨p, q, hA0, hV, rfl, hfz, hnd⟩ := hW
  have hA : DataW.TrodAll enc Tryd.prog W 0 (fun _ => true) true Tryd.f13.params.toList args.toList ds p := hA0
  rw [Tryd.params13] at hA hval
  obtain ⟨v0, vs0, d0, ds0, p0, q0, hargs, rfl, rfl, h0, r0⟩ := trodAll_cons hA
  obtain ⟨v1, vs1, d1, ds1, p1, q1, rfl, rfl, rfl, h1, r1⟩ := trodAll_cons r0
  obtain ⟨rfl, rfl, rfl⟩ := trodAll_nil r1
  obtain rfl : args = #[v0, v1] := by cases args; simp_all
  obtain ⟨rfl, rfl⟩ := trodVars_none hV
  obtain ⟨a0N, a0w, a0b⟩ := open_strs_bk (hval 0 43 v0 rfl rfl) h0
  obtain ⟨a1, rfl, rfl, rfl, a1w⟩ := Go.ChangeMaps.open_string Tryd.underlying9 (hval 1 9 v1 rfl rfl) h1
  have hbulk := of_decide_eq_true (hcond _ rfl)
  simp only [Rows.uptoBulkAll, List.append_nil] at hbulk
  clear hA0 hval0
  refine (matches_walk_b a0N _ a1 W hE a0w (by have := Rows_str (H := H) a1; omega)).mono fun e W' ⟨he, hg⟩ => ?_
  subst he
  exact ⟨_, rfl, law_post Tryd.laidOut (by kernel_rfl) rfl rfl Tryd.underlying4 hW' rfl hg⟩

theorem nameMatches_said : Rows.NameMatchesUptoSaid :=
  OpenClaim.holds_of_cond 13 Tryd.f13 rfl rfl rfl rfl rfl rfl rfl ⟨rfl, rfl, rfl, rfl, rfl⟩ rfl rfl rfl rfl rfl (by kernel_rfl) Tryd.func13 (by kernel_rfl)
    (of_decide_eq_true (by kernel_rfl)) (by unfold Func.isWrapper; first | (rw [if_pos (by decide +kernel)]; kernel_rfl) | (rw [if_neg (by decide +kernel)]; exact ⟨rfl, rfl⟩))
    (fun os started H enc _ F => by rw [OpenClaim.pre_eq_preRow]; exact nameMatches_lifted os started H enc F)

theorem nameMatches_plain (f : FuncId) (fn : Func) (hf : Tryd.pinned.checked.prog.funcNamed "casuist/casuistlaw17.NameMatches" = some f) (hfn : Tryd.pinned.checked.prog.funcs[f]? = some fn) :
    false = Tryd.pinned.checked.prog.looks [] ∧ ∀ (j : Nat) t, fn.params[j]? = some t → Tryd.pinned.checked.prog.wantsStandIn t = false := by
  obtain rfl : f = 13 := Option.some.inj ((show Tryd.prog.funcNamed "casuist/casuistlaw17.NameMatches" = some 13 by kernel_rfl).symm.trans hf) |>.symm
  obtain rfl : fn = Tryd.f13 := (Option.some.inj (Tryd.func13.symm.trans hfn)).symm
  refine ⟨by kernel_rfl, fun j t ht => ?_⟩
  rw [Tryd.params13] at ht
  have hm := Array.mem_of_getElem? ht
  simp only [List.mem_toArray, List.mem_cons, List.not_mem_nil, or_false] at hm
  rcases hm with rfl | rfl
  · exact (show Tryd.prog.wantsStandIn 43 = false by kernel_rfl)
  · exact (show Tryd.prog.wantsStandIn 9 = false by kernel_rfl)

theorem nameMatches_holds : Rows.NameMatchesUptoCardSaid :=
  Claim7.holds_tied_plain_at .later [] _ _ _ _ nameMatches_said (fun _ h => by cases h) (by kernel_rfl) (fun _ h => by cases h) nameMatchesUpto_row_tie rfl ⟨rfl, rfl⟩ (by kernel_rfl) rfl nameMatches_plain (by kernel_rfl)

#print axioms nameMatches_holds

end Go.Proofs.YtnamnldijopkfaaDoor
