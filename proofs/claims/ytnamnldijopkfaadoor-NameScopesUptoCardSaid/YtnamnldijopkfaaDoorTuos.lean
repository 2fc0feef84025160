/-
  NameScopes' card, the second form: where what it reads is of bulk at most 1048576 it returns true.
-/
import Derived.Test.YtnamnldijopkfaaDoorTuo
import Derived.Test.YtnamnldijopkfaaDoorTcs
namespace Go.Proofs.YtnamnldijopkfaaDoor
open Go.ChangeShapes Go.WideShapes Go.ChangeAt Go.RowKit Go.Joins

theorem scopes_walk_b (ns : List (List UInt8)) (vn : Value) (ms : List (List UInt8)) (vm : Value) (w : World) (hE : Env w) (hN : Strs w vn ns) (hM : Strs w vm ms) (h : bkS ns + bkS ms ≤ 1048576) :
    Calls Tryd.prog 12 #[vn, vm] w fun e w' => e = .returned (.bool true) ∧ Below w.heap.size w w' :=
  scopes_walk ns ms vn vm w hE hN hM (by have := bkS_len ns; have := bkS_len ms; omega) (fun m hm => by have := bkS_mem ns m hm; omega) (fun m hm => by have := bkS_mem ms m hm; omega)

theorem nameScopes_laid (os : Os) : laidMet Tryd.prog Rows.nameScopesUptoRow.laid ((laidWorld os).forCall (fun _ _ => 0) ⟨#[], #[.slice none 0 0, .slice none 0 0], []⟩).memory :=
  (Go.LaidIn.of_run (l := Rows.nameScopesUptoRow.laid) [1, 0] 8 (by kernel_rfl) (by kernel_rfl) (by kernel_rfl) (by kernel_rfl)).met

theorem nameScopes_reads (os : Os) {H : Type} (enc : TypeId × Value → H) : ∃ places, DataW.whole enc Tryd.prog ((laidWorld os).forCall (fun _ _ => 0) ⟨#[], #[.slice none 0 0, .slice none 0 0], []⟩).memory Tryd.f12.params.toList Rows.nameScopesSpec.vars false (#[.slice none 0 0, .slice none 0 0] : Array Value).toList 8 = some ([.nil, .nil], [], places) :=
  ⟨[], by kernel_rfl⟩

set_option maxRecDepth 100000 in
set_option maxHeartbeats 2000000 in
theorem nameScopes_lifted (os : Os) (started : os.Started) (H : Type) (enc : TypeId × Value → H) (FI : Stop.Interp) :
    ReturnsInHanded {} Tryd.checked os 12 .any ((Rows.OpenSpec.upto Rows.nameScopesSpec).preRow enc Tryd.prog Tryd.f12 Rows.nameScopesUptoRow.domain false Rows.nameScopesUptoRow.laid) (((Rows.OpenSpec.upto Rows.nameScopesSpec).at FI).post enc Tryd.prog Tryd.f12 false true false false) := by
  obtain ⟨places, hx⟩ := nameScopes_reads os enc
  refine returnsInHanded_of_row (C := Tryd.checked) (s := Rows.OpenSpec.upto Rows.nameScopesSpec) Tryd.own started (by kernel_rfl) Tryd.func12
    (witness_row_atRef (enc := enc) (C := Tryd.checked) false (laidWorld os) #[.slice none 0 0, .slice none 0 0] rfl (by kernel_rfl) (by kernel_rfl) (by kernel_rfl)
      (OpenSpec.preRow_of_cond 8 hx (by kernel_rfl) (fun k hk => by cases hk; kernel_rfl) (by kernel_rfl) (nameScopes_laid os))) ?_
  intro W base args ds gs before hval0 hW _ hcond _ hL hS _
  have hval : ∀ (j : Nat) t v, Tryd.f12.params[j]? = some t → args[j]? = some v → Value.okWide Tryd.prog W .any base t v := hval0
  have hW' := hW
  have hE := env_of hL hS
  obtain ⟨p, q, hA0, hV, rfl, hfz, hnd⟩ := hW
  have hA : DataW.TrodAll enc Tryd.prog W 0 (fun _ => true) true Tryd.f12.params.toList args.toList ds p := hA0
  rw [Tryd.params12] at hA hval
  obtain ⟨v0, vs0, d0, ds0, p0, q0, hargs, rfl, rfl, h0, r0⟩ := trodAll_cons hA
  obtain ⟨v1, vs1, d1, ds1, p1, q1, rfl, rfl, rfl, h1, r1⟩ := trodAll_cons r0
  obtain ⟨rfl, rfl, rfl⟩ := trodAll_nil r1
  obtain rfl : args = #[v0, v1] := by cases args; simp_all
  obtain ⟨rfl, rfl⟩ := trodVars_none hV
  obtain ⟨a0N, a0w, a0b⟩ := open_strs_bk (hval 0 43 v0 rfl rfl) h0
  obtain ⟨a1N, a1w, a1b⟩ := open_strs_bk (hval 1 43 v1 rfl rfl) h1
  have hbulk := of_decide_eq_true (hcond _ rfl)
  simp only [Rows.uptoBulkAll, List.append_nil] at hbulk
  clear hA0 hval0
  refine (scopes_walk_b a0N _ a1N _ W hE a0w a1w (by omega)).mono fun e W' ⟨he, hg⟩ => ?_
  subst he
  exact ⟨_, rfl, law_post Tryd.laidOut (by kernel_rfl) rfl rfl Tryd.underlying4 hW' rfl hg⟩

theorem nameScopes_said : Rows.NameScopesUptoSaid :=
  OpenClaim.holds_of_cond 12 Tryd.f12 rfl rfl rfl rfl rfl rfl rfl ⟨rfl, rfl, rfl, rfl, rfl⟩ rfl rfl rfl rfl rfl (by kernel_rfl) Tryd.func12 (by kernel_rfl)
    (of_decide_eq_true (by kernel_rfl)) (by unfold Func.isWrapper; first | (rw [if_pos (by decide +kernel)]; kernel_rfl) | (rw [if_neg (by decide +kernel)]; exact ⟨rfl, rfl⟩))
    (fun os started H enc _ F => by rw [OpenClaim.pre_eq_preRow]; exact nameScopes_lifted os started H enc F)

theorem nameScopes_plain (f : FuncId) (fn : Func) (hf : Tryd.pinned.checked.prog.funcNamed "casuist/casuistlaw17.NameScopes" = some f) (hfn : Tryd.pinned.checked.prog.funcs[f]? = some fn) :
    false = Tryd.pinned.checked.prog.looks [] ∧ ∀ (j : Nat) t, fn.params[j]? = some t → Tryd.pinned.checked.prog.wantsStandIn t = false := by
  obtain rfl : f = 12 := Option.some.inj ((show Tryd.prog.funcNamed "casuist/casuistlaw17.NameScopes" = some 12 by kernel_rfl).symm.trans hf) |>.symm
  obtain rfl : fn = Tryd.f12 := (Option.some.inj (Tryd.func12.symm.trans hfn)).symm
  refine ⟨by kernel_rfl, fun j t ht => ?_⟩
  rw [Tryd.params12] at ht
  have hm := Array.mem_of_getElem? ht
  simp only [List.mem_toArray, List.mem_cons, List.not_mem_nil, or_false] at hm
  rcases hm with rfl | rfl
  · exact (show Tryd.prog.wantsStandIn 43 = false by kernel_rfl)
  · exact (show Tryd.prog.wantsStandIn 43 = false by kernel_rfl)

theorem nameScopes_holds : Rows.NameScopesUptoCardSaid :=
  Claim7.holds_tied_plain_at .later [] _ _ _ _ nameScopes_said (fun _ h => by cases h) (by kernel_rfl) (fun _ h => by cases h) nameScopesUpto_row_tie rfl ⟨rfl, rfl⟩ (by kernel_rfl) rfl nameScopes_plain (by kernel_rfl)

#print axioms nameScopes_holds

end Go.Proofs.YtnamnldijopkfaaDoor
