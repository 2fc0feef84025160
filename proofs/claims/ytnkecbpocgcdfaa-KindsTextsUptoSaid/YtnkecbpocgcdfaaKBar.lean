/-
  A region that draws its order, and stores into a cell that it has loaded: up to one operation (the first such store) a condition T holds, behind it a weaker condition S: what waits for a load may be behind the store.
-/
import Derived.Test.YtnkecbpocgcdfaaKa
namespace Go.Proofs.Ytnkecbpocgcdfaa
open Go.ChangeShapes Go.WideShapes Go.ChangeAt Go.RowKit Go.Joins

section
variable {P : Program} {ops : Array Oper} {Q : Exit → Act → World → Prop} {md : Region.Mode} {S T : World → Prop} {k : Nat}

/-- whatever order: ahead of operation k T holds behind each, from k on S -/
def RunB (P : Program) (md : Region.Mode) (ops : Array Oper) (Q : Exit → Act → World → Prop) (S T : World → Prop) (k : Nat) : Nat → Array Bool → Act → World → Prop
  | 0, listed, a, w => Region.ready md ops listed = [] ∧ Q .normal a w
  | fuel + 1, listed, a, w =>
    (Region.ready md ops listed = [] → Q .normal a w) ∧
    ∀ i ∈ Region.ready md ops listed, wpOp P ops Q i (fun a' w' => (i = k ∧ S w' ∧ wpAnyH P md ops Q S fuel (listed.setIfInBounds i true) a' w') ∨ (i ≠ k ∧ T w' ∧ RunB P md ops Q S T k fuel (listed.setIfInBounds i true) a' w')) a w

theorem any_of_runB : ∀ (fuel : Nat) (listed : Array Bool) (a : Act) (w : World), RunB P md ops Q S T k fuel listed a w → wpAny P md ops Q fuel listed a w
  | 0, _, _, _, h => h
  | fuel + 1, _, _, _, h => ⟨h.1, fun i hi => wpOp_mono (fun a' w' h' => by
      rcases h' with ⟨_, _, h'⟩ | ⟨_, _, h'⟩
      · exact wpAny_of_held fuel _ a' w' h'
      · exact any_of_runB fuel _ a' w' h') (h.2 i hi)⟩

theorem not_on {i : Nat} {oj : Oper} {listed : Array Bool} (hr : i ∈ Region.ready md ops listed) (hall : ∀ e ∈ oj.after, Region.binds md e = true → listed.getD e.on false = true) :
    ∀ e ∈ oj.after, Region.binds md e = true → e.on ≠ i := fun e he hb heq => by
  have h1 := hall e he hb
  have h0 := (mem_ready.1 hr).1
  rw [heq] at h1
  rcases Nat.lt_or_ge i listed.size with h' | h'
  · simp [h'] at h0 h1; rw [h0] at h1; cases h1
  · simp [Array.getElem?_eq_none h'] at h1

theorem free_set {i j : Nat} {oi : Oper} {listed : Array Bool} (hjun : listed.getD j true = false)
    (hfree : ∀ n on, ops[n]? = some on → n ≠ i → listed.getD n true = false → (∀ e ∈ on.after, Region.binds md e = true → e.on ≠ i) → oi.apart ops on = true) :
    ∀ n on, ops[n]? = some on → n ≠ i → (listed.setIfInBounds j true).getD n true = false → (∀ e ∈ on.after, Region.binds md e = true → e.on ≠ i) → oi.apart ops on = true := fun n on hn hni hun hno => by
  refine hfree n on hn hni ?_ hno
  by_cases hjk : j = n
  · subst hjk; exact hjun
  · rw [getD_set_ne true hjk] at hun; exact hun

/-- taken ahead: what yields under the weaker condition -/
theorem runB_firstS {i : Nat} {oi : Oper} {v : Value} (hTS : ∀ w, T w → S w) (hik : i ≠ k) (hi : ops[i]? = some oi) (hsel : ∀ (j : Nat) (o : Oper) cs b, ops[j]? = some o → o.op ≠ .select cs b)
    (hQ : ∀ c a w, Q (.panic c) (a.put oi.dst v) w → Q (.panic c) a w) :
    ∀ (fuel : Nat) (listed : Array Bool) (a : Act) (w : World),
      (∀ j oj, ops[j]? = some oj → j ≠ i → listed.getD j true = false → (∀ e ∈ oj.after, Region.binds md e = true → e.on ≠ i) → oi.apart ops oj = true) →
      i ∈ Region.ready md ops listed → YieldsIf P ops S oi v a → T w →
      RunB P md ops Q S T k fuel (listed.setIfInBounds i true) (a.put oi.dst v) w → RunB P md ops Q S T k (fuel + 1) listed a w := by
  intro fuel
  induction fuel with
  | zero =>
    intro listed a w _ hr hy hS H
    refine ⟨fun h => (by rw [h] at hr; cases hr), fun j hj => ?_⟩
    by_cases hji : j = i
    · subst hji; exact hy.wpOp hi (hTS _ hS) (Or.inr ⟨hik, hS, H⟩)
    · have := ready_mono hj hji
      rw [H.1] at this
      cases this
  | succ fuel ih =>
    intro listed a w hfree hr hy hS H
    refine ⟨fun h => (by rw [h] at hr; cases hr), fun j hj => ?_⟩
    by_cases hji : j = i
    · subst hji; exact hy.wpOp hi (hTS _ hS) (Or.inr ⟨hik, hS, H⟩)
    · have h1 := H.2 j (ready_mono hj hji)
      obtain ⟨hjun, oj, hoj, hall⟩ := mem_ready.1 hj
      have hnot := not_on hr hall
      have h2 := wpOp_putIf hoj (hfree j oj hoj hji hjun hnot) (fun cs b => hsel i oi cs b hi) (fun cs b => hsel j oj cs b hoj) hQ hy h1
      refine wpOp_mono (fun a' w' h3 => ?_) h2
      rcases h3.2 with ⟨h4, h5, h6⟩ | ⟨h4, h5, h6⟩
      · refine Or.inl ⟨h4, h5, wpAnyH_first hi hsel hQ fuel _ a' w' (free_set hjun hfree) (ready_mono hr (Ne.symm hji)) h3.1 h5 ?_⟩
        rw [Array.setIfInBounds_comm _ _ hji]
        exact h6
      · refine Or.inr ⟨h4, h5, ih _ a' w' (free_set hjun hfree) (ready_mono hr (Ne.symm hji)) h3.1 h5 ?_⟩
        rw [Array.setIfInBounds_comm _ _ hji]
        exact h6

/-- does operation k wait for i -/
def waitsB (md : Region.Mode) (ops : Array Oper) (k i : Nat) : Bool :=
  match ops[k]? with
  | none => true
  | some ok => ok.after.any fun e => Region.binds md e && e.on == i

theorem waitsB_spec {i : Nat} (h : waitsB md ops k i = true) {ok : Oper} (hk : ops[k]? = some ok) : ¬ ∀ e ∈ ok.after, Region.binds md e = true → e.on ≠ i := by
  intro hn
  simp only [waitsB, hk] at h
  obtain ⟨e, he, hb⟩ := Array.any_eq_true'.1 h
  simp only [Bool.and_eq_true, beq_iff_eq] at hb
  exact hn e he hb.1 hb.2

/-- taken ahead: what yields under T, where operation k waits for it -/
theorem runB_firstT {i : Nat} {oi : Oper} {v : Value} (hik : i ≠ k) (hwait : waitsB md ops k i = true) (hi : ops[i]? = some oi) (hsel : ∀ (j : Nat) (o : Oper) cs b, ops[j]? = some o → o.op ≠ .select cs b)
    (hQ : ∀ c a w, Q (.panic c) (a.put oi.dst v) w → Q (.panic c) a w) :
    ∀ (fuel : Nat) (listed : Array Bool) (a : Act) (w : World),
      (∀ j oj, ops[j]? = some oj → j ≠ i → listed.getD j true = false → (∀ e ∈ oj.after, Region.binds md e = true → e.on ≠ i) → oi.apart ops oj = true) →
      i ∈ Region.ready md ops listed → YieldsIf P ops T oi v a → T w →
      RunB P md ops Q S T k fuel (listed.setIfInBounds i true) (a.put oi.dst v) w → RunB P md ops Q S T k (fuel + 1) listed a w := by
  intro fuel
  induction fuel with
  | zero =>
    intro listed a w _ hr hy hS H
    refine ⟨fun h => (by rw [h] at hr; cases hr), fun j hj => ?_⟩
    by_cases hji : j = i
    · subst hji; exact hy.wpOp hi hS (Or.inr ⟨hik, hS, H⟩)
    · have := ready_mono hj hji
      rw [H.1] at this
      cases this
  | succ fuel ih =>
    intro listed a w hfree hr hy hS H
    refine ⟨fun h => (by rw [h] at hr; cases hr), fun j hj => ?_⟩
    by_cases hji : j = i
    · subst hji; exact hy.wpOp hi hS (Or.inr ⟨hik, hS, H⟩)
    · have h1 := H.2 j (ready_mono hj hji)
      obtain ⟨hjun, oj, hoj, hall⟩ := mem_ready.1 hj
      have hnot := not_on hr hall
      have h2 := wpOp_putIf hoj (hfree j oj hoj hji hjun hnot) (fun cs b => hsel i oi cs b hi) (fun cs b => hsel j oj cs b hoj) hQ hy h1
      refine wpOp_mono (fun a' w' h3 => ?_) h2
      rcases h3.2 with ⟨h4, h5, h6⟩ | ⟨h4, h5, h6⟩
      · subst h4
        exact absurd hnot (waitsB_spec hwait hoj)
      · refine Or.inr ⟨h4, h5, ih _ a' w' (free_set hjun hfree) (ready_mono hr (Ne.symm hji)) h3.1 h5 ?_⟩
        rw [Array.setIfInBounds_comm _ _ hji]
        exact h6

theorem runB_takeS {i : Nat} {oi : Oper} {v : Value} {fuel : Nat} {listed : Array Bool} {a : Act} {w : World} (hTS : ∀ w, T w → S w) (hik : i ≠ k) (hi : ops[i]? = some oi)
    (hs : Region.noSelect ops = true) (hf : Region.free md ops listed i = true) (hr : (Region.ready md ops listed).contains i = true)
    (hQ : ∀ c a w, Q (.panic c) (a.put oi.dst v) w → Q (.panic c) a w) (hy : YieldsIf P ops S oi v a) (hS : T w)
    (h : RunB P md ops Q S T k fuel (listed.setIfInBounds i true) (a.put oi.dst v) w) : RunB P md ops Q S T k (fuel + 1) listed a w :=
  runB_firstS hTS hik hi (Region.noSelect_spec hs) hQ fuel listed a w (Region.free_spec hi hf) (by simpa using hr) hy hS h

theorem runB_takeT {i : Nat} {oi : Oper} {v : Value} {fuel : Nat} {listed : Array Bool} {a : Act} {w : World} (hik : i ≠ k) (hwait : waitsB md ops k i = true) (hi : ops[i]? = some oi)
    (hs : Region.noSelect ops = true) (hf : Region.free md ops listed i = true) (hr : (Region.ready md ops listed).contains i = true)
    (hQ : ∀ c a w, Q (.panic c) (a.put oi.dst v) w → Q (.panic c) a w) (hy : YieldsIf P ops T oi v a) (hS : T w)
    (h : RunB P md ops Q S T k fuel (listed.setIfInBounds i true) (a.put oi.dst v) w) : RunB P md ops Q S T k (fuel + 1) listed a w :=
  runB_firstT hik hwait hi (Region.noSelect_spec hs) hQ fuel listed a w (Region.free_spec hi hf) (by simpa using hr) hy hS h

theorem runB_begin {id : Nat} {a : Act} {w : World} (k : Nat) (hm : P.follows .mixedOrders = true) (hT : T w.drew)
    (h : T w.drew → RunB P .any ops Q S T k ops.size (Array.replicate ops.size false) a w.drew) : (Code.region id ops true).wp P Q a w :=
  wp_region_any hm (any_of_runB _ _ _ _ (h hT))

/-- one operation, not k, is next -/
theorem runB_one {i : Nat} {o : Oper} {fuel : Nat} {listed : Array Bool} {a : Act} {w : World} (hr : Region.ready md ops listed = [i]) (hik : i ≠ k) (ho : ops[i]? = some o)
    (h : ∀ K' : Act → World → Prop, Shut (∀ a w, T w → (T w → RunB P md ops Q S T k fuel (listed.setIfInBounds i true) a w) → K' a w) → if Region.wanted o (yielded ops a.tmps) = true then Oper.wp P o a w K' Q else K' (a.put o.dst undef) w) :
    RunB P md ops Q S T k (fuel + 1) listed a w :=
  by
    refine ⟨fun h0 => absurd (hr.symm.trans h0) (by simp), fun j hj => ?_⟩
    rw [hr] at hj
    obtain rfl : j = i := by simpa using hj
    exact wpOp_step ho (fun K' hK => h K' (fun a w hS hW => hK a w (Or.inr ⟨hik, hS, hW hS⟩)))

/-- operation k is next -/
theorem runB_last {o : Oper} {fuel : Nat} {listed : Array Bool} {a : Act} {w : World} (hr : Region.ready md ops listed = [k]) (ho : ops[k]? = some o)
    (h : ∀ K' : Act → World → Prop, Shut (∀ a w, S w → (S w → wpAnyH P md ops Q S fuel (listed.setIfInBounds k true) a w) → K' a w) → if Region.wanted o (yielded ops a.tmps) = true then Oper.wp P o a w K' Q else K' (a.put o.dst undef) w) :
    RunB P md ops Q S T k (fuel + 1) listed a w :=
  by
    refine ⟨fun h0 => absurd (hr.symm.trans h0) (by simp), fun j hj => ?_⟩
    rw [hr] at hj
    obtain rfl : j = k := by simpa using hj
    exact wpOp_step ho (fun K' hK => h K' (fun a w hS hW => hK a w (Or.inl ⟨rfl, hS, hW hS⟩)))
end

end Go.Proofs.Ytnkecbpocgcdfaa
