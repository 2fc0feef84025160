/-
  The law's own conforming is the relation, of types that may be; and the relation's plain laws.
-/
import Derived.Test.YtnkecbpocgcdfaaKj
namespace Go.Proofs.Ytnkecbpocgcdfaa
open Go.ChangeShapes Go.WideShapes Go.ChangeAt Go.RowKit Go.Joins

theorem mayB_parts (T : Ty) (h : mayB T = true) : allB T.items = true ∧ headB T.kind T.items.length T.names = true := by
  obtain ⟨k, ts, ns⟩ := T
  rw [mayB, Bool.and_eq_true] at h
  exact h

theorem mayB_item (T : Ty) (h : mayB T = true) (j : Nat) (hj : j < T.items.length) : mayB (T.items.getD j noTy) = true := by
  rw [getD_at hj]
  cases hc : mayB T.items[j]
  · have := allB_false T.items j hj hc
    rw [(mayB_parts T h).1] at this
    simp at this
  · rfl

/-- what a context has: as many names as items, each name once -/
theorem may_ctx (T : Ty) (h : mayB T = true) (hk : T.kind = 11) : T.items.length = T.names.length ∧ dist T.names = true := by
  have := (mayB_parts T h).2
  unfold headB at this
  rw [if_pos hk, Bool.and_eq_true, decide_eq_true_eq] at this
  exact ⟨this.2, this.1⟩

theorem may_one (T : Ty) (h : mayB T = true) (hk : T.kind = 10 ∨ T.kind = 12) : T.items.length = 1 := by
  have := (mayB_parts T h).2
  unfold headB simB at this
  rw [if_neg (by omega)] at this
  by_cases c : 0 < T.names.length
  · rw [if_pos c] at this; simp at this
  · rw [if_neg c] at this
    simp at this
    omega

theorem may_fn (T : Ty) (h : mayB T = true) (hk : T.kind = 13) : 0 < T.items.length := by
  have := (mayB_parts T h).2
  unfold headB simB at this
  rw [if_neg (by omega)] at this
  by_cases c : 0 < T.names.length
  · rw [if_pos c] at this; simp at this
  · rw [if_neg c] at this
    simp at this
    omega

theorem may_flat (T : Ty) (h : mayB T = true) (hk : ¬ (T.kind = 10 ∨ T.kind = 11 ∨ T.kind = 12 ∨ T.kind = 13)) : T.items.length = 0 := by
  have := (mayB_parts T h).2
  unfold headB simB at this
  rw [if_neg (by omega)] at this
  by_cases c : 0 < T.names.length
  · rw [if_pos c] at this; simp at this
  · rw [if_neg c] at this
    simp only [Bool.or_eq_true, Bool.and_eq_true, decide_eq_true_eq] at this
    omega

theorem idx_at (ns : List ByteArray) (hd : dist ns = true) (j : Nat) (hj : j < ns.length) : Lib.idxOfS ns (ns.getD j ByteArray.empty) = j := by
  have e : ns.getD j ByteArray.empty = ns[j] := by rw [List.getD, List.getElem?_eq_getElem hj]; rfl
  have q := Lib.idxOfS_hit ns ns.length j (ns.getD j ByteArray.empty) hj (Nat.le_refl _) rfl (fun i hi => by
    rw [e, List.getD, List.getElem?_eq_getElem (show i < ns.length by omega)]
    exact (dist_iff ns).1 hd i j (by omega) hj hi)
  rw [List.take_length] at q
  exact q

theorem entry_own (T : Ty) (h : mayB T = true) (hk : T.kind = 11) (j : Nat) (hj : j < T.names.length) : entryT T (T.names.getD j ByteArray.empty) = some (T.items.getD j noTy) := by
  obtain ⟨e1, e2⟩ := may_ctx T h hk
  unfold entryT
  rw [idx_at T.names e2 j hj, if_pos (by omega)]
  rfl

theorem conf_refl : ∀ (N : Nat) (T : Ty), T.sz ≤ N → mayB T = true → Conf T T := by
  intro N
  induction N with
  | zero => intro T h; have := sz_pos T; omega
  | succ N ih =>
    intro T h hm
    have item : ∀ j, j < T.items.length → Conf (T.items.getD j noTy) (T.items.getD j noTy) := fun j hj => by
      refine ih _ ?_ (mayB_item T hm j hj)
      rw [getD_at hj]
      have := sz_item T j hj
      omega
    by_cases h1 : T.kind = 10 ∨ T.kind = 12
    · have l := may_one T hm h1
      exact .one rfl h1 l l (item 0 (by omega))
    · by_cases h2 : T.kind = 11
      · obtain ⟨e1, e2⟩ := may_ctx T hm h2
        refine .ctx rfl h2 (fun j => T.items.getD j noTy) (fun j hj => ⟨entry_own T hm h2 j hj, by omega⟩) (fun j hj => item j (by omega))
      · by_cases h3 : T.kind = 13
        · have l := may_fn T hm h3
          exact .fn rfl h3 l rfl (fun j hj => item j (by omega)) (item _ (by omega))
        · exact .flat rfl (by omega)

theorem entry_in {T X : Ty} {x : ByteArray} (h : entryT T x = some X) : ∃ j, j < T.items.length ∧ X = T.items.getD j noTy := by
  obtain ⟨j, hj, _, rfl⟩ := entry_some h
  exact ⟨j, hj, (getD_at hj).symm⟩

theorem sz_getD (T : Ty) (j : Nat) (h : j < T.items.length) : (T.items.getD j noTy).sz < T.sz := by
  rw [getD_at h]; exact sz_item T j h

theorem entry_idx {T X : Ty} {x : ByteArray} (h : entryT T x = some X) : ∃ i : Nat, Lib.idxOfS T.names x = i ∧ i < T.items.length ∧ X = T.items.getD i noTy ∧ i < T.names.length ∧ T.names.getD i ByteArray.empty = x := by
  obtain ⟨j, hj, e, rfl⟩ := entry_some h
  have hm : x ∈ T.names := (idx_mem x T.names).1 (by omega)
  obtain ⟨q, hq, hx⟩ := List.mem_iff_getElem.1 hm
  -- the first place at which x stands
  have first : ∀ (n : Nat) (zs : List ByteArray) (k : Nat), Lib.idxFromS zs x k = (k + n : Nat) → n < zs.length ∧ zs.getD n ByteArray.empty = x := by
    intro n
    induction n with
    | zero =>
      intro zs k h
      cases zs with
      | nil => simp [Lib.idxFromS] at h <;> omega
      | cons z zs =>
        rw [Lib.idxFromS] at h
        by_cases c : z = x
        · exact ⟨by simp, by simpa using c⟩
        · rw [if_neg c] at h
          exfalso
          have : 0 ≤ Lib.idxFromS zs x (k + 1) := by omega
          have lower : ∀ (zs : List ByteArray) (k : Nat), 0 ≤ Lib.idxFromS zs x k → (k : Int) ≤ Lib.idxFromS zs x k := by
            intro zs
            induction zs with
            | nil => intro k h; simp [Lib.idxFromS] at h
            | cons z zs ih =>
              intro k h
              rw [Lib.idxFromS] at h ⊢
              by_cases c : z = x
              · rw [if_pos c]; omega
              · rw [if_neg c] at h ⊢
                have := ih (k + 1) h
                omega
          have := lower zs (k + 1) this
          omega
    | succ n ih =>
      intro zs k h
      cases zs with
      | nil => simp [Lib.idxFromS] at h <;> omega
      | cons z zs =>
        rw [Lib.idxFromS] at h
        by_cases c : z = x
        · rw [if_pos c] at h; omega
        · rw [if_neg c] at h
          obtain ⟨a, b⟩ := ih zs (k + 1) (by omega)
          exact ⟨by simp; omega, by simpa using b⟩
  obtain ⟨a, b⟩ := first j T.names 0 (by unfold Lib.idxOfS at e; omega)
  exact ⟨j, e, hj, (getD_at hj).symm, a, b⟩

theorem conf_trans : ∀ (N : Nat) (a b c : Ty), a.sz + b.sz + c.sz ≤ N → mayB a = true → mayB b = true → mayB c = true → Conf a b → Conf b c → Conf a c := by
  intro N
  induction N with
  | zero => intro a b c h; have := sz_pos a; omega
  | succ N ih =>
    intro a b c h ha hb hc h1 h2
    by_cases ka : a.kind = 1
    · exact .null ka
    by_cases kc : c.kind = 14
    · exact .any kc
    by_cases kb : b.kind = 1
    · -- b is Null: a conforms to it, so it is Null, too
      cases h1 with
      | null q => exact .null q
      | any q => omega
      | one e k => omega
      | ctx e k => omega
      | fn e k => omega
      | flat e k => exact absurd (e.trans kb) ka
    by_cases kb2 : b.kind = 14
    · cases h2 with
      | null q => omega
      | any q => exact .any q
      | one e k => omega
      | ctx e k => omega
      | fn e k => omega
      | flat e k => exact absurd (e.symm.trans kb2) kc
    have e1 : a.kind = b.kind := Classical.byContradiction fun q => conf_differ ka kb2 q h1
    have e2 : b.kind = c.kind := Classical.byContradiction fun q => conf_differ kb kc q h2
    by_cases k1 : a.kind = 10 ∨ a.kind = 12
    · obtain ⟨l1, l2, p⟩ := (conf_one_iff e1 k1).1 h1
      obtain ⟨l3, l4, q⟩ := (conf_one_iff e2 (by omega)).1 h2
      have s1 := sz_getD a 0 (by omega)
      have s2 := sz_getD b 0 (by omega)
      have s3 := sz_getD c 0 (by omega)
      exact (conf_one_iff (e1.trans e2) k1).2 ⟨l1, l4, ih _ _ _ (by omega) (mayB_item a ha 0 (by omega)) (mayB_item b hb 0 (by omega)) (mayB_item c hc 0 (by omega)) p q⟩
    by_cases k2 : a.kind = 11
    · refine (conf_ctx_iff (e1.trans e2) k2).2 (fun j hj => ?_)
      obtain ⟨Y, y1, y2, y3⟩ := (conf_ctx_iff e2 (by omega)).1 h2 j hj
      obtain ⟨i, _, hi, rfl, hn, hx⟩ := entry_idx y1
      obtain ⟨X, x1, x2, x3⟩ := (conf_ctx_iff e1 k2).1 h1 i hn
      rw [hx] at x1
      obtain ⟨q, _, hq, rfl, _, _⟩ := entry_idx x1
      have s1 := sz_getD a q hq
      have s2 := sz_getD b i hi
      have s3 := sz_getD c j y2
      exact ⟨_, x1, y2, ih _ _ _ (by omega) (mayB_item a ha q hq) (mayB_item b hb i hi) (mayB_item c hc j y2) x3 y3⟩
    by_cases k3 : a.kind = 13
    · obtain ⟨p0, p1, p2, p3⟩ := (conf_fn_iff e1 k3).1 h1
      obtain ⟨q0, q1, q2, q3⟩ := (conf_fn_iff e2 (by omega)).1 h2
      refine (conf_fn_iff (e1.trans e2) k3).2 ⟨p0, p1.trans q1, fun j hj => ?_, ?_⟩
      · have s1 := sz_getD a j (by omega)
        have s2 := sz_getD b j (by omega)
        have s3 := sz_getD c j (by omega)
        exact ih _ _ _ (by omega) (mayB_item c hc j (by omega)) (mayB_item b hb j (by omega)) (mayB_item a ha j (by omega)) (q2 j (by omega)) (p2 j hj)
      · have s1 := sz_getD a (a.items.length - 1) (by omega)
        have s2 := sz_getD b (a.items.length - 1) (by omega)
        have s3 := sz_getD c (a.items.length - 1) (by omega)
        rw [← p1] at q3
        exact ih _ _ _ (by omega) (mayB_item a ha _ (by omega)) (mayB_item b hb _ (by omega)) (mayB_item c hc _ (by omega)) p3 q3
    exact .flat (e1.trans e2) (by omega)

end Go.Proofs.Ytnkecbpocgcdfaa
