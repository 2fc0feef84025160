/-
  The plain laws of Join: it may be, both conform to it, and it is the least, of types without functions.
-/
import Derived.Test.YtnkecbpocgcdfaaKJctx
namespace Go.Proofs.Ytnkecbpocgcdfaa
open Go.ChangeShapes Go.WideShapes Go.ChangeAt Go.RowKit Go.Joins

theorem joinF_cases (n : Nat) (a b : Ty) (P : Ty → Prop) (hr : Conf a b → P b) (hl : ¬ Conf a b → Conf b a → P a)
    (ho : ¬ Conf a b → ¬ Conf b a → a.kind = b.kind → (a.kind = 10 ∨ a.kind = 12) → a.items.length = 1 → b.items.length = 1 → P (.mk a.kind [joinF n (a.items.getD 0 noTy) (b.items.getD 0 noTy)] []))
    (hc : ¬ Conf a b → ¬ Conf b a → a.kind = 11 → b.kind = 11 → P (.mk 11 ((ctxIdx a b a.names.length).map fun k => joinF n (a.items.getD k noTy) (pairOf b (nameAt a k))) ((ctxIdx a b a.names.length).map (nameAt a))))
    (ha : ¬ Conf a b → ¬ Conf b a → ¬ (a.kind = b.kind ∧ (a.kind = 10 ∨ a.kind = 12) ∧ a.items.length = 1 ∧ b.items.length = 1) → ¬ (a.kind = 11 ∧ b.kind = 11) → P (.mk 14 [] [])) : P (joinF (n + 1) a b) := by
  by_cases c1 : Conf a b
  · unfold joinF
    rw [if_pos (confB_of c1)]
    exact hr c1
  · by_cases c2 : Conf b a
    · unfold joinF
      rw [if_neg (by rw [confB_not c1]; decide), if_pos (confB_of c2)]
      exact hl c1 c2
    · by_cases c3 : a.kind = b.kind ∧ (a.kind = 10 ∨ a.kind = 12) ∧ a.items.length = 1 ∧ b.items.length = 1
      · rw [joinF_one c1 c2 c3.1 c3.2.1 c3.2.2.1 c3.2.2.2]
        exact ho c1 c2 c3.1 c3.2.1 c3.2.2.1 c3.2.2.2
      · by_cases c4 : a.kind = 11 ∧ b.kind = 11
        · rw [joinF_ctx c1 c2 c4.1 c4.2]
          exact hc c1 c2 c4.1 c4.2
        · rw [joinF_any c1 c2 c3 c4]
          exact ha c1 c2 c3 c4

theorem allB_of : ∀ (ts : List Ty), (∀ t ∈ ts, mayB t = true) → allB ts = true
  | [], _ => rfl
  | t :: ts, h => by rw [allB, h t (by simp), allB_of ts (fun x hx => h x (by simp [hx]))]; rfl

theorem pair_may {T : Ty} (h : mayB T = true) (x : ByteArray) (hs : (entryT T x).isSome = true) : mayB (pairOf T x) = true := by
  unfold pairOf
  cases he : entryT T x with
  | none => rw [he] at hs; cases hs
  | some X =>
    obtain ⟨j, hj, rfl⟩ := entry_in he
    exact mayB_item T h j hj

theorem map_getD {α β : Type} (L : List α) (f : α → β) (d : β) (q : Nat) (h : q < L.length) : (L.map f).getD q d = f L[q] := by
  rw [List.getD, List.getElem?_map, List.getElem?_eq_getElem h]
  rfl

theorem ctxIdx_nodup (a b : Ty) (j : Nat) : (ctxIdx a b j).Nodup := List.Nodup.sublist List.filter_sublist List.nodup_range

theorem join_may : ∀ (n : Nat) (a b : Ty), mayB a = true → mayB b = true → mayB (joinF n a b) = true := by
  intro n
  induction n with
  | zero => intro a b _ _; rfl
  | succ n ih =>
    intro a b ha hb
    refine joinF_cases n a b (fun c => mayB c = true) (fun _ => hb) (fun _ _ => ha) (fun _ _ he hk la lb => ?_) (fun _ _ ka kb => ?_) (fun _ _ _ _ => rfl)
    · have h1 := ih _ _ (mayB_item a ha 0 (by omega)) (mayB_item b hb 0 (by omega))
      rw [mayB, allB, allB, h1]
      have k11 : ¬ a.kind = 11 := by omega
      simp [headB, k11, hk]
    · rw [mayB, allB_of _ (fun t ht => ?_)]
      · obtain ⟨e1, e2⟩ := may_ctx a ha ka
        have hd : dist ((ctxIdx a b a.names.length).map (nameAt a)) = true := by
          rw [dist_iff] at e2 ⊢
          intro i j hi hj hij
          simp only [List.length_map] at hi hj
          rw [List.getElem_map, List.getElem_map]
          have m1 := (ctxIdx_mem.1 (List.getElem_mem hi)).1
          have m2 := (ctxIdx_mem.1 (List.getElem_mem hj)).1
          have ne : (ctxIdx a b a.names.length)[i] ≠ (ctxIdx a b a.names.length)[j] := by
            have := List.pairwise_iff_getElem.1 (ctxIdx_nodup a b a.names.length) i j hi hj hij
            exact this
          unfold nameAt
          rw [List.getD, List.getElem?_eq_getElem m1, List.getD, List.getElem?_eq_getElem m2]
          show a.names[(ctxIdx a b a.names.length)[i]] ≠ a.names[(ctxIdx a b a.names.length)[j]]
          rcases Nat.lt_or_gt_of_ne ne with c | c
          · exact e2 _ _ m1 m2 c
          · exact Ne.symm (e2 _ _ m2 m1 c)
        simp [headB, hd]
      · obtain ⟨k, hk, rfl⟩ := List.mem_map.1 ht
        exact ih _ _ (mayB_item a ha k (ctxIdx_mem.1 hk).2.1) (pair_may hb _ (ctxIdx_mem.1 hk).2.2)

theorem join_upper : ∀ (n : Nat) (a b : Ty), mayB a = true → mayB b = true → Conf a (joinF n a b) ∧ Conf b (joinF n a b) := by
  intro n
  induction n with
  | zero => intro a b _ _; exact ⟨.any rfl, .any rfl⟩
  | succ n ih =>
    intro a b ha hb
    refine joinF_cases n a b (fun c => Conf a c ∧ Conf b c) (fun h => ⟨h, conf_refl _ b (Nat.le_refl _) hb⟩) (fun _ h => ⟨conf_refl _ a (Nat.le_refl _) ha, h⟩) (fun _ _ he hk la lb => ?_) (fun _ _ ka kb => ?_) (fun _ _ _ _ => ⟨.any rfl, .any rfl⟩)
    · obtain ⟨h1, h2⟩ := ih _ _ (mayB_item a ha 0 (by omega)) (mayB_item b hb 0 (by omega))
      exact ⟨.one rfl hk la rfl h1, .one he.symm (by omega) lb rfl h2⟩
    · constructor
      · rw [conf_ctx_iff (a := a) (b := .mk 11 _ _) ka ka]
        intro q hq
        change q < ((ctxIdx a b a.names.length).map (nameAt a)).length at hq
        simp only [List.length_map] at hq
        have hm := ctxIdx_mem.1 (List.getElem_mem hq)
        refine ⟨a.items.getD (ctxIdx a b a.names.length)[q] noTy, ?_, by simpa [Ty.items] using hq, ?_⟩
        · show entryT a (((ctxIdx a b a.names.length).map (nameAt a)).getD q ByteArray.empty) = _
          rw [map_getD _ _ _ q hq]
          exact entry_own a ha ka _ hm.1
        · show Conf _ (((ctxIdx a b a.names.length).map fun k => joinF n (a.items.getD k noTy) (pairOf b (nameAt a k))).getD q noTy)
          rw [map_getD _ _ _ q hq]
          exact (ih _ _ (mayB_item a ha _ hm.2.1) (pair_may hb _ hm.2.2)).1
      · rw [conf_ctx_iff (a := b) (b := .mk 11 _ _) kb kb]
        intro q hq
        change q < ((ctxIdx a b a.names.length).map (nameAt a)).length at hq
        simp only [List.length_map] at hq
        have hm := ctxIdx_mem.1 (List.getElem_mem hq)
        refine ⟨pairOf b (nameAt a (ctxIdx a b a.names.length)[q]), ?_, by simpa [Ty.items] using hq, ?_⟩
        · show entryT b (((ctxIdx a b a.names.length).map (nameAt a)).getD q ByteArray.empty) = _
          rw [map_getD _ _ _ q hq]
          obtain ⟨X, hX⟩ := Option.isSome_iff_exists.1 hm.2.2
          have hX' : entryT b (nameAt a (ctxIdx a b a.names.length)[q]) = some X := hX
          rw [pairOf, hX']
          rfl
        · show Conf _ (((ctxIdx a b a.names.length).map fun k => joinF n (a.items.getD k noTy) (pairOf b (nameAt a k))).getD q noTy)
          rw [map_getD _ _ _ q hq]
          exact (ih _ _ (mayB_item a ha _ hm.2.1) (pair_may hb _ hm.2.2)).2

/-! ### types without functions -/

mutual
def plainB : Ty → Bool
  | .mk k ts _ => plainL ts && decide (k ≠ 13)
def plainL : List Ty → Bool
  | [] => true
  | t :: ts => plainB t && plainL ts
end

theorem plainL_of : ∀ (ts : List Ty), (∀ t ∈ ts, plainB t = true) → plainL ts = true
  | [], _ => rfl
  | t :: ts, h => by rw [plainL, h t (by simp), plainL_of ts (fun x hx => h x (by simp [hx]))]; rfl

theorem plainL_at : ∀ (ts : List Ty), plainL ts = true → ∀ t ∈ ts, plainB t = true
  | [], _, t, ht => absurd ht (by simp)
  | x :: ts, h, t, ht => by
    rw [plainL, Bool.and_eq_true] at h
    rcases List.mem_cons.1 ht with rfl | ht
    · exact h.1
    · exact plainL_at ts h.2 t ht

theorem plain_kind {T : Ty} (h : plainB T = true) : T.kind ≠ 13 := by
  obtain ⟨k, ts, ns⟩ := T
  rw [plainB, Bool.and_eq_true, decide_eq_true_eq] at h
  exact h.2

theorem plain_item {T : Ty} (h : plainB T = true) (j : Nat) : plainB (T.items.getD j noTy) = true := by
  by_cases hj : j < T.items.length
  · rw [getD_at hj]
    obtain ⟨k, ts, ns⟩ := T
    rw [plainB, Bool.and_eq_true] at h
    exact plainL_at ts h.1 _ (List.getElem_mem hj)
  · rw [List.getD, List.getElem?_eq_none (by omega)]
    rfl

theorem plain_pair {T : Ty} (h : plainB T = true) (x : ByteArray) : plainB (pairOf T x) = true := by
  unfold pairOf
  cases he : entryT T x with
  | none => rfl
  | some X =>
    obtain ⟨j, hj, rfl⟩ := entry_in he
    exact plain_item h j

theorem join_plain : ∀ (n : Nat) (a b : Ty), plainB a = true → plainB b = true → plainB (joinF n a b) = true := by
  intro n
  induction n with
  | zero => intro a b _ _; rfl
  | succ n ih =>
    intro a b ha hb
    refine joinF_cases n a b (fun c => plainB c = true) (fun _ => hb) (fun _ _ => ha) (fun _ _ he hk la lb => ?_) (fun _ _ ka kb => ?_) (fun _ _ _ _ => rfl)
    · have := plain_kind ha
      rw [plainB, plainL, plainL, ih _ _ (plain_item ha 0) (plain_item hb 0)]
      simp [this]
    · rw [plainB, plainL_of _ (fun t ht => ?_)]
      · rfl
      · obtain ⟨k, hk, rfl⟩ := List.mem_map.1 ht
        exact ih _ _ (plain_item ha k) (plain_pair hb _)

theorem conf_kind {a b : Ty} (h : Conf a b) (h1 : a.kind ≠ 1) (h2 : b.kind ≠ 14) : a.kind = b.kind :=
  Classical.byContradiction fun n => conf_differ h1 h2 n h

theorem join_least : ∀ (n : Nat) (a b c : Ty), a.sz + b.sz ≤ n → mayB a = true → mayB b = true → mayB c = true → plainB a = true → plainB b = true → Conf a c → Conf b c → Conf (joinF n a b) c := by
  intro n
  induction n with
  | zero => intro a b c h; have := sz_pos a; omega
  | succ n ih =>
    intro a b c hs ma mb mc pa pb hac hbc
    by_cases kc : c.kind = 14
    · exact .any kc
    refine joinF_cases n a b (fun j => Conf j c) (fun _ => hbc) (fun _ _ => hac) (fun n1 n2 he hk la lb => ?_) (fun n1 n2 ka kb => ?_) (fun n1 n2 n3 n4 => ?_)
    · have e1 := conf_kind hac (by omega) kc
      have h1 := (conf_one_iff e1 hk).1 hac
      have h2 := (conf_one_iff (he.symm.trans e1) (by omega)).1 hbc
      have s1 := sz_getD a 0 (by omega)
      have s2 := sz_getD b 0 (by omega)
      exact .one e1 hk rfl h1.2.1 (ih _ _ _ (by omega) (mayB_item a ma 0 (by omega)) (mayB_item b mb 0 (by omega)) (mayB_item c mc 0 (by omega)) (plain_item pa 0) (plain_item pb 0) h1.2.2 h2.2.2)
    · have e1 := conf_kind hac (by omega) kc
      have hJ := joinF_ctx (n := n) n1 n2 ka kb
      have mJ := join_may (n + 1) a b ma mb
      rw [hJ] at mJ
      have h1 := (conf_ctx_iff e1 ka).1 hac
      have h2 := (conf_ctx_iff (kb.trans (ka.symm.trans e1)) kb).1 hbc
      rw [conf_ctx_iff (a := .mk 11 _ _) (b := c) (show (11 : Int) = c.kind by omega) rfl]
      intro q hq
      obtain ⟨X, x1, x2, x3⟩ := h1 q hq
      obtain ⟨Y, y1, _, y3⟩ := h2 q hq
      obtain ⟨k, _, k1, rfl, k2, k3⟩ := entry_idx x1
      have hkm : k ∈ ctxIdx a b a.names.length := ctxIdx_mem.2 ⟨k2, k1, by rw [k3, y1]; rfl⟩
      obtain ⟨p, hp, hpk⟩ := List.mem_iff_getElem.1 hkm
      have hown := entry_own _ mJ rfl p (by simpa [Ty.names] using hp)
      change entryT _ (((ctxIdx a b a.names.length).map (nameAt a)).getD p ByteArray.empty) = some (((ctxIdx a b a.names.length).map fun k => joinF n (a.items.getD k noTy) (pairOf b (nameAt a k))).getD p noTy) at hown
      rw [map_getD _ _ _ p hp, map_getD _ _ _ p hp, hpk] at hown
      have hnm : nameAt a k = c.names.getD q ByteArray.empty := k3
      rw [hnm] at hown
      refine ⟨_, hown, x2, ?_⟩
      have hpair : pairOf b (c.names.getD q ByteArray.empty) = Y := by rw [pairOf, y1]; rfl
      rw [hpair]
      obtain ⟨m, hm, _, hY⟩ := entry_some y1
      have s1 := sz_getD a k k1
      have s2 := sz_item b m hm
      have mY := mayB_item b mb m hm
      have pY := plain_item pb m
      rw [getD_at hm, ← hY] at mY pY
      rw [← hY] at s2
      exact ih _ _ _ (by omega) (mayB_item a ma k k1) mY (mayB_item c mc q x2) (plain_item pa k) pY x3 y3
    · exfalso
      have a1 : a.kind ≠ 1 := fun h => n1 (.null h)
      have b1 : b.kind ≠ 1 := fun h => n2 (.null h)
      have e1 := conf_kind hac a1 kc
      have e2 := conf_kind hbc b1 kc
      have p13 := plain_kind pa
      by_cases k10 : a.kind = 10 ∨ a.kind = 12
      · exact n3 ⟨by omega, k10, may_one a ma k10, may_one b mb (by omega)⟩
      · by_cases k11 : a.kind = 11
        · exact n4 ⟨k11, by omega⟩
        · exact n1 (.flat (by omega) (by omega))

end Go.Proofs.Ytnkecbpocgcdfaa
