/-
  The plain laws of the lexer and of names: what stands behind a source, spaces and remarks, words, numbers, strings, names; no program.
-/
import Derived.Test.YtnamnldijopkfaaDoorTll
namespace Go.Proofs.YtnamnldijopkfaaDoor
open Go.Lib

set_option maxRecDepth 100000 in
theorem decN_same (n n' b0 b1 b2 b3 c1 c2 c3 : Nat) (h1 : (1 < n ∧ b1 / 64 = 2) ↔ (1 < n' ∧ c1 / 64 = 2)) (e1 : (1 < n ∧ b1 / 64 = 2) → b1 = c1)
    (h2 : (1 < n ∧ b1 / 64 = 2) → ((2 < n ∧ b2 / 64 = 2) ↔ (2 < n' ∧ c2 / 64 = 2))) (e2 : (1 < n ∧ b1 / 64 = 2) → (2 < n ∧ b2 / 64 = 2) → b2 = c2)
    (h3 : (1 < n ∧ b1 / 64 = 2) → (2 < n ∧ b2 / 64 = 2) → ((3 < n ∧ b3 / 64 = 2) ↔ (3 < n' ∧ c3 / 64 = 2))) (e3 : (1 < n ∧ b1 / 64 = 2) → (2 < n ∧ b2 / 64 = 2) → (3 < n ∧ b3 / 64 = 2) → b3 = c3) :
    decodeN n b0 b1 b2 b3 = decodeN n' b0 c1 c2 c3 := by
  unfold decodeN
  by_cases p1 : 1 < n ∧ b1 / 64 = 2
  · have q1 := h1.1 p1
    have E1 := e1 p1
    subst E1
    by_cases p2 : 2 < n ∧ b2 / 64 = 2
    · have q2 := (h2 p1).1 p2
      have E2 := e2 p1 p2
      subst E2
      by_cases p3 : 3 < n ∧ b3 / 64 = 2
      · have q3 := (h3 p1 p2).1 p3
        have E3 := e3 p1 p2 p3
        subst E3
        simp only [p1, q1, p2, q2, p3, q3]
      · have q3 : ¬ (3 < n' ∧ c3 / 64 = 2) := fun q => p3 ((h3 p1 p2).2 q)
        simp only [p1, q1, p2, q2, p3, q3, and_false, if_false]
    · have q2 : ¬ (2 < n' ∧ c2 / 64 = 2) := fun q => p2 ((h2 p1).2 q)
      simp only [p1, q1, p2, q2, and_false, false_and, if_false]
  · have q1 : ¬ (1 < n' ∧ c1 / 64 = 2) := fun q => p1 (h1.2 q)
    simp only [p1, q1, and_false, false_and, if_false]

theorem dec_app (t : List UInt8) (c : UInt8) (r : List UInt8) (ht : t ≠ []) (hc : c.toNat < 128) : decodeL (t ++ c :: r) = decodeL t := by
  rw [decodeL_N, decodeL_N]
  have h0 : (t ++ c :: r).getD 0 0 = t.getD 0 0 := by cases t with | nil => exact absurd rfl ht | cons a u => rfl
  have hl : (t ++ c :: r).length = t.length + 1 + r.length := by simp; omega
  have hp := List.length_pos_iff.2 ht
  have hlt : ∀ k, k < t.length → (t ++ c :: r).getD k 0 = t.getD k 0 := fun k hk => by simp [List.getD, List.getElem?_append_left hk]
  have heq : (t ++ c :: r).getD t.length 0 = c := by simp [List.getD]
  rw [h0, hl]
  apply decN_same
  · by_cases q : 1 < t.length
    · rw [hlt 1 q]; omega
    · have : t.length = 1 := by omega
      rw [this] at heq
      rw [heq]; omega
  · intro p
    by_cases q : 1 < t.length
    · rw [hlt 1 q]
    · have : t.length = 1 := by omega
      rw [this] at heq
      rw [heq] at p; omega
  · intro p1
    by_cases q : 2 < t.length
    · rw [hlt 2 q]; omega
    · have : t.length = 1 ∨ t.length = 2 := by omega
      rcases this with e | e
      · rw [e] at heq
        rw [heq] at p1; omega
      · rw [e] at heq
        rw [heq]; omega
  · intro p1 p2
    by_cases q : 2 < t.length
    · rw [hlt 2 q]
    · have : t.length = 1 ∨ t.length = 2 := by omega
      rcases this with e | e
      · rw [e] at heq
        rw [heq] at p1; omega
      · rw [e] at heq
        rw [heq] at p2; omega
  · intro p1 p2
    by_cases q : 3 < t.length
    · rw [hlt 3 q]; omega
    · have : t.length = 1 ∨ t.length = 2 ∨ t.length = 3 := by omega
      rcases this with e | e | e
      · rw [e] at heq
        rw [heq] at p1; omega
      · rw [e] at heq
        rw [heq] at p2; omega
      · rw [e] at heq
        rw [heq]; omega
  · intro p1 p2 p3
    by_cases q : 3 < t.length
    · rw [hlt 3 q]
    · have : t.length = 1 ∨ t.length = 2 ∨ t.length = 3 := by omega
      rcases this with e | e | e
      · rw [e] at heq
        rw [heq] at p1; omega
      · rw [e] at heq
        rw [heq] at p2; omega
      · rw [e] at heq
        rw [heq] at p3; omega

set_option maxRecDepth 100000 in
theorem decN_cut (m n b0 b1 b2 b3 : Nat) (hm : m ≤ n) (h : (decodeN n b0 b1 b2 b3).2 ≤ m) :
    decodeN m b0 (if 1 < m then b1 else 0) (if 2 < m then b2 else 0) (if 3 < m then b3 else 0) = decodeN n b0 b1 b2 b3 := by
  rcases decodeN_shape n b0 b1 b2 b3 with ⟨c, e⟩ | ⟨c1, c2, c3, cv, e⟩ | ⟨c1, c2, c3, c4, cv, cs, e⟩ | ⟨c1, c2, c3, c4, c5, cv, cw, e⟩ | e
  · rw [e]; unfold decodeN; rw [if_pos c]
  · rw [e] at h
    dsimp only at h
    rw [if_pos (show 1 < m by omega), e]
    unfold decodeN
    rw [if_neg (by omega), if_pos ⟨c1, by omega, c3⟩, if_pos (by omega)]
  · rw [e] at h
    dsimp only at h
    rw [if_pos (show 1 < m by omega), if_pos (show 2 < m by omega), e]
    unfold decodeN
    rw [if_neg (by omega), if_neg (by omega), if_pos ⟨c1, ⟨by omega, c3⟩, by omega, c4⟩, if_pos (by omega)]
  · rw [e] at h
    dsimp only at h
    rw [if_pos (show 1 < m by omega), if_pos (show 2 < m by omega), if_pos (show 3 < m by omega), e]
    unfold decodeN
    rw [if_neg (by omega), if_neg (by omega), if_neg (by omega), if_pos ⟨c1, ⟨by omega, c3⟩, ⟨by omega, c4⟩, by omega, c5⟩, if_pos (by omega)]
  · rcases decodeN_shape m b0 (if 1 < m then b1 else 0) (if 2 < m then b2 else 0) (if 3 < m then b3 else 0) with ⟨c, e2⟩ | ⟨c1, c2, c3, cv, e2⟩ | ⟨c1, c2, c3, c4, cv, cs, e2⟩ | ⟨c1, c2, c3, c4, c5, cv, cw, e2⟩ | e2
    · unfold decodeN at e
      rw [if_pos c] at e
      have := congrArg Prod.fst e
      dsimp only at this
      omega
    · rw [if_pos c2] at c3 cv
      unfold decodeN at e
      rw [if_neg (by omega), if_pos ⟨c1, by omega, c3⟩, if_pos (by omega)] at e
      have := congrArg Prod.snd e
      dsimp only at this
      omega
    · rw [if_pos (show 1 < m by omega)] at c3 cv cs
      rw [if_pos c2] at c4 cv cs
      unfold decodeN at e
      rw [if_neg (by omega), if_neg (by omega), if_pos ⟨c1, ⟨by omega, c3⟩, by omega, c4⟩, if_pos (by omega)] at e
      have := congrArg Prod.snd e
      dsimp only at this
      omega
    · rw [if_pos (show 1 < m by omega)] at c3 cv cw
      rw [if_pos (show 2 < m by omega)] at c4 cv cw
      rw [if_pos c2] at c5 cv cw
      unfold decodeN at e
      rw [if_neg (by omega), if_neg (by omega), if_neg (by omega), if_pos ⟨c1, ⟨by omega, c3⟩, ⟨by omega, c4⟩, by omega, c5⟩, if_pos (by omega)] at e
      have := congrArg Prod.snd e
      dsimp only at this
      omega
    · rw [e, e2]

theorem dec_take (t : List UInt8) (n : Nat) (h : (decodeL t).2 ≤ n) : decodeL (t.take n) = decodeL t := by
  have h1 := dec_ge1 t
  by_cases hn : t.length ≤ n
  · rw [List.take_of_length_le hn]
  have hg : ∀ k, ((t.take n).getD k 0).toNat = if k < n then (t.getD k 0).toNat else 0 := fun k => by
    by_cases hk : k < n
    · rw [if_pos hk]; simp [List.getD, hk]
    · rw [if_neg hk]
      have : (t.take n)[k]? = none := List.getElem?_eq_none (by rw [List.length_take]; omega)
      simp only [List.getD, this]
      rfl
  have hl : (t.take n).length = n := by rw [List.length_take]; omega
  have hn1 : 0 < n := by omega
  rw [decodeL_N] at h ⊢
  rw [decodeL_N, hl, hg 0, hg 1, hg 2, hg 3, if_pos hn1]
  exact decN_cut n t.length _ _ _ _ (by omega) h

theorem hd_nil : hd [] = -1 := rfl
theorem hd_ne (t : List UInt8) (h : t ≠ []) : hd t = ((decodeL t).1 : Nat) := if_neg h
theorem hd_ascii (c : UInt8) (r : List UInt8) (hc : c.toNat < 128) : hd (c :: r) = (c.toNat : Int) := by
  rw [hd_ne _ (by simp), decodeL_ascii c r hc]
theorem hd_app (t : List UInt8) (c : UInt8) (r : List UInt8) (ht : t ≠ []) (hc : c.toNat < 128) : hd (t ++ c :: r) = hd t := by
  rw [hd_ne _ (by simp), hd_ne t ht, dec_app t c r ht hc]
theorem dec_app2 (t : List UInt8) (c : UInt8) (r : List UInt8) (ht : t ≠ []) : (t ++ c :: r).drop (decodeL t).2 = t.drop (decodeL t).2 ++ c :: r :=
  List.drop_append_of_le_length (dec_le_len t ht)

theorem runN_app (P : Int → Bool) (c : UInt8) (r : List UInt8) (hc : c.toNat < 128) (hP : P (c.toNat : Int) = false) : ∀ (n : Nat) (t : List UInt8), t.length ≤ n → runN P (t ++ c :: r) = runN P t := by
  intro n
  induction n with
  | zero =>
    intro t h
    rw [List.eq_nil_of_length_eq_zero (by omega : t.length = 0), List.nil_append, runN_nil, runN_cons _ _ (by simp), decodeL_ascii c r hc, hP]
    rfl
  | succ n ih =>
    intro t h
    by_cases e : t = []
    · subst e
      rw [List.nil_append, runN_nil, runN_cons _ _ (by simp), decodeL_ascii c r hc, hP]
      rfl
    · have h1 := dec_ge1 t
      rw [runN_cons _ _ (by simp), runN_cons _ _ e, dec_app t c r e hc, dec_app2 t c r e, ih _ (by rw [List.length_drop]; omega)]

/-- a run of runes alone is a run -/
theorem runN_take (P : Int → Bool) : ∀ (n : Nat) (t : List UInt8), t.length ≤ n → runN P (t.take (runN P t)) = runN P t := by
  intro n
  induction n with
  | zero =>
    intro t h
    rw [List.eq_nil_of_length_eq_zero (by omega : t.length = 0)]
    simp [runN_nil]
  | succ n ih =>
    intro t h
    by_cases e : t = []
    · subst e; simp [runN_nil]
    · have h1 := dec_ge1 t
      have h2 := dec_le_len t e
      have hi := ih (t.drop (decodeL t).2) (by rw [List.length_drop]; omega)
      have hr := runN_cons P t e
      by_cases hp : P ((decodeL t).1 : Nat) = true
      · rw [if_pos hp] at hr
        have hle : (decodeL t).2 ≤ runN P t := by omega
        have hne : t.take (runN P t) ≠ [] := by
          intro q
          have := congrArg List.length q
          rw [List.length_take, List.length_nil] at this
          have := List.length_pos_iff.2 e
          omega
        rw [runN_cons _ _ hne, dec_take t _ hle, if_pos hp, List.drop_take, show runN P t - (decodeL t).2 = runN P (t.drop (decodeL t).2) by omega, hi]
        exact hr.symm
      · rw [if_neg hp] at hr
        rw [hr, List.take_zero, runN_nil]

theorem runN_le' (P : Int → Bool) (t : List UInt8) : runN P t ≤ t.length := runN_le P _ t (Nat.le_refl _)

/-- a byte that ends words and numbers -/
def Sep (c : UInt8) : Prop := c = 9 ∨ c = 10 ∨ c = 32
theorem Sep.lt {c : UInt8} (h : Sep c) : c.toNat < 128 := by rcases h with rfl | rfl | rfl <;> decide
theorem Sep.word {c : UInt8} (h : Sep c) : wordB (c.toNat : Int) = false := by rcases h with rfl | rfl | rfl <;> decide
theorem Sep.digit {c : UInt8} (h : Sep c) : digitB (c.toNat : Int) = false := by rcases h with rfl | rfl | rfl <;> decide

theorem hd_pos (t : List UInt8) (k : Nat) (h : 0 ≤ hd (t.drop k)) : k < t.length := by
  apply Decidable.byContradiction
  intro q
  rw [List.drop_eq_nil_of_le (by omega), hd_nil] at h
  omega
theorem hd_eq_app (t : List UInt8) (c : UInt8) (r : List UInt8) (hc : c.toNat < 128) (k : Nat) (hk : k ≤ t.length) (v : Int) (h0 : 0 ≤ v) (hv : v ≠ (c.toNat : Int)) : hd ((t ++ c :: r).drop k) = v ↔ hd (t.drop k) = v := by
  rw [List.drop_append_of_le_length hk]
  by_cases e : t.drop k = []
  · rw [e, List.nil_append, hd_ascii c r hc, hd_nil]; omega
  · rw [hd_app _ _ _ e hc]
theorem digit_app (t : List UInt8) (c : UInt8) (r : List UInt8) (hc : Sep c) (k : Nat) (hk : k ≤ t.length) : digitB (hd ((t ++ c :: r).drop k)) = digitB (hd (t.drop k)) := by
  rw [List.drop_append_of_le_length hk]
  by_cases e : t.drop k = []
  · rw [e, List.nil_append, hd_ascii c r hc.lt, hd_nil, hc.digit]; rfl
  · rw [hd_app _ _ _ e hc.lt]
theorem runD_app (t : List UInt8) (c : UInt8) (r : List UInt8) (hc : Sep c) (k : Nat) (hk : k ≤ t.length) : runN digitB ((t ++ c :: r).drop k) = runN digitB (t.drop k) := by
  rw [List.drop_append_of_le_length hk, runN_app _ _ _ hc.lt hc.digit _ _ (Nat.le_refl _)]

theorem digit_pos {v : Int} (h : digitB v = true) : 48 ≤ v ∧ v ≤ 57 := of_decide_eq_true h
theorem Sep.ne {c : UInt8} (h : Sep c) : (46 : Int) ≠ (c.toNat : Int) ∧ (69 : Int) ≠ (c.toNat : Int) ∧ (43 : Int) ≠ (c.toNat : Int) ∧ (45 : Int) ≠ (c.toNat : Int) ∧ (34 : Int) ≠ (c.toNat : Int) ∧ (64 : Int) ≠ (c.toNat : Int) := by
  rcases h with rfl | rfl | rfl <;> decide

theorem runD_at (t : List UInt8) (k : Nat) (hk : k ≤ t.length) : k + runN digitB (t.drop k) ≤ t.length := by
  have := runN_le' digitB (t.drop k)
  rw [List.length_drop] at this
  omega
theorem ptN_le (t : List UInt8) : ptN t ≤ t.length := by
  have h0 := runN_le' digitB t
  unfold ptN
  split
  · rename_i h
    have h1 := hd_pos t (runN digitB t + 1) (by have := (digit_pos h.2).1; omega)
    exact runD_at t _ (by omega)
  · exact h0
theorem expN_le (t : List UInt8) (k : Nat) (hk : k ≤ t.length) : expN t k ≤ t.length := by
  unfold expN
  split
  · rename_i h
    have h1 := hd_pos t k (by omega)
    have he : (if hd (t.drop (k + 1)) = 43 ∨ hd (t.drop (k + 1)) = 45 then k + 2 else k + 1) ≤ t.length := by
      split
      · rename_i h3
        have := hd_pos t (k + 1) (by omega)
        omega
      · omega
    show (if 0 < runN digitB (t.drop (if hd (t.drop (k + 1)) = 43 ∨ hd (t.drop (k + 1)) = 45 then k + 2 else k + 1)) ∧ _ then _ else _) ≤ _
    generalize (if hd (t.drop (k + 1)) = 43 ∨ hd (t.drop (k + 1)) = 45 then k + 2 else k + 1) = e at *
    split
    · exact runD_at t _ he
    · exact hk
  · exact hk
theorem numN_le (t : List UInt8) : numN t ≤ t.length := expN_le t _ (ptN_le t)

theorem ptN_app (t : List UInt8) (c : UInt8) (r : List UInt8) (hc : Sep c) : ptN (t ++ c :: r) = ptN t := by
  have h0 := runN_le' digitB t
  have e0 : runN digitB (t ++ c :: r) = runN digitB t := runN_app _ _ _ hc.lt hc.digit _ _ (Nat.le_refl _)
  unfold ptN
  rw [e0]
  have hv := hd_eq_app t c r hc.lt (runN digitB t) h0 46 (by omega) hc.ne.1
  by_cases h : hd (t.drop (runN digitB t)) = 46
  · have h1 := hd_pos t (runN digitB t) (by omega)
    rw [digit_app t c r hc _ h1, runD_app t c r hc _ h1]
    simp only [hv, h]
  · rw [if_neg (fun q => h (hv.1 q.1)), if_neg (fun q => h q.1)]
theorem expN_app (t : List UInt8) (c : UInt8) (r : List UInt8) (hc : Sep c) (k : Nat) (hk : k ≤ t.length) : expN (t ++ c :: r) k = expN t k := by
  unfold expN
  have hv := hd_eq_app t c r hc.lt k hk 69 (by omega) hc.ne.2.1
  by_cases h : hd (t.drop k) = 69
  · have h1 := hd_pos t k (by omega)
    rw [if_pos (hv.2 h), if_pos h]
    have h43 := hd_eq_app t c r hc.lt (k + 1) h1 43 (by omega) hc.ne.2.2.1
    have h45 := hd_eq_app t c r hc.lt (k + 1) h1 45 (by omega) hc.ne.2.2.2.1
    simp only [h43, h45]
    by_cases hs : hd (t.drop (k + 1)) = 43 ∨ hd (t.drop (k + 1)) = 45
    · have h2 := hd_pos t (k + 1) (by omega)
      rw [if_pos hs, runD_app t c r hc _ h2]
    · rw [if_neg hs, runD_app t c r hc _ h1]
  · rw [if_neg (fun q => h (hv.1 q)), if_neg h]
theorem numN_app (t : List UInt8) (c : UInt8) (r : List UInt8) (hc : Sep c) : numN (t ++ c :: r) = numN t := by
  unfold numN
  rw [ptN_app t c r hc, expN_app t c r hc _ (ptN_le t)]

theorem hexF_app (c : UInt8) (r : List UInt8) (hc : c.toNat < 128) : ∀ (n : Nat) (t : List UInt8) (a v : Int), hexF n t a = some v → hexF n (t ++ c :: r) a = some v
  | 0, _, _, _, h => h
  | n + 1, t, a, v, h => by
    rw [hexF] at h ⊢
    by_cases e : t = []
    · subst e
      rw [hd_nil, if_pos (by decide)] at h
      cases h
    · rw [hd_app t c r e hc]
      split at h
      · cases h
      · rename_i hn
        rw [if_neg hn, List.drop_append_of_le_length (by have := List.length_pos_iff.2 e; omega)]
        exact hexF_app c r hc n _ _ _ h
theorem hexV_app (c : UInt8) (r : List UInt8) (hc : c.toNat < 128) (n : Nat) (t : List UInt8) (h : (hexV t n).2 ≠ 0) : hexV (t ++ c :: r) n = hexV t n := by
  unfold hexV at h ⊢
  cases q : hexF n t 0 with
  | none => rw [q] at h; exact absurd rfl h
  | some v => rw [hexF_app c r hc n t 0 v q]
theorem escV_app (c : UInt8) (r : List UInt8) (hc : c.toNat < 128) (t : List UInt8) (h : (escV t).2 ≠ 0) : escV (t ++ c :: r) = escV t := by
  by_cases e : t = []
  · subst e
    exact absurd rfl h
  · have hp := List.length_pos_iff.2 e
    unfold escV at h ⊢
    rw [hd_app t c r e hc, List.drop_append_of_le_length (by omega)]
    split
    · rfl
    · rename_i h1
      rw [if_neg h1] at h
      split
      · rfl
      · rename_i h2
        rw [if_neg h2] at h
        split
        · rfl
        · rename_i h3
          rw [if_neg h3] at h
          split
          · rfl
          · rename_i h4
            rw [if_neg h4] at h
            split
            · rename_i h5
              rw [if_pos h5] at h
              exact hexV_app c r hc 4 _ h
            · rename_i h5
              rw [if_neg h5] at h
              split
              · rename_i h6
                rw [if_pos h6] at h
                exact hexV_app c r hc 6 _ h
              · rfl
theorem hexF_len : ∀ (n : Nat) (t : List UInt8) (a v : Int), hexF n t a = some v → n ≤ t.length
  | 0, _, _, _, _ => Nat.zero_le _
  | n + 1, t, a, v, h => by
    rw [hexF] at h
    by_cases e : t = []
    · subst e
      rw [hd_nil, if_pos (by decide)] at h
      cases h
    · split at h
      · cases h
      · have := hexF_len n _ _ _ h
        rw [List.length_drop] at this
        have := List.length_pos_iff.2 e
        omega
theorem hexV_len (n : Nat) (t : List UInt8) (h : (hexV t n).2 ≠ 0) : n ≤ t.length ∧ (hexV t n).2 = n + 1 := by
  unfold hexV at h ⊢
  cases q : hexF n t 0 with
  | none => rw [q] at h; exact absurd rfl h
  | some v =>
    rw [q] at h
    dsimp only at h ⊢
    split at h
    · rename_i hv
      rw [if_pos hv]
      exact ⟨hexF_len n t 0 v q, rfl⟩
    · exact absurd rfl h
theorem escV_len (t : List UInt8) : (escV t).2 ≤ t.length := by
  by_cases hz : (escV t).2 = 0
  · omega
  by_cases e : t = []
  · subst e
    exact absurd rfl hz
  · have hp := List.length_pos_iff.2 e
    unfold escV at hz ⊢
    repeat' split
    all_goals try exact hp
    · rename_i h1 h2 h3 h4 h5
      rw [if_neg h1, if_neg h2, if_neg h3, if_neg h4, if_pos h5] at hz
      have := hexV_len 4 _ hz
      rw [List.length_drop] at this
      omega
    · rename_i h1 h2 h3 h4 h5 h6
      rw [if_neg h1, if_neg h2, if_neg h3, if_neg h4, if_neg h5, if_pos h6] at hz
      have := hexV_len 6 _ hz
      rw [List.length_drop] at this
      omega
    · exact Nat.zero_le _

theorem dec_92 {t : List UInt8} {n : Nat} (hn : n < 128) (h : (decodeL t).1 = n) : (decodeL t).2 = 1 := by
  rw [decodeL_N] at h ⊢
  rcases decodeN_shape t.length (t.getD 0 0).toNat (t.getD 1 0).toNat (t.getD 2 0).toNat (t.getD 3 0).toNat with ⟨c, e⟩ | ⟨c1, c2, c3, cv, e⟩ | ⟨c1, c2, c3, c4, cv, cs, e⟩ | ⟨c1, c2, c3, c4, c5, cv, cw, e⟩ | e
  all_goals (rw [e] at h; dsimp only at h; rw [e])
  all_goals (try rfl)
  all_goals (exfalso; omega)

theorem txtP_app (c : UInt8) (r : List UInt8) (hc : c.toNat < 128) : ∀ (m : Nat) (t : List UInt8), t.length ≤ m → ∀ x, txtP t = some x → txtP (t ++ c :: r) = some x ∧ x.2 ≤ t.length ∧ 1 ≤ x.2 := by
  intro m
  induction m with
  | zero =>
    intro t h x hx
    rw [List.eq_nil_of_length_eq_zero (by omega : t.length = 0), txtP_nil] at hx
    cases hx
  | succ m ih =>
    intro t h x hx
    by_cases e : t = []
    · subst e; rw [txtP_nil] at hx; cases hx
    · have hp := List.length_pos_iff.2 e
      have h1 := dec_ge1 t
      have h2 := dec_le_len t e
      rw [txtP_cons _ e] at hx
      rw [txtP_cons _ (by simp), dec_app t c r e hc]
      split at hx
      · rename_i q
        cases hx
        rw [if_pos q]
        exact ⟨rfl, hp, Nat.le_refl _⟩
      · rename_i q
        rw [if_neg q]
        split at hx
        · cases hx
        · rename_i q2
          rw [if_neg q2]
          split at hx
          · rename_i q3
            rw [if_pos q3, List.drop_append_of_le_length (by omega : 1 ≤ t.length)]
            split at hx
            · cases hx
            · rename_i q4
              rw [escV_app c r hc _ q4, if_neg q4]
              have hel := escV_len (t.drop 1)
              rw [List.length_drop] at hel
              rw [List.drop_append_of_le_length (by omega)]
              cases hy : txtP (t.drop ((escV (t.drop 1)).2 + 1)) with
              | none => rw [hy] at hx; cases hx
              | some y =>
                obtain ⟨a, b, d⟩ := ih _ (by rw [List.length_drop]; omega) y hy
                rw [hy] at hx
                rw [a]
                refine ⟨hx, ?_⟩
                cases hx
                rw [List.length_drop] at b
                dsimp only
                omega
          · rename_i q3
            rw [if_neg q3, dec_app2 t c r e]
            cases hy : txtP (t.drop (decodeL t).2) with
            | none => rw [hy] at hx; cases hx
            | some y =>
              obtain ⟨a, b, d⟩ := ih _ (by rw [List.length_drop]; omega) y hy
              rw [hy] at hx
              rw [a]
              refine ⟨hx, ?_⟩
              cases hx
              rw [List.length_drop] at b
              dsimp only
              omega

/-- a token is no longer than what is left, and not empty -/
theorem symP_two {t s : List UInt8} (h : twos.find? (fun s => hasPrefix t s) = some s) : hasPrefix t s = true ∧ s.length = 2 := by
  have h1 := List.find?_some h
  have h2 := List.mem_of_find?_eq_some h
  refine ⟨h1, ?_⟩
  simp [twos] at h2
  rcases h2 with rfl | rfl | rfl | rfl | rfl | rfl <;> rfl
theorem prefix_take {t s : List UInt8} (h : hasPrefix t s = true) : t.take s.length = s := by
  obtain ⟨u, rfl⟩ := List.isPrefixOf_iff_prefix.1 h
  simp
theorem symP_len {t s : List UInt8} (h : symP t = some s) : s = t.take s.length ∧ 1 ≤ s.length ∧ s.length ≤ t.length := by
  unfold symP at h
  cases q : twos.find? (fun s => hasPrefix t s) with
  | some s2 =>
    rw [q] at h
    cases h
    obtain ⟨a, b⟩ := symP_two q
    have c := prefix_take a
    have d := congrArg List.length c
    rw [List.length_take] at d
    exact ⟨c.symm, by omega, by omega⟩
  | none =>
    rw [q] at h
    dsimp only at h
    split at h
    · cases h
    · rename_i hn
      cases h
      have hne : t ≠ [] := by
        intro e
        subst e
        exact hn (by decide)
      have := List.length_pos_iff.2 hne
      rw [List.length_take, Nat.min_eq_left (by omega)]
      exact ⟨rfl, Nat.le_refl _, this⟩

theorem letter_ge {v : Int} (h : letterB v = true) : 65 ≤ v := by
  have := of_decide_eq_true h
  omega
theorem runW_pos {t : List UInt8} (h : wordB (hd t) = true) : 1 ≤ runN wordB t := by
  by_cases e : t = []
  · subst e; exact absurd h (by decide)
  · rw [hd_ne t e] at h
    rw [runN_cons _ _ e, if_pos h]
    have := dec_ge1 t
    omega
theorem runD_pos {t : List UInt8} (h : digitB (hd t) = true) : 1 ≤ runN digitB t := by
  by_cases e : t = []
  · subst e; exact absurd h (by decide)
  · rw [hd_ne t e] at h
    rw [runN_cons _ _ e, if_pos h]
    have := dec_ge1 t
    omega
theorem expN_ge (t : List UInt8) (k : Nat) : k ≤ expN t k := by
  unfold expN
  split
  · show k ≤ if 0 < runN digitB (t.drop (if hd (t.drop (k + 1)) = 43 ∨ hd (t.drop (k + 1)) = 45 then k + 2 else k + 1)) ∧ _ then _ else _
    have he : k ≤ (if hd (t.drop (k + 1)) = 43 ∨ hd (t.drop (k + 1)) = 45 then k + 2 else k + 1) := by split <;> omega
    generalize (if hd (t.drop (k + 1)) = 43 ∨ hd (t.drop (k + 1)) = 45 then k + 2 else k + 1) = e at *
    split <;> omega
  · exact Nat.le_refl _
theorem numN_pos {t : List UInt8} (h : digitB (hd t) = true ∨ (hd t = 46 ∧ digitB (hd (t.drop 1)) = true)) : 1 ≤ numN t := by
  refine Nat.le_trans ?_ (expN_ge t _)
  rcases h with h | ⟨h1, h2⟩
  · have := runD_pos h
    unfold ptN
    split <;> omega
  · have h0 : runN digitB t = 0 := by
      by_cases e : t = []
      · subst e; rfl
      · rw [hd_ne t e] at h1
        rw [runN_cons _ _ e, h1, if_neg (by decide)]
    unfold ptN
    rw [h0, List.drop_zero, if_pos ⟨h1, h2⟩]
    omega

theorem oneP_len {t : List UInt8} {x : Nat × List UInt8 × Nat} (h : oneP t = some x) : 1 ≤ x.2.2 ∧ x.2.2 ≤ t.length ∧ x.1 ≠ 0 ∧ ((x.1 = 1 ∨ x.1 = 2 ∨ x.1 = 5) → x.2.1 = t.take x.2.2) ∧ (x.1 = 2 → shapeB x.2.1 = true) := by
  unfold oneP at h
  split at h
  · rename_i q
    cases h
    exact ⟨runW_pos (by unfold wordB; rw [q]; rfl), runN_le' _ _, by simp, fun _ => rfl, fun e => by cases e⟩
  · split at h
    · rename_i q
      split at h
      · rename_i q2
        cases h
        exact ⟨numN_pos q, numN_le _, by simp, fun _ => rfl, fun _ => q2⟩
      · cases h
    · split at h
      · rename_i q
        cases hy : txtP (t.drop 1) with
        | none => rw [hy] at h; cases h
        | some y =>
          obtain ⟨a, b, d⟩ := txtP_app 10 [] (by decide) _ (t.drop 1) (Nat.le_refl _) y hy
          rw [hy] at h
          cases h
          have := hd_pos t 0 (by rw [List.drop_zero]; omega)
          rw [List.length_drop] at b
          exact ⟨by dsimp only; omega, by dsimp only; omega, by simp, fun e => by simp at e, fun e => by simp at e⟩
      · split at h
        · rename_i q
          cases hy : txtP (t.drop 2) with
          | none => rw [hy] at h; cases h
          | some y =>
            obtain ⟨a, b, d⟩ := txtP_app 10 [] (by decide) _ (t.drop 2) (Nat.le_refl _) y hy
            rw [hy] at h
            cases h
            have := hd_pos t 1 (by omega)
            rw [List.length_drop] at b
            exact ⟨by dsimp only; omega, by dsimp only; omega, by simp, fun e => by simp at e, fun e => by simp at e⟩
        · cases hy : symP t with
          | none => rw [hy] at h; cases h
          | some y =>
            obtain ⟨a, b, d⟩ := symP_len hy
            rw [hy] at h
            cases h
            exact ⟨b, d, by simp, fun _ => a, fun e => by simp at e⟩

theorem two_app {t : List UInt8} {c : UInt8} {r : List UInt8} (ht : t ≠ []) (a b : UInt8) (hb : b ≠ c) : hasPrefix (t ++ c :: r) [a, b] = hasPrefix t [a, b] := by
  match t, ht with
  | [x], _ => simp [hasPrefix, List.isPrefixOf, hb]
  | x :: y :: u, _ => simp [hasPrefix, List.isPrefixOf]
theorem symP_app {t : List UInt8} {c : UInt8} {r : List UInt8} (ht : t ≠ []) (hc : Sep c) : symP (t ++ c :: r) = symP t := by
  have hf : twos.find? (fun s => hasPrefix (t ++ c :: r) s) = twos.find? (fun s => hasPrefix t s) := by
    unfold twos
    have g : ∀ a b : UInt8, b ≠ 9 → b ≠ 10 → b ≠ 32 → hasPrefix (t ++ c :: r) [a, b] = hasPrefix t [a, b] := fun a b h1 h2 h3 => two_app ht a b (by rcases hc with rfl | rfl | rfl <;> assumption)
    simp only [List.find?, g 46 46 (by decide) (by decide) (by decide), g 42 42 (by decide) (by decide) (by decide), g 60 61 (by decide) (by decide) (by decide), g 62 61 (by decide) (by decide) (by decide), g 33 61 (by decide) (by decide) (by decide), g 45 62 (by decide) (by decide) (by decide)]
  unfold symP
  rw [hf]
  have h0 : (t ++ c :: r).getD 0 0 = t.getD 0 0 := by cases t with | nil => exact absurd rfl ht | cons a u => rfl
  have h1 : (t ++ c :: r).take 1 = t.take 1 := by cases t with | nil => exact absurd rfl ht | cons a u => rfl
  rw [h0, h1]

theorem oneP_app {t : List UInt8} {c : UInt8} {r : List UInt8} (hc : Sep c) {x : Nat × List UInt8 × Nat} (h : oneP t = some x) : oneP (t ++ c :: r) = some x := by
  have hl := (oneP_len h).2.1
  have ht : t ≠ [] := by
    intro e
    have := (oneP_len h).1
    rw [e] at hl
    simp at hl
    omega
  have hp := List.length_pos_iff.2 ht
  have w1 : runN wordB (t ++ c :: r) = runN wordB t := runN_app _ _ _ hc.lt hc.word _ _ (Nat.le_refl _)
  have d0 := digit_app t c r hc 1 hp
  have e34 := hd_eq_app t c r hc.lt 1 hp 34 (by omega) hc.ne.2.2.2.2.1
  unfold oneP at h ⊢
  rw [hd_app t c r ht hc.lt, w1, numN_app t c r hc, d0, symP_app ht hc, List.take_append_of_le_length (runN_le' _ _), List.take_append_of_le_length (numN_le t)]
  split
  · rename_i q
    rw [if_pos q] at h
    exact h
  · rename_i q
    rw [if_neg q] at h
    split
    · rename_i q
      rw [if_pos q] at h
      exact h
    · rename_i q
      rw [if_neg q] at h
      split
      · rename_i q
        rw [if_pos q] at h
        rw [List.drop_append_of_le_length hp]
        cases hy : txtP (t.drop 1) with
        | none => rw [hy] at h; cases h
        | some y => rw [(txtP_app c r hc.lt _ _ (Nat.le_refl _) y hy).1]; rw [hy] at h; exact h
      · rename_i q
        rw [if_neg q] at h
        by_cases q2 : hd t = 64 ∧ hd (t.drop 1) = 34
        · rw [if_pos q2] at h
          have := hd_pos t 1 (by omega)
          rw [if_pos ⟨q2.1, e34.2 q2.2⟩, List.drop_append_of_le_length (by omega)]
          cases hy : txtP (t.drop 2) with
          | none => rw [hy] at h; cases h
          | some y => rw [(txtP_app c r hc.lt _ _ (Nat.le_refl _) y hy).1]; rw [hy] at h; exact h
        · rw [if_neg q2] at h
          rw [if_neg (fun z => q2 ⟨z.1, e34.1 z.2⟩)]
          exact h

theorem hd_cons0 (c : UInt8) (r : List UInt8) (hc : c.toNat < 128) : hd (c :: r) = (c.toNat : Int) := hd_ascii c r hc

theorem skP_space (c : UInt8) (r : List UInt8) (hc : c.toNat < 128) (hs : spaceB (c.toNat : Int) = true) : skP (c :: r) = (skP r).map (1 + ·) := by
  rw [skP_cons _ (by simp), hd_ascii c r hc, if_pos hs]
  rfl
theorem skP_le : ∀ (m : Nat) (t : List UInt8), t.length ≤ m → ∀ n, skP t = some n → n ≤ t.length := by
  intro m
  induction m with
  | zero =>
    intro t h n hn
    rw [List.eq_nil_of_length_eq_zero (by omega : t.length = 0), skP_nil] at hn
    cases hn
    exact Nat.zero_le _
  | succ m ih =>
    intro t h n hn
    by_cases e : t = []
    · subst e; rw [skP_nil] at hn; cases hn; exact Nat.zero_le _
    · have hp := List.length_pos_iff.2 e
      have step : ∀ d, 1 ≤ d → d ≤ t.length → (skP (t.drop d)).map (d + ·) = some n → n ≤ t.length := by
        intro d h1 h2 hq
        cases hy : skP (t.drop d) with
        | none => rw [hy] at hq; cases hq
        | some y =>
          have := ih _ (by rw [List.length_drop]; omega) y hy
          rw [hy] at hq
          cases hq
          rw [List.length_drop] at this
          dsimp only
          omega
      rw [skP_cons _ e] at hn
      split at hn
      · exact step 1 (Nat.le_refl _) hp hn
      · split at hn
        · rename_i h2
          exact step _ (lineN_ge t h2) (lineN_le t) hn
        · split at hn
          · split at hn
            · cases hn
            · rename_i h3 h4
              have hr := index_room (t.drop 2) [42, 47] (by omega)
              have h5 := List.isPrefixOf_iff_prefix.1 h3
              have h6 := h5.length_le
              rw [List.length_drop] at hr
              simp only [List.length_cons, List.length_nil] at hr h6
              exact step _ (by omega) (by omega) hn
          · cases hn; exact Nat.zero_le _

theorem lineN_cons (b : UInt8) (t : List UInt8) : lineN (b :: t) = if b = 10 then 0 else 1 + lineN t := by
  have g := indexByte_ge t 10
  have e : indexByte (b :: t) 10 = if (b == 10) = true then 0 else if indexByte t 10 == -1 then -1 else indexByte t 10 + 1 := rfl
  unfold lineN
  rw [e]
  by_cases h : b = 10
  · simp [h]
  · have h2 : (b == 10) = false := by simpa using h
    rw [h2, if_neg h]
    by_cases h1 : indexByte t 10 = -1
    · rw [h1]; simp; omega
    · have h3 : (indexByte t 10 == -1) = false := by simpa using h1
      rw [h3]
      simp only [Bool.false_eq_true, if_false]
      rw [if_neg (by omega), if_neg (by omega)]
      omega
theorem lineN_app (t : List UInt8) (z : List UInt8) : lineN (t ++ z) = if lineN t = t.length then t.length + lineN z else lineN t := by
  induction t with
  | nil => simp [lineN, indexByte]
  | cons b t ih =>
    rw [List.cons_append, lineN_cons, lineN_cons, ih, List.length_cons]
    by_cases h : b = 10
    · rw [if_pos h, if_pos h, if_neg (by omega)]
    · rw [if_neg h, if_neg h]
      split
      · rw [if_pos (by omega)]; omega
      · rw [if_neg (by omega)]

theorem index_app (t z sub : List UInt8) (h : 0 ≤ index t sub) : index (t ++ z) sub = index t sub := by
  rcases index_spec t sub with ⟨h1, _⟩ | ⟨i, h1, h2, h3, h4⟩
  · omega
  · have hr := index_room t sub h
    rw [h1]
    have hl : i + sub.length ≤ t.length := by omega
    refine index_first (by rw [List.length_append]; omega) ?_ ?_
    · unfold occAt at h3 ⊢
      rw [List.drop_append_of_le_length h2]
      obtain ⟨u, hu⟩ := List.isPrefixOf_iff_prefix.1 h3
      exact List.isPrefixOf_iff_prefix.2 ⟨u ++ z, by rw [← List.append_assoc, hu]⟩
    · intro j hj
      have h5 := h4 j hj
      unfold occAt at h5 ⊢
      rw [List.drop_append_of_le_length (by omega)]
      cases hq : sub.isPrefixOf (t.drop j ++ z) with
      | false => rfl
      | true =>
        have hp := List.isPrefixOf_iff_prefix.1 hq
        have : sub <+: t.drop j := by
          refine List.prefix_of_prefix_length_le hp (List.prefix_append _ _) ?_
          rw [List.length_drop]; omega
        rw [List.isPrefixOf_iff_prefix.2 this] at h5
        cases h5

/-- where a token ends, or nothing is left, a separator behind it changes nothing -/
theorem skP_stop (c : UInt8) (r : List UInt8) (hc : Sep c) : ∀ (m : Nat) (t : List UInt8), t.length ≤ m → ∀ n, skP t = some n → n < t.length → skP (t ++ c :: r) = some n := by
  intro m
  induction m with
  | zero => intro t h n _ hn; omega
  | succ m ih =>
    intro t h n hn hlt
    by_cases e : t = []
    · subst e; simp at hlt
    · have hp := List.length_pos_iff.2 e
      have p1 : hasPrefix (t ++ c :: r) [47, 47] = hasPrefix t [47, 47] := two_app e 47 47 (by rcases hc with rfl | rfl | rfl <;> decide)
      have p2 : hasPrefix (t ++ c :: r) [47, 42] = hasPrefix t [47, 42] := two_app e 47 42 (by rcases hc with rfl | rfl | rfl <;> decide)
      have step : ∀ d, 1 ≤ d → d ≤ t.length → (skP (t.drop d)).map (d + ·) = some n → (skP ((t ++ c :: r).drop d)).map (d + ·) = some n := by
        intro d h1 h2 hq
        cases hy : skP (t.drop d) with
        | none => rw [hy] at hq; cases hq
        | some y =>
          rw [hy] at hq
          rw [List.drop_append_of_le_length h2]
          cases hq
          rw [ih (t.drop d) (by rw [List.length_drop]; omega) y hy (by rw [List.length_drop]; dsimp only at hlt; omega)]
          rfl
      rw [skP_cons _ e] at hn
      rw [skP_cons _ (by simp), hd_app t c r e hc.lt, p1, p2]
      split at hn
      · rename_i q
        rw [if_pos q]
        exact step 1 (Nat.le_refl _) hp hn
      · rename_i q
        rw [if_neg q]
        split at hn
        · rename_i h2
          rw [if_pos h2]
          have hl : lineN (t ++ c :: r) = lineN t := by
            rw [lineN_app]
            split
            · rename_i h3
              exfalso
              rw [h3, List.drop_length, skP_nil] at hn
              cases hn
              dsimp only at hlt
              omega
            · rfl
          rw [hl]
          exact step _ (lineN_ge t h2) (lineN_le t) hn
        · rename_i h2
          rw [if_neg h2]
          split at hn
          · rename_i h3
            rw [if_pos h3]
            split at hn
            · cases hn
            · rename_i h4
              have hr := index_room (t.drop 2) [42, 47] (by omega)
              have h6 := (List.isPrefixOf_iff_prefix.1 h3).length_le
              rw [List.length_drop] at hr
              simp only [List.length_cons, List.length_nil] at hr h6
              rw [List.drop_append_of_le_length (show 2 ≤ t.length by omega), index_app _ _ _ (by omega), if_neg h4]
              exact step _ (by omega) (by omega) hn
          · rename_i h3
            rw [if_neg h3]
            exact hn

/-- what may stand behind a source: its spaces and remarks go on as if they stood alone -/
def Gap (z : List UInt8) : Prop := ∃ c r, z = c :: r ∧ Sep c ∧ (skP (z.drop (lineN z))).map (lineN z + ·) = skP z

theorem skP_end (z : List UInt8) (hz : Gap z) : ∀ (m : Nat) (t : List UInt8), t.length ≤ m → skP t = some t.length → skP (t ++ z) = (skP z).map (t.length + ·) := by
  obtain ⟨c, r, rfl, hc, hlz⟩ := hz
  intro m
  induction m with
  | zero =>
    intro t h _
    rw [List.eq_nil_of_length_eq_zero (by omega : t.length = 0)]
    simp
  | succ m ih =>
    intro t h hn
    by_cases e : t = []
    · subst e; simp
    · have hp := List.length_pos_iff.2 e
      have p1 : hasPrefix (t ++ c :: r) [47, 47] = hasPrefix t [47, 47] := two_app e 47 47 (by rcases hc with rfl | rfl | rfl <;> decide)
      have p2 : hasPrefix (t ++ c :: r) [47, 42] = hasPrefix t [47, 42] := two_app e 47 42 (by rcases hc with rfl | rfl | rfl <;> decide)
      have step : ∀ d, 1 ≤ d → d ≤ t.length → (skP (t.drop d)).map (d + ·) = some t.length → (skP ((t ++ c :: r).drop d)).map (d + ·) = (skP (c :: r)).map (t.length + ·) := by
        intro d h1 h2 hq
        cases hy : skP (t.drop d) with
        | none => rw [hy] at hq; cases hq
        | some y =>
          rw [hy] at hq
          have hq2 : d + y = t.length := by simpa using hq
          rw [List.drop_append_of_le_length h2, ih (t.drop d) (by rw [List.length_drop]; omega) (by rw [hy, List.length_drop]; congr 1; omega), List.length_drop, Option.map_map]
          congr 1
          funext x
          simp only [Function.comp]
          omega
      rw [skP_cons _ e] at hn
      rw [skP_cons _ (by simp), hd_app t c r e hc.lt, p1, p2]
      split at hn
      · rename_i q
        rw [if_pos q]
        exact step 1 (Nat.le_refl _) hp hn
      · rename_i q
        rw [if_neg q]
        split at hn
        · rename_i h2
          rw [if_pos h2, lineN_app]
          split
          · rename_i h3
            rw [show (t ++ c :: r).drop (t.length + lineN (c :: r)) = (c :: r).drop (lineN (c :: r)) by rw [List.drop_append]; simp, ← hlz, Option.map_map]
            congr 1
            funext x
            simp only [Function.comp]
            omega
          · exact step _ (lineN_ge t h2) (lineN_le t) hn
        · rename_i h2
          rw [if_neg h2]
          split at hn
          · rename_i h3
            rw [if_pos h3]
            split at hn
            · cases hn
            · rename_i h4
              have hr := index_room (t.drop 2) [42, 47] (by omega)
              have h6 := (List.isPrefixOf_iff_prefix.1 h3).length_le
              rw [List.length_drop] at hr
              simp only [List.length_cons, List.length_nil] at hr h6
              rw [List.drop_append_of_le_length (show 2 ≤ t.length by omega), index_app _ _ _ (by omega), if_neg h4]
              exact step _ (by omega) (by omega) hn
          · have hn2 := Option.some.inj hn
            omega

/-! ### tokens without their places, without the end -/

theorem tokF_more : ∀ (m f : Nat) (t : List UInt8) (k : Nat), t.length ≤ m → t.length < f → tokF f t k = tokF (t.length + 1) t k := by
  intro m
  induction m with
  | zero =>
    intro f t k h1 h2
    obtain ⟨f, rfl⟩ : ∃ g, f = g + 1 := ⟨f - 1, by omega⟩
    rw [tokF, tokF]
    have : t = [] := List.eq_nil_of_length_eq_zero (by omega)
    subst this
    rfl
  | succ m ih =>
    intro f t k h1 h2
    obtain ⟨f, rfl⟩ : ∃ g, f = g + 1 := ⟨f - 1, by omega⟩
    rw [tokF, tokF]
    cases hs : skP t with
    | none => rfl
    | some n =>
      dsimp only
      split
      · rfl
      · rename_i hn
        cases ho : oneP (t.drop n) with
        | none => rfl
        | some x =>
          have hx := oneP_len ho
          rw [List.length_drop] at hx
          dsimp only
          rw [ih f _ _ (by rw [List.length_drop]; omega) (by rw [List.length_drop]; omega), ih t.length _ _ (by rw [List.length_drop]; omega) (by rw [List.length_drop]; omega)]

/-- the tokens of a source from a place on -/
def tokA (t : List UInt8) (k : Nat) : Option (List Tok) := tokF (t.length + 1) t k
theorem tokA_eq (t : List UInt8) (k : Nat) : tokA t k =
    match skP t with
    | none => none
    | some n =>
      if t.length ≤ n then some [⟨0, [], k + t.length⟩]
      else
        match oneP (t.drop n) with
        | none => none
        | some x => (tokA (t.drop (n + x.2.2)) (k + n + x.2.2)).map (⟨x.1, x.2.1, k + n⟩ :: ·) := by
  unfold tokA
  rw [tokF]
  cases hs : skP t with
  | none => rfl
  | some n =>
    dsimp only
    split
    · rfl
    · rename_i hn
      cases ho : oneP (t.drop n) with
      | none => rfl
      | some x =>
        have hx := oneP_len ho
        rw [List.length_drop] at hx
        dsimp only
        rw [tokF_more t.length t.length _ _ (by rw [List.length_drop]; omega) (by rw [List.length_drop]; omega)]
theorem toksL_A (l : List UInt8) : toksL l = if validD l = true then tokA l 0 else none := rfl

def kt (t : Tok) : Nat × List UInt8 := (t.kind, t.text)

theorem oneP_word {t : List UInt8} {x : Nat × List UInt8 × Nat} (h : oneP t = some x) (h1 : x.1 = 1) : letterB (hd x.2.1) = true ∧ runN wordB x.2.1 = x.2.1.length := by
  unfold oneP at h
  split at h
  · rename_i q
    cases h
    have hw : wordB (hd t) = true := by unfold wordB; rw [q]; rfl
    have hp := runW_pos hw
    have ht : t ≠ [] := fun e => by subst e; exact absurd q (by decide)
    have hr := runN_cons wordB t ht
    rw [hd_ne t ht] at hw
    rw [if_pos hw] at hr
    have hne : t.take (runN wordB t) ≠ [] := by
      intro e
      have := congrArg List.length e
      rw [List.length_take, List.length_nil] at this
      have := List.length_pos_iff.2 ht
      omega
    dsimp only
    refine ⟨?_, ?_⟩
    · rw [hd_ne _ hne, dec_take t _ (by omega), ← hd_ne t ht]
      exact q
    · rw [runN_take _ _ t (Nat.le_refl _), List.length_take, Nat.min_eq_left (runN_le' _ _)]
  · split at h
    · split at h
      · cases h; simp at h1
      · cases h
    · split at h
      · cases hy : txtP (t.drop 1) with
        | none => rw [hy] at h; cases h
        | some y => rw [hy] at h; cases h; simp at h1
      · split at h
        · cases hy : txtP (t.drop 2) with
          | none => rw [hy] at h; cases h
          | some y => rw [hy] at h; cases h; simp at h1
        · cases hy : symP t with
          | none => rw [hy] at h; cases h
          | some y => rw [hy] at h; cases h; simp at h1

/-- the law of a source's tokens: the last one is the end, all stand where they say -/
structure Fine (l : List UInt8) (k : Nat) (ts : List Tok) : Prop where
  last : ∃ us, ts = us ++ [⟨0, [], l.length⟩] ∧ ∀ u ∈ us, u.kind ≠ 0
  rise : ∀ i (h : i + 1 < ts.length), ts[i].at_ < ts[i + 1].at_
  plain : ∀ t ∈ ts, (t.kind = 1 ∨ t.kind = 2 ∨ t.kind = 5) → t.text ≠ [] ∧ (l.drop t.at_).take t.text.length = t.text ∧ t.at_ + t.text.length ≤ l.length
  shape : ∀ t ∈ ts, t.kind = 2 → shapeB t.text = true
  kinds : ∀ t ∈ ts, t.kind ≤ 5
  low : ∀ t ∈ ts, k ≤ t.at_
  len : ts.length ≤ l.length + 1 - k
  word : ∀ t ∈ ts, t.kind = 1 → letterB (hd t.text) = true ∧ runN wordB t.text = t.text.length

theorem oneP_kind {t : List UInt8} {x : Nat × List UInt8 × Nat} (h : oneP t = some x) : x.1 ≤ 5 := by
  unfold oneP at h
  split at h
  · cases h; dsimp only; omega
  · split at h
    · split at h
      · cases h; dsimp only; omega
      · cases h
    · split at h
      · cases hy : txtP (t.drop 1) with
        | none => rw [hy] at h; cases h
        | some y => rw [hy] at h; cases h; dsimp only; omega
      · split at h
        · cases hy : txtP (t.drop 2) with
          | none => rw [hy] at h; cases h
          | some y => rw [hy] at h; cases h; dsimp only; omega
        · cases hy : symP t with
          | none => rw [hy] at h; cases h
          | some y => rw [hy] at h; cases h; dsimp only; omega

theorem tokA_fine (l : List UInt8) : ∀ (m k : Nat) (ts : List Tok), l.length - k ≤ m → k ≤ l.length → tokA (l.drop k) k = some ts → Fine l k ts := by
  intro m
  induction m with
  | zero =>
    intro k ts h1 h2 h
    have hk : k = l.length := by omega
    subst hk
    rw [List.drop_length] at h
    rw [tokA_eq, skP_nil] at h
    simp only [List.length_nil, Nat.le_refl, if_true, Nat.add_zero, Option.some.injEq] at h
    subst h
    exact ⟨⟨[], rfl, by simp⟩, fun i hi => by simp at hi, fun t ht q => by simp at ht; subst ht; simp at q, fun t ht q => by simp at ht; subst ht; simp at q, fun t ht => by simp at ht; subst ht; simp, fun t ht => by simp at ht; subst ht; simp, by simp, fun t ht q => by simp at ht; subst ht; simp at q⟩
  | succ m ih =>
    intro k ts h1 h2 h
    have hl : (l.drop k).length = l.length - k := List.length_drop
    rw [tokA_eq] at h
    cases hs : skP (l.drop k) with
    | none => rw [hs] at h; cases h
    | some n =>
      have hn := skP_le _ _ (Nat.le_refl _) n hs
      rw [hs] at h
      dsimp only at h
      split at h
      · rename_i hq
        have hk : k + (l.drop k).length = l.length := by omega
        rw [hk] at h
        cases h
        exact ⟨⟨[], rfl, by simp⟩, fun i hi => by simp at hi, fun t ht q => by simp at ht; subst ht; simp at q, fun t ht q => by simp at ht; subst ht; simp at q, fun t ht => by simp at ht; subst ht; simp, fun t ht => by simp at ht; subst ht; simpa using h2, by simp; omega, fun t ht q => by simp at ht; subst ht; simp at q⟩
      · rename_i hq
        cases ho : oneP ((l.drop k).drop n) with
        | none => rw [ho] at h; cases h
        | some x =>
          obtain ⟨x1, x2, x3, x4, x5⟩ := oneP_len ho
          have x6 := oneP_kind ho
          rw [ho] at h
          dsimp only at h
          rw [List.drop_drop] at x2 x4
          rw [List.length_drop] at x2
          rw [List.drop_drop, show k + (n + x.2.2) = k + n + x.2.2 by omega] at h
          cases hr : tokA (l.drop (k + n + x.2.2)) (k + n + x.2.2) with
          | none => rw [hr] at h; cases h
          | some us =>
            have F := ih (k + n + x.2.2) us (by omega) (by omega) hr
            rw [hr] at h
            cases h
            obtain ⟨vs, e, hv⟩ := F.last
            refine ⟨⟨⟨x.1, x.2.1, k + n⟩ :: vs, by rw [e]; rfl, ?_⟩, ?_, ?_, ?_, ?_, ?_, ?_, ?_⟩
            · intro u hu
              rcases List.mem_cons.1 hu with rfl | hu
              · exact x3
              · exact hv u hu
            · intro i hi
              cases i with
              | zero =>
                have hm : us[0]'(by simpa using hi) ∈ us := List.getElem_mem _
                have := F.low _ hm
                simp only [List.getElem_cons_zero, List.getElem_cons_succ]
                omega
              | succ i =>
                simp only [List.getElem_cons_succ]
                exact F.rise i (by simpa using hi)
            · intro t ht q
              rcases List.mem_cons.1 ht with rfl | ht
              · dsimp only at q ⊢
                have hx := x4 q
                have hlx := congrArg List.length hx
                rw [List.length_take, List.length_drop, Nat.min_eq_left (by omega)] at hlx
                refine ⟨?_, ?_, by omega⟩
                · intro z
                  rw [z] at hlx
                  simp at hlx
                  omega
                · rw [hlx]; exact hx.symm
              · exact F.plain t ht q
            · intro t ht q
              rcases List.mem_cons.1 ht with rfl | ht
              · exact x5 q
              · exact F.shape t ht q
            · intro t ht
              rcases List.mem_cons.1 ht with rfl | ht
              · exact x6
              · exact F.kinds t ht
            · intro t ht
              rcases List.mem_cons.1 ht with rfl | ht
              · dsimp only; omega
              · have := F.low t ht; omega
            · have := F.len
              simp only [List.length_cons]
              omega
            · intro t ht q
              rcases List.mem_cons.1 ht with rfl | ht
              · exact oneP_word ho q
              · exact F.word t ht q

/-! ### what a source's tokens are but for their places -/

def ktl (o : Option (List Tok)) : Option (List (Nat × List UInt8)) := o.map fun ts => ts.map kt

/-- kinds and texts, without the end -/
def tbF : Nat → List UInt8 → Option (List (Nat × List UInt8))
  | 0, _ => none
  | f + 1, t =>
    match skP t with
    | none => none
    | some n =>
      if t.length ≤ n then some []
      else
        match oneP (t.drop n) with
        | none => none
        | some x => (tbF f (t.drop (n + x.2.2))).map ((x.1, x.2.1) :: ·)
def tb (t : List UInt8) : Option (List (Nat × List UInt8)) := tbF (t.length + 1) t

theorem tbF_more : ∀ (m f : Nat) (t : List UInt8), t.length ≤ m → t.length < f → tbF f t = tbF (t.length + 1) t := by
  intro m
  induction m with
  | zero =>
    intro f t h1 h2
    obtain ⟨f, rfl⟩ : ∃ g, f = g + 1 := ⟨f - 1, by omega⟩
    rw [tbF, tbF]
    have : t = [] := List.eq_nil_of_length_eq_zero (by omega)
    subst this
    rfl
  | succ m ih =>
    intro f t h1 h2
    obtain ⟨f, rfl⟩ : ∃ g, f = g + 1 := ⟨f - 1, by omega⟩
    rw [tbF, tbF]
    cases hs : skP t with
    | none => rfl
    | some n =>
      dsimp only
      split
      · rfl
      · rename_i hn
        cases ho : oneP (t.drop n) with
        | none => rfl
        | some x =>
          have hx := oneP_len ho
          rw [List.length_drop] at hx
          dsimp only
          rw [ih f _ (by rw [List.length_drop]; omega) (by rw [List.length_drop]; omega), ih t.length _ (by rw [List.length_drop]; omega) (by rw [List.length_drop]; omega)]

theorem tb_eq (t : List UInt8) : tb t =
    match skP t with
    | none => none
    | some n =>
      if t.length ≤ n then some []
      else
        match oneP (t.drop n) with
        | none => none
        | some x => (tb (t.drop (n + x.2.2))).map ((x.1, x.2.1) :: ·) := by
  unfold tb
  rw [tbF]
  cases hs : skP t with
  | none => rfl
  | some n =>
    dsimp only
    split
    · rfl
    · rename_i hn
      cases ho : oneP (t.drop n) with
      | none => rfl
      | some x =>
        have hx := oneP_len ho
        rw [List.length_drop] at hx
        dsimp only
        rw [tbF_more t.length t.length _ (by rw [List.length_drop]; omega) (by rw [List.length_drop]; omega)]

theorem tb_one {t : List UInt8} {n : Nat} {x : Nat × List UInt8 × Nat} (hs : skP t = some n) (ho : oneP (t.drop n) = some x) : tb t = (tb (t.drop (n + x.2.2))).map ((x.1, x.2.1) :: ·) := by
  have hx := oneP_len ho
  rw [List.length_drop] at hx
  rw [tb_eq, hs]
  dsimp only
  rw [if_neg (by omega), ho]
theorem tb_end {t : List UInt8} (hs : skP t = some t.length) : tb t = some [] := by
  rw [tb_eq, hs]
  dsimp only
  rw [if_pos (Nat.le_refl _)]

theorem tokA_tb : ∀ (m : Nat) (t : List UInt8) (k : Nat), t.length ≤ m → ktl (tokA t k) = (tb t).map (· ++ [(0, [])]) := by
  intro m
  induction m with
  | zero =>
    intro t k h
    have : t = [] := List.eq_nil_of_length_eq_zero (by omega)
    subst this
    rw [tokA_eq, tb_eq, skP_nil]
    rfl
  | succ m ih =>
    intro t k h
    rw [tokA_eq, tb_eq]
    cases hs : skP t with
    | none => rfl
    | some n =>
      dsimp only
      split
      · rfl
      · rename_i hn
        cases ho : oneP (t.drop n) with
        | none => rfl
        | some x =>
          have hx := oneP_len ho
          rw [List.length_drop] at hx
          have := ih (t.drop (n + x.2.2)) (k + n + x.2.2) (by rw [List.length_drop]; omega)
          dsimp only
          unfold ktl at this ⊢
          cases ha : tokA (t.drop (n + x.2.2)) (k + n + x.2.2) with
          | none =>
            rw [ha] at this
            cases hb : tb (t.drop (n + x.2.2)) with
            | none => rfl
            | some y => rw [hb] at this; cases this
          | some us =>
            rw [ha] at this
            cases hb : tb (t.drop (n + x.2.2)) with
            | none => rw [hb] at this; cases this
            | some y =>
              rw [hb] at this
              have := Option.some.inj this
              simp only [Option.map_some, List.map_cons, List.cons_append] at this ⊢
              rw [this]
              rfl

/-- sources one behind the other -/
theorem tb_app (z : List UInt8) (hz : Gap z) : ∀ (m : Nat) (t : List UInt8), t.length ≤ m → ∀ ts, tb t = some ts → tb (t ++ z) = (tb z).map (ts ++ ·) := by
  obtain ⟨c, r, e0, hc, hlz⟩ := id hz
  intro m
  induction m with
  | zero =>
    intro t h ts ht
    have : t = [] := List.eq_nil_of_length_eq_zero (by omega)
    subst this
    rw [tb_eq, skP_nil] at ht
    cases ht
    simp
  | succ m ih =>
    intro t h ts ht
    rw [tb_eq] at ht
    cases hs : skP t with
    | none => rw [hs] at ht; cases ht
    | some n =>
      have hle := skP_le _ _ (Nat.le_refl _) n hs
      rw [hs] at ht
      dsimp only at ht
      split at ht
      · rename_i hn
        cases ht
        have hnl : n = t.length := by omega
        rw [hnl] at hs
        have hE := skP_end z hz _ t (Nat.le_refl _) hs
        have hzr : tb (t ++ z) = tb z := by
          rw [tb_eq, tb_eq z, hE]
          cases hq : skP z with
          | none => rfl
          | some q =>
            simp only [Option.map_some]
            rw [List.length_append]
            by_cases hq2 : z.length ≤ q
            · rw [if_pos (by omega), if_pos hq2]
            · rw [if_neg (by omega), if_neg hq2]
              have e1 : ∀ j, (t ++ z).drop (t.length + j) = z.drop j := fun j => by rw [List.drop_append]; simp
              rw [e1]
              cases ho : oneP (z.drop q) with
              | none => rfl
              | some x =>
                dsimp only
                rw [Nat.add_assoc, e1]
        rw [hzr]
        simp
      · rename_i hn
        cases ho : oneP (t.drop n) with
        | none => rw [ho] at ht; cases ht
        | some x =>
          have hx := oneP_len ho
          rw [List.length_drop] at hx
          rw [ho] at ht
          dsimp only at ht
          cases hr : tb (t.drop (n + x.2.2)) with
          | none => rw [hr] at ht; cases ht
          | some us =>
            rw [hr] at ht
            cases ht
            have hs2 : skP (t ++ z) = some n := by rw [e0]; exact skP_stop c r hc _ t (Nat.le_refl _) n hs (by omega)
            have ho2 : oneP ((t ++ z).drop n) = some x := by
              rw [List.drop_append_of_le_length hle, e0]
              exact oneP_app hc ho
            rw [tb_one hs2 ho2, List.drop_append_of_le_length (by omega), ih _ (by rw [List.length_drop]; omega) us hr, Option.map_map]
            cases tb z <;> rfl

/-- spaces and remarks ahead change nothing -/
theorem tb_ahead {p t : List UInt8} (h : skP (p ++ t) = (skP t).map (p.length + ·)) : tb (p ++ t) = tb t := by
  rw [tb_eq, tb_eq t, h]
  cases hq : skP t with
  | none => rfl
  | some q =>
    simp only [Option.map_some]
    rw [List.length_append]
    by_cases hq2 : t.length ≤ q
    · rw [if_pos (by omega), if_pos hq2]
    · rw [if_neg (by omega), if_neg hq2]
      have e1 : ∀ j, (p ++ t).drop (p.length + j) = t.drop j := fun j => by rw [List.drop_append]; simp
      rw [e1]
      cases ho : oneP (t.drop q) with
      | none => rfl
      | some x =>
        dsimp only
        rw [Nat.add_assoc, e1]

/-! ### the gap of the law LexSpaces -/
def gapL (n : Nat) : List UInt8 := [32, 47, 42, 32, 43, 32, 42, 47, 32, 47, 47, 32, 34, 10, 9] ++ List.replicate n 32

theorem skP_spaces (X : List UInt8) : ∀ n, skP (List.replicate n 32 ++ X) = (skP X).map (n + ·)
  | 0 => by simp
  | n + 1 => by
    rw [List.replicate_succ, List.cons_append, skP_space 32 _ (by decide) (by decide), skP_spaces X n, Option.map_map]
    congr 1
    funext x
    simp only [Function.comp]
    omega

theorem skP_gapA (n : Nat) (X : List UInt8) : skP (gapL n ++ X) = (skP X).map ((gapL n).length + ·) := by
  have hb : ∀ Y, skP (47 :: 42 :: 32 :: 43 :: 32 :: 42 :: 47 :: Y) = (skP Y).map (7 + ·) := fun Y => by
    rw [skP_cons _ (by simp), hd_ascii _ _ (by decide), if_neg (by decide), if_neg (by simp [hasPrefix, List.isPrefixOf]), if_pos (by simp [hasPrefix, List.isPrefixOf])]
    have e : index ((47 :: 42 :: 32 :: 43 :: 32 :: 42 :: 47 :: Y).drop 2) [42, 47] = 3 := by
      simp [index, List.isPrefixOf]
    rw [e, if_neg (by decide)]
    rfl
  have hl : ∀ Y, skP (47 :: 47 :: 32 :: 34 :: 10 :: Y) = (skP (10 :: Y)).map (4 + ·) := fun Y => by
    rw [skP_cons _ (by simp), hd_ascii _ _ (by decide), if_neg (by decide), if_pos (by simp [hasPrefix, List.isPrefixOf])]
    have e : lineN (47 :: 47 :: 32 :: 34 :: 10 :: Y) = 4 := by simp [lineN_cons]
    rw [e]
    rfl
  unfold gapL
  simp only [List.cons_append, List.nil_append, List.length_cons, List.length_replicate]
  rw [skP_space 32 _ (by decide) (by decide), hb, skP_space 32 _ (by decide) (by decide), hl, skP_space 10 _ (by decide) (by decide), skP_space 9 _ (by decide) (by decide), skP_spaces]
  simp only [Option.map_map]
  congr 1
  funext x
  simp only [Function.comp]
  omega
theorem skP_gap0 (n : Nat) : skP (gapL n) = some (gapL n).length := by
  have := skP_gapA n []
  rw [List.append_nil, skP_nil] at this
  exact this

theorem lineN_spaces : ∀ n, lineN (List.replicate n 32) = n
  | 0 => rfl
  | n + 1 => by rw [List.replicate_succ, lineN_cons, if_neg (by decide), lineN_spaces n]; omega
theorem gap_gap (n : Nat) : Gap (gapL n) := by
  refine ⟨32, _, rfl, .inr (.inr rfl), ?_⟩
  have e : lineN (gapL n) = 13 := by
    unfold gapL
    simp [lineN_cons]
  have e2 : (gapL n).drop 13 = 10 :: 9 :: List.replicate n 32 := rfl
  have := skP_spaces [] n
  rw [List.append_nil, skP_nil] at this
  rw [e, e2, skP_space 10 _ (by decide) (by decide), skP_space 9 _ (by decide) (by decide), this, skP_gap0]
  simp [gapL]
  omega
theorem gap_nl (r : List UInt8) : Gap (10 :: r) := by
  refine ⟨10, r, rfl, .inr (.inl rfl), ?_⟩
  have e : lineN (10 :: r) = 0 := by rw [lineN_cons, if_pos rfl]
  rw [e, List.drop_zero]
  cases skP (10 :: r) <;> simp

theorem tb_spaces (a b : List UInt8) (n : Nat) (x y : List (Nat × List UInt8)) (ha : tb a = some x) (hb : tb b = some y) :
    tb (gapL n ++ a ++ [10] ++ gapL n ++ b ++ gapL n) = some (x ++ y) := by
  have e : gapL n ++ a ++ [10] ++ gapL n ++ b ++ gapL n = gapL n ++ (a ++ 10 :: (gapL n ++ (b ++ gapL n))) := by simp
  rw [e, tb_ahead (skP_gapA n _), tb_app _ (gap_nl _) _ a (Nat.le_refl _) x ha]
  have e2 : tb (10 :: (gapL n ++ (b ++ gapL n))) = tb (gapL n ++ (b ++ gapL n)) := tb_ahead (p := [10]) (t := gapL n ++ (b ++ gapL n)) (skP_space 10 _ (by decide) (by decide))
  rw [e2, tb_ahead (skP_gapA n _), tb_app _ (gap_gap n) _ b (Nat.le_refl _) y hb, tb_end (skP_gap0 n)]
  simp

/-! ### validity -/
theorem valid_iff (l : List UInt8) : validD l = true ↔ valL l = l := valL_valid _ l (Nat.le_refl _)
theorem valid_enc (rs : List Nat) (h : ∀ r ∈ rs, okR r) : validD (encL rs) = true := by
  rw [valid_iff]; unfold valL; rw [rns_enc rs h]
theorem valid_app {a b : List UInt8} (ha : validD a = true) (hb : validD b = true) : validD (a ++ b) = true := by
  rw [valid_iff] at ha hb
  rw [← ha, ← hb]
  unfold valL
  rw [← encL_append]
  refine valid_enc _ (fun r hr => ?_)
  rcases List.mem_append.1 hr with h | h
  · exact rns_ok _ r h
  · exact rns_ok _ r h
theorem valid_ascii : ∀ (l : List UInt8), (∀ b ∈ l, b.toNat < 128) → validD l = true
  | [], _ => validD_nil
  | b :: l, h => by
    rw [validD_step _ (by simp), decodeL_ascii b l (h b (by simp)), if_neg (fun q => by have := h b (by simp); have q1 : b.toNat = 65533 := q.1; omega)]
    exact valid_ascii l (fun x hx => h x (by simp [hx]))
theorem valid_spaces (a b : List UInt8) (n : Nat) (ha : validD a = true) (hb : validD b = true) : validD (gapL n ++ a ++ [10] ++ gapL n ++ b ++ gapL n) = true := by
  have hg : validD (gapL n) = true := by
    refine valid_ascii _ (fun b hb => ?_)
    unfold gapL at hb
    rcases List.mem_append.1 hb with h | h
    · have : ∀ x ∈ ([32, 47, 42, 32, 43, 32, 42, 47, 32, 47, 47, 32, 34, 10, 9] : List UInt8), x.toNat < 128 := by decide
      exact this b h
    · rw [(List.mem_replicate.1 h).2]; decide
  exact valid_app (valid_app (valid_app (valid_app (valid_app hg ha) (by decide +kernel)) hg) hb) hg

/-- LexSpaces, plainly -/
theorem spaces_law (a b : List UInt8) (n : Nat) (x y : List Tok) (ha : toksL a = some x) (hb : toksL b = some y) :
    ∃ z, toksL (gapL n ++ a ++ [10] ++ gapL n ++ b ++ gapL n) = some z ∧ z.length = x.length + y.length - 1 ∧ 1 ≤ x.length ∧ 1 ≤ y.length ∧
      z.map kt = (x.take (x.length - 1) ++ y).map kt := by
  rw [toksL_A] at ha hb ⊢
  split at ha
  · rename_i va
    split at hb
    · rename_i vb
      have h1 := tokA_tb _ a 0 (Nat.le_refl _)
      have h2 := tokA_tb _ b 0 (Nat.le_refl _)
      have h3 := tokA_tb _ (gapL n ++ a ++ [10] ++ gapL n ++ b ++ gapL n) 0 (Nat.le_refl _)
      rw [ha] at h1
      rw [hb] at h2
      cases hx : tb a with
      | none => rw [hx] at h1; cases h1
      | some u =>
        cases hy : tb b with
        | none => rw [hy] at h2; cases h2
        | some v =>
          rw [hx] at h1
          rw [hy] at h2
          rw [tb_spaces a b n u v hx hy] at h3
          have h1 := Option.some.inj h1
          have h2 := Option.some.inj h2
          rw [if_pos (valid_spaces a b n va vb)]
          cases hz : tokA (gapL n ++ a ++ [10] ++ gapL n ++ b ++ gapL n) 0 with
          | none => rw [hz] at h3; cases h3
          | some z =>
            rw [hz] at h3
            have h3 := Option.some.inj h3
            dsimp only at h1 h2 h3
            have l1 := congrArg List.length h1
            have l2 := congrArg List.length h2
            have l3 := congrArg List.length h3
            simp only [List.length_map, List.length_append, List.length_cons, List.length_nil] at l1 l2 l3
            refine ⟨z, rfl, by omega, by omega, by omega, ?_⟩
            rw [h3, List.map_append, h2, List.map_take, h1, l1]
            simp
    · cases hb
  · cases ha

/-! ### a word, a number -/
theorem tokA_single (l : List UInt8) (kd : Nat) (hl : l ≠ []) (hs : skP l = some 0) (ho : oneP l = some (kd, l, l.length)) : tokA l 0 = some [⟨kd, l, 0⟩, ⟨0, [], l.length⟩] := by
  have hp := List.length_pos_iff.2 hl
  rw [tokA_eq, hs]
  dsimp only
  rw [if_neg (by omega), List.drop_zero, ho]
  dsimp only
  simp only [Nat.zero_add, Nat.add_zero]
  rw [List.drop_length, tokA_eq, skP_nil]
  rfl

theorem skP_stop0 {t : List UInt8} (ht : t ≠ []) (h1 : spaceB (hd t) = false) (h2 : hd t ≠ 47) : skP t = some 0 := by
  have hb : ∀ x : UInt8, hasPrefix t [47, x] = false := fun x => by
    cases t with
    | nil => exact absurd rfl ht
    | cons b u =>
      simp only [hasPrefix, List.isPrefixOf]
      by_cases q : b = 47
      · subst q
        exact absurd (hd_ascii 47 u (by decide)) h2
      · have : ((47 : UInt8) == b) = false := by simpa using fun e => q e.symm
        rw [this]; rfl
  rw [skP_cons _ ht, if_neg (by rw [h1]; decide), if_neg (by rw [hb]; decide), if_neg (by rw [hb]; decide)]

/-- a run of the runes of a list -/
theorem run_enc (P : Int → Bool) : ∀ rs : List Nat, (∀ r ∈ rs, okR r) → (∀ r ∈ rs, P (r : Int) = true) → runN P (encL rs) = (encL rs).length
  | [], _, _ => by simp [encL_nil, runN_nil]
  | r :: rs, h, hP => by
    rw [runN_cons _ _ (encL_ne r rs), encL_cons, decode_encode r (h r (by simp)), if_pos (hP r (by simp))]
    dsimp only
    rw [List.drop_left, run_enc P rs (fun x hx => h x (by simp [hx])) (fun x hx => hP x (by simp [hx])), List.length_append]

theorem spaceB_letter {v : Int} (h : letterB v = true) : spaceB v = false := by
  have := of_decide_eq_true h
  exact decide_eq_false (by omega)
theorem spaceB_digit {v : Int} (h : digitB v = true) : spaceB v = false := by
  have := of_decide_eq_true h
  exact decide_eq_false (by omega)
theorem letter_ne47 {v : Int} (h : letterB v = true) : v ≠ 47 := by
  have := of_decide_eq_true h
  omega

/-- a run of letters and digits that begins with a letter -/
theorem word_one (l : List UInt8) (hl : l ≠ []) (h1 : letterB (hd l) = true) (h2 : runN wordB l = l.length) : skP l = some 0 ∧ oneP l = some (1, l, l.length) := by
  refine ⟨skP_stop0 hl (spaceB_letter h1) (letter_ne47 h1), ?_⟩
  unfold oneP
  rw [if_pos h1, h2, List.take_length]

theorem expN_end (t : List UInt8) : expN t t.length = t.length := by
  unfold expN
  rw [List.drop_length, hd_nil, if_neg (by decide)]
theorem digit_hd_letter {v : Int} (h : digitB v = true) : letterB v = false := by
  have := of_decide_eq_true h
  exact decide_eq_false (by omega)

theorem allDig_mem {l : List UInt8} (h : allDig l = true) : ∀ b ∈ l, 48 ≤ b.toNat ∧ b.toNat ≤ 57 := fun b hb => of_decide_eq_true (List.all_eq_true.1 h b hb)
theorem index_not (c : UInt8) : ∀ l : List UInt8, (∀ b ∈ l, b ≠ c) → index l [c] = -1
  | [], _ => rfl
  | b :: l, h => by
    have hb : (c == b) = false := by simpa using fun e : c = b => h b (by simp) e.symm
    have := index_not c l (fun x hx => h x (by simp [hx]))
    unfold index
    simp [List.isPrefixOf, hb, this]
theorem shape_digits (l : List UInt8) (hl : l ≠ []) (h : allDig l = true) : shapeB l = true := by
  have hm := allDig_mem h
  have e1 : cut l [69] = (l, [], false) := by
    unfold cut
    rw [index_not 69 l (fun b hb q => by have := hm b hb; rw [q] at this; revert this; decide), if_neg (by decide)]
  have e2 : cut l [46] = (l, [], false) := by
    unfold cut
    rw [index_not 46 l (fun b hb q => by have := hm b hb; rw [q] at this; revert this; decide), if_neg (by decide)]
  rw [shapeB_eq, e1]
  dsimp only
  rw [if_neg (by decide)]
  unfold shapeM digs
  rw [e2]
  dsimp only
  rw [h]
  cases l with
  | nil => exact absurd rfl hl
  | cons => rfl
theorem run_digits : ∀ (l : List UInt8), allDig l = true → runN digitB l = l.length
  | [], _ => rfl
  | b :: l, h => by
    have hm := allDig_mem h b (by simp)
    rw [allDig_cons, Bool.and_eq_true] at h
    rw [runN_cons _ _ (by simp), decodeL_ascii b l (by omega)]
    dsimp only
    rw [if_pos (show digitB (b.toNat : Int) = true from decide_eq_true (by omega)), List.drop_succ_cons, List.drop_zero, run_digits l h.2, List.length_cons]
    omega
theorem hd_digits {l : List UInt8} (hl : l ≠ []) (h : allDig l = true) : digitB (hd l) = true := by
  cases l with
  | nil => exact absurd rfl hl
  | cons b l =>
    have hm := allDig_mem h b (by simp)
    rw [hd_ascii b l (by omega)]
    exact decide_eq_true (by omega)
/-- digits, and nothing or a separator behind them, are one number -/
theorem digits_one (l : List UInt8) (hl : l ≠ []) (h : allDig l = true) : skP l = some 0 ∧ oneP l = some (2, l, l.length) := by
  have hh := hd_digits hl h
  refine ⟨skP_stop0 hl (spaceB_digit hh) (by have := of_decide_eq_true hh; omega), ?_⟩
  have hn : numN l = l.length := by
    unfold numN ptN
    rw [run_digits l h, List.drop_length, hd_nil, if_neg (by omega), expN_end]
  unfold oneP
  rw [if_neg (by rw [digit_hd_letter hh]; decide), if_pos (.inl hh), hn, List.take_length, if_pos (shape_digits l hl h)]

theorem word_dig (r : Nat) (h : digitB (r : Int) = true) : Lib.encodeRune (r : Int) = [r.toUInt8] := by
  have := of_decide_eq_true h
  unfold encodeRune
  rw [encodeRuneZ_one (by omega) (by omega)]
  simp
theorem allDig_enc : ∀ rs : List Nat, (∀ r ∈ rs, digitB (r : Int) = true) → allDig (encL rs) = true
  | [], _ => rfl
  | r :: rs, h => by
    have h1 := h r (by simp)
    have h2 := of_decide_eq_true h1
    rw [encL_cons, word_dig r h1, List.cons_append, List.nil_append, allDig_cons, allDig_enc rs (fun x hx => h x (by simp [hx])), Bool.and_true]
    refine decide_eq_true ?_
    have : r.toUInt8.toNat = r := by simp; omega
    omega

/-- LexWords, plainly -/
theorem words_law (rs : List Nat) (h : ∀ r ∈ rs, okR r) (hw : ∀ r ∈ rs, wordB (r : Int) = true) :
    toksL (119 :: encL rs) = some [⟨1, 119 :: encL rs, 0⟩, ⟨0, [], (encL rs).length + 1⟩] := by
  have e : (119 :: encL rs : List UInt8) = encL (119 :: rs) := by rw [encL_cons]; rfl
  have hok : ∀ r ∈ 119 :: rs, okR r := fun r hr => by
    rcases List.mem_cons.1 hr with rfl | hr
    · exact .inl (by omega)
    · exact h r hr
  have hW : ∀ r ∈ 119 :: rs, wordB (r : Int) = true := fun r hr => by
    rcases List.mem_cons.1 hr with rfl | hr
    · decide
    · exact hw r hr
  obtain ⟨h1, h2⟩ := word_one (119 :: encL rs) (by simp) (by rw [hd_ascii _ _ (by decide)]; decide) (by rw [e]; exact run_enc wordB _ hok hW)
  rw [toksL_A, if_pos (by rw [e]; exact valid_enc _ hok), tokA_single _ 1 (by simp) h1 h2]
  rfl
theorem digits_law (rs : List Nat) (hd : ∀ r ∈ rs, digitB (r : Int) = true) :
    toksL (55 :: encL rs) = some [⟨2, 55 :: encL rs, 0⟩, ⟨0, [], (encL rs).length + 1⟩] := by
  have ha : allDig (55 :: encL rs) = true := by rw [allDig_cons, allDig_enc rs hd]; decide
  obtain ⟨h1, h2⟩ := digits_one (55 :: encL rs) (by simp) ha
  rw [toksL_A, if_pos (valid_ascii _ (fun b hb => by have := allDig_mem ha b hb; omega)), tokA_single _ 2 (by simp) h1 h2]
  rfl

/-! ### a text, quoted -/
/-- how a rune stands in a string of the language -/
def esc (r : Int) : List UInt8 :=
  if r = 34 ∨ r = 92 then [92] ++ Lib.encodeRune r else if r = 10 then [92, 110] else if r = 13 then [92, 114] else if r = 9 then [92, 116] else Lib.encodeRune r
def escL (rs : List Nat) : List UInt8 := rs.flatMap fun (r : Nat) => esc (r : Int)
theorem escL_cons (r : Nat) (rs : List Nat) : escL (r :: rs) = esc (r : Int) ++ escL rs := by simp [escL]
theorem escL_append (a b : List Nat) : escL (a ++ b) = escL a ++ escL b := by simp [escL]
def quoteL (rs : List Nat) : List UInt8 := [34] ++ escL rs ++ [34]

theorem txt_plain {t : List UInt8} {n w : Nat} (hd : decodeL t = (n, w)) (ht : t ≠ []) (h1 : n ≠ 34) (h2 : n ≠ 10) (h3 : n ≠ 13) (h4 : n ≠ 92) : txtP t = (txtP (t.drop w)).map fun x => (Lib.encodeRune (n : Nat) ++ x.1, w + x.2) := by
  rw [txtP_cons _ ht, hd]
  dsimp only
  rw [if_neg h1, if_neg (by omega), if_neg h4]
theorem txt_esc {t : List UInt8} {v : Int} (h : escV t = (v, 1)) : txtP (92 :: t) = (txtP (t.drop 1)).map fun x => (Lib.encodeRune v ++ x.1, 2 + x.2) := by
  rw [txtP_cons _ (by simp), decodeL_ascii 92 t (by decide)]
  dsimp only
  rw [if_neg (by decide), if_neg (by decide), if_pos (by decide), List.drop_succ_cons, List.drop_zero, h, if_neg (show ¬ (1 : Nat) = 0 by decide)]
  rfl
theorem escV_plain (c : UInt8) (t : List UInt8) (hc : c = 34 ∨ c = 92) : escV (c :: t) = ((c.toNat : Int), 1) := by
  unfold escV
  rcases hc with rfl | rfl
  all_goals
    rw [hd_ascii _ _ (by decide), if_neg (by decide), if_neg (by decide), if_neg (by decide), if_pos (by decide)]
theorem escV_n (t : List UInt8) : escV (110 :: t) = (10, 1) := by
  unfold escV
  rw [hd_ascii _ _ (by decide), if_pos (by decide)]
theorem escV_r (t : List UInt8) : escV (114 :: t) = (13, 1) := by
  unfold escV
  rw [hd_ascii _ _ (by decide), if_neg (by decide), if_pos (by decide)]
theorem escV_t (t : List UInt8) : escV (116 :: t) = (9, 1) := by
  unfold escV
  rw [hd_ascii _ _ (by decide), if_neg (by decide), if_neg (by decide), if_pos (by decide)]

theorem txt_quote : ∀ rs : List Nat, (∀ r ∈ rs, okR r) → txtP (escL rs ++ [34]) = some (encL rs, (escL rs).length + 1)
  | [], _ => by
    show txtP [34] = _
    rw [txtP_cons _ (by simp), decodeL_ascii 34 [] (by decide)]
    rfl
  | r :: rs, h => by
    have ih := txt_quote rs (fun x hx => h x (by simp [hx]))
    have hr := h r (by simp)
    rw [escL_cons, encL_cons, List.append_assoc, List.length_append]
    generalize escL rs = u at *
    generalize encL rs = v at *
    by_cases a : r = 34
    · subst a
      show txtP (92 :: 34 :: (u ++ [34])) = _
      rw [txt_esc (escV_plain 34 _ (.inl rfl)), List.drop_succ_cons, List.drop_zero, ih]
      exact congrArg some (Prod.ext rfl (by show 2 + (u.length + 1) = 2 + u.length + 1; omega))
    by_cases b : r = 92
    · subst b
      show txtP (92 :: 92 :: (u ++ [34])) = _
      rw [txt_esc (escV_plain 92 _ (.inr rfl)), List.drop_succ_cons, List.drop_zero, ih]
      exact congrArg some (Prod.ext rfl (by show 2 + (u.length + 1) = 2 + u.length + 1; omega))
    by_cases c : r = 10
    · subst c
      show txtP (92 :: 110 :: (u ++ [34])) = _
      rw [txt_esc (escV_n _), List.drop_succ_cons, List.drop_zero, ih]
      exact congrArg some (Prod.ext rfl (by show 2 + (u.length + 1) = 2 + u.length + 1; omega))
    by_cases d : r = 13
    · subst d
      show txtP (92 :: 114 :: (u ++ [34])) = _
      rw [txt_esc (escV_r _), List.drop_succ_cons, List.drop_zero, ih]
      exact congrArg some (Prod.ext rfl (by show 2 + (u.length + 1) = 2 + u.length + 1; omega))
    by_cases e : r = 9
    · subst e
      show txtP (92 :: 116 :: (u ++ [34])) = _
      rw [txt_esc (escV_t _), List.drop_succ_cons, List.drop_zero, ih]
      exact congrArg some (Prod.ext rfl (by show 2 + (u.length + 1) = 2 + u.length + 1; omega))
    have he : esc (r : Int) = encodeRune (r : Int) := by
      unfold esc
      rw [if_neg (by omega), if_neg (by omega), if_neg (by omega), if_neg (by omega)]
    rw [he]
    have hne : encodeRune (r : Int) ++ (u ++ [34]) ≠ [] := by simp
    rw [txt_plain (decode_encode r hr _) hne a c d b, List.drop_left, ih]
    exact congrArg some (Prod.ext rfl (by show _ + (u.length + 1) = _ + u.length + 1; omega))

theorem valid_esc (r : Nat) (h : okR r) : validD (esc (r : Int)) = true := by
  have he : validD (encodeRune (r : Int)) = true := by
    have := valid_enc [r] (fun x hx => by simp at hx; subst hx; exact h)
    rw [encL_cons, encL_nil, List.append_nil] at this
    exact this
  unfold esc
  split
  · exact valid_app (by decide +kernel) he
  · split
    · decide +kernel
    · split
      · decide +kernel
      · split
        · decide +kernel
        · exact he
theorem valid_escL : ∀ rs : List Nat, (∀ r ∈ rs, okR r) → validD (escL rs) = true
  | [], _ => validD_nil
  | r :: rs, h => by
    rw [escL_cons]
    exact valid_app (valid_esc r (h r (by simp))) (valid_escL rs (fun x hx => h x (by simp [hx])))
theorem valid_quote (rs : List Nat) (h : ∀ r ∈ rs, okR r) : validD (quoteL rs) = true :=
  valid_app (valid_app (by decide +kernel) (valid_escL rs h)) (by decide +kernel)

/-- LexQuotes, plainly -/
theorem quotes_law (rs : List Nat) (h : ∀ r ∈ rs, okR r) : toksL (quoteL rs) = some [⟨3, encL rs, 0⟩, ⟨0, [], (quoteL rs).length⟩] := by
  have e : quoteL rs = 34 :: (escL rs ++ [34]) := by simp [quoteL]
  have hs : skP (quoteL rs) = some 0 := by
    rw [e]
    exact skP_stop0 (by simp) (by rw [hd_ascii _ _ (by decide)]; decide) (by rw [hd_ascii _ _ (by decide)]; decide)
  have ho : oneP (quoteL rs) = some (3, encL rs, (quoteL rs).length) := by
    rw [e]
    unfold oneP
    rw [hd_ascii _ _ (by decide), if_neg (by decide), if_neg (by rw [not_or]; exact ⟨by decide, fun q => absurd q.1 (by decide)⟩), if_pos (by decide), List.drop_succ_cons, List.drop_zero, txt_quote rs h]
    simp
  rw [toksL_A, if_pos (valid_quote rs h), tokA_eq, hs]
  dsimp only
  rw [if_neg (by rw [e]; simp), List.drop_zero, ho]
  dsimp only
  simp only [Nat.zero_add, Nat.add_zero]
  rw [List.drop_length, tokA_eq, skP_nil]
  rfl
theorem quotesAt_law (rs : List Nat) (h : ∀ r ∈ rs, okR r) : toksL (64 :: quoteL rs) = some [⟨4, encL rs, 0⟩, ⟨0, [], (quoteL rs).length + 1⟩] := by
  have e : quoteL rs = 34 :: (escL rs ++ [34]) := by simp [quoteL]
  have hs : skP (64 :: quoteL rs) = some 0 := skP_stop0 (by simp) (by rw [hd_ascii _ _ (by decide)]; decide) (by rw [hd_ascii _ _ (by decide)]; decide)
  have ho : oneP (64 :: quoteL rs) = some (4, encL rs, (quoteL rs).length + 1) := by
    rw [e]
    unfold oneP
    rw [hd_ascii _ _ (by decide), if_neg (by decide), if_neg (by rw [not_or]; exact ⟨by decide, fun q => absurd q.1 (by decide)⟩), if_neg (by decide), List.drop_succ_cons, List.drop_zero, hd_ascii _ _ (by decide), if_pos ⟨by decide, by decide⟩, List.drop_succ_cons, List.drop_succ_cons, List.drop_zero, txt_quote rs h]
    simp
  rw [toksL_A, if_pos (show validD (64 :: quoteL rs) = true from valid_app (a := [64]) (by decide +kernel) (valid_quote rs h)), tokA_eq, hs]
  dsimp only
  rw [if_neg (by simp), List.drop_zero, ho]
  dsimp only
  simp only [Nat.zero_add, Nat.add_zero]
  have : (64 :: quoteL rs).length = (quoteL rs).length + 1 := rfl
  rw [← this, List.drop_length, tokA_eq, skP_nil]
  rfl

/-! ### names -/
def kws : List (List UInt8) := [[110,117,108,108],[116,114,117,101],[102,97,108,115,101],[105,102],[116,104,101,110],[101,108,115,101],[102,111,114],[105,110],[114,101,116,117,114,110],[115,111,109,101],[101,118,101,114,121],[115,97,116,105,115,102,105,101,115],[97,110,100],[111,114],[98,101,116,119,101,101,110],[105,110,115,116,97,110,99,101],[111,102],[102,117,110,99,116,105,111,110]]
def kwB (s : List UInt8) : Bool := kws.contains s
def wordT (t : Tok) : Bool := t.kind == 1 || t.kind == 2
def signB (s : List UInt8) : Bool := [[43], [45], [42], [47], [46], [39]].contains s
def pieceT (t : Tok) : Bool := if t.kind = 1 then true else if t.kind = 2 then allDig t.text else if t.kind = 5 then signB t.text else false
def begT (t : Tok) : Bool := t.kind == 1 && !kwB t.text
def joinA : Bool → List Tok → List UInt8
  | _, [] => []
  | p, t :: ts => (if (p && wordT t) = true then [32] else []) ++ t.text ++ joinA (wordT t) ts
/-- the name of some tokens -/
def joinT (ts : List Tok) : List UInt8 := joinA false ts
/-- a text's tokens, if it is a name -/
def readP (s : List UInt8) : Option (List Tok) :=
  match toksL s with
  | none => none
  | some [] => none
  | some (t :: ts) => if 1 ≤ ts.length ∧ begT t = true ∧ (t :: ts).dropLast.all pieceT = true ∧ joinT (t :: ts).dropLast = s then some (t :: ts).dropLast else none

theorem wordT_kt {a b : Tok} (h : kt a = kt b) : wordT a = wordT b ∧ a.text = b.text ∧ a.kind = b.kind ∧ pieceT a = pieceT b ∧ begT a = begT b := by
  have h1 : a.kind = b.kind := congrArg Prod.fst h
  have h2 : a.text = b.text := congrArg Prod.snd h
  unfold wordT pieceT begT
  rw [h1, h2]
  exact ⟨rfl, rfl, rfl, rfl, rfl⟩
theorem joinA_kt : ∀ (p : Bool) (a b : List Tok), a.map kt = b.map kt → joinA p a = joinA p b
  | _, [], [], _ => rfl
  | _, [], _ :: _, h => by cases h
  | _, _ :: _, [], h => by cases h
  | p, x :: a, y :: b, h => by
    simp only [List.map_cons, List.cons.injEq] at h
    obtain ⟨h1, h2, _⟩ := wordT_kt h.1
    rw [joinA, joinA, h1, h2, joinA_kt _ a b h.2]
theorem joinT_kt {a b : List Tok} (h : a.map kt = b.map kt) : joinT a = joinT b := joinA_kt _ a b h

/-- a token whose text, alone, is that token -/
def Alone (t : Tok) : Prop := t.text ≠ [] ∧ skP t.text = some 0 ∧ oneP t.text = some (t.kind, t.text, t.text.length)
theorem sign_alone {s : List UInt8} (h : signB s = true) : s ≠ [] ∧ skP s = some 0 ∧ oneP s = some (5, s, s.length) ∧ ∀ b ∈ s, b.toNat < 128 := by
  have h := List.contains_iff_mem.1 h
  simp at h
  rcases h with rfl | rfl | rfl | rfl | rfl | rfl
  all_goals exact ⟨by decide, by decide +kernel, by decide +kernel, by decide⟩
theorem alone_of {l : List UInt8} {k : Nat} {ts : List Tok} (F : Fine l k ts) {t : Tok} (ht : t ∈ ts) (hp : pieceT t = true) : Alone t := by
  unfold pieceT at hp
  split at hp
  · rename_i q
    obtain ⟨a, b⟩ := F.word t ht q
    have hne := (F.plain t ht (.inl q)).1
    obtain ⟨c, d⟩ := word_one t.text hne a b
    exact ⟨hne, c, by rw [d, q]⟩
  · split at hp
    · rename_i q
      have hne := (F.plain t ht (.inr (.inl q))).1
      obtain ⟨c, d⟩ := digits_one t.text hne hp
      exact ⟨hne, c, by rw [d, q]⟩
    · split at hp
      · rename_i q
        obtain ⟨a, b, c, _⟩ := sign_alone hp
        exact ⟨a, b, by rw [c, q]⟩
      · cases hp

def wideL (ts : List Tok) : List UInt8 := ts.flatMap fun t => [32] ++ t.text ++ [9]
theorem wideL_cons (t : Tok) (ts : List Tok) : wideL (t :: ts) = [32] ++ t.text ++ [9] ++ wideL ts := by simp [wideL]
theorem wideL_append (a b : List Tok) : wideL (a ++ b) = wideL a ++ wideL b := by simp [wideL]
theorem tb_wide : ∀ ts : List Tok, (∀ t ∈ ts, Alone t) → tb (wideL ts) = some (ts.map kt)
  | [], _ => by
    show tb [] = _
    exact tb_end skP_nil
  | t :: ts, h => by
    obtain ⟨h1, h2, h3⟩ := h t (by simp)
    have ih := tb_wide ts (fun x hx => h x (by simp [hx]))
    have hp := List.length_pos_iff.2 h1
    have e : wideL (t :: ts) = [32] ++ (t.text ++ 9 :: wideL ts) := by rw [wideL_cons]; simp
    have hsep : Sep 9 := .inl rfl
    have hs : skP (t.text ++ 9 :: wideL ts) = some 0 := skP_stop 9 _ hsep _ _ (Nat.le_refl _) 0 h2 hp
    have ho : oneP ((t.text ++ 9 :: wideL ts).drop 0) = some (t.kind, t.text, t.text.length) := by rw [List.drop_zero]; exact oneP_app hsep h3
    have ha : tb ([32] ++ (t.text ++ 9 :: wideL ts)) = tb (t.text ++ 9 :: wideL ts) := tb_ahead (p := [32]) (skP_space 32 _ (by decide) (by decide))
    have hb : tb (9 :: wideL ts) = tb (wideL ts) := tb_ahead (p := [9]) (t := wideL ts) (skP_space 9 _ (by decide) (by decide))
    rw [e, ha, tb_one hs ho]
    dsimp only
    rw [Nat.zero_add, List.drop_left, hb, ih]
    rfl

theorem valid_tail {c : UInt8} {r : List UInt8} (hc : c.toNat < 128) (h : validD (c :: r) = true) : validD r = true := by
  rw [validD_step _ (by simp), decodeL_ascii c r hc, if_neg (fun q => by have q1 : c.toNat = 65533 := q.1; omega)] at h
  exact h
theorem valid_strip : ∀ (a : List UInt8) {r : List UInt8}, (∀ b ∈ a, b.toNat < 128) → validD (a ++ r) = true → validD r = true
  | [], _, _, h => h
  | b :: a, _, h, hv => valid_strip a (fun x hx => h x (by simp [hx])) (valid_tail (h b (by simp)) hv)
theorem valid_head (c : UInt8) (r : List UInt8) (hc : c.toNat < 128) : ∀ (m : Nat) (a : List UInt8), a.length ≤ m → validD (a ++ c :: r) = true → validD a = true ∧ validD (c :: r) = true := by
  intro m
  induction m with
  | zero =>
    intro a h hv
    rw [List.eq_nil_of_length_eq_zero (by omega : a.length = 0)] at hv ⊢
    exact ⟨validD_nil, hv⟩
  | succ m ih =>
    intro a h hv
    by_cases e : a = []
    · subst e; exact ⟨validD_nil, hv⟩
    · have h1 := dec_ge1 a
      have h2 := List.length_pos_iff.2 e
      rw [validD_step _ (by simp), dec_app a c r e hc, dec_app2 a c r e] at hv
      rw [validD_step _ e]
      split at hv
      · cases hv
      · rename_i q
        rw [if_neg q]
        exact ih _ (by rw [List.length_drop]; omega) hv

theorem piece_ascii {t : Tok} (h : pieceT t = true) (h1 : t.kind ≠ 1) : ∀ b ∈ t.text, b.toNat < 128 := by
  unfold pieceT at h
  rw [if_neg h1] at h
  split at h
  · intro b hb
    have := allDig_mem h b hb
    omega
  · split at h
    · exact (sign_alone h).2.2.2
    · cases h

theorem joinA_valid : ∀ (p : Bool) (ts : List Tok), (∀ t ∈ ts, pieceT t = true ∧ t.text ≠ []) → validD (joinA p ts) = true → ∀ t ∈ ts, validD t.text = true
  | _, [], _, _ => by simp
  | p, t :: ts, h, hv => by
    rw [joinA, List.append_assoc] at hv
    have hv2 : validD (t.text ++ joinA (wordT t) ts) = true := by
      refine valid_strip _ ?_ hv
      intro b hb
      split at hb
      · simp at hb; subst hb; decide
      · simp at hb
    have hrec : validD t.text = true ∧ validD (joinA (wordT t) ts) = true := by
      by_cases h1 : t.kind = 1
      · have hw : wordT t = true := by unfold wordT; rw [h1]; rfl
        rw [hw] at hv2 ⊢
        cases ts with
        | nil =>
          rw [joinA, List.append_nil] at hv2
          exact ⟨hv2, validD_nil⟩
        | cons u us =>
          by_cases hu : wordT u = true
          · have e : joinA true (u :: us) = 32 :: (u.text ++ joinA (wordT u) us) := by
              rw [joinA, if_pos (by rw [hu]; rfl)]; simp
            rw [e] at hv2 ⊢
            exact valid_head 32 _ (by decide) _ _ (Nat.le_refl _) hv2
          · have hu : wordT u = false := by simpa using hu
            have hk : u.kind ≠ 1 := fun q => by unfold wordT at hu; rw [q] at hu; cases hu
            obtain ⟨g1, g2⟩ := h u (by simp)
            have hasc := piece_ascii g1 hk
            obtain ⟨c, r, hcr⟩ := List.exists_cons_of_ne_nil g2
            have e : joinA true (u :: us) = c :: (r ++ joinA (wordT u) us) := by
              rw [joinA, if_neg (by rw [hu]; decide), hcr]; simp
            rw [e] at hv2 ⊢
            exact valid_head c _ (hasc c (by rw [hcr]; simp)) _ _ (Nat.le_refl _) hv2
      · have ha := piece_ascii (h t (by simp)).1 h1
        exact ⟨valid_ascii _ ha, valid_strip _ ha hv2⟩
    intro x hx
    rcases List.mem_cons.1 hx with rfl | hx
    · exact hrec.1
    · exact joinA_valid _ ts (fun y hy => h y (by simp [hy])) hrec.2 x hx

theorem valid_wide : ∀ ts : List Tok, (∀ t ∈ ts, validD t.text = true) → validD (wideL ts) = true
  | [], _ => validD_nil
  | t :: ts, h => by
    rw [wideL_cons]
    exact valid_app (valid_app (valid_app (by decide +kernel) (h t (by simp))) (by decide +kernel)) (valid_wide ts (fun x hx => h x (by simp [hx])))

theorem toks_fine {l : List UInt8} {ts : List Tok} (h : toksL l = some ts) : Fine l 0 ts ∧ validD l = true := by
  rw [toksL_A] at h
  split at h
  · rename_i v
    exact ⟨tokA_fine l _ 0 ts (Nat.le_refl _) (Nat.zero_le _) (by rw [List.drop_zero]; exact h), v⟩
  · cases h

theorem readP_some {s : List UInt8} {ts : List Tok} (h : readP s = some ts) : ∃ all, toksL s = some all ∧ ts = all.dropLast ∧ 2 ≤ all.length ∧ (∃ t us, ts = t :: us ∧ begT t = true) ∧ (∀ t ∈ ts, pieceT t = true) ∧ joinT ts = s := by
  unfold readP at h
  cases ht : toksL s with
  | none => rw [ht] at h; cases h
  | some all =>
    rw [ht] at h
    match all, h with
    | [], h => cases h
    | t :: us, h =>
      dsimp only at h
      split at h
      · rename_i q
        cases h
        obtain ⟨q1, q2, q3, q4⟩ := q
        refine ⟨t :: us, rfl, rfl, by simp; omega, ?_, fun x hx => List.all_eq_true.1 q3 x hx, q4⟩
        cases us with
        | nil => simp at q1
        | cons u vs => exact ⟨t, (u :: vs).dropLast, rfl, q2⟩
      · cases h

/-- NameBack, plainly -/
theorem back_law {s : List UInt8} {ts : List Tok} (h : readP s = some ts) : ∃ zs, toksL (wideL ts) = some (zs ++ [⟨0, [], (wideL ts).length⟩]) ∧ zs.map kt = ts.map kt ∧ joinT zs = s ∧ joinT ts = s := by
  obtain ⟨all, h1, h2, h3, h4, h5, h6⟩ := readP_some h
  obtain ⟨F, v⟩ := toks_fine h1
  have hal : ∀ t ∈ ts, Alone t := fun t ht => alone_of F ((List.dropLast_sublist all).subset (by rw [← h2]; exact ht)) (h5 t ht)
  have hval : ∀ t ∈ ts, validD t.text = true := joinA_valid false ts (fun t ht => ⟨h5 t ht, (hal t ht).1⟩) (by show validD (joinT ts) = true; rw [h6]; exact v)
  have hk := tokA_tb _ (wideL ts) 0 (Nat.le_refl _)
  rw [tb_wide ts hal] at hk
  have hv := valid_wide ts hval
  cases hz : tokA (wideL ts) 0 with
  | none => rw [hz] at hk; cases hk
  | some all2 =>
    rw [hz] at hk
    have hk := Option.some.inj hk
    have hz2 : toksL (wideL ts) = some all2 := by rw [toksL_A, if_pos hv]; exact hz
    obtain ⟨us, e, _⟩ := (toks_fine hz2).1.last
    dsimp only at hk
    rw [e, List.map_append] at hk
    have hu : us.map kt = ts.map kt := (List.append_inj' hk rfl).1
    exact ⟨us, by rw [hz2, e], hu, by rw [joinT_kt hu, h6], h6⟩

end Go.Proofs.YtnamnldijopkfaaDoor
