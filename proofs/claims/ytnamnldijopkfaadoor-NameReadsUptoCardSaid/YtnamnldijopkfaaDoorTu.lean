/-
  Names: bounds, and what the code asks of a token; no program.
-/
import Derived.Test.YtnamnldijopkfaaDoorTn
import Derived.Lib.SlTrimSet
namespace Go.Proofs.YtnamnldijopkfaaDoor
open Go.Lib

/-! ### bounds -/
theorem txtP_small : ∀ (m : Nat) (t : List UInt8), t.length ≤ m → ∀ x, txtP t = some x → x.1.length ≤ 4 * x.2 := by
  intro m
  induction m with
  | zero =>
    intro t h x hx
    rw [List.eq_nil_of_length_eq_zero (by omega : t.length = 0), txtP_nil] at hx
    cases hx
  | succ m ih =>
    intro t h x hx
    by_cases e : t = []
    · subst e; rw [txtP_nil] at hx; cases hx
    · have hp := List.length_pos_iff.2 e
      have h1 := dec_ge1 t
      have hel : ∀ r : Int, (encodeRune r).length ≤ 4 := fun r => by
        unfold encodeRune
        rw [List.length_map]
        unfold encodeRuneZ
        repeat' split
        all_goals simp
      rw [txtP_cons _ e] at hx
      split at hx
      · cases hx
        exact Nat.zero_le _
      · split at hx
        · cases hx
        · split at hx
          · split at hx
            · cases hx
            · cases hy : txtP (t.drop ((escV (t.drop 1)).2 + 1)) with
              | none => rw [hy] at hx; cases hx
              | some y =>
                have := ih _ (by rw [List.length_drop]; omega) y hy
                have := hel (escV (t.drop 1)).1
                rw [hy] at hx
                cases hx
                dsimp only
                rw [List.length_append]
                omega
          · cases hy : txtP (t.drop (decodeL t).2) with
            | none => rw [hy] at hx; cases hx
            | some y =>
              have := ih _ (by rw [List.length_drop]; omega) y hy
              have := hel ((decodeL t).1 : Nat)
              rw [hy] at hx
              cases hx
              dsimp only
              rw [List.length_append]
              omega
theorem oneP_small {t : List UInt8} {x : Nat × List UInt8 × Nat} (h : oneP t = some x) : x.2.1.length ≤ 4 * x.2.2 ∧ ((x.1 = 1 ∨ x.1 = 2 ∨ x.1 = 5) → x.2.1.length = x.2.2) := by
  have hx := oneP_len h
  have hp : (x.1 = 1 ∨ x.1 = 2 ∨ x.1 = 5) → x.2.1.length = x.2.2 := fun q => by
    rw [hx.2.2.2.1 q, List.length_take]; omega
  refine ⟨?_, hp⟩
  by_cases q : x.1 = 1 ∨ x.1 = 2 ∨ x.1 = 5
  · rw [hp q]; omega
  · unfold oneP at h
    split at h
    · cases h; simp at q
    · split at h
      · split at h
        · cases h; simp at q
        · cases h
      · split at h
        · cases hy : txtP (t.drop 1) with
          | none => rw [hy] at h; cases h
          | some y =>
            have := txtP_small _ _ (Nat.le_refl _) y hy
            rw [hy] at h; cases h
            dsimp only; omega
        · split at h
          · cases hy : txtP (t.drop 2) with
            | none => rw [hy] at h; cases h
            | some y =>
              have := txtP_small _ _ (Nat.le_refl _) y hy
              rw [hy] at h; cases h
              dsimp only; omega
          · cases hy : symP t with
            | none => rw [hy] at h; cases h
            | some y => rw [hy] at h; cases h; simp at q

structure Fine2 (l : List UInt8) (ts : List Tok) : Prop where
  sep : ∀ i (h : i + 1 < ts.length), (ts[i].kind = 1 ∨ ts[i].kind = 2 ∨ ts[i].kind = 5) → ts[i].at_ + ts[i].text.length ≤ ts[i + 1].at_
  small : ∀ t ∈ ts, t.text.length ≤ 4 * l.length

theorem tokA_fine2 (l : List UInt8) : ∀ (m k : Nat) (ts : List Tok), l.length - k ≤ m → k ≤ l.length → tokA (l.drop k) k = some ts → Fine2 l ts := by
  intro m
  induction m with
  | zero =>
    intro k ts h1 h2 h
    have hk : k = l.length := by omega
    subst hk
    rw [List.drop_length] at h
    rw [tokA_eq, skP_nil] at h
    simp only [List.length_nil, Nat.le_refl, if_true, Nat.add_zero, Option.some.injEq] at h
    subst h
    exact ⟨fun i hi => by simp at hi, fun t ht => by simp at ht; subst ht; simp⟩
  | succ m ih =>
    intro k ts h1 h2 h
    have hl : (l.drop k).length = l.length - k := List.length_drop
    rw [tokA_eq] at h
    cases hs : skP (l.drop k) with
    | none => rw [hs] at h; cases h
    | some n =>
      have hn := skP_le _ _ (Nat.le_refl _) n hs
      rw [hs] at h
      dsimp only at h
      split at h
      · cases h
        exact ⟨fun i hi => by simp at hi, fun t ht => by simp at ht; subst ht; simp⟩
      · rename_i hq
        cases ho : oneP ((l.drop k).drop n) with
        | none => rw [ho] at h; cases h
        | some x =>
          obtain ⟨x1, x2, x3, x4, x5⟩ := oneP_len ho
          obtain ⟨y1, y2⟩ := oneP_small ho
          rw [ho] at h
          dsimp only at h
          rw [List.drop_drop] at x2 x4
          rw [List.length_drop] at x2
          rw [List.drop_drop, show k + (n + x.2.2) = k + n + x.2.2 by omega] at h
          cases hr : tokA (l.drop (k + n + x.2.2)) (k + n + x.2.2) with
          | none => rw [hr] at h; cases h
          | some us =>
            have F := tokA_fine l _ (k + n + x.2.2) us (Nat.le_refl _) (by omega) hr
            have G := ih (k + n + x.2.2) us (by omega) (by omega) hr
            rw [hr] at h
            cases h
            refine ⟨?_, ?_⟩
            · intro i hi
              cases i with
              | zero =>
                intro q
                have hm : us[0]'(by simpa using hi) ∈ us := List.getElem_mem _
                have := F.low _ hm
                simp only [List.getElem_cons_zero, List.getElem_cons_succ] at q ⊢
                rw [y2 q]
                omega
              | succ i =>
                simp only [List.getElem_cons_succ]
                exact G.sep i (by simpa using hi)
            · intro t ht
              rcases List.mem_cons.1 ht with rfl | ht
              · dsimp only; omega
              · exact G.small t ht
theorem toks_fine2 {l : List UInt8} {ts : List Tok} (h : toksL l = some ts) : Fine2 l ts := by
  rw [toksL_A] at h
  split at h
  · exact tokA_fine2 l _ 0 ts (Nat.le_refl _) (Nat.zero_le _) (by rw [List.drop_zero]; exact h)
  · cases h

/-- the letters of some tokens -/
def bulkT (ts : List Tok) : Nat := (ts.map fun t => t.text.length + 1).sum
theorem bulkT_nil : bulkT [] = 0 := rfl
theorem bulkT_cons (t : Tok) (ts : List Tok) : bulkT (t :: ts) = t.text.length + 1 + bulkT ts := by simp [bulkT]
theorem bulkT_append (a b : List Tok) : bulkT (a ++ b) = bulkT a + bulkT b := by simp [bulkT]
theorem joinA_le : ∀ (p : Bool) (ts : List Tok), (joinA p ts).length ≤ bulkT ts
  | _, [] => Nat.zero_le _
  | p, t :: ts => by
    have := joinA_le (wordT t) ts
    rw [joinA, bulkT_cons, List.length_append, List.length_append]
    split <;> simp <;> omega
theorem joinT_le (ts : List Tok) : (joinT ts).length ≤ bulkT ts := joinA_le _ ts
theorem bulk_max (B : Nat) : ∀ ts : List Tok, (∀ t ∈ ts, t.text.length ≤ B) → bulkT ts ≤ ts.length * (B + 1)
  | [], _ => Nat.zero_le _
  | t :: ts, h => by
    have := bulk_max B ts (fun x hx => h x (by simp [hx]))
    have := h t (by simp)
    rw [bulkT_cons, List.length_cons, Nat.add_mul]
    omega
theorem bulk_take (ts : List Tok) (n : Nat) : bulkT (ts.take n) ≤ bulkT ts := by
  conv => rhs; rw [← List.take_append_drop n ts, bulkT_append]
  omega
theorem bulk_drop (ts : List Tok) (n : Nat) : bulkT (ts.drop n) ≤ bulkT ts := by
  conv => rhs; rw [← List.take_append_drop n ts, bulkT_append]
  omega

theorem joinA_ge : ∀ (p : Bool) (ts : List Tok), bulkT ts ≤ (joinA p ts).length + ts.length
  | _, [] => Nat.le_refl _
  | p, t :: ts => by
    have := joinA_ge (wordT t) ts
    rw [joinA, bulkT_cons, List.length_append, List.length_append, List.length_cons]
    omega

/-- a run of pieces is no longer than its source -/
theorem run_le {l : List UInt8} {ts : List Tok} (F : Fine l 0 ts) (G : Fine2 l ts) (at1 : Nat) : ∀ n, at1 + n ≤ ts.length → (∀ i, at1 ≤ i → i < at1 + n → ∀ h : i < ts.length, pieceT ts[i] = true) → bulkT ((ts.drop at1).take n) ≤ 2 * l.length + 1 := by
  intro n hn hp
  have key : ∀ m, m ≤ n → 0 < m → ∃ h : at1 + m - 1 < ts.length, (((ts.drop at1).take m).map fun t => t.text.length).sum ≤ ts[at1 + m - 1].at_ + ts[at1 + m - 1].text.length := by
    intro m
    induction m with
    | zero => intro _ h; omega
    | succ m ih =>
      intro hm _
      have hlt : at1 + m < ts.length := by omega
      refine ⟨by omega, ?_⟩
      have e : (ts.drop at1).take (m + 1) = (ts.drop at1).take m ++ [ts[at1 + m]] := by
        rw [List.take_succ_eq_append_getElem (by rw [List.length_drop]; omega)]
        congr 2
        exact List.getElem_drop
      rw [e, List.map_append, List.sum_append]
      simp only [List.map_cons, List.map_nil, List.sum_cons, List.sum_nil, Nat.add_zero]
      have e2 : ts[at1 + (m + 1) - 1] = ts[at1 + m] := by congr 1
      rw [e2]
      by_cases h0 : m = 0
      · subst h0; simp
      · obtain ⟨h3, h4⟩ := ih (by omega) (by omega)
        have hpm := hp (at1 + m - 1) (by omega) (by omega) h3
        have hk : ts[at1 + m - 1].kind = 1 ∨ ts[at1 + m - 1].kind = 2 ∨ ts[at1 + m - 1].kind = 5 := by
          unfold pieceT at hpm
          split at hpm
          · left; assumption
          · split at hpm
            · right; left; assumption
            · split at hpm
              · right; right; assumption
              · cases hpm
        have hs := G.sep (at1 + m - 1) (by omega) hk
        have e3 : ts[at1 + m - 1 + 1] = ts[at1 + m] := by congr 1; omega
        rw [e3] at hs
        omega
  have hb : bulkT ((ts.drop at1).take n) = (((ts.drop at1).take n).map fun t => t.text.length).sum + n := by
    have hl : ((ts.drop at1).take n).length = n := by rw [List.length_take, List.length_drop]; omega
    generalize (ts.drop at1).take n = us at *
    subst hl
    clear key hp hn
    induction us with
    | nil => rfl
    | cons u us ih => rw [bulkT_cons, ih]; simp; omega
  have hlen := F.len
  by_cases h0 : n = 0
  · subst h0; simp [bulkT]
  · obtain ⟨h3, h4⟩ := key n (Nat.le_refl _) (by omega)
    have hpm := hp (at1 + n - 1) (by omega) (by omega) h3
    have hk : ts[at1 + n - 1].kind = 1 ∨ ts[at1 + n - 1].kind = 2 ∨ ts[at1 + n - 1].kind = 5 := by
      unfold pieceT at hpm
      split at hpm
      · left; assumption
      · split at hpm
        · right; left; assumption
        · split at hpm
          · right; right; assumption
          · cases hpm
    have := (F.plain ts[at1 + n - 1] (List.getElem_mem _) hk).2.2
    omega

/-! ### what the code asks of a token -/
theorem dropWhile_nil {p : UInt8 → Bool} : ∀ l : List UInt8, l.dropWhile p = [] ↔ l.all p = true
  | [] => by simp
  | b :: l => by
    rw [List.dropWhile_cons, List.all_cons]
    cases h : p b
    · simp
    · simp [dropWhile_nil l]
def ten : List UInt8 := [48, 49, 50, 51, 52, 53, 54, 55, 56, 57]
theorem ten_digit (b : UInt8) : ten.contains b = decide (48 ≤ b.toNat ∧ b.toNat ≤ 57) := by
  have h : ∀ n : Fin 256, ten.contains (UInt8.ofNat n.val) = decide (48 ≤ (UInt8.ofNat n.val).toNat ∧ (UInt8.ofNat n.val).toNat ≤ 57) := by decide +kernel
  have := h ⟨b.toNat, b.toNat_lt⟩
  simpa using this
theorem trim_digits (t : List UInt8) : trimS t ten = [] ↔ allDig t = true := by
  have hall : ∀ l : List UInt8, l.all (ten.contains ·) = allDig l := fun l => by
    unfold allDig
    congr 1
    funext b
    exact ten_digit b
  unfold trimS trimLeftS trimRightS
  rw [dropWhile_nil, hall]
  constructor
  · intro h
    rw [← hall, List.all_reverse] at h
    have : (t.reverse.dropWhile (ten.contains ·)) = [] := by
      apply Classical.byContradiction
      intro hne
      obtain ⟨b, u, e⟩ := List.exists_cons_of_ne_nil hne
      have hd := List.head_dropWhile_not (ten.contains ·) hne
      rw [List.all_eq_true] at h
      have hb := h _ (List.head_mem hne)
      rw [hd] at hb
      cases hb
    rw [dropWhile_nil, List.all_reverse, hall] at this
    exact this
  · intro h
    have : (t.reverse.dropWhile (ten.contains ·)) = [] := by rw [dropWhile_nil, List.all_reverse, hall]; exact h
    rw [this]
    rfl
theorem sign_one (c : UInt8) : signB [c] = contains [43, 45, 42, 47, 46, 39] [c] := by
  have h : ∀ n : Fin 256, signB [UInt8.ofNat n.val] = contains [43, 45, 42, 47, 46, 39] [UInt8.ofNat n.val] := by decide +kernel
  have := h ⟨c.toNat, c.toNat_lt⟩
  simpa using this
theorem sign_len {t : List UInt8} (h : t.length ≠ 1) : signB t = false := by
  cases hq : signB t with
  | false => rfl
  | true =>
    have hm := List.contains_iff_mem.1 hq
    simp at hm
    rcases hm with rfl | rfl | rfl | rfl | rfl | rfl <;> simp at h

end Go.Proofs.YtnamnldijopkfaaDoor
