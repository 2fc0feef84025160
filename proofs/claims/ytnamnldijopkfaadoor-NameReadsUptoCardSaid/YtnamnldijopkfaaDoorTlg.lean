/-
  Spaces and remarks: the plain law; the reader's skip.
-/
import Derived.Test.YtnamnldijopkfaaDoorTlf
namespace Go.Proofs.YtnamnldijopkfaaDoor
open Go.ChangeShapes Go.WideShapes Go.ChangeAt Go.RowKit Go.Joins

/-- how far a remark of a line goes -/
def lineN (t : List UInt8) : Nat := if Lib.indexByte t 10 < 0 then t.length else (Lib.indexByte t 10).toNat
theorem indexByte_lt (t : List UInt8) (c : UInt8) : Lib.indexByte t c < t.length ∨ t = [] := by
  induction t with
  | nil => exact .inr rfl
  | cons b t ih =>
    left
    unfold Lib.indexByte
    have := Lib.indexByte_ge t c
    split
    · simp <;> omega
    · split
      · simp; omega
      · rcases ih with h | h
        · simp; omega
        · subst h; simp [Lib.indexByte]
theorem lineN_le (t : List UInt8) : lineN t ≤ t.length := by
  unfold lineN
  split
  · exact Nat.le_refl _
  · rcases indexByte_lt t 10 with h | h
    · omega
    · subst h; simp [Lib.indexByte]
theorem lineN_ge (t : List UInt8) (h : Lib.hasPrefix t [47, 47] = true) : 1 ≤ lineN t := by
  cases t with
  | nil => simp [Lib.hasPrefix] at h
  | cons b t =>
    have hb : b = 47 := by
      simp [Lib.hasPrefix, List.isPrefixOf] at h
      exact h.1.symm
    subst hb
    unfold lineN
    split
    · simp
    · rename_i hn
      have := Lib.indexByte_ge t 10
      unfold Lib.indexByte at hn ⊢
      rw [if_neg (by decide)] at hn ⊢
      split at hn
      · omega
      · rename_i h2
        rw [if_neg h2]
        simp at h2
        omega

theorem skF_more : ∀ (n : Nat) (t : List UInt8), t.length ≤ n → skF n t = skP t
  | n, t, h => by
    unfold skP
    induction n using Nat.strongRecOn generalizing t with
    | _ n ih =>
      by_cases e : t = []
      · subst e
        cases n <;> simp [skF]
      · have hl : 0 < t.length := List.length_pos_iff.2 e
        obtain ⟨m, rfl⟩ : ∃ m, n = m + 1 := ⟨n - 1, by omega⟩
        obtain ⟨k, hk⟩ : ∃ k, t.length = k + 1 := ⟨t.length - 1, by omega⟩
        have hstep : ∀ d, 1 ≤ d → skF m (t.drop d) = skF k (t.drop d) := by
          intro d hd
          have hdl : (t.drop d).length ≤ k := by rw [List.length_drop]; omega
          rw [ih m (by omega) _ (by omega)]
          by_cases hkm : k < m + 1
          · rw [ih k (by omega) _ hdl]
          · omega
        rw [hk, skF, skF, if_neg e, if_neg e]
        split
        · rw [hstep 1 (by omega)]
        · split
          · rename_i h2
            have h3 : 1 ≤ (if Lib.indexByte t 10 < 0 then t.length else (Lib.indexByte t 10).toNat) := lineN_ge t h2
            dsimp only
            rw [hstep _ h3]
          · split
            · split
              · rfl
              · rw [hstep _ (by omega)]
            · rfl

theorem skP_nil : skP [] = some 0 := rfl
theorem skP_cons (t : List UInt8) (e : t ≠ []) : skP t =
    if spaceB (hd t) = true then (skP (t.drop 1)).map (1 + ·)
    else if Lib.hasPrefix t [47, 47] = true then (skP (t.drop (lineN t))).map (lineN t + ·)
    else if Lib.hasPrefix t [47, 42] = true then
      if Lib.index (t.drop 2) [42, 47] < 0 then none
      else (skP (t.drop ((Lib.index (t.drop 2) [42, 47]).toNat + 4))).map ((Lib.index (t.drop 2) [42, 47]).toNat + 4 + ·)
    else some 0 := by
  have hl : 0 < t.length := List.length_pos_iff.2 e
  obtain ⟨k, hk⟩ : ∃ k, t.length = k + 1 := ⟨t.length - 1, by omega⟩
  have hstep : ∀ d, 1 ≤ d → skF k (t.drop d) = skP (t.drop d) := by
    intro d hd
    exact skF_more _ _ (by rw [List.length_drop]; omega)
  rw [skP, hk, skF, if_neg e]
  split
  · rw [hstep 1 (by omega)]
  · split
    · rename_i h2
      have h3 : 1 ≤ (if Lib.indexByte t 10 < 0 then t.length else (Lib.indexByte t 10).toNat) := lineN_ge t h2
      dsimp only
      rw [hstep _ h3]
      rfl
    · split
      · split
        · rfl
        · rw [hstep _ (by omega)]
      · rfl

/-- from place q on, spaces and remarks end at a place -/
def skTo (l : List UInt8) (q : Nat) : Option Nat := (skP (l.drop q)).map (q + ·)
theorem skTo_step (l : List UInt8) (q : Nat) (h : q < l.length) : skTo l q =
    if spaceB (hd (l.drop q)) = true then skTo l (q + 1)
    else if Lib.hasPrefix (l.drop q) [47, 47] = true then skTo l (q + lineN (l.drop q))
    else if Lib.hasPrefix (l.drop q) [47, 42] = true then
      if Lib.index (l.drop (q + 2)) [42, 47] < 0 then none
      else skTo l (q + ((Lib.index (l.drop (q + 2)) [42, 47]).toNat + 4))
    else some q := by
  have hne : l.drop q ≠ [] := by
    intro e
    have := congrArg List.length e
    rw [List.length_drop, List.length_nil] at this
    omega
  unfold skTo
  rw [skP_cons _ hne]
  simp only [List.drop_drop]
  repeat' split
  all_goals simp [Option.map_map, Function.comp_def, Nat.add_assoc]

end Go.Proofs.YtnamnldijopkfaaDoor
