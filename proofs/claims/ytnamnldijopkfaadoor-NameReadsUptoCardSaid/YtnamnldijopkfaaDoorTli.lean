/-
  Strings: the plain law; the reader's text.
-/
import Derived.Test.YtnamnldijopkfaaDoorTlh
namespace Go.Proofs.YtnamnldijopkfaaDoor
open Go.ChangeShapes Go.WideShapes Go.ChangeAt Go.RowKit Go.Joins

theorem txtF_more : ∀ (n : Nat) (t : List UInt8), t.length ≤ n → txtF n t = txtP t
  | n, t, h => by
    unfold txtP
    induction n using Nat.strongRecOn generalizing t with
    | _ n ih =>
      by_cases e : t = []
      · subst e
        cases n <;> simp [txtF]
      · have hl : 0 < t.length := List.length_pos_iff.2 e
        obtain ⟨m, rfl⟩ : ∃ m, n = m + 1 := ⟨n - 1, by omega⟩
        obtain ⟨k, hk⟩ : ∃ k, t.length = k + 1 := ⟨t.length - 1, by omega⟩
        have hstep : ∀ d, 1 ≤ d → txtF m (t.drop d) = txtF k (t.drop d) := by
          intro d hd
          have hdl : (t.drop d).length ≤ k := by rw [List.length_drop]; omega
          rw [ih m (by omega) _ (by omega)]
          by_cases hkm : k < m + 1
          · rw [ih k (by omega) _ hdl]
          · omega
        have hw := dec_ge1 t
        rw [hk, txtF, txtF, if_neg e, if_neg e, hstep _ hw, hstep _ (by omega)]

theorem txtP_nil : txtP [] = none := rfl
theorem txtP_cons (t : List UInt8) (e : t ≠ []) : txtP t =
    if (Lib.decodeL t).1 = 34 then some ([], 1)
    else if (Lib.decodeL t).1 = 10 ∨ (Lib.decodeL t).1 = 13 then none
    else if (Lib.decodeL t).1 = 92 then
      if (escV (t.drop 1)).2 = 0 then none
      else (txtP (t.drop ((escV (t.drop 1)).2 + 1))).map fun x => (Lib.encodeRune (escV (t.drop 1)).1 ++ x.1, (escV (t.drop 1)).2 + 1 + x.2)
    else (txtP (t.drop (Lib.decodeL t).2)).map fun x => (Lib.encodeRune ((Lib.decodeL t).1 : Nat) ++ x.1, (Lib.decodeL t).2 + x.2) := by
  have hl : 0 < t.length := List.length_pos_iff.2 e
  obtain ⟨k, hk⟩ : ∃ k, t.length = k + 1 := ⟨t.length - 1, by omega⟩
  have hstep : ∀ d, 1 ≤ d → txtF k (t.drop d) = txtP (t.drop d) := by
    intro d hd
    exact txtF_more _ _ (by rw [List.length_drop]; omega)
  have hw := dec_ge1 t
  rw [txtP, hk, txtF, if_neg e, hstep _ hw, hstep _ (by omega)]

/-- from place q on, so much of the string read, the string and the place behind it -/
def txAt (l : List UInt8) (q : Nat) (acc : List UInt8) : Option (List UInt8 × Nat) := (txtP (l.drop q)).map fun x => (acc ++ x.1, q + x.2)
theorem txAt_end (l : List UInt8) (q : Nat) (acc : List UInt8) (h : ¬ q < l.length) : txAt l q acc = none := by
  unfold txAt
  rw [List.drop_eq_nil_of_le (by omega), txtP_nil]
  rfl
theorem txAt_step (l : List UInt8) (q : Nat) (acc : List UInt8) (h : l.drop q ≠ []) : txAt l q acc =
    if (Lib.decodeL (l.drop q)).1 = 34 then some (acc, q + 1)
    else if (Lib.decodeL (l.drop q)).1 = 10 ∨ (Lib.decodeL (l.drop q)).1 = 13 then none
    else if (Lib.decodeL (l.drop q)).1 = 92 then
      if (escV (l.drop (q + 1))).2 = 0 then none
      else txAt l (q + ((escV (l.drop (q + 1))).2 + 1)) (acc ++ Lib.encodeRune (escV (l.drop (q + 1))).1)
    else txAt l (q + (Lib.decodeL (l.drop q)).2) (acc ++ Lib.encodeRune ((Lib.decodeL (l.drop q)).1 : Nat)) := by
  unfold txAt
  rw [txtP_cons _ h]
  simp only [List.drop_drop]
  repeat' split
  all_goals simp [Option.map_map, Function.comp_def, Nat.add_assoc, List.append_assoc]

theorem escV_le (t : List UInt8) : (escV t).2 ≤ 7 := by
  have hx : ∀ (u : List UInt8) (n : Nat), (hexV u n).2 ≤ n + 1 := by
    intro u n
    unfold hexV
    split
    · simp
    · split <;> simp
  unfold escV
  have h4 := hx (t.drop 1) 4
  have h6 := hx (t.drop 1) 6
  repeat' split
  all_goals first | omega | (dsimp only; omega)

def TxOut (w : World) (g : Nat) (l : List UInt8) (k : Nat) (ts : List Tok) (r : Option (List UInt8 × Nat)) (e : Ending) (w' : World) : Prop :=
  match r with
  | some x => e = .returned (.tuple #[.string (strOfL x.1), .bool true]) ∧ Rd w' g l x.2 ts ∧ Below g w w'
  | none => e = .returned (.tuple #[.string ⟨#[]⟩, .bool false]) ∧ Rd w' g l k ts ∧ Below g w w'

end Go.Proofs.YtnamnldijopkfaaDoor
