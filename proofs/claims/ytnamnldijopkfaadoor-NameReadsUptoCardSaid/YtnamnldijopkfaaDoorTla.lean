/-
  The lexer over lists of bytes: no program.
-/
import Derived.Test.YtnamnldijopkfaaDoorTr
namespace Go.Proofs.YtnamnldijopkfaaDoor
open Go.Lib

/-- the first rune of what is left; -1: nothing is left -/
def hd (t : List UInt8) : Int := if t = [] then -1 else ((decodeL t).1 : Nat)

theorem dec_le_len (t : List UInt8) (h : t ≠ []) : (decodeL t).2 ≤ t.length := by
  have hl := List.length_pos_iff.2 h
  have := (range_step t 0 (by rw [strOfL_size]; omega)).2.2.2.2.1
  simpa using this

def runF (P : Int → Bool) : Nat → List UInt8 → Nat
  | 0, _ => 0
  | n + 1, t => if t = [] then 0 else if P ((decodeL t).1 : Nat) = true then (decodeL t).2 + runF P n (t.drop (decodeL t).2) else 0
/-- how many bytes a run of runes has that are like something -/
def runN (P : Int → Bool) (t : List UInt8) : Nat := runF P t.length t

theorem runF_more (P : Int → Bool) : ∀ (n : Nat) (t : List UInt8), t.length ≤ n → runF P n t = runN P t
  | n, t, h => by
    unfold runN
    induction n using Nat.strongRecOn generalizing t with
    | _ n ih =>
      by_cases e : t = []
      · subst e
        cases n <;> simp [runF]
      · have hl : 0 < t.length := List.length_pos_iff.2 e
        have h1 := dec_ge1 t
        obtain ⟨m, rfl⟩ : ∃ m, n = m + 1 := ⟨n - 1, by omega⟩
        obtain ⟨k, hk⟩ : ∃ k, t.length = k + 1 := ⟨t.length - 1, by omega⟩
        rw [hk, runF, runF, if_neg e, if_neg e]
        split
        · congr 1
          have hd : (t.drop (decodeL t).2).length ≤ k := by rw [List.length_drop]; omega
          rw [ih m (by omega) _ (by omega)]
          by_cases hkm : k < m + 1
          · rw [ih k (by omega) _ hd]
          · omega
        · rfl

theorem runN_nil (P : Int → Bool) : runN P [] = 0 := rfl
theorem runN_cons (P : Int → Bool) (t : List UInt8) (h : t ≠ []) : runN P t = if P ((decodeL t).1 : Nat) = true then (decodeL t).2 + runN P (t.drop (decodeL t).2) else 0 := by
  have hl : 0 < t.length := List.length_pos_iff.2 h
  have h1 := dec_ge1 t
  obtain ⟨k, hk⟩ : ∃ k, t.length = k + 1 := ⟨t.length - 1, by omega⟩
  rw [runN, hk, runF, if_neg h, runF_more _ _ _ (by rw [List.length_drop]; omega)]

theorem runN_le (P : Int → Bool) : ∀ (m : Nat) (t : List UInt8), t.length ≤ m → runN P t ≤ t.length := by
  intro m
  induction m with
  | zero =>
    intro t h
    rw [List.eq_nil_of_length_eq_zero (by omega : t.length = 0)]
    simp [runN_nil]
  | succ m ih =>
    intro t h
    by_cases e : t = []
    · subst e; simp [runN_nil]
    · have h1 := dec_ge1 t
      have h2 := dec_le_len t e
      rw [runN_cons P t e]
      split
      · have := ih (t.drop (decodeL t).2) (by rw [List.length_drop]; omega)
        rw [List.length_drop] at this
        omega
      · omega

def wordB (r : Int) : Bool := letterB r || digitB r

/-- behind a number's digits and point: the exponent -/
def expN (t : List UInt8) (k : Nat) : Nat :=
  if hd (t.drop k) = 69 then
    let e := if hd (t.drop (k + 1)) = 43 ∨ hd (t.drop (k + 1)) = 45 then k + 2 else k + 1
    if 0 < runN digitB (t.drop e) ∧ runN digitB (t.drop e) ≤ 6 then e + runN digitB (t.drop e) else k
  else k
/-- a number's digits and point -/
def ptN (t : List UInt8) : Nat :=
  if hd (t.drop (runN digitB t)) = 46 ∧ digitB (hd (t.drop (runN digitB t + 1))) = true then runN digitB t + 1 + runN digitB (t.drop (runN digitB t + 1)) else runN digitB t
/-- how many bytes a number has -/
def numN (t : List UInt8) : Nat := expN t (ptN t)

def digV (c : Int) : Int := if 48 ≤ c ∧ c ≤ 57 then c - 48 else if 97 ≤ c ∧ c ≤ 102 then c - 97 + 10 else if 65 ≤ c ∧ c ≤ 70 then c - 65 + 10 else -1
def hexF : Nat → List UInt8 → Int → Option Int
  | 0, _, c => some c
  | n + 1, t, c => if digV (hd t) < 0 then none else hexF n (t.drop 1) (16 * c + digV (hd t))
def hexV (t : List UInt8) (n : Nat) : Int × Nat :=
  match hexF n t 0 with
  | none => (0, 0)
  | some c => if Lib.validRune c = true then (c, n + 1) else (0, 0)
/-- what an escape stands for, and how many bytes it has -/
def escV (t : List UInt8) : Int × Nat :=
  if hd t = 110 then (10, 1) else if hd t = 114 then (13, 1) else if hd t = 116 then (9, 1)
  else if hd t = 34 ∨ hd t = 92 ∨ hd t = 39 then (hd t, 1)
  else if hd t = 117 then hexV (t.drop 1) 4 else if hd t = 85 then hexV (t.drop 1) 6 else (0, 0)

/-- a string behind its first sign: what it stands for, and how many bytes it has with the last sign -/
def txtF : Nat → List UInt8 → Option (List UInt8 × Nat)
  | 0, _ => none
  | f + 1, t =>
    if t = [] then none
    else if (decodeL t).1 = 34 then some ([], 1)
    else if (decodeL t).1 = 10 ∨ (decodeL t).1 = 13 then none
    else if (decodeL t).1 = 92 then
      if (escV (t.drop 1)).2 = 0 then none
      else (txtF f (t.drop ((escV (t.drop 1)).2 + 1))).map fun x => (encodeRune (escV (t.drop 1)).1 ++ x.1, (escV (t.drop 1)).2 + 1 + x.2)
    else (txtF f (t.drop (decodeL t).2)).map fun x => (encodeRune ((decodeL t).1 : Nat) ++ x.1, (decodeL t).2 + x.2)
def txtP (t : List UInt8) : Option (List UInt8 × Nat) := txtF t.length t

/-- how many bytes spaces and remarks have; none: one is not closed -/
def skF : Nat → List UInt8 → Option Nat
  | 0, _ => some 0
  | f + 1, t =>
    if t = [] then some 0
    else if spaceB (hd t) = true then (skF f (t.drop 1)).map (1 + ·)
    else if hasPrefix t [47, 47] = true then
      let n := if indexByte t 10 < 0 then t.length else (indexByte t 10).toNat
      (skF f (t.drop n)).map (n + ·)
    else if hasPrefix t [47, 42] = true then
      if index (t.drop 2) [42, 47] < 0 then none
      else (skF f (t.drop ((index (t.drop 2) [42, 47]).toNat + 4))).map ((index (t.drop 2) [42, 47]).toNat + 4 + ·)
    else some 0
def skP (t : List UInt8) : Option Nat := skF t.length t

def twos : List (List UInt8) := [[46, 46], [42, 42], [60, 61], [62, 61], [33, 61], [45, 62]]
def singles : List UInt8 := [40, 41, 91, 93, 123, 125, 44, 58, 46, 43, 45, 42, 47, 61, 60, 62, 39]
/-- a symbol -/
def symP (t : List UInt8) : Option (List UInt8) :=
  match twos.find? fun s => hasPrefix t s with
  | some s => some s
  | none => if indexByte singles (t.getD 0 0) < 0 then none else some (t.take 1)

def allDig (t : List UInt8) : Bool := t.all fun b => decide (48 ≤ b.toNat ∧ b.toNat ≤ 57)
def digs (t : List UInt8) : Bool := allDig t && !t.isEmpty
/-- a number's form ahead of the exponent -/
def shapeM (t : List UInt8) : Bool :=
  let c := cut t [46]
  (c.2.2 && digs c.2.1 && (c.1.isEmpty || digs c.1)) || (!c.2.2 && digs c.1)
def shapeE (e : List UInt8) : Bool := digs e && decide (e.length ≤ 6)
/-- a number's form -/
def shapeB (t : List UInt8) : Bool :=
  let c := cut t [69]
  if c.2.2 = true then
    shapeE (if c.2.1 ≠ [] ∧ (c.2.1.getD 0 0 = 45 ∨ c.2.1.getD 0 0 = 43) then c.2.1.drop 1 else c.2.1) && shapeM c.1
  else shapeM c.1

/-- a token: its kind, its text, how many bytes -/
def oneP (t : List UInt8) : Option (Nat × List UInt8 × Nat) :=
  if letterB (hd t) = true then some (1, t.take (runN wordB t), runN wordB t)
  else if digitB (hd t) = true ∨ (hd t = 46 ∧ digitB (hd (t.drop 1)) = true) then
    if shapeB (t.take (numN t)) = true then some (2, t.take (numN t), numN t) else none
  else if hd t = 34 then (txtP (t.drop 1)).map fun x => (3, x.1, x.2 + 1)
  else if hd t = 64 ∧ hd (t.drop 1) = 34 then (txtP (t.drop 2)).map fun x => (4, x.1, x.2 + 2)
  else (symP t).map fun s => (5, s, s.length)

structure Tok where
  kind : Nat
  text : List UInt8
  at_ : Nat
deriving DecidableEq

def tokF : Nat → List UInt8 → Nat → Option (List Tok)
  | 0, _, _ => none
  | f + 1, t, k =>
    match skP t with
    | none => none
    | some n =>
      if t.length ≤ n then some [⟨0, [], k + t.length⟩]
      else
        match oneP (t.drop n) with
        | none => none
        | some x => (tokF f (t.drop (n + x.2.2)) (k + n + x.2.2)).map (⟨x.1, x.2.1, k + n⟩ :: ·)
/-- the tokens of a source -/
def toksL (l : List UInt8) : Option (List Tok) := if validD l = true then tokF (l.length + 1) l 0 else none

end Go.Proofs.YtnamnldijopkfaaDoor
