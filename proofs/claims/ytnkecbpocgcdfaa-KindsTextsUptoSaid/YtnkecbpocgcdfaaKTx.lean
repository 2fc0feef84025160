/-
  A type's text, in plain words: its letters, and how many there are.
-/
import Derived.Test.YtnkecbpocgcdfaaKAw
namespace Go.Proofs.Ytnkecbpocgcdfaa
open Go.ChangeShapes Go.WideShapes Go.ChangeAt Go.RowKit Go.Joins

def wordL (k : Int) : List UInt8 :=
  if k = 1 then [78, 117, 108, 108] else if k = 2 then [98, 111, 111, 108, 101, 97, 110] else if k = 3 then [110, 117, 109, 98, 101, 114] else if k = 4 then [115, 116, 114, 105, 110, 103]
  else if k = 5 then [100, 97, 116, 101] else if k = 6 then [116, 105, 109, 101] else if k = 7 then [100, 97, 116, 101, 32, 97, 110, 100, 32, 116, 105, 109, 101]
  else if k = 8 then [100, 97, 121, 115, 32, 97, 110, 100, 32, 116, 105, 109, 101, 32, 100, 117, 114, 97, 116, 105, 111, 110]
  else if k = 9 then [121, 101, 97, 114, 115, 32, 97, 110, 100, 32, 109, 111, 110, 116, 104, 115, 32, 100, 117, 114, 97, 116, 105, 111, 110]
  else [65, 110, 121]

theorem wordL_len (k : Int) : (wordL k).length ≤ 25 := by
  unfold wordL
  repeat' split
  all_goals simp

theorem words_k (k : Int) (w : World) : Calls Try.prog 37 #[.int .i64 k] w fun e w' => e = .returned (.string ⟨(wordL k).toArray⟩) ∧ w = w' := by
  go_enter Try.func37, Try.ntmps37
  go_wp2
  all_goals
    go_ret
    refine ⟨?_, rfl⟩
    (try simp only [beq_iff_eq, beq_eq_false_iff_ne] at *)
    simp [wordL, *]

/-- what stands for an item: behind its name, in a context -/
def piece (k : Int) (ns : List ByteArray) (j : Nat) (s : List UInt8) : List UInt8 :=
  if k = 11 ∧ j < ns.length then quoteL (ns.getD j ByteArray.empty) ++ [58, 32] ++ s else s

def wrapT (k : Int) (ps : List (List UInt8)) : List UInt8 :=
  if k = 10 then [108, 105, 115, 116, 60] ++ Lib.join ps [44, 32] ++ [62]
  else if k = 12 then [114, 97, 110, 103, 101, 60] ++ Lib.join ps [44, 32] ++ [62]
  else if k = 11 then [99, 111, 110, 116, 101, 120, 116, 60] ++ Lib.join ps [44, 32] ++ [62]
  else if k = 13 then (if 0 < ps.length then [102, 117, 110, 99, 116, 105, 111, 110, 60] ++ Lib.join (ps.take (ps.length - 1)) [44, 32] ++ [62, 32, 45, 62, 32] ++ ps.getD (ps.length - 1) [] else [102, 117, 110, 99, 116, 105, 111, 110, 60, 62])
  else wordL k

mutual
/-- a type's text -/
def txt : Ty → List UInt8
  | .mk k ts ns => wrapT k (pcs k ns 0 ts)
def pcs (k : Int) (ns : List ByteArray) : Nat → List Ty → List (List UInt8)
  | _, [] => []
  | j, t :: ts => piece k ns j (txt t) :: pcs k ns (j + 1) ts
end

theorem pcs_len (k : Int) (ns : List ByteArray) : ∀ (ts : List Ty) (j : Nat), (pcs k ns j ts).length = ts.length
  | [], _ => by simp [pcs]
  | t :: ts, j => by simp [pcs, pcs_len k ns ts (j + 1)]

theorem pcs_at (k : Int) (ns : List ByteArray) : ∀ (ts : List Ty) (i j : Nat) (h : j < ts.length), (pcs k ns i ts)[j]? = some (piece k ns (i + j) (txt ts[j]))
  | [], _, _, h => absurd h (by simp)
  | t :: ts, i, 0, _ => by simp [pcs]
  | t :: ts, i, j + 1, h => by
    have := pcs_at k ns ts (i + 1) j (by simpa using h)
    simp only [pcs, List.getElem?_cons_succ, List.getElem_cons_succ, this]
    rw [show i + 1 + j = i + (j + 1) by omega]

theorem pcs_take (k : Int) (ns : List ByteArray) (ts : List Ty) (j : Nat) (h : j < ts.length) : (pcs k ns 0 ts).take (j + 1) = (pcs k ns 0 ts).take j ++ [piece k ns j (txt ts[j])] := by
  have h1 := pcs_at k ns ts 0 j h
  rw [Nat.zero_add] at h1
  rw [List.take_add_one, h1]
  rfl

theorem quoteL_len (s : ByteArray) : (quoteL s).length ≤ 5 * s.size + 2 := by
  have := escFrom_len s s.size 0
  simp [quoteL]
  omega

/-- how many letters the pieces have, with two more for each -/
def lensP : List (List UInt8) → Nat
  | [] => 0
  | p :: ps => p.length + 2 + lensP ps

theorem lensP_append (a b : List (List UInt8)) : lensP (a ++ b) = lensP a + lensP b := by
  induction a with
  | nil => simp [lensP]
  | cons x a ih => simp only [List.cons_append, lensP, ih]; omega

theorem join_le (ps : List (List UInt8)) : (Lib.join ps [44, 32]).length ≤ lensP ps := by
  cases ps with
  | nil => simp [Lib.join_nil]
  | cons x r =>
    rw [Lib.join_cons, List.length_append]
    have : ∀ r : List (List UInt8), (Lib.joinTail [44, 32] r).length ≤ lensP r := by
      intro r
      induction r with
      | nil => simp [Lib.joinTail]
      | cons y r ih =>
        simp only [Lib.joinTail, List.map_cons, List.flatten_cons, List.length_append, lensP] at ih ⊢
        simp
        simp at ih
        omega
    have := this r
    simp only [lensP]
    omega

theorem lensP_take (ps : List (List UInt8)) (j : Nat) : lensP (ps.take j) ≤ lensP ps := by
  have := lensP_append (ps.take j) (ps.drop j)
  rw [List.take_append_drop] at this
  omega

theorem lensP_at (ps : List (List UInt8)) (j : Nat) (h : j < ps.length) : lensP (ps.take j) + (ps.getD j []).length + 2 ≤ lensP ps := by
  have h1 := lensP_append (ps.take (j + 1)) (ps.drop (j + 1))
  rw [List.take_append_drop, List.take_succ_eq_append_getElem h, lensP_append] at h1
  simp only [lensP] at h1
  rw [List.getD, List.getElem?_eq_getElem h]
  simp only [Option.getD_some]
  omega

theorem wrapT_len (k : Int) (ps : List (List UInt8)) : (wrapT k ps).length ≤ 25 + lensP ps := by
  unfold wrapT
  have h1 := join_le ps
  have h2 := wordL_len k
  split
  · simp; omega
  split
  · simp; omega
  split
  · simp; omega
  split
  · split
    · rename_i hp
      have h3 := join_le (ps.take (ps.length - 1))
      have h4 := lensP_at ps (ps.length - 1) (by omega)
      simp only [List.length_append, List.length_cons, List.length_nil]
      omega
    · simp; omega
  · omega

/-- the letters of the names from one on -/
def nameSum (ns : List ByteArray) (j : Nat) : Nat := bkN (ns.drop j)

theorem piece_len (k : Int) (ns : List ByteArray) (j : Nat) (s : List UInt8) : (piece k ns j s).length + 5 * bkN (ns.drop (j + 1)) ≤ s.length + 5 * bkN (ns.drop j) := by
  unfold piece
  by_cases h : j < ns.length
  · have e : ns.drop j = ns[j] :: ns.drop (j + 1) := List.drop_eq_getElem_cons h
    rw [e]
    simp only [bkN]
    split
    · have := quoteL_len (ns.getD j ByteArray.empty)
      have e2 : ns.getD j ByteArray.empty = ns[j] := by rw [List.getD, List.getElem?_eq_getElem h]; rfl
      rw [e2] at this ⊢
      simp only [List.length_append, List.length_cons, List.length_nil]
      omega
    · omega
  · rw [if_neg (by omega), List.drop_eq_nil_of_le (by omega), List.drop_eq_nil_of_le (by omega)]
    omega

mutual
theorem txt_len : ∀ T : Ty, (txt T).length + 2 ≤ 27 * T.bk
  | .mk k ts ns => by
    have h1 := wrapT_len k (pcs k ns 0 ts)
    have h2 := pcs_lens k ns 0 ts
    simp only [txt, Ty.bk]
    simp only [List.drop_zero] at h2
    omega
theorem pcs_lens (k : Int) (ns : List ByteArray) : ∀ (j : Nat) (ts : List Ty), lensP (pcs k ns j ts) ≤ 27 * bkL ts + 5 * bkN (ns.drop j)
  | _, [] => by simp [pcs, lensP]
  | j, t :: ts => by
    have h1 := txt_len t
    have h2 := pcs_lens k ns (j + 1) ts
    have h3 := piece_len k ns j (txt t)
    simp only [pcs, lensP, bkL]
    omega
end

end Go.Proofs.Ytnkecbpocgcdfaa
