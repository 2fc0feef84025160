/-
  Two worlds put together: below a block the one's cells, from it on the other's. Rows that a call owns, beside what it has made.
-/
import Derived.Test.YtnkecbpocgcdfaaKm
namespace Go.Proofs.Ytnkecbpocgcdfaa
open Go.ChangeShapes Go.WideShapes Go.ChangeAt Go.RowKit Go.Joins

def emptyObj : Obj := .cells #[] 0

def mix (A : World) (k : Nat) (B : World) : World :=
  { B with heap := Array.ofFn (n := max A.heap.size B.heap.size) fun i => if i.1 < k then A.heap.getD i.1 emptyObj else B.heap.getD i.1 emptyObj }

def objCell (x : Option Obj) (o : Nat) : Option Value :=
  match x with
  | some (.cells c _ _) => c[o]?
  | _ => none

theorem cell_obj (W : World) (b o : Nat) : W.cell? ⟨b, o, none⟩ = objCell W.heap[b]? o := by
  unfold World.cell? objCell
  cases W.heap[b]? with
  | none => rfl
  | some x => cases x <;> simp

theorem objCell_getD (W : World) (b o : Nat) : objCell (some (W.heap.getD b emptyObj)) o = objCell W.heap[b]? o := by
  by_cases h : b < W.heap.size
  · rw [Array.getElem?_eq_getElem h]
    simp [Array.getD, h]
  · rw [Array.getElem?_eq_none (by omega)]
    simp [Array.getD, h, emptyObj, objCell]

theorem mix_cell (A : World) (k : Nat) (B : World) (b o : Nat) : (mix A k B).cell? ⟨b, o, none⟩ = if b < k then A.cell? ⟨b, o, none⟩ else B.cell? ⟨b, o, none⟩ := by
  rw [cell_obj, cell_obj, cell_obj]
  have key : (mix A k B).heap[b]? = if b < max A.heap.size B.heap.size then some (if b < k then A.heap.getD b emptyObj else B.heap.getD b emptyObj) else none := by
    unfold mix
    by_cases h : b < max A.heap.size B.heap.size
    · rw [if_pos h, Array.getElem?_eq_getElem (by simpa using h)]
      simp
    · rw [if_neg h, Array.getElem?_eq_none (by simp only [Array.size_ofFn]; omega)]
  rw [key]
  by_cases h : b < max A.heap.size B.heap.size
  · rw [if_pos h]
    by_cases c : b < k
    · rw [if_pos c, if_pos c]; exact objCell_getD A b o
    · rw [if_neg c, if_neg c]; exact objCell_getD B b o
  · rw [if_neg h]
    by_cases c : b < k
    · rw [if_pos c, Array.getElem?_eq_none (by omega)]
    · rw [if_neg c, Array.getElem?_eq_none (by omega)]

theorem mix_low {A B : World} {k : Nat} (h : ∀ b o v, A.cell? ⟨b, o, none⟩ = some v → b < k) : Kept A (mix A k B) := fun b o v q => by
  rw [mix_cell, if_pos (h b o v q)]; exact q
theorem mix_high {A B : World} {k : Nat} (h : ∀ b o v, B.cell? ⟨b, o, none⟩ = some v → b < k → A.cell? ⟨b, o, none⟩ = some v) : Kept B (mix A k B) := fun b o v q => by
  rw [mix_cell]
  by_cases c : b < k
  · rw [if_pos c]; exact h b o v q c
  · rw [if_neg c]; exact q
theorem mix_into {A B C : World} {k : Nat} (hA : Kept A C) (hB : Kept B C) : Kept (mix A k B) C := fun b o v q => by
  rw [mix_cell] at q
  by_cases c : b < k
  · rw [if_pos c] at q; exact hA b o v q
  · rw [if_neg c] at q; exact hB b o v q

/-- what a call has made of a world: what lies in M is of the world ahead of the call, or new -/
structure MadeOf (w w' M w2 : World) : Prop where
  kept : Kept M w2
  old : ∀ b o v, M.cell? ⟨b, o, none⟩ = some v → b < w'.heap.size → w.cell? ⟨b, o, none⟩ = some v
  has : Kept w M

def JMade (c : Ty) (w w' : World) (e : Ending) (w2 : World) : Prop :=
  ∃ i n M, e = .returned (.agg #[.int .i64 c.kind, i, n]) ∧ IsTy M c i n ∧ MadeOf w w' M w2 ∧ Below w'.heap.size w' w2

theorem madeOf_same {w w' w2 : World} (hK : Kept w w2) : MadeOf w w' w w2 := ⟨hK, fun _ _ _ h _ => h, kept_refl _⟩

/-- one block more -/
theorem MadeOf.more {w w' M w2 w3 : World} (h : MadeOf w w' M w2) (hb : Below w2.heap.size w2 w3) (hs : w'.heap.size ≤ w2.heap.size) : MadeOf w w' (mix M w2.heap.size w3) w3 :=
  ⟨mix_into (kept_trans h.kept (kept_below hb)) (kept_refl _), fun b o v q hlt => by
    rw [mix_cell, if_pos (by omega)] at q
    exact h.old b o v q hlt, kept_trans h.has (mix_low fun b o v q => lt_of_cell (h.kept b o v q))⟩

theorem MadeOf.sub {w w' M w2 w3 : World} (h : MadeOf w w' M w2) : Kept M (mix M w2.heap.size w3) := mix_low fun b o v q => lt_of_cell (h.kept b o v q)

/-! ### the rows of a context that is being made -/

def tyCells (e : Ty × Value × Value) : List Value := [.int .i64 e.1.kind, e.2.1, e.2.2]
def rowOf (es : List (Ty × Value × Value)) : List Value := es.flatMap tyCells

theorem rowOf_length (es : List (Ty × Value × Value)) : (rowOf es).length = es.length * 3 := by
  induction es with
  | nil => rfl
  | cons e es ih =>
    simp only [rowOf, List.flatMap_cons, List.length_append, tyCells, List.length_cons, List.length_nil] at *
    omega

theorem rowOf_append (es : List (Ty × Value × Value)) (e : Ty × Value × Value) : rowOf (es ++ [e]) = rowOf es ++ tyCells e := by
  simp [rowOf, List.flatMap_append]

theorem rowOf_at : ∀ (es : List (Ty × Value × Value)) (j : Nat) (h : j < es.length), (rowOf es)[j * 3]? = some (.int .i64 es[j].1.kind) ∧ (rowOf es)[j * 3 + 1]? = some es[j].2.1 ∧ (rowOf es)[j * 3 + 2]? = some es[j].2.2
  | [], j, h => absurd h (by simp)
  | e :: es, 0, _ => by simp [rowOf, tyCells]
  | e :: es, j + 1, h => by
    have ih := rowOf_at es j (by simpa using h)
    have e1 : (j + 1) * 3 = j * 3 + 3 := by omega
    simp only [rowOf, List.flatMap_cons, tyCells, List.cons_append, List.nil_append, e1, List.getElem?_cons_succ, List.getElem_cons_succ] at *
    exact ih

structure JInv (w w' wr : World) (base : Nat) (es : List (Ty × Value × Value)) (ns : List ByteArray) (vi vn : Value) (M : World) : Prop where
  rowi : wr.ownsRow base 26 3 vi es.length (rowOf es)
  rown : wr.ownsRow base 9 1 vn ns.length (ns.map .string)
  ne : vi.ownBlock = none ∨ vi.ownBlock ≠ vn.ownBlock
  ty : ∀ e ∈ es, IsTy M e.1 e.2.1 e.2.2
  km : Kept w M
  kr : Kept M wr
  av : ∀ b o v, M.cell? ⟨b, o, none⟩ = some v → (b < w'.heap.size ∧ w.cell? ⟨b, o, none⟩ = some v) ∨ (base ≤ b ∧ some b ≠ vi.ownBlock ∧ some b ≠ vn.ownBlock)
  le : w'.heap.size ≤ base
  lw : base ≤ wr.heap.size

theorem grown_of_below {w w' : World} (h : Below w.heap.size w w') (row : Option Nat) : w.grownBy w' row := ⟨h.os, h.tape, h.output, h.size, fun k hk _ => h.block k hk⟩

theorem JInv.below {w w' wr wr2 : World} {base : Nat} {es ns vi vn M} (h : JInv w w' wr base es ns vi vn M) (hb : Below wr.heap.size wr wr2) : JInv w w' wr2 base es ns vi vn M :=
  ⟨h.rowi.kept (grown_of_below hb none) (by cases vi.ownBlock <;> simp), h.rown.kept (grown_of_below hb none) (by cases vn.ownBlock <;> simp), h.ne, h.ty, h.km, kept_trans h.kr (kept_below hb), h.av, h.le, Nat.le_trans h.lw hb.size⟩

/-- a name is appended -/
theorem JInv.name {w w' wr wr2 : World} {base : Nat} {es ns vi vn M} (h : JInv w w' wr base es ns vi vn M) (x : ByteArray) (g cap : Nat)
    (hown : wr2.ownsRow base 9 1 (.slice (some ⟨g, 0, none⟩) (ns.length + 1) cap) (ns.length + 1) (ns.map .string ++ [.string x])) (hg : wr.grownBy wr2 vn.ownBlock) (hat : vn.ownBlock = some g ∨ g = wr.heap.size) :
    JInv w w' wr2 base es (ns ++ [x]) vi (.slice (some ⟨g, 0, none⟩) (ns.length + 1) cap) M := by
  have hne : vi.ownBlock = none ∨ vi.ownBlock ≠ some g := by
    rcases h.ne with q | q
    · exact .inl q
    · rcases hat with e | e
      · rw [← e]; exact .inr q
      · cases hv : vi.ownBlock with
        | none => exact .inl rfl
        | some j =>
          have := (h.rowi.lt j hv).2
          exact .inr (by simp; omega)
  refine ⟨h.rowi.kept hg h.ne, by simpa using hown, by simpa [Value.ownBlock] using hne, h.ty, h.km, fun b o v q => ?_, fun b o v q => ?_, h.le, Nat.le_trans h.lw hg.size⟩
  · have hlt := lt_of_cell (h.kr _ _ _ q)
    have hn : some b ≠ vn.ownBlock := by
      rcases h.av b o v q with ⟨h1, _⟩ | ⟨_, _, h3⟩
      · intro e
        have := (h.rown.lt b e.symm).1
        have := h.le
        omega
      · exact h3
    exact hg.cell (h.kr _ _ _ q) hn
  · have hlt := lt_of_cell (h.kr _ _ _ q)
    rcases h.av b o v q with h1 | ⟨h1, h2, h3⟩
    · exact .inl h1
    · refine .inr ⟨h1, h2, ?_⟩
      simp only [Value.ownBlock]
      rcases hat with e | e
      · rw [← e]; exact h3
      · simp; omega

/-- a type is appended -/
theorem JInv.item {w w' wr wr2 : World} {base : Nat} {es ns vi vn M} (h : JInv w w' wr base es ns vi vn M) (e : Ty × Value × Value) (he : IsTy M e.1 e.2.1 e.2.2) (g cap : Nat)
    (hown : wr2.ownsRow base 26 3 (.slice (some ⟨g, 0, none⟩) (es.length + 1) cap) (es.length + 1) (rowOf es ++ tyCells e)) (hg : wr.grownBy wr2 vi.ownBlock) (hat : vi.ownBlock = some g ∨ g = wr.heap.size) :
    JInv w w' wr2 base (es ++ [e]) ns (.slice (some ⟨g, 0, none⟩) (es.length + 1) cap) vn M := by
  have hne : some g ≠ vn.ownBlock := by
    rcases hat with q | q
    · rcases h.ne with r | r
      · rw [r] at q; cases q
      · rw [← q]; exact r
    · intro q2
      have := (h.rown.lt g q2.symm).2
      omega
  refine ⟨by rw [rowOf_append]; simpa using hown, h.rown.kept hg (by
    rcases h.ne with r | r
    · rw [r]; cases vn.ownBlock <;> simp
    · exact .inr (Ne.symm r)), .inr (by simpa [Value.ownBlock] using hne), fun x hx => ?_, h.km, fun b o v q => ?_, fun b o v q => ?_, h.le, Nat.le_trans h.lw hg.size⟩
  · rcases List.mem_append.1 hx with hx | hx
    · exact h.ty x hx
    · simp at hx; subst hx; exact he
  · have hn : some b ≠ vi.ownBlock := by
      rcases h.av b o v q with ⟨h1, _⟩ | ⟨_, h2, _⟩
      · intro e
        have := (h.rowi.lt b e.symm).1
        have := h.le
        omega
      · exact h2
    exact hg.cell (h.kr _ _ _ q) hn
  · have hlt := lt_of_cell (h.kr _ _ _ q)
    rcases h.av b o v q with h1 | ⟨h1, h2, h3⟩
    · exact .inl h1
    · refine .inr ⟨h1, ?_, h3⟩
      simp only [Value.ownBlock]
      rcases hat with e | e
      · rw [← e]; exact h2
      · simp; omega

/-- another call has made a type -/
theorem JInv.made {w w' wr wr2 : World} {base : Nat} {es ns vi vn M Mc} (h : JInv w w' wr base es ns vi vn M) (hb : Below wr.heap.size wr wr2) (hm : MadeOf w wr Mc wr2) :
    JInv w w' wr2 base es ns vi vn (mix M wr.heap.size Mc) ∧ Kept Mc (mix M wr.heap.size Mc) := by
  have kM : Kept M (mix M wr.heap.size Mc) := mix_low fun b o v q => lt_of_cell (h.kr b o v q)
  have kC : Kept Mc (mix M wr.heap.size Mc) := mix_high fun b o v q hlt => h.km _ _ _ (hm.old b o v q hlt)
  have hB := h.below hb
  refine ⟨⟨hB.rowi, hB.rown, h.ne, fun e he => (h.ty e he).keep kM, kept_trans h.km kM, mix_into hB.kr hm.kept, fun b o v q => ?_, h.le, hB.lw⟩, kC⟩
  rw [mix_cell] at q
  by_cases c : b < wr.heap.size
  · rw [if_pos c] at q
    exact h.av b o v q
  · rw [if_neg c] at q
    have := h.lw
    refine .inr ⟨by omega, fun e => ?_, fun e => ?_⟩
    · have := (h.rowi.lt b e.symm).2; omega
    · have := (h.rown.lt b e.symm).2; omega

theorem jinv_nil (w w' wr : World) (base : Nat) (hK : Kept w wr) (hle : w'.heap.size ≤ base) (hlw : base ≤ wr.heap.size) (hlt : ∀ b o v, w.cell? ⟨b, o, none⟩ = some v → b < w'.heap.size) :
    JInv w w' wr base [] [] (.slice none 0 0) (.slice none 0 0) w :=
  ⟨World.ownsRow_nil _ _ _ _, World.ownsRow_nil _ _ _ _, .inl rfl, fun _ h => absurd h (by simp), kept_refl _, hK, fun b o v q => .inl ⟨hlt b o v q, q⟩, hle, hlw⟩

end Go.Proofs.Ytnkecbpocgcdfaa
