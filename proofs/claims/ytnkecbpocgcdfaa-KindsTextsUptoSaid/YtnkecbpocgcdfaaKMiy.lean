/-
  Join as a function on types; which blocks a condition names; the rows at the end.
-/
import Derived.Test.YtnkecbpocgcdfaaKMix
namespace Go.Proofs.Ytnkecbpocgcdfaa
open Go.ChangeShapes Go.WideShapes Go.ChangeAt Go.RowKit Go.Joins

/-! ### some of a world's blocks -/

def pickW (W : World) (P : Nat → Bool) : World := { W with heap := W.heap.mapIdx fun i x => if P i = true then x else emptyObj }

theorem pick_cell (W : World) (P : Nat → Bool) (b o : Nat) : (pickW W P).cell? ⟨b, o, none⟩ = if P b = true then W.cell? ⟨b, o, none⟩ else none := by
  rw [cell_obj, cell_obj]
  have key : (pickW W P).heap[b]? = (W.heap[b]?).map fun x => if P b = true then x else emptyObj := by
    unfold pickW
    simp
  rw [key]
  cases W.heap[b]? with
  | none => simp [objCell]
  | some x =>
    by_cases c : P b = true
    · simp [c]
    · simp [c, objCell, emptyObj]

theorem pick_has {W : World} {P : Nat → Bool} {b o : Nat} {v : Value} (h : W.cell? ⟨b, o, none⟩ = some v) (hp : P b = true) : (pickW W P).cell? ⟨b, o, none⟩ = some v := by
  rw [pick_cell, if_pos hp]; exact h

theorem pick_in {W : World} {P : Nat → Bool} {b o : Nat} {v : Value} (h : (pickW W P).cell? ⟨b, o, none⟩ = some v) : P b = true ∧ W.cell? ⟨b, o, none⟩ = some v := by
  rw [pick_cell] at h
  by_cases c : P b = true
  · rw [if_pos c] at h; exact ⟨c, h⟩
  · rw [if_neg c] at h; cases h

theorem pick_kept (W : World) (P : Nat → Bool) : Kept (pickW W P) W := fun _ _ _ q => (pick_in q).2
theorem pick_mono {W : World} {P P' : Nat → Bool} (h : ∀ b, P b = true → P' b = true) : Kept (pickW W P) (pickW W P') := fun _ _ _ q => pick_has (pick_in q).2 (h _ (pick_in q).1)

theorem kept_row {K v v' : World} {row : Option Nat} (h : Kept K v) (hg : v.grownBy v' row) (hn : ∀ b o x, K.cell? ⟨b, o, none⟩ = some x → some b ≠ row) : Kept K v' := fun b o x q => hg.cell (h b o x q) (hn b o x q)
theorem kept_put {K v : World} (h : Kept K v) {p : Addr} (hn : ∀ b o x, K.cell? ⟨b, o, none⟩ = some x → p.block ≠ b) (u : Value) : Kept K (v.setCell p u) := fun b o x q =>
  (World.cell?_setCell_far v p ⟨b, o, none⟩ u (hn b o x q)).trans (h b o x q)

theorem grown_set (w : World) (a : Addr) (u : Value) : w.grownBy (w.setCell a u) (some a.block) :=
  ⟨rfl, rfl, rfl, by simp [World.setCell], fun k _ hn => Below.heap_setCell _ _ _ _ (fun e => hn (by rw [e]))⟩

theorem JInv.set {w w' wr : World} {base : Nat} {es ns vi vn M} (h : JInv w w' wr base es ns vi vn M) {p : Addr} (hp : w'.heap.size ≤ p.block) (hq : p.block < base) (u : Value) : JInv w w' (wr.setCell p u) base es ns vi vn M := by
  have hg := grown_set wr p u
  refine ⟨h.rowi.kept hg (.inr fun e => ?_), h.rown.kept hg (.inr fun e => ?_), h.ne, h.ty, h.km, kept_row h.kr hg (fun b o x q e => ?_), h.av, h.le, by simpa [World.setCell] using h.lw⟩
  · have := (h.rowi.lt _ e).1; omega
  · have := (h.rown.lt _ e).1; omega
  · simp only [Option.some.injEq] at e
    rcases h.av b o x q with ⟨h1, _⟩ | ⟨h1, _⟩ <;> omega

theorem row_shape {w : World} {base : Nat} {e : TypeId} {size n : Nat} {v : Value} {xs : List Value} (h : w.ownsRow base e size v n xs) : ∃ a c, v = .slice a n c ∧ n ≤ c ∧ c ≤ 9223372036854775807 := by
  rcases h.2 with ⟨rfl, rfl⟩ | ⟨g, cap, cur, rfl, _, _, h1, h2, _⟩
  · exact ⟨none, 0, rfl, Nat.le_refl _, by omega⟩
  · exact ⟨_, _, rfl, h1, by unfold maxLen at h2; omega⟩

theorem row_cells {w : World} {base : Nat} {e : TypeId} {size n : Nat} {a : Option Addr} {c : Nat} {xs : List Value} (h : w.ownsRow base e size (.slice a n c) n xs) (h0 : 0 < n) :
    ∃ g, a = some ⟨g, 0, none⟩ ∧ base ≤ g ∧ ∀ j u, xs[j]? = some u → w.cell? ⟨g, j, none⟩ = some u := by
  rcases h.2 with ⟨_, rfl⟩ | ⟨g, cap, cur, e1, hb, _⟩
  · omega
  · simp only [Value.slice.injEq, true_and] at e1
    obtain ⟨rfl, rfl⟩ := e1
    refine ⟨g, rfl, hb, fun j u q => ?_⟩
    have hj : j < n * size := by
      have := (List.getElem?_eq_some_iff.1 q).1
      rw [h.1] at this
      exact this
    rw [h.cellAt j hj, q]

/-- the context that has been made lies in the world -/
theorem jinv_done {w w' wr : World} {base : Nat} {es ns vi vn M} (h : JInv w w' wr base es ns vi vn M) (hK : Kept w wr) (Ts : List Ty) (hT : es.map (·.1) = Ts) :
    IsTy (mix w w'.heap.size wr) (.mk 11 Ts ns) vi vn ∧ MadeOf w w' (mix w w'.heap.size wr) wr := by
  have hle := h.le
  have kM : Kept M (mix w w'.heap.size wr) := fun b o v q => by
    rw [mix_cell]
    rcases h.av b o v q with ⟨h1, h2⟩ | ⟨h1, _⟩
    · rw [if_pos h1]; exact h2
    · rw [if_neg (by omega)]; exact h.kr b o v q
  have hL : Ts.length = es.length := by rw [← hT]; simp
  obtain ⟨ai, ci, rfl, hi1, hi2⟩ := row_shape h.rowi
  obtain ⟨an, cn, rfl, hn1, hn2⟩ := row_shape h.rown
  have up : ∀ b o v, base ≤ b → wr.cell? ⟨b, o, none⟩ = some v → (mix w w'.heap.size wr).cell? ⟨b, o, none⟩ = some v := fun b o v hb q => by
    rw [mix_cell, if_neg (by omega)]; exact q
  have hE : ∀ j (hj : j < Ts.length), ∃ hj' : j < es.length, Ts[j] = es[j].1 := fun j hj => by
    refine ⟨by omega, ?_⟩
    simp only [← hT, List.getElem_map]
  refine ⟨?_, ⟨mix_into hK (kept_refl _), fun b o v q hlt => by rw [mix_cell, if_pos hlt] at q; exact q, kept_trans h.km kM⟩⟩
  have key := IsTy.mk (w := mix w w'.heap.size wr) 11 Ts ns (.slice an ns.length cn) ai ci (fun j => (es.getD j (noTy, .bool false, .bool false)).2.1) (fun j => (es.getD j (noTy, .bool false, .bool false)).2.2) (by omega)
    ⟨⟨an, cn, rfl, hn1, hn2, fun q => ?_⟩⟩ (by omega) hi2 (fun q => ?_) (fun j hj => ?_)
  · rw [hL] at key
    exact key
  · have h0 : 0 < ns.length := List.length_pos_iff.2 q
    obtain ⟨g, rfl, hb, hc⟩ := row_cells h.rown h0
    refine ⟨g, 0, rfl, fun j hj => up _ _ _ hb ?_⟩
    rw [Nat.zero_add]
    exact hc j _ (by rw [List.getElem?_map, List.getElem?_eq_getElem hj]; rfl)
  · have h0 : 0 < es.length := by have := List.length_pos_iff.2 q; omega
    obtain ⟨g, rfl, hb, hc⟩ := row_cells h.rowi h0
    refine ⟨g, 0, rfl, fun j hj => ?_⟩
    obtain ⟨hj', e⟩ := hE j hj
    obtain ⟨q0, q1, q2⟩ := rowOf_at es j hj'
    rw [Nat.zero_add, e, List.getD, List.getElem?_eq_getElem hj']
    exact ⟨up _ _ _ hb (hc _ _ q0), up _ _ _ hb (hc _ _ q1), up _ _ _ hb (hc _ _ q2)⟩
  · obtain ⟨hj', e⟩ := hE j hj
    rw [e, List.getD, List.getElem?_eq_getElem hj']
    exact (h.ty _ (List.getElem_mem hj')).keep kM

/-! ### Join as a function -/

def ctxIdx (a b : Ty) (j : Nat) : List Nat := (List.range j).filter fun k => decide (k < a.items.length) && (entryT b (a.names.getD k ByteArray.empty)).isSome

theorem ctxIdx_succ (a b : Ty) (j : Nat) : ctxIdx a b (j + 1) = ctxIdx a b j ++ if decide (j < a.items.length) && (entryT b (a.names.getD j ByteArray.empty)).isSome then [j] else [] := by
  unfold ctxIdx
  rw [List.range_succ, List.filter_append, List.filter_cons, List.filter_nil]

theorem ctxIdx_len (a b : Ty) (j : Nat) : (ctxIdx a b j).length ≤ j := by
  unfold ctxIdx
  exact Nat.le_trans (List.length_filter_le _ _) (by simp)

theorem ctxIdx_mem {a b : Ty} {j k : Nat} : k ∈ ctxIdx a b j ↔ k < j ∧ k < a.items.length ∧ (entryT b (a.names.getD k ByteArray.empty)).isSome = true := by
  unfold ctxIdx
  simp [List.mem_filter]

def nameAt (a : Ty) (k : Nat) : ByteArray := a.names.getD k ByteArray.empty
def pairOf (b : Ty) (x : ByteArray) : Ty := (entryT b x).getD noTy

noncomputable def joinF : Nat → Ty → Ty → Ty
  | 0, _, _ => .mk 14 [] []
  | n + 1, a, b =>
    if confB a b = true then b
    else if confB b a = true then a
    else if a.kind = b.kind ∧ (a.kind = 10 ∨ a.kind = 12) ∧ a.items.length = 1 ∧ b.items.length = 1 then .mk a.kind [joinF n (a.items.getD 0 noTy) (b.items.getD 0 noTy)] []
    else if a.kind = 11 ∧ b.kind = 11 then .mk 11 ((ctxIdx a b a.names.length).map fun k => joinF n (a.items.getD k noTy) (pairOf b (nameAt a k))) ((ctxIdx a b a.names.length).map (nameAt a))
    else .mk 14 [] []

/-- no list in a type, however deep, is longer than 2^20 -/
inductive Small : Ty → Prop where
  | mk (k : Int) (ts : List Ty) (ns : List ByteArray) (h1 : ts.length ≤ 1048576) (h2 : ns.length ≤ 1048576) (h3 : ∀ j (h : j < ts.length), Small ts[j]) : Small (.mk k ts ns)

theorem Small.parts {T : Ty} (h : Small T) : T.items.length ≤ 1048576 ∧ T.names.length ≤ 1048576 := by
  cases h with
  | mk k ts ns h1 h2 h3 => exact ⟨h1, h2⟩
theorem small_flat (k : Int) : Small (.mk k [] []) := .mk k [] [] (by simp) (by simp) (fun j h => absurd h (by simp))
theorem Small.item {T : Ty} (h : Small T) (j : Nat) : Small (T.items.getD j noTy) := by
  by_cases hj : j < T.items.length
  · rw [getD_at hj]
    cases h with
    | mk k ts ns h1 h2 h3 => exact h3 j hj
  · rw [List.getD, List.getElem?_eq_none (by omega)]
    exact small_flat 0
theorem Small.pair {T : Ty} (h : Small T) (x : ByteArray) : Small (pairOf T x) := by
  unfold pairOf
  cases he : entryT T x with
  | none => exact small_flat 0
  | some X =>
    obtain ⟨j, hj, _, rfl⟩ := entry_some he
    have := h.item j
    rw [getD_at hj] at this
    exact this

theorem joinF_small : ∀ (n : Nat) (a b : Ty), Small a → Small b → Small (joinF n a b) := by
  intro n
  induction n with
  | zero => intro a b _ _; exact small_flat 14
  | succ n ih =>
    intro a b ha hb
    unfold joinF
    split
    · exact hb
    · split
      · exact ha
      · split
        · exact .mk _ _ _ (by simp) (by simp) (fun j hj => by
            have : j = 0 := by simp at hj; exact hj
            subst this
            exact ih _ _ (ha.item 0) (hb.item 0))
        · split
          · have := ctxIdx_len a b a.names.length
            have := ha.parts.2
            refine .mk _ _ _ (by simp; omega) (by simp; omega) (fun j hj => ?_)
            rw [List.getElem_map]
            exact ih _ _ (ha.item _) (hb.pair _)
          · exact small_flat 14

def JoinSpec (n : Nat) (a b : Ty) : Prop := ∀ w ai an bi bn, IsTy w a ai an → IsTy w b bi bn → ∀ w', Kept w w' →
  Calls Try.prog 11 #[.agg #[.int .i64 a.kind, ai, an], .agg #[.int .i64 b.kind, bi, bn]] w' (JMade (joinF n a b) w w')

end Go.Proofs.Ytnkecbpocgcdfaa
