/-
  Tools of this seat: a law's frame; worlds that have grown, cells that stay; texts as lists of bytes.
-/
import Derived.Test.YtnamnldijopkfaaDoorRows
import Derived.Test.YtnamnldijopkfaaDoorTShelf
import Derived.Laws.Concat
import Derived.Stop.FmtQuoteTie
import Derived.Deep.AppendLies
import Derived.BigCall
import Derived.WalkKit
import Derived.ProofKit
import Derived.OpenShut
import Derived.Lib.SmallJoins
import Derived.Lib.Hide
import Derived.Outline
import Derived.Deep.QuietTactic
import Derived.BigQuiet
import Derived.Deep.RegionHeld3
import Derived.Deep.DeepCutAuto
import Derived.Deep.Slices
namespace Go.Proofs.YtnamnldijopkfaaDoor
open Go.ChangeShapes Go.WideShapes Go.ChangeAt Go.RowKit Go.Joins

theorem Tryd.own : ownKnob Tryd.prog.godebug = none := by kernel_rfl
theorem Tryd.laidOut : laidOutB Tryd.prog = true := by kernel_rfl

section
variable {H : Type} {enc : TypeId × Value → H} {P : Program}

theorem below_trodAll (hl : laidOutB P = true) {W W' : World} (hb : Below W.heap.size W W') :
    ∀ {ts : List TypeId} {vs : List Value} {ds : List (DataW H)} {ps : List MemPlace}, (ts.all fun t => P.readableRec t && decide (t < P.types.size)) = true → (∀ x ∈ ps, x.block < W.heap.size) →
      DataW.TrodAll enc P W 0 (fun _ => true) true ts vs ds ps → DataW.TrodAll enc P W' 0 (fun b => decide (b < W.heap.size)) true ts vs ds ps
  | [], _, _, _, _, _, h => by
    obtain ⟨rfl, rfl, rfl⟩ := trodAll_nil h
    exact trodAll_mk0
  | _ :: _, _, _, _, ht, hlt, h => by
    obtain ⟨v, vs1, d, ds1, a, b, rfl, rfl, rfl, h1, h2⟩ := trodAll_cons h
    simp only [List.all_cons, Bool.and_eq_true, decide_eq_true_eq] at ht
    exact trodAll_cons_mk (Below.trod hl ht.1.1 ht.1.2 h1 hb (fun x hx => hlt x (by simp [hx]))) (below_trodAll hl hb ht.2 (fun x hx => hlt x (by simp [hx])) h2)

theorem law_post {f : Func} {s : ChangeSpec} {W W' : World} {args : Array Value} {ds : List (DataW H)} {before : List MemPlace} {tb : TypeId}
    (hl : laidOutB P = true) (hts : (f.params.toList.all fun t => P.readableRec t && decide (t < P.types.size)) = true)
    (hv : s.vars = []) (hr : f.resultTypes = #[tb]) (htb : P.underlying tb = some .bool)
    (hW : DataW.Whole enc P f.params.toList s.vars false W args.toList ds [] before)
    (hfn : s.fn H (ds ++ []) = { results := [.lit (.bool true)], args := ds })
    (hb : Below W.heap.size W W') : s.post enc P f false true false false W args (.bool true) W' := by
  have hlt : ∀ x ∈ before, x.block < W.heap.size := fun x hx => by simpa using hW.lt x hx
  obtain ⟨p, q, hA, hV, rfl, hfz, hnd⟩ := id hW
  rw [hv] at hV
  obtain ⟨_, rfl⟩ := trodVars_none hV
  simp only [List.append_nil] at hlt
  refine ⟨ds, [], p ++ [], [], p, [], hW, ?_, ?_, ?_, hb.frame _, fun h => by cases h⟩
  · rw [hfn, hr]
    exact trodAll_mk1 (shut_bool htb true)
  · rw [hfn]
    exact below_trodAll hl hb hts hlt hA
  · rw [hfn, hv]; exact rfl
end


theorem bl_refl (a : World) : Below a.heap.size a a := Below.refl _ _
theorem bl_alloc {a w : World} (h : Below a.heap.size a w) (o : Obj) : Below a.heap.size a (w.alloc o) := h.alloc h.size o
theorem bl_drew {a w : World} (h : Below a.heap.size a w) : Below a.heap.size a w.drew := h.drew
theorem bl_set {a w : World} (h : Below a.heap.size a w) {p : Addr} (hp : a.heap.size ≤ p.block) (u : Value) : Below a.heap.size a (w.setCell p u) := h.setCell hp u
theorem bl_trans {a w w1 : World} (h : Below a.heap.size a w) (k : Below w.heap.size w w1) : Below a.heap.size a w1 := h.trans (k.mono h.size)

theorem ret_bool {a b : Bool} (h : a = b) : Ending.returned (.bool a) = .returned (.bool b) := by rw [h]
theorem ret_int {k : IntKind} {a b : Int} (h : a = b) : Ending.returned (.int k a) = .returned (.int k b) := by rw [h]

theorem bl_drewN {a w : World} (h : Below a.heap.size a w) (n : Nat) : Below a.heap.size a (w.drewN n) := by
  exact ⟨h.os, h.tape, h.output, h.size, h.block⟩

theorem bcell {W w1 : World} (hb : Below W.heap.size W w1) : (∀ b o, b < W.heap.size → w1.cell? ⟨b, o, none⟩ = W.cell? ⟨b, o, none⟩) ∧ (∀ b o, b < W.heap.size → w1.frozen? ⟨b, o, none⟩ = W.frozen? ⟨b, o, none⟩) :=
  ⟨fun b o h => hb.cell (p := ⟨b, o, none⟩) h, fun b o h => hb.frozen (p := ⟨b, o, none⟩) h⟩


theorem lt_of_cell {W : World} {b o : Nat} {v : Value} (h : W.cell? ⟨b, o, none⟩ = some v) : b < W.heap.size := by
  apply Decidable.byContradiction
  intro hb
  have e : W.heap[b]? = none := by simp; omega
  simp [World.cell?, e] at h

theorem keep1 {W w1 : World} {b o : Nat} {v : Value} (hb : Below W.heap.size W w1) (h : W.cell? ⟨b, o, none⟩ = some v) (f : W.frozen? ⟨b, o, none⟩ = false) :
    w1.cell? ⟨b, o, none⟩ = some v ∧ w1.frozen? ⟨b, o, none⟩ = false ∧ b < w1.heap.size :=
  ⟨(hb.cell (p := ⟨b, o, none⟩) (lt_of_cell h)).trans h, (hb.frozen (p := ⟨b, o, none⟩) (lt_of_cell h)).trans f, Nat.lt_of_lt_of_le (lt_of_cell h) hb.size⟩

theorem keep3 {W w1 : World} {b : Nat} {x y z : Value} (hb : Below W.heap.size W w1)
    (h0 : W.cell? ⟨b, 0, none⟩ = some x) (h1 : W.cell? ⟨b, 1, none⟩ = some y) (h2 : W.cell? ⟨b, 2, none⟩ = some z)
    (f0 : W.frozen? ⟨b, 0, none⟩ = false) (f1 : W.frozen? ⟨b, 1, none⟩ = false) (f2 : W.frozen? ⟨b, 2, none⟩ = false) :
    w1.cell? ⟨b, 0, none⟩ = some x ∧ w1.cell? ⟨b, 1, none⟩ = some y ∧ w1.cell? ⟨b, 2, none⟩ = some z ∧
    w1.frozen? ⟨b, 0, none⟩ = false ∧ w1.frozen? ⟨b, 1, none⟩ = false ∧ w1.frozen? ⟨b, 2, none⟩ = false ∧ b < w1.heap.size :=
  ⟨(keep1 hb h0 f0).1, (keep1 hb h1 f1).1, (keep1 hb h2 f2).1, (keep1 hb h0 f0).2.1, (keep1 hb h1 f1).2.1, (keep1 hb h2 f2).2.1, (keep1 hb h0 f0).2.2⟩


/-- a callee that leaves the world alone, in a region that draws its order -/
theorem quiet_same {P : Program} {f : FuncId} {args : Array Value} {w : World} {n : Nat} {v : Value}
    (h : Calls P f args (w.drewN n) fun e w' => e = .returned v ∧ w.drewN n = w') : Calls P f args (w.drewN n) fun e w'' => e = .returned v ∧ ∃ m, w'' = w.drewN m :=
  h.mono fun _ _ ⟨he, hm⟩ => ⟨he, n, hm.symm⟩

theorem cell_alloc_keep {w : World} {a : Addr} {v : Value} {o : Obj} (h : w.cell? a = some v) : (w.alloc o).cell? a = some v := by
  obtain ⟨b, k, sp⟩ := a
  exact (World.cell?_alloc_lt _ _ _ (World.block_lt_of_cell? w _ h)).trans h


theorem below_keeps {w w' : World} (hb : Below w.heap.size w w') : ∀ b o v, w.cell? ⟨b, o, none⟩ = some v → w'.cell? ⟨b, o, none⟩ = some v :=
  fun b o _ h => (hb.cell (p := ⟨b, o, none⟩) (lt_of_cell h)).trans h

/-- every cell that holds something in one world holds it in the other -/
def Kept (w w' : World) : Prop := ∀ b o v, w.cell? ⟨b, o, none⟩ = some v → w'.cell? ⟨b, o, none⟩ = some v

theorem kept_refl (w : World) : Kept w w := fun _ _ _ h => h
theorem kept_trans {a b c : World} (h : Kept a b) (g : Kept b c) : Kept a c := fun _ _ _ q => g _ _ _ (h _ _ _ q)
theorem kept_below {w w' : World} (hb : Below w.heap.size w w') : Kept w w' := below_keeps hb
theorem kept_alloc {w w' : World} (h : Kept w w') (o : Obj) : Kept w (w'.alloc o) := fun _ _ _ q => cell_alloc_keep (h _ _ _ q)

theorem keep3c {W w1 : World} {b : Nat} {x y z : Value} (hb : Below W.heap.size W w1)
    (h0 : W.cell? ⟨b, 0, none⟩ = some x) (h1 : W.cell? ⟨b, 1, none⟩ = some y) (h2 : W.cell? ⟨b, 2, none⟩ = some z) :
    w1.cell? ⟨b, 0, none⟩ = some x ∧ w1.cell? ⟨b, 1, none⟩ = some y ∧ w1.cell? ⟨b, 2, none⟩ = some z ∧ b < w1.heap.size :=
  ⟨below_keeps hb _ _ _ h0, below_keeps hb _ _ _ h1, below_keeps hb _ _ _ h2, lt_of_cell (below_keeps hb _ _ _ h0)⟩
theorem kept_head {a b : World} (h : Kept a b) : Kept a b := h
theorem kept_drew {a b : World} (h : Kept a b) : Kept a b.drew := fun x o v q => by simpa using h x o v q
theorem kept_drewN {w w' : World} (h : Kept w w') (n : Nat) : Kept w (w'.drewN n) := fun b o v q => by simpa using h b o v q
theorem kept_set {a w : World} (h : Kept a w) {p : Addr} (hp : a.heap.size ≤ p.block) (u : Value) : Kept a (w.setCell p u) := by
  intro b o v q
  have hb := lt_of_cell q
  exact (World.cell?_setCell_far w p _ u (by simp; omega)).trans (h _ _ _ q)
theorem kept_put {K v : World} (h : Kept K v) {p : Addr} (hn : ∀ b o x, K.cell? ⟨b, o, none⟩ = some x → p.block ≠ b) (u : Value) : Kept K (v.setCell p u) := fun b o x q =>
  (World.cell?_setCell_far v p ⟨b, o, none⟩ u (hn b o x q)).trans (h b o x q)
theorem grown_of_below {w w' : World} (h : Below w.heap.size w w') (row : Option Nat) : w.grownBy w' row := ⟨h.os, h.tape, h.output, h.size, fun k hk _ => h.block k hk⟩
theorem grown_kept {a w w' : World} {row : Option Nat} (h : Kept a w) (hg : w.grownBy w' row) (hn : ∀ g, row = some g → a.heap.size ≤ g) : Kept a w' := fun b o v q =>
  hg.cell (h _ _ _ q) (fun e => by have := hn b e.symm; have := lt_of_cell q; omega)
theorem row_shape {w : World} {base : Nat} {e : TypeId} {size n : Nat} {v : Value} {xs : List Value} (h : w.ownsRow base e size v n xs) : ∃ a c, v = .slice a n c ∧ n ≤ c ∧ c ≤ 9223372036854775807 := by
  rcases h.2 with ⟨rfl, rfl⟩ | ⟨g, cap, cur, rfl, _, _, h1, h2, _⟩
  · exact ⟨none, 0, rfl, Nat.le_refl _, by omega⟩
  · exact ⟨_, _, rfl, h1, by unfold maxLen at h2; omega⟩

theorem row_cells {w : World} {base : Nat} {e : TypeId} {size n : Nat} {a : Option Addr} {c : Nat} {xs : List Value} (h : w.ownsRow base e size (.slice a n c) n xs) (h0 : 0 < n) :
    ∃ g, a = some ⟨g, 0, none⟩ ∧ base ≤ g ∧ ∀ j u, xs[j]? = some u → w.cell? ⟨g, j, none⟩ = some u := by
  rcases h.2 with ⟨_, rfl⟩ | ⟨g, cap, cur, e1, hb, _⟩
  · omega
  · simp only [Value.slice.injEq, true_and] at e1
    obtain ⟨rfl, rfl⟩ := e1
    refine ⟨g, rfl, hb, fun j u q => ?_⟩
    have hj : j < n * size := by
      have := (List.getElem?_eq_some_iff.1 q).1
      rw [h.1] at this
      exact this
    rw [h.cellAt j hj, q]


def strOfL (l : List UInt8) : ByteArray := ⟨l.toArray⟩
theorem strOfL_size (l : List UInt8) : (strOfL l).size = l.length := by show l.toArray.size = _; simp
theorem strOfL_list (l : List UInt8) : (strOfL l).data.toList = l := by simp [strOfL]
theorem strOfL_of (s : ByteArray) : strOfL s.data.toList = s := by cases s; simp [strOfL]
theorem catL {P : Program} (a b : List UInt8) (h : a.length + b.length ≤ 9223372036854775807) (v : World) : (Op.stringOp .add (strOfL a) (strOfL b)).run P v = .ok (.string (strOfL (a ++ b))) v := by
  have e3 : strOfL a ++ strOfL b = strOfL (a ++ b) := by
    apply ByteArray.ext
    simp [strOfL]
  rw [run_string_add_sum v (strOfL a) (strOfL b) (by rw [strOfL_size, strOfL_size]; omega), e3]
theorem encode_r (r : Nat) : Utf8.encode (r : Int) = strOfL (Lib.encodeRune (r : Int)) := by
  have h := Go.Extern.FmtText.encode_eq r
  apply ByteArray.ext
  apply Array.ext'
  have e : ∀ l : List UInt8, (l.map fun x => (x.toNat : Int)).map (fun x => x.toNat.toUInt8) = l := by
    intro l
    rw [List.map_map]
    conv => rhs; rw [← List.map_id l]
    apply List.map_congr_left
    intro x _
    simp
  have := e (Utf8.encode (r : Int)).data.toList
  show (Utf8.encode (r : Int)).data.toList = (Lib.encodeRune (r : Int)).toArray.toList
  rw [← this]
  show List.map _ (Go.Extern.FmtText.nums _) = _
  rw [h]
  rfl

/-- what the library asks of the world: its tables, and the cell of a variable of its own -/
def Env (w : World) : Prop := Lib.Utf8Tabs 0 1 w ∧ ∃ m : Int, w.cell? ⟨4, 0, none⟩ = some (.int .i64 m)
theorem Env.keep {w w' : World} (h : Env w) (k : Kept w w') : Env w' := by
  obtain ⟨⟨h1, h2⟩, m, h3⟩ := h
  exact ⟨⟨fun c hc => k _ _ _ (h1 c hc), fun i hi => ⟨k _ _ _ (h2 i hi).1, k _ _ _ (h2 i hi).2⟩⟩, m, k _ _ _ h3⟩

end Go.Proofs.YtnamnldijopkfaaDoor
