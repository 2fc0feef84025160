/-
  The reader in a world; put.
-/
import Derived.Test.YtnamnldijopkfaaDoorTld
namespace Go.Proofs.YtnamnldijopkfaaDoor
open Go.ChangeShapes Go.WideShapes Go.ChangeAt Go.RowKit Go.Joins

def tvals (ts : List Tok) : List Value := ts.flatMap fun t => [.int .i64 (t.kind : Int), .string (strOfL t.text), .int .i64 (t.at_ : Int)]
theorem tvals_append (a b : List Tok) : tvals (a ++ b) = tvals a ++ tvals b := by simp [tvals]
theorem tvals_len (ts : List Tok) : (tvals ts).length = ts.length * 3 := by
  induction ts with
  | nil => rfl
  | cons t ts ih =>
    rw [show tvals (t :: ts) = [.int .i64 (t.kind : Int), .string (strOfL t.text), .int .i64 (t.at_ : Int)] ++ tvals ts from rfl, List.length_append, ih, List.length_cons]
    simp
    omega

theorem Env.keepB {w w' : World} {g : Nat} (h : Env w) (hg : 4 < g) (hb : Below g w w') : Env w' := by
  obtain ⟨⟨h1, h2⟩, m, h3⟩ := h
  have c : ∀ b o v, b ≤ 4 → w.cell? ⟨b, o, none⟩ = some v → w'.cell? ⟨b, o, none⟩ = some v := fun b o v q e => (hb.cell (p := ⟨b, o, none⟩) (show b < g by omega)).trans e
  exact ⟨⟨fun x hx => c _ _ _ (by omega) (h1 x hx), fun i hi => ⟨c _ _ _ (by omega) (h2 i hi).1, c _ _ _ (by omega) (h2 i hi).2⟩⟩, m, c _ _ _ (by omega) h3⟩

/-- a reader: its source, where it is, what it has -/
structure Rd (w : World) (g : Nat) (l : List UInt8) (k : Nat) (ts : List Tok) : Prop where
  s : w.cell? ⟨g, 0, none⟩ = some (.string (strOfL l))
  at_ : w.cell? ⟨g, 1, none⟩ = some (.int .i64 (k : Int))
  fs : w.frozen? ⟨g, 0, none⟩ = false
  fa : w.frozen? ⟨g, 1, none⟩ = false
  fo : w.frozen? ⟨g, 2, none⟩ = false
  out : ∃ a c, w.cell? ⟨g, 2, none⟩ = some (.slice a ts.length c) ∧ w.ownsRow (g + 1) 40 3 (.slice a ts.length c) ts.length (tvals ts)

theorem Rd.lt {w : World} {g : Nat} {l : List UInt8} {k : Nat} {ts : List Tok} (h : Rd w g l k ts) : g < w.heap.size := lt_of_cell h.s

theorem Rd.keep {w w' : World} {g : Nat} {l : List UInt8} {k : Nat} {ts : List Tok} (h : Rd w g l k ts) (hb : Below w.heap.size w w') : Rd w' g l k ts := by
  obtain ⟨a, c, h2, hown⟩ := h.out
  exact ⟨(keep1 hb h.s h.fs).1, (keep1 hb h.at_ h.fa).1, (keep1 hb h.s h.fs).2.1, (keep1 hb h.at_ h.fa).2.1, (keep1 hb h2 h.fo).2.1, a, c, (keep1 hb h2 h.fo).1,
    hown.kept (row := none) ⟨hb.os, hb.tape, hb.output, hb.size, fun j hj _ => hb.block j hj⟩ (by cases hv : (Value.slice a ts.length c).ownBlock <;> simp)⟩

theorem bl_weak {w w' : World} {g : Nat} (hb : Below w.heap.size w w') (hg : g ≤ w.heap.size) : Below g w w' := hb.mono hg

theorem Rd.setAt {w : World} {g : Nat} {l : List UInt8} {k : Nat} {ts : List Tok} (h : Rd w g l k ts) (k' : Nat) : Rd (w.setCell ⟨g, 1, none⟩ (.int .i64 (k' : Int))) g l k' ts ∧ Below g w (w.setCell ⟨g, 1, none⟩ (.int .i64 (k' : Int))) := by
  obtain ⟨a, c, h2, hown⟩ := h.out
  have hs := h.s
  have ha := h.at_
  have fs := h.fs
  have fa := h.fa
  have fo := h.fo
  refine ⟨⟨?_, ?_, ?_, ?_, ?_, a, c, ?_, ownsRow_setCell_below hown (show g < g + 1 by omega) _⟩, (Below.refl g w).setCell (Nat.le_refl _) _⟩
  all_goals simp [go_sem, *]

theorem heap_at {w w' : World} {g : Nat} (e : w'.heap[g]? = w.heap[g]?) (o : Nat) : w'.cell? ⟨g, o, none⟩ = w.cell? ⟨g, o, none⟩ ∧ w'.frozen? ⟨g, o, none⟩ = w.frozen? ⟨g, o, none⟩ := by
  simp only [World.cell?, World.frozen?, e, and_self]

theorem grown_heap {w w4 : World} {ob : Obj} {row : Option Nat} {g : Nat} (hg : (w.alloc ob).grownBy w4 row) (hlt : g < w.heap.size) (hne : row ≠ some g) : w4.heap[g]? = w.heap[g]? := by
  rw [hg.block g (by simp; omega) (fun e => hne e.symm), heap_alloc_old _ _ hlt]

theorem info_tok : (Tryd.prog.info? 40).map (fun i => (i.zero, i.size, i.bytes)) = some (some (.agg #[.int .i64 0, .string ⟨#[]⟩, .int .i64 0]), 3, 32) := by kernel_rfl

set_option maxHeartbeats 2000000 in
set_option maxRecDepth 100000 in
theorem put_k (l : List UInt8) (k g : Nat) (ts : List Tok) (kd : Nat) (tx : List UInt8) (at1 e1 : Nat) (w : World) (h : Rd w g l k ts) (hl : ts.length ≤ 1073741824) :
    Calls Tryd.prog 66 #[.pointer (some ⟨g, 0, none⟩), .int .i64 kd, .string (strOfL tx), .int .i64 at1, .int .i64 e1] w fun e w' => e = .returned (.tuple #[]) ∧ Rd w' g l e1 (ts ++ [⟨kd, tx, at1⟩]) ∧ Below g w w' := by
  obtain ⟨i0, hi0, hz0, hz1, hz2⟩ := info_parts info_tok
  obtain ⟨oa, oc, h2, hown⟩ := h.out
  have HOWN := Lib.hid hown
  have hlt := h.lt
  have hs := h.s
  have ha := h.at_
  have fs := h.fs
  have fa := h.fa
  have fo := h.fo
  clear hown h
  go_enter Tryd.func66, Tryd.ntmps66
  go_wp2_with (at_builtin; (refine wpList_append_lies _ rfl _ _ _ rfl (g + 1) 40 i0 _ 3 32 Tryd.underlying35 hi0 hz0 hz1 hz2 (by rfl) (by omega) (.slice oa ts.length oc) ts.length (tvals ts) (by rfl) (HOWN.out.alloc _) ⟨w.heap.size, 0, none⟩ 1 1 [.int .i64 (kd : Int), .string (strOfL tx), .int .i64 (at1 : Int)] (by rfl) (by rfl) (World.news_of_block (heap_alloc_new w _)) (by simp [Value.oneCell']) (by omega) (by unfold maxLen; omega) (by omega) (by simp; omega) (w.heap.size + 1) (by simp) ?_; intro gg cap w4 hown4 hgrow4 hat4 hlt4; have hH := grown_heap hgrow4 hlt (fun e => by have := (HOWN.out.lt g e).1; omega); have d0 := (heap_at hH 0).1.trans hs; have d1 := (heap_at hH 1).1.trans ha; have d2 := (heap_at hH 2).1.trans h2; have e0 := (heap_at hH 0).2.trans fs; have e1' := (heap_at hH 1).2.trans fa; have e2 := (heap_at hH 2).2.trans fo; have HO4 := Lib.hid hown4; have HG4 := Lib.hid hgrow4; have hg4 : g < w4.heap.size := (by have := hgrow4.size; simp at this; omega); clear hown4 hgrow4 hat4 hlt4 hH))
  have hb4 : Below g w w4 := by
    have hb0 : Below g w (w.alloc (Obj.cells #[.int .i64 (kd : Int), .string (strOfL tx), .int .i64 (at1 : Int)] 40)) := (Below.refl g w).alloc (by omega) _
    have := HG4.out
    exact ⟨this.os.trans hb0.os, this.tape.trans hb0.tape, this.output.trans hb0.output, Nat.le_trans hb0.size this.size, fun q hq => grown_heap this (by omega) (fun e => by have := (HOWN.out.lt q e).1; omega)⟩
  refine bodyPost_end (v := .tuple #[]) (by first | rfl | simp [results, Tryd.results66, go_sem]) rfl ?_
  refine ⟨rfl, ⟨?_, ?_, ?_, ?_, ?_, some ⟨gg, 0, none⟩, cap, ?_, ?_⟩, (hb4.setCell (Nat.le_refl _) _).setCell (Nat.le_refl _) _⟩
  · simp [go_sem, *]
  · simp [go_sem, *]
  · simp [go_sem, *]
  · simp [go_sem, *]
  · simp [go_sem, *]
  · simp [go_sem, *]
  · have := HO4.out
    rw [tvals_append, List.length_append, List.length_singleton]
    exact ownsRow_setCell_below (ownsRow_setCell_below this (show g < g + 1 by omega) _) (show g < g + 1 by omega) _

end Go.Proofs.YtnamnldijopkfaaDoor
