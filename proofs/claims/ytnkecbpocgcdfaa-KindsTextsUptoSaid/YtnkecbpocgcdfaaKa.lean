/-
  Tools of this seat: a law's frame; worlds that have grown, cells that stay; types as they lie in memory.
-/
import Derived.Test.YtnkecbpocgcdfaaRows
import Derived.WalkKit
import Derived.ProofKit
import Derived.OpenShut
import Derived.Lib.SmallJoins
import Derived.Lib.Hide
import Derived.Outline
import Derived.Deep.QuietTactic
import Derived.BigQuiet
import Derived.Deep.RegionHeld3
import Derived.Deep.DeepCutAuto
import Derived.Deep.Slices
namespace Go.Proofs.Ytnkecbpocgcdfaa
open Go.ChangeShapes Go.WideShapes Go.ChangeAt Go.RowKit Go.Joins

theorem Try.own : ownKnob Try.prog.godebug = none := by kernel_rfl
theorem Try.laidOut : laidOutB Try.prog = true := by kernel_rfl

section
variable {H : Type} {enc : TypeId × Value → H} {P : Program}

theorem below_trodAll (hl : laidOutB P = true) {W W' : World} (hb : Below W.heap.size W W') :
    ∀ {ts : List TypeId} {vs : List Value} {ds : List (DataW H)} {ps : List MemPlace}, (ts.all fun t => P.readableRec t && decide (t < P.types.size)) = true → (∀ x ∈ ps, x.block < W.heap.size) →
      DataW.TrodAll enc P W 0 (fun _ => true) true ts vs ds ps → DataW.TrodAll enc P W' 0 (fun b => decide (b < W.heap.size)) true ts vs ds ps
  | [], _, _, _, _, _, h => by
    obtain ⟨rfl, rfl, rfl⟩ := trodAll_nil h
    exact trodAll_mk0
  | _ :: _, _, _, _, ht, hlt, h => by
    obtain ⟨v, vs1, d, ds1, a, b, rfl, rfl, rfl, h1, h2⟩ := trodAll_cons h
    simp only [List.all_cons, Bool.and_eq_true, decide_eq_true_eq] at ht
    exact trodAll_cons_mk (Below.trod hl ht.1.1 ht.1.2 h1 hb (fun x hx => hlt x (by simp [hx]))) (below_trodAll hl hb ht.2 (fun x hx => hlt x (by simp [hx])) h2)

theorem law_post {f : Func} {s : ChangeSpec} {W W' : World} {args : Array Value} {ds : List (DataW H)} {before : List MemPlace} {tb : TypeId}
    (hl : laidOutB P = true) (hts : (f.params.toList.all fun t => P.readableRec t && decide (t < P.types.size)) = true)
    (hv : s.vars = []) (hr : f.resultTypes = #[tb]) (htb : P.underlying tb = some .bool)
    (hW : DataW.Whole enc P f.params.toList s.vars false W args.toList ds [] before)
    (hfn : s.fn H (ds ++ []) = { results := [.lit (.bool true)], args := ds })
    (hb : Below W.heap.size W W') : s.post enc P f false true false false W args (.bool true) W' := by
  have hlt : ∀ x ∈ before, x.block < W.heap.size := fun x hx => by simpa using hW.lt x hx
  obtain ⟨p, q, hA, hV, rfl, hfz, hnd⟩ := id hW
  rw [hv] at hV
  obtain ⟨_, rfl⟩ := trodVars_none hV
  simp only [List.append_nil] at hlt
  refine ⟨ds, [], p ++ [], [], p, [], hW, ?_, ?_, ?_, hb.frame _, fun h => by cases h⟩
  · rw [hfn, hr]
    exact trodAll_mk1 (shut_bool htb true)
  · rw [hfn]
    exact below_trodAll hl hb hts hlt hA
  · rw [hfn, hv]; exact rfl
end


theorem bl_refl (a : World) : Below a.heap.size a a := Below.refl _ _
theorem bl_alloc {a w : World} (h : Below a.heap.size a w) (o : Obj) : Below a.heap.size a (w.alloc o) := h.alloc h.size o
theorem bl_drew {a w : World} (h : Below a.heap.size a w) : Below a.heap.size a w.drew := h.drew
theorem bl_set {a w : World} (h : Below a.heap.size a w) {p : Addr} (hp : a.heap.size ≤ p.block) (u : Value) : Below a.heap.size a (w.setCell p u) := h.setCell hp u
theorem bl_trans {a w w1 : World} (h : Below a.heap.size a w) (k : Below w.heap.size w w1) : Below a.heap.size a w1 := h.trans (k.mono h.size)

theorem ret_bool {a b : Bool} (h : a = b) : Ending.returned (.bool a) = .returned (.bool b) := by rw [h]
theorem ret_int {k : IntKind} {a b : Int} (h : a = b) : Ending.returned (.int k a) = .returned (.int k b) := by rw [h]

theorem bl_drewN {a w : World} (h : Below a.heap.size a w) (n : Nat) : Below a.heap.size a (w.drewN n) := by
  exact ⟨h.os, h.tape, h.output, h.size, h.block⟩

theorem bcell {W w1 : World} (hb : Below W.heap.size W w1) : (∀ b o, b < W.heap.size → w1.cell? ⟨b, o, none⟩ = W.cell? ⟨b, o, none⟩) ∧ (∀ b o, b < W.heap.size → w1.frozen? ⟨b, o, none⟩ = W.frozen? ⟨b, o, none⟩) :=
  ⟨fun b o h => hb.cell (p := ⟨b, o, none⟩) h, fun b o h => hb.frozen (p := ⟨b, o, none⟩) h⟩


theorem lt_of_cell {W : World} {b o : Nat} {v : Value} (h : W.cell? ⟨b, o, none⟩ = some v) : b < W.heap.size := by
  apply Decidable.byContradiction
  intro hb
  have e : W.heap[b]? = none := by simp; omega
  simp [World.cell?, e] at h

theorem keep1 {W w1 : World} {b o : Nat} {v : Value} (hb : Below W.heap.size W w1) (h : W.cell? ⟨b, o, none⟩ = some v) (f : W.frozen? ⟨b, o, none⟩ = false) :
    w1.cell? ⟨b, o, none⟩ = some v ∧ w1.frozen? ⟨b, o, none⟩ = false ∧ b < w1.heap.size :=
  ⟨(hb.cell (p := ⟨b, o, none⟩) (lt_of_cell h)).trans h, (hb.frozen (p := ⟨b, o, none⟩) (lt_of_cell h)).trans f, Nat.lt_of_lt_of_le (lt_of_cell h) hb.size⟩

theorem keep3 {W w1 : World} {b : Nat} {x y z : Value} (hb : Below W.heap.size W w1)
    (h0 : W.cell? ⟨b, 0, none⟩ = some x) (h1 : W.cell? ⟨b, 1, none⟩ = some y) (h2 : W.cell? ⟨b, 2, none⟩ = some z)
    (f0 : W.frozen? ⟨b, 0, none⟩ = false) (f1 : W.frozen? ⟨b, 1, none⟩ = false) (f2 : W.frozen? ⟨b, 2, none⟩ = false) :
    w1.cell? ⟨b, 0, none⟩ = some x ∧ w1.cell? ⟨b, 1, none⟩ = some y ∧ w1.cell? ⟨b, 2, none⟩ = some z ∧
    w1.frozen? ⟨b, 0, none⟩ = false ∧ w1.frozen? ⟨b, 1, none⟩ = false ∧ w1.frozen? ⟨b, 2, none⟩ = false ∧ b < w1.heap.size :=
  ⟨(keep1 hb h0 f0).1, (keep1 hb h1 f1).1, (keep1 hb h2 f2).1, (keep1 hb h0 f0).2.1, (keep1 hb h1 f1).2.1, (keep1 hb h2 f2).2.1, (keep1 hb h0 f0).2.2⟩


/-- a callee that leaves the world alone, in a region that draws its order -/
theorem quiet_same {P : Program} {f : FuncId} {args : Array Value} {w : World} {n : Nat} {v : Value}
    (h : Calls P f args (w.drewN n) fun e w' => e = .returned v ∧ w.drewN n = w') : Calls P f args (w.drewN n) fun e w'' => e = .returned v ∧ ∃ m, w'' = w.drewN m :=
  h.mono fun _ _ ⟨he, hm⟩ => ⟨he, n, hm.symm⟩

theorem cell_alloc_keep {w : World} {a : Addr} {v : Value} {o : Obj} (h : w.cell? a = some v) : (w.alloc o).cell? a = some v := by
  obtain ⟨b, k, sp⟩ := a
  exact (World.cell?_alloc_lt _ _ _ (World.block_lt_of_cell? w _ h)).trans h


theorem below_keeps {w w' : World} (hb : Below w.heap.size w w') : ∀ b o v, w.cell? ⟨b, o, none⟩ = some v → w'.cell? ⟨b, o, none⟩ = some v :=
  fun b o _ h => (hb.cell (p := ⟨b, o, none⟩) (lt_of_cell h)).trans h

/-! ### types -/

/-- a type as the document has it: its kind, what is in it, the names -/
inductive Ty : Type where
  | mk : Int → List Ty → List ByteArray → Ty

def Ty.kind : Ty → Int
  | .mk k _ _ => k
def Ty.items : Ty → List Ty
  | .mk _ ts _ => ts
def Ty.names : Ty → List ByteArray
  | .mk _ _ ns => ns

/-- every cell that holds something in one world holds it in the other -/
def Kept (w w' : World) : Prop := ∀ b o v, w.cell? ⟨b, o, none⟩ = some v → w'.cell? ⟨b, o, none⟩ = some v

theorem kept_refl (w : World) : Kept w w := fun _ _ _ h => h
theorem kept_trans {a b c : World} (h : Kept a b) (g : Kept b c) : Kept a c := fun _ _ _ q => g _ _ _ (h _ _ _ q)
theorem kept_below {w w' : World} (hb : Below w.heap.size w w') : Kept w w' := below_keeps hb
theorem kept_alloc {w w' : World} (h : Kept w w') (o : Obj) : Kept w (w'.alloc o) := fun _ _ _ q => cell_alloc_keep (h _ _ _ q)

/-- the names of a slice of strings -/
structure StrRow (w : World) (v : Value) (ns : List ByteArray) : Prop where
  out : ∃ (a : Option Addr) (c : Nat), v = .slice a ns.length c ∧ ns.length ≤ c ∧ c ≤ 9223372036854775807 ∧
    (ns ≠ [] → ∃ b o, a = some ⟨b, o, none⟩ ∧ ∀ j (h : j < ns.length), w.cell? ⟨b, o + j, none⟩ = some (.string ns[j]))

theorem StrRow.keep {w w' : World} {v : Value} {ns : List ByteArray} (h : StrRow w v ns) (k : Kept w w') : StrRow w' v ns := by
  obtain ⟨a, c, h1, h2, h3, h4⟩ := h.out
  exact ⟨a, c, h1, h2, h3, fun q => by
    obtain ⟨b, o, e, g⟩ := h4 q
    exact ⟨b, o, e, fun j hj => k _ _ _ (g j hj)⟩⟩

/-- a type that lies in a world: the value of what is in it, and that of the names -/
inductive IsTy (w : World) : Ty → Value → Value → Prop where
  | mk (k : Int) (ts : List Ty) (ns : List ByteArray) (vn : Value) (a : Option Addr) (c : Nat) (I N : Nat → Value) (hk : -9223372036854775808 ≤ k ∧ k ≤ 9223372036854775807) (hn : StrRow w vn ns) (h1 : ts.length ≤ c) (h2 : c ≤ 9223372036854775807)
      (h3 : ts ≠ [] → ∃ b o, a = some ⟨b, o, none⟩ ∧ ∀ j (h : j < ts.length), w.cell? ⟨b, o + j * 3, none⟩ = some (.int .i64 (ts[j].kind)) ∧ w.cell? ⟨b, o + j * 3 + 1, none⟩ = some (I j) ∧ w.cell? ⟨b, o + j * 3 + 2, none⟩ = some (N j))
      (h4 : ∀ j (h : j < ts.length), IsTy w ts[j] (I j) (N j)) : IsTy w (.mk k ts ns) (.slice a ts.length c) vn

theorem IsTy.keep {w w' : World} (k : Kept w w') {T : Ty} {i n : Value} (h : IsTy w T i n) : IsTy w' T i n := by
  induction h with
  | mk q ts ns vn a c I N hk hn h1 h2 h3 _ ih =>
    refine .mk q ts ns vn a c I N hk (hn.keep k) h1 h2 (fun e => ?_) ih
    obtain ⟨b, o, e, g⟩ := h3 e
    exact ⟨b, o, e, fun j hj => ⟨k _ _ _ (g j hj).1, k _ _ _ (g j hj).2.1, k _ _ _ (g j hj).2.2⟩⟩

/-- the value of a type: three cells -/
def tyV (T : Ty) (i n : Value) : Value := .agg #[.int .i64 T.kind, i, n]

end Go.Proofs.Ytnkecbpocgcdfaa
