/-
  Join's contract, of contexts.
-/
import Derived.Test.YtnkecbpocgcdfaaKJone
import Derived.Test.YtnkecbpocgcdfaaKBar
import Derived.Test.YtnkecbpocgcdfaaKo
import Derived.Test.YtnkecbpocgcdfaaKq
namespace Go.Proofs.Ytnkecbpocgcdfaa
open Go.ChangeShapes Go.WideShapes Go.ChangeAt Go.RowKit Go.Joins

/-- some blocks are as they were -/
structure SameAt (P : Nat → Bool) (W v : World) : Prop where
  block : ∀ b, P b = true → v.heap[b]? = W.heap[b]?
  lt : ∀ b, P b = true → b < W.heap.size

theorem SameAt.size {P : Nat → Bool} {W v : World} (h : SameAt P W v) (b : Nat) (hb : P b = true) : b < v.heap.size := by
  have := h.lt b hb
  have e := h.block b hb
  rcases Nat.lt_or_ge b v.heap.size with c | c
  · exact c
  · rw [Array.getElem?_eq_none c, Array.getElem?_eq_getElem this] at e; cases e

theorem SameAt.get {P : Nat → Bool} {W v : World} (h : SameAt P W v) {b o : Nat} {x : Value} (q : P b = true ∧ W.cell? ⟨b, o, none⟩ = some x) : v.cell? ⟨b, o, none⟩ = some x :=
  (World.cell?_of_block (a := ⟨b, o, none⟩) (h.block b q.1)).trans q.2
theorem SameAt.getf {P : Nat → Bool} {W v : World} (h : SameAt P W v) {b o : Nat} {x : Bool} (q : P b = true ∧ W.frozen? ⟨b, o, none⟩ = x) : v.frozen? ⟨b, o, none⟩ = x :=
  (World.frozen?_of_block (a := ⟨b, o, none⟩) (h.block b q.1)).trans q.2

theorem same_refl {P : Nat → Bool} {W : World} (h : ∀ b, P b = true → b < W.heap.size) : SameAt P W W := ⟨fun _ _ => rfl, h⟩
theorem SameAt.drew {P : Nat → Bool} {W v : World} (h : SameAt P W v) : SameAt P W v.drew := ⟨h.block, h.lt⟩
theorem SameAt.below {P : Nat → Bool} {W v v' : World} (h : SameAt P W v) (hb : Below v.heap.size v v') : SameAt P W v' := ⟨fun b hp => (hb.block b (h.size b hp)).trans (h.block b hp), h.lt⟩
theorem SameAt.alloc {P : Nat → Bool} {W v : World} (h : SameAt P W v) (o : Obj) : SameAt P W (v.alloc o) := h.below (bl_alloc (bl_refl v) o)
theorem SameAt.row {P : Nat → Bool} {W v v' : World} {row : Option Nat} (h : SameAt P W v) (hg : v.grownBy v' row) (hn : ∀ b, P b = true → some b ≠ row) : SameAt P W v' := ⟨fun b hp => (hg.block b (h.size b hp) (hn b hp)).trans (h.block b hp), h.lt⟩
theorem SameAt.put {P : Nat → Bool} {W v : World} (h : SameAt P W v) {p : Addr} (hn : ∀ b, P b = true → p.block ≠ b) (u : Value) : SameAt P W (v.setCell p u) :=
  h.row (grown_set v p u) (fun b hp e => hn b hp (by simpa using e.symm))
theorem SameAt.sub {P P' : Nat → Bool} {W v : World} (h : SameAt P W v) (hs : ∀ b, P' b = true → P b = true) : SameAt P' W v := ⟨fun b hp => h.block b (hs b hp), fun b hp => h.lt b (hs b hp)⟩
theorem SameAt.trans {P : Nat → Bool} {W v u : World} (h : SameAt P W v) (k : SameAt P v u) : SameAt P W u := ⟨fun b hp => (k.block b hp).trans (h.block b hp), h.lt⟩

def CtxRel (a b : Ty) (n : Nat) (w w' wr : World) (base j : Nat) (vi vn : Value) : Prop :=
  ∃ es M, JInv w w' wr base es ((ctxIdx a b j).map (nameAt a)) vi vn M ∧ es.map (·.1) = (ctxIdx a b j).map fun k => joinF n (a.items.getD k noTy) (pairOf b (nameAt a k))

theorem CtxRel.below {a b : Ty} {n : Nat} {w w' wr wr2 : World} {base j : Nat} {vi vn : Value} (h : CtxRel a b n w w' wr base j vi vn) (hb : Below wr.heap.size wr wr2) : CtxRel a b n w w' wr2 base j vi vn := by
  obtain ⟨es, M, h1, h2⟩ := h
  exact ⟨es, M, h1.below hb, h2⟩

theorem CtxRel.skip {a b : Ty} {n : Nat} {w w' wr : World} {base j : Nat} {vi vn : Value} (h : CtxRel a b n w w' wr base j vi vn) (hs : ¬ (j < a.items.length ∧ (entryT b (nameAt a j)).isSome = true)) : CtxRel a b n w w' wr base (j + 1) vi vn := by
  have e : ctxIdx a b (j + 1) = ctxIdx a b j := by
    rw [ctxIdx_succ, if_neg (by simpa [nameAt] using hs), List.append_nil]
  unfold CtxRel
  rw [e]
  exact h

theorem joinF_ctx {a b : Ty} {n : Nat} (hc : ¬ Conf a b) (hd : ¬ Conf b a) (ha : a.kind = 11) (hb : b.kind = 11) :
    joinF (n + 1) a b = .mk 11 ((ctxIdx a b a.names.length).map fun k => joinF n (a.items.getD k noTy) (pairOf b (nameAt a k))) ((ctxIdx a b a.names.length).map (nameAt a)) := by
  show (if confB a b = true then b else if confB b a = true then a else if a.kind = b.kind ∧ (a.kind = 10 ∨ a.kind = 12) ∧ a.items.length = 1 ∧ b.items.length = 1 then _ else if a.kind = 11 ∧ b.kind = 11 then _ else _) = _
  rw [if_neg (by rw [confB_not hc]; decide), if_neg (by rw [confB_not hd]; decide), if_neg (by omega), if_pos ⟨ha, hb⟩]

theorem CtxRel.done {a b : Ty} {n : Nat} {w w' wr : World} {base : Nat} {vi vn : Value} (h : CtxRel a b n w w' wr base a.names.length vi vn) (hK : Kept w wr) (hb : Below w'.heap.size w' wr) (hj : joinF (n + 1) a b = .mk 11 ((ctxIdx a b a.names.length).map fun k => joinF n (a.items.getD k noTy) (pairOf b (nameAt a k))) ((ctxIdx a b a.names.length).map (nameAt a))) :
    JMade (joinF (n + 1) a b) w w' (.returned (.agg #[.int .i64 11, vi, vn])) wr := by
  obtain ⟨es, M, h1, h2⟩ := h
  obtain ⟨k1, k2⟩ := jinv_done h1 hK _ h2
  rw [hj]
  exact ⟨vi, vn, _, rfl, k1, k2, hb⟩

theorem CtxRel.set {a b : Ty} {n : Nat} {w w' wr : World} {base j : Nat} {vi vn : Value} (h : CtxRel a b n w w' wr base j vi vn) {p : Addr} (hp : w'.heap.size ≤ p.block) (hq : p.block < base) (u : Value) : CtxRel a b n w w' (wr.setCell p u) base j vi vn := by
  obtain ⟨es, M, h1, h2⟩ := h
  exact ⟨es, M, h1.set hp hq u, h2⟩

/-- one more: the name, then the type -/
theorem CtxRel.more {a b : Ty} {n : Nat} {w w' : World} {base j : Nat} {X : Ty} (hj : j < a.items.length) (hX : entryT b (nameAt a j) = some X) {wr : World} {es : List (Ty × Value × Value)} {vi vn : Value} {M : World} {ji jn : Value}
    (h : JInv w w' wr base (es ++ [(joinF n (a.items.getD j noTy) X, ji, jn)]) ((ctxIdx a b j).map (nameAt a) ++ [nameAt a j]) vi vn M)
    (hes : es.map (·.1) = (ctxIdx a b j).map fun k => joinF n (a.items.getD k noTy) (pairOf b (nameAt a k))) : CtxRel a b n w w' wr base (j + 1) vi vn := by
  have e : ctxIdx a b (j + 1) = ctxIdx a b j ++ [j] := by
    rw [ctxIdx_succ, if_pos]
    have : (entryT b (a.names.getD j ByteArray.empty)).isSome = true := by
      show (entryT b (nameAt a j)).isSome = true
      rw [hX]; rfl
    rw [this]
    simpa using hj
  refine ⟨es ++ [(joinF n (a.items.getD j noTy) X, ji, jn)], M, ?_, ?_⟩
  · rw [e, List.map_append]
    exact h
  · rw [e, List.map_append, List.map_append, hes]
    simp [pairOf, hX]

theorem own_lt {w : World} {base : Nat} {e : TypeId} {size n : Nat} {v : Value} {xs : List Value} (h : w.ownsRow base e size v n xs) (b : Nat) (hb : b < base ∨ w.heap.size ≤ b) : some b ≠ v.ownBlock := fun e => by
  have := h.lt b e.symm
  omega

set_option maxHeartbeats 8000000 in
set_option maxRecDepth 100000 in
theorem join_made_ctx (n : Nat) (a b : Ty) (sa : Small a) (IH : ∀ j X, j < a.items.length → entryT b (nameAt a j) = some X → JoinSpec n (a.items.getD j noTy) X) (hc : ¬ Conf a b) (hd : ¬ Conf b a) (he : a.kind = b.kind) (hk : a.kind = 11) : JoinSpec (n + 1) a b := by
  obtain ⟨i0, hi0, hz0, hz1, hz2⟩ := info_parts info_type
  obtain ⟨i1, hi1, hy0, hy1, hy2⟩ := info_parts info_str
  have HJ := Lib.hid (joinF_ctx (n := n) hc hd hk (by omega))
  have sl := sa.parts.2
  intro w ai an bi bn hA hB w' hK
  have h1 := fun v (k : Kept w' v) => conf_k a b w ai an bi bn hA hB v (kept_trans hK k)
  rw [confB_not hc] at h1
  have h2 := fun v (k : Kept w' v) => conf_k b a w bi bn ai an hB hA v (kept_trans hK k)
  rw [confB_not hd] at h2
  rw [← he] at h1 h2
  have H1 := Lib.hid h1
  have H2 := Lib.hid h2
  have HK := Lib.hid hK
  have HA := Lib.hid hA
  have HB := Lib.hid hB
  obtain ⟨xa, xc, ya, yc, rfl, rfl⟩ := hA.shape
  obtain ⟨va, vc, ua, uc, rfl, rfl⟩ := hB.shape
  have z1 : w'.heap.size < w'.heap.size + 1 + 1 := by omega
  have z2 : w'.heap.size < w'.heap.size + 1 + 1 + 1 := by omega
  clear hA hB hK h1 h2 hc hd
  have HN := Lib.hid HA.out.inv.2.1
  have HIH := Lib.hid IH
  have HL := Lib.hid sa.parts.1
  clear IH sa
  rw [← he, hk]
  have HKA := Lib.hid hk
  have HKB := Lib.hid (he.symm.trans hk)
  rw [hk] at H1 H2
  clear he hk
  go_enter Try.func11, Try.ntmps11
  go_wp2_with fail
  refine (H1.out _ (kept_alloc (kept_alloc (kept_alloc (kept_refl _) _) _) _)).mono ?_
  rintro e w2 ⟨rfl, hb⟩
  obtain ⟨c0, c1, c2, cl⟩ := keep3c (b := w'.heap.size) (x := .int .i64 11) (y := .slice xa a.items.length xc) (z := .slice ya a.names.length yc) hb (by simp [go_sem, *]) (by simp [go_sem, *]) (by simp [go_sem, *])
  obtain ⟨d0, d1, d2, dl⟩ := keep3c (b := w'.heap.size + 1) (x := .int .i64 11) (y := .slice va b.items.length vc) (z := .slice ua b.names.length uc) hb (by simp [go_sem, *]) (by simp [go_sem, *]) (by simp [go_sem, *])
  obtain ⟨r0, r1, r2, rf0, rf1, rf2, rl⟩ := keep3 (b := w'.heap.size + 1 + 1) (x := .int .i64 0) (y := .slice none 0 0) (z := .slice none 0 0) hb (by simp [go_sem, *]) (by simp [go_sem, *]) (by simp [go_sem, *]) (by simp [go_sem, *]) (by simp [go_sem, *]) (by simp [go_sem, *])
  have HK2 := Lib.hid (kept_trans (kept_alloc (kept_alloc (kept_alloc (kept_refl w') _) _) _) (kept_below hb))
  have hbx : Below w'.heap.size w' w2 := by (repeat (first | with_reducible assumption | with_reducible exact bl_refl _ | with_reducible refine bl_alloc ?_ _ | with_reducible refine bl_set ?_ (by first | (simp; done) | (simp; omega)) _ | with_reducible refine bl_drew ?_ | with_reducible refine bl_drewN ?_ _ | with_reducible refine bl_trans ?_ (by assumption)))
  clear hb
  go_wp2_with fail
  refine (H2.out _ HK2.out).mono ?_
  rintro e w3 ⟨rfl, hb⟩
  obtain ⟨c0, c1, c2, cl⟩ := keep3c hb c0 c1 c2
  obtain ⟨d0, d1, d2, dl⟩ := keep3c hb d0 d1 d2
  obtain ⟨r0, r1, r2, rf0, rf1, rf2, rl⟩ := keep3 hb r0 r1 r2 rf0 rf1 rf2
  have HK3 := Lib.hid (kept_trans HK2.out (kept_below hb))
  have hbx : Below w'.heap.size w' w3 := by (repeat (first | with_reducible assumption | with_reducible exact bl_refl _ | with_reducible refine bl_alloc ?_ _ | with_reducible refine bl_set ?_ (by first | (simp; done) | (simp; omega)) _ | with_reducible refine bl_drew ?_ | with_reducible refine bl_drewN ?_ _ | with_reducible refine bl_trans ?_ (by assumption)))
  clear hb HK2
  go_wp2_with fail
  refine (of_k 11 _).mono ?_
  rintro e w4 ⟨rfl, hb⟩
  obtain ⟨c0, c1, c2, cl⟩ := keep3c hb c0 c1 c2
  obtain ⟨d0, d1, d2, dl⟩ := keep3c hb d0 d1 d2
  obtain ⟨r0, r1, r2, rf0, rf1, rf2, rl⟩ := keep3 hb r0 r1 r2 rf0 rf1 rf2
  have HK4 := Lib.hid (kept_trans HK3.out (kept_below hb))
  have hbx : Below w'.heap.size w' w4 := by (repeat (first | with_reducible assumption | with_reducible exact bl_refl _ | with_reducible refine bl_alloc ?_ _ | with_reducible refine bl_set ?_ (by first | (simp; done) | (simp; omega)) _ | with_reducible refine bl_drew ?_ | with_reducible refine bl_drewN ?_ _ | with_reducible refine bl_trans ?_ (by assumption)))
  clear hb
  go_upto_region 14 with fail
  generalize hW : w4.alloc (Obj.cells #[.int .i64 11, .slice none 0 0, .slice none 0 0] 26) = w5
  generalize hG : w4.heap.size = g at *
  have g0 : w5.cell? ⟨g, 0, none⟩ = some (.int .i64 11) := by subst hW hG; simp [go_sem]
  have g1 : w5.cell? ⟨g, 1, none⟩ = some (.slice none 0 0) := by subst hW hG; simp [go_sem]
  have g2 : w5.cell? ⟨g, 2, none⟩ = some (.slice none 0 0) := by subst hW hG; simp [go_sem]
  have gf0 : w5.frozen? ⟨g, 0, none⟩ = false := by subst hW hG; simp [go_sem]
  have gf1 : w5.frozen? ⟨g, 1, none⟩ = false := by subst hW hG; simp [go_sem]
  have gf2 : w5.frozen? ⟨g, 2, none⟩ = false := by subst hW hG; simp [go_sem]
  have hs5 : w5.heap.size = g + 1 := by subst hW hG; simp
  have hl4 : w'.heap.size ≤ g := by omega
  replace c0 : decide (w'.heap.size < g) = true ∧ w5.cell? ⟨w'.heap.size, 0, none⟩ = some (.int .i64 11) := ⟨by simpa using cl, by rw [← hW]; exact cell_alloc_keep c0⟩
  replace c1 : decide (w'.heap.size < g) = true ∧ w5.cell? ⟨w'.heap.size, 1, none⟩ = some (.slice xa a.items.length xc) := ⟨by simpa using cl, by rw [← hW]; exact cell_alloc_keep c1⟩
  replace c2 : decide (w'.heap.size < g) = true ∧ w5.cell? ⟨w'.heap.size, 2, none⟩ = some (.slice ya a.names.length yc) := ⟨by simpa using cl, by rw [← hW]; exact cell_alloc_keep c2⟩
  replace d0 : decide (w'.heap.size + 1 < g) = true ∧ w5.cell? ⟨w'.heap.size + 1, 0, none⟩ = some (.int .i64 11) := ⟨by simpa using dl, by rw [← hW]; exact cell_alloc_keep d0⟩
  replace d1 : decide (w'.heap.size + 1 < g) = true ∧ w5.cell? ⟨w'.heap.size + 1, 1, none⟩ = some (.slice va b.items.length vc) := ⟨by simpa using dl, by rw [← hW]; exact cell_alloc_keep d1⟩
  replace d2 : decide (w'.heap.size + 1 < g) = true ∧ w5.cell? ⟨w'.heap.size + 1, 2, none⟩ = some (.slice ua b.names.length uc) := ⟨by simpa using dl, by rw [← hW]; exact cell_alloc_keep d2⟩
  have rr0 : decide (w'.heap.size + 1 + 1 < g) = true ∧ w5.cell? ⟨w'.heap.size + 1 + 1, 0, none⟩ = some (.int .i64 0) := ⟨by simpa using rl, by rw [← hW]; exact cell_alloc_keep r0⟩
  have rr1 : decide (w'.heap.size + 1 + 1 < g) = true ∧ w5.cell? ⟨w'.heap.size + 1 + 1, 1, none⟩ = some (.slice none 0 0) := ⟨by simpa using rl, by rw [← hW]; exact cell_alloc_keep r1⟩
  have rr2 : decide (w'.heap.size + 1 + 1 < g) = true ∧ w5.cell? ⟨w'.heap.size + 1 + 1, 2, none⟩ = some (.slice none 0 0) := ⟨by simpa using rl, by rw [← hW]; exact cell_alloc_keep r2⟩
  have rg0 : decide (w'.heap.size + 1 + 1 < g) = true ∧ w5.frozen? ⟨w'.heap.size + 1 + 1, 0, none⟩ = false := ⟨by simpa using rl, by subst hW hG; simp [go_sem, *]⟩
  have rg1 : decide (w'.heap.size + 1 + 1 < g) = true ∧ w5.frozen? ⟨w'.heap.size + 1 + 1, 1, none⟩ = false := ⟨by simpa using rl, by subst hW hG; simp [go_sem, *]⟩
  have rg2 : decide (w'.heap.size + 1 + 1 < g) = true ∧ w5.frozen? ⟨w'.heap.size + 1 + 1, 2, none⟩ = false := ⟨by simpa using rl, by subst hW hG; simp [go_sem, *]⟩
  have hbx : Below w'.heap.size w' w5 := by rw [← hW]; exact bl_alloc hbx _
  have hcr : CtxRel a b n w w' w5 (g + 1) 0 (.slice none 0 0) (.slice none 0 0) :=
    ⟨[], w, jinv_nil w w' w5 (g + 1) (kept_trans HK.out (kept_below hbx)) (by omega) (by omega) (fun b o v q => lt_of_cell (HK.out _ _ _ q)), rfl⟩
  clear hW hG HK3 HK4 r0 r1 r2 rf0 rf1 rf2
  have yl : a.names.length ≤ 9223372036854775807 := by omega
  have zc2 : w5.cell? ⟨w'.heap.size, 2, none⟩ = some (.slice ya a.names.length yc) := c2.2
  go_wp2_with fail
  go_loopw [76] (fun i wr => ∃ (j : Nat) (vi vn : Value), j ≤ a.names.length ∧ i = .int .i64 j ∧ CtxRel a b n w w' wr (g + 1) j vi vn ∧ SameAt (fun b => decide (b < g)) w5 wr ∧ Below w'.heap.size w' wr ∧
    wr.cell? ⟨g, 0, none⟩ = some (.int .i64 11) ∧ wr.cell? ⟨g, 1, none⟩ = some (vi) ∧ wr.cell? ⟨g, 2, none⟩ = some (vn) ∧ wr.frozen? ⟨g, 0, none⟩ = false ∧ wr.frozen? ⟨g, 1, none⟩ = false ∧ wr.frozen? ⟨g, 2, none⟩ = false) (fun i _ => a.names.length - (intOf i).toNat)
  case atStart =>
    exact ⟨0, _, _, Nat.zero_le _, rfl, hcr, same_refl (fun b hb => by simp only [decide_eq_true_eq] at hb; omega), hbx, g0, g1, g2, gf0, gf1, gf2⟩
  case round =>
    clear g0 g1 g2 gf0 gf1 gf2 hbx hcr zc2
    obtain ⟨j, vi, vn, hj, rfl, hcr, hsm, hbr, g0, g1, g2, gf0, gf1, gf2⟩ := hrel
    have kr := kept_below hbr
    by_cases hlt : j < a.names.length
    · obtain ⟨sb, so, rfl, s0⟩ := HN.out.name (kept_trans HK.out kr) j hlt
      have i0' : (0 : Int) ≤ (j : Int) := by omega
      have i1' : (j : Int) < (a.names.length : Int) := by omega
      have HCR := Lib.hid hcr
      have HSM := Lib.hid hsm
      have c0' := hsm.get c0
      have c1' := hsm.get c1
      have c2' := hsm.get c2
      have d0' := hsm.get d0
      have d1' := hsm.get d1
      have d2' := hsm.get d2
      have glt := lt_of_cell g0
      obtain ⟨es, M, hJ, hes⟩ := hcr
      obtain ⟨oi, ci, rfl, ci1, ci2⟩ := row_shape hJ.rowi
      obtain ⟨oN, cn, rfl, cn1, cn2⟩ := row_shape hJ.rown
      have HJJ := Lib.hid hJ
      have HES := Lib.hid hes
      clear hJ hes hsm
      generalize hns : (ctxIdx a b j).map (nameAt a) = ns at *
      have HNS := Lib.hid hns
      clear hns
      cases he : entryT b (a.names.getD j ByteArray.empty) with
      | none =>
        have HE := Lib.hid (entry_no HB.out _ he wr (kept_trans HK.out kr))
        rw [HKB.out] at HE
        have HSK := Lib.hid (show ¬ (j < a.items.length ∧ (entryT b (nameAt a j)).isSome = true) by rw [nameAt, he]; simp)
        clear he
        generalize a.names.getD j ByteArray.empty = nm at *
        clear kr
        go_wp2_with fail
        refine (HE.out).mono ?_
        rintro e w2 ⟨rfl, hb⟩
        obtain ⟨c0', c1', c2', cl'⟩ := keep3c hb c0' c1' c2'
        obtain ⟨g0, g1, g2, gf0, gf1, gf2, gl⟩ := keep3 hb g0 g1 g2 gf0 gf1 gf2
        have HB2 := Lib.hid hb
        have hbr : Below w'.heap.size w' w2 := by (repeat (first | with_reducible assumption | with_reducible exact bl_refl _ | with_reducible refine bl_alloc ?_ _ | with_reducible refine bl_set ?_ (by first | (simp; done) | (simp; omega)) _ | with_reducible refine bl_drew ?_ | with_reducible refine bl_drewN ?_ _ | with_reducible refine bl_trans ?_ (by assumption)))
        clear hb
        go_wp2_with fail
        go_roundw
        case rel =>
          have hb3 : Below wr.heap.size wr (w2.alloc (Obj.cells #[.int .i64 0, .slice none 0 0, .slice none 0 0] 26)) := bl_alloc HB2.out _
          have h3 := (HCR.out.below hb3).skip HSK.out
          refine ⟨j + 1, _, _, by omega, by go_num, h3, HSM.out.below hb3, bl_alloc hbr _, cell_alloc_keep g0, cell_alloc_keep g1, cell_alloc_keep g2, ?_, ?_, ?_⟩
          all_goals simp [go_sem, *]
        case measure => simp [intOf]; omega
      | some X =>
        obtain ⟨xi, xn, hX, hcall⟩ := entry_yes HB.out _ he
        have hcall := hcall wr (kept_trans HK.out kr)
        rw [HKB.out] at hcall
        have HE := Lib.hid hcall
        clear hcall
        obtain ⟨xa', xc', ya', yc', rfl, rfl⟩ := hX.shape
        by_cases hi : j < a.items.length
        · have k1 : (j : Int) < (a.items.length : Int) := by omega
          obtain ⟨pa, po, rfl, ya1, ya2, yb1, yb2, p0, p1, p2, hP⟩ := HA.out.item (kept_refl w) j hi
          have HI := Lib.hid (HIH.out j X hi he w _ _ _ _ hP hX)
          have HMORE := Lib.hid (fun wr es vi vn M ji jn => CtxRel.more (n := n) (w := w) (w' := w') (base := g + 1) (wr := wr) (es := es) (vi := vi) (vn := vn) (M := M) (ji := ji) (jn := jn) hi he)
          have hnl : ns.length ≤ j := by rw [← HNS.out, List.length_map]; exact ctxIdx_len a b j
          have hel : es.length ≤ j := by
            have := congrArg List.length HES.out
            simp only [List.length_map] at this
            rw [this]; exact ctxIdx_len a b j
          have hil := HL.out
          have p0 := kr _ _ _ (HK.out _ _ _ p0)
          have p1 := kr _ _ _ (HK.out _ _ _ p1)
          have p2 := kr _ _ _ (HK.out _ _ _ p2)
          have hpl : pa < g := by
            have h1 : a.items ≠ [] := by intro e; rw [e] at hi; simp at hi
            have := lt_of_cell (HK.out _ _ _ (show w.cell? ⟨pa, po + j * 3, none⟩ = some _ from ‹_›))
            omega
          clear he hX hP
          generalize hnm : a.names.getD j ByteArray.empty = nm at *
          have HNM := Lib.hid (show nameAt a j = nm from hnm)
          clear hnm
          generalize a.items.getD j noTy = A at *
          clear kr
          go_wp2_with fail
          refine (HE.out).mono ?_
          rintro e w2 ⟨rfl, hb⟩
          obtain ⟨c0', c1', c2', cl'⟩ := keep3c hb c0' c1' c2'
          obtain ⟨g0, g1, g2, gf0, gf1, gf2, gl⟩ := keep3 hb g0 g1 g2 gf0 gf1 gf2
          replace p0 := below_keeps hb _ _ _ p0
          replace p1 := below_keeps hb _ _ _ p1
          replace p2 := below_keeps hb _ _ _ p2
          have HB2 := Lib.hid hb
          have hbr : Below w'.heap.size w' w2 := by (repeat (first | with_reducible assumption | with_reducible exact bl_refl _ | with_reducible refine bl_alloc ?_ _ | with_reducible refine bl_set ?_ (by first | (simp; done) | (simp; omega)) _ | with_reducible refine bl_drew ?_ | with_reducible refine bl_drewN ?_ _ | with_reducible refine bl_trans ?_ (by assumption)))
          clear hb
          go_upto_region 19 with fail
          have hJ2 := HJJ.out.below HB2.out
          generalize hW : w2.alloc (Obj.cells #[.int .i64 X.kind, .slice xa' X.items.length xc', .slice ya' X.names.length yc'] 26) = W
          generalize hx8 : w2.heap.size = x8 at *
          have HSW := Lib.hid (show W.heap.size = x8 + 1 by subst hW hx8; simp)
          have HOI := Lib.hid (fun b (h : b < g + 1 ∨ b = x8) => own_lt hJ2.rowi b (by omega))
          have HON := Lib.hid (fun b (h : b < g + 1 ∨ b = x8) => own_lt hJ2.rown b (by omega))
          have HLI := Lib.hid (fun k h => (hJ2.rowi.lt k h).1)
          have HLN := Lib.hid (fun k h => (hJ2.rown.lt k h).1)
          have hbW : Below wr.heap.size wr W := by rw [← hW]; exact bl_alloc HB2.out _
          have HJW := Lib.hid (HJJ.out.below hbW)
          have hbrW : Below w'.heap.size w' W := by rw [← hW]; exact bl_alloc hbr _
          have hgW : g + 1 ≤ W.heap.size := HJW.out.lw
          have c1W : W.cell? ⟨w'.heap.size, 1, none⟩ = some (.slice (some ⟨pa, po, none⟩) a.items.length xc) := by rw [← hW]; exact cell_alloc_keep c1'
          have p0W : W.cell? ⟨pa, po + j * 3, none⟩ = some (.int .i64 A.kind) := by rw [← hW]; exact cell_alloc_keep p0
          have p1W : W.cell? ⟨pa, po + j * 3 + 1, none⟩ = some (.slice ya1 A.items.length ya2) := by rw [← hW]; exact cell_alloc_keep p1
          have p2W : W.cell? ⟨pa, po + j * 3 + 2, none⟩ = some (.slice yb1 A.names.length yb2) := by rw [← hW]; exact cell_alloc_keep p2
          have x0W : W.cell? ⟨x8, 0, none⟩ = some (.int .i64 X.kind) := by subst hW hx8; simp [go_sem]
          have x1W : W.cell? ⟨x8, 1, none⟩ = some (.slice xa' X.items.length xc') := by subst hW hx8; simp [go_sem]
          have x2W : W.cell? ⟨x8, 2, none⟩ = some (.slice ya' X.names.length yc') := by subst hW hx8; simp [go_sem]
          have g1W : W.cell? ⟨g, 1, none⟩ = some (.slice oi es.length ci) := by rw [← hW]; exact cell_alloc_keep g1
          have g2W : W.cell? ⟨g, 2, none⟩ = some (.slice oN ns.length cn) := by rw [← hW]; exact cell_alloc_keep g2
          have g0W : W.cell? ⟨g, 0, none⟩ = some (.int .i64 11) := by rw [← hW]; exact cell_alloc_keep g0
          have gf0W : W.frozen? ⟨g, 0, none⟩ = false := by subst hW; simp [go_sem, *]
          have gf1W : W.frozen? ⟨g, 1, none⟩ = false := by subst hW; simp [go_sem, *]
          have gf2W : W.frozen? ⟨g, 2, none⟩ = false := by subst hW; simp [go_sem, *]
          have c1S : decide (w'.heap.size < g ∨ w'.heap.size = x8) = true ∧ W.cell? ⟨w'.heap.size, 1, none⟩ = some (.slice (some ⟨pa, po, none⟩) a.items.length xc) := ⟨by simp only [decide_eq_true_eq]; omega, c1W⟩
          have p0S : decide (pa < g ∨ pa = x8) = true ∧ W.cell? ⟨pa, po + j * 3, none⟩ = some (.int .i64 A.kind) := ⟨by simp only [decide_eq_true_eq]; omega, p0W⟩
          have p1S : decide (pa < g ∨ pa = x8) = true ∧ W.cell? ⟨pa, po + j * 3 + 1, none⟩ = some (.slice ya1 A.items.length ya2) := ⟨by simp only [decide_eq_true_eq]; omega, p1W⟩
          have p2S : decide (pa < g ∨ pa = x8) = true ∧ W.cell? ⟨pa, po + j * 3 + 2, none⟩ = some (.slice yb1 A.names.length yb2) := ⟨by simp only [decide_eq_true_eq]; omega, p2W⟩
          have x0S : decide (x8 < g ∨ x8 = x8) = true ∧ W.cell? ⟨x8, 0, none⟩ = some (.int .i64 X.kind) := ⟨by simp, x0W⟩
          have x1S : decide (x8 < g ∨ x8 = x8) = true ∧ W.cell? ⟨x8, 1, none⟩ = some (.slice xa' X.items.length xc') := ⟨by simp, x1W⟩
          have x2S : decide (x8 < g ∨ x8 = x8) = true ∧ W.cell? ⟨x8, 2, none⟩ = some (.slice ya' X.names.length yc') := ⟨by simp, x2W⟩
          have g0T : decide (g < g + 1 ∨ g = x8) = true ∧ W.cell? ⟨g, 0, none⟩ = some (.int .i64 11) := ⟨by simp only [decide_eq_true_eq]; omega, g0W⟩
          have gf0T : decide (g < g + 1 ∨ g = x8) = true ∧ W.frozen? ⟨g, 0, none⟩ = false := ⟨by simp only [decide_eq_true_eq]; omega, gf0W⟩
          have g1T : decide (g < g + 1 ∨ g = x8) = true ∧ W.cell? ⟨g, 1, none⟩ = some (.slice oi es.length ci) := ⟨by simp only [decide_eq_true_eq]; omega, g1W⟩
          have gf1T : decide (g < g + 1 ∨ g = x8) = true ∧ W.frozen? ⟨g, 1, none⟩ = false := ⟨by simp only [decide_eq_true_eq]; omega, gf1W⟩
          have g2T : decide (g < g + 1 ∨ g = x8) = true ∧ W.cell? ⟨g, 2, none⟩ = some (.slice oN ns.length cn) := ⟨by simp only [decide_eq_true_eq]; omega, g2W⟩
          have gf2T : decide (g < g + 1 ∨ g = x8) = true ∧ W.frozen? ⟨g, 2, none⟩ = false := ⟨by simp only [decide_eq_true_eq]; omega, gf2W⟩
          have HTS := Lib.hid (fun (v : World) (h : SameAt (fun b => decide (b < g + 1 ∨ b = x8)) W v ∧ Below w'.heap.size w' v) => (show SameAt (fun b => decide (b < g ∨ b = x8)) W v ∧ Below w'.heap.size w' v from ⟨h.1.sub (fun b hb => by simp only [decide_eq_true_eq] at *; omega), h.2⟩))
          clear hJ2 c0' c1' c2' cl' g0 g1 g2 gf0 gf1 gf2 p0 p1 p2 c1W p0W p1W p2W x0W x1W x2W g0W g1W g2W gf0W gf1W gf2W hbr hW d0' d1' d2'
          have hbb := same_refl (P := fun b => decide (b < g + 1 ∨ b = x8)) (W := W) (fun b hb => by simp only [decide_eq_true_eq] at hb; have := HSW.out; omega)
          refine runB_begin (S := (fun v => SameAt (fun b => decide (b < g ∨ b = x8)) W v ∧ Below w'.heap.size w' v)) (T := (fun v => SameAt (fun b => decide (b < g + 1 ∨ b = x8)) W v ∧ Below w'.heap.size w' v)) 17 (by kernel_rfl) ?_ (fun hHeld => ?_); (· exact ⟨hbb.drew, bl_drew hbrW⟩)
          clear hbb
          (refine runB_takeS (i := 0) (oi := ?oi1) (v := ?v1) HTS.out (by decide) ?h1 (by kernel_rfl) (by kernel_rfl) (by kernel_rfl) ?hQ1 ?hy1 hHeld ?_; (case h1 => (simp only [List.getElem?_toArray, List.getElem?_cons_zero]; exact rfl)); (case hQ1 => exact fun _ _ _ h => h); (case hy1 => (refine Or.inl ⟨by rfl, ?_⟩; intro w hSw; (try dsimp only at hSw); obtain ⟨hk1, hb1⟩ := hSw; skip; go_simp; try (first | with_reducible rfl | rfl))); try simp only [Act.put, List.setIfInBounds_toArray, List.set_cons_zero, List.set_cons_succ])
          (refine runB_takeT (i := 1) (oi := ?oi2) (v := ?v2) (by decide) (by kernel_rfl) ?h2 (by kernel_rfl) (by kernel_rfl) (by kernel_rfl) ?hQ2 ?hy2 hHeld ?_; (case h2 => (simp only [List.getElem?_toArray, List.getElem?_cons_succ, List.getElem?_cons_zero]; exact rfl)); (case hQ2 => exact fun _ _ _ h => h); (case hy2 => (refine Or.inl ⟨by rfl, ?_⟩; intro w hSw; (try dsimp only at hSw); obtain ⟨hk1, hb1⟩ := hSw; skip; have g2T := hk1.get g2T; go_simp; try (first | with_reducible rfl | rfl))); try simp only [Act.put, List.setIfInBounds_toArray, List.set_cons_zero, List.set_cons_succ])
          (refine runB_takeS (i := 2) (oi := ?oi3) (v := ?v3) HTS.out (by decide) ?h3 (by kernel_rfl) (by kernel_rfl) (by kernel_rfl) ?hQ3 ?hy3 hHeld ?_; (case h3 => (simp only [List.getElem?_toArray, List.getElem?_cons_succ, List.getElem?_cons_zero]; exact rfl)); (case hQ3 => exact fun _ _ _ h => h); (case hy3 => (refine Or.inl ⟨by rfl, ?_⟩; intro w hSw; (try dsimp only at hSw); obtain ⟨hk1, hb1⟩ := hSw; skip; go_simp; try (first | with_reducible rfl | rfl))); try simp only [Act.put, List.setIfInBounds_toArray, List.set_cons_zero, List.set_cons_succ]); (refine runB_takeS (i := 5) (oi := ?oi4) (v := ?v4) HTS.out (by decide) ?h4 (by kernel_rfl) (by kernel_rfl) (by kernel_rfl) ?hQ4 ?hy4 hHeld ?_; (case h4 => (simp only [List.getElem?_toArray, List.getElem?_cons_succ, List.getElem?_cons_zero]; exact rfl)); (case hQ4 => exact fun _ _ _ h => h); (case hy4 => (refine Or.inl ⟨by rfl, ?_⟩; intro w hSw; (try dsimp only at hSw); obtain ⟨hk1, hb1⟩ := hSw; skip; go_simp; try (first | with_reducible rfl | rfl))); try simp only [Act.put, List.setIfInBounds_toArray, List.set_cons_zero, List.set_cons_succ])
          (refine runB_takeT (i := 6) (oi := ?oi5) (v := ?v5) (by decide) (by kernel_rfl) ?h5 (by kernel_rfl) (by kernel_rfl) (by kernel_rfl) ?hQ5 ?hy5 hHeld ?_; (case h5 => (simp only [List.getElem?_toArray, List.getElem?_cons_succ, List.getElem?_cons_zero]; exact rfl)); (case hQ5 => exact fun _ _ _ h => h); (case hy5 => (refine Or.inl ⟨by rfl, ?_⟩; intro w hSw; (try dsimp only at hSw); obtain ⟨hk1, hb1⟩ := hSw; skip; have g1T := hk1.get g1T; go_simp; try (first | with_reducible rfl | rfl))); try simp only [Act.put, List.setIfInBounds_toArray, List.set_cons_zero, List.set_cons_succ])
          (refine runB_takeS (i := 7) (oi := ?oi6) (v := ?v6) HTS.out (by decide) ?h6 (by kernel_rfl) (by kernel_rfl) (by kernel_rfl) ?hQ6 ?hy6 hHeld ?_; (case h6 => (simp only [List.getElem?_toArray, List.getElem?_cons_succ, List.getElem?_cons_zero]; exact rfl)); (case hQ6 => exact fun _ _ _ h => h); (case hy6 => (refine Or.inl ⟨by rfl, ?_⟩; intro w hSw; (try dsimp only at hSw); obtain ⟨hk1, hb1⟩ := hSw; skip; have c1S := hk1.get c1S; go_simp; try (first | with_reducible rfl | rfl))); try simp only [Act.put, List.setIfInBounds_toArray, List.set_cons_zero, List.set_cons_succ]); (refine runB_takeS (i := 8) (oi := ?oi7) (v := ?v7) HTS.out (by decide) ?h7 (by kernel_rfl) (by kernel_rfl) (by kernel_rfl) ?hQ7 ?hy7 hHeld ?_; (case h7 => (simp only [List.getElem?_toArray, List.getElem?_cons_succ, List.getElem?_cons_zero]; exact rfl)); (case hQ7 => exact fun _ _ _ h => h); (case hy7 => (refine Or.inl ⟨by rfl, ?_⟩; intro w hSw; (try dsimp only at hSw); obtain ⟨hk1, hb1⟩ := hSw; skip; have c1S := hk1.get c1S; go_simp; try (first | with_reducible rfl | rfl))); try simp only [Act.put, List.setIfInBounds_toArray, List.set_cons_zero, List.set_cons_succ])
          (refine runB_takeS (i := 9) (oi := ?oi8) (v := ?v8) HTS.out (by decide) ?h8 (by kernel_rfl) (by kernel_rfl) (by kernel_rfl) ?hQ8 ?hy8 hHeld ?_; (case h8 => (simp only [List.getElem?_toArray, List.getElem?_cons_succ, List.getElem?_cons_zero]; exact rfl)); (case hQ8 => exact fun _ _ _ h => h); (case hy8 => (refine Or.inl ⟨by rfl, ?_⟩; intro w hSw; (try dsimp only at hSw); obtain ⟨hk1, hb1⟩ := hSw; skip; go_simp; try (first | with_reducible rfl | rfl))); try simp only [Act.put, List.setIfInBounds_toArray, List.set_cons_zero, List.set_cons_succ]); (refine runB_takeS (i := 10) (oi := ?oi9) (v := ?v9) HTS.out (by decide) ?h9 (by kernel_rfl) (by kernel_rfl) (by kernel_rfl) ?hQ9 ?hy9 hHeld ?_; (case h9 => (simp only [List.getElem?_toArray, List.getElem?_cons_succ, List.getElem?_cons_zero]; exact rfl)); (case hQ9 => exact fun _ _ _ h => h); (case hy9 => (refine Or.inl ⟨by rfl, ?_⟩; intro w hSw; (try dsimp only at hSw); obtain ⟨hk1, hb1⟩ := hSw; skip; go_simp; try (first | with_reducible rfl | rfl))); try simp only [Act.put, List.setIfInBounds_toArray, List.set_cons_zero, List.set_cons_succ])
          (refine runB_takeS (i := 11) (oi := ?oi10) (v := ?v10) HTS.out (by decide) ?h10 (by kernel_rfl) (by kernel_rfl) (by kernel_rfl) ?hQ10 ?hy10 hHeld ?_; (case h10 => (simp only [List.getElem?_toArray, List.getElem?_cons_succ, List.getElem?_cons_zero]; exact rfl)); (case hQ10 => exact fun _ _ _ h => h); (case hy10 => (refine Or.inl ⟨by rfl, ?_⟩; intro w hSw; (try dsimp only at hSw); obtain ⟨hk1, hb1⟩ := hSw; skip; have p0S := hk1.get p0S; have p1S := hk1.get p1S; have p2S := hk1.get p2S; go_simp; try (first | with_reducible rfl | rfl))); try simp only [Act.put, List.setIfInBounds_toArray, List.set_cons_zero, List.set_cons_succ])
          (refine runB_takeS (i := 12) (oi := ?oi11) (v := ?v11) HTS.out (by decide) ?h11 (by kernel_rfl) (by kernel_rfl) (by kernel_rfl) ?hQ11 ?hy11 hHeld ?_; (case h11 => (simp only [List.getElem?_toArray, List.getElem?_cons_succ, List.getElem?_cons_zero]; exact rfl)); (case hQ11 => exact fun _ _ _ h => h); (case hy11 => (refine Or.inl ⟨by rfl, ?_⟩; intro w hSw; (try dsimp only at hSw); obtain ⟨hk1, hb1⟩ := hSw; skip; have x0S := hk1.get x0S; have x1S := hk1.get x1S; have x2S := hk1.get x2S; go_simp; try (first | with_reducible rfl | rfl))); try simp only [Act.put, List.setIfInBounds_toArray, List.set_cons_zero, List.set_cons_succ])
          refine runB_one (i := 3) (o := ?oi12) (by kernel_rfl) (by decide) ?h12 (fun K hK => ?_); (case h12 => (simp only [List.getElem?_toArray, List.getElem?_cons_succ, List.getElem?_cons_zero]; exact rfl)); go_simp; skip; refine hK.out _ _ ?_ (fun hNew => ?_); (· exact ⟨hHeld.1.alloc _, bl_alloc hHeld.2 _⟩); clear hK K hHeld; revert hNew; intro hHeld; try simp only [Act.put, List.setIfInBounds_toArray, List.set_cons_zero, List.set_cons_succ]
          have hbd : Below W.heap.size W (W.alloc (Obj.cells #[.string nm] 9)).drew := bl_drew (bl_alloc (bl_refl W) _)
          have HJD := Lib.hid (HJW.out.below hbd)
          refine runB_one (i := 4) (o := ?oi13) (by kernel_rfl) (by decide) ?h13 (fun K hK => ?_); (case h13 => (simp only [List.getElem?_toArray, List.getElem?_cons_succ, List.getElem?_cons_zero]; exact rfl))
          refine step_append_lies _ (by rfl) _ _ _ (by rfl) (g + 1) 9 i1 _ 1 16 Try.underlying24 hi1 hy0 hy1 hy2 (by rfl) (by omega) (.slice oN ns.length cn) ns.length (ns.map .string) (by rfl) HJD.out.rown ⟨W.heap.size, 0, none⟩ 1 1 [.string nm] (by rfl) (by rfl) (World.news_of_block (heap_alloc_new W _)) (by simp [Value.oneCell']) (by omega) (by unfold maxLen; omega) (by omega) (by simp; omega) (W.heap.size + 1) (by simp) ?_
          intro g4 cap4 w4 hown4 hgrow4 hat4 hlt4
          have HJ4 := Lib.hid (HJD.out.name nm g4 cap4 hown4 hgrow4 (hat4.imp id (fun e => by simpa using e)))
          refine hK.out _ _ ⟨hHeld.1.row hgrow4 (fun b hb => HON.out b (by simpa only [decide_eq_true_eq] using hb)), hHeld.2.grown hgrow4 hHeld.2.size (fun k h => by have := HLN.out k h; omega)⟩ (fun hNew => ?_)
          clear hK K hHeld hbd hown4 hgrow4 hat4 hlt4
          revert hNew
          intro hHeld
          (try simp only [Act.put, List.setIfInBounds_toArray, List.set_cons_zero, List.set_cons_succ])
          (refine runB_takeS (i := 16) (oi := ?oi14) (v := ?v14) HTS.out (by decide) ?h14 (by kernel_rfl) (by kernel_rfl) (by kernel_rfl) ?hQ14 ?hy14 hHeld ?_; (case h14 => (simp only [List.getElem?_toArray, List.getElem?_cons_succ, List.getElem?_cons_zero]; exact rfl)); (case hQ14 => exact fun _ _ _ h => h); (case hy14 => (refine Or.inl ⟨by rfl, ?_⟩; intro w hSw; (try dsimp only at hSw); obtain ⟨hk1, hb1⟩ := hSw; skip; go_simp; try (first | with_reducible rfl | rfl))); try simp only [Act.put, List.setIfInBounds_toArray, List.set_cons_zero, List.set_cons_succ])
          refine runB_one (i := 13) (o := ?oi15) (by kernel_rfl) (by decide) ?h15 (fun K hK => ?_); (case h15 => (simp only [List.getElem?_toArray, List.getElem?_cons_succ, List.getElem?_cons_zero]; exact rfl)); go_simp; (refine (HI.out _ (kept_trans HJ4.out.km HJ4.out.kr)).mono ?_; rintro e v13 ⟨ji, jn, Mc, rfl, hM, hmade, hb⟩; have HB13 := Lib.hid hb; have HM13 := Lib.hid hmade; have HT13 := Lib.hid hM; obtain ⟨oa, oc, ta, tc, rfl, rfl⟩ := hM.shape); refine hK.out _ _ ?_ (fun hNew => ?_); (· exact ⟨hHeld.1.below hb, bl_trans hHeld.2 hb⟩); clear hK K hHeld; revert hNew; intro hHeld; try simp only [Act.put, List.setIfInBounds_toArray, List.set_cons_zero, List.set_cons_succ]
          clear hM hmade hb
          have HJ13 := Lib.hid (HJ4.out.made HB13.out HM13.out)
          generalize joinF n A X = C at *
          refine runB_one (i := 14) (o := ?oi16) (by kernel_rfl) (by decide) ?h16 (fun K hK => ?_); (case h16 => (simp only [List.getElem?_toArray, List.getElem?_cons_succ, List.getElem?_cons_zero]; exact rfl)); go_simp; skip; refine hK.out _ _ ?_ (fun hNew => ?_); (· exact ⟨hHeld.1.alloc _, bl_alloc hHeld.2 _⟩); clear hK K hHeld; revert hNew; intro hHeld; try simp only [Act.put, List.setIfInBounds_toArray, List.set_cons_zero, List.set_cons_succ]
          have hbd : Below v13.heap.size v13 (v13.alloc (Obj.cells #[.int .i64 C.kind, .slice oa C.items.length oc, .slice ta C.names.length tc] 26)) := bl_alloc (bl_refl v13) _
          have HJE := Lib.hid (HJ13.out.1.below hbd)
          refine runB_one (i := 15) (o := ?oi17) (by kernel_rfl) (by decide) ?h17 (fun K hK => ?_); (case h17 => (simp only [List.getElem?_toArray, List.getElem?_cons_succ, List.getElem?_cons_zero]; exact rfl))
          refine step_append_lies _ (by rfl) _ _ _ (by rfl) (g + 1) 26 i0 _ 3 56 Try.underlying23 hi0 hz0 hz1 hz2 (by rfl) (by omega) (.slice oi es.length ci) es.length (rowOf es) (by rfl) HJE.out.rowi ⟨v13.heap.size, 0, none⟩ 1 1 [.int .i64 C.kind, .slice oa C.items.length oc, .slice ta C.names.length tc] (by rfl) (by rfl) (World.news_of_block (heap_alloc_new v13 _)) (by simp [Value.oneCell']) (by omega) (by unfold maxLen; omega) (by omega) (by have := HJE.out.lw; omega) (v13.heap.size + 1) (by simp) ?_
          intro g15 cap15 w15 hown15 hgrow15 hat15 hlt15
          have HJF15 := Lib.hid (HJE.out.item (C, .slice oa C.items.length oc, .slice ta C.names.length tc) (HT13.out.keep HJ13.out.2) g15 cap15 hown15 hgrow15 (hat15.imp id (fun e => by simpa using e)))
          refine hK.out _ _ ⟨hHeld.1.row hgrow15 (fun b hb => HOI.out b (by simpa only [decide_eq_true_eq] using hb)), hHeld.2.grown hgrow15 hHeld.2.size (fun k h => by have := HLI.out k h; omega)⟩ (fun hNew => ?_)
          clear hK K hHeld hbd hown15 hgrow15 hat15 hlt15
          revert hNew
          intro hHeld
          (try simp only [Act.put, List.setIfInBounds_toArray, List.set_cons_zero, List.set_cons_succ])
          have z0 := hHeld.1.get g0T
          have z1' := hHeld.1.get g1T
          have z2' := hHeld.1.get g2T
          have zf0 := hHeld.1.getf gf0T
          have zf1 := hHeld.1.getf gf1T
          have zf2 := hHeld.1.getf gf2T
          have zl := lt_of_cell z0
          have HG := Lib.hid (fun (b : Nat) (hb : decide (b < g ∨ b = x8) = true) => (show g ≠ b by simp only [decide_eq_true_eq] at hb; omega))
          refine runB_last (o := ?oi18) (by kernel_rfl) ?h18 (fun K hK => ?_); (case h18 => (simp only [List.getElem?_toArray, List.getElem?_cons_succ, List.getElem?_cons_zero]; exact rfl)); go_simp; skip; refine hK.out _ _ ?_ (fun hNew => ?_); (· (have hS := HTS.out _ hHeld; exact ⟨hS.1.put HG.out _, bl_set hS.2 (by simp; omega) _⟩)); clear hK K hHeld; revert hNew; intro hHeld; try simp only [Act.put, List.setIfInBounds_toArray, List.set_cons_zero, List.set_cons_succ]
          refine wpAnyH_take (i := 18) (oi := ?oi19) (v := ?v19) ?h19 (by kernel_rfl) (by kernel_rfl) (by kernel_rfl) ?hQ19 ?hy19 (by first | exact hHeld | assumption) ?_; (case h19 => (simp only [List.getElem?_toArray, List.getElem?_cons_succ, List.getElem?_cons_zero]; exact rfl)); (case hQ19 => exact fun _ _ _ h => h); (case hy19 => (refine Or.inl ⟨by rfl, ?_⟩; intro w hSw; (try dsimp only at hSw); go_simp; try (first | with_reducible rfl | rfl))); try simp only [Act.put, List.setIfInBounds_toArray, List.set_cons_zero, List.set_cons_succ]
          refine wpAnyH_ready (rs := [19]) (by kernel_rfl) (by simp) ?_; refine AllReadyH.cons (o := ?oi20) ?h20 (fun K hK => ?_) AllReadyH.nil; (case h20 => (simp only [List.getElem?_toArray, List.getElem?_cons_succ, List.getElem?_cons_zero]; exact rfl)); go_simp; skip; refine hK.out _ _ ?_ (fun hNew => ?_); (· exact ⟨hHeld.1.put HG.out _, bl_set hHeld.2 (by simp; omega) _⟩); clear hK K hHeld; revert hNew; intro hHeld; try simp only [Act.put, List.setIfInBounds_toArray, List.set_cons_zero, List.set_cons_succ]
          refine wpAnyH_done (by kernel_rfl) ?_ _
          go_wp2_with fail
          go_roundw
          case rel =>
            refine ⟨j + 1, .slice (some ⟨g15, 0, none⟩) (es.length + 1) cap15, .slice (some ⟨g4, 0, none⟩) (ns.length + 1) cap4, by omega, by go_num, ?_, ?_, hHeld.2, ?_, ?_, ?_, ?_, ?_, ?_⟩
            · refine HMORE.out _ es _ _ (mix M w4.heap.size Mc) (.slice oa C.items.length oc) (.slice ta C.names.length tc) ?_ HES.out
              rw [HNS.out, HNM.out]
              exact (HJF15.out.set (p := ⟨g, 2, none⟩) (by simp; omega) (by simp) _).set (p := ⟨g, 1, none⟩) (by simp; omega) (by simp) _
            · exact (HSM.out.below hbW).trans ⟨fun b hb => hHeld.1.block b (by simp only [decide_eq_true_eq] at *; omega), fun b hb => by have := HSW.out; simp only [decide_eq_true_eq] at hb; omega⟩
            all_goals simp [go_sem, *]
          case measure => simp [intOf]; omega
        · have HSK := Lib.hid (show ¬ (j < a.items.length ∧ (entryT b (nameAt a j)).isSome = true) from fun h => hi h.1)
          have k1 : ¬ (j : Int) < (a.items.length : Int) := by omega
          have k2 : (a.items.length : Int) ≤ (j : Int) := by omega
          have k3 : a.items.length ≤ j := by omega
          clear he hX
          generalize a.names.getD j ByteArray.empty = nm at *
          clear kr
          go_wp2_with fail
          refine (HE.out).mono ?_
          rintro e w2 ⟨rfl, hb⟩
          obtain ⟨c0', c1', c2', cl'⟩ := keep3c hb c0' c1' c2'
          obtain ⟨g0, g1, g2, gf0, gf1, gf2, gl⟩ := keep3 hb g0 g1 g2 gf0 gf1 gf2
          have HB2 := Lib.hid hb
          have hbr : Below w'.heap.size w' w2 := by (repeat (first | with_reducible assumption | with_reducible exact bl_refl _ | with_reducible refine bl_alloc ?_ _ | with_reducible refine bl_set ?_ (by first | (simp; done) | (simp; omega)) _ | with_reducible refine bl_drew ?_ | with_reducible refine bl_drewN ?_ _ | with_reducible refine bl_trans ?_ (by assumption)))
          clear hb
          go_wp2_with fail
          go_roundw
          case rel =>
            have hb3 : Below wr.heap.size wr (w2.alloc (Obj.cells #[.int .i64 X.kind, .slice xa' X.items.length xc', .slice ya' X.names.length yc'] 26)) := bl_alloc HB2.out _
            have h3 := (HCR.out.below hb3).skip HSK.out
            refine ⟨j + 1, _, _, by omega, by go_num, h3, HSM.out.below hb3, bl_alloc hbr _, cell_alloc_keep g0, cell_alloc_keep g1, cell_alloc_keep g2, ?_, ?_, ?_⟩
            all_goals simp [go_sem, *]
          case measure => simp [intOf]; omega
    · have hje : j = a.names.length := by omega
      subst hje
      have r0 := hsm.get rr0
      have r1 := hsm.get rr1
      have r2 := hsm.get rr2
      have rf0 := hsm.getf rg0
      have rf1 := hsm.getf rg1
      have rf2 := hsm.getf rg2
      have HCR := Lib.hid hcr
      obtain ⟨es, M, hJ, hes⟩ := hcr
      obtain ⟨oi, ci, rfl, ci1, ci2⟩ := row_shape hJ.rowi
      obtain ⟨oN, cn, rfl, cn1, cn2⟩ := row_shape hJ.rown
      clear hJ hes hsm kr
      go_wp2_with fail
      refine bodyPost_ret (v := .agg #[.int .i64 11, .slice oi es.length ci, .slice oN ((ctxIdx a b a.names.length).map (nameAt a)).length cn]) (by simp [results, Try.results11, go_sem, *]) rfl ?_
      have hbz : Below w'.heap.size w' (((wr.setCell ⟨w'.heap.size + 1 + 1, 0, none⟩ (.int .i64 11)).setCell ⟨w'.heap.size + 1 + 1, 1, none⟩ (.slice oi es.length ci)).setCell ⟨w'.heap.size + 1 + 1, 2, none⟩ (.slice oN ((ctxIdx a b a.names.length).map (nameAt a)).length cn)) := by (repeat (first | with_reducible assumption | with_reducible exact bl_refl _ | with_reducible refine bl_alloc ?_ _ | with_reducible refine bl_set ?_ (by first | (simp; done) | (simp; omega)) _ | with_reducible refine bl_drew ?_ | with_reducible refine bl_drewN ?_ _ | with_reducible refine bl_trans ?_ (by assumption)))
      have hcz := ((HCR.out.set (p := ⟨w'.heap.size + 1 + 1, 0, none⟩) (by simp; omega) (by simp; omega) (.int .i64 11)).set (p := ⟨w'.heap.size + 1 + 1, 1, none⟩) (by simp; omega) (by simp; omega) (.slice oi es.length ci)).set (p := ⟨w'.heap.size + 1 + 1, 2, none⟩) (by simp; omega) (by simp; omega) (.slice oN ((ctxIdx a b a.names.length).map (nameAt a)).length cn)
      have hfin := hcz.done (kept_of_below HK.out hbz) hbz HJ.out
      simp only [List.length_map] at hfin ⊢
      exact hfin

/-- what kinds.Join makes of two types with no long list -/
theorem join_all : ∀ (n : Nat) (a b : Ty), a.sz + b.sz ≤ n → Small a → Small b → JoinSpec n a b := by
  intro n
  induction n with
  | zero => intro a b h; have := sz_pos a; omega
  | succ n ih =>
    intro a b h sa sb
    by_cases hc : Conf a b
    · exact join_made_right n a b hc
    · by_cases hd : Conf b a
      · exact join_left n a b hc hd
      · by_cases he : a.kind = b.kind
        · by_cases hk : a.kind = 11
          · refine join_made_ctx n a b sa (fun j X hj hX => ?_) hc hd he hk
            obtain ⟨q, hq, _, rfl⟩ := entry_some hX
            have s1 := sz_getD a j hj
            have s2 := sz_item b q hq
            have := sb.item q
            rw [getD_at hq] at this
            exact ih _ _ (by omega) (sa.item j) this
          · by_cases hl : a.items.length = 1 ∧ b.items.length = 1
            · have s1 := sz_getD a 0 (by omega)
              have s2 := sz_getD b 0 (by omega)
              by_cases h10 : a.kind = 10
              · exact join_made_listOf n a b (ih _ _ (by omega) (sa.item 0) (sb.item 0)) hc hd he h10 hl.1 hl.2
              · by_cases h12 : a.kind = 12
                · exact join_made_rangeOf n a b (ih _ _ (by omega) (sa.item 0) (sb.item 0)) hc hd he h12 hl.1 hl.2
                · exact join_made_any2 n a b hc hd he hk (.inr ⟨h10, h12⟩)
            · exact join_made_any2 n a b hc hd he hk (.inl (by omega))
        · exact join_made_any n a b hc hd he

end Go.Proofs.Ytnkecbpocgcdfaa
