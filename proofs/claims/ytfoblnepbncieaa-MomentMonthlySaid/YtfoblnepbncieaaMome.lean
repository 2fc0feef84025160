/-
  The contract of moment.MonthsBetween at moments of one offset; the stage's examples.
-/
import Derived.Test.YtfoblnepbncieaaMomd
namespace Go.Proofs.Ytfoblnepbncieaa
open Go.ChangeShapes Go.WideShapes Go.ChangeAt Go.RowKit

theorem lt_grow {w w' : World} (hb : Below w.heap.size w w') : ∀ n, n < w.heap.size → n < w'.heap.size := fun _ h => Nat.lt_of_lt_of_le h hb.size

def lag (d s f t : Int) : Int := if f < d ∨ f = d ∧ t < s then 1 else 0
def mkB (y m d s v u f t : Int) : Int := 12 * (v - y) + u - m - lag d s f t

theorem of_ins (v u f t : Int) (z : Bool) (o : Int) (g : mayM v u f t z o = true) (s : Int) (hc : mayC s z o = true) (w : World) :
    Calls Try.prog 52 #[.int .i64 (ins v u f t o), .agg #[.int .i64 s, .bool z, .int .i64 o]] w fun e w' => e = .returned (.tuple #[.agg #[.int .i64 v, .int .i64 u, .int .i64 f, .int .i64 t, .bool z, .int .i64 o], .bool true]) ∧ Below w.heap.size w w' := by
  obtain ⟨g1, g2⟩ := (mayM_iff v u f t z o).1 g
  obtain ⟨t1, t2, o1, o2, _⟩ := (mayC_iff t z o).1 g2
  obtain ⟨i1, i2⟩ := ins_in v u f t z o g
  have e1 : (ins v u f t o + o) / 86400 = Civ.num v u f := by unfold ins; omega
  have e2 : (ins v u f t o + o) % 86400 = t := by unfold ins; omega
  obtain ⟨q1, q2, q3⟩ := of_of_num v u f g1
  have := moment_of_yes (ins v u f t o) s z o (by omega) (by omega) hc true (by rw [e1]; exact numB_num v u f g1) w
  rw [if_pos rfl, e1, e2, q1, q2, q3] at this
  exact this

set_option maxRecDepth 100000 in
set_option maxHeartbeats 2000000 in
theorem moment_mb_up (y m d s : Int) (z : Bool) (o v u f t : Int) (h : mayM y m d s z o = true) (g : mayM v u f t z o = true) (hle : ins y m d s o ≤ ins v u f t o) (w : World) :
    Calls Try.prog 58 #[.agg #[.int .i64 y, .int .i64 m, .int .i64 d, .int .i64 s, .bool z, .int .i64 o], .agg #[.int .i64 v, .int .i64 u, .int .i64 f, .int .i64 t, .bool z, .int .i64 o]] w fun e w' =>
      e = .returned (.tuple #[.int .i64 (mkB y m d s v u f t), .bool true]) ∧ Below w.heap.size w w' := by
  have z1 : w.heap.size < w.heap.size + 1 + 1 := by omega
  have HB := Lib.hid (moment_between_yes y m d s z o v u f t o h g)
  have HI := Lib.hid (moment_instant1 v u f t z o g)
  have HO := Lib.hid (of_ins v u f t z o g s ((mayM_iff y m d s z o).1 h).2)
  have yb : -999999999 ≤ y ∧ y ≤ 999999999 := by have := (may_iff y m d).1 ((mayM_iff y m d s z o).1 h).1; omega
  have vb : -999999999 ≤ v ∧ v ≤ 999999999 := by have := (may_iff v u f).1 ((mayM_iff v u f t z o).1 g).1; omega
  have mb : 1 ≤ m ∧ m ≤ 12 := by
    have a := (may_iff y m d).1 ((mayM_iff y m d s z o).1 h).1
    have b := Civ.num_bounds y m d a.2.2.1 a.2.2.2
    exact ⟨b.1, b.2.1⟩
  have ub : 1 ≤ u ∧ u ≤ 12 := by
    have a := (may_iff v u f).1 ((mayM_iff v u f t z o).1 g).1
    have b := Civ.num_bounds v u f a.2.2.1 a.2.2.2
    exact ⟨b.1, b.2.1⟩
  obtain ⟨yb1, yb2⟩ := yb
  obtain ⟨vb1, vb2⟩ := vb
  obtain ⟨mb1, mb2⟩ := mb
  obtain ⟨ub1, ub2⟩ := ub
  obtain ⟨i1, i2⟩ := ins_in y m d s z o h
  obtain ⟨j1, j2⟩ := ins_in v u f t z o g
  clear h g
  generalize ins y m d s o = i at *
  generalize ins v u f t o = j at *
  go_enter Try.func58, Try.ntmps58
  go_wp2_with fail
  refine (HB.out _).mono ?_
  rintro e w1 ⟨rfl, hb1⟩
  obtain ⟨a0, a1, a2, a3, a4, a5, al⟩ := keepc6 (b := w.heap.size) (c0 := .int .i64 y) (c1 := .int .i64 m) (c2 := .int .i64 d) (c3 := .int .i64 s) (c4 := .bool z) (c5 := .int .i64 o) hb1 (by simp [go_sem, *]) (by simp [go_sem, *]) (by simp [go_sem, *]) (by simp [go_sem, *]) (by simp [go_sem, *]) (by simp [go_sem, *])
  obtain ⟨b0, b1, b2, b3, b4, b5, bl⟩ := keepc6 (b := w.heap.size + 1) (c0 := .int .i64 v) (c1 := .int .i64 u) (c2 := .int .i64 f) (c3 := .int .i64 t) (c4 := .bool z) (c5 := .int .i64 o) hb1 (by simp [go_sem, *]) (by simp [go_sem, *]) (by simp [go_sem, *]) (by simp [go_sem, *]) (by simp [go_sem, *]) (by simp [go_sem, *])
  have g1 : Below w.heap.size w w1 := by (repeat (first | with_reducible assumption | with_reducible exact bl_refl _ | with_reducible refine bl_alloc ?_ _ | with_reducible refine bl_set ?_ (by simp) _ | with_reducible refine bl_drew ?_ | with_reducible refine bl_drewN ?_ _ | with_reducible refine bl_trans ?_ (by assumption)))
  clear hb1
  go_upto_region 7 with fail
  go_cut [7, 10] (fun s7 s10 wx => ∃ r : Nat, s7 = .bool true ∧ s10 = .pointer (some ⟨r, 0, none⟩) ∧ Below w.heap.size w wx ∧
    (wx.cell? ⟨r, 0, none⟩ = some (.int .i64 v) ∧ wx.cell? ⟨r, 1, none⟩ = some (.int .i64 u) ∧ wx.cell? ⟨r, 2, none⟩ = some (.int .i64 f) ∧ wx.cell? ⟨r, 3, none⟩ = some (.int .i64 t)) ∧
    (wx.cell? ⟨w.heap.size, 0, none⟩ = some (.int .i64 y) ∧ wx.cell? ⟨w.heap.size, 1, none⟩ = some (.int .i64 m) ∧ wx.cell? ⟨w.heap.size, 2, none⟩ = some (.int .i64 d) ∧ wx.cell? ⟨w.heap.size, 3, none⟩ = some (.int .i64 s)))
  case first =>
    refine wp_region_held_drew (S := (fun w' => w'.cell? ⟨w.heap.size, 0, none⟩ = some (.int .i64 y) ∧ w'.cell? ⟨w.heap.size, 1, none⟩ = some (.int .i64 m) ∧ w'.cell? ⟨w.heap.size, 2, none⟩ = some (.int .i64 d) ∧ w'.cell? ⟨w.heap.size, 3, none⟩ = some (.int .i64 s) ∧ w'.cell? ⟨w.heap.size, 4, none⟩ = some (.bool z) ∧ w'.cell? ⟨w.heap.size, 5, none⟩ = some (.int .i64 o) ∧ w'.cell? ⟨w.heap.size + 1, 0, none⟩ = some (.int .i64 v) ∧ w'.cell? ⟨w.heap.size + 1, 1, none⟩ = some (.int .i64 u) ∧ w'.cell? ⟨w.heap.size + 1, 2, none⟩ = some (.int .i64 f) ∧ w'.cell? ⟨w.heap.size + 1, 3, none⟩ = some (.int .i64 t) ∧ w'.cell? ⟨w.heap.size + 1, 4, none⟩ = some (.bool z) ∧ w'.cell? ⟨w.heap.size + 1, 5, none⟩ = some (.int .i64 o) ∧ Below w.heap.size w w')) (by kernel_rfl) ?_ (fun hHeld => ?_); (· ((try dsimp only); (try go_split_ands); (repeat' apply And.intro) <;> (first | (simp [go_sem, *]; done) | (repeat (first | with_reducible assumption | with_reducible exact bl_refl _ | with_reducible refine bl_alloc ?_ _ | with_reducible refine bl_set ?_ (by first | (simp; done) | (simp; omega)) _ | with_reducible refine bl_drew ?_ | with_reducible refine bl_drewN ?_ _ | with_reducible refine bl_trans ?_ (by assumption))))))
    refine wpAnyH_take (i := 0) (oi := ?oi1) (v := ?v1) ?h1 (by kernel_rfl) (by kernel_rfl) (by kernel_rfl) ?hQ1 ?hy1 (by assumption) ?_; (case h1 => (simp only [List.getElem?_toArray, List.getElem?_cons_zero]; exact rfl)); (case hQ1 => exact fun _ _ _ h => h); (case hy1 => (refine Or.inl ⟨by rfl, ?_⟩; intro w hSw; (try dsimp only at hSw); go_simp; try with_reducible rfl)); try simp only [Act.put, List.setIfInBounds_toArray, List.set_cons_zero, List.set_cons_succ]
    refine wpAnyH_take (i := 2) (oi := ?oi2) (v := ?v2) ?h2 (by kernel_rfl) (by kernel_rfl) (by kernel_rfl) ?hQ2 ?hy2 (by assumption) ?_; (case h2 => (simp only [List.getElem?_toArray, List.getElem?_cons_succ, List.getElem?_cons_zero]; exact rfl)); (case hQ2 => exact fun _ _ _ h => h); (case hy2 => (refine Or.inl ⟨by rfl, ?_⟩; intro w hSw; (try dsimp only at hSw); go_simp; try with_reducible rfl)); try simp only [Act.put, List.setIfInBounds_toArray, List.set_cons_zero, List.set_cons_succ]
    refine wpAnyH_take (i := 3) (oi := ?oi3) (v := ?v3) ?h3 (by kernel_rfl) (by kernel_rfl) (by kernel_rfl) ?hQ3 ?hy3 (by assumption) ?_; (case h3 => (simp only [List.getElem?_toArray, List.getElem?_cons_succ, List.getElem?_cons_zero]; exact rfl)); (case hQ3 => exact fun _ _ _ h => h); (case hy3 => (refine Or.inl ⟨by rfl, ?_⟩; intro w hSw; (try dsimp only at hSw); go_simp; try with_reducible rfl)); try simp only [Act.put, List.setIfInBounds_toArray, List.set_cons_zero, List.set_cons_succ]
    refine wpAnyH_ready (rs := [1, 8]) (by kernel_rfl) (by simp) ?_; refine AllReadyH.cons (o := ?oi4) ?h4 (fun K hK => ?_) (AllReadyH.cons (o := ?oi5) ?h5 (fun K hK => ?_) AllReadyH.nil); (case h4 => (simp only [List.getElem?_toArray, List.getElem?_cons_succ, List.getElem?_cons_zero]; exact rfl)); (case h5 => (simp only [List.getElem?_toArray, List.getElem?_cons_succ, List.getElem?_cons_zero]; exact rfl))
    · go_simp; (refine (HI.out _).mono ?_; rintro e w2 ⟨rfl, hb⟩; have hk := below_keeps hb); refine hK.out _ _ ?_ (fun hNew => ?_); (· ((try dsimp only); (try go_split_ands); (repeat' apply And.intro) <;> (first | exact hk _ _ _ (by assumption) | (repeat (first | with_reducible assumption | with_reducible exact bl_refl _ | with_reducible refine bl_alloc ?_ _ | with_reducible refine bl_set ?_ (by simp) _ | with_reducible refine bl_drew ?_ | with_reducible refine bl_drewN ?_ _ | with_reducible refine bl_trans ?_ (by assumption)))))); clear hK K hHeld; revert hNew; intro hHeld; try simp only [Act.put, List.setIfInBounds_toArray, List.set_cons_zero, List.set_cons_succ]
      have la := lt_of_cell hHeld.1
      have lb := lt_of_cell hHeld.2.2.2.2.2.2.1
      refine wpAnyH_ready (rs := [4, 8]) (by kernel_rfl) (by simp) ?_; refine AllReadyH.cons (o := ?oi6) ?h6 (fun K hK => ?_) (AllReadyH.cons (o := ?oi7) ?h7 (fun K hK => ?_) AllReadyH.nil); (case h6 => (simp only [List.getElem?_toArray, List.getElem?_cons_succ, List.getElem?_cons_zero]; exact rfl)); (case h7 => (simp only [List.getElem?_toArray, List.getElem?_cons_succ, List.getElem?_cons_zero]; exact rfl))
      · go_simp; (refine (HO.out _).mono ?_; rintro e w3 ⟨rfl, hb⟩; have hk := below_keeps hb); refine hK.out _ _ ?_ (fun hNew => ?_); (· ((try dsimp only); (try go_split_ands); (repeat' apply And.intro) <;> (first | exact hk _ _ _ (by assumption) | (repeat (first | with_reducible assumption | with_reducible exact bl_refl _ | with_reducible refine bl_alloc ?_ _ | with_reducible refine bl_set ?_ (by simp) _ | with_reducible refine bl_drew ?_ | with_reducible refine bl_drewN ?_ _ | with_reducible refine bl_trans ?_ (by assumption)))))); clear hK K hHeld; revert hNew; intro hHeld; try simp only [Act.put, List.setIfInBounds_toArray, List.set_cons_zero, List.set_cons_succ]
        have la := lt_of_cell hHeld.1
        have lb := lt_of_cell hHeld.2.2.2.2.2.2.1
        refine wpAnyH_take (i := 5) (oi := ?oi8) (v := ?v8) ?h8 (by kernel_rfl) (by kernel_rfl) (by kernel_rfl) ?hQ8 ?hy8 (by assumption) ?_; (case h8 => (simp only [List.getElem?_toArray, List.getElem?_cons_succ, List.getElem?_cons_zero]; exact rfl)); (case hQ8 => exact fun _ _ _ h => h); (case hy8 => (refine Or.inl ⟨by rfl, ?_⟩; intro w hSw; (try dsimp only at hSw); go_simp; try with_reducible rfl)); try simp only [Act.put, List.setIfInBounds_toArray, List.set_cons_zero, List.set_cons_succ]
        refine wpAnyH_take (i := 6) (oi := ?oi9) (v := ?v9) ?h9 (by kernel_rfl) (by kernel_rfl) (by kernel_rfl) ?hQ9 ?hy9 (by assumption) ?_; (case h9 => (simp only [List.getElem?_toArray, List.getElem?_cons_succ, List.getElem?_cons_zero]; exact rfl)); (case hQ9 => exact fun _ _ _ h => h); (case hy9 => (refine Or.inl ⟨by rfl, ?_⟩; intro w hSw; (try dsimp only at hSw); go_simp; try with_reducible rfl)); try simp only [Act.put, List.setIfInBounds_toArray, List.set_cons_zero, List.set_cons_succ]
        refine wpAnyH_take (i := 7) (oi := ?oi10) (v := ?v10) ?h10 (by kernel_rfl) (by kernel_rfl) (by kernel_rfl) ?hQ10 ?hy10 (by assumption) ?_; (case h10 => (simp only [List.getElem?_toArray, List.getElem?_cons_succ, List.getElem?_cons_zero]; exact rfl)); (case hQ10 => exact fun _ _ _ h => h); (case hy10 => (refine Or.inl ⟨by rfl, ?_⟩; intro w hSw; (try dsimp only at hSw); go_simp; try with_reducible rfl)); try simp only [Act.put, List.setIfInBounds_toArray, List.set_cons_zero, List.set_cons_succ]
        refine wpAnyH_ready (rs := [8]) (by kernel_rfl) (by simp) ?_; refine AllReadyH.cons (o := ?oi11) ?h11 (fun K hK => ?_) AllReadyH.nil; (case h11 => (simp only [List.getElem?_toArray, List.getElem?_cons_succ, List.getElem?_cons_zero]; exact rfl)); go_simp; skip; refine hK.out _ _ ?_ (fun hNew => ?_); (· ((try dsimp only); (try go_split_ands); (repeat' apply And.intro) <;> (first | (simp [go_sem, *]; done) | (repeat (first | with_reducible assumption | with_reducible exact bl_refl _ | with_reducible refine bl_alloc ?_ _ | with_reducible refine bl_set ?_ (by first | (simp; done) | (simp; omega)) _ | with_reducible refine bl_drew ?_ | with_reducible refine bl_drewN ?_ _ | with_reducible refine bl_trans ?_ (by assumption)))))); clear hK K hHeld; revert hNew; intro hHeld; try simp only [Act.put, List.setIfInBounds_toArray, List.set_cons_zero, List.set_cons_succ]
        refine wpAnyH_ready (rs := [9]) (by kernel_rfl) (by simp) ?_; refine AllReadyH.cons (o := ?oi12) ?h12 (fun K hK => ?_) AllReadyH.nil; (case h12 => (simp only [List.getElem?_toArray, List.getElem?_cons_succ, List.getElem?_cons_zero]; exact rfl)); go_simp; skip; refine hK.out _ _ ?_ (fun hNew => ?_); (· ((try dsimp only); (try go_split_ands); (repeat' apply And.intro) <;> (first | (simp [go_sem, *]; done) | (repeat (first | with_reducible assumption | with_reducible exact bl_refl _ | with_reducible refine bl_alloc ?_ _ | with_reducible refine bl_set ?_ (by first | (simp; done) | (simp; omega)) _ | with_reducible refine bl_drew ?_ | with_reducible refine bl_drewN ?_ _ | with_reducible refine bl_trans ?_ (by assumption)))))); clear hK K hHeld; revert hNew; intro hHeld; try simp only [Act.put, List.setIfInBounds_toArray, List.set_cons_zero, List.set_cons_succ]
        refine wpAnyH_ready (rs := [10]) (by kernel_rfl) (by simp) ?_; refine AllReadyH.cons (o := ?oi13) ?h13 (fun K hK => ?_) AllReadyH.nil; (case h13 => (simp only [List.getElem?_toArray, List.getElem?_cons_succ, List.getElem?_cons_zero]; exact rfl)); go_simp; skip; refine hK.out _ _ ?_ (fun hNew => ?_); (· ((try dsimp only); (try go_split_ands); (repeat' apply And.intro) <;> (first | (simp [go_sem, *]; done) | (repeat (first | with_reducible assumption | with_reducible exact bl_refl _ | with_reducible refine bl_alloc ?_ _ | with_reducible refine bl_set ?_ (by first | (simp; done) | (simp; omega)) _ | with_reducible refine bl_drew ?_ | with_reducible refine bl_drewN ?_ _ | with_reducible refine bl_trans ?_ (by assumption)))))); clear hK K hHeld; revert hNew; intro hHeld; try simp only [Act.put, List.setIfInBounds_toArray, List.set_cons_zero, List.set_cons_succ]
        refine wpAnyH_done (by kernel_rfl) ?_ _
        try dsimp only at hHeld
        obtain ⟨x0, x1, x2, x3, x4, x5, y0, y1, y2, y3, y4, y5, hbx⟩ := hHeld
        go_wp2_with fail
        go_meet
        refine ⟨_, rfl, rfl, hbx, ⟨?_, ?_, ?_, ?_⟩, x0, x1, x2, x3⟩
        all_goals (simp [go_sem, *]; done)
      · go_simp; skip; refine hK.out _ _ ?_ (fun hNew => ?_); (· ((try dsimp only); (try go_split_ands); (repeat' apply And.intro) <;> (first | (simp [go_sem, *]; done) | (repeat (first | with_reducible assumption | with_reducible exact bl_refl _ | with_reducible refine bl_alloc ?_ _ | with_reducible refine bl_set ?_ (by first | (simp; done) | (simp; omega)) _ | with_reducible refine bl_drew ?_ | with_reducible refine bl_drewN ?_ _ | with_reducible refine bl_trans ?_ (by assumption)))))); clear hK K hHeld; revert hNew; intro hHeld; try simp only [Act.put, List.setIfInBounds_toArray, List.set_cons_zero, List.set_cons_succ]
        have la := lt_of_cell hHeld.1
        have lb := lt_of_cell hHeld.2.2.2.2.2.2.1
        refine wpAnyH_ready (rs := [4]) (by kernel_rfl) (by simp) ?_; refine AllReadyH.cons (o := ?oi14) ?h14 (fun K hK => ?_) AllReadyH.nil; (case h14 => (simp only [List.getElem?_toArray, List.getElem?_cons_succ, List.getElem?_cons_zero]; exact rfl)); go_simp; (refine (HO.out _).mono ?_; rintro e w3 ⟨rfl, hb⟩; have hk := below_keeps hb; obtain ⟨⟨r0, r1, r2, r3, r4, r5, rl⟩, rf0, rf1, rf2, rf3, rf4, rf5⟩ := keepf6 (b := w2.heap.size) (c0 := .int .i64 0) (c1 := .int .i64 0) (c2 := .int .i64 0) (c3 := .int .i64 0) (c4 := .bool false) (c5 := .int .i64 0) hb (by simp [go_sem, *]) (by simp [go_sem, *]) (by simp [go_sem, *]) (by simp [go_sem, *]) (by simp [go_sem, *]) (by simp [go_sem, *]) (by simp [go_sem, *]) (by simp [go_sem, *]) (by simp [go_sem, *]) (by simp [go_sem, *]) (by simp [go_sem, *]) (by simp [go_sem, *])); refine hK.out _ _ ?_ (fun hNew => ?_); (· ((try dsimp only); (try go_split_ands); (repeat' apply And.intro) <;> (first | exact hk _ _ _ (by assumption) | (repeat (first | with_reducible assumption | with_reducible exact bl_refl _ | with_reducible refine bl_alloc ?_ _ | with_reducible refine bl_set ?_ (by simp) _ | with_reducible refine bl_drew ?_ | with_reducible refine bl_drewN ?_ _ | with_reducible refine bl_trans ?_ (by assumption)))))); clear hK K hHeld; revert hNew; intro hHeld; try simp only [Act.put, List.setIfInBounds_toArray, List.set_cons_zero, List.set_cons_succ]
        refine wpAnyH_take (i := 5) (oi := ?oi15) (v := ?v15) ?h15 (by kernel_rfl) (by kernel_rfl) (by kernel_rfl) ?hQ15 ?hy15 (by assumption) ?_; (case h15 => (simp only [List.getElem?_toArray, List.getElem?_cons_succ, List.getElem?_cons_zero]; exact rfl)); (case hQ15 => exact fun _ _ _ h => h); (case hy15 => (refine Or.inl ⟨by rfl, ?_⟩; intro w hSw; (try dsimp only at hSw); go_simp; try with_reducible rfl)); try simp only [Act.put, List.setIfInBounds_toArray, List.set_cons_zero, List.set_cons_succ]
        refine wpAnyH_take (i := 6) (oi := ?oi16) (v := ?v16) ?h16 (by kernel_rfl) (by kernel_rfl) (by kernel_rfl) ?hQ16 ?hy16 (by assumption) ?_; (case h16 => (simp only [List.getElem?_toArray, List.getElem?_cons_succ, List.getElem?_cons_zero]; exact rfl)); (case hQ16 => exact fun _ _ _ h => h); (case hy16 => (refine Or.inl ⟨by rfl, ?_⟩; intro w hSw; (try dsimp only at hSw); go_simp; try with_reducible rfl)); try simp only [Act.put, List.setIfInBounds_toArray, List.set_cons_zero, List.set_cons_succ]
        refine wpAnyH_take (i := 7) (oi := ?oi17) (v := ?v17) ?h17 (by kernel_rfl) (by kernel_rfl) (by kernel_rfl) ?hQ17 ?hy17 (by assumption) ?_; (case h17 => (simp only [List.getElem?_toArray, List.getElem?_cons_succ, List.getElem?_cons_zero]; exact rfl)); (case hQ17 => exact fun _ _ _ h => h); (case hy17 => (refine Or.inl ⟨by rfl, ?_⟩; intro w hSw; (try dsimp only at hSw); go_simp; try with_reducible rfl)); try simp only [Act.put, List.setIfInBounds_toArray, List.set_cons_zero, List.set_cons_succ]
        refine wpAnyH_ready (rs := [9]) (by kernel_rfl) (by simp) ?_; refine AllReadyH.cons (o := ?oi18) ?h18 (fun K hK => ?_) AllReadyH.nil; (case h18 => (simp only [List.getElem?_toArray, List.getElem?_cons_succ, List.getElem?_cons_zero]; exact rfl)); go_simp; skip; refine hK.out _ _ ?_ (fun hNew => ?_); (· ((try dsimp only); (try go_split_ands); (repeat' apply And.intro) <;> (first | (simp [go_sem, *]; done) | (repeat (first | with_reducible assumption | with_reducible exact bl_refl _ | with_reducible refine bl_alloc ?_ _ | with_reducible refine bl_set ?_ (by first | (simp; done) | (simp; omega)) _ | with_reducible refine bl_drew ?_ | with_reducible refine bl_drewN ?_ _ | with_reducible refine bl_trans ?_ (by assumption)))))); clear hK K hHeld; revert hNew; intro hHeld; try simp only [Act.put, List.setIfInBounds_toArray, List.set_cons_zero, List.set_cons_succ]
        refine wpAnyH_ready (rs := [10]) (by kernel_rfl) (by simp) ?_; refine AllReadyH.cons (o := ?oi19) ?h19 (fun K hK => ?_) AllReadyH.nil; (case h19 => (simp only [List.getElem?_toArray, List.getElem?_cons_succ, List.getElem?_cons_zero]; exact rfl)); go_simp; skip; refine hK.out _ _ ?_ (fun hNew => ?_); (· ((try dsimp only); (try go_split_ands); (repeat' apply And.intro) <;> (first | (simp [go_sem, *]; done) | (repeat (first | with_reducible assumption | with_reducible exact bl_refl _ | with_reducible refine bl_alloc ?_ _ | with_reducible refine bl_set ?_ (by first | (simp; done) | (simp; omega)) _ | with_reducible refine bl_drew ?_ | with_reducible refine bl_drewN ?_ _ | with_reducible refine bl_trans ?_ (by assumption)))))); clear hK K hHeld; revert hNew; intro hHeld; try simp only [Act.put, List.setIfInBounds_toArray, List.set_cons_zero, List.set_cons_succ]
        refine wpAnyH_done (by kernel_rfl) ?_ _
        try dsimp only at hHeld
        obtain ⟨x0, x1, x2, x3, x4, x5, y0, y1, y2, y3, y4, y5, hbx⟩ := hHeld
        go_wp2_with fail
        go_meet
        refine ⟨_, rfl, rfl, hbx, ⟨?_, ?_, ?_, ?_⟩, x0, x1, x2, x3⟩
        all_goals (simp [go_sem, *]; done)
    · go_simp; skip; refine hK.out _ _ ?_ (fun hNew => ?_); (· ((try dsimp only); (try go_split_ands); (repeat' apply And.intro) <;> (first | (simp [go_sem, *]; done) | (repeat (first | with_reducible assumption | with_reducible exact bl_refl _ | with_reducible refine bl_alloc ?_ _ | with_reducible refine bl_set ?_ (by first | (simp; done) | (simp; omega)) _ | with_reducible refine bl_drew ?_ | with_reducible refine bl_drewN ?_ _ | with_reducible refine bl_trans ?_ (by assumption)))))); clear hK K hHeld; revert hNew; intro hHeld; try simp only [Act.put, List.setIfInBounds_toArray, List.set_cons_zero, List.set_cons_succ]
      have la := lt_of_cell hHeld.1
      have lb := lt_of_cell hHeld.2.2.2.2.2.2.1
      refine wpAnyH_ready (rs := [1]) (by kernel_rfl) (by simp) ?_; refine AllReadyH.cons (o := ?oi20) ?h20 (fun K hK => ?_) AllReadyH.nil; (case h20 => (simp only [List.getElem?_toArray, List.getElem?_cons_succ, List.getElem?_cons_zero]; exact rfl)); go_simp; (refine (HI.out _).mono ?_; rintro e w2 ⟨rfl, hb⟩; have hk := below_keeps hb; obtain ⟨⟨r0, r1, r2, r3, r4, r5, rl⟩, rf0, rf1, rf2, rf3, rf4, rf5⟩ := keepf6 (b := w1.heap.size) (c0 := .int .i64 0) (c1 := .int .i64 0) (c2 := .int .i64 0) (c3 := .int .i64 0) (c4 := .bool false) (c5 := .int .i64 0) hb (by simp [go_sem, *]) (by simp [go_sem, *]) (by simp [go_sem, *]) (by simp [go_sem, *]) (by simp [go_sem, *]) (by simp [go_sem, *]) (by simp [go_sem, *]) (by simp [go_sem, *]) (by simp [go_sem, *]) (by simp [go_sem, *]) (by simp [go_sem, *]) (by simp [go_sem, *])); refine hK.out _ _ ?_ (fun hNew => ?_); (· ((try dsimp only); (try go_split_ands); (repeat' apply And.intro) <;> (first | exact hk _ _ _ (by assumption) | (repeat (first | with_reducible assumption | with_reducible exact bl_refl _ | with_reducible refine bl_alloc ?_ _ | with_reducible refine bl_set ?_ (by simp) _ | with_reducible refine bl_drew ?_ | with_reducible refine bl_drewN ?_ _ | with_reducible refine bl_trans ?_ (by assumption)))))); clear hK K hHeld; revert hNew; intro hHeld; try simp only [Act.put, List.setIfInBounds_toArray, List.set_cons_zero, List.set_cons_succ]
      have la := lt_of_cell hHeld.1
      have lb := lt_of_cell hHeld.2.2.2.2.2.2.1
      refine wpAnyH_ready (rs := [4]) (by kernel_rfl) (by simp) ?_; refine AllReadyH.cons (o := ?oi21) ?h21 (fun K hK => ?_) AllReadyH.nil; (case h21 => (simp only [List.getElem?_toArray, List.getElem?_cons_succ, List.getElem?_cons_zero]; exact rfl)); go_simp; (refine (HO.out _).mono ?_; rintro e w3 ⟨rfl, hb⟩; have hk := below_keeps hb; obtain ⟨⟨r0, r1, r2, r3, r4, r5, rl⟩, rf0, rf1, rf2, rf3, rf4, rf5⟩ := keepf6 hb r0 r1 r2 r3 r4 r5 rf0 rf1 rf2 rf3 rf4 rf5); refine hK.out _ _ ?_ (fun hNew => ?_); (· ((try dsimp only); (try go_split_ands); (repeat' apply And.intro) <;> (first | exact hk _ _ _ (by assumption) | (repeat (first | with_reducible assumption | with_reducible exact bl_refl _ | with_reducible refine bl_alloc ?_ _ | with_reducible refine bl_set ?_ (by simp) _ | with_reducible refine bl_drew ?_ | with_reducible refine bl_drewN ?_ _ | with_reducible refine bl_trans ?_ (by assumption)))))); clear hK K hHeld; revert hNew; intro hHeld; try simp only [Act.put, List.setIfInBounds_toArray, List.set_cons_zero, List.set_cons_succ]
      refine wpAnyH_take (i := 5) (oi := ?oi22) (v := ?v22) ?h22 (by kernel_rfl) (by kernel_rfl) (by kernel_rfl) ?hQ22 ?hy22 (by assumption) ?_; (case h22 => (simp only [List.getElem?_toArray, List.getElem?_cons_succ, List.getElem?_cons_zero]; exact rfl)); (case hQ22 => exact fun _ _ _ h => h); (case hy22 => (refine Or.inl ⟨by rfl, ?_⟩; intro w hSw; (try dsimp only at hSw); go_simp; try with_reducible rfl)); try simp only [Act.put, List.setIfInBounds_toArray, List.set_cons_zero, List.set_cons_succ]
      refine wpAnyH_take (i := 6) (oi := ?oi23) (v := ?v23) ?h23 (by kernel_rfl) (by kernel_rfl) (by kernel_rfl) ?hQ23 ?hy23 (by assumption) ?_; (case h23 => (simp only [List.getElem?_toArray, List.getElem?_cons_succ, List.getElem?_cons_zero]; exact rfl)); (case hQ23 => exact fun _ _ _ h => h); (case hy23 => (refine Or.inl ⟨by rfl, ?_⟩; intro w hSw; (try dsimp only at hSw); go_simp; try with_reducible rfl)); try simp only [Act.put, List.setIfInBounds_toArray, List.set_cons_zero, List.set_cons_succ]
      refine wpAnyH_take (i := 7) (oi := ?oi24) (v := ?v24) ?h24 (by kernel_rfl) (by kernel_rfl) (by kernel_rfl) ?hQ24 ?hy24 (by assumption) ?_; (case h24 => (simp only [List.getElem?_toArray, List.getElem?_cons_succ, List.getElem?_cons_zero]; exact rfl)); (case hQ24 => exact fun _ _ _ h => h); (case hy24 => (refine Or.inl ⟨by rfl, ?_⟩; intro w hSw; (try dsimp only at hSw); go_simp; try with_reducible rfl)); try simp only [Act.put, List.setIfInBounds_toArray, List.set_cons_zero, List.set_cons_succ]
      refine wpAnyH_ready (rs := [9]) (by kernel_rfl) (by simp) ?_; refine AllReadyH.cons (o := ?oi25) ?h25 (fun K hK => ?_) AllReadyH.nil; (case h25 => (simp only [List.getElem?_toArray, List.getElem?_cons_succ, List.getElem?_cons_zero]; exact rfl)); go_simp; skip; refine hK.out _ _ ?_ (fun hNew => ?_); (· ((try dsimp only); (try go_split_ands); (repeat' apply And.intro) <;> (first | (simp [go_sem, *]; done) | (repeat (first | with_reducible assumption | with_reducible exact bl_refl _ | with_reducible refine bl_alloc ?_ _ | with_reducible refine bl_set ?_ (by first | (simp; done) | (simp; omega)) _ | with_reducible refine bl_drew ?_ | with_reducible refine bl_drewN ?_ _ | with_reducible refine bl_trans ?_ (by assumption)))))); clear hK K hHeld; revert hNew; intro hHeld; try simp only [Act.put, List.setIfInBounds_toArray, List.set_cons_zero, List.set_cons_succ]
      refine wpAnyH_ready (rs := [10]) (by kernel_rfl) (by simp) ?_; refine AllReadyH.cons (o := ?oi26) ?h26 (fun K hK => ?_) AllReadyH.nil; (case h26 => (simp only [List.getElem?_toArray, List.getElem?_cons_succ, List.getElem?_cons_zero]; exact rfl)); go_simp; skip; refine hK.out _ _ ?_ (fun hNew => ?_); (· ((try dsimp only); (try go_split_ands); (repeat' apply And.intro) <;> (first | (simp [go_sem, *]; done) | (repeat (first | with_reducible assumption | with_reducible exact bl_refl _ | with_reducible refine bl_alloc ?_ _ | with_reducible refine bl_set ?_ (by first | (simp; done) | (simp; omega)) _ | with_reducible refine bl_drew ?_ | with_reducible refine bl_drewN ?_ _ | with_reducible refine bl_trans ?_ (by assumption)))))); clear hK K hHeld; revert hNew; intro hHeld; try simp only [Act.put, List.setIfInBounds_toArray, List.set_cons_zero, List.set_cons_succ]
      refine wpAnyH_done (by kernel_rfl) ?_ _
      try dsimp only at hHeld
      obtain ⟨x0, x1, x2, x3, x4, x5, y0, y1, y2, y3, y4, y5, hbx⟩ := hHeld
      go_wp2_with fail
      go_meet
      refine ⟨_, rfl, rfl, hbx, ⟨?_, ?_, ?_, ?_⟩, x0, x1, x2, x3⟩
      all_goals (simp [go_sem, *]; done)
  case rest =>
    obtain ⟨r, rfl, rfl, hbx, ⟨q0, q1, q2, q3⟩, p0, p1, p2, p3⟩ := hcut
    go_wp2_with fail
    all_goals
      go_ret2
      refine ⟨retib ?_, hbx⟩
      unfold mkB lag
    all_goals
      by_cases c : f < d ∨ f = d ∧ t < s
      · rw [if_pos c]; try omega
      · rw [if_neg c]; try omega

/-- downwards: less those from the other one to it -/
theorem moment_mb_down (y m d s : Int) (z : Bool) (o v u f t : Int) (h : mayM y m d s z o = true) (g : mayM v u f t z o = true) (hlt : ins v u f t o < ins y m d s o) (w : World) :
    Calls Try.prog 58 #[.agg #[.int .i64 y, .int .i64 m, .int .i64 d, .int .i64 s, .bool z, .int .i64 o], .agg #[.int .i64 v, .int .i64 u, .int .i64 f, .int .i64 t, .bool z, .int .i64 o]] w fun e w' =>
      e = .returned (.tuple #[.int .i64 (-mkB v u f t y m d s), .bool true]) ∧ Below w.heap.size w w' := by
  have z1 : w.heap.size < w.heap.size + 1 + 1 := by omega
  have HB := Lib.hid (moment_between_yes y m d s z o v u f t o h g)
  have HU := Lib.hid (moment_mb_up v u f t z o y m d s g h (by omega))
  have kb : -100000000000 ≤ mkB v u f t y m d s ∧ mkB v u f t y m d s ≤ 100000000000 := by
    have a1 := (may_iff y m d).1 ((mayM_iff y m d s z o).1 h).1
    have b1 := Civ.num_bounds y m d a1.2.2.1 a1.2.2.2
    have a2 := (may_iff v u f).1 ((mayM_iff v u f t z o).1 g).1
    have b2 := Civ.num_bounds v u f a2.2.2.1 a2.2.2.2
    unfold mkB lag
    by_cases c : d < f ∨ d = f ∧ s < t
    · rw [if_pos c]; omega
    · rw [if_neg c]; omega
  obtain ⟨kb1, kb2⟩ := kb
  obtain ⟨i1, i2⟩ := ins_in y m d s z o h
  obtain ⟨j1, j2⟩ := ins_in v u f t z o g
  clear h g
  generalize ins y m d s o = i at *
  generalize ins v u f t o = j at *
  generalize mkB v u f t y m d s = k at *
  go_enter Try.func58, Try.ntmps58
  go_wp2_with fail
  refine (HB.out _).mono ?_
  rintro e w1 ⟨rfl, hb1⟩
  obtain ⟨a0, a1, a2, a3, a4, a5, al⟩ := keepc6 (b := w.heap.size) (c0 := .int .i64 y) (c1 := .int .i64 m) (c2 := .int .i64 d) (c3 := .int .i64 s) (c4 := .bool z) (c5 := .int .i64 o) hb1 (by simp [go_sem, *]) (by simp [go_sem, *]) (by simp [go_sem, *]) (by simp [go_sem, *]) (by simp [go_sem, *]) (by simp [go_sem, *])
  obtain ⟨b0, b1, b2, b3, b4, b5, bl⟩ := keepc6 (b := w.heap.size + 1) (c0 := .int .i64 v) (c1 := .int .i64 u) (c2 := .int .i64 f) (c3 := .int .i64 t) (c4 := .bool z) (c5 := .int .i64 o) hb1 (by simp [go_sem, *]) (by simp [go_sem, *]) (by simp [go_sem, *]) (by simp [go_sem, *]) (by simp [go_sem, *]) (by simp [go_sem, *])
  have g1 : Below w.heap.size w w1 := by (repeat (first | with_reducible assumption | with_reducible exact bl_refl _ | with_reducible refine bl_alloc ?_ _ | with_reducible refine bl_set ?_ (by simp) _ | with_reducible refine bl_drew ?_ | with_reducible refine bl_drewN ?_ _ | with_reducible refine bl_trans ?_ (by assumption)))
  clear hb1
  go_wp2_with fail
  refine (HU.out _).mono ?_
  rintro e w2 ⟨rfl, hb2⟩
  go_wp2_with fail
  go_ret2
  refine ⟨rfl, ?_⟩
  (repeat (first | with_reducible assumption | with_reducible exact bl_refl _ | with_reducible refine bl_alloc ?_ _ | with_reducible refine bl_set ?_ (by simp) _ | with_reducible refine bl_drew ?_ | with_reducible refine bl_drewN ?_ _ | with_reducible refine bl_trans ?_ (by assumption)))

end Go.Proofs.Ytfoblnepbncieaa
