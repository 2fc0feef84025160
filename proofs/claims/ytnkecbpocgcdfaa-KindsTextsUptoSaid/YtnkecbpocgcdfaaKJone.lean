/-
  Join's contract, of lists and of ranges.
-/
import Derived.Test.YtnkecbpocgcdfaaKJoin
namespace Go.Proofs.Ytnkecbpocgcdfaa
open Go.ChangeShapes Go.WideShapes Go.ChangeAt Go.RowKit Go.Joins

theorem joinF_one {n : Nat} {a b : Ty} (hc : ¬ Conf a b) (hd : ¬ Conf b a) (he : a.kind = b.kind) (hk : a.kind = 10 ∨ a.kind = 12) (la : a.items.length = 1) (lb : b.items.length = 1) :
    joinF (n + 1) a b = .mk a.kind [joinF n (a.items.getD 0 noTy) (b.items.getD 0 noTy)] [] := by
  show (if confB a b = true then b else if confB b a = true then a else if a.kind = b.kind ∧ (a.kind = 10 ∨ a.kind = 12) ∧ a.items.length = 1 ∧ b.items.length = 1 then _ else _) = _
  rw [if_neg (by rw [confB_not hc]; decide), if_neg (by rw [confB_not hd]; decide), if_pos ⟨he, hk, la, lb⟩]

theorem MadeOf.weaken {w w' W M v : World} (h : MadeOf w W M v) (hs : w'.heap.size ≤ W.heap.size) : MadeOf w w' M v := ⟨h.kept, fun b o x q hlt => h.old b o x q (by omega), h.has⟩

theorem MadeOf.apart {w w' W M v : World} (h : MadeOf w W M v) (hK : Kept w w') (b o : Nat) (x : Value) (q : M.cell? ⟨b, o, none⟩ = some x) : b < w'.heap.size ∨ W.heap.size ≤ b := by
  rcases Nat.lt_or_ge b W.heap.size with c | c
  · exact .inl (lt_of_cell (hK _ _ _ (h.old b o x q c)))
  · exact .inr c

theorem made_final {w w' M v : World} (hm : MadeOf w w' M v) (hK : Kept w v) : Kept M (mix w w'.heap.size v) ∧ MadeOf w w' (mix w w'.heap.size v) v := by
  have kM : Kept M (mix w w'.heap.size v) := fun b o x q => by
    rw [mix_cell]
    by_cases c : b < w'.heap.size
    · rw [if_pos c]; exact hm.old b o x q c
    · rw [if_neg c]; exact hm.kept b o x q
  exact ⟨kM, mix_into hK (kept_refl _), fun b o x q hlt => by rw [mix_cell, if_pos hlt] at q; exact q, kept_trans hm.has kM⟩

set_option maxHeartbeats 1000000 in
theorem listOf_x (k : Int) (xa : Option Addr) (xl xc : Nat) (ya : Option Addr) (yl yc : Nat) (w : World) : Calls Try.prog 30 #[.agg #[.int .i64 k, .slice xa xl xc, .slice ya yl yc]] w fun e w' =>
    e = .returned (.agg #[.int .i64 10, .slice (some ⟨w.heap.size + 1 + 1, 0, none⟩) 1 1, .slice none 0 0]) ∧
      w'.cell? ⟨w.heap.size + 1 + 1, 0, none⟩ = some (.int .i64 k) ∧ w'.cell? ⟨w.heap.size + 1 + 1, 1, none⟩ = some (.slice xa xl xc) ∧ w'.cell? ⟨w.heap.size + 1 + 1, 2, none⟩ = some (.slice ya yl yc) ∧ Below w.heap.size w w' := by
  go_enter Try.func30, Try.ntmps30
  go_wp2_with fail
  refine bodyPost_ret (v := .agg #[.int .i64 10, .slice (some ⟨w.heap.size + 1 + 1, 0, none⟩) 1 1, .slice none 0 0]) (by simp [results, Try.results30, go_sem]) rfl ⟨rfl, ?_, ?_, ?_, ?_⟩
  · simp [go_sem]
  · simp [go_sem]
  · simp [go_sem]
  · (repeat (first | with_reducible assumption | with_reducible exact bl_refl _ | with_reducible refine bl_alloc ?_ _ | with_reducible refine bl_set ?_ (by simp) _ | with_reducible refine bl_drew ?_ | with_reducible refine bl_drewN ?_ _ | with_reducible refine bl_trans ?_ (by assumption)))

set_option maxHeartbeats 2000000 in
set_option maxRecDepth 100000 in
theorem join_made_listOf (n : Nat) (a b : Ty) (IH : JoinSpec n (a.items.getD 0 noTy) (b.items.getD 0 noTy)) (hc : ¬ Conf a b) (hd : ¬ Conf b a) (he : a.kind = b.kind) (hk : a.kind = 10) (la : a.items.length = 1) (lb : b.items.length = 1) : JoinSpec (n + 1) a b := by
  have HJ := Lib.hid (joinF_one (n := n) hc hd he (by omega) la lb)
  rw [hk] at HJ
  intro w ai an bi bn hA hB w' hK
  have h1 := fun v (k : Kept w' v) => conf_k a b w ai an bi bn hA hB v (kept_trans hK k)
  rw [confB_not hc] at h1
  have h2 := fun v (k : Kept w' v) => conf_k b a w bi bn ai an hB hA v (kept_trans hK k)
  rw [confB_not hd] at h2
  rw [← he] at h1 h2
  have H1 := Lib.hid h1
  have H2 := Lib.hid h2
  have HK := Lib.hid hK
  have HA := Lib.hid hA
  have HB := Lib.hid hB
  obtain ⟨xa, xc, ya, yc, rfl, rfl⟩ := hA.shape
  obtain ⟨va, vc, ua, uc, rfl, rfl⟩ := hB.shape
  have z1 : w'.heap.size < w'.heap.size + 1 + 1 := by omega
  have z2 : w'.heap.size < w'.heap.size + 1 + 1 + 1 := by omega
  clear hA hB hK h1 h2 hc hd
  have HP := Lib.hid (HA.out.item (kept_refl w) 0 (by omega))
  have HQ := Lib.hid (HB.out.item (kept_refl w) 0 (by omega))
  have HI := Lib.hid IH
  clear IH
  rw [HJ.out, ← he, hk]
  rw [hk] at H1 H2
  have l1 : ((a.items.length : Int) == 1) = true := by rw [beq_iff_eq]; omega
  have l2 : ((b.items.length : Int) == 1) = true := by rw [beq_iff_eq]; omega
  have m1 : ((a.items.length : Int) != 1) = false := by simp; omega
  have m2 : ((b.items.length : Int) != 1) = false := by simp; omega
  have n1 : (0 : Int) < (a.items.length : Int) := by omega
  have n2 : (0 : Int) < (b.items.length : Int) := by omega
  have n3 : 0 < a.items.length := by omega
  have n4 : 0 < b.items.length := by omega
  clear he hk la lb HJ
  go_enter Try.func11, Try.ntmps11
  go_wp2_with fail
  refine (H1.out _ (kept_alloc (kept_alloc (kept_alloc (kept_refl _) _) _) _)).mono ?_
  rintro e w2 ⟨rfl, hb⟩
  obtain ⟨c0, c1, c2, cl⟩ := keep3c (b := w'.heap.size) (x := .int .i64 10) (y := .slice xa a.items.length xc) (z := .slice ya a.names.length yc) hb (by simp [go_sem, *]) (by simp [go_sem, *]) (by simp [go_sem, *])
  obtain ⟨d0, d1, d2, dl⟩ := keep3c (b := w'.heap.size + 1) (x := .int .i64 10) (y := .slice va b.items.length vc) (z := .slice ua b.names.length uc) hb (by simp [go_sem, *]) (by simp [go_sem, *]) (by simp [go_sem, *])
  obtain ⟨r0, r1, r2, rf0, rf1, rf2, rl⟩ := keep3 (b := w'.heap.size + 1 + 1) (x := .int .i64 0) (y := .slice none 0 0) (z := .slice none 0 0) hb (by simp [go_sem, *]) (by simp [go_sem, *]) (by simp [go_sem, *]) (by simp [go_sem, *]) (by simp [go_sem, *]) (by simp [go_sem, *])
  have HK2 := Lib.hid (kept_trans (kept_alloc (kept_alloc (kept_alloc (kept_refl w') _) _) _) (kept_below hb))
  have hbx : Below w'.heap.size w' w2 := by (repeat (first | with_reducible assumption | with_reducible exact bl_refl _ | with_reducible refine bl_alloc ?_ _ | with_reducible refine bl_set ?_ (by first | (simp; done) | (simp; omega)) _ | with_reducible refine bl_drew ?_ | with_reducible refine bl_drewN ?_ _ | with_reducible refine bl_trans ?_ (by assumption)))
  clear hb
  go_wp2_with fail
  refine (H2.out _ HK2.out).mono ?_
  rintro e w3 ⟨rfl, hb⟩
  obtain ⟨c0, c1, c2, cl⟩ := keep3c hb c0 c1 c2
  obtain ⟨d0, d1, d2, dl⟩ := keep3c hb d0 d1 d2
  obtain ⟨r0, r1, r2, rf0, rf1, rf2, rl⟩ := keep3 hb r0 r1 r2 rf0 rf1 rf2
  have HK3 := Lib.hid (kept_trans HK2.out (kept_below hb))
  have hbx : Below w'.heap.size w' w3 := by (repeat (first | with_reducible assumption | with_reducible exact bl_refl _ | with_reducible refine bl_alloc ?_ _ | with_reducible refine bl_set ?_ (by first | (simp; done) | (simp; omega)) _ | with_reducible refine bl_drew ?_ | with_reducible refine bl_drewN ?_ _ | with_reducible refine bl_trans ?_ (by assumption)))
  clear hb HK2
  obtain ⟨pa, po, rfl, ia, ic, ja, jc, p0, p1, p2, hX⟩ := HP.out
  obtain ⟨pb, pq, rfl, ka, kc, ma, mc, q0, q1, q2, hY⟩ := HQ.out
  simp only [Nat.zero_mul, Nat.add_zero] at p0 p1 p2 q0 q1 q2
  have HI := Lib.hid (HI.out w _ _ _ _ hX hY)
  clear hX hY HP HQ HA HB
  generalize a.items.getD 0 noTy = X at *
  generalize b.items.getD 0 noTy = Y at *
  have p0 := HK.out _ _ _ p0
  have p1 := HK.out _ _ _ p1
  have p2 := HK.out _ _ _ p2
  have q0 := HK.out _ _ _ q0
  have q1 := HK.out _ _ _ q1
  have q2 := HK.out _ _ _ q2
  have pl := lt_of_cell p0
  have ql := lt_of_cell q0
  have HN := Lib.hid (fun b o x (q : (pickW w3 fun b => decide (b < w'.heap.size + 1 + 1)).cell? ⟨b, o, none⟩ = some x) => (show w'.heap.size + 1 + 1 ≠ b by have := (pick_in q).1; simp only [decide_eq_true_eq] at this; omega))
  go_upto_region 9 with fail
  replace c0 := pick_has (P := fun b => decide (b < w'.heap.size + 1 + 1)) c0 (by simp only [decide_eq_true_eq]; omega)
  replace c1 := pick_has (P := fun b => decide (b < w'.heap.size + 1 + 1)) c1 (by simp only [decide_eq_true_eq]; omega)
  replace c2 := pick_has (P := fun b => decide (b < w'.heap.size + 1 + 1)) c2 (by simp only [decide_eq_true_eq]; omega)
  replace d0 := pick_has (P := fun b => decide (b < w'.heap.size + 1 + 1)) d0 (by simp only [decide_eq_true_eq]; omega)
  replace d1 := pick_has (P := fun b => decide (b < w'.heap.size + 1 + 1)) d1 (by simp only [decide_eq_true_eq]; omega)
  replace d2 := pick_has (P := fun b => decide (b < w'.heap.size + 1 + 1)) d2 (by simp only [decide_eq_true_eq]; omega)
  have p0 := pick_has (P := fun b => decide (b < w'.heap.size + 1 + 1)) (HK3.out _ _ _ p0) (by simp only [decide_eq_true_eq]; omega)
  have p1 := pick_has (P := fun b => decide (b < w'.heap.size + 1 + 1)) (HK3.out _ _ _ p1) (by simp only [decide_eq_true_eq]; omega)
  have p2 := pick_has (P := fun b => decide (b < w'.heap.size + 1 + 1)) (HK3.out _ _ _ p2) (by simp only [decide_eq_true_eq]; omega)
  have q0 := pick_has (P := fun b => decide (b < w'.heap.size + 1 + 1)) (HK3.out _ _ _ q0) (by simp only [decide_eq_true_eq]; omega)
  have q1 := pick_has (P := fun b => decide (b < w'.heap.size + 1 + 1)) (HK3.out _ _ _ q1) (by simp only [decide_eq_true_eq]; omega)
  have q2 := pick_has (P := fun b => decide (b < w'.heap.size + 1 + 1)) (HK3.out _ _ _ q2) (by simp only [decide_eq_true_eq]; omega)
  have HPK := Lib.hid (pick_kept w3 fun b => decide (b < w'.heap.size + 1 + 1))
  have HPD : ∃ W2, W2 = pickW w3 fun b => decide (b < w'.heap.size + 1 + 1) := ⟨_, rfl⟩
  obtain ⟨W2, hW2⟩ := HPD
  rw [← hW2] at c0 c1 c2 d0 d1 d2 p0 p1 p2 q0 q1 q2 HPK HN
  clear hW2
  refine wp_region_held_drew (S := (fun v => Kept W2 v ∧ Below w'.heap.size w' v)) (by kernel_rfl) ?_ (fun hHeld => ?_); (· exact ⟨kept_drew HPK.out, bl_drew hbx⟩)
  (refine wpAnyH_take (i := 0) (oi := ?oi1) (v := ?v1) ?h1 (by kernel_rfl) (by kernel_rfl) (by kernel_rfl) ?hQ1 ?hy1 (by first | exact hHeld | assumption) ?_; (case h1 => (simp only [List.getElem?_toArray, List.getElem?_cons_zero]; exact rfl)); (case hQ1 => exact fun _ _ _ h => h); (case hy1 => (refine Or.inl ⟨by rfl, ?_⟩; intro w hSw; (try dsimp only at hSw); obtain ⟨hk1, hb1⟩ := hSw; have c0 := hk1 _ _ _ c0; have c1 := hk1 _ _ _ c1; have c2 := hk1 _ _ _ c2; have d0 := hk1 _ _ _ d0; have d1 := hk1 _ _ _ d1; have d2 := hk1 _ _ _ d2; have p0 := hk1 _ _ _ p0; have p1 := hk1 _ _ _ p1; have p2 := hk1 _ _ _ p2; have q0 := hk1 _ _ _ q0; have q1 := hk1 _ _ _ q1; have q2 := hk1 _ _ _ q2; go_simp; try (first | with_reducible rfl | rfl))); try simp only [Act.put, List.setIfInBounds_toArray, List.set_cons_zero, List.set_cons_succ]); (refine wpAnyH_take (i := 1) (oi := ?oi2) (v := ?v2) ?h2 (by kernel_rfl) (by kernel_rfl) (by kernel_rfl) ?hQ2 ?hy2 (by first | exact hHeld | assumption) ?_; (case h2 => (simp only [List.getElem?_toArray, List.getElem?_cons_succ, List.getElem?_cons_zero]; exact rfl)); (case hQ2 => exact fun _ _ _ h => h); (case hy2 => (refine Or.inl ⟨by rfl, ?_⟩; intro w hSw; (try dsimp only at hSw); obtain ⟨hk1, hb1⟩ := hSw; have c0 := hk1 _ _ _ c0; have c1 := hk1 _ _ _ c1; have c2 := hk1 _ _ _ c2; have d0 := hk1 _ _ _ d0; have d1 := hk1 _ _ _ d1; have d2 := hk1 _ _ _ d2; have p0 := hk1 _ _ _ p0; have p1 := hk1 _ _ _ p1; have p2 := hk1 _ _ _ p2; have q0 := hk1 _ _ _ q0; have q1 := hk1 _ _ _ q1; have q2 := hk1 _ _ _ q2; go_simp; try (first | with_reducible rfl | rfl))); try simp only [Act.put, List.setIfInBounds_toArray, List.set_cons_zero, List.set_cons_succ]); (refine wpAnyH_take (i := 2) (oi := ?oi3) (v := ?v3) ?h3 (by kernel_rfl) (by kernel_rfl) (by kernel_rfl) ?hQ3 ?hy3 (by first | exact hHeld | assumption) ?_; (case h3 => (simp only [List.getElem?_toArray, List.getElem?_cons_succ, List.getElem?_cons_zero]; exact rfl)); (case hQ3 => exact fun _ _ _ h => h); (case hy3 => (refine Or.inl ⟨by rfl, ?_⟩; intro w hSw; (try dsimp only at hSw); obtain ⟨hk1, hb1⟩ := hSw; have c0 := hk1 _ _ _ c0; have c1 := hk1 _ _ _ c1; have c2 := hk1 _ _ _ c2; have d0 := hk1 _ _ _ d0; have d1 := hk1 _ _ _ d1; have d2 := hk1 _ _ _ d2; have p0 := hk1 _ _ _ p0; have p1 := hk1 _ _ _ p1; have p2 := hk1 _ _ _ p2; have q0 := hk1 _ _ _ q0; have q1 := hk1 _ _ _ q1; have q2 := hk1 _ _ _ q2; go_simp; try (first | with_reducible rfl | rfl))); try simp only [Act.put, List.setIfInBounds_toArray, List.set_cons_zero, List.set_cons_succ]); (refine wpAnyH_take (i := 3) (oi := ?oi4) (v := ?v4) ?h4 (by kernel_rfl) (by kernel_rfl) (by kernel_rfl) ?hQ4 ?hy4 (by first | exact hHeld | assumption) ?_; (case h4 => (simp only [List.getElem?_toArray, List.getElem?_cons_succ, List.getElem?_cons_zero]; exact rfl)); (case hQ4 => exact fun _ _ _ h => h); (case hy4 => (refine Or.inl ⟨by rfl, ?_⟩; intro w hSw; (try dsimp only at hSw); obtain ⟨hk1, hb1⟩ := hSw; have c0 := hk1 _ _ _ c0; have c1 := hk1 _ _ _ c1; have c2 := hk1 _ _ _ c2; have d0 := hk1 _ _ _ d0; have d1 := hk1 _ _ _ d1; have d2 := hk1 _ _ _ d2; have p0 := hk1 _ _ _ p0; have p1 := hk1 _ _ _ p1; have p2 := hk1 _ _ _ p2; have q0 := hk1 _ _ _ q0; have q1 := hk1 _ _ _ q1; have q2 := hk1 _ _ _ q2; go_simp; try (first | with_reducible rfl | rfl))); try simp only [Act.put, List.setIfInBounds_toArray, List.set_cons_zero, List.set_cons_succ]); (refine wpAnyH_take (i := 4) (oi := ?oi5) (v := ?v5) ?h5 (by kernel_rfl) (by kernel_rfl) (by kernel_rfl) ?hQ5 ?hy5 (by first | exact hHeld | assumption) ?_; (case h5 => (simp only [List.getElem?_toArray, List.getElem?_cons_succ, List.getElem?_cons_zero]; exact rfl)); (case hQ5 => exact fun _ _ _ h => h); (case hy5 => (refine Or.inl ⟨by rfl, ?_⟩; intro w hSw; (try dsimp only at hSw); obtain ⟨hk1, hb1⟩ := hSw; have c0 := hk1 _ _ _ c0; have c1 := hk1 _ _ _ c1; have c2 := hk1 _ _ _ c2; have d0 := hk1 _ _ _ d0; have d1 := hk1 _ _ _ d1; have d2 := hk1 _ _ _ d2; have p0 := hk1 _ _ _ p0; have p1 := hk1 _ _ _ p1; have p2 := hk1 _ _ _ p2; have q0 := hk1 _ _ _ q0; have q1 := hk1 _ _ _ q1; have q2 := hk1 _ _ _ q2; go_simp; try (first | with_reducible rfl | rfl))); try simp only [Act.put, List.setIfInBounds_toArray, List.set_cons_zero, List.set_cons_succ]); (refine wpAnyH_take (i := 5) (oi := ?oi6) (v := ?v6) ?h6 (by kernel_rfl) (by kernel_rfl) (by kernel_rfl) ?hQ6 ?hy6 (by first | exact hHeld | assumption) ?_; (case h6 => (simp only [List.getElem?_toArray, List.getElem?_cons_succ, List.getElem?_cons_zero]; exact rfl)); (case hQ6 => exact fun _ _ _ h => h); (case hy6 => (refine Or.inl ⟨by rfl, ?_⟩; intro w hSw; (try dsimp only at hSw); obtain ⟨hk1, hb1⟩ := hSw; have c0 := hk1 _ _ _ c0; have c1 := hk1 _ _ _ c1; have c2 := hk1 _ _ _ c2; have d0 := hk1 _ _ _ d0; have d1 := hk1 _ _ _ d1; have d2 := hk1 _ _ _ d2; have p0 := hk1 _ _ _ p0; have p1 := hk1 _ _ _ p1; have p2 := hk1 _ _ _ p2; have q0 := hk1 _ _ _ q0; have q1 := hk1 _ _ _ q1; have q2 := hk1 _ _ _ q2; go_simp; try (first | with_reducible rfl | rfl))); try simp only [Act.put, List.setIfInBounds_toArray, List.set_cons_zero, List.set_cons_succ]); (refine wpAnyH_take (i := 6) (oi := ?oi7) (v := ?v7) ?h7 (by kernel_rfl) (by kernel_rfl) (by kernel_rfl) ?hQ7 ?hy7 (by first | exact hHeld | assumption) ?_; (case h7 => (simp only [List.getElem?_toArray, List.getElem?_cons_succ, List.getElem?_cons_zero]; exact rfl)); (case hQ7 => exact fun _ _ _ h => h); (case hy7 => (refine Or.inl ⟨by rfl, ?_⟩; intro w hSw; (try dsimp only at hSw); obtain ⟨hk1, hb1⟩ := hSw; have c0 := hk1 _ _ _ c0; have c1 := hk1 _ _ _ c1; have c2 := hk1 _ _ _ c2; have d0 := hk1 _ _ _ d0; have d1 := hk1 _ _ _ d1; have d2 := hk1 _ _ _ d2; have p0 := hk1 _ _ _ p0; have p1 := hk1 _ _ _ p1; have p2 := hk1 _ _ _ p2; have q0 := hk1 _ _ _ q0; have q1 := hk1 _ _ _ q1; have q2 := hk1 _ _ _ q2; go_simp; try (first | with_reducible rfl | rfl))); try simp only [Act.put, List.setIfInBounds_toArray, List.set_cons_zero, List.set_cons_succ]); (refine wpAnyH_take (i := 7) (oi := ?oi8) (v := ?v8) ?h8 (by kernel_rfl) (by kernel_rfl) (by kernel_rfl) ?hQ8 ?hy8 (by first | exact hHeld | assumption) ?_; (case h8 => (simp only [List.getElem?_toArray, List.getElem?_cons_succ, List.getElem?_cons_zero]; exact rfl)); (case hQ8 => exact fun _ _ _ h => h); (case hy8 => (refine Or.inl ⟨by rfl, ?_⟩; intro w hSw; (try dsimp only at hSw); obtain ⟨hk1, hb1⟩ := hSw; have c0 := hk1 _ _ _ c0; have c1 := hk1 _ _ _ c1; have c2 := hk1 _ _ _ c2; have d0 := hk1 _ _ _ d0; have d1 := hk1 _ _ _ d1; have d2 := hk1 _ _ _ d2; have p0 := hk1 _ _ _ p0; have p1 := hk1 _ _ _ p1; have p2 := hk1 _ _ _ p2; have q0 := hk1 _ _ _ q0; have q1 := hk1 _ _ _ q1; have q2 := hk1 _ _ _ q2; go_simp; try (first | with_reducible rfl | rfl))); try simp only [Act.put, List.setIfInBounds_toArray, List.set_cons_zero, List.set_cons_succ])
  refine wpAnyH_ready (rs := [8]) (by kernel_rfl) (by simp) ?_; refine AllReadyH.cons (o := ?oi9) ?h9 (fun K hK => ?_) AllReadyH.nil; (case h9 => (simp only [List.getElem?_toArray, List.getElem?_cons_succ, List.getElem?_cons_zero]; exact rfl)); go_simp; (refine (HI.out _ (kept_drew (kept_trans HK.out HK3.out))).mono ?_; rintro e v8 ⟨ji, jn, M, rfl, hM, hmade, hb⟩; have hk := below_keeps hb; obtain ⟨g0, g1, g2, gf0, gf1, gf2, gl⟩ := keep3 (b := w'.heap.size + 1 + 1) (x := .int .i64 0) (y := .slice none 0 0) (z := .slice none 0 0) hb (by simp [go_sem, *]) (by simp [go_sem, *]) (by simp [go_sem, *]) (by simp [go_sem, *]) (by simp [go_sem, *]) (by simp [go_sem, *]); obtain ⟨oa, oc, ta, tc, rfl, rfl⟩ := hM.shape); refine hK.out _ _ ?_ (fun hNew => ?_); (· (refine ⟨?_, ?_⟩ <;> (first | (with_reducible refine kept_head ?_; (repeat (first | with_reducible assumption | with_reducible exact kept_refl _ | with_reducible exact hHeld.1 | with_reducible exact kept_trans hHeld.1 (kept_below hb) | with_reducible refine kept_alloc ?_ _ | with_reducible refine kept_drew ?_ | with_reducible refine kept_set ?_ (by first | (simp; done) | (simp; omega)) _)); done) | ((repeat (first | with_reducible assumption | with_reducible exact bl_refl _ | with_reducible exact hHeld.2 | with_reducible exact bl_trans hHeld.2 hb | with_reducible refine bl_alloc ?_ _ | with_reducible refine bl_set ?_ (by first | (simp; done) | (simp; omega)) _ | with_reducible refine bl_drew ?_)); done)))); clear hK K hHeld; revert hNew; intro hHeld; try simp only [Act.put, List.setIfInBounds_toArray, List.set_cons_zero, List.set_cons_succ]
  have HM := Lib.hid hM
  have HMM := Lib.hid hmade
  have hz := hHeld.2.size
  clear hM hmade hk hb r0 r1 r2 rf0 rf1 rf2
  refine wpAnyH_ready (rs := [9]) (by kernel_rfl) (by simp) ?_; refine AllReadyH.cons (o := ?oi10) ?h10 (fun K hK => ?_) AllReadyH.nil; (case h10 => (simp only [List.getElem?_toArray, List.getElem?_cons_succ, List.getElem?_cons_zero]; exact rfl)); go_simp; (refine (listOf_x _ _ _ _ _ _ _ _).mono ?_; rintro e v9 ⟨rfl, u0, u1, u2, hb⟩; have hk := below_keeps hb; have HB9 := Lib.hid hb; obtain ⟨g0, g1, g2, gf0, gf1, gf2, gl⟩ := keep3 (b := w'.heap.size + 1 + 1) (x := .int .i64 0) (y := .slice none 0 0) (z := .slice none 0 0) hb (by simp [go_sem, *]) (by simp [go_sem, *]) (by simp [go_sem, *]) (by simp [go_sem, *]) (by simp [go_sem, *]) (by simp [go_sem, *])); refine hK.out _ _ ?_ (fun hNew => ?_); (· (refine ⟨?_, ?_⟩ <;> (first | (with_reducible refine kept_head ?_; (repeat (first | with_reducible assumption | with_reducible exact kept_refl _ | with_reducible exact hHeld.1 | with_reducible exact kept_trans hHeld.1 (kept_below hb) | with_reducible refine kept_alloc ?_ _ | with_reducible refine kept_drew ?_ | with_reducible refine kept_set ?_ (by first | (simp; done) | (simp; omega)) _)); done) | ((repeat (first | with_reducible assumption | with_reducible exact bl_refl _ | with_reducible exact hHeld.2 | with_reducible exact bl_trans hHeld.2 hb | with_reducible refine bl_alloc ?_ _ | with_reducible refine bl_set ?_ (by first | (simp; done) | (simp; omega)) _ | with_reducible refine bl_drew ?_)); done)))); clear hK K hHeld; revert hNew; intro hHeld; try simp only [Act.put, List.setIfInBounds_toArray, List.set_cons_zero, List.set_cons_succ]
  have hl9 := HB9.out.size
  clear hk hb
  refine wpAnyH_ready (rs := [10]) (by kernel_rfl) (by simp) ?_; refine AllReadyH.cons (o := ?oi11) ?h11 (fun K hK => ?_) AllReadyH.nil; (case h11 => (simp only [List.getElem?_toArray, List.getElem?_cons_succ, List.getElem?_cons_zero]; exact rfl)); go_simp; skip; refine hK.out _ _ ?_ (fun hNew => ?_); (· (refine ⟨kept_put (kept_put (kept_put hHeld.1 HN.out _) HN.out _) HN.out _, ?_⟩; exact bl_set (bl_set (bl_set hHeld.2 (by simp; omega) _) (by simp; omega) _) (by simp; omega) _)); clear hK K hHeld; revert hNew; intro hHeld; try simp only [Act.put, List.setIfInBounds_toArray, List.set_cons_zero, List.set_cons_succ]
  refine wpAnyH_done (by kernel_rfl) ?_ _
  obtain ⟨-, hbx⟩ := hHeld
  go_wp2_with fail
  refine bodyPost_ret (v := .agg #[.int .i64 10, .slice (some ⟨v8.heap.size + 1 + 1, 0, none⟩) 1 1, .slice none 0 0]) (by simp [results, Try.results11, go_sem, *]) rfl ?_
  have hap : ∀ b o x, M.cell? ⟨b, o, none⟩ = some x → w'.heap.size + 1 + 1 ≠ b := fun b o x q => by
    rcases HMM.out.apart HK.out b o x q with h | h
    · omega
    · have : w3.heap.size ≤ b := h
      omega
  have far : ∀ (V : World) (p q r : Nat → Value) (o : Nat) (x : Value), V.cell? ⟨v8.heap.size + 1 + 1, o, none⟩ = some x → (((V.setCell ⟨w'.heap.size + 1 + 1, 0, none⟩ (p 0)).setCell ⟨w'.heap.size + 1 + 1, 1, none⟩ (q 0)).setCell ⟨w'.heap.size + 1 + 1, 2, none⟩ (r 0)).cell? ⟨v8.heap.size + 1 + 1, o, none⟩ = some x := fun V p q r o x h => by
    rw [World.cell?_setCell_far _ _ _ _ (by simp; omega), World.cell?_setCell_far _ _ _ _ (by simp; omega), World.cell?_setCell_far _ _ _ _ (by simp; omega)]
    exact h
  have kM : Kept M v9 := kept_trans HMM.out.kept (below_keeps HB9.out)
  have hm10 := (MadeOf.mk (w := w) (w' := w') (M := M) (kept_put (kept_put (kept_put kM (p := ⟨w'.heap.size + 1 + 1, 0, none⟩) hap (.int .i64 10)) (p := ⟨w'.heap.size + 1 + 1, 1, none⟩) hap (.slice (some ⟨v8.heap.size + 1 + 1, 0, none⟩) 1 1)) (p := ⟨w'.heap.size + 1 + 1, 2, none⟩) hap (.slice none 0 0))
    (HMM.out.weaken (w' := w') (by have : w'.heap.size ≤ w3.heap.size := by omega
                                   exact this)).old HMM.out.has)
  obtain ⟨k1, k2⟩ := made_final hm10 (kept_of_below HK.out hbx)
  refine ⟨_, _, _, rfl, ty_one 10 (by omega) (HM.out.keep k1) (v8.heap.size + 1 + 1) 0 1 (Nat.le_refl _) (by omega) ?_ ?_ ?_, k2, hbx⟩
  · rw [mix_cell, if_neg (by omega)]; exact far v9 (fun _ => _) (fun _ => _) (fun _ => _) _ _ u0
  · rw [mix_cell, if_neg (by omega)]; exact far v9 (fun _ => _) (fun _ => _) (fun _ => _) _ _ u1
  · rw [mix_cell, if_neg (by omega)]; exact far v9 (fun _ => _) (fun _ => _) (fun _ => _) _ _ u2

set_option maxHeartbeats 1000000 in
theorem rangeOf_x (k : Int) (xa : Option Addr) (xl xc : Nat) (ya : Option Addr) (yl yc : Nat) (w : World) : Calls Try.prog 31 #[.agg #[.int .i64 k, .slice xa xl xc, .slice ya yl yc]] w fun e w' =>
    e = .returned (.agg #[.int .i64 12, .slice (some ⟨w.heap.size + 1 + 1, 0, none⟩) 1 1, .slice none 0 0]) ∧
      w'.cell? ⟨w.heap.size + 1 + 1, 0, none⟩ = some (.int .i64 k) ∧ w'.cell? ⟨w.heap.size + 1 + 1, 1, none⟩ = some (.slice xa xl xc) ∧ w'.cell? ⟨w.heap.size + 1 + 1, 2, none⟩ = some (.slice ya yl yc) ∧ Below w.heap.size w w' := by
  go_enter Try.func31, Try.ntmps31
  go_wp2_with fail
  refine bodyPost_ret (v := .agg #[.int .i64 12, .slice (some ⟨w.heap.size + 1 + 1, 0, none⟩) 1 1, .slice none 0 0]) (by simp [results, Try.results31, go_sem]) rfl ⟨rfl, ?_, ?_, ?_, ?_⟩
  · simp [go_sem]
  · simp [go_sem]
  · simp [go_sem]
  · (repeat (first | with_reducible assumption | with_reducible exact bl_refl _ | with_reducible refine bl_alloc ?_ _ | with_reducible refine bl_set ?_ (by simp) _ | with_reducible refine bl_drew ?_ | with_reducible refine bl_drewN ?_ _ | with_reducible refine bl_trans ?_ (by assumption)))

set_option maxHeartbeats 2000000 in
set_option maxRecDepth 100000 in
theorem join_made_rangeOf (n : Nat) (a b : Ty) (IH : JoinSpec n (a.items.getD 0 noTy) (b.items.getD 0 noTy)) (hc : ¬ Conf a b) (hd : ¬ Conf b a) (he : a.kind = b.kind) (hk : a.kind = 12) (la : a.items.length = 1) (lb : b.items.length = 1) : JoinSpec (n + 1) a b := by
  have HJ := Lib.hid (joinF_one (n := n) hc hd he (by omega) la lb)
  rw [hk] at HJ
  intro w ai an bi bn hA hB w' hK
  have h1 := fun v (k : Kept w' v) => conf_k a b w ai an bi bn hA hB v (kept_trans hK k)
  rw [confB_not hc] at h1
  have h2 := fun v (k : Kept w' v) => conf_k b a w bi bn ai an hB hA v (kept_trans hK k)
  rw [confB_not hd] at h2
  rw [← he] at h1 h2
  have H1 := Lib.hid h1
  have H2 := Lib.hid h2
  have HK := Lib.hid hK
  have HA := Lib.hid hA
  have HB := Lib.hid hB
  obtain ⟨xa, xc, ya, yc, rfl, rfl⟩ := hA.shape
  obtain ⟨va, vc, ua, uc, rfl, rfl⟩ := hB.shape
  have z1 : w'.heap.size < w'.heap.size + 1 + 1 := by omega
  have z2 : w'.heap.size < w'.heap.size + 1 + 1 + 1 := by omega
  clear hA hB hK h1 h2 hc hd
  have HP := Lib.hid (HA.out.item (kept_refl w) 0 (by omega))
  have HQ := Lib.hid (HB.out.item (kept_refl w) 0 (by omega))
  have HI := Lib.hid IH
  clear IH
  rw [HJ.out, ← he, hk]
  rw [hk] at H1 H2
  have l1 : ((a.items.length : Int) == 1) = true := by rw [beq_iff_eq]; omega
  have l2 : ((b.items.length : Int) == 1) = true := by rw [beq_iff_eq]; omega
  have m1 : ((a.items.length : Int) != 1) = false := by simp; omega
  have m2 : ((b.items.length : Int) != 1) = false := by simp; omega
  have n1 : (0 : Int) < (a.items.length : Int) := by omega
  have n2 : (0 : Int) < (b.items.length : Int) := by omega
  have n3 : 0 < a.items.length := by omega
  have n4 : 0 < b.items.length := by omega
  clear he hk la lb HJ
  go_enter Try.func11, Try.ntmps11
  go_wp2_with fail
  refine (H1.out _ (kept_alloc (kept_alloc (kept_alloc (kept_refl _) _) _) _)).mono ?_
  rintro e w2 ⟨rfl, hb⟩
  obtain ⟨c0, c1, c2, cl⟩ := keep3c (b := w'.heap.size) (x := .int .i64 12) (y := .slice xa a.items.length xc) (z := .slice ya a.names.length yc) hb (by simp [go_sem, *]) (by simp [go_sem, *]) (by simp [go_sem, *])
  obtain ⟨d0, d1, d2, dl⟩ := keep3c (b := w'.heap.size + 1) (x := .int .i64 12) (y := .slice va b.items.length vc) (z := .slice ua b.names.length uc) hb (by simp [go_sem, *]) (by simp [go_sem, *]) (by simp [go_sem, *])
  obtain ⟨r0, r1, r2, rf0, rf1, rf2, rl⟩ := keep3 (b := w'.heap.size + 1 + 1) (x := .int .i64 0) (y := .slice none 0 0) (z := .slice none 0 0) hb (by simp [go_sem, *]) (by simp [go_sem, *]) (by simp [go_sem, *]) (by simp [go_sem, *]) (by simp [go_sem, *]) (by simp [go_sem, *])
  have HK2 := Lib.hid (kept_trans (kept_alloc (kept_alloc (kept_alloc (kept_refl w') _) _) _) (kept_below hb))
  have hbx : Below w'.heap.size w' w2 := by (repeat (first | with_reducible assumption | with_reducible exact bl_refl _ | with_reducible refine bl_alloc ?_ _ | with_reducible refine bl_set ?_ (by first | (simp; done) | (simp; omega)) _ | with_reducible refine bl_drew ?_ | with_reducible refine bl_drewN ?_ _ | with_reducible refine bl_trans ?_ (by assumption)))
  clear hb
  go_wp2_with fail
  refine (H2.out _ HK2.out).mono ?_
  rintro e w3 ⟨rfl, hb⟩
  obtain ⟨c0, c1, c2, cl⟩ := keep3c hb c0 c1 c2
  obtain ⟨d0, d1, d2, dl⟩ := keep3c hb d0 d1 d2
  obtain ⟨r0, r1, r2, rf0, rf1, rf2, rl⟩ := keep3 hb r0 r1 r2 rf0 rf1 rf2
  have HK3 := Lib.hid (kept_trans HK2.out (kept_below hb))
  have hbx : Below w'.heap.size w' w3 := by (repeat (first | with_reducible assumption | with_reducible exact bl_refl _ | with_reducible refine bl_alloc ?_ _ | with_reducible refine bl_set ?_ (by first | (simp; done) | (simp; omega)) _ | with_reducible refine bl_drew ?_ | with_reducible refine bl_drewN ?_ _ | with_reducible refine bl_trans ?_ (by assumption)))
  clear hb HK2
  obtain ⟨pa, po, rfl, ia, ic, ja, jc, p0, p1, p2, hX⟩ := HP.out
  obtain ⟨pb, pq, rfl, ka, kc, ma, mc, q0, q1, q2, hY⟩ := HQ.out
  simp only [Nat.zero_mul, Nat.add_zero] at p0 p1 p2 q0 q1 q2
  have HI := Lib.hid (HI.out w _ _ _ _ hX hY)
  clear hX hY HP HQ HA HB
  generalize a.items.getD 0 noTy = X at *
  generalize b.items.getD 0 noTy = Y at *
  have p0 := HK.out _ _ _ p0
  have p1 := HK.out _ _ _ p1
  have p2 := HK.out _ _ _ p2
  have q0 := HK.out _ _ _ q0
  have q1 := HK.out _ _ _ q1
  have q2 := HK.out _ _ _ q2
  have pl := lt_of_cell p0
  have ql := lt_of_cell q0
  have HN := Lib.hid (fun b o x (q : (pickW w3 fun b => decide (b < w'.heap.size + 1 + 1)).cell? ⟨b, o, none⟩ = some x) => (show w'.heap.size + 1 + 1 ≠ b by have := (pick_in q).1; simp only [decide_eq_true_eq] at this; omega))
  go_upto_region 11 with fail
  replace c0 := pick_has (P := fun b => decide (b < w'.heap.size + 1 + 1)) c0 (by simp only [decide_eq_true_eq]; omega)
  replace c1 := pick_has (P := fun b => decide (b < w'.heap.size + 1 + 1)) c1 (by simp only [decide_eq_true_eq]; omega)
  replace c2 := pick_has (P := fun b => decide (b < w'.heap.size + 1 + 1)) c2 (by simp only [decide_eq_true_eq]; omega)
  replace d0 := pick_has (P := fun b => decide (b < w'.heap.size + 1 + 1)) d0 (by simp only [decide_eq_true_eq]; omega)
  replace d1 := pick_has (P := fun b => decide (b < w'.heap.size + 1 + 1)) d1 (by simp only [decide_eq_true_eq]; omega)
  replace d2 := pick_has (P := fun b => decide (b < w'.heap.size + 1 + 1)) d2 (by simp only [decide_eq_true_eq]; omega)
  have p0 := pick_has (P := fun b => decide (b < w'.heap.size + 1 + 1)) (HK3.out _ _ _ p0) (by simp only [decide_eq_true_eq]; omega)
  have p1 := pick_has (P := fun b => decide (b < w'.heap.size + 1 + 1)) (HK3.out _ _ _ p1) (by simp only [decide_eq_true_eq]; omega)
  have p2 := pick_has (P := fun b => decide (b < w'.heap.size + 1 + 1)) (HK3.out _ _ _ p2) (by simp only [decide_eq_true_eq]; omega)
  have q0 := pick_has (P := fun b => decide (b < w'.heap.size + 1 + 1)) (HK3.out _ _ _ q0) (by simp only [decide_eq_true_eq]; omega)
  have q1 := pick_has (P := fun b => decide (b < w'.heap.size + 1 + 1)) (HK3.out _ _ _ q1) (by simp only [decide_eq_true_eq]; omega)
  have q2 := pick_has (P := fun b => decide (b < w'.heap.size + 1 + 1)) (HK3.out _ _ _ q2) (by simp only [decide_eq_true_eq]; omega)
  have HPK := Lib.hid (pick_kept w3 fun b => decide (b < w'.heap.size + 1 + 1))
  have HPD : ∃ W2, W2 = pickW w3 fun b => decide (b < w'.heap.size + 1 + 1) := ⟨_, rfl⟩
  obtain ⟨W2, hW2⟩ := HPD
  rw [← hW2] at c0 c1 c2 d0 d1 d2 p0 p1 p2 q0 q1 q2 HPK HN
  clear hW2
  refine wp_region_held_drew (S := (fun v => Kept W2 v ∧ Below w'.heap.size w' v)) (by kernel_rfl) ?_ (fun hHeld => ?_); (· exact ⟨kept_drew HPK.out, bl_drew hbx⟩)
  (refine wpAnyH_take (i := 0) (oi := ?oi12) (v := ?v12) ?h12 (by kernel_rfl) (by kernel_rfl) (by kernel_rfl) ?hQ12 ?hy12 (by first | exact hHeld | assumption) ?_; (case h12 => (simp only [List.getElem?_toArray, List.getElem?_cons_zero]; exact rfl)); (case hQ12 => exact fun _ _ _ h => h); (case hy12 => (refine Or.inl ⟨by rfl, ?_⟩; intro w hSw; (try dsimp only at hSw); obtain ⟨hk1, hb1⟩ := hSw; have c0 := hk1 _ _ _ c0; have c1 := hk1 _ _ _ c1; have c2 := hk1 _ _ _ c2; have d0 := hk1 _ _ _ d0; have d1 := hk1 _ _ _ d1; have d2 := hk1 _ _ _ d2; have p0 := hk1 _ _ _ p0; have p1 := hk1 _ _ _ p1; have p2 := hk1 _ _ _ p2; have q0 := hk1 _ _ _ q0; have q1 := hk1 _ _ _ q1; have q2 := hk1 _ _ _ q2; go_simp; try (first | with_reducible rfl | rfl))); try simp only [Act.put, List.setIfInBounds_toArray, List.set_cons_zero, List.set_cons_succ]); (refine wpAnyH_take (i := 1) (oi := ?oi13) (v := ?v13) ?h13 (by kernel_rfl) (by kernel_rfl) (by kernel_rfl) ?hQ13 ?hy13 (by first | exact hHeld | assumption) ?_; (case h13 => (simp only [List.getElem?_toArray, List.getElem?_cons_succ, List.getElem?_cons_zero]; exact rfl)); (case hQ13 => exact fun _ _ _ h => h); (case hy13 => (refine Or.inl ⟨by rfl, ?_⟩; intro w hSw; (try dsimp only at hSw); obtain ⟨hk1, hb1⟩ := hSw; have c0 := hk1 _ _ _ c0; have c1 := hk1 _ _ _ c1; have c2 := hk1 _ _ _ c2; have d0 := hk1 _ _ _ d0; have d1 := hk1 _ _ _ d1; have d2 := hk1 _ _ _ d2; have p0 := hk1 _ _ _ p0; have p1 := hk1 _ _ _ p1; have p2 := hk1 _ _ _ p2; have q0 := hk1 _ _ _ q0; have q1 := hk1 _ _ _ q1; have q2 := hk1 _ _ _ q2; go_simp; try (first | with_reducible rfl | rfl))); try simp only [Act.put, List.setIfInBounds_toArray, List.set_cons_zero, List.set_cons_succ]); (refine wpAnyH_take (i := 2) (oi := ?oi14) (v := ?v14) ?h14 (by kernel_rfl) (by kernel_rfl) (by kernel_rfl) ?hQ14 ?hy14 (by first | exact hHeld | assumption) ?_; (case h14 => (simp only [List.getElem?_toArray, List.getElem?_cons_succ, List.getElem?_cons_zero]; exact rfl)); (case hQ14 => exact fun _ _ _ h => h); (case hy14 => (refine Or.inl ⟨by rfl, ?_⟩; intro w hSw; (try dsimp only at hSw); obtain ⟨hk1, hb1⟩ := hSw; have c0 := hk1 _ _ _ c0; have c1 := hk1 _ _ _ c1; have c2 := hk1 _ _ _ c2; have d0 := hk1 _ _ _ d0; have d1 := hk1 _ _ _ d1; have d2 := hk1 _ _ _ d2; have p0 := hk1 _ _ _ p0; have p1 := hk1 _ _ _ p1; have p2 := hk1 _ _ _ p2; have q0 := hk1 _ _ _ q0; have q1 := hk1 _ _ _ q1; have q2 := hk1 _ _ _ q2; go_simp; try (first | with_reducible rfl | rfl))); try simp only [Act.put, List.setIfInBounds_toArray, List.set_cons_zero, List.set_cons_succ]); (refine wpAnyH_take (i := 3) (oi := ?oi15) (v := ?v15) ?h15 (by kernel_rfl) (by kernel_rfl) (by kernel_rfl) ?hQ15 ?hy15 (by first | exact hHeld | assumption) ?_; (case h15 => (simp only [List.getElem?_toArray, List.getElem?_cons_succ, List.getElem?_cons_zero]; exact rfl)); (case hQ15 => exact fun _ _ _ h => h); (case hy15 => (refine Or.inl ⟨by rfl, ?_⟩; intro w hSw; (try dsimp only at hSw); obtain ⟨hk1, hb1⟩ := hSw; have c0 := hk1 _ _ _ c0; have c1 := hk1 _ _ _ c1; have c2 := hk1 _ _ _ c2; have d0 := hk1 _ _ _ d0; have d1 := hk1 _ _ _ d1; have d2 := hk1 _ _ _ d2; have p0 := hk1 _ _ _ p0; have p1 := hk1 _ _ _ p1; have p2 := hk1 _ _ _ p2; have q0 := hk1 _ _ _ q0; have q1 := hk1 _ _ _ q1; have q2 := hk1 _ _ _ q2; go_simp; try (first | with_reducible rfl | rfl))); try simp only [Act.put, List.setIfInBounds_toArray, List.set_cons_zero, List.set_cons_succ]); (refine wpAnyH_take (i := 4) (oi := ?oi16) (v := ?v16) ?h16 (by kernel_rfl) (by kernel_rfl) (by kernel_rfl) ?hQ16 ?hy16 (by first | exact hHeld | assumption) ?_; (case h16 => (simp only [List.getElem?_toArray, List.getElem?_cons_succ, List.getElem?_cons_zero]; exact rfl)); (case hQ16 => exact fun _ _ _ h => h); (case hy16 => (refine Or.inl ⟨by rfl, ?_⟩; intro w hSw; (try dsimp only at hSw); obtain ⟨hk1, hb1⟩ := hSw; have c0 := hk1 _ _ _ c0; have c1 := hk1 _ _ _ c1; have c2 := hk1 _ _ _ c2; have d0 := hk1 _ _ _ d0; have d1 := hk1 _ _ _ d1; have d2 := hk1 _ _ _ d2; have p0 := hk1 _ _ _ p0; have p1 := hk1 _ _ _ p1; have p2 := hk1 _ _ _ p2; have q0 := hk1 _ _ _ q0; have q1 := hk1 _ _ _ q1; have q2 := hk1 _ _ _ q2; go_simp; try (first | with_reducible rfl | rfl))); try simp only [Act.put, List.setIfInBounds_toArray, List.set_cons_zero, List.set_cons_succ]); (refine wpAnyH_take (i := 5) (oi := ?oi17) (v := ?v17) ?h17 (by kernel_rfl) (by kernel_rfl) (by kernel_rfl) ?hQ17 ?hy17 (by first | exact hHeld | assumption) ?_; (case h17 => (simp only [List.getElem?_toArray, List.getElem?_cons_succ, List.getElem?_cons_zero]; exact rfl)); (case hQ17 => exact fun _ _ _ h => h); (case hy17 => (refine Or.inl ⟨by rfl, ?_⟩; intro w hSw; (try dsimp only at hSw); obtain ⟨hk1, hb1⟩ := hSw; have c0 := hk1 _ _ _ c0; have c1 := hk1 _ _ _ c1; have c2 := hk1 _ _ _ c2; have d0 := hk1 _ _ _ d0; have d1 := hk1 _ _ _ d1; have d2 := hk1 _ _ _ d2; have p0 := hk1 _ _ _ p0; have p1 := hk1 _ _ _ p1; have p2 := hk1 _ _ _ p2; have q0 := hk1 _ _ _ q0; have q1 := hk1 _ _ _ q1; have q2 := hk1 _ _ _ q2; go_simp; try (first | with_reducible rfl | rfl))); try simp only [Act.put, List.setIfInBounds_toArray, List.set_cons_zero, List.set_cons_succ]); (refine wpAnyH_take (i := 6) (oi := ?oi18) (v := ?v18) ?h18 (by kernel_rfl) (by kernel_rfl) (by kernel_rfl) ?hQ18 ?hy18 (by first | exact hHeld | assumption) ?_; (case h18 => (simp only [List.getElem?_toArray, List.getElem?_cons_succ, List.getElem?_cons_zero]; exact rfl)); (case hQ18 => exact fun _ _ _ h => h); (case hy18 => (refine Or.inl ⟨by rfl, ?_⟩; intro w hSw; (try dsimp only at hSw); obtain ⟨hk1, hb1⟩ := hSw; have c0 := hk1 _ _ _ c0; have c1 := hk1 _ _ _ c1; have c2 := hk1 _ _ _ c2; have d0 := hk1 _ _ _ d0; have d1 := hk1 _ _ _ d1; have d2 := hk1 _ _ _ d2; have p0 := hk1 _ _ _ p0; have p1 := hk1 _ _ _ p1; have p2 := hk1 _ _ _ p2; have q0 := hk1 _ _ _ q0; have q1 := hk1 _ _ _ q1; have q2 := hk1 _ _ _ q2; go_simp; try (first | with_reducible rfl | rfl))); try simp only [Act.put, List.setIfInBounds_toArray, List.set_cons_zero, List.set_cons_succ]); (refine wpAnyH_take (i := 7) (oi := ?oi19) (v := ?v19) ?h19 (by kernel_rfl) (by kernel_rfl) (by kernel_rfl) ?hQ19 ?hy19 (by first | exact hHeld | assumption) ?_; (case h19 => (simp only [List.getElem?_toArray, List.getElem?_cons_succ, List.getElem?_cons_zero]; exact rfl)); (case hQ19 => exact fun _ _ _ h => h); (case hy19 => (refine Or.inl ⟨by rfl, ?_⟩; intro w hSw; (try dsimp only at hSw); obtain ⟨hk1, hb1⟩ := hSw; have c0 := hk1 _ _ _ c0; have c1 := hk1 _ _ _ c1; have c2 := hk1 _ _ _ c2; have d0 := hk1 _ _ _ d0; have d1 := hk1 _ _ _ d1; have d2 := hk1 _ _ _ d2; have p0 := hk1 _ _ _ p0; have p1 := hk1 _ _ _ p1; have p2 := hk1 _ _ _ p2; have q0 := hk1 _ _ _ q0; have q1 := hk1 _ _ _ q1; have q2 := hk1 _ _ _ q2; go_simp; try (first | with_reducible rfl | rfl))); try simp only [Act.put, List.setIfInBounds_toArray, List.set_cons_zero, List.set_cons_succ])
  refine wpAnyH_ready (rs := [8]) (by kernel_rfl) (by simp) ?_; refine AllReadyH.cons (o := ?oi20) ?h20 (fun K hK => ?_) AllReadyH.nil; (case h20 => (simp only [List.getElem?_toArray, List.getElem?_cons_succ, List.getElem?_cons_zero]; exact rfl)); go_simp; (refine (HI.out _ (kept_drew (kept_trans HK.out HK3.out))).mono ?_; rintro e v8 ⟨ji, jn, M, rfl, hM, hmade, hb⟩; have hk := below_keeps hb; obtain ⟨g0, g1, g2, gf0, gf1, gf2, gl⟩ := keep3 (b := w'.heap.size + 1 + 1) (x := .int .i64 0) (y := .slice none 0 0) (z := .slice none 0 0) hb (by simp [go_sem, *]) (by simp [go_sem, *]) (by simp [go_sem, *]) (by simp [go_sem, *]) (by simp [go_sem, *]) (by simp [go_sem, *]); obtain ⟨oa, oc, ta, tc, rfl, rfl⟩ := hM.shape); refine hK.out _ _ ?_ (fun hNew => ?_); (· (refine ⟨?_, ?_⟩ <;> (first | (with_reducible refine kept_head ?_; (repeat (first | with_reducible assumption | with_reducible exact kept_refl _ | with_reducible exact hHeld.1 | with_reducible exact kept_trans hHeld.1 (kept_below hb) | with_reducible refine kept_alloc ?_ _ | with_reducible refine kept_drew ?_ | with_reducible refine kept_set ?_ (by first | (simp; done) | (simp; omega)) _)); done) | ((repeat (first | with_reducible assumption | with_reducible exact bl_refl _ | with_reducible exact hHeld.2 | with_reducible exact bl_trans hHeld.2 hb | with_reducible refine bl_alloc ?_ _ | with_reducible refine bl_set ?_ (by first | (simp; done) | (simp; omega)) _ | with_reducible refine bl_drew ?_)); done)))); clear hK K hHeld; revert hNew; intro hHeld; try simp only [Act.put, List.setIfInBounds_toArray, List.set_cons_zero, List.set_cons_succ]
  have HM := Lib.hid hM
  have HMM := Lib.hid hmade
  have hz := hHeld.2.size
  clear hM hmade hk hb r0 r1 r2 rf0 rf1 rf2
  refine wpAnyH_ready (rs := [9]) (by kernel_rfl) (by simp) ?_; refine AllReadyH.cons (o := ?oi21) ?h21 (fun K hK => ?_) AllReadyH.nil; (case h21 => (simp only [List.getElem?_toArray, List.getElem?_cons_succ, List.getElem?_cons_zero]; exact rfl)); go_simp; (refine (rangeOf_x _ _ _ _ _ _ _ _).mono ?_; rintro e v9 ⟨rfl, u0, u1, u2, hb⟩; have hk := below_keeps hb; have HB9 := Lib.hid hb; obtain ⟨g0, g1, g2, gf0, gf1, gf2, gl⟩ := keep3 (b := w'.heap.size + 1 + 1) (x := .int .i64 0) (y := .slice none 0 0) (z := .slice none 0 0) hb (by simp [go_sem, *]) (by simp [go_sem, *]) (by simp [go_sem, *]) (by simp [go_sem, *]) (by simp [go_sem, *]) (by simp [go_sem, *])); refine hK.out _ _ ?_ (fun hNew => ?_); (· (refine ⟨?_, ?_⟩ <;> (first | (with_reducible refine kept_head ?_; (repeat (first | with_reducible assumption | with_reducible exact kept_refl _ | with_reducible exact hHeld.1 | with_reducible exact kept_trans hHeld.1 (kept_below hb) | with_reducible refine kept_alloc ?_ _ | with_reducible refine kept_drew ?_ | with_reducible refine kept_set ?_ (by first | (simp; done) | (simp; omega)) _)); done) | ((repeat (first | with_reducible assumption | with_reducible exact bl_refl _ | with_reducible exact hHeld.2 | with_reducible exact bl_trans hHeld.2 hb | with_reducible refine bl_alloc ?_ _ | with_reducible refine bl_set ?_ (by first | (simp; done) | (simp; omega)) _ | with_reducible refine bl_drew ?_)); done)))); clear hK K hHeld; revert hNew; intro hHeld; try simp only [Act.put, List.setIfInBounds_toArray, List.set_cons_zero, List.set_cons_succ]
  have hl9 := HB9.out.size
  clear hk hb
  refine wpAnyH_ready (rs := [10]) (by kernel_rfl) (by simp) ?_; refine AllReadyH.cons (o := ?oi22) ?h22 (fun K hK => ?_) AllReadyH.nil; (case h22 => (simp only [List.getElem?_toArray, List.getElem?_cons_succ, List.getElem?_cons_zero]; exact rfl)); go_simp; skip; refine hK.out _ _ ?_ (fun hNew => ?_); (· (refine ⟨kept_put (kept_put (kept_put hHeld.1 HN.out _) HN.out _) HN.out _, ?_⟩; exact bl_set (bl_set (bl_set hHeld.2 (by simp; omega) _) (by simp; omega) _) (by simp; omega) _)); clear hK K hHeld; revert hNew; intro hHeld; try simp only [Act.put, List.setIfInBounds_toArray, List.set_cons_zero, List.set_cons_succ]
  refine wpAnyH_done (by kernel_rfl) ?_ _
  obtain ⟨-, hbx⟩ := hHeld
  go_wp2_with fail
  refine bodyPost_ret (v := .agg #[.int .i64 12, .slice (some ⟨v8.heap.size + 1 + 1, 0, none⟩) 1 1, .slice none 0 0]) (by simp [results, Try.results11, go_sem, *]) rfl ?_
  have hap : ∀ b o x, M.cell? ⟨b, o, none⟩ = some x → w'.heap.size + 1 + 1 ≠ b := fun b o x q => by
    rcases HMM.out.apart HK.out b o x q with h | h
    · omega
    · have : w3.heap.size ≤ b := h
      omega
  have far : ∀ (V : World) (p q r : Nat → Value) (o : Nat) (x : Value), V.cell? ⟨v8.heap.size + 1 + 1, o, none⟩ = some x → (((V.setCell ⟨w'.heap.size + 1 + 1, 0, none⟩ (p 0)).setCell ⟨w'.heap.size + 1 + 1, 1, none⟩ (q 0)).setCell ⟨w'.heap.size + 1 + 1, 2, none⟩ (r 0)).cell? ⟨v8.heap.size + 1 + 1, o, none⟩ = some x := fun V p q r o x h => by
    rw [World.cell?_setCell_far _ _ _ _ (by simp; omega), World.cell?_setCell_far _ _ _ _ (by simp; omega), World.cell?_setCell_far _ _ _ _ (by simp; omega)]
    exact h
  have kM : Kept M v9 := kept_trans HMM.out.kept (below_keeps HB9.out)
  have hm10 := (MadeOf.mk (w := w) (w' := w') (M := M) (kept_put (kept_put (kept_put kM (p := ⟨w'.heap.size + 1 + 1, 0, none⟩) hap (.int .i64 12)) (p := ⟨w'.heap.size + 1 + 1, 1, none⟩) hap (.slice (some ⟨v8.heap.size + 1 + 1, 0, none⟩) 1 1)) (p := ⟨w'.heap.size + 1 + 1, 2, none⟩) hap (.slice none 0 0))
    (HMM.out.weaken (w' := w') (by have : w'.heap.size ≤ w3.heap.size := by omega
                                   exact this)).old HMM.out.has)
  obtain ⟨k1, k2⟩ := made_final hm10 (kept_of_below HK.out hbx)
  refine ⟨_, _, _, rfl, ty_one 12 (by omega) (HM.out.keep k1) (v8.heap.size + 1 + 1) 0 1 (Nat.le_refl _) (by omega) ?_ ?_ ?_, k2, hbx⟩
  · rw [mix_cell, if_neg (by omega)]; exact far v9 (fun _ => _) (fun _ => _) (fun _ => _) _ _ u0
  · rw [mix_cell, if_neg (by omega)]; exact far v9 (fun _ => _) (fun _ => _) (fun _ => _) _ _ u1
  · rw [mix_cell, if_neg (by omega)]; exact far v9 (fun _ => _) (fun _ => _) (fun _ => _) _ _ u2

end Go.Proofs.Ytnkecbpocgcdfaa
