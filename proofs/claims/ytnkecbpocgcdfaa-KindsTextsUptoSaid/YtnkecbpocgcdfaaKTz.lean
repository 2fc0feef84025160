/-
  KindsTexts' second form: where what it reads is of bulk at most 1048576 it returns true.
-/
import Derived.Test.YtnkecbpocgcdfaaKLu
import Derived.Test.YtnkecbpocgcdfaaKMw
import Derived.ChangeMaps5
namespace Go.Proofs.Ytnkecbpocgcdfaa
open Go.ChangeShapes Go.WideShapes Go.ChangeAt Go.RowKit Go.Joins

theorem quote_s (s : ByteArray) (w : World) (hs : s.size ≤ 28000000000000) :
    Calls Try.prog 19 #[.string s] w fun e w' => e = .returned (.string (strOfL (quoteL s))) ∧ Below w.heap.size w w' := quote_k s w hs

set_option maxHeartbeats 2000000 in
set_option maxRecDepth 100000 in
theorem texts_walk (a : Ty) (ai an : Value) (s : ByteArray) (k : Int) (w : World) (hA : IsTy w a ai an) (_hh : -9223372036854775808 ≤ k ∧ k ≤ 9223372036854775807) (h : a.bk ≤ 1048576 ∧ s.size ≤ 1048576) :
    Calls Try.prog 5 #[tyV a ai an, .string s, .int .i64 k] w fun e w' => e = .returned (.bool true) ∧ Below w.heap.size w w' := by
  unfold tyV
  obtain ⟨hb1, hb2⟩ := h
  have HA := Lib.hid hA
  have BA := Lib.hid hb1
  have QS := Lib.hid (fun v => quote_s s v (by omega))
  have QL := Lib.hid (fun v => quote_l s v (by omega))
  obtain ⟨aa, ac, ana, anc, rfl, rfl⟩ := hA.shape
  clear hA hb1 hb2
  go_enter Try.func5, Try.ntmps5
  go_wp2_with fail
  refine (law13_awake _).mono ?_
  rintro e w1 ⟨rfl, hb⟩
  have c0 := below_keeps hb (w.heap.size) 0 (.int .i64 a.kind) (by simp [go_sem]); have c1 := below_keeps hb (w.heap.size) 1 (.slice aa a.items.length ac) (by simp [go_sem]); have c2 := below_keeps hb (w.heap.size) 2 (.slice ana a.names.length anc) (by simp [go_sem])
  have KW := Lib.hid (kept_trans (kept_alloc (kept_refl w) _) (below_keeps hb))
  have hbr : Below w.heap.size w w1 := by (repeat (first | with_reducible assumption | with_reducible exact bl_refl _ | with_reducible refine bl_alloc ?_ _ | with_reducible refine bl_set ?_ (by first | (simp; done) | (simp; omega)) _ | with_reducible refine bl_drew ?_ | with_reducible refine bl_drewN ?_ _ | with_reducible refine bl_trans ?_ (by assumption)))
  clear hb
  have GR := Lib.hid (great_k HA.out)
  go_wp2_with fail
  refine (GR.out _ KW.out).mono ?_
  rintro e w2 ⟨⟨g, rfl⟩, hb⟩
  have c0 := below_keeps hb _ _ _ c0; have c1 := below_keeps hb _ _ _ c1; have c2 := below_keeps hb _ _ _ c2
  have KW := Lib.hid (kept_trans KW.out (below_keeps hb))
  have hbr : Below w.heap.size w w2 := by (repeat (first | with_reducible assumption | with_reducible exact bl_refl _ | with_reducible refine bl_alloc ?_ _ | with_reducible refine bl_set ?_ (by first | (simp; done) | (simp; omega)) _ | with_reducible refine bl_drew ?_ | with_reducible refine bl_drewN ?_ _ | with_reducible refine bl_trans ?_ (by assumption)))
  clear hb
  cases g
  · generalize quoteL s = qs at QS QL
    go_wp2_with fail
    refine (Word_k k _).mono ?_
    rintro e w3 ⟨rfl, rfl⟩
    go_wp2_with fail
    refine (word_l k _).mono ?_
    rintro e w3 ⟨rfl, rfl⟩
    generalize wordR k = wk
    go_wp2_with fail
    refine (QS.out _).mono ?_
    rintro e w3 ⟨rfl, hb⟩
    have c0 := below_keeps hb _ _ _ c0; have c1 := below_keeps hb _ _ _ c1; have c2 := below_keeps hb _ _ _ c2
    have KW := Lib.hid (kept_trans KW.out (below_keeps hb))
    have hbr : Below w.heap.size w w3 := by (repeat (first | with_reducible assumption | with_reducible exact bl_refl _ | with_reducible refine bl_alloc ?_ _ | with_reducible refine bl_set ?_ (by first | (simp; done) | (simp; omega)) _ | with_reducible refine bl_drew ?_ | with_reducible refine bl_drewN ?_ _ | with_reducible refine bl_trans ?_ (by assumption)))
    clear hb
    go_wp2_with fail
    refine (QL.out _).mono ?_
    rintro e w4 ⟨rfl, hb⟩
    have c0 := below_keeps hb _ _ _ c0; have c1 := below_keeps hb _ _ _ c1; have c2 := below_keeps hb _ _ _ c2
    have KW := Lib.hid (kept_trans KW.out (below_keeps hb))
    have hbr : Below w.heap.size w w4 := by (repeat (first | with_reducible assumption | with_reducible exact bl_refl _ | with_reducible refine bl_alloc ?_ _ | with_reducible refine bl_set ?_ (by first | (simp; done) | (simp; omega)) _ | with_reducible refine bl_drew ?_ | with_reducible refine bl_drewN ?_ _ | with_reducible refine bl_trans ?_ (by assumption)))
    clear hb
    have ML := Lib.hid (may_l HA.out)
    cases ma : mayB a
    · rw [ma] at ML
      go_upto_region 7 with fail
      refine wp_region_held_drew (S := (fun v => Kept w4 v ∧ Below w.heap.size w v)) (by kernel_rfl) ?_ (fun hHeld => ?_); (· exact ⟨kept_drew (kept_refl _), bl_drew hbr⟩)
      (refine wpAnyH_take (i := 0) (oi := ?oi1) (v := ?v1) ?h1 (by kernel_rfl) (by kernel_rfl) (by kernel_rfl) ?hQ1 ?hy1 (by first | exact hHeld | assumption) ?_; (case h1 => (simp only [List.getElem?_toArray, List.getElem?_cons_zero]; exact rfl)); (case hQ1 => exact fun _ _ _ h => h); (case hy1 => (refine Or.inl ⟨by rfl, ?_⟩; intro w hSw; (try dsimp only at hSw); obtain ⟨hk1, hb1⟩ := hSw; have c0 := hk1 _ _ _ c0; have c1 := hk1 _ _ _ c1; have c2 := hk1 _ _ _ c2; go_simp; try (first | with_reducible rfl | rfl))); try simp only [Act.put, List.setIfInBounds_toArray, List.set_cons_zero, List.set_cons_succ])
      refine wpAnyH_ready (rs := [1]) (by kernel_rfl) (by simp) ?_; refine AllReadyH.cons (o := ?oi2) ?h2 (fun K hK => ?_) AllReadyH.nil; (case h2 => (simp only [List.getElem?_toArray, List.getElem?_cons_succ, List.getElem?_cons_zero]; exact rfl)); go_simp; (refine (ML.out _ (kept_trans KW.out hHeld.1)).mono ?_; rintro e v1 ⟨rfl, hb⟩; have hk := below_keeps hb; obtain ⟨hc, hf⟩ := bcell hb; have hz := hb.size; have hw := hHeld.2.size; (try simp at hz); (try simp at hw)); refine hK.out _ _ ?_ (fun hNew => ?_); (· (refine ⟨?_, ?_⟩ <;> (first | (with_reducible refine kept_head ?_; (repeat (first | with_reducible assumption | with_reducible exact kept_refl _ | with_reducible exact hHeld.1 | with_reducible exact kept_trans hHeld.1 (kept_below hb) | with_reducible refine kept_alloc ?_ _ | with_reducible refine kept_drew ?_ | with_reducible refine kept_set ?_ (by first | (simp; done) | (simp; omega)) _)); done) | ((repeat (first | with_reducible assumption | with_reducible exact bl_refl _ | with_reducible exact hHeld.2 | with_reducible exact bl_trans hHeld.2 hb | with_reducible refine bl_alloc ?_ _ | with_reducible refine bl_set ?_ (by first | (simp; done) | (simp; omega)) _ | with_reducible refine bl_drew ?_)); done)))); clear hK K hHeld; revert hNew; intro hHeld; try simp only [Act.put, List.setIfInBounds_toArray, List.set_cons_zero, List.set_cons_succ]
      (refine wpAnyH_take (i := 2) (oi := ?oi3) (v := ?v3) ?h3 (by kernel_rfl) (by kernel_rfl) (by kernel_rfl) ?hQ3 ?hy3 (by first | exact hHeld | assumption) ?_; (case h3 => (simp only [List.getElem?_toArray, List.getElem?_cons_succ, List.getElem?_cons_zero]; exact rfl)); (case hQ3 => exact fun _ _ _ h => h); (case hy3 => (refine Or.inl ⟨by rfl, ?_⟩; intro w hSw; (try dsimp only at hSw); go_simp; try (first | with_reducible rfl | rfl))); try simp only [Act.put, List.setIfInBounds_toArray, List.set_cons_zero, List.set_cons_succ]); (refine wpAnyH_take (i := 3) (oi := ?oi4) (v := ?v4) ?h4 (by kernel_rfl) (by kernel_rfl) (by kernel_rfl) ?hQ4 ?hy4 (by first | exact hHeld | assumption) ?_; (case h4 => (simp only [List.getElem?_toArray, List.getElem?_cons_succ, List.getElem?_cons_zero]; exact rfl)); (case hQ4 => exact fun _ _ _ h => h); (case hy4 => (refine Or.inl ⟨by rfl, ?_⟩; intro w hSw; (try dsimp only at hSw); go_simp; try (first | with_reducible rfl | rfl))); try simp only [Act.put, List.setIfInBounds_toArray, List.set_cons_zero, List.set_cons_succ])
      (refine wpAnyH_take (i := 4) (oi := ?oi5) (v := undef) ?h5 (by kernel_rfl) (by kernel_rfl) (by kernel_rfl) ?hQ5 ?hy5 (by first | exact hHeld | assumption) ?_; (case h5 => (simp only [List.getElem?_toArray, List.getElem?_cons_succ, List.getElem?_cons_zero]; exact rfl)); (case hQ5 => exact fun _ _ _ h => h); (case hy5 => exact Or.inr ⟨by rfl, rfl⟩); try simp only [Act.put, List.setIfInBounds_toArray, List.set_cons_zero, List.set_cons_succ]); (refine wpAnyH_take (i := 5) (oi := ?oi6) (v := undef) ?h6 (by kernel_rfl) (by kernel_rfl) (by kernel_rfl) ?hQ6 ?hy6 (by first | exact hHeld | assumption) ?_; (case h6 => (simp only [List.getElem?_toArray, List.getElem?_cons_succ, List.getElem?_cons_zero]; exact rfl)); (case hQ6 => exact fun _ _ _ h => h); (case hy6 => exact Or.inr ⟨by rfl, rfl⟩); try simp only [Act.put, List.setIfInBounds_toArray, List.set_cons_zero, List.set_cons_succ]); (refine wpAnyH_take (i := 6) (oi := ?oi7) (v := undef) ?h7 (by kernel_rfl) (by kernel_rfl) (by kernel_rfl) ?hQ7 ?hy7 (by first | exact hHeld | assumption) ?_; (case h7 => (simp only [List.getElem?_toArray, List.getElem?_cons_succ, List.getElem?_cons_zero]; exact rfl)); (case hQ7 => exact fun _ _ _ h => h); (case hy7 => exact Or.inr ⟨by rfl, rfl⟩); try simp only [Act.put, List.setIfInBounds_toArray, List.set_cons_zero, List.set_cons_succ]); (refine wpAnyH_take (i := 7) (oi := ?oi8) (v := undef) ?h8 (by kernel_rfl) (by kernel_rfl) (by kernel_rfl) ?hQ8 ?hy8 (by first | exact hHeld | assumption) ?_; (case h8 => (simp only [List.getElem?_toArray, List.getElem?_cons_succ, List.getElem?_cons_zero]; exact rfl)); (case hQ8 => exact fun _ _ _ h => h); (case hy8 => exact Or.inr ⟨by rfl, rfl⟩); try simp only [Act.put, List.setIfInBounds_toArray, List.set_cons_zero, List.set_cons_succ]); (refine wpAnyH_take (i := 8) (oi := ?oi9) (v := undef) ?h9 (by kernel_rfl) (by kernel_rfl) (by kernel_rfl) ?hQ9 ?hy9 (by first | exact hHeld | assumption) ?_; (case h9 => (simp only [List.getElem?_toArray, List.getElem?_cons_succ, List.getElem?_cons_zero]; exact rfl)); (case hQ9 => exact fun _ _ _ h => h); (case hy9 => exact Or.inr ⟨by rfl, rfl⟩); try simp only [Act.put, List.setIfInBounds_toArray, List.set_cons_zero, List.set_cons_succ])
      refine wpAnyH_take (i := 9) (oi := ?oi10) (v := ?v10) ?h10 (by kernel_rfl) (by kernel_rfl) (by kernel_rfl) ?hQ10 ?hy10 (by first | exact hHeld | assumption) ?_; (case h10 => (simp only [List.getElem?_toArray, List.getElem?_cons_succ, List.getElem?_cons_zero]; exact rfl)); (case hQ10 => exact fun _ _ _ h => h); (case hy10 => (refine Or.inl ⟨by rfl, ?_⟩; intro w hSw; (try dsimp only at hSw); go_simp; try (first | with_reducible rfl | rfl))); try simp only [Act.put, List.setIfInBounds_toArray, List.set_cons_zero, List.set_cons_succ]
      refine wpAnyH_ready (rs := [10]) (by kernel_rfl) (by simp) ?_; refine AllReadyH.cons (o := ?oi11) ?h11 (fun K hK => ?_) AllReadyH.nil; (case h11 => (simp only [List.getElem?_toArray, List.getElem?_cons_succ, List.getElem?_cons_zero]; exact rfl)); go_simp; skip; refine hK.out _ _ ?_ (fun hNew => ?_); (· (refine ⟨?_, ?_⟩ <;> (first | (with_reducible refine kept_head ?_; (repeat (first | with_reducible assumption | with_reducible exact kept_refl _ | with_reducible exact hHeld.1 | with_reducible exact kept_trans hHeld.1 (kept_below hb) | with_reducible refine kept_alloc ?_ _ | with_reducible refine kept_drew ?_ | with_reducible refine kept_set ?_ (by first | (simp; done) | (simp; omega)) _)); done) | ((repeat (first | with_reducible assumption | with_reducible exact bl_refl _ | with_reducible exact hHeld.2 | with_reducible exact bl_trans hHeld.2 hb | with_reducible refine bl_alloc ?_ _ | with_reducible refine bl_set ?_ (by first | (simp; done) | (simp; omega)) _ | with_reducible refine bl_drew ?_)); done)))); clear hK K hHeld; revert hNew; intro hHeld; try simp only [Act.put, List.setIfInBounds_toArray, List.set_cons_zero, List.set_cons_succ]
      refine wpAnyH_done (by kernel_rfl) ?_ _
      have hbx := hHeld.2
      go_wp2_with fail
      go_ret
      exact ⟨rfl, hbx⟩
    · rw [ma] at ML
      have TK := Lib.hid (text_k HA.out BA.out)
      have TL := Lib.hid (text_l HA.out ma BA.out)
      generalize txt a = tt at TK TL
      go_upto_region 7 with fail
      refine wp_region_held_drew (S := (fun v => Kept w4 v ∧ Below w.heap.size w v)) (by kernel_rfl) ?_ (fun hHeld => ?_); (· exact ⟨kept_drew (kept_refl _), bl_drew hbr⟩)
      (refine wpAnyH_take (i := 0) (oi := ?oi12) (v := ?v12) ?h12 (by kernel_rfl) (by kernel_rfl) (by kernel_rfl) ?hQ12 ?hy12 (by first | exact hHeld | assumption) ?_; (case h12 => (simp only [List.getElem?_toArray, List.getElem?_cons_zero]; exact rfl)); (case hQ12 => exact fun _ _ _ h => h); (case hy12 => (refine Or.inl ⟨by rfl, ?_⟩; intro w hSw; (try dsimp only at hSw); obtain ⟨hk1, hb1⟩ := hSw; have c0 := hk1 _ _ _ c0; have c1 := hk1 _ _ _ c1; have c2 := hk1 _ _ _ c2; go_simp; try (first | with_reducible rfl | rfl))); try simp only [Act.put, List.setIfInBounds_toArray, List.set_cons_zero, List.set_cons_succ])
      refine wpAnyH_ready (rs := [1]) (by kernel_rfl) (by simp) ?_; refine AllReadyH.cons (o := ?oi13) ?h13 (fun K hK => ?_) AllReadyH.nil; (case h13 => (simp only [List.getElem?_toArray, List.getElem?_cons_succ, List.getElem?_cons_zero]; exact rfl)); go_simp; (refine (ML.out _ (kept_trans KW.out hHeld.1)).mono ?_; rintro e v1 ⟨rfl, hb⟩; have hk := below_keeps hb; obtain ⟨hc, hf⟩ := bcell hb; have hz := hb.size; have hw := hHeld.2.size; (try simp at hz); (try simp at hw)); refine hK.out _ _ ?_ (fun hNew => ?_); (· (refine ⟨?_, ?_⟩ <;> (first | (with_reducible refine kept_head ?_; (repeat (first | with_reducible assumption | with_reducible exact kept_refl _ | with_reducible exact hHeld.1 | with_reducible exact kept_trans hHeld.1 (kept_below hb) | with_reducible refine kept_alloc ?_ _ | with_reducible refine kept_drew ?_ | with_reducible refine kept_set ?_ (by first | (simp; done) | (simp; omega)) _)); done) | ((repeat (first | with_reducible assumption | with_reducible exact bl_refl _ | with_reducible exact hHeld.2 | with_reducible exact bl_trans hHeld.2 hb | with_reducible refine bl_alloc ?_ _ | with_reducible refine bl_set ?_ (by first | (simp; done) | (simp; omega)) _ | with_reducible refine bl_drew ?_)); done)))); clear hK K hHeld; revert hNew; intro hHeld; try simp only [Act.put, List.setIfInBounds_toArray, List.set_cons_zero, List.set_cons_succ]
      (refine wpAnyH_take (i := 2) (oi := ?oi14) (v := ?v14) ?h14 (by kernel_rfl) (by kernel_rfl) (by kernel_rfl) ?hQ14 ?hy14 (by first | exact hHeld | assumption) ?_; (case h14 => (simp only [List.getElem?_toArray, List.getElem?_cons_succ, List.getElem?_cons_zero]; exact rfl)); (case hQ14 => exact fun _ _ _ h => h); (case hy14 => (refine Or.inl ⟨by rfl, ?_⟩; intro w hSw; (try dsimp only at hSw); go_simp; try (first | with_reducible rfl | rfl))); try simp only [Act.put, List.setIfInBounds_toArray, List.set_cons_zero, List.set_cons_succ]); (refine wpAnyH_take (i := 3) (oi := ?oi15) (v := ?v15) ?h15 (by kernel_rfl) (by kernel_rfl) (by kernel_rfl) ?hQ15 ?hy15 (by first | exact hHeld | assumption) ?_; (case h15 => (simp only [List.getElem?_toArray, List.getElem?_cons_succ, List.getElem?_cons_zero]; exact rfl)); (case hQ15 => exact fun _ _ _ h => h); (case hy15 => (refine Or.inl ⟨by rfl, ?_⟩; intro w hSw; (try dsimp only at hSw); go_simp; try (first | with_reducible rfl | rfl))); try simp only [Act.put, List.setIfInBounds_toArray, List.set_cons_zero, List.set_cons_succ])
      (refine wpAnyH_take (i := 4) (oi := ?oi16) (v := ?v16) ?h16 (by kernel_rfl) (by kernel_rfl) (by kernel_rfl) ?hQ16 ?hy16 (by first | exact hHeld | assumption) ?_; (case h16 => (simp only [List.getElem?_toArray, List.getElem?_cons_succ, List.getElem?_cons_zero]; exact rfl)); (case hQ16 => exact fun _ _ _ h => h); (case hy16 => (refine Or.inl ⟨by rfl, ?_⟩; intro w hSw; (try dsimp only at hSw); obtain ⟨hk1, hb1⟩ := hSw; have c0 := hk1 _ _ _ c0; have c1 := hk1 _ _ _ c1; have c2 := hk1 _ _ _ c2; go_simp; try (first | with_reducible rfl | rfl))); try simp only [Act.put, List.setIfInBounds_toArray, List.set_cons_zero, List.set_cons_succ]); (refine wpAnyH_take (i := 6) (oi := ?oi17) (v := ?v17) ?h17 (by kernel_rfl) (by kernel_rfl) (by kernel_rfl) ?hQ17 ?hy17 (by first | exact hHeld | assumption) ?_; (case h17 => (simp only [List.getElem?_toArray, List.getElem?_cons_succ, List.getElem?_cons_zero]; exact rfl)); (case hQ17 => exact fun _ _ _ h => h); (case hy17 => (refine Or.inl ⟨by rfl, ?_⟩; intro w hSw; (try dsimp only at hSw); obtain ⟨hk1, hb1⟩ := hSw; have c0 := hk1 _ _ _ c0; have c1 := hk1 _ _ _ c1; have c2 := hk1 _ _ _ c2; go_simp; try (first | with_reducible rfl | rfl))); try simp only [Act.put, List.setIfInBounds_toArray, List.set_cons_zero, List.set_cons_succ])
      refine wpAnyH_ready (rs := [5]) (by kernel_rfl) (by simp) ?_; refine AllReadyH.cons (o := ?oi18) ?h18 (fun K hK => ?_) AllReadyH.nil; (case h18 => (simp only [List.getElem?_toArray, List.getElem?_cons_succ, List.getElem?_cons_zero]; exact rfl)); go_simp; (refine (TK.out _ (kept_trans KW.out hHeld.1)).mono ?_; rintro e v1 ⟨rfl, hb⟩; have hk := below_keeps hb; obtain ⟨hc, hf⟩ := bcell hb; have hz := hb.size; have hw := hHeld.2.size; (try simp at hz); (try simp at hw)); refine hK.out _ _ ?_ (fun hNew => ?_); (· (refine ⟨?_, ?_⟩ <;> (first | (with_reducible refine kept_head ?_; (repeat (first | with_reducible assumption | with_reducible exact kept_refl _ | with_reducible exact hHeld.1 | with_reducible exact kept_trans hHeld.1 (kept_below hb) | with_reducible refine kept_alloc ?_ _ | with_reducible refine kept_drew ?_ | with_reducible refine kept_set ?_ (by first | (simp; done) | (simp; omega)) _)); done) | ((repeat (first | with_reducible assumption | with_reducible exact bl_refl _ | with_reducible exact hHeld.2 | with_reducible exact bl_trans hHeld.2 hb | with_reducible refine bl_alloc ?_ _ | with_reducible refine bl_set ?_ (by first | (simp; done) | (simp; omega)) _ | with_reducible refine bl_drew ?_)); done)))); clear hK K hHeld; revert hNew; intro hHeld; try simp only [Act.put, List.setIfInBounds_toArray, List.set_cons_zero, List.set_cons_succ]
      refine wpAnyH_ready (rs := [7]) (by kernel_rfl) (by simp) ?_; refine AllReadyH.cons (o := ?oi19) ?h19 (fun K hK => ?_) AllReadyH.nil; (case h19 => (simp only [List.getElem?_toArray, List.getElem?_cons_succ, List.getElem?_cons_zero]; exact rfl)); go_simp; (refine (TL.out _ (kept_trans KW.out hHeld.1)).mono ?_; rintro e v1 ⟨rfl, hb⟩; have hk := below_keeps hb; obtain ⟨hc, hf⟩ := bcell hb; have hz := hb.size; have hw := hHeld.2.size; (try simp at hz); (try simp at hw)); refine hK.out _ _ ?_ (fun hNew => ?_); (· (refine ⟨?_, ?_⟩ <;> (first | (with_reducible refine kept_head ?_; (repeat (first | with_reducible assumption | with_reducible exact kept_refl _ | with_reducible exact hHeld.1 | with_reducible exact kept_trans hHeld.1 (kept_below hb) | with_reducible refine kept_alloc ?_ _ | with_reducible refine kept_drew ?_ | with_reducible refine kept_set ?_ (by first | (simp; done) | (simp; omega)) _)); done) | ((repeat (first | with_reducible assumption | with_reducible exact bl_refl _ | with_reducible exact hHeld.2 | with_reducible exact bl_trans hHeld.2 hb | with_reducible refine bl_alloc ?_ _ | with_reducible refine bl_set ?_ (by first | (simp; done) | (simp; omega)) _ | with_reducible refine bl_drew ?_)); done)))); clear hK K hHeld; revert hNew; intro hHeld; try simp only [Act.put, List.setIfInBounds_toArray, List.set_cons_zero, List.set_cons_succ]
      (refine wpAnyH_take (i := 8) (oi := ?oi20) (v := ?v20) ?h20 (by kernel_rfl) (by kernel_rfl) (by kernel_rfl) ?hQ20 ?hy20 (by first | exact hHeld | assumption) ?_; (case h20 => (simp only [List.getElem?_toArray, List.getElem?_cons_succ, List.getElem?_cons_zero]; exact rfl)); (case hQ20 => exact fun _ _ _ h => h); (case hy20 => (refine Or.inl ⟨by rfl, ?_⟩; intro w hSw; (try dsimp only at hSw); go_simp; try (first | with_reducible rfl | rfl))); try simp only [Act.put, List.setIfInBounds_toArray, List.set_cons_zero, List.set_cons_succ]); (refine wpAnyH_take (i := 9) (oi := ?oi21) (v := ?v21) ?h21 (by kernel_rfl) (by kernel_rfl) (by kernel_rfl) ?hQ21 ?hy21 (by first | exact hHeld | assumption) ?_; (case h21 => (simp only [List.getElem?_toArray, List.getElem?_cons_succ, List.getElem?_cons_zero]; exact rfl)); (case hQ21 => exact fun _ _ _ h => h); (case hy21 => (refine Or.inl ⟨by rfl, ?_⟩; intro w hSw; (try dsimp only at hSw); go_simp; try (first | with_reducible rfl | rfl))); try simp only [Act.put, List.setIfInBounds_toArray, List.set_cons_zero, List.set_cons_succ])
      refine wpAnyH_ready (rs := [10]) (by kernel_rfl) (by simp) ?_; refine AllReadyH.cons (o := ?oi22) ?h22 (fun K hK => ?_) AllReadyH.nil; (case h22 => (simp only [List.getElem?_toArray, List.getElem?_cons_succ, List.getElem?_cons_zero]; exact rfl)); go_simp; skip; refine hK.out _ _ ?_ (fun hNew => ?_); (· (refine ⟨?_, ?_⟩ <;> (first | (with_reducible refine kept_head ?_; (repeat (first | with_reducible assumption | with_reducible exact kept_refl _ | with_reducible exact hHeld.1 | with_reducible exact kept_trans hHeld.1 (kept_below hb) | with_reducible refine kept_alloc ?_ _ | with_reducible refine kept_drew ?_ | with_reducible refine kept_set ?_ (by first | (simp; done) | (simp; omega)) _)); done) | ((repeat (first | with_reducible assumption | with_reducible exact bl_refl _ | with_reducible exact hHeld.2 | with_reducible exact bl_trans hHeld.2 hb | with_reducible refine bl_alloc ?_ _ | with_reducible refine bl_set ?_ (by first | (simp; done) | (simp; omega)) _ | with_reducible refine bl_drew ?_)); done)))); clear hK K hHeld; revert hNew; intro hHeld; try simp only [Act.put, List.setIfInBounds_toArray, List.set_cons_zero, List.set_cons_succ]
      refine wpAnyH_done (by kernel_rfl) ?_ _
      have hbx := hHeld.2
      go_wp2_with fail
      go_ret
      exact ⟨rfl, hbx⟩
  · go_wp2_with fail
    go_ret
    exact ⟨rfl, hbr⟩

set_option maxRecDepth 100000 in
theorem kindsTexts_lifted (os : Os) (started : os.Started) (H : Type) (enc : TypeId × Value → H) (FI : Stop.Interp) :
    ReturnsInHanded {} Try.checked os 5 .any ((Rows.OpenSpec.upto Rows.kindsTextsSpec).pre6 enc Try.prog Try.f5 Rows.kindsTextsUptoRow.domain false) (((Rows.OpenSpec.upto Rows.kindsTextsSpec).at FI).post enc Try.prog Try.f5 false true false false) := by
  refine returnsInHanded_of_cond (C := Try.checked) (s := Rows.OpenSpec.upto Rows.kindsTextsSpec) (k := Rows.uptoSmall) rfl Try.own started (by kernel_rfl) Try.func5
    (OpenSpec.witness (enc := enc) (C := Try.checked) (s := Rows.OpenSpec.upto Rows.kindsTextsSpec) (k := Rows.uptoSmall) rfl false ⟨#[], #[.agg #[.int .i64 0, .slice none 0 0, .slice none 0 0], .string ⟨#[]⟩, .int .i64 0], []⟩ 8 (by kernel_rfl) (by kernel_rfl) (by kernel_rfl)
      (x := ([.agg [.lit (.int .i64 0), .nil, .nil], .lit (.string []), .lit (.int .i64 0)], [], [])) (by kernel_rfl) rfl (by kernel_rfl)) ?_
  intro W base args ds gs before hval0 hW _ hk _
  have hval : ∀ (j : Nat) t v, Try.f5.params[j]? = some t → args[j]? = some v → Value.okWide Try.prog W .any base t v := hval0
  have hW' := hW
  obtain ⟨p, q, hA0, hV, rfl, hfz, hnd⟩ := hW
  have hA : DataW.TrodAll enc Try.prog W 0 (fun _ => true) true Try.f5.params.toList args.toList ds p := hA0
  rw [Try.params5] at hA hval
  obtain ⟨v0, vs0, d0, ds0, p0, q0, hargs, rfl, rfl, h0, r0⟩ := trodAll_cons hA
  obtain ⟨v1, vs1, d1, ds1, p1, q1, rfl, rfl, rfl, h1, r1⟩ := trodAll_cons r0
  obtain ⟨v2, vs2, d2, ds2, p2, q2, rfl, rfl, rfl, h2, r2⟩ := trodAll_cons r1
  obtain ⟨rfl, rfl, rfl⟩ := trodAll_nil r2
  obtain rfl : args = #[v0, v1, v2] := by cases args; simp_all
  obtain ⟨rfl, rfl⟩ := trodVars_none hV
  obtain ⟨a0T, a0i, a0n, rfl, a0w, a0b⟩ := open_type_bk (hval 0 26 v0 rfl rfl) h0
  obtain ⟨a1, rfl, rfl, rfl, a1w⟩ := Go.ChangeMaps.open_string Try.underlying9 (hval 1 9 v1 rfl rfl) h1
  obtain ⟨a2, rfl, rfl, rfl, a2w⟩ := open_int Try.underlying3 (hval 2 3 v2 rfl rfl) h2
  have hbulk := of_decide_eq_true hk
  simp only [Rows.uptoBulkAll, List.append_nil] at hbulk
  clear hA0 hval0
  refine (texts_walk a0T a0i a0n a1 a2 W a0w (bounds_i64 a2w) ⟨by omega, by have := bulk_str (H := H) a1; omega⟩).mono fun e W' ⟨he, hg⟩ => ?_
  subst he
  exact ⟨_, rfl, law_post_upto Try.laidOut (by kernel_rfl) rfl rfl Try.underlying4 hW' rfl hg⟩

theorem kindsTexts_holds : Rows.KindsTextsUptoSaid :=
  OpenClaim.holds_of_cond 5 Try.f5 rfl rfl rfl rfl rfl rfl rfl ⟨rfl, rfl, rfl, rfl, rfl⟩ rfl rfl rfl rfl rfl (by kernel_rfl) Try.func5 (by kernel_rfl)
    (of_decide_eq_true (by kernel_rfl)) (by unfold Func.isWrapper; first | (rw [if_pos (by decide +kernel)]; kernel_rfl) | (rw [if_neg (by decide +kernel)]; exact ⟨rfl, rfl⟩))
    (fun os started H enc _ F => kindsTexts_lifted os started H enc F)

#print axioms kindsTexts_holds

end Go.Proofs.Ytnkecbpocgcdfaa
