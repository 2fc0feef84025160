/-
  The contracts of slices.Clone and FuncOf.
-/
import Derived.Test.YtnkecbpocgcdfaaKk
import Derived.Deep.AppendLies
import Derived.OwnWalk
import Derived.Lib.SliceRun
namespace Go.Proofs.Ytnkecbpocgcdfaa
open Go.ChangeShapes Go.WideShapes Go.ChangeAt Go.RowKit Go.Joins

theorem info_type : (Try.prog.info? 26).map (fun i => (i.zero, i.size, i.bytes)) = some (some (.agg #[.int .i64 0, .slice none 0 0, .slice none 0 0]), 3, 56) := by kernel_rfl

theorem news3 {w : World} {B : Nat} {x y z : Value} (h0 : w.cell? ⟨B, 0, none⟩ = some x) (h1 : w.cell? ⟨B, 1, none⟩ = some y) (h2 : w.cell? ⟨B, 2, none⟩ = some z) :
    ∀ j u, [x, y, z][j]? = some u → w.cell? ((⟨B, 0, none⟩ : Addr).add j) = some u := by
  intro j u h
  rw [add_plain, Nat.zero_add]
  match j, h with
  | 0, h => simp at h; subst h; exact h0
  | 1, h => simp at h; subst h; exact h1
  | 2, h => simp at h; subst h; exact h2
  | j + 3, h => simp at h

def FuncMade (k : Int) (x y : Value) (L : Nat) (news : List Value) (W : World) (e : Ending) (w' : World) : Prop :=
  ∃ g cap, e = .returned (.agg #[.int .i64 13, .slice (some ⟨g, 0, none⟩) (L + 1) cap, .slice none 0 0]) ∧ L + 1 ≤ cap ∧ cap ≤ 9223372036854775807 ∧
    (∀ j u, (news ++ [.int .i64 k, x, y])[j]? = some u → w'.cell? ⟨g, j, none⟩ = some u) ∧ Below W.heap.size W w'

theorem kept_grown {a w w' : World} {g : Nat} (h : Kept a w) (hg : w.grownBy w' (some g)) (hn : a.heap.size ≤ g) : Kept a w' := by
  intro b o v q
  have hb := lt_of_cell q
  have hw := h _ _ _ q
  exact (hg.cell_far ⟨b, o, none⟩ (lt_of_cell hw) (by simp; omega)).trans hw

theorem own_base {w : World} {base : Nat} {e : TypeId} {size g n cap : Nat} {xs : List Value} (h : w.ownsRow base e size (.slice (some ⟨g, 0, none⟩) n cap) n xs) :
    base ≤ g ∧ g < w.heap.size ∧ n ≤ cap ∧ cap ≤ 9223372036854775807 := by
  rcases h.2 with ⟨h', _⟩ | ⟨g', cap', cur, h', hb, hg, hn, hc, _⟩
  · simp at h'
  · simp only [Value.slice.injEq, Option.some.injEq, Addr.mk.injEq, and_true, true_and] at h'
    obtain ⟨rfl, rfl⟩ := h'
    refine ⟨hb, ?_, hn, by unfold maxLen at hc; omega⟩
    rcases Nat.lt_or_ge g w.heap.size with hlt | hge
    · exact hlt
    · rw [Array.getElem?_eq_none hge] at hg; cases hg

theorem own_new (w : World) (t : TypeId) (size : Nat) : (w.alloc (.cells #[] t)).ownsRow w.heap.size t size (.slice (some ⟨w.heap.size, 0, none⟩) 0 0) 0 [] :=
  ⟨by simp, Or.inr ⟨w.heap.size, 0, #[], rfl, Nat.le_refl _, heap_alloc_new w _, Nat.le_refl _, Nat.zero_le _, by simp, by simp⟩⟩

theorem news_alloc {w : World} {b o : Nat} {news : List Value} (hn : ∀ j u, news[j]? = some u → w.cell? ⟨b, o + j, none⟩ = some u) (x : Obj) : ∀ j u, news[j]? = some u → (w.alloc x).cell? ((⟨b, o, none⟩ : Addr).add j) = some u :=
  fun j u h => by rw [add_plain]; exact cell_alloc_keep (hn j u h)

def Clones (L : Nat) (news : List Value) (W : World) (e : Ending) (w' : World) : Prop :=
  ∃ g cap, e = .returned (.slice (some ⟨g, 0, none⟩) L cap) ∧ w'.ownsRow W.heap.size 26 3 (.slice (some ⟨g, 0, none⟩) L cap) L news ∧ Below W.heap.size W w'

set_option maxHeartbeats 1000000 in
theorem clone_k (b o L c : Nat) (news : List Value) (w : World) (hl : news.length = L * 3) (hn : ∀ j u, news[j]? = some u → w.cell? ⟨b, o + j, none⟩ = some u) (h1 : ∀ u ∈ news, u.oneCell' = true) (h2 : 0 < L) (h3 : L ≤ 2199023255552) :
    Calls Try.prog 41 #[.slice (some ⟨b, o, none⟩) L c] w (Clones L news w) := by
  obtain ⟨i0, hi0, hz0, hz1, hz2⟩ := info_parts info_type
  have HQ := fun w => Lib.run_eql_slice_nil (P := Try.prog) w 23 26 (some ⟨b, o, none⟩) L c 0 0 Try.underlying23
  go_enter Try.func41, Try.ntmps41
  have HN := Lib.hid hn
  clear hn
  go_wp2_with (at_builtin; (refine wpList_append_lies _ rfl _ _ _ rfl w.heap.size 26 i0 _ 3 56 Try.underlying23 hi0 hz0 hz1 hz2 (by rfl) (by omega) (.slice (some ⟨w.heap.size, 0, none⟩) 0 0) 0 [] (by rfl) (own_new w _ _) ⟨b, o, none⟩ L c news (by rfl) hl (news_alloc HN.out _) h1 h2 (by unfold maxLen; omega) (by omega) (by simp) (w.heap.size + 1) (by simp) ?_; intro g cap w1 hown hgrow hat hlt))
  go_ret
  refine ⟨g, cap, rfl, by simpa using hown, ?_⟩
  have hb1 : Below w.heap.size w (w.alloc (.cells #[] 26)) := bl_alloc (bl_refl w) _
  exact hb1.grown hgrow (by simp) (fun k h => by simp [Value.ownBlock] at h; omega)

set_option maxHeartbeats 1000000 in
theorem funcOf_walk (k : Int) (xa : Option Addr) (xl xc : Nat) (ya : Option Addr) (yl yc : Nat) (b o L c : Nat) (news : List Value) (w : World) (hl : news.length = L * 3) (hn : ∀ j u, news[j]? = some u → w.cell? ⟨b, o + j, none⟩ = some u) (h1 : ∀ u ∈ news, u.oneCell' = true) (h2 : 0 < L) (h3 : L ≤ 2199023255551) :
    Calls Try.prog 32 #[.agg #[.int .i64 k, .slice xa xl xc, .slice ya yl yc], .slice (some ⟨b, o, none⟩) L c] w (FuncMade k (.slice xa xl xc) (.slice ya yl yc) L news w) := by
  obtain ⟨i0, hi0, hz0, hz1, hz2⟩ := info_parts info_type
  have z1 : w.heap.size < w.heap.size + 1 + 1 := by omega
  have HCL := Lib.hid (fun v (q : Kept w v) => clone_k b o L c news v hl (fun j u h => q _ _ _ (hn j u h)) h1 h2 (by omega))
  clear hn
  go_enter Try.func32, Try.ntmps32
  go_wp2_with fail
  refine wp_region_held_drew (S := (fun v => v.cell? ⟨w.heap.size, 0, none⟩ = some (.int .i64 k) ∧ v.cell? ⟨w.heap.size, 1, none⟩ = some (.slice xa xl xc) ∧ v.cell? ⟨w.heap.size, 2, none⟩ = some (.slice ya yl yc) ∧ Below w.heap.size w v)) (by kernel_rfl) ?_ (fun hHeld => ?_); (· ((try dsimp only); (try go_split_ands); (repeat' apply And.intro) <;> (first | (with_reducible refine kept_head ?_; (refine kept_drew ?_; exact kept_alloc (kept_alloc (kept_refl _) _) _)) | (simp [go_sem, *]; done) | (repeat (first | with_reducible assumption | with_reducible exact bl_refl _ | with_reducible refine bl_alloc ?_ _ | with_reducible refine bl_set ?_ (by first | (simp; done) | (simp; omega)) _ | with_reducible refine bl_drew ?_ | with_reducible refine bl_drewN ?_ _ | with_reducible refine bl_trans ?_ (by assumption))))))
  (refine wpAnyH_take (i := 0) (oi := ?oi1) (v := ?v1) ?h1 (by kernel_rfl) (by kernel_rfl) (by kernel_rfl) ?hQ1 ?hy1 (by first | exact hHeld | assumption) ?_; (case h1 => (simp only [List.getElem?_toArray, List.getElem?_cons_zero]; exact rfl)); (case hQ1 => exact fun _ _ _ h => h); (case hy1 => (refine Or.inl ⟨by rfl, ?_⟩; intro w hSw; (try dsimp only at hSw); go_simp; try (first | with_reducible rfl | rfl))); try simp only [Act.put, List.setIfInBounds_toArray, List.set_cons_zero, List.set_cons_succ]); (refine wpAnyH_take (i := 2) (oi := ?oi2) (v := ?v2) ?h2 (by kernel_rfl) (by kernel_rfl) (by kernel_rfl) ?hQ2 ?hy2 (by first | exact hHeld | assumption) ?_; (case h2 => (simp only [List.getElem?_toArray, List.getElem?_cons_succ, List.getElem?_cons_zero]; exact rfl)); (case hQ2 => exact fun _ _ _ h => h); (case hy2 => (refine Or.inl ⟨by rfl, ?_⟩; intro w hSw; (try dsimp only at hSw); go_simp; try (first | with_reducible rfl | rfl))); try simp only [Act.put, List.setIfInBounds_toArray, List.set_cons_zero, List.set_cons_succ])
  refine wpAnyH_ready (rs := [1, 3]) (by kernel_rfl) (by simp) ?_; refine AllReadyH.cons (o := ?oi3) ?h3 (fun K hK => ?_) (AllReadyH.cons (o := ?oi4) ?h4 (fun K hK => ?_) AllReadyH.nil); (case h3 => (simp only [List.getElem?_toArray, List.getElem?_cons_succ, List.getElem?_cons_zero]; exact rfl)); (case h4 => (simp only [List.getElem?_toArray, List.getElem?_cons_succ, List.getElem?_cons_zero]; exact rfl))
  · go_simp; (refine (HCL.out _ (by first | exact kept_drew (kept_alloc (kept_alloc (kept_alloc (kept_refl _) _) _) _) | exact kept_drew (kept_alloc (kept_alloc (kept_refl _) _) _))).mono ?_; rintro e v1 ⟨g, cap, rfl, hown, hb⟩; have hk := below_keeps hb; obtain ⟨r0, r1, r2, rf0, rf1, rf2, rl⟩ := keep3 (b := w.heap.size + 1) (x := .int .i64 0) (y := .slice none 0 0) (z := .slice none 0 0) hb (by simp [go_sem, *]) (by simp [go_sem, *]) (by simp [go_sem, *]) (by simp [go_sem, *]) (by simp [go_sem, *]) (by simp [go_sem, *])); refine hK.out _ _ ?_ (fun hNew => ?_); (· ((try dsimp only); (try go_split_ands); (repeat' apply And.intro) <;> (first | with_reducible assumption | (with_reducible refine kept_head ?_; (first | with_reducible assumption | ((repeat (first | with_reducible refine kept_alloc ?_ _ | with_reducible refine kept_drew ?_)); (first | with_reducible assumption | with_reducible exact kept_refl _)) | exact kept_trans (by assumption) (kept_below hb))) | exact hk _ _ _ (by assumption) | (simp [go_sem, *]; done) | (repeat (first | with_reducible assumption | with_reducible exact bl_refl _ | with_reducible refine bl_alloc ?_ _ | with_reducible refine bl_set ?_ (by first | (simp; done) | (simp; omega)) _ | with_reducible refine bl_drew ?_ | with_reducible refine bl_drewN ?_ _ | with_reducible refine bl_trans ?_ (by assumption)))))); clear hK K hHeld; revert hNew; intro hHeld; try simp only [Act.put, List.setIfInBounds_toArray, List.set_cons_zero, List.set_cons_succ]
    have la := lt_of_cell hHeld.1
    obtain ⟨gb, gl, gc, gm⟩ := own_base hown
    simp at gb
    refine wpAnyH_ready (rs := [3]) (by kernel_rfl) (by simp) ?_; refine AllReadyH.cons (o := ?oi5) ?h5 (fun K hK => ?_) AllReadyH.nil; (case h5 => (simp only [List.getElem?_toArray, List.getElem?_cons_succ, List.getElem?_cons_zero]; exact rfl)); go_simp; skip; refine hK.out _ _ ?_ (fun hNew => ?_); (· ((try dsimp only); (try go_split_ands); (repeat' apply And.intro) <;> (first | with_reducible assumption | (with_reducible refine kept_head ?_; (first | with_reducible assumption | ((repeat (first | with_reducible refine kept_alloc ?_ _ | with_reducible refine kept_drew ?_)); (first | with_reducible assumption | with_reducible exact kept_refl _)) | exact kept_trans (by assumption) (kept_below hb))) | exact hk _ _ _ (by assumption) | (simp [go_sem, *]; done) | (repeat (first | with_reducible assumption | with_reducible exact bl_refl _ | with_reducible refine bl_alloc ?_ _ | with_reducible refine bl_set ?_ (by first | (simp; done) | (simp; omega)) _ | with_reducible refine bl_drew ?_ | with_reducible refine bl_drewN ?_ _ | with_reducible refine bl_trans ?_ (by assumption)))))); clear hK K hHeld; revert hNew; intro hHeld; try simp only [Act.put, List.setIfInBounds_toArray, List.set_cons_zero, List.set_cons_succ]
    refine wpAnyH_ready (rs := [4]) (by kernel_rfl) (by simp) ?_; refine AllReadyH.cons (o := ?oi6) ?h6 (fun K hK => ?_) AllReadyH.nil; (case h6 => (simp only [List.getElem?_toArray, List.getElem?_cons_succ, List.getElem?_cons_zero]; exact rfl))
    refine step_append_lies _ (by rfl) _ _ _ (by rfl) _ 26 i0 _ 3 56 Try.underlying23 hi0 hz0 hz1 hz2 (by rfl) (by omega) (.slice (some ⟨g, 0, none⟩) L cap) L news (by rfl) (hown.alloc _).drew ⟨v1.heap.size, 0, none⟩ 1 1 [.int .i64 k, .slice xa xl xc, .slice ya yl yc] (by rfl) (by rfl) (news3 (by simp [go_sem]) (by simp [go_sem]) (by simp [go_sem])) (by simp [Value.oneCell']) (by omega) (by unfold maxLen; omega) (by omega) (by simp; omega) (v1.heap.size + 1) (by simp) ?_
    intro g2 cap2 w2 hown2 hgrow hat hlt
    obtain ⟨gb2, gl2, gc2, gm2⟩ := own_base hown2
    simp at gb2
    try dsimp only at hHeld
    obtain ⟨s0, s1, s2, sb⟩ := hHeld
    refine hK.out _ _ ⟨(hgrow.cell_far _ (by first | omega | (simp; omega)) (by simp [Value.ownBlock]; omega)).trans s0, (hgrow.cell_far _ (by first | omega | (simp; omega)) (by simp [Value.ownBlock]; omega)).trans s1, (hgrow.cell_far _ (by first | omega | (simp; omega)) (by simp [Value.ownBlock]; omega)).trans s2, sb.grown hgrow (by first | omega | (simp; omega)) (fun q h => by simp [Value.ownBlock] at h; omega)⟩ (fun hHeld => ?_)
    have q0 := (hgrow.cell_far ⟨w.heap.size + 1, 0, none⟩ (by first | omega | (simp; omega)) (by simp [Value.ownBlock]; omega)).trans (by simp [go_sem, *] : _ = some (Value.int .i64 0))
    have q1 := (hgrow.cell_far ⟨w.heap.size + 1, 1, none⟩ (by first | omega | (simp; omega)) (by simp [Value.ownBlock]; omega)).trans (by simp [go_sem, *] : _ = some (Value.slice none 0 0))
    have q2 := (hgrow.cell_far ⟨w.heap.size + 1, 2, none⟩ (by first | omega | (simp; omega)) (by simp [Value.ownBlock]; omega)).trans (by simp [go_sem, *] : _ = some (Value.slice none 0 0))
    have f0 := (hgrow.frozen_far ⟨w.heap.size + 1, 0, none⟩ (by first | omega | (simp; omega)) (by simp [Value.ownBlock]; omega)).trans (by simp [go_sem, *] : _ = false)
    have f1 := (hgrow.frozen_far ⟨w.heap.size + 1, 1, none⟩ (by first | omega | (simp; omega)) (by simp [Value.ownBlock]; omega)).trans (by simp [go_sem, *] : _ = false)
    have f2 := (hgrow.frozen_far ⟨w.heap.size + 1, 2, none⟩ (by first | omega | (simp; omega)) (by simp [Value.ownBlock]; omega)).trans (by simp [go_sem, *] : _ = false)
    have ql := lt_of_cell q0
    have HO := Lib.hid hown2
    clear hK K hgrow hown hown2 hat s0 s1 s2 sb hk r0 r1 r2 rf0 rf1 rf2
    (try simp only [Act.put, List.setIfInBounds_toArray, List.set_cons_zero, List.set_cons_succ])
    refine wpAnyH_take (i := 5) (oi := ?oi7) (v := ?v7) ?h7 (by kernel_rfl) (by kernel_rfl) (by kernel_rfl) ?hQ7 ?hy7 (by first | exact hHeld | assumption) ?_; (case h7 => (simp only [List.getElem?_toArray, List.getElem?_cons_succ, List.getElem?_cons_zero]; exact rfl)); (case hQ7 => exact fun _ _ _ h => h); (case hy7 => (refine Or.inl ⟨by rfl, ?_⟩; intro w hSw; (try dsimp only at hSw); go_simp; try (first | with_reducible rfl | rfl))); try simp only [Act.put, List.setIfInBounds_toArray, List.set_cons_zero, List.set_cons_succ]
    refine wpAnyH_ready (rs := [6]) (by kernel_rfl) (by simp) ?_; refine AllReadyH.cons (o := ?oi8) ?h8 (fun K hK => ?_) AllReadyH.nil; (case h8 => (simp only [List.getElem?_toArray, List.getElem?_cons_succ, List.getElem?_cons_zero]; exact rfl)); go_simp; skip; refine hK.out _ _ ?_ (fun hNew => ?_); (· ((try dsimp only); (try go_split_ands); (repeat' apply And.intro) <;> (first | with_reducible assumption | (with_reducible refine kept_head ?_; (first | with_reducible assumption | ((repeat (first | with_reducible refine kept_alloc ?_ _ | with_reducible refine kept_drew ?_)); (first | with_reducible assumption | with_reducible exact kept_refl _)) | exact kept_trans (by assumption) (kept_below hb))) | exact hk _ _ _ (by assumption) | (simp [go_sem, *]; done) | (repeat (first | with_reducible assumption | with_reducible exact bl_refl _ | with_reducible refine bl_alloc ?_ _ | with_reducible refine bl_set ?_ (by first | (simp; done) | (simp; omega)) _ | with_reducible refine bl_drew ?_ | with_reducible refine bl_drewN ?_ _ | with_reducible refine bl_trans ?_ (by assumption)))))); clear hK K hHeld; revert hNew; intro hHeld; try simp only [Act.put, List.setIfInBounds_toArray, List.set_cons_zero, List.set_cons_succ]
    refine wpAnyH_done (by kernel_rfl) ?_ _
    go_wp2_with fail
    have hbx := hHeld.2.2.2
    refine bodyPost_ret (v := .agg #[.int .i64 13, .slice (some ⟨g2, 0, none⟩) (L + 1) cap2, .slice none 0 0]) (by simp [results, Try.results32, go_sem, *]) rfl ⟨g2, cap2, rfl, gc2, gm2, fun j u h => ?_, hbx⟩
    rw [World.cell?_setCell_far _ _ _ _ (by simp; omega), World.cell?_setCell_far _ _ _ _ (by simp; omega), World.cell?_setCell_far _ _ _ _ (by simp; omega)]
    have hj : j < (L + 1) * 3 := by
      have := (List.getElem?_eq_some_iff.1 h).1
      rw [List.length_append] at this
      simp at this
      omega
    rw [HO.out.cellAt j hj, h]
  · go_simp; skip; refine hK.out _ _ ?_ (fun hNew => ?_); (· ((try dsimp only); (try go_split_ands); (repeat' apply And.intro) <;> (first | with_reducible assumption | (with_reducible refine kept_head ?_; (first | with_reducible assumption | ((repeat (first | with_reducible refine kept_alloc ?_ _ | with_reducible refine kept_drew ?_)); (first | with_reducible assumption | with_reducible exact kept_refl _)) | exact kept_trans (by assumption) (kept_below hb))) | exact hk _ _ _ (by assumption) | (simp [go_sem, *]; done) | (repeat (first | with_reducible assumption | with_reducible exact bl_refl _ | with_reducible refine bl_alloc ?_ _ | with_reducible refine bl_set ?_ (by first | (simp; done) | (simp; omega)) _ | with_reducible refine bl_drew ?_ | with_reducible refine bl_drewN ?_ _ | with_reducible refine bl_trans ?_ (by assumption)))))); clear hK K hHeld; revert hNew; intro hHeld; try simp only [Act.put, List.setIfInBounds_toArray, List.set_cons_zero, List.set_cons_succ]
    refine wpAnyH_ready (rs := [1]) (by kernel_rfl) (by simp) ?_; refine AllReadyH.cons (o := ?oi9) ?h9 (fun K hK => ?_) AllReadyH.nil; (case h9 => (simp only [List.getElem?_toArray, List.getElem?_cons_succ, List.getElem?_cons_zero]; exact rfl)); go_simp; (refine (HCL.out _ (by first | exact kept_drew (kept_alloc (kept_alloc (kept_alloc (kept_refl _) _) _) _) | exact kept_drew (kept_alloc (kept_alloc (kept_refl _) _) _))).mono ?_; rintro e v1 ⟨g, cap, rfl, hown, hb⟩; have hk := below_keeps hb; obtain ⟨r0, r1, r2, rf0, rf1, rf2, rl⟩ := keep3 (b := w.heap.size + 1) (x := .int .i64 0) (y := .slice none 0 0) (z := .slice none 0 0) hb (by simp [go_sem, *]) (by simp [go_sem, *]) (by simp [go_sem, *]) (by simp [go_sem, *]) (by simp [go_sem, *]) (by simp [go_sem, *]); obtain ⟨n0, n1, n2, nl⟩ := keep3c (b := w.heap.size + 1 + 1) (x := .int .i64 k) (y := .slice xa xl xc) (z := .slice ya yl yc) hb (by simp [go_sem, *]) (by simp [go_sem, *]) (by simp [go_sem, *])); refine hK.out _ _ ?_ (fun hNew => ?_); (· ((try dsimp only); (try go_split_ands); (repeat' apply And.intro) <;> (first | with_reducible assumption | (with_reducible refine kept_head ?_; (first | with_reducible assumption | ((repeat (first | with_reducible refine kept_alloc ?_ _ | with_reducible refine kept_drew ?_)); (first | with_reducible assumption | with_reducible exact kept_refl _)) | exact kept_trans (by assumption) (kept_below hb))) | exact hk _ _ _ (by assumption) | (simp [go_sem, *]; done) | (repeat (first | with_reducible assumption | with_reducible exact bl_refl _ | with_reducible refine bl_alloc ?_ _ | with_reducible refine bl_set ?_ (by first | (simp; done) | (simp; omega)) _ | with_reducible refine bl_drew ?_ | with_reducible refine bl_drewN ?_ _ | with_reducible refine bl_trans ?_ (by assumption)))))); clear hK K hHeld; revert hNew; intro hHeld; try simp only [Act.put, List.setIfInBounds_toArray, List.set_cons_zero, List.set_cons_succ]
    have la := lt_of_cell hHeld.1
    obtain ⟨gb, gl, gc, gm⟩ := own_base hown
    simp at gb
    refine wpAnyH_ready (rs := [4]) (by kernel_rfl) (by simp) ?_; refine AllReadyH.cons (o := ?oi10) ?h10 (fun K hK => ?_) AllReadyH.nil; (case h10 => (simp only [List.getElem?_toArray, List.getElem?_cons_succ, List.getElem?_cons_zero]; exact rfl))
    refine step_append_lies _ (by rfl) _ _ _ (by rfl) _ 26 i0 _ 3 56 Try.underlying23 hi0 hz0 hz1 hz2 (by rfl) (by omega) (.slice (some ⟨g, 0, none⟩) L cap) L news (by rfl) hown ⟨(w.heap.size + 1 + 1), 0, none⟩ 1 1 [.int .i64 k, .slice xa xl xc, .slice ya yl yc] (by rfl) (by rfl) (news3 n0 n1 n2) (by simp [Value.oneCell']) (by omega) (by unfold maxLen; omega) (by omega) (by first | omega | (simp; omega)) v1.heap.size (by simp) ?_
    intro g2 cap2 w2 hown2 hgrow hat hlt
    obtain ⟨gb2, gl2, gc2, gm2⟩ := own_base hown2
    simp at gb2
    try dsimp only at hHeld
    obtain ⟨s0, s1, s2, sb⟩ := hHeld
    refine hK.out _ _ ⟨(hgrow.cell_far _ (by first | omega | (simp; omega)) (by simp [Value.ownBlock]; omega)).trans s0, (hgrow.cell_far _ (by first | omega | (simp; omega)) (by simp [Value.ownBlock]; omega)).trans s1, (hgrow.cell_far _ (by first | omega | (simp; omega)) (by simp [Value.ownBlock]; omega)).trans s2, sb.grown hgrow (by first | omega | (simp; omega)) (fun q h => by simp [Value.ownBlock] at h; omega)⟩ (fun hHeld => ?_)
    have q0 := (hgrow.cell_far ⟨w.heap.size + 1, 0, none⟩ (by first | omega | (simp; omega)) (by simp [Value.ownBlock]; omega)).trans (by simp [go_sem, *] : _ = some (Value.int .i64 0))
    have q1 := (hgrow.cell_far ⟨w.heap.size + 1, 1, none⟩ (by first | omega | (simp; omega)) (by simp [Value.ownBlock]; omega)).trans (by simp [go_sem, *] : _ = some (Value.slice none 0 0))
    have q2 := (hgrow.cell_far ⟨w.heap.size + 1, 2, none⟩ (by first | omega | (simp; omega)) (by simp [Value.ownBlock]; omega)).trans (by simp [go_sem, *] : _ = some (Value.slice none 0 0))
    have f0 := (hgrow.frozen_far ⟨w.heap.size + 1, 0, none⟩ (by first | omega | (simp; omega)) (by simp [Value.ownBlock]; omega)).trans (by simp [go_sem, *] : _ = false)
    have f1 := (hgrow.frozen_far ⟨w.heap.size + 1, 1, none⟩ (by first | omega | (simp; omega)) (by simp [Value.ownBlock]; omega)).trans (by simp [go_sem, *] : _ = false)
    have f2 := (hgrow.frozen_far ⟨w.heap.size + 1, 2, none⟩ (by first | omega | (simp; omega)) (by simp [Value.ownBlock]; omega)).trans (by simp [go_sem, *] : _ = false)
    have ql := lt_of_cell q0
    have HO := Lib.hid hown2
    clear hK K hgrow hown hown2 hat s0 s1 s2 sb hk r0 r1 r2 rf0 rf1 rf2
    (try simp only [Act.put, List.setIfInBounds_toArray, List.set_cons_zero, List.set_cons_succ])
    refine wpAnyH_take (i := 5) (oi := ?oi11) (v := ?v11) ?h11 (by kernel_rfl) (by kernel_rfl) (by kernel_rfl) ?hQ11 ?hy11 (by first | exact hHeld | assumption) ?_; (case h11 => (simp only [List.getElem?_toArray, List.getElem?_cons_succ, List.getElem?_cons_zero]; exact rfl)); (case hQ11 => exact fun _ _ _ h => h); (case hy11 => (refine Or.inl ⟨by rfl, ?_⟩; intro w hSw; (try dsimp only at hSw); go_simp; try (first | with_reducible rfl | rfl))); try simp only [Act.put, List.setIfInBounds_toArray, List.set_cons_zero, List.set_cons_succ]
    refine wpAnyH_ready (rs := [6]) (by kernel_rfl) (by simp) ?_; refine AllReadyH.cons (o := ?oi12) ?h12 (fun K hK => ?_) AllReadyH.nil; (case h12 => (simp only [List.getElem?_toArray, List.getElem?_cons_succ, List.getElem?_cons_zero]; exact rfl)); go_simp; skip; refine hK.out _ _ ?_ (fun hNew => ?_); (· ((try dsimp only); (try go_split_ands); (repeat' apply And.intro) <;> (first | with_reducible assumption | (with_reducible refine kept_head ?_; (first | with_reducible assumption | ((repeat (first | with_reducible refine kept_alloc ?_ _ | with_reducible refine kept_drew ?_)); (first | with_reducible assumption | with_reducible exact kept_refl _)) | exact kept_trans (by assumption) (kept_below hb))) | exact hk _ _ _ (by assumption) | (simp [go_sem, *]; done) | (repeat (first | with_reducible assumption | with_reducible exact bl_refl _ | with_reducible refine bl_alloc ?_ _ | with_reducible refine bl_set ?_ (by first | (simp; done) | (simp; omega)) _ | with_reducible refine bl_drew ?_ | with_reducible refine bl_drewN ?_ _ | with_reducible refine bl_trans ?_ (by assumption)))))); clear hK K hHeld; revert hNew; intro hHeld; try simp only [Act.put, List.setIfInBounds_toArray, List.set_cons_zero, List.set_cons_succ]
    refine wpAnyH_done (by kernel_rfl) ?_ _
    go_wp2_with fail
    have hbx := hHeld.2.2.2
    refine bodyPost_ret (v := .agg #[.int .i64 13, .slice (some ⟨g2, 0, none⟩) (L + 1) cap2, .slice none 0 0]) (by simp [results, Try.results32, go_sem, *]) rfl ⟨g2, cap2, rfl, gc2, gm2, fun j u h => ?_, hbx⟩
    rw [World.cell?_setCell_far _ _ _ _ (by simp; omega), World.cell?_setCell_far _ _ _ _ (by simp; omega), World.cell?_setCell_far _ _ _ _ (by simp; omega)]
    have hj : j < (L + 1) * 3 := by
      have := (List.getElem?_eq_some_iff.1 h).1
      rw [List.length_append] at this
      simp at this
      omega
    rw [HO.out.cellAt j hj, h]

end Go.Proofs.Ytnkecbpocgcdfaa
