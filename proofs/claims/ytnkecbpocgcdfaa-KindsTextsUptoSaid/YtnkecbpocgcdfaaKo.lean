/-
  The text of a list of numbers: what the stage's example asks.
-/
import Derived.Test.YtnkecbpocgcdfaaKn
namespace Go.Proofs.Ytnkecbpocgcdfaa
open Go.ChangeShapes Go.WideShapes Go.ChangeAt Go.RowKit Go.Joins

theorem info_str : (Try.prog.info? 9).map (fun i => (i.zero, i.size, i.bytes)) = some (some (.string ⟨#[]⟩), 1, 16) := by kernel_rfl

theorem words_num (w : World) : Calls Try.prog 37 #[.int .i64 3] w fun e w' => e = .returned (.string ⟨#[110, 117, 109, 98, 101, 114]⟩) ∧ w = w' := by
  go_enter Try.func37, Try.ntmps37
  go_wp2_with fail
  go_ret
  exact ⟨rfl, rfl⟩

set_option maxHeartbeats 1000000 in
theorem text_num (xa : Option Addr) (xc : Nat) (ya : Option Addr) (yc : Nat) (w : World) : Calls Try.prog 21 #[.agg #[.int .i64 3, .slice xa 0 xc, .slice ya 0 yc]] w fun e w' => e = .returned (.string ⟨#[110, 117, 109, 98, 101, 114]⟩) ∧ Below w.heap.size w w' := by
  go_enter Try.func21, Try.ntmps21
  go_wp2_with fail
  go_loopw [10] (fun i wr => i = .int .i64 0 ∧ Below w.heap.size w wr ∧ wr.cell? ⟨w.heap.size, 0, none⟩ = some (.int .i64 3) ∧ wr.cell? ⟨w.heap.size, 1, none⟩ = some (.slice xa 0 xc) ∧ wr.cell? ⟨w.heap.size, 2, none⟩ = some (.slice ya 0 yc)) (fun _ _ => 0)
  case atStart =>
    refine ⟨rfl, ?_, ?_, ?_, ?_⟩
    · (repeat (first | with_reducible assumption | with_reducible exact bl_refl _ | with_reducible refine bl_alloc ?_ _ | with_reducible refine bl_set ?_ (by simp) _ | with_reducible refine bl_drew ?_ | with_reducible refine bl_drewN ?_ _ | with_reducible refine bl_trans ?_ (by assumption)))
    all_goals simp
  case round =>
    obtain ⟨rfl, hbr, c0, c1, c2⟩ := hrel
    go_wp2_with fail
    refine (words_num _).mono ?_
    rintro e w2 ⟨rfl, rfl⟩
    go_wp2_with fail
    go_ret
    exact ⟨rfl, hbr⟩

theorem join_num (b c : Nat) (w : World) (hc : w.cell? ⟨b, 0, none⟩ = some (.string ⟨#[110, 117, 109, 98, 101, 114]⟩)) (h1 : 1 ≤ c) :
    Calls Try.prog 39 #[.slice (some ⟨b, 0, none⟩) 1 c, .string ⟨#[44, 32]⟩] w fun e w' => e = .returned (.string ⟨#[110, 117, 109, 98, 101, 114]⟩) ∧ Below w.heap.size w w' := by
  refine (Try.strings_Join b 0 c [⟨#[110, 117, 109, 98, 101, 114]⟩] ⟨#[44, 32]⟩ w (fun j x h => ?_) (lt_of_cell hc) (by simp) (by simpa using h1) (by decide)).mono ?_
  · match j, h with
    | 0, h => simp at h; subst h; exact hc
    | j + 1, h => simp at h
  · rintro e w' ⟨rfl, hb⟩
    exact ⟨rfl, hb⟩

set_option maxHeartbeats 2000000 in
theorem text_list (b o c : Nat) (na : Option Addr) (nc : Nat) (xa : Option Addr) (xc : Nat) (ya : Option Addr) (yc : Nat) (w : World) (h0 : w.cell? ⟨b, o, none⟩ = some (.int .i64 3)) (h1 : w.cell? ⟨b, o + 1, none⟩ = some (.slice xa 0 xc)) (h2 : w.cell? ⟨b, o + 2, none⟩ = some (.slice ya 0 yc)) :
    Calls Try.prog 21 #[.agg #[.int .i64 10, .slice (some ⟨b, o, none⟩) 1 c, .slice na 0 nc]] w fun e w' => e = .returned (.string ⟨#[108, 105, 115, 116, 60, 110, 117, 109, 98, 101, 114, 62]⟩) ∧ Below w.heap.size w w' := by
  obtain ⟨i0, hi0, hz0, hz1, hz2⟩ := info_parts info_str
  have hbl := lt_of_cell h0
  go_enter Try.func21, Try.ntmps21
  go_wp2_with fail
  go_loopw [10, 3] (fun i p wr => Below w.heap.size w wr ∧ wr.cell? ⟨w.heap.size, 0, none⟩ = some (.int .i64 10) ∧ wr.cell? ⟨w.heap.size, 1, none⟩ = some (.slice (some ⟨b, o, none⟩) 1 c) ∧ wr.cell? ⟨w.heap.size, 2, none⟩ = some (.slice na 0 nc) ∧ wr.cell? ⟨b, o, none⟩ = some (.int .i64 3) ∧ wr.cell? ⟨b, o + 1, none⟩ = some (.slice xa 0 xc) ∧ wr.cell? ⟨b, o + 2, none⟩ = some (.slice ya 0 yc) ∧
    ((i = .int .i64 0 ∧ p = .slice none 0 0) ∨ (i = .int .i64 1 ∧ ∃ g cap, p = .slice (some ⟨g, 0, none⟩) 1 cap ∧ 1 ≤ cap ∧ wr.cell? ⟨g, 0, none⟩ = some (.string ⟨#[110, 117, 109, 98, 101, 114]⟩)))) (fun i _ _ => 1 - (intOf i).toNat)
  case atStart =>
    refine ⟨?_, ?_, ?_, ?_, ?_, ?_, ?_, Or.inl ⟨rfl, rfl⟩⟩
    · (repeat (first | with_reducible assumption | with_reducible exact bl_refl _ | with_reducible refine bl_alloc ?_ _ | with_reducible refine bl_set ?_ (by simp) _ | with_reducible refine bl_drew ?_ | with_reducible refine bl_drewN ?_ _ | with_reducible refine bl_trans ?_ (by assumption)))
    all_goals simp [go_sem, *]
  case round =>
    obtain ⟨hbr, c0, c1, c2, q0, q1, q2, hst⟩ := hrel
    have ql := lt_of_cell q0
    have cl := lt_of_cell c0
    rcases hst with ⟨rfl, rfl⟩ | ⟨rfl, g, cap, rfl, hcap, hg⟩
    · go_wp2_with fail
      refine (text_num _ _ _ _ _).mono ?_
      rintro e w2 ⟨rfl, hb⟩
      obtain ⟨c0, c1, c2, cl⟩ := keep3c (b := w.heap.size) (x := .int .i64 10) (y := .slice (some ⟨b, o, none⟩) 1 c) (z := .slice na 0 nc) hb (by simp [go_sem, *]) (by simp [go_sem, *]) (by simp [go_sem, *])
      have q0 := below_keeps hb b o (.int .i64 3) (by simp [go_sem, *])
      have q1 := below_keeps hb b (o + 1) (.slice xa 0 xc) (by simp [go_sem, *])
      have q2 := below_keeps hb b (o + 2) (.slice ya 0 yc) (by simp [go_sem, *])
      have ql := lt_of_cell q0
      have hbr : Below w.heap.size w w2 := by (repeat (first | with_reducible assumption | with_reducible exact bl_refl _ | with_reducible refine bl_alloc ?_ _ | with_reducible refine bl_set ?_ (by first | (simp; done) | (simp; omega)) _ | with_reducible refine bl_drew ?_ | with_reducible refine bl_drewN ?_ _ | with_reducible refine bl_trans ?_ (by assumption)))
      clear hb
      go_wp2_with (at_builtin; (refine wpList_append_lies _ rfl _ _ _ rfl w2.heap.size 9 i0 _ 1 16 Try.underlying24 hi0 hz0 hz1 hz2 (by rfl) (by omega) (.slice none 0 0) 0 [] (by rfl) (World.ownsRow_nil _ _ _ _) ⟨w2.heap.size, 0, none⟩ 1 1 [.string ⟨#[110, 117, 109, 98, 101, 114]⟩] (by rfl) (by rfl) (World.news_of_block (heap_alloc_new _ _)) (by simp [Value.oneCell']) (by omega) (by unfold maxLen; omega) (by omega) (by simp) (w2.heap.size + 1) (by simp) ?_; intro g cap w3 hown hgrow hat hlt))
      go_roundw
      case rel =>
        simp only [Nat.zero_add, List.nil_append] at hown
        obtain ⟨ob, ol, oc, om⟩ := own_base hown
        have far : ∀ x o v, w2.cell? ⟨x, o, none⟩ = some v → w3.cell? ⟨x, o, none⟩ = some v := fun x o v h =>
          (hgrow.cell_far ⟨x, o, none⟩ (lt_of_cell (cell_alloc_keep h)) (by simp [Value.ownBlock])).trans (cell_alloc_keep h)
        have hb3 : Below w.heap.size w (w2.alloc (.cells #[.string ⟨#[110, 117, 109, 98, 101, 114]⟩] 9)) := bl_alloc hbr _
        refine ⟨hb3.grown hgrow (by simp; omega) (fun q h => by simp [Value.ownBlock] at h), far _ _ _ c0, far _ _ _ c1, far _ _ _ c2, far _ _ _ q0, far _ _ _ q1, far _ _ _ q2, Or.inr ⟨rfl, g, cap, rfl, oc, ?_⟩⟩
        have := hown.cellAt 0 (by omega)
        simpa using this
      case measure => simp [intOf]
    · go_wp2_with fail
      refine (join_num g cap _ hg hcap).mono ?_
      rintro e w2 ⟨rfl, hb⟩
      go_wp2_with fail
      go_ret
      refine ⟨rfl, ?_⟩
      (repeat (first | with_reducible assumption | with_reducible exact bl_refl _ | with_reducible refine bl_alloc ?_ _ | with_reducible refine bl_set ?_ (by simp) _ | with_reducible refine bl_drew ?_ | with_reducible refine bl_drewN ?_ _ | with_reducible refine bl_trans ?_ (by assumption)))

end Go.Proofs.Ytnkecbpocgcdfaa
