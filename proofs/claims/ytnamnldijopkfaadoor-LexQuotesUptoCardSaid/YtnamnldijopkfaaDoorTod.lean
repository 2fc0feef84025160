/-
  LexQuotes' walk.
-/
import Derived.Test.YtnamnldijopkfaaDoorToc
import Derived.Test.YtnamnldijopkfaaDoorToq
import Derived.Test.YtnamnldijopkfaaDoorTv
namespace Go.Proofs.YtnamnldijopkfaaDoor
open Go.ChangeShapes Go.WideShapes Go.ChangeAt Go.RowKit Go.Joins

theorem escL_le : ∀ rs : List Nat, (escL rs).length ≤ 5 * rs.length
  | [] => by simp [escL]
  | r :: rs => by
    have := esc_le (r : Int)
    have := escL_le rs
    rw [escL_cons, List.length_append, List.length_cons]
    omega

set_option maxHeartbeats 4000000 in
set_option maxRecDepth 100000 in
theorem quotes_walk (l : List UInt8) (w : World) (hE : Env w) (hl : l.length ≤ 1048576) :
    Calls Tryd.prog 10 #[.string (strOfL l)] w fun e w' => e = .returned (.bool true) ∧ Below w.heap.size w w' := by
  have HE := Lib.hid hE
  have hok := rns_ok l
  have hN := rns_len l
  have hsl := encL_le (rns l)
  have hs0 : valL l = encL (rns l) := rfl
  have VK := Lib.hid (fun v => valid15_k l v (by omega))
  have QK := Lib.hid (fun v => quoteR_k (valL l) v (by rw [hs0]; omega))
  rw [rns_valL] at QK
  have hql : (quoteL (rns l)).length ≤ 5 * l.length + 2 := by
    have := escL_le (rns l)
    unfold quoteL
    simp only [List.length_append, List.length_cons, List.length_nil]
    omega
  have T1 := Lib.hid (fun v (h : Env v) => tokens_k (quoteL (rns l)) v h (by omega))
  rw [quotes_law _ hok] at T1
  have T2 := Lib.hid (fun v (h : Env v) => tokens_k (64 :: quoteL (rns l)) v h (by simp only [List.length_cons]; omega))
  rw [quotesAt_law _ hok] at T2
  rw [← hs0] at T1 T2
  have A1 : ∀ v, (Op.stringOp .add ⟨#[64]⟩ (strOfL (quoteL (rns l)))).run Tryd.prog v = .ok (.string (strOfL (64 :: quoteL (rns l)))) v := catL [64] (quoteL (rns l)) (by simp only [List.length_cons, List.length_nil]; omega)
  generalize quoteL (rns l) = q at *
  generalize hs : valL l = s at *
  generalize strOfL (64 :: q) = q2 at *
  clear hE hok hN hsl hs0 hql hs
  go_enter Tryd.func10, Tryd.ntmps10
  go_wp2_with fail
  refine (awake16 _ HE.out).mono ?_
  rintro e w1 ⟨rfl, hb⟩
  go_wp2_with fail
  refine (VK.out _).mono ?_
  rintro e w2 ⟨rfl, hb2⟩
  have hb := bl_trans hb hb2
  clear hb2
  go_wp2_with fail
  refine (QK.out _).mono ?_
  rintro e w3 ⟨rfl, hb2⟩
  have hb := bl_trans hb hb2
  have E3 := Lib.hid (HE.out.keep (kept_below hb))
  clear hb2
  go_wp2_with fail
  refine (T1.out _ E3.out).mono ?_
  rintro e w4 ⟨v, rfl, ⟨aa, ac, rfl, _, _, hac⟩, hb2⟩
  obtain ⟨ab, ao, rfl, gac⟩ := hac (by simp)
  have p0 := (gac 0 (by simp)).1
  have p1 := (gac 0 (by simp)).2.1
  have hb := bl_trans hb hb2
  clear hb2 gac
  go_wp2_with fail
  refine (QK.out _).mono ?_
  rintro e w5 ⟨rfl, hb2⟩
  have p0 := below_keeps hb2 _ _ _ p0
  have p1 := below_keeps hb2 _ _ _ p1
  have hb := bl_trans hb hb2
  have E5 := Lib.hid (HE.out.keep (kept_below hb))
  clear hb2
  go_wp2_with fail
  refine (T2.out _ E5.out).mono ?_
  rintro e w6 ⟨v, rfl, ⟨ba, bc, rfl, _, _, hbc⟩, hb2⟩
  obtain ⟨bb, bo, rfl, gbc⟩ := hbc (by simp)
  have q0 := (gbc 0 (by simp)).1
  have q1 := (gbc 0 (by simp)).2.1
  have p0 := below_keeps hb2 _ _ _ p0
  have p1 := below_keeps hb2 _ _ _ p1
  have hb := bl_trans hb hb2
  clear hb2 gbc HE E3 E5 T1 T2 A1
  simp at p0 p1 q0 q1
  go_wp2_with fail
  go_ret
  exact ⟨rfl, hb⟩

end Go.Proofs.YtnamnldijopkfaaDoor
