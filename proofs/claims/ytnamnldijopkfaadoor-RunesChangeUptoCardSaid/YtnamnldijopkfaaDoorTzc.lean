/-
  RunesChange's walk.
-/
import Derived.Test.YtnamnldijopkfaaDoorTzb
namespace Go.Proofs.YtnamnldijopkfaaDoor
open Go.ChangeShapes Go.WideShapes Go.ChangeAt Go.RowKit Go.Joins

theorem rev_ok {rs : List Nat} (h : ∀ r ∈ rs, okR r) : ∀ r ∈ rs.reverse, okR r := fun r hr => h r (List.mem_reverse.1 hr)

set_option maxHeartbeats 2000000 in
set_option maxRecDepth 100000 in
theorem change_walk (l : List UInt8) (w : World) (hE : Env w) (hl : l.length ≤ 1048576) :
    Calls Tryd.prog 5 #[.string (strOfL l)] w fun e w' => e = .returned (.bool true) ∧ Below w.heap.size w w' := by
  have HE := Lib.hid hE
  clear hE
  have hok := rns_ok l
  have hN := rns_len l
  have hs0 : valL l = encL (rns l) := rfl
  have hrv := rns_valL l
  have VK := Lib.hid (fun v => valid15_k l v (by omega))
  have hsl := encL_le (rns l)
  rw [← hs0] at hsl
  have UK := Lib.hid (fun v => upper_k (valL l) v (by omega))
  have LK := Lib.hid (fun v => lower_k (valL l) v (by omega))
  have MU := Lib.hid (fun v => refMoved_k (valL l) 97 122 (-32) upR (fun r _ h => by unfold upR; rw [if_pos (by omega)]; omega) (fun r _ h => by unfold upR; rw [if_neg (by omega)]) v (by omega))
  have ML := Lib.hid (fun v => refMoved_k (valL l) 65 90 32 loR (fun r _ h => by unfold loR; rw [if_pos (by omega)]; omega) (fun r _ h => by unfold loR; rw [if_neg (by omega)]) v (by omega))
  have R1 := Lib.hid (fun v => reverse_k l v (by omega))
  have R2 := Lib.hid (fun v => refReverse_k l v (by omega))
  have R3 := Lib.hid (fun v => reverse_k (valL l) v (by omega))
  have hvl := encL_le (rns l).reverse
  rw [List.length_reverse] at hvl
  have R4 := Lib.hid (fun v => reverse_k (encL (rns l).reverse) v (by omega))
  rw [rns_enc _ (rev_ok hok), List.reverse_reverse, ← hs0] at R4
  rw [hrv] at UK LK MU ML R3
  generalize encL (List.map upR (rns l)) = u at *
  generalize encL (List.map loR (rns l)) = d at *
  generalize encL (rns l).reverse = v at *
  generalize valL l = s at *
  clear hok hs0 hrv hsl hvl hN
  go_enter Tryd.func5, Tryd.ntmps5
  go_wp2_with fail
  refine (awake15 _ HE.out).mono ?_
  rintro e w1 ⟨rfl, hb⟩
  go_wp2_with fail
  refine (VK.out _).mono ?_
  rintro e w2 ⟨rfl, hb2⟩
  have hb := bl_trans hb hb2
  clear hb2
  go_wp2_with fail
  refine (UK.out _).mono ?_
  rintro e w3 ⟨rfl, hb2⟩
  have hb := bl_trans hb hb2
  clear hb2
  go_wp2_with fail
  refine (MU.out _).mono ?_
  rintro e w4 ⟨rfl, hb2⟩
  have hb := bl_trans hb hb2
  clear hb2
  go_wp2_with fail
  refine (LK.out _).mono ?_
  rintro e w5 ⟨rfl, hb2⟩
  have hb := bl_trans hb hb2
  clear hb2
  go_wp2_with fail
  refine (ML.out _).mono ?_
  rintro e w6 ⟨rfl, hb2⟩
  have hb := bl_trans hb hb2
  clear hb2
  go_wp2_with fail
  refine (R1.out _).mono ?_
  rintro e w7 ⟨rfl, hb2⟩
  have hb := bl_trans hb hb2
  clear hb2
  go_wp2_with fail
  refine (R2.out _).mono ?_
  rintro e w8 ⟨rfl, hb2⟩
  have hb := bl_trans hb hb2
  clear hb2
  go_wp2_with fail
  refine (R3.out _).mono ?_
  rintro e w9 ⟨rfl, hb2⟩
  have hb := bl_trans hb hb2
  clear hb2
  go_wp2_with fail
  refine (R4.out _).mono ?_
  rintro e w10 ⟨rfl, hb2⟩
  have hb := bl_trans hb hb2
  clear hb2
  go_wp2_with fail
  go_ret
  exact ⟨rfl, hb⟩

end Go.Proofs.YtnamnldijopkfaaDoor
