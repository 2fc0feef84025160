/-
  RunesParts' walk.
-/
import Derived.Test.YtnamnldijopkfaaDoorTze
import Derived.Test.YtnamnldijopkfaaDoorTys
namespace Go.Proofs.YtnamnldijopkfaaDoor
open Go.ChangeShapes Go.WideShapes Go.ChangeAt Go.RowKit Go.Joins

theorem allN_val (l : List UInt8) : allN (valL l) = ((rns l).length : Int) := by unfold allN; rw [rns_valL]

set_option maxHeartbeats 4000000 in
set_option maxRecDepth 100000 in
theorem parts_walk (l : List UInt8) (from1 n : Int) (w : World) (hE : Env w) (h0 : -9223372036854775808 ≤ from1 ∧ from1 ≤ 9223372036854775807) (hn : -9223372036854775808 ≤ n ∧ n ≤ 9223372036854775807) (hl : l.length ≤ 1048576) :
    Calls Tryd.prog 6 #[.string (strOfL l), .int .i64 from1, .int .i64 n] w fun e w' => e = .returned (.bool true) ∧ Below w.heap.size w w' := by
  have HE := Lib.hid hE
  clear hE
  have hok := rns_ok l
  have hN := rns_len l
  have hs0 : valL l = encL (rns l) := rfl
  have VK := Lib.hid (fun v => valid15_k l v (by omega))
  have hsl := encL_le (rns l)
  rw [← hs0] at hsl
  have hal := allN_val l
  obtain ⟨sv, b, SK, RK⟩ : ∃ (sv : ByteArray) (b : Bool),
      Hid (∀ v, Calls Tryd.prog 19 #[.string (strOfL (valL l)), .int .i64 from1, .int .i64 n] v fun e w' => e = .returned (.tuple #[.string sv, .bool b]) ∧ Below v.heap.size v w') ∧
      Hid (∀ v, Calls Tryd.prog 28 #[.string (strOfL (valL l)), .int .i64 from1, .int .i64 n] v fun e w' => e = .returned (.tuple #[.string sv, .bool b]) ∧ Below v.heap.size v w') := by
    by_cases h1 : from1 < 0 ∧ -allN (valL l) ≤ from1
    · obtain ⟨k, hk⟩ : ∃ k : Nat, (k : Int) = from1 + allN (valL l) := ⟨(from1 + allN (valL l)).toNat, Int.toNat_of_nonneg (by omega)⟩
      refine ⟨_, true, Lib.hid (fun v => sub_yes (valL l) from1 n k v (by omega) hn.2 (.inl ⟨h1.1, h1.2, hk⟩)), Lib.hid (fun v => ?_)⟩
      have := refsub_yes (valL l) from1 n k v (by omega) h0 hn (.inl ⟨h1.1, h1.2, hk⟩)
      rw [hs0, subT_enc _ hok]
      rw [rns_valL, hs0] at this
      exact this
    · by_cases h2 : 0 < from1 ∧ from1 ≤ allN (valL l)
      · obtain ⟨k, hk⟩ : ∃ k : Nat, (k : Int) = from1 - 1 := ⟨(from1 - 1).toNat, Int.toNat_of_nonneg (by omega)⟩
        refine ⟨_, true, Lib.hid (fun v => sub_yes (valL l) from1 n k v (by omega) hn.2 (.inr ⟨h2.1, h2.2, hk⟩)), Lib.hid (fun v => ?_)⟩
        have := refsub_yes (valL l) from1 n k v (by omega) h0 hn (.inr ⟨h2.1, h2.2, hk⟩)
        rw [hs0, subT_enc _ hok]
        rw [rns_valL, hs0] at this
        exact this
      · exact ⟨_, false, Lib.hid (fun v => sub_no (valL l) from1 n v (by omega) h1 h2), Lib.hid (fun v => refsub_no (valL l) from1 n v (by omega) h0 h1 h2)⟩
  have LK := Lib.hid (fun v => length_k l v (by omega))
  have QK := Lib.hid (fun v => refRunes_k l v (by omega))
  have WK := Lib.hid (fun (v : World) (h : Env v) => valid_k l v h (by omega))
  have HB := Lib.hid (bytes_beq l (valL l))
  generalize decide (l = valL l) = vb at *
  generalize rns l = rs at *
  generalize valL l = s at *
  clear hok hs0 hsl hal hN hn h0
  go_enter Tryd.func6, Tryd.ntmps6
  go_wp2_with fail
  refine (awake15 _ HE.out).mono ?_
  rintro e w1 ⟨rfl, hb⟩
  go_wp2_with fail
  refine (VK.out _).mono ?_
  rintro e w2 ⟨rfl, hb2⟩
  have hb := bl_trans hb hb2
  clear hb2
  go_wp2_with fail
  refine (SK.out _).mono ?_
  rintro e w3 ⟨rfl, hb2⟩
  have hb := bl_trans hb hb2
  clear hb2
  go_wp2_with fail
  refine (RK.out _).mono ?_
  rintro e w4 ⟨rfl, hb2⟩
  have hb := bl_trans hb hb2
  clear hb2
  have hbb : (b == b) = true := by simp
  have hss : (sv.toList == sv.toList) = true := by simp
  go_wp2_with fail
  refine (LK.out _).mono ?_
  rintro e w5 ⟨rfl, hb2⟩
  have hb := bl_trans hb hb2
  clear hb2
  go_wp2_with fail
  refine (QK.out _).mono ?_
  rintro e w6 ⟨v, rfl, hown, hb2⟩
  have hb := bl_trans hb hb2
  clear hb2
  obtain ⟨la, lc, rfl, _, _⟩ := row_shape hown
  clear hown
  have hE6 := Lib.hid (HE.out.keep (kept_below hb))
  have hll : (((rs.length : Nat) : Int) == ((rs.length : Nat) : Int)) = true := by simp
  go_wp2_with fail
  refine (WK.out _ hE6.out).mono ?_
  rintro e w7 ⟨rfl, hb2⟩
  have hb := bl_trans hb hb2
  clear hb2
  have hbs := HB.out
  have hvv : (vb == vb) = true := by simp
  go_wp2_with fail
  go_ret
  exact ⟨rfl, hb⟩

end Go.Proofs.YtnamnldijopkfaaDoor
