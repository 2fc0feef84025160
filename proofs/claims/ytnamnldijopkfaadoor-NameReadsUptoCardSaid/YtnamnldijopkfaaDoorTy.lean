/-
  RunesWhole: of a text of no more than 1048576 bytes it returns true.
-/
import Derived.Test.YtnamnldijopkfaaDoorTv
import Derived.Test.YtnamnldijopkfaaDoorTCard
namespace Go.Proofs.YtnamnldijopkfaaDoor
open Go.ChangeShapes Go.WideShapes Go.ChangeAt Go.RowKit Go.Joins

theorem ok_drop {rs : List Nat} (h : ∀ r ∈ rs, okR r) (k : Nat) : ∀ r ∈ rs.drop k, okR r := fun r hr => h r (List.mem_of_mem_drop hr)
theorem ok_take {rs : List Nat} (h : ∀ r ∈ rs, okR r) (k : Nat) : ∀ r ∈ rs.take k, okR r := fun r hr => h r (List.mem_of_mem_take hr)

theorem subT_enc (rs : List Nat) (h : ∀ r ∈ rs, okR r) (k : Nat) (n : Int) : subT (encL rs) k n = encL (if 0 ≤ n then (rs.drop k).take n.toNat else rs.drop k) := by
  unfold subT
  rw [drop_off k rs h]
  split
  · rw [take_off _ _ (ok_drop h k)]
  · rfl

theorem bytes_eq {a b : ByteArray} (h : a = b) : (a.toList == b.toList) = true := (Lib.bytes_beq_iff _ _).2 h

set_option maxHeartbeats 2000000 in
set_option maxRecDepth 100000 in
theorem whole_walk (l : List UInt8) (k : Int) (w : World) (hE : Env w) (hk : 0 ≤ k ∧ k ≤ 65535) (hl : l.length ≤ 1048576) :
    Calls Tryd.prog 3 #[.string (strOfL l), .int .u16 k] w fun e w' => e = .returned (.bool true) ∧ Below w.heap.size w w' := by
  have HE := Lib.hid hE
  clear hE
  have hok := rns_ok l
  have hN := rns_len l
  have hs0 : valL l = encL (rns l) := rfl
  have hrv := rns_valL l
  have VK := Lib.hid (fun v => valid15_k l v (by omega))
  have hsl := encL_le (rns l)
  rw [← hs0] at hsl
  have LK := Lib.hid (fun v => length_k (valL l) v (by omega))
  rw [hrv] at LK
  rcases Nat.eq_zero_or_pos (rns l).length with h0 | h0
  · have hz : valL l = [] := by rw [hs0, List.eq_nil_of_length_eq_zero h0, encL_nil]
    rw [h0] at LK
    rw [hz] at LK VK
    have SN := Lib.hid (fun v => sub_no [] 1 0 v (by simp) (by omega) (by simp [allN, rns_nil]))
    have he : (strOfL [] : ByteArray) = ⟨#[]⟩ := rfl
    rw [he] at LK VK SN
    clear hok hN hs0 hrv hsl h0 hz he
    go_enter Tryd.func3, Tryd.ntmps3
    go_wp2_with fail
    refine (awake15 _ HE.out).mono ?_
    rintro e w1 ⟨rfl, hb⟩
    go_wp2_with fail
    refine (VK.out _).mono ?_
    rintro e w2 ⟨rfl, hb2⟩
    have hb := bl_trans hb hb2
    go_wp2_with fail
    refine (LK.out _).mono ?_
    rintro e w3 ⟨rfl, hb3⟩
    have hb := bl_trans hb hb3
    go_wp2_with fail
    refine (SN.out _).mono ?_
    rintro e w4 ⟨rfl, hb4⟩
    have hb := bl_trans hb hb4
    go_wp2_with fail
    go_ret
    exact ⟨rfl, hb⟩
  · obtain ⟨N, hNe⟩ : ∃ N, (rns l).length = N := ⟨_, rfl⟩
    obtain ⟨n, hn⟩ : ∃ n : Nat, (n : Int) = k % (N : Int) := ⟨(k % (N : Int)).toNat, Int.toNat_of_nonneg (Int.emod_nonneg _ (by omega))⟩
    have hnN : n < N := by
      have := Int.emod_lt_of_pos k (show (0 : Int) < (N : Int) by omega)
      omega
    have hrem : k.tmod (N : Int) = (n : Int) := by rw [Int.tmod_eq_emod_of_nonneg hk.1, hn]
    have hA := subT_enc (rns l) hok 0 n
    have hB := subT_enc (rns l) hok n (-1)
    have hC := subT_enc (rns l) hok n N
    rw [if_pos (by omega), List.drop_zero, Int.toNat_natCast] at hA
    rw [if_neg (by omega)] at hB
    rw [if_pos (by omega), Int.toNat_natCast, List.take_of_length_le (by rw [List.length_drop]; omega)] at hC
    rw [← hs0] at hA hB hC
    have hab : encL ((rns l).take n) ++ encL ((rns l).drop n) = valL l := by rw [← encL_append, List.take_append_drop, hs0]
    have hra : (rns (encL ((rns l).take n))).length = n := by rw [rns_enc _ (ok_take hok n), List.length_take]; omega
    have hrb : (rns (encL ((rns l).drop n))).length = N - n := by rw [rns_enc _ (ok_drop hok n), List.length_drop, hNe]
    have hlab := congrArg List.length hab
    rw [List.length_append] at hlab
    have hall : allN (valL l) = (N : Int) := by unfold allN; rw [hrv, hNe]
    have S1 := Lib.hid (fun v => sub_yes (valL l) 1 n 0 v (by omega) (by omega) (.inr ⟨by omega, by omega, by omega⟩))
    have S2 := Lib.hid (fun v => sub_yes (valL l) (n + 1) (-1) n v (by omega) (by omega) (.inr ⟨by omega, by omega, by omega⟩))
    have S3 := Lib.hid (fun v => sub_yes (valL l) (n - N) N n v (by omega) (by omega) (.inl ⟨by omega, by omega, by omega⟩))
    rw [hA] at S1
    rw [hB] at S2
    rw [hC] at S3
    rw [hNe] at LK
    generalize encL ((rns l).take n) = a at *
    generalize encL ((rns l).drop n) = b at *
    have L1 := Lib.hid (fun v => length_k a v (by omega))
    have L2 := Lib.hid (fun v => length_k b v (by omega))
    rw [hra] at L1
    rw [hrb] at L2
    have A1 := catL (P := Tryd.prog) a b (by omega)
    rw [hab] at A1
    generalize valL l = s at *
    clear hA hB hC hok hs0 hrv hsl hra hrb hlab hall hn hab
    have hi : ((N - n : Nat) : Int) = (N : Int) - (n : Int) := by omega
    rw [hi] at L2
    clear hi
    go_enter Tryd.func3, Tryd.ntmps3
    go_wp2_with fail
    refine (awake15 _ HE.out).mono ?_
    rintro e w1 ⟨rfl, hb⟩
    go_wp2_with fail
    refine (VK.out _).mono ?_
    rintro e w2 ⟨rfl, hb2⟩
    have hb := bl_trans hb hb2
    go_wp2_with fail
    refine (LK.out _).mono ?_
    rintro e w3 ⟨rfl, hb3⟩
    have hb := bl_trans hb hb3
    go_wp2_with fail
    refine (S1.out _).mono ?_
    rintro e w4 ⟨rfl, hb2⟩
    have hb := bl_trans hb hb2
    clear hb2
    go_wp2_with fail
    refine (S2.out _).mono ?_
    rintro e w5 ⟨rfl, hb2⟩
    have hb := bl_trans hb hb2
    clear hb2
    go_wp2_with fail
    refine (S3.out _).mono ?_
    rintro e w6 ⟨rfl, hb2⟩
    have hb := bl_trans hb hb2
    clear hb2
    go_wp2_with fail
    refine (L1.out _).mono ?_
    rintro e w7 ⟨rfl, hb2⟩
    have hb := bl_trans hb hb2
    clear hb2
    go_wp2_with fail
    refine (L2.out _).mono ?_
    rintro e w8 ⟨rfl, hb2⟩
    have hb := bl_trans hb hb2
    clear hb2
    go_wp2_with fail
    go_ret
    exact ⟨rfl, hb⟩

end Go.Proofs.YtnamnldijopkfaaDoor
