/-
  The reader's methods that only read: rune, while.
-/
import Derived.Test.YtnamnldijopkfaaDoorTla
import Derived.Test.YtnamnldijopkfaaDoorTw
namespace Go.Proofs.YtnamnldijopkfaaDoor
open Go.ChangeShapes Go.WideShapes Go.ChangeAt Go.RowKit Go.Joins

theorem dgo (l : List UInt8) (h : l ≠ []) : Lib.decodeGo (strOfL l) = Lib.decodeL l := by
  have : 0 < l.length := List.length_pos_iff.2 h
  unfold Lib.decodeGo Lib.decodeL
  rw [if_neg (by rw [strOfL_size]; omega)]
  rfl

theorem dec_k (l : List UInt8) (w : World) (hE : Env w) (h : l ≠ []) : Calls Tryd.prog 103 #[.string (strOfL l)] w fun e w' => e = .returned (.tuple #[.int .i32 (Lib.decodeL l).1, .int .i64 (Lib.decodeL l).2]) ∧ Below w.heap.size w w' := by
  have := Tryd.utf8_DecodeRuneInString (strOfL l) w hE.1
  rw [dgo l h] at this
  exact this

theorem rune_k (l : List UInt8) (k g : Nat) (w : World) (hE : Env w) (hs : w.cell? ⟨g, 0, none⟩ = some (.string (strOfL l))) :
    Calls Tryd.prog 85 #[.pointer (some ⟨g, 0, none⟩), .int .i64 k] w fun e w' => e = .returned (.int .i32 (hd (l.drop k))) ∧ Below w.heap.size w w' := by
  have hsz := strOfL_size l
  have hEX := extract_drop l k
  rw [hsz] at hEX
  by_cases hk : k < l.length
  · have hne : l.drop k ≠ [] := by
      intro e
      have := congrArg List.length e
      rw [List.length_drop, List.length_nil] at this
      omega
    have DK := Lib.hid (dec_k (l.drop k) w hE hne)
    rw [hd, if_neg hne]
    generalize Lib.decodeL (l.drop k) = d at *
    generalize l.drop k = t at *
    have k1 : (k : Int) < ((strOfL l).size : Int) := by omega
    have k2 : k ≤ (strOfL l).size := by omega
    have k3 : (0 : Int) ≤ (k : Int) := by omega
    clear hE
    go_enter Tryd.func85, Tryd.ntmps85
    go_wp2_with fail
    refine DK.out.mono ?_
    rintro e w1 ⟨rfl, hb⟩
    go_wp2_with fail
    go_ret
    exact ⟨rfl, hb⟩
  · have he : l.drop k = [] := List.drop_eq_nil_of_le (by omega)
    rw [he, hd, if_pos rfl]
    have k1 : ¬ (k : Int) < ((strOfL l).size : Int) := by omega
    clear hE hEX
    go_enter Tryd.func85, Tryd.ntmps85
    go_wp2_with fail
    go_ret
    exact ⟨rfl, bl_refl _⟩

set_option maxHeartbeats 1000000 in
theorem while_digit_k (l : List UInt8) (k g : Nat) (w : World) (hE : Env w) (hs : w.cell? ⟨g, 0, none⟩ = some (.string (strOfL l))) (hk : k ≤ l.length) (hl : l.length ≤ 1073741824) :
    Calls Tryd.prog 89 #[.pointer (some ⟨g, 0, none⟩), .int .i64 k, .func (.func 21) #[] #[]] w fun e w' => e = .returned (.int .i64 (k + runN digitB (l.drop k) : Nat)) ∧ Below w.heap.size w w' := by
  have HE := Lib.hid hE
  have HS := Lib.hid hs
  clear hE hs
  have hsz := strOfL_size l
  generalize hN : k + runN digitB (l.drop k) = N
  have hN2 := Lib.hid hN
  clear hN
  go_enter Tryd.func89, Tryd.ntmps89
  go_wp2_with fail
  go_loopw [1] (fun i wr => ∃ j : Nat, j ≤ l.length ∧ i = .int .i64 j ∧ j + runN digitB (l.drop j) = N ∧ Below w.heap.size w wr) (fun i _ => l.length - (intOf i).toNat)
  case atStart => exact ⟨k, hk, rfl, hN2.out, bl_refl _⟩
  case round =>
    obtain ⟨j, hj, rfl, hr, hb⟩ := hrel
    have hEr := Lib.hid (HE.out.keep (kept_below hb))
    have hsr := below_keeps hb _ _ _ HS.out
    have hEX := extract_drop l j
    rw [hsz] at hEX
    by_cases hlt : j < l.length
    · have hne : l.drop j ≠ [] := by
        intro e
        have := congrArg List.length e
        rw [List.length_drop, List.length_nil] at this
        omega
      have DK := Lib.hid (dec_k (l.drop j) wr hEr.out hne)
      have hrun := runN_cons digitB (l.drop j) hne
      rw [List.drop_drop] at hrun
      have hw1 := dec_ge1 (l.drop j)
      have hw2 := dec_le_len (l.drop j) hne
      rw [List.length_drop] at hw2
      generalize Lib.decodeL (l.drop j) = d at *
      obtain ⟨r, wd⟩ := d
      dsimp only at hrun hw1 hw2 DK
      have k1 : (j : Int) < ((strOfL l).size : Int) := by omega
      have k2 : j ≤ (strOfL l).size := by omega
      have k3 : (0 : Int) ≤ (j : Int) := by omega
      have GK := Lib.hid (digit_k (r : Int))
      have HRUN := Lib.hid hrun
      have HR := Lib.hid hr
      clear hrun hr
      generalize hb9 : digitB (r : Int) = b9 at *
      generalize l.drop j = t at *
      go_wp2_with fail
      refine DK.out.mono ?_
      rintro e w1 ⟨rfl, hb2⟩
      have hb := bl_trans hb hb2
      clear hb2
      go_wp2_with fail
      refine (GK.out _).mono ?_
      rintro e w3 ⟨rfl, rfl⟩
      cases b9 with
      | true =>
        rw [if_pos rfl] at HRUN
        go_wp2_with fail
        go_roundw
        case rel => exact ⟨j + wd, by omega, by go_num, by rw [← HR.out, HRUN.out, Nat.add_assoc], hb⟩
        case measure => simp [intOf]; omega
      | false =>
        rw [if_neg (by simp)] at HRUN
        have HF := Lib.hid (show j = N by rw [← HR.out, HRUN.out, Nat.add_zero])
        go_wp2_with fail
        go_ret
        exact ⟨by rw [← HF.out]; rfl, hb⟩
    · have k1 : ¬ (j : Int) < ((strOfL l).size : Int) := by omega
      have hz : l.drop j = [] := List.drop_eq_nil_of_le (by omega)
      rw [hz, runN_nil, Nat.add_zero] at hr
      have HR := Lib.hid hr
      clear hr hEX
      go_wp2_with fail
      go_ret
      exact ⟨by rw [← HR.out]; rfl, hb⟩

theorem wordly_k (r : Int) (w : World) : Calls Tryd.prog 90 #[.int .i32 r] w fun e w' => e = .returned (.bool (wordB r)) ∧ w = w' := by
  have L := Lib.hid (letter_k r)
  have D := Lib.hid (digit_k r)
  unfold wordB
  generalize letterB r = a at *
  generalize digitB r = b at *
  go_enter Tryd.func90, Tryd.ntmps90
  go_wp2_with fail
  refine (L.out _).mono ?_
  rintro e w1 ⟨rfl, rfl⟩
  cases a with
  | true =>
    go_wp2_with fail
    go_ret
    exact ⟨rfl, rfl⟩
  | false =>
    go_wp2_with fail
    refine (D.out _).mono ?_
    rintro e w1 ⟨rfl, rfl⟩
    go_wp2_with fail
    go_ret
    exact ⟨by simp, rfl⟩

set_option maxHeartbeats 1000000 in
theorem while_word_k (l : List UInt8) (k g : Nat) (w : World) (hE : Env w) (hs : w.cell? ⟨g, 0, none⟩ = some (.string (strOfL l))) (hk : k ≤ l.length) (hl : l.length ≤ 1073741824) :
    Calls Tryd.prog 89 #[.pointer (some ⟨g, 0, none⟩), .int .i64 k, .func (.func 90) #[] #[]] w fun e w' => e = .returned (.int .i64 (k + runN wordB (l.drop k) : Nat)) ∧ Below w.heap.size w w' := by
  have HE := Lib.hid hE
  have HS := Lib.hid hs
  clear hE hs
  have hsz := strOfL_size l
  generalize hN : k + runN wordB (l.drop k) = N
  have hN2 := Lib.hid hN
  clear hN
  go_enter Tryd.func89, Tryd.ntmps89
  go_wp2_with fail
  go_loopw [1] (fun i wr => ∃ j : Nat, j ≤ l.length ∧ i = .int .i64 j ∧ j + runN wordB (l.drop j) = N ∧ Below w.heap.size w wr) (fun i _ => l.length - (intOf i).toNat)
  case atStart => exact ⟨k, hk, rfl, hN2.out, bl_refl _⟩
  case round =>
    obtain ⟨j, hj, rfl, hr, hb⟩ := hrel
    have hEr := Lib.hid (HE.out.keep (kept_below hb))
    have hsr := below_keeps hb _ _ _ HS.out
    have hEX := extract_drop l j
    rw [hsz] at hEX
    by_cases hlt : j < l.length
    · have hne : l.drop j ≠ [] := by
        intro e
        have := congrArg List.length e
        rw [List.length_drop, List.length_nil] at this
        omega
      have DK := Lib.hid (dec_k (l.drop j) wr hEr.out hne)
      have hrun := runN_cons wordB (l.drop j) hne
      rw [List.drop_drop] at hrun
      have hw1 := dec_ge1 (l.drop j)
      have hw2 := dec_le_len (l.drop j) hne
      rw [List.length_drop] at hw2
      generalize Lib.decodeL (l.drop j) = d at *
      obtain ⟨r, wd⟩ := d
      dsimp only at hrun hw1 hw2 DK
      have k1 : (j : Int) < ((strOfL l).size : Int) := by omega
      have k2 : j ≤ (strOfL l).size := by omega
      have k3 : (0 : Int) ≤ (j : Int) := by omega
      have GK := Lib.hid (wordly_k (r : Int))
      have HRUN := Lib.hid hrun
      have HR := Lib.hid hr
      clear hrun hr
      generalize hb9 : wordB (r : Int) = b9 at *
      generalize l.drop j = t at *
      go_wp2_with fail
      refine DK.out.mono ?_
      rintro e w1 ⟨rfl, hb2⟩
      have hb := bl_trans hb hb2
      clear hb2
      go_wp2_with fail
      refine (GK.out _).mono ?_
      rintro e w3 ⟨rfl, rfl⟩
      cases b9 with
      | true =>
        rw [if_pos rfl] at HRUN
        go_wp2_with fail
        go_roundw
        case rel => exact ⟨j + wd, by omega, by go_num, by rw [← HR.out, HRUN.out, Nat.add_assoc], hb⟩
        case measure => simp [intOf]; omega
      | false =>
        rw [if_neg (by simp)] at HRUN
        have HF := Lib.hid (show j = N by rw [← HR.out, HRUN.out, Nat.add_zero])
        go_wp2_with fail
        go_ret
        exact ⟨by rw [← HF.out]; rfl, hb⟩
    · have k1 : ¬ (j : Int) < ((strOfL l).size : Int) := by omega
      have hz : l.drop j = [] := List.drop_eq_nil_of_le (by omega)
      rw [hz, runN_nil, Nat.add_zero] at hr
      have HR := Lib.hid hr
      clear hr hEX
      go_wp2_with fail
      go_ret
      exact ⟨by rw [← HR.out]; rfl, hb⟩

end Go.Proofs.YtnamnldijopkfaaDoor
