/-
  The contract of runes.Sub.
-/
import Derived.Test.YtnamnldijopkfaaDoorTr
namespace Go.Proofs.YtnamnldijopkfaaDoor
open Go.ChangeShapes Go.WideShapes Go.ChangeAt Go.RowKit Go.Joins

def allN (l : List UInt8) : Int := (rns l).length

def subT (l : List UInt8) (k : Nat) (n : Int) : List UInt8 :=
  if 0 ≤ n then (l.drop (off k l)).take (off n.toNat (l.drop (off k l))) else l.drop (off k l)

theorem extract_drop (l : List UInt8) (a : Nat) : (strOfL l).extract a (strOfL l).size = strOfL (l.drop a) := by
  apply ByteArray.ext
  apply Array.ext'
  rw [strOfL_size]
  simp [strOfL, ByteArray.extract, ByteArray.copySlice]
  rw [List.take_of_length_le (by rw [List.length_drop]; omega)]
theorem extract_take (l : List UInt8) (b : Nat) : (strOfL l).extract 0 b = strOfL (l.take b) := by
  apply ByteArray.ext
  apply Array.ext'
  simp [strOfL, ByteArray.extract, ByteArray.copySlice]

theorem sub_no (l : List UInt8) (from1 n : Int) (w : World) (hl : l.length ≤ 1073741824) (h1 : ¬ (from1 < 0 ∧ -allN l ≤ from1)) (h2 : ¬ (0 < from1 ∧ from1 ≤ allN l)) :
    Calls Tryd.prog 19 #[.string (strOfL l), .int .i64 from1, .int .i64 n] w fun e w' => e = .returned (.tuple #[.string ⟨#[]⟩, .bool false]) ∧ Below w.heap.size w w' := by
  have LK := Lib.hid (fun v => length_k l v hl)
  have hrl := rns_len l
  unfold allN at h1 h2
  generalize (rns l).length = N at *
  go_enter Tryd.func19, Tryd.ntmps19
  go_wp2_with fail
  refine (LK.out _).mono ?_
  rintro e w1 ⟨rfl, hb⟩
  go_wp2_with fail
  all_goals
    first
      | (refine bodyPost_ret (v := .tuple #[.string ⟨#[]⟩, .bool false]) (by simp [results, Tryd.results19, go_sem]) rfl ⟨rfl, ?_⟩; exact hb)
      | (exfalso; omega)

set_option maxHeartbeats 1000000 in
theorem sub_yes (l : List UInt8) (from1 n : Int) (k : Nat) (w : World) (hl : l.length ≤ 1073741824) (hn : n ≤ 9223372036854775807)
    (h : (from1 < 0 ∧ -allN l ≤ from1 ∧ (k : Int) = from1 + allN l) ∨ (0 < from1 ∧ from1 ≤ allN l ∧ (k : Int) = from1 - 1)) :
    Calls Tryd.prog 19 #[.string (strOfL l), .int .i64 from1, .int .i64 n] w fun e w' => e = .returned (.tuple #[.string (strOfL (subT l k n)), .bool true]) ∧ Below w.heap.size w w' := by
  have LK := Lib.hid (fun v => length_k l v hl)
  have hrl := rns_len l
  unfold allN at h
  have AK := Lib.hid (fun v => at_k l k v hl (by omega))
  have hsz := strOfL_size l
  have ho := off_le k l
  have hEX := extract_drop l (off k l)
  have HST := Lib.hid (show subT l k n = if 0 ≤ n then (l.drop (off k l)).take (off n.toNat (l.drop (off k l))) else l.drop (off k l) from rfl)
  have hdl : (l.drop (off k l)).length = l.length - off k l := List.length_drop
  generalize (rns l).length = N at *
  generalize off k l = O at *
  generalize hT : l.drop O = T at *
  have ho2 := off_le n.toNat T
  have hsz2 := strOfL_size T
  have hEX2 := extract_take T (off n.toNat T)
  have BK : 0 ≤ n → Hid (∀ v, Calls Tryd.prog 60 #[.string (strOfL T), .int .i64 n] v fun e w' => e = .returned (.int .i64 (off n.toNat T)) ∧ Below v.heap.size v w') := fun hn0 => Lib.hid (fun v => by
    have := at_k T n.toNat v (by omega) (by omega)
    rwa [Int.toNat_of_nonneg hn0] at this)
  clear hT
  go_enter Tryd.func19, Tryd.ntmps19
  go_wp2_with fail
  refine (LK.out _).mono ?_
  rintro e w1 ⟨rfl, hb⟩
  rcases h with ⟨g1, g2, g3⟩ | ⟨g1, g2, g3⟩
  · have g4 := g3.symm
    clear g3
    go_wp2_with fail
    refine (AK.out _).mono ?_
    rintro e w2 ⟨rfl, hb2⟩
    have hb := bl_trans hb hb2
    have hOi : (O : Int) ≤ ((strOfL l).size : Int) := by omega
    have hOj : O ≤ (strOfL l).size := by omega
    by_cases hn0 : 0 ≤ n
    · have BK := BK hn0
      rw [if_pos hn0] at HST
      have hQi : ((off n.toNat T : Nat) : Int) ≤ ((strOfL T).size : Int) := by omega
      generalize off n.toNat T = Q at *
      clear hdl hsz2 ho2 hrl ho hsz
      go_wp2_with fail
      refine (BK.out _).mono ?_
      rintro e w3 ⟨rfl, hb3⟩
      have hb := bl_trans hb hb3
      go_wp2_with fail
      refine bodyPost_ret (v := .tuple #[.string (strOfL (T.take Q)), .bool true]) (by simp [results, Tryd.results19, go_sem]) rfl ⟨by rw [HST.out], hb⟩
    · rw [if_neg hn0] at HST
      clear BK hdl hsz2 ho2 hrl ho hsz
      go_wp2_with fail
      refine bodyPost_ret (v := .tuple #[.string (strOfL T), .bool true]) (by simp [results, Tryd.results19, go_sem]) rfl ⟨by rw [HST.out], hb⟩
  · have g4 := g3.symm
    clear g3
    go_wp2_with fail
    refine (AK.out _).mono ?_
    rintro e w2 ⟨rfl, hb2⟩
    have hb := bl_trans hb hb2
    have hOi : (O : Int) ≤ ((strOfL l).size : Int) := by omega
    have hOj : O ≤ (strOfL l).size := by omega
    by_cases hn0 : 0 ≤ n
    · have BK := BK hn0
      rw [if_pos hn0] at HST
      have hQi : ((off n.toNat T : Nat) : Int) ≤ ((strOfL T).size : Int) := by omega
      generalize off n.toNat T = Q at *
      clear hdl hsz2 ho2 hrl ho hsz
      go_wp2_with fail
      refine (BK.out _).mono ?_
      rintro e w3 ⟨rfl, hb3⟩
      have hb := bl_trans hb hb3
      go_wp2_with fail
      refine bodyPost_ret (v := .tuple #[.string (strOfL (T.take Q)), .bool true]) (by simp [results, Tryd.results19, go_sem]) rfl ⟨by rw [HST.out], hb⟩
    · rw [if_neg hn0] at HST
      clear BK hdl hsz2 ho2 hrl ho hsz
      go_wp2_with fail
      refine bodyPost_ret (v := .tuple #[.string (strOfL T), .bool true]) (by simp [results, Tryd.results19, go_sem]) rfl ⟨by rw [HST.out], hb⟩

end Go.Proofs.YtnamnldijopkfaaDoor
