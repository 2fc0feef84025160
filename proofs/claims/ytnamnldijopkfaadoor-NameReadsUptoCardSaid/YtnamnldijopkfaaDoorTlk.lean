/-
  A number's form: digits.
-/
import Derived.Test.YtnamnldijopkfaaDoorTlj
import Derived.Test.YtnamnldijopkfaaDoorTze
namespace Go.Proofs.YtnamnldijopkfaaDoor
open Go.ChangeShapes Go.WideShapes Go.ChangeAt Go.RowKit Go.Joins

theorem allDig_cons (b : UInt8) (t : List UInt8) : allDig (b :: t) = (decide (48 ≤ b.toNat ∧ b.toNat ≤ 57) && allDig t) := by simp [allDig]
theorem dec_big (b : UInt8) (t : List UInt8) (h : 128 ≤ b.toNat) : 128 ≤ (Lib.decodeL (b :: t)).1 := by
  rw [Lib.decodeL_N]
  rcases Lib.decodeN_shape (b :: t).length ((b :: t).getD 0 0).toNat ((b :: t).getD 1 0).toNat ((b :: t).getD 2 0).toNat ((b :: t).getD 3 0).toNat with ⟨c, e⟩ | ⟨c1, c2, c3, cv, e⟩ | ⟨c1, c2, c3, c4, cv, cs, e⟩ | ⟨c1, c2, c3, c4, c5, cv, cw, e⟩ | e
  · rw [List.getD_cons_zero] at c; omega
  all_goals (rw [e]; dsimp only; omega)
/-- a rune that is a digit is one byte, and the byte is it -/
theorem dig_step (t : List UInt8) (hne : t ≠ []) : allDig t = (decide (48 ≤ (Lib.decodeL t).1 ∧ (Lib.decodeL t).1 ≤ 57) && allDig (t.drop (Lib.decodeL t).2)) := by
  cases t with
  | nil => exact absurd rfl hne
  | cons b t =>
    rw [allDig_cons]
    by_cases h : b.toNat < 128
    · rw [Lib.decodeL_ascii b t h]
      rfl
    · have := dec_big b t (by omega)
      rw [decide_eq_false (by omega), decide_eq_false (by omega), Bool.false_and, Bool.false_and]

theorem isEmpty_str (l : List UInt8) : (strOfL l).toList.isEmpty = l.isEmpty := by
  have h := bytes_beq l []
  rw [show (strOfL []).toList = [] from by unfold strOfL ByteArray.toList ByteArray.toList.loop; rfl] at h
  cases l with
  | nil => unfold strOfL ByteArray.toList ByteArray.toList.loop; rfl
  | cons b t =>
    rw [decide_eq_false (by simp)] at h
    show _ = false
    cases hq : (strOfL (b :: t)).toList with
    | nil => rw [hq] at h; simp at h
    | cons x y => rfl

set_option maxHeartbeats 1000000 in
theorem digits_k (l : List UInt8) (w : World) : Calls Tryd.prog 69 #[.string (strOfL l)] w fun e w' => e = .returned (.bool (digs l)) ∧ Below w.heap.size w w' := by
  go_enter Tryd.func69, Tryd.ntmps69
  go_wp2_with fail
  generalize hK : w.heap.size = K at *
  go_loopw [] (fun wr => ∃ pos : Nat, wr.heap[K]? = some (.stringIter (strOfL l) pos) ∧ Below w.heap.size w wr ∧ allDig l = allDig (l.drop pos) ∧ pos ≤ l.length) (fun wr => (strOfL l).size - wr.iterPos K)
  case atStart =>
    refine ⟨0, ?_, bl_alloc (bl_refl w) _, rfl, Nat.zero_le _⟩
    have := World.iter_heap w (strOfL l) 0
    rw [hK] at this
    exact this
  case round =>
    obtain ⟨pos, hit, hbw, hacc, hpl⟩ := hrel
    have hszk : K < wr.heap.size := (Array.getElem?_eq_some_iff.1 hit).1
    by_cases hp : pos < (strOfL l).size
    · have hnx : ∀ ty, (Instr.next (.pointer (some ⟨K, 0, none⟩)) true ty).run Tryd.prog wr = _ := fun ty => Lib.run_next_any_at wr K (strOfL l) pos ty hit hp
      obtain ⟨hne, hde, hrn, hw1, hw2, hok⟩ := range_step l pos hp
      have hit2 := Lib.iterAt_heap wr K (strOfL l) pos (pos + (Utf8.decode (strOfL l) pos).2) hit
      have hbw2 := Lib.below_iterAt hbw (k := K) (by omega) (strOfL l) (pos + (Utf8.decode (strOfL l) pos).2)
      rw [hde] at hnx hit2 hbw2
      have hds := dig_step (l.drop pos) hne
      rw [List.drop_drop] at hds
      rw [hds] at hacc
      have HA := Lib.hid hacc
      generalize (Lib.decodeL (l.drop pos)).1 = r at *
      generalize (Lib.decodeL (l.drop pos)).2 = wd at *
      clear hde hrn hacc hds hok
      clear hne
      by_cases h1 : (r : Int) < 48
      · have hf : digs l = false := by unfold digs; rw [HA.out, decide_eq_false (by omega), Bool.false_and, Bool.false_and]
        have HF := Lib.hid hf
        clear hf HA
        go_wp2_with fail
        go_ret
        exact ⟨by rw [HF.out]; rfl, by first | exact hbw2 | (have q := hbw2; rw [hK] at q; exact q)⟩
      · by_cases h2 : 57 < (r : Int)
        · have hf : digs l = false := by unfold digs; rw [HA.out, decide_eq_false (by omega), Bool.false_and, Bool.false_and]
          have HF := Lib.hid hf
          clear hf HA
          go_wp2_with fail
          go_ret
          exact ⟨by rw [HF.out]; rfl, by first | exact hbw2 | (have q := hbw2; rw [hK] at q; exact q)⟩
        · have HA2 := HA.out
          rw [decide_eq_true ⟨by omega, by omega⟩, Bool.true_and] at HA2
          have HA2 := Lib.hid HA2
          clear HA
          go_wp2_with fail
          go_roundw
          case rel => exact ⟨pos + wd, hit2, hbw2, HA2.out, hw2⟩
          case measure =>
            simp only [World.iterPos, hit2, hit]
            omega
    · have hnx : ∀ ty, (Instr.next (.pointer (some ⟨K, 0, none⟩)) true ty).run Tryd.prog wr = _ := fun ty => Lib.run_next_end_at wr K (strOfL l) pos ty hit hp
      have hz : l.drop pos = [] := by
        rw [strOfL_size] at hp
        exact List.drop_eq_nil_of_le (by omega)
      rw [hz] at hacc
      have hf : digs l = !l.isEmpty := by unfold digs; rw [hacc]; simp [allDig]
      have HF := Lib.hid hf
      have hbe := bytes_beq l []
      clear hacc hz hf
      go_wp2_with fail
      go_ret
      refine ⟨?_, by first | exact hbw | (have q := hbw; rw [hK] at q; exact q)⟩
      rw [HF.out, ← isEmpty_str l]
      rfl

end Go.Proofs.YtnamnldijopkfaaDoor
