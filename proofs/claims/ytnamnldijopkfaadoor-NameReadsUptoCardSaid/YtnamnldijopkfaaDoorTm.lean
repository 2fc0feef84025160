/-
  The contracts of runes.Upper, Lower: a text with some letters moved.
-/
import Derived.Test.YtnamnldijopkfaaDoorTs
namespace Go.Proofs.YtnamnldijopkfaaDoor
open Go.ChangeShapes Go.WideShapes Go.ChangeAt Go.RowKit Go.Joins

theorem encL_le (rs : List Nat) : (encL rs).length ≤ 4 * rs.length := by
  induction rs with
  | nil => simp [encL_nil]
  | cons r rs ih =>
    rw [encL_cons, List.length_append, List.length_cons]
    have := (enc_len r).2
    omega

set_option maxHeartbeats 4000000 in
set_option maxRecDepth 100000 in
theorem mapped_k (l : List UInt8) (a z by1 : Int) (f : Nat → Nat) (hf1 : ∀ r, okR r → (a ≤ (r : Int) ∧ (r : Int) ≤ z) → (r : Int) + by1 = (f r : Int) ∧ f r ≤ 1114111) (hf2 : ∀ r, okR r → ¬ (a ≤ (r : Int) ∧ (r : Int) ≤ z) → f r = r) (w : World) (hl : l.length ≤ 1073741824) :
    Calls Tryd.prog 61 #[.string (strOfL l), .int .i32 a, .int .i32 z, .int .i32 by1] w fun e w' => e = .returned (.string (strOfL (encL ((rns l).map f)))) ∧ Below w.heap.size w w' := by
  have HF1 := Lib.hid hf1
  have HF2 := Lib.hid hf2
  clear hf1 hf2
  go_enter Tryd.func61, Tryd.ntmps61
  go_wp2_with fail
  have hib : Lib.IsBuilderF 61 5 w.heap.size w.heap.size (Lib.byteCells []) (w.alloc (.cells #[.pointer none, .slice none 0 0] 61)) := Lib.IsBuilderF.of (Lib.fresh_isBuilder 61 5 w)
  generalize hK : w.heap.size + 1 = K at *
  go_loopw [] (fun wr => ∃ (pos : Nat) (acc : List UInt8), Lib.IsBuilderF 61 5 w.heap.size w.heap.size (Lib.byteCells acc) wr ∧ wr.heap[K]? = some (.stringIter (strOfL l) pos) ∧ Below w.heap.size w wr ∧ acc ++ encL ((rns (l.drop pos)).map f) = encL ((rns l).map f) ∧ pos ≤ l.length ∧ acc.length ≤ 4 * pos) (fun wr => (strOfL l).size - wr.iterPos K)
  case atStart =>
    refine ⟨0, [], hib.alloc _, ?_, bl_alloc (bl_alloc (bl_refl w) _) _, by simp, Nat.zero_le _, by simp⟩
    have := World.iter_heap (w.alloc (.cells #[.pointer none, .slice none 0 0] 61)) (strOfL l) 0
    rw [← hK]
    simpa using this
  case round =>
    clear hib
    obtain ⟨pos, acc, hI, hit, hbw, hacc, hpl, hal⟩ := hrel
    have hszk : K < wr.heap.size := (Array.getElem?_eq_some_iff.1 hit).1
    by_cases hp : pos < (strOfL l).size
    · have hnx : ∀ ty, (Instr.next (.pointer (some ⟨K, 0, none⟩)) true ty).run Tryd.prog wr = _ := fun ty => Lib.run_next_any_at wr K (strOfL l) pos ty hit hp
      obtain ⟨hne, hde, hrn, hw1, hw2, hok⟩ := range_step l pos hp
      have hit2 := Lib.iterAt_heap wr K (strOfL l) pos (pos + (Utf8.decode (strOfL l) pos).2) hit
      have hbw2 := Lib.below_iterAt hbw (k := K) (by omega) (strOfL l) (pos + (Utf8.decode (strOfL l) pos).2)
      have hI2 := hI.iterAt hit (pos + (Utf8.decode (strOfL l) pos).2)
      have hsz2 : w.heap.size ≤ (wr.iterAt K (strOfL l) (pos + (Utf8.decode (strOfL l) pos).2)).heap.size := by rw [Lib.iterAt_size]; omega
      rw [hde] at hnx hit2 hbw2 hI2 hsz2
      rw [hrn, List.map_cons, encL_cons] at hacc
      have hF1 := HF1.out _ hok
      have hF2 := HF2.out _ hok
      generalize (Lib.decodeL (l.drop pos)).1 = r at *
      generalize (Lib.decodeL (l.drop pos)).2 = wd at *
      have HA := Lib.hid hacc
      have hr4 := enc_len (f r)
      unfold okR at hok
      clear hde hrn hacc
      clear hne
      go_upto_region 5 with fail
      go_cut [24] (fun s24 wx => s24 = .bool (decide (a ≤ (r : Int) ∧ (r : Int) ≤ z)) ∧ wx = wr.iterAt K (strOfL l) (pos + wd))
      case first =>
        clear hF1 hF2
        by_cases h1 : a ≤ (r : Int)
        · by_cases h2 : (r : Int) ≤ z
          all_goals
            go_wp2_with fail
            go_meet
            refine ⟨congrArg Value.bool ?_, rfl⟩
            simp [*]
        · go_wp2_with fail
          go_meet
          refine ⟨congrArg Value.bool ?_, rfl⟩
          exact (decide_eq_false (fun q => by omega)).symm
      case rest =>
      obtain ⟨rfl, rfl⟩ := hcut
      go_upto_if 24 with fail
      go_cut [11] (fun s11 wx => s11 = .int .i32 (f r) ∧ wx = wr.iterAt K (strOfL l) (pos + wd))
      case first =>
        by_cases h1 : a ≤ (r : Int) ∧ (r : Int) ≤ z
        · obtain ⟨h3, h4⟩ := hF1 h1
          have h5 : IntKind.i32.wrap ((r : Int) + by1) = (f r : Int) := by rw [h3]; simp [IntKind.wrap, IntKind.bits, IntKind.signed]; omega
          rw [decide_eq_true h1]
          clear hF1 hF2 h3 h1
          go_wp2_with fail
          go_meet
          refine ⟨?_, rfl⟩
          first | rfl | (rw [h5]; rfl) | (congr 1; simp only [IntKind.wrap, IntKind.bits, IntKind.signed] at h5; simpa using h5)
        · have h6 := hF2 h1
          rw [decide_eq_false h1]
          clear hF1 hF2 h1
          go_wp2_with fail
          go_meet
          exact ⟨by rw [h6], rfl⟩
      case rest =>
        have hfr : f r ≤ 1114111 := by
          by_cases h1 : a ≤ (r : Int) ∧ (r : Int) ≤ z
          · exact (hF1 h1).2
          · rw [hF2 h1]; omega
        clear hF1 hF2
        obtain ⟨rfl, rfl⟩ := hcut
        go_wp2_with fail
        refine (Tryd.Builder_WriteRune_k w.heap.size w.heap.size _ _ (by omega) (by omega) _ hI2 (by rw [Lib.byteCells_length]; omega) hsz2).mono ?_
        rintro e W2 ⟨rfl, h2, b2, k2⟩
        go_wp2_with fail
        go_roundw
        case rel =>
          refine ⟨pos + wd, acc ++ Lib.encodeRune (f r), ?_, k2.iter hit2 (by omega), hbw2.trans b2, ?_, hw2, by simp; omega⟩
          · rw [Lib.byteCells_append, Lib.byteCells_encodeRune]; exact Or.inr (by simpa using h2)
          · rw [← HA.out, List.append_assoc]
        case measure =>
          have hq := k2.iter hit2 (by omega)
          simp only [World.iterPos, hq, hit]
          omega
    · have hnx : ∀ ty, (Instr.next (.pointer (some ⟨K, 0, none⟩)) true ty).run Tryd.prog wr = _ := fun ty => Lib.run_next_end_at wr K (strOfL l) pos ty hit hp
      have hz : l.drop pos = [] := by
        rw [strOfL_size] at hp
        exact List.drop_eq_nil_of_le (by omega)
      rw [hz] at hacc
      have HA := Lib.hid (show acc = encL ((rns l).map f) by simpa [rns_nil, encL_nil] using hacc)
      clear hacc hz
      go_wp2_with fail
      refine (Tryd.Builder_String_any_k w.heap.size w.heap.size acc _ hI (by omega)).mono ?_
      rintro e W3 ⟨rfl, _, b3, _⟩
      go_wp2_with fail
      go_ret
      refine ⟨?_, hbw.trans b3⟩
      rw [← HA.out]
      rfl

def upR (r : Nat) : Nat := if 97 ≤ r ∧ r ≤ 122 then r - 32 else r
def loR (r : Nat) : Nat := if 65 ≤ r ∧ r ≤ 90 then r + 32 else r

theorem upper_k (l : List UInt8) (w : World) (hl : l.length ≤ 1073741824) : Calls Tryd.prog 23 #[.string (strOfL l)] w fun e w' => e = .returned (.string (strOfL (encL ((rns l).map upR)))) ∧ Below w.heap.size w w' := by
  have MK := Lib.hid (fun v => mapped_k l 97 122 (-32) upR (fun r _ h => by unfold upR; rw [if_pos (by omega)]; omega) (fun r _ h => by unfold upR; rw [if_neg (by omega)]) v hl)
  go_enter Tryd.func23, Tryd.ntmps23
  go_wp2_with fail
  refine (MK.out _).mono ?_
  rintro e w2 ⟨rfl, hb⟩
  go_wp2_with fail
  go_ret
  exact ⟨rfl, hb⟩

theorem lower_k (l : List UInt8) (w : World) (hl : l.length ≤ 1073741824) : Calls Tryd.prog 25 #[.string (strOfL l)] w fun e w' => e = .returned (.string (strOfL (encL ((rns l).map loR)))) ∧ Below w.heap.size w w' := by
  have MK := Lib.hid (fun v => mapped_k l 65 90 32 loR (fun r _ h => by unfold loR; rw [if_pos (by omega)]; omega) (fun r _ h => by unfold loR; rw [if_neg (by omega)]) v hl)
  go_enter Tryd.func25, Tryd.ntmps25
  go_wp2_with fail
  refine (MK.out _).mono ?_
  rintro e w2 ⟨rfl, hb⟩
  go_wp2_with fail
  go_ret
  exact ⟨rfl, hb⟩

end Go.Proofs.YtnamnldijopkfaaDoor
