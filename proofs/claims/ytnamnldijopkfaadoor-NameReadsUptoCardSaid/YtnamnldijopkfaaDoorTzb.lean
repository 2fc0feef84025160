/-
  The contract of runes.Reverse.
-/
import Derived.Test.YtnamnldijopkfaaDoorTza
namespace Go.Proofs.YtnamnldijopkfaaDoor
open Go.ChangeShapes Go.WideShapes Go.ChangeAt Go.RowKit Go.Joins

set_option maxHeartbeats 4000000 in
set_option maxRecDepth 100000 in
theorem reverse_k (l : List UInt8) (w : World) (hl : l.length ≤ 1073741824) : Calls Tryd.prog 26 #[.string (strOfL l)] w fun e w' => e = .returned (.string (strOfL (encL (rns l).reverse))) ∧ Below w.heap.size w w' := by
  obtain ⟨i0, hi0, hz0, hz1, hz2⟩ := info_parts info_rune
  have hlen := rns_len l
  go_enter Tryd.func26, Tryd.ntmps26
  go_wp2_with fail
  generalize hK : w.heap.size = K at *
  go_loopw [3] (fun o wr => ∃ (pos : Nat) (acc : List Nat) (oa : Option Addr) (oc : Nat), o = .slice oa acc.length oc ∧ wr.ownsRow (K + 1) 21 1 (.slice oa acc.length oc) acc.length (rvals acc) ∧ wr.heap[K]? = some (.stringIter (strOfL l) pos) ∧ Below w.heap.size w wr ∧ acc ++ rns (l.drop pos) = rns l ∧ pos ≤ l.length ∧ acc.length ≤ pos) (fun _ wr => (strOfL l).size - wr.iterPos K)
  case atStart =>
    refine ⟨0, [], none, 0, rfl, World.ownsRow_nil _ _ _ _, ?_, bl_alloc (bl_refl w) _, by simp, Nat.zero_le _, Nat.le_refl _⟩
    have := World.iter_heap w (strOfL l) 0
    rw [hK] at this
    exact this
  case round =>
    obtain ⟨pos, acc, oa, oc, rfl, hown, hit, hbw, hacc, hpl, hcp⟩ := hrel
    have hszk : K < wr.heap.size := (Array.getElem?_eq_some_iff.1 hit).1
    have HOWN := Lib.hid hown
    clear hown
    by_cases hp : pos < (strOfL l).size
    · have hnx : ∀ ty, (Instr.next (.pointer (some ⟨K, 0, none⟩)) true ty).run Tryd.prog wr = _ := fun ty => Lib.run_next_any_at wr K (strOfL l) pos ty hit hp
      obtain ⟨hne, hde, hrn, hw1, hw2, hok⟩ := range_step l pos hp
      have hit2 := Lib.iterAt_heap wr K (strOfL l) pos (pos + (Utf8.decode (strOfL l) pos).2) hit
      have hbw2 := Lib.below_iterAt hbw (k := K) (by omega) (strOfL l) (pos + (Utf8.decode (strOfL l) pos).2)
      rw [hde] at hnx hit2 hbw2
      rw [hrn] at hacc
      generalize (Lib.decodeL (l.drop pos)).1 = r at *
      generalize (Lib.decodeL (l.drop pos)).2 = wd at *
      have HA := Lib.hid hacc
      clear hde hrn hacc
      clear hne hok
      have HO2 := Lib.hid (ownsRow_iterAt HOWN.out (k := K) (by omega) (strOfL l) (pos + wd))
      have hsz2 : K + 1 ≤ (wr.iterAt K (strOfL l) (pos + wd)).heap.size := by rw [Lib.iterAt_size]; omega
      have HIT := Lib.hid hit2
      clear hit2
      generalize hW : wr.iterAt K (strOfL l) (pos + wd) = W at *
      go_wp2_with (at_builtin; (refine wpList_append_lies _ rfl _ _ _ rfl (K + 1) 21 i0 _ 1 4 Tryd.underlying32 hi0 hz0 hz1 hz2 (by rfl) (by omega) (.slice oa acc.length oc) acc.length (rvals acc) (by rfl) (HO2.out.alloc _) ⟨W.heap.size, 0, none⟩ 1 1 [.int .i32 (r : Int)] (by rfl) (by rfl) (World.news_of_block (heap_alloc_new W _)) (by simp [Value.oneCell']) (by omega) (by unfold maxLen; omega) (by omega) (by simp; omega) (W.heap.size + 1) (by simp) ?_; intro g cap w4 hown4 hgrow4 hat4 hlt4))
      have HO4 := Lib.hid hown4
      have HG4 := Lib.hid hgrow4
      have hgb := fun o h => (HO2.out.lt o h).1
      have HGB := Lib.hid hgb
      clear hown4 hgrow4 hat4 hgb
      go_roundw
      case rel =>
        refine ⟨pos + wd, acc ++ [r], some ⟨g, 0, none⟩, cap, by simp, ?_, ?_, ?_, ?_, hw2, by simp; omega⟩
        · rw [rvals_append]
          simpa [rvals] using HO4.out
        · exact grown_iter HG4.out (by rw [heap_alloc_old _ _ (by omega)]; exact HIT.out) (fun e => by have := HGB.out K e.symm; omega)
        · have hb4 : Below w.heap.size w (W.alloc (Obj.cells #[.int .i32 (r : Int)] 21)) := bl_alloc hbw2 _
          exact hb4.grown HG4.out hb4.size (fun o h => by have := HGB.out o h; omega)
        · rw [List.append_assoc]; exact HA.out
      case measure =>
        have hq : w4.heap[K]? = some (.stringIter (strOfL l) (pos + wd)) := grown_iter HG4.out (by rw [heap_alloc_old _ _ (by omega)]; exact HIT.out) (fun e => by have := HGB.out K e.symm; omega)
        simp only [World.iterPos, hq, hit]
        omega
    · have hnx : ∀ ty, (Instr.next (.pointer (some ⟨K, 0, none⟩)) true ty).run Tryd.prog wr = _ := fun ty => Lib.run_next_end_at wr K (strOfL l) pos ty hit hp
      have hz : l.drop pos = [] := by
        rw [strOfL_size] at hp
        exact List.drop_eq_nil_of_le (by omega)
      rw [hz, rns_nil, List.append_nil] at hacc
      have hown := HOWN.out
      clear HOWN
      rw [← hacc] at hlen
      have HA := Lib.hid hacc
      have HOK := Lib.hid (show ∀ r ∈ acc, okR r by rw [hacc]; exact rns_ok l)
      have hK2 : w.heap.size = K := hK
      clear hacc hz
      have RR := rune_row hown
      obtain ⟨_, _, e1, hrc⟩ := RR
      obtain ⟨rfl, _, rfl⟩ := Value.slice.inj e1
      have HRC := Lib.hid hrc
      clear hown hrc e1 hK
      go_upto_region 6 with fail
      generalize wr = wo at *
      generalize hB : wo.heap.size = B at *
      have hib : Lib.IsBuilderF 61 5 B B (Lib.byteCells []) (wo.alloc (.cells #[.pointer none, .slice none 0 0] 61)) := Lib.IsBuilderF.of (hB ▸ Lib.fresh_isBuilder 61 5 wo)
      go_wp2_with fail
      go_loopw [7] (fun i wv => ∃ (j : Nat) (out : List UInt8), j ≤ acc.length ∧ i = .int .i64 ((acc.length : Int) - 1 - j) ∧ Lib.IsBuilderF 61 5 B B (Lib.byteCells out) wv ∧ out = encL (acc.reverse.take j) ∧ Below B wo wv ∧ B < wv.heap.size) (fun i _ => (intOf i + 1).toNat)
      case atStart =>
        exact ⟨0, [], Nat.zero_le _, by simp, hib, by simp [encL_nil], hB ▸ bl_alloc (bl_refl wo) _, by simp; omega⟩
      case round =>
        obtain ⟨j, out, hj, rfl, hI, hout, hbr, hsz⟩ := hrel
        have HKR := Lib.hid (show Kept wo wr from kept_below (hB.symm ▸ hbr))
        have HOUT := Lib.hid hout
        clear hout hib
        have hol : out.length ≤ 4 * j := by
          rw [HOUT.out]
          have := encL_le (acc.reverse.take j)
          simp at this
          omega
        by_cases hlt : j < acc.length
        · obtain ⟨q, hq⟩ : ∃ q, q + j + 1 = acc.length := ⟨acc.length - 1 - j, by omega⟩
          have hql : q < acc.length := by omega
          have hqi : (acc.length : Int) - 1 - j = (q : Int) := by omega
          have hst : acc.reverse.take (j + 1) = acc.reverse.take j ++ [acc[q]] := by
            have h1 := take_rev acc j hlt
            have e : acc.length - 1 - j = q := by omega
            simp only [e] at h1
            exact h1
          obtain ⟨g0, o0, rfl, hcs⟩ := HRC.out (by omega)
          have p0 := HKR.out _ _ _ (hcs q hql)
          rw [hqi]
          have k1 : (0 : Int) ≤ (q : Int) := by omega
          have k2 : (q : Int) < (acc.length : Int) := by omega
          have HST := Lib.hid hst
          have hQ := Lib.hid hqi
          clear hcs hst hqi
          have hok := HOK.out _ (List.getElem_mem hql)
          generalize acc[q] = r at *
          unfold okR at hok
          go_wp2_with fail
          refine (Tryd.Builder_WriteRune_k B B _ _ (by omega) (by omega) _ hI (by rw [Lib.byteCells_length]; omega) (by omega)).mono ?_
          rintro e W2 ⟨rfl, h2, b2, k2⟩
          go_wp2_with fail
          go_roundw
          case rel =>
            refine ⟨j + 1, out ++ Lib.encodeRune r, by omega, ?_, ?_, ?_, hbr.trans b2, ?_⟩
            · first | (go_num; done) | (congr 1; omega) | (simp; omega)
            · rw [Lib.byteCells_append, Lib.byteCells_encodeRune]; exact Or.inr (by simpa using h2)
            · rw [HST.out, encL_append, encL_cons, encL_nil, List.append_nil, HOUT.out]
            · have := b2.size; omega
          case measure => simp [intOf] <;> omega
        · have k1 : ¬ (0 : Int) ≤ (acc.length : Int) - 1 - j := by omega
          have hje : j = acc.length := by omega
          subst hje
          go_wp2_with fail
          refine (Tryd.Builder_String_any_k B B out _ hI (by omega)).mono ?_
          rintro e W3 ⟨rfl, _, b3, _⟩
          go_wp2_with fail
          go_ret
          refine ⟨?_, hbw.trans ((hbr.trans b3).mono (by omega))⟩
          have := HOUT.out
          rw [List.take_of_length_le (by simp)] at this
          rw [← HA.out, ← this]
          rfl

end Go.Proofs.YtnamnldijopkfaaDoor
