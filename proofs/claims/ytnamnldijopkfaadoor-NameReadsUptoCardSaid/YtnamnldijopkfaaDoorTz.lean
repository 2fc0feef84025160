/-
  The contracts of the reference's Reverse and Moved, and of runes.Reverse.
-/
import Derived.Test.YtnamnldijopkfaaDoorTy
namespace Go.Proofs.YtnamnldijopkfaaDoor
open Go.ChangeShapes Go.WideShapes Go.ChangeAt Go.RowKit Go.Joins

theorem take_rev (rs : List Nat) (j : Nat) (h : j < rs.length) : rs.reverse.take (j + 1) = rs.reverse.take j ++ [rs[rs.length - 1 - j]] := by
  rw [List.take_succ_eq_append_getElem (by simpa using h)]
  congr 2
  simp

set_option maxHeartbeats 2000000 in
set_option maxRecDepth 100000 in
theorem refReverse_k (l : List UInt8) (w : World) (hl : l.length ≤ 1073741824) : Calls Tryd.prog 27 #[.string (strOfL l)] w fun e w' => e = .returned (.string (strOfL (encL (rns l).reverse))) ∧ Below w.heap.size w w' := by
  obtain ⟨i0, hi0, hz0, hz1, hz2⟩ := info_parts info_rune
  have hlen := rns_len l
  have RK := Lib.hid (fun v => refRunes_k l v hl)
  generalize rns l = rs at *
  go_enter Tryd.func27, Tryd.ntmps27
  go_wp2_with fail
  refine (RK.out _).mono ?_
  rintro e w2 ⟨v, rfl, hown, hb⟩
  have RR := rune_row hown
  obtain ⟨la, lc, rfl, hrc⟩ := RR
  have HRC := Lib.hid hrc
  clear hown hrc
  go_wp2_with fail
  go_loopw [4, 5] (fun o i wr => ∃ (j : Nat) (oa : Option Addr) (oc : Nat), j ≤ rs.length ∧ i = .int .i64 ((rs.length : Int) - 1 - j) ∧ o = .slice oa j oc ∧ wr.ownsRow w2.heap.size 21 1 (.slice oa j oc) j (rvals (rs.reverse.take j)) ∧ Kept w2 wr ∧ Below w.heap.size w wr ∧ w2.heap.size ≤ wr.heap.size) (fun _ i _ => (intOf i + 1).toNat)
  case atStart =>
    exact ⟨0, none, 0, Nat.zero_le _, by simp, rfl, World.ownsRow_nil _ _ _ _, kept_refl _, hb, Nat.le_refl _⟩
  case round =>
    obtain ⟨j, oa, oc, hj, rfl, rfl, hown, hkr, hbr, hlw⟩ := hrel
    have HOWN := Lib.hid hown
    have HKR := Lib.hid hkr
    clear hown hkr
    by_cases hlt : j < rs.length
    · obtain ⟨q, hq⟩ : ∃ q, q + j + 1 = rs.length := ⟨rs.length - 1 - j, by omega⟩
      have hql : q < rs.length := by omega
      have hqi : (rs.length : Int) - 1 - j = (q : Int) := by omega
      have hst : rs.reverse.take (j + 1) = rs.reverse.take j ++ [rs[q]] := by
        have h1 := take_rev rs j hlt
        have e : rs.length - 1 - j = q := by omega
        simp only [e] at h1
        exact h1
      obtain ⟨g0, o0, rfl, hcs⟩ := HRC.out (by omega)
      have p0 := HKR.out _ _ _ (hcs q hql)
      rw [hqi]
      have k1 : (0 : Int) ≤ (q : Int) := by omega
      have k2 : (q : Int) < (rs.length : Int) := by omega
      have HST := Lib.hid hst
      have HQ := Lib.hid hqi
      have hjl : (rs.reverse.take j).length = j := by simp; omega
      clear hcs hst hqi
      generalize rs[q] = r at *
      go_wp2_with (at_builtin; (refine wpList_append_lies _ rfl _ _ _ rfl w2.heap.size 21 i0 _ 1 4 Tryd.underlying32 hi0 hz0 hz1 hz2 (by rfl) (by omega) (.slice oa j oc) j (rvals (rs.reverse.take j)) (by rfl) (HOWN.out.alloc _) ⟨wr.heap.size, 0, none⟩ 1 1 [.int .i32 (r : Int)] (by rfl) (by rfl) (World.news_of_block (heap_alloc_new wr _)) (by simp [Value.oneCell']) (by omega) (by unfold maxLen; omega) (by omega) (by simp; omega) (wr.heap.size + 1) (by simp) ?_; intro g cap w4 hown4 hgrow4 hat4 hlt4))
      have HO4 := Lib.hid hown4
      have HG4 := Lib.hid hgrow4
      have hgb := fun o h => (HOWN.out.lt o h).1
      have HGB := Lib.hid hgb
      clear hown4 hgrow4 hat4 hgb
      go_roundw
      case rel =>
        refine ⟨j + 1, some ⟨g, 0, none⟩, cap, by omega, ?_, rfl, ?_, ?_, ?_, ?_⟩
        · first | (go_num; done) | (congr 1; omega) | (simp; omega)
        · rw [HST.out, rvals_append]
          simpa [rvals] using HO4.out
        · exact grown_kept (kept_alloc HKR.out _) HG4.out (fun o h => by have := HGB.out o h; omega)
        · have hb4 : Below w.heap.size w (wr.alloc (Obj.cells #[.int .i32 (r : Int)] 21)) := bl_alloc hbr _
          exact hb4.grown HG4.out hb4.size (fun o h => by have := HGB.out o h; have := hb.size; omega)
        · have := HG4.out.size
          simp at this
          omega
      case measure => simp [intOf] <;> omega
    · have k1 : ¬ (0 : Int) ≤ (rs.length : Int) - 1 - j := by omega
      have hje : j = rs.length := by omega
      subst hje
      have hown := HOWN.out
      rw [List.take_of_length_le (by simp)] at hown
      have RR := rune_row (rs := rs.reverse) (by simpa using hown)
      have TK := Lib.hid (refText_k _ rs.reverse wr RR (by simpa using (by omega : rs.length ≤ 1073741824)))
      clear hown RR
      generalize her : encL rs.reverse = er at TK
      go_wp2_with fail
      refine (TK.out).mono ?_
      rintro e w3 ⟨rfl, hb2⟩
      have hb3 := bl_trans hbr hb2
      go_wp2_with fail
      go_ret
      exact ⟨by rw [her]; rfl, hb3⟩

end Go.Proofs.YtnamnldijopkfaaDoor
