/-
  The contract of the reference's Moved.
-/
import Derived.Test.YtnamnldijopkfaaDoorTz
namespace Go.Proofs.YtnamnldijopkfaaDoor
open Go.ChangeShapes Go.WideShapes Go.ChangeAt Go.RowKit Go.Joins

/-- the first j runes moved -/
def mvd (f : Nat → Nat) (rs : List Nat) (j : Nat) : List Nat := (rs.take j).map f ++ rs.drop j
theorem mvd_len (f : Nat → Nat) (rs : List Nat) (j : Nat) : (mvd f rs j).length = rs.length := by simp [mvd]; omega
theorem mvd_all (f : Nat → Nat) (rs : List Nat) : mvd f rs rs.length = rs.map f := by simp [mvd]
theorem mvd_at (f : Nat → Nat) (rs : List Nat) (j : Nat) (h : j < rs.length) : (mvd f rs j)[j]? = some rs[j] := by
  unfold mvd
  have e : ((rs.take j).map f).length = j := by simp; omega
  rw [List.getElem?_append_right (by omega), e]
  simp [h]
theorem mvd_set (f : Nat → Nat) (rs : List Nat) (j : Nat) (h : j < rs.length) : (mvd f rs j).set j (f rs[j]) = mvd f rs (j + 1) := by
  unfold mvd
  have e : ((rs.take j).map f).length = j := by simp; omega
  rw [List.set_append_right _ _ (by omega), e, Nat.sub_self, List.take_succ_eq_append_getElem h, List.drop_eq_getElem_cons h, List.set_cons_zero, List.map_append, List.append_assoc]
  rfl
theorem mvd_same (f : Nat → Nat) (rs : List Nat) (j : Nat) (h : j < rs.length) (e : f rs[j] = rs[j]) : mvd f rs j = mvd f rs (j + 1) := by
  unfold mvd
  rw [List.take_succ_eq_append_getElem h, List.drop_eq_getElem_cons h, List.map_append, List.append_assoc]
  show _ = _ ++ (f rs[j] :: ([] ++ _))
  rw [e, List.nil_append]
theorem rvals_set (rs : List Nat) (j : Nat) (r : Nat) : (rvals rs).set j (.int .i32 (r : Int)) = rvals (rs.set j r) := by
  simp [rvals, List.map_set]
theorem rvals_at (rs : List Nat) (j : Nat) (r : Nat) (h : rs[j]? = some r) : (rvals rs)[j]? = some (.int .i32 (r : Int)) := by
  simp [rvals, h]

set_option maxHeartbeats 2000000 in
set_option maxRecDepth 100000 in
theorem refMoved_k (l : List UInt8) (a z by1 : Int) (f : Nat → Nat) (hf1 : ∀ r, okR r → (a ≤ (r : Int) ∧ (r : Int) ≤ z) → (r : Int) + by1 = (f r : Int) ∧ f r ≤ 1114111) (hf2 : ∀ r, okR r → ¬ (a ≤ (r : Int) ∧ (r : Int) ≤ z) → f r = r) (w : World) (hl : l.length ≤ 1073741824) :
    Calls Tryd.prog 24 #[.string (strOfL l), .int .i32 a, .int .i32 z, .int .i32 by1] w fun e w' => e = .returned (.string (strOfL (encL ((rns l).map f)))) ∧ Below w.heap.size w w' := by
  have HF1 := Lib.hid hf1
  have HF2 := Lib.hid hf2
  clear hf1 hf2
  have hlen := rns_len l
  have HOK := Lib.hid (rns_ok l)
  have RK := Lib.hid (fun v => refRunes_k l v hl)
  generalize rns l = rs at *
  go_enter Tryd.func24, Tryd.ntmps24
  go_wp2_with fail
  refine (RK.out _).mono ?_
  rintro e w2 ⟨v, rfl, hown, hb⟩
  obtain ⟨la, lc, rfl, _, _⟩ := row_shape hown
  have HOWN := Lib.hid hown
  clear hown
  go_wp2_with fail
  go_loopw [10] (fun i wr => ∃ j : Nat, j ≤ rs.length ∧ i = .int .i64 j ∧ wr.ownsRow w.heap.size 21 1 (.slice la rs.length lc) rs.length (rvals (mvd f rs j)) ∧ Below w.heap.size w wr) (fun i _ => rs.length - (intOf i).toNat)
  case atStart => exact ⟨0, Nat.zero_le _, rfl, by simpa [mvd] using HOWN.out, hb⟩
  case round =>
    obtain ⟨j, hj, rfl, hown, hbr⟩ := hrel
    clear HOWN
    by_cases hlt : j < rs.length
    · have k1 : (j : Int) < (rs.length : Int) := by omega
      obtain ⟨g, rfl, hg, hcs⟩ := row_cells hown (by omega)
      have p0 := hcs j _ (rvals_at _ _ _ (mvd_at f rs j hlt))
      have q0 := hown.frozenAt j
      have hok := HOK.out _ (List.getElem_mem hlt)
      have hF1 := HF1.out _ hok
      have hF2 := HF2.out _ hok
      have hst := mvd_set f rs j hlt
      have hsm := mvd_same f rs j hlt
      generalize rs[j] = r at *
      have HOWN := Lib.hid hown
      have HST := Lib.hid hst
      have HSM := Lib.hid hsm
      clear hcs hown hst hsm
      have k0 : (0 : Int) ≤ (j : Int) := by omega
      by_cases h1 : a ≤ (r : Int) ∧ (r : Int) ≤ z
      · obtain ⟨h3, h4⟩ := hF1 h1
        have h5 : IntKind.i32.wrap ((r : Int) + by1) = (f r : Int) := by rw [h3]; simp [IntKind.wrap, IntKind.bits, IntKind.signed]; omega
        obtain ⟨h6, h7⟩ := h1
        clear hF1 hF2 h3
        go_wp2_with fail
        go_roundw
        case rel =>
          refine ⟨j + 1, by omega, by go_num, ?_, bl_set hbr (by exact hg) _⟩
          have := (HOWN.out.stored j (.int .i32 (f r : Nat))).1
          rw [rvals_set, HST.out] at this
          exact this
        case measure => simp [intOf]; omega
      · have h6 := hF2 h1
        clear hF1 hF2
        by_cases h7 : a ≤ (r : Int)
        · have h8 : ¬ (r : Int) ≤ z := fun q => h1 ⟨h7, q⟩
          clear h1
          go_wp2_with fail
          go_roundw
          case rel =>
            refine ⟨j + 1, by omega, by go_num, ?_, hbr⟩
            rw [← HSM.out h6]
            exact HOWN.out
          case measure => simp [intOf]; omega
        · clear h1
          go_wp2_with fail
          go_roundw
          case rel =>
            refine ⟨j + 1, by omega, by go_num, ?_, hbr⟩
            rw [← HSM.out h6]
            exact HOWN.out
          case measure => simp [intOf]; omega
    · have k1 : ¬ (j : Int) < (rs.length : Int) := by omega
      have hje : j = rs.length := by omega
      subst hje
      rw [mvd_all] at hown
      have RR := rune_row (rs := rs.map f) (by simpa using hown)
      have TK := Lib.hid (refText_k _ (rs.map f) wr RR (by simpa using (by omega : rs.length ≤ 1073741824)))
      clear hown RR
      generalize her : encL (rs.map f) = er at TK
      go_wp2_with fail
      refine (TK.out).mono ?_
      rintro e w3 ⟨rfl, hb2⟩
      have hb3 := bl_trans hbr hb2
      go_wp2_with fail
      go_ret
      exact ⟨by rw [her]; rfl, hb3⟩

end Go.Proofs.YtnamnldijopkfaaDoor
