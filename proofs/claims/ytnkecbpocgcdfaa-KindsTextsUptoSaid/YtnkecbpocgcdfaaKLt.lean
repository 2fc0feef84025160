/-
  The law's own text of a type, and how it counts its parts.
-/
import Derived.Test.YtnkecbpocgcdfaaKLq
import Derived.Test.YtnkecbpocgcdfaaKq
namespace Go.Proofs.Ytnkecbpocgcdfaa
open Go.ChangeShapes Go.WideShapes Go.ChangeAt Go.RowKit Go.Joins

set_option maxHeartbeats 1000000 in
theorem left_k {w : World} {T : Ty} {vi vn : Value} (h : IsTy w T vi vn) : ∀ (n : Int), 0 ≤ n → n ≤ 20000 → ∀ w' : World, Kept w w' →
    Calls Try.prog 36 #[.agg #[.int .i64 T.kind, vi, vn], .int .i64 n] w' fun e w2 => (∃ r : Int, e = .returned (.int .i64 r) ∧ -1 ≤ r ∧ r ≤ 20000) ∧ Below w'.heap.size w' w2 := by
  induction h with
  | mk k ts ns vn a c I N hk hn h1 h2 h3 h4 ih =>
    intro n hn0 hn1 w' hK
    have HIH := Lib.hid ih
    have HC := Lib.hid h3
    obtain ⟨na, nc, rfl, hq1, hq2, hq3⟩ := (hn.keep hK).out
    have HK := Lib.hid hK
    clear ih h3 h4 hn hq1 hq2 hq3 hK
    show Calls Try.prog 36 #[.agg #[.int .i64 k, .slice a ts.length c, .slice na ns.length nc], .int .i64 n] w' _
    go_enter Try.func36, Try.ntmps36
    go_wp2_with fail
    go_loopw [1, 5] (fun m i wr => ∃ (j : Nat) (r : Int), j ≤ ts.length ∧ i = .int .i64 j ∧ m = .int .i64 r ∧ -1 ≤ r ∧ r ≤ 20000 ∧ Kept w' wr ∧ Below w'.heap.size w' wr ∧
      wr.cell? ⟨w'.heap.size, 0, none⟩ = some (.int .i64 k) ∧ wr.cell? ⟨w'.heap.size, 1, none⟩ = some (.slice a ts.length c) ∧ wr.cell? ⟨w'.heap.size, 2, none⟩ = some (.slice na ns.length nc)) (fun _ i _ => ts.length - (intOf i).toNat)
    case atStart =>
      refine ⟨0, n - 1, Nat.zero_le _, rfl, by go_num, by omega, by omega, kept_alloc (kept_refl _) _, ?_, ?_, ?_, ?_⟩
      · (repeat (first | with_reducible assumption | with_reducible exact bl_refl _ | with_reducible refine bl_alloc ?_ _ | with_reducible refine bl_set ?_ (by simp) _ | with_reducible refine bl_drew ?_ | with_reducible refine bl_drewN ?_ _ | with_reducible refine bl_trans ?_ (by assumption)))
      all_goals simp
    case round =>
      obtain ⟨j, r, hj, rfl, rfl, hr1, hr2, hK2, hbr, c0, c1, c2⟩ := hrel
      by_cases hlt : j < ts.length
      · have k1 : (j : Int) < (ts.length : Int) := by omega
        by_cases hr0 : 0 ≤ r
        · obtain ⟨b, o, rfl, hcs⟩ := HC.out (by intro e; rw [e] at hlt; simp at hlt)
          have q0 := hK2 _ _ _ (HK.out _ _ _ (hcs j hlt).1)
          have q1 := hK2 _ _ _ (HK.out _ _ _ (hcs j hlt).2.1)
          have q2 := hK2 _ _ _ (HK.out _ _ _ (hcs j hlt).2.2)
          have HK2 := Lib.hid hK2
          clear hcs hK2
          go_wp2_with fail
          refine (HIH.out j hlt r hr0 hr2 wr (kept_trans HK.out HK2.out)).mono ?_
          rintro e w2 ⟨⟨q, rfl, hq1, hq2⟩, hb⟩
          have c0 := below_keeps hb _ _ _ c0; have c1 := below_keeps hb _ _ _ c1; have c2 := below_keeps hb _ _ _ c2
          have HK3 := Lib.hid (kept_trans HK2.out (kept_below hb))
          have hbr : Below w'.heap.size w' w2 := by (repeat (first | with_reducible assumption | with_reducible exact bl_refl _ | with_reducible refine bl_alloc ?_ _ | with_reducible refine bl_set ?_ (by simp) _ | with_reducible refine bl_drew ?_ | with_reducible refine bl_drewN ?_ _ | with_reducible refine bl_trans ?_ (by assumption)))
          clear hb
          go_wp2_with fail
          go_roundw
          case rel => exact ⟨j + 1, q, by omega, by go_num, rfl, hq1, hq2, HK3.out, hbr, c0, c1, c2⟩
          case measure => simp [intOf]; omega
        · go_wp2_with fail
          go_ret
          exact ⟨⟨r, rfl, hr1, hr2⟩, hbr⟩
      · have k1 : ¬ (j : Int) < (ts.length : Int) := by omega
        go_wp2_with fail
        go_ret
        exact ⟨⟨r, rfl, hr1, hr2⟩, hbr⟩

theorem great_k {w : World} {T : Ty} {vi vn : Value} (h : IsTy w T vi vn) (w' : World) (hK : Kept w w') :
    Calls Try.prog 16 #[.agg #[.int .i64 T.kind, vi, vn]] w' fun e w2 => (∃ g : Bool, e = .returned (.bool g)) ∧ Below w'.heap.size w' w2 := by
  have HL := Lib.hid (fun v (q : Kept w' v) => left_k h 20000 (by omega) (by omega) v (kept_trans hK q))
  obtain ⟨xa, xc, ya, yc, rfl, rfl⟩ := h.shape
  clear h hK
  go_enter Try.func16, Try.ntmps16
  go_wp2_with fail
  refine (HL.out _ (kept_alloc (kept_refl _) _)).mono ?_
  rintro e w2 ⟨⟨r, rfl, _, _⟩, hb⟩
  have hbr : Below w'.heap.size w' w2 := by (repeat (first | with_reducible assumption | with_reducible exact bl_refl _ | with_reducible refine bl_alloc ?_ _ | with_reducible refine bl_set ?_ (by first | (simp; done) | (simp; omega)) _ | with_reducible refine bl_drew ?_ | with_reducible refine bl_drewN ?_ _ | with_reducible refine bl_trans ?_ (by assumption)))
  go_wp2_with fail
  go_ret
  exact ⟨⟨_, rfl⟩, hbr⟩

theorem join_take (ps : List (List UInt8)) (sep : List UInt8) (j : Nat) (h : j < ps.length) : Lib.join (ps.take (j + 1)) sep = Lib.join (ps.take j) sep ++ (if 0 < j then sep else []) ++ ps[j] := by
  cases ps with
  | nil => simp at h
  | cons x r =>
    cases j with
    | zero => simp [Lib.join_one, Lib.join_nil]
    | succ j =>
      have hj : j < r.length := by simpa using h
      simp only [List.take_succ_cons, Lib.join_cons, List.getElem_cons_succ]
      rw [Lib.joinTail_take_succ sep r j r[j] (List.getElem?_eq_getElem hj), if_pos (by omega)]
      simp

end Go.Proofs.Ytnkecbpocgcdfaa
