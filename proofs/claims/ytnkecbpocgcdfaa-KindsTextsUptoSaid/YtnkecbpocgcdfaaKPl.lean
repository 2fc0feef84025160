/-
  The law's plain: has a type no function in it.
-/
import Derived.Test.YtnkecbpocgcdfaaKLead
namespace Go.Proofs.Ytnkecbpocgcdfaa
open Go.ChangeShapes Go.WideShapes Go.ChangeAt Go.RowKit Go.Joins

theorem plainL_snoc : ∀ (ts : List Ty) (t : Ty), plainL (ts ++ [t]) = (plainL ts && plainB t)
  | [], t => by simp [plainL]
  | x :: ts, t => by rw [List.cons_append, plainL, plainL, plainL_snoc ts t, Bool.and_assoc]
theorem plainL_take (ts : List Ty) (j : Nat) (h : j < ts.length) : plainL (ts.take (j + 1)) = (plainL (ts.take j) && plainB ts[j]) := by
  rw [List.take_succ_eq_append_getElem h, plainL_snoc]
theorem plainL_no (ts : List Ty) (j : Nat) (h : j < ts.length) (e : plainB ts[j] = false) : plainL ts = false := by
  cases hp : plainL ts
  · rfl
  · rw [plainL_at ts hp _ (List.getElem_mem h)] at e; simp at e

set_option maxHeartbeats 1000000 in
theorem plain_l {w : World} {T : Ty} {vi vn : Value} (h : IsTy w T vi vn) : ∀ w' : World, Kept w w' →
    Calls Try.prog 24 #[.agg #[.int .i64 T.kind, vi, vn]] w' fun e w2 => e = .returned (.bool (plainB T)) ∧ Below w'.heap.size w' w2 := by
  induction h with
  | mk k ts ns vn a c I N hk hn h1 h2 h3 h4 ih =>
    intro w' hK
    have HIH := Lib.hid ih
    have HC := Lib.hid h3
    obtain ⟨na, nc, rfl, hn1, hn2, hn3⟩ := (hn.keep hK).out
    clear ih h3 h4 hn hn3 hn1 hn2
    show Calls Try.prog 24 #[.agg #[.int .i64 k, .slice a ts.length c, .slice na ns.length nc]] w' _
    go_enter Try.func24, Try.ntmps24
    go_wp2_with fail
    go_loopw [3] (fun i wr => ∃ j : Nat, j ≤ ts.length ∧ i = .int .i64 j ∧ plainL (ts.take j) = true ∧ Kept w' wr ∧ Below w'.heap.size w' wr ∧
      wr.cell? ⟨w'.heap.size, 0, none⟩ = some (.int .i64 k) ∧ wr.cell? ⟨w'.heap.size, 1, none⟩ = some (.slice a ts.length c) ∧ wr.cell? ⟨w'.heap.size, 2, none⟩ = some (.slice na ns.length nc)) (fun i _ => ts.length - (intOf i).toNat)
    case atStart =>
      refine ⟨0, Nat.zero_le _, rfl, rfl, kept_alloc (kept_refl _) _, ?_, ?_, ?_, ?_⟩
      · (repeat (first | with_reducible assumption | with_reducible exact bl_refl _ | with_reducible refine bl_alloc ?_ _ | with_reducible refine bl_set ?_ (by simp) _ | with_reducible refine bl_drew ?_ | with_reducible refine bl_drewN ?_ _ | with_reducible refine bl_trans ?_ (by assumption)))
      all_goals simp
    case round =>
      obtain ⟨j, hj, rfl, hall, hK2, hbr, c0, c1, c2⟩ := hrel
      by_cases hlt : j < ts.length
      · obtain ⟨b, o, rfl, hcs⟩ := HC.out (by intro e; rw [e] at hlt; simp at hlt)
        have q0 := hK2 _ _ _ (hK _ _ _ (hcs j hlt).1)
        have q1 := hK2 _ _ _ (hK _ _ _ (hcs j hlt).2.1)
        have q2 := hK2 _ _ _ (hK _ _ _ (hcs j hlt).2.2)
        have HALL := Lib.hid hall
        have HK2 := Lib.hid hK2
        clear hcs hall hK2
        go_wp2_with fail
        refine (HIH.out j hlt wr (kept_trans hK HK2.out)).mono ?_
        rintro e w2 ⟨rfl, hb⟩
        have c0 := below_keeps hb _ _ _ c0; have c1 := below_keeps hb _ _ _ c1; have c2 := below_keeps hb _ _ _ c2
        have HK3 := Lib.hid (kept_trans HK2.out (kept_below hb))
        have hbr : Below w'.heap.size w' w2 := by (repeat (first | with_reducible assumption | with_reducible exact bl_refl _ | with_reducible refine bl_alloc ?_ _ | with_reducible refine bl_set ?_ (by simp) _ | with_reducible refine bl_drew ?_ | with_reducible refine bl_drewN ?_ _ | with_reducible refine bl_trans ?_ (by assumption)))
        clear hb
        cases hm : plainB ts[j]
        · have M := Lib.hid hm
          clear hm
          go_wp2_with fail
          go_ret
          refine ⟨ret_bool ?_, hbr⟩
          rw [plainB, plainL_no ts j hlt M.out]
          rfl
        · have M := Lib.hid hm
          clear hm
          go_wp2_with fail
          go_roundw
          case rel =>
            refine ⟨j + 1, by omega, by go_num, ?_, HK3.out, hbr, c0, c1, c2⟩
            rw [plainL_take ts j hlt, HALL.out, M.out]
            rfl
          case measure => simp [intOf]; omega
      · have hall : plainL ts = true := by rw [← hall, List.take_of_length_le (by omega)]
        have HALL := Lib.hid hall
        clear hall hK2 HIH HC
        go_wp2_with fail
        go_ret
        refine ⟨ret_bool ?_, hbr⟩
        rw [plainB, HALL.out, Bool.true_and, Bool.eq_iff_iff]
        simp

end Go.Proofs.Ytnkecbpocgcdfaa
