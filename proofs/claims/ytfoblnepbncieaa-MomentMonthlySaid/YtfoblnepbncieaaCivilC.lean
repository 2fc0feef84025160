/-
  The contract of civil.Cmp.
-/
import Derived.Test.YtfoblnepbncieaaCivilW
namespace Go.Proofs.Ytfoblnepbncieaa
open Go.ChangeShapes Go.WideShapes Go.ChangeAt Go.RowKit

def cmpD (y m d v u e : Int) : Int := if y < v then -1 else if v < y then 1 else if m < u then -1 else if u < m then 1 else if d < e then -1 else if e < d then 1 else 0

theorem civil_cmp_a (y m d v u e : Int) (h0 : y < v) (w : World) :
    Calls Try.prog 48 #[.agg #[.int .i64 y, .int .i64 m, .int .i64 d], .agg #[.int .i64 v, .int .i64 u, .int .i64 e]] w fun r w' => r = .returned (.int .i64 (-1)) ∧ Below w.heap.size w w' := by
  go_enter Try.func48, Try.ntmps48
  go_wp2_with fail
  refine wp_loop_rounds 1 ?_
  rw [rounds_succ]
  go_wp2_with fail
  go_ret
  refine ⟨rfl, ?_⟩
  (repeat (first | with_reducible assumption | with_reducible exact bl_refl _ | with_reducible refine bl_alloc ?_ _ | with_reducible refine bl_set ?_ (by simp) _ | with_reducible refine bl_drew ?_ | with_reducible refine bl_drewN ?_ _ | with_reducible refine bl_trans ?_ (by assumption)))

theorem civil_cmp_b (y m d v u e : Int) (h0 : v < y) (w : World) :
    Calls Try.prog 48 #[.agg #[.int .i64 y, .int .i64 m, .int .i64 d], .agg #[.int .i64 v, .int .i64 u, .int .i64 e]] w fun r w' => r = .returned (.int .i64 (1)) ∧ Below w.heap.size w w' := by
  go_enter Try.func48, Try.ntmps48
  go_wp2_with fail
  refine wp_loop_rounds 1 ?_
  rw [rounds_succ]
  go_wp2_with fail
  go_ret
  refine ⟨rfl, ?_⟩
  (repeat (first | with_reducible assumption | with_reducible exact bl_refl _ | with_reducible refine bl_alloc ?_ _ | with_reducible refine bl_set ?_ (by simp) _ | with_reducible refine bl_drew ?_ | with_reducible refine bl_drewN ?_ _ | with_reducible refine bl_trans ?_ (by assumption)))

theorem civil_cmp_c (y m d u e : Int) (h0 : m < u) (w : World) :
    Calls Try.prog 48 #[.agg #[.int .i64 y, .int .i64 m, .int .i64 d], .agg #[.int .i64 y, .int .i64 u, .int .i64 e]] w fun r w' => r = .returned (.int .i64 (-1)) ∧ Below w.heap.size w w' := by
  go_enter Try.func48, Try.ntmps48
  go_wp2_with fail
  refine wp_loop_rounds 2 ?_
  rw [rounds_succ]
  go_wp2_with fail
  rw [rounds_succ]
  go_wp2_with fail
  go_ret
  refine ⟨rfl, ?_⟩
  (repeat (first | with_reducible assumption | with_reducible exact bl_refl _ | with_reducible refine bl_alloc ?_ _ | with_reducible refine bl_set ?_ (by simp) _ | with_reducible refine bl_drew ?_ | with_reducible refine bl_drewN ?_ _ | with_reducible refine bl_trans ?_ (by assumption)))

theorem civil_cmp_d (y m d u e : Int) (h0 : u < m) (w : World) :
    Calls Try.prog 48 #[.agg #[.int .i64 y, .int .i64 m, .int .i64 d], .agg #[.int .i64 y, .int .i64 u, .int .i64 e]] w fun r w' => r = .returned (.int .i64 (1)) ∧ Below w.heap.size w w' := by
  go_enter Try.func48, Try.ntmps48
  go_wp2_with fail
  refine wp_loop_rounds 2 ?_
  rw [rounds_succ]
  go_wp2_with fail
  rw [rounds_succ]
  go_wp2_with fail
  go_ret
  refine ⟨rfl, ?_⟩
  (repeat (first | with_reducible assumption | with_reducible exact bl_refl _ | with_reducible refine bl_alloc ?_ _ | with_reducible refine bl_set ?_ (by simp) _ | with_reducible refine bl_drew ?_ | with_reducible refine bl_drewN ?_ _ | with_reducible refine bl_trans ?_ (by assumption)))

theorem civil_cmp_e (y m d e : Int) (h0 : d < e) (w : World) :
    Calls Try.prog 48 #[.agg #[.int .i64 y, .int .i64 m, .int .i64 d], .agg #[.int .i64 y, .int .i64 m, .int .i64 e]] w fun r w' => r = .returned (.int .i64 (-1)) ∧ Below w.heap.size w w' := by
  go_enter Try.func48, Try.ntmps48
  go_wp2_with fail
  refine wp_loop_rounds 3 ?_
  rw [rounds_succ]
  go_wp2_with fail
  rw [rounds_succ]
  go_wp2_with fail
  rw [rounds_succ]
  go_wp2_with fail
  go_ret
  refine ⟨rfl, ?_⟩
  (repeat (first | with_reducible assumption | with_reducible exact bl_refl _ | with_reducible refine bl_alloc ?_ _ | with_reducible refine bl_set ?_ (by simp) _ | with_reducible refine bl_drew ?_ | with_reducible refine bl_drewN ?_ _ | with_reducible refine bl_trans ?_ (by assumption)))

theorem civil_cmp_f (y m d e : Int) (h0 : e < d) (w : World) :
    Calls Try.prog 48 #[.agg #[.int .i64 y, .int .i64 m, .int .i64 d], .agg #[.int .i64 y, .int .i64 m, .int .i64 e]] w fun r w' => r = .returned (.int .i64 (1)) ∧ Below w.heap.size w w' := by
  go_enter Try.func48, Try.ntmps48
  go_wp2_with fail
  refine wp_loop_rounds 3 ?_
  rw [rounds_succ]
  go_wp2_with fail
  rw [rounds_succ]
  go_wp2_with fail
  rw [rounds_succ]
  go_wp2_with fail
  go_ret
  refine ⟨rfl, ?_⟩
  (repeat (first | with_reducible assumption | with_reducible exact bl_refl _ | with_reducible refine bl_alloc ?_ _ | with_reducible refine bl_set ?_ (by simp) _ | with_reducible refine bl_drew ?_ | with_reducible refine bl_drewN ?_ _ | with_reducible refine bl_trans ?_ (by assumption)))

theorem civil_cmp_g (y m d : Int) (w : World) :
    Calls Try.prog 48 #[.agg #[.int .i64 y, .int .i64 m, .int .i64 d], .agg #[.int .i64 y, .int .i64 m, .int .i64 d]] w fun r w' => r = .returned (.int .i64 (0)) ∧ Below w.heap.size w w' := by
  go_enter Try.func48, Try.ntmps48
  go_wp2_with fail
  refine wp_loop_rounds 4 ?_
  rw [rounds_succ]
  go_wp2_with fail
  rw [rounds_succ]
  go_wp2_with fail
  rw [rounds_succ]
  go_wp2_with fail
  rw [rounds_succ]
  go_wp2_with fail
  go_ret
  refine ⟨rfl, ?_⟩
  (repeat (first | with_reducible assumption | with_reducible exact bl_refl _ | with_reducible refine bl_alloc ?_ _ | with_reducible refine bl_set ?_ (by simp) _ | with_reducible refine bl_drew ?_ | with_reducible refine bl_drewN ?_ _ | with_reducible refine bl_trans ?_ (by assumption)))

theorem civil_cmp (y m d v u e : Int) (w : World) :
    Calls Try.prog 48 #[.agg #[.int .i64 y, .int .i64 m, .int .i64 d], .agg #[.int .i64 v, .int .i64 u, .int .i64 e]] w fun r w' => r = .returned (.int .i64 (cmpD y m d v u e)) ∧ Below w.heap.size w w' := by
  unfold cmpD
  by_cases a : y < v
  · rw [if_pos a]; exact civil_cmp_a y m d v u e a w
  rw [if_neg a]
  by_cases b : v < y
  · rw [if_pos b]; exact civil_cmp_b y m d v u e b w
  rw [if_neg b]
  obtain rfl : y = v := by omega
  by_cases c : m < u
  · rw [if_pos c]; exact civil_cmp_c y m d u e c w
  rw [if_neg c]
  by_cases f : u < m
  · rw [if_pos f]; exact civil_cmp_d y m d u e f w
  rw [if_neg f]
  obtain rfl : m = u := by omega
  by_cases g : d < e
  · rw [if_pos g]; exact civil_cmp_e y m d e g w
  rw [if_neg g]
  by_cases i : e < d
  · rw [if_pos i]; exact civil_cmp_f y m d e i w
  rw [if_neg i]
  obtain rfl : d = e := by omega
  exact civil_cmp_g y m d w

end Go.Proofs.Ytfoblnepbncieaa
