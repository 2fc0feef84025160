/-
  The stage's maker of moments and its days of 2024.
-/
import Derived.Test.YtfoblnepbncieaaMomc
import Derived.Test.YtfoblnepbncieaaCivilA
import Derived.Test.YtfoblnepbncieaaClockA
namespace Go.Proofs.Ytfoblnepbncieaa
open Go.ChangeShapes Go.WideShapes Go.ChangeAt Go.RowKit

theorem law06_make_x (y m d : Int) (w : World) :
    Calls Try.prog 41 #[.int .i64 y, .int .i64 m, .int .i64 d] w fun e w' =>
      e = .returned (.agg #[.int .i64 (mkY y), .int .i64 (mkM m), .int .i64 (mkD y m d)]) ∧ ∃ O, w.alloc O = w' := by
  obtain ⟨⟨y1, y2⟩, ⟨m1, m2⟩, _⟩ := mk_bounds y m d
  have lb := Civ.len_pos (mkY y) (mkM m) m1 m2
  obtain ⟨l1, l2⟩ := lb
  have tb : -Civ.len (mkY y) (mkM m) < d.tmod (Civ.len (mkY y) (mkM m)) ∧ d.tmod (Civ.len (mkY y) (mkM m)) < Civ.len (mkY y) (mkM m) := by
    have h1 := Int.emod_nonneg (-d) (show Civ.len (mkY y) (mkM m) ≠ 0 by omega)
    have h2 := Int.emod_lt_of_pos (-d) (show 0 < Civ.len (mkY y) (mkM m) by omega)
    have h3 := Int.emod_nonneg d (show Civ.len (mkY y) (mkM m) ≠ 0 by omega)
    have h4 := Int.emod_lt_of_pos d (show 0 < Civ.len (mkY y) (mkM m) by omega)
    have := Civ.tmod_cases d (Civ.len (mkY y) (mkM m))
    omega
  obtain ⟨tb1, tb2⟩ := tb
  have e1 := Int.emod_nonneg (d.tmod (Civ.len (mkY y) (mkM m))) (show Civ.len (mkY y) (mkM m) ≠ 0 by omega)
  have e2 := Int.emod_lt_of_pos (d.tmod (Civ.len (mkY y) (mkM m))) (show 0 < Civ.len (mkY y) (mkM m) by omega)
  have n0 : (Civ.len (mkY y) (mkM m) == 0) = false := by simp; omega
  have mb : -11 ≤ m.tmod 12 ∧ m.tmod 12 ≤ 11 := by have := Civ.tmod_cases m 12; omega
  obtain ⟨mb1, mb2⟩ := mb
  have hy : y.tmod 1000000000 = mkY y := rfl
  have hm : m.tmod 12 % 12 + 1 = mkM m := by have := tmod_emod m 12; rw [Int.add_emod_right] at this; unfold mkM; rw [this]
  have HD := Lib.hid (show (d.tmod (Civ.len (mkY y) (mkM m)) + Civ.len (mkY y) (mkM m)) % Civ.len (mkY y) (mkM m) + 1 = mkD y m d by unfold mkD; rw [tmod_emod])
  generalize mkD y m d = D at *
  generalize mkM m = M at *
  generalize mkY y = Y at *
  have HL := Lib.hid (ref_length Y M)
  generalize Civ.len Y M = L at *
  go_enter Try.func41, Try.ntmps41
  go_wp2_with fail
  refine (HL.out _).mono ?_
  rintro e w' ⟨rfl, rfl⟩
  go_wp2_with fail
  refine bodyPost_ret (v := .agg #[.int .i64 Y, .int .i64 M, .int .i64 (d.tmod L % L + 1)]) (by simp [results, Try.results41, go_sem, *]) rfl ⟨?_, ?_⟩
  · have := HD.out; rw [Int.add_emod_right] at this; rw [this]
  · exact ⟨_, rfl⟩

theorem law07_make_x (s : Int) (z : Bool) (o : Int) (w : World) :
    Calls Try.prog 19 #[.int .i64 s, .bool z, .int .i64 o] w fun e w' =>
      e = .returned (.agg #[.int .i64 (s % 86400), .bool z, .int .i64 (if z then o.tmod 64801 else 0)]) ∧ ∃ O P, (w.alloc O).alloc P = w' := by
  obtain ⟨a1, a2⟩ := tmod_in s 86400 (by omega)
  obtain ⟨b1, b2⟩ := tmod_in o 64801 (by omega)
  have E := Lib.hid (make_sec s)
  cases z
  all_goals
    go_enter Try.func19, Try.ntmps19
    go_wp2
  · refine bodyPost_ret (v := .agg #[.int .i64 ((s.tmod 86400 + 86400) % 86400), .bool false, .int .i64 0]) (by simp [results, Try.results19, go_sem, *]) rfl ⟨?_, ?_⟩
    · rw [E.out]
    · exact ⟨_, _, rfl⟩
  · refine bodyPost_ret (v := .agg #[.int .i64 ((s.tmod 86400 + 86400) % 86400), .bool true, .int .i64 (o.tmod 64801)]) (by simp [results, Try.results19, go_sem, *]) rfl ⟨?_, ?_⟩
    · rw [E.out]
    · exact ⟨_, _, rfl⟩

theorem law08_day (m d s : Int) (w : World) :
    Calls Try.prog 63 #[.int .i64 m, .int .i64 d, .int .i64 s] w fun e w' =>
      e = .returned (.agg #[.int .i64 2024, .int .i64 m, .int .i64 d, .int .i64 s, .bool false, .int .i64 0]) ∧ Below w.heap.size w w' := by
  go_enter Try.func63, Try.ntmps63
  go_wp2_with fail
  refine bodyPost_ret (v := .agg #[.int .i64 2024, .int .i64 m, .int .i64 d, .int .i64 s, .bool false, .int .i64 0]) (by simp [results, Try.results63, go_sem]) rfl ⟨?_, ?_⟩
  · rfl
  · (repeat (first | with_reducible assumption | with_reducible exact bl_refl _ | with_reducible refine bl_alloc ?_ _ | with_reducible refine bl_set ?_ (by simp) _ | with_reducible refine bl_drew ?_ | with_reducible refine bl_drewN ?_ _ | with_reducible refine bl_trans ?_ (by assumption)))

set_option maxHeartbeats 1000000 in
theorem law08_make (y m d s o : Int) (z : Bool) (w : World) :
    Calls Try.prog 50 #[.agg #[.int .i64 y, .int .i64 m, .int .i64 d, .int .i64 s, .int .i64 o, .bool z]] w fun e w' =>
      e = .returned (.agg #[.int .i64 (mkY y), .int .i64 (mkM m), .int .i64 (mkD y m d), .int .i64 (s % 86400), .bool z, .int .i64 (if z then o.tmod 64801 else 0)]) ∧ Below w.heap.size w w' := by
  have HA := Lib.hid (law06_make_x y m d)
  have HB := Lib.hid (law07_make_x s z o)
  generalize mkD y m d = D at *
  generalize mkM m = M at *
  generalize mkY y = Y at *
  generalize s % 86400 = S at *
  generalize (if z then o.tmod 64801 else 0) = P at *
  have z1 : w.heap.size < w.heap.size + 1 + 1 := by omega
  have z2 : w.heap.size < w.heap.size + 1 + 1 + 1 := by omega
  have z3 : w.heap.size < w.heap.size + 1 + 1 + 1 + 1 := by omega
  go_enter Try.func50, Try.ntmps50
  go_wp2_with fail
  go_region_held3 (fun w' => w'.cell? ⟨w.heap.size, 0, none⟩ = some (.int .i64 y) ∧ w'.cell? ⟨w.heap.size, 1, none⟩ = some (.int .i64 m) ∧ w'.cell? ⟨w.heap.size, 2, none⟩ = some (.int .i64 d) ∧
      w'.cell? ⟨w.heap.size, 3, none⟩ = some (.int .i64 s) ∧ w'.cell? ⟨w.heap.size, 4, none⟩ = some (.int .i64 o) ∧ w'.cell? ⟨w.heap.size, 5, none⟩ = some (.bool z))
    ((simp [go_sem, *]))
    (first
      | (go_at_call 41; refine (HA.out _).mono ?_; rintro e w' ⟨rfl, O, rfl⟩)
      | (go_at_call 19; refine (HB.out _).mono ?_; rintro e w' ⟨rfl, O2, O3, rfl⟩))
  go_wp2_with fail
  refine bodyPost_ret (v := .agg #[.int .i64 Y, .int .i64 M, .int .i64 D, .int .i64 S, .bool z, .int .i64 P]) (by simp [results, Try.results50, go_sem, *]) rfl ⟨?_, ?_⟩
  · rfl
  · (repeat (first | with_reducible assumption | with_reducible exact bl_refl _ | with_reducible refine bl_alloc ?_ _ | with_reducible refine bl_set ?_ (by simp) _ | with_reducible refine bl_drew ?_ | with_reducible refine bl_drewN ?_ _ | with_reducible refine bl_trans ?_ (by assumption)))

end Go.Proofs.Ytfoblnepbncieaa
