/-
  The contracts of moment's functions: which moment an instant is, moments later, how far they are apart.
-/
import Derived.Test.YtfoblnepbncieaaMom
namespace Go.Proofs.Ytfoblnepbncieaa
open Go.ChangeShapes Go.WideShapes Go.ChangeAt Go.RowKit

/-- the zero moment -/
theorem moment_of_no (i s : Int) (z : Bool) (o : Int) (h : i < -72057594037927936 ∨ (-72057594037927936 ≤ i ∧ 72057594037927936 < i) ∨ (-72057594037927936 ≤ i ∧ i ≤ 72057594037927936 ∧ mayC s z o = false)) (w : World) :
    Calls Try.prog 52 #[.int .i64 i, .agg #[.int .i64 s, .bool z, .int .i64 o]] w fun e w' => e = .returned (.tuple #[.agg #[.int .i64 0, .int .i64 0, .int .i64 0, .int .i64 0, .bool false, .int .i64 0], .bool false]) ∧ Below w.heap.size w w' := by
  rcases h with h1 | ⟨h1, h2⟩ | ⟨h1, h2, h3⟩
  · go_enter Try.func52, Try.ntmps52
    go_wp2_with fail
    refine bodyPost_ret (v := .tuple #[.agg #[.int .i64 0, .int .i64 0, .int .i64 0, .int .i64 0, .bool false, .int .i64 0], .bool false]) (by simp [results, Try.results52, go_sem]) rfl ⟨?_, ?_⟩
    · rfl
    · (repeat (first | with_reducible assumption | with_reducible exact bl_refl _ | with_reducible refine bl_alloc ?_ _ | with_reducible refine bl_set ?_ (by simp) _ | with_reducible refine bl_drew ?_ | with_reducible refine bl_drewN ?_ _ | with_reducible refine bl_trans ?_ (by assumption)))
  · go_enter Try.func52, Try.ntmps52
    go_wp2_with fail
    refine bodyPost_ret (v := .tuple #[.agg #[.int .i64 0, .int .i64 0, .int .i64 0, .int .i64 0, .bool false, .int .i64 0], .bool false]) (by simp [results, Try.results52, go_sem]) rfl ⟨?_, ?_⟩
    · rfl
    · (repeat (first | with_reducible assumption | with_reducible exact bl_refl _ | with_reducible refine bl_alloc ?_ _ | with_reducible refine bl_set ?_ (by simp) _ | with_reducible refine bl_drew ?_ | with_reducible refine bl_drewN ?_ _ | with_reducible refine bl_trans ?_ (by assumption)))
  · have HC := Lib.hid h3
    clear h3
    go_enter Try.func52, Try.ntmps52
    go_wp2_with fail
    refine (clock_may_is s z o _ HC.out _).mono ?_
    rintro e w1 ⟨rfl, hb⟩
    have z1 : w.heap.size < w.heap.size + 1 + 1 := by omega
    obtain ⟨⟨r0, r1, r2, r3, r4, r5, rl⟩, rf0, rf1, rf2, rf3, rf4, rf5⟩ := keepf6 (b := w.heap.size + 1) (c0 := .int .i64 0) (c1 := .int .i64 0) (c2 := .int .i64 0) (c3 := .int .i64 0) (c4 := .bool false) (c5 := .int .i64 0) hb (by simp [*]) (by simp [*]) (by simp [*]) (by simp [*]) (by simp [*]) (by simp [*]) (by simp [*]) (by simp [*]) (by simp [*]) (by simp [*]) (by simp [*]) (by simp [*])
    go_wp2_with fail
    refine bodyPost_ret (v := .tuple #[.agg #[.int .i64 0, .int .i64 0, .int .i64 0, .int .i64 0, .bool false, .int .i64 0], .bool false]) (by simp [results, Try.results52, go_sem, *]) rfl ⟨?_, ?_⟩
    · rfl
    · (repeat (first | with_reducible assumption | with_reducible exact bl_refl _ | with_reducible refine bl_alloc ?_ _ | with_reducible refine bl_set ?_ (by simp) _ | with_reducible refine bl_drew ?_ | with_reducible refine bl_drewN ?_ _ | with_reducible refine bl_trans ?_ (by assumption)))

theorem day_eqs (n : Int) :
    (n.tmod 86400 < 0 → n.tmod 86400 + 86400 = n % 86400 ∧ n.tdiv 86400 - 1 = n / 86400) ∧ (0 ≤ n.tmod 86400 → n.tmod 86400 = n % 86400 ∧ n.tdiv 86400 = n / 86400) := by
  have a := Civ.tmod_cases n 86400
  have b := Civ.tdiv_cases n 86400
  omega

set_option maxHeartbeats 1000000 in
theorem moment_of_yes (i s : Int) (z : Bool) (o : Int) (i1 : -72057594037927936 ≤ i) (i2 : i ≤ 72057594037927936) (h : mayC s z o = true) (b : Bool) (hb0 : numB ((i + o) / 86400) = b) (w : World) :
    Calls Try.prog 52 #[.int .i64 i, .agg #[.int .i64 s, .bool z, .int .i64 o]] w fun e w' =>
      e = .returned (.tuple #[if b then .agg #[.int .i64 (Civ.ofY ((i + o) / 86400)), .int .i64 (Civ.ofM ((i + o) / 86400)), .int .i64 (Civ.ofD ((i + o) / 86400)), .int .i64 ((i + o) % 86400), .bool z, .int .i64 o] else .agg #[.int .i64 0, .int .i64 0, .int .i64 0, .int .i64 0, .bool false, .int .i64 0], .bool b]) ∧ Below w.heap.size w w' := by
  obtain ⟨s1, s2, o1, o2, _⟩ := (mayC_iff s z o).1 h
  have HC := Lib.hid h
  have HO := Lib.hid (civil_of ((i + o) / 86400) b hb0)
  have E := Lib.hid (day_eqs (i + o))
  have tb : -86399 ≤ (i + o).tmod 86400 ∧ (i + o).tmod 86400 ≤ 86399 ∧ -1000000000000 ≤ (i + o).tdiv 86400 ∧ (i + o).tdiv 86400 ≤ 1000000000000 := by
    have a := Civ.tmod_cases (i + o) 86400
    have b := Civ.tdiv_cases (i + o) 86400
    omega
  obtain ⟨tb1, tb2, tb3, tb4⟩ := tb
  clear h hb0
  generalize Civ.ofY ((i + o) / 86400) = Y at *
  generalize Civ.ofM ((i + o) / 86400) = M at *
  generalize Civ.ofD ((i + o) / 86400) = D at *
  by_cases c : (i + o).tmod 86400 < 0
  · obtain ⟨E1, E2⟩ := E.out.1 c
    have F1 := Lib.hid E1
    have F2 := Lib.hid E2
    clear E1 E2 E
    go_enter Try.func52, Try.ntmps52
    go_wp2_with fail
    refine (clock_may_is s z o _ HC.out _).mono ?_
    rintro e w1 ⟨rfl, hb⟩
    have z1 : w.heap.size < w.heap.size + 1 + 1 := by omega
    obtain ⟨t0, t1, t2, tf0, tf1, tf2, tl⟩ := keep3 (b := w.heap.size) (x := .int .i64 s) (y := .bool z) (z := .int .i64 o) hb (by simp [go_sem, *]) (by simp [go_sem, *]) (by simp [go_sem, *]) (by simp [go_sem, *]) (by simp [go_sem, *]) (by simp [go_sem, *])
    obtain ⟨⟨r0, r1, r2, r3, r4, r5, rl⟩, rf0, rf1, rf2, rf3, rf4, rf5⟩ := keepf6 (b := w.heap.size + 1) (c0 := .int .i64 0) (c1 := .int .i64 0) (c2 := .int .i64 0) (c3 := .int .i64 0) (c4 := .bool false) (c5 := .int .i64 0) hb (by simp [*]) (by simp [*]) (by simp [*]) (by simp [*]) (by simp [*]) (by simp [*]) (by simp [*]) (by simp [*]) (by simp [*]) (by simp [*]) (by simp [*]) (by simp [*])
    have g1 : Below w.heap.size w w1 := by (repeat (first | with_reducible assumption | with_reducible exact bl_refl _ | with_reducible refine bl_alloc ?_ _ | with_reducible refine bl_set ?_ (by simp) _ | with_reducible refine bl_drew ?_ | with_reducible refine bl_drewN ?_ _ | with_reducible refine bl_trans ?_ (by assumption)))
    clear hb
    go_wp2_with fail
    rw [F2.out]
    refine (HO.out _).mono ?_
    cases b
    · rw [if_neg (by simp)]
      rintro e w2 ⟨rfl, hb2⟩
      obtain ⟨⟨r0, r1, r2, r3, r4, r5, rl⟩, rf0, rf1, rf2, rf3, rf4, rf5⟩ := keepf6 hb2 r0 r1 r2 r3 r4 r5 rf0 rf1 rf2 rf3 rf4 rf5
      go_wp2_with fail
      refine bodyPost_ret (v := .tuple #[.agg #[.int .i64 0, .int .i64 0, .int .i64 0, .int .i64 0, .bool false, .int .i64 0], .bool false]) (by simp [results, Try.results52, go_sem, *]) rfl ⟨?_, ?_⟩
      · rfl
      · (repeat (first | with_reducible assumption | with_reducible exact bl_refl _ | with_reducible refine bl_alloc ?_ _ | with_reducible refine bl_set ?_ (by simp) _ | with_reducible refine bl_drew ?_ | with_reducible refine bl_drewN ?_ _ | with_reducible refine bl_trans ?_ (by assumption)))
    · rw [if_pos rfl]
      rintro e w2 ⟨rfl, hb2⟩
      obtain ⟨⟨r0, r1, r2, r3, r4, r5, rl⟩, rf0, rf1, rf2, rf3, rf4, rf5⟩ := keepf6 hb2 r0 r1 r2 r3 r4 r5 rf0 rf1 rf2 rf3 rf4 rf5
      obtain ⟨t0, t1, t2, tf0, tf1, tf2, tl⟩ := keep3 hb2 t0 t1 t2 tf0 tf1 tf2
      go_wp2_with fail
      refine bodyPost_ret (v := .tuple #[.agg #[.int .i64 Y, .int .i64 M, .int .i64 D, .int .i64 ((i + o).tmod 86400 + 86400), .bool z, .int .i64 o], .bool true]) (by simp [results, Try.results52, go_sem, *]) rfl ⟨?_, ?_⟩
      · rw [F1.out]
      · (repeat (first | with_reducible assumption | with_reducible exact bl_refl _ | with_reducible refine bl_alloc ?_ _ | with_reducible refine bl_set ?_ (by simp) _ | with_reducible refine bl_drew ?_ | with_reducible refine bl_drewN ?_ _ | with_reducible refine bl_trans ?_ (by assumption)))
  · obtain ⟨E1, E2⟩ := E.out.2 (by omega)
    have F1 := Lib.hid E1
    have F2 := Lib.hid E2
    clear E1 E2 E
    go_enter Try.func52, Try.ntmps52
    go_wp2_with fail
    refine (clock_may_is s z o _ HC.out _).mono ?_
    rintro e w1 ⟨rfl, hb⟩
    have z1 : w.heap.size < w.heap.size + 1 + 1 := by omega
    obtain ⟨t0, t1, t2, tf0, tf1, tf2, tl⟩ := keep3 (b := w.heap.size) (x := .int .i64 s) (y := .bool z) (z := .int .i64 o) hb (by simp [go_sem, *]) (by simp [go_sem, *]) (by simp [go_sem, *]) (by simp [go_sem, *]) (by simp [go_sem, *]) (by simp [go_sem, *])
    obtain ⟨⟨r0, r1, r2, r3, r4, r5, rl⟩, rf0, rf1, rf2, rf3, rf4, rf5⟩ := keepf6 (b := w.heap.size + 1) (c0 := .int .i64 0) (c1 := .int .i64 0) (c2 := .int .i64 0) (c3 := .int .i64 0) (c4 := .bool false) (c5 := .int .i64 0) hb (by simp [*]) (by simp [*]) (by simp [*]) (by simp [*]) (by simp [*]) (by simp [*]) (by simp [*]) (by simp [*]) (by simp [*]) (by simp [*]) (by simp [*]) (by simp [*])
    have g1 : Below w.heap.size w w1 := by (repeat (first | with_reducible assumption | with_reducible exact bl_refl _ | with_reducible refine bl_alloc ?_ _ | with_reducible refine bl_set ?_ (by simp) _ | with_reducible refine bl_drew ?_ | with_reducible refine bl_drewN ?_ _ | with_reducible refine bl_trans ?_ (by assumption)))
    clear hb
    go_wp2_with fail
    rw [F2.out]
    refine (HO.out _).mono ?_
    cases b
    · rw [if_neg (by simp)]
      rintro e w2 ⟨rfl, hb2⟩
      obtain ⟨⟨r0, r1, r2, r3, r4, r5, rl⟩, rf0, rf1, rf2, rf3, rf4, rf5⟩ := keepf6 hb2 r0 r1 r2 r3 r4 r5 rf0 rf1 rf2 rf3 rf4 rf5
      go_wp2_with fail
      refine bodyPost_ret (v := .tuple #[.agg #[.int .i64 0, .int .i64 0, .int .i64 0, .int .i64 0, .bool false, .int .i64 0], .bool false]) (by simp [results, Try.results52, go_sem, *]) rfl ⟨?_, ?_⟩
      · rfl
      · (repeat (first | with_reducible assumption | with_reducible exact bl_refl _ | with_reducible refine bl_alloc ?_ _ | with_reducible refine bl_set ?_ (by simp) _ | with_reducible refine bl_drew ?_ | with_reducible refine bl_drewN ?_ _ | with_reducible refine bl_trans ?_ (by assumption)))
    · rw [if_pos rfl]
      rintro e w2 ⟨rfl, hb2⟩
      obtain ⟨⟨r0, r1, r2, r3, r4, r5, rl⟩, rf0, rf1, rf2, rf3, rf4, rf5⟩ := keepf6 hb2 r0 r1 r2 r3 r4 r5 rf0 rf1 rf2 rf3 rf4 rf5
      obtain ⟨t0, t1, t2, tf0, tf1, tf2, tl⟩ := keep3 hb2 t0 t1 t2 tf0 tf1 tf2
      go_wp2_with fail
      refine bodyPost_ret (v := .tuple #[.agg #[.int .i64 Y, .int .i64 M, .int .i64 D, .int .i64 ((i + o).tmod 86400), .bool z, .int .i64 o], .bool true]) (by simp [results, Try.results52, go_sem, *]) rfl ⟨?_, ?_⟩
      · rw [F1.out]
      · (repeat (first | with_reducible assumption | with_reducible exact bl_refl _ | with_reducible refine bl_alloc ?_ _ | with_reducible refine bl_set ?_ (by simp) _ | with_reducible refine bl_drew ?_ | with_reducible refine bl_drewN ?_ _ | with_reducible refine bl_trans ?_ (by assumption)))

end Go.Proofs.Ytfoblnepbncieaa
