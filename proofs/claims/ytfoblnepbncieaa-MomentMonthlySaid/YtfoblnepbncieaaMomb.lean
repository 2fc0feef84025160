/-
  The contracts of moment's functions: later, between, ahead or behind.
-/
import Derived.Test.YtfoblnepbncieaaMoma
namespace Go.Proofs.Ytfoblnepbncieaa
open Go.ChangeShapes Go.WideShapes Go.ChangeAt Go.RowKit

theorem mayM_iff (y m d s : Int) (z : Bool) (o : Int) : mayM y m d s z o = true ↔ Civ.may y m d = true ∧ mayC s z o = true := by simp [mayM]

theorem ins_in (y m d s : Int) (z : Bool) (o : Int) (h : mayM y m d s z o = true) : -32000000000000000 ≤ ins y m d s o ∧ ins y m d s o ≤ 32000000000000000 := by
  obtain ⟨h1, h2⟩ := (mayM_iff y m d s z o).1 h
  obtain ⟨n1, n2⟩ := num_in y m d h1
  obtain ⟨s1, s2, o1, o2, _⟩ := (mayC_iff s z o).1 h2
  unfold ins; omega

theorem moment_later_no (y m d s : Int) (z : Bool) (o n : Int) (h : mayM y m d s z o = false ∨ n < -9007199254740992 ∨ 9007199254740992 < n) (w : World) :
    Calls Try.prog 54 #[.agg #[.int .i64 y, .int .i64 m, .int .i64 d, .int .i64 s, .bool z, .int .i64 o], .int .i64 n] w fun e w' => e = .returned (.tuple #[.agg #[.int .i64 0, .int .i64 0, .int .i64 0, .int .i64 0, .bool false, .int .i64 0], .bool false]) ∧ Below w.heap.size w w' := by
  have z1 : w.heap.size < w.heap.size + 1 + 1 := by omega
  cases hm : mayM y m d s z o
  · have HM := Lib.hid hm
    clear hm h
    go_enter Try.func54, Try.ntmps54
    go_wp2_with fail
    refine (moment_instant_no _ _ _ _ _ _ HM.out _).mono ?_
    rintro e w1 ⟨rfl, hb⟩
    obtain ⟨⟨r0, r1, r2, r3, r4, r5, rl⟩, rf0, rf1, rf2, rf3, rf4, rf5⟩ := keepf6 (b := w.heap.size + 1) (c0 := .int .i64 0) (c1 := .int .i64 0) (c2 := .int .i64 0) (c3 := .int .i64 0) (c4 := .bool false) (c5 := .int .i64 0) hb (by simp [*]) (by simp [*]) (by simp [*]) (by simp [*]) (by simp [*]) (by simp [*]) (by simp [*]) (by simp [*]) (by simp [*]) (by simp [*]) (by simp [*]) (by simp [*])
    go_wp2_with fail
    refine bodyPost_ret (v := .tuple #[.agg #[.int .i64 0, .int .i64 0, .int .i64 0, .int .i64 0, .bool false, .int .i64 0], .bool false]) (by simp [results, Try.results54, go_sem, *]) rfl ⟨?_, ?_⟩
    · rfl
    · (repeat (first | with_reducible assumption | with_reducible exact bl_refl _ | with_reducible refine bl_alloc ?_ _ | with_reducible refine bl_set ?_ (by simp) _ | with_reducible refine bl_drew ?_ | with_reducible refine bl_drewN ?_ _ | with_reducible refine bl_trans ?_ (by assumption)))
  · have HM := Lib.hid hm
    have hn : n < -9007199254740992 ∨ (-9007199254740992 ≤ n ∧ 9007199254740992 < n) := by rw [hm] at h; simp at h; omega
    clear hm h
    rcases hn with hn | ⟨hn1, hn⟩
    all_goals
      go_enter Try.func54, Try.ntmps54
      go_wp2_with fail
      refine (moment_instant_yes _ _ _ _ _ _ HM.out _).mono ?_
      rintro e w1 ⟨rfl, hb⟩
      obtain ⟨⟨r0, r1, r2, r3, r4, r5, rl⟩, rf0, rf1, rf2, rf3, rf4, rf5⟩ := keepf6 (b := w.heap.size + 1) (c0 := .int .i64 0) (c1 := .int .i64 0) (c2 := .int .i64 0) (c3 := .int .i64 0) (c4 := .bool false) (c5 := .int .i64 0) hb (by simp [*]) (by simp [*]) (by simp [*]) (by simp [*]) (by simp [*]) (by simp [*]) (by simp [*]) (by simp [*]) (by simp [*]) (by simp [*]) (by simp [*]) (by simp [*])
      go_wp2_with fail
      refine bodyPost_ret (v := .tuple #[.agg #[.int .i64 0, .int .i64 0, .int .i64 0, .int .i64 0, .bool false, .int .i64 0], .bool false]) (by simp [results, Try.results54, go_sem, *]) rfl ⟨?_, ?_⟩
      · rfl
      · (repeat (first | with_reducible assumption | with_reducible exact bl_refl _ | with_reducible refine bl_alloc ?_ _ | with_reducible refine bl_set ?_ (by simp) _ | with_reducible refine bl_drew ?_ | with_reducible refine bl_drewN ?_ _ | with_reducible refine bl_trans ?_ (by assumption)))

theorem moment_later_yes (y m d s : Int) (z : Bool) (o n : Int) (h : mayM y m d s z o = true) (n1 : -9007199254740992 ≤ n) (n2 : n ≤ 9007199254740992) (b : Bool) (hb0 : numB ((ins y m d s o + n + o) / 86400) = b) (w : World) :
    Calls Try.prog 54 #[.agg #[.int .i64 y, .int .i64 m, .int .i64 d, .int .i64 s, .bool z, .int .i64 o], .int .i64 n] w fun e w' =>
      e = .returned (.tuple #[if b then .agg #[.int .i64 (Civ.ofY ((ins y m d s o + n + o) / 86400)), .int .i64 (Civ.ofM ((ins y m d s o + n + o) / 86400)), .int .i64 (Civ.ofD ((ins y m d s o + n + o) / 86400)), .int .i64 ((ins y m d s o + n + o) % 86400), .bool z, .int .i64 o] else .agg #[.int .i64 0, .int .i64 0, .int .i64 0, .int .i64 0, .bool false, .int .i64 0], .bool b]) ∧ Below w.heap.size w w' := by
  have z1 : w.heap.size < w.heap.size + 1 + 1 := by omega
  obtain ⟨i1, i2⟩ := ins_in y m d s z o h
  have HI := Lib.hid (moment_instant_yes y m d s z o h)
  have HC := Lib.hid ((mayM_iff y m d s z o).1 h).2
  clear h
  generalize ins y m d s o = i at *
  have HO := Lib.hid (moment_of_yes (i + n) s z o (by omega) (by omega) HC.out b hb0)
  generalize Civ.ofY ((i + n + o) / 86400) = Y at *
  generalize Civ.ofM ((i + n + o) / 86400) = M at *
  generalize Civ.ofD ((i + n + o) / 86400) = D at *
  generalize (i + n + o) % 86400 = S at *
  clear hb0
  go_enter Try.func54, Try.ntmps54
  go_wp2_with fail
  refine (HI.out _).mono ?_
  rintro e w1 ⟨rfl, hb⟩
  obtain ⟨⟨r0, r1, r2, r3, r4, r5, rl⟩, rf0, rf1, rf2, rf3, rf4, rf5⟩ := keepf6 (b := w.heap.size + 1) (c0 := .int .i64 0) (c1 := .int .i64 0) (c2 := .int .i64 0) (c3 := .int .i64 0) (c4 := .bool false) (c5 := .int .i64 0) hb (by simp [*]) (by simp [*]) (by simp [*]) (by simp [*]) (by simp [*]) (by simp [*]) (by simp [*]) (by simp [*]) (by simp [*]) (by simp [*]) (by simp [*]) (by simp [*])
  obtain ⟨t0, t1, t2, t3, t4, t5, tl⟩ := keepc6 (b := w.heap.size) (c0 := .int .i64 y) (c1 := .int .i64 m) (c2 := .int .i64 d) (c3 := .int .i64 s) (c4 := .bool z) (c5 := .int .i64 o) hb (by simp [*]) (by simp [*]) (by simp [*]) (by simp [*]) (by simp [*]) (by simp [*])
  have g1 : Below w.heap.size w w1 := by (repeat (first | with_reducible assumption | with_reducible exact bl_refl _ | with_reducible refine bl_alloc ?_ _ | with_reducible refine bl_set ?_ (by simp) _ | with_reducible refine bl_drew ?_ | with_reducible refine bl_drewN ?_ _ | with_reducible refine bl_trans ?_ (by assumption)))
  clear hb
  go_wp2_with fail
  refine (HO.out _).mono ?_
  cases b
  · rw [if_neg (by simp)]
    rintro e w2 ⟨rfl, hb2⟩
    obtain ⟨⟨r0, r1, r2, r3, r4, r5, rl⟩, rf0, rf1, rf2, rf3, rf4, rf5⟩ := keepf6 hb2 r0 r1 r2 r3 r4 r5 rf0 rf1 rf2 rf3 rf4 rf5
    go_wp2_with fail
    refine bodyPost_ret (v := .tuple #[.agg #[.int .i64 0, .int .i64 0, .int .i64 0, .int .i64 0, .bool false, .int .i64 0], .bool false]) (by simp [results, Try.results54, go_sem, *]) rfl ⟨?_, ?_⟩
    · rfl
    · (repeat (first | with_reducible assumption | with_reducible exact bl_refl _ | with_reducible refine bl_alloc ?_ _ | with_reducible refine bl_set ?_ (by simp) _ | with_reducible refine bl_drew ?_ | with_reducible refine bl_drewN ?_ _ | with_reducible refine bl_trans ?_ (by assumption)))
  · rw [if_pos rfl]
    rintro e w2 ⟨rfl, hb2⟩
    obtain ⟨⟨r0, r1, r2, r3, r4, r5, rl⟩, rf0, rf1, rf2, rf3, rf4, rf5⟩ := keepf6 hb2 r0 r1 r2 r3 r4 r5 rf0 rf1 rf2 rf3 rf4 rf5
    go_wp2_with fail
    refine bodyPost_ret (v := .tuple #[.agg #[.int .i64 Y, .int .i64 M, .int .i64 D, .int .i64 S, .bool z, .int .i64 o], .bool true]) (by simp [results, Try.results54, go_sem, *]) rfl ⟨?_, ?_⟩
    · rfl
    · (repeat (first | with_reducible assumption | with_reducible exact bl_refl _ | with_reducible refine bl_alloc ?_ _ | with_reducible refine bl_set ?_ (by simp) _ | with_reducible refine bl_drew ?_ | with_reducible refine bl_drewN ?_ _ | with_reducible refine bl_trans ?_ (by assumption)))

theorem moment_months_no (y m d s : Int) (z : Bool) (o n : Int) (h : mayC s z o = false) (w : World) :
    Calls Try.prog 57 #[.agg #[.int .i64 y, .int .i64 m, .int .i64 d, .int .i64 s, .bool z, .int .i64 o], .int .i64 n] w fun e w' => e = .returned (.tuple #[.agg #[.int .i64 0, .int .i64 0, .int .i64 0, .int .i64 0, .bool false, .int .i64 0], .bool false]) ∧ Below w.heap.size w w' := by
  have z1 : w.heap.size < w.heap.size + 1 + 1 := by omega
  have HC := Lib.hid h
  clear h
  have hm : (∀ w, Calls Try.prog 37 #[.agg #[.int .i64 y, .int .i64 m, .int .i64 d], .int .i64 n] w fun e w' => e = .returned (.tuple #[.agg #[.int .i64 0, .int .i64 0, .int .i64 0], .bool false]) ∧ Below w.heap.size w w') ∨
      ∃ Y M D : Int, ∀ w, Calls Try.prog 37 #[.agg #[.int .i64 y, .int .i64 m, .int .i64 d], .int .i64 n] w fun e w' => e = .returned (.tuple #[.agg #[.int .i64 Y, .int .i64 M, .int .i64 D], .bool true]) ∧ Below w.heap.size w w' := by
    by_cases c : Civ.may y m d = true ∧ -9007199254740992 ≤ n ∧ n ≤ 9007199254740992
    · cases hb : Civ.may (moY y m n) (moM y m n) (moD y m d n)
      · left; intro w
        have := civil_months_yes y m d n c.1 c.2.1 c.2.2 _ hb w
        rwa [if_neg (by simp)] at this
      · right; refine ⟨moY y m n, moM y m n, moD y m d n, fun w => ?_⟩
        have := civil_months_yes y m d n c.1 c.2.1 c.2.2 _ hb w
        rw [if_pos rfl] at this
        exact this
    · left; intro w
      refine civil_months_no y m d n ?_ w
      cases hc : Civ.may y m d
      · exact Or.inl rfl
      · right; simp [hc] at c; omega
  rcases hm with hm | ⟨Y, M, D, hm⟩
  all_goals
    have HM := Lib.hid hm
    clear hm
    go_enter Try.func57, Try.ntmps57
    go_wp2_with fail
    refine (HM.out _).mono ?_
    rintro e w1 ⟨rfl, hb⟩
    obtain ⟨⟨r0, r1, r2, r3, r4, r5, rl⟩, rf0, rf1, rf2, rf3, rf4, rf5⟩ := keepf6 (b := w.heap.size + 1) (c0 := .int .i64 0) (c1 := .int .i64 0) (c2 := .int .i64 0) (c3 := .int .i64 0) (c4 := .bool false) (c5 := .int .i64 0) hb (by simp [*]) (by simp [*]) (by simp [*]) (by simp [*]) (by simp [*]) (by simp [*]) (by simp [*]) (by simp [*]) (by simp [*]) (by simp [*]) (by simp [*]) (by simp [*])
    obtain ⟨t0, t1, t2, t3, t4, t5, tl⟩ := keepc6 (b := w.heap.size) (c0 := .int .i64 y) (c1 := .int .i64 m) (c2 := .int .i64 d) (c3 := .int .i64 s) (c4 := .bool z) (c5 := .int .i64 o) hb (by simp [*]) (by simp [*]) (by simp [*]) (by simp [*]) (by simp [*]) (by simp [*])
    have g1 : Below w.heap.size w w1 := by (repeat (first | with_reducible assumption | with_reducible exact bl_refl _ | with_reducible refine bl_alloc ?_ _ | with_reducible refine bl_set ?_ (by simp) _ | with_reducible refine bl_drew ?_ | with_reducible refine bl_drewN ?_ _ | with_reducible refine bl_trans ?_ (by assumption)))
    clear hb
    go_wp2_with fail
  · refine bodyPost_ret (v := .tuple #[.agg #[.int .i64 0, .int .i64 0, .int .i64 0, .int .i64 0, .bool false, .int .i64 0], .bool false]) (by simp [results, Try.results57, go_sem, *]) rfl ⟨?_, ?_⟩
    · rfl
    · (repeat (first | with_reducible assumption | with_reducible exact bl_refl _ | with_reducible refine bl_alloc ?_ _ | with_reducible refine bl_set ?_ (by simp) _ | with_reducible refine bl_drew ?_ | with_reducible refine bl_drewN ?_ _ | with_reducible refine bl_trans ?_ (by assumption)))
  · refine (clock_may_is s z o _ HC.out _).mono ?_
    rintro e w2 ⟨rfl, hb2⟩
    have g2 : Below w1.heap.size w1 w2 := by (repeat (first | with_reducible assumption | with_reducible exact bl_refl _ | with_reducible refine bl_alloc ?_ _ | with_reducible refine bl_set ?_ (by simp) _ | with_reducible refine bl_drew ?_ | with_reducible refine bl_drewN ?_ _ | with_reducible refine bl_trans ?_ (by assumption)))
    obtain ⟨⟨r0, r1, r2, r3, r4, r5, rl⟩, rf0, rf1, rf2, rf3, rf4, rf5⟩ := keepf6 g2 r0 r1 r2 r3 r4 r5 rf0 rf1 rf2 rf3 rf4 rf5
    go_wp2_with fail
    refine bodyPost_ret (v := .tuple #[.agg #[.int .i64 0, .int .i64 0, .int .i64 0, .int .i64 0, .bool false, .int .i64 0], .bool false]) (by simp [results, Try.results57, go_sem, *]) rfl ⟨?_, ?_⟩
    · rfl
    · (repeat (first | with_reducible assumption | with_reducible exact bl_refl _ | with_reducible refine bl_alloc ?_ _ | with_reducible refine bl_set ?_ (by simp) _ | with_reducible refine bl_drew ?_ | with_reducible refine bl_drewN ?_ _ | with_reducible refine bl_trans ?_ (by assumption)))

/-- months, by what civil.Months gives -/
theorem moment_months_gen (y m d s : Int) (z : Bool) (o n : Int) (h : mayC s z o = true) (b : Bool) (Y M D : Int)
    (hm : ∀ w, Calls Try.prog 37 #[.agg #[.int .i64 y, .int .i64 m, .int .i64 d], .int .i64 n] w fun e w' => e = .returned (.tuple #[if b then .agg #[.int .i64 Y, .int .i64 M, .int .i64 D] else .agg #[.int .i64 0, .int .i64 0, .int .i64 0], .bool b]) ∧ Below w.heap.size w w') (w : World) :
    Calls Try.prog 57 #[.agg #[.int .i64 y, .int .i64 m, .int .i64 d, .int .i64 s, .bool z, .int .i64 o], .int .i64 n] w fun e w' =>
      e = .returned (.tuple #[if b then .agg #[.int .i64 Y, .int .i64 M, .int .i64 D, .int .i64 s, .bool z, .int .i64 o] else .agg #[.int .i64 0, .int .i64 0, .int .i64 0, .int .i64 0, .bool false, .int .i64 0], .bool b]) ∧ Below w.heap.size w w' := by
  have z1 : w.heap.size < w.heap.size + 1 + 1 := by omega
  have HC := Lib.hid h
  clear h
  have HM := Lib.hid hm
  clear hm
  cases b
  · go_enter Try.func57, Try.ntmps57
    go_wp2_with fail
    refine (HM.out _).mono ?_
    rw [if_neg (by simp)]
    rintro e w1 ⟨rfl, hb⟩
    obtain ⟨⟨r0, r1, r2, r3, r4, r5, rl⟩, rf0, rf1, rf2, rf3, rf4, rf5⟩ := keepf6 (b := w.heap.size + 1) (c0 := .int .i64 0) (c1 := .int .i64 0) (c2 := .int .i64 0) (c3 := .int .i64 0) (c4 := .bool false) (c5 := .int .i64 0) hb (by simp [*]) (by simp [*]) (by simp [*]) (by simp [*]) (by simp [*]) (by simp [*]) (by simp [*]) (by simp [*]) (by simp [*]) (by simp [*]) (by simp [*]) (by simp [*])
    have g1 : Below w.heap.size w w1 := by (repeat (first | with_reducible assumption | with_reducible exact bl_refl _ | with_reducible refine bl_alloc ?_ _ | with_reducible refine bl_set ?_ (by simp) _ | with_reducible refine bl_drew ?_ | with_reducible refine bl_drewN ?_ _ | with_reducible refine bl_trans ?_ (by assumption)))
    clear hb
    go_wp2_with fail
    refine bodyPost_ret (v := .tuple #[.agg #[.int .i64 0, .int .i64 0, .int .i64 0, .int .i64 0, .bool false, .int .i64 0], .bool false]) (by simp [results, Try.results57, go_sem, *]) rfl ⟨?_, ?_⟩
    · rfl
    · (repeat (first | with_reducible assumption | with_reducible exact bl_refl _ | with_reducible refine bl_alloc ?_ _ | with_reducible refine bl_set ?_ (by simp) _ | with_reducible refine bl_drew ?_ | with_reducible refine bl_drewN ?_ _ | with_reducible refine bl_trans ?_ (by assumption)))
  · go_enter Try.func57, Try.ntmps57
    go_wp2_with fail
    refine (HM.out _).mono ?_
    (first | rw [if_pos rfl] | rw [if_pos trivial])
    rintro e w1 ⟨rfl, hb⟩
    obtain ⟨⟨r0, r1, r2, r3, r4, r5, rl⟩, rf0, rf1, rf2, rf3, rf4, rf5⟩ := keepf6 (b := w.heap.size + 1) (c0 := .int .i64 0) (c1 := .int .i64 0) (c2 := .int .i64 0) (c3 := .int .i64 0) (c4 := .bool false) (c5 := .int .i64 0) hb (by simp [*]) (by simp [*]) (by simp [*]) (by simp [*]) (by simp [*]) (by simp [*]) (by simp [*]) (by simp [*]) (by simp [*]) (by simp [*]) (by simp [*]) (by simp [*])
    obtain ⟨t0, t1, t2, t3, t4, t5, tl⟩ := keepc6 (b := w.heap.size) (c0 := .int .i64 y) (c1 := .int .i64 m) (c2 := .int .i64 d) (c3 := .int .i64 s) (c4 := .bool z) (c5 := .int .i64 o) hb (by simp [*]) (by simp [*]) (by simp [*]) (by simp [*]) (by simp [*]) (by simp [*])
    have g1 : Below w.heap.size w w1 := by (repeat (first | with_reducible assumption | with_reducible exact bl_refl _ | with_reducible refine bl_alloc ?_ _ | with_reducible refine bl_set ?_ (by simp) _ | with_reducible refine bl_drew ?_ | with_reducible refine bl_drewN ?_ _ | with_reducible refine bl_trans ?_ (by assumption)))
    clear hb
    go_wp2_with fail
    refine (clock_may_is s z o _ HC.out _).mono ?_
    rintro e w2 ⟨rfl, hb2⟩
    have g2 : Below w1.heap.size w1 w2 := by (repeat (first | with_reducible assumption | with_reducible exact bl_refl _ | with_reducible refine bl_alloc ?_ _ | with_reducible refine bl_set ?_ (by simp) _ | with_reducible refine bl_drew ?_ | with_reducible refine bl_drewN ?_ _ | with_reducible refine bl_trans ?_ (by assumption)))
    obtain ⟨⟨r0, r1, r2, r3, r4, r5, rl⟩, rf0, rf1, rf2, rf3, rf4, rf5⟩ := keepf6 g2 r0 r1 r2 r3 r4 r5 rf0 rf1 rf2 rf3 rf4 rf5
    obtain ⟨t0, t1, t2, t3, t4, t5, tl⟩ := keepc6 g2 t0 t1 t2 t3 t4 t5
    obtain ⟨q0, q1, q2, qf0, qf1, qf2, ql⟩ := keep3 (b := w1.heap.size) (x := .int .i64 Y) (y := .int .i64 M) (z := .int .i64 D) hb2 (by simp [*]) (by simp [*]) (by simp [*]) (by simp [*]) (by simp [*]) (by simp [*])
    go_wp2_with fail
    refine bodyPost_ret (v := .tuple #[.agg #[.int .i64 Y, .int .i64 M, .int .i64 D, .int .i64 s, .bool z, .int .i64 o], .bool true]) (by simp [results, Try.results57, go_sem, *]) rfl ⟨?_, ?_⟩
    · rfl
    · (repeat (first | with_reducible assumption | with_reducible exact bl_refl _ | with_reducible refine bl_alloc ?_ _ | with_reducible refine bl_set ?_ (by simp) _ | with_reducible refine bl_drew ?_ | with_reducible refine bl_drewN ?_ _ | with_reducible refine bl_trans ?_ (by assumption)))

end Go.Proofs.Ytfoblnepbncieaa
