/-
  The contracts of clock's functions: what each gives, for every input.
-/
import Derived.Test.YtfoblnepbncieaaBase
import Derived.Test.YtfoblnepbncieaaPlain
namespace Go.Proofs.Ytfoblnepbncieaa
open Go.ChangeShapes Go.WideShapes Go.ChangeAt Go.RowKit

def mayC (s : Int) (z : Bool) (o : Int) : Bool := decide (0 ≤ s ∧ s < 86400 ∧ -64800 ≤ o ∧ o ≤ 64800 ∧ (z = true ∨ o = 0))

theorem clock_may (s : Int) (z : Bool) (o : Int) (w : World) :
    Calls Try.prog 21 #[.agg #[.int .i64 s, .bool z, .int .i64 o]] w fun e w' => e = .returned (.bool (mayC s z o)) ∧ Below w.heap.size w w' := by
  go_enter Try.func21, Try.ntmps21
  go_wp2
  all_goals go_ret
  all_goals refine ⟨ret_bool ?_, (Below.refl _ _).alloc (Nat.le_refl _) _⟩
  all_goals (rw [Bool.eq_iff_iff]; simp [mayC, *]; try omega)

theorem clock_of (h m s : Int) (w : World) :
    Calls Try.prog 22 #[.int .i64 h, .int .i64 m, .int .i64 s] w fun e w' =>
      e = (if 0 ≤ h ∧ h < 24 ∧ 0 ≤ m ∧ m < 60 ∧ 0 ≤ s ∧ s < 60 then .returned (.tuple #[.agg #[.int .i64 (3600 * h + 60 * m + s), .bool false, .int .i64 0], .bool true])
        else .returned (.tuple #[.agg #[.int .i64 0, .bool false, .int .i64 0], .bool false])) ∧ Below w.heap.size w w' := by
  by_cases c : 0 ≤ h ∧ h < 24 ∧ 0 ≤ m ∧ m < 60 ∧ 0 ≤ s ∧ s < 60
  · rw [if_pos c]
    obtain ⟨c1, c2, c3, c4, c5, c6⟩ := c
    go_enter Try.func22, Try.ntmps22
    go_wp2
    exact bodyPost_ret (v := .tuple #[.agg #[.int .i64 (3600 * h + 60 * m + s), .bool false, .int .i64 0], .bool true]) (by simp [results, Try.results22, go_sem]) rfl ⟨rfl, (Below.refl _ _).alloc (Nat.le_refl _) _⟩
  · rw [if_neg c]
    go_enter Try.func22, Try.ntmps22
    go_wp2
    all_goals exact bodyPost_ret (v := .tuple #[.agg #[.int .i64 0, .bool false, .int .i64 0], .bool false]) (by simp [results, Try.results22, go_sem]) rfl ⟨rfl, (Below.refl _ _).alloc (Nat.le_refl _) _⟩

theorem clock_hour (s : Int) (z : Bool) (o : Int) (w : World) (h : 0 ≤ s) (_h : s < 86400) :
    Calls Try.prog 23 #[.agg #[.int .i64 s, .bool z, .int .i64 o]] w fun e w' => e = .returned (.int .i64 (s / 3600)) ∧ Below w.heap.size w w' := by
  go_enter Try.func23, Try.ntmps23
  go_wp2
  go_ret
  exact ⟨rfl, (Below.refl _ _).alloc (Nat.le_refl _) _⟩

theorem clock_minute (s : Int) (z : Bool) (o : Int) (w : World) (h : 0 ≤ s) (_h : s < 86400) :
    Calls Try.prog 24 #[.agg #[.int .i64 s, .bool z, .int .i64 o]] w fun e w' => e = .returned (.int .i64 (s / 60 % 60)) ∧ Below w.heap.size w w' := by
  go_enter Try.func24, Try.ntmps24
  go_wp2
  go_ret
  exact ⟨rfl, (Below.refl _ _).alloc (Nat.le_refl _) _⟩

theorem clock_second (s : Int) (z : Bool) (o : Int) (w : World) (h : 0 ≤ s) (_h : s < 86400) :
    Calls Try.prog 25 #[.agg #[.int .i64 s, .bool z, .int .i64 o]] w fun e w' => e = .returned (.int .i64 (s % 60)) ∧ Below w.heap.size w w' := by
  go_enter Try.func25, Try.ntmps25
  go_wp2
  go_ret
  exact ⟨rfl, (Below.refl _ _).alloc (Nat.le_refl _) _⟩


theorem clock_may_is (s : Int) (z : Bool) (o : Int) (b : Bool) (h : mayC s z o = b) (w : World) :
    Calls Try.prog 21 #[.agg #[.int .i64 s, .bool z, .int .i64 o]] w fun e w' => e = .returned (.bool b) ∧ Below w.heap.size w w' := by
  rw [← h]; exact clock_may s z o w

theorem clock_later_no (s : Int) (z : Bool) (o n : Int) (w : World) (hm : mayC s z o = false) :
    Calls Try.prog 20 #[.agg #[.int .i64 s, .bool z, .int .i64 o], .int .i64 n] w fun e w' =>
      e = .returned (.tuple #[.agg #[.int .i64 0, .bool false, .int .i64 0], .int .i64 0]) ∧ Below w.heap.size w w' := by
  have H := Lib.hid hm; clear hm
  go_enter Try.func20, Try.ntmps20
  go_wp2_with fail
  refine (clock_may_is s z o false H.out _).mono ?_
  rintro e w1 ⟨rfl, hb⟩
  obtain ⟨hc, hf⟩ := bcell hb
  have hz := hb.size
  simp at hz
  go_wp2_with fail
  refine bodyPost_ret (v := .tuple #[.agg #[.int .i64 0, .bool false, .int .i64 0], .int .i64 0]) (by simp [results, Try.results20, go_sem, hc]) rfl ⟨rfl, ?_⟩
  repeat (first | with_reducible exact bl_refl _ | with_reducible refine bl_alloc ?_ _ | with_reducible refine bl_set ?_ (by simp) _ | with_reducible refine bl_trans ?_ (by assumption))

theorem later_eqs (s n : Int) (h1 : 0 ≤ s) (h2 : s < 86400) :
    (s + n.tmod 86400 < 0 → s + n.tmod 86400 + 86400 = (s + n) % 86400 ∧ n.tdiv 86400 - 1 = (s + n) / 86400) ∧
    (86400 ≤ s + n.tmod 86400 → s + n.tmod 86400 - 86400 = (s + n) % 86400 ∧ n.tdiv 86400 + 1 = (s + n) / 86400) ∧
    (0 ≤ s + n.tmod 86400 → s + n.tmod 86400 < 86400 → s + n.tmod 86400 = (s + n) % 86400 ∧ n.tdiv 86400 = (s + n) / 86400) := by
  have a := Civ.tmod_cases n 86400
  have b := Civ.tdiv_cases n 86400
  omega

theorem tm_bounds (n : Int) (n1 : -9223372036854775808 ≤ n) (n2 : n ≤ 9223372036854775807) :
    (-86399 ≤ n.tmod 86400 ∧ n.tmod 86400 ≤ 86399) ∧ -200000000000000 ≤ n.tdiv 86400 ∧ n.tdiv 86400 ≤ 200000000000000 := by
  have a := Civ.tmod_cases n 86400
  have b := Civ.tdiv_cases n 86400
  omega

theorem clock_later_yes (s : Int) (z : Bool) (o n : Int) (w : World) (hm : mayC s z o = true) (n1 : -9223372036854775808 ≤ n) (n2 : n ≤ 9223372036854775807) :
    Calls Try.prog 20 #[.agg #[.int .i64 s, .bool z, .int .i64 o], .int .i64 n] w fun e w' =>
      e = .returned (.tuple #[.agg #[.int .i64 ((s + n) % 86400), .bool z, .int .i64 o], .int .i64 ((s + n) / 86400)]) ∧ Below w.heap.size w w' := by
  obtain ⟨⟨t1, t2⟩, d1, d2⟩ := tm_bounds n n1 n2
  clear n1 n2
  have hs : 0 ≤ s ∧ s < 86400 := by simp [mayC] at hm; omega
  obtain ⟨s1, s2⟩ := hs
  have E := Lib.hid (later_eqs s n s1 s2)
  have H := Lib.hid hm; clear hm
  have hcase : s + n.tmod 86400 < 0 ∨ 86400 ≤ s + n.tmod 86400 ∨ (0 ≤ s + n.tmod 86400 ∧ s + n.tmod 86400 < 86400) := by omega
  have hd1 : -9223372036854775808 ≤ n.tdiv 86400 := by omega
  rcases hcase with c | c | ⟨c1, c2⟩
  all_goals
    go_enter Try.func20, Try.ntmps20
    go_wp2_with fail
    refine (clock_may_is s z o true H.out _).mono ?_
    rintro e w1 ⟨rfl, hb⟩
    obtain ⟨ka0, ka1, ka2, fa0, fa1, fa2, la⟩ := keep3 (b := w.heap.size) (x := .int .i64 s) (y := .bool z) (z := .int .i64 o) hb (by simp [*]) (by simp [*]) (by simp [*]) (by simp [*]) (by simp [*]) (by simp [*])
    obtain ⟨kb0, kb1, kb2, fb0, fb1, fb2, lb⟩ := keep3 (b := w.heap.size + 1) (x := .int .i64 0) (y := .bool false) (z := .int .i64 0) hb (by simp [*]) (by simp [*]) (by simp [*]) (by simp [*]) (by simp [*]) (by simp [*])
    have hz := hb.size
    simp at hz
    go_wp2_with fail
  · refine bodyPost_ret (v := .tuple #[.agg #[.int .i64 (s + n.tmod 86400 + 86400), .bool z, .int .i64 o], .int .i64 (n.tdiv 86400 - 1)]) (by simp [results, Try.results20, go_sem, *]) rfl ⟨?_, ?_⟩
    · rw [(E.out.1 c).1, (E.out.1 c).2]
    repeat (first | with_reducible exact bl_refl _ | with_reducible refine bl_alloc ?_ _ | with_reducible refine bl_set ?_ (by simp) _ | with_reducible refine bl_drew ?_ | with_reducible refine bl_trans ?_ (by assumption))
  · refine bodyPost_ret (v := .tuple #[.agg #[.int .i64 (s + n.tmod 86400 - 86400), .bool z, .int .i64 o], .int .i64 (n.tdiv 86400 + 1)]) (by simp [results, Try.results20, go_sem, *]) rfl ⟨?_, ?_⟩
    · rw [(E.out.2.1 c).1, (E.out.2.1 c).2]
    repeat (first | with_reducible exact bl_refl _ | with_reducible refine bl_alloc ?_ _ | with_reducible refine bl_set ?_ (by simp) _ | with_reducible refine bl_drew ?_ | with_reducible refine bl_trans ?_ (by assumption))
  · refine bodyPost_ret (v := .tuple #[.agg #[.int .i64 (s + n.tmod 86400), .bool z, .int .i64 o], .int .i64 (n.tdiv 86400)]) (by simp [results, Try.results20, go_sem, *]) rfl ⟨?_, ?_⟩
    · rw [(E.out.2.2 c1 c2).1, (E.out.2.2 c1 c2).2]
    repeat (first | with_reducible exact bl_refl _ | with_reducible refine bl_alloc ?_ _ | with_reducible refine bl_set ?_ (by simp) _ | with_reducible refine bl_drew ?_ | with_reducible refine bl_trans ?_ (by assumption))

theorem clock_at (s : Int) (z : Bool) (o f : Int) (b : Bool) (w : World) (hm : mayC s true f = b) :
    Calls Try.prog 26 #[.agg #[.int .i64 s, .bool z, .int .i64 o], .int .i64 f] w fun e w' =>
      e = .returned (.tuple #[if b then .agg #[.int .i64 s, .bool true, .int .i64 f] else .agg #[.int .i64 0, .bool false, .int .i64 0], .bool b]) ∧ Below w.heap.size w w' := by
  have H := Lib.hid hm; clear hm
  cases b
  all_goals
    go_enter Try.func26, Try.ntmps26
    go_wp2_with fail
    refine (clock_may_is s true f _ H.out _).mono ?_
    rintro e w1 ⟨rfl, hb⟩
    obtain ⟨ka0, ka1, ka2, fa0, fa1, fa2, la⟩ := keep3 (b := w.heap.size) (x := .int .i64 s) (y := .bool true) (z := .int .i64 f) hb (by simp [*]) (by simp [*]) (by simp [*]) (by simp [*]) (by simp [*]) (by simp [*])
    obtain ⟨kb0, kb1, kb2, fb0, fb1, fb2, lb⟩ := keep3 (b := w.heap.size + 1) (x := .int .i64 0) (y := .bool false) (z := .int .i64 0) hb (by simp [*]) (by simp [*]) (by simp [*]) (by simp [*]) (by simp [*]) (by simp [*])
    have hz := hb.size
    simp at hz
    go_wp2_with fail
  · refine bodyPost_ret (v := .tuple #[.agg #[.int .i64 0, .bool false, .int .i64 0], .bool false]) (by simp [results, Try.results26, go_sem, *]) rfl ⟨rfl, ?_⟩
    repeat (first | with_reducible exact bl_refl _ | with_reducible refine bl_alloc ?_ _ | with_reducible refine bl_set ?_ (by simp) _ | with_reducible refine bl_drew ?_ | with_reducible refine bl_trans ?_ (by assumption))
  · refine bodyPost_ret (v := .tuple #[.agg #[.int .i64 s, .bool true, .int .i64 f], .bool true]) (by simp [results, Try.results26, go_sem, *]) rfl ⟨rfl, ?_⟩
    repeat (first | with_reducible exact bl_refl _ | with_reducible refine bl_alloc ?_ _ | with_reducible refine bl_set ?_ (by simp) _ | with_reducible refine bl_drew ?_ | with_reducible refine bl_trans ?_ (by assumption))

theorem clock_between_no (s : Int) (z : Bool) (o s2 : Int) (z2 : Bool) (o2 : Int) (w : World) (h : z ≠ z2) :
    Calls Try.prog 27 #[.agg #[.int .i64 s, .bool z, .int .i64 o], .agg #[.int .i64 s2, .bool z2, .int .i64 o2]] w fun e w' =>
      e = .returned (.tuple #[.int .i64 0, .bool false]) ∧ Below w.heap.size w w' := by
  cases z <;> cases z2 <;> (try exact absurd rfl h)
  all_goals
    clear h
    go_enter Try.func27, Try.ntmps27
    go_wp2
    go_ret2
    refine ⟨rfl, ?_⟩
    repeat (first | with_reducible exact bl_refl _ | with_reducible refine bl_alloc ?_ _ | with_reducible refine bl_set ?_ (by simp) _ | with_reducible refine bl_drew ?_ | with_reducible refine bl_trans ?_ (by assumption))

theorem clock_between_yes (s : Int) (z : Bool) (o s2 o2 : Int) (w : World) (a1 : -1000000 ≤ s ∧ s ≤ 1000000) (a2 : -1000000 ≤ o ∧ o ≤ 1000000) (a3 : -1000000 ≤ s2 ∧ s2 ≤ 1000000) (a4 : -1000000 ≤ o2 ∧ o2 ≤ 1000000) :
    Calls Try.prog 27 #[.agg #[.int .i64 s, .bool z, .int .i64 o], .agg #[.int .i64 s2, .bool z, .int .i64 o2]] w fun e w' =>
      e = .returned (.tuple #[.int .i64 ((s2 - o2) - (s - o)), .bool true]) ∧ Below w.heap.size w w' := by
  obtain ⟨_, _⟩ := a1
  obtain ⟨_, _⟩ := a2
  obtain ⟨_, _⟩ := a3
  obtain ⟨_, _⟩ := a4
  cases z
  all_goals
    go_enter Try.func27, Try.ntmps27
    go_wp2
    go_ret2
    refine ⟨rfl, ?_⟩
    repeat (first | with_reducible exact bl_refl _ | with_reducible refine bl_alloc ?_ _ | with_reducible refine bl_set ?_ (by simp) _ | with_reducible refine bl_drew ?_ | with_reducible refine bl_trans ?_ (by assumption))

theorem clock_cmp_no (s : Int) (z : Bool) (o s2 : Int) (z2 : Bool) (o2 : Int) (w : World) (h : z ≠ z2) :
    Calls Try.prog 28 #[.agg #[.int .i64 s, .bool z, .int .i64 o], .agg #[.int .i64 s2, .bool z2, .int .i64 o2]] w fun e w' =>
      e = .returned (.tuple #[.int .i64 0, .bool false]) ∧ Below w.heap.size w w' := by
  cases z <;> cases z2 <;> (try exact absurd rfl h)
  all_goals
    clear h
    go_enter Try.func28, Try.ntmps28
    go_wp2
    go_ret2
    refine ⟨rfl, ?_⟩
    repeat (first | with_reducible exact bl_refl _ | with_reducible refine bl_alloc ?_ _ | with_reducible refine bl_set ?_ (by simp) _ | with_reducible refine bl_drew ?_ | with_reducible refine bl_trans ?_ (by assumption))

theorem ret_ib {k : IntKind} {a b : Int} {c : Bool} (h : a = b) : Ending.returned (.tuple #[.int k a, .bool c]) = .returned (.tuple #[.int k b, .bool c]) := by rw [h]

def cmpI (x y : Int) : Int := if x < y then -1 else if y < x then 1 else 0

theorem clock_cmp_yes (s : Int) (z : Bool) (o s2 o2 : Int) (w : World) (a1 : -1000000 ≤ s ∧ s ≤ 1000000) (a2 : -1000000 ≤ o ∧ o ≤ 1000000) (a3 : -1000000 ≤ s2 ∧ s2 ≤ 1000000) (a4 : -1000000 ≤ o2 ∧ o2 ≤ 1000000) :
    Calls Try.prog 28 #[.agg #[.int .i64 s, .bool z, .int .i64 o], .agg #[.int .i64 s2, .bool z, .int .i64 o2]] w fun e w' =>
      e = .returned (.tuple #[.int .i64 (cmpI (s - o) (s2 - o2)), .bool true]) ∧ Below w.heap.size w w' := by
  obtain ⟨_, _⟩ := a1
  obtain ⟨_, _⟩ := a2
  obtain ⟨_, _⟩ := a3
  obtain ⟨_, _⟩ := a4
  cases z
  all_goals
    go_enter Try.func28, Try.ntmps28
    go_wp2
    go_quiet (fail)
    go_wp2
    all_goals go_ret2
    all_goals refine ⟨ret_ib ?_, ?_⟩
    any_goals (show _ = cmpI _ _; simp [cmpI]; omega)
    all_goals
      (repeat (first | with_reducible assumption | with_reducible exact bl_refl _ | with_reducible refine bl_alloc ?_ _ | with_reducible refine bl_set ?_ (by simp) _ | with_reducible refine bl_drew ?_ | with_reducible refine bl_drewN ?_ _ | with_reducible refine bl_trans ?_ (by assumption)))

theorem tmod_in (a b : Int) (hb : 0 < b) : -b < a.tmod b ∧ a.tmod b < b := by
  have h1 := Int.emod_nonneg (-a) (show b ≠ 0 by omega)
  have h2 := Int.emod_lt_of_pos (-a) hb
  have h3 := Int.emod_nonneg a (show b ≠ 0 by omega)
  have h4 := Int.emod_lt_of_pos a hb
  have := Civ.tmod_cases a b
  omega

theorem make_sec (a : Int) : (a.tmod 86400 + 86400) % 86400 = a % 86400 := by
  have := Civ.tmod_cases a 86400
  omega

theorem law07_make (s : Int) (z : Bool) (o : Int) (w : World) :
    Calls Try.prog 19 #[.int .i64 s, .bool z, .int .i64 o] w fun e w' =>
      e = .returned (.agg #[.int .i64 (s % 86400), .bool z, .int .i64 (if z then o.tmod 64801 else 0)]) ∧ Below w.heap.size w w' := by
  obtain ⟨a1, a2⟩ := tmod_in s 86400 (by omega)
  obtain ⟨b1, b2⟩ := tmod_in o 64801 (by omega)
  have E := Lib.hid (make_sec s)
  cases z
  all_goals
    go_enter Try.func19, Try.ntmps19
    go_wp2
  · refine bodyPost_ret (v := .agg #[.int .i64 ((s.tmod 86400 + 86400) % 86400), .bool false, .int .i64 0]) (by simp [results, Try.results19, go_sem, *]) rfl ⟨?_, ?_⟩
    · rw [E.out]
    · (repeat (first | with_reducible assumption | with_reducible exact bl_refl _ | with_reducible refine bl_alloc ?_ _ | with_reducible refine bl_set ?_ (by simp) _ | with_reducible refine bl_drew ?_ | with_reducible refine bl_drewN ?_ _ | with_reducible refine bl_trans ?_ (by assumption)))
  · refine bodyPost_ret (v := .agg #[.int .i64 ((s.tmod 86400 + 86400) % 86400), .bool true, .int .i64 (o.tmod 64801)]) (by simp [results, Try.results19, go_sem, *]) rfl ⟨?_, ?_⟩
    · rw [E.out]
    · (repeat (first | with_reducible assumption | with_reducible exact bl_refl _ | with_reducible refine bl_alloc ?_ _ | with_reducible refine bl_set ?_ (by simp) _ | with_reducible refine bl_drew ?_ | with_reducible refine bl_drewN ?_ _ | with_reducible refine bl_trans ?_ (by assumption)))

end Go.Proofs.Ytfoblnepbncieaa
