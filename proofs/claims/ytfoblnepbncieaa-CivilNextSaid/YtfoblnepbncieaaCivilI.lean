/-
  CivilNext: for every input it returns true.
-/
import Derived.Test.YtfoblnepbncieaaCivilA
import Derived.Test.YtfoblnepbncieaaCivilS
import Derived.Test.YtfoblnepbncieaaCivilC
import Derived.Test.YtfoblnepbncieaaCivilG
namespace Go.Proofs.Ytfoblnepbncieaa
open Go.ChangeShapes Go.WideShapes Go.ChangeAt Go.RowKit

/-- the day behind a day -/
theorem next_facts (y m d : Int) (hn : numB (Civ.num y m d + 1) = true) :
    Civ.may (Civ.ofY (Civ.num y m d + 1)) (Civ.ofM (Civ.num y m d + 1)) (Civ.ofD (Civ.num y m d + 1)) = true ∧
    Civ.num (Civ.ofY (Civ.num y m d + 1)) (Civ.ofM (Civ.num y m d + 1)) (Civ.ofD (Civ.num y m d + 1)) = Civ.num y m d + 1 := by
  exact ⟨(of_may_b _).trans hn, (Civ.of_spec _).2.2.2.2⟩

theorem wday_next (y m d v u f : Int) (e : Civ.num v u f = Civ.num y m d + 1) : Civ.wday v u f = Civ.wday y m d % 7 + 1 := by
  unfold Civ.wday; rw [e]; omega

theorem yday_next (y m d v u f : Int) (h : Civ.may y m d = true) (g : Civ.may v u f = true) (e : Civ.num v u f = Civ.num y m d + 1) :
    Civ.yday v u f = Civ.yday y m d + 1 ∨ Civ.yday v u f ≠ Civ.yday y m d + 1 ∧ Civ.yday v u f = 1 ∧ v = y + 1 := by
  obtain ⟨_, _, d1, d2⟩ := (may_iff y m d).1 h
  obtain ⟨_, _, e1, e2⟩ := (may_iff v u f).1 g
  obtain ⟨_, _, a1, a2, _⟩ := Civ.num_bounds y m d d1 d2
  obtain ⟨_, _, b1, b2, _⟩ := Civ.num_bounds v u f e1 e2
  have p := Civ.yday_num y m d
  have q := Civ.yday_num v u f
  by_cases c : v = y
  · subst c; left; omega
  · have c2 : y < v := by
      apply Decidable.byContradiction; intro n
      have := Civ.yr_mono (v + 1) y (by omega); omega
    have c3 : v = y + 1 := by
      apply Decidable.byContradiction; intro n
      have := Civ.yr_lt (y + 1) v (by omega); omega
    subst c3
    by_cases c4 : Civ.yday (y + 1) u f = Civ.yday y m d + 1
    · exact Or.inl c4
    · right; exact ⟨c4, by omega, rfl⟩

theorem week_next (y m d v u f : Int) (e : Civ.num v u f = Civ.num y m d + 1) :
    (Civ.wday y m d % 7 + 1 = 1 ∧ Civ.week v u f ≠ Civ.week y m d) ∨ (Civ.wday y m d % 7 + 1 ≠ 1 ∧ Civ.week v u f = Civ.week y m d) := by
  have wn := wday_next y m d v u f e
  have wb := wday_bounds y m d
  unfold Civ.week
  by_cases c : Civ.wday y m d % 7 + 1 = 1
  · left
    refine ⟨c, ?_⟩
    have t : Civ.thu v u f = Civ.thu y m d + 7 := by unfold Civ.thu; rw [wn, e]; omega
    rw [t]
    generalize Civ.thu y m d = k
    have s := Civ.of_spec k
    have b := Civ.num_bounds (Civ.ofY k) (Civ.ofM k) (Civ.ofD k) s.2.2.1 s.2.2.2.1
    rw [s.2.2.2.2] at b
    obtain ⟨_, _, b1, b2, _⟩ := b
    have w1 := (Civ.weekOf_eq k (Civ.ofY k) b1 b2).2
    have ys := Civ.yr_succ (Civ.ofY k)
    have ys2 := Civ.yr_succ (Civ.ofY k + 1)
    have l1 := Civ.lp_01 (Civ.ofY k)
    have l2 := Civ.lp_01 (Civ.ofY k + 1)
    by_cases q : k + 7 + 719162 < Civ.yr (Civ.ofY k + 1)
    · have w2 := (Civ.weekOf_eq (k + 7) (Civ.ofY k) (by omega) q).2
      rw [w1, w2]; omega
    · have w2 := (Civ.weekOf_eq (k + 7) (Civ.ofY k + 1) (by omega) (by omega)).2
      rw [w1, w2]; omega
  · right
    refine ⟨c, ?_⟩
    have t : Civ.thu v u f = Civ.thu y m d := by unfold Civ.thu; rw [wn, e]; omega
    rw [t]

theorem cmpD_next (y m d v u f : Int) (h : Civ.may y m d = true) (g : Civ.may v u f = true) (e : Civ.num v u f = Civ.num y m d + 1) :
    cmpD y m d v u f = -1 ∧ cmpD v u f y m d = 1 ∧ cmpD y m d y m d = 0 := by
  obtain ⟨_, _, d1, d2⟩ := (may_iff y m d).1 h
  obtain ⟨_, _, e1, e2⟩ := (may_iff v u f).1 g
  have a := (Civ.num_lt y m d v u f d1 d2 e1 e2).1 (by omega)
  unfold cmpD
  refine ⟨?_, ?_, by simp⟩
  · by_cases c1 : y < v
    · rw [if_pos c1]
    · rw [if_neg c1, if_neg (by omega)]
      by_cases c3 : m < u
      · rw [if_pos c3]
      · rw [if_neg c3, if_neg (by omega), if_pos (by omega)]
  · by_cases c1 : y < v
    · rw [if_neg (by omega), if_pos c1]
    · rw [if_neg (by omega), if_neg c1]
      by_cases c3 : m < u
      · rw [if_neg (by omega), if_pos c3]
      · rw [if_neg (by omega), if_neg c3, if_neg (by omega), if_pos (by omega)]

theorem next_none (y m d : Int) (h : Civ.may y m d = true) (hn : numB (Civ.num y m d + 1) = false) : y = 999999999 ∧ m = 12 ∧ d = 31 := by
  obtain ⟨y1, y2, d1, d2⟩ := (may_iff y m d).1 h
  have a := numB_num y m d h
  rw [numB_range] at a hn
  have a := of_decide_eq_true a
  have b := of_decide_eq_false hn
  have e : Civ.num y m d = Civ.num 999999999 12 31 := by rw [Civ.last_num]; show _ = (365241780471 : Int); omega
  exact Civ.num_inj _ _ _ _ _ _ d1 d2 (by omega) (by decide) e

set_option maxRecDepth 100000 in
set_option maxHeartbeats 1000000 in
theorem civilNext_none (oy om od y m d : Int) (w : World) (h : Civ.may y m d = true) (hn : numB (Civ.num y m d + 1) = false) (hmk : ∀ w, Calls Try.prog 41 #[.int .i64 oy, .int .i64 om, .int .i64 od] w fun e w' =>
      e = .returned (.agg #[.int .i64 y, .int .i64 m, .int .i64 d]) ∧ Below w.heap.size w w') :
    Calls Try.prog 11 #[.int .i64 oy, .int .i64 om, .int .i64 od] w fun e w' =>
      e = .returned (.bool true) ∧ Below w.heap.size w w' := by
  have HMK := Lib.hid hmk
  obtain ⟨rfl, rfl, rfl⟩ := next_none y m d h hn
  have N1 := Lib.hid (civil_number_yes _ _ _ h)
  rw [Civ.last_num, show Civ.last = 365241780471 from rfl] at N1
  clear h hmk hn
  go_enter Try.func11, Try.ntmps11
  go_wp2_with fail
  refine (law06_awake _).mono ?_
  rintro e w1 ⟨rfl, hb1⟩
  go_wp2_with fail
  refine (HMK.out _).mono ?_
  rintro e w2 ⟨rfl, hb2⟩
  go_wp2_with fail
  refine (N1.out _).mono ?_
  rintro e w3 ⟨rfl, hb3⟩
  obtain ⟨t0, t1, t2, tf0, tf1, tf2, tl⟩ := keep3 (b := w2.heap.size) (x := .int .i64 999999999) (y := .int .i64 12) (z := .int .i64 31) hb3 (by simp [*]) (by simp [*]) (by simp [*]) (by simp [*]) (by simp [*]) (by simp [*])
  go_wp2_with fail
  refine (civil_of _ false (by decide) _).mono ?_
  rintro e w4 ⟨rfl, hb4⟩
  obtain ⟨t0, t1, t2, tf0, tf1, tf2, tl⟩ := keep3 hb4 t0 t1 t2 tf0 tf1 tf2
  go_wp2_with fail
  go_ret
  refine ⟨rfl, ?_⟩
  (repeat (first | with_reducible assumption | with_reducible exact bl_refl _ | with_reducible refine bl_alloc ?_ _ | with_reducible refine bl_set ?_ (by simp) _ | with_reducible refine bl_drew ?_ | with_reducible refine bl_drewN ?_ _ | with_reducible refine bl_trans ?_ (by assumption)))

theorem num_inr (y m d : Int) (h : Civ.may y m d = true) : -365243219162 ≤ Civ.num y m d ∧ Civ.num y m d ≤ 365241780471 :=
  of_decide_eq_true ((numB_range _).symm.trans (numB_num y m d h))

set_option maxRecDepth 100000 in
set_option maxHeartbeats 2000000 in
theorem civilNext_s0 (oy om od y m d v u f : Int) (w : World) (h : Civ.may y m d = true) (hn : numB (Civ.num y m d + 1) = true) (hmk : ∀ w, Calls Try.prog 41 #[.int .i64 oy, .int .i64 om, .int .i64 od] w fun e w' =>
      e = .returned (.agg #[.int .i64 y, .int .i64 m, .int .i64 d]) ∧ Below w.heap.size w w')
    (ev : Civ.ofY (Civ.num y m d + 1) = v) (eu : Civ.ofM (Civ.num y m d + 1) = u) (ef : Civ.ofD (Civ.num y m d + 1) = f)
    (yn : Civ.yday v u f = Civ.yday y m d + 1) (kn1 : Civ.wday y m d % 7 + 1 = 1) (kn2 : Civ.week v u f ≠ Civ.week y m d) :
    Calls Try.prog 11 #[.int .i64 oy, .int .i64 om, .int .i64 od] w fun e w' =>
      e = .returned (.bool true) ∧ Below w.heap.size w w' := by
  have HMK := Lib.hid hmk
  obtain ⟨g, e1⟩ := next_facts y m d hn
  have HO := Lib.hid (civil_of (Civ.num y m d + 1) true hn)
  rw [ev, eu, ef] at g e1 HO
  have N1 := Lib.hid (civil_number_yes y m d h)
  have W1 := Lib.hid (civil_weekday_yes y m d h)
  have W2 := Lib.hid (civil_weekday_yes v u f g)
  rw [wday_next y m d v u f e1] at W2
  have Y1 := Lib.hid (civil_yearday_yes y m d h)
  have Y2 := Lib.hid (civil_yearday_yes v u f g)
  have K1 := Lib.hid (civil_week_yes y m d h)
  have K2 := Lib.hid (civil_week_yes v u f g)
  rw [yn] at Y2
  have HQ := Lib.hid (cmpD_next y m d v u f h g e1)
  obtain ⟨wb1, wb2⟩ := wday_bounds y m d
  obtain ⟨yb1, yb2⟩ := yday_bounds y m d h
  obtain ⟨nb1, nb2⟩ := num_inr y m d h
  have yb : -999999999 ≤ y ∧ y ≤ 999999999 := ⟨((may_iff y m d).1 h).1, ((may_iff y m d).1 h).2.1⟩
  obtain ⟨yc1, yc2⟩ := yb
  have WV := Lib.hid (IntWalk.i64_in (Civ.yday y m d + 1) (by omega))
  have WY := Lib.hid (IntWalk.i64_in (y + 1) (by omega))
  clear yn
  have kq : (Civ.week v u f == Civ.week y m d) = false := beq_eq_false_iff_ne.2 kn2
  have kq2 : (Civ.week v u f != Civ.week y m d) = true := bne_iff_ne.2 kn2
  have KQ := Lib.hid (And.intro kq kq2)
  have KD := Lib.hid (show (Civ.wday y m d % 7 + 1 == 1) = true from beq_iff_eq.2 kn1)
  clear kq kq2 kn1 kn2
  clear h g hn hmk ev eu ef e1
  generalize Civ.num y m d = n at *
  generalize Civ.wday y m d = k at *
  generalize Civ.yday y m d = a at *
  generalize Civ.week y m d = p at *
  generalize Civ.week v u f = q at *
  go_enter Try.func11, Try.ntmps11
  go_wp2_with fail
  refine (law06_awake _).mono ?_
  rintro e w1 ⟨rfl, hb1⟩
  go_wp2_with fail
  refine (HMK.out _).mono ?_
  rintro e w2 ⟨rfl, hb2⟩
  go_wp2_with fail
  refine (N1.out _).mono ?_
  rintro e w3 ⟨rfl, hb3⟩
  obtain ⟨t0, t1, t2, tf0, tf1, tf2, tl⟩ := keep3 (b := w2.heap.size) (x := .int .i64 y) (y := .int .i64 m) (z := .int .i64 d) hb3 (by simp [*]) (by simp [*]) (by simp [*]) (by simp [*]) (by simp [*]) (by simp [*])
  go_wp2_with fail
  refine (HO.out _).mono ?_
  rw [if_pos trivial]
  rintro e w4 ⟨rfl, hb4⟩
  obtain ⟨t0, t1, t2, tf0, tf1, tf2, tl⟩ := keep3 hb4 t0 t1 t2 tf0 tf1 tf2
  go_wp2_with fail
  refine (W1.out _).mono ?_
  rintro e w5 ⟨rfl, hb5⟩
  have g5 : Below w4.heap.size w4 w5 := by (repeat (first | with_reducible assumption | with_reducible exact bl_refl _ | with_reducible refine bl_alloc ?_ _ | with_reducible refine bl_set ?_ (by simp) _ | with_reducible refine bl_drew ?_ | with_reducible refine bl_drewN ?_ _ | with_reducible refine bl_trans ?_ (by assumption)))
  obtain ⟨t0, t1, t2, tf0, tf1, tf2, tl⟩ := keep3 g5 t0 t1 t2 tf0 tf1 tf2
  obtain ⟨o0, o1, o2, of0, of1, of2, ol⟩ := keep3 (b := w4.heap.size) (x := .int .i64 v) (y := .int .i64 u) (z := .int .i64 f) hb5 (by simp [*]) (by simp [*]) (by simp [*]) (by simp [*]) (by simp [*]) (by simp [*])
  have hbW : Below w.heap.size w w5 := by (repeat (first | with_reducible assumption | with_reducible exact bl_refl _ | with_reducible refine bl_alloc ?_ _ | with_reducible refine bl_set ?_ (by simp) _ | with_reducible refine bl_drew ?_ | with_reducible refine bl_drewN ?_ _ | with_reducible refine bl_trans ?_ (by assumption)))
  clear hb1 hb2 hb3 hb4 hb5 g5
  go_upto_region 9 with fail
  have wv := WV.out
  have wy := WY.out
  obtain ⟨q1, q2, q3⟩ := HQ.out
  have kd := KD.out
  obtain ⟨kq, kq2⟩ := KQ.out
  refine wp_region_held_drew (S := (fun w' => w'.cell? ⟨w2.heap.size, 0, none⟩ = some (.int .i64 y) ∧ w'.cell? ⟨w2.heap.size, 1, none⟩ = some (.int .i64 m) ∧ w'.cell? ⟨w2.heap.size, 2, none⟩ = some (.int .i64 d) ∧ w'.cell? ⟨w4.heap.size, 0, none⟩ = some (.int .i64 v) ∧ w'.cell? ⟨w4.heap.size, 1, none⟩ = some (.int .i64 u) ∧ w'.cell? ⟨w4.heap.size, 2, none⟩ = some (.int .i64 f) ∧ Below w.heap.size w w')) (by kernel_rfl) ?_ (fun hHeld => ?_)
  · ((try dsimp only); (((try go_split_ands); (repeat' apply And.intro) <;> (first | (simp [*]; done) | ((repeat (first | with_reducible assumption | with_reducible exact bl_refl _ | with_reducible refine bl_alloc ?_ _ | with_reducible refine bl_set ?_ (by simp) _ | with_reducible refine bl_drew ?_ | with_reducible refine bl_drewN ?_ _ | with_reducible refine bl_trans ?_ (by assumption))); done)))))
  refine wpAnyH_take (i := 0) (oi := ?oi0) (v := ?v0) ?h0 (by kernel_rfl) (by kernel_rfl) (by kernel_rfl) ?hQ0 ?hy0 (by assumption) ?_
  case h0 => (simp only [List.getElem?_toArray, List.getElem?_cons_zero]; exact rfl)
  case hQ0 => exact fun _ _ _ h => h
  case hy0 => (refine Or.inl ⟨by rfl, ?_⟩; intro w hSw; (try dsimp only at hSw); go_simp; try with_reducible rfl)
  try simp only [Act.put, List.setIfInBounds_toArray, List.set_cons_zero, List.set_cons_succ]
  refine wpAnyH_take (i := 2) (oi := ?oi2) (v := ?v2) ?h2 (by kernel_rfl) (by kernel_rfl) (by kernel_rfl) ?hQ2 ?hy2 (by assumption) ?_
  case h2 => (simp only [List.getElem?_toArray, List.getElem?_cons_succ, List.getElem?_cons_zero]; exact rfl)
  case hQ2 => exact fun _ _ _ h => h
  case hy2 => (refine Or.inl ⟨by rfl, ?_⟩; intro w hSw; (try dsimp only at hSw); go_simp; try with_reducible rfl)
  try simp only [Act.put, List.setIfInBounds_toArray, List.set_cons_zero, List.set_cons_succ]
  refine wpAnyH_ready (rs := [1]) (by kernel_rfl) (by simp) ?_
  refine AllReadyH.cons (o := ?oi1) ?h1 (fun K hK => ?_) AllReadyH.nil
  case h1 => (simp only [List.getElem?_toArray, List.getElem?_cons_succ, List.getElem?_cons_zero]; exact rfl)
  go_simp
  refine (W2.out _).mono ?_; rintro e w' ⟨rfl, hb⟩; have hk := below_keeps hb
  refine hK.out _ _ ?_ (fun hNew => ?_)
  · ((try dsimp only); (((try go_split_ands); (repeat' apply And.intro) <;> (first | (simp [*]; done) | ((repeat (first | with_reducible assumption | with_reducible exact bl_refl _ | with_reducible refine bl_alloc ?_ _ | with_reducible refine bl_set ?_ (by simp) _ | with_reducible refine bl_drew ?_ | with_reducible refine bl_drewN ?_ _ | with_reducible refine bl_trans ?_ (by assumption))); done)))))
  clear hK K hHeld
  revert hNew; intro hHeld
  try simp only [Act.put, List.setIfInBounds_toArray, List.set_cons_zero, List.set_cons_succ]
  refine wpAnyH_take (i := 3) (oi := ?oi3) (v := ?v3) ?h3 (by kernel_rfl) (by kernel_rfl) (by kernel_rfl) ?hQ3 ?hy3 (by assumption) ?_
  case h3 => (simp only [List.getElem?_toArray, List.getElem?_cons_succ, List.getElem?_cons_zero]; exact rfl)
  case hQ3 => exact fun _ _ _ h => h
  case hy3 => (refine Or.inl ⟨by rfl, ?_⟩; intro w hSw; (try dsimp only at hSw); go_simp; try with_reducible rfl)
  try simp only [Act.put, List.setIfInBounds_toArray, List.set_cons_zero, List.set_cons_succ]
  refine wpAnyH_take (i := 4) (oi := ?oi4) (v := ?v4) ?h4 (by kernel_rfl) (by kernel_rfl) (by kernel_rfl) ?hQ4 ?hy4 (by assumption) ?_
  case h4 => (simp only [List.getElem?_toArray, List.getElem?_cons_succ, List.getElem?_cons_zero]; exact rfl)
  case hQ4 => exact fun _ _ _ h => h
  case hy4 => (refine Or.inl ⟨by rfl, ?_⟩; intro w hSw; (try dsimp only at hSw); go_simp; try with_reducible rfl)
  try simp only [Act.put, List.setIfInBounds_toArray, List.set_cons_zero, List.set_cons_succ]
  refine wpAnyH_take (i := 5) (oi := ?oi5) (v := ?v5) ?h5 (by kernel_rfl) (by kernel_rfl) (by kernel_rfl) ?hQ5 ?hy5 (by assumption) ?_
  case h5 => (simp only [List.getElem?_toArray, List.getElem?_cons_succ, List.getElem?_cons_zero]; exact rfl)
  case hQ5 => exact fun _ _ _ h => h
  case hy5 => (refine Or.inl ⟨by rfl, ?_⟩; intro w hSw; (try dsimp only at hSw); go_simp; try with_reducible rfl)
  try simp only [Act.put, List.setIfInBounds_toArray, List.set_cons_zero, List.set_cons_succ]
  refine wpAnyH_take (i := 6) (oi := ?oi6) (v := ?v6) ?h6 (by kernel_rfl) (by kernel_rfl) (by kernel_rfl) ?hQ6 ?hy6 (by assumption) ?_
  case h6 => (simp only [List.getElem?_toArray, List.getElem?_cons_succ, List.getElem?_cons_zero]; exact rfl)
  case hQ6 => exact fun _ _ _ h => h
  case hy6 => (refine Or.inl ⟨by rfl, ?_⟩; intro w hSw; (try dsimp only at hSw); go_simp; try with_reducible rfl)
  try simp only [Act.put, List.setIfInBounds_toArray, List.set_cons_zero, List.set_cons_succ]
  refine wpAnyH_ready (rs := [7]) (by kernel_rfl) (by simp) ?_
  refine AllReadyH.cons (o := ?oi7) ?h7 (fun K hK => ?_) AllReadyH.nil
  case h7 => (simp only [List.getElem?_toArray, List.getElem?_cons_succ, List.getElem?_cons_zero]; exact rfl)
  go_simp
  refine (civil_cmp _ _ _ _ _ _ _).mono ?_; rintro e w' ⟨rfl, hb⟩; have hk := below_keeps hb
  refine hK.out _ _ ?_ (fun hNew => ?_)
  · ((try dsimp only); (((try go_split_ands); (repeat' apply And.intro) <;> (first | (simp [*]; done) | ((repeat (first | with_reducible assumption | with_reducible exact bl_refl _ | with_reducible refine bl_alloc ?_ _ | with_reducible refine bl_set ?_ (by simp) _ | with_reducible refine bl_drew ?_ | with_reducible refine bl_drewN ?_ _ | with_reducible refine bl_trans ?_ (by assumption))); done)))))
  clear hK K hHeld
  revert hNew; intro hHeld
  try simp only [Act.put, List.setIfInBounds_toArray, List.set_cons_zero, List.set_cons_succ]
  refine wpAnyH_take (i := 8) (oi := ?oi8) (v := ?v8) ?h8 (by kernel_rfl) (by kernel_rfl) (by kernel_rfl) ?hQ8 ?hy8 (by assumption) ?_
  case h8 => (simp only [List.getElem?_toArray, List.getElem?_cons_succ, List.getElem?_cons_zero]; exact rfl)
  case hQ8 => exact fun _ _ _ h => h
  case hy8 => (refine Or.inl ⟨by rfl, ?_⟩; intro w hSw; (try dsimp only at hSw); go_simp; try with_reducible rfl)
  try simp only [Act.put, List.setIfInBounds_toArray, List.set_cons_zero, List.set_cons_succ]
  refine wpAnyH_take (i := 9) (oi := ?oi9) (v := ?v9) ?h9 (by kernel_rfl) (by kernel_rfl) (by kernel_rfl) ?hQ9 ?hy9 (by assumption) ?_
  case h9 => (simp only [List.getElem?_toArray, List.getElem?_cons_succ, List.getElem?_cons_zero]; exact rfl)
  case hQ9 => exact fun _ _ _ h => h
  case hy9 => (refine Or.inl ⟨by rfl, ?_⟩; intro w hSw; (try dsimp only at hSw); go_simp; try with_reducible rfl)
  try simp only [Act.put, List.setIfInBounds_toArray, List.set_cons_zero, List.set_cons_succ]
  refine wpAnyH_take (i := 10) (oi := ?oi10) (v := ?v10) ?h10 (by kernel_rfl) (by kernel_rfl) (by kernel_rfl) ?hQ10 ?hy10 (by assumption) ?_
  case h10 => (simp only [List.getElem?_toArray, List.getElem?_cons_succ, List.getElem?_cons_zero]; exact rfl)
  case hQ10 => exact fun _ _ _ h => h
  case hy10 => (refine Or.inl ⟨by rfl, ?_⟩; intro w hSw; (try dsimp only at hSw); go_simp; try with_reducible rfl)
  try simp only [Act.put, List.setIfInBounds_toArray, List.set_cons_zero, List.set_cons_succ]
  refine wpAnyH_take (i := 11) (oi := ?oi11) (v := ?v11) ?h11 (by kernel_rfl) (by kernel_rfl) (by kernel_rfl) ?hQ11 ?hy11 (by assumption) ?_
  case h11 => (simp only [List.getElem?_toArray, List.getElem?_cons_succ, List.getElem?_cons_zero]; exact rfl)
  case hQ11 => exact fun _ _ _ h => h
  case hy11 => (refine Or.inl ⟨by rfl, ?_⟩; intro w hSw; (try dsimp only at hSw); go_simp; try with_reducible rfl)
  try simp only [Act.put, List.setIfInBounds_toArray, List.set_cons_zero, List.set_cons_succ]
  refine wpAnyH_take (i := 12) (oi := ?oi12) (v := ?v12) ?h12 (by kernel_rfl) (by kernel_rfl) (by kernel_rfl) ?hQ12 ?hy12 (by assumption) ?_
  case h12 => (simp only [List.getElem?_toArray, List.getElem?_cons_succ, List.getElem?_cons_zero]; exact rfl)
  case hQ12 => exact fun _ _ _ h => h
  case hy12 => (refine Or.inl ⟨by rfl, ?_⟩; intro w hSw; (try dsimp only at hSw); go_simp; try with_reducible rfl)
  try simp only [Act.put, List.setIfInBounds_toArray, List.set_cons_zero, List.set_cons_succ]
  refine wpAnyH_ready (rs := [13]) (by kernel_rfl) (by simp) ?_
  refine AllReadyH.cons (o := ?oi13) ?h13 (fun K hK => ?_) AllReadyH.nil
  case h13 => (simp only [List.getElem?_toArray, List.getElem?_cons_succ, List.getElem?_cons_zero]; exact rfl)
  go_simp
  refine (civil_cmp _ _ _ _ _ _ _).mono ?_; rintro e w' ⟨rfl, hb⟩; have hk := below_keeps hb
  refine hK.out _ _ ?_ (fun hNew => ?_)
  · ((try dsimp only); (((try go_split_ands); (repeat' apply And.intro) <;> (first | (simp [*]; done) | ((repeat (first | with_reducible assumption | with_reducible exact bl_refl _ | with_reducible refine bl_alloc ?_ _ | with_reducible refine bl_set ?_ (by simp) _ | with_reducible refine bl_drew ?_ | with_reducible refine bl_drewN ?_ _ | with_reducible refine bl_trans ?_ (by assumption))); done)))))
  clear hK K hHeld
  revert hNew; intro hHeld
  try simp only [Act.put, List.setIfInBounds_toArray, List.set_cons_zero, List.set_cons_succ]
  refine wpAnyH_take (i := 14) (oi := ?oi14) (v := ?v14) ?h14 (by kernel_rfl) (by kernel_rfl) (by kernel_rfl) ?hQ14 ?hy14 (by assumption) ?_
  case h14 => (simp only [List.getElem?_toArray, List.getElem?_cons_succ, List.getElem?_cons_zero]; exact rfl)
  case hQ14 => exact fun _ _ _ h => h
  case hy14 => (refine Or.inl ⟨by rfl, ?_⟩; intro w hSw; (try dsimp only at hSw); go_simp; try with_reducible rfl)
  try simp only [Act.put, List.setIfInBounds_toArray, List.set_cons_zero, List.set_cons_succ]
  refine wpAnyH_take (i := 15) (oi := ?oi15) (v := ?v15) ?h15 (by kernel_rfl) (by kernel_rfl) (by kernel_rfl) ?hQ15 ?hy15 (by assumption) ?_
  case h15 => (simp only [List.getElem?_toArray, List.getElem?_cons_succ, List.getElem?_cons_zero]; exact rfl)
  case hQ15 => exact fun _ _ _ h => h
  case hy15 => (refine Or.inl ⟨by rfl, ?_⟩; intro w hSw; (try dsimp only at hSw); go_simp; try with_reducible rfl)
  try simp only [Act.put, List.setIfInBounds_toArray, List.set_cons_zero, List.set_cons_succ]
  refine wpAnyH_take (i := 16) (oi := ?oi16) (v := ?v16) ?h16 (by kernel_rfl) (by kernel_rfl) (by kernel_rfl) ?hQ16 ?hy16 (by assumption) ?_
  case h16 => (simp only [List.getElem?_toArray, List.getElem?_cons_succ, List.getElem?_cons_zero]; exact rfl)
  case hQ16 => exact fun _ _ _ h => h
  case hy16 => (refine Or.inl ⟨by rfl, ?_⟩; intro w hSw; (try dsimp only at hSw); go_simp; try with_reducible rfl)
  try simp only [Act.put, List.setIfInBounds_toArray, List.set_cons_zero, List.set_cons_succ]
  refine wpAnyH_take (i := 17) (oi := ?oi17) (v := ?v17) ?h17 (by kernel_rfl) (by kernel_rfl) (by kernel_rfl) ?hQ17 ?hy17 (by assumption) ?_
  case h17 => (simp only [List.getElem?_toArray, List.getElem?_cons_succ, List.getElem?_cons_zero]; exact rfl)
  case hQ17 => exact fun _ _ _ h => h
  case hy17 => (refine Or.inl ⟨by rfl, ?_⟩; intro w hSw; (try dsimp only at hSw); go_simp; try with_reducible rfl)
  try simp only [Act.put, List.setIfInBounds_toArray, List.set_cons_zero, List.set_cons_succ]
  refine wpAnyH_take (i := 18) (oi := ?oi18) (v := ?v18) ?h18 (by kernel_rfl) (by kernel_rfl) (by kernel_rfl) ?hQ18 ?hy18 (by assumption) ?_
  case h18 => (simp only [List.getElem?_toArray, List.getElem?_cons_succ, List.getElem?_cons_zero]; exact rfl)
  case hQ18 => exact fun _ _ _ h => h
  case hy18 => (refine Or.inl ⟨by rfl, ?_⟩; intro w hSw; (try dsimp only at hSw); go_simp; try with_reducible rfl)
  try simp only [Act.put, List.setIfInBounds_toArray, List.set_cons_zero, List.set_cons_succ]
  refine wpAnyH_ready (rs := [19]) (by kernel_rfl) (by simp) ?_
  refine AllReadyH.cons (o := ?oi19) ?h19 (fun K hK => ?_) AllReadyH.nil
  case h19 => (simp only [List.getElem?_toArray, List.getElem?_cons_succ, List.getElem?_cons_zero]; exact rfl)
  go_simp
  refine (civil_cmp _ _ _ _ _ _ _).mono ?_; rintro e w' ⟨rfl, hb⟩; have hk := below_keeps hb
  refine hK.out _ _ ?_ (fun hNew => ?_)
  · ((try dsimp only); (((try go_split_ands); (repeat' apply And.intro) <;> (first | (simp [*]; done) | ((repeat (first | with_reducible assumption | with_reducible exact bl_refl _ | with_reducible refine bl_alloc ?_ _ | with_reducible refine bl_set ?_ (by simp) _ | with_reducible refine bl_drew ?_ | with_reducible refine bl_drewN ?_ _ | with_reducible refine bl_trans ?_ (by assumption))); done)))))
  clear hK K hHeld
  revert hNew; intro hHeld
  try simp only [Act.put, List.setIfInBounds_toArray, List.set_cons_zero, List.set_cons_succ]
  refine wpAnyH_take (i := 20) (oi := ?oi20) (v := ?v20) ?h20 (by kernel_rfl) (by kernel_rfl) (by kernel_rfl) ?hQ20 ?hy20 (by assumption) ?_
  case h20 => (simp only [List.getElem?_toArray, List.getElem?_cons_succ, List.getElem?_cons_zero]; exact rfl)
  case hQ20 => exact fun _ _ _ h => h
  case hy20 => (refine Or.inl ⟨by rfl, ?_⟩; intro w hSw; (try dsimp only at hSw); go_simp; try with_reducible rfl)
  try simp only [Act.put, List.setIfInBounds_toArray, List.set_cons_zero, List.set_cons_succ]
  refine wpAnyH_take (i := 21) (oi := ?oi21) (v := ?v21) ?h21 (by kernel_rfl) (by kernel_rfl) (by kernel_rfl) ?hQ21 ?hy21 (by assumption) ?_
  case h21 => (simp only [List.getElem?_toArray, List.getElem?_cons_succ, List.getElem?_cons_zero]; exact rfl)
  case hQ21 => exact fun _ _ _ h => h
  case hy21 => (refine Or.inl ⟨by rfl, ?_⟩; intro w hSw; (try dsimp only at hSw); go_simp; try with_reducible rfl)
  try simp only [Act.put, List.setIfInBounds_toArray, List.set_cons_zero, List.set_cons_succ]
  refine wpAnyH_take (i := 22) (oi := ?oi22) (v := ?v22) ?h22 (by kernel_rfl) (by kernel_rfl) (by kernel_rfl) ?hQ22 ?hy22 (by assumption) ?_
  case h22 => (simp only [List.getElem?_toArray, List.getElem?_cons_succ, List.getElem?_cons_zero]; exact rfl)
  case hQ22 => exact fun _ _ _ h => h
  case hy22 => (refine Or.inl ⟨by rfl, ?_⟩; intro w hSw; (try dsimp only at hSw); go_simp; try with_reducible rfl)
  try simp only [Act.put, List.setIfInBounds_toArray, List.set_cons_zero, List.set_cons_succ]
  refine wpAnyH_take (i := 23) (oi := ?oi23) (v := ?v23) ?h23 (by kernel_rfl) (by kernel_rfl) (by kernel_rfl) ?hQ23 ?hy23 (by assumption) ?_
  case h23 => (simp only [List.getElem?_toArray, List.getElem?_cons_succ, List.getElem?_cons_zero]; exact rfl)
  case hQ23 => exact fun _ _ _ h => h
  case hy23 => (refine Or.inl ⟨by rfl, ?_⟩; intro w hSw; (try dsimp only at hSw); go_simp; try with_reducible rfl)
  try simp only [Act.put, List.setIfInBounds_toArray, List.set_cons_zero, List.set_cons_succ]
  refine wpAnyH_take (i := 25) (oi := ?oi25) (v := ?v25) ?h25 (by kernel_rfl) (by kernel_rfl) (by kernel_rfl) ?hQ25 ?hy25 (by assumption) ?_
  case h25 => (simp only [List.getElem?_toArray, List.getElem?_cons_succ, List.getElem?_cons_zero]; exact rfl)
  case hQ25 => exact fun _ _ _ h => h
  case hy25 => (refine Or.inl ⟨by rfl, ?_⟩; intro w hSw; (try dsimp only at hSw); go_simp; try with_reducible rfl)
  try simp only [Act.put, List.setIfInBounds_toArray, List.set_cons_zero, List.set_cons_succ]
  refine wpAnyH_ready (rs := [24]) (by kernel_rfl) (by simp) ?_
  refine AllReadyH.cons (o := ?oi24) ?h24 (fun K hK => ?_) AllReadyH.nil
  case h24 => (simp only [List.getElem?_toArray, List.getElem?_cons_succ, List.getElem?_cons_zero]; exact rfl)
  go_simp
  refine (Y2.out _).mono ?_; rintro e w' ⟨rfl, hb⟩; have hk := below_keeps hb
  refine hK.out _ _ ?_ (fun hNew => ?_)
  · ((try dsimp only); (((try go_split_ands); (repeat' apply And.intro) <;> (first | (simp [*]; done) | ((repeat (first | with_reducible assumption | with_reducible exact bl_refl _ | with_reducible refine bl_alloc ?_ _ | with_reducible refine bl_set ?_ (by simp) _ | with_reducible refine bl_drew ?_ | with_reducible refine bl_drewN ?_ _ | with_reducible refine bl_trans ?_ (by assumption))); done)))))
  clear hK K hHeld
  revert hNew; intro hHeld
  try simp only [Act.put, List.setIfInBounds_toArray, List.set_cons_zero, List.set_cons_succ]
  refine wpAnyH_ready (rs := [26]) (by kernel_rfl) (by simp) ?_
  refine AllReadyH.cons (o := ?oi26) ?h26 (fun K hK => ?_) AllReadyH.nil
  case h26 => (simp only [List.getElem?_toArray, List.getElem?_cons_succ, List.getElem?_cons_zero]; exact rfl)
  go_simp
  refine (Y1.out _).mono ?_; rintro e w' ⟨rfl, hb⟩; have hk := below_keeps hb
  refine hK.out _ _ ?_ (fun hNew => ?_)
  · ((try dsimp only); (((try go_split_ands); (repeat' apply And.intro) <;> (first | (simp [*]; done) | ((repeat (first | with_reducible assumption | with_reducible exact bl_refl _ | with_reducible refine bl_alloc ?_ _ | with_reducible refine bl_set ?_ (by simp) _ | with_reducible refine bl_drew ?_ | with_reducible refine bl_drewN ?_ _ | with_reducible refine bl_trans ?_ (by assumption))); done)))))
  clear hK K hHeld
  revert hNew; intro hHeld
  try simp only [Act.put, List.setIfInBounds_toArray, List.set_cons_zero, List.set_cons_succ]
  refine wpAnyH_take (i := 27) (oi := ?oi27) (v := ?v27) ?h27 (by kernel_rfl) (by kernel_rfl) (by kernel_rfl) ?hQ27 ?hy27 (by assumption) ?_
  case h27 => (simp only [List.getElem?_toArray, List.getElem?_cons_succ, List.getElem?_cons_zero]; exact rfl)
  case hQ27 => exact fun _ _ _ h => h
  case hy27 => (refine Or.inl ⟨by rfl, ?_⟩; intro w hSw; (try dsimp only at hSw); go_simp; try with_reducible rfl)
  try simp only [Act.put, List.setIfInBounds_toArray, List.set_cons_zero, List.set_cons_succ]
  refine wpAnyH_take (i := 28) (oi := ?oi28) (v := ?v28) ?h28 (by kernel_rfl) (by kernel_rfl) (by kernel_rfl) ?hQ28 ?hy28 (by assumption) ?_
  case h28 => (simp only [List.getElem?_toArray, List.getElem?_cons_succ, List.getElem?_cons_zero]; exact rfl)
  case hQ28 => exact fun _ _ _ h => h
  case hy28 => (refine Or.inl ⟨by rfl, ?_⟩; intro w hSw; (try dsimp only at hSw); go_simp; try with_reducible rfl)
  try simp only [Act.put, List.setIfInBounds_toArray, List.set_cons_zero, List.set_cons_succ]
  refine wpAnyH_take (i := 29) (oi := ?oi29) (v := ?v29) ?h29 (by kernel_rfl) (by kernel_rfl) (by kernel_rfl) ?hQ29 ?hy29 (by assumption) ?_
  case h29 => (simp only [List.getElem?_toArray, List.getElem?_cons_succ, List.getElem?_cons_zero]; exact rfl)
  case hQ29 => exact fun _ _ _ h => h
  case hy29 => (refine Or.inl ⟨by rfl, ?_⟩; intro w hSw; (try dsimp only at hSw); go_simp; try with_reducible rfl)
  try simp only [Act.put, List.setIfInBounds_toArray, List.set_cons_zero, List.set_cons_succ]
  refine wpAnyH_take (i := 30) (oi := ?oi30) (v := undef) ?h30 (by kernel_rfl) (by kernel_rfl) (by kernel_rfl) ?hQ30 ?hy30 (by assumption) ?_
  case h30 => (simp only [List.getElem?_toArray, List.getElem?_cons_succ, List.getElem?_cons_zero]; exact rfl)
  case hQ30 => exact fun _ _ _ h => h
  case hy30 => exact Or.inr ⟨by rfl, rfl⟩
  try simp only [Act.put, List.setIfInBounds_toArray, List.set_cons_zero, List.set_cons_succ]
  refine wpAnyH_take (i := 31) (oi := ?oi31) (v := undef) ?h31 (by kernel_rfl) (by kernel_rfl) (by kernel_rfl) ?hQ31 ?hy31 (by assumption) ?_
  case h31 => (simp only [List.getElem?_toArray, List.getElem?_cons_succ, List.getElem?_cons_zero]; exact rfl)
  case hQ31 => exact fun _ _ _ h => h
  case hy31 => exact Or.inr ⟨by rfl, rfl⟩
  try simp only [Act.put, List.setIfInBounds_toArray, List.set_cons_zero, List.set_cons_succ]
  refine wpAnyH_take (i := 32) (oi := ?oi32) (v := undef) ?h32 (by kernel_rfl) (by kernel_rfl) (by kernel_rfl) ?hQ32 ?hy32 (by assumption) ?_
  case h32 => (simp only [List.getElem?_toArray, List.getElem?_cons_succ, List.getElem?_cons_zero]; exact rfl)
  case hQ32 => exact fun _ _ _ h => h
  case hy32 => exact Or.inr ⟨by rfl, rfl⟩
  try simp only [Act.put, List.setIfInBounds_toArray, List.set_cons_zero, List.set_cons_succ]
  refine wpAnyH_take (i := 33) (oi := ?oi33) (v := undef) ?h33 (by kernel_rfl) (by kernel_rfl) (by kernel_rfl) ?hQ33 ?hy33 (by assumption) ?_
  case h33 => (simp only [List.getElem?_toArray, List.getElem?_cons_succ, List.getElem?_cons_zero]; exact rfl)
  case hQ33 => exact fun _ _ _ h => h
  case hy33 => exact Or.inr ⟨by rfl, rfl⟩
  try simp only [Act.put, List.setIfInBounds_toArray, List.set_cons_zero, List.set_cons_succ]
  refine wpAnyH_take (i := 34) (oi := ?oi34) (v := undef) ?h34 (by kernel_rfl) (by kernel_rfl) (by kernel_rfl) ?hQ34 ?hy34 (by assumption) ?_
  case h34 => (simp only [List.getElem?_toArray, List.getElem?_cons_succ, List.getElem?_cons_zero]; exact rfl)
  case hQ34 => exact fun _ _ _ h => h
  case hy34 => exact Or.inr ⟨by rfl, rfl⟩
  try simp only [Act.put, List.setIfInBounds_toArray, List.set_cons_zero, List.set_cons_succ]
  refine wpAnyH_take (i := 35) (oi := ?oi35) (v := undef) ?h35 (by kernel_rfl) (by kernel_rfl) (by kernel_rfl) ?hQ35 ?hy35 (by assumption) ?_
  case h35 => (simp only [List.getElem?_toArray, List.getElem?_cons_succ, List.getElem?_cons_zero]; exact rfl)
  case hQ35 => exact fun _ _ _ h => h
  case hy35 => exact Or.inr ⟨by rfl, rfl⟩
  try simp only [Act.put, List.setIfInBounds_toArray, List.set_cons_zero, List.set_cons_succ]
  refine wpAnyH_take (i := 36) (oi := ?oi36) (v := undef) ?h36 (by kernel_rfl) (by kernel_rfl) (by kernel_rfl) ?hQ36 ?hy36 (by assumption) ?_
  case h36 => (simp only [List.getElem?_toArray, List.getElem?_cons_succ, List.getElem?_cons_zero]; exact rfl)
  case hQ36 => exact fun _ _ _ h => h
  case hy36 => exact Or.inr ⟨by rfl, rfl⟩
  try simp only [Act.put, List.setIfInBounds_toArray, List.set_cons_zero, List.set_cons_succ]
  refine wpAnyH_take (i := 37) (oi := ?oi37) (v := undef) ?h37 (by kernel_rfl) (by kernel_rfl) (by kernel_rfl) ?hQ37 ?hy37 (by assumption) ?_
  case h37 => (simp only [List.getElem?_toArray, List.getElem?_cons_succ, List.getElem?_cons_zero]; exact rfl)
  case hQ37 => exact fun _ _ _ h => h
  case hy37 => exact Or.inr ⟨by rfl, rfl⟩
  try simp only [Act.put, List.setIfInBounds_toArray, List.set_cons_zero, List.set_cons_succ]
  refine wpAnyH_take (i := 38) (oi := ?oi38) (v := undef) ?h38 (by kernel_rfl) (by kernel_rfl) (by kernel_rfl) ?hQ38 ?hy38 (by assumption) ?_
  case h38 => (simp only [List.getElem?_toArray, List.getElem?_cons_succ, List.getElem?_cons_zero]; exact rfl)
  case hQ38 => exact fun _ _ _ h => h
  case hy38 => exact Or.inr ⟨by rfl, rfl⟩
  try simp only [Act.put, List.setIfInBounds_toArray, List.set_cons_zero, List.set_cons_succ]
  refine wpAnyH_take (i := 39) (oi := ?oi39) (v := undef) ?h39 (by kernel_rfl) (by kernel_rfl) (by kernel_rfl) ?hQ39 ?hy39 (by assumption) ?_
  case h39 => (simp only [List.getElem?_toArray, List.getElem?_cons_succ, List.getElem?_cons_zero]; exact rfl)
  case hQ39 => exact fun _ _ _ h => h
  case hy39 => exact Or.inr ⟨by rfl, rfl⟩
  try simp only [Act.put, List.setIfInBounds_toArray, List.set_cons_zero, List.set_cons_succ]
  refine wpAnyH_take (i := 40) (oi := ?oi40) (v := undef) ?h40 (by kernel_rfl) (by kernel_rfl) (by kernel_rfl) ?hQ40 ?hy40 (by assumption) ?_
  case h40 => (simp only [List.getElem?_toArray, List.getElem?_cons_succ, List.getElem?_cons_zero]; exact rfl)
  case hQ40 => exact fun _ _ _ h => h
  case hy40 => exact Or.inr ⟨by rfl, rfl⟩
  try simp only [Act.put, List.setIfInBounds_toArray, List.set_cons_zero, List.set_cons_succ]
  refine wpAnyH_take (i := 41) (oi := ?oi41) (v := ?v41) ?h41 (by kernel_rfl) (by kernel_rfl) (by kernel_rfl) ?hQ41 ?hy41 (by assumption) ?_
  case h41 => (simp only [List.getElem?_toArray, List.getElem?_cons_succ, List.getElem?_cons_zero]; exact rfl)
  case hQ41 => exact fun _ _ _ h => h
  case hy41 => (refine Or.inl ⟨by rfl, ?_⟩; intro w hSw; (try dsimp only at hSw); go_simp; try with_reducible rfl)
  try simp only [Act.put, List.setIfInBounds_toArray, List.set_cons_zero, List.set_cons_succ]
  refine wpAnyH_take (i := 42) (oi := ?oi42) (v := ?v42) ?h42 (by kernel_rfl) (by kernel_rfl) (by kernel_rfl) ?hQ42 ?hy42 (by assumption) ?_
  case h42 => (simp only [List.getElem?_toArray, List.getElem?_cons_succ, List.getElem?_cons_zero]; exact rfl)
  case hQ42 => exact fun _ _ _ h => h
  case hy42 => (refine Or.inl ⟨by rfl, ?_⟩; intro w hSw; (try dsimp only at hSw); go_simp; try with_reducible rfl)
  try simp only [Act.put, List.setIfInBounds_toArray, List.set_cons_zero, List.set_cons_succ]
  refine wpAnyH_take (i := 43) (oi := ?oi43) (v := ?v43) ?h43 (by kernel_rfl) (by kernel_rfl) (by kernel_rfl) ?hQ43 ?hy43 (by assumption) ?_
  case h43 => (simp only [List.getElem?_toArray, List.getElem?_cons_succ, List.getElem?_cons_zero]; exact rfl)
  case hQ43 => exact fun _ _ _ h => h
  case hy43 => (refine Or.inl ⟨by rfl, ?_⟩; intro w hSw; (try dsimp only at hSw); go_simp; try with_reducible rfl)
  try simp only [Act.put, List.setIfInBounds_toArray, List.set_cons_zero, List.set_cons_succ]
  refine wpAnyH_take (i := 44) (oi := ?oi44) (v := ?v44) ?h44 (by kernel_rfl) (by kernel_rfl) (by kernel_rfl) ?hQ44 ?hy44 (by assumption) ?_
  case h44 => (simp only [List.getElem?_toArray, List.getElem?_cons_succ, List.getElem?_cons_zero]; exact rfl)
  case hQ44 => exact fun _ _ _ h => h
  case hy44 => (refine Or.inl ⟨by rfl, ?_⟩; intro w hSw; (try dsimp only at hSw); go_simp; try with_reducible rfl)
  try simp only [Act.put, List.setIfInBounds_toArray, List.set_cons_zero, List.set_cons_succ]
  refine wpAnyH_take (i := 45) (oi := ?oi45) (v := ?v45) ?h45 (by kernel_rfl) (by kernel_rfl) (by kernel_rfl) ?hQ45 ?hy45 (by assumption) ?_
  case h45 => (simp only [List.getElem?_toArray, List.getElem?_cons_succ, List.getElem?_cons_zero]; exact rfl)
  case hQ45 => exact fun _ _ _ h => h
  case hy45 => (refine Or.inl ⟨by rfl, ?_⟩; intro w hSw; (try dsimp only at hSw); go_simp; try with_reducible rfl)
  try simp only [Act.put, List.setIfInBounds_toArray, List.set_cons_zero, List.set_cons_succ]
  refine wpAnyH_take (i := 46) (oi := ?oi46) (v := ?v46) ?h46 (by kernel_rfl) (by kernel_rfl) (by kernel_rfl) ?hQ46 ?hy46 (by assumption) ?_
  case h46 => (simp only [List.getElem?_toArray, List.getElem?_cons_succ, List.getElem?_cons_zero]; exact rfl)
  case hQ46 => exact fun _ _ _ h => h
  case hy46 => (refine Or.inl ⟨by rfl, ?_⟩; intro w hSw; (try dsimp only at hSw); go_simp; try with_reducible rfl)
  try simp only [Act.put, List.setIfInBounds_toArray, List.set_cons_zero, List.set_cons_succ]
  refine wpAnyH_take (i := 48) (oi := ?oi48) (v := ?v48) ?h48 (by kernel_rfl) (by kernel_rfl) (by kernel_rfl) ?hQ48 ?hy48 (by assumption) ?_
  case h48 => (simp only [List.getElem?_toArray, List.getElem?_cons_succ, List.getElem?_cons_zero]; exact rfl)
  case hQ48 => exact fun _ _ _ h => h
  case hy48 => (refine Or.inl ⟨by rfl, ?_⟩; intro w hSw; (try dsimp only at hSw); go_simp; try with_reducible rfl)
  try simp only [Act.put, List.setIfInBounds_toArray, List.set_cons_zero, List.set_cons_succ]
  refine wpAnyH_ready (rs := [47]) (by kernel_rfl) (by simp) ?_
  refine AllReadyH.cons (o := ?oi47) ?h47 (fun K hK => ?_) AllReadyH.nil
  case h47 => (simp only [List.getElem?_toArray, List.getElem?_cons_succ, List.getElem?_cons_zero]; exact rfl)
  go_simp
  refine (K2.out _).mono ?_; rintro e w' ⟨rfl, hb⟩; have hk := below_keeps hb
  refine hK.out _ _ ?_ (fun hNew => ?_)
  · ((try dsimp only); (((try go_split_ands); (repeat' apply And.intro) <;> (first | (simp [*]; done) | ((repeat (first | with_reducible assumption | with_reducible exact bl_refl _ | with_reducible refine bl_alloc ?_ _ | with_reducible refine bl_set ?_ (by simp) _ | with_reducible refine bl_drew ?_ | with_reducible refine bl_drewN ?_ _ | with_reducible refine bl_trans ?_ (by assumption))); done)))))
  clear hK K hHeld
  revert hNew; intro hHeld
  try simp only [Act.put, List.setIfInBounds_toArray, List.set_cons_zero, List.set_cons_succ]
  refine wpAnyH_ready (rs := [49]) (by kernel_rfl) (by simp) ?_
  refine AllReadyH.cons (o := ?oi49) ?h49 (fun K hK => ?_) AllReadyH.nil
  case h49 => (simp only [List.getElem?_toArray, List.getElem?_cons_succ, List.getElem?_cons_zero]; exact rfl)
  go_simp
  refine (K1.out _).mono ?_; rintro e w' ⟨rfl, hb⟩; have hk := below_keeps hb
  refine hK.out _ _ ?_ (fun hNew => ?_)
  · ((try dsimp only); (((try go_split_ands); (repeat' apply And.intro) <;> (first | (simp [*]; done) | ((repeat (first | with_reducible assumption | with_reducible exact bl_refl _ | with_reducible refine bl_alloc ?_ _ | with_reducible refine bl_set ?_ (by simp) _ | with_reducible refine bl_drew ?_ | with_reducible refine bl_drewN ?_ _ | with_reducible refine bl_trans ?_ (by assumption))); done)))))
  clear hK K hHeld
  revert hNew; intro hHeld
  try simp only [Act.put, List.setIfInBounds_toArray, List.set_cons_zero, List.set_cons_succ]
  refine wpAnyH_take (i := 50) (oi := ?oi50) (v := ?v50) ?h50 (by kernel_rfl) (by kernel_rfl) (by kernel_rfl) ?hQ50 ?hy50 (by assumption) ?_
  case h50 => (simp only [List.getElem?_toArray, List.getElem?_cons_succ, List.getElem?_cons_zero]; exact rfl)
  case hQ50 => exact fun _ _ _ h => h
  case hy50 => (refine Or.inl ⟨by rfl, ?_⟩; intro w hSw; (try dsimp only at hSw); go_simp; try with_reducible rfl)
  try simp only [Act.put, List.setIfInBounds_toArray, List.set_cons_zero, List.set_cons_succ]
  refine wpAnyH_take (i := 51) (oi := ?oi51) (v := ?v51) ?h51 (by kernel_rfl) (by kernel_rfl) (by kernel_rfl) ?hQ51 ?hy51 (by assumption) ?_
  case h51 => (simp only [List.getElem?_toArray, List.getElem?_cons_succ, List.getElem?_cons_zero]; exact rfl)
  case hQ51 => exact fun _ _ _ h => h
  case hy51 => (refine Or.inl ⟨by rfl, ?_⟩; intro w hSw; (try dsimp only at hSw); go_simp; try with_reducible rfl)
  try simp only [Act.put, List.setIfInBounds_toArray, List.set_cons_zero, List.set_cons_succ]
  refine wpAnyH_take (i := 52) (oi := ?oi52) (v := ?v52) ?h52 (by kernel_rfl) (by kernel_rfl) (by kernel_rfl) ?hQ52 ?hy52 (by assumption) ?_
  case h52 => (simp only [List.getElem?_toArray, List.getElem?_cons_succ, List.getElem?_cons_zero]; exact rfl)
  case hQ52 => exact fun _ _ _ h => h
  case hy52 => (refine Or.inl ⟨by rfl, ?_⟩; intro w hSw; (try dsimp only at hSw); go_simp; try with_reducible rfl)
  try simp only [Act.put, List.setIfInBounds_toArray, List.set_cons_zero, List.set_cons_succ]
  refine wpAnyH_ready (rs := [53]) (by kernel_rfl) (by simp) ?_
  refine AllReadyH.cons (o := ?oi53) ?h53 (fun K hK => ?_) AllReadyH.nil
  case h53 => (simp only [List.getElem?_toArray, List.getElem?_cons_succ, List.getElem?_cons_zero]; exact rfl)
  go_simp
  skip
  refine hK.out _ _ ?_ (fun hNew => ?_)
  · ((try dsimp only); (((try go_split_ands); (repeat' apply And.intro) <;> (first | (simp [*]; done) | ((repeat (first | with_reducible assumption | with_reducible exact bl_refl _ | with_reducible refine bl_alloc ?_ _ | with_reducible refine bl_set ?_ (by simp) _ | with_reducible refine bl_drew ?_ | with_reducible refine bl_drewN ?_ _ | with_reducible refine bl_trans ?_ (by assumption))); done)))))
  clear hK K hHeld
  revert hNew; intro hHeld
  try simp only [Act.put, List.setIfInBounds_toArray, List.set_cons_zero, List.set_cons_succ]
  refine wpAnyH_done (by kernel_rfl) ?_ _
  go_wp2_with fail
  obtain ⟨_, _, _, _, _, _, hw⟩ := ‹_ ∧ _ ∧ _ ∧ _ ∧ _ ∧ _ ∧ Below w.heap.size w _›
  go_ret
  exact ⟨rfl, hw⟩

set_option maxRecDepth 100000 in
set_option maxHeartbeats 2000000 in
theorem civilNext_s1 (oy om od y m d v u f : Int) (w : World) (h : Civ.may y m d = true) (hn : numB (Civ.num y m d + 1) = true) (hmk : ∀ w, Calls Try.prog 41 #[.int .i64 oy, .int .i64 om, .int .i64 od] w fun e w' =>
      e = .returned (.agg #[.int .i64 y, .int .i64 m, .int .i64 d]) ∧ Below w.heap.size w w')
    (ev : Civ.ofY (Civ.num y m d + 1) = v) (eu : Civ.ofM (Civ.num y m d + 1) = u) (ef : Civ.ofD (Civ.num y m d + 1) = f)
    (yn : Civ.yday v u f = Civ.yday y m d + 1) (kn1 : Civ.wday y m d % 7 + 1 ≠ 1) (kn2 : Civ.week v u f = Civ.week y m d) :
    Calls Try.prog 11 #[.int .i64 oy, .int .i64 om, .int .i64 od] w fun e w' =>
      e = .returned (.bool true) ∧ Below w.heap.size w w' := by
  have HMK := Lib.hid hmk
  obtain ⟨g, e1⟩ := next_facts y m d hn
  have HO := Lib.hid (civil_of (Civ.num y m d + 1) true hn)
  rw [ev, eu, ef] at g e1 HO
  have N1 := Lib.hid (civil_number_yes y m d h)
  have W1 := Lib.hid (civil_weekday_yes y m d h)
  have W2 := Lib.hid (civil_weekday_yes v u f g)
  rw [wday_next y m d v u f e1] at W2
  have Y1 := Lib.hid (civil_yearday_yes y m d h)
  have Y2 := Lib.hid (civil_yearday_yes v u f g)
  have K1 := Lib.hid (civil_week_yes y m d h)
  have K2 := Lib.hid (civil_week_yes v u f g)
  rw [yn] at Y2
  rw [kn2] at K2
  have HQ := Lib.hid (cmpD_next y m d v u f h g e1)
  obtain ⟨wb1, wb2⟩ := wday_bounds y m d
  obtain ⟨yb1, yb2⟩ := yday_bounds y m d h
  obtain ⟨nb1, nb2⟩ := num_inr y m d h
  have yb : -999999999 ≤ y ∧ y ≤ 999999999 := ⟨((may_iff y m d).1 h).1, ((may_iff y m d).1 h).2.1⟩
  obtain ⟨yc1, yc2⟩ := yb
  have WV := Lib.hid (IntWalk.i64_in (Civ.yday y m d + 1) (by omega))
  have WY := Lib.hid (IntWalk.i64_in (y + 1) (by omega))
  clear yn
  have KD := Lib.hid (show (Civ.wday y m d % 7 + 1 == 1) = false from beq_eq_false_iff_ne.2 kn1)
  clear kn1 kn2
  clear h g hn hmk ev eu ef e1
  generalize Civ.num y m d = n at *
  generalize Civ.wday y m d = k at *
  generalize Civ.yday y m d = a at *
  generalize Civ.week y m d = p at *
  go_enter Try.func11, Try.ntmps11
  go_wp2_with fail
  refine (law06_awake _).mono ?_
  rintro e w1 ⟨rfl, hb1⟩
  go_wp2_with fail
  refine (HMK.out _).mono ?_
  rintro e w2 ⟨rfl, hb2⟩
  go_wp2_with fail
  refine (N1.out _).mono ?_
  rintro e w3 ⟨rfl, hb3⟩
  obtain ⟨t0, t1, t2, tf0, tf1, tf2, tl⟩ := keep3 (b := w2.heap.size) (x := .int .i64 y) (y := .int .i64 m) (z := .int .i64 d) hb3 (by simp [*]) (by simp [*]) (by simp [*]) (by simp [*]) (by simp [*]) (by simp [*])
  go_wp2_with fail
  refine (HO.out _).mono ?_
  rw [if_pos trivial]
  rintro e w4 ⟨rfl, hb4⟩
  obtain ⟨t0, t1, t2, tf0, tf1, tf2, tl⟩ := keep3 hb4 t0 t1 t2 tf0 tf1 tf2
  go_wp2_with fail
  refine (W1.out _).mono ?_
  rintro e w5 ⟨rfl, hb5⟩
  have g5 : Below w4.heap.size w4 w5 := by (repeat (first | with_reducible assumption | with_reducible exact bl_refl _ | with_reducible refine bl_alloc ?_ _ | with_reducible refine bl_set ?_ (by simp) _ | with_reducible refine bl_drew ?_ | with_reducible refine bl_drewN ?_ _ | with_reducible refine bl_trans ?_ (by assumption)))
  obtain ⟨t0, t1, t2, tf0, tf1, tf2, tl⟩ := keep3 g5 t0 t1 t2 tf0 tf1 tf2
  obtain ⟨o0, o1, o2, of0, of1, of2, ol⟩ := keep3 (b := w4.heap.size) (x := .int .i64 v) (y := .int .i64 u) (z := .int .i64 f) hb5 (by simp [*]) (by simp [*]) (by simp [*]) (by simp [*]) (by simp [*]) (by simp [*])
  have hbW : Below w.heap.size w w5 := by (repeat (first | with_reducible assumption | with_reducible exact bl_refl _ | with_reducible refine bl_alloc ?_ _ | with_reducible refine bl_set ?_ (by simp) _ | with_reducible refine bl_drew ?_ | with_reducible refine bl_drewN ?_ _ | with_reducible refine bl_trans ?_ (by assumption)))
  clear hb1 hb2 hb3 hb4 hb5 g5
  go_upto_region 9 with fail
  have wv := WV.out
  have wy := WY.out
  obtain ⟨q1, q2, q3⟩ := HQ.out
  have kd := KD.out
  refine wp_region_held_drew (S := (fun w' => w'.cell? ⟨w2.heap.size, 0, none⟩ = some (.int .i64 y) ∧ w'.cell? ⟨w2.heap.size, 1, none⟩ = some (.int .i64 m) ∧ w'.cell? ⟨w2.heap.size, 2, none⟩ = some (.int .i64 d) ∧ w'.cell? ⟨w4.heap.size, 0, none⟩ = some (.int .i64 v) ∧ w'.cell? ⟨w4.heap.size, 1, none⟩ = some (.int .i64 u) ∧ w'.cell? ⟨w4.heap.size, 2, none⟩ = some (.int .i64 f) ∧ Below w.heap.size w w')) (by kernel_rfl) ?_ (fun hHeld => ?_)
  · ((try dsimp only); (((try go_split_ands); (repeat' apply And.intro) <;> (first | (simp [*]; done) | ((repeat (first | with_reducible assumption | with_reducible exact bl_refl _ | with_reducible refine bl_alloc ?_ _ | with_reducible refine bl_set ?_ (by simp) _ | with_reducible refine bl_drew ?_ | with_reducible refine bl_drewN ?_ _ | with_reducible refine bl_trans ?_ (by assumption))); done)))))
  refine wpAnyH_take (i := 0) (oi := ?oi0) (v := ?v0) ?h0 (by kernel_rfl) (by kernel_rfl) (by kernel_rfl) ?hQ0 ?hy0 (by assumption) ?_
  case h0 => (simp only [List.getElem?_toArray, List.getElem?_cons_zero]; exact rfl)
  case hQ0 => exact fun _ _ _ h => h
  case hy0 => (refine Or.inl ⟨by rfl, ?_⟩; intro w hSw; (try dsimp only at hSw); go_simp; try with_reducible rfl)
  try simp only [Act.put, List.setIfInBounds_toArray, List.set_cons_zero, List.set_cons_succ]
  refine wpAnyH_take (i := 2) (oi := ?oi2) (v := ?v2) ?h2 (by kernel_rfl) (by kernel_rfl) (by kernel_rfl) ?hQ2 ?hy2 (by assumption) ?_
  case h2 => (simp only [List.getElem?_toArray, List.getElem?_cons_succ, List.getElem?_cons_zero]; exact rfl)
  case hQ2 => exact fun _ _ _ h => h
  case hy2 => (refine Or.inl ⟨by rfl, ?_⟩; intro w hSw; (try dsimp only at hSw); go_simp; try with_reducible rfl)
  try simp only [Act.put, List.setIfInBounds_toArray, List.set_cons_zero, List.set_cons_succ]
  refine wpAnyH_ready (rs := [1]) (by kernel_rfl) (by simp) ?_
  refine AllReadyH.cons (o := ?oi1) ?h1 (fun K hK => ?_) AllReadyH.nil
  case h1 => (simp only [List.getElem?_toArray, List.getElem?_cons_succ, List.getElem?_cons_zero]; exact rfl)
  go_simp
  refine (W2.out _).mono ?_; rintro e w' ⟨rfl, hb⟩; have hk := below_keeps hb
  refine hK.out _ _ ?_ (fun hNew => ?_)
  · ((try dsimp only); (((try go_split_ands); (repeat' apply And.intro) <;> (first | (simp [*]; done) | ((repeat (first | with_reducible assumption | with_reducible exact bl_refl _ | with_reducible refine bl_alloc ?_ _ | with_reducible refine bl_set ?_ (by simp) _ | with_reducible refine bl_drew ?_ | with_reducible refine bl_drewN ?_ _ | with_reducible refine bl_trans ?_ (by assumption))); done)))))
  clear hK K hHeld
  revert hNew; intro hHeld
  try simp only [Act.put, List.setIfInBounds_toArray, List.set_cons_zero, List.set_cons_succ]
  refine wpAnyH_take (i := 3) (oi := ?oi3) (v := ?v3) ?h3 (by kernel_rfl) (by kernel_rfl) (by kernel_rfl) ?hQ3 ?hy3 (by assumption) ?_
  case h3 => (simp only [List.getElem?_toArray, List.getElem?_cons_succ, List.getElem?_cons_zero]; exact rfl)
  case hQ3 => exact fun _ _ _ h => h
  case hy3 => (refine Or.inl ⟨by rfl, ?_⟩; intro w hSw; (try dsimp only at hSw); go_simp; try with_reducible rfl)
  try simp only [Act.put, List.setIfInBounds_toArray, List.set_cons_zero, List.set_cons_succ]
  refine wpAnyH_take (i := 4) (oi := ?oi4) (v := ?v4) ?h4 (by kernel_rfl) (by kernel_rfl) (by kernel_rfl) ?hQ4 ?hy4 (by assumption) ?_
  case h4 => (simp only [List.getElem?_toArray, List.getElem?_cons_succ, List.getElem?_cons_zero]; exact rfl)
  case hQ4 => exact fun _ _ _ h => h
  case hy4 => (refine Or.inl ⟨by rfl, ?_⟩; intro w hSw; (try dsimp only at hSw); go_simp; try with_reducible rfl)
  try simp only [Act.put, List.setIfInBounds_toArray, List.set_cons_zero, List.set_cons_succ]
  refine wpAnyH_take (i := 5) (oi := ?oi5) (v := ?v5) ?h5 (by kernel_rfl) (by kernel_rfl) (by kernel_rfl) ?hQ5 ?hy5 (by assumption) ?_
  case h5 => (simp only [List.getElem?_toArray, List.getElem?_cons_succ, List.getElem?_cons_zero]; exact rfl)
  case hQ5 => exact fun _ _ _ h => h
  case hy5 => (refine Or.inl ⟨by rfl, ?_⟩; intro w hSw; (try dsimp only at hSw); go_simp; try with_reducible rfl)
  try simp only [Act.put, List.setIfInBounds_toArray, List.set_cons_zero, List.set_cons_succ]
  refine wpAnyH_take (i := 6) (oi := ?oi6) (v := ?v6) ?h6 (by kernel_rfl) (by kernel_rfl) (by kernel_rfl) ?hQ6 ?hy6 (by assumption) ?_
  case h6 => (simp only [List.getElem?_toArray, List.getElem?_cons_succ, List.getElem?_cons_zero]; exact rfl)
  case hQ6 => exact fun _ _ _ h => h
  case hy6 => (refine Or.inl ⟨by rfl, ?_⟩; intro w hSw; (try dsimp only at hSw); go_simp; try with_reducible rfl)
  try simp only [Act.put, List.setIfInBounds_toArray, List.set_cons_zero, List.set_cons_succ]
  refine wpAnyH_ready (rs := [7]) (by kernel_rfl) (by simp) ?_
  refine AllReadyH.cons (o := ?oi7) ?h7 (fun K hK => ?_) AllReadyH.nil
  case h7 => (simp only [List.getElem?_toArray, List.getElem?_cons_succ, List.getElem?_cons_zero]; exact rfl)
  go_simp
  refine (civil_cmp _ _ _ _ _ _ _).mono ?_; rintro e w' ⟨rfl, hb⟩; have hk := below_keeps hb
  refine hK.out _ _ ?_ (fun hNew => ?_)
  · ((try dsimp only); (((try go_split_ands); (repeat' apply And.intro) <;> (first | (simp [*]; done) | ((repeat (first | with_reducible assumption | with_reducible exact bl_refl _ | with_reducible refine bl_alloc ?_ _ | with_reducible refine bl_set ?_ (by simp) _ | with_reducible refine bl_drew ?_ | with_reducible refine bl_drewN ?_ _ | with_reducible refine bl_trans ?_ (by assumption))); done)))))
  clear hK K hHeld
  revert hNew; intro hHeld
  try simp only [Act.put, List.setIfInBounds_toArray, List.set_cons_zero, List.set_cons_succ]
  refine wpAnyH_take (i := 8) (oi := ?oi8) (v := ?v8) ?h8 (by kernel_rfl) (by kernel_rfl) (by kernel_rfl) ?hQ8 ?hy8 (by assumption) ?_
  case h8 => (simp only [List.getElem?_toArray, List.getElem?_cons_succ, List.getElem?_cons_zero]; exact rfl)
  case hQ8 => exact fun _ _ _ h => h
  case hy8 => (refine Or.inl ⟨by rfl, ?_⟩; intro w hSw; (try dsimp only at hSw); go_simp; try with_reducible rfl)
  try simp only [Act.put, List.setIfInBounds_toArray, List.set_cons_zero, List.set_cons_succ]
  refine wpAnyH_take (i := 9) (oi := ?oi9) (v := ?v9) ?h9 (by kernel_rfl) (by kernel_rfl) (by kernel_rfl) ?hQ9 ?hy9 (by assumption) ?_
  case h9 => (simp only [List.getElem?_toArray, List.getElem?_cons_succ, List.getElem?_cons_zero]; exact rfl)
  case hQ9 => exact fun _ _ _ h => h
  case hy9 => (refine Or.inl ⟨by rfl, ?_⟩; intro w hSw; (try dsimp only at hSw); go_simp; try with_reducible rfl)
  try simp only [Act.put, List.setIfInBounds_toArray, List.set_cons_zero, List.set_cons_succ]
  refine wpAnyH_take (i := 10) (oi := ?oi10) (v := ?v10) ?h10 (by kernel_rfl) (by kernel_rfl) (by kernel_rfl) ?hQ10 ?hy10 (by assumption) ?_
  case h10 => (simp only [List.getElem?_toArray, List.getElem?_cons_succ, List.getElem?_cons_zero]; exact rfl)
  case hQ10 => exact fun _ _ _ h => h
  case hy10 => (refine Or.inl ⟨by rfl, ?_⟩; intro w hSw; (try dsimp only at hSw); go_simp; try with_reducible rfl)
  try simp only [Act.put, List.setIfInBounds_toArray, List.set_cons_zero, List.set_cons_succ]
  refine wpAnyH_take (i := 11) (oi := ?oi11) (v := ?v11) ?h11 (by kernel_rfl) (by kernel_rfl) (by kernel_rfl) ?hQ11 ?hy11 (by assumption) ?_
  case h11 => (simp only [List.getElem?_toArray, List.getElem?_cons_succ, List.getElem?_cons_zero]; exact rfl)
  case hQ11 => exact fun _ _ _ h => h
  case hy11 => (refine Or.inl ⟨by rfl, ?_⟩; intro w hSw; (try dsimp only at hSw); go_simp; try with_reducible rfl)
  try simp only [Act.put, List.setIfInBounds_toArray, List.set_cons_zero, List.set_cons_succ]
  refine wpAnyH_take (i := 12) (oi := ?oi12) (v := ?v12) ?h12 (by kernel_rfl) (by kernel_rfl) (by kernel_rfl) ?hQ12 ?hy12 (by assumption) ?_
  case h12 => (simp only [List.getElem?_toArray, List.getElem?_cons_succ, List.getElem?_cons_zero]; exact rfl)
  case hQ12 => exact fun _ _ _ h => h
  case hy12 => (refine Or.inl ⟨by rfl, ?_⟩; intro w hSw; (try dsimp only at hSw); go_simp; try with_reducible rfl)
  try simp only [Act.put, List.setIfInBounds_toArray, List.set_cons_zero, List.set_cons_succ]
  refine wpAnyH_ready (rs := [13]) (by kernel_rfl) (by simp) ?_
  refine AllReadyH.cons (o := ?oi13) ?h13 (fun K hK => ?_) AllReadyH.nil
  case h13 => (simp only [List.getElem?_toArray, List.getElem?_cons_succ, List.getElem?_cons_zero]; exact rfl)
  go_simp
  refine (civil_cmp _ _ _ _ _ _ _).mono ?_; rintro e w' ⟨rfl, hb⟩; have hk := below_keeps hb
  refine hK.out _ _ ?_ (fun hNew => ?_)
  · ((try dsimp only); (((try go_split_ands); (repeat' apply And.intro) <;> (first | (simp [*]; done) | ((repeat (first | with_reducible assumption | with_reducible exact bl_refl _ | with_reducible refine bl_alloc ?_ _ | with_reducible refine bl_set ?_ (by simp) _ | with_reducible refine bl_drew ?_ | with_reducible refine bl_drewN ?_ _ | with_reducible refine bl_trans ?_ (by assumption))); done)))))
  clear hK K hHeld
  revert hNew; intro hHeld
  try simp only [Act.put, List.setIfInBounds_toArray, List.set_cons_zero, List.set_cons_succ]
  refine wpAnyH_take (i := 14) (oi := ?oi14) (v := ?v14) ?h14 (by kernel_rfl) (by kernel_rfl) (by kernel_rfl) ?hQ14 ?hy14 (by assumption) ?_
  case h14 => (simp only [List.getElem?_toArray, List.getElem?_cons_succ, List.getElem?_cons_zero]; exact rfl)
  case hQ14 => exact fun _ _ _ h => h
  case hy14 => (refine Or.inl ⟨by rfl, ?_⟩; intro w hSw; (try dsimp only at hSw); go_simp; try with_reducible rfl)
  try simp only [Act.put, List.setIfInBounds_toArray, List.set_cons_zero, List.set_cons_succ]
  refine wpAnyH_take (i := 15) (oi := ?oi15) (v := ?v15) ?h15 (by kernel_rfl) (by kernel_rfl) (by kernel_rfl) ?hQ15 ?hy15 (by assumption) ?_
  case h15 => (simp only [List.getElem?_toArray, List.getElem?_cons_succ, List.getElem?_cons_zero]; exact rfl)
  case hQ15 => exact fun _ _ _ h => h
  case hy15 => (refine Or.inl ⟨by rfl, ?_⟩; intro w hSw; (try dsimp only at hSw); go_simp; try with_reducible rfl)
  try simp only [Act.put, List.setIfInBounds_toArray, List.set_cons_zero, List.set_cons_succ]
  refine wpAnyH_take (i := 16) (oi := ?oi16) (v := ?v16) ?h16 (by kernel_rfl) (by kernel_rfl) (by kernel_rfl) ?hQ16 ?hy16 (by assumption) ?_
  case h16 => (simp only [List.getElem?_toArray, List.getElem?_cons_succ, List.getElem?_cons_zero]; exact rfl)
  case hQ16 => exact fun _ _ _ h => h
  case hy16 => (refine Or.inl ⟨by rfl, ?_⟩; intro w hSw; (try dsimp only at hSw); go_simp; try with_reducible rfl)
  try simp only [Act.put, List.setIfInBounds_toArray, List.set_cons_zero, List.set_cons_succ]
  refine wpAnyH_take (i := 17) (oi := ?oi17) (v := ?v17) ?h17 (by kernel_rfl) (by kernel_rfl) (by kernel_rfl) ?hQ17 ?hy17 (by assumption) ?_
  case h17 => (simp only [List.getElem?_toArray, List.getElem?_cons_succ, List.getElem?_cons_zero]; exact rfl)
  case hQ17 => exact fun _ _ _ h => h
  case hy17 => (refine Or.inl ⟨by rfl, ?_⟩; intro w hSw; (try dsimp only at hSw); go_simp; try with_reducible rfl)
  try simp only [Act.put, List.setIfInBounds_toArray, List.set_cons_zero, List.set_cons_succ]
  refine wpAnyH_take (i := 18) (oi := ?oi18) (v := ?v18) ?h18 (by kernel_rfl) (by kernel_rfl) (by kernel_rfl) ?hQ18 ?hy18 (by assumption) ?_
  case h18 => (simp only [List.getElem?_toArray, List.getElem?_cons_succ, List.getElem?_cons_zero]; exact rfl)
  case hQ18 => exact fun _ _ _ h => h
  case hy18 => (refine Or.inl ⟨by rfl, ?_⟩; intro w hSw; (try dsimp only at hSw); go_simp; try with_reducible rfl)
  try simp only [Act.put, List.setIfInBounds_toArray, List.set_cons_zero, List.set_cons_succ]
  refine wpAnyH_ready (rs := [19]) (by kernel_rfl) (by simp) ?_
  refine AllReadyH.cons (o := ?oi19) ?h19 (fun K hK => ?_) AllReadyH.nil
  case h19 => (simp only [List.getElem?_toArray, List.getElem?_cons_succ, List.getElem?_cons_zero]; exact rfl)
  go_simp
  refine (civil_cmp _ _ _ _ _ _ _).mono ?_; rintro e w' ⟨rfl, hb⟩; have hk := below_keeps hb
  refine hK.out _ _ ?_ (fun hNew => ?_)
  · ((try dsimp only); (((try go_split_ands); (repeat' apply And.intro) <;> (first | (simp [*]; done) | ((repeat (first | with_reducible assumption | with_reducible exact bl_refl _ | with_reducible refine bl_alloc ?_ _ | with_reducible refine bl_set ?_ (by simp) _ | with_reducible refine bl_drew ?_ | with_reducible refine bl_drewN ?_ _ | with_reducible refine bl_trans ?_ (by assumption))); done)))))
  clear hK K hHeld
  revert hNew; intro hHeld
  try simp only [Act.put, List.setIfInBounds_toArray, List.set_cons_zero, List.set_cons_succ]
  refine wpAnyH_take (i := 20) (oi := ?oi20) (v := ?v20) ?h20 (by kernel_rfl) (by kernel_rfl) (by kernel_rfl) ?hQ20 ?hy20 (by assumption) ?_
  case h20 => (simp only [List.getElem?_toArray, List.getElem?_cons_succ, List.getElem?_cons_zero]; exact rfl)
  case hQ20 => exact fun _ _ _ h => h
  case hy20 => (refine Or.inl ⟨by rfl, ?_⟩; intro w hSw; (try dsimp only at hSw); go_simp; try with_reducible rfl)
  try simp only [Act.put, List.setIfInBounds_toArray, List.set_cons_zero, List.set_cons_succ]
  refine wpAnyH_take (i := 21) (oi := ?oi21) (v := ?v21) ?h21 (by kernel_rfl) (by kernel_rfl) (by kernel_rfl) ?hQ21 ?hy21 (by assumption) ?_
  case h21 => (simp only [List.getElem?_toArray, List.getElem?_cons_succ, List.getElem?_cons_zero]; exact rfl)
  case hQ21 => exact fun _ _ _ h => h
  case hy21 => (refine Or.inl ⟨by rfl, ?_⟩; intro w hSw; (try dsimp only at hSw); go_simp; try with_reducible rfl)
  try simp only [Act.put, List.setIfInBounds_toArray, List.set_cons_zero, List.set_cons_succ]
  refine wpAnyH_take (i := 22) (oi := ?oi22) (v := ?v22) ?h22 (by kernel_rfl) (by kernel_rfl) (by kernel_rfl) ?hQ22 ?hy22 (by assumption) ?_
  case h22 => (simp only [List.getElem?_toArray, List.getElem?_cons_succ, List.getElem?_cons_zero]; exact rfl)
  case hQ22 => exact fun _ _ _ h => h
  case hy22 => (refine Or.inl ⟨by rfl, ?_⟩; intro w hSw; (try dsimp only at hSw); go_simp; try with_reducible rfl)
  try simp only [Act.put, List.setIfInBounds_toArray, List.set_cons_zero, List.set_cons_succ]
  refine wpAnyH_take (i := 23) (oi := ?oi23) (v := ?v23) ?h23 (by kernel_rfl) (by kernel_rfl) (by kernel_rfl) ?hQ23 ?hy23 (by assumption) ?_
  case h23 => (simp only [List.getElem?_toArray, List.getElem?_cons_succ, List.getElem?_cons_zero]; exact rfl)
  case hQ23 => exact fun _ _ _ h => h
  case hy23 => (refine Or.inl ⟨by rfl, ?_⟩; intro w hSw; (try dsimp only at hSw); go_simp; try with_reducible rfl)
  try simp only [Act.put, List.setIfInBounds_toArray, List.set_cons_zero, List.set_cons_succ]
  refine wpAnyH_take (i := 25) (oi := ?oi25) (v := ?v25) ?h25 (by kernel_rfl) (by kernel_rfl) (by kernel_rfl) ?hQ25 ?hy25 (by assumption) ?_
  case h25 => (simp only [List.getElem?_toArray, List.getElem?_cons_succ, List.getElem?_cons_zero]; exact rfl)
  case hQ25 => exact fun _ _ _ h => h
  case hy25 => (refine Or.inl ⟨by rfl, ?_⟩; intro w hSw; (try dsimp only at hSw); go_simp; try with_reducible rfl)
  try simp only [Act.put, List.setIfInBounds_toArray, List.set_cons_zero, List.set_cons_succ]
  refine wpAnyH_ready (rs := [24]) (by kernel_rfl) (by simp) ?_
  refine AllReadyH.cons (o := ?oi24) ?h24 (fun K hK => ?_) AllReadyH.nil
  case h24 => (simp only [List.getElem?_toArray, List.getElem?_cons_succ, List.getElem?_cons_zero]; exact rfl)
  go_simp
  refine (Y2.out _).mono ?_; rintro e w' ⟨rfl, hb⟩; have hk := below_keeps hb
  refine hK.out _ _ ?_ (fun hNew => ?_)
  · ((try dsimp only); (((try go_split_ands); (repeat' apply And.intro) <;> (first | (simp [*]; done) | ((repeat (first | with_reducible assumption | with_reducible exact bl_refl _ | with_reducible refine bl_alloc ?_ _ | with_reducible refine bl_set ?_ (by simp) _ | with_reducible refine bl_drew ?_ | with_reducible refine bl_drewN ?_ _ | with_reducible refine bl_trans ?_ (by assumption))); done)))))
  clear hK K hHeld
  revert hNew; intro hHeld
  try simp only [Act.put, List.setIfInBounds_toArray, List.set_cons_zero, List.set_cons_succ]
  refine wpAnyH_ready (rs := [26]) (by kernel_rfl) (by simp) ?_
  refine AllReadyH.cons (o := ?oi26) ?h26 (fun K hK => ?_) AllReadyH.nil
  case h26 => (simp only [List.getElem?_toArray, List.getElem?_cons_succ, List.getElem?_cons_zero]; exact rfl)
  go_simp
  refine (Y1.out _).mono ?_; rintro e w' ⟨rfl, hb⟩; have hk := below_keeps hb
  refine hK.out _ _ ?_ (fun hNew => ?_)
  · ((try dsimp only); (((try go_split_ands); (repeat' apply And.intro) <;> (first | (simp [*]; done) | ((repeat (first | with_reducible assumption | with_reducible exact bl_refl _ | with_reducible refine bl_alloc ?_ _ | with_reducible refine bl_set ?_ (by simp) _ | with_reducible refine bl_drew ?_ | with_reducible refine bl_drewN ?_ _ | with_reducible refine bl_trans ?_ (by assumption))); done)))))
  clear hK K hHeld
  revert hNew; intro hHeld
  try simp only [Act.put, List.setIfInBounds_toArray, List.set_cons_zero, List.set_cons_succ]
  refine wpAnyH_take (i := 27) (oi := ?oi27) (v := ?v27) ?h27 (by kernel_rfl) (by kernel_rfl) (by kernel_rfl) ?hQ27 ?hy27 (by assumption) ?_
  case h27 => (simp only [List.getElem?_toArray, List.getElem?_cons_succ, List.getElem?_cons_zero]; exact rfl)
  case hQ27 => exact fun _ _ _ h => h
  case hy27 => (refine Or.inl ⟨by rfl, ?_⟩; intro w hSw; (try dsimp only at hSw); go_simp; try with_reducible rfl)
  try simp only [Act.put, List.setIfInBounds_toArray, List.set_cons_zero, List.set_cons_succ]
  refine wpAnyH_take (i := 28) (oi := ?oi28) (v := ?v28) ?h28 (by kernel_rfl) (by kernel_rfl) (by kernel_rfl) ?hQ28 ?hy28 (by assumption) ?_
  case h28 => (simp only [List.getElem?_toArray, List.getElem?_cons_succ, List.getElem?_cons_zero]; exact rfl)
  case hQ28 => exact fun _ _ _ h => h
  case hy28 => (refine Or.inl ⟨by rfl, ?_⟩; intro w hSw; (try dsimp only at hSw); go_simp; try with_reducible rfl)
  try simp only [Act.put, List.setIfInBounds_toArray, List.set_cons_zero, List.set_cons_succ]
  refine wpAnyH_take (i := 29) (oi := ?oi29) (v := ?v29) ?h29 (by kernel_rfl) (by kernel_rfl) (by kernel_rfl) ?hQ29 ?hy29 (by assumption) ?_
  case h29 => (simp only [List.getElem?_toArray, List.getElem?_cons_succ, List.getElem?_cons_zero]; exact rfl)
  case hQ29 => exact fun _ _ _ h => h
  case hy29 => (refine Or.inl ⟨by rfl, ?_⟩; intro w hSw; (try dsimp only at hSw); go_simp; try with_reducible rfl)
  try simp only [Act.put, List.setIfInBounds_toArray, List.set_cons_zero, List.set_cons_succ]
  refine wpAnyH_take (i := 30) (oi := ?oi30) (v := undef) ?h30 (by kernel_rfl) (by kernel_rfl) (by kernel_rfl) ?hQ30 ?hy30 (by assumption) ?_
  case h30 => (simp only [List.getElem?_toArray, List.getElem?_cons_succ, List.getElem?_cons_zero]; exact rfl)
  case hQ30 => exact fun _ _ _ h => h
  case hy30 => exact Or.inr ⟨by rfl, rfl⟩
  try simp only [Act.put, List.setIfInBounds_toArray, List.set_cons_zero, List.set_cons_succ]
  refine wpAnyH_take (i := 31) (oi := ?oi31) (v := undef) ?h31 (by kernel_rfl) (by kernel_rfl) (by kernel_rfl) ?hQ31 ?hy31 (by assumption) ?_
  case h31 => (simp only [List.getElem?_toArray, List.getElem?_cons_succ, List.getElem?_cons_zero]; exact rfl)
  case hQ31 => exact fun _ _ _ h => h
  case hy31 => exact Or.inr ⟨by rfl, rfl⟩
  try simp only [Act.put, List.setIfInBounds_toArray, List.set_cons_zero, List.set_cons_succ]
  refine wpAnyH_take (i := 32) (oi := ?oi32) (v := undef) ?h32 (by kernel_rfl) (by kernel_rfl) (by kernel_rfl) ?hQ32 ?hy32 (by assumption) ?_
  case h32 => (simp only [List.getElem?_toArray, List.getElem?_cons_succ, List.getElem?_cons_zero]; exact rfl)
  case hQ32 => exact fun _ _ _ h => h
  case hy32 => exact Or.inr ⟨by rfl, rfl⟩
  try simp only [Act.put, List.setIfInBounds_toArray, List.set_cons_zero, List.set_cons_succ]
  refine wpAnyH_take (i := 33) (oi := ?oi33) (v := undef) ?h33 (by kernel_rfl) (by kernel_rfl) (by kernel_rfl) ?hQ33 ?hy33 (by assumption) ?_
  case h33 => (simp only [List.getElem?_toArray, List.getElem?_cons_succ, List.getElem?_cons_zero]; exact rfl)
  case hQ33 => exact fun _ _ _ h => h
  case hy33 => exact Or.inr ⟨by rfl, rfl⟩
  try simp only [Act.put, List.setIfInBounds_toArray, List.set_cons_zero, List.set_cons_succ]
  refine wpAnyH_take (i := 34) (oi := ?oi34) (v := undef) ?h34 (by kernel_rfl) (by kernel_rfl) (by kernel_rfl) ?hQ34 ?hy34 (by assumption) ?_
  case h34 => (simp only [List.getElem?_toArray, List.getElem?_cons_succ, List.getElem?_cons_zero]; exact rfl)
  case hQ34 => exact fun _ _ _ h => h
  case hy34 => exact Or.inr ⟨by rfl, rfl⟩
  try simp only [Act.put, List.setIfInBounds_toArray, List.set_cons_zero, List.set_cons_succ]
  refine wpAnyH_take (i := 35) (oi := ?oi35) (v := undef) ?h35 (by kernel_rfl) (by kernel_rfl) (by kernel_rfl) ?hQ35 ?hy35 (by assumption) ?_
  case h35 => (simp only [List.getElem?_toArray, List.getElem?_cons_succ, List.getElem?_cons_zero]; exact rfl)
  case hQ35 => exact fun _ _ _ h => h
  case hy35 => exact Or.inr ⟨by rfl, rfl⟩
  try simp only [Act.put, List.setIfInBounds_toArray, List.set_cons_zero, List.set_cons_succ]
  refine wpAnyH_take (i := 36) (oi := ?oi36) (v := undef) ?h36 (by kernel_rfl) (by kernel_rfl) (by kernel_rfl) ?hQ36 ?hy36 (by assumption) ?_
  case h36 => (simp only [List.getElem?_toArray, List.getElem?_cons_succ, List.getElem?_cons_zero]; exact rfl)
  case hQ36 => exact fun _ _ _ h => h
  case hy36 => exact Or.inr ⟨by rfl, rfl⟩
  try simp only [Act.put, List.setIfInBounds_toArray, List.set_cons_zero, List.set_cons_succ]
  refine wpAnyH_take (i := 37) (oi := ?oi37) (v := undef) ?h37 (by kernel_rfl) (by kernel_rfl) (by kernel_rfl) ?hQ37 ?hy37 (by assumption) ?_
  case h37 => (simp only [List.getElem?_toArray, List.getElem?_cons_succ, List.getElem?_cons_zero]; exact rfl)
  case hQ37 => exact fun _ _ _ h => h
  case hy37 => exact Or.inr ⟨by rfl, rfl⟩
  try simp only [Act.put, List.setIfInBounds_toArray, List.set_cons_zero, List.set_cons_succ]
  refine wpAnyH_take (i := 38) (oi := ?oi38) (v := undef) ?h38 (by kernel_rfl) (by kernel_rfl) (by kernel_rfl) ?hQ38 ?hy38 (by assumption) ?_
  case h38 => (simp only [List.getElem?_toArray, List.getElem?_cons_succ, List.getElem?_cons_zero]; exact rfl)
  case hQ38 => exact fun _ _ _ h => h
  case hy38 => exact Or.inr ⟨by rfl, rfl⟩
  try simp only [Act.put, List.setIfInBounds_toArray, List.set_cons_zero, List.set_cons_succ]
  refine wpAnyH_take (i := 39) (oi := ?oi39) (v := undef) ?h39 (by kernel_rfl) (by kernel_rfl) (by kernel_rfl) ?hQ39 ?hy39 (by assumption) ?_
  case h39 => (simp only [List.getElem?_toArray, List.getElem?_cons_succ, List.getElem?_cons_zero]; exact rfl)
  case hQ39 => exact fun _ _ _ h => h
  case hy39 => exact Or.inr ⟨by rfl, rfl⟩
  try simp only [Act.put, List.setIfInBounds_toArray, List.set_cons_zero, List.set_cons_succ]
  refine wpAnyH_take (i := 40) (oi := ?oi40) (v := undef) ?h40 (by kernel_rfl) (by kernel_rfl) (by kernel_rfl) ?hQ40 ?hy40 (by assumption) ?_
  case h40 => (simp only [List.getElem?_toArray, List.getElem?_cons_succ, List.getElem?_cons_zero]; exact rfl)
  case hQ40 => exact fun _ _ _ h => h
  case hy40 => exact Or.inr ⟨by rfl, rfl⟩
  try simp only [Act.put, List.setIfInBounds_toArray, List.set_cons_zero, List.set_cons_succ]
  refine wpAnyH_take (i := 41) (oi := ?oi41) (v := ?v41) ?h41 (by kernel_rfl) (by kernel_rfl) (by kernel_rfl) ?hQ41 ?hy41 (by assumption) ?_
  case h41 => (simp only [List.getElem?_toArray, List.getElem?_cons_succ, List.getElem?_cons_zero]; exact rfl)
  case hQ41 => exact fun _ _ _ h => h
  case hy41 => (refine Or.inl ⟨by rfl, ?_⟩; intro w hSw; (try dsimp only at hSw); go_simp; try with_reducible rfl)
  try simp only [Act.put, List.setIfInBounds_toArray, List.set_cons_zero, List.set_cons_succ]
  refine wpAnyH_take (i := 42) (oi := ?oi42) (v := ?v42) ?h42 (by kernel_rfl) (by kernel_rfl) (by kernel_rfl) ?hQ42 ?hy42 (by assumption) ?_
  case h42 => (simp only [List.getElem?_toArray, List.getElem?_cons_succ, List.getElem?_cons_zero]; exact rfl)
  case hQ42 => exact fun _ _ _ h => h
  case hy42 => (refine Or.inl ⟨by rfl, ?_⟩; intro w hSw; (try dsimp only at hSw); go_simp; try with_reducible rfl)
  try simp only [Act.put, List.setIfInBounds_toArray, List.set_cons_zero, List.set_cons_succ]
  refine wpAnyH_take (i := 43) (oi := ?oi43) (v := ?v43) ?h43 (by kernel_rfl) (by kernel_rfl) (by kernel_rfl) ?hQ43 ?hy43 (by assumption) ?_
  case h43 => (simp only [List.getElem?_toArray, List.getElem?_cons_succ, List.getElem?_cons_zero]; exact rfl)
  case hQ43 => exact fun _ _ _ h => h
  case hy43 => (refine Or.inl ⟨by rfl, ?_⟩; intro w hSw; (try dsimp only at hSw); go_simp; try with_reducible rfl)
  try simp only [Act.put, List.setIfInBounds_toArray, List.set_cons_zero, List.set_cons_succ]
  refine wpAnyH_take (i := 44) (oi := ?oi44) (v := ?v44) ?h44 (by kernel_rfl) (by kernel_rfl) (by kernel_rfl) ?hQ44 ?hy44 (by assumption) ?_
  case h44 => (simp only [List.getElem?_toArray, List.getElem?_cons_succ, List.getElem?_cons_zero]; exact rfl)
  case hQ44 => exact fun _ _ _ h => h
  case hy44 => (refine Or.inl ⟨by rfl, ?_⟩; intro w hSw; (try dsimp only at hSw); go_simp; try with_reducible rfl)
  try simp only [Act.put, List.setIfInBounds_toArray, List.set_cons_zero, List.set_cons_succ]
  refine wpAnyH_take (i := 45) (oi := ?oi45) (v := ?v45) ?h45 (by kernel_rfl) (by kernel_rfl) (by kernel_rfl) ?hQ45 ?hy45 (by assumption) ?_
  case h45 => (simp only [List.getElem?_toArray, List.getElem?_cons_succ, List.getElem?_cons_zero]; exact rfl)
  case hQ45 => exact fun _ _ _ h => h
  case hy45 => (refine Or.inl ⟨by rfl, ?_⟩; intro w hSw; (try dsimp only at hSw); go_simp; try with_reducible rfl)
  try simp only [Act.put, List.setIfInBounds_toArray, List.set_cons_zero, List.set_cons_succ]
  refine wpAnyH_take (i := 46) (oi := ?oi46) (v := ?v46) ?h46 (by kernel_rfl) (by kernel_rfl) (by kernel_rfl) ?hQ46 ?hy46 (by assumption) ?_
  case h46 => (simp only [List.getElem?_toArray, List.getElem?_cons_succ, List.getElem?_cons_zero]; exact rfl)
  case hQ46 => exact fun _ _ _ h => h
  case hy46 => (refine Or.inl ⟨by rfl, ?_⟩; intro w hSw; (try dsimp only at hSw); go_simp; try with_reducible rfl)
  try simp only [Act.put, List.setIfInBounds_toArray, List.set_cons_zero, List.set_cons_succ]
  refine wpAnyH_take (i := 48) (oi := ?oi48) (v := ?v48) ?h48 (by kernel_rfl) (by kernel_rfl) (by kernel_rfl) ?hQ48 ?hy48 (by assumption) ?_
  case h48 => (simp only [List.getElem?_toArray, List.getElem?_cons_succ, List.getElem?_cons_zero]; exact rfl)
  case hQ48 => exact fun _ _ _ h => h
  case hy48 => (refine Or.inl ⟨by rfl, ?_⟩; intro w hSw; (try dsimp only at hSw); go_simp; try with_reducible rfl)
  try simp only [Act.put, List.setIfInBounds_toArray, List.set_cons_zero, List.set_cons_succ]
  refine wpAnyH_ready (rs := [47]) (by kernel_rfl) (by simp) ?_
  refine AllReadyH.cons (o := ?oi47) ?h47 (fun K hK => ?_) AllReadyH.nil
  case h47 => (simp only [List.getElem?_toArray, List.getElem?_cons_succ, List.getElem?_cons_zero]; exact rfl)
  go_simp
  refine (K2.out _).mono ?_; rintro e w' ⟨rfl, hb⟩; have hk := below_keeps hb
  refine hK.out _ _ ?_ (fun hNew => ?_)
  · ((try dsimp only); (((try go_split_ands); (repeat' apply And.intro) <;> (first | (simp [*]; done) | ((repeat (first | with_reducible assumption | with_reducible exact bl_refl _ | with_reducible refine bl_alloc ?_ _ | with_reducible refine bl_set ?_ (by simp) _ | with_reducible refine bl_drew ?_ | with_reducible refine bl_drewN ?_ _ | with_reducible refine bl_trans ?_ (by assumption))); done)))))
  clear hK K hHeld
  revert hNew; intro hHeld
  try simp only [Act.put, List.setIfInBounds_toArray, List.set_cons_zero, List.set_cons_succ]
  refine wpAnyH_ready (rs := [49]) (by kernel_rfl) (by simp) ?_
  refine AllReadyH.cons (o := ?oi49) ?h49 (fun K hK => ?_) AllReadyH.nil
  case h49 => (simp only [List.getElem?_toArray, List.getElem?_cons_succ, List.getElem?_cons_zero]; exact rfl)
  go_simp
  refine (K1.out _).mono ?_; rintro e w' ⟨rfl, hb⟩; have hk := below_keeps hb
  refine hK.out _ _ ?_ (fun hNew => ?_)
  · ((try dsimp only); (((try go_split_ands); (repeat' apply And.intro) <;> (first | (simp [*]; done) | ((repeat (first | with_reducible assumption | with_reducible exact bl_refl _ | with_reducible refine bl_alloc ?_ _ | with_reducible refine bl_set ?_ (by simp) _ | with_reducible refine bl_drew ?_ | with_reducible refine bl_drewN ?_ _ | with_reducible refine bl_trans ?_ (by assumption))); done)))))
  clear hK K hHeld
  revert hNew; intro hHeld
  try simp only [Act.put, List.setIfInBounds_toArray, List.set_cons_zero, List.set_cons_succ]
  refine wpAnyH_take (i := 50) (oi := ?oi50) (v := ?v50) ?h50 (by kernel_rfl) (by kernel_rfl) (by kernel_rfl) ?hQ50 ?hy50 (by assumption) ?_
  case h50 => (simp only [List.getElem?_toArray, List.getElem?_cons_succ, List.getElem?_cons_zero]; exact rfl)
  case hQ50 => exact fun _ _ _ h => h
  case hy50 => (refine Or.inl ⟨by rfl, ?_⟩; intro w hSw; (try dsimp only at hSw); go_simp; try with_reducible rfl)
  try simp only [Act.put, List.setIfInBounds_toArray, List.set_cons_zero, List.set_cons_succ]
  refine wpAnyH_take (i := 51) (oi := ?oi51) (v := ?v51) ?h51 (by kernel_rfl) (by kernel_rfl) (by kernel_rfl) ?hQ51 ?hy51 (by assumption) ?_
  case h51 => (simp only [List.getElem?_toArray, List.getElem?_cons_succ, List.getElem?_cons_zero]; exact rfl)
  case hQ51 => exact fun _ _ _ h => h
  case hy51 => (refine Or.inl ⟨by rfl, ?_⟩; intro w hSw; (try dsimp only at hSw); go_simp; try with_reducible rfl)
  try simp only [Act.put, List.setIfInBounds_toArray, List.set_cons_zero, List.set_cons_succ]
  refine wpAnyH_take (i := 52) (oi := ?oi52) (v := ?v52) ?h52 (by kernel_rfl) (by kernel_rfl) (by kernel_rfl) ?hQ52 ?hy52 (by assumption) ?_
  case h52 => (simp only [List.getElem?_toArray, List.getElem?_cons_succ, List.getElem?_cons_zero]; exact rfl)
  case hQ52 => exact fun _ _ _ h => h
  case hy52 => (refine Or.inl ⟨by rfl, ?_⟩; intro w hSw; (try dsimp only at hSw); go_simp; try with_reducible rfl)
  try simp only [Act.put, List.setIfInBounds_toArray, List.set_cons_zero, List.set_cons_succ]
  refine wpAnyH_ready (rs := [53]) (by kernel_rfl) (by simp) ?_
  refine AllReadyH.cons (o := ?oi53) ?h53 (fun K hK => ?_) AllReadyH.nil
  case h53 => (simp only [List.getElem?_toArray, List.getElem?_cons_succ, List.getElem?_cons_zero]; exact rfl)
  go_simp
  skip
  refine hK.out _ _ ?_ (fun hNew => ?_)
  · ((try dsimp only); (((try go_split_ands); (repeat' apply And.intro) <;> (first | (simp [*]; done) | ((repeat (first | with_reducible assumption | with_reducible exact bl_refl _ | with_reducible refine bl_alloc ?_ _ | with_reducible refine bl_set ?_ (by simp) _ | with_reducible refine bl_drew ?_ | with_reducible refine bl_drewN ?_ _ | with_reducible refine bl_trans ?_ (by assumption))); done)))))
  clear hK K hHeld
  revert hNew; intro hHeld
  try simp only [Act.put, List.setIfInBounds_toArray, List.set_cons_zero, List.set_cons_succ]
  refine wpAnyH_done (by kernel_rfl) ?_ _
  go_wp2_with fail
  obtain ⟨_, _, _, _, _, _, hw⟩ := ‹_ ∧ _ ∧ _ ∧ _ ∧ _ ∧ _ ∧ Below w.heap.size w _›
  go_ret
  exact ⟨rfl, hw⟩

set_option maxRecDepth 100000 in
set_option maxHeartbeats 2000000 in
theorem civilNext_s2 (oy om od y m d v u f : Int) (w : World) (h : Civ.may y m d = true) (hn : numB (Civ.num y m d + 1) = true) (hmk : ∀ w, Calls Try.prog 41 #[.int .i64 oy, .int .i64 om, .int .i64 od] w fun e w' =>
      e = .returned (.agg #[.int .i64 y, .int .i64 m, .int .i64 d]) ∧ Below w.heap.size w w')
    (ev : Civ.ofY (Civ.num y m d + 1) = v) (eu : Civ.ofM (Civ.num y m d + 1) = u) (ef : Civ.ofD (Civ.num y m d + 1) = f)
    (yn1 : Civ.yday v u f ≠ Civ.yday y m d + 1) (yn2 : Civ.yday v u f = 1) (yn3 : v = y + 1) (kn1 : Civ.wday y m d % 7 + 1 = 1) (kn2 : Civ.week v u f ≠ Civ.week y m d) :
    Calls Try.prog 11 #[.int .i64 oy, .int .i64 om, .int .i64 od] w fun e w' =>
      e = .returned (.bool true) ∧ Below w.heap.size w w' := by
  have HMK := Lib.hid hmk
  obtain ⟨g, e1⟩ := next_facts y m d hn
  have HO := Lib.hid (civil_of (Civ.num y m d + 1) true hn)
  rw [ev, eu, ef] at g e1 HO
  subst yn3
  have N1 := Lib.hid (civil_number_yes y m d h)
  have W1 := Lib.hid (civil_weekday_yes y m d h)
  have W2 := Lib.hid (civil_weekday_yes (y + 1) u f g)
  rw [wday_next y m d (y + 1) u f e1] at W2
  have Y1 := Lib.hid (civil_yearday_yes y m d h)
  have Y2 := Lib.hid (civil_yearday_yes (y + 1) u f g)
  have K1 := Lib.hid (civil_week_yes y m d h)
  have K2 := Lib.hid (civil_week_yes (y + 1) u f g)
  rw [yn2] at Y2
  have ya : ¬ Civ.yday y m d = 0 := fun hz => yn1 (by rw [yn2, hz]; rfl)
  have HQ := Lib.hid (cmpD_next y m d (y + 1) u f h g e1)
  obtain ⟨wb1, wb2⟩ := wday_bounds y m d
  obtain ⟨yb1, yb2⟩ := yday_bounds y m d h
  obtain ⟨nb1, nb2⟩ := num_inr y m d h
  have yb : -999999999 ≤ y ∧ y ≤ 999999999 := ⟨((may_iff y m d).1 h).1, ((may_iff y m d).1 h).2.1⟩
  obtain ⟨yc1, yc2⟩ := yb
  have WV := Lib.hid (IntWalk.i64_in (Civ.yday y m d + 1) (by omega))
  have WY := Lib.hid (IntWalk.i64_in (y + 1) (by omega))
  clear yn1 yn2
  have kq : (Civ.week (y + 1) u f == Civ.week y m d) = false := beq_eq_false_iff_ne.2 kn2
  have kq2 : (Civ.week (y + 1) u f != Civ.week y m d) = true := bne_iff_ne.2 kn2
  have KQ := Lib.hid (And.intro kq kq2)
  have KD := Lib.hid (show (Civ.wday y m d % 7 + 1 == 1) = true from beq_iff_eq.2 kn1)
  clear kq kq2 kn1 kn2
  clear h g hn hmk ev eu ef e1
  generalize Civ.num y m d = n at *
  generalize Civ.wday y m d = k at *
  generalize Civ.yday y m d = a at *
  generalize Civ.week y m d = p at *
  generalize Civ.week (y + 1) u f = q at *
  go_enter Try.func11, Try.ntmps11
  go_wp2_with fail
  refine (law06_awake _).mono ?_
  rintro e w1 ⟨rfl, hb1⟩
  go_wp2_with fail
  refine (HMK.out _).mono ?_
  rintro e w2 ⟨rfl, hb2⟩
  go_wp2_with fail
  refine (N1.out _).mono ?_
  rintro e w3 ⟨rfl, hb3⟩
  obtain ⟨t0, t1, t2, tf0, tf1, tf2, tl⟩ := keep3 (b := w2.heap.size) (x := .int .i64 y) (y := .int .i64 m) (z := .int .i64 d) hb3 (by simp [*]) (by simp [*]) (by simp [*]) (by simp [*]) (by simp [*]) (by simp [*])
  go_wp2_with fail
  refine (HO.out _).mono ?_
  rw [if_pos trivial]
  rintro e w4 ⟨rfl, hb4⟩
  obtain ⟨t0, t1, t2, tf0, tf1, tf2, tl⟩ := keep3 hb4 t0 t1 t2 tf0 tf1 tf2
  go_wp2_with fail
  refine (W1.out _).mono ?_
  rintro e w5 ⟨rfl, hb5⟩
  have g5 : Below w4.heap.size w4 w5 := by (repeat (first | with_reducible assumption | with_reducible exact bl_refl _ | with_reducible refine bl_alloc ?_ _ | with_reducible refine bl_set ?_ (by simp) _ | with_reducible refine bl_drew ?_ | with_reducible refine bl_drewN ?_ _ | with_reducible refine bl_trans ?_ (by assumption)))
  obtain ⟨t0, t1, t2, tf0, tf1, tf2, tl⟩ := keep3 g5 t0 t1 t2 tf0 tf1 tf2
  obtain ⟨o0, o1, o2, of0, of1, of2, ol⟩ := keep3 (b := w4.heap.size) (x := .int .i64 (y + 1)) (y := .int .i64 u) (z := .int .i64 f) hb5 (by simp [*]) (by simp [*]) (by simp [*]) (by simp [*]) (by simp [*]) (by simp [*])
  have hbW : Below w.heap.size w w5 := by (repeat (first | with_reducible assumption | with_reducible exact bl_refl _ | with_reducible refine bl_alloc ?_ _ | with_reducible refine bl_set ?_ (by simp) _ | with_reducible refine bl_drew ?_ | with_reducible refine bl_drewN ?_ _ | with_reducible refine bl_trans ?_ (by assumption)))
  clear hb1 hb2 hb3 hb4 hb5 g5
  go_upto_region 9 with fail
  have wv := WV.out
  have wy := WY.out
  obtain ⟨q1, q2, q3⟩ := HQ.out
  have kd := KD.out
  obtain ⟨kq, kq2⟩ := KQ.out
  have yf : (1 == a + 1) = false := beq_eq_false_iff_ne.2 (by omega)
  have yg : (0 == a) = false := beq_eq_false_iff_ne.2 (by omega)
  go_region_held3 (fun w' => w'.cell? ⟨w2.heap.size, 0, none⟩ = some (.int .i64 y) ∧ w'.cell? ⟨w2.heap.size, 1, none⟩ = some (.int .i64 m) ∧ w'.cell? ⟨w2.heap.size, 2, none⟩ = some (.int .i64 d) ∧
      w'.cell? ⟨w4.heap.size, 0, none⟩ = some (.int .i64 (y + 1)) ∧ w'.cell? ⟨w4.heap.size, 1, none⟩ = some (.int .i64 u) ∧ w'.cell? ⟨w4.heap.size, 2, none⟩ = some (.int .i64 f) ∧ Below w.heap.size w w')
    (((try go_split_ands); (repeat' apply And.intro) <;> (first | (simp [*]; done) | ((repeat (first | with_reducible assumption | with_reducible exact bl_refl _ | with_reducible refine bl_alloc ?_ _ | with_reducible refine bl_set ?_ (by simp) _ | with_reducible refine bl_drew ?_ | with_reducible refine bl_drewN ?_ _ | with_reducible refine bl_trans ?_ (by assumption))); done))))
    (first
      | (go_at_call 38; refine (W2.out _).mono ?_; rintro e w' ⟨rfl, hb⟩; have hk := below_keeps hb)
      | (go_at_call 48; refine (civil_cmp _ _ _ _ _ _ _).mono ?_; rintro e w' ⟨rfl, hb⟩; have hk := below_keeps hb)
      | (go_at_call_of 39 (Value.agg #[Value.int .i64 y, Value.int .i64 m, Value.int .i64 d]); refine (Y1.out _).mono ?_; rintro e w' ⟨rfl, hb⟩; have hk := below_keeps hb)
      | (go_at_call 39; refine (Y2.out _).mono ?_; rintro e w' ⟨rfl, hb⟩; have hk := below_keeps hb)
      | (go_at_call_of 40 (Value.agg #[Value.int .i64 y, Value.int .i64 m, Value.int .i64 d]); refine (K1.out _).mono ?_; rintro e w' ⟨rfl, hb⟩; have hk := below_keeps hb)
      | (go_at_call 40; refine (K2.out _).mono ?_; rintro e w' ⟨rfl, hb⟩; have hk := below_keeps hb))
  go_wp2_with fail
  obtain ⟨_, _, _, _, _, _, hw⟩ := ‹_ ∧ _ ∧ _ ∧ _ ∧ _ ∧ _ ∧ Below w.heap.size w _›
  go_ret
  exact ⟨rfl, hw⟩

set_option maxRecDepth 100000 in
set_option maxHeartbeats 2000000 in
theorem civilNext_s3 (oy om od y m d v u f : Int) (w : World) (h : Civ.may y m d = true) (hn : numB (Civ.num y m d + 1) = true) (hmk : ∀ w, Calls Try.prog 41 #[.int .i64 oy, .int .i64 om, .int .i64 od] w fun e w' =>
      e = .returned (.agg #[.int .i64 y, .int .i64 m, .int .i64 d]) ∧ Below w.heap.size w w')
    (ev : Civ.ofY (Civ.num y m d + 1) = v) (eu : Civ.ofM (Civ.num y m d + 1) = u) (ef : Civ.ofD (Civ.num y m d + 1) = f)
    (yn1 : Civ.yday v u f ≠ Civ.yday y m d + 1) (yn2 : Civ.yday v u f = 1) (yn3 : v = y + 1) (kn1 : Civ.wday y m d % 7 + 1 ≠ 1) (kn2 : Civ.week v u f = Civ.week y m d) :
    Calls Try.prog 11 #[.int .i64 oy, .int .i64 om, .int .i64 od] w fun e w' =>
      e = .returned (.bool true) ∧ Below w.heap.size w w' := by
  have HMK := Lib.hid hmk
  obtain ⟨g, e1⟩ := next_facts y m d hn
  have HO := Lib.hid (civil_of (Civ.num y m d + 1) true hn)
  rw [ev, eu, ef] at g e1 HO
  subst yn3
  have N1 := Lib.hid (civil_number_yes y m d h)
  have W1 := Lib.hid (civil_weekday_yes y m d h)
  have W2 := Lib.hid (civil_weekday_yes (y + 1) u f g)
  rw [wday_next y m d (y + 1) u f e1] at W2
  have Y1 := Lib.hid (civil_yearday_yes y m d h)
  have Y2 := Lib.hid (civil_yearday_yes (y + 1) u f g)
  have K1 := Lib.hid (civil_week_yes y m d h)
  have K2 := Lib.hid (civil_week_yes (y + 1) u f g)
  rw [yn2] at Y2
  have ya : ¬ Civ.yday y m d = 0 := fun hz => yn1 (by rw [yn2, hz]; rfl)
  rw [kn2] at K2
  have HQ := Lib.hid (cmpD_next y m d (y + 1) u f h g e1)
  obtain ⟨wb1, wb2⟩ := wday_bounds y m d
  obtain ⟨yb1, yb2⟩ := yday_bounds y m d h
  obtain ⟨nb1, nb2⟩ := num_inr y m d h
  have yb : -999999999 ≤ y ∧ y ≤ 999999999 := ⟨((may_iff y m d).1 h).1, ((may_iff y m d).1 h).2.1⟩
  obtain ⟨yc1, yc2⟩ := yb
  have WV := Lib.hid (IntWalk.i64_in (Civ.yday y m d + 1) (by omega))
  have WY := Lib.hid (IntWalk.i64_in (y + 1) (by omega))
  clear yn1 yn2
  have KD := Lib.hid (show (Civ.wday y m d % 7 + 1 == 1) = false from beq_eq_false_iff_ne.2 kn1)
  clear kn1 kn2
  clear h g hn hmk ev eu ef e1
  generalize Civ.num y m d = n at *
  generalize Civ.wday y m d = k at *
  generalize Civ.yday y m d = a at *
  generalize Civ.week y m d = p at *
  go_enter Try.func11, Try.ntmps11
  go_wp2_with fail
  refine (law06_awake _).mono ?_
  rintro e w1 ⟨rfl, hb1⟩
  go_wp2_with fail
  refine (HMK.out _).mono ?_
  rintro e w2 ⟨rfl, hb2⟩
  go_wp2_with fail
  refine (N1.out _).mono ?_
  rintro e w3 ⟨rfl, hb3⟩
  obtain ⟨t0, t1, t2, tf0, tf1, tf2, tl⟩ := keep3 (b := w2.heap.size) (x := .int .i64 y) (y := .int .i64 m) (z := .int .i64 d) hb3 (by simp [*]) (by simp [*]) (by simp [*]) (by simp [*]) (by simp [*]) (by simp [*])
  go_wp2_with fail
  refine (HO.out _).mono ?_
  rw [if_pos trivial]
  rintro e w4 ⟨rfl, hb4⟩
  obtain ⟨t0, t1, t2, tf0, tf1, tf2, tl⟩ := keep3 hb4 t0 t1 t2 tf0 tf1 tf2
  go_wp2_with fail
  refine (W1.out _).mono ?_
  rintro e w5 ⟨rfl, hb5⟩
  have g5 : Below w4.heap.size w4 w5 := by (repeat (first | with_reducible assumption | with_reducible exact bl_refl _ | with_reducible refine bl_alloc ?_ _ | with_reducible refine bl_set ?_ (by simp) _ | with_reducible refine bl_drew ?_ | with_reducible refine bl_drewN ?_ _ | with_reducible refine bl_trans ?_ (by assumption)))
  obtain ⟨t0, t1, t2, tf0, tf1, tf2, tl⟩ := keep3 g5 t0 t1 t2 tf0 tf1 tf2
  obtain ⟨o0, o1, o2, of0, of1, of2, ol⟩ := keep3 (b := w4.heap.size) (x := .int .i64 (y + 1)) (y := .int .i64 u) (z := .int .i64 f) hb5 (by simp [*]) (by simp [*]) (by simp [*]) (by simp [*]) (by simp [*]) (by simp [*])
  have hbW : Below w.heap.size w w5 := by (repeat (first | with_reducible assumption | with_reducible exact bl_refl _ | with_reducible refine bl_alloc ?_ _ | with_reducible refine bl_set ?_ (by simp) _ | with_reducible refine bl_drew ?_ | with_reducible refine bl_drewN ?_ _ | with_reducible refine bl_trans ?_ (by assumption)))
  clear hb1 hb2 hb3 hb4 hb5 g5
  go_upto_region 9 with fail
  have wv := WV.out
  have wy := WY.out
  obtain ⟨q1, q2, q3⟩ := HQ.out
  have kd := KD.out
  have yf : (1 == a + 1) = false := beq_eq_false_iff_ne.2 (by omega)
  have yg : (0 == a) = false := beq_eq_false_iff_ne.2 (by omega)
  go_region_held3 (fun w' => w'.cell? ⟨w2.heap.size, 0, none⟩ = some (.int .i64 y) ∧ w'.cell? ⟨w2.heap.size, 1, none⟩ = some (.int .i64 m) ∧ w'.cell? ⟨w2.heap.size, 2, none⟩ = some (.int .i64 d) ∧
      w'.cell? ⟨w4.heap.size, 0, none⟩ = some (.int .i64 (y + 1)) ∧ w'.cell? ⟨w4.heap.size, 1, none⟩ = some (.int .i64 u) ∧ w'.cell? ⟨w4.heap.size, 2, none⟩ = some (.int .i64 f) ∧ Below w.heap.size w w')
    (((try go_split_ands); (repeat' apply And.intro) <;> (first | (simp [*]; done) | ((repeat (first | with_reducible assumption | with_reducible exact bl_refl _ | with_reducible refine bl_alloc ?_ _ | with_reducible refine bl_set ?_ (by simp) _ | with_reducible refine bl_drew ?_ | with_reducible refine bl_drewN ?_ _ | with_reducible refine bl_trans ?_ (by assumption))); done))))
    (first
      | (go_at_call 38; refine (W2.out _).mono ?_; rintro e w' ⟨rfl, hb⟩; have hk := below_keeps hb)
      | (go_at_call 48; refine (civil_cmp _ _ _ _ _ _ _).mono ?_; rintro e w' ⟨rfl, hb⟩; have hk := below_keeps hb)
      | (go_at_call_of 39 (Value.agg #[Value.int .i64 y, Value.int .i64 m, Value.int .i64 d]); refine (Y1.out _).mono ?_; rintro e w' ⟨rfl, hb⟩; have hk := below_keeps hb)
      | (go_at_call 39; refine (Y2.out _).mono ?_; rintro e w' ⟨rfl, hb⟩; have hk := below_keeps hb)
      | (go_at_call_of 40 (Value.agg #[Value.int .i64 y, Value.int .i64 m, Value.int .i64 d]); refine (K1.out _).mono ?_; rintro e w' ⟨rfl, hb⟩; have hk := below_keeps hb)
      | (go_at_call 40; refine (K2.out _).mono ?_; rintro e w' ⟨rfl, hb⟩; have hk := below_keeps hb))
  go_wp2_with fail
  obtain ⟨_, _, _, _, _, _, hw⟩ := ‹_ ∧ _ ∧ _ ∧ _ ∧ _ ∧ _ ∧ Below w.heap.size w _›
  go_ret
  exact ⟨rfl, hw⟩

theorem civilNext_some (oy om od y m d v u f : Int) (w : World) (h : Civ.may y m d = true) (hn : numB (Civ.num y m d + 1) = true) (hmk : ∀ w, Calls Try.prog 41 #[.int .i64 oy, .int .i64 om, .int .i64 od] w fun e w' =>
      e = .returned (.agg #[.int .i64 y, .int .i64 m, .int .i64 d]) ∧ Below w.heap.size w w')
    (ev : Civ.ofY (Civ.num y m d + 1) = v) (eu : Civ.ofM (Civ.num y m d + 1) = u) (ef : Civ.ofD (Civ.num y m d + 1) = f) :
    Calls Try.prog 11 #[.int .i64 oy, .int .i64 om, .int .i64 od] w fun e w' =>
      e = .returned (.bool true) ∧ Below w.heap.size w w' := by
  obtain ⟨g, e1⟩ := next_facts y m d hn
  rw [ev, eu, ef] at g e1
  rcases yday_next y m d v u f h g e1 with yn | ⟨yn1, yn2, yn3⟩
  all_goals rcases week_next y m d v u f e1 with ⟨kn1, kn2⟩ | ⟨kn1, kn2⟩
  · exact civilNext_s0 oy om od y m d v u f w h hn hmk ev eu ef yn kn1 kn2
  · exact civilNext_s1 oy om od y m d v u f w h hn hmk ev eu ef yn kn1 kn2
  · exact civilNext_s2 oy om od y m d v u f w h hn hmk ev eu ef yn1 yn2 yn3 kn1 kn2
  · exact civilNext_s3 oy om od y m d v u f w h hn hmk ev eu ef yn1 yn2 yn3 kn1 kn2

theorem civilNext_walk (y m d : Int) (w : World) (_n0 : -9223372036854775808 ≤ y ∧ y ≤ 9223372036854775807) (_n1 : -9223372036854775808 ≤ m ∧ m ≤ 9223372036854775807) (_n2 : -9223372036854775808 ≤ d ∧ d ≤ 9223372036854775807) :
    Calls Try.prog 11 #[.int .i64 y, .int .i64 m, .int .i64 d] w fun e w' =>
      e = .returned (.bool true) ∧ Below w.heap.size w w' := by
  cases hn : numB (Civ.num (mkY y) (mkM m) (mkD y m d) + 1)
  · exact civilNext_none y m d (mkY y) (mkM m) (mkD y m d) w (mk_may y m d) hn (law06_make y m d)
  · exact civilNext_some y m d (mkY y) (mkM m) (mkD y m d) _ _ _ w (mk_may y m d) hn (law06_make y m d) rfl rfl rfl

set_option maxRecDepth 100000 in
theorem civilNext_lifted (os : Os) (started : os.Started) (H : Type) (enc : TypeId × Value → H) :
    ReturnsInHanded {} Try.checked os 11 .any (Rows.civilNextSpec.pre6 enc Try.prog Try.f11 Rows.civilNextRow.domain false) (Rows.civilNextSpec.post enc Try.prog Try.f11 false true false false) := by
  refine returnsInHanded_of_change (C := Try.checked) Try.own started (by kernel_rfl) Try.func11
    (ChangeSpec.witness6 (enc := enc) (C := Try.checked) false ⟨#[], #[.int .i64 0, .int .i64 0, .int .i64 0], []⟩ 8 (by kernel_rfl) (by kernel_rfl) (by kernel_rfl) (by kernel_rfl)) ?_
  intro W base args ds gs before hval0 hW hcnd _
  have hval : ∀ (j : Nat) t v, Try.f11.params[j]? = some t → args[j]? = some v → Value.okWide Try.prog W .any base t v := hval0
  have hW' := hW
  obtain ⟨p, q, hA0, hV, rfl, hfz, hnd⟩ := hW
  have hA : DataW.TrodAll enc Try.prog W 0 (fun _ => true) true Try.f11.params.toList args.toList ds p := hA0
  rw [Try.params11] at hA hval
  obtain ⟨v0, vs0, d0, ds0, p0, q0, hargs, rfl, rfl, h0, r0⟩ := trodAll_cons hA
  obtain ⟨v1, vs1, d1, ds1, p1, q1, rfl, rfl, rfl, h1, r1⟩ := trodAll_cons r0
  obtain ⟨v2, vs2, d2, ds2, p2, q2, rfl, rfl, rfl, h2, r2⟩ := trodAll_cons r1
  obtain ⟨rfl, rfl, rfl⟩ := trodAll_nil r2
  obtain rfl : args = #[v0, v1, v2] := by cases args; simp_all
  obtain ⟨rfl, rfl⟩ := trodVars_none hV
  obtain ⟨a0, rfl, rfl, rfl, a0w⟩ := open_int Try.underlying3 (hval 0 3 v0 rfl rfl) h0
  obtain ⟨a1, rfl, rfl, rfl, a1w⟩ := open_int Try.underlying3 (hval 1 3 v1 rfl rfl) h1
  obtain ⟨a2, rfl, rfl, rfl, a2w⟩ := open_int Try.underlying3 (hval 2 3 v2 rfl rfl) h2
  clear hA0 hval0
  refine (civilNext_walk a0 a1 a2 W (bounds_i64 a0w) (bounds_i64 a1w) (bounds_i64 a2w)).mono fun e W' ⟨he, hg⟩ => ?_
  subst he
  exact ⟨_, rfl, law_post Try.laidOut (by kernel_rfl) rfl rfl Try.underlying4 hW' rfl hg⟩

theorem civilNext_holds : Rows.CivilNextSaid :=
  OpenClaim.holds_of_wide 11 Try.f11 rfl rfl rfl rfl rfl rfl rfl ⟨rfl, rfl, rfl, rfl, rfl⟩ rfl rfl rfl rfl rfl (by kernel_rfl) Try.func11 (by kernel_rfl)
    (of_decide_eq_true (by kernel_rfl)) (by unfold Func.isWrapper; first | (rw [if_pos (by decide +kernel)]; kernel_rfl) | (rw [if_neg (by decide +kernel)]; exact ⟨rfl, rfl⟩))
    (fun os started H enc _ => civilNext_lifted os started H enc)

#print axioms civilNext_holds

end Go.Proofs.Ytfoblnepbncieaa
