/-
  The contract of civil.Week.
-/
import Derived.Test.YtfoblnepbncieaaCivilR
namespace Go.Proofs.Ytfoblnepbncieaa
open Go.ChangeShapes Go.WideShapes Go.ChangeAt Go.RowKit

theorem below_keeps {w w' : World} (hb : Below w.heap.size w w') : ∀ b o v, w.cell? ⟨b, o, none⟩ = some v → w'.cell? ⟨b, o, none⟩ = some v :=
  fun b o _ h => (hb.cell (p := ⟨b, o, none⟩) (lt_of_cell h)).trans h

theorem keepc3 {W w1 : World} {b : Nat} {x y z : Value} (hb : Below W.heap.size W w1)
    (h0 : W.cell? ⟨b, 0, none⟩ = some x) (h1 : W.cell? ⟨b, 1, none⟩ = some y) (h2 : W.cell? ⟨b, 2, none⟩ = some z) :
    w1.cell? ⟨b, 0, none⟩ = some x ∧ w1.cell? ⟨b, 1, none⟩ = some y ∧ w1.cell? ⟨b, 2, none⟩ = some z ∧ b < w1.heap.size :=
  ⟨below_keeps hb _ _ _ h0, below_keeps hb _ _ _ h1, below_keeps hb _ _ _ h2, lt_of_cell (below_keeps hb _ _ _ h0)⟩

theorem civil_week_no (y m d : Int) (h : Civ.may y m d = false) (w : World) :
    Calls Try.prog 40 #[.agg #[.int .i64 y, .int .i64 m, .int .i64 d]] w fun e w' => e = .returned (.int .i64 0) ∧ Below w.heap.size w w' := by
  have H := Lib.hid h
  clear h
  go_enter Try.func40, Try.ntmps40
  go_wp2_with fail
  refine (civil_may_is y m d _ H.out _).mono ?_
  rintro e w1 ⟨rfl, hb⟩
  go_wp2_with fail
  go_ret
  refine ⟨rfl, ?_⟩
  (repeat (first | with_reducible assumption | with_reducible exact bl_refl _ | with_reducible refine bl_alloc ?_ _ | with_reducible refine bl_set ?_ (by simp) _ | with_reducible refine bl_drew ?_ | with_reducible refine bl_drewN ?_ _ | with_reducible refine bl_trans ?_ (by assumption)))

theorem yday_bounds (y m d : Int) (h : Civ.may y m d = true) : 1 ≤ Civ.yday y m d ∧ Civ.yday y m d ≤ 397 := by
  obtain ⟨y1, y2, d1, d2⟩ := (may_iff y m d).1 h
  obtain ⟨m1, m2, _⟩ := Civ.num_bounds y m d d1 d2
  have := Civ.len_pos y m m1 m2
  have := cum_bound y m m1 (by omega)
  unfold Civ.yday
  omega

theorem weeks_low (x : Int) (h : x = Civ.weeks (-999999999 - 1)) : Civ.weeks (-999999600) = x := by
  have e := Civ.weeks_back (-999999999)
  rw [show (-999999999 : Int) + 399 = -999999600 from by omega] at e
  rw [e, h]

theorem week_val (a b : Int) (a1 : 1 ≤ a) (a2 : a ≤ 397) (b1 : 1 ≤ b) (b2 : b ≤ 7) :
    IntKind.i64.wrap ((IntKind.i64.wrap (IntKind.i64.wrap (a - b) + 10)).tdiv 7) = (a - b + 10) / 7 := by
  rw [IntWalk.i64_in (a - b) (by omega), IntWalk.i64_in (a - b + 10) (by omega), Int.tdiv_eq_ediv_of_nonneg (by omega), IntWalk.i64_in _ (by omega)]

set_option maxHeartbeats 1000000 in
theorem civil_week_yes (y m d : Int) (h : Civ.may y m d = true) (w : World) :
    Calls Try.prog 40 #[.agg #[.int .i64 y, .int .i64 m, .int .i64 d]] w fun e w' => e = .returned (.int .i64 (Civ.week y m d)) ∧ Below w.heap.size w w' := by
  obtain ⟨y1, y2, d1, d2⟩ := (may_iff y m d).1 h
  have H := Lib.hid h
  have HA := Lib.hid (civil_yearday_yes y m d h)
  have HB := Lib.hid (civil_weekday_yes y m d h)
  have ab := yday_bounds y m d h
  have bb := wday_bounds y m d
  obtain ⟨wc1, wc2, we⟩ := Civ.week_eq y m d d1 d2
  have WE := Lib.hid we
  have hce : (Civ.yday y m d - Civ.wday y m d + 10) / 7 = Civ.codeWeek y m d := rfl
  clear h d2 we
  generalize Civ.codeWeek y m d = c at *
  generalize Civ.yday y m d = a at *
  generalize Civ.wday y m d = b at *
  have HC := Lib.hid hce
  clear hce
  obtain ⟨a1, a2⟩ := ab
  obtain ⟨b1, b2⟩ := bb
  go_enter Try.func40, Try.ntmps40
  go_wp2_with fail
  refine (civil_may_is y m d _ H.out _).mono ?_
  rintro e w1 ⟨rfl, hb⟩
  obtain ⟨t0, t1, t2, tf0, tf1, tf2, tl⟩ := keep3 (b := w.heap.size) (x := .int .i64 y) (y := .int .i64 m) (z := .int .i64 d) hb (by simp [*]) (by simp [*]) (by simp [*]) (by simp [*]) (by simp [*]) (by simp [*])
  have hbW : Below w.heap.size w w1 := by (repeat (first | with_reducible assumption | with_reducible exact bl_refl _ | with_reducible refine bl_alloc ?_ _ | with_reducible refine bl_set ?_ (by simp) _ | with_reducible refine bl_drew ?_ | with_reducible refine bl_drewN ?_ _ | with_reducible refine bl_trans ?_ (by assumption)))
  clear hb
  go_upto_region 3 with fail
  go_cut [3] (fun s3 wx => s3 = .int .i64 c ∧ Below w1.heap.size w1 wx)
  case first =>
    go_region_held3 (fun w' => w'.cell? ⟨w.heap.size, 0, none⟩ = some (.int .i64 y) ∧ w'.cell? ⟨w.heap.size, 1, none⟩ = some (.int .i64 m) ∧ w'.cell? ⟨w.heap.size, 2, none⟩ = some (.int .i64 d) ∧ Below w1.heap.size w1 w')
      (((try go_split_ands); (repeat' apply And.intro) <;> (first | (simp [*]; done) | ((repeat (first | with_reducible assumption | with_reducible exact bl_refl _ | with_reducible refine bl_alloc ?_ _ | with_reducible refine bl_set ?_ (by simp) _ | with_reducible refine bl_drew ?_ | with_reducible refine bl_drewN ?_ _ | with_reducible refine bl_trans ?_ (by assumption))); done))))
      (first
        | (go_at_call 39; refine (HA.out _).mono ?_; rintro e w' ⟨rfl, hb⟩; have hk := below_keeps hb)
        | (go_at_call 38; refine (HB.out _).mono ?_; rintro e w' ⟨rfl, hb⟩; have hk := below_keeps hb))
    go_wp2_with fail
    go_meet
    (try go_split_ands)
    refine ⟨congrArg (Value.int .i64) ((week_val a b a1 a2 b1 b2).trans HC.out), ?_⟩
    (repeat (first | with_reducible assumption | with_reducible exact bl_refl _ | with_reducible refine bl_alloc ?_ _ | with_reducible refine bl_set ?_ (by simp) _ | with_reducible refine bl_drew ?_ | with_reducible refine bl_drewN ?_ _ | with_reducible refine bl_trans ?_ (by assumption)))
  case rest =>
    obtain ⟨rfl, hb2⟩ := hcut
    rename_i w2
    obtain ⟨t0, t1, t2, tf0, tf1, tf2, tl⟩ := keep3 hb2 t0 t1 t2 tf0 tf1 tf2
    have fin := WE.out
    by_cases c1 : c < 1
    · rw [if_pos c1] at fin
      have F := Lib.hid fin
      clear fin
      by_cases c2 : y = -999999999
      · subst c2
        go_wp2_with fail
        refine (civil_weeks (-999999600) (by omega) (by omega) _).mono ?_
        rintro e w3 ⟨rfl, hb3⟩
        go_wp2_with fail
        go_ret
        refine ⟨ret_int ?_, ?_⟩
        · exact weeks_low _ F.out
        · (repeat (first | with_reducible assumption | with_reducible exact bl_refl _ | with_reducible refine bl_alloc ?_ _ | with_reducible refine bl_set ?_ (by simp) _ | with_reducible refine bl_drew ?_ | with_reducible refine bl_drewN ?_ _ | with_reducible refine bl_trans ?_ (by assumption)))
      · have c3 : (y == -999999999) = false := by simpa using c2
        go_wp2_with fail
        refine (civil_weeks (y - 1) (by omega) (by omega) _).mono ?_
        rintro e w3 ⟨rfl, hb3⟩
        go_wp2_with fail
        go_ret
        refine ⟨ret_int ?_, ?_⟩
        · rw [F.out]
        · (repeat (first | with_reducible assumption | with_reducible exact bl_refl _ | with_reducible refine bl_alloc ?_ _ | with_reducible refine bl_set ?_ (by simp) _ | with_reducible refine bl_drew ?_ | with_reducible refine bl_drewN ?_ _ | with_reducible refine bl_trans ?_ (by assumption)))
    · rw [if_neg c1] at fin
      have F := Lib.hid fin
      clear fin
      have c3 : 1 ≤ c := by omega
      clear c1
      go_wp2_with fail
      refine (civil_weeks y (by omega) (by omega) _).mono ?_
      rintro e w3 ⟨rfl, hb3⟩
      by_cases c4 : Civ.weeks y < c
      all_goals
        go_wp2_with fail
        go_ret
        refine ⟨ret_int ?_, ?_⟩
      · rw [F.out, if_pos c4]
      · (repeat (first | with_reducible assumption | with_reducible exact bl_refl _ | with_reducible refine bl_alloc ?_ _ | with_reducible refine bl_set ?_ (by simp) _ | with_reducible refine bl_drew ?_ | with_reducible refine bl_drewN ?_ _ | with_reducible refine bl_trans ?_ (by assumption)))
      · rw [F.out, if_neg (by omega)]
      · (repeat (first | with_reducible assumption | with_reducible exact bl_refl _ | with_reducible refine bl_alloc ?_ _ | with_reducible refine bl_set ?_ (by simp) _ | with_reducible refine bl_drew ?_ | with_reducible refine bl_drewN ?_ _ | with_reducible refine bl_trans ?_ (by assumption)))

end Go.Proofs.Ytfoblnepbncieaa
