/-
  The contracts of the reference's way from a number to its day, and of its weeks.
-/
import Derived.Test.YtfoblnepbncieaaCivilR
namespace Go.Proofs.Ytfoblnepbncieaa
open Go.ChangeShapes Go.WideShapes Go.ChangeAt Go.RowKit

theorem floor2 (a b : Int) (h : 1 < b - a) : a < (a + b) / 2 ∧ (a + b) / 2 < b := by omega

theorem of_found (n lo k left : Int) (hl : left = n + 719162 - Civ.yr lo - Civ.cum lo k) (l1 : 0 ≤ left) (l2 : left < Civ.len lo k) :
    Civ.ofY n = lo ∧ Civ.ofM n = k ∧ Civ.ofD n = left + 1 := by
  have e : Civ.num lo k (left + 1) = n := by unfold Civ.num; omega
  have := Civ.of_num lo k (left + 1) (by omega) (by omega)
  rwa [e] at this

set_option maxHeartbeats 1000000 in
theorem ref_of (n : Int) (h1 : Civ.yr (-1000000001) ≤ n + 719162) (h2 : n + 719162 < Civ.yr 1000000001) (w : World) :
    Calls Try.prog 62 #[.int .i64 n] w fun e w' => e = .returned (.tuple #[.int .i64 (Civ.ofY n), .int .i64 (Civ.ofM n), .int .i64 (Civ.ofD n)]) ∧ w = w' := by
  have nb : -500000000000 ≤ n + 719162 ∧ n + 719162 ≤ 500000000000 := by
    have := yr_bound (-1000000001) (by omega) (by omega)
    have := yr_bound 1000000001 (by omega) (by omega)
    omega
  obtain ⟨nb1, nb2⟩ := nb
  have H1 := Lib.hid h1
  have H2 := Lib.hid h2
  clear h1 h2
  go_enter Try.func62, Try.ntmps62
  go_wp2_with fail
  refine (ref_year_1970 _).mono ?_
  rintro e w' ⟨rfl, rfl⟩
  go_wp2_with fail
  go_loop [5, 6] (fun a b => ∃ lo hi : Int, a = .int .i64 lo ∧ b = .int .i64 hi ∧ -1000000001 ≤ lo ∧ lo < hi ∧ hi ≤ 1000000001 ∧ Hid (Civ.yr lo ≤ n + 719162) ∧ Hid (n + 719162 < Civ.yr hi)) (fun a b => (intOf b - intOf a).toNat)
  case atStart => exact ⟨_, _, rfl, rfl, by omega, by omega, by omega, H1, H2⟩
  case round =>
    obtain ⟨lo, hi, rfl, rfl, b1, b2, b3, b4, b5⟩ := hrel
    by_cases hc : 1 < hi - lo
    · obtain ⟨f1, f2⟩ := floor2 lo hi hc
      go_wp2_with fail
      refine (ref_floor (lo + hi) 2 _ (by omega) (by omega) (by omega) (by omega)).mono ?_
      rintro e w' ⟨rfl, rfl⟩
      generalize (lo + hi) / 2 = mid at f1 f2 ⊢
      go_wp2_with fail
      refine (ref_year mid (by omega) (by omega) _).mono ?_
      rintro e w' ⟨rfl, rfl⟩
      by_cases ht : Civ.yr mid ≤ n + 719162
      · go_wp2_with fail
        go_round
        case rel => exact ⟨mid, hi, rfl, rfl, by omega, by omega, by omega, ht, b5⟩
        case measure => simp [intOf]; omega
      · go_wp2_with fail
        go_round
        case rel => exact ⟨lo, mid, rfl, rfl, by omega, by omega, by omega, b4, by show _ < _; omega⟩
        case measure => simp [intOf]; omega
    · have e : hi = lo + 1 := by omega
      have hy2 : n + 719162 < Civ.yr lo + 365 + Civ.lp lo := by rw [← Civ.yr_succ, ← e]; exact b5.out
      have hy1 := b4.out
      have lpb := Civ.lp_01 lo
      have yb := yr_bound lo (by omega) (by omega)
      obtain ⟨yb1, yb2⟩ := yb
      have Y1 := Lib.hid hy1
      have Y2 := Lib.hid hy2
      clear b4 b5 e hy2 lpb
      go_wp2_with fail
      refine (ref_year lo (by omega) (by omega) _).mono ?_
      rintro e w' ⟨rfl, rfl⟩
      go_wp2_with fail
      go_loop [9, 10] (fun a b => ∃ k : Int, 1 ≤ k ∧ k ≤ 12 ∧ b = .int .i64 k ∧ 0 ≤ n + 719162 - Civ.yr lo - Civ.cum lo k ∧ a = .int .i64 (n + 719162 - Civ.yr lo - Civ.cum lo k)) (fun _ b => (12 - intOf b).toNat)
      case atStart => exact ⟨1, by omega, by omega, rfl, by rw [Civ.cum_one]; have := Y1.out; omega, by rw [Civ.cum_one]; simp⟩
      case round =>
        obtain ⟨k, k1, k2, rfl, k3, rfl⟩ := hrel
        have CS := Lib.hid (Civ.cum_succ lo k k1 k2)
        have cb := cum_bound lo k (by omega) (by omega)
        have lb := Civ.len_pos lo k k1 k2
        obtain ⟨cb1, cb2⟩ := cb
        obtain ⟨lb1, lb2⟩ := lb
        by_cases hd : k < 12 ∧ Civ.len lo k ≤ n + 719162 - Civ.yr lo - Civ.cum lo k
        · obtain ⟨hd1, hd2⟩ := hd
          go_wp2_with (go_at_call 34; refine (ref_length _ _ _).mono ?_; rintro e w' ⟨rfl, rfl⟩)
          go_round
          case rel => exact ⟨k + 1, by omega, by omega, rfl, by rw [CS.out]; omega, by rw [CS.out]; go_num⟩
          case measure => simp [intOf]; omega
        · have hv : n + 719162 - Civ.yr lo - Civ.cum lo k < Civ.len lo k := by
            by_cases e : k = 12
            · subst e
              have a := CS.out
              have b := Y2.out
              have c : Civ.cum lo (12 + 1) = 365 + Civ.lp lo := Civ.cum_13 lo
              omega
            · omega
          have fin := of_found n lo k _ rfl k3 hv
          have FIN := Lib.hid fin
          clear fin
          by_cases hm : k < 12
          all_goals
            clear hd
            go_wp2_with (go_at_call 34; refine (ref_length _ _ _).mono ?_; rintro e w' ⟨rfl, rfl⟩)
            go_ret3
            obtain ⟨g1, g2, g3⟩ := FIN.out
            refine ⟨?_, rfl⟩
            rw [g1, g2, g3]
            rfl

theorem thu_bound (y m d : Int) (h : Civ.may y m d = true) : Civ.yr (-1000000001) ≤ Civ.thu y m d + 719162 ∧ Civ.thu y m d + 719162 < Civ.yr 1000000001 ∧ -700000000000 ≤ Civ.thu y m d ∧ Civ.thu y m d ≤ 700000000000 := by
  obtain ⟨y1, y2, d1, d2⟩ := (may_iff y m d).1 h
  obtain ⟨m1, m2, a, b, _⟩ := Civ.num_bounds y m d d1 d2
  have c := wday_bounds y m d
  have e := Civ.yr_lt (-1000000001) y (by omega)
  have f := Civ.yr_lt (y + 1) 1000000001 (by omega)
  have lb := Civ.len_pos y m m1 m2
  have g := num_bound y m d (by omega) (by omega) m1 m2 d1 (by omega)
  unfold Civ.thu
  omega

theorem ref_week (y m d : Int) (h : Civ.may y m d = true) (w : World) :
    Calls Try.prog 45 #[.int .i64 y, .int .i64 m, .int .i64 d] w fun e w' => e = .returned (.int .i64 (Civ.week y m d)) ∧ w = w' := by
  obtain ⟨y1, y2, d1, d2⟩ := (may_iff y m d).1 h
  obtain ⟨m1, m2, _⟩ := Civ.num_bounds y m d d1 d2
  have lb := Civ.len_pos y m m1 m2
  obtain ⟨b1, b2⟩ := num_bound y m d (by omega) (by omega) m1 m2 d1 (by omega)
  obtain ⟨w1, w2⟩ := wday_bounds y m d
  obtain ⟨t1, t2, t3, t4⟩ := thu_bound y m d h
  have HA := Lib.hid (ref_number y m d (by omega) (by omega) m1 m2 d1 (by omega))
  have HB := Lib.hid (ref_weekday y m d (by omega) (by omega) m1 m2 d1 (by omega))
  have HO := Lib.hid (ref_of (Civ.thu y m d) t1 t2)
  obtain ⟨s1, s2, s3, s4, s5⟩ := Civ.of_spec (Civ.thu y m d)
  have sl := Civ.len_pos (Civ.ofY (Civ.thu y m d)) (Civ.ofM (Civ.thu y m d)) s1 s2
  have HD := Lib.hid (ref_yearday (Civ.ofY (Civ.thu y m d)) (Civ.ofM (Civ.thu y m d)) (Civ.ofD (Civ.thu y m d)) s1 s2 s3 (by omega))
  obtain ⟨u1, u2⟩ := yday_bd (Civ.ofY (Civ.thu y m d)) (Civ.ofM (Civ.thu y m d)) (Civ.ofD (Civ.thu y m d)) s1 s2 s3 (by omega)
  have HW := Lib.hid (show Civ.week y m d = (Civ.yday (Civ.ofY (Civ.thu y m d)) (Civ.ofM (Civ.thu y m d)) (Civ.ofD (Civ.thu y m d)) - 1) / 7 + 1 from rfl)
  have HT := Lib.hid (show Civ.num y m d + 4 - Civ.wday y m d = Civ.thu y m d from rfl)
  clear lb h t1 t2 s1 s2 s3 s4 s5 sl d1 d2
  generalize Civ.yday (Civ.ofY (Civ.thu y m d)) (Civ.ofM (Civ.thu y m d)) (Civ.ofD (Civ.thu y m d)) = yd at *
  generalize Civ.ofY (Civ.thu y m d) = ty at *
  generalize Civ.ofM (Civ.thu y m d) = tm at *
  generalize Civ.ofD (Civ.thu y m d) = td at *
  generalize Civ.thu y m d = t at *
  generalize Civ.num y m d = n at *
  generalize Civ.wday y m d = k at *
  generalize Civ.week y m d = wk at *
  go_enter Try.func45, Try.ntmps45
  go_wp2_with fail
  refine (HA.out _).mono ?_
  rintro e w' ⟨rfl, rfl⟩
  go_wp2_with fail
  refine (HB.out _).mono ?_
  rintro e w' ⟨rfl, rfl⟩
  have ht := HT.out
  go_wp2_with fail
  refine (HO.out _).mono ?_
  rintro e w' ⟨rfl, rfl⟩
  go_wp2_with fail
  refine (HD.out _).mono ?_
  rintro e w' ⟨rfl, rfl⟩
  go_wp2_with fail
  go_ret
  refine ⟨ret_int ?_, rfl⟩
  rw [HW.out]

end Go.Proofs.Ytfoblnepbncieaa
