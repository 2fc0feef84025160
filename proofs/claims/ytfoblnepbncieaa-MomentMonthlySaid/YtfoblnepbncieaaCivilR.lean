/-
  The contracts of the reference for days of the calendar.
-/
import Derived.Test.YtfoblnepbncieaaCivilW
namespace Go.Proofs.Ytfoblnepbncieaa
open Go.ChangeShapes Go.WideShapes Go.ChangeAt Go.RowKit

theorem wday_bounds (y m d : Int) : 1 ≤ Civ.wday y m d ∧ Civ.wday y m d ≤ 7 := by unfold Civ.wday; omega

theorem ref_may (y m d : Int) (w : World) :
    Calls Try.prog 30 #[.int .i64 y, .int .i64 m, .int .i64 d] w fun e w' => e = .returned (.bool (Civ.may y m d)) ∧ w = w' := by
  have HZ := Lib.hid (Civ.len_zero y m)
  by_cases h : -999999999 ≤ y ∧ y ≤ 999999999 ∧ 1 ≤ m ∧ m ≤ 12 ∧ 1 ≤ d
  · obtain ⟨h1, h2, h3, h4, h5⟩ := h
    go_enter Try.func30, Try.ntmps30
    go_wp2_with (go_at_call 34; refine (ref_length _ _ _).mono ?_; rintro e w' ⟨rfl, rfl⟩)
    go_ret
    refine ⟨ret_bool ?_, rfl⟩
    rw [Bool.eq_iff_iff]; simp [Civ.may, h1, h2, h5]
  · have hf : Civ.may y m d = false := by
      apply decide_eq_false
      intro g
      by_cases c : 1 ≤ m ∧ m ≤ 12
      · omega
      · have := HZ.out c; omega
    have HF := Lib.hid hf
    have H := Lib.hid h
    clear hf h
    rw [HF.out]
    by_cases h1 : -999999999 ≤ y
    · by_cases h2 : y ≤ 999999999
      · by_cases h3 : 1 ≤ m
        · by_cases h4 : m ≤ 12
          · have h5 : d < 1 := by have := H.out; omega
            go_enter Try.func30, Try.ntmps30
            go_wp2_with fail
            go_ret
            exact ⟨rfl, rfl⟩
          · go_enter Try.func30, Try.ntmps30
            go_wp2_with fail
            go_ret
            exact ⟨rfl, rfl⟩
        · go_enter Try.func30, Try.ntmps30
          go_wp2_with fail
          go_ret
          exact ⟨rfl, rfl⟩
      · go_enter Try.func30, Try.ntmps30
        go_wp2_with fail
        go_ret
        exact ⟨rfl, rfl⟩
    · go_enter Try.func30, Try.ntmps30
      go_wp2_with fail
      go_ret
      exact ⟨rfl, rfl⟩

theorem ref_year (y : Int) (h1 : -1100000000 ≤ y) (h2 : y ≤ 1100000000) (w : World) :
    Calls Try.prog 61 #[.int .i64 y] w fun e w' => e = .returned (.int .i64 (Civ.yr y)) ∧ w = w' := by
  go_enter Try.func61, Try.ntmps61
  go_wp2_with fail
  refine (ref_floor (y - 1) 4 _ (by omega) (by omega) (by omega) (by omega)).mono ?_
  rintro e w' ⟨rfl, rfl⟩
  go_wp2_with fail
  refine (ref_floor (y - 1) 100 _ (by omega) (by omega) (by omega) (by omega)).mono ?_
  rintro e w' ⟨rfl, rfl⟩
  go_wp2_with fail
  refine (ref_floor (y - 1) 400 _ (by omega) (by omega) (by omega) (by omega)).mono ?_
  rintro e w' ⟨rfl, rfl⟩
  go_wp2_with fail
  go_ret
  exact ⟨rfl, rfl⟩

theorem yr_1970 : Civ.yr 1970 = 719162 := by decide

theorem ref_year_1970 (w : World) :
    Calls Try.prog 61 #[.int .i64 1970] w fun e w' => e = .returned (.int .i64 719162) ∧ w = w' := by
  rw [← yr_1970]; exact ref_year 1970 (by omega) (by omega) w

theorem ref_yearday (y m d : Int) (m1 : 1 ≤ m) (m2 : m ≤ 12) (d1 : 1 ≤ d) (d2 : d ≤ 31) (w : World) :
    Calls Try.prog 44 #[.int .i64 y, .int .i64 m, .int .i64 d] w fun e w' => e = .returned (.int .i64 (Civ.yday y m d)) ∧ w = w' := by
  have HY := Lib.hid (show Civ.yday y m d = Civ.cum y m + d from rfl)
  go_enter Try.func44, Try.ntmps44
  go_wp2_with fail
  go_loop [7, 8] (fun n i => ∃ k : Int, 1 ≤ k ∧ k ≤ m ∧ i = .int .i64 k ∧ n = .int .i64 (Civ.cum y k + d)) (fun _ i => (m - intOf i).toNat)
  case atStart => exact ⟨1, by omega, by omega, rfl, by rw [Civ.cum_one]; simp⟩
  case round =>
    obtain ⟨k, hk1, hk2, rfl, rfl⟩ := hrel
    have cb := cum_bound y k (by omega) (by omega)
    obtain ⟨cb1, cb2⟩ := cb
    by_cases hlt : k < m
    · have lb := Civ.len_pos y k (by omega) (by omega)
      obtain ⟨lb1, lb2⟩ := lb
      have CS := Lib.hid (Civ.cum_succ y k (by omega) (by omega))
      go_wp2_with (go_at_call 34; refine (ref_length _ _ _).mono ?_; rintro e w' ⟨rfl, rfl⟩)
      go_round
      case rel => exact ⟨k + 1, by omega, by omega, rfl, by rw [CS.out]; go_num⟩
      case measure => simp [intOf]; omega
    · go_wp2_with fail
      go_ret
      refine ⟨ret_int ?_, rfl⟩
      rw [HY.out, show k = m from by omega]

theorem yr_bound (y : Int) (h1 : -1100000000 ≤ y) (h2 : y ≤ 1100000000) : -500000000000 ≤ Civ.yr y ∧ Civ.yr y ≤ 500000000000 := by unfold Civ.yr; omega

theorem yday_bd (y m d : Int) (m1 : 1 ≤ m) (m2 : m ≤ 12) (d1 : 1 ≤ d) (d2 : d ≤ 31) : 1 ≤ Civ.yday y m d ∧ Civ.yday y m d ≤ 397 := by
  have := cum_bound y m m1 (by omega)
  unfold Civ.yday; omega

theorem ref_number (y m d : Int) (h1 : -1100000000 ≤ y) (h2 : y ≤ 1100000000) (m1 : 1 ≤ m) (m2 : m ≤ 12) (d1 : 1 ≤ d) (d2 : d ≤ 31) (w : World) :
    Calls Try.prog 42 #[.int .i64 y, .int .i64 m, .int .i64 d] w fun e w' => e = .returned (.int .i64 (Civ.num y m d)) ∧ w = w' := by
  obtain ⟨b1, b2⟩ := yr_bound y h1 h2
  obtain ⟨b3, b4⟩ := yday_bd y m d m1 m2 d1 d2
  have HY := Lib.hid (Civ.yday_num y m d)
  have HA := Lib.hid (ref_yearday y m d m1 m2 d1 d2)
  have HB := Lib.hid (ref_year y h1 h2)
  generalize Civ.yday y m d = a at *
  generalize Civ.yr y = b at *
  go_enter Try.func42, Try.ntmps42
  go_wp2_with fail
  refine (HB.out _).mono ?_
  rintro e w' ⟨rfl, rfl⟩
  go_wp2_with fail
  refine (HA.out _).mono ?_
  rintro e w' ⟨rfl, rfl⟩
  go_wp2_with fail
  refine (ref_year_1970 _).mono ?_
  rintro e w' ⟨rfl, rfl⟩
  go_wp2_with fail
  go_ret
  refine ⟨ret_int ?_, rfl⟩
  have := HY.out
  omega

theorem num_bound (y m d : Int) (h1 : -1100000000 ≤ y) (h2 : y ≤ 1100000000) (m1 : 1 ≤ m) (m2 : m ≤ 12) (d1 : 1 ≤ d) (d2 : d ≤ 31) : -600000000000 ≤ Civ.num y m d ∧ Civ.num y m d ≤ 600000000000 := by
  have := yr_bound y h1 h2
  have := yday_bd y m d m1 m2 d1 d2
  have := Civ.yday_num y m d
  omega

theorem ref_weekday (y m d : Int) (h1 : -1100000000 ≤ y) (h2 : y ≤ 1100000000) (m1 : 1 ≤ m) (m2 : m ≤ 12) (d1 : 1 ≤ d) (d2 : d ≤ 31) (w : World) :
    Calls Try.prog 43 #[.int .i64 y, .int .i64 m, .int .i64 d] w fun e w' => e = .returned (.int .i64 (Civ.wday y m d)) ∧ w = w' := by
  obtain ⟨b1, b2⟩ := num_bound y m d h1 h2 m1 m2 d1 d2
  have HA := Lib.hid (ref_number y m d h1 h2 m1 m2 d1 d2)
  have HW := Lib.hid (show Civ.wday y m d = (Civ.num y m d + 3) % 7 + 1 from rfl)
  generalize Civ.num y m d = n at *
  go_enter Try.func43, Try.ntmps43
  go_wp2_with fail
  refine (HA.out _).mono ?_
  rintro e w' ⟨rfl, rfl⟩
  go_wp2_with fail
  refine (ref_floor (n + 3) 7 _ (by omega) (by omega) (by omega) (by omega)).mono ?_
  rintro e w' ⟨rfl, rfl⟩
  go_wp2_with fail
  go_ret
  refine ⟨ret_int ?_, rfl⟩
  rw [HW.out]
  omega

end Go.Proofs.Ytfoblnepbncieaa
