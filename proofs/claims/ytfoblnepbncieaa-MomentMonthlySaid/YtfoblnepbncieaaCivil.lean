/-
  The contracts of the calendar's small functions: leap years, lengths of months, floors.
-/
import Derived.Test.YtfoblnepbncieaaBasf
import Derived.Test.YtfoblnepbncieaaPlain
namespace Go.Proofs.Ytfoblnepbncieaa
open Go.ChangeShapes Go.WideShapes Go.ChangeAt Go.RowKit

theorem tmod0 (a b : Int) : a.tmod b = 0 ↔ a % b = 0 := by
  rcases Civ.tmod_cases a b with ⟨_, e⟩ | ⟨_, e⟩
  · rw [e]
  · rw [e]
    constructor
    · intro h
      have : b ∣ -a := Int.dvd_of_emod_eq_zero (by omega)
      exact Int.emod_eq_zero_of_dvd (Int.dvd_neg.1 this)
    · intro h
      have : b ∣ -a := Int.dvd_neg.2 (Int.dvd_of_emod_eq_zero h)
      rw [Int.emod_eq_zero_of_dvd this]; rfl

theorem civil_leap (y : Int) (w : World) :
    Calls Try.prog 31 #[.int .i64 y] w fun e w' => e = .returned (.bool (Civ.leap y)) ∧ w = w' := by
  have h4 := Lib.hid (tmod0 y 4)
  have h100 := Lib.hid (tmod0 y 100)
  have h400 := Lib.hid (tmod0 y 400)
  go_enter Try.func31, Try.ntmps31
  go_wp2
  all_goals go_ret
  all_goals refine ⟨ret_bool ?_, rfl⟩
  all_goals (rw [Bool.eq_iff_iff]; simp [Civ.leap, ← h4.out, ← h100.out, ← h400.out, *])

theorem ref_leap (y : Int) (w : World) :
    Calls Try.prog 32 #[.int .i64 y] w fun e w' => e = .returned (.bool (Civ.leap y)) ∧ w = w' := by
  have h4 := Lib.hid (tmod0 y 4)
  have h100 := Lib.hid (tmod0 y 100)
  have h400 := Lib.hid (tmod0 y 400)
  have hd : y % 400 = 0 → y % 4 = 0 := by omega
  have HD := Lib.hid hd
  clear hd
  go_enter Try.func32, Try.ntmps32
  go_wp2
  all_goals go_ret
  all_goals refine ⟨ret_bool ?_, rfl⟩
  all_goals (rw [Bool.eq_iff_iff]; have hd := HD.out; simp [Civ.leap, ← h4.out, ← h100.out, ← h400.out, *] at hd ⊢; try (simp_all))

theorem civil_floor (a b : Int) (w : World) (b1 : 1 ≤ b) (a1 : -1000000000000000000 ≤ a) (a2 : a ≤ 1000000000000000000) (b2 : b ≤ 1000000) :
    Calls Try.prog 59 #[.int .i64 a, .int .i64 b] w fun e w' => e = .returned (.int .i64 (a / b)) ∧ w = w' := by
  have E := Lib.hid (Civ.floor_eq a b (by omega))
  have hb0 : (b == 0) = false := by simp; omega
  have hd : -1000000000000000000 ≤ a.tdiv b ∧ a.tdiv b ≤ 1000000000000000000 := by
    rcases Civ.tdiv_cases a b with ⟨h, e⟩ | ⟨h, e⟩
    · have := Int.ediv_nonneg h (show 0 ≤ b by omega)
      have := Int.ediv_le_self b h
      omega
    · have := Int.ediv_nonneg (show 0 ≤ -a by omega) (show 0 ≤ b by omega)
      have := Int.ediv_le_self b (show 0 ≤ -a by omega)
      omega
  obtain ⟨hd1, hd2⟩ := hd
  go_enter Try.func59, Try.ntmps59
  go_wp2
  all_goals go_ret
  · refine ⟨ret_int ?_, rfl⟩
    rw [← E.out, if_pos (by assumption)]
  · refine ⟨ret_int ?_, rfl⟩
    rw [← E.out, if_neg (by omega)]

theorem ref_floor (a b : Int) (w : World) (b1 : 1 ≤ b) (a1 : -1000000000000000000 ≤ a) (a2 : a ≤ 1000000000000000000) (b2 : b ≤ 1000000) :
    Calls Try.prog 46 #[.int .i64 a, .int .i64 b] w fun e w' => e = .returned (.int .i64 (a / b)) ∧ w = w' := by
  have E := Lib.hid (Civ.floor_eq a b (by omega))
  have hb0 : (b == 0) = false := by simp; omega
  have hd : -1000000000000000000 ≤ a.tdiv b ∧ a.tdiv b ≤ 1000000000000000000 := by
    rcases Civ.tdiv_cases a b with ⟨h, e⟩ | ⟨h, e⟩
    · have := Int.ediv_nonneg h (show 0 ≤ b by omega)
      have := Int.ediv_le_self b h
      omega
    · have := Int.ediv_nonneg (show 0 ≤ -a by omega) (show 0 ≤ b by omega)
      have := Int.ediv_le_self b (show 0 ≤ -a by omega)
      omega
  obtain ⟨hd1, hd2⟩ := hd
  go_enter Try.func46, Try.ntmps46
  go_wp2
  all_goals go_ret
  · refine ⟨ret_int ?_, rfl⟩
    rw [← E.out, if_pos (by assumption)]
  · refine ⟨ret_int ?_, rfl⟩
    rw [← E.out, if_neg (by omega)]

theorem civil_length (y m : Int) (w : World) :
    Calls Try.prog 33 #[.int .i64 y, .int .i64 m] w fun e w' => e = .returned (.int .i64 (Civ.len y m)) ∧ w = w' := by
  go_enter Try.func33, Try.ntmps33
  go_wp2_with (go_at_call 31; refine (civil_leap _ _).mono ?_; rintro e w' ⟨rfl, rfl⟩)
  all_goals go_ret
  all_goals refine ⟨ret_int ?_, rfl⟩
  all_goals (first | exact (Civ.len_zero y m (by omega)).symm | (unfold Civ.len; simp_all; done) | (unfold Civ.len; simp_all; omega))

theorem ref_length (y m : Int) (w : World) :
    Calls Try.prog 34 #[.int .i64 y, .int .i64 m] w fun e w' => e = .returned (.int .i64 (Civ.len y m)) ∧ w = w' := by
  go_enter Try.func34, Try.ntmps34
  go_wp2_with (go_at_call 32; refine (ref_leap _ _).mono ?_; rintro e w' ⟨rfl, rfl⟩)
  all_goals go_ret
  all_goals refine ⟨ret_int ?_, rfl⟩
  all_goals (first | exact (Civ.len_zero y m (by omega)).symm | (unfold Civ.len; simp_all; done) | (unfold Civ.len; simp_all; omega))

end Go.Proofs.Ytfoblnepbncieaa
