/-
  The stage's own maker of days and its examples.
-/
import Derived.Test.YtfoblnepbncieaaCivilK
import Derived.Test.YtfoblnepbncieaaCivilM
namespace Go.Proofs.Ytfoblnepbncieaa
open Go.ChangeShapes Go.WideShapes Go.ChangeAt Go.RowKit

def mkY (y : Int) : Int := y.tmod 1000000000
def mkM (m : Int) : Int := m % 12 + 1
def mkD (y m d : Int) : Int := d % Civ.len (mkY y) (mkM m) + 1

theorem tmod_emod (d n : Int) : (d.tmod n + n) % n = d % n := by
  have e : d.tmod n = d + n * -(d.tdiv n) := by
    have := Int.mul_tdiv_add_tmod d n
    rw [Int.mul_neg]; omega
  rw [Int.add_emod_right, e, Int.add_mul_emod_self_left]

theorem mk_bounds (y m d : Int) : (-999999999 ≤ mkY y ∧ mkY y ≤ 999999999) ∧ (1 ≤ mkM m ∧ mkM m ≤ 12) ∧ 1 ≤ mkD y m d ∧ mkD y m d ≤ Civ.len (mkY y) (mkM m) := by
  have a := Civ.tmod_cases y 1000000000
  have c : 1 ≤ mkM m ∧ mkM m ≤ 12 := by unfold mkM; omega
  have b := Civ.len_pos (mkY y) (mkM m) c.1 c.2
  have e1 := Int.emod_nonneg d (show Civ.len (mkY y) (mkM m) ≠ 0 by omega)
  have e2 := Int.emod_lt_of_pos d (show 0 < Civ.len (mkY y) (mkM m) by omega)
  refine ⟨by unfold mkY; omega, c, by unfold mkD; omega, by unfold mkD; omega⟩

theorem mk_may (y m d : Int) : Civ.may (mkY y) (mkM m) (mkD y m d) = true := by
  obtain ⟨a, b, c⟩ := mk_bounds y m d
  exact (may_iff _ _ _).2 ⟨a.1, a.2, c.1, c.2⟩

theorem law06_make (y m d : Int) (w : World) :
    Calls Try.prog 41 #[.int .i64 y, .int .i64 m, .int .i64 d] w fun e w' =>
      e = .returned (.agg #[.int .i64 (mkY y), .int .i64 (mkM m), .int .i64 (mkD y m d)]) ∧ Below w.heap.size w w' := by
  obtain ⟨⟨y1, y2⟩, ⟨m1, m2⟩, _⟩ := mk_bounds y m d
  have lb := Civ.len_pos (mkY y) (mkM m) m1 m2
  obtain ⟨l1, l2⟩ := lb
  have tb : -Civ.len (mkY y) (mkM m) < d.tmod (Civ.len (mkY y) (mkM m)) ∧ d.tmod (Civ.len (mkY y) (mkM m)) < Civ.len (mkY y) (mkM m) := by
    have h1 := Int.emod_nonneg (-d) (show Civ.len (mkY y) (mkM m) ≠ 0 by omega)
    have h2 := Int.emod_lt_of_pos (-d) (show 0 < Civ.len (mkY y) (mkM m) by omega)
    have h3 := Int.emod_nonneg d (show Civ.len (mkY y) (mkM m) ≠ 0 by omega)
    have h4 := Int.emod_lt_of_pos d (show 0 < Civ.len (mkY y) (mkM m) by omega)
    have := Civ.tmod_cases d (Civ.len (mkY y) (mkM m))
    omega
  obtain ⟨tb1, tb2⟩ := tb
  have e1 := Int.emod_nonneg (d.tmod (Civ.len (mkY y) (mkM m))) (show Civ.len (mkY y) (mkM m) ≠ 0 by omega)
  have e2 := Int.emod_lt_of_pos (d.tmod (Civ.len (mkY y) (mkM m))) (show 0 < Civ.len (mkY y) (mkM m) by omega)
  have n0 : (Civ.len (mkY y) (mkM m) == 0) = false := by simp; omega
  have mb : -11 ≤ m.tmod 12 ∧ m.tmod 12 ≤ 11 := by have := Civ.tmod_cases m 12; omega
  obtain ⟨mb1, mb2⟩ := mb
  have hy : y.tmod 1000000000 = mkY y := rfl
  have hm : m.tmod 12 % 12 + 1 = mkM m := by have := tmod_emod m 12; rw [Int.add_emod_right] at this; unfold mkM; rw [this]
  have HD := Lib.hid (show (d.tmod (Civ.len (mkY y) (mkM m)) + Civ.len (mkY y) (mkM m)) % Civ.len (mkY y) (mkM m) + 1 = mkD y m d by unfold mkD; rw [tmod_emod])
  generalize mkD y m d = D at *
  generalize mkM m = M at *
  generalize mkY y = Y at *
  have HL := Lib.hid (ref_length Y M)
  generalize Civ.len Y M = L at *
  go_enter Try.func41, Try.ntmps41
  go_wp2_with fail
  refine (HL.out _).mono ?_
  rintro e w' ⟨rfl, rfl⟩
  go_wp2_with fail
  refine bodyPost_ret (v := .agg #[.int .i64 Y, .int .i64 M, .int .i64 (d.tmod L % L + 1)]) (by simp [results, Try.results41, go_sem, *]) rfl ⟨?_, ?_⟩
  · have := HD.out; rw [Int.add_emod_right] at this; rw [this]
  · (repeat (first | with_reducible assumption | with_reducible exact bl_refl _ | with_reducible refine bl_alloc ?_ _ | with_reducible refine bl_set ?_ (by simp) _ | with_reducible refine bl_drew ?_ | with_reducible refine bl_drewN ?_ _ | with_reducible refine bl_trans ?_ (by assumption)))

set_option maxRecDepth 100000 in
set_option maxHeartbeats 1000000 in
theorem law06_awake (w : World) : Calls Try.prog 29 #[] w fun e w' => e = .returned (.bool true) ∧ Below w.heap.size w w' := by
  go_enter Try.func29, Try.ntmps29
  go_wp2_with fail
  refine (civil_number_yes 2000 3 1 (by decide) _).mono ?_
  rw [show Civ.num 2000 3 1 = 11017 from by decide]
  rintro e w1 ⟨rfl, hb1⟩
  go_wp2_with fail
  refine (civil_of (-1) true (by decide) _).mono ?_
  rw [show Civ.ofY (-1) = 1969 from by decide, show Civ.ofM (-1) = 12 from by decide, show Civ.ofD (-1) = 31 from by decide]
  rintro e w2 ⟨rfl, hb2⟩
  go_wp2_with fail
  refine (civil_months_yes 2023 1 31 1 (by decide) (by decide) (by decide) true (by decide) _).mono ?_
  rw [show moY 2023 1 1 = 2023 from by decide, show moM 2023 1 1 = 2 from by decide, show moD 2023 1 31 1 = 28 from by decide]
  rintro e w3 ⟨rfl, hb3⟩
  obtain ⟨a0, a1, a2, af0, af1, af2, al⟩ := keep3 (b := w2.heap.size) (x := .int .i64 1969) (y := .int .i64 12) (z := .int .i64 31) hb3 (by simp [*]) (by simp [*]) (by simp [*]) (by simp [*]) (by simp [*]) (by simp [*])
  go_wp2_with fail
  refine (civil_weekday_yes 2024 2 29 (by decide) _).mono ?_
  rw [show Civ.wday 2024 2 29 = 4 from by decide]
  rintro e w4 ⟨rfl, hb4⟩
  have g4 : Below w3.heap.size w3 w4 := by (repeat (first | with_reducible assumption | with_reducible exact bl_refl _ | with_reducible refine bl_alloc ?_ _ | with_reducible refine bl_set ?_ (by simp) _ | with_reducible refine bl_drew ?_ | with_reducible refine bl_drewN ?_ _ | with_reducible refine bl_trans ?_ (by assumption)))
  obtain ⟨a0, a1, a2, af0, af1, af2, al⟩ := keep3 g4 a0 a1 a2 af0 af1 af2
  obtain ⟨b0, b1, b2, bf0, bf1, bf2, bl⟩ := keep3 (b := w3.heap.size) (x := .int .i64 2023) (y := .int .i64 2) (z := .int .i64 28) hb4 (by simp [*]) (by simp [*]) (by simp [*]) (by simp [*]) (by simp [*]) (by simp [*])
  go_wp2_with fail
  refine (civil_week_yes 2021 1 3 (by decide) _).mono ?_
  rw [show Civ.week 2021 1 3 = 53 from by decide]
  rintro e w5 ⟨rfl, hb5⟩
  obtain ⟨b0, b1, b2, bf0, bf1, bf2, bl⟩ := keep3 hb5 b0 b1 b2 bf0 bf1 bf2
  go_wp2_with fail
  refine (civil_week_yes 2019 12 30 (by decide) _).mono ?_
  rw [show Civ.week 2019 12 30 = 1 from by decide]
  rintro e w6 ⟨rfl, hb6⟩
  obtain ⟨b0, b1, b2, bf0, bf1, bf2, bl⟩ := keep3 hb6 b0 b1 b2 bf0 bf1 bf2
  go_wp2_with fail
  go_ret
  refine ⟨rfl, ?_⟩
  (repeat (first | with_reducible assumption | with_reducible exact bl_refl _ | with_reducible refine bl_alloc ?_ _ | with_reducible refine bl_set ?_ (by simp) _ | with_reducible refine bl_drew ?_ | with_reducible refine bl_drewN ?_ _ | with_reducible refine bl_trans ?_ (by assumption)))

end Go.Proofs.Ytfoblnepbncieaa
