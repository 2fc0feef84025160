/-
  ClockParts: for every input it returns true.
-/
import Derived.Test.YtfoblnepbncieaaClockA
import Derived.Deep.RegionHeld3
import Derived.Deep.DeepCutAuto
namespace Go.Proofs.Ytfoblnepbncieaa
open Go.ChangeShapes Go.WideShapes Go.ChangeAt Go.RowKit

theorem parts_back (x : Int) : 3600 * (x / 3600) + 60 * (x / 60 % 60) + x % 60 = x := by omega

theorem hour_same (s : Int) (z : Bool) (o : Int) (w : World) (h : 0 ≤ s) (_h : s < 86400) :
    Calls Try.prog 23 #[.agg #[.int .i64 s, .bool z, .int .i64 o]] w fun e w' => e = .returned (.int .i64 (s / 3600)) ∧ w.alloc (.cells #[.int .i64 s, .bool z, .int .i64 o] 23) = w' := by
  go_enter Try.func23, Try.ntmps23
  go_wp2
  go_ret
  exact ⟨rfl, rfl⟩

theorem minute_same (s : Int) (z : Bool) (o : Int) (w : World) (h : 0 ≤ s) (_h : s < 86400) :
    Calls Try.prog 24 #[.agg #[.int .i64 s, .bool z, .int .i64 o]] w fun e w' => e = .returned (.int .i64 (s / 60 % 60)) ∧ w.alloc (.cells #[.int .i64 s, .bool z, .int .i64 o] 23) = w' := by
  go_enter Try.func24, Try.ntmps24
  go_wp2
  go_ret
  exact ⟨rfl, rfl⟩

theorem second_same (s : Int) (z : Bool) (o : Int) (w : World) (h : 0 ≤ s) (_h : s < 86400) :
    Calls Try.prog 25 #[.agg #[.int .i64 s, .bool z, .int .i64 o]] w fun e w' => e = .returned (.int .i64 (s % 60)) ∧ w.alloc (.cells #[.int .i64 s, .bool z, .int .i64 o] 23) = w' := by
  go_enter Try.func25, Try.ntmps25
  go_wp2
  go_ret
  exact ⟨rfl, rfl⟩

theorem of_same (y : Int) (w : World) (x1 : 0 ≤ y) (x2 : y < 86400) :
    Calls Try.prog 22 #[.int .i64 (y / 3600), .int .i64 (y / 60 % 60), .int .i64 (y % 60)] w fun e w' =>
      e = .returned (.tuple #[.agg #[.int .i64 y, .bool false, .int .i64 0], .bool true]) ∧ w.alloc (.cells #[.int .i64 y, .bool false, .int .i64 0] 23) = w' := by
  have hb := parts_back y
  have b1 : 0 ≤ y / 3600 ∧ y / 3600 < 24 ∧ 0 ≤ y / 60 % 60 ∧ y / 60 % 60 < 60 ∧ 0 ≤ y % 60 ∧ y % 60 < 60 := by omega
  clear x1 x2
  generalize y / 3600 = h at hb b1 ⊢
  generalize y / 60 % 60 = m at hb b1 ⊢
  generalize y % 60 = s at hb b1 ⊢
  obtain ⟨c1, c2, c3, c4, c5, c6⟩ := b1
  subst hb
  go_enter Try.func22, Try.ntmps22
  go_wp2
  refine bodyPost_ret (v := .tuple #[.agg #[.int .i64 (3600 * h + 60 * m + s), .bool false, .int .i64 0], .bool true]) (by simp [results, Try.results22, go_sem]) rfl ⟨?_, ?_⟩
  · rfl
  · rfl

set_option maxRecDepth 100000 in
set_option maxHeartbeats 1000000 in
theorem parts_yes (h m s x : Int) (w : World) (c : 0 ≤ h ∧ h < 24 ∧ 0 ≤ m ∧ m < 60 ∧ 0 ≤ s ∧ s < 60) :
    Calls Try.prog 4 #[.int .i64 h, .int .i64 m, .int .i64 s, .int .i64 x] w fun e w' =>
      e = .returned (.bool true) ∧ Below w.heap.size w w' := by
  have C := Lib.hid c
  clear c
  go_enter Try.func4, Try.ntmps4
  go_wp2_with fail
  refine (law07_awake _).mono ?_
  rintro e w1 ⟨rfl, hb1⟩
  go_wp2_with fail
  refine (clock_of h m s _).mono ?_
  rw [if_pos C.out]
  rintro e w2 ⟨rfl, hb2⟩
  obtain ⟨c1, c2, c3, c4, c5, c6⟩ := C.out
  go_wp2_with fail
  have q1 : 0 ≤ 3600 * h + 60 * m + s := by omega
  have q2 : 3600 * h + 60 * m + s < 86400 := by omega
  have e1 := Lib.hid (show (3600 * h + 60 * m + s) / 3600 = h by omega)
  have e2 := Lib.hid (show (3600 * h + 60 * m + s) / 60 % 60 = m by omega)
  have e3 := Lib.hid (show (3600 * h + 60 * m + s) % 60 = s by omega)
  refine (clock_hour _ false 0 _ q1 q2).mono ?_
  rw [e1.out]
  rintro e w3 ⟨rfl, hb3⟩
  obtain ⟨t0, t1, t2, tf0, tf1, tf2, tl⟩ := keep3 (b := w2.heap.size) (x := .int .i64 (3600 * h + 60 * m + s)) (y := .bool false) (z := .int .i64 0) hb3 (by simp [*]) (by simp [*]) (by simp [*]) (by simp [*]) (by simp [*]) (by simp [*])
  go_wp2_with fail
  refine (clock_minute _ false 0 _ q1 q2).mono ?_
  rw [e2.out]
  rintro e w4 ⟨rfl, hb4⟩
  obtain ⟨t0, t1, t2, tf0, tf1, tf2, tl⟩ := keep3 hb4 t0 t1 t2 tf0 tf1 tf2
  go_wp2_with fail
  refine (clock_second _ false 0 _ q1 q2).mono ?_
  rw [e3.out]
  rintro e w5 ⟨rfl, hb5⟩
  obtain ⟨t0, t1, t2, tf0, tf1, tf2, tl⟩ := keep3 hb5 t0 t1 t2 tf0 tf1 tf2
  go_wp2_with fail
  refine (law07_make x false 0 _).mono ?_
  rintro e w6 ⟨rfl, hb6⟩
  have x1 : 0 ≤ x % 86400 := by omega
  have x2 : x % 86400 < 86400 := by omega
  generalize x % 86400 = y at x1 x2 ⊢
  have hbW : Below w.heap.size w w6 := by (repeat (first | with_reducible assumption | with_reducible exact bl_refl _ | with_reducible refine bl_alloc ?_ _ | with_reducible refine bl_set ?_ (by simp) _ | with_reducible refine bl_drew ?_ | with_reducible refine bl_drewN ?_ _ | with_reducible refine bl_trans ?_ (by assumption)))
  clear t0 t1 t2 tf0 tf1 tf2 tl hb1 hb2 hb3 hb4 hb5 hb6
  go_upto_region 8 with fail
  have z1 : w6.heap.size < w6.heap.size + 1 + 1 := by omega
  have z2 : w6.heap.size < w6.heap.size + 1 + 1 + 1 := by omega
  have z3 : w6.heap.size < w6.heap.size + 1 + 1 + 1 + 1 := by omega
  have z4 : w6.heap.size < w6.heap.size + 1 + 1 + 1 + 1 + 1 := by omega
  have z5 : w6.heap.size < w6.heap.size + 1 + 1 + 1 + 1 + 1 + 1 := by omega
  go_cut [13, 14] (fun s13 s14 wx => ∃ g : Nat, s13 = .pointer (some ⟨g, 0, none⟩) ∧ s14 = .bool true ∧ Below w.heap.size w wx ∧
    wx.cell? ⟨g, 0, none⟩ = some (.int .i64 y) ∧ wx.cell? ⟨g, 1, none⟩ = some (.bool false) ∧ wx.cell? ⟨g, 2, none⟩ = some (.int .i64 0) ∧
    wx.cell? ⟨w6.heap.size, 0, none⟩ = some (.int .i64 y) ∧ wx.cell? ⟨w6.heap.size, 1, none⟩ = some (.bool false) ∧ wx.cell? ⟨w6.heap.size, 2, none⟩ = some (.int .i64 0))
  case first =>
    go_region_held3 (fun w' => w'.cell? ⟨w6.heap.size, 0, none⟩ = some (.int .i64 y) ∧ w'.cell? ⟨w6.heap.size, 1, none⟩ = some (.bool false) ∧ w'.cell? ⟨w6.heap.size, 2, none⟩ = some (.int .i64 0))
      ((simp [go_sem, *]))
      (first
        | (go_at_call 23; refine (hour_same y false 0 _ x1 x2).mono ?_; rintro e w' ⟨rfl, rfl⟩)
        | (go_at_call 24; refine (minute_same y false 0 _ x1 x2).mono ?_; rintro e w' ⟨rfl, rfl⟩)
        | (go_at_call 25; refine (second_same y false 0 _ x1 x2).mono ?_; rintro e w' ⟨rfl, rfl⟩)
        | (go_at_call 22; refine (of_same y _ x1 x2).mono ?_; rintro e w' ⟨rfl, rfl⟩))
    all_goals
      go_wp2_with fail
      go_meet
      refine ⟨_, rfl, rfl, ?_, ?_, ?_, ?_, ?_, ?_, ?_⟩
      · (repeat (first | with_reducible assumption | with_reducible exact bl_refl _ | with_reducible refine bl_alloc ?_ _ | with_reducible refine bl_set ?_ (by simp) _ | with_reducible refine bl_drew ?_ | with_reducible refine bl_drewN ?_ _ | with_reducible refine bl_trans ?_ (by assumption)))
      all_goals (simp [go_sem, *]; done)
  case rest =>
    obtain ⟨g, rfl, rfl, hbx, g0, g1, g2, k0, k1, k2⟩ := hcut
    go_wp2_with fail
    go_ret
    exact ⟨rfl, hbx⟩

set_option maxRecDepth 100000 in
set_option maxHeartbeats 1000000 in
theorem parts_no (h m s x : Int) (w : World) (c : ¬ (0 ≤ h ∧ h < 24 ∧ 0 ≤ m ∧ m < 60 ∧ 0 ≤ s ∧ s < 60)) :
    Calls Try.prog 4 #[.int .i64 h, .int .i64 m, .int .i64 s, .int .i64 x] w fun e w' =>
      e = .returned (.bool true) ∧ Below w.heap.size w w' := by
  have C := Lib.hid c
  clear c
  go_enter Try.func4, Try.ntmps4
  go_wp2_with fail
  refine (law07_awake _).mono ?_
  rintro e w1 ⟨rfl, hb1⟩
  go_wp2_with fail
  refine (clock_of h m s _).mono ?_
  rw [if_neg C.out]
  rintro e w2 ⟨rfl, hb2⟩
  go_upto_region 4 with fail
  go_cut [11] (fun s11 wx => s11 = .bool false ∧ wx = w2.alloc (.cells #[.int .i64 0, .bool false, .int .i64 0] 23))
  case first =>
    have c := C.out
    go_wp2_with fail
    all_goals (go_meet; refine ⟨congrArg Value.bool ?_, rfl⟩; (first | rfl | (simp; omega) | (exfalso; omega)))
  case rest =>
  obtain ⟨rfl, rfl⟩ := hcut
  go_wp2_with fail
  refine (law07_make x false 0 _).mono ?_
  rintro e w6 ⟨rfl, hb6⟩
  have x1 : 0 ≤ x % 86400 := by omega
  have x2 : x % 86400 < 86400 := by omega
  generalize x % 86400 = y at x1 x2 ⊢
  have hbW : Below w.heap.size w w6 := by (repeat (first | with_reducible assumption | with_reducible exact bl_refl _ | with_reducible refine bl_alloc ?_ _ | with_reducible refine bl_set ?_ (by simp) _ | with_reducible refine bl_drew ?_ | with_reducible refine bl_drewN ?_ _ | with_reducible refine bl_trans ?_ (by assumption)))
  clear hb1 hb2 hb6
  go_upto_region 8 with fail
  have z1 : w6.heap.size < w6.heap.size + 1 + 1 := by omega
  have z2 : w6.heap.size < w6.heap.size + 1 + 1 + 1 := by omega
  have z3 : w6.heap.size < w6.heap.size + 1 + 1 + 1 + 1 := by omega
  have z4 : w6.heap.size < w6.heap.size + 1 + 1 + 1 + 1 + 1 := by omega
  have z5 : w6.heap.size < w6.heap.size + 1 + 1 + 1 + 1 + 1 + 1 := by omega
  go_cut [13, 14] (fun s13 s14 wx => ∃ g : Nat, s13 = .pointer (some ⟨g, 0, none⟩) ∧ s14 = .bool true ∧ Below w.heap.size w wx ∧
    wx.cell? ⟨g, 0, none⟩ = some (.int .i64 y) ∧ wx.cell? ⟨g, 1, none⟩ = some (.bool false) ∧ wx.cell? ⟨g, 2, none⟩ = some (.int .i64 0) ∧
    wx.cell? ⟨w6.heap.size, 0, none⟩ = some (.int .i64 y) ∧ wx.cell? ⟨w6.heap.size, 1, none⟩ = some (.bool false) ∧ wx.cell? ⟨w6.heap.size, 2, none⟩ = some (.int .i64 0))
  case first =>
    go_region_held3 (fun w' => w'.cell? ⟨w6.heap.size, 0, none⟩ = some (.int .i64 y) ∧ w'.cell? ⟨w6.heap.size, 1, none⟩ = some (.bool false) ∧ w'.cell? ⟨w6.heap.size, 2, none⟩ = some (.int .i64 0))
      ((simp [go_sem, *]))
      (first
        | (go_at_call 23; refine (hour_same y false 0 _ x1 x2).mono ?_; rintro e w' ⟨rfl, rfl⟩)
        | (go_at_call 24; refine (minute_same y false 0 _ x1 x2).mono ?_; rintro e w' ⟨rfl, rfl⟩)
        | (go_at_call 25; refine (second_same y false 0 _ x1 x2).mono ?_; rintro e w' ⟨rfl, rfl⟩)
        | (go_at_call 22; refine (of_same y _ x1 x2).mono ?_; rintro e w' ⟨rfl, rfl⟩))
    all_goals
      go_wp2_with fail
      go_meet
      refine ⟨_, rfl, rfl, ?_, ?_, ?_, ?_, ?_, ?_, ?_⟩
      · (repeat (first | with_reducible assumption | with_reducible exact bl_refl _ | with_reducible refine bl_alloc ?_ _ | with_reducible refine bl_set ?_ (by simp) _ | with_reducible refine bl_drew ?_ | with_reducible refine bl_drewN ?_ _ | with_reducible refine bl_trans ?_ (by assumption)))
      all_goals (simp [go_sem, *]; done)
  case rest =>
    obtain ⟨g, rfl, rfl, hbx, g0, g1, g2, k0, k1, k2⟩ := hcut
    go_wp2_with fail
    go_ret
    exact ⟨rfl, hbx⟩

set_option maxRecDepth 100000 in
theorem clockParts_walk (h m s x : Int) (w : World) (_n0 : -9223372036854775808 ≤ h ∧ h ≤ 9223372036854775807) (_n1 : -9223372036854775808 ≤ m ∧ m ≤ 9223372036854775807)
    (_n2 : -9223372036854775808 ≤ s ∧ s ≤ 9223372036854775807) (_n3 : -9223372036854775808 ≤ x ∧ x ≤ 9223372036854775807) :
    Calls Try.prog 4 #[.int .i64 h, .int .i64 m, .int .i64 s, .int .i64 x] w fun e w' =>
      e = .returned (.bool true) ∧ Below w.heap.size w w' := by
  by_cases c : 0 ≤ h ∧ h < 24 ∧ 0 ≤ m ∧ m < 60 ∧ 0 ≤ s ∧ s < 60
  · exact parts_yes h m s x w c
  · exact parts_no h m s x w c

set_option maxRecDepth 100000 in
theorem clockParts_lifted (os : Os) (started : os.Started) (H : Type) (enc : TypeId × Value → H) :
    ReturnsInHanded {} Try.checked os 4 .any (Rows.clockPartsSpec.pre6 enc Try.prog Try.f4 Rows.clockPartsRow.domain false) (Rows.clockPartsSpec.post enc Try.prog Try.f4 false true false false) := by
  refine returnsInHanded_of_change (C := Try.checked) Try.own started (by kernel_rfl) Try.func4
    (ChangeSpec.witness6 (enc := enc) (C := Try.checked) false ⟨#[], #[.int .i64 0, .int .i64 0, .int .i64 0, .int .i64 0], []⟩ 8 (by kernel_rfl) (by kernel_rfl) (by kernel_rfl) (by kernel_rfl)) ?_
  intro W base args ds gs before hval0 hW hcnd _
  have hval : ∀ (j : Nat) t v, Try.f4.params[j]? = some t → args[j]? = some v → Value.okWide Try.prog W .any base t v := hval0
  have hW' := hW
  obtain ⟨p, q, hA0, hV, rfl, hfz, hnd⟩ := hW
  have hA : DataW.TrodAll enc Try.prog W 0 (fun _ => true) true Try.f4.params.toList args.toList ds p := hA0
  rw [Try.params4] at hA hval
  obtain ⟨v0, vs0, d0, ds0, p0, q0, hargs, rfl, rfl, h0, r0⟩ := trodAll_cons hA
  obtain ⟨v1, vs1, d1, ds1, p1, q1, rfl, rfl, rfl, h1, r1⟩ := trodAll_cons r0
  obtain ⟨v2, vs2, d2, ds2, p2, q2, rfl, rfl, rfl, h2, r2⟩ := trodAll_cons r1
  obtain ⟨v3, vs3, d3, ds3, p3, q3, rfl, rfl, rfl, h3, r3⟩ := trodAll_cons r2
  obtain ⟨rfl, rfl, rfl⟩ := trodAll_nil r3
  obtain rfl : args = #[v0, v1, v2, v3] := by cases args; simp_all
  obtain ⟨rfl, rfl⟩ := trodVars_none hV
  obtain ⟨a0, rfl, rfl, rfl, a0w⟩ := open_int Try.underlying3 (hval 0 3 v0 rfl rfl) h0
  obtain ⟨a1, rfl, rfl, rfl, a1w⟩ := open_int Try.underlying3 (hval 1 3 v1 rfl rfl) h1
  obtain ⟨a2, rfl, rfl, rfl, a2w⟩ := open_int Try.underlying3 (hval 2 3 v2 rfl rfl) h2
  obtain ⟨a3, rfl, rfl, rfl, a3w⟩ := open_int Try.underlying3 (hval 3 3 v3 rfl rfl) h3
  clear hA0 hval0
  refine (clockParts_walk a0 a1 a2 a3 W (bounds_i64 a0w) (bounds_i64 a1w) (bounds_i64 a2w) (bounds_i64 a3w)).mono fun e W' ⟨he, hg⟩ => ?_
  subst he
  exact ⟨_, rfl, law_post Try.laidOut (by kernel_rfl) rfl rfl Try.underlying4 hW' rfl hg⟩

theorem clockParts_holds : Rows.ClockPartsSaid :=
  OpenClaim.holds_of_wide 4 Try.f4 rfl rfl rfl rfl rfl rfl rfl ⟨rfl, rfl, rfl, rfl, rfl⟩ rfl rfl rfl rfl rfl (by kernel_rfl) Try.func4 (by kernel_rfl)
    (of_decide_eq_true (by kernel_rfl)) (by unfold Func.isWrapper; first | (rw [if_pos (by decide +kernel)]; kernel_rfl) | (rw [if_neg (by decide +kernel)]; exact ⟨rfl, rfl⟩))
    (fun os started H enc _ => clockParts_lifted os started H enc)

#print axioms clockParts_holds

end Go.Proofs.Ytfoblnepbncieaa
