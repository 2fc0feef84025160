/-
  CivilDays: for every input it returns true.
-/
import Derived.Test.YtfoblnepbncieaaCivilA
namespace Go.Proofs.Ytfoblnepbncieaa
open Go.ChangeShapes Go.WideShapes Go.ChangeAt Go.RowKit

set_option maxRecDepth 100000 in
set_option maxHeartbeats 1000000 in
theorem civilDays_no (y m d : Int) (w : World) (h : Civ.may y m d = false) :
    Calls Try.prog 7 #[.agg #[.int .i64 y, .int .i64 m, .int .i64 d]] w fun e w' =>
      e = .returned (.bool true) ∧ Below w.heap.size w w' := by
  have H := Lib.hid h
  clear h
  go_enter Try.func7, Try.ntmps7
  go_wp2_with fail
  refine (law06_awake _).mono ?_
  rintro e w1 ⟨rfl, hb1⟩
  obtain ⟨t0, t1, t2, tf0, tf1, tf2, tl⟩ := keep3 (b := w.heap.size) (x := .int .i64 y) (y := .int .i64 m) (z := .int .i64 d) hb1 (by simp [*]) (by simp [*]) (by simp [*]) (by simp [*]) (by simp [*]) (by simp [*])
  go_wp2_with fail
  refine (ref_may _ _ _ _).mono ?_
  rw [H.out]
  rintro e w2 ⟨rfl, rfl⟩
  have hbW : Below w.heap.size w w1 := by (repeat (first | with_reducible assumption | with_reducible exact bl_refl _ | with_reducible refine bl_alloc ?_ _ | with_reducible refine bl_set ?_ (by simp) _ | with_reducible refine bl_drew ?_ | with_reducible refine bl_drewN ?_ _ | with_reducible refine bl_trans ?_ (by assumption)))
  clear hb1
  go_upto_region 4 with fail
  go_region_held3 (fun w' => w'.cell? ⟨w.heap.size, 0, none⟩ = some (.int .i64 y) ∧ w'.cell? ⟨w.heap.size, 1, none⟩ = some (.int .i64 m) ∧ w'.cell? ⟨w.heap.size, 2, none⟩ = some (.int .i64 d) ∧ Below w.heap.size w w')
    (((try go_split_ands); (repeat' apply And.intro) <;> (first | (simp [*]; done) | ((repeat (first | with_reducible assumption | with_reducible exact bl_refl _ | with_reducible refine bl_alloc ?_ _ | with_reducible refine bl_set ?_ (by simp) _ | with_reducible refine bl_drew ?_ | with_reducible refine bl_drewN ?_ _ | with_reducible refine bl_trans ?_ (by assumption))); done))))
    (first
      | (go_at_call 31; refine (civil_leap _ _).mono ?_; rintro e w' ⟨rfl, rfl⟩)
      | (go_at_call 32; refine (ref_leap _ _).mono ?_; rintro e w' ⟨rfl, rfl⟩)
      | (go_at_call 33; refine (civil_length _ _ _).mono ?_; rintro e w' ⟨rfl, rfl⟩)
      | (go_at_call 34; refine (ref_length _ _ _).mono ?_; rintro e w' ⟨rfl, rfl⟩)
      | (go_at_call 35; refine (civil_may_is _ _ _ _ H.out _).mono ?_; rintro e w' ⟨rfl, hb⟩; have hk := below_keeps hb))
  obtain ⟨t0, t1, t2, hw⟩ := ‹_ ∧ _ ∧ _ ∧ Below w.heap.size w _›
  have tl := lt_of_cell t0
  go_wp2_with fail
  refine (civil_number_no y m d H.out _).mono ?_
  rintro e w3 ⟨rfl, hb3⟩
  obtain ⟨t0, t1, t2, tl⟩ := keepc3 hb3 t0 t1 t2
  go_wp2_with fail
  refine (civil_months_no y m d 0 (Or.inl H.out) _).mono ?_
  rintro e w4 ⟨rfl, hb4⟩
  obtain ⟨t0, t1, t2, tl⟩ := keepc3 hb4 t0 t1 t2
  go_wp2_with fail
  refine (civil_weekday_no y m d H.out _).mono ?_
  rintro e w5 ⟨rfl, hb5⟩
  have g5 : Below w4.heap.size w4 w5 := by (repeat (first | with_reducible assumption | with_reducible exact bl_refl _ | with_reducible refine bl_alloc ?_ _ | with_reducible refine bl_set ?_ (by simp) _ | with_reducible refine bl_drew ?_ | with_reducible refine bl_drewN ?_ _ | with_reducible refine bl_trans ?_ (by assumption)))
  obtain ⟨t0, t1, t2, tl⟩ := keepc3 g5 t0 t1 t2
  go_wp2_with fail
  refine (civil_yearday_no y m d H.out _).mono ?_
  rintro e w6 ⟨rfl, hb6⟩
  obtain ⟨t0, t1, t2, tl⟩ := keepc3 hb6 t0 t1 t2
  go_wp2_with fail
  refine (civil_week_no y m d H.out _).mono ?_
  rintro e w7 ⟨rfl, hb7⟩
  go_wp2_with fail
  go_ret
  refine ⟨rfl, ?_⟩
  (repeat (first | with_reducible assumption | with_reducible exact bl_refl _ | with_reducible refine bl_alloc ?_ _ | with_reducible refine bl_set ?_ (by simp) _ | with_reducible refine bl_drew ?_ | with_reducible refine bl_drewN ?_ _ | with_reducible refine bl_trans ?_ (by assumption)))

theorem months_zero (y m d : Int) (h : Civ.may y m d = true) : moY y m 0 = y ∧ moM y m 0 = m ∧ moD y m d 0 = d := by
  obtain ⟨y1, y2, d1, d2⟩ := (may_iff y m d).1 h
  obtain ⟨m1, m2, _⟩ := Civ.num_bounds y m d d1 d2
  have a : moY y m 0 = y := by unfold moY; omega
  have b : moM y m 0 = m := by unfold moM; rw [a]; omega
  refine ⟨a, b, ?_⟩
  unfold moD
  rw [a, b]
  exact Int.min_eq_left d2

set_option maxRecDepth 100000 in
set_option maxHeartbeats 1000000 in
theorem civilDays_yes (y m d : Int) (w : World) (h : Civ.may y m d = true) :
    Calls Try.prog 7 #[.agg #[.int .i64 y, .int .i64 m, .int .i64 d]] w fun e w' =>
      e = .returned (.bool true) ∧ Below w.heap.size w w' := by
  have H := Lib.hid h
  obtain ⟨e1, e2, e3⟩ := months_zero y m d h
  have HM := Lib.hid (civil_months_yes y m d 0 h (by omega) (by omega) true (by rw [e1, e2, e3]; exact h))
  rw [e1, e2, e3] at HM
  clear h e1 e2 e3
  go_enter Try.func7, Try.ntmps7
  go_wp2_with fail
  refine (law06_awake _).mono ?_
  rintro e w1 ⟨rfl, hb1⟩
  obtain ⟨t0, t1, t2, tf0, tf1, tf2, tl⟩ := keep3 (b := w.heap.size) (x := .int .i64 y) (y := .int .i64 m) (z := .int .i64 d) hb1 (by simp [*]) (by simp [*]) (by simp [*]) (by simp [*]) (by simp [*]) (by simp [*])
  go_wp2_with fail
  refine (ref_may _ _ _ _).mono ?_
  rw [H.out]
  rintro e w2 ⟨rfl, rfl⟩
  have hbW : Below w.heap.size w w1 := by (repeat (first | with_reducible assumption | with_reducible exact bl_refl _ | with_reducible refine bl_alloc ?_ _ | with_reducible refine bl_set ?_ (by simp) _ | with_reducible refine bl_drew ?_ | with_reducible refine bl_drewN ?_ _ | with_reducible refine bl_trans ?_ (by assumption)))
  clear hb1
  go_upto_region 4 with fail
  go_region_held3 (fun w' => w'.cell? ⟨w.heap.size, 0, none⟩ = some (.int .i64 y) ∧ w'.cell? ⟨w.heap.size, 1, none⟩ = some (.int .i64 m) ∧ w'.cell? ⟨w.heap.size, 2, none⟩ = some (.int .i64 d) ∧ Below w.heap.size w w')
    (((try go_split_ands); (repeat' apply And.intro) <;> (first | (simp [*]; done) | ((repeat (first | with_reducible assumption | with_reducible exact bl_refl _ | with_reducible refine bl_alloc ?_ _ | with_reducible refine bl_set ?_ (by simp) _ | with_reducible refine bl_drew ?_ | with_reducible refine bl_drewN ?_ _ | with_reducible refine bl_trans ?_ (by assumption))); done))))
    (first
      | (go_at_call 31; refine (civil_leap _ _).mono ?_; rintro e w' ⟨rfl, rfl⟩)
      | (go_at_call 32; refine (ref_leap _ _).mono ?_; rintro e w' ⟨rfl, rfl⟩)
      | (go_at_call 33; refine (civil_length _ _ _).mono ?_; rintro e w' ⟨rfl, rfl⟩)
      | (go_at_call 34; refine (ref_length _ _ _).mono ?_; rintro e w' ⟨rfl, rfl⟩)
      | (go_at_call 35; refine (civil_may_is _ _ _ _ H.out _).mono ?_; rintro e w' ⟨rfl, hb⟩; have hk := below_keeps hb))
  obtain ⟨t0, t1, t2, hw⟩ := ‹_ ∧ _ ∧ _ ∧ Below w.heap.size w _›
  have tl := lt_of_cell t0
  go_wp2_with fail
  refine (civil_number_yes y m d H.out _).mono ?_
  rintro e w3 ⟨rfl, hb3⟩
  obtain ⟨t0, t1, t2, tl⟩ := keepc3 hb3 t0 t1 t2
  go_wp2_with fail
  refine (HM.out _).mono ?_
  rw [if_pos trivial]
  rintro e w4 ⟨rfl, hb4⟩
  obtain ⟨t0, t1, t2, tl⟩ := keepc3 hb4 t0 t1 t2
  go_wp2_with fail
  go_ret
  refine ⟨rfl, ?_⟩
  (repeat (first | with_reducible assumption | with_reducible exact bl_refl _ | with_reducible refine bl_alloc ?_ _ | with_reducible refine bl_set ?_ (by simp) _ | with_reducible refine bl_drew ?_ | with_reducible refine bl_drewN ?_ _ | with_reducible refine bl_trans ?_ (by assumption)))

theorem civilDays_walk (y m d : Int) (w : World) (_n0 : (-9223372036854775808 ≤ y ∧ y ≤ 9223372036854775807) ∧ (-9223372036854775808 ≤ m ∧ m ≤ 9223372036854775807) ∧ -9223372036854775808 ≤ d ∧ d ≤ 9223372036854775807) :
    Calls Try.prog 7 #[.agg #[.int .i64 y, .int .i64 m, .int .i64 d]] w fun e w' =>
      e = .returned (.bool true) ∧ Below w.heap.size w w' := by
  cases h : Civ.may y m d
  · exact civilDays_no y m d w h
  · exact civilDays_yes y m d w h

section
open Go.Joins
variable {H : Type} {enc : TypeId × Value → H} {w : World} {base : Nat} {spare : Nat → Bool} {held : Bool}

theorem Try.cellsDate : Try.prog.cellsOf 39 = 3 := by kernel_rfl

theorem open_date {r : Reach} {b0 : Nat} {v : Value} {d : DataW H} {p : List MemPlace} (hv : Value.okWide Try.prog w r b0 39 v) (h : DataW.Trod enc Try.prog w base spare held 39 v d p) :
    ∃ (y m d : Int), v = .agg #[.int .i64 y, .int .i64 m, .int .i64 d] ∧ (-9223372036854775808 ≤ y ∧ y ≤ 9223372036854775807) ∧ (-9223372036854775808 ≤ m ∧ m ≤ 9223372036854775807) ∧ -9223372036854775808 ≤ d ∧ d ≤ 9223372036854775807 := by
  obtain ⟨c0, c1, c2, y0, y1, y2, m, rfl, _, _, hy0, hy1, hy2⟩ := open_agg3 Try.underlying39 (by kernel_rfl) Try.cellsDate hv h
  obtain ⟨x, e0, _, wx⟩ := DataW.trod_int Try.underlying3 hy0
  obtain ⟨y, e1, _, wy⟩ := DataW.trod_int Try.underlying3 hy1
  obtain ⟨f, e2, _, wf⟩ := DataW.trod_int Try.underlying3 hy2
  simp at e0 e1 e2
  subst e0 e1 e2
  exact ⟨x, y, f, rfl, bounds_i64 wx, bounds_i64 wy, bounds_i64 wf⟩
end

set_option maxRecDepth 100000 in
theorem civilDays_lifted (os : Os) (started : os.Started) (H : Type) (enc : TypeId × Value → H) :
    ReturnsInHanded {} Try.checked os 7 .any (Rows.civilDaysSpec.pre6 enc Try.prog Try.f7 Rows.civilDaysRow.domain false) (Rows.civilDaysSpec.post enc Try.prog Try.f7 false true false false) := by
  refine returnsInHanded_of_change (C := Try.checked) Try.own started (by kernel_rfl) Try.func7
    (ChangeSpec.witness6 (enc := enc) (C := Try.checked) false ⟨#[], #[.agg #[.int .i64 0, .int .i64 0, .int .i64 0]], []⟩ 8 (by kernel_rfl) (by kernel_rfl) (by kernel_rfl) (by kernel_rfl)) ?_
  intro W base args ds gs before hval0 hW hcnd _
  have hval : ∀ (j : Nat) t v, Try.f7.params[j]? = some t → args[j]? = some v → Value.okWide Try.prog W .any base t v := hval0
  have hW' := hW
  obtain ⟨p, q, hA0, hV, rfl, hfz, hnd⟩ := hW
  have hA : DataW.TrodAll enc Try.prog W 0 (fun _ => true) true Try.f7.params.toList args.toList ds p := hA0
  rw [Try.params7] at hA hval
  obtain ⟨v0, vs0, d0, ds0, p0, q0, hargs, rfl, rfl, h0, r0⟩ := trodAll_cons hA
  obtain ⟨rfl, rfl, rfl⟩ := trodAll_nil r0
  obtain rfl : args = #[v0] := by cases args; simp_all
  obtain ⟨rfl, rfl⟩ := trodVars_none hV
  obtain ⟨a0y, a0m, a0d, rfl, a0w⟩ := open_date (hval 0 39 v0 rfl rfl) h0
  clear hA0 hval0
  refine (civilDays_walk a0y a0m a0d W a0w).mono fun e W' ⟨he, hg⟩ => ?_
  subst he
  exact ⟨_, rfl, law_post Try.laidOut (by kernel_rfl) rfl rfl Try.underlying4 hW' rfl hg⟩

theorem civilDays_holds : Rows.CivilDaysSaid :=
  OpenClaim.holds_of_wide 7 Try.f7 rfl rfl rfl rfl rfl rfl rfl ⟨rfl, rfl, rfl, rfl, rfl⟩ rfl rfl rfl rfl rfl (by kernel_rfl) Try.func7 (by kernel_rfl)
    (of_decide_eq_true (by kernel_rfl)) (by unfold Func.isWrapper; first | (rw [if_pos (by decide +kernel)]; kernel_rfl) | (rw [if_neg (by decide +kernel)]; exact ⟨rfl, rfl⟩))
    (fun os started H enc _ => civilDays_lifted os started H enc)

#print axioms civilDays_holds

end Go.Proofs.Ytfoblnepbncieaa
