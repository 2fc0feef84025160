/-
  CivilNumbers: for every input it returns true.
-/
import Derived.Test.YtfoblnepbncieaaCivilA
import Derived.Test.YtfoblnepbncieaaCivilS
namespace Go.Proofs.Ytfoblnepbncieaa
open Go.ChangeShapes Go.WideShapes Go.ChangeAt Go.RowKit

set_option maxRecDepth 100000 in
set_option maxHeartbeats 1000000 in
theorem civilNumbers_core (oy om od y m d : Int) (w : World) (h : Civ.may y m d = true) (hmk : ∀ w, Calls Try.prog 41 #[.int .i64 oy, .int .i64 om, .int .i64 od] w fun e w' =>
      e = .returned (.agg #[.int .i64 y, .int .i64 m, .int .i64 d]) ∧ Below w.heap.size w w') :
    Calls Try.prog 8 #[.int .i64 oy, .int .i64 om, .int .i64 od] w fun e w' =>
      e = .returned (.bool true) ∧ Below w.heap.size w w' := by
  obtain ⟨y1, y2, d1, d2⟩ := (may_iff y m d).1 h
  obtain ⟨m1, m2, _⟩ := Civ.num_bounds y m d d1 d2
  have lb := Civ.len_pos y m m1 m2
  have HMK := Lib.hid hmk
  have H := Lib.hid h
  have R1 := Lib.hid (ref_number y m d (by omega) (by omega) m1 m2 d1 (by omega))
  have R2 := Lib.hid (ref_weekday y m d (by omega) (by omega) m1 m2 d1 (by omega))
  have R3 := Lib.hid (ref_yearday y m d m1 m2 d1 (by omega))
  have R4 := Lib.hid (ref_week y m d h)
  clear h hmk lb y1 y2 d1 d2 m1 m2
  go_enter Try.func8, Try.ntmps8
  go_wp2_with fail
  refine (law06_awake _).mono ?_
  rintro e w1 ⟨rfl, hb1⟩
  go_wp2_with fail
  refine (HMK.out _).mono ?_
  rintro e w2 ⟨rfl, hb2⟩
  go_wp2_with fail
  refine (civil_number_yes y m d H.out _).mono ?_
  rintro e w3 ⟨rfl, hb3⟩
  obtain ⟨t0, t1, t2, tf0, tf1, tf2, tl⟩ := keep3 (b := w2.heap.size) (x := .int .i64 y) (y := .int .i64 m) (z := .int .i64 d) hb3 (by simp [*]) (by simp [*]) (by simp [*]) (by simp [*]) (by simp [*]) (by simp [*])
  have hbW : Below w.heap.size w w3 := by (repeat (first | with_reducible assumption | with_reducible exact bl_refl _ | with_reducible refine bl_alloc ?_ _ | with_reducible refine bl_set ?_ (by simp) _ | with_reducible refine bl_drew ?_ | with_reducible refine bl_drewN ?_ _ | with_reducible refine bl_trans ?_ (by assumption)))
  clear hb1 hb2 hb3
  go_upto_region 5 with fail
  go_region_held3 (fun w' => w'.cell? ⟨w2.heap.size, 0, none⟩ = some (.int .i64 y) ∧ w'.cell? ⟨w2.heap.size, 1, none⟩ = some (.int .i64 m) ∧ w'.cell? ⟨w2.heap.size, 2, none⟩ = some (.int .i64 d) ∧ Below w.heap.size w w')
    (((try go_split_ands); (repeat' apply And.intro) <;> (first | (simp [*]; done) | ((repeat (first | with_reducible assumption | with_reducible exact bl_refl _ | with_reducible refine bl_alloc ?_ _ | with_reducible refine bl_set ?_ (by simp) _ | with_reducible refine bl_drew ?_ | with_reducible refine bl_drewN ?_ _ | with_reducible refine bl_trans ?_ (by assumption))); done))))
    (first
      | (go_at_call 42; refine (R1.out _).mono ?_; rintro e w' ⟨rfl, rfl⟩)
      | (go_at_call 38; refine (civil_weekday_yes _ _ _ H.out _).mono ?_; rintro e w' ⟨rfl, hb⟩; have hk := below_keeps hb)
      | (go_at_call 43; refine (R2.out _).mono ?_; rintro e w' ⟨rfl, rfl⟩)
      | (go_at_call 39; refine (civil_yearday_yes _ _ _ H.out _).mono ?_; rintro e w' ⟨rfl, hb⟩; have hk := below_keeps hb)
      | (go_at_call 44; refine (R3.out _).mono ?_; rintro e w' ⟨rfl, rfl⟩)
      | (go_at_call 40; refine (civil_week_yes _ _ _ H.out _).mono ?_; rintro e w' ⟨rfl, hb⟩; have hk := below_keeps hb)
      | (go_at_call 45; refine (R4.out _).mono ?_; rintro e w' ⟨rfl, rfl⟩))
  obtain ⟨t0, t1, t2, hw⟩ := ‹_ ∧ _ ∧ _ ∧ Below w.heap.size w _›
  go_wp2_with fail
  go_ret
  exact ⟨rfl, hw⟩

theorem civilNumbers_walk (y m d : Int) (w : World) (_n0 : -9223372036854775808 ≤ y ∧ y ≤ 9223372036854775807) (_n1 : -9223372036854775808 ≤ m ∧ m ≤ 9223372036854775807) (_n2 : -9223372036854775808 ≤ d ∧ d ≤ 9223372036854775807) :
    Calls Try.prog 8 #[.int .i64 y, .int .i64 m, .int .i64 d] w fun e w' =>
      e = .returned (.bool true) ∧ Below w.heap.size w w' :=
  civilNumbers_core y m d (mkY y) (mkM m) (mkD y m d) w (mk_may y m d) (law06_make y m d)

set_option maxRecDepth 100000 in
theorem civilNumbers_lifted (os : Os) (started : os.Started) (H : Type) (enc : TypeId × Value → H) :
    ReturnsInHanded {} Try.checked os 8 .any (Rows.civilNumbersSpec.pre6 enc Try.prog Try.f8 Rows.civilNumbersRow.domain false) (Rows.civilNumbersSpec.post enc Try.prog Try.f8 false true false false) := by
  refine returnsInHanded_of_change (C := Try.checked) Try.own started (by kernel_rfl) Try.func8
    (ChangeSpec.witness6 (enc := enc) (C := Try.checked) false ⟨#[], #[.int .i64 0, .int .i64 0, .int .i64 0], []⟩ 8 (by kernel_rfl) (by kernel_rfl) (by kernel_rfl) (by kernel_rfl)) ?_
  intro W base args ds gs before hval0 hW hcnd _
  have hval : ∀ (j : Nat) t v, Try.f8.params[j]? = some t → args[j]? = some v → Value.okWide Try.prog W .any base t v := hval0
  have hW' := hW
  obtain ⟨p, q, hA0, hV, rfl, hfz, hnd⟩ := hW
  have hA : DataW.TrodAll enc Try.prog W 0 (fun _ => true) true Try.f8.params.toList args.toList ds p := hA0
  rw [Try.params8] at hA hval
  obtain ⟨v0, vs0, d0, ds0, p0, q0, hargs, rfl, rfl, h0, r0⟩ := trodAll_cons hA
  obtain ⟨v1, vs1, d1, ds1, p1, q1, rfl, rfl, rfl, h1, r1⟩ := trodAll_cons r0
  obtain ⟨v2, vs2, d2, ds2, p2, q2, rfl, rfl, rfl, h2, r2⟩ := trodAll_cons r1
  obtain ⟨rfl, rfl, rfl⟩ := trodAll_nil r2
  obtain rfl : args = #[v0, v1, v2] := by cases args; simp_all
  obtain ⟨rfl, rfl⟩ := trodVars_none hV
  obtain ⟨a0, rfl, rfl, rfl, a0w⟩ := open_int Try.underlying3 (hval 0 3 v0 rfl rfl) h0
  obtain ⟨a1, rfl, rfl, rfl, a1w⟩ := open_int Try.underlying3 (hval 1 3 v1 rfl rfl) h1
  obtain ⟨a2, rfl, rfl, rfl, a2w⟩ := open_int Try.underlying3 (hval 2 3 v2 rfl rfl) h2
  clear hA0 hval0
  refine (civilNumbers_walk a0 a1 a2 W (bounds_i64 a0w) (bounds_i64 a1w) (bounds_i64 a2w)).mono fun e W' ⟨he, hg⟩ => ?_
  subst he
  exact ⟨_, rfl, law_post Try.laidOut (by kernel_rfl) rfl rfl Try.underlying4 hW' rfl hg⟩

theorem civilNumbers_holds : Rows.CivilNumbersSaid :=
  OpenClaim.holds_of_wide 8 Try.f8 rfl rfl rfl rfl rfl rfl rfl ⟨rfl, rfl, rfl, rfl, rfl⟩ rfl rfl rfl rfl rfl (by kernel_rfl) Try.func8 (by kernel_rfl)
    (of_decide_eq_true (by kernel_rfl)) (by unfold Func.isWrapper; first | (rw [if_pos (by decide +kernel)]; kernel_rfl) | (rw [if_neg (by decide +kernel)]; exact ⟨rfl, rfl⟩))
    (fun os started H enc _ => civilNumbers_lifted os started H enc)

#print axioms civilNumbers_holds

end Go.Proofs.Ytfoblnepbncieaa
