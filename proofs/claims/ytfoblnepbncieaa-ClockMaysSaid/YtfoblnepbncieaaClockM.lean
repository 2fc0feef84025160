/-
  ClockMays: for every input it returns true.
-/
import Derived.Test.YtfoblnepbncieaaClockA
import Derived.Deep.DeepCutAuto
namespace Go.Proofs.Ytfoblnepbncieaa
open Go.ChangeShapes Go.WideShapes Go.ChangeAt Go.RowKit

set_option maxRecDepth 100000 in
theorem mays_false_false (s o f : Int) (w : World) (hm : mayC s true f = false) :
    Calls Try.prog 5 #[.agg #[.int .i64 s, .bool false, .int .i64 o], .int .i64 f] w fun e w' =>
      e = .returned (.bool true) ∧ Below w.heap.size w w' := by
    have HM := Lib.hid hm
    clear hm
    go_enter Try.func5, Try.ntmps5
    go_wp2_with fail
    refine (law07_awake _).mono ?_
    rintro e w1 ⟨rfl, hb1⟩
    obtain ⟨t0, t1, t2, tf0, tf1, tf2, tl⟩ := keep3 (b := w.heap.size) (x := .int .i64 s) (y := .bool false) (z := .int .i64 o) hb1 (by simp [*]) (by simp [*]) (by simp [*]) (by simp [*]) (by simp [*]) (by simp [*])
    go_upto_region 3 with fail
    go_cut [5] (fun s5 wx => s5 = .bool (mayC s false o) ∧ wx = w1)
    case first =>
      go_wp2_with fail
      all_goals (go_meet; refine ⟨congrArg Value.bool ?_, rfl⟩; rw [Bool.eq_iff_iff]; simp [mayC, *]; try omega)
    case rest =>
      obtain ⟨rfl, rfl⟩ := hcut
      go_wp2_with fail
      refine (clock_at s false o f _ _ HM.out).mono ?_
      rintro e w2 ⟨rfl, hb2⟩
      obtain ⟨t0, t1, t2, tf0, tf1, tf2, tl⟩ := keep3 hb2 t0 t1 t2 tf0 tf1 tf2
      go_upto_region 5 with fail
      go_cut [8] (fun s8 wx => s8 = .bool false ∧ wx = w2.alloc (.cells #[.int .i64 0, .bool false, .int .i64 0] 23))
      case first =>
        have HM2 := HM.out
        simp [mayC] at HM2
        go_wp2_with fail
        all_goals (go_meet; refine ⟨congrArg Value.bool ?_, rfl⟩; (first | rfl | (simp; omega) | (exfalso; omega)))
      case rest =>
        obtain ⟨rfl, rfl⟩ := hcut
        go_wp2_with fail
        refine (clock_may s false o _).mono ?_
        rintro e w3 ⟨rfl, hb3⟩
        have g3 : Below w2.heap.size w2 w3 := by repeat (first | with_reducible exact bl_refl _ | with_reducible refine bl_alloc ?_ _ | with_reducible refine bl_set ?_ (by simp) _ | with_reducible refine bl_drew ?_ | with_reducible refine bl_drewN ?_ _ | with_reducible refine bl_trans ?_ (by assumption))
        obtain ⟨t0, t1, t2, tf0, tf1, tf2, tl⟩ := keep3 g3 t0 t1 t2 tf0 tf1 tf2
        obtain ⟨c0, c1, c2, cf0, cf1, cf2, cl⟩ := keep3 (b := w2.heap.size) (x := .int .i64 0) (y := .bool false) (z := .int .i64 0) hb3 (by simp [*]) (by simp [*]) (by simp [*]) (by simp [*]) (by simp [*]) (by simp [*])
        go_wp2_with fail
        go_ret
        refine ⟨rfl, ?_⟩
        repeat (first | with_reducible exact bl_refl _ | with_reducible refine bl_alloc ?_ _ | with_reducible refine bl_set ?_ (by simp) _ | with_reducible refine bl_drew ?_ | with_reducible refine bl_drewN ?_ _ | with_reducible refine bl_trans ?_ (by assumption))

set_option maxRecDepth 100000 in
theorem mays_true_false (s o f : Int) (w : World) (hm : mayC s true f = false) :
    Calls Try.prog 5 #[.agg #[.int .i64 s, .bool true, .int .i64 o], .int .i64 f] w fun e w' =>
      e = .returned (.bool true) ∧ Below w.heap.size w w' := by
    have HM := Lib.hid hm
    clear hm
    go_enter Try.func5, Try.ntmps5
    go_wp2_with fail
    refine (law07_awake _).mono ?_
    rintro e w1 ⟨rfl, hb1⟩
    obtain ⟨t0, t1, t2, tf0, tf1, tf2, tl⟩ := keep3 (b := w.heap.size) (x := .int .i64 s) (y := .bool true) (z := .int .i64 o) hb1 (by simp [*]) (by simp [*]) (by simp [*]) (by simp [*]) (by simp [*]) (by simp [*])
    go_upto_region 3 with fail
    go_cut [5] (fun s5 wx => s5 = .bool (mayC s true o) ∧ wx = w1)
    case first =>
      go_wp2_with fail
      all_goals (go_meet; refine ⟨congrArg Value.bool ?_, rfl⟩; rw [Bool.eq_iff_iff]; simp [mayC, *]; try omega)
    case rest =>
      obtain ⟨rfl, rfl⟩ := hcut
      go_wp2_with fail
      refine (clock_at s true o f _ _ HM.out).mono ?_
      rintro e w2 ⟨rfl, hb2⟩
      obtain ⟨t0, t1, t2, tf0, tf1, tf2, tl⟩ := keep3 hb2 t0 t1 t2 tf0 tf1 tf2
      go_upto_region 5 with fail
      go_cut [8] (fun s8 wx => s8 = .bool false ∧ wx = w2.alloc (.cells #[.int .i64 0, .bool false, .int .i64 0] 23))
      case first =>
        have HM2 := HM.out
        simp [mayC] at HM2
        go_wp2_with fail
        all_goals (go_meet; refine ⟨congrArg Value.bool ?_, rfl⟩; (first | rfl | (simp; omega) | (exfalso; omega)))
      case rest =>
        obtain ⟨rfl, rfl⟩ := hcut
        go_wp2_with fail
        refine (clock_may s true o _).mono ?_
        rintro e w3 ⟨rfl, hb3⟩
        have g3 : Below w2.heap.size w2 w3 := by repeat (first | with_reducible exact bl_refl _ | with_reducible refine bl_alloc ?_ _ | with_reducible refine bl_set ?_ (by simp) _ | with_reducible refine bl_drew ?_ | with_reducible refine bl_drewN ?_ _ | with_reducible refine bl_trans ?_ (by assumption))
        obtain ⟨t0, t1, t2, tf0, tf1, tf2, tl⟩ := keep3 g3 t0 t1 t2 tf0 tf1 tf2
        obtain ⟨c0, c1, c2, cf0, cf1, cf2, cl⟩ := keep3 (b := w2.heap.size) (x := .int .i64 0) (y := .bool false) (z := .int .i64 0) hb3 (by simp [*]) (by simp [*]) (by simp [*]) (by simp [*]) (by simp [*]) (by simp [*])
        go_wp2_with fail
        go_ret
        refine ⟨rfl, ?_⟩
        repeat (first | with_reducible exact bl_refl _ | with_reducible refine bl_alloc ?_ _ | with_reducible refine bl_set ?_ (by simp) _ | with_reducible refine bl_drew ?_ | with_reducible refine bl_drewN ?_ _ | with_reducible refine bl_trans ?_ (by assumption))

set_option maxRecDepth 100000 in
theorem mays_false_true (s o f : Int) (w : World) (hm : mayC s true f = true) :
    Calls Try.prog 5 #[.agg #[.int .i64 s, .bool false, .int .i64 o], .int .i64 f] w fun e w' =>
      e = .returned (.bool true) ∧ Below w.heap.size w w' := by
    have HM := Lib.hid hm
    clear hm
    go_enter Try.func5, Try.ntmps5
    go_wp2_with fail
    refine (law07_awake _).mono ?_
    rintro e w1 ⟨rfl, hb1⟩
    obtain ⟨t0, t1, t2, tf0, tf1, tf2, tl⟩ := keep3 (b := w.heap.size) (x := .int .i64 s) (y := .bool false) (z := .int .i64 o) hb1 (by simp [*]) (by simp [*]) (by simp [*]) (by simp [*]) (by simp [*]) (by simp [*])
    go_upto_region 3 with fail
    go_cut [5] (fun s5 wx => s5 = .bool (mayC s false o) ∧ wx = w1)
    case first =>
      go_wp2_with fail
      all_goals (go_meet; refine ⟨congrArg Value.bool ?_, rfl⟩; rw [Bool.eq_iff_iff]; simp [mayC, *]; try omega)
    case rest =>
      obtain ⟨rfl, rfl⟩ := hcut
      go_wp2_with fail
      refine (clock_at s false o f _ _ HM.out).mono ?_
      rintro e w2 ⟨rfl, hb2⟩
      obtain ⟨t0, t1, t2, tf0, tf1, tf2, tl⟩ := keep3 hb2 t0 t1 t2 tf0 tf1 tf2
      go_upto_region 5 with fail
      go_cut [8] (fun s8 wx => s8 = .bool true ∧ wx = w2.alloc (.cells #[.int .i64 s, .bool true, .int .i64 f] 23))
      case first =>
        have HM2 := HM.out
        simp [mayC] at HM2
        go_wp2_with fail
        all_goals (go_meet; refine ⟨congrArg Value.bool ?_, rfl⟩; (first | rfl | (simp; omega) | (exfalso; omega)))
      case rest =>
        obtain ⟨rfl, rfl⟩ := hcut
        go_wp2_with fail
        refine (clock_may s false o _).mono ?_
        rintro e w3 ⟨rfl, hb3⟩
        have g3 : Below w2.heap.size w2 w3 := by repeat (first | with_reducible exact bl_refl _ | with_reducible refine bl_alloc ?_ _ | with_reducible refine bl_set ?_ (by simp) _ | with_reducible refine bl_drew ?_ | with_reducible refine bl_drewN ?_ _ | with_reducible refine bl_trans ?_ (by assumption))
        obtain ⟨t0, t1, t2, tf0, tf1, tf2, tl⟩ := keep3 g3 t0 t1 t2 tf0 tf1 tf2
        obtain ⟨c0, c1, c2, cf0, cf1, cf2, cl⟩ := keep3 (b := w2.heap.size) (x := .int .i64 s) (y := .bool true) (z := .int .i64 f) hb3 (by simp [*]) (by simp [*]) (by simp [*]) (by simp [*]) (by simp [*]) (by simp [*])
        go_wp2_with fail
        go_ret
        refine ⟨rfl, ?_⟩
        repeat (first | with_reducible exact bl_refl _ | with_reducible refine bl_alloc ?_ _ | with_reducible refine bl_set ?_ (by simp) _ | with_reducible refine bl_drew ?_ | with_reducible refine bl_drewN ?_ _ | with_reducible refine bl_trans ?_ (by assumption))

set_option maxRecDepth 100000 in
theorem mays_true_true (s o f : Int) (w : World) (hm : mayC s true f = true) :
    Calls Try.prog 5 #[.agg #[.int .i64 s, .bool true, .int .i64 o], .int .i64 f] w fun e w' =>
      e = .returned (.bool true) ∧ Below w.heap.size w w' := by
    have HM := Lib.hid hm
    clear hm
    go_enter Try.func5, Try.ntmps5
    go_wp2_with fail
    refine (law07_awake _).mono ?_
    rintro e w1 ⟨rfl, hb1⟩
    obtain ⟨t0, t1, t2, tf0, tf1, tf2, tl⟩ := keep3 (b := w.heap.size) (x := .int .i64 s) (y := .bool true) (z := .int .i64 o) hb1 (by simp [*]) (by simp [*]) (by simp [*]) (by simp [*]) (by simp [*]) (by simp [*])
    go_upto_region 3 with fail
    go_cut [5] (fun s5 wx => s5 = .bool (mayC s true o) ∧ wx = w1)
    case first =>
      go_wp2_with fail
      all_goals (go_meet; refine ⟨congrArg Value.bool ?_, rfl⟩; rw [Bool.eq_iff_iff]; simp [mayC, *]; try omega)
    case rest =>
      obtain ⟨rfl, rfl⟩ := hcut
      go_wp2_with fail
      refine (clock_at s true o f _ _ HM.out).mono ?_
      rintro e w2 ⟨rfl, hb2⟩
      obtain ⟨t0, t1, t2, tf0, tf1, tf2, tl⟩ := keep3 hb2 t0 t1 t2 tf0 tf1 tf2
      go_upto_region 5 with fail
      go_cut [8] (fun s8 wx => s8 = .bool true ∧ wx = w2.alloc (.cells #[.int .i64 s, .bool true, .int .i64 f] 23))
      case first =>
        have HM2 := HM.out
        simp [mayC] at HM2
        go_wp2_with fail
        all_goals (go_meet; refine ⟨congrArg Value.bool ?_, rfl⟩; (first | rfl | (simp; omega) | (exfalso; omega)))
      case rest =>
        obtain ⟨rfl, rfl⟩ := hcut
        go_wp2_with fail
        refine (clock_may s true o _).mono ?_
        rintro e w3 ⟨rfl, hb3⟩
        have g3 : Below w2.heap.size w2 w3 := by repeat (first | with_reducible exact bl_refl _ | with_reducible refine bl_alloc ?_ _ | with_reducible refine bl_set ?_ (by simp) _ | with_reducible refine bl_drew ?_ | with_reducible refine bl_drewN ?_ _ | with_reducible refine bl_trans ?_ (by assumption))
        obtain ⟨t0, t1, t2, tf0, tf1, tf2, tl⟩ := keep3 g3 t0 t1 t2 tf0 tf1 tf2
        obtain ⟨c0, c1, c2, cf0, cf1, cf2, cl⟩ := keep3 (b := w2.heap.size) (x := .int .i64 s) (y := .bool true) (z := .int .i64 f) hb3 (by simp [*]) (by simp [*]) (by simp [*]) (by simp [*]) (by simp [*]) (by simp [*])
        go_wp2_with fail
        go_ret
        refine ⟨rfl, ?_⟩
        repeat (first | with_reducible exact bl_refl _ | with_reducible refine bl_alloc ?_ _ | with_reducible refine bl_set ?_ (by simp) _ | with_reducible refine bl_drew ?_ | with_reducible refine bl_drewN ?_ _ | with_reducible refine bl_trans ?_ (by assumption))

theorem clockMays_walk (s : Int) (z : Bool) (o f : Int) (w : World) (_n0 : (-9223372036854775808 ≤ s ∧ s ≤ 9223372036854775807) ∧ -9223372036854775808 ≤ o ∧ o ≤ 9223372036854775807) (_n1 : -9223372036854775808 ≤ f ∧ f ≤ 9223372036854775807) :
    Calls Try.prog 5 #[.agg #[.int .i64 s, .bool z, .int .i64 o], .int .i64 f] w fun e w' =>
      e = .returned (.bool true) ∧ Below w.heap.size w w' := by
  cases hm : mayC s true f <;> cases z
  · exact mays_false_false s o f w hm
  · exact mays_true_false s o f w hm
  · exact mays_false_true s o f w hm
  · exact mays_true_true s o f w hm

set_option maxRecDepth 100000 in
theorem clockMays_lifted (os : Os) (started : os.Started) (H : Type) (enc : TypeId × Value → H) :
    ReturnsInHanded {} Try.checked os 5 .any (Rows.clockMaysSpec.pre6 enc Try.prog Try.f5 Rows.clockMaysRow.domain false) (Rows.clockMaysSpec.post enc Try.prog Try.f5 false true false false) := by
  refine returnsInHanded_of_change (C := Try.checked) Try.own started (by kernel_rfl) Try.func5
    (ChangeSpec.witness6 (enc := enc) (C := Try.checked) false ⟨#[], #[.agg #[.int .i64 0, .bool false, .int .i64 0], .int .i64 0], []⟩ 8 (by kernel_rfl) (by kernel_rfl) (by kernel_rfl) (by kernel_rfl)) ?_
  intro W base args ds gs before hval0 hW hcnd _
  have hval : ∀ (j : Nat) t v, Try.f5.params[j]? = some t → args[j]? = some v → Value.okWide Try.prog W .any base t v := hval0
  have hW' := hW
  obtain ⟨p, q, hA0, hV, rfl, hfz, hnd⟩ := hW
  have hA : DataW.TrodAll enc Try.prog W 0 (fun _ => true) true Try.f5.params.toList args.toList ds p := hA0
  rw [Try.params5] at hA hval
  obtain ⟨v0, vs0, d0, ds0, p0, q0, hargs, rfl, rfl, h0, r0⟩ := trodAll_cons hA
  obtain ⟨v1, vs1, d1, ds1, p1, q1, rfl, rfl, rfl, h1, r1⟩ := trodAll_cons r0
  obtain ⟨rfl, rfl, rfl⟩ := trodAll_nil r1
  obtain rfl : args = #[v0, v1] := by cases args; simp_all
  obtain ⟨rfl, rfl⟩ := trodVars_none hV
  obtain ⟨a0s, a0z, a0o, rfl, a0w⟩ := open_time (hval 0 23 v0 rfl rfl) h0
  obtain ⟨a1, rfl, rfl, rfl, a1w⟩ := open_int Try.underlying3 (hval 1 3 v1 rfl rfl) h1
  clear hA0 hval0
  refine (clockMays_walk a0s a0z a0o a1 W a0w (bounds_i64 a1w)).mono fun e W' ⟨he, hg⟩ => ?_
  subst he
  exact ⟨_, rfl, law_post Try.laidOut (by kernel_rfl) rfl rfl Try.underlying4 hW' rfl hg⟩

theorem clockMays_holds : Rows.ClockMaysSaid :=
  OpenClaim.holds_of_wide 5 Try.f5 rfl rfl rfl rfl rfl rfl rfl ⟨rfl, rfl, rfl, rfl, rfl⟩ rfl rfl rfl rfl rfl (by kernel_rfl) Try.func5 (by kernel_rfl)
    (of_decide_eq_true (by kernel_rfl)) (by unfold Func.isWrapper; first | (rw [if_pos (by decide +kernel)]; kernel_rfl) | (rw [if_neg (by decide +kernel)]; exact ⟨rfl, rfl⟩))
    (fun os started H enc _ => clockMays_lifted os started H enc)

#print axioms clockMays_holds

end Go.Proofs.Ytfoblnepbncieaa
