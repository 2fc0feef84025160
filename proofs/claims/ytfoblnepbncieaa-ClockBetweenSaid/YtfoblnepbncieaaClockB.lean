/-
  ClockBetween: for every input it returns true.
-/
import Derived.Test.YtfoblnepbncieaaClockA
namespace Go.Proofs.Ytfoblnepbncieaa
open Go.ChangeShapes Go.WideShapes Go.ChangeAt Go.RowKit

theorem made_bounds (s : Int) (z : Bool) (o : Int) : (-1000000 ≤ s % 86400 ∧ s % 86400 ≤ 1000000) ∧ -1000000 ≤ (if z then o.tmod 64801 else 0) ∧ (if z then o.tmod 64801 else 0) ≤ 1000000 := by
  obtain ⟨b1, b2⟩ := tmod_in o 64801 (by omega)
  cases z <;> simp <;> omega

theorem cmpI_cases (a b : Int) : (a < b ∧ cmpI a b < 0) ∨ (b < a ∧ 0 < cmpI a b) ∨ (a ≤ b ∧ b ≤ a ∧ cmpI a b ≤ 0 ∧ 0 ≤ cmpI a b) := by
  unfold cmpI
  by_cases h : a < b
  · rw [if_pos h]; omega
  · rw [if_neg h]
    by_cases g : b < a
    · rw [if_pos g]; omega
    · rw [if_neg g]; omega

set_option maxRecDepth 100000 in
set_option maxHeartbeats 1000000 in
theorem clockBetween_walk (s : Int) (tz : Bool) (o x y z : Int) (zd : Bool) (f : Int) (w : World)
    (_n0 : (-9223372036854775808 ≤ s ∧ s ≤ 9223372036854775807) ∧ -9223372036854775808 ≤ o ∧ o ≤ 9223372036854775807) (_n1 : -9223372036854775808 ≤ x ∧ x ≤ 9223372036854775807)
    (_n2 : -9223372036854775808 ≤ y ∧ y ≤ 9223372036854775807) (_n3 : -9223372036854775808 ≤ z ∧ z ≤ 9223372036854775807) (_n4 : -9223372036854775808 ≤ f ∧ f ≤ 9223372036854775807) :
    Calls Try.prog 6 #[.agg #[.int .i64 s, .bool tz, .int .i64 o], .int .i64 x, .int .i64 y, .int .i64 z, .bool zd, .int .i64 f] w fun e w' =>
      e = .returned (.bool true) ∧ Below w.heap.size w w' := by
  clear _n0 _n1 _n2 _n3 _n4
  have P1 := Lib.hid (made_bounds x zd f)
  have P2 := Lib.hid (made_bounds y zd x)
  have P3 := Lib.hid (made_bounds z zd y)
  generalize h1 : x % 86400 = px at P1
  generalize h2 : y % 86400 = qx at P2
  generalize h3 : z % 86400 = rx at P3
  generalize h4 : (if zd then f.tmod 64801 else 0) = po at P1
  generalize h5 : (if zd then x.tmod 64801 else 0) = qo at P2
  generalize h6 : (if zd then y.tmod 64801 else 0) = ro at P3
  have H1 := Lib.hid h1
  have H2 := Lib.hid h2
  have H3 := Lib.hid h3
  have H4 := Lib.hid h4
  have H5 := Lib.hid h5
  have H6 := Lib.hid h6
  clear h1 h2 h3 h4 h5 h6
  go_enter Try.func6, Try.ntmps6
  go_wp2_with fail
  refine (law07_awake _).mono ?_
  rintro e w1 ⟨rfl, hb1⟩
  obtain ⟨t0, t1, t2, tf0, tf1, tf2, tl⟩ := keep3 (b := w.heap.size) (x := .int .i64 s) (y := .bool tz) (z := .int .i64 o) hb1 (by simp [*]) (by simp [*]) (by simp [*]) (by simp [*]) (by simp [*]) (by simp [*])
  go_wp2_with fail
  refine (law07_make s true o _).mono ?_
  rintro e w2 ⟨rfl, hb2⟩
  obtain ⟨t0, t1, t2, tf0, tf1, tf2, tl⟩ := keep3 hb2 t0 t1 t2 tf0 tf1 tf2
  go_wp2_with fail
  refine (law07_make x false 0 _).mono ?_
  rintro e w3 ⟨rfl, hb3⟩
  obtain ⟨t0, t1, t2, tf0, tf1, tf2, tl⟩ := keep3 hb3 t0 t1 t2 tf0 tf1 tf2
  go_wp2_with fail
  refine (clock_between_no _ true _ _ false _ _ (by decide)).mono ?_
  rintro e w4 ⟨rfl, hb4⟩
  obtain ⟨t0, t1, t2, tf0, tf1, tf2, tl⟩ := keep3 hb4 t0 t1 t2 tf0 tf1 tf2
  go_wp2_with fail
  refine (law07_make s false 0 _).mono ?_
  rintro e w5 ⟨rfl, hb5⟩
  go_wp2_with fail
  refine (law07_make y true f _).mono ?_
  rintro e w6 ⟨rfl, hb6⟩
  go_wp2_with fail
  refine (clock_cmp_no _ false _ _ true _ _ (by decide)).mono ?_
  rintro e w7 ⟨rfl, hb7⟩
  go_wp2_with fail
  refine (law07_make x zd f _).mono ?_
  rintro e w8 ⟨rfl, hb8⟩
  rw [H1.out, H4.out]
  go_wp2_with fail
  refine (law07_make y zd x _).mono ?_
  rintro e w9 ⟨rfl, hb9⟩
  rw [H2.out, H5.out]
  go_wp2_with fail
  refine (law07_make z zd y _).mono ?_
  rintro e w10 ⟨rfl, hb10⟩
  rw [H3.out, H6.out]
  go_wp2_with fail
  refine (clock_between_yes px zd po qx qo _ P1.out.1 P1.out.2 P2.out.1 P2.out.2).mono ?_
  rintro e w11 ⟨rfl, hb11⟩
  have z0 : w10.heap.size < w10.heap.size + 1 + 1 := by omega
  have z1 : w10.heap.size < w10.heap.size + 1 + 1 + 1 := by omega
  obtain ⟨p0, p1, p2, pf0, pf1, pf2, pl⟩ := keep3 (b := w10.heap.size) (x := .int .i64 px) (y := .bool zd) (z := .int .i64 po) hb11 (by simp [go_sem, *]) (by simp [go_sem, *]) (by simp [go_sem, *]) (by simp [go_sem, *]) (by simp [go_sem, *]) (by simp [go_sem, *])
  obtain ⟨q0, q1, q2, qf0, qf1, qf2, ql⟩ := keep3 (b := w10.heap.size + 1) (x := .int .i64 qx) (y := .bool zd) (z := .int .i64 qo) hb11 (by simp [go_sem, *]) (by simp [go_sem, *]) (by simp [go_sem, *]) (by simp [go_sem, *]) (by simp [go_sem, *]) (by simp [go_sem, *])
  obtain ⟨r0, r1, r2, rf0, rf1, rf2, rl⟩ := keep3 (b := w10.heap.size + 1 + 1) (x := .int .i64 rx) (y := .bool zd) (z := .int .i64 ro) hb11 (by simp [go_sem, *]) (by simp [go_sem, *]) (by simp [go_sem, *]) (by simp [go_sem, *]) (by simp [go_sem, *]) (by simp [go_sem, *])
  go_wp2_with fail
  refine (clock_between_yes qx zd qo px po _ P2.out.1 P2.out.2 P1.out.1 P1.out.2).mono ?_
  rintro e w12 ⟨rfl, hb12⟩
  obtain ⟨p0, p1, p2, pf0, pf1, pf2, pl⟩ := keep3 hb12 p0 p1 p2 pf0 pf1 pf2
  obtain ⟨q0, q1, q2, qf0, qf1, qf2, ql⟩ := keep3 hb12 q0 q1 q2 qf0 qf1 qf2
  obtain ⟨r0, r1, r2, rf0, rf1, rf2, rl⟩ := keep3 hb12 r0 r1 r2 rf0 rf1 rf2
  go_wp2_with fail
  refine (clock_between_yes qx zd qo rx ro _ P2.out.1 P2.out.2 P3.out.1 P3.out.2).mono ?_
  rintro e w13 ⟨rfl, hb13⟩
  obtain ⟨p0, p1, p2, pf0, pf1, pf2, pl⟩ := keep3 hb13 p0 p1 p2 pf0 pf1 pf2
  obtain ⟨q0, q1, q2, qf0, qf1, qf2, ql⟩ := keep3 hb13 q0 q1 q2 qf0 qf1 qf2
  obtain ⟨r0, r1, r2, rf0, rf1, rf2, rl⟩ := keep3 hb13 r0 r1 r2 rf0 rf1 rf2
  go_wp2_with fail
  refine (clock_between_yes px zd po rx ro _ P1.out.1 P1.out.2 P3.out.1 P3.out.2).mono ?_
  rintro e w14 ⟨rfl, hb14⟩
  obtain ⟨p0, p1, p2, pf0, pf1, pf2, pl⟩ := keep3 hb14 p0 p1 p2 pf0 pf1 pf2
  obtain ⟨q0, q1, q2, qf0, qf1, qf2, ql⟩ := keep3 hb14 q0 q1 q2 qf0 qf1 qf2
  go_wp2_with fail
  refine (clock_cmp_yes px zd po qx qo _ P1.out.1 P1.out.2 P2.out.1 P2.out.2).mono ?_
  rintro e w15 ⟨rfl, hb15⟩
  obtain ⟨p0, p1, p2, pf0, pf1, pf2, pl⟩ := keep3 hb15 p0 p1 p2 pf0 pf1 pf2
  obtain ⟨q0, q1, q2, qf0, qf1, qf2, ql⟩ := keep3 hb15 q0 q1 q2 qf0 qf1 qf2
  have hcs := cmpI_cases (px - po) (qx - qo)
  generalize cmpI (px - po) (qx - qo) = c at hcs ⊢
  obtain ⟨⟨_, _⟩, _, _⟩ := P1.out
  obtain ⟨⟨_, _⟩, _, _⟩ := P2.out
  obtain ⟨⟨_, _⟩, _, _⟩ := P3.out
  rcases hcs with ⟨_, _⟩ | ⟨_, _⟩ | ⟨_, _, _, _⟩
  all_goals
    go_wp2_with fail
    go_ret
    refine ⟨rfl, ?_⟩
    repeat (first | with_reducible exact bl_refl _ | with_reducible refine bl_alloc ?_ _ | with_reducible refine bl_set ?_ (by simp) _ | with_reducible refine bl_drew ?_ | with_reducible refine bl_drewN ?_ _ | with_reducible refine bl_trans ?_ (by assumption))

set_option maxRecDepth 100000 in
theorem clockBetween_lifted (os : Os) (started : os.Started) (H : Type) (enc : TypeId × Value → H) :
    ReturnsInHanded {} Try.checked os 6 .any (Rows.clockBetweenSpec.pre6 enc Try.prog Try.f6 Rows.clockBetweenRow.domain false) (Rows.clockBetweenSpec.post enc Try.prog Try.f6 false true false false) := by
  refine returnsInHanded_of_change (C := Try.checked) Try.own started (by kernel_rfl) Try.func6
    (ChangeSpec.witness6 (enc := enc) (C := Try.checked) false ⟨#[], #[.agg #[.int .i64 0, .bool false, .int .i64 0], .int .i64 0, .int .i64 0, .int .i64 0, .bool false, .int .i64 0], []⟩ 8 (by kernel_rfl) (by kernel_rfl) (by kernel_rfl) (by kernel_rfl)) ?_
  intro W base args ds gs before hval0 hW hcnd _
  have hval : ∀ (j : Nat) t v, Try.f6.params[j]? = some t → args[j]? = some v → Value.okWide Try.prog W .any base t v := hval0
  have hW' := hW
  obtain ⟨p, q, hA0, hV, rfl, hfz, hnd⟩ := hW
  have hA : DataW.TrodAll enc Try.prog W 0 (fun _ => true) true Try.f6.params.toList args.toList ds p := hA0
  rw [Try.params6] at hA hval
  obtain ⟨v0, vs0, d0, ds0, p0, q0, hargs, rfl, rfl, h0, r0⟩ := trodAll_cons hA
  obtain ⟨v1, vs1, d1, ds1, p1, q1, rfl, rfl, rfl, h1, r1⟩ := trodAll_cons r0
  obtain ⟨v2, vs2, d2, ds2, p2, q2, rfl, rfl, rfl, h2, r2⟩ := trodAll_cons r1
  obtain ⟨v3, vs3, d3, ds3, p3, q3, rfl, rfl, rfl, h3, r3⟩ := trodAll_cons r2
  obtain ⟨v4, vs4, d4, ds4, p4, q4, rfl, rfl, rfl, h4, r4⟩ := trodAll_cons r3
  obtain ⟨v5, vs5, d5, ds5, p5, q5, rfl, rfl, rfl, h5, r5⟩ := trodAll_cons r4
  obtain ⟨rfl, rfl, rfl⟩ := trodAll_nil r5
  obtain rfl : args = #[v0, v1, v2, v3, v4, v5] := by cases args; simp_all
  obtain ⟨rfl, rfl⟩ := trodVars_none hV
  obtain ⟨a0s, a0z, a0o, rfl, a0w⟩ := open_time (hval 0 23 v0 rfl rfl) h0
  obtain ⟨a1, rfl, rfl, rfl, a1w⟩ := open_int Try.underlying3 (hval 1 3 v1 rfl rfl) h1
  obtain ⟨a2, rfl, rfl, rfl, a2w⟩ := open_int Try.underlying3 (hval 2 3 v2 rfl rfl) h2
  obtain ⟨a3, rfl, rfl, rfl, a3w⟩ := open_int Try.underlying3 (hval 3 3 v3 rfl rfl) h3
  obtain ⟨a4, rfl, rfl, rfl⟩ := open_bool Try.underlying4 (hval 4 4 v4 rfl rfl) h4
  obtain ⟨a5, rfl, rfl, rfl, a5w⟩ := open_int Try.underlying3 (hval 5 3 v5 rfl rfl) h5
  clear hA0 hval0
  refine (clockBetween_walk a0s a0z a0o a1 a2 a3 a4 a5 W a0w (bounds_i64 a1w) (bounds_i64 a2w) (bounds_i64 a3w) (bounds_i64 a5w)).mono fun e W' ⟨he, hg⟩ => ?_
  subst he
  exact ⟨_, rfl, law_post Try.laidOut (by kernel_rfl) rfl rfl Try.underlying4 hW' rfl hg⟩

theorem clockBetween_holds : Rows.ClockBetweenSaid :=
  OpenClaim.holds_of_wide 6 Try.f6 rfl rfl rfl rfl rfl rfl rfl ⟨rfl, rfl, rfl, rfl, rfl⟩ rfl rfl rfl rfl rfl (by kernel_rfl) Try.func6 (by kernel_rfl)
    (of_decide_eq_true (by kernel_rfl)) (by unfold Func.isWrapper; first | (rw [if_pos (by decide +kernel)]; kernel_rfl) | (rw [if_neg (by decide +kernel)]; exact ⟨rfl, rfl⟩))
    (fun os started H enc _ => clockBetween_lifted os started H enc)

#print axioms clockBetween_holds

end Go.Proofs.Ytfoblnepbncieaa
