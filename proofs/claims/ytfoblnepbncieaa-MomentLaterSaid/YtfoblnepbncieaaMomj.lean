/-
  MomentLater: for every input it returns true.
-/
import Derived.Test.YtfoblnepbncieaaMomi
namespace Go.Proofs.Ytfoblnepbncieaa
open Go.ChangeShapes Go.WideShapes Go.ChangeAt Go.RowKit

set_option maxRecDepth 100000 in
set_option maxHeartbeats 2000000 in
theorem momentLater_walk (ry rm rd rs ro : Int) (rz : Bool) (n : Int) (y m d s : Int) (z : Bool) (o : Int) (w : World)
    (_n0 : (-9223372036854775808 ≤ ry ∧ ry ≤ 9223372036854775807) ∧ (-9223372036854775808 ≤ rm ∧ rm ≤ 9223372036854775807) ∧ (-9223372036854775808 ≤ rd ∧ rd ≤ 9223372036854775807) ∧ (-9223372036854775808 ≤ rs ∧ rs ≤ 9223372036854775807) ∧ -9223372036854775808 ≤ ro ∧ ro ≤ 9223372036854775807)
    (_n1 : -9223372036854775808 ≤ n ∧ n ≤ 9223372036854775807)
    (_n2 : (-9223372036854775808 ≤ y ∧ y ≤ 9223372036854775807) ∧ (-9223372036854775808 ≤ m ∧ m ≤ 9223372036854775807) ∧ (-9223372036854775808 ≤ d ∧ d ≤ 9223372036854775807) ∧ (-9223372036854775808 ≤ s ∧ s ≤ 9223372036854775807) ∧ -9223372036854775808 ≤ o ∧ o ≤ 9223372036854775807) :
    Calls Try.prog 14 #[.agg #[.int .i64 ry, .int .i64 rm, .int .i64 rd, .int .i64 rs, .int .i64 ro, .bool rz], .int .i64 n, .agg #[.int .i64 y, .int .i64 m, .int .i64 d, .int .i64 s, .bool z, .int .i64 o]] w fun e w' =>
      e = .returned (.bool true) ∧ Below w.heap.size w w' := by
  clear _n0 _n1 _n2
  obtain ⟨ay, am, ad, ax, ha, hA⟩ := law08_made ry rm rd rs ro rz
  generalize offM rz ro = ao at *
  have HA := Lib.hid hA
  have HM := Lib.hid (moment_may y m d s z o)
  have HZ := Lib.hid (later_zero y m d s z o _ rfl)
  generalize mayM y m d s z o = mm at *
  have z1 : w.heap.size < w.heap.size + 1 + 1 := by omega
  rcases later_cases ay am ad ax rz ao n ha with ⟨hP, hL⟩ | ⟨Y, M, D, S, n1, n2, hb, hi, hL⟩
  · have HL := Lib.hid hL
    clear hA ha hL HM HZ
    go_enter Try.func14, Try.ntmps14
    go_wp2_with fail
    refine (law08_awake _).mono ?_
    rintro e w1 ⟨rfl, hb1⟩
    obtain ⟨r0, r1, r2, r3, r4, r5, rl⟩ := keepc6 (b := w.heap.size) (c0 := .int .i64 ry) (c1 := .int .i64 rm) (c2 := .int .i64 rd) (c3 := .int .i64 rs) (c4 := .int .i64 ro) (c5 := .bool rz) hb1 (by simp [go_sem, *]) (by simp [go_sem, *]) (by simp [go_sem, *]) (by simp [go_sem, *]) (by simp [go_sem, *]) (by simp [go_sem, *])
    have hbx : Below w.heap.size w w1 := by (repeat (first | with_reducible assumption | with_reducible exact bl_refl _ | with_reducible refine bl_alloc ?_ _ | with_reducible refine bl_set ?_ (by first | (simp; done) | (simp; omega)) _ | with_reducible refine bl_drew ?_ | with_reducible refine bl_drewN ?_ _ | with_reducible refine bl_trans ?_ (by assumption)))
    clear hb1
    go_wp2_with fail
    refine (HA.out _).mono ?_
    rintro e w2 ⟨rfl, hb2⟩
    have hbx : Below w.heap.size w w2 := by (repeat (first | with_reducible assumption | with_reducible exact bl_refl _ | with_reducible refine bl_alloc ?_ _ | with_reducible refine bl_set ?_ (by first | (simp; done) | (simp; omega)) _ | with_reducible refine bl_drew ?_ | with_reducible refine bl_drewN ?_ _ | with_reducible refine bl_trans ?_ (by assumption)))
    clear hb2
    go_wp2_with fail
    refine (HL.out _).mono ?_
    rintro e w3 ⟨rfl, hb3⟩
    obtain ⟨a0, a1, a2, a3, a4, a5, al⟩ := keepc6 (b := w2.heap.size) (c0 := .int .i64 ay) (c1 := .int .i64 am) (c2 := .int .i64 ad) (c3 := .int .i64 ax) (c4 := .bool rz) (c5 := .int .i64 ao) hb3 (by simp [go_sem, *]) (by simp [go_sem, *]) (by simp [go_sem, *]) (by simp [go_sem, *]) (by simp [go_sem, *]) (by simp [go_sem, *])
    have hbx : Below w.heap.size w w3 := by (repeat (first | with_reducible assumption | with_reducible exact bl_refl _ | with_reducible refine bl_alloc ?_ _ | with_reducible refine bl_set ?_ (by first | (simp; done) | (simp; omega)) _ | with_reducible refine bl_drew ?_ | with_reducible refine bl_drewN ?_ _ | with_reducible refine bl_trans ?_ (by assumption)))
    clear hb3
    rcases hP with h | h | h | h | h | h
    all_goals go_wp2_with fail
    all_goals
      go_ret
      refine ⟨?_, ?_⟩
    all_goals first | ((repeat (first | with_reducible assumption | with_reducible exact bl_refl _ | with_reducible refine bl_alloc ?_ _ | with_reducible refine bl_set ?_ (by simp) _ | with_reducible refine bl_drew ?_ | with_reducible refine bl_drewN ?_ _ | with_reducible refine bl_trans ?_ (by assumption))); done) | rfl | (exfalso; omega) | (simp [go_sem, *]; done)
  · have HL := Lib.hid hL
    have HB := Lib.hid (later_back ay am ad ax rz ao Y M D S n ha hb hi n1 n2)
    have HT := moment_between_yes ay am ad ax rz ao Y M D S ao ha hb
    rw [hi, show ins ay am ad ax ao + n - ins ay am ad ax ao = n by omega] at HT
    have HT := Lib.hid HT
    clear hA ha hL hb hi
    cases mm
    all_goals
      go_enter Try.func14, Try.ntmps14
      go_wp2_with fail
      refine (law08_awake _).mono ?_
      rintro e w1 ⟨rfl, hb1⟩
      obtain ⟨r0, r1, r2, r3, r4, r5, rl⟩ := keepc6 (b := w.heap.size) (c0 := .int .i64 ry) (c1 := .int .i64 rm) (c2 := .int .i64 rd) (c3 := .int .i64 rs) (c4 := .int .i64 ro) (c5 := .bool rz) hb1 (by simp [go_sem, *]) (by simp [go_sem, *]) (by simp [go_sem, *]) (by simp [go_sem, *]) (by simp [go_sem, *]) (by simp [go_sem, *])
      obtain ⟨m0, m1, m2, m3, m4, m5, ml⟩ := keepc6 (b := w.heap.size + 1) (c0 := .int .i64 y) (c1 := .int .i64 m) (c2 := .int .i64 d) (c3 := .int .i64 s) (c4 := .bool z) (c5 := .int .i64 o) hb1 (by simp [go_sem, *]) (by simp [go_sem, *]) (by simp [go_sem, *]) (by simp [go_sem, *]) (by simp [go_sem, *]) (by simp [go_sem, *])
      have hbx : Below w.heap.size w w1 := by (repeat (first | with_reducible assumption | with_reducible exact bl_refl _ | with_reducible refine bl_alloc ?_ _ | with_reducible refine bl_set ?_ (by first | (simp; done) | (simp; omega)) _ | with_reducible refine bl_drew ?_ | with_reducible refine bl_drewN ?_ _ | with_reducible refine bl_trans ?_ (by assumption)))
      clear hb1
      go_wp2_with fail
      refine (HA.out _).mono ?_
      rintro e w2 ⟨rfl, hb2⟩
      obtain ⟨m0, m1, m2, m3, m4, m5, ml⟩ := keepc6 hb2 m0 m1 m2 m3 m4 m5
      have hbx : Below w.heap.size w w2 := by (repeat (first | with_reducible assumption | with_reducible exact bl_refl _ | with_reducible refine bl_alloc ?_ _ | with_reducible refine bl_set ?_ (by first | (simp; done) | (simp; omega)) _ | with_reducible refine bl_drew ?_ | with_reducible refine bl_drewN ?_ _ | with_reducible refine bl_trans ?_ (by assumption)))
      clear hb2
      go_wp2_with fail
      refine (HL.out _).mono ?_
      rintro e w3 ⟨rfl, hb3⟩
      obtain ⟨m0, m1, m2, m3, m4, m5, ml⟩ := keepc6 (b := w.heap.size + 1) (c0 := .int .i64 y) (c1 := .int .i64 m) (c2 := .int .i64 d) (c3 := .int .i64 s) (c4 := .bool z) (c5 := .int .i64 o) hb3 (by simp [go_sem, *]) (by simp [go_sem, *]) (by simp [go_sem, *]) (by simp [go_sem, *]) (by simp [go_sem, *]) (by simp [go_sem, *])
      obtain ⟨a0, a1, a2, a3, a4, a5, al⟩ := keepc6 (b := w2.heap.size) (c0 := .int .i64 ay) (c1 := .int .i64 am) (c2 := .int .i64 ad) (c3 := .int .i64 ax) (c4 := .bool rz) (c5 := .int .i64 ao) hb3 (by simp [go_sem, *]) (by simp [go_sem, *]) (by simp [go_sem, *]) (by simp [go_sem, *]) (by simp [go_sem, *]) (by simp [go_sem, *])
      have hbx : Below w.heap.size w w3 := by (repeat (first | with_reducible assumption | with_reducible exact bl_refl _ | with_reducible refine bl_alloc ?_ _ | with_reducible refine bl_set ?_ (by first | (simp; done) | (simp; omega)) _ | with_reducible refine bl_drew ?_ | with_reducible refine bl_drewN ?_ _ | with_reducible refine bl_trans ?_ (by assumption)))
      clear hb3
      go_wp2_with fail
      refine (HT.out _).mono ?_
      rintro e w4 ⟨rfl, hb4⟩
      obtain ⟨m0, m1, m2, m3, m4, m5, ml⟩ := keepc6 (b := w.heap.size + 1) (c0 := .int .i64 y) (c1 := .int .i64 m) (c2 := .int .i64 d) (c3 := .int .i64 s) (c4 := .bool z) (c5 := .int .i64 o) hb4 (by simp [go_sem, *]) (by simp [go_sem, *]) (by simp [go_sem, *]) (by simp [go_sem, *]) (by simp [go_sem, *]) (by simp [go_sem, *])
      obtain ⟨a0, a1, a2, a3, a4, a5, al⟩ := keepc6 (b := w2.heap.size) (c0 := .int .i64 ay) (c1 := .int .i64 am) (c2 := .int .i64 ad) (c3 := .int .i64 ax) (c4 := .bool rz) (c5 := .int .i64 ao) hb4 (by simp [go_sem, *]) (by simp [go_sem, *]) (by simp [go_sem, *]) (by simp [go_sem, *]) (by simp [go_sem, *]) (by simp [go_sem, *])
      obtain ⟨b0, b1, b2, b3, b4, b5, bl⟩ := keepc6 (b := w3.heap.size) (c0 := .int .i64 Y) (c1 := .int .i64 M) (c2 := .int .i64 D) (c3 := .int .i64 S) (c4 := .bool rz) (c5 := .int .i64 ao) hb4 (by simp [go_sem, *]) (by simp [go_sem, *]) (by simp [go_sem, *]) (by simp [go_sem, *]) (by simp [go_sem, *]) (by simp [go_sem, *])
      have hbx : Below w.heap.size w w4 := by (repeat (first | with_reducible assumption | with_reducible exact bl_refl _ | with_reducible refine bl_alloc ?_ _ | with_reducible refine bl_set ?_ (by first | (simp; done) | (simp; omega)) _ | with_reducible refine bl_drew ?_ | with_reducible refine bl_drewN ?_ _ | with_reducible refine bl_trans ?_ (by assumption)))
      clear hb4
      go_wp2_with fail
      refine (HB.out _).mono ?_
      rintro e w5 ⟨rfl, hb5⟩
      obtain ⟨m0, m1, m2, m3, m4, m5, ml⟩ := keepc6 (b := w.heap.size + 1) (c0 := .int .i64 y) (c1 := .int .i64 m) (c2 := .int .i64 d) (c3 := .int .i64 s) (c4 := .bool z) (c5 := .int .i64 o) hb5 (by simp [go_sem, *]) (by simp [go_sem, *]) (by simp [go_sem, *]) (by simp [go_sem, *]) (by simp [go_sem, *]) (by simp [go_sem, *])
      obtain ⟨a0, a1, a2, a3, a4, a5, al⟩ := keepc6 (b := w2.heap.size) (c0 := .int .i64 ay) (c1 := .int .i64 am) (c2 := .int .i64 ad) (c3 := .int .i64 ax) (c4 := .bool rz) (c5 := .int .i64 ao) hb5 (by simp [go_sem, *]) (by simp [go_sem, *]) (by simp [go_sem, *]) (by simp [go_sem, *]) (by simp [go_sem, *]) (by simp [go_sem, *])
      obtain ⟨b0, b1, b2, b3, b4, b5, bl⟩ := keepc6 (b := w3.heap.size) (c0 := .int .i64 Y) (c1 := .int .i64 M) (c2 := .int .i64 D) (c3 := .int .i64 S) (c4 := .bool rz) (c5 := .int .i64 ao) hb5 (by simp [go_sem, *]) (by simp [go_sem, *]) (by simp [go_sem, *]) (by simp [go_sem, *]) (by simp [go_sem, *]) (by simp [go_sem, *])
      have hbx : Below w.heap.size w w5 := by (repeat (first | with_reducible assumption | with_reducible exact bl_refl _ | with_reducible refine bl_alloc ?_ _ | with_reducible refine bl_set ?_ (by first | (simp; done) | (simp; omega)) _ | with_reducible refine bl_drew ?_ | with_reducible refine bl_drewN ?_ _ | with_reducible refine bl_trans ?_ (by assumption)))
      clear hb5
      go_wp2_with fail
      refine (HZ.out _).mono ?_
      first | (first | rw [if_pos rfl] | rw [if_pos trivial]) | rw [if_neg (by simp)]
      rintro e w6 ⟨rfl, hb6⟩
      obtain ⟨m0, m1, m2, m3, m4, m5, ml⟩ := keepc6 (b := w.heap.size + 1) (c0 := .int .i64 y) (c1 := .int .i64 m) (c2 := .int .i64 d) (c3 := .int .i64 s) (c4 := .bool z) (c5 := .int .i64 o) hb6 (by simp [go_sem, *]) (by simp [go_sem, *]) (by simp [go_sem, *]) (by simp [go_sem, *]) (by simp [go_sem, *]) (by simp [go_sem, *])
      obtain ⟨a0, a1, a2, a3, a4, a5, al⟩ := keepc6 (b := w2.heap.size) (c0 := .int .i64 ay) (c1 := .int .i64 am) (c2 := .int .i64 ad) (c3 := .int .i64 ax) (c4 := .bool rz) (c5 := .int .i64 ao) hb6 (by simp [go_sem, *]) (by simp [go_sem, *]) (by simp [go_sem, *]) (by simp [go_sem, *]) (by simp [go_sem, *]) (by simp [go_sem, *])
      obtain ⟨b0, b1, b2, b3, b4, b5, bl⟩ := keepc6 (b := w3.heap.size) (c0 := .int .i64 Y) (c1 := .int .i64 M) (c2 := .int .i64 D) (c3 := .int .i64 S) (c4 := .bool rz) (c5 := .int .i64 ao) hb6 (by simp [go_sem, *]) (by simp [go_sem, *]) (by simp [go_sem, *]) (by simp [go_sem, *]) (by simp [go_sem, *]) (by simp [go_sem, *])
      obtain ⟨c0, c1, c2, c3, c4, c5, cl⟩ := keepc6 (b := w5.heap.size) (c0 := .int .i64 ay) (c1 := .int .i64 am) (c2 := .int .i64 ad) (c3 := .int .i64 ax) (c4 := .bool rz) (c5 := .int .i64 ao) hb6 (by simp [go_sem, *]) (by simp [go_sem, *]) (by simp [go_sem, *]) (by simp [go_sem, *]) (by simp [go_sem, *]) (by simp [go_sem, *])
      have hbx : Below w.heap.size w w6 := by (repeat (first | with_reducible assumption | with_reducible exact bl_refl _ | with_reducible refine bl_alloc ?_ _ | with_reducible refine bl_set ?_ (by first | (simp; done) | (simp; omega)) _ | with_reducible refine bl_drew ?_ | with_reducible refine bl_drewN ?_ _ | with_reducible refine bl_trans ?_ (by assumption)))
      clear hb6
      go_wp2_with fail
    · go_ret
      refine ⟨?_, ?_⟩
      · first | rfl | (simp [go_sem, *]; done)
      · (repeat (first | with_reducible assumption | with_reducible exact bl_refl _ | with_reducible refine bl_alloc ?_ _ | with_reducible refine bl_set ?_ (by simp) _ | with_reducible refine bl_drew ?_ | with_reducible refine bl_drewN ?_ _ | with_reducible refine bl_trans ?_ (by assumption)))
    · refine (HM.out _).mono ?_
      rintro e w7 ⟨rfl, hb7⟩
      go_wp2_with fail
      go_ret
      refine ⟨?_, ?_⟩
      · first | rfl | (simp [go_sem, *]; done)
      · (repeat (first | with_reducible assumption | with_reducible exact bl_refl _ | with_reducible refine bl_alloc ?_ _ | with_reducible refine bl_set ?_ (by simp) _ | with_reducible refine bl_drew ?_ | with_reducible refine bl_drewN ?_ _ | with_reducible refine bl_trans ?_ (by assumption)))

set_option maxRecDepth 100000 in
theorem momentLater_lifted (os : Os) (started : os.Started) (H : Type) (enc : TypeId × Value → H) :
    ReturnsInHanded {} Try.checked os 14 .any (Rows.momentLaterSpec.pre6 enc Try.prog Try.f14 Rows.momentLaterRow.domain false) (Rows.momentLaterSpec.post enc Try.prog Try.f14 false true false false) := by
  refine returnsInHanded_of_change (C := Try.checked) Try.own started (by kernel_rfl) Try.func14
    (ChangeSpec.witness6 (enc := enc) (C := Try.checked) false ⟨#[], #[.agg #[.int .i64 0, .int .i64 0, .int .i64 0, .int .i64 0, .int .i64 0, .bool false], .int .i64 0, .agg #[.int .i64 0, .int .i64 0, .int .i64 0, .int .i64 0, .bool false, .int .i64 0]], []⟩ 8 (by kernel_rfl) (by kernel_rfl) (by kernel_rfl) (by kernel_rfl)) ?_
  intro W base args ds gs before hval0 hW hcnd _
  have hval : ∀ (j : Nat) t v, Try.f14.params[j]? = some t → args[j]? = some v → Value.okWide Try.prog W .any base t v := hval0
  have hW' := hW
  obtain ⟨p, q, hA0, hV, rfl, hfz, hnd⟩ := hW
  have hA : DataW.TrodAll enc Try.prog W 0 (fun _ => true) true Try.f14.params.toList args.toList ds p := hA0
  rw [Try.params14] at hA hval
  obtain ⟨v0, vs0, d0, ds0, p0, q0, hargs, rfl, rfl, h0, r0⟩ := trodAll_cons hA
  obtain ⟨v1, vs1, d1, ds1, p1, q1, rfl, rfl, rfl, h1, r1⟩ := trodAll_cons r0
  obtain ⟨v2, vs2, d2, ds2, p2, q2, rfl, rfl, rfl, h2, r2⟩ := trodAll_cons r1
  obtain ⟨rfl, rfl, rfl⟩ := trodAll_nil r2
  obtain rfl : args = #[v0, v1, v2] := by cases args; simp_all
  obtain ⟨rfl, rfl⟩ := trodVars_none hV
  obtain ⟨a0y, a0m, a0d, a0s, a0o, a0z, rfl, a0w⟩ := open_raw (hval 0 54 v0 rfl rfl) h0
  obtain ⟨a1, rfl, rfl, rfl, a1w⟩ := open_int Try.underlying3 (hval 1 3 v1 rfl rfl) h1
  obtain ⟨a2y, a2m, a2d, a2s, a2z, a2o, rfl, a2w⟩ := open_moment (hval 2 56 v2 rfl rfl) h2
  clear hA0 hval0
  refine (momentLater_walk a0y a0m a0d a0s a0o a0z a1 a2y a2m a2d a2s a2z a2o W a0w (bounds_i64 a1w) a2w).mono fun e W' ⟨he, hg⟩ => ?_
  subst he
  exact ⟨_, rfl, law_post Try.laidOut (by kernel_rfl) rfl rfl Try.underlying4 hW' rfl hg⟩

theorem momentLater_holds : Rows.MomentLaterSaid :=
  OpenClaim.holds_of_wide 14 Try.f14 rfl rfl rfl rfl rfl rfl rfl ⟨rfl, rfl, rfl, rfl, rfl⟩ rfl rfl rfl rfl rfl (by kernel_rfl) Try.func14 (by kernel_rfl)
    (of_decide_eq_true (by kernel_rfl)) (by unfold Func.isWrapper; first | (rw [if_pos (by decide +kernel)]; kernel_rfl) | (rw [if_neg (by decide +kernel)]; exact ⟨rfl, rfl⟩))
    (fun os started H enc _ => momentLater_lifted os started H enc)

#print axioms momentLater_holds

end Go.Proofs.Ytfoblnepbncieaa
