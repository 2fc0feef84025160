/-
  ClockLater: for every input it returns true.
-/
import Derived.Test.YtfoblnepbncieaaClockA
namespace Go.Proofs.Ytfoblnepbncieaa
open Go.ChangeShapes Go.WideShapes Go.ChangeAt Go.RowKit

theorem may_made (s : Int) (z : Bool) (o : Int) : mayC (s % 86400) z (if z then o.tmod 64801 else 0) = true := by
  obtain ⟨b1, b2⟩ := tmod_in o 64801 (by omega)
  cases z <;> simp [mayC] <;> omega

theorem may_later (s n : Int) (z : Bool) (o : Int) : mayC ((s % 86400 + n) % 86400) z (if z then o.tmod 64801 else 0) = true := by
  obtain ⟨b1, b2⟩ := tmod_in o 64801 (by omega)
  cases z <;> simp [mayC] <;> omega

theorem later_wrap (s n : Int) (n1 : -9223372036854775808 ≤ n) (n2 : n ≤ 9223372036854775807) :
    wrap64 (wrap64 ((s + n) / 86400 * 86400) + ((s + n) % 86400 - s)) = n := by
  unfold wrap64; omega

theorem clockLater_walk (s : Int) (z : Bool) (o n ts : Int) (tz : Bool) (to : Int) (w : World) (_n0 : -9223372036854775808 ≤ s ∧ s ≤ 9223372036854775807) (_n1 : -9223372036854775808 ≤ o ∧ o ≤ 9223372036854775807) (n2 : -9223372036854775808 ≤ n ∧ n ≤ 9223372036854775807) (_n3 : (-9223372036854775808 ≤ ts ∧ ts ≤ 9223372036854775807) ∧ -9223372036854775808 ≤ to ∧ to ≤ 9223372036854775807) :
    Calls Try.prog 3 #[.int .i64 s, .bool z, .int .i64 o, .int .i64 n, .agg #[.int .i64 ts, .bool tz, .int .i64 to]] w fun e w' =>
      e = .returned (.bool true) ∧ Below w.heap.size w w' := by
  have N := Lib.hid n2
  clear _n0 _n1 n2 _n3
  generalize ho : (if z = true then o.tmod 64801 else 0) = o'
  generalize hs : s % 86400 = s'
  have HO := Lib.hid ho
  have HS := Lib.hid hs
  have hm1 := may_made s z o
  have hm2 := may_later s n z o
  rw [ho, hs] at hm1 hm2
  have M1 := Lib.hid hm1
  have M2 := Lib.hid hm2
  have s1 : 0 ≤ s' ∧ s' < 86400 := by omega
  obtain ⟨s1, s2⟩ := s1
  clear ho hm1 hm2 hs
  cases hmt : mayC ts tz to
  all_goals
    have MT := Lib.hid hmt
    clear hmt
    go_enter Try.func3, Try.ntmps3
    go_wp2_with fail
    refine (law07_awake _).mono ?_
    rintro e w1 ⟨rfl, hb1⟩
    obtain ⟨t0, t1, t2, tf0, tf1, tf2, tl⟩ := keep3 (b := w.heap.size) (x := .int .i64 ts) (y := .bool tz) (z := .int .i64 to) hb1 (by simp [*]) (by simp [*]) (by simp [*]) (by simp [*]) (by simp [*]) (by simp [*])
    go_wp2_with fail
    refine (law07_make s z o _).mono ?_
    rintro e w2 ⟨rfl, hb2⟩
    rw [HO.out, HS.out]
    have g2 : Below w1.heap.size w1 w2 := by repeat (first | with_reducible exact bl_refl _ | with_reducible refine bl_alloc ?_ _ | with_reducible refine bl_set ?_ (by simp) _ | with_reducible refine bl_drew ?_ | with_reducible refine bl_drewN ?_ _ | with_reducible refine bl_trans ?_ (by assumption))
    obtain ⟨t0, t1, t2, tf0, tf1, tf2, tl⟩ := keep3 g2 t0 t1 t2 tf0 tf1 tf2
    go_wp2_with fail
    refine (clock_later_yes s' z o' n _ M1.out N.out.1 N.out.2).mono ?_
    rintro e w3 ⟨rfl, hb3⟩
    have g3 : Below w2.heap.size w2 w3 := by repeat (first | with_reducible exact bl_refl _ | with_reducible refine bl_alloc ?_ _ | with_reducible refine bl_set ?_ (by simp) _ | with_reducible refine bl_drew ?_ | with_reducible refine bl_drewN ?_ _ | with_reducible refine bl_trans ?_ (by assumption))
    obtain ⟨t0, t1, t2, tf0, tf1, tf2, tl⟩ := keep3 g3 t0 t1 t2 tf0 tf1 tf2
    obtain ⟨a0, a1, a2, af0, af1, af2, al⟩ := keep3 (b := w2.heap.size) (x := .int .i64 s') (y := .bool z) (z := .int .i64 o') hb3 (by simp [*]) (by simp [*]) (by simp [*]) (by simp [*]) (by simp [*]) (by simp [*])
    go_wp2_with fail
  · refine (clock_later_no ts tz to n _ MT.out).mono ?_
    rintro e w4 ⟨rfl, hb4⟩
    have g4 : Below w3.heap.size w3 w4 := by repeat (first | with_reducible exact bl_refl _ | with_reducible refine bl_alloc ?_ _ | with_reducible refine bl_set ?_ (by simp) _ | with_reducible refine bl_drew ?_ | with_reducible refine bl_drewN ?_ _ | with_reducible refine bl_trans ?_ (by assumption))
    obtain ⟨t0, t1, t2, tf0, tf1, tf2, tl⟩ := keep3 g4 t0 t1 t2 tf0 tf1 tf2
    obtain ⟨a0, a1, a2, af0, af1, af2, al⟩ := keep3 g4 a0 a1 a2 af0 af1 af2
    obtain ⟨b0, b1, b2, bf0, bf1, bf2, bl⟩ := keep3 (b := w3.heap.size) (x := .int .i64 ((s' + n) % 86400)) (y := .bool z) (z := .int .i64 o') hb4 (by simp [*]) (by simp [*]) (by simp [*]) (by simp [*]) (by simp [*]) (by simp [*])
    go_wp2_with fail
    refine (clock_may_is _ z o' true M2.out _).mono ?_
    rintro e w5 ⟨rfl, hb5⟩
    have g5 : Below w4.heap.size w4 w5 := by repeat (first | with_reducible exact bl_refl _ | with_reducible refine bl_alloc ?_ _ | with_reducible refine bl_set ?_ (by simp) _ | with_reducible refine bl_drew ?_ | with_reducible refine bl_drewN ?_ _ | with_reducible refine bl_trans ?_ (by assumption))
    obtain ⟨t0, t1, t2, tf0, tf1, tf2, tl⟩ := keep3 g5 t0 t1 t2 tf0 tf1 tf2
    obtain ⟨a0, a1, a2, af0, af1, af2, al⟩ := keep3 g5 a0 a1 a2 af0 af1 af2
    obtain ⟨b0, b1, b2, bf0, bf1, bf2, bl⟩ := keep3 g5 b0 b1 b2 bf0 bf1 bf2
    obtain ⟨c0, c1, c2, cf0, cf1, cf2, cl⟩ := keep3 (b := w4.heap.size) (x := .int .i64 0) (y := .bool false) (z := .int .i64 0) hb5 (by simp [*]) (by simp [*]) (by simp [*]) (by simp [*]) (by simp [*]) (by simp [*])
    have hE := later_wrap s' n N.out.1 N.out.2
    go_wp2_with fail
    refine (clock_may_is ts tz to false MT.out _).mono ?_
    rintro e w6 ⟨rfl, hb6⟩
    have g6 : Below w5.heap.size w5 w6 := by repeat (first | with_reducible exact bl_refl _ | with_reducible refine bl_alloc ?_ _ | with_reducible refine bl_set ?_ (by simp) _ | with_reducible refine bl_drew ?_ | with_reducible refine bl_drewN ?_ _ | with_reducible refine bl_trans ?_ (by assumption))
    obtain ⟨c0, c1, c2, cf0, cf1, cf2, cl⟩ := keep3 g6 c0 c1 c2 cf0 cf1 cf2
    clear hE
    go_wp2_with fail
    go_ret
    refine ⟨rfl, ?_⟩
    repeat (first | with_reducible exact bl_refl _ | with_reducible refine bl_alloc ?_ _ | with_reducible refine bl_set ?_ (by simp) _ | with_reducible refine bl_drew ?_ | with_reducible refine bl_drewN ?_ _ | with_reducible refine bl_trans ?_ (by assumption))
  · refine (clock_later_yes ts tz to n _ MT.out N.out.1 N.out.2).mono ?_
    rintro e w4 ⟨rfl, hb4⟩
    have g4 : Below w3.heap.size w3 w4 := by repeat (first | with_reducible exact bl_refl _ | with_reducible refine bl_alloc ?_ _ | with_reducible refine bl_set ?_ (by simp) _ | with_reducible refine bl_drew ?_ | with_reducible refine bl_drewN ?_ _ | with_reducible refine bl_trans ?_ (by assumption))
    obtain ⟨t0, t1, t2, tf0, tf1, tf2, tl⟩ := keep3 g4 t0 t1 t2 tf0 tf1 tf2
    obtain ⟨a0, a1, a2, af0, af1, af2, al⟩ := keep3 g4 a0 a1 a2 af0 af1 af2
    obtain ⟨b0, b1, b2, bf0, bf1, bf2, bl⟩ := keep3 (b := w3.heap.size) (x := .int .i64 ((s' + n) % 86400)) (y := .bool z) (z := .int .i64 o') hb4 (by simp [*]) (by simp [*]) (by simp [*]) (by simp [*]) (by simp [*]) (by simp [*])
    go_wp2_with fail
    refine (clock_may_is _ z o' true M2.out _).mono ?_
    rintro e w5 ⟨rfl, hb5⟩
    have g5 : Below w4.heap.size w4 w5 := by repeat (first | with_reducible exact bl_refl _ | with_reducible refine bl_alloc ?_ _ | with_reducible refine bl_set ?_ (by simp) _ | with_reducible refine bl_drew ?_ | with_reducible refine bl_drewN ?_ _ | with_reducible refine bl_trans ?_ (by assumption))
    obtain ⟨t0, t1, t2, tf0, tf1, tf2, tl⟩ := keep3 g5 t0 t1 t2 tf0 tf1 tf2
    obtain ⟨a0, a1, a2, af0, af1, af2, al⟩ := keep3 g5 a0 a1 a2 af0 af1 af2
    obtain ⟨b0, b1, b2, bf0, bf1, bf2, bl⟩ := keep3 g5 b0 b1 b2 bf0 bf1 bf2
    have hE := later_wrap s' n N.out.1 N.out.2
    go_wp2_with fail
    refine (clock_may_is ts tz to true MT.out _).mono ?_
    rintro e w6 ⟨rfl, hb6⟩
    clear hE
    go_wp2_with fail
    go_ret
    refine ⟨rfl, ?_⟩
    repeat (first | with_reducible exact bl_refl _ | with_reducible refine bl_alloc ?_ _ | with_reducible refine bl_set ?_ (by simp) _ | with_reducible refine bl_drew ?_ | with_reducible refine bl_drewN ?_ _ | with_reducible refine bl_trans ?_ (by assumption))
set_option maxRecDepth 100000 in
theorem clockLater_lifted (os : Os) (started : os.Started) (H : Type) (enc : TypeId × Value → H) :
    ReturnsInHanded {} Try.checked os 3 .any (Rows.clockLaterSpec.pre6 enc Try.prog Try.f3 Rows.clockLaterRow.domain false) (Rows.clockLaterSpec.post enc Try.prog Try.f3 false true false false) := by
  refine returnsInHanded_of_change (C := Try.checked) Try.own started (by kernel_rfl) Try.func3
    (ChangeSpec.witness6 (enc := enc) (C := Try.checked) false ⟨#[], #[.int .i64 0, .bool false, .int .i64 0, .int .i64 0, .agg #[.int .i64 0, .bool false, .int .i64 0]], []⟩ 8 (by kernel_rfl) (by kernel_rfl) (by kernel_rfl) (by kernel_rfl)) ?_
  intro W base args ds gs before hval0 hW hcnd _
  have hval : ∀ (j : Nat) t v, Try.f3.params[j]? = some t → args[j]? = some v → Value.okWide Try.prog W .any base t v := hval0
  have hW' := hW
  obtain ⟨p, q, hA0, hV, rfl, hfz, hnd⟩ := hW
  have hA : DataW.TrodAll enc Try.prog W 0 (fun _ => true) true Try.f3.params.toList args.toList ds p := hA0
  rw [Try.params3] at hA hval
  obtain ⟨v0, vs0, d0, ds0, p0, q0, hargs, rfl, rfl, h0, r0⟩ := trodAll_cons hA
  obtain ⟨v1, vs1, d1, ds1, p1, q1, rfl, rfl, rfl, h1, r1⟩ := trodAll_cons r0
  obtain ⟨v2, vs2, d2, ds2, p2, q2, rfl, rfl, rfl, h2, r2⟩ := trodAll_cons r1
  obtain ⟨v3, vs3, d3, ds3, p3, q3, rfl, rfl, rfl, h3, r3⟩ := trodAll_cons r2
  obtain ⟨v4, vs4, d4, ds4, p4, q4, rfl, rfl, rfl, h4, r4⟩ := trodAll_cons r3
  obtain ⟨rfl, rfl, rfl⟩ := trodAll_nil r4
  obtain rfl : args = #[v0, v1, v2, v3, v4] := by cases args; simp_all
  obtain ⟨rfl, rfl⟩ := trodVars_none hV
  obtain ⟨a0, rfl, rfl, rfl, a0w⟩ := open_int Try.underlying3 (hval 0 3 v0 rfl rfl) h0
  obtain ⟨a1, rfl, rfl, rfl⟩ := open_bool Try.underlying4 (hval 1 4 v1 rfl rfl) h1
  obtain ⟨a2, rfl, rfl, rfl, a2w⟩ := open_int Try.underlying3 (hval 2 3 v2 rfl rfl) h2
  obtain ⟨a3, rfl, rfl, rfl, a3w⟩ := open_int Try.underlying3 (hval 3 3 v3 rfl rfl) h3
  obtain ⟨a4s, a4z, a4o, rfl, a4w⟩ := open_time (hval 4 23 v4 rfl rfl) h4
  clear hA0 hval0
  refine (clockLater_walk a0 a1 a2 a3 a4s a4z a4o W (bounds_i64 a0w) (bounds_i64 a2w) (bounds_i64 a3w) a4w).mono fun e W' ⟨he, hg⟩ => ?_
  subst he
  exact ⟨_, rfl, law_post Try.laidOut (by kernel_rfl) rfl rfl Try.underlying4 hW' rfl hg⟩

theorem clockLater_holds : Rows.ClockLaterSaid :=
  OpenClaim.holds_of_wide 3 Try.f3 rfl rfl rfl rfl rfl rfl rfl ⟨rfl, rfl, rfl, rfl, rfl⟩ rfl rfl rfl rfl rfl (by kernel_rfl) Try.func3 (by kernel_rfl)
    (of_decide_eq_true (by kernel_rfl)) (by unfold Func.isWrapper; first | (rw [if_pos (by decide +kernel)]; kernel_rfl) | (rw [if_neg (by decide +kernel)]; exact ⟨rfl, rfl⟩))
    (fun os started H enc _ => clockLater_lifted os started H enc)

#print axioms clockLater_holds

end Go.Proofs.Ytfoblnepbncieaa
