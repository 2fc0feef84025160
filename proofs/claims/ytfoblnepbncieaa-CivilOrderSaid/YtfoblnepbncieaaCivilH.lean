/-
  CivilOrder: for every input it returns true.
-/
import Derived.Test.YtfoblnepbncieaaCivilA
import Derived.Test.YtfoblnepbncieaaCivilS
import Derived.Test.YtfoblnepbncieaaCivilC
namespace Go.Proofs.Ytfoblnepbncieaa
open Go.ChangeShapes Go.WideShapes Go.ChangeAt Go.RowKit

theorem cmpD_cases (y m d v u e : Int) (h : Civ.may y m d = true) (g : Civ.may v u e = true) :
    (Civ.num y m d < Civ.num v u e ∧ cmpD y m d v u e < 0 ∧ ¬ (y = v ∧ m = u ∧ d = e)) ∨ (Civ.num v u e < Civ.num y m d ∧ 0 < cmpD y m d v u e ∧ ¬ (y = v ∧ m = u ∧ d = e)) ∨
    (Civ.num y m d ≤ Civ.num v u e ∧ Civ.num v u e ≤ Civ.num y m d ∧ cmpD y m d v u e = 0 ∧ y = v ∧ m = u ∧ d = e) := by
  obtain ⟨_, _, d1, d2⟩ := (may_iff y m d).1 h
  obtain ⟨_, _, e1, e2⟩ := (may_iff v u e).1 g
  have a := Civ.num_lt y m d v u e d1 d2 e1 e2
  have b := Civ.num_lt v u e y m d e1 e2 d1 d2
  unfold cmpD
  by_cases c1 : y < v
  · rw [if_pos c1]; left; omega
  · rw [if_neg c1]
    by_cases c2 : v < y
    · rw [if_pos c2]; right; left; omega
    · rw [if_neg c2]
      by_cases c3 : m < u
      · rw [if_pos c3]; left; omega
      · rw [if_neg c3]
        by_cases c4 : u < m
        · rw [if_pos c4]; right; left; omega
        · rw [if_neg c4]
          by_cases c5 : d < e
          · rw [if_pos c5]; left; omega
          · rw [if_neg c5]
            by_cases c6 : e < d
            · rw [if_pos c6]; right; left; omega
            · rw [if_neg c6]; right; right; omega

set_option maxRecDepth 100000 in
set_option maxHeartbeats 2000000 in
theorem civilOrder_core (oy om od y m d ov ou oe v u f : Int) (w : World) (h : Civ.may y m d = true) (g : Civ.may v u f = true) (hmk : ∀ w, Calls Try.prog 41 #[.int .i64 oy, .int .i64 om, .int .i64 od] w fun e w' =>
      e = .returned (.agg #[.int .i64 y, .int .i64 m, .int .i64 d]) ∧ Below w.heap.size w w') (hmj : ∀ w, Calls Try.prog 41 #[.int .i64 ov, .int .i64 ou, .int .i64 oe] w fun e w' =>
      e = .returned (.agg #[.int .i64 v, .int .i64 u, .int .i64 f]) ∧ Below w.heap.size w w') :
    Calls Try.prog 12 #[.int .i64 oy, .int .i64 om, .int .i64 od, .int .i64 ov, .int .i64 ou, .int .i64 oe] w fun e w' =>
      e = .returned (.bool true) ∧ Below w.heap.size w w' := by
  have HMK := Lib.hid hmk
  have HMJ := Lib.hid hmj
  have N1 := Lib.hid (civil_number_yes y m d h)
  have N2 := Lib.hid (civil_number_yes v u f g)
  have HC := Lib.hid (civil_cmp y m d v u f)
  have hcs := cmpD_cases y m d v u f h g
  clear h g hmk hmj
  generalize cmpD y m d v u f = c at *
  generalize Civ.num y m d = n at *
  generalize Civ.num v u f = k at *
  have HCS := Lib.hid hcs
  clear hcs
  go_enter Try.func12, Try.ntmps12
  go_wp2_with fail
  refine (law06_awake _).mono ?_
  rintro e w1 ⟨rfl, hb1⟩
  go_wp2_with fail
  refine (HMK.out _).mono ?_
  rintro e w2 ⟨rfl, hb2⟩
  go_wp2_with fail
  refine (HMJ.out _).mono ?_
  rintro e w3 ⟨rfl, hb3⟩
  have z1 : w3.heap.size < w3.heap.size + 1 + 1 := by omega
  go_wp2_with fail
  refine (N1.out _).mono ?_
  rintro e w4 ⟨rfl, hb4⟩
  obtain ⟨a0, a1, a2, af0, af1, af2, al⟩ := keep3 (b := w3.heap.size) (x := .int .i64 y) (y := .int .i64 m) (z := .int .i64 d) hb4 (by simp [go_sem, *]) (by simp [go_sem, *]) (by simp [go_sem, *]) (by simp [go_sem, *]) (by simp [go_sem, *]) (by simp [go_sem, *])
  obtain ⟨b0, b1, b2, bf0, bf1, bf2, bl⟩ := keep3 (b := w3.heap.size + 1) (x := .int .i64 v) (y := .int .i64 u) (z := .int .i64 f) hb4 (by simp [go_sem, *]) (by simp [go_sem, *]) (by simp [go_sem, *]) (by simp [go_sem, *]) (by simp [go_sem, *]) (by simp [go_sem, *])
  go_wp2_with fail
  refine (N2.out _).mono ?_
  rintro e w5 ⟨rfl, hb5⟩
  obtain ⟨a0, a1, a2, af0, af1, af2, al⟩ := keep3 hb5 a0 a1 a2 af0 af1 af2
  obtain ⟨b0, b1, b2, bf0, bf1, bf2, bl⟩ := keep3 hb5 b0 b1 b2 bf0 bf1 bf2
  go_wp2_with fail
  refine (HC.out _).mono ?_
  rintro e w6 ⟨rfl, hb6⟩
  obtain ⟨a0, a1, a2, af0, af1, af2, al⟩ := keep3 hb6 a0 a1 a2 af0 af1 af2
  obtain ⟨b0, b1, b2, bf0, bf1, bf2, bl⟩ := keep3 hb6 b0 b1 b2 bf0 bf1 bf2
  have hbW : Below w.heap.size w w6 := by (repeat (first | with_reducible assumption | with_reducible exact bl_refl _ | with_reducible refine bl_alloc ?_ _ | with_reducible refine bl_set ?_ (by simp) _ | with_reducible refine bl_drew ?_ | with_reducible refine bl_drewN ?_ _ | with_reducible refine bl_trans ?_ (by assumption)))
  clear hb1 hb2 hb3 hb4 hb5 hb6
  rcases HCS.out with ⟨c1, c2, c3⟩ | ⟨c1, c2, c3⟩ | ⟨c1, c2, c3, c4, c5, c6⟩
  · have hne : y ≠ v ∨ (y = v ∧ m ≠ u) ∨ (y = v ∧ m = u ∧ d ≠ f) := by omega
    clear c3
    rcases hne with g1 | ⟨g1, g2⟩ | ⟨g1, g2, g3⟩
    · have q : (y == v) = false := beq_eq_false_iff_ne.2 g1
      clear g1
      go_wp2_with fail
      go_ret
      exact ⟨ret_bool (by simp; omega), hbW⟩
    · subst g1
      have q : (m == u) = false := beq_eq_false_iff_ne.2 g2
      clear g2
      go_wp2_with fail
      go_ret
      exact ⟨ret_bool (by simp; omega), hbW⟩
    · subst g1
      subst g2
      have q : (d == f) = false := beq_eq_false_iff_ne.2 g3
      clear g3
      go_wp2_with fail
      go_ret
      exact ⟨ret_bool (by simp; omega), hbW⟩
  · have hne : y ≠ v ∨ (y = v ∧ m ≠ u) ∨ (y = v ∧ m = u ∧ d ≠ f) := by omega
    clear c3
    rcases hne with g1 | ⟨g1, g2⟩ | ⟨g1, g2, g3⟩
    · have q : (y == v) = false := beq_eq_false_iff_ne.2 g1
      clear g1
      go_wp2_with fail
      go_ret
      exact ⟨ret_bool (by simp; omega), hbW⟩
    · subst g1
      have q : (m == u) = false := beq_eq_false_iff_ne.2 g2
      clear g2
      go_wp2_with fail
      go_ret
      exact ⟨ret_bool (by simp; omega), hbW⟩
    · subst g1
      subst g2
      have q : (d == f) = false := beq_eq_false_iff_ne.2 g3
      clear g3
      go_wp2_with fail
      go_ret
      exact ⟨ret_bool (by simp; omega), hbW⟩
  · have p1 : decide (n < k) = false := decide_eq_false (by omega)
    have p2 : decide (k < n) = false := decide_eq_false (by omega)
    subst c3 c4 c5 c6
    go_wp2_with fail
    go_ret
    exact ⟨rfl, hbW⟩

theorem civilOrder_walk (y m d v u f : Int) (w : World) (_n0 : -9223372036854775808 ≤ y ∧ y ≤ 9223372036854775807) (_n1 : -9223372036854775808 ≤ m ∧ m ≤ 9223372036854775807) (_n2 : -9223372036854775808 ≤ d ∧ d ≤ 9223372036854775807) (_n3 : -9223372036854775808 ≤ v ∧ v ≤ 9223372036854775807) (_n4 : -9223372036854775808 ≤ u ∧ u ≤ 9223372036854775807) (_n5 : -9223372036854775808 ≤ f ∧ f ≤ 9223372036854775807) :
    Calls Try.prog 12 #[.int .i64 y, .int .i64 m, .int .i64 d, .int .i64 v, .int .i64 u, .int .i64 f] w fun e w' =>
      e = .returned (.bool true) ∧ Below w.heap.size w w' :=
  civilOrder_core y m d (mkY y) (mkM m) (mkD y m d) v u f (mkY v) (mkM u) (mkD v u f) w (mk_may y m d) (mk_may v u f) (law06_make y m d) (law06_make v u f)

set_option maxRecDepth 100000 in
theorem civilOrder_lifted (os : Os) (started : os.Started) (H : Type) (enc : TypeId × Value → H) :
    ReturnsInHanded {} Try.checked os 12 .any (Rows.civilOrderSpec.pre6 enc Try.prog Try.f12 Rows.civilOrderRow.domain false) (Rows.civilOrderSpec.post enc Try.prog Try.f12 false true false false) := by
  refine returnsInHanded_of_change (C := Try.checked) Try.own started (by kernel_rfl) Try.func12
    (ChangeSpec.witness6 (enc := enc) (C := Try.checked) false ⟨#[], #[.int .i64 0, .int .i64 0, .int .i64 0, .int .i64 0, .int .i64 0, .int .i64 0], []⟩ 8 (by kernel_rfl) (by kernel_rfl) (by kernel_rfl) (by kernel_rfl)) ?_
  intro W base args ds gs before hval0 hW hcnd _
  have hval : ∀ (j : Nat) t v, Try.f12.params[j]? = some t → args[j]? = some v → Value.okWide Try.prog W .any base t v := hval0
  have hW' := hW
  obtain ⟨p, q, hA0, hV, rfl, hfz, hnd⟩ := hW
  have hA : DataW.TrodAll enc Try.prog W 0 (fun _ => true) true Try.f12.params.toList args.toList ds p := hA0
  rw [Try.params12] at hA hval
  obtain ⟨v0, vs0, d0, ds0, p0, q0, hargs, rfl, rfl, h0, r0⟩ := trodAll_cons hA
  obtain ⟨v1, vs1, d1, ds1, p1, q1, rfl, rfl, rfl, h1, r1⟩ := trodAll_cons r0
  obtain ⟨v2, vs2, d2, ds2, p2, q2, rfl, rfl, rfl, h2, r2⟩ := trodAll_cons r1
  obtain ⟨v3, vs3, d3, ds3, p3, q3, rfl, rfl, rfl, h3, r3⟩ := trodAll_cons r2
  obtain ⟨v4, vs4, d4, ds4, p4, q4, rfl, rfl, rfl, h4, r4⟩ := trodAll_cons r3
  obtain ⟨v5, vs5, d5, ds5, p5, q5, rfl, rfl, rfl, h5, r5⟩ := trodAll_cons r4
  obtain ⟨rfl, rfl, rfl⟩ := trodAll_nil r5
  obtain rfl : args = #[v0, v1, v2, v3, v4, v5] := by cases args; simp_all
  obtain ⟨rfl, rfl⟩ := trodVars_none hV
  obtain ⟨a0, rfl, rfl, rfl, a0w⟩ := open_int Try.underlying3 (hval 0 3 v0 rfl rfl) h0
  obtain ⟨a1, rfl, rfl, rfl, a1w⟩ := open_int Try.underlying3 (hval 1 3 v1 rfl rfl) h1
  obtain ⟨a2, rfl, rfl, rfl, a2w⟩ := open_int Try.underlying3 (hval 2 3 v2 rfl rfl) h2
  obtain ⟨a3, rfl, rfl, rfl, a3w⟩ := open_int Try.underlying3 (hval 3 3 v3 rfl rfl) h3
  obtain ⟨a4, rfl, rfl, rfl, a4w⟩ := open_int Try.underlying3 (hval 4 3 v4 rfl rfl) h4
  obtain ⟨a5, rfl, rfl, rfl, a5w⟩ := open_int Try.underlying3 (hval 5 3 v5 rfl rfl) h5
  clear hA0 hval0
  refine (civilOrder_walk a0 a1 a2 a3 a4 a5 W (bounds_i64 a0w) (bounds_i64 a1w) (bounds_i64 a2w) (bounds_i64 a3w) (bounds_i64 a4w) (bounds_i64 a5w)).mono fun e W' ⟨he, hg⟩ => ?_
  subst he
  exact ⟨_, rfl, law_post Try.laidOut (by kernel_rfl) rfl rfl Try.underlying4 hW' rfl hg⟩

theorem civilOrder_holds : Rows.CivilOrderSaid :=
  OpenClaim.holds_of_wide 12 Try.f12 rfl rfl rfl rfl rfl rfl rfl ⟨rfl, rfl, rfl, rfl, rfl⟩ rfl rfl rfl rfl rfl (by kernel_rfl) Try.func12 (by kernel_rfl)
    (of_decide_eq_true (by kernel_rfl)) (by unfold Func.isWrapper; first | (rw [if_pos (by decide +kernel)]; kernel_rfl) | (rw [if_neg (by decide +kernel)]; exact ⟨rfl, rfl⟩))
    (fun os started H enc _ => civilOrder_lifted os started H enc)

#print axioms civilOrder_holds

end Go.Proofs.Ytfoblnepbncieaa
