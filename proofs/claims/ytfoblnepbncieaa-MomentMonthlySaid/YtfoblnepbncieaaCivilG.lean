/-
  CivilBack: for every input it returns true.
-/
import Derived.Test.YtfoblnepbncieaaCivilA
import Derived.Test.YtfoblnepbncieaaCivilS
import Derived.Test.YtfoblnepbncieaaCivilC
namespace Go.Proofs.Ytfoblnepbncieaa
open Go.ChangeShapes Go.WideShapes Go.ChangeAt Go.RowKit

theorem numB_num (y m d : Int) (h : Civ.may y m d = true) : numB (Civ.num y m d) = true := by
  obtain ⟨y1, y2, d1, d2⟩ := (may_iff y m d).1 h
  obtain ⟨e1, e2, e3⟩ := Civ.of_num y m d d1 d2
  rw [← of_may_b, e1, e2, e3]; exact h

theorem of_of_num (y m d : Int) (h : Civ.may y m d = true) : Civ.ofY (Civ.num y m d) = y ∧ Civ.ofM (Civ.num y m d) = m ∧ Civ.ofD (Civ.num y m d) = d := by
  obtain ⟨y1, y2, d1, d2⟩ := (may_iff y m d).1 h
  exact Civ.of_num y m d d1 d2

/-- the day of a day's number is that day -/
theorem civil_of_number (y m d : Int) (h : Civ.may y m d = true) (w : World) :
    Calls Try.prog 47 #[.int .i64 (Civ.num y m d)] w fun e w' => e = .returned (.tuple #[.agg #[.int .i64 y, .int .i64 m, .int .i64 d], .bool true]) ∧ Below w.heap.size w w' := by
  obtain ⟨e1, e2, e3⟩ := of_of_num y m d h
  have := civil_of (Civ.num y m d) true (numB_num y m d h) w
  rw [if_pos rfl, e1, e2, e3] at this
  exact this

theorem numB_range (n : Int) : numB n = decide (-365243219162 ≤ n ∧ n ≤ 365241780471) := rfl

set_option maxRecDepth 100000 in
set_option maxHeartbeats 1000000 in
theorem civilBack_false (n oy om od y m d : Int) (w : World) (h : Civ.may y m d = true) (hb : numB n = false) (hmk : ∀ w, Calls Try.prog 41 #[.int .i64 oy, .int .i64 om, .int .i64 od] w fun e w' =>
      e = .returned (.agg #[.int .i64 y, .int .i64 m, .int .i64 d]) ∧ Below w.heap.size w w') :
    Calls Try.prog 10 #[.int .i64 n, .int .i64 oy, .int .i64 om, .int .i64 od] w fun e w' =>
      e = .returned (.bool true) ∧ Below w.heap.size w w' := by
  have HMK := Lib.hid hmk
  have H := Lib.hid h
  have HN := Lib.hid hb
  have hr : n < -365243219162 ∨ (-365243219162 ≤ n ∧ 365241780471 < n) := by
    have := numB_range n
    rw [hb] at this
    have := of_decide_eq_false this.symm; omega
  clear h hmk hb
  rcases hr with r1 | ⟨r1, r2⟩
  all_goals
   go_enter Try.func10, Try.ntmps10
   go_wp2_with fail
   refine (law06_awake _).mono ?_
   rintro e w1 ⟨rfl, hb1⟩
   go_wp2_with fail
   refine (HMK.out _).mono ?_
   rintro e w2 ⟨rfl, hb2⟩
   go_wp2_with fail
   refine (civil_number_yes y m d H.out _).mono ?_
   rintro e w3 ⟨rfl, hb3⟩
   obtain ⟨t0, t1, t2, tf0, tf1, tf2, tl⟩ := keep3 (b := w2.heap.size) (x := .int .i64 y) (y := .int .i64 m) (z := .int .i64 d) hb3 (by simp [*]) (by simp [*]) (by simp [*]) (by simp [*]) (by simp [*]) (by simp [*])
   go_wp2_with fail
   refine (civil_of_number y m d H.out _).mono ?_
   rintro e w4 ⟨rfl, hb4⟩
   obtain ⟨t0, t1, t2, tf0, tf1, tf2, tl⟩ := keep3 hb4 t0 t1 t2 tf0 tf1 tf2
   go_wp2_with fail
   refine (civil_number_yes (-999999999) 1 1 (by decide) _).mono ?_
   rw [Civ.first_num, show Civ.first = -365243219162 from rfl]
   rintro e w5 ⟨rfl, hb5⟩
   go_wp2_with fail
   refine (civil_number_yes 999999999 12 31 (by decide) _).mono ?_
   rw [Civ.last_num, show Civ.last = 365241780471 from rfl]
   rintro e w6 ⟨rfl, hb6⟩
   go_wp2_with fail
   refine (civil_of n _ HN.out _).mono ?_
   rw [if_neg (by simp)]
   rintro e w7 ⟨rfl, hb7⟩
   go_wp2_with fail
   go_ret
   refine ⟨rfl, ?_⟩
   (repeat (first | with_reducible assumption | with_reducible exact bl_refl _ | with_reducible refine bl_alloc ?_ _ | with_reducible refine bl_set ?_ (by simp) _ | with_reducible refine bl_drew ?_ | with_reducible refine bl_drewN ?_ _ | with_reducible refine bl_trans ?_ (by assumption)))

set_option maxRecDepth 100000 in
set_option maxHeartbeats 1000000 in
theorem civilBack_true (n oy om od y m d : Int) (w : World) (h : Civ.may y m d = true) (hb : numB n = true) (hmk : ∀ w, Calls Try.prog 41 #[.int .i64 oy, .int .i64 om, .int .i64 od] w fun e w' =>
      e = .returned (.agg #[.int .i64 y, .int .i64 m, .int .i64 d]) ∧ Below w.heap.size w w') :
    Calls Try.prog 10 #[.int .i64 n, .int .i64 oy, .int .i64 om, .int .i64 od] w fun e w' =>
      e = .returned (.bool true) ∧ Below w.heap.size w w' := by
  have HMK := Lib.hid hmk
  have H := Lib.hid h
  have HN := Lib.hid hb
  have hr : -365243219162 ≤ n ∧ n ≤ 365241780471 := by
    have := numB_range n
    rw [hb] at this
    exact of_decide_eq_true this.symm
  clear h hmk hb
  obtain ⟨r1, r2⟩ := hr
  have HS := Lib.hid (Civ.of_spec n)
  have HMY := Lib.hid ((of_may_b n).trans HN.out)
  go_enter Try.func10, Try.ntmps10
  go_wp2_with fail
  refine (law06_awake _).mono ?_
  rintro e w1 ⟨rfl, hb1⟩
  go_wp2_with fail
  refine (HMK.out _).mono ?_
  rintro e w2 ⟨rfl, hb2⟩
  go_wp2_with fail
  refine (civil_number_yes y m d H.out _).mono ?_
  rintro e w3 ⟨rfl, hb3⟩
  obtain ⟨t0, t1, t2, tf0, tf1, tf2, tl⟩ := keep3 (b := w2.heap.size) (x := .int .i64 y) (y := .int .i64 m) (z := .int .i64 d) hb3 (by simp [*]) (by simp [*]) (by simp [*]) (by simp [*]) (by simp [*]) (by simp [*])
  go_wp2_with fail
  refine (civil_of_number y m d H.out _).mono ?_
  rintro e w4 ⟨rfl, hb4⟩
  obtain ⟨t0, t1, t2, tf0, tf1, tf2, tl⟩ := keep3 hb4 t0 t1 t2 tf0 tf1 tf2
  go_wp2_with fail
  refine (civil_number_yes (-999999999) 1 1 (by decide) _).mono ?_
  rw [Civ.first_num, show Civ.first = -365243219162 from rfl]
  rintro e w5 ⟨rfl, hb5⟩
  go_wp2_with fail
  refine (civil_number_yes 999999999 12 31 (by decide) _).mono ?_
  rw [Civ.last_num, show Civ.last = 365241780471 from rfl]
  rintro e w6 ⟨rfl, hb6⟩
  go_wp2_with fail
  refine (civil_of n _ HN.out _).mono ?_
  rw [if_pos rfl]
  rintro e w7 ⟨rfl, hb7⟩
  go_wp2_with fail
  refine (civil_number_yes _ _ _ HMY.out _).mono ?_
  rw [HS.out.2.2.2.2]
  rintro e w8 ⟨rfl, hb8⟩
  obtain ⟨o0, o1, o2, of0, of1, of2, ol⟩ := keep3 (b := w7.heap.size) (x := .int .i64 (Civ.ofY n)) (y := .int .i64 (Civ.ofM n)) (z := .int .i64 (Civ.ofD n)) hb8 (by simp [*]) (by simp [*]) (by simp [*]) (by simp [*]) (by simp [*]) (by simp [*])
  go_wp2_with fail
  refine (civil_may_is _ _ _ _ HMY.out _).mono ?_
  rintro e w9 ⟨rfl, hb9⟩
  go_wp2_with fail
  go_ret
  refine ⟨rfl, ?_⟩
  (repeat (first | with_reducible assumption | with_reducible exact bl_refl _ | with_reducible refine bl_alloc ?_ _ | with_reducible refine bl_set ?_ (by simp) _ | with_reducible refine bl_drew ?_ | with_reducible refine bl_drewN ?_ _ | with_reducible refine bl_trans ?_ (by assumption)))

theorem civilBack_walk (n y m d : Int) (w : World) (_n0 : -9223372036854775808 ≤ n ∧ n ≤ 9223372036854775807) (_n1 : -9223372036854775808 ≤ y ∧ y ≤ 9223372036854775807) (_n2 : -9223372036854775808 ≤ m ∧ m ≤ 9223372036854775807) (_n3 : -9223372036854775808 ≤ d ∧ d ≤ 9223372036854775807) :
    Calls Try.prog 10 #[.int .i64 n, .int .i64 y, .int .i64 m, .int .i64 d] w fun e w' =>
      e = .returned (.bool true) ∧ Below w.heap.size w w' := by
  cases hb : numB n
  · exact civilBack_false n y m d (mkY y) (mkM m) (mkD y m d) w (mk_may y m d) hb (law06_make y m d)
  · exact civilBack_true n y m d (mkY y) (mkM m) (mkD y m d) w (mk_may y m d) hb (law06_make y m d)

set_option maxRecDepth 100000 in
theorem civilBack_lifted (os : Os) (started : os.Started) (H : Type) (enc : TypeId × Value → H) :
    ReturnsInHanded {} Try.checked os 10 .any (Rows.civilBackSpec.pre6 enc Try.prog Try.f10 Rows.civilBackRow.domain false) (Rows.civilBackSpec.post enc Try.prog Try.f10 false true false false) := by
  refine returnsInHanded_of_change (C := Try.checked) Try.own started (by kernel_rfl) Try.func10
    (ChangeSpec.witness6 (enc := enc) (C := Try.checked) false ⟨#[], #[.int .i64 0, .int .i64 0, .int .i64 0, .int .i64 0], []⟩ 8 (by kernel_rfl) (by kernel_rfl) (by kernel_rfl) (by kernel_rfl)) ?_
  intro W base args ds gs before hval0 hW hcnd _
  have hval : ∀ (j : Nat) t v, Try.f10.params[j]? = some t → args[j]? = some v → Value.okWide Try.prog W .any base t v := hval0
  have hW' := hW
  obtain ⟨p, q, hA0, hV, rfl, hfz, hnd⟩ := hW
  have hA : DataW.TrodAll enc Try.prog W 0 (fun _ => true) true Try.f10.params.toList args.toList ds p := hA0
  rw [Try.params10] at hA hval
  obtain ⟨v0, vs0, d0, ds0, p0, q0, hargs, rfl, rfl, h0, r0⟩ := trodAll_cons hA
  obtain ⟨v1, vs1, d1, ds1, p1, q1, rfl, rfl, rfl, h1, r1⟩ := trodAll_cons r0
  obtain ⟨v2, vs2, d2, ds2, p2, q2, rfl, rfl, rfl, h2, r2⟩ := trodAll_cons r1
  obtain ⟨v3, vs3, d3, ds3, p3, q3, rfl, rfl, rfl, h3, r3⟩ := trodAll_cons r2
  obtain ⟨rfl, rfl, rfl⟩ := trodAll_nil r3
  obtain rfl : args = #[v0, v1, v2, v3] := by cases args; simp_all
  obtain ⟨rfl, rfl⟩ := trodVars_none hV
  obtain ⟨a0, rfl, rfl, rfl, a0w⟩ := open_int Try.underlying3 (hval 0 3 v0 rfl rfl) h0
  obtain ⟨a1, rfl, rfl, rfl, a1w⟩ := open_int Try.underlying3 (hval 1 3 v1 rfl rfl) h1
  obtain ⟨a2, rfl, rfl, rfl, a2w⟩ := open_int Try.underlying3 (hval 2 3 v2 rfl rfl) h2
  obtain ⟨a3, rfl, rfl, rfl, a3w⟩ := open_int Try.underlying3 (hval 3 3 v3 rfl rfl) h3
  clear hA0 hval0
  refine (civilBack_walk a0 a1 a2 a3 W (bounds_i64 a0w) (bounds_i64 a1w) (bounds_i64 a2w) (bounds_i64 a3w)).mono fun e W' ⟨he, hg⟩ => ?_
  subst he
  exact ⟨_, rfl, law_post Try.laidOut (by kernel_rfl) rfl rfl Try.underlying4 hW' rfl hg⟩

theorem civilBack_holds : Rows.CivilBackSaid :=
  OpenClaim.holds_of_wide 10 Try.f10 rfl rfl rfl rfl rfl rfl rfl ⟨rfl, rfl, rfl, rfl, rfl⟩ rfl rfl rfl rfl rfl (by kernel_rfl) Try.func10 (by kernel_rfl)
    (of_decide_eq_true (by kernel_rfl)) (by unfold Func.isWrapper; first | (rw [if_pos (by decide +kernel)]; kernel_rfl) | (rw [if_neg (by decide +kernel)]; exact ⟨rfl, rfl⟩))
    (fun os started H enc _ => civilBack_lifted os started H enc)

#print axioms civilBack_holds

end Go.Proofs.Ytfoblnepbncieaa
