/-
  CivilMonths: for every input it returns true.
-/
import Derived.Test.YtfoblnepbncieaaCivilA
import Derived.Test.YtfoblnepbncieaaCivilS
namespace Go.Proofs.Ytfoblnepbncieaa
open Go.ChangeShapes Go.WideShapes Go.ChangeAt Go.RowKit

set_option maxRecDepth 100000 in
set_option maxHeartbeats 1000000 in
theorem civilMonths_far (oy om od y m d n : Int) (w : World) (hn : n < -9007199254740992 ∨ (-9007199254740992 ≤ n ∧ 9007199254740992 < n)) (hmk : ∀ w, Calls Try.prog 41 #[.int .i64 oy, .int .i64 om, .int .i64 od] w fun e w' =>
      e = .returned (.agg #[.int .i64 y, .int .i64 m, .int .i64 d]) ∧ Below w.heap.size w w') :
    Calls Try.prog 9 #[.int .i64 oy, .int .i64 om, .int .i64 od, .int .i64 n] w fun e w' =>
      e = .returned (.bool true) ∧ Below w.heap.size w w' := by
  have HMK := Lib.hid hmk
  have HM := Lib.hid (civil_months_no y m d n (Or.inr (by omega)))
  clear hmk
  rcases hn with h1 | ⟨h1, h2⟩
  all_goals
    go_enter Try.func9, Try.ntmps9
    go_wp2_with fail
    refine (law06_awake _).mono ?_
    rintro e w1 ⟨rfl, hb1⟩
    go_wp2_with fail
    refine (HMK.out _).mono ?_
    rintro e w2 ⟨rfl, hb2⟩
    go_wp2_with fail
    refine (HM.out _).mono ?_
    rintro e w3 ⟨rfl, hb3⟩
    go_wp2_with fail
    go_ret
    refine ⟨rfl, ?_⟩
    (repeat (first | with_reducible assumption | with_reducible exact bl_refl _ | with_reducible refine bl_alloc ?_ _ | with_reducible refine bl_set ?_ (by simp) _ | with_reducible refine bl_drew ?_ | with_reducible refine bl_drewN ?_ _ | with_reducible refine bl_trans ?_ (by assumption)))

set_option maxRecDepth 100000 in
set_option maxHeartbeats 2000000 in
theorem civilMonths_near (oy om od y m d n : Int) (w : World) (h : Civ.may y m d = true) (n1 : -9007199254740992 ≤ n) (n2 : n ≤ 9007199254740992) (hmk : ∀ w, Calls Try.prog 41 #[.int .i64 oy, .int .i64 om, .int .i64 od] w fun e w' =>
      e = .returned (.agg #[.int .i64 y, .int .i64 m, .int .i64 d]) ∧ Below w.heap.size w w') :
    Calls Try.prog 9 #[.int .i64 oy, .int .i64 om, .int .i64 od, .int .i64 n] w fun e w' =>
      e = .returned (.bool true) ∧ Below w.heap.size w w' := by
  obtain ⟨y1, y2, d1, d2⟩ := (may_iff y m d).1 h
  obtain ⟨m1, m2, _⟩ := Civ.num_bounds y m d d1 d2
  have HMK := Lib.hid hmk
  have q1 : -1000000000000000000 ≤ y * 12 + m - 1 + n := by omega
  have q2 : y * 12 + m - 1 + n ≤ 1000000000000000000 := by omega
  have q3 : -100000000000000000 ≤ moY y m n ∧ moY y m n ≤ 100000000000000000 := by unfold moY; omega
  obtain ⟨q3, q4⟩ := q3
  have q5 : 1 ≤ moM y m n ∧ moM y m n ≤ 12 := by unfold moM moY; omega
  obtain ⟨q5, q6⟩ := q5
  have lb := Civ.len_pos (moY y m n) (moM y m n) q5 q6
  have hD : moD y m d n = d ∧ d ≤ Civ.len (moY y m n) (moM y m n) ∨ moD y m d n = Civ.len (moY y m n) (moM y m n) ∧ Civ.len (moY y m n) (moM y m n) < d := by
    unfold moD
    by_cases c : d ≤ Civ.len (moY y m n) (moM y m n)
    · exact Or.inl ⟨Int.min_eq_left c, c⟩
    · exact Or.inr ⟨Int.min_eq_right (by omega), by omega⟩
  have hmay : Civ.may (moY y m n) (moM y m n) (moD y m d n) = decide (-999999999 ≤ moY y m n ∧ moY y m n ≤ 999999999) := by
    rw [Bool.eq_iff_iff, may_iff, decide_eq_true_eq]
    constructor
    · intro g; exact ⟨g.1, g.2.1⟩
    · intro g; exact ⟨g.1, g.2, by omega, by omega⟩
  have HC := Lib.hid (civil_months_yes y m d n h n1 n2)
  rw [hmay] at HC
  have HY := Lib.hid (show (y * 12 + m - 1 + n) / 12 = moY y m n by unfold moY; rw [Int.mul_comm])
  have HMM := Lib.hid (show (y * 12 + m - 1 + n) - 12 * moY y m n + 1 = moM y m n by unfold moM; rw [Int.mul_comm y])
  clear h hmay d2 hmk lb
  generalize moD y m d n = D at *
  generalize moM y m n = M at *
  generalize moY y m n = Y at *
  have hcase : Y < -999999999 ∨ (-999999999 ≤ Y ∧ 999999999 < Y) ∨ (-999999999 ≤ Y ∧ Y ≤ 999999999) := by omega
  rcases hcase with c | ⟨c1, c2⟩ | ⟨c1, c2⟩
  · have HC2 := Lib.hid (HC.out false (decide_eq_false (by omega)))
    clear hD
    go_enter Try.func9, Try.ntmps9
    go_wp2_with fail
    refine (law06_awake _).mono ?_
    rintro e w1 ⟨rfl, hb1⟩
    go_wp2_with fail
    refine (HMK.out _).mono ?_
    rintro e w2 ⟨rfl, hb2⟩
    go_wp2_with fail
    refine (HC2.out _).mono ?_
    rw [if_neg (by simp)]
    rintro e w3 ⟨rfl, hb3⟩
    obtain ⟨t0, t1, t2, tf0, tf1, tf2, tl⟩ := keep3 (b := w2.heap.size) (x := .int .i64 y) (y := .int .i64 m) (z := .int .i64 d) hb3 (by simp [*]) (by simp [*]) (by simp [*]) (by simp [*]) (by simp [*]) (by simp [*])
    go_wp2_with fail
    refine (ref_floor _ 12 _ (by omega) q1 q2 (by omega)).mono ?_
    rw [HY.out]
    rintro e w' ⟨rfl, rfl⟩
    have hmm := HMM.out
    go_wp2_with fail
    go_ret
    refine ⟨rfl, ?_⟩
    (repeat (first | with_reducible assumption | with_reducible exact bl_refl _ | with_reducible refine bl_alloc ?_ _ | with_reducible refine bl_set ?_ (by simp) _ | with_reducible refine bl_drew ?_ | with_reducible refine bl_drewN ?_ _ | with_reducible refine bl_trans ?_ (by assumption)))
  · have HC2 := Lib.hid (HC.out false (decide_eq_false (by omega)))
    clear hD
    go_enter Try.func9, Try.ntmps9
    go_wp2_with fail
    refine (law06_awake _).mono ?_
    rintro e w1 ⟨rfl, hb1⟩
    go_wp2_with fail
    refine (HMK.out _).mono ?_
    rintro e w2 ⟨rfl, hb2⟩
    go_wp2_with fail
    refine (HC2.out _).mono ?_
    rw [if_neg (by simp)]
    rintro e w3 ⟨rfl, hb3⟩
    obtain ⟨t0, t1, t2, tf0, tf1, tf2, tl⟩ := keep3 (b := w2.heap.size) (x := .int .i64 y) (y := .int .i64 m) (z := .int .i64 d) hb3 (by simp [*]) (by simp [*]) (by simp [*]) (by simp [*]) (by simp [*]) (by simp [*])
    go_wp2_with fail
    refine (ref_floor _ 12 _ (by omega) q1 q2 (by omega)).mono ?_
    rw [HY.out]
    rintro e w' ⟨rfl, rfl⟩
    have hmm := HMM.out
    go_wp2_with fail
    go_ret
    refine ⟨rfl, ?_⟩
    (repeat (first | with_reducible assumption | with_reducible exact bl_refl _ | with_reducible refine bl_alloc ?_ _ | with_reducible refine bl_set ?_ (by simp) _ | with_reducible refine bl_drew ?_ | with_reducible refine bl_drewN ?_ _ | with_reducible refine bl_trans ?_ (by assumption)))
  · have HC2 := Lib.hid (HC.out true (decide_eq_true ⟨c1, c2⟩))
    have HD := Lib.hid hD
    clear hD
    go_enter Try.func9, Try.ntmps9
    go_wp2_with fail
    refine (law06_awake _).mono ?_
    rintro e w1 ⟨rfl, hb1⟩
    go_wp2_with fail
    refine (HMK.out _).mono ?_
    rintro e w2 ⟨rfl, hb2⟩
    go_wp2_with fail
    refine (HC2.out _).mono ?_
    rw [if_pos trivial]
    rintro e w3 ⟨rfl, hb3⟩
    obtain ⟨t0, t1, t2, tf0, tf1, tf2, tl⟩ := keep3 (b := w2.heap.size) (x := .int .i64 y) (y := .int .i64 m) (z := .int .i64 d) hb3 (by simp [*]) (by simp [*]) (by simp [*]) (by simp [*]) (by simp [*]) (by simp [*])
    go_wp2_with fail
    refine (ref_floor _ 12 _ (by omega) q1 q2 (by omega)).mono ?_
    rw [HY.out]
    rintro e w' ⟨rfl, rfl⟩
    have hmm := HMM.out
    have z0 : w2.heap.size < w3.heap.size + 1 := by omega
    have hbW : Below w.heap.size w w3 := by (repeat (first | with_reducible assumption | with_reducible exact bl_refl _ | with_reducible refine bl_alloc ?_ _ | with_reducible refine bl_set ?_ (by simp) _ | with_reducible refine bl_drew ?_ | with_reducible refine bl_drewN ?_ _ | with_reducible refine bl_trans ?_ (by assumption)))
    clear hb1 hb2 hb3
    go_upto_region 12 with fail
    rcases HD.out with ⟨e1, e2⟩ | ⟨e1, e2⟩
    · obtain rfl : d = D := e1.symm
      have e3 : (if Civ.len Y M < d then Civ.len Y M else d) = d := if_neg (by omega)
      clear e1
      go_region_held3 (fun w' => w'.cell? ⟨w2.heap.size, 2, none⟩ = some (.int .i64 d) ∧ w'.cell? ⟨w3.heap.size, 0, none⟩ = some (.int .i64 Y) ∧ w'.cell? ⟨w3.heap.size, 1, none⟩ = some (.int .i64 M) ∧ w'.cell? ⟨w3.heap.size, 2, none⟩ = some (.int .i64 d))
        ((simp [go_sem, *]))
        (first
          | (go_at_call 34; refine (ref_length _ _ _).mono ?_; rintro e w' ⟨rfl, rfl⟩))
      go_wp2_with fail
      go_ret
      refine ⟨rfl, ?_⟩
      (repeat (first | with_reducible assumption | with_reducible exact bl_refl _ | with_reducible refine bl_alloc ?_ _ | with_reducible refine bl_set ?_ (by simp) _ | with_reducible refine bl_drew ?_ | with_reducible refine bl_drewN ?_ _ | with_reducible refine bl_trans ?_ (by assumption)))
    · subst e1
      go_region_held3 (fun w' => w'.cell? ⟨w2.heap.size, 2, none⟩ = some (.int .i64 d) ∧ w'.cell? ⟨w3.heap.size, 0, none⟩ = some (.int .i64 Y) ∧ w'.cell? ⟨w3.heap.size, 1, none⟩ = some (.int .i64 M) ∧ w'.cell? ⟨w3.heap.size, 2, none⟩ = some (.int .i64 (Civ.len Y M)))
        ((simp [go_sem, *]))
        (first
          | (go_at_call 34; refine (ref_length _ _ _).mono ?_; rintro e w' ⟨rfl, rfl⟩))
      go_wp2_with fail
      go_ret
      refine ⟨rfl, ?_⟩
      (repeat (first | with_reducible assumption | with_reducible exact bl_refl _ | with_reducible refine bl_alloc ?_ _ | with_reducible refine bl_set ?_ (by simp) _ | with_reducible refine bl_drew ?_ | with_reducible refine bl_drewN ?_ _ | with_reducible refine bl_trans ?_ (by assumption)))

theorem civilMonths_walk (y m d n : Int) (w : World) (_n0 : -9223372036854775808 ≤ y ∧ y ≤ 9223372036854775807) (_n1 : -9223372036854775808 ≤ m ∧ m ≤ 9223372036854775807) (_n2 : -9223372036854775808 ≤ d ∧ d ≤ 9223372036854775807) (_n3 : -9223372036854775808 ≤ n ∧ n ≤ 9223372036854775807) :
    Calls Try.prog 9 #[.int .i64 y, .int .i64 m, .int .i64 d, .int .i64 n] w fun e w' =>
      e = .returned (.bool true) ∧ Below w.heap.size w w' := by
  by_cases c : -9007199254740992 ≤ n ∧ n ≤ 9007199254740992
  · exact civilMonths_near y m d (mkY y) (mkM m) (mkD y m d) n w (mk_may y m d) c.1 c.2 (law06_make y m d)
  · exact civilMonths_far y m d (mkY y) (mkM m) (mkD y m d) n w (by omega) (law06_make y m d)

set_option maxRecDepth 100000 in
theorem civilMonths_lifted (os : Os) (started : os.Started) (H : Type) (enc : TypeId × Value → H) :
    ReturnsInHanded {} Try.checked os 9 .any (Rows.civilMonthsSpec.pre6 enc Try.prog Try.f9 Rows.civilMonthsRow.domain false) (Rows.civilMonthsSpec.post enc Try.prog Try.f9 false true false false) := by
  refine returnsInHanded_of_change (C := Try.checked) Try.own started (by kernel_rfl) Try.func9
    (ChangeSpec.witness6 (enc := enc) (C := Try.checked) false ⟨#[], #[.int .i64 0, .int .i64 0, .int .i64 0, .int .i64 0], []⟩ 8 (by kernel_rfl) (by kernel_rfl) (by kernel_rfl) (by kernel_rfl)) ?_
  intro W base args ds gs before hval0 hW hcnd _
  have hval : ∀ (j : Nat) t v, Try.f9.params[j]? = some t → args[j]? = some v → Value.okWide Try.prog W .any base t v := hval0
  have hW' := hW
  obtain ⟨p, q, hA0, hV, rfl, hfz, hnd⟩ := hW
  have hA : DataW.TrodAll enc Try.prog W 0 (fun _ => true) true Try.f9.params.toList args.toList ds p := hA0
  rw [Try.params9] at hA hval
  obtain ⟨v0, vs0, d0, ds0, p0, q0, hargs, rfl, rfl, h0, r0⟩ := trodAll_cons hA
  obtain ⟨v1, vs1, d1, ds1, p1, q1, rfl, rfl, rfl, h1, r1⟩ := trodAll_cons r0
  obtain ⟨v2, vs2, d2, ds2, p2, q2, rfl, rfl, rfl, h2, r2⟩ := trodAll_cons r1
  obtain ⟨v3, vs3, d3, ds3, p3, q3, rfl, rfl, rfl, h3, r3⟩ := trodAll_cons r2
  obtain ⟨rfl, rfl, rfl⟩ := trodAll_nil r3
  obtain rfl : args = #[v0, v1, v2, v3] := by cases args; simp_all
  obtain ⟨rfl, rfl⟩ := trodVars_none hV
  obtain ⟨a0, rfl, rfl, rfl, a0w⟩ := open_int Try.underlying3 (hval 0 3 v0 rfl rfl) h0
  obtain ⟨a1, rfl, rfl, rfl, a1w⟩ := open_int Try.underlying3 (hval 1 3 v1 rfl rfl) h1
  obtain ⟨a2, rfl, rfl, rfl, a2w⟩ := open_int Try.underlying3 (hval 2 3 v2 rfl rfl) h2
  obtain ⟨a3, rfl, rfl, rfl, a3w⟩ := open_int Try.underlying3 (hval 3 3 v3 rfl rfl) h3
  clear hA0 hval0
  refine (civilMonths_walk a0 a1 a2 a3 W (bounds_i64 a0w) (bounds_i64 a1w) (bounds_i64 a2w) (bounds_i64 a3w)).mono fun e W' ⟨he, hg⟩ => ?_
  subst he
  exact ⟨_, rfl, law_post Try.laidOut (by kernel_rfl) rfl rfl Try.underlying4 hW' rfl hg⟩

theorem civilMonths_holds : Rows.CivilMonthsSaid :=
  OpenClaim.holds_of_wide 9 Try.f9 rfl rfl rfl rfl rfl rfl rfl ⟨rfl, rfl, rfl, rfl, rfl⟩ rfl rfl rfl rfl rfl (by kernel_rfl) Try.func9 (by kernel_rfl)
    (of_decide_eq_true (by kernel_rfl)) (by unfold Func.isWrapper; first | (rw [if_pos (by decide +kernel)]; kernel_rfl) | (rw [if_neg (by decide +kernel)]; exact ⟨rfl, rfl⟩))
    (fun os started H enc _ => civilMonths_lifted os started H enc)

#print axioms civilMonths_holds

end Go.Proofs.Ytfoblnepbncieaa
