/-
  The law's own Conforms, of types that may be: but for contexts.
-/
import Derived.Test.YtnkecbpocgcdfaaKr
namespace Go.Proofs.Ytnkecbpocgcdfaa
open Go.ChangeShapes Go.WideShapes Go.ChangeAt Go.RowKit Go.Joins

theorem confB_false {a b : Ty} (h : confB a b = false) : ¬ Conf a b := fun g => by
  rw [confB_of g] at h
  exact absurd h (by decide)

/-- the contract of the law's Conforms at two types -/
def LSpec (a b : Ty) : Prop := ∀ w ai an bi bn, IsTy w a ai an → IsTy w b bi bn → ∀ w', Kept w w' →
  Calls Try.prog 13 #[.agg #[.int .i64 a.kind, ai, an], .agg #[.int .i64 b.kind, bi, bn]] w' fun e w2 => e = .returned (.bool (confB a b)) ∧ Below w'.heap.size w' w2

/-- what the law asks of the items at a place -/
def OkAt (a b : Ty) (x : Nat) : Prop := if a.kind = 13 ∧ x + 1 < a.items.length then Conf (b.items.getD x noTy) (a.items.getD x noTy) else Conf (a.items.getD x noTy) (b.items.getD x noTy)

theorem rest_iff (a b : Ty) (ha : mayB a = true) (hb : mayB b = true) (he : a.kind = b.kind) (hk : a.kind ≠ 11) : Conf a b ∨ (a.kind = 1 ∨ b.kind = 14) ↔ (a.items.length = b.items.length ∧ ∀ x, x < a.items.length → OkAt a b x) ∨ (a.kind = 1 ∨ b.kind = 14) := by
  by_cases q : a.kind = 1 ∨ b.kind = 14
  · simp [q]
  · simp only [q, or_false]
    by_cases k1 : a.kind = 10 ∨ a.kind = 12
    · rw [conf_one_iff he k1]
      have l1 := may_one a ha k1
      have l2 := may_one b hb (by omega)
      constructor
      · rintro ⟨_, _, h⟩
        refine ⟨by omega, fun x hx => ?_⟩
        have : x = 0 := by omega
        subst this
        unfold OkAt
        rw [if_neg (by omega)]
        exact h
      · rintro ⟨_, h⟩
        have := h 0 (by omega)
        unfold OkAt at this
        rw [if_neg (by omega)] at this
        exact ⟨l1, l2, this⟩
    · by_cases k2 : a.kind = 13
      · rw [conf_fn_iff he k2]
        constructor
        · rintro ⟨h0, h1, h2, h3⟩
          refine ⟨h1, fun x hx => ?_⟩
          unfold OkAt
          by_cases c : x + 1 < a.items.length
          · rw [if_pos ⟨k2, c⟩]; exact h2 x c
          · rw [if_neg (by omega)]
            have : x = a.items.length - 1 := by omega
            rw [this]; exact h3
        · rintro ⟨h1, h⟩
          have l := may_fn a ha k2
          refine ⟨l, h1, fun x hx => ?_, ?_⟩
          · have := h x (by omega)
            unfold OkAt at this
            rwa [if_pos ⟨k2, hx⟩] at this
          · have := h (a.items.length - 1) (by omega)
            unfold OkAt at this
            rwa [if_neg (by omega)] at this
      · have l1 := may_flat a ha (by omega)
        have l2 := may_flat b hb (by omega)
        constructor
        · intro _
          exact ⟨by omega, fun x hx => by omega⟩
        · intro _
          exact .flat he (by omega)

set_option maxHeartbeats 1000000 in
theorem lconf_flat (a b : Ty) (H : (a.kind = 1 ∨ b.kind = 14) ∨ (a.kind ≠ 1 ∧ b.kind ≠ 14 ∧ a.kind ≠ b.kind)) : LSpec a b := by
  intro w ai an bi bn hA hB w' hK
  obtain ⟨aa, ac, ana, anc, rfl, rfl⟩ := hA.shape
  obtain ⟨ba, bc, bna, bnc, rfl, rfl⟩ := hB.shape
  have z1 : w'.heap.size < w'.heap.size + 1 + 1 := by omega
  clear hA hB hK
  rcases H with H | ⟨h1, h2, h3⟩
  · have C := Lib.hid (confB_of (a := a) (b := b) (by rcases H with h | h; exact .null h; exact .any h))
    rw [C.out]
    generalize a.kind = ka at *
    generalize b.kind = kb at *
    by_cases h : ka = 1
    · subst h
      go_enter Try.func13, Try.ntmps13
      go_wp2_with fail
      go_ret
      refine ⟨rfl, ?_⟩
      (repeat (first | with_reducible assumption | with_reducible exact bl_refl _ | with_reducible refine bl_alloc ?_ _ | with_reducible refine bl_set ?_ (by simp) _ | with_reducible refine bl_drew ?_ | with_reducible refine bl_drewN ?_ _ | with_reducible refine bl_trans ?_ (by assumption)))
    · have hb : kb = 14 := by omega
      subst hb
      have hn : (ka == 1) = false := by rw [beq_eq_false_iff_ne]; exact h
      clear H h
      go_enter Try.func13, Try.ntmps13
      go_wp2_with fail
      go_ret
      refine ⟨rfl, ?_⟩
      (repeat (first | with_reducible assumption | with_reducible exact bl_refl _ | with_reducible refine bl_alloc ?_ _ | with_reducible refine bl_set ?_ (by simp) _ | with_reducible refine bl_drew ?_ | with_reducible refine bl_drewN ?_ _ | with_reducible refine bl_trans ?_ (by assumption)))
  · have C := Lib.hid (confB_not (conf_differ h1 h2 h3))
    rw [C.out]
    generalize a.kind = ka at *
    generalize b.kind = kb at *
    have e1 : (ka == 1) = false := by rw [beq_eq_false_iff_ne]; exact h1
    have e2 : (kb == 14) = false := by rw [beq_eq_false_iff_ne]; exact h2
    have e3 : (ka != kb) = true := by rw [bne_iff_ne]; exact h3
    have e4 : (ka == kb) = false := by rw [beq_eq_false_iff_ne]; exact h3
    clear h1 h2 h3
    go_enter Try.func13, Try.ntmps13
    go_wp2_with fail
    go_ret
    refine ⟨rfl, ?_⟩
    (repeat (first | with_reducible assumption | with_reducible exact bl_refl _ | with_reducible refine bl_alloc ?_ _ | with_reducible refine bl_set ?_ (by simp) _ | with_reducible refine bl_drew ?_ | with_reducible refine bl_drewN ?_ _ | with_reducible refine bl_trans ?_ (by assumption)))

set_option maxHeartbeats 2000000 in
set_option maxRecDepth 100000 in
theorem lconf_rest (a b : Ty) (IH : ∀ x y : Ty, x.sz + y.sz < a.sz + b.sz → mayB x = true → mayB y = true → LSpec x y) (ma : mayB a = true) (mb : mayB b = true) (he : a.kind = b.kind) (h1 : a.kind ≠ 1) (h2 : b.kind ≠ 14) (hk : a.kind ≠ 11) : LSpec a b := by
  intro w ai an bi bn hA hB w' hK
  have hC : Conf a b ↔ a.items.length = b.items.length ∧ ∀ x, x < a.items.length → OkAt a b x := by
    have := rest_iff a b ma mb he hk
    have n : ¬ (a.kind = 1 ∨ b.kind = 14) := by omega
    simpa only [n, or_false] using this
  have HC := Lib.hid hC
  have HA := Lib.hid hA
  have HB := Lib.hid hB
  have HK := Lib.hid hK
  have HIH := Lib.hid IH
  have HMA := Lib.hid (mayB_item a ma)
  have HMB := Lib.hid (mayB_item b mb)
  obtain ⟨aa, ac, ana, anc, rfl, rfl⟩ := hA.shape
  obtain ⟨ba, bc, bna, bnc, rfl, rfl⟩ := hB.shape
  have g1 : a.items.length ≤ 9223372036854775807 := by
    obtain ⟨_, _, _, _, _, q1, q2, _⟩ := hA.inv
    omega
  have z1 : w'.heap.size < w'.heap.size + 1 + 1 := by omega
  have e1 : (a.kind == 1) = false := by rw [beq_eq_false_iff_ne]; exact h1
  have e2 : (a.kind == 14) = false := by rw [beq_eq_false_iff_ne, he]; exact h2
  have e3 : (a.kind == 11) = false := by rw [beq_eq_false_iff_ne]; exact hk
  rw [← he]
  have HE := Lib.hid he
  clear hA hB hK IH hC ma mb he h1 h2 hk
  by_cases c1 : a.items.length = b.items.length
  · have C1 := Lib.hid c1
    rw [← c1]
    clear c1
    go_enter Try.func13, Try.ntmps13
    go_wp2_with fail
    go_loopw [8] (fun i wr => ∃ j : Nat, j ≤ a.items.length ∧ i = .int .i64 j ∧ (∀ x, x < j → OkAt a b x) ∧ Kept w' wr ∧ Below w'.heap.size w' wr ∧
      wr.cell? ⟨w'.heap.size, 0, none⟩ = some (.int .i64 a.kind) ∧ wr.cell? ⟨w'.heap.size, 1, none⟩ = some (.slice aa a.items.length ac) ∧ wr.cell? ⟨w'.heap.size, 2, none⟩ = some (.slice ana a.names.length anc) ∧
      wr.cell? ⟨w'.heap.size + 1, 0, none⟩ = some (.int .i64 a.kind) ∧ wr.cell? ⟨w'.heap.size + 1, 1, none⟩ = some (.slice ba a.items.length bc) ∧ wr.cell? ⟨w'.heap.size + 1, 2, none⟩ = some (.slice bna b.names.length bnc)) (fun i _ => a.items.length - (intOf i).toNat)
    case atStart =>
      refine ⟨0, by omega, rfl, fun x hx => absurd hx (Nat.not_lt_zero _), kept_alloc (kept_alloc (kept_refl _) _) _, ?_, ?_, ?_, ?_, ?_, ?_, ?_⟩
      · (repeat (first | with_reducible assumption | with_reducible exact bl_refl _ | with_reducible refine bl_alloc ?_ _ | with_reducible refine bl_set ?_ (by simp) _ | with_reducible refine bl_drew ?_ | with_reducible refine bl_drewN ?_ _ | with_reducible refine bl_trans ?_ (by assumption)))
      all_goals simp
    case round =>
      obtain ⟨j, hj, rfl, hall, hK2, hbr, c0, c1, c2, d0, d1, d2⟩ := hrel
      have HALL := Lib.hid hall
      clear hall
      by_cases hlt : j < a.items.length
      · obtain ⟨pa, po, rfl, xa, xc, ya, yc, q0, q1, q2, hX⟩ := HA.out.item (kept_trans HK.out hK2) j (by omega)
        obtain ⟨pb, pq, rfl, va, vc, ua, uc, r0, r1, r2, hY⟩ := (show IsTy w b (.slice ba a.items.length bc) (.slice bna b.names.length bnc) by rw [C1.out]; exact HB.out).item (kept_trans HK.out hK2) j (by rw [← C1.out]; omega)
        have s1 := sz_getD a j hlt
        have s2 := sz_getD b j (by rw [← C1.out]; exact hlt)
        have m1 := HMA.out j hlt
        have m2 := HMB.out j (by rw [← C1.out]; exact hlt)
        have HXY := Lib.hid (HIH.out _ _ (by omega) m1 m2 _ _ _ _ _ hX hY)
        have HYX := Lib.hid (HIH.out _ _ (by omega) m2 m1 _ _ _ _ _ hY hX)
        have HK2 := Lib.hid hK2
        clear hX hY s1 s2 m1 m2
        have HOK : OkAt a b j ↔ if a.kind = 13 ∧ j + 1 < a.items.length then Conf (b.items.getD j noTy) (a.items.getD j noTy) else Conf (a.items.getD j noTy) (b.items.getD j noTy) := Iff.rfl
        generalize a.items.getD j noTy = X at *
        generalize b.items.getD j noTy = Y at *
        have i0 : (0 : Int) ≤ (j : Int) := by omega
        have i1 : (j : Int) < (a.items.length : Int) := by omega
        by_cases kf : a.kind = 13 ∧ j + 1 < a.items.length
        · rw [if_pos kf] at HOK
          have HOK := Lib.hid HOK
          have k1 : (a.kind == 13) = true := by rw [beq_iff_eq]; exact kf.1
          have k2 : (j : Int) < (a.items.length : Int) - 1 := by omega
          have k3 := IntWalk.i64_in ((a.items.length : Int) - 1) (by omega)
          clear kf
          cases hm : confB Y X
          · rw [hm] at HYX
            have M := Lib.hid (confB_false hm)
            have H := HYX
            clear HXY HYX  hm
            go_wp2_with fail
            go_region_held3 (fun v => v.cell? ⟨w'.heap.size, 0, none⟩ = some (.int .i64 a.kind) ∧ v.cell? ⟨w'.heap.size, 1, none⟩ = some (.slice (some ⟨pa, po, none⟩) a.items.length ac) ∧ v.cell? ⟨w'.heap.size, 2, none⟩ = some (.slice ana a.names.length anc) ∧
              v.cell? ⟨w'.heap.size + 1, 0, none⟩ = some (.int .i64 a.kind) ∧ v.cell? ⟨w'.heap.size + 1, 1, none⟩ = some (.slice (some ⟨pb, pq, none⟩) a.items.length bc) ∧ v.cell? ⟨w'.heap.size + 1, 2, none⟩ = some (.slice bna b.names.length bnc) ∧
              v.cell? ⟨pa, po + j * 3, none⟩ = some (.int .i64 X.kind) ∧ v.cell? ⟨pa, po + j * 3 + 1, none⟩ = some (.slice xa X.items.length xc) ∧ v.cell? ⟨pa, po + j * 3 + 2, none⟩ = some (.slice ya X.names.length yc) ∧
              v.cell? ⟨pb, pq + j * 3, none⟩ = some (.int .i64 Y.kind) ∧ v.cell? ⟨pb, pq + j * 3 + 1, none⟩ = some (.slice va Y.items.length vc) ∧ v.cell? ⟨pb, pq + j * 3 + 2, none⟩ = some (.slice ua Y.names.length uc) ∧ Kept w' v ∧ Below w'.heap.size w' v)
            (((try go_split_ands); (repeat' apply And.intro) <;> (first | (with_reducible refine kept_head ?_; (first | with_reducible assumption | (with_reducible refine kept_drew ?_; with_reducible assumption) | exact kept_trans (by assumption) (kept_below hb))) | (simp [*]; done) | ((repeat (first | with_reducible assumption | with_reducible exact bl_refl _ | with_reducible refine bl_alloc ?_ _ | with_reducible refine bl_set ?_ (by simp) _ | with_reducible refine bl_drew ?_ | with_reducible refine bl_drewN ?_ _ | with_reducible refine bl_trans ?_ (by assumption))); done))))
            ((go_at_call 13; refine (H.out _ (kept_drew (kept_refl _))).mono ?_; rintro e v1 ⟨rfl, hb⟩; have hk := below_keeps hb))
            obtain ⟨c0, c1, c2, d0, d1, d2, -, -, -, -, -, -, hK5, hbr⟩ := ‹_ ∧ _ ∧ _ ∧ _ ∧ _ ∧ _ ∧ _ ∧ _ ∧ _ ∧ _ ∧ _ ∧ _ ∧ Kept w' _ ∧ Below w'.heap.size w' _›
            go_wp2_with fail
            go_ret
            refine ⟨ret_bool ?_, hbr⟩
            rw [confB_not (fun h => M.out (HOK.out.1 ((HC.out.1 h).2 j hlt)))]
          · rw [hm] at HYX
            have M := Lib.hid (decB_iff.1 hm)
            have H := HYX
            clear HXY HYX  hm
            go_wp2_with fail
            go_region_held3 (fun v => v.cell? ⟨w'.heap.size, 0, none⟩ = some (.int .i64 a.kind) ∧ v.cell? ⟨w'.heap.size, 1, none⟩ = some (.slice (some ⟨pa, po, none⟩) a.items.length ac) ∧ v.cell? ⟨w'.heap.size, 2, none⟩ = some (.slice ana a.names.length anc) ∧
              v.cell? ⟨w'.heap.size + 1, 0, none⟩ = some (.int .i64 a.kind) ∧ v.cell? ⟨w'.heap.size + 1, 1, none⟩ = some (.slice (some ⟨pb, pq, none⟩) a.items.length bc) ∧ v.cell? ⟨w'.heap.size + 1, 2, none⟩ = some (.slice bna b.names.length bnc) ∧
              v.cell? ⟨pa, po + j * 3, none⟩ = some (.int .i64 X.kind) ∧ v.cell? ⟨pa, po + j * 3 + 1, none⟩ = some (.slice xa X.items.length xc) ∧ v.cell? ⟨pa, po + j * 3 + 2, none⟩ = some (.slice ya X.names.length yc) ∧
              v.cell? ⟨pb, pq + j * 3, none⟩ = some (.int .i64 Y.kind) ∧ v.cell? ⟨pb, pq + j * 3 + 1, none⟩ = some (.slice va Y.items.length vc) ∧ v.cell? ⟨pb, pq + j * 3 + 2, none⟩ = some (.slice ua Y.names.length uc) ∧ Kept w' v ∧ Below w'.heap.size w' v)
            (((try go_split_ands); (repeat' apply And.intro) <;> (first | (with_reducible refine kept_head ?_; (first | with_reducible assumption | (with_reducible refine kept_drew ?_; with_reducible assumption) | exact kept_trans (by assumption) (kept_below hb))) | (simp [*]; done) | ((repeat (first | with_reducible assumption | with_reducible exact bl_refl _ | with_reducible refine bl_alloc ?_ _ | with_reducible refine bl_set ?_ (by simp) _ | with_reducible refine bl_drew ?_ | with_reducible refine bl_drewN ?_ _ | with_reducible refine bl_trans ?_ (by assumption))); done))))
            ((go_at_call 13; refine (H.out _ (kept_drew (kept_refl _))).mono ?_; rintro e v1 ⟨rfl, hb⟩; have hk := below_keeps hb))
            obtain ⟨c0, c1, c2, d0, d1, d2, -, -, -, -, -, -, hK5, hbr⟩ := ‹_ ∧ _ ∧ _ ∧ _ ∧ _ ∧ _ ∧ _ ∧ _ ∧ _ ∧ _ ∧ _ ∧ _ ∧ Kept w' _ ∧ Below w'.heap.size w' _›
            go_wp2_with fail
            go_roundw
            case rel =>
              refine ⟨j + 1, by omega, by go_num, fun x hx => ?_, hK5, hbr, c0, c1, c2, d0, d1, d2⟩
              by_cases e : x = j
              · subst e
                exact HOK.out.2 M.out
              · exact HALL.out x (by omega)
            case measure => simp [intOf]; omega
        · rw [if_neg kf] at HOK
          have HOK := Lib.hid HOK
          have k3 := IntWalk.i64_in ((a.items.length : Int) - 1) (by omega)
          rcases (show (a.kind == 13) = false ∨ ((a.kind == 13) = true ∧ ¬ (j : Int) < (a.items.length : Int) - 1) by rw [beq_iff_eq, beq_eq_false_iff_ne]; omega) with k1 | ⟨k1, k2⟩
          all_goals clear kf
          all_goals (
            cases hm : confB X Y
            · rw [hm] at HXY
              have M := Lib.hid (confB_false hm)
              have H := HXY
              clear HXY HYX  hm
              go_wp2_with fail
              go_region_held3 (fun v => v.cell? ⟨w'.heap.size, 0, none⟩ = some (.int .i64 a.kind) ∧ v.cell? ⟨w'.heap.size, 1, none⟩ = some (.slice (some ⟨pa, po, none⟩) a.items.length ac) ∧ v.cell? ⟨w'.heap.size, 2, none⟩ = some (.slice ana a.names.length anc) ∧
                v.cell? ⟨w'.heap.size + 1, 0, none⟩ = some (.int .i64 a.kind) ∧ v.cell? ⟨w'.heap.size + 1, 1, none⟩ = some (.slice (some ⟨pb, pq, none⟩) a.items.length bc) ∧ v.cell? ⟨w'.heap.size + 1, 2, none⟩ = some (.slice bna b.names.length bnc) ∧
                v.cell? ⟨pa, po + j * 3, none⟩ = some (.int .i64 X.kind) ∧ v.cell? ⟨pa, po + j * 3 + 1, none⟩ = some (.slice xa X.items.length xc) ∧ v.cell? ⟨pa, po + j * 3 + 2, none⟩ = some (.slice ya X.names.length yc) ∧
                v.cell? ⟨pb, pq + j * 3, none⟩ = some (.int .i64 Y.kind) ∧ v.cell? ⟨pb, pq + j * 3 + 1, none⟩ = some (.slice va Y.items.length vc) ∧ v.cell? ⟨pb, pq + j * 3 + 2, none⟩ = some (.slice ua Y.names.length uc) ∧ Kept w' v ∧ Below w'.heap.size w' v)
              (((try go_split_ands); (repeat' apply And.intro) <;> (first | (with_reducible refine kept_head ?_; (first | with_reducible assumption | (with_reducible refine kept_drew ?_; with_reducible assumption) | exact kept_trans (by assumption) (kept_below hb))) | (simp [*]; done) | ((repeat (first | with_reducible assumption | with_reducible exact bl_refl _ | with_reducible refine bl_alloc ?_ _ | with_reducible refine bl_set ?_ (by simp) _ | with_reducible refine bl_drew ?_ | with_reducible refine bl_drewN ?_ _ | with_reducible refine bl_trans ?_ (by assumption))); done))))
              ((go_at_call 13; refine (H.out _ (kept_drew (kept_refl _))).mono ?_; rintro e v1 ⟨rfl, hb⟩; have hk := below_keeps hb))
              obtain ⟨c0, c1, c2, d0, d1, d2, -, -, -, -, -, -, hK5, hbr⟩ := ‹_ ∧ _ ∧ _ ∧ _ ∧ _ ∧ _ ∧ _ ∧ _ ∧ _ ∧ _ ∧ _ ∧ _ ∧ Kept w' _ ∧ Below w'.heap.size w' _›
              go_wp2_with fail
              go_ret
              refine ⟨ret_bool ?_, hbr⟩
              rw [confB_not (fun h => M.out (HOK.out.1 ((HC.out.1 h).2 j hlt)))]
            · rw [hm] at HXY
              have M := Lib.hid (decB_iff.1 hm)
              have H := HXY
              clear HXY HYX  hm
              go_wp2_with fail
              go_region_held3 (fun v => v.cell? ⟨w'.heap.size, 0, none⟩ = some (.int .i64 a.kind) ∧ v.cell? ⟨w'.heap.size, 1, none⟩ = some (.slice (some ⟨pa, po, none⟩) a.items.length ac) ∧ v.cell? ⟨w'.heap.size, 2, none⟩ = some (.slice ana a.names.length anc) ∧
                v.cell? ⟨w'.heap.size + 1, 0, none⟩ = some (.int .i64 a.kind) ∧ v.cell? ⟨w'.heap.size + 1, 1, none⟩ = some (.slice (some ⟨pb, pq, none⟩) a.items.length bc) ∧ v.cell? ⟨w'.heap.size + 1, 2, none⟩ = some (.slice bna b.names.length bnc) ∧
                v.cell? ⟨pa, po + j * 3, none⟩ = some (.int .i64 X.kind) ∧ v.cell? ⟨pa, po + j * 3 + 1, none⟩ = some (.slice xa X.items.length xc) ∧ v.cell? ⟨pa, po + j * 3 + 2, none⟩ = some (.slice ya X.names.length yc) ∧
                v.cell? ⟨pb, pq + j * 3, none⟩ = some (.int .i64 Y.kind) ∧ v.cell? ⟨pb, pq + j * 3 + 1, none⟩ = some (.slice va Y.items.length vc) ∧ v.cell? ⟨pb, pq + j * 3 + 2, none⟩ = some (.slice ua Y.names.length uc) ∧ Kept w' v ∧ Below w'.heap.size w' v)
              (((try go_split_ands); (repeat' apply And.intro) <;> (first | (with_reducible refine kept_head ?_; (first | with_reducible assumption | (with_reducible refine kept_drew ?_; with_reducible assumption) | exact kept_trans (by assumption) (kept_below hb))) | (simp [*]; done) | ((repeat (first | with_reducible assumption | with_reducible exact bl_refl _ | with_reducible refine bl_alloc ?_ _ | with_reducible refine bl_set ?_ (by simp) _ | with_reducible refine bl_drew ?_ | with_reducible refine bl_drewN ?_ _ | with_reducible refine bl_trans ?_ (by assumption))); done))))
              ((go_at_call 13; refine (H.out _ (kept_drew (kept_refl _))).mono ?_; rintro e v1 ⟨rfl, hb⟩; have hk := below_keeps hb))
              obtain ⟨c0, c1, c2, d0, d1, d2, -, -, -, -, -, -, hK5, hbr⟩ := ‹_ ∧ _ ∧ _ ∧ _ ∧ _ ∧ _ ∧ _ ∧ _ ∧ _ ∧ _ ∧ _ ∧ _ ∧ Kept w' _ ∧ Below w'.heap.size w' _›
              go_wp2_with fail
              go_roundw
              case rel =>
                refine ⟨j + 1, by omega, by go_num, fun x hx => ?_, hK5, hbr, c0, c1, c2, d0, d1, d2⟩
                by_cases e : x = j
                · subst e
                  exact HOK.out.2 M.out
                · exact HALL.out x (by omega)
              case measure => simp [intOf]; omega)
      · have hT := confB_of (HC.out.2 ⟨C1.out, fun x hx => HALL.out x (by omega)⟩)
        have HT := Lib.hid hT
        clear hT hK2
        go_wp2_with fail
        go_ret
        exact ⟨ret_bool HT.out.symm, hbr⟩
  · have hF := confB_not (fun h => c1 (HC.out.1 h).1)
    have HF := Lib.hid hF
    have hc : ((a.items.length : Int) == b.items.length) = false := by rw [beq_eq_false_iff_ne]; omega
    have hc2 : ((a.items.length : Int) != b.items.length) = true := by rw [bne_iff_ne]; omega
    clear hF c1
    go_enter Try.func13, Try.ntmps13
    go_wp2_with fail
    go_ret
    refine ⟨ret_bool HF.out.symm, ?_⟩
    (repeat (first | with_reducible assumption | with_reducible exact bl_refl _ | with_reducible refine bl_alloc ?_ _ | with_reducible refine bl_set ?_ (by simp) _ | with_reducible refine bl_drew ?_ | with_reducible refine bl_drewN ?_ _ | with_reducible refine bl_trans ?_ (by assumption)))

end Go.Proofs.Ytnkecbpocgcdfaa
