/-
  Which type conforms to which, as a relation; the contract of kinds.funcs, under that of kinds.Conforms at smaller types.
-/
import Derived.Test.YtnkecbpocgcdfaaKf
namespace Go.Proofs.Ytnkecbpocgcdfaa
open Go.ChangeShapes Go.WideShapes Go.ChangeAt Go.RowKit Go.Joins

inductive Conf : Ty → Ty → Prop where
  | null {a b : Ty} (h : a.kind = 1) : Conf a b
  | any {a b : Ty} (h : b.kind = 14) : Conf a b
  | one {a b : Ty} (h : a.kind = b.kind) (hk : a.kind = 10 ∨ a.kind = 12) (ha : a.items.length = 1) (hb : b.items.length = 1) (hc : Conf (a.items.getD 0 noTy) (b.items.getD 0 noTy)) : Conf a b
  | ctx {a b : Ty} (h : a.kind = b.kind) (hk : a.kind = 11) (X : Nat → Ty) (hX : ∀ j, j < b.names.length → entryT a (b.names.getD j ByteArray.empty) = some (X j) ∧ j < b.items.length)
      (hc : ∀ j, j < b.names.length → Conf (X j) (b.items.getD j noTy)) : Conf a b
  | fn {a b : Ty} (h : a.kind = b.kind) (hk : a.kind = 13) (h0 : 0 < a.items.length) (hl : a.items.length = b.items.length) (hp : ∀ j, j + 1 < a.items.length → Conf (b.items.getD j noTy) (a.items.getD j noTy))
      (hr : Conf (a.items.getD (a.items.length - 1) noTy) (b.items.getD (a.items.length - 1) noTy)) : Conf a b
  | flat {a b : Ty} (h : a.kind = b.kind) (hk : ¬ (a.kind = 10 ∨ a.kind = 11 ∨ a.kind = 12 ∨ a.kind = 13)) : Conf a b

noncomputable def decB (p : Prop) : Bool := @decide p (Classical.propDecidable p)
theorem decB_true {p : Prop} (h : p) : decB p = true := by unfold decB; exact @decide_eq_true p (Classical.propDecidable p) h
theorem decB_false {p : Prop} (h : ¬ p) : decB p = false := by unfold decB; exact @decide_eq_false p (Classical.propDecidable p) h
theorem decB_iff {p : Prop} : decB p = true ↔ p := ⟨fun h => Classical.byContradiction fun n => by rw [decB_false n] at h; simp at h, decB_true⟩

noncomputable def confB (a b : Ty) : Bool := decB (Conf a b)

def FunConf (a b : Ty) : Prop :=
  0 < a.items.length ∧ a.items.length = b.items.length ∧ (∀ j, j + 1 < a.items.length → Conf (b.items.getD j noTy) (a.items.getD j noTy)) ∧
    Conf (a.items.getD (a.items.length - 1) noTy) (b.items.getD (a.items.length - 1) noTy)

/-- kinds.Conforms' contract at two types -/
def ConfSpec (a b : Ty) : Prop := ∀ w ai an bi bn, IsTy w a ai an → IsTy w b bi bn → ∀ w', Kept w w' →
  Calls Try.prog 12 #[.agg #[.int .i64 a.kind, ai, an], .agg #[.int .i64 b.kind, bi, bn]] w' fun e w2 => e = .returned (.bool (confB a b)) ∧ Below w'.heap.size w' w2

theorem kept_head {a b : World} (h : Kept a b) : Kept a b := h
theorem kept_drew {a b : World} (h : Kept a b) : Kept a b.drew := fun x o v q => by simpa using h x o v q

theorem getD_at {l : List Ty} {j : Nat} (h : j < l.length) : l.getD j noTy = l[j] := by
  rw [List.getD, List.getElem?_eq_getElem h]; rfl

/-- an item of a type that lies in a world: its cells, and that it lies there -/
theorem IsTy.item {w w' : World} {T : Ty} {a : Option Addr} {L c : Nat} {n : Value} (h : IsTy w T (.slice a L c) n) (hK : Kept w w') (j : Nat) (hj : j < T.items.length) :
    ∃ b o, a = some ⟨b, o, none⟩ ∧ ∃ xa xc ya yc, w'.cell? ⟨b, o + j * 3, none⟩ = some (.int .i64 (T.items.getD j noTy).kind) ∧ w'.cell? ⟨b, o + j * 3 + 1, none⟩ = some (.slice xa (T.items.getD j noTy).items.length xc) ∧ w'.cell? ⟨b, o + j * 3 + 2, none⟩ = some (.slice ya (T.items.getD j noTy).names.length yc) ∧
      IsTy w' (T.items.getD j noTy) (.slice xa (T.items.getD j noTy).items.length xc) (.slice ya (T.items.getD j noTy).names.length yc) := by
  obtain ⟨_, _, a', c', e, _, _, h3⟩ := h.inv
  simp only [Value.slice.injEq] at e
  obtain ⟨rfl, rfl, rfl⟩ := e
  obtain ⟨b, o, rfl, g⟩ := h3 (by intro e; rw [e] at hj; simp at hj)
  refine ⟨b, o, rfl, ?_⟩
  obtain ⟨xa, xc, ya, yc, q0, q1, q2, q3⟩ := g j hj
  rw [getD_at hj]
  exact ⟨xa, xc, ya, yc, hK _ _ _ q0, hK _ _ _ q1, hK _ _ _ q2, q3.keep hK⟩

set_option maxHeartbeats 1000000 in
theorem funcs_k (a b : Ty) (IH : ∀ x y : Ty, x.sz + y.sz < a.sz + b.sz → ConfSpec x y) (w : World) (ai an bi bn : Value) (hA : IsTy w a ai an) (hB : IsTy w b bi bn) (w' : World) (hK : Kept w w') :
    Calls Try.prog 35 #[.agg #[.int .i64 a.kind, ai, an], .agg #[.int .i64 b.kind, bi, bn]] w' fun e w2 => e = .returned (.bool (decB (FunConf a b))) ∧ Below w'.heap.size w' w2 := by
  obtain ⟨aa, ac, ana, anc, rfl, rfl⟩ := hA.shape
  obtain ⟨ba, bc, bna, bnc, rfl, rfl⟩ := hB.shape
  obtain ⟨_, _, _, _, e, g1, g2, _⟩ := hA.inv
  simp only [Value.slice.injEq] at e
  obtain ⟨rfl, -, rfl⟩ := e
  obtain ⟨_, _, _, _, e, g3, g4, _⟩ := hB.inv
  simp only [Value.slice.injEq] at e
  obtain ⟨rfl, -, rfl⟩ := e
  have z1 : w'.heap.size < w'.heap.size + 1 + 1 := by omega
  have HA := Lib.hid hA
  have HB := Lib.hid hB
  have HK := Lib.hid hK
  have HIH := Lib.hid IH
  clear hA hB hK IH
  by_cases c0 : a.items.length = 0
  · have hF : decB (FunConf a b) = false := decB_false (fun h => by have := h.1; omega)
    have HF := Lib.hid hF
    rw [c0]
    clear hF c0
    go_enter Try.func35, Try.ntmps35
    go_wp2_with fail
    go_ret
    refine ⟨ret_bool HF.out.symm, ?_⟩
    (repeat (first | with_reducible assumption | with_reducible exact bl_refl _ | with_reducible refine bl_alloc ?_ _ | with_reducible refine bl_set ?_ (by simp) _ | with_reducible refine bl_drew ?_ | with_reducible refine bl_drewN ?_ _ | with_reducible refine bl_trans ?_ (by assumption)))
  by_cases c1 : a.items.length = b.items.length
  · have hp : 0 < a.items.length := by omega
    have C1 := Lib.hid c1
    rw [← c1]
    rw [← c1] at g3
    clear c0 c1
    have hz : ((a.items.length : Int) == 0) = false := by rw [beq_eq_false_iff_ne]; omega
    have hz2 : ¬ a.items.length = 0 := by omega
    go_enter Try.func35, Try.ntmps35
    go_wp2_with fail
    go_loopw [21] (fun i wr => ∃ j : Nat, j + 1 ≤ a.items.length ∧ i = .int .i64 j ∧ (∀ x, x < j → Conf (b.items.getD x noTy) (a.items.getD x noTy)) ∧ Kept w' wr ∧ Below w'.heap.size w' wr ∧
      wr.cell? ⟨w'.heap.size, 0, none⟩ = some (.int .i64 a.kind) ∧ wr.cell? ⟨w'.heap.size, 1, none⟩ = some (.slice aa a.items.length ac) ∧ wr.cell? ⟨w'.heap.size, 2, none⟩ = some (.slice ana a.names.length anc) ∧
      wr.cell? ⟨w'.heap.size + 1, 0, none⟩ = some (.int .i64 b.kind) ∧ wr.cell? ⟨w'.heap.size + 1, 1, none⟩ = some (.slice ba a.items.length bc) ∧ wr.cell? ⟨w'.heap.size + 1, 2, none⟩ = some (.slice bna b.names.length bnc)) (fun i _ => a.items.length - (intOf i).toNat)
    case atStart =>
      refine ⟨0, by omega, rfl, fun x hx => absurd hx (Nat.not_lt_zero _), kept_alloc (kept_alloc (kept_refl _) _) _, ?_, ?_, ?_, ?_, ?_, ?_, ?_⟩
      · (repeat (first | with_reducible assumption | with_reducible exact bl_refl _ | with_reducible refine bl_alloc ?_ _ | with_reducible refine bl_set ?_ (by simp) _ | with_reducible refine bl_drew ?_ | with_reducible refine bl_drewN ?_ _ | with_reducible refine bl_trans ?_ (by assumption)))
      all_goals simp
    case round =>
      obtain ⟨j, hj, rfl, hall, hK2, hbr, c0, c1, c2, d0, d1, d2⟩ := hrel
      have HALL := Lib.hid hall
      clear hall
      by_cases hlt : j + 1 < a.items.length
      · obtain ⟨pa, po, rfl, xa, xc, ya, yc, q0, q1, q2, hX⟩ := HA.out.item (kept_trans HK.out hK2) j (by omega)
        obtain ⟨pb, pq, rfl, va, vc, ua, uc, r0, r1, r2, hY⟩ := (show IsTy w b (.slice ba a.items.length bc) (.slice bna b.names.length bnc) by rw [C1.out]; exact HB.out).item (kept_trans HK.out hK2) j (by rw [← C1.out]; omega)
        have HX := Lib.hid (HIH.out _ _ (by rw [getD_at (show j < a.items.length by omega), getD_at (show j < b.items.length by rw [← C1.out]; omega)]; have := sz_item a j (by omega); have := sz_item b j (by rw [← C1.out]; omega); omega) _ _ _ _ _ hY hX)
        have HK2 := Lib.hid hK2
        clear hX hY
        generalize hx : a.items.getD j noTy = X at *
        generalize hy : b.items.getD j noTy = Y at *
        have EX := Lib.hid hx
        have EY := Lib.hid hy
        clear hx hy
        have i0 : (0 : Int) ≤ (j : Int) := by omega
        have i1 : (j : Int) < (a.items.length : Int) := by omega
        cases hm : confB Y X
        · rw [hm] at HX
          have M := Lib.hid hm
          clear hm
          go_wp2_with fail
          go_region_held3 (fun v => v.cell? ⟨w'.heap.size, 0, none⟩ = some (.int .i64 a.kind) ∧ v.cell? ⟨w'.heap.size, 1, none⟩ = some (.slice (some ⟨pa, po, none⟩) a.items.length ac) ∧ v.cell? ⟨w'.heap.size, 2, none⟩ = some (.slice ana a.names.length anc) ∧
              v.cell? ⟨w'.heap.size + 1, 0, none⟩ = some (.int .i64 b.kind) ∧ v.cell? ⟨w'.heap.size + 1, 1, none⟩ = some (.slice (some ⟨pb, pq, none⟩) a.items.length bc) ∧ v.cell? ⟨w'.heap.size + 1, 2, none⟩ = some (.slice bna b.names.length bnc) ∧
              v.cell? ⟨pa, po + j * 3, none⟩ = some (.int .i64 X.kind) ∧ v.cell? ⟨pa, po + j * 3 + 1, none⟩ = some (.slice xa X.items.length xc) ∧ v.cell? ⟨pa, po + j * 3 + 2, none⟩ = some (.slice ya X.names.length yc) ∧
              v.cell? ⟨pb, pq + j * 3, none⟩ = some (.int .i64 Y.kind) ∧ v.cell? ⟨pb, pq + j * 3 + 1, none⟩ = some (.slice va Y.items.length vc) ∧ v.cell? ⟨pb, pq + j * 3 + 2, none⟩ = some (.slice ua Y.names.length uc) ∧ Kept w' v ∧ Below w'.heap.size w' v)
            (((try go_split_ands); (repeat' apply And.intro) <;> (first | (with_reducible refine kept_head ?_; (first | with_reducible assumption | (with_reducible refine kept_drew ?_; with_reducible assumption) | exact kept_trans (by assumption) (kept_below hb))) | (simp [*]; done) | ((repeat (first | with_reducible assumption | with_reducible exact bl_refl _ | with_reducible refine bl_alloc ?_ _ | with_reducible refine bl_set ?_ (by simp) _ | with_reducible refine bl_drew ?_ | with_reducible refine bl_drewN ?_ _ | with_reducible refine bl_trans ?_ (by assumption))); done))))
            ((go_at_call 12; refine (HX.out _ (kept_drew (kept_refl _))).mono ?_; rintro e v1 ⟨rfl, hb⟩; have hk := below_keeps hb))
          obtain ⟨c0, c1, c2, d0, d1, d2, -, -, -, -, -, -, hK5, hbr⟩ := ‹_ ∧ _ ∧ _ ∧ _ ∧ _ ∧ _ ∧ _ ∧ _ ∧ _ ∧ _ ∧ _ ∧ _ ∧ Kept w' _ ∧ Below w'.heap.size w' _›
          go_wp2_with fail
          go_ret
          refine ⟨ret_bool ?_, hbr⟩
          rw [decB_false (fun h => ?_)]
          have := h.2.2.1 j hlt
          rw [EX.out, EY.out] at this
          have q := M.out
          unfold confB at q
          rw [decB_true this] at q
          simp at q
        · rw [hm] at HX
          have M := Lib.hid hm
          clear hm
          go_wp2_with fail
          go_region_held3 (fun v => v.cell? ⟨w'.heap.size, 0, none⟩ = some (.int .i64 a.kind) ∧ v.cell? ⟨w'.heap.size, 1, none⟩ = some (.slice (some ⟨pa, po, none⟩) a.items.length ac) ∧ v.cell? ⟨w'.heap.size, 2, none⟩ = some (.slice ana a.names.length anc) ∧
              v.cell? ⟨w'.heap.size + 1, 0, none⟩ = some (.int .i64 b.kind) ∧ v.cell? ⟨w'.heap.size + 1, 1, none⟩ = some (.slice (some ⟨pb, pq, none⟩) a.items.length bc) ∧ v.cell? ⟨w'.heap.size + 1, 2, none⟩ = some (.slice bna b.names.length bnc) ∧
              v.cell? ⟨pa, po + j * 3, none⟩ = some (.int .i64 X.kind) ∧ v.cell? ⟨pa, po + j * 3 + 1, none⟩ = some (.slice xa X.items.length xc) ∧ v.cell? ⟨pa, po + j * 3 + 2, none⟩ = some (.slice ya X.names.length yc) ∧
              v.cell? ⟨pb, pq + j * 3, none⟩ = some (.int .i64 Y.kind) ∧ v.cell? ⟨pb, pq + j * 3 + 1, none⟩ = some (.slice va Y.items.length vc) ∧ v.cell? ⟨pb, pq + j * 3 + 2, none⟩ = some (.slice ua Y.names.length uc) ∧ Kept w' v ∧ Below w'.heap.size w' v)
            (((try go_split_ands); (repeat' apply And.intro) <;> (first | (with_reducible refine kept_head ?_; (first | with_reducible assumption | (with_reducible refine kept_drew ?_; with_reducible assumption) | exact kept_trans (by assumption) (kept_below hb))) | (simp [*]; done) | ((repeat (first | with_reducible assumption | with_reducible exact bl_refl _ | with_reducible refine bl_alloc ?_ _ | with_reducible refine bl_set ?_ (by simp) _ | with_reducible refine bl_drew ?_ | with_reducible refine bl_drewN ?_ _ | with_reducible refine bl_trans ?_ (by assumption))); done))))
            ((go_at_call 12; refine (HX.out _ (kept_drew (kept_refl _))).mono ?_; rintro e v1 ⟨rfl, hb⟩; have hk := below_keeps hb))
          obtain ⟨c0, c1, c2, d0, d1, d2, -, -, -, -, -, -, hK5, hbr⟩ := ‹_ ∧ _ ∧ _ ∧ _ ∧ _ ∧ _ ∧ _ ∧ _ ∧ _ ∧ _ ∧ _ ∧ _ ∧ Kept w' _ ∧ Below w'.heap.size w' _›
          go_wp2_with fail
          go_roundw
          case rel =>
            refine ⟨j + 1, by omega, by go_num, fun x hx => ?_, hK5, hbr, c0, c1, c2, d0, d1, d2⟩
            by_cases e : x = j
            · subst e
              rw [EX.out, EY.out]
              exact decB_iff.1 M.out
            · exact HALL.out x (by omega)
          case measure => simp [intOf]; omega
      · obtain ⟨pa, po, rfl, xa, xc, ya, yc, q0, q1, q2, hX⟩ := HA.out.item (kept_trans HK.out hK2) j (by omega)
        obtain ⟨pb, pq, rfl, va, vc, ua, uc, r0, r1, r2, hY⟩ := (show IsTy w b (.slice ba a.items.length bc) (.slice bna b.names.length bnc) by rw [C1.out]; exact HB.out).item (kept_trans HK.out hK2) j (by rw [← C1.out]; omega)
        have HX := Lib.hid (HIH.out _ _ (by rw [getD_at (show j < a.items.length by omega), getD_at (show j < b.items.length by rw [← C1.out]; omega)]; have := sz_item a j (by omega); have := sz_item b j (by rw [← C1.out]; omega); omega) _ _ _ _ _ hX hY)
        have HK2 := Lib.hid hK2
        clear hX hY
        have HJ := Lib.hid (show j = a.items.length - 1 by omega)
        generalize hx : a.items.getD j noTy = X at *
        generalize hy : b.items.getD j noTy = Y at *
        have EX := Lib.hid hx
        have EY := Lib.hid hy
        clear hx hy
        have i0 : (0 : Int) ≤ (j : Int) := by omega
        have i1 : (j : Int) < (a.items.length : Int) := by omega
        have e2 : IntKind.i64.wrap ((a.items.length : Int) - 1) = (j : Int) := by rw [show (a.items.length : Int) - 1 = (j : Int) by omega]; exact IntWalk.i64_in _ (by omega)
        have ER : decB (FunConf a b) = confB X Y := by
          rw [Bool.eq_iff_iff, decB_iff]
          unfold confB
          rw [decB_iff]
          refine ⟨fun h => ?_, fun h => ⟨by omega, C1.out, fun x hx => HALL.out x (by omega), ?_⟩⟩
          · have := h.2.2.2
            rw [← HJ.out, EX.out, EY.out] at this
            exact this
          · rw [← HJ.out, EX.out, EY.out]
            exact h
        have ER := Lib.hid ER
        go_wp2_with fail
        go_region_held3 (fun v => v.cell? ⟨w'.heap.size, 0, none⟩ = some (.int .i64 a.kind) ∧ v.cell? ⟨w'.heap.size, 1, none⟩ = some (.slice (some ⟨pa, po, none⟩) a.items.length ac) ∧ v.cell? ⟨w'.heap.size, 2, none⟩ = some (.slice ana a.names.length anc) ∧
              v.cell? ⟨w'.heap.size + 1, 0, none⟩ = some (.int .i64 b.kind) ∧ v.cell? ⟨w'.heap.size + 1, 1, none⟩ = some (.slice (some ⟨pb, pq, none⟩) a.items.length bc) ∧ v.cell? ⟨w'.heap.size + 1, 2, none⟩ = some (.slice bna b.names.length bnc) ∧
              v.cell? ⟨pa, po + j * 3, none⟩ = some (.int .i64 X.kind) ∧ v.cell? ⟨pa, po + j * 3 + 1, none⟩ = some (.slice xa X.items.length xc) ∧ v.cell? ⟨pa, po + j * 3 + 2, none⟩ = some (.slice ya X.names.length yc) ∧
              v.cell? ⟨pb, pq + j * 3, none⟩ = some (.int .i64 Y.kind) ∧ v.cell? ⟨pb, pq + j * 3 + 1, none⟩ = some (.slice va Y.items.length vc) ∧ v.cell? ⟨pb, pq + j * 3 + 2, none⟩ = some (.slice ua Y.names.length uc) ∧ Kept w' v ∧ Below w'.heap.size w' v)
            (((try go_split_ands); (repeat' apply And.intro) <;> (first | (with_reducible refine kept_head ?_; (first | with_reducible assumption | (with_reducible refine kept_drew ?_; with_reducible assumption) | exact kept_trans (by assumption) (kept_below hb))) | (simp [*]; done) | ((repeat (first | with_reducible assumption | with_reducible exact bl_refl _ | with_reducible refine bl_alloc ?_ _ | with_reducible refine bl_set ?_ (by simp) _ | with_reducible refine bl_drew ?_ | with_reducible refine bl_drewN ?_ _ | with_reducible refine bl_trans ?_ (by assumption))); done))))
            ((go_at_call 12; refine (HX.out _ (kept_drew (kept_refl _))).mono ?_; rintro e v1 ⟨rfl, hb⟩; have hk := below_keeps hb))
        obtain ⟨c0, c1, c2, d0, d1, d2, -, -, -, -, -, -, hK5, hbr⟩ := ‹_ ∧ _ ∧ _ ∧ _ ∧ _ ∧ _ ∧ _ ∧ _ ∧ _ ∧ _ ∧ _ ∧ _ ∧ Kept w' _ ∧ Below w'.heap.size w' _›
        go_wp2_with fail
        go_ret
        exact ⟨ret_bool ER.out.symm, hbr⟩
  · have hF : decB (FunConf a b) = false := decB_false (fun h => c1 h.2.1)
    have HF := Lib.hid hF
    have hc : ((a.items.length : Int) == b.items.length) = false := by simp; omega
    have hc2 : ((a.items.length : Int) != b.items.length) = true := by simp; omega
    clear hF c1
    go_enter Try.func35, Try.ntmps35
    go_wp2_with fail
    go_ret
    refine ⟨ret_bool HF.out.symm, ?_⟩
    (repeat (first | with_reducible assumption | with_reducible exact bl_refl _ | with_reducible refine bl_alloc ?_ _ | with_reducible refine bl_set ?_ (by simp) _ | with_reducible refine bl_drew ?_ | with_reducible refine bl_drewN ?_ _ | with_reducible refine bl_trans ?_ (by assumption)))

end Go.Proofs.Ytnkecbpocgcdfaa
