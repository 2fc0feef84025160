/-
  The contract of kinds.Conforms, but for contexts.
-/
import Derived.Test.YtnkecbpocgcdfaaKg
namespace Go.Proofs.Ytnkecbpocgcdfaa
open Go.ChangeShapes Go.WideShapes Go.ChangeAt Go.RowKit Go.Joins

theorem confB_of {a b : Ty} (h : Conf a b) : confB a b = true := decB_true h
theorem confB_not {a b : Ty} (h : ¬ Conf a b) : confB a b = false := decB_false h
theorem confB_iff {a b : Ty} : confB a b = true ↔ Conf a b := decB_iff

theorem conf_differ {a b : Ty} (h1 : a.kind ≠ 1) (h2 : b.kind ≠ 14) (h : a.kind ≠ b.kind) : ¬ Conf a b := by
  intro c
  cases c with
  | null h => exact h1 h
  | any h => exact h2 h
  | one e => exact h e
  | ctx e => exact h e
  | fn e => exact h e
  | flat e => exact h e

theorem conf_one_iff {a b : Ty} (h : a.kind = b.kind) (hk : a.kind = 10 ∨ a.kind = 12) : Conf a b ↔ a.items.length = 1 ∧ b.items.length = 1 ∧ Conf (a.items.getD 0 noTy) (b.items.getD 0 noTy) := by
  constructor
  · intro c
    cases c with
    | null g => omega
    | any g => omega
    | one e k ha hb hc => exact ⟨ha, hb, hc⟩
    | ctx e k => omega
    | fn e k => omega
    | flat e k => omega
  · rintro ⟨ha, hb, hc⟩
    exact .one h hk ha hb hc

theorem conf_fn_iff {a b : Ty} (h : a.kind = b.kind) (hk : a.kind = 13) : Conf a b ↔ FunConf a b := by
  constructor
  · intro c
    cases c with
    | null g => omega
    | any g => omega
    | one e k => omega
    | ctx e k => omega
    | fn e k h0 hl hp hr => exact ⟨h0, hl, hp, hr⟩
    | flat e k => omega
  · rintro ⟨h0, hl, hp, hr⟩
    exact .fn h hk h0 hl hp hr

theorem conf_ctx_iff {a b : Ty} (h : a.kind = b.kind) (hk : a.kind = 11) : Conf a b ↔ ∀ j, j < b.names.length → ∃ X, entryT a (b.names.getD j ByteArray.empty) = some X ∧ j < b.items.length ∧ Conf X (b.items.getD j noTy) := by
  constructor
  · intro c
    cases c with
    | null g => omega
    | any g => omega
    | one e k => omega
    | ctx e k X hX hc => exact fun j hj => ⟨X j, (hX j hj).1, (hX j hj).2, hc j hj⟩
    | fn e k => omega
    | flat e k => omega
  · intro g
    refine .ctx h hk (fun j => (entryT a (b.names.getD j ByteArray.empty)).getD noTy) (fun j hj => ?_) (fun j hj => ?_)
    · obtain ⟨X, e, hi, _⟩ := g j hj
      exact ⟨by rw [e]; rfl, hi⟩
    · obtain ⟨X, e, _, hc⟩ := g j hj
      rw [e]; exact hc

set_option maxHeartbeats 1000000 in
theorem conf_flat (a b : Ty) (H : (a.kind = 1 ∨ b.kind = 14) ∨ (a.kind ≠ 1 ∧ b.kind ≠ 14 ∧ a.kind ≠ b.kind) ∨ (a.kind ≠ 1 ∧ b.kind ≠ 14 ∧ a.kind = b.kind ∧ ¬ (a.kind = 10 ∨ a.kind = 11 ∨ a.kind = 12 ∨ a.kind = 13))) : ConfSpec a b := by
  intro w ai an bi bn hA hB w' hK
  obtain ⟨aa, ac, ana, anc, rfl, rfl⟩ := hA.shape
  obtain ⟨ba, bc, bna, bnc, rfl, rfl⟩ := hB.shape
  have z1 : w'.heap.size < w'.heap.size + 1 + 1 := by omega
  clear hA hB hK
  rcases H with H | ⟨h1, h2, h3⟩ | ⟨h1, h2, h3, h4⟩
  · have C := Lib.hid (confB_of (a := a) (b := b) (by rcases H with h | h; exact .null h; exact .any h))
    rw [C.out]
    generalize a.kind = ka at *
    generalize b.kind = kb at *
    by_cases h : ka = 1
    · subst h
      go_enter Try.func12, Try.ntmps12
      go_wp2_with fail
      go_ret
      refine ⟨rfl, ?_⟩
      (repeat (first | with_reducible assumption | with_reducible exact bl_refl _ | with_reducible refine bl_alloc ?_ _ | with_reducible refine bl_set ?_ (by simp) _ | with_reducible refine bl_drew ?_ | with_reducible refine bl_drewN ?_ _ | with_reducible refine bl_trans ?_ (by assumption)))
    · have hb : kb = 14 := by omega
      subst hb
      have hn : (ka == 1) = false := by rw [beq_eq_false_iff_ne]; exact h
      clear H h
      go_enter Try.func12, Try.ntmps12
      go_wp2_with fail
      go_ret
      refine ⟨rfl, ?_⟩
      (repeat (first | with_reducible assumption | with_reducible exact bl_refl _ | with_reducible refine bl_alloc ?_ _ | with_reducible refine bl_set ?_ (by simp) _ | with_reducible refine bl_drew ?_ | with_reducible refine bl_drewN ?_ _ | with_reducible refine bl_trans ?_ (by assumption)))
  · have C := Lib.hid (confB_not (conf_differ h1 h2 h3))
    rw [C.out]
    generalize a.kind = ka at *
    generalize b.kind = kb at *
    have e1 : (ka == 1) = false := by rw [beq_eq_false_iff_ne]; exact h1
    have e2 : (kb == 14) = false := by rw [beq_eq_false_iff_ne]; exact h2
    have e3 : (ka != kb) = true := by rw [bne_iff_ne]; exact h3
    have e4 : (ka == kb) = false := by rw [beq_eq_false_iff_ne]; exact h3
    clear h1 h2 h3
    go_enter Try.func12, Try.ntmps12
    go_wp2_with fail
    go_ret
    refine ⟨rfl, ?_⟩
    (repeat (first | with_reducible assumption | with_reducible exact bl_refl _ | with_reducible refine bl_alloc ?_ _ | with_reducible refine bl_set ?_ (by simp) _ | with_reducible refine bl_drew ?_ | with_reducible refine bl_drewN ?_ _ | with_reducible refine bl_trans ?_ (by assumption)))
  · have C := Lib.hid (confB_of (Conf.flat h3 h4))
    rw [C.out]
    rw [← h3]
    rw [← h3] at h2
    clear h3 C
    generalize a.kind = ka at *
    have e1 : (ka == 1) = false := by rw [beq_eq_false_iff_ne]; exact h1
    have e2 : (ka == 14) = false := by rw [beq_eq_false_iff_ne]; exact h2
    have e3 : (ka == 10) = false := by rw [beq_eq_false_iff_ne]; omega
    have e4 : (ka == 11) = false := by rw [beq_eq_false_iff_ne]; omega
    have e5 : (ka == 12) = false := by rw [beq_eq_false_iff_ne]; omega
    have e6 : (ka == 13) = false := by rw [beq_eq_false_iff_ne]; omega
    clear h1 h2 h4
    go_enter Try.func12, Try.ntmps12
    go_wp2_with fail
    go_ret
    refine ⟨rfl, ?_⟩
    (repeat (first | with_reducible assumption | with_reducible exact bl_refl _ | with_reducible refine bl_alloc ?_ _ | with_reducible refine bl_set ?_ (by simp) _ | with_reducible refine bl_drew ?_ | with_reducible refine bl_drewN ?_ _ | with_reducible refine bl_trans ?_ (by assumption)))

set_option maxHeartbeats 1000000 in
theorem conf_fn (a b : Ty) (IH : ∀ x y : Ty, x.sz + y.sz < a.sz + b.sz → ConfSpec x y) (ha : a.kind = 13) (hb : b.kind = 13) : ConfSpec a b := by
  intro w ai an bi bn hA hB w' hK
  have HF := Lib.hid (fun w'' (k : Kept w' w'') => funcs_k a b IH w ai an bi bn hA hB w'' (kept_trans hK k))
  have HC := Lib.hid (show confB a b = decB (FunConf a b) by rw [Bool.eq_iff_iff, confB_iff, decB_iff]; exact conf_fn_iff (by omega) ha)
  obtain ⟨aa, ac, ana, anc, rfl, rfl⟩ := hA.shape
  obtain ⟨ba, bc, bna, bnc, rfl, rfl⟩ := hB.shape
  rw [HC.out]
  rw [ha, hb] at HF
  rw [ha, hb]
  clear HC hA hB hK IH ha hb
  have z1 : w'.heap.size < w'.heap.size + 1 + 1 := by omega
  go_enter Try.func12, Try.ntmps12
  go_wp2_with fail
  refine (HF.out _ (kept_alloc (kept_alloc (kept_refl _) _) _)).mono ?_
  rintro e w2 ⟨rfl, hb⟩
  go_wp2_with fail
  go_ret
  refine ⟨rfl, ?_⟩
  (repeat (first | with_reducible assumption | with_reducible exact bl_refl _ | with_reducible refine bl_alloc ?_ _ | with_reducible refine bl_set ?_ (by first | (simp; done) | (simp; omega)) _ | with_reducible refine bl_drew ?_ | with_reducible refine bl_drewN ?_ _ | with_reducible refine bl_trans ?_ (by assumption)))

end Go.Proofs.Ytnkecbpocgcdfaa
