/-
  Join's contract, but for contexts.
-/
import Derived.Test.YtnkecbpocgcdfaaKMiy
namespace Go.Proofs.Ytnkecbpocgcdfaa
open Go.ChangeShapes Go.WideShapes Go.ChangeAt Go.RowKit Go.Joins

theorem kept_of_below {w w' w2 : World} (hK : Kept w w') (hb : Below w'.heap.size w' w2) : Kept w w2 := kept_trans hK (kept_below hb)

theorem jmade_of {w w' w2 : World} {c : Ty} {i n : Value} (hT : IsTy w c i n) (hK : Kept w w') (hb : Below w'.heap.size w' w2) : JMade c w w' (.returned (.agg #[.int .i64 c.kind, i, n])) w2 :=
  ⟨i, n, w, rfl, hT, madeOf_same (kept_of_below hK hb), hb⟩

theorem join_made_right (n : Nat) (a b : Ty) (hc : Conf a b) : JoinSpec (n + 1) a b := by
  intro w ai an bi bn hA hB w' hK
  refine (join_right a b w ai an bi bn hA hB hc w' hK).mono ?_
  rintro e w2 ⟨rfl, hb⟩
  unfold joinF
  rw [if_pos (confB_of hc)]
  exact ⟨bi, bn, w, rfl, hB, madeOf_same (kept_of_below hK hb), hb⟩

theorem joinF_any {n : Nat} {a b : Ty} (hc : ¬ Conf a b) (hd : ¬ Conf b a) (h : ¬ (a.kind = b.kind ∧ (a.kind = 10 ∨ a.kind = 12) ∧ a.items.length = 1 ∧ b.items.length = 1)) (h2 : ¬ (a.kind = 11 ∧ b.kind = 11)) :
    joinF (n + 1) a b = .mk 14 [] [] := by
  unfold joinF
  rw [if_neg (by rw [confB_not hc]; decide), if_neg (by rw [confB_not hd]; decide), if_neg h, if_neg h2]

theorem join_made_any (n : Nat) (a b : Ty) (hc : ¬ Conf a b) (hd : ¬ Conf b a) (hk : a.kind ≠ b.kind) : JoinSpec (n + 1) a b := by
  intro w ai an bi bn hA hB w' hK
  refine (join_any a b w ai an bi bn hA hB hc hd hk w' hK).mono ?_
  rintro e w2 ⟨rfl, hb⟩
  rw [joinF_any hc hd (fun h => hk h.1) (fun h => hk (by omega))]
  exact ⟨.slice none 0 0, .slice none 0 0, w, rfl, ty_flat w 14 (by omega), madeOf_same (kept_of_below hK hb), hb⟩

set_option maxHeartbeats 1000000 in
theorem join_left (n : Nat) (a b : Ty) (hc : ¬ Conf a b) (hd : Conf b a) : JoinSpec (n + 1) a b := by
  intro w ai an bi bn hA hB w' hK
  have h1 := fun v (k : Kept w' v) => conf_k a b w ai an bi bn hA hB v (kept_trans hK k)
  rw [confB_not hc] at h1
  have h2 := fun v (k : Kept w' v) => conf_k b a w bi bn ai an hB hA v (kept_trans hK k)
  rw [confB_of hd] at h2
  have H1 := Lib.hid h1
  have H2 := Lib.hid h2
  have HK := Lib.hid hK
  have HA := Lib.hid hA
  obtain ⟨xa, xc, ya, yc, rfl, rfl⟩ := hA.shape
  obtain ⟨va, vc, ua, uc, rfl, rfl⟩ := hB.shape
  have z1 : w'.heap.size < w'.heap.size + 1 + 1 := by omega
  have z2 : w'.heap.size < w'.heap.size + 1 + 1 + 1 := by omega
  have HJ := Lib.hid (show joinF (n + 1) a b = a by unfold joinF; rw [if_neg (by rw [confB_not hc]; decide), if_pos (confB_of hd)])
  rw [HJ.out]
  clear hA hB hK h1 h2 hc hd
  go_enter Try.func11, Try.ntmps11
  go_wp2_with fail
  refine (H1.out _ (kept_alloc (kept_alloc (kept_alloc (kept_refl _) _) _) _)).mono ?_
  rintro e w2 ⟨rfl, hb⟩
  obtain ⟨c0, c1, c2, cl⟩ := keep3c (b := w'.heap.size) (x := .int .i64 a.kind) (y := .slice xa a.items.length xc) (z := .slice ya a.names.length yc) hb (by simp [go_sem, *]) (by simp [go_sem, *]) (by simp [go_sem, *])
  obtain ⟨d0, d1, d2, dl⟩ := keep3c (b := w'.heap.size + 1) (x := .int .i64 b.kind) (y := .slice va b.items.length vc) (z := .slice ua b.names.length uc) hb (by simp [go_sem, *]) (by simp [go_sem, *]) (by simp [go_sem, *])
  obtain ⟨r0, r1, r2, rf0, rf1, rf2, rl⟩ := keep3 (b := w'.heap.size + 1 + 1) (x := .int .i64 0) (y := .slice none 0 0) (z := .slice none 0 0) hb (by simp [go_sem, *]) (by simp [go_sem, *]) (by simp [go_sem, *]) (by simp [go_sem, *]) (by simp [go_sem, *]) (by simp [go_sem, *])
  have HK2 := Lib.hid (kept_trans (kept_alloc (kept_alloc (kept_alloc (kept_refl w') _) _) _) (kept_below hb))
  have hbx : Below w'.heap.size w' w2 := by (repeat (first | with_reducible assumption | with_reducible exact bl_refl _ | with_reducible refine bl_alloc ?_ _ | with_reducible refine bl_set ?_ (by first | (simp; done) | (simp; omega)) _ | with_reducible refine bl_drew ?_ | with_reducible refine bl_drewN ?_ _ | with_reducible refine bl_trans ?_ (by assumption)))
  clear hb
  go_wp2_with fail
  refine (H2.out _ HK2.out).mono ?_
  rintro e w3 ⟨rfl, hb⟩
  obtain ⟨c0, c1, c2, cl⟩ := keep3c hb c0 c1 c2
  obtain ⟨r0, r1, r2, rf0, rf1, rf2, rl⟩ := keep3 hb r0 r1 r2 rf0 rf1 rf2
  have hbx : Below w'.heap.size w' w3 := by (repeat (first | with_reducible assumption | with_reducible exact bl_refl _ | with_reducible refine bl_alloc ?_ _ | with_reducible refine bl_set ?_ (by first | (simp; done) | (simp; omega)) _ | with_reducible refine bl_drew ?_ | with_reducible refine bl_drewN ?_ _ | with_reducible refine bl_trans ?_ (by assumption)))
  clear hb
  go_wp2_with fail
  refine bodyPost_ret (v := .agg #[.int .i64 a.kind, .slice xa a.items.length xc, .slice ya a.names.length yc]) (by simp [results, Try.results11, go_sem, *]) rfl (jmade_of HA.out HK.out ?_)
  (repeat (first | with_reducible assumption | with_reducible exact bl_refl _ | with_reducible refine bl_alloc ?_ _ | with_reducible refine bl_set ?_ (by first | (simp; done) | (simp; omega)) _ | with_reducible refine bl_drew ?_ | with_reducible refine bl_drewN ?_ _ | with_reducible refine bl_trans ?_ (by assumption)))

set_option maxHeartbeats 1000000 in
/-- of one kind, but neither contexts nor lists nor ranges of one: Any -/
theorem join_made_any2 (n : Nat) (a b : Ty) (hc : ¬ Conf a b) (hd : ¬ Conf b a) (he : a.kind = b.kind) (hk : a.kind ≠ 11) (hl : (a.items.length ≠ 1 ∨ b.items.length ≠ 1) ∨ (a.kind ≠ 10 ∧ a.kind ≠ 12)) : JoinSpec (n + 1) a b := by
  have HJ := Lib.hid (joinF_any (n := n) hc hd (by omega) (by omega))
  intro w ai an bi bn hA hB w' hK
  have h1 := fun v (k : Kept w' v) => conf_k a b w ai an bi bn hA hB v (kept_trans hK k)
  rw [confB_not hc] at h1
  have h2 := fun v (k : Kept w' v) => conf_k b a w bi bn ai an hB hA v (kept_trans hK k)
  rw [confB_not hd] at h2
  rw [← he] at h1 h2
  have H1 := Lib.hid h1
  have H2 := Lib.hid h2
  have HK := Lib.hid hK
  have HA := Lib.hid hA
  have HB := Lib.hid hB
  obtain ⟨xa, xc, ya, yc, rfl, rfl⟩ := hA.shape
  obtain ⟨va, vc, ua, uc, rfl, rfl⟩ := hB.shape
  have z1 : w'.heap.size < w'.heap.size + 1 + 1 := by omega
  have z2 : w'.heap.size < w'.heap.size + 1 + 1 + 1 := by omega
  clear hA hB hK h1 h2 hc hd
  rw [HJ.out]
  rw [← he]
  have e1 : (a.kind != 11) = true := by rw [bne_iff_ne]; exact hk
  have e2 : (a.kind == 11) = false := by rw [beq_eq_false_iff_ne]; exact hk
  have HL : (((a.items.length : Int) == 1) = false ∧ ((a.items.length : Int) != 1) = true) ∨ ((((a.items.length : Int) == 1) = true ∧ ((a.items.length : Int) != 1) = false) ∧ ((b.items.length : Int) == 1) = false ∧ ((b.items.length : Int) != 1) = true) ∨
      ((((a.items.length : Int) == 1) = true ∧ ((a.items.length : Int) != 1) = false) ∧ (((b.items.length : Int) == 1) = true ∧ ((b.items.length : Int) != 1) = false) ∧ (a.kind == 10) = false ∧ (a.kind == 12) = false) := by
    have q1 : ∀ x y : Int, ((x == y) = false ∧ (x != y) = true) ↔ x ≠ y := fun x y => by simp
    have q2 : ∀ x y : Int, ((x == y) = true ∧ (x != y) = false) ↔ x = y := fun x y => by simp
    rw [q1, q1, q2, q2, beq_eq_false_iff_ne, beq_eq_false_iff_ne]
    omega
  have HL := Lib.hid HL
  clear he hk hl
  generalize a.kind = k at *
  go_enter Try.func11, Try.ntmps11
  go_wp2_with fail
  refine (H1.out _ (kept_alloc (kept_alloc (kept_alloc (kept_refl _) _) _) _)).mono ?_
  rintro e w2 ⟨rfl, hb⟩
  obtain ⟨c0, c1, c2, cl⟩ := keep3c (b := w'.heap.size) (x := .int .i64 k) (y := .slice xa a.items.length xc) (z := .slice ya a.names.length yc) hb (by simp [go_sem, *]) (by simp [go_sem, *]) (by simp [go_sem, *])
  obtain ⟨d0, d1, d2, dl⟩ := keep3c (b := w'.heap.size + 1) (x := .int .i64 k) (y := .slice va b.items.length vc) (z := .slice ua b.names.length uc) hb (by simp [go_sem, *]) (by simp [go_sem, *]) (by simp [go_sem, *])
  obtain ⟨r0, r1, r2, rf0, rf1, rf2, rl⟩ := keep3 (b := w'.heap.size + 1 + 1) (x := .int .i64 0) (y := .slice none 0 0) (z := .slice none 0 0) hb (by simp [go_sem, *]) (by simp [go_sem, *]) (by simp [go_sem, *]) (by simp [go_sem, *]) (by simp [go_sem, *]) (by simp [go_sem, *])
  have HK2 := Lib.hid (kept_trans (kept_alloc (kept_alloc (kept_alloc (kept_refl w') _) _) _) (kept_below hb))
  have hbx : Below w'.heap.size w' w2 := by (repeat (first | with_reducible assumption | with_reducible exact bl_refl _ | with_reducible refine bl_alloc ?_ _ | with_reducible refine bl_set ?_ (by first | (simp; done) | (simp; omega)) _ | with_reducible refine bl_drew ?_ | with_reducible refine bl_drewN ?_ _ | with_reducible refine bl_trans ?_ (by assumption)))
  clear hb
  go_wp2_with fail
  refine (H2.out _ HK2.out).mono ?_
  rintro e w3 ⟨rfl, hb⟩
  obtain ⟨c0, c1, c2, cl⟩ := keep3c hb c0 c1 c2
  obtain ⟨d0, d1, d2, dl⟩ := keep3c hb d0 d1 d2
  obtain ⟨r0, r1, r2, rf0, rf1, rf2, rl⟩ := keep3 hb r0 r1 r2 rf0 rf1 rf2
  have HK3 := Lib.hid (kept_trans HK2.out (kept_below hb))
  have hbx : Below w'.heap.size w' w3 := by (repeat (first | with_reducible assumption | with_reducible exact bl_refl _ | with_reducible refine bl_alloc ?_ _ | with_reducible refine bl_set ?_ (by first | (simp; done) | (simp; omega)) _ | with_reducible refine bl_drew ?_ | with_reducible refine bl_drewN ?_ _ | with_reducible refine bl_trans ?_ (by assumption)))
  clear hb HK2
  rcases HL.out with ⟨l1, m1⟩ | ⟨⟨l1, m1⟩, l2, m2⟩ | ⟨⟨l1, m1⟩, ⟨l2, m2⟩, l3, l4⟩
  all_goals
    go_wp2_with fail
    refine (of_k 14 _).mono ?_
    rintro e w4 ⟨rfl, hb⟩
    obtain ⟨r0, r1, r2, rf0, rf1, rf2, rl⟩ := keep3 hb r0 r1 r2 rf0 rf1 rf2
    have hbx : Below w'.heap.size w' w4 := by (repeat (first | with_reducible assumption | with_reducible exact bl_refl _ | with_reducible refine bl_alloc ?_ _ | with_reducible refine bl_set ?_ (by first | (simp; done) | (simp; omega)) _ | with_reducible refine bl_drew ?_ | with_reducible refine bl_drewN ?_ _ | with_reducible refine bl_trans ?_ (by assumption)))
    clear hb
    go_wp2_with fail
    refine bodyPost_ret (v := .agg #[.int .i64 14, .slice none 0 0, .slice none 0 0]) (by simp [results, Try.results11, go_sem, *]) rfl (jmade_of (ty_flat w 14 (by omega)) HK.out ?_)
    (repeat (first | with_reducible assumption | with_reducible exact bl_refl _ | with_reducible refine bl_alloc ?_ _ | with_reducible refine bl_set ?_ (by first | (simp; done) | (simp; omega)) _ | with_reducible refine bl_drew ?_ | with_reducible refine bl_drewN ?_ _ | with_reducible refine bl_trans ?_ (by assumption)))

end Go.Proofs.Ytnkecbpocgcdfaa
