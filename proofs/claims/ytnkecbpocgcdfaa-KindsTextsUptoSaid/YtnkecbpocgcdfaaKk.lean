/-
  The contracts of the makers of types, of Same and Meets, and of Join where one conforms to the other, or the kinds differ.
-/
import Derived.Test.YtnkecbpocgcdfaaKj
namespace Go.Proofs.Ytnkecbpocgcdfaa
open Go.ChangeShapes Go.WideShapes Go.ChangeAt Go.RowKit Go.Joins

theorem keep3c {W w1 : World} {b : Nat} {x y z : Value} (hb : Below W.heap.size W w1)
    (h0 : W.cell? ⟨b, 0, none⟩ = some x) (h1 : W.cell? ⟨b, 1, none⟩ = some y) (h2 : W.cell? ⟨b, 2, none⟩ = some z) :
    w1.cell? ⟨b, 0, none⟩ = some x ∧ w1.cell? ⟨b, 1, none⟩ = some y ∧ w1.cell? ⟨b, 2, none⟩ = some z ∧ b < w1.heap.size :=
  ⟨below_keeps hb _ _ _ h0, below_keeps hb _ _ _ h1, below_keeps hb _ _ _ h2, lt_of_cell (below_keeps hb _ _ _ h0)⟩

theorem of_k (k : Int) (w : World) : Calls Try.prog 33 #[.int .i64 k] w fun e w' => e = .returned (.agg #[.int .i64 k, .slice none 0 0, .slice none 0 0]) ∧ Below w.heap.size w w' := by
  go_enter Try.func33, Try.ntmps33
  go_wp2_with fail
  refine bodyPost_ret (v := .agg #[.int .i64 k, .slice none 0 0, .slice none 0 0]) (by simp [results, Try.results33, go_sem]) rfl ⟨?_, ?_⟩
  · rfl
  · (repeat (first | with_reducible assumption | with_reducible exact bl_refl _ | with_reducible refine bl_alloc ?_ _ | with_reducible refine bl_set ?_ (by first | (simp; done) | (simp; omega)) _ | with_reducible refine bl_drew ?_ | with_reducible refine bl_drewN ?_ _ | with_reducible refine bl_trans ?_ (by assumption)))

theorem row_nil (w : World) : StrRow w (.slice none 0 0) [] := ⟨⟨none, 0, rfl, Nat.le_refl _, by omega, fun q => absurd rfl q⟩⟩
theorem ty_flat (w : World) (k : Int) (h : -9223372036854775808 ≤ k ∧ k ≤ 9223372036854775807) : IsTy w (.mk k [] []) (.slice none 0 0) (.slice none 0 0) :=
  .mk k [] [] _ none 0 (fun _ => .bool false) (fun _ => .bool false) h (row_nil w) (Nat.le_refl _) (by omega) (fun q => absurd rfl q) (fun j hj => absurd hj (by simp))

/-- a type of one item, that lies at the head of a block -/
theorem ty_one {w : World} {X : Ty} {xi xn : Value} (k : Int) (h : -9223372036854775808 ≤ k ∧ k ≤ 9223372036854775807) (hX : IsTy w X xi xn) (b o c : Nat) (hc1 : 1 ≤ c) (hc2 : c ≤ 9223372036854775807)
    (h0 : w.cell? ⟨b, o, none⟩ = some (.int .i64 X.kind)) (h1 : w.cell? ⟨b, o + 1, none⟩ = some xi) (h2 : w.cell? ⟨b, o + 2, none⟩ = some xn) :
    IsTy w (.mk k [X] []) (.slice (some ⟨b, o, none⟩) 1 c) (.slice none 0 0) := by
  refine .mk k [X] [] _ (some ⟨b, o, none⟩) c (fun _ => xi) (fun _ => xn) h (row_nil w) hc1 hc2 (fun _ => ⟨b, o, rfl, fun j hj => ?_⟩) (fun j hj => ?_)
  · have : j = 0 := by simp at hj; exact hj
    subst this
    exact ⟨h0, h1, h2⟩
  · have : j = 0 := by simp at hj; exact hj
    subst this
    exact hX

/-- what a maker of types gives: a type that lies in the world behind it -/
def Makes (T : Ty) (W : World) (e : Ending) (w' : World) : Prop := ∃ i n, e = .returned (.agg #[.int .i64 T.kind, i, n]) ∧ IsTy w' T i n ∧ Below W.heap.size W w'

set_option maxHeartbeats 1000000 in
theorem listOf_k {w : World} {T : Ty} {i n : Value} (hT : IsTy w T i n) (w' : World) (hK : Kept w w') :
    Calls Try.prog 30 #[.agg #[.int .i64 T.kind, i, n]] w' (Makes (.mk 10 [T] []) w') := by
  have HT := Lib.hid (hT.keep hK)
  obtain ⟨xa, xc, ya, yc, rfl, rfl⟩ := hT.shape
  clear hT hK
  go_enter Try.func30, Try.ntmps30
  go_wp2_with fail
  refine bodyPost_ret (v := .agg #[.int .i64 10, .slice (some ⟨w'.heap.size + 1 + 1, 0, none⟩) 1 1, .slice none 0 0]) (by simp [results, Try.results30, go_sem]) rfl ⟨_, _, rfl, ty_one (X := T) 10 (by omega) (HT.out.keep (kept_alloc (kept_alloc (kept_alloc (kept_refl _) _) _) _)) _ 0 1 (by omega) (by omega) ?_ ?_ ?_, ?_⟩
  · simp [go_sem]
  · simp [go_sem]
  · simp [go_sem]
  · (repeat (first | with_reducible assumption | with_reducible exact bl_refl _ | with_reducible refine bl_alloc ?_ _ | with_reducible refine bl_set ?_ (by first | (simp; done) | (simp; omega)) _ | with_reducible refine bl_drew ?_ | with_reducible refine bl_drewN ?_ _ | with_reducible refine bl_trans ?_ (by assumption)))

theorem same_k (a b : Ty) (w : World) (ai an bi bn : Value) (hA : IsTy w a ai an) (hB : IsTy w b bi bn) (w' : World) (hK : Kept w w') :
    Calls Try.prog 14 #[.agg #[.int .i64 a.kind, ai, an], .agg #[.int .i64 b.kind, bi, bn]] w' fun e w2 => e = .returned (.bool (confB a b && confB b a)) ∧ Below w'.heap.size w' w2 := by
  have H1 := Lib.hid (fun v (k : Kept w' v) => conf_k a b w ai an bi bn hA hB v (kept_trans hK k))
  have H2 := Lib.hid (fun v (k : Kept w' v) => conf_k b a w bi bn ai an hB hA v (kept_trans hK k))
  obtain ⟨xa, xc, ya, yc, rfl, rfl⟩ := hA.shape
  obtain ⟨va, vc, ua, uc, rfl, rfl⟩ := hB.shape
  have z1 : w'.heap.size < w'.heap.size + 1 + 1 := by omega
  clear hA hB hK
  generalize confB a b = p at *
  generalize confB b a = q at *
  cases p
  · go_enter Try.func14, Try.ntmps14
    go_wp2_with fail
    refine (H1.out _ (kept_alloc (kept_alloc (kept_refl _) _) _)).mono ?_
    rintro e w2 ⟨rfl, hb⟩
    go_wp2_with fail
    go_ret
    refine ⟨rfl, ?_⟩
    (repeat (first | with_reducible assumption | with_reducible exact bl_refl _ | with_reducible refine bl_alloc ?_ _ | with_reducible refine bl_set ?_ (by first | (simp; done) | (simp; omega)) _ | with_reducible refine bl_drew ?_ | with_reducible refine bl_drewN ?_ _ | with_reducible refine bl_trans ?_ (by assumption)))
  · go_enter Try.func14, Try.ntmps14
    go_wp2_with fail
    refine (H1.out _ (kept_alloc (kept_alloc (kept_refl _) _) _)).mono ?_
    rintro e w2 ⟨rfl, hb⟩
    have c0 := below_keeps hb w'.heap.size 0 (.int .i64 a.kind) (by simp [go_sem])
    have c1 := below_keeps hb w'.heap.size 1 (.slice xa a.items.length xc) (by simp [go_sem])
    have c2 := below_keeps hb w'.heap.size 2 (.slice ya a.names.length yc) (by simp [go_sem])
    have d0 := below_keeps hb (w'.heap.size + 1) 0 (.int .i64 b.kind) (by simp [go_sem])
    have d1 := below_keeps hb (w'.heap.size + 1) 1 (.slice va b.items.length vc) (by simp [go_sem])
    have d2 := below_keeps hb (w'.heap.size + 1) 2 (.slice ua b.names.length uc) (by simp [go_sem])
    have HK2 := Lib.hid (kept_trans (kept_alloc (kept_alloc (kept_refl w') _) _) (kept_below hb))
    have hbx : Below w'.heap.size w' w2 := by (repeat (first | with_reducible assumption | with_reducible exact bl_refl _ | with_reducible refine bl_alloc ?_ _ | with_reducible refine bl_set ?_ (by first | (simp; done) | (simp; omega)) _ | with_reducible refine bl_drew ?_ | with_reducible refine bl_drewN ?_ _ | with_reducible refine bl_trans ?_ (by assumption)))
    clear hb
    go_wp2_with fail
    refine (H2.out _ HK2.out).mono ?_
    rintro e w3 ⟨rfl, hb⟩
    go_wp2_with fail
    go_ret
    refine ⟨ret_bool (by simp), ?_⟩
    (repeat (first | with_reducible assumption | with_reducible exact bl_refl _ | with_reducible refine bl_alloc ?_ _ | with_reducible refine bl_set ?_ (by first | (simp; done) | (simp; omega)) _ | with_reducible refine bl_drew ?_ | with_reducible refine bl_drewN ?_ _ | with_reducible refine bl_trans ?_ (by assumption)))

def meetB (k l : Int) : Bool := decide (k = l ∨ k = 14 ∨ l = 14 ∨ k = 1 ∨ l = 1)

theorem meets_k (k l : Int) (xa : Option Addr) (xl xc : Nat) (ya : Option Addr) (yl yc : Nat) (va : Option Addr) (vl vc : Nat) (ua : Option Addr) (ul uc : Nat) (w : World) :
    Calls Try.prog 15 #[.agg #[.int .i64 k, .slice xa xl xc, .slice ya yl yc], .agg #[.int .i64 l, .slice va vl vc, .slice ua ul uc]] w fun e w2 => e = .returned (.bool (meetB k l)) ∧ Below w.heap.size w w2 := by
  have z1 : w.heap.size < w.heap.size + 1 + 1 := by omega
  go_enter Try.func15, Try.ntmps15
  go_wp2_with fail
  all_goals
    go_ret
    refine ⟨ret_bool ?_, ?_⟩
  all_goals first
    | ((repeat (first | with_reducible assumption | with_reducible exact bl_refl _ | with_reducible refine bl_alloc ?_ _ | with_reducible refine bl_set ?_ (by first | (simp; done) | (simp; omega)) _ | with_reducible refine bl_drew ?_ | with_reducible refine bl_drewN ?_ _ | with_reducible refine bl_trans ?_ (by assumption))); done)
    | ((try simp only [beq_iff_eq, beq_eq_false_iff_ne] at *); simp only [meetB]; first | exact (decide_eq_true (by omega)).symm | exact (decide_eq_false (by omega)).symm | (rw [Bool.eq_iff_iff]; simp; omega))

/-- Join, of a type that conforms to the other one: that one -/
theorem join_right (a b : Ty) (w : World) (ai an bi bn : Value) (hA : IsTy w a ai an) (hB : IsTy w b bi bn) (hc : Conf a b) (w' : World) (hK : Kept w w') :
    Calls Try.prog 11 #[.agg #[.int .i64 a.kind, ai, an], .agg #[.int .i64 b.kind, bi, bn]] w' fun e w2 => e = .returned (.agg #[.int .i64 b.kind, bi, bn]) ∧ Below w'.heap.size w' w2 := by
  have h1 := fun v (k : Kept w' v) => conf_k a b w ai an bi bn hA hB v (kept_trans hK k)
  rw [confB_of hc] at h1
  have H1 := Lib.hid h1
  obtain ⟨xa, xc, ya, yc, rfl, rfl⟩ := hA.shape
  obtain ⟨va, vc, ua, uc, rfl, rfl⟩ := hB.shape
  have z1 : w'.heap.size < w'.heap.size + 1 + 1 := by omega
  have z2 : w'.heap.size < w'.heap.size + 1 + 1 + 1 := by omega
  clear hA hB hK h1 hc
  go_enter Try.func11, Try.ntmps11
  go_wp2_with fail
  refine (H1.out _ (kept_alloc (kept_alloc (kept_alloc (kept_refl _) _) _) _)).mono ?_
  rintro e w2 ⟨rfl, hb⟩
  obtain ⟨d0, d1, d2, dl⟩ := keep3c (b := w'.heap.size + 1) (x := .int .i64 b.kind) (y := .slice va b.items.length vc) (z := .slice ua b.names.length uc) hb (by simp [go_sem, *]) (by simp [go_sem, *]) (by simp [go_sem, *])
  obtain ⟨r0, r1, r2, rf0, rf1, rf2, rl⟩ := keep3 (b := w'.heap.size + 1 + 1) (x := .int .i64 0) (y := .slice none 0 0) (z := .slice none 0 0) hb (by simp [go_sem, *]) (by simp [go_sem, *]) (by simp [go_sem, *]) (by simp [go_sem, *]) (by simp [go_sem, *]) (by simp [go_sem, *])
  have hbx : Below w'.heap.size w' w2 := by (repeat (first | with_reducible assumption | with_reducible exact bl_refl _ | with_reducible refine bl_alloc ?_ _ | with_reducible refine bl_set ?_ (by first | (simp; done) | (simp; omega)) _ | with_reducible refine bl_drew ?_ | with_reducible refine bl_drewN ?_ _ | with_reducible refine bl_trans ?_ (by assumption)))
  clear hb
  go_wp2_with fail
  refine bodyPost_ret (v := .agg #[.int .i64 b.kind, .slice va b.items.length vc, .slice ua b.names.length uc]) (by simp [results, Try.results11, go_sem, *]) rfl ⟨?_, ?_⟩
  · rfl
  · (repeat (first | with_reducible assumption | with_reducible exact bl_refl _ | with_reducible refine bl_alloc ?_ _ | with_reducible refine bl_set ?_ (by first | (simp; done) | (simp; omega)) _ | with_reducible refine bl_drew ?_ | with_reducible refine bl_drewN ?_ _ | with_reducible refine bl_trans ?_ (by assumption)))

/-- Join, of types of different kinds, neither of which conforms to the other one: Any -/
theorem join_any (a b : Ty) (w : World) (ai an bi bn : Value) (hA : IsTy w a ai an) (hB : IsTy w b bi bn) (hc : ¬ Conf a b) (hd : ¬ Conf b a) (hk : a.kind ≠ b.kind) (w' : World) (hK : Kept w w') :
    Calls Try.prog 11 #[.agg #[.int .i64 a.kind, ai, an], .agg #[.int .i64 b.kind, bi, bn]] w' fun e w2 => e = .returned (.agg #[.int .i64 14, .slice none 0 0, .slice none 0 0]) ∧ Below w'.heap.size w' w2 := by
  have h1 := fun v (k : Kept w' v) => conf_k a b w ai an bi bn hA hB v (kept_trans hK k)
  rw [confB_not hc] at h1
  have h2 := fun v (k : Kept w' v) => conf_k b a w bi bn ai an hB hA v (kept_trans hK k)
  rw [confB_not hd] at h2
  have H1 := Lib.hid h1
  have H2 := Lib.hid h2
  obtain ⟨xa, xc, ya, yc, rfl, rfl⟩ := hA.shape
  obtain ⟨va, vc, ua, uc, rfl, rfl⟩ := hB.shape
  have z1 : w'.heap.size < w'.heap.size + 1 + 1 := by omega
  have z2 : w'.heap.size < w'.heap.size + 1 + 1 + 1 := by omega
  have e3 : (a.kind != b.kind) = true := by rw [bne_iff_ne]; exact hk
  have e4 : (a.kind == b.kind) = false := by rw [beq_eq_false_iff_ne]; exact hk
  clear hA hB hK h1 h2 hc hd hk
  generalize a.kind = k at *
  generalize b.kind = l at *
  go_enter Try.func11, Try.ntmps11
  go_wp2_with fail
  refine (H1.out _ (kept_alloc (kept_alloc (kept_alloc (kept_refl _) _) _) _)).mono ?_
  rintro e w2 ⟨rfl, hb⟩
  obtain ⟨c0, c1, c2, cl⟩ := keep3c (b := w'.heap.size) (x := .int .i64 k) (y := .slice xa a.items.length xc) (z := .slice ya a.names.length yc) hb (by simp [go_sem, *]) (by simp [go_sem, *]) (by simp [go_sem, *])
  obtain ⟨d0, d1, d2, dl⟩ := keep3c (b := w'.heap.size + 1) (x := .int .i64 l) (y := .slice va b.items.length vc) (z := .slice ua b.names.length uc) hb (by simp [go_sem, *]) (by simp [go_sem, *]) (by simp [go_sem, *])
  obtain ⟨r0, r1, r2, rf0, rf1, rf2, rl⟩ := keep3 (b := w'.heap.size + 1 + 1) (x := .int .i64 0) (y := .slice none 0 0) (z := .slice none 0 0) hb (by simp [go_sem, *]) (by simp [go_sem, *]) (by simp [go_sem, *]) (by simp [go_sem, *]) (by simp [go_sem, *]) (by simp [go_sem, *])
  have HK2 := Lib.hid (kept_trans (kept_alloc (kept_alloc (kept_alloc (kept_refl w') _) _) _) (kept_below hb))
  have hbx : Below w'.heap.size w' w2 := by (repeat (first | with_reducible assumption | with_reducible exact bl_refl _ | with_reducible refine bl_alloc ?_ _ | with_reducible refine bl_set ?_ (by first | (simp; done) | (simp; omega)) _ | with_reducible refine bl_drew ?_ | with_reducible refine bl_drewN ?_ _ | with_reducible refine bl_trans ?_ (by assumption)))
  clear hb
  go_wp2_with fail
  refine (H2.out _ HK2.out).mono ?_
  rintro e w3 ⟨rfl, hb⟩
  obtain ⟨c0, c1, c2, cl⟩ := keep3c hb c0 c1 c2
  obtain ⟨d0, d1, d2, dl⟩ := keep3c hb d0 d1 d2
  obtain ⟨r0, r1, r2, rf0, rf1, rf2, rl⟩ := keep3 hb r0 r1 r2 rf0 rf1 rf2
  have hbx : Below w'.heap.size w' w3 := by (repeat (first | with_reducible assumption | with_reducible exact bl_refl _ | with_reducible refine bl_alloc ?_ _ | with_reducible refine bl_set ?_ (by first | (simp; done) | (simp; omega)) _ | with_reducible refine bl_drew ?_ | with_reducible refine bl_drewN ?_ _ | with_reducible refine bl_trans ?_ (by assumption)))
  clear hb
  go_wp2_with fail
  refine (of_k 14 _).mono ?_
  rintro e w4 ⟨rfl, hb⟩
  obtain ⟨r0, r1, r2, rf0, rf1, rf2, rl⟩ := keep3 hb r0 r1 r2 rf0 rf1 rf2
  have hbx : Below w'.heap.size w' w4 := by (repeat (first | with_reducible assumption | with_reducible exact bl_refl _ | with_reducible refine bl_alloc ?_ _ | with_reducible refine bl_set ?_ (by first | (simp; done) | (simp; omega)) _ | with_reducible refine bl_drew ?_ | with_reducible refine bl_drewN ?_ _ | with_reducible refine bl_trans ?_ (by assumption)))
  clear hb
  go_wp2_with fail
  refine bodyPost_ret (v := .agg #[.int .i64 14, .slice none 0 0, .slice none 0 0]) (by simp [results, Try.results11, go_sem, *]) rfl ⟨?_, ?_⟩
  · rfl
  · (repeat (first | with_reducible assumption | with_reducible exact bl_refl _ | with_reducible refine bl_alloc ?_ _ | with_reducible refine bl_set ?_ (by first | (simp; done) | (simp; omega)) _ | with_reducible refine bl_drew ?_ | with_reducible refine bl_drewN ?_ _ | with_reducible refine bl_trans ?_ (by assumption)))

end Go.Proofs.Ytnkecbpocgcdfaa
