/-
  The walk of KindsLead: of types of which no list is long it returns true.
-/
import Derived.Test.YtnkecbpocgcdfaaKUp
import Derived.Test.YtnkecbpocgcdfaaKv
namespace Go.Proofs.Ytnkecbpocgcdfaa
open Go.ChangeShapes Go.WideShapes Go.ChangeAt Go.RowKit Go.Joins

theorem confB_true {a b : Ty} (h : Conf a b) : confB a b = true := confB_of h

theorem kept_new {K v : World} (h : Kept K v) (o : Obj) (p : Addr) (hp : v.heap.size ≤ p.block) (u : Value) : Kept K ((v.alloc o).setCell p u) :=
  kept_put (kept_alloc h o) (fun b q x g e => by have := lt_of_cell (h b q x g); omega) u

/-- kinds.Join, of two types, makes the third -/
def JoinTo (a b j : Ty) : Prop := ∀ w ai an bi bn, IsTy w a ai an → IsTy w b bi bn → ∀ w', Kept w w' →
  Calls Try.prog 11 #[.agg #[.int .i64 a.kind, ai, an], .agg #[.int .i64 b.kind, bi, bn]] w' (JMade j w w')

theorem join_to (a b : Ty) (sa : Small a) (sb : Small b) : ∃ j, JoinTo a b j ∧ Small j ∧ ∃ n, a.sz + b.sz ≤ n ∧ j = joinF n a b :=
  ⟨_, join_all _ a b (Nat.le_refl _) sa sb, joinF_small _ a b sa sb, _, Nat.le_refl _, rfl⟩

set_option maxHeartbeats 8000000 in
set_option maxRecDepth 100000 in
theorem lead_walk (a : Ty) (ai an : Value) (b : Ty) (bi bn : Value) (c : Ty) (ci cn : Value) (w : World) (hA : IsTy w a ai an) (hB : IsTy w b bi bn) (hC : IsTy w c ci cn)
    (sa : Small a) (sb : Small b) (sc : Small c) :
    Calls Try.prog 3 #[tyV a ai an, tyV b bi bn, tyV c ci cn] w fun e w' => e = .returned (.bool true) ∧ Below w.heap.size w w' := by
  unfold tyV
  have HA := Lib.hid hA
  have HB := Lib.hid hB
  have HC := Lib.hid hC
  have z1 : w.heap.size < w.heap.size + 1 + 1 := by omega
  have z2 : w.heap.size < w.heap.size + 1 + 1 + 1 := by omega
  obtain ⟨aa, ac, ana, anc, rfl, rfl⟩ := hA.shape
  obtain ⟨ba, bc, bna, bnc, rfl, rfl⟩ := hB.shape
  obtain ⟨ca, cc, cna, cnc, rfl, rfl⟩ := hC.shape
  clear hA hB hC
  go_enter Try.func3, Try.ntmps3
  go_wp2_with fail
  refine (law13_awake _).mono ?_
  rintro e w1 ⟨rfl, hb⟩
  have c0 := below_keeps hb (w.heap.size) 0 (.int .i64 a.kind) (by simp [go_sem]); have c1 := below_keeps hb (w.heap.size) 1 (.slice aa a.items.length ac) (by simp [go_sem]); have c2 := below_keeps hb (w.heap.size) 2 (.slice ana a.names.length anc) (by simp [go_sem])
  have d0 := below_keeps hb (w.heap.size + 1) 0 (.int .i64 b.kind) (by simp [go_sem]); have d1 := below_keeps hb (w.heap.size + 1) 1 (.slice ba b.items.length bc) (by simp [go_sem]); have d2 := below_keeps hb (w.heap.size + 1) 2 (.slice bna b.names.length bnc) (by simp [go_sem])
  have e0 := below_keeps hb (w.heap.size + 1 + 1) 0 (.int .i64 c.kind) (by simp [go_sem]); have e1 := below_keeps hb (w.heap.size + 1 + 1) 1 (.slice ca c.items.length cc) (by simp [go_sem]); have e2 := below_keeps hb (w.heap.size + 1 + 1) 2 (.slice cna c.names.length cnc) (by simp [go_sem])
  have K1 : Kept w w1 := kept_trans (kept_alloc (kept_alloc (kept_alloc (kept_refl _) _) _) _) (below_keeps hb)
  have hbr : Below w.heap.size w w1 := by (repeat (first | with_reducible assumption | with_reducible exact bl_refl _ | with_reducible refine bl_alloc ?_ _ | with_reducible refine bl_set ?_ (by first | (simp; done) | (simp; omega)) _ | with_reducible refine bl_drew ?_ | with_reducible refine bl_drewN ?_ _ | with_reducible refine bl_trans ?_ (by assumption)))
  clear hb
  have HMA := Lib.hid (may_l (HA.out.keep K1))
  have HMB := Lib.hid (may_l (HB.out.keep K1))
  have HMC := Lib.hid (may_l (HC.out.keep K1))
  cases ma : mayB a
  · rw [ma] at HMA
    go_wp2_with fail
    refine (HMA.out _ (kept_refl _)).mono ?_
    rintro e w2 ⟨rfl, hb⟩
    go_wp2_with fail
    go_ret
    refine ⟨rfl, ?_⟩
    (repeat (first | with_reducible assumption | with_reducible exact bl_refl _ | with_reducible refine bl_alloc ?_ _ | with_reducible refine bl_set ?_ (by simp) _ | with_reducible refine bl_drew ?_ | with_reducible refine bl_drewN ?_ _ | with_reducible refine bl_trans ?_ (by assumption)))
  rw [ma] at HMA
  cases mb : mayB b
  · rw [mb] at HMB
    go_wp2_with fail
    refine (HMA.out _ (kept_refl _)).mono ?_
    rintro e w2 ⟨rfl, hb⟩
    have d0 := below_keeps hb _ _ _ d0
    have d1 := below_keeps hb _ _ _ d1
    have d2 := below_keeps hb _ _ _ d2
    have K2 := Lib.hid (below_keeps hb)
    have hbr : Below w.heap.size w w2 := by (repeat (first | with_reducible assumption | with_reducible exact bl_refl _ | with_reducible refine bl_alloc ?_ _ | with_reducible refine bl_set ?_ (by first | (simp; done) | (simp; omega)) _ | with_reducible refine bl_drew ?_ | with_reducible refine bl_drewN ?_ _ | with_reducible refine bl_trans ?_ (by assumption)))
    clear hb
    go_wp2_with fail
    refine (HMB.out _ K2.out).mono ?_
    rintro e w3 ⟨rfl, hb⟩
    have hbr : Below w.heap.size w w3 := by (repeat (first | with_reducible assumption | with_reducible exact bl_refl _ | with_reducible refine bl_alloc ?_ _ | with_reducible refine bl_set ?_ (by first | (simp; done) | (simp; omega)) _ | with_reducible refine bl_drew ?_ | with_reducible refine bl_drewN ?_ _ | with_reducible refine bl_trans ?_ (by assumption)))
    go_wp2_with fail
    go_ret
    refine ⟨rfl, ?_⟩
    (repeat (first | with_reducible assumption | with_reducible exact bl_refl _ | with_reducible refine bl_alloc ?_ _ | with_reducible refine bl_set ?_ (by simp) _ | with_reducible refine bl_drew ?_ | with_reducible refine bl_drewN ?_ _ | with_reducible refine bl_trans ?_ (by assumption)))
  rw [mb] at HMB
  go_wp2_with fail
  refine (HMA.out _ (kept_refl _)).mono ?_
  rintro e w2 ⟨rfl, hb⟩
  have c0 := below_keeps hb _ _ _ c0; have c1 := below_keeps hb _ _ _ c1; have c2 := below_keeps hb _ _ _ c2; have d0 := below_keeps hb _ _ _ d0; have d1 := below_keeps hb _ _ _ d1; have d2 := below_keeps hb _ _ _ d2; have e0 := below_keeps hb _ _ _ e0; have e1 := below_keeps hb _ _ _ e1; have e2 := below_keeps hb _ _ _ e2
  have K2 := Lib.hid (below_keeps hb)
  have hbr : Below w.heap.size w w2 := by (repeat (first | with_reducible assumption | with_reducible exact bl_refl _ | with_reducible refine bl_alloc ?_ _ | with_reducible refine bl_set ?_ (by first | (simp; done) | (simp; omega)) _ | with_reducible refine bl_drew ?_ | with_reducible refine bl_drewN ?_ _ | with_reducible refine bl_trans ?_ (by assumption)))
  clear hb
  go_wp2_with fail
  refine (HMB.out _ K2.out).mono ?_
  rintro e w3 ⟨rfl, hb⟩
  have c0 := below_keeps hb _ _ _ c0; have c1 := below_keeps hb _ _ _ c1; have c2 := below_keeps hb _ _ _ c2; have d0 := below_keeps hb _ _ _ d0; have d1 := below_keeps hb _ _ _ d1; have d2 := below_keeps hb _ _ _ d2; have e0 := below_keeps hb _ _ _ e0; have e1 := below_keeps hb _ _ _ e1; have e2 := below_keeps hb _ _ _ e2
  have K3 := Lib.hid (kept_trans K2.out (below_keeps hb))
  have hbr : Below w.heap.size w w3 := by (repeat (first | with_reducible assumption | with_reducible exact bl_refl _ | with_reducible refine bl_alloc ?_ _ | with_reducible refine bl_set ?_ (by first | (simp; done) | (simp; omega)) _ | with_reducible refine bl_drew ?_ | with_reducible refine bl_drewN ?_ _ | with_reducible refine bl_trans ?_ (by assumption)))
  clear hb
  cases mc : mayB c
  · rw [mc] at HMC
    go_wp2_with fail
    refine (HMC.out _ K3.out).mono ?_
    rintro e w4 ⟨rfl, hb⟩
    have hbr : Below w.heap.size w w4 := by (repeat (first | with_reducible assumption | with_reducible exact bl_refl _ | with_reducible refine bl_alloc ?_ _ | with_reducible refine bl_set ?_ (by first | (simp; done) | (simp; omega)) _ | with_reducible refine bl_drew ?_ | with_reducible refine bl_drewN ?_ _ | with_reducible refine bl_trans ?_ (by assumption)))
    go_wp2_with fail
    go_ret
    refine ⟨rfl, ?_⟩
    (repeat (first | with_reducible assumption | with_reducible exact bl_refl _ | with_reducible refine bl_alloc ?_ _ | with_reducible refine bl_set ?_ (by simp) _ | with_reducible refine bl_drew ?_ | with_reducible refine bl_drewN ?_ _ | with_reducible refine bl_trans ?_ (by assumption)))
  rw [mc] at HMC
  go_wp2_with fail
  refine (HMC.out _ K3.out).mono ?_
  rintro e w4 ⟨rfl, hb⟩
  have c0 := below_keeps hb _ _ _ c0; have c1 := below_keeps hb _ _ _ c1; have c2 := below_keeps hb _ _ _ c2; have d0 := below_keeps hb _ _ _ d0; have d1 := below_keeps hb _ _ _ d1; have d2 := below_keeps hb _ _ _ d2; have e0 := below_keeps hb _ _ _ e0; have e1 := below_keeps hb _ _ _ e1; have e2 := below_keeps hb _ _ _ e2
  have K4 : Kept w w4 := kept_trans K1 (kept_trans K3.out (below_keeps hb))
  have hbr : Below w.heap.size w w4 := by (repeat (first | with_reducible assumption | with_reducible exact bl_refl _ | with_reducible refine bl_alloc ?_ _ | with_reducible refine bl_set ?_ (by first | (simp; done) | (simp; omega)) _ | with_reducible refine bl_drew ?_ | with_reducible refine bl_drewN ?_ _ | with_reducible refine bl_trans ?_ (by assumption)))
  clear hb K2 K3 HMA HMB HMC K1
  obtain ⟨mj, hj1, tj, nj, hnj, pj⟩ := join_to a b sa sb
  obtain ⟨mk, hk1, tk, nk, hnk, pk⟩ := join_to mj c tj sc
  have PJ := Lib.hid (And.intro hnj pj)
  have PK := Lib.hid (And.intro hnk pk)
  clear hnj pj hnk pk tj tk sa sb sc
  have J1 := Lib.hid (hj1 _ _ _ _ _ HA.out HB.out)
  have J2 := Lib.hid hk1
  have K4 := Lib.hid K4
  clear hj1 hk1
  go_wp2_with fail
  refine (J1.out _ K4.out).mono ?_
  rintro e w5 ⟨ji, jn, M, rfl, hJ, hM, hb⟩
  have c0 := below_keeps hb _ _ _ c0; have c1 := below_keeps hb _ _ _ c1; have c2 := below_keeps hb _ _ _ c2; have d0 := below_keeps hb _ _ _ d0; have d1 := below_keeps hb _ _ _ d1; have d2 := below_keeps hb _ _ _ d2; have e0 := below_keeps hb _ _ _ e0; have e1 := below_keeps hb _ _ _ e1; have e2 := below_keeps hb _ _ _ e2
  have hbr : Below w.heap.size w w5 := by (repeat (first | with_reducible assumption | with_reducible exact bl_refl _ | with_reducible refine bl_alloc ?_ _ | with_reducible refine bl_set ?_ (by first | (simp; done) | (simp; omega)) _ | with_reducible refine bl_drew ?_ | with_reducible refine bl_drewN ?_ _ | with_reducible refine bl_trans ?_ (by assumption)))
  clear hb
  obtain ⟨ja, jc, jna, jnc, rfl, rfl⟩ := hJ.shape
  have J2 := Lib.hid (J2.out _ _ _ _ _ hJ (HC.out.keep hM.has))
  have HM := Lib.hid hM
  have HJ := Lib.hid hJ
  clear hM hJ J1
  have cl := lt_of_cell c0
  have dl := lt_of_cell d0
  have el := lt_of_cell e0
  go_upto_region 6 with fail
  go_wp2_with fail
  refine (J2.out _ (kept_alloc HM.out.kept _)).mono ?_
  rintro e w6 ⟨ki, kn, M2, rfl, hN, hM2, hb⟩
  have j0 := below_keeps hb (w5.heap.size) 0 (.int .i64 mj.kind) (by simp [go_sem]); have j1 := below_keeps hb (w5.heap.size) 1 (.slice ja mj.items.length jc) (by simp [go_sem]); have j2 := below_keeps hb (w5.heap.size) 2 (.slice jna mj.names.length jnc) (by simp [go_sem])
  have KK := Lib.hid (below_keeps hb)
  have hbr : Below w.heap.size w w6 := by (repeat (first | with_reducible assumption | with_reducible exact bl_refl _ | with_reducible refine bl_alloc ?_ _ | with_reducible refine bl_set ?_ (by first | (simp; done) | (simp; omega)) _ | with_reducible refine bl_drew ?_ | with_reducible refine bl_drewN ?_ _ | with_reducible refine bl_trans ?_ (by assumption)))
  clear hb
  have c0 := KK.out _ _ _ (cell_alloc_keep c0)
  have c1 := KK.out _ _ _ (cell_alloc_keep c1)
  have c2 := KK.out _ _ _ (cell_alloc_keep c2)
  have d0 := KK.out _ _ _ (cell_alloc_keep d0)
  have d1 := KK.out _ _ _ (cell_alloc_keep d1)
  have d2 := KK.out _ _ _ (cell_alloc_keep d2)
  have e0 := KK.out _ _ _ (cell_alloc_keep e0)
  have e1 := KK.out _ _ _ (cell_alloc_keep e1)
  have e2 := KK.out _ _ _ (cell_alloc_keep e2)
  have cl := lt_of_cell c0
  have dl := lt_of_cell d0
  have el := lt_of_cell e0
  have jl := lt_of_cell j0
  obtain ⟨ka, kc, kna, knc, rfl, rfl⟩ := hN.shape
  have tA := HA.out.keep (kept_trans HM.out.has hM2.has)
  have tB := HB.out.keep (kept_trans HM.out.has hM2.has)
  have tC := HC.out.keep (kept_trans HM.out.has hM2.has)
  have AB := Lib.hid (conf_k a b _ _ _ _ _ tA tB)
  have BC := Lib.hid (conf_k b c _ _ _ _ _ tB tC)
  have AC := Lib.hid (conf_k a c _ _ _ _ _ tA tC)
  have AK := Lib.hid (conf_k a mk _ _ _ _ _ tA hN)
  have BK := Lib.hid (conf_k b mk _ _ _ _ _ tB hN)
  have CK := Lib.hid (conf_k c mk _ _ _ _ _ tC hN)
  have mj1 : mayB mj = true := by rw [PJ.out.2]; exact join_may _ a b ma mb
  have mk1 : mayB mk = true := by rw [PK.out.2]; exact join_may _ mj c mj1 mc
  have u1 := join_upper nj a b ma mb
  rw [← PJ.out.2] at u1
  have u2 := join_upper nk mj c mj1 mc
  rw [← PK.out.2] at u2
  rw [confB_of (conf_trans _ a mj mk (Nat.le_refl _) ma mj1 mk1 u1.1 u2.1)] at AK
  rw [confB_of (conf_trans _ b mj mk (Nat.le_refl _) mb mj1 mk1 u1.2 u2.1)] at BK
  rw [confB_of u2.2] at CK
  have HL := Lib.hid (fun (h1 : confB a b = true) (h2 : confB b c = true) => confB_of (conf_trans _ a b c (Nat.le_refl _) ma mb mc (confB_iff.1 h1) (confB_iff.1 h2)))
  generalize confB a b = p at AB HL
  generalize confB b c = q at BC HL
  generalize confB a c = r at AC HL
  have K6 := Lib.hid hM2.kept
  clear u1 u2 mj1 mk1 tA tB tC hN hM2 J2 HM HJ PJ PK KK HA HB HC K4
  go_upto_region 7 with fail
  go_wp2_with fail
  refine (AB.out _ (kept_alloc K6.out _)).mono ?_
  rintro e w7 ⟨rfl, hb⟩
  have k0 := below_keeps hb (w6.heap.size) 0 (.int .i64 mk.kind) (by simp [go_sem]); have k1 := below_keeps hb (w6.heap.size) 1 (.slice ka mk.items.length kc) (by simp [go_sem]); have k2 := below_keeps hb (w6.heap.size) 2 (.slice kna mk.names.length knc) (by simp [go_sem])
  have KK := Lib.hid (below_keeps hb)
  have hbr : Below w.heap.size w w7 := by (repeat (first | with_reducible assumption | with_reducible exact bl_refl _ | with_reducible refine bl_alloc ?_ _ | with_reducible refine bl_set ?_ (by first | (simp; done) | (simp; omega)) _ | with_reducible refine bl_drew ?_ | with_reducible refine bl_drewN ?_ _ | with_reducible refine bl_trans ?_ (by assumption)))
  clear hb
  have c0 := KK.out _ _ _ (cell_alloc_keep c0)
  have c1 := KK.out _ _ _ (cell_alloc_keep c1)
  have c2 := KK.out _ _ _ (cell_alloc_keep c2)
  have d0 := KK.out _ _ _ (cell_alloc_keep d0)
  have d1 := KK.out _ _ _ (cell_alloc_keep d1)
  have d2 := KK.out _ _ _ (cell_alloc_keep d2)
  have e0 := KK.out _ _ _ (cell_alloc_keep e0)
  have e1 := KK.out _ _ _ (cell_alloc_keep e1)
  have e2 := KK.out _ _ _ (cell_alloc_keep e2)
  have K7 := Lib.hid (kept_trans (kept_alloc K6.out _) KK.out)
  clear KK K6
  cases p
  · go_upto_region 9 with fail
    go_wp2_with fail
    refine (AK.out _ K7.out).mono ?_; rintro e v1 ⟨rfl, hb⟩; have c0 := below_keeps hb _ _ _ c0; have c1 := below_keeps hb _ _ _ c1; have c2 := below_keeps hb _ _ _ c2; have d0 := below_keeps hb _ _ _ d0; have d1 := below_keeps hb _ _ _ d1; have d2 := below_keeps hb _ _ _ d2; have e0 := below_keeps hb _ _ _ e0; have e1 := below_keeps hb _ _ _ e1; have e2 := below_keeps hb _ _ _ e2; have k0 := below_keeps hb _ _ _ k0; have k1 := below_keeps hb _ _ _ k1; have k2 := below_keeps hb _ _ _ k2; have K7 := Lib.hid (kept_trans K7.out (below_keeps hb)); have hbr : Below w.heap.size w v1 := (by (repeat (first | with_reducible assumption | with_reducible exact bl_refl _ | with_reducible refine bl_alloc ?_ _ | with_reducible refine bl_set ?_ (by first | (simp; done) | (simp; omega)) _ | with_reducible refine bl_drew ?_ | with_reducible refine bl_drewN ?_ _ | with_reducible refine bl_trans ?_ (by assumption)))); clear hb
    go_wp2_with fail
    refine (BK.out _ K7.out).mono ?_; rintro e v2 ⟨rfl, hb⟩; have c0 := below_keeps hb _ _ _ c0; have c1 := below_keeps hb _ _ _ c1; have c2 := below_keeps hb _ _ _ c2; have d0 := below_keeps hb _ _ _ d0; have d1 := below_keeps hb _ _ _ d1; have d2 := below_keeps hb _ _ _ d2; have e0 := below_keeps hb _ _ _ e0; have e1 := below_keeps hb _ _ _ e1; have e2 := below_keeps hb _ _ _ e2; have k0 := below_keeps hb _ _ _ k0; have k1 := below_keeps hb _ _ _ k1; have k2 := below_keeps hb _ _ _ k2; have K7 := Lib.hid (kept_trans K7.out (below_keeps hb)); have hbr : Below w.heap.size w v2 := (by (repeat (first | with_reducible assumption | with_reducible exact bl_refl _ | with_reducible refine bl_alloc ?_ _ | with_reducible refine bl_set ?_ (by first | (simp; done) | (simp; omega)) _ | with_reducible refine bl_drew ?_ | with_reducible refine bl_drewN ?_ _ | with_reducible refine bl_trans ?_ (by assumption)))); clear hb
    go_wp2_with fail
    refine (CK.out _ K7.out).mono ?_; rintro e v3 ⟨rfl, hb⟩; have c0 := below_keeps hb _ _ _ c0; have c1 := below_keeps hb _ _ _ c1; have c2 := below_keeps hb _ _ _ c2; have d0 := below_keeps hb _ _ _ d0; have d1 := below_keeps hb _ _ _ d1; have d2 := below_keeps hb _ _ _ d2; have e0 := below_keeps hb _ _ _ e0; have e1 := below_keeps hb _ _ _ e1; have e2 := below_keeps hb _ _ _ e2; have k0 := below_keeps hb _ _ _ k0; have k1 := below_keeps hb _ _ _ k1; have k2 := below_keeps hb _ _ _ k2; have K7 := Lib.hid (kept_trans K7.out (below_keeps hb)); have hbr : Below w.heap.size w v3 := (by (repeat (first | with_reducible assumption | with_reducible exact bl_refl _ | with_reducible refine bl_alloc ?_ _ | with_reducible refine bl_set ?_ (by first | (simp; done) | (simp; omega)) _ | with_reducible refine bl_drew ?_ | with_reducible refine bl_drewN ?_ _ | with_reducible refine bl_trans ?_ (by assumption)))); clear hb
    go_wp2_with fail
    go_ret
    exact ⟨rfl, hbr⟩
  · go_wp2_with fail
    refine (BC.out _ K7.out).mono ?_; rintro e w8 ⟨rfl, hb⟩; have c0 := below_keeps hb _ _ _ c0; have c1 := below_keeps hb _ _ _ c1; have c2 := below_keeps hb _ _ _ c2; have d0 := below_keeps hb _ _ _ d0; have d1 := below_keeps hb _ _ _ d1; have d2 := below_keeps hb _ _ _ d2; have e0 := below_keeps hb _ _ _ e0; have e1 := below_keeps hb _ _ _ e1; have e2 := below_keeps hb _ _ _ e2; have k0 := below_keeps hb _ _ _ k0; have k1 := below_keeps hb _ _ _ k1; have k2 := below_keeps hb _ _ _ k2; have K7 := Lib.hid (kept_trans K7.out (below_keeps hb)); have hbr : Below w.heap.size w w8 := (by (repeat (first | with_reducible assumption | with_reducible exact bl_refl _ | with_reducible refine bl_alloc ?_ _ | with_reducible refine bl_set ?_ (by first | (simp; done) | (simp; omega)) _ | with_reducible refine bl_drew ?_ | with_reducible refine bl_drewN ?_ _ | with_reducible refine bl_trans ?_ (by assumption)))); clear hb
    cases q
    · go_upto_region 9 with fail
      go_wp2_with fail
      refine (AK.out _ K7.out).mono ?_; rintro e v1 ⟨rfl, hb⟩; have c0 := below_keeps hb _ _ _ c0; have c1 := below_keeps hb _ _ _ c1; have c2 := below_keeps hb _ _ _ c2; have d0 := below_keeps hb _ _ _ d0; have d1 := below_keeps hb _ _ _ d1; have d2 := below_keeps hb _ _ _ d2; have e0 := below_keeps hb _ _ _ e0; have e1 := below_keeps hb _ _ _ e1; have e2 := below_keeps hb _ _ _ e2; have k0 := below_keeps hb _ _ _ k0; have k1 := below_keeps hb _ _ _ k1; have k2 := below_keeps hb _ _ _ k2; have K7 := Lib.hid (kept_trans K7.out (below_keeps hb)); have hbr : Below w.heap.size w v1 := (by (repeat (first | with_reducible assumption | with_reducible exact bl_refl _ | with_reducible refine bl_alloc ?_ _ | with_reducible refine bl_set ?_ (by first | (simp; done) | (simp; omega)) _ | with_reducible refine bl_drew ?_ | with_reducible refine bl_drewN ?_ _ | with_reducible refine bl_trans ?_ (by assumption)))); clear hb
      go_wp2_with fail
      refine (BK.out _ K7.out).mono ?_; rintro e v2 ⟨rfl, hb⟩; have c0 := below_keeps hb _ _ _ c0; have c1 := below_keeps hb _ _ _ c1; have c2 := below_keeps hb _ _ _ c2; have d0 := below_keeps hb _ _ _ d0; have d1 := below_keeps hb _ _ _ d1; have d2 := below_keeps hb _ _ _ d2; have e0 := below_keeps hb _ _ _ e0; have e1 := below_keeps hb _ _ _ e1; have e2 := below_keeps hb _ _ _ e2; have k0 := below_keeps hb _ _ _ k0; have k1 := below_keeps hb _ _ _ k1; have k2 := below_keeps hb _ _ _ k2; have K7 := Lib.hid (kept_trans K7.out (below_keeps hb)); have hbr : Below w.heap.size w v2 := (by (repeat (first | with_reducible assumption | with_reducible exact bl_refl _ | with_reducible refine bl_alloc ?_ _ | with_reducible refine bl_set ?_ (by first | (simp; done) | (simp; omega)) _ | with_reducible refine bl_drew ?_ | with_reducible refine bl_drewN ?_ _ | with_reducible refine bl_trans ?_ (by assumption)))); clear hb
      go_wp2_with fail
      refine (CK.out _ K7.out).mono ?_; rintro e v3 ⟨rfl, hb⟩; have c0 := below_keeps hb _ _ _ c0; have c1 := below_keeps hb _ _ _ c1; have c2 := below_keeps hb _ _ _ c2; have d0 := below_keeps hb _ _ _ d0; have d1 := below_keeps hb _ _ _ d1; have d2 := below_keeps hb _ _ _ d2; have e0 := below_keeps hb _ _ _ e0; have e1 := below_keeps hb _ _ _ e1; have e2 := below_keeps hb _ _ _ e2; have k0 := below_keeps hb _ _ _ k0; have k1 := below_keeps hb _ _ _ k1; have k2 := below_keeps hb _ _ _ k2; have K7 := Lib.hid (kept_trans K7.out (below_keeps hb)); have hbr : Below w.heap.size w v3 := (by (repeat (first | with_reducible assumption | with_reducible exact bl_refl _ | with_reducible refine bl_alloc ?_ _ | with_reducible refine bl_set ?_ (by first | (simp; done) | (simp; omega)) _ | with_reducible refine bl_drew ?_ | with_reducible refine bl_drewN ?_ _ | with_reducible refine bl_trans ?_ (by assumption)))); clear hb
      go_wp2_with fail
      go_ret
      exact ⟨rfl, hbr⟩
    · have hr : r = true := by simpa using HL.out
      subst hr
      go_wp2_with fail
      refine (AC.out _ K7.out).mono ?_; rintro e w9 ⟨rfl, hb⟩; have c0 := below_keeps hb _ _ _ c0; have c1 := below_keeps hb _ _ _ c1; have c2 := below_keeps hb _ _ _ c2; have d0 := below_keeps hb _ _ _ d0; have d1 := below_keeps hb _ _ _ d1; have d2 := below_keeps hb _ _ _ d2; have e0 := below_keeps hb _ _ _ e0; have e1 := below_keeps hb _ _ _ e1; have e2 := below_keeps hb _ _ _ e2; have k0 := below_keeps hb _ _ _ k0; have k1 := below_keeps hb _ _ _ k1; have k2 := below_keeps hb _ _ _ k2; have K7 := Lib.hid (kept_trans K7.out (below_keeps hb)); have hbr : Below w.heap.size w w9 := (by (repeat (first | with_reducible assumption | with_reducible exact bl_refl _ | with_reducible refine bl_alloc ?_ _ | with_reducible refine bl_set ?_ (by first | (simp; done) | (simp; omega)) _ | with_reducible refine bl_drew ?_ | with_reducible refine bl_drewN ?_ _ | with_reducible refine bl_trans ?_ (by assumption)))); clear hb
      go_upto_region 9 with fail
      go_wp2_with fail
      refine (AK.out _ K7.out).mono ?_; rintro e v1 ⟨rfl, hb⟩; have c0 := below_keeps hb _ _ _ c0; have c1 := below_keeps hb _ _ _ c1; have c2 := below_keeps hb _ _ _ c2; have d0 := below_keeps hb _ _ _ d0; have d1 := below_keeps hb _ _ _ d1; have d2 := below_keeps hb _ _ _ d2; have e0 := below_keeps hb _ _ _ e0; have e1 := below_keeps hb _ _ _ e1; have e2 := below_keeps hb _ _ _ e2; have k0 := below_keeps hb _ _ _ k0; have k1 := below_keeps hb _ _ _ k1; have k2 := below_keeps hb _ _ _ k2; have K7 := Lib.hid (kept_trans K7.out (below_keeps hb)); have hbr : Below w.heap.size w v1 := (by (repeat (first | with_reducible assumption | with_reducible exact bl_refl _ | with_reducible refine bl_alloc ?_ _ | with_reducible refine bl_set ?_ (by first | (simp; done) | (simp; omega)) _ | with_reducible refine bl_drew ?_ | with_reducible refine bl_drewN ?_ _ | with_reducible refine bl_trans ?_ (by assumption)))); clear hb
      go_wp2_with fail
      refine (BK.out _ K7.out).mono ?_; rintro e v2 ⟨rfl, hb⟩; have c0 := below_keeps hb _ _ _ c0; have c1 := below_keeps hb _ _ _ c1; have c2 := below_keeps hb _ _ _ c2; have d0 := below_keeps hb _ _ _ d0; have d1 := below_keeps hb _ _ _ d1; have d2 := below_keeps hb _ _ _ d2; have e0 := below_keeps hb _ _ _ e0; have e1 := below_keeps hb _ _ _ e1; have e2 := below_keeps hb _ _ _ e2; have k0 := below_keeps hb _ _ _ k0; have k1 := below_keeps hb _ _ _ k1; have k2 := below_keeps hb _ _ _ k2; have K7 := Lib.hid (kept_trans K7.out (below_keeps hb)); have hbr : Below w.heap.size w v2 := (by (repeat (first | with_reducible assumption | with_reducible exact bl_refl _ | with_reducible refine bl_alloc ?_ _ | with_reducible refine bl_set ?_ (by first | (simp; done) | (simp; omega)) _ | with_reducible refine bl_drew ?_ | with_reducible refine bl_drewN ?_ _ | with_reducible refine bl_trans ?_ (by assumption)))); clear hb
      go_wp2_with fail
      refine (CK.out _ K7.out).mono ?_; rintro e v3 ⟨rfl, hb⟩; have c0 := below_keeps hb _ _ _ c0; have c1 := below_keeps hb _ _ _ c1; have c2 := below_keeps hb _ _ _ c2; have d0 := below_keeps hb _ _ _ d0; have d1 := below_keeps hb _ _ _ d1; have d2 := below_keeps hb _ _ _ d2; have e0 := below_keeps hb _ _ _ e0; have e1 := below_keeps hb _ _ _ e1; have e2 := below_keeps hb _ _ _ e2; have k0 := below_keeps hb _ _ _ k0; have k1 := below_keeps hb _ _ _ k1; have k2 := below_keeps hb _ _ _ k2; have K7 := Lib.hid (kept_trans K7.out (below_keeps hb)); have hbr : Below w.heap.size w v3 := (by (repeat (first | with_reducible assumption | with_reducible exact bl_refl _ | with_reducible refine bl_alloc ?_ _ | with_reducible refine bl_set ?_ (by first | (simp; done) | (simp; omega)) _ | with_reducible refine bl_drew ?_ | with_reducible refine bl_drewN ?_ _ | with_reducible refine bl_trans ?_ (by assumption)))); clear hb
      go_wp2_with fail
      go_ret
      exact ⟨rfl, hbr⟩

end Go.Proofs.Ytnkecbpocgcdfaa
