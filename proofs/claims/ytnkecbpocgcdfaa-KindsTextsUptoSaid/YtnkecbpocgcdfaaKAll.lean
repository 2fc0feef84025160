/-
  kinds.All: the join of a row of types of which no list is long.
-/
import Derived.Test.YtnkecbpocgcdfaaKJw
namespace Go.Proofs.Ytnkecbpocgcdfaa
open Go.ChangeShapes Go.WideShapes Go.ChangeAt Go.RowKit Go.Joins

noncomputable def allF (o : Ty) (ts : List Ty) : Ty := ts.foldl (fun o t => joinF (o.sz + t.sz) o t) o
def tNull : Ty := .mk 1 [] []

theorem allF_take (o : Ty) (ts : List Ty) (j : Nat) (h : j < ts.length) : allF o (ts.take (j + 1)) = joinF ((allF o (ts.take j)).sz + ts[j].sz) (allF o (ts.take j)) ts[j] := by
  unfold allF
  rw [List.take_succ_eq_append_getElem h, List.foldl_append]
  rfl

theorem allF_small : ∀ (ts : List Ty) (o : Ty), Small o → (∀ t ∈ ts, Small t) → Small (allF o ts)
  | [], _, h, _ => h
  | t :: ts, o, h, g => allF_small ts _ (joinF_small _ o t h (g t (by simp))) (fun x hx => g x (by simp [hx]))

theorem allF_may : ∀ (ts : List Ty) (o : Ty), mayB o = true → (∀ t ∈ ts, mayB t = true) → mayB (allF o ts) = true
  | [], _, h, _ => h
  | t :: ts, o, h, g => allF_may ts _ (join_may _ o t h (g t (by simp))) (fun x hx => g x (by simp [hx]))

theorem allF_upper : ∀ (ts : List Ty) (o : Ty), mayB o = true → (∀ t ∈ ts, mayB t = true) → Conf o (allF o ts) ∧ ∀ t ∈ ts, Conf t (allF o ts)
  | [], o, h, _ => ⟨conf_refl _ o (Nat.le_refl _) h, fun t ht => absurd ht (by simp)⟩
  | t :: ts, o, h, g => by
    have m1 := join_may (o.sz + t.sz) o t h (g t (by simp))
    have u1 := join_upper (o.sz + t.sz) o t h (g t (by simp))
    have h1 := allF_upper ts _ m1 (fun x hx => g x (by simp [hx]))
    have m2 := allF_may ts _ m1 (fun x hx => g x (by simp [hx]))
    refine ⟨conf_trans _ _ _ _ (Nat.le_refl _) h m1 m2 u1.1 h1.1, fun x hx => ?_⟩
    rcases List.mem_cons.1 hx with e | e
    · subst e
      exact conf_trans _ _ _ _ (Nat.le_refl _) (g x (by simp)) m1 m2 u1.2 h1.1
    · exact h1.2 x e

set_option maxHeartbeats 2000000 in
set_option maxRecDepth 100000 in
theorem all_k {w : World} {Ts : List Ty} {v : Value} (hT : IsTy w (.mk 0 Ts []) v (.slice none 0 0)) (hs : ∀ t ∈ Ts, Small t) : ∀ w' : World, Kept w w' →
    Calls Try.prog 25 #[v] w' (JMade (allF tNull Ts) w w') := by
  intro w' hK
  obtain ⟨a, c, _, _, hv, _⟩ := hT.shape
  have hv : v = .slice a Ts.length c := hv
  subst hv
  have hlen : Ts.length ≤ 9223372036854775807 := by
    obtain ⟨_, _, a', c', e, h1, h2, _⟩ := hT.inv
    exact Nat.le_trans h1 h2
  have HT := Lib.hid hT
  have HK := Lib.hid hK
  have HS := Lib.hid hs
  clear hT hs hK
  go_enter Try.func25, Try.ntmps25
  go_wp2_with fail
  refine (of_k 1 _).mono ?_
  rintro e w2 ⟨rfl, hb⟩
  obtain ⟨r0, r1, r2, rf0, rf1, rf2, rl⟩ := keep3 (b := w'.heap.size) (x := .int .i64 0) (y := .slice none 0 0) (z := .slice none 0 0) hb (by simp [go_sem, *]) (by simp [go_sem, *]) (by simp [go_sem, *]) (by simp [go_sem, *]) (by simp [go_sem, *]) (by simp [go_sem, *])
  have HK2 := Lib.hid (kept_trans (kept_alloc (kept_refl w') _) (below_keeps hb))
  have hbr : Below w'.heap.size w' w2 := by (repeat (first | with_reducible assumption | with_reducible exact bl_refl _ | with_reducible refine bl_alloc ?_ _ | with_reducible refine bl_set ?_ (by first | (simp; done) | (simp; omega)) _ | with_reducible refine bl_drew ?_ | with_reducible refine bl_drewN ?_ _ | with_reducible refine bl_trans ?_ (by assumption)))
  clear hb
  go_wp2_with fail
  go_loopw [9] (fun i wr => ∃ j : Nat, j ≤ Ts.length ∧ i = .int .i64 j ∧ ∃ (xi xn : Value) (M : World), IsTy M (allF tNull (Ts.take j)) xi xn ∧ MadeOf w w' M wr ∧
    (∀ b o x, M.cell? ⟨b, o, none⟩ = some x → b ≠ w'.heap.size ∧ b ≠ w2.heap.size) ∧ Below w'.heap.size w' wr ∧
    wr.cell? ⟨w'.heap.size, 0, none⟩ = some (.int .i64 0) ∧ wr.cell? ⟨w'.heap.size, 1, none⟩ = some (.slice none 0 0) ∧ wr.cell? ⟨w'.heap.size, 2, none⟩ = some (.slice none 0 0) ∧
    wr.frozen? ⟨w'.heap.size, 0, none⟩ = false ∧ wr.frozen? ⟨w'.heap.size, 1, none⟩ = false ∧ wr.frozen? ⟨w'.heap.size, 2, none⟩ = false ∧
    wr.cell? ⟨w2.heap.size, 0, none⟩ = some (.int .i64 (allF tNull (Ts.take j)).kind) ∧ wr.cell? ⟨w2.heap.size, 1, none⟩ = some xi ∧ wr.cell? ⟨w2.heap.size, 2, none⟩ = some xn ∧
    wr.frozen? ⟨w2.heap.size, 0, none⟩ = false ∧ wr.frozen? ⟨w2.heap.size, 1, none⟩ = false ∧ wr.frozen? ⟨w2.heap.size, 2, none⟩ = false) (fun i _ => Ts.length - (intOf i).toNat)
  case atStart =>
    refine ⟨0, Nat.zero_le _, rfl, .slice none 0 0, .slice none 0 0, w, ty_flat w 1 (by omega), ?_, ?_, ?_, ?_⟩
    · exact madeOf_same (kept_alloc (kept_trans HK.out HK2.out) _)
    · intro b o x q
      have h1 := lt_of_cell (HK.out _ _ _ q)
      have h2 := lt_of_cell r0
      omega
    · (repeat (first | with_reducible assumption | with_reducible exact bl_refl _ | with_reducible refine bl_alloc ?_ _ | with_reducible refine bl_set ?_ (by first | (simp; done) | (simp; omega)) _ | with_reducible refine bl_drew ?_ | with_reducible refine bl_drewN ?_ _ | with_reducible refine bl_trans ?_ (by assumption)))
    · simp [go_sem, *]
      rfl
  case round =>
    obtain ⟨j, hj, rfl, xi, xn, M, hO, hM, hav, hbr, b0, b1, b2, bf0, bf1, bf2, g0, g1, g2, gf0, gf1, gf2⟩ := hrel
    obtain ⟨O, hOe⟩ : ∃ O, allF tNull (Ts.take j) = O := ⟨_, rfl⟩
    rw [hOe] at hO g0
    have SO : Small O := by
      rw [← hOe]
      exact allF_small _ _ (small_flat 1) (fun t ht => HS.out t (List.mem_of_mem_take ht))
    have HOE := Lib.hid hOe
    clear hOe
    obtain ⟨oa, oc, ta, tc, rfl, rfl⟩ := hO.shape
    have HM := Lib.hid hM
    have HAV := Lib.hid hav
    have HO := Lib.hid hO
    have HRL := Lib.hid rl
    clear hM hav hO r0 r1 r2 rf0 rf1 rf2 rl
    have bl := lt_of_cell b0
    have gl := lt_of_cell g0
    by_cases hlt : j < Ts.length
    · obtain ⟨pa, po, rfl, xa, xc, ya, yc, p0, p1, p2, hP⟩ := HT.out.item (kept_refl w) j hlt
      simp only [Ty.items] at p0 p1 p2 hP
      obtain ⟨X, hX⟩ : ∃ X, Ts.getD j noTy = X := ⟨_, rfl⟩
      rw [hX] at p0 p1 p2 hP
      have hX2 : Ts[j] = X := by rw [← hX, List.getD, List.getElem?_eq_getElem hlt]; rfl
      have SX : Small X := by rw [← hX2]; exact HS.out _ (List.getElem_mem hlt)
      have p0 := HM.out.kept _ _ _ (HM.out.has _ _ _ p0)
      have p1 := HM.out.kept _ _ _ (HM.out.has _ _ _ p1)
      have p2 := HM.out.kept _ _ _ (HM.out.has _ _ _ p2)
      have JS := Lib.hid (join_all _ O X (Nat.le_refl _) SO SX M _ _ _ _ HO.out (hP.keep HM.out.has))
      obtain ⟨C, hC⟩ : ∃ C, joinF (O.sz + X.sz) O X = C := ⟨_, rfl⟩
      rw [hC] at JS
      have HC := Lib.hid (show allF tNull (Ts.take (j + 1)) = C by rw [allF_take _ _ _ hlt, HOE.out, hX2]; exact hC)
      clear hX hX2 SX SO hC hP
      go_wp2_with fail
      refine (JS.out _ (kept_alloc HM.out.kept _)).mono ?_
      rintro e w3 ⟨ji, jn, M3, rfl, hT3, hm3, hb⟩
      obtain ⟨xa3, xc3, xna3, xnc3, rfl, rfl⟩ := hT3.shape
      obtain ⟨b0, b1, b2, bf0, bf1, bf2, bl⟩ := keep3 (b := w'.heap.size) (x := .int .i64 0) (y := .slice none 0 0) (z := .slice none 0 0) hb (by simp [go_sem, *]) (by simp [go_sem, *]) (by simp [go_sem, *]) (by simp [go_sem, *]) (by simp [go_sem, *]) (by simp [go_sem, *])
      obtain ⟨g0, g1, g2, gf0, gf1, gf2, gl⟩ := keep3 (b := w2.heap.size) (x := .int .i64 O.kind) (y := .slice oa O.items.length oc) (z := .slice ta O.names.length tc) hb (by simp [go_sem, *]) (by simp [go_sem, *]) (by simp [go_sem, *]) (by simp [go_sem, *]) (by simp [go_sem, *]) (by simp [go_sem, *])
      have hbr : Below w'.heap.size w' w3 := by (repeat (first | with_reducible assumption | with_reducible exact bl_refl _ | with_reducible refine bl_alloc ?_ _ | with_reducible refine bl_set ?_ (by first | (simp; done) | (simp; omega)) _ | with_reducible refine bl_drew ?_ | with_reducible refine bl_drewN ?_ _ | with_reducible refine bl_trans ?_ (by assumption)))
      have HZ := Lib.hid hb.size
      have HM3 := Lib.hid hm3
      have HT3 := Lib.hid hT3
      clear hb hm3 hT3 JS
      go_wp2_with fail
      go_roundw
      case rel =>
        have hrl := HRL.out
        have hne1 : ¬ w2.heap.size = w'.heap.size := by omega
        have hne2 : ¬ w'.heap.size = w2.heap.size := by omega
        have hav3 : ∀ b o x, M3.cell? ⟨b, o, none⟩ = some x → b ≠ w'.heap.size ∧ b ≠ w2.heap.size := fun b o x q => by
          rcases HM3.out.apart (kept_alloc HM.out.kept _) b o x q with h | h
          · exact HAV.out b o x (HM3.out.old b o x q h)
          · simp at h
            omega
        refine ⟨j + 1, by omega, by go_num, ?_⟩
        rw [HC.out]
        refine ⟨_, _, M3, HT3.out, ⟨?_, ?_, ?_⟩, hav3, ?_, ?_⟩
        · exact kept_put (kept_put (kept_put HM3.out.kept (fun b o x q => (hav3 b o x q).2.symm) _) (fun b o x q => (hav3 b o x q).2.symm) _) (fun b o x q => (hav3 b o x q).2.symm) _
        · intro b o x q h
          exact HM.out.old b o x (HM3.out.old b o x q (by simp; omega)) h
        · exact kept_trans HM.out.has HM3.out.has
        · (repeat (first | with_reducible assumption | with_reducible exact bl_refl _ | with_reducible refine bl_alloc ?_ _ | with_reducible refine bl_set ?_ (by first | (simp; done) | (simp; omega)) _ | with_reducible refine bl_drew ?_ | with_reducible refine bl_drewN ?_ _ | with_reducible refine bl_trans ?_ (by assumption)))
        · simp [go_sem, *]
      case measure => simp [intOf]; omega
    · have hjl : j = Ts.length := by omega
      subst hjl
      have HOE2 := Lib.hid (show allF tNull Ts = O by rw [← HOE.out, List.take_length])
      clear HOE
      go_wp2_with fail
      refine bodyPost_ret (v := .agg #[.int .i64 O.kind, .slice oa O.items.length oc, .slice ta O.names.length tc]) (by simp [results, Try.results25, go_sem, *]) rfl ?_
      rw [HOE2.out]
      refine ⟨_, _, M, rfl, HO.out, ⟨?_, HM.out.old, HM.out.has⟩, ?_⟩
      · have hn : ∀ (b o : Nat) (x : Value), M.cell? ⟨b, o, none⟩ = some x → w'.heap.size ≠ b := fun b o x q => (HAV.out b o x q).1.symm
        exact kept_put (kept_put (kept_put HM.out.kept hn _) hn _) hn _
      · (repeat (first | with_reducible assumption | with_reducible exact bl_refl _ | with_reducible refine bl_alloc ?_ _ | with_reducible refine bl_set ?_ (by first | (simp; done) | (simp; omega)) _ | with_reducible refine bl_drew ?_ | with_reducible refine bl_drewN ?_ _ | with_reducible refine bl_trans ?_ (by assumption)))

end Go.Proofs.Ytnkecbpocgcdfaa
