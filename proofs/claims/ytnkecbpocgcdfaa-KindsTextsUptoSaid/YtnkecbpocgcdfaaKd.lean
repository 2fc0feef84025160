/-
  The contracts of both Mays: which types may be.
-/
import Derived.Test.YtnkecbpocgcdfaaKc
namespace Go.Proofs.Ytnkecbpocgcdfaa
open Go.ChangeShapes Go.WideShapes Go.ChangeAt Go.RowKit Go.Joins

def dist (ns : List ByteArray) : Bool := decide (ns.Nodup)

def headB (k : Int) (n : Nat) (ns : List ByteArray) : Bool :=
  if k = 11 then dist ns && decide (n = ns.length) else if 0 < ns.length then false else simB k && decide (n = 0) || decide ((k = 10 ∨ k = 12) ∧ n = 1) || decide (k = 13 ∧ 0 < n)

mutual
def mayB : Ty → Bool
  | .mk k ts ns => allB ts && headB k ts.length ns
def allB : List Ty → Bool
  | [] => true
  | t :: ts => mayB t && allB ts
end

theorem allB_snoc : ∀ (ts : List Ty) (t : Ty), allB (ts ++ [t]) = (allB ts && mayB t)
  | [], t => by simp [allB]
  | x :: ts, t => by rw [List.cons_append, allB, allB, allB_snoc ts t, Bool.and_assoc]

theorem allB_take (ts : List Ty) (j : Nat) (h : j < ts.length) : allB (ts.take (j + 1)) = (allB (ts.take j) && mayB ts[j]) := by
  rw [List.take_succ_eq_append_getElem h, allB_snoc]

theorem allB_false : ∀ (ts : List Ty) (j : Nat) (h : j < ts.length), mayB ts[j] = false → allB ts = false
  | [], j, h, _ => absurd h (by simp)
  | t :: ts, 0, _, g => by rw [allB]; simp at g; simp [g]
  | t :: ts, j + 1, h, g => by rw [allB, allB_false ts j (by simpa using h) (by simpa using g)]; simp

theorem dist_iff (ns : List ByteArray) : dist ns = true ↔ ∀ i j (hi : i < ns.length) (hj : j < ns.length), i < j → ns[i] ≠ ns[j] := by
  unfold dist
  rw [decide_eq_true_eq, List.Nodup, List.pairwise_iff_getElem]

theorem dist_step (ns : List ByteArray) (p : Nat) (h : p < ns.length) (hd : dist (ns.take p) = true) (hx : ∀ a (_ : a < p), ns[a] ≠ ns[p]) : dist (ns.take (p + 1)) = true := by
  rw [dist_iff] at *
  intro i j hi hj hij
  simp only [List.length_take] at hi hj
  rw [List.getElem_take, List.getElem_take]
  by_cases e : j = p
  · subst e; exact hx i hij
  · have := hd i j (by simp; omega) (by simp; omega) hij
    rwa [List.getElem_take, List.getElem_take] at this

theorem dist_no (ns : List ByteArray) (i j : Nat) (hi : i < ns.length) (hj : j < ns.length) (hij : i < j) (e : ns[j] = ns[i]) : dist ns = false := by
  cases h : dist ns
  · rfl
  · exact absurd e.symm ((dist_iff ns).1 h i j hi hj hij)

theorem kept_drewN {w w' : World} (h : Kept w w') (n : Nat) : Kept w (w'.drewN n) := fun b o v q => by simpa using h b o v q

set_option maxHeartbeats 1000000 in
theorem may_l {w : World} {T : Ty} {vi vn : Value} (h : IsTy w T vi vn) : ∀ w' : World, Kept w w' →
    Calls Try.prog 10 #[.agg #[.int .i64 T.kind, vi, vn]] w' fun e w2 => e = .returned (.bool (mayB T)) ∧ Below w'.heap.size w' w2 := by
  induction h with
  | mk k ts ns vn a c I N hk hn h1 h2 h3 h4 ih =>
    intro w' hK
    have HIH := Lib.hid ih
    have HC := Lib.hid h3
    obtain ⟨na, nc, rfl, hn1, hn2, hn3⟩ := (hn.keep hK).out
    have HN := Lib.hid hn3
    clear ih h3 h4 hn hn3
    show Calls Try.prog 10 #[.agg #[.int .i64 k, .slice a ts.length c, .slice na ns.length nc]] w' _
    go_enter Try.func10, Try.ntmps10
    go_wp2_with fail
    go_loopw [3] (fun i wr => ∃ j : Nat, j ≤ ts.length ∧ i = .int .i64 j ∧ allB (ts.take j) = true ∧ Kept w' wr ∧ Below w'.heap.size w' wr ∧
      wr.cell? ⟨w'.heap.size, 0, none⟩ = some (.int .i64 k) ∧ wr.cell? ⟨w'.heap.size, 1, none⟩ = some (.slice a ts.length c) ∧ wr.cell? ⟨w'.heap.size, 2, none⟩ = some (.slice na ns.length nc)) (fun i _ => ts.length - (intOf i).toNat)
    case atStart =>
      refine ⟨0, Nat.zero_le _, rfl, rfl, kept_alloc (kept_refl _) _, ?_, ?_, ?_, ?_⟩
      · (repeat (first | with_reducible assumption | with_reducible exact bl_refl _ | with_reducible refine bl_alloc ?_ _ | with_reducible refine bl_set ?_ (by simp) _ | with_reducible refine bl_drew ?_ | with_reducible refine bl_drewN ?_ _ | with_reducible refine bl_trans ?_ (by assumption)))
      all_goals simp
    case round =>
      obtain ⟨j, hj, rfl, hall, hK2, hbr, c0, c1, c2⟩ := hrel
      by_cases hlt : j < ts.length
      · obtain ⟨b, o, rfl, hcs⟩ := HC.out (by intro e; rw [e] at hlt; simp at hlt)
        have q0 := hK2 _ _ _ (hK _ _ _ (hcs j hlt).1)
        have q1 := hK2 _ _ _ (hK _ _ _ (hcs j hlt).2.1)
        have q2 := hK2 _ _ _ (hK _ _ _ (hcs j hlt).2.2)
        have HALL := Lib.hid hall
        have HK2 := Lib.hid hK2
        clear hcs hall hK2
        go_wp2_with fail
        refine (HIH.out j hlt wr (kept_trans hK HK2.out)).mono ?_
        rintro e w2 ⟨rfl, hb⟩
        have c0 := below_keeps hb _ _ _ c0
        have c1 := below_keeps hb _ _ _ c1
        have c2 := below_keeps hb _ _ _ c2
        have HK3 := Lib.hid (kept_trans HK2.out (kept_below hb))
        have hbr : Below w'.heap.size w' w2 := by (repeat (first | with_reducible assumption | with_reducible exact bl_refl _ | with_reducible refine bl_alloc ?_ _ | with_reducible refine bl_set ?_ (by simp) _ | with_reducible refine bl_drew ?_ | with_reducible refine bl_drewN ?_ _ | with_reducible refine bl_trans ?_ (by assumption)))
        clear hb
        cases hm : mayB ts[j]
        · have M := Lib.hid hm
          clear hm
          go_wp2_with fail
          go_ret
          refine ⟨ret_bool ?_, hbr⟩
          rw [mayB, allB_false ts j hlt M.out]
          rfl
        · have M := Lib.hid hm
          clear hm
          go_wp2_with fail
          go_roundw
          case rel =>
            refine ⟨j + 1, by omega, by go_num, ?_, HK3.out, hbr, c0, c1, c2⟩
            rw [allB_take ts j hlt, HALL.out, M.out]
            rfl
          case measure => simp [intOf]; omega
      · have hall : allB ts = true := by rw [← hall, List.take_of_length_le (by omega)]
        have HALL := Lib.hid (show ∀ x, mayB (.mk k ts ns) = x ↔ headB k ts.length ns = x by intro x; rw [mayB, hall, Bool.true_and])
        have HK2 := Lib.hid hK2
        clear hall hK2 HIH HC
        by_cases hk11 : k = 11
        · subst hk11
          go_wp2_with fail
          go_loopw [5] (fun i wr2 => ∃ p : Nat, p ≤ ns.length ∧ i = .int .i64 p ∧ dist (ns.take p) = true ∧ Kept w' wr2 ∧ Below w'.heap.size w' wr2 ∧
            wr2.cell? ⟨w'.heap.size, 0, none⟩ = some (.int .i64 11) ∧ wr2.cell? ⟨w'.heap.size, 1, none⟩ = some (.slice a ts.length c) ∧ wr2.cell? ⟨w'.heap.size, 2, none⟩ = some (.slice na ns.length nc)) (fun i _ => ns.length - (intOf i).toNat)
          case atStart => exact ⟨0, Nat.zero_le _, rfl, by simp [dist], HK2.out, hbr, c0, c1, c2⟩
          case round =>
            obtain ⟨p, hp, rfl, hd, hK4, hb4, d0, d1, d2⟩ := hrel
            clear HK2 hbr c0 c1 c2
            have HD := Lib.hid hd
            have HK4 := Lib.hid hK4
            clear hd hK4
            by_cases hpl : p < ns.length
            · go_wp2_with fail
              go_loopw [6] (fun i wr3 => ∃ q : Nat, q ≤ p ∧ i = .int .i64 q ∧ (∀ x (_ : x < q), ns.getD x ByteArray.empty ≠ ns[p]) ∧ Kept w' wr3 ∧ Below w'.heap.size w' wr3 ∧
                wr3.cell? ⟨w'.heap.size, 0, none⟩ = some (.int .i64 11) ∧ wr3.cell? ⟨w'.heap.size, 1, none⟩ = some (.slice a ts.length c) ∧ wr3.cell? ⟨w'.heap.size, 2, none⟩ = some (.slice na ns.length nc)) (fun i _ => p - (intOf i).toNat)
              case atStart => exact ⟨0, Nat.zero_le _, rfl, fun x hx => absurd hx (Nat.not_lt_zero _), HK4.out, hb4, d0, d1, d2⟩
              case round =>
                obtain ⟨q, hq, rfl, hne, hK5, hb5, e0, e1, e2⟩ := hrel
                clear HK4 hb4 d0 d1 d2
                have HNE := Lib.hid hne
                have HK5 := Lib.hid hK5
                clear hne
                by_cases hql : q < p
                · obtain ⟨b, o, rfl, hcs⟩ := HN.out (by intro e; rw [e] at hpl; simp at hpl)
                  have g0 := hK5 _ _ _ (hcs p hpl)
                  have g1 := hK5 _ _ _ (hcs q (by omega))
                  clear hcs hK5
                  by_cases e : ns[p] = ns[q]
                  · have heq : ((ns[p]).toList == (ns[q]).toList) = true := (Lib.bytes_beq_iff _ _).2 e
                    have E := Lib.hid e
                    clear e
                    go_wp2_with fail
                    go_quiet (fail)
                    go_wp2_with fail
                    go_ret
                    refine ⟨ret_bool ?_, bl_drewN hb5 _⟩
                    rw [eq_comm, HALL.out, headB, if_pos rfl, dist_no ns q p (by omega) hpl hql E.out]
                    rfl
                  · have heq : ((ns[p]).toList == (ns[q]).toList) = false := (Lib.bytes_beq_false_iff _ _).2 e
                    have E := Lib.hid e
                    clear e
                    go_wp2_with fail
                    go_quiet (fail)
                    go_wp2_with fail
                    go_roundw
                    case rel =>
                      refine ⟨q + 1, by omega, by go_num, fun x hx => ?_, kept_drewN HK5.out _, bl_drewN hb5 _, by simpa using e0, by simpa using e1, by simpa using e2⟩
                      by_cases ex : x = q
                      · subst ex
                        rw [List.getD, List.getElem?_eq_getElem (by omega)]
                        exact fun r => E.out r.symm
                      · exact HNE.out x (by omega)
                    case measure => simp [intOf]; omega
                · clear hK5
                  have hqp : q = p := by omega
                  subst hqp
                  go_wp2_with fail
                  go_roundw
                  case rel =>
                    refine ⟨q + 1, by omega, by go_num, dist_step ns q hpl HD.out (fun x hx => ?_), HK5.out, hb5, e0, e1, e2⟩
                    have := HNE.out x hx
                    rwa [List.getD, List.getElem?_eq_getElem (by omega)] at this
                  case measure => simp [intOf]; omega
            · have hd : dist ns = true := by rw [← HD.out, List.take_of_length_le (by omega)]
              have HD2 := Lib.hid hd
              clear hd
              go_wp2_with fail
              go_ret
              refine ⟨ret_bool ?_, hb4⟩
              rw [eq_comm, HALL.out, headB, if_pos rfl, HD2.out, Bool.true_and, Bool.eq_iff_iff]
              simp
              omega
        · have HK11 := Lib.hid hk11
          go_wp2_with fail
          · go_ret
            refine ⟨ret_bool ?_, hbr⟩
            rw [eq_comm, HALL.out, headB, if_neg HK11.out, if_pos (by omega)]
          · refine (simple_l k _).mono ?_
            rintro e w2 ⟨rfl, rfl⟩
            cases hs : simB k
            all_goals
              have HS := Lib.hid hs
              clear hs
              go_wp2_with fail
            all_goals
              go_ret
              refine ⟨ret_bool ?_, hbr⟩
              rw [eq_comm, HALL.out, headB, if_neg HK11.out, if_neg (by omega), HS.out]
              (try simp only [beq_eq_false_iff_ne] at *)
              rw [Bool.eq_iff_iff]
              simp [*]
              try omega

end Go.Proofs.Ytnkecbpocgcdfaa
