/-
  The contract of kinds.May: which types may be.
-/
import Derived.Test.YtnkecbpocgcdfaaKd
namespace Go.Proofs.Ytnkecbpocgcdfaa
open Go.ChangeShapes Go.WideShapes Go.ChangeAt Go.RowKit Go.Joins

theorem idxFrom_mem (x : ByteArray) : ∀ (zs : List ByteArray) (i : Nat), 0 ≤ Lib.idxFromS zs x i ↔ x ∈ zs
  | [], i => by simp [Lib.idxFromS]
  | z :: zs, i => by
    rw [Lib.idxFromS]
    by_cases h : z = x
    · rw [if_pos h]; simp [h]
    · rw [if_neg h, idxFrom_mem x zs (i + 1), List.mem_cons]
      constructor
      · exact Or.inr
      · rintro (e | e)
        · exact absurd e.symm h
        · exact e

theorem idx_mem (x : ByteArray) (zs : List ByteArray) : 0 ≤ Lib.idxOfS zs x ↔ x ∈ zs := idxFrom_mem x zs 0

theorem dist_in (ns : List ByteArray) (p : Nat) (h : p < ns.length) (hm : ns[p] ∈ ns.take p) : dist ns = false := by
  obtain ⟨i, hi, e⟩ := List.mem_iff_getElem.1 hm
  rw [List.getElem_take] at e
  rw [List.length_take] at hi
  exact dist_no ns i p (by omega) h (by omega) e.symm

theorem dist_out (ns : List ByteArray) (p : Nat) (h : p < ns.length) (hd : dist (ns.take p) = true) (hm : ¬ ns[p] ∈ ns.take p) : dist (ns.take (p + 1)) = true := by
  refine dist_step ns p h hd (fun a ha e => hm ?_)
  rw [List.mem_iff_getElem]
  exact ⟨a, by simp; omega, by rw [List.getElem_take]; exact e⟩

theorem StrRow.take {w : World} {b o c p : Nat} {ns : List ByteArray} (hc : ns.length ≤ c) (hc2 : c ≤ 9223372036854775807) (hp : p ≤ ns.length)
    (h : ∀ j (h : j < ns.length), w.cell? ⟨b, o + j, none⟩ = some (.string ns[j])) : StrRow w (.slice (some ⟨b, o, none⟩) p c) (ns.take p) := by
  have hl : (ns.take p).length = p := by rw [List.length_take]; omega
  exact ⟨⟨some ⟨b, o, none⟩, c, by rw [hl], by omega, hc2, fun _ => ⟨b, o, rfl, fun j hj => by rw [List.getElem_take]; exact h j (by omega)⟩⟩⟩

theorem IsTy.shape {w : World} {T : Ty} {i n : Value} (h : IsTy w T i n) : ∃ a c a' c', i = .slice a T.items.length c ∧ n = .slice a' T.names.length c' := by
  cases h with
  | mk k ts ns vn a c I N hk hn h1 h2 h3 h4 =>
    obtain ⟨a', c', e, _⟩ := hn.out
    exact ⟨a, c, a', c', rfl, e⟩

set_option maxHeartbeats 1000000 in
theorem may_k {w : World} {T : Ty} {vi vn : Value} (h : IsTy w T vi vn) : ∀ w' : World, Kept w w' →
    Calls Try.prog 23 #[.agg #[.int .i64 T.kind, vi, vn]] w' fun e w2 => e = .returned (.bool (mayB T)) ∧ Below w'.heap.size w' w2 := by
  induction h with
  | mk k ts ns vn a c I N hk hn h1 h2 h3 h4 ih =>
    intro w' hK
    have HIH := Lib.hid ih
    have HC := Lib.hid h3
    have HF := Lib.hid h4
    obtain ⟨na, nc, rfl, hn1, hn2, hn3⟩ := (hn.keep hK).out
    have HN := Lib.hid hn3
    clear ih h3 h4 hn hn3
    show Calls Try.prog 23 #[.agg #[.int .i64 k, .slice a ts.length c, .slice na ns.length nc]] w' _
    go_enter Try.func23, Try.ntmps23
    go_wp2_with fail
    go_loopw [10] (fun i wr => ∃ j : Nat, j ≤ ts.length ∧ i = .int .i64 j ∧ allB (ts.take j) = true ∧ Kept w' wr ∧ Below w'.heap.size w' wr ∧
      wr.cell? ⟨w'.heap.size, 0, none⟩ = some (.int .i64 k) ∧ wr.cell? ⟨w'.heap.size, 1, none⟩ = some (.slice a ts.length c) ∧ wr.cell? ⟨w'.heap.size, 2, none⟩ = some (.slice na ns.length nc)) (fun i _ => ts.length - (intOf i).toNat)
    case atStart =>
      refine ⟨0, Nat.zero_le _, rfl, rfl, kept_alloc (kept_refl _) _, ?_, ?_, ?_, ?_⟩
      · (repeat (first | with_reducible assumption | with_reducible exact bl_refl _ | with_reducible refine bl_alloc ?_ _ | with_reducible refine bl_set ?_ (by simp) _ | with_reducible refine bl_drew ?_ | with_reducible refine bl_drewN ?_ _ | with_reducible refine bl_trans ?_ (by assumption)))
      all_goals simp
    case round =>
      obtain ⟨j, hj, rfl, hall, hK2, hbr, c0, c1, c2⟩ := hrel
      by_cases hlt : j < ts.length
      · obtain ⟨b, o, rfl, hcs⟩ := HC.out (by intro e; rw [e] at hlt; simp at hlt)
        have q0 := hK2 _ _ _ (hK _ _ _ (hcs j hlt).1)
        have q1 := hK2 _ _ _ (hK _ _ _ (hcs j hlt).2.1)
        have q2 := hK2 _ _ _ (hK _ _ _ (hcs j hlt).2.2)
        have HALL := Lib.hid hall
        have HK2 := Lib.hid hK2
        have hih := HIH.out j hlt
        obtain ⟨ia, ic, ja, jc, eI, eN⟩ := (HF.out j hlt).shape
        rw [eI, eN] at hih
        rw [eI] at q1
        rw [eN] at q2
        have HJ := Lib.hid hih
        clear hcs hall hK2 hih eI eN
        go_wp2_with fail
        refine (HJ.out _ (kept_alloc (kept_trans hK HK2.out) _)).mono ?_
        rintro e w2 ⟨rfl, hb⟩
        have c0 := below_keeps hb _ _ _ (cell_alloc_keep c0)
        have c1 := below_keeps hb _ _ _ (cell_alloc_keep c1)
        have c2 := below_keeps hb _ _ _ (cell_alloc_keep c2)
        have HK3 := Lib.hid (kept_trans (kept_alloc HK2.out _) (kept_below hb))
        have hbr : Below w'.heap.size w' w2 := by (repeat (first | with_reducible assumption | with_reducible exact bl_refl _ | with_reducible refine bl_alloc ?_ _ | with_reducible refine bl_set ?_ (by first | (simp; done) | (simp; omega)) _ | with_reducible refine bl_drew ?_ | with_reducible refine bl_drewN ?_ _ | with_reducible refine bl_trans ?_ (by assumption)))
        clear hb
        cases hm : mayB ts[j]
        · have M := Lib.hid hm
          clear hm
          go_wp2_with fail
          go_ret
          refine ⟨ret_bool ?_, hbr⟩
          rw [mayB, allB_false ts j hlt M.out]
          rfl
        · have M := Lib.hid hm
          clear hm
          go_wp2_with fail
          go_roundw
          case rel =>
            refine ⟨j + 1, by omega, by go_num, ?_, HK3.out, hbr, c0, c1, c2⟩
            rw [allB_take ts j hlt, HALL.out, M.out]
            rfl
          case measure => simp [intOf]; omega
      · have hall : allB ts = true := by rw [← hall, List.take_of_length_le (by omega)]
        have HALL := Lib.hid (show ∀ x, mayB (.mk k ts ns) = x ↔ headB k ts.length ns = x by intro x; rw [mayB, hall, Bool.true_and])
        have HK2 := Lib.hid hK2
        clear hall hK2 HIH HC
        by_cases hk11 : k = 11
        · subst hk11
          go_wp2_with fail
          go_loopw [47] (fun i wr2 => ∃ p : Nat, p ≤ ns.length ∧ i = .int .i64 p ∧ dist (ns.take p) = true ∧ Kept w' wr2 ∧ Below w'.heap.size w' wr2 ∧
            wr2.cell? ⟨w'.heap.size, 0, none⟩ = some (.int .i64 11) ∧ wr2.cell? ⟨w'.heap.size, 1, none⟩ = some (.slice a ts.length c) ∧ wr2.cell? ⟨w'.heap.size, 2, none⟩ = some (.slice na ns.length nc)) (fun i _ => ns.length - (intOf i).toNat)
          case atStart => exact ⟨0, Nat.zero_le _, rfl, by simp [dist], HK2.out, hbr, c0, c1, c2⟩
          case round =>
            obtain ⟨p, hp, rfl, hd, hK4, hb4, d0, d1, d2⟩ := hrel
            clear HK2 hbr c0 c1 c2
            have HD := Lib.hid hd
            have HK4 := Lib.hid hK4
            clear hd
            by_cases hpl : p < ns.length
            · obtain ⟨b, o, rfl, hcs⟩ := HN.out (by intro e; rw [e] at hpl; simp at hpl)
              have g0 := hK4 _ _ _ (hcs p hpl)
              have HT := Lib.hid (contains_any _ _ ns[p] _ (StrRow.take (c := nc) hn1 hn2 hp (fun j hj => hK4 _ _ _ (hcs j hj))))
              clear hcs hK4
              by_cases hm : ns[p] ∈ ns.take p
              · have hi : decide (0 ≤ Lib.idxOfS (ns.take p) ns[p]) = true := decide_eq_true ((idx_mem _ _).2 hm)
                rw [hi] at HT
                have M := Lib.hid hm
                clear hm hi
                go_wp2_with fail
                refine (HT.out).mono ?_
                rintro e w2 ⟨rfl, rfl⟩
                go_wp2_with fail
                go_ret
                refine ⟨ret_bool ?_, hb4⟩
                rw [eq_comm, HALL.out, headB, if_pos rfl, dist_in ns p hpl M.out]
                rfl
              · have hi : decide (0 ≤ Lib.idxOfS (ns.take p) ns[p]) = false := decide_eq_false (fun r => hm ((idx_mem _ _).1 r))
                rw [hi] at HT
                have M := Lib.hid hm
                clear hm hi
                go_wp2_with fail
                refine (HT.out).mono ?_
                rintro e w2 ⟨rfl, rfl⟩
                go_wp2_with fail
                go_roundw
                case rel => exact ⟨p + 1, by omega, by go_num, dist_out ns p hpl HD.out M.out, HK4.out, hb4, d0, d1, d2⟩
                case measure => simp [intOf]; omega
            · have hd : dist ns = true := by rw [← HD.out, List.take_of_length_le (by omega)]
              have HD2 := Lib.hid hd
              clear hd hK4
              go_wp2_with fail
              go_ret
              refine ⟨ret_bool ?_, hb4⟩
              rw [eq_comm, HALL.out, headB, if_pos rfl, HD2.out, Bool.true_and, Bool.eq_iff_iff]
              simp
              omega
        · have hne : (k != 11) = true := by simpa using hk11
          have HK11 := Lib.hid hk11
          clear hk11
          by_cases hn0 : 0 < ns.length
          · go_wp2_with fail
            go_ret
            refine ⟨ret_bool ?_, hbr⟩
            rw [eq_comm, HALL.out, headB, if_neg HK11.out, if_pos hn0]
          · go_wp2_with fail
            rotate_left 3
            · refine (simple_k k _).mono ?_
              rintro e w2 ⟨rfl, rfl⟩
              cases hs : simB k
              all_goals
                have HS := Lib.hid hs
                clear hs
                go_wp2_with fail
              all_goals
                go_ret
                refine ⟨ret_bool ?_, hbr⟩
                rw [eq_comm, HALL.out, headB, if_neg HK11.out, if_neg hn0, HS.out]
                (try simp only [beq_eq_false_iff_ne] at *)
                rw [Bool.eq_iff_iff]
                simp [*]
                try omega
            all_goals
              go_ret
              refine ⟨ret_bool ?_, hbr⟩
              rw [eq_comm, HALL.out, headB, if_neg HK11.out, if_neg hn0]
              (try simp only [beq_iff_eq, beq_eq_false_iff_ne] at *)
              rw [Bool.eq_iff_iff]
              simp [simB, *]
              try omega

end Go.Proofs.Ytnkecbpocgcdfaa
