/-
  The contract of name.Run.
-/
import Derived.Test.YtnamnldijopkfaaDoorTud
namespace Go.Proofs.YtnamnldijopkfaaDoor
open Go.ChangeShapes Go.WideShapes Go.ChangeAt Go.RowKit Go.Joins

set_option maxHeartbeats 4000000 in
set_option maxRecDepth 100000 in
theorem run_k (ts : List Tok) (v : Value) (k : Int) (w : World) (hE : Env w) (h : Toks w v ts) (ho : TokOk ts) (hk : -1 ≤ k ∧ k ≤ 1073741824) :
    Calls Tryd.prog 50 #[v, .int .i64 k] w fun e w' => e = .returned (.tuple #[.string (strOfL (givP rnT ts k).1), .int .i64 (givP rnT ts k).2]) ∧ Below w.heap.size w w' := by
  have HT := Lib.hid h
  have HO := Lib.hid ho
  have HE := Lib.hid hE
  have hln := ho.len
  obtain ⟨a, c, rfl, hc1, hc2, -⟩ := h
  have HG := Lib.hid (show givP rnT ts k = if h : 0 ≤ k ∧ k.toNat < ts.length then (if begT (ts[k.toNat]'h.2) = true then (joinT ((ts.drop k.toNat).take (lead rnT (ts.drop k.toNat))), lead rnT (ts.drop k.toNat)) else ([], 0)) else ([], 0) from rfl)
  generalize givP rnT ts k = g at *
  clear ho hE
  by_cases hv : 0 ≤ k ∧ k.toNat < ts.length
  · obtain ⟨q, rfl⟩ : ∃ q : Nat, k = (q : Int) := ⟨k.toNat, by omega⟩
    have hqn : q < ts.length := by simpa using hv.2
    have hg := HG.out
    rw [dif_pos hv] at hg
    simp only [Int.toNat_natCast] at hg
    obtain ⟨-, -, -, bb, bo, rfl, hcs⟩ := HT.out.cells (by intro z; rw [z] at hqn; simp at hqn)
    have c0 := (hcs q hqn).1
    have c1 := (hcs q hqn).2.1
    have c2 := (hcs q hqn).2.2
    have BK := Lib.hid (fun v => begT_k ts[q] v (HO.out.kinds _ (List.getElem_mem _)))
    have k1 : ¬ (q : Int) < 0 := by omega
    have k2 : ¬ (ts.length : Int) ≤ (q : Int) := by omega
    have k3 : (q : Int) < (ts.length : Int) := by omega
    generalize hbt : begT ts[q] = bt at *
    generalize hgt : ts[q] = t0 at c0 c1 c2 BK
    have HG2 := Lib.hid hg
    clear hcs hg HG hbt hgt hv hk
    go_enter Tryd.func50, Tryd.ntmps50
    go_wp2_with fail
    refine (BK.out _).mono ?_
    rintro e w2 ⟨rfl, hb⟩
    have E2 := Lib.hid (HE.out.keep (kept_below hb))
    have HT2 := Lib.hid (HT.out.keep (kept_below hb))
    cases bt with
    | false =>
      have hg := HG2.out
      rw [if_neg (by decide)] at hg
      subst hg
      go_wp2_with fail
      refine bodyPost_ret (v := .tuple #[.string ⟨#[]⟩, .int .i64 0]) (by simp [results, Tryd.results50, go_sem]) rfl ?_
      exact ⟨rfl, hb⟩
    | true =>
      have hg := HG2.out
      rw [if_pos rfl] at hg
      have HG3 := Lib.hid hg
      clear hg HG2 c0 c1 c2
      go_wp2_with fail
      go_loopw [6] (fun i wr => ∃ n : Nat, q + n ≤ ts.length ∧ i = .int .i64 n ∧ Below w2.heap.size w2 wr ∧ (∀ i (h : q + i < ts.length), i < n → rnT ts[q + i] = true)) (fun i _ => ts.length - (intOf i).toNat)
      case atStart => exact ⟨0, by omega, rfl, bl_refl w2, fun i _ hi => absurd hi (Nat.not_lt_zero _)⟩
      case round =>
        obtain ⟨n, hnL, rfl, hbr, hall⟩ := hrel
        have HALL := Lib.hid hall
        clear hall
        by_cases hlt : q + n < ts.length
        · obtain ⟨-, -, -, _, _, hta, hcs2⟩ := (HT2.out.keep (kept_below hbr)).cells (by intro z; rw [z] at hqn; simp at hqn)
          simp only [Option.some.injEq, Addr.mk.injEq, and_true] at hta
          obtain ⟨rfl, rfl⟩ := hta
          have c0 := (hcs2 (q + n) hlt).1
          have c1 := (hcs2 (q + n) hlt).2.1
          have c2 := (hcs2 (q + n) hlt).2.2
          have hmt : ts[q + n] ∈ ts := List.getElem_mem _
          have WK := Lib.hid (fun v => wordT_k ts[q + n] v (HO.out.kinds _ hmt))
          have PK := Lib.hid (fun (v : World) (h : Kept wr v) => pieceT_k ts[q + n] v (E2.out.keep (kept_trans (kept_below hbr) h)) (HO.out.kinds _ hmt) (HO.out.small _ hmt))
          have KK := Lib.hid (fun v => keyword_k ts[q + n].text v)
          have k5 : (q : Int) + (n : Int) < (ts.length : Int) := by omega
          have k6 : (0 : Int) ≤ (q : Int) + (n : Int) := by omega
          have k7 : ((q : Int) + (n : Int)).toNat = q + n := by omega
          have hgv : rnT ts[q + n] = (wordT ts[q + n] && pieceT ts[q + n] && !kwB ts[q + n].text) := rfl
          generalize hgb : rnT ts[q + n] = gb at *
          have HGB := Lib.hid hgb
          generalize wordT ts[q + n] = wb at *
          generalize pieceT ts[q + n] = pb at *
          generalize kwB ts[q + n].text = kb at *
          have HGV := Lib.hid hgv
          generalize hgt : ts[q + n] = t at c0 c1 c2 WK PK KK
          clear hcs2 hgb hgv hmt hgt
          go_wp2_with fail
          refine (WK.out _).mono ?_
          rintro e w3 ⟨rfl, hb3⟩
          have hbr3 := bl_trans hbr hb3
          have c0 := below_keeps hb3 _ _ _ c0
          have c1 := below_keeps hb3 _ _ _ c1
          have c2 := below_keeps hb3 _ _ _ c2
          cases wb with
          | false =>
            have hgt : gb = false := by rw [HGV.out]; rfl
            have HL := Lib.hid (lead_drop rnT ts q n (by omega) HALL.out (fun _ => by rw [HGB.out, hgt]))
            clear hgt c0 c1 c2
            have hg := HG3.out
            rw [HL.out] at hg
            have HG4 := Lib.hid hg
            have m1 : (q : Int) ≤ (q : Int) + (n : Int) := by omega
            have m2 : (q : Int) + (n : Int) ≤ (ts.length : Int) := by omega
            have m3 : (q : Int) + (n : Int) ≤ (c : Int) := by omega
            have m4 : (0 : Int) ≤ (q : Int) + (n : Int) := by omega
            have HTP := Lib.hid ((HT2.out.keep (kept_below hbr3)).part q n (by omega))
            have hkd2 : ∀ t ∈ (ts.drop q).take n, t.kind ≤ 5 := fun t ht => HO.out.kinds t (List.mem_of_mem_drop (List.mem_of_mem_take ht))
            have JK := Lib.hid (join_k ((ts.drop q).take n) _ _ HTP.out hkd2 (Nat.le_trans (bulk_part ts q n) HO.out.bulk) (by rw [List.length_take]; omega))
            clear hg hkd2
            go_wp2_with fail
            refine (JK.out).mono ?_
            rintro e w9 ⟨rfl, hb9⟩
            go_wp2_with fail
            refine bodyPost_ret (v := .tuple #[.string (strOfL (joinT ((ts.drop q).take n))), .int .i64 (n : Int)]) (by simp [results, Tryd.results50, go_sem]) rfl ?_
            rw [HG4.out]
            exact ⟨rfl, bl_trans hb (bl_trans hbr3 hb9)⟩
          | true =>
            go_wp2_with fail
            refine (PK.out _ (kept_below hb3)).mono ?_
            rintro e w4 ⟨rfl, hb4⟩
            have hbr4 := bl_trans hbr3 hb4
            have c0 := below_keeps hb4 _ _ _ c0
            have c1 := below_keeps hb4 _ _ _ c1
            have c2 := below_keeps hb4 _ _ _ c2
            cases pb with
            | false =>
              have hgt : gb = false := by rw [HGV.out]; rfl
              have HL := Lib.hid (lead_drop rnT ts q n (by omega) HALL.out (fun _ => by rw [HGB.out, hgt]))
              clear hgt c0 c1 c2
              have hg := HG3.out
              rw [HL.out] at hg
              have HG4 := Lib.hid hg
              have m1 : (q : Int) ≤ (q : Int) + (n : Int) := by omega
              have m2 : (q : Int) + (n : Int) ≤ (ts.length : Int) := by omega
              have m3 : (q : Int) + (n : Int) ≤ (c : Int) := by omega
              have m4 : (0 : Int) ≤ (q : Int) + (n : Int) := by omega
              have HTP := Lib.hid ((HT2.out.keep (kept_below hbr4)).part q n (by omega))
              have hkd2 : ∀ t ∈ (ts.drop q).take n, t.kind ≤ 5 := fun t ht => HO.out.kinds t (List.mem_of_mem_drop (List.mem_of_mem_take ht))
              have JK := Lib.hid (join_k ((ts.drop q).take n) _ _ HTP.out hkd2 (Nat.le_trans (bulk_part ts q n) HO.out.bulk) (by rw [List.length_take]; omega))
              clear hg hkd2
              go_wp2_with fail
              refine (JK.out).mono ?_
              rintro e w9 ⟨rfl, hb9⟩
              go_wp2_with fail
              refine bodyPost_ret (v := .tuple #[.string (strOfL (joinT ((ts.drop q).take n))), .int .i64 (n : Int)]) (by simp [results, Tryd.results50, go_sem]) rfl ?_
              rw [HG4.out]
              exact ⟨rfl, bl_trans hb (bl_trans hbr4 hb9)⟩
            | true =>
              go_wp2_with fail
              refine (KK.out _).mono ?_
              rintro e w5 ⟨rfl, rfl⟩
              cases kb with
              | false =>
                have hgt : gb = true := by rw [HGV.out]; rfl
                have HGT := Lib.hid hgt
                clear hgt
                go_wp2_with fail
                go_roundw
                case rel =>
                  refine ⟨n + 1, by omega, by go_num, hbr4, fun i hi hl => ?_⟩
                  by_cases he : i = n
                  · subst he; rw [HGB.out, HGT.out]
                  · exact HALL.out i hi (by omega)
                case measure => simp [intOf]; omega
              | true =>
                have hgt : gb = false := by rw [HGV.out]; rfl
                have HL := Lib.hid (lead_drop rnT ts q n (by omega) HALL.out (fun _ => by rw [HGB.out, hgt]))
                clear hgt c0 c1 c2
                have hg := HG3.out
                rw [HL.out] at hg
                have HG4 := Lib.hid hg
                have m1 : (q : Int) ≤ (q : Int) + (n : Int) := by omega
                have m2 : (q : Int) + (n : Int) ≤ (ts.length : Int) := by omega
                have m3 : (q : Int) + (n : Int) ≤ (c : Int) := by omega
                have m4 : (0 : Int) ≤ (q : Int) + (n : Int) := by omega
                have HTP := Lib.hid ((HT2.out.keep (kept_below hbr4)).part q n (by omega))
                have hkd2 : ∀ t ∈ (ts.drop q).take n, t.kind ≤ 5 := fun t ht => HO.out.kinds t (List.mem_of_mem_drop (List.mem_of_mem_take ht))
                have JK := Lib.hid (join_k ((ts.drop q).take n) _ _ HTP.out hkd2 (Nat.le_trans (bulk_part ts q n) HO.out.bulk) (by rw [List.length_take]; omega))
                clear hg hkd2
                go_wp2_with fail
                refine (JK.out).mono ?_
                rintro e w9 ⟨rfl, hb9⟩
                go_wp2_with fail
                refine bodyPost_ret (v := .tuple #[.string (strOfL (joinT ((ts.drop q).take n))), .int .i64 (n : Int)]) (by simp [results, Tryd.results50, go_sem]) rfl ?_
                rw [HG4.out]
                exact ⟨rfl, bl_trans hb (bl_trans hbr4 hb9)⟩
        · have k5 : ¬ (q : Int) + (n : Int) < (ts.length : Int) := by omega
          have HL := Lib.hid (lead_drop rnT ts q n (by omega) HALL.out (fun h => absurd h hlt))
          have hg := HG3.out
          rw [HL.out] at hg
          have HG4 := Lib.hid hg
          have m1 : (q : Int) ≤ (q : Int) + (n : Int) := by omega
          have m2 : (q : Int) + (n : Int) ≤ (ts.length : Int) := by omega
          have m3 : (q : Int) + (n : Int) ≤ (c : Int) := by omega
          have m4 : (0 : Int) ≤ (q : Int) + (n : Int) := by omega
          have HTP := Lib.hid ((HT2.out.keep (kept_below hbr)).part q n (by omega))
          have hkd2 : ∀ t ∈ (ts.drop q).take n, t.kind ≤ 5 := fun t ht => HO.out.kinds t (List.mem_of_mem_drop (List.mem_of_mem_take ht))
          have JK := Lib.hid (join_k ((ts.drop q).take n) _ _ HTP.out hkd2 (Nat.le_trans (bulk_part ts q n) HO.out.bulk) (by rw [List.length_take]; omega))
          clear hg hkd2
          go_wp2_with fail
          refine (JK.out).mono ?_
          rintro e w9 ⟨rfl, hb9⟩
          go_wp2_with fail
          refine bodyPost_ret (v := .tuple #[.string (strOfL (joinT ((ts.drop q).take n))), .int .i64 (n : Int)]) (by simp [results, Tryd.results50, go_sem]) rfl ?_
          rw [HG4.out]
          exact ⟨rfl, bl_trans hb (bl_trans hbr hb9)⟩
  · have hg := HG.out
    rw [dif_neg hv] at hg
    subst hg
    clear HG
    by_cases h0 : k < 0
    · go_enter Tryd.func50, Tryd.ntmps50
      go_wp2_with fail
      refine bodyPost_ret (v := .tuple #[.string ⟨#[]⟩, .int .i64 0]) (by simp [results, Tryd.results50, go_sem]) rfl ?_
      exact ⟨rfl, bl_refl w⟩
    · have k2 : (ts.length : Int) ≤ k := by omega
      go_enter Tryd.func50, Tryd.ntmps50
      go_wp2_with fail
      refine bodyPost_ret (v := .tuple #[.string ⟨#[]⟩, .int .i64 0]) (by simp [results, Tryd.results50, go_sem]) rfl ?_
      exact ⟨rfl, bl_refl w⟩

end Go.Proofs.YtnamnldijopkfaaDoor
