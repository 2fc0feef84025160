/-
  The law's text, walked: of a type that may be, of no more than 1048576 letters and parts.
-/
import Derived.Test.YtnkecbpocgcdfaaKLt
namespace Go.Proofs.Ytnkecbpocgcdfaa
open Go.ChangeShapes Go.WideShapes Go.ChangeAt Go.RowKit Go.Joins

theorem may_simple {k : Int} {ts : List Ty} {ns : List ByteArray} (h : mayB (.mk k ts ns) = true) (h0 : k ≠ 10) (h1 : k ≠ 11) (h2 : k ≠ 12) (h3 : k ≠ 13) : simB k = true := by
  simp only [mayB, headB, Bool.and_eq_true] at h
  rw [if_neg h1] at h
  by_cases hn : 0 < ns.length
  · rw [if_pos hn] at h; simp at h
  · rw [if_neg hn] at h
    cases hs : simB k
    · rw [hs] at h; simp [h0, h2, h3] at h
    · rfl

set_option maxHeartbeats 2000000 in
set_option maxRecDepth 100000 in
theorem text_l {w : World} {T : Ty} {vi vn : Value} (h : IsTy w T vi vn) : mayB T = true → T.bk ≤ 1048576 → ∀ w' : World, Kept w w' →
    Calls Try.prog 22 #[.agg #[.int .i64 T.kind, vi, vn]] w' fun e w2 => e = .returned (.string (strOfL (txt T))) ∧ Below w'.heap.size w' w2 := by
  induction h with
  | mk k ts ns vn a c I N hk hn h1 h2 h3 h4 ih =>
    intro hmay hbk w' hK
    have hsz : bkL ts + bkN ns + 1 ≤ 1048576 := by simpa [Ty.bk] using hbk
    have hl1 := bkL_length ts
    have hl2 := bkN_length ns
    have hitem : ∀ j (hj : j < ts.length), mayB ts[j] = true := fun j hj => by
      have := mayB_item _ hmay j hj
      simpa [Ty.items, List.getD, List.getElem?_eq_getElem hj] using this
    have HIH := Lib.hid (fun j (hj : j < ts.length) => ih j hj (hitem j hj) (by have := bkL_mem ts j hj; omega))
    have HC := Lib.hid h3
    have HSH := Lib.hid (fun j (hj : j < ts.length) => (h4 j hj).shape)
    obtain ⟨na, nc, rfl, hn1, hn2, hn3⟩ := (hn.keep hK).out
    have HN := Lib.hid hn3
    have HK := Lib.hid hK
    have HPL := Lib.hid (pcs_lens k ns 0 ts)
    have HCT := Lib.hid (show k = 11 → ts.length = ns.length from fun e => (may_ctx _ hmay e).1)
    have HFN := Lib.hid (show k = 13 → 0 < ts.length from fun e => may_fn _ hmay e)
    have HSI := Lib.hid (fun h0 h1 h2 h3 => may_simple hmay h0 h1 h2 h3)
    have HNL := Lib.hid (show ∀ j (hj : j < ns.length), ns[j].size ≤ 1048576 from fun j hj => by
      have : ∀ (l : List ByteArray) (x : ByteArray), x ∈ l → x.size ≤ bkN l := by
        intro l x hx
        induction l with
        | nil => simp at hx
        | cons y l ih2 =>
          simp only [bkN]
          rcases List.mem_cons.1 hx with e | e
          · subst e; omega
          · have := ih2 e; omega
      have := this ns ns[j] (List.getElem_mem hj)
      omega)
    obtain ⟨N1, hN1⟩ : ∃ N1, (k = 13 → N1 + 1 = ts.length) ∧ (k ≠ 13 → N1 = ts.length) := by
      by_cases e : k = 13
      · exact ⟨ts.length - 1, fun _ => by have := HFN.out e; omega, fun q => absurd e q⟩
      · exact ⟨ts.length, fun q => absurd q e, fun _ => rfl⟩
    have hNle : N1 ≤ ts.length := by
      by_cases e : k = 13
      · have := hN1.1 e; omega
      · have := hN1.2 e; omega
    have HN1 := Lib.hid hN1
    obtain ⟨ps, hps⟩ : ∃ ps, pcs k ns 0 ts = ps := ⟨_, rfl⟩
    have HPS := Lib.hid hps
    have hpl : ps.length = ts.length := by rw [← hps]; exact pcs_len k ns ts 0
    have HLP := Lib.hid (show lensP ps ≤ 27 * bkL ts + 5 * bkN ns by rw [← hps]; simpa using HPL.out)
    clear ih h3 h4 hn hn3 hK hbk hitem hmay hN1 hps
    show Calls Try.prog 22 #[.agg #[.int .i64 k, .slice a ts.length c, .slice na ns.length nc]] w' _
    go_enter Try.func22, Try.ntmps22
    go_upto_if 11 with fail
    go_cut [4] (fun s4 wx => s4 = .int .i64 N1 ∧ Kept w' wx ∧ Below w'.heap.size w' wx ∧ wx.cell? ⟨w'.heap.size, 0, none⟩ = some (.int .i64 k) ∧ wx.cell? ⟨w'.heap.size, 1, none⟩ = some (.slice a ts.length c) ∧ wx.cell? ⟨w'.heap.size, 2, none⟩ = some (.slice na ns.length nc))
    case first =>
      have hkk := kept_alloc (kept_refl w') (Obj.cells #[.int .i64 k, .slice a ts.length c, .slice na ns.length nc] 26)
      have hbb := bl_alloc (bl_refl w') (Obj.cells #[.int .i64 k, .slice a ts.length c, .slice na ns.length nc] 26)
      by_cases e : k = 13
      · have hkb : (k == 13) = true := by rw [e]; rfl
        have h13 := HN1.out.1 e
        clear e
        have h14 : (ts.length : Int) - 1 = (N1 : Int) := by omega
        have h15 : (0 : Int) < (ts.length : Int) := by omega
        go_wp2_with fail
        go_meet
        refine ⟨?_, hkk, hbb, ?_, ?_, ?_⟩
        · first | rfl | (rw [h14]) | go_num
        all_goals simp
      · have hkb : (k == 13) = false := by rw [beq_eq_false_iff_ne]; exact e
        have h13 := HN1.out.2 e
        clear e
        go_wp2_with fail
        go_meet
        refine ⟨by rw [h13], hkk, hbb, ?_, ?_, ?_⟩
        all_goals simp
    case rest =>
      obtain ⟨rfl, hkx, hbx, c0, c1, c2⟩ := hcut
      have HKX := Lib.hid hkx
      clear hkx
      go_wp2_with fail
      go_loopw [3, 5] (fun s i wr => ∃ j : Nat, j ≤ N1 ∧ i = .int .i64 j ∧ s = .string (strOfL (Lib.join (ps.take j) [44, 32])) ∧ Kept w' wr ∧ Below w'.heap.size w' wr ∧
        wr.cell? ⟨w'.heap.size, 0, none⟩ = some (.int .i64 k) ∧ wr.cell? ⟨w'.heap.size, 1, none⟩ = some (.slice a ts.length c) ∧ wr.cell? ⟨w'.heap.size, 2, none⟩ = some (.slice na ns.length nc)) (fun _ i _ => N1 - (intOf i).toNat)
      case atStart => exact ⟨0, Nat.zero_le _, rfl, rfl, HKX.out, hbx, c0, c1, c2⟩
      case round =>
        clear c0 c1 c2 hbx
        obtain ⟨j, hj, rfl, rfl, hkr, hbr, c0, c1, c2⟩ := hrel
        have HKR := Lib.hid hkr
        clear hkr
        by_cases hlt : j < N1
        · have hjt : j < ts.length := by omega
          have k1 : (j : Int) < (N1 : Int) := by omega
          have k3 : (j : Int) < (ts.length : Int) := by omega
          obtain ⟨b, o, rfl, hcs⟩ := HC.out (by intro e; rw [e] at hjt; simp at hjt)
          have q0 := HKR.out _ _ _ (HK.out _ _ _ (hcs j hjt).1)
          have q1 := HKR.out _ _ _ (HK.out _ _ _ (hcs j hjt).2.1)
          have q2 := HKR.out _ _ _ (HK.out _ _ _ (hcs j hjt).2.2)
          have HX := Lib.hid (HIH.out j hjt)
          obtain ⟨xa, xc, ya, yc, ei, en⟩ := HSH.out j hjt
          rw [ei] at q1 HX
          rw [en] at q2 HX
          have htl := txt_len ts[j]
          have htb := bkL_mem ts j hjt
          have hjl := join_le (ps.take j)
          have hjl2 := lensP_take ps j
          have hlp := HLP.out
          have hpj : ps[j]'(by omega) = piece k ns j (txt ts[j]) := by
            have h5 := pcs_at k ns ts 0 j hjt
            rw [HPS.out, Nat.zero_add, List.getElem?_eq_getElem (by omega)] at h5
            simpa using h5
          have hstep := join_take ps [44, 32] j (by omega)
          rw [hpj] at hstep
          clear hcs ei en hpj
          generalize ts[j] = tx at *
          obtain ⟨J, hJ⟩ : ∃ J, Lib.join (ps.take j) [44, 32] = J := ⟨_, rfl⟩
          rw [hJ] at hstep hjl ⊢
          obtain ⟨J1, hJ1⟩ : ∃ J1, J ++ (if 0 < j then [44, 32] else []) = J1 := ⟨_, rfl⟩
          obtain ⟨P1, hP1⟩ : ∃ P1, (if k = 11 then quoteL (ns.getD j ByteArray.empty) ++ [58, 32] else []) = P1 := ⟨_, rfl⟩
          have hpc : piece k ns j (txt tx) = P1 ++ txt tx := by
            rw [← hP1, piece]
            by_cases e : k = 11
            · rw [if_pos ⟨e, by have := HCT.out e; omega⟩, if_pos e]
            · rw [if_neg (fun q => e q.1), if_neg e]; rfl
          rw [hJ1, hpc] at hstep
          have hJ1l : J1.length ≤ J.length + 2 := by
            rw [← hJ1, List.length_append]
            split <;> simp
          have HSTEP := Lib.hid hstep
          have HJ := Lib.hid hJ
          have HJ1 := Lib.hid hJ1
          have HP1 := Lib.hid hP1
          clear hstep hJ hJ1 hP1 hpc
          go_upto_if 20 with fail
          go_cut [3] (fun s3 wx => s3 = .string (strOfL J1) ∧ wx = wr)
          case first =>
            rcases Nat.eq_zero_or_pos j with h0 | h0
            · have k2 : ¬ (0 : Int) < (j : Int) := by omega
              have e1 : J1 = J := by rw [← HJ1.out, if_neg (by omega)]; simp
              clear h0
              go_wp2_with fail
              go_meet
              exact ⟨by rw [e1], rfl⟩
            · have k2 : (0 : Int) < (j : Int) := by omega
              have A1 : ∀ v, (Op.stringOp .add (strOfL J) ⟨#[44, 32]⟩).run Try.prog v = .ok (.string (strOfL J1)) v := by
                rw [← HJ1.out, if_pos h0]
                exact catL J [44, 32] (by simp; omega)
              clear h0
              go_wp2_with fail
              go_meet
              exact ⟨rfl, rfl⟩
          case rest =>
            obtain ⟨rfl, rfl⟩ := hcut
            go_upto_if 25 with fail
            go_cut [3] (fun s3 wx => s3 = .string (strOfL (J1 ++ P1)) ∧ Kept wc wx ∧ Below wc.heap.size wc wx)
            case first =>
              by_cases e : k = 11
              · have hkb : (k == 11) = true := by rw [e]; rfl
                have hjn : j < ns.length := by have := HCT.out e; omega
                have k2 : (j : Int) < (ns.length : Int) := by omega
                obtain ⟨bn, on, rfl, hcn⟩ := HN.out (by intro e; rw [e] at hjn; simp at hjn)
                have p0 := HKR.out _ _ _ (hcn j hjn)
                have hns := HNL.out j hjn
                have QK := Lib.hid (fun v => quote_l ns[j] v (by omega))
                have hql := quoteL_len ns[j]
                have eP : P1 = quoteL ns[j] ++ [58, 32] := by
                  rw [← HP1.out, if_pos e, List.getD, List.getElem?_eq_getElem hjn]; rfl
                have A1 := catL (P := Try.prog) J1 (quoteL ns[j]) (by omega)
                have A2 : ∀ v, (Op.stringOp .add (strOfL (J1 ++ quoteL ns[j])) ⟨#[58, 32]⟩).run Try.prog v = .ok (.string (strOfL (J1 ++ P1))) v := by
                  rw [eP, ← List.append_assoc]
                  exact catL _ [58, 32] (by simp; omega)
                clear hcn hql eP e
                generalize J1 ++ quoteL ns[j] = m1 at A1 A2
                generalize hm2 : J1 ++ P1 = m2 at A2
                generalize ns[j] = nj at *
                go_wp2_with fail
                refine (QK.out _).mono ?_
                rintro e w3 ⟨rfl, hb⟩
                have HB := Lib.hid hb
                clear hb
                go_wp2_with fail
                go_meet
                exact ⟨by rw [hm2], below_keeps HB.out, HB.out⟩
              · have hkb : (k == 11) = false := by rw [beq_eq_false_iff_ne]; exact e
                have eP : P1 = [] := by rw [← HP1.out, if_neg e]
                clear e
                go_wp2_with fail
                go_meet
                exact ⟨by rw [eP, List.append_nil], kept_refl _, bl_refl _⟩
            case rest =>
              obtain ⟨rfl, hkz, hbz⟩ := hcut
              have A4 : ∀ v, (Op.stringOp .add (strOfL (J1 ++ P1)) (strOfL (txt tx))).run Try.prog v = .ok (.string (strOfL (J1 ++ (P1 ++ txt tx)))) v := by
                rw [← List.append_assoc]
                refine catL _ _ ?_
                have : P1.length ≤ 5 * 1048576 + 4 := by
                  rw [← HP1.out]
                  split
                  · rename_i e
                    have hjn : j < ns.length := by have := HCT.out e; omega
                    have h6 := quoteL_len (ns.getD j ByteArray.empty)
                    have h7 := HNL.out j hjn
                    have e2 : ns.getD j ByteArray.empty = ns[j] := by rw [List.getD, List.getElem?_eq_getElem hjn]; rfl
                    rw [e2] at h6 ⊢
                    simp
                    omega
                  · simp
                simp only [List.length_append]
                omega
              rw [← HSTEP.out] at A4
              generalize hm4 : Lib.join (ps.take (j + 1)) [44, 32] = m4 at A4
              generalize J1 ++ P1 = m3 at A4 ⊢
              have HM4 := Lib.hid hm4
              clear hm4
              have c0 := hkz _ _ _ c0
              have c1 := hkz _ _ _ c1
              have c2 := hkz _ _ _ c2
              have q0 := hkz _ _ _ q0
              have q1 := hkz _ _ _ q1
              have q2 := hkz _ _ _ q2
              have HKZ := Lib.hid (kept_trans HKR.out hkz)
              have hbr : Below w'.heap.size w' wc := bl_trans hbr hbz
              clear hkz hbz
              go_wp2_with fail
              refine (HX.out _ (kept_trans HK.out HKZ.out)).mono ?_
              rintro e w4 ⟨rfl, hb⟩
              have c0 := below_keeps hb _ _ _ c0; have c1 := below_keeps hb _ _ _ c1; have c2 := below_keeps hb _ _ _ c2
              have HK4 := Lib.hid (kept_trans HKZ.out (below_keeps hb))
              have hbr : Below w'.heap.size w' w4 := by (repeat (first | with_reducible assumption | with_reducible exact bl_refl _ | with_reducible refine bl_alloc ?_ _ | with_reducible refine bl_set ?_ (by first | (simp; done) | (simp; omega)) _ | with_reducible refine bl_drew ?_ | with_reducible refine bl_drewN ?_ _ | with_reducible refine bl_trans ?_ (by assumption)))
              clear hb
              go_wp2_with fail
              go_roundw
              case rel => exact ⟨j + 1, by omega, by go_num, by rw [HM4.out], HK4.out, hbr, c0, c1, c2⟩
              case measure => simp [intOf]; omega
        · have hje : j = N1 := by omega
          subst hje
          obtain ⟨R, hR0⟩ : ∃ R, wrapT k ps = R := ⟨_, rfl⟩
          have hR := Lib.hid hR0
          have HT := Lib.hid (show txt (.mk k ts ns) = R by rw [txt, HPS.out, hR0])
          have hlp := HLP.out
          have hjl := join_le (ps.take j)
          have hjl2 := lensP_take ps j
          obtain ⟨JN, hJN⟩ : ∃ JN, Lib.join (ps.take j) [44, 32] = JN := ⟨_, rfl⟩
          rw [hJN] at hjl ⊢
          have HJN2 := Lib.hid (show k ≠ 13 → Lib.join ps [44, 32] = JN from fun e => by
            have := HN1.out.2 e
            rw [← hJN, List.take_of_length_le (by omega)])
          have HJN := Lib.hid hJN
          clear hR0 hJN
          by_cases e10 : k = 10
          · subst e10
            have hR2 : [108, 105, 115, 116, 60] ++ JN ++ [62] = R := by rw [← hR.out, ← HJN2.out (by omega)]; simp [wrapT]
            have A1 : ∀ v, (Op.stringOp .add ⟨#[108, 105, 115, 116, 60]⟩ (strOfL JN)).run Try.prog v = .ok (.string (strOfL ([108, 105, 115, 116, 60] ++ JN))) v := catL _ _ (by simp; omega)
            have A2 : ∀ v, (Op.stringOp .add (strOfL ([108, 105, 115, 116, 60] ++ JN)) ⟨#[62]⟩).run Try.prog v = .ok (.string (strOfL R)) v := by
              rw [← hR2]
              exact catL _ [62] (by simp; omega)
            generalize [108, 105, 115, 116, 60] ++ JN = m1 at A1 A2
            clear hR hR2 hjl
            go_wp2_with fail
            go_ret
            refine ⟨?_, hbr⟩
            rw [HT.out]
            rfl
          by_cases e12 : k = 12
          · subst e12
            have hR2 : [114, 97, 110, 103, 101, 60] ++ JN ++ [62] = R := by rw [← hR.out, ← HJN2.out (by omega)]; simp [wrapT]
            have A1 : ∀ v, (Op.stringOp .add ⟨#[114, 97, 110, 103, 101, 60]⟩ (strOfL JN)).run Try.prog v = .ok (.string (strOfL ([114, 97, 110, 103, 101, 60] ++ JN))) v := catL _ _ (by simp; omega)
            have A2 : ∀ v, (Op.stringOp .add (strOfL ([114, 97, 110, 103, 101, 60] ++ JN)) ⟨#[62]⟩).run Try.prog v = .ok (.string (strOfL R)) v := by
              rw [← hR2]
              exact catL _ [62] (by simp; omega)
            generalize [114, 97, 110, 103, 101, 60] ++ JN = m1 at A1 A2
            clear hR hR2 hjl
            go_wp2_with fail
            go_ret
            refine ⟨?_, hbr⟩
            rw [HT.out]
            rfl
          by_cases e11 : k = 11
          · subst e11
            have hR2 : [99, 111, 110, 116, 101, 120, 116, 60] ++ JN ++ [62] = R := by rw [← hR.out, ← HJN2.out (by omega)]; simp [wrapT]
            have A1 : ∀ v, (Op.stringOp .add ⟨#[99, 111, 110, 116, 101, 120, 116, 60]⟩ (strOfL JN)).run Try.prog v = .ok (.string (strOfL ([99, 111, 110, 116, 101, 120, 116, 60] ++ JN))) v := catL _ _ (by simp; omega)
            have A2 : ∀ v, (Op.stringOp .add (strOfL ([99, 111, 110, 116, 101, 120, 116, 60] ++ JN)) ⟨#[62]⟩).run Try.prog v = .ok (.string (strOfL R)) v := by
              rw [← hR2]
              exact catL _ [62] (by simp; omega)
            generalize [99, 111, 110, 116, 101, 120, 116, 60] ++ JN = m1 at A1 A2
            clear hR hR2 hjl
            go_wp2_with fail
            go_ret
            refine ⟨?_, hbr⟩
            rw [HT.out]
            rfl
          by_cases e13 : k = 13
          · subst e13
            have hm := HN1.out.1 rfl
            have hjt : j < ts.length := by omega
            have k1 : (j : Int) < (ts.length : Int) := by omega
            obtain ⟨b, o, rfl, hcs⟩ := HC.out (by intro e; rw [e] at hjt; simp at hjt)
            have q0 := HKR.out _ _ _ (HK.out _ _ _ (hcs j hjt).1)
            have q1 := HKR.out _ _ _ (HK.out _ _ _ (hcs j hjt).2.1)
            have q2 := HKR.out _ _ _ (HK.out _ _ _ (hcs j hjt).2.2)
            have HX := Lib.hid (HIH.out j hjt)
            obtain ⟨xa, xc, ya, yc, ei, en⟩ := HSH.out j hjt
            rw [ei] at q1 HX
            rw [en] at q2 HX
            have h5 := pcs_at 13 ns ts 0 j hjt
            rw [HPS.out, Nat.zero_add, piece, if_neg (fun q => absurd q.1 (by decide))] at h5
            have h6 : ps.getD j [] = txt ts[j] := by rw [List.getD, h5]; rfl
            have hR2 : [102, 117, 110, 99, 116, 105, 111, 110, 60] ++ JN ++ [62, 32, 45, 62, 32] ++ txt ts[j] = R := by
              rw [← hR.out, wrapT, if_neg (by omega), if_neg (by omega), if_neg (by omega), if_pos rfl, if_pos (by omega), hpl, ← hm, Nat.add_sub_cancel, HJN.out, h6]
            have htl := txt_len ts[j]
            have htb := bkL_mem ts j hjt
            clear hcs ei en h5 h6
            generalize ts[j] = tx at *
            have A1 : ∀ v, (Op.stringOp .add ⟨#[102, 117, 110, 99, 116, 105, 111, 110, 60]⟩ (strOfL JN)).run Try.prog v = .ok (.string (strOfL ([102, 117, 110, 99, 116, 105, 111, 110, 60] ++ JN))) v := catL _ _ (by simp; omega)
            have A2 : ∀ v, (Op.stringOp .add (strOfL ([102, 117, 110, 99, 116, 105, 111, 110, 60] ++ JN)) ⟨#[62, 32, 45, 62, 32]⟩).run Try.prog v = .ok (.string (strOfL ([102, 117, 110, 99, 116, 105, 111, 110, 60] ++ JN ++ [62, 32, 45, 62, 32]))) v :=
              catL _ [62, 32, 45, 62, 32] (by simp; omega)
            have A3 : ∀ v, (Op.stringOp .add (strOfL ([102, 117, 110, 99, 116, 105, 111, 110, 60] ++ JN ++ [62, 32, 45, 62, 32])) (strOfL (txt tx))).run Try.prog v = .ok (.string (strOfL R)) v := by
              rw [← hR2]
              exact catL _ _ (by simp; omega)
            generalize [102, 117, 110, 99, 116, 105, 111, 110, 60] ++ JN ++ [62, 32, 45, 62, 32] = m2 at A2 A3
            generalize [102, 117, 110, 99, 116, 105, 111, 110, 60] ++ JN = m1 at A1 A2
            clear hR hR2 hjl
            go_wp2_with fail
            refine (HX.out _ (kept_trans HK.out HKR.out)).mono ?_
            rintro e w4 ⟨rfl, hb⟩
            have hbr : Below w'.heap.size w' w4 := by (repeat (first | with_reducible assumption | with_reducible exact bl_refl _ | with_reducible refine bl_alloc ?_ _ | with_reducible refine bl_set ?_ (by first | (simp; done) | (simp; omega)) _ | with_reducible refine bl_drew ?_ | with_reducible refine bl_drewN ?_ _ | with_reducible refine bl_trans ?_ (by assumption)))
            clear hb
            go_wp2_with fail
            go_ret
            refine ⟨?_, hbr⟩
            rw [HT.out]
            rfl
          · have hs := HSI.out e10 e11 e12 e13
            have hR2 : wordR k = R := by rw [← hR.out, wordR, if_pos hs]; simp [wrapT, *]
            have HR2 := Lib.hid hR2
            clear hR2 hs
            go_wp2_with fail
            refine (word_l k _).mono ?_
            rintro e w3 ⟨rfl, rfl⟩
            go_wp2_with fail
            go_ret
            refine ⟨?_, hbr⟩
            rw [HT.out, ← HR2.out]
            rfl

end Go.Proofs.Ytnkecbpocgcdfaa
