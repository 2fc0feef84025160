/-
  NameGiven's walk.
-/
import Derived.Test.YtnamnldijopkfaaDoorTul
import Derived.Test.YtnamnldijopkfaaDoorTuk
import Derived.Deep.CutBlock
import Derived.Test.YtnamnldijopkfaaDoorTce
namespace Go.Proofs.YtnamnldijopkfaaDoor
open Go.ChangeShapes Go.WideShapes Go.ChangeAt Go.RowKit Go.Joins

set_option maxHeartbeats 4000000 in
set_option maxRecDepth 100000 in
theorem given_walk (s : List UInt8) (w : World) (hE : Env w) (hT : Tab w) (hl : s.length ≤ 1048576) :
    Calls Tryd.prog 14 #[.string (strOfL s)] w fun e w' => e = .returned (.bool true) ∧ Below w.heap.size w w' := by
  have HE := Lib.hid hE
  have HTB := Lib.hid hT
  have TK := Lib.hid (fun v (h : Env v) => tokens_k s v h (by omega))
  cases hx : toksL s with
  | none =>
    rw [hx] at TK
    clear hx hE hT
    go_enter Tryd.func14, Tryd.ntmps14
    go_wp2_with fail
    refine (awake17 _ HE.out).mono ?_
    rintro e w1 ⟨rfl, hb⟩
    have E1 := Lib.hid (HE.out.keep (kept_below hb))
    go_wp2_with fail
    refine (TK.out _ E1.out).mono ?_
    rintro e w2 ⟨rfl, hb2⟩
    go_wp2_with fail
    go_ret
    exact ⟨rfl, bl_trans hb hb2⟩
  | some ts =>
    have HO := Lib.hid (tokok_src hx hl)
    have hln := HO.out.len
    rw [hx] at TK
    clear hx hE hT
    go_enter Tryd.func14, Tryd.ntmps14
    go_wp2_with fail
    refine (awake17 _ HE.out).mono ?_
    rintro e w1 ⟨rfl, hb⟩
    have E1 := Lib.hid (HE.out.keep (kept_below hb))
    go_wp2_with fail
    refine (TK.out _ E1.out).mono ?_
    rintro e w2 ⟨v, rfl, hTk, hb2⟩
    have HT := Lib.hid hTk
    have B2 := Lib.hid (bl_trans hb hb2)
    have E2 := Lib.hid (HE.out.keep (kept_below B2.out))
    have T2 := Lib.hid (HTB.out.keep B2.out)
    obtain ⟨a, c, rfl, hc1, hc2, -⟩ := hTk
    clear hb hb2 TK E1 HE HTB
    go_wp2_with fail
    go_loopw [5] (fun i wr => ∃ j : Nat, j ≤ ts.length + 2 ∧ i = .int .i64 ((j : Int) - 1) ∧ Below w2.heap.size w2 wr) (fun i _ => ts.length + 5 - (intOf i + 1).toNat)
    case atStart => exact ⟨0, by omega, rfl, bl_refl w2⟩
    case round =>
      obtain ⟨j, hj, rfl, hbr⟩ := hrel
      have hjm : ts.length + 5 - (intOf (.int .i64 ((j : Int) - 1)) + 1).toNat = ts.length + 5 - j := by simp [intOf]
      obtain ⟨k, hk⟩ : ∃ k : Int, (j : Int) - 1 = k := ⟨_, rfl⟩
      have hk1 : k + 1 = (j : Int) := by omega
      have HK1 := Lib.hid hk1
      rw [hk]
      have hkl : -1 ≤ k := by omega
      have hwr : IntKind.i64.wrap (k + 1) = (j : Int) := by rw [hk1]; exact IntWalk.i64_in _ (by omega)
      clear hk hk1
      by_cases hlt : k ≤ (ts.length : Int) ∧ k < 100
      · obtain ⟨q1, q2⟩ := hlt
        have E3 := Lib.hid (E2.out.keep (kept_below hbr))
        have T3 := Lib.hid (T2.out.keep hbr)
        have HT3 := Lib.hid (HT.out.keep (kept_below hbr))
        have GK := Lib.hid (given_k ts _ k wr E3.out HT3.out HO.out (by omega))
        have RK := Lib.hid (fun v (hv : Env v) (ht : Toks v (.slice a ts.length c) ts) => run_k ts _ k v hv ht HO.out (by omega))
        by_cases hv : 0 ≤ k ∧ k.toNat < ts.length
        · obtain ⟨q, rfl⟩ : ∃ q : Nat, k = (q : Int) := ⟨k.toNat, by omega⟩
          have hqn : q < ts.length := by simpa using hv.2
          obtain ⟨-, -, -, bb, bo, rfl, -⟩ := HT3.out.cells (by intro z; rw [z] at hqn; simp at hqn)
          have k1 : ¬ (q : Int) < 0 := by omega
          have k2 : ¬ (ts.length : Int) ≤ (q : Int) := by omega
          have k3 : (q : Int) < (ts.length : Int) := by omega
          have BK := Lib.hid (fun v (h : Tab v) => lbegins_k ts[q] v h (HO.out.kinds _ (List.getElem_mem _)))
          cases hbt : begT ts[q] with
          | false =>
            rw [giv_nb _ _ _ hqn hbt] at GK RK
            try dsimp only at GK RK
            rw [show strOfL [] = (⟨#[]⟩ : ByteArray) from rfl] at GK RK
            rw [hbt] at BK
            clear hbt hv
            go_wp2_with fail
            refine (GK.out).mono ?_
            rintro e w4 ⟨rfl, hb4⟩
            have E4 := Lib.hid (E3.out.keep (kept_below hb4))
            have HT4 := Lib.hid (HT3.out.keep (kept_below hb4))
            have hbr4 := bl_trans hbr hb4
            clear hb4
            go_wp2_with fail
            refine (RK.out _ E4.out HT4.out).mono ?_
            rintro e w5 ⟨rfl, hb5⟩
            have HT5 := Lib.hid (HT4.out.keep (kept_below hb5))
            have hbr5 := bl_trans hbr4 hb5
            have T5 := Lib.hid (T2.out.keep hbr5)
            obtain ⟨-, -, -, _, _, hta, hcs⟩ := HT5.out.cells (by intro z; rw [z] at hqn; simp at hqn)
            simp only [Option.some.injEq, Addr.mk.injEq, and_true] at hta
            obtain ⟨rfl, rfl⟩ := hta
            have c0 := (hcs q hqn).1
            have c1 := (hcs q hqn).2.1
            have c2 := (hcs q hqn).2.2
            generalize ts[q] = t0 at *
            clear hb5 hcs
            go_wp2_with fail
            refine (BK.out _ T5.out).mono ?_
            rintro e w6 ⟨rfl, hb6⟩
            have hbr6 := bl_trans hbr5 hb6
            clear c0 c1 c2 hb6
            go_wp2_with fail
            go_roundw
            case rel => exact ⟨j + 1, by have := HK1.out; omega, by go_num, hbr6⟩
            case measure => have := HK1.out; simp [intOf]; omega
          | true =>
            have g1 := giv_at gvT ts q hqn hbt
            have g2 := giv_at rnT ts q hqn hbt
            have hME := rn_le_gv (ts.drop q)
            have hEl := lead_le gvT (ts.drop q)
            rw [List.length_drop] at hEl
            obtain ⟨E, hE⟩ : ∃ E, lead gvT (ts.drop q) = E := ⟨_, rfl⟩
            obtain ⟨M, hM⟩ : ∃ M, lead rnT (ts.drop q) = M := ⟨_, rfl⟩
            rw [hE] at g1 hME hEl
            rw [hM] at g2 hME
            rw [g1] at GK
            rw [g2] at RK
            dsimp only at GK RK
            rw [hbt] at BK
            have J1 := Lib.hid (fun va vc v (h : Toks v (.slice va E vc) ((ts.drop q).take E)) => ljoin_k ((ts.drop q).take E) _ v h (Nat.le_trans (bulk_part ts q E) HO.out.bulk) (by rw [List.length_take]; omega))
            have J2 := Lib.hid (fun va vc v (h : Toks v (.slice va M vc) ((ts.drop q).take M)) => ljoin_k ((ts.drop q).take M) _ v h (Nat.le_trans (bulk_part ts q M) HO.out.bulk) (by rw [List.length_take]; omega))
            obtain ⟨y1, hy1⟩ : ∃ y, joinT ((ts.drop q).take E) = y := ⟨_, rfl⟩
            obtain ⟨y2, hy2⟩ : ∃ y, joinT ((ts.drop q).take M) = y := ⟨_, rfl⟩
            rw [hy1] at GK J1
            rw [hy2] at RK J2
            have hb1 := bytes_beq y1 y1
            have hb2 := bytes_beq y2 y2
            rw [decide_eq_true rfl] at hb1 hb2
            have HEE := Lib.hid hE
            have HMM := Lib.hid hM
            have HB1 := Lib.hid hb1
            have HB2 := Lib.hid hb2
            clear g1 g2 hE hM hy1 hy2 hb1 hb2 hbt hv
            go_wp2_with fail
            refine (GK.out).mono ?_
            rintro e w4 ⟨rfl, hb4⟩
            have E4 := Lib.hid (E3.out.keep (kept_below hb4))
            have HT4 := Lib.hid (HT3.out.keep (kept_below hb4))
            have hbr4 := bl_trans hbr hb4
            clear hb4
            go_wp2_with fail
            refine (RK.out _ E4.out HT4.out).mono ?_
            rintro e w5 ⟨rfl, hb5⟩
            have HT5 := Lib.hid (HT4.out.keep (kept_below hb5))
            have hbr5 := bl_trans hbr4 hb5
            have T5 := Lib.hid (T2.out.keep hbr5)
            obtain ⟨-, -, -, _, _, hta, hcs⟩ := HT5.out.cells (by intro z; rw [z] at hqn; simp at hqn)
            simp only [Option.some.injEq, Addr.mk.injEq, and_true] at hta
            obtain ⟨rfl, rfl⟩ := hta
            have c0 := (hcs q hqn).1
            have c1 := (hcs q hqn).2.1
            have c2 := (hcs q hqn).2.2
            generalize ts[q] = t0 at c0 c1 c2 BK
            clear hb5 hcs
            go_wp2_with fail
            refine (BK.out _ T5.out).mono ?_
            rintro e w6 ⟨rfl, hb6⟩
            have hbr6 := bl_trans hbr5 hb6
            have HT6 := Lib.hid (HT5.out.keep (kept_below hb6))
            have T6 := Lib.hid (T5.out.keep hb6)
            clear c0 c1 c2 hb6 GK RK E3 E4 HT3 HT4 HT5 T5 T3
            go_upto_region 14 with fail
            go_cut [10] from 21 to 146 (fun e wx => e = .int .i64 (q : Int) ∧ wx = w6)
            case first =>
              go_wp2_with fail
              go_meet
              exact ⟨rfl, rfl⟩
            case rest =>
            obtain ⟨rfl, e9⟩ := hcut
            have e9 := e9.symm
            subst e9
            go_upto_block 2 with fail
            go_cut [10] from 21 to 146 (fun e wx => e = .int .i64 ((q : Int) + (E : Int)) ∧ Below w6.heap.size w6 wx)
            case first =>
              go_wp2_with fail
              go_loopw [10] (fun e wx => ∃ n : Nat, q + n ≤ ts.length ∧ e = .int .i64 ((q : Int) + (n : Int)) ∧ Below w6.heap.size w6 wx ∧ (∀ i (h : q + i < ts.length), i < n → gvT ts[q + i] = true)) (fun e _ => ts.length - (intOf e).toNat)
              case atStart => exact ⟨0, by omega, by simp, bl_refl w6, fun i _ hi => absurd hi (Nat.not_lt_zero _)⟩
              case round =>
                obtain ⟨n, hnl, rfl, hbx, hall⟩ := hrel
                have HALL := Lib.hid hall
                clear hall
                by_cases hlm : q + n < ts.length
                · have HT7 := Lib.hid (HT6.out.keep (kept_below hbx))
                  obtain ⟨-, -, -, _, _, hta, hcs⟩ := HT7.out.cells (by intro z; rw [z] at hqn; simp at hqn)
                  simp only [Option.some.injEq, Addr.mk.injEq, and_true] at hta
                  obtain ⟨rfl, rfl⟩ := hta
                  have c0 := (hcs (q + n) hlm).1
                  have c1 := (hcs (q + n) hlm).2.1
                  have c2 := (hcs (q + n) hlm).2.2
                  have PK := Lib.hid (fun v => lpiece_k ts[q + n] v (HO.out.kinds _ (List.getElem_mem _)))
                  have KK := Lib.hid (fun v (h : Tab v) => lkeyword_k ts[q + n].text v h)
                  have k5 : (q : Int) + (n : Int) < (ts.length : Int) := by omega
                  have k6 : (0 : Int) ≤ (q : Int) + (n : Int) := by omega
                  have k7 : ((q : Int) + (n : Int)).toNat = q + n := by omega
                  have hgv : gvT ts[q + n] = (pieceT ts[q + n] && !(ts[q + n].kind == 1 && kwB ts[q + n].text)) := rfl
                  generalize hgb : gvT ts[q + n] = gb at *
                  have HGB := Lib.hid hgb
                  generalize pieceT ts[q + n] = pb at *
                  generalize kwB ts[q + n].text = kb at *
                  generalize ts[q + n] = t at c0 c1 c2 PK KK hgv
                  obtain ⟨kd, tx, at1⟩ := t
                  dsimp only at c0 c1 c2 PK KK hgv
                  have HGV := Lib.hid hgv
                  clear hcs hgb hgv
                  go_wp2_with fail
                  refine (PK.out _).mono ?_
                  rintro e w8 ⟨rfl, hb8⟩
                  have hbx8 := bl_trans hbx hb8
                  have c0 := below_keeps hb8 _ _ _ c0
                  have c1 := below_keeps hb8 _ _ _ c1
                  have T8 := Lib.hid (T6.out.keep hbx8)
                  clear hb8 PK c2
                  cases pb with
                  | false =>
                    have hgt : gb = false := by rw [HGV.out]; rfl
                    have hL : lead gvT (ts.drop q) = n := lead_drop gvT ts q n (by omega) HALL.out (fun _ => by rw [HGB.out, hgt])
                    have hEn : E = n := HEE.out.symm.trans hL
                    clear hgt hL c0 c1
                    subst hEn
                    go_wp2_with fail
                    go_meet
                    exact ⟨rfl, hbx8⟩
                  | true =>
                    by_cases h1 : kd = 1
                    · subst h1
                      go_wp2_with fail
                      refine (KK.out _ T8.out).mono ?_
                      rintro e w9 ⟨rfl, hb9⟩
                      have hbx9 := bl_trans hbx8 hb9
                      clear hb9 c0 c1
                      cases kb with
                      | true =>
                        have hgt : gb = false := by rw [HGV.out]; rfl
                        have hL : lead gvT (ts.drop q) = n := lead_drop gvT ts q n (by omega) HALL.out (fun _ => by rw [HGB.out, hgt])
                        have hEn : E = n := HEE.out.symm.trans hL
                        clear hgt hL
                        subst hEn
                        go_wp2_with fail
                        go_meet
                        exact ⟨rfl, hbx9⟩
                      | false =>
                        have hgt : gb = true := by rw [HGV.out]; rfl
                        have HGT := Lib.hid hgt
                        clear hgt
                        go_wp2_with fail
                        go_roundw
                        case rel =>
                          refine ⟨n + 1, by omega, by go_num, hbx9, fun i hi hl => ?_⟩
                          by_cases he : i = n
                          · subst he; rw [HGB.out, HGT.out]
                          · exact HALL.out i hi (by omega)
                        case measure => simp [intOf]; omega
                    · have g1 : ((kd : Int) == 1) = false := by rw [beq_eq_false_iff_ne]; omega
                      have hgt : gb = true := by
                        rw [HGV.out]
                        have : (kd == 1) = false := by rw [beq_eq_false_iff_ne]; exact h1
                        rw [this]; rfl
                      have HGT := Lib.hid hgt
                      clear hgt
                      go_wp2_with fail
                      go_roundw
                      case rel =>
                        refine ⟨n + 1, by omega, by go_num, hbx8, fun i hi hl => ?_⟩
                        by_cases he : i = n
                        · subst he; rw [HGB.out, HGT.out]
                        · exact HALL.out i hi (by omega)
                      case measure => simp [intOf]; omega
                · have hL : lead gvT (ts.drop q) = n := lead_drop gvT ts q n (by omega) HALL.out (fun h => absurd h hlm)
                  have hEn : E = n := HEE.out.symm.trans hL
                  have k5 : ¬ (q : Int) + (n : Int) < (ts.length : Int) := by omega
                  clear hL
                  subst hEn
                  go_wp2_with fail
                  go_meet
                  exact ⟨rfl, hbx⟩
            case rest =>
            obtain ⟨rfl, hbe⟩ := hcut
            go_upto_block 4 with fail
            go_cut [11] from 21 to 146 (fun e wx => e = .int .i64 ((q : Int) + (M : Int)) ∧ Below w6.heap.size w6 wx)
            case first =>
              go_wp2_with fail
              go_loopw [11] (fun e wx => ∃ n : Nat, n ≤ E ∧ e = .int .i64 ((q : Int) + (n : Int)) ∧ Below w6.heap.size w6 wx ∧ (∀ i (h : q + i < ts.length), i < n → lwT ts[q + i] = true)) (fun e _ => ts.length - (intOf e).toNat)
              case atStart => exact ⟨0, Nat.zero_le _, by simp, hbe, fun i _ hi => absurd hi (Nat.not_lt_zero _)⟩
              case round =>
                obtain ⟨n, hnl, rfl, hbx, hall⟩ := hrel
                have HALL := Lib.hid hall
                clear hall
                by_cases hlm : n < E
                · have HT7 := Lib.hid (HT6.out.keep (kept_below hbx))
                  obtain ⟨-, -, -, _, _, hta, hcs⟩ := HT7.out.cells (by intro z; rw [z] at hqn; simp at hqn)
                  simp only [Option.some.injEq, Addr.mk.injEq, and_true] at hta
                  obtain ⟨rfl, rfl⟩ := hta
                  have hlq : q + n < ts.length := by omega
                  have c0 := (hcs (q + n) hlq).1
                  have c1 := (hcs (q + n) hlq).2.1
                  have c2 := (hcs (q + n) hlq).2.2
                  have PK := Lib.hid (fun v => lwordly_k ts[q + n] v (HO.out.kinds _ (List.getElem_mem _)))
                  have k4 : (q : Int) + (n : Int) < (q : Int) + (E : Int) := by omega
                  have k5 : (q : Int) + (n : Int) < (ts.length : Int) := by omega
                  have k6 : (0 : Int) ≤ (q : Int) + (n : Int) := by omega
                  have k7 : ((q : Int) + (n : Int)).toNat = q + n := by omega
                  generalize hpb : lwT ts[q + n] = pb at *
                  have HPB := Lib.hid hpb
                  generalize ts[q + n] = t at c0 c1 c2 PK
                  clear hcs hpb
                  go_wp2_with fail
                  refine (PK.out _).mono ?_
                  rintro e w8 ⟨rfl, hb8⟩
                  have hbx8 := bl_trans hbx hb8
                  clear hb8 PK c0 c1 c2
                  cases pb with
                  | false =>
                    have hL : lead rnT (ts.drop q) = n := run_lead ts q E n HEE.out (by omega) hnl HALL.out (fun _ _ => HPB.out)
                    have hEn : M = n := HMM.out.symm.trans hL
                    clear hL
                    subst hEn
                    go_wp2_with fail
                    go_meet
                    exact ⟨rfl, hbx8⟩
                  | true =>
                    go_wp2_with fail
                    go_roundw
                    case rel =>
                      refine ⟨n + 1, by omega, by go_num, hbx8, fun i hi hl => ?_⟩
                      by_cases he : i = n
                      · subst he; exact HPB.out
                      · exact HALL.out i hi (by omega)
                    case measure => simp [intOf]; omega
                · have hL : lead rnT (ts.drop q) = n := run_lead ts q E n HEE.out (by omega) hnl HALL.out (fun h => absurd h hlm)
                  have hEn : M = n := HMM.out.symm.trans hL
                  have k5 : ¬ (q : Int) + (n : Int) < (q : Int) + (E : Int) := by omega
                  clear hL
                  subst hEn
                  go_wp2_with fail
                  go_meet
                  exact ⟨rfl, hbx⟩
            case rest =>
            obtain ⟨rfl, hbf⟩ := hcut
            have m1 : (q : Int) ≤ (q : Int) + (E : Int) := by omega
            have m2 : (q : Int) + (E : Int) ≤ (ts.length : Int) := by omega
            have m3 : (q : Int) + (E : Int) ≤ (c : Int) := by omega
            have m4 : (0 : Int) ≤ (q : Int) + (E : Int) := by omega
            have m5 : (q : Int) + (E : Int) - (q : Int) = (E : Int) := by omega
            have n1 : (q : Int) ≤ (q : Int) + (M : Int) := by omega
            have n2 : (q : Int) + (M : Int) ≤ (ts.length : Int) := by omega
            have n3 : (q : Int) + (M : Int) ≤ (c : Int) := by omega
            have n4 : (0 : Int) ≤ (q : Int) + (M : Int) := by omega
            have n5 : (q : Int) + (M : Int) - (q : Int) = (M : Int) := by omega
            have HT9 := Lib.hid (HT6.out.keep (kept_below hbf))
            have HP1 := Lib.hid (HT9.out.part q E (by omega))
            have HP2 := Lib.hid (HT9.out.part q M (by omega))
            have hb1 := HB1.out
            have hb2 := HB2.out
            go_wp2_with fail
            refine (J1.out _ _ _ HP1.out).mono ?_
            rintro e w10 ⟨rfl, e9⟩
            subst e9
            go_wp2_with fail
            refine (J2.out _ _ _ HP2.out).mono ?_
            rintro e w11 ⟨rfl, e9⟩
            subst e9
            go_wp2_with fail
            go_roundw
            case rel => exact ⟨j + 1, by have := HK1.out; omega, by go_num, bl_trans hbr6 hbf⟩
            case measure => have := HK1.out; simp [intOf]; omega
        · rw [giv_no _ _ _ hv] at GK RK
          try dsimp only at GK RK
          rw [show strOfL [] = (⟨#[]⟩ : ByteArray) from rfl] at GK RK
          by_cases h0 : k < 0
          · clear hv
            go_wp2_with fail
            refine (GK.out).mono ?_
            rintro e w4 ⟨rfl, hb4⟩
            have E4 := Lib.hid (E3.out.keep (kept_below hb4))
            have HT4 := Lib.hid (HT3.out.keep (kept_below hb4))
            have hbr4 := bl_trans hbr hb4
            clear hb4
            go_wp2_with fail
            refine (RK.out _ E4.out HT4.out).mono ?_
            rintro e w5 ⟨rfl, hb5⟩
            have hbr5 := bl_trans hbr4 hb5
            go_wp2_with fail
            go_roundw
            case rel => exact ⟨j + 1, by have := HK1.out; omega, by go_num, hbr5⟩
            case measure => have := HK1.out; simp [intOf]; omega
          · have k2 : (ts.length : Int) ≤ k := by omega
            clear hv
            go_wp2_with fail
            refine (GK.out).mono ?_
            rintro e w4 ⟨rfl, hb4⟩
            have E4 := Lib.hid (E3.out.keep (kept_below hb4))
            have HT4 := Lib.hid (HT3.out.keep (kept_below hb4))
            have hbr4 := bl_trans hbr hb4
            clear hb4
            go_wp2_with fail
            refine (RK.out _ E4.out HT4.out).mono ?_
            rintro e w5 ⟨rfl, hb5⟩
            have hbr5 := bl_trans hbr4 hb5
            go_wp2_with fail
            go_roundw
            case rel => exact ⟨j + 1, by have := HK1.out; omega, by go_num, hbr5⟩
            case measure => have := HK1.out; simp [intOf]; omega
      · have B3 := Lib.hid (bl_trans B2.out hbr)
        by_cases q1 : k ≤ (ts.length : Int)
        · have q2 : ¬ k < 100 := by omega
          clear hlt
          go_wp2_with fail
          go_ret
          exact ⟨rfl, B3.out⟩
        · clear hlt
          go_wp2_with fail
          go_ret
          exact ⟨rfl, B3.out⟩

end Go.Proofs.YtnamnldijopkfaaDoor
