/-
  NameReads' walk.
-/
import Derived.Test.YtnamnldijopkfaaDoorTul
import Derived.Test.YtnamnldijopkfaaDoorTuk
import Derived.Deep.CutBlock
import Derived.Deep.QuietTactic
import Derived.BigQuiet
namespace Go.Proofs.YtnamnldijopkfaaDoor
open Go.ChangeShapes Go.WideShapes Go.ChangeAt Go.RowKit Go.Joins

theorem keyw_k (s : List UInt8) (w : World) : Calls Tryd.prog 53 #[.string (strOfL s)] w fun e w' => e = .returned (.bool (kwB s)) ∧ w = w' := by
  have KK := Lib.hid (fun v => keyword_k s v)
  generalize kwB s = b at *
  go_enter Tryd.func53, Tryd.ntmps53
  go_wp2_with fail
  refine (KK.out _).mono ?_
  rintro e w1 ⟨rfl, e9⟩
  subst e9
  go_wp2_with fail
  go_ret
  exact ⟨rfl, rfl⟩

theorem isP_pos (s : List UInt8) (ts : List Tok) (h : 0 < ts.length) : isP s ts = (begT ts[0] && decide (joinT ts = s)) := by
  match ts, h with
  | t :: us, _ => rfl
theorem isP_nil (s : List UInt8) (ts : List Tok) (h : ¬ 0 < ts.length) : isP s ts = false := by
  rw [List.eq_nil_of_length_eq_zero (by omega : ts.length = 0)]
  rfl

set_option maxHeartbeats 8000000 in
set_option maxRecDepth 100000 in
theorem reads_walk (s : List UInt8) (w : World) (hE : Env w) (hT : Tab w) (hl : s.length ≤ 1048576) :
    Calls Tryd.prog 15 #[.string (strOfL s)] w fun e w' => e = .returned (.bool true) ∧ Below w.heap.size w w' := by
  have HE := Lib.hid hE
  have HTB := Lib.hid hT
  have LK := Lib.hid (fun v (h : Env v) => ltokens_k s v h (by omega))
  have RK := Lib.hid (fun v (h : Env v) => read_k s v h (by omega))
  have PK := Lib.hid (fun v (h : Env v) => plain_k s v h (by omega))
  have OK := Lib.hid (fun v (h : Env v) => local_k s v h (by omega))
  have HO := Lib.hid (tokok_ltoks hl)
  have hln := HO.out.len
  rw [readP_l] at RK
  rw [plain_l] at PK
  rw [local_l] at OK
  have HP0 := Lib.hid (isP_pos s (ltoks s))
  have HN0 := Lib.hid (isP_nil s (ltoks s))
  have JK := Lib.hid (fun vt v (ht : Toks v vt (ltoks s)) => join_k (ltoks s) vt v ht HO.out.kinds HO.out.bulk HO.out.len)
  have LJ := Lib.hid (fun vt v (ht : Toks v vt (ltoks s)) => ljoin_k (ltoks s) vt v ht HO.out.bulk HO.out.len)
  generalize ltoks s = ts at *
  generalize isP s ts = P0 at *
  have K1 := Lib.hid (fun v => keyw_k s v)
  have K2 := Lib.hid (fun v (h : Tab v) => lkeyword_k s v h)
  generalize kwB s = kb at *
  clear hE hT
  go_enter Tryd.func15, Tryd.ntmps15
  go_wp2_with fail
  refine (awake17 _ HE.out).mono ?_
  rintro e w1 ⟨rfl, hb⟩
  have E1 := Lib.hid (HE.out.keep (kept_below hb))
  go_wp2_with fail
  refine (LK.out _ E1.out).mono ?_
  rintro e w2 ⟨v, rfl, hTk, hb2⟩
  have B2 := Lib.hid (bl_trans hb hb2)
  have E2 := Lib.hid (HE.out.keep (kept_below B2.out))
  have T2 := Lib.hid (HTB.out.keep B2.out)
  have HT := Lib.hid hTk
  obtain ⟨a, c, rfl, hc1, hc2, -⟩ := hTk
  clear hb hb2 E1 HE HTB LK
  go_upto_region 4 with fail
  go_cut [4] (fun b wx => b = .bool P0 ∧ Below w2.heap.size w2 wx)
  case first =>
    by_cases hp : 0 < ts.length
    · obtain ⟨-, -, -, bb, bo, rfl, hcs⟩ := HT.out.cells (by intro z; rw [z] at hp; simp at hp)
      have c0 := (hcs 0 hp).1
      have c1 := (hcs 0 hp).2.1
      have c2 := (hcs 0 hp).2.2
      simp only [Nat.zero_mul, Nat.add_zero] at c0 c1 c2
      have hPP := HP0.out hp
      have BK := Lib.hid (fun v (h : Tab v) => lbegins_k ts[0] v h (HO.out.kinds _ (List.getElem_mem _)))
      have k1 : (0 : Int) < (ts.length : Int) := by omega
      generalize begT ts[0] = bt at *
      generalize ts[0] = t0 at *
      have HPP := Lib.hid hPP
      clear hcs hPP
      go_wp2_with fail
      refine (BK.out _ T2.out).mono ?_
      rintro e w3 ⟨rfl, hb3⟩
      have HT3 := Lib.hid (HT.out.keep (kept_below hb3))
      clear c0 c1 c2
      cases bt with
      | false =>
        go_wp2_with fail
        go_meet
        exact ⟨by rw [HPP.out]; rfl, hb3⟩
      | true =>
        have hbb := bytes_beq (joinT ts) s
        generalize decide (joinT ts = s) = dj at *
        generalize joinT ts = y at *
        go_wp2_with fail
        refine (LJ.out _ _ HT3.out).mono ?_
        rintro e w4 ⟨rfl, e9⟩
        subst e9
        go_wp2_with fail
        go_meet
        exact ⟨by rw [HPP.out]; rfl, hb3⟩
    · have hPP := HN0.out hp
      subst hPP
      have k1 : ¬ (0 : Int) < (ts.length : Int) := by omega
      go_wp2_with fail
      go_meet
      exact ⟨rfl, bl_refl w2⟩
  case rest =>
  obtain ⟨rfl, hb3⟩ := hcut
  clear HP0 HN0
  go_wp2_with fail
  go_loopw [4, 5, 6, 7] (fun vi vp vl vk wx => ∃ j : Nat, j ≤ ts.length ∧ vk = .int .i64 j ∧ vi = .bool (P0 && (ts.take j).all pieceT) ∧ vp = .bool (P0 && (ts.take j).all pkT) ∧ vl = .bool (P0 && (ts.take j).all lcT) ∧ Below w2.heap.size w2 wx) (fun _ _ _ vk _ => ts.length - (intOf vk).toNat)
  case atStart =>
    refine ⟨0, Nat.zero_le _, rfl, ?_, ?_, ?_, hb3⟩
    all_goals simp
  case round =>
    obtain ⟨j, hj, rfl, rfl, rfl, rfl, hbr⟩ := hrel
    by_cases hlt : j < ts.length
    · have A1 := Lib.hid (all_take pieceT ts j hlt)
      have A2 := Lib.hid (all_take pkT ts j hlt)
      have A3 := Lib.hid (all_take lcT ts j hlt)
      obtain ⟨-, -, -, bb, bo, rfl, hcs⟩ := (HT.out.keep (kept_below hbr)).cells (by intro z; rw [z] at hlt; simp at hlt)
      have c0 := (hcs j hlt).1
      have c1 := (hcs j hlt).2.1
      have c2 := (hcs j hlt).2.2
      have LP := Lib.hid (fun v => lpiece_k ts[j] v (HO.out.kinds _ (List.getElem_mem _)))
      have LW := Lib.hid (fun v => lwordly_k ts[j] v (HO.out.kinds _ (List.getElem_mem _)))
      have KW := Lib.hid (fun v (h : Tab v) => lkeyword_k ts[j].text v h)
      have hpk : pkT ts[j] = (lwT ts[j] && lcT ts[j]) := rfl
      have hlc : lcT ts[j] = !(ts[j].kind == 1 && kwB ts[j].text) := rfl
      have T3 := Lib.hid (T2.out.keep hbr)
      have k1 : (j : Int) < (ts.length : Int) := by omega
      generalize (ts.take j).all pieceT = a1 at *
      generalize (ts.take j).all pkT = a2 at *
      generalize (ts.take j).all lcT = a3 at *
      generalize pkT ts[j] = pk at *
      generalize lcT ts[j] = lc at *
      generalize pieceT ts[j] = pb at *
      generalize lwT ts[j] = lw at *
      generalize kwB ts[j].text = kt at *
      generalize ts[j] = t at c0 c1 c2 LP LW KW hlc
      obtain ⟨kd, tx, at1⟩ := t
      dsimp only at c0 c1 c2 LP LW KW hlc
      have HPK := Lib.hid hpk
      have HLC := Lib.hid hlc
      obtain ⟨i1, hi1⟩ : ∃ b, (P0 && a1) = b := ⟨_, rfl⟩
      obtain ⟨i2, hi2⟩ : ∃ b, (P0 && a2) = b := ⟨_, rfl⟩
      obtain ⟨i3, hi3⟩ : ∃ b, (P0 && a3) = b := ⟨_, rfl⟩
      rw [hi1, hi2, hi3]
      have HI1 := Lib.hid hi1
      have HI2 := Lib.hid hi2
      have HI3 := Lib.hid hi3
      clear hcs hpk hlc hi1 hi2 hi3
      go_upto_region 9 with fail
      go_cut [4] from 33 to 76 (fun b wx => b = .bool (i1 && pb) ∧ Below wr.heap.size wr wx)
      case first =>
        cases i1 with
        | false =>
          go_wp2_with fail
          go_meet
          exact ⟨rfl, bl_refl _⟩
        | true =>
          go_wp2_with fail
          refine (LP.out _).mono ?_
          rintro e w5 ⟨rfl, hb5⟩
          clear c0 c1 c2
          go_wp2_with fail
          go_meet
          exact ⟨rfl, hb5⟩
      case rest =>
      obtain ⟨rfl, hb5⟩ := hcut
      have c0 := below_keeps hb5 _ _ _ c0
      have c1 := below_keeps hb5 _ _ _ c1
      have c2 := below_keeps hb5 _ _ _ c2
      have T5 := Lib.hid (T3.out.keep hb5)
      obtain ⟨w5, hw5⟩ : ∃ w5, w5 = wc := ⟨_, rfl⟩
      subst hw5
      go_upto_region 10 with fail
      go_cut [8] from 33 to 76 (fun b wx => b = .bool lc ∧ Below w5.heap.size w5 wx)
      case first =>
        by_cases h1 : kd = 1
        · subst h1
          go_wp2_with fail
          refine (KW.out _ T5.out).mono ?_
          rintro e w6 ⟨rfl, hb6⟩
          clear c0 c1 c2
          go_wp2_with fail
          go_meet
          exact ⟨by rw [HLC.out]; rfl, hb6⟩
        · have g1 : ((kd : Int) == 1) = false := by rw [beq_eq_false_iff_ne]; omega
          have g2 : (kd == 1) = false := by rw [beq_eq_false_iff_ne]; exact h1
          have hlc : lc = true := by rw [HLC.out, g2]; rfl
          subst hlc
          go_wp2_with fail
          go_meet
          exact ⟨rfl, bl_refl _⟩
      case rest =>
      obtain ⟨rfl, hb6⟩ := hcut
      have c0 := below_keeps hb6 _ _ _ c0
      have c1 := below_keeps hb6 _ _ _ c1
      have c2 := below_keeps hb6 _ _ _ c2
      obtain ⟨w6, hw6⟩ : ∃ w6, w6 = wc := ⟨_, rfl⟩
      subst hw6
      go_upto_region 11 with fail
      go_cut [5] from 33 to 76 (fun b wx => b = .bool ((i2 && lw) && lc) ∧ Below w6.heap.size w6 wx)
      case first =>
        cases i2 with
        | false =>
          go_wp2_with fail
          go_meet
          exact ⟨rfl, bl_refl _⟩
        | true =>
          go_wp2_with fail
          refine (LW.out _).mono ?_
          rintro e w7 ⟨rfl, hb7⟩
          clear c0 c1 c2
          cases lw with
          | false =>
            go_wp2_with fail
            go_meet
            exact ⟨rfl, hb7⟩
          | true =>
            go_wp2_with fail
            go_meet
            exact ⟨rfl, hb7⟩
      case rest =>
      obtain ⟨rfl, hb7⟩ := hcut
      clear c0 c1 c2
      have hbx := bl_trans hbr (bl_trans hb5 (bl_trans hb6 hb7))
      obtain ⟨w7, hw7⟩ : ∃ w7, w7 = wc := ⟨_, rfl⟩
      subst hw7
      have hrel3 : ∀ b, i3 = b → (b && lc) = (P0 && (ts.take (j + 1)).all lcT) := fun b hb => by
        rw [A3.out, ← hb, ← HI3.out, Bool.and_assoc]
      have HR3 := Lib.hid hrel3
      clear hrel3
      cases i3 with
      | false =>
        go_wp2_with fail
        go_roundw
        case rel =>
          refine ⟨j + 1, by omega, by go_num, ?_, ?_, ?_, hbx⟩
          · rw [A1.out, ← HI1.out, Bool.and_assoc]
          · rw [A2.out, ← HI2.out, HPK.out]; simp only [Bool.and_assoc]
          · rw [← HR3.out false rfl]; rfl
        case measure => simp [intOf]; omega
      | true =>
        go_wp2_with fail
        go_roundw
        case rel =>
          refine ⟨j + 1, by omega, by go_num, ?_, ?_, ?_, hbx⟩
          · rw [A1.out, ← HI1.out, Bool.and_assoc]
          · rw [A2.out, ← HI2.out, HPK.out]; simp only [Bool.and_assoc]
          · rw [← HR3.out true rfl]; rfl
        case measure => simp [intOf]; omega
    · have k1 : ¬ (j : Int) < (ts.length : Int) := by omega
      rw [List.take_of_length_le (by omega)]
      obtain ⟨i1, hi1⟩ : ∃ b, (P0 && ts.all pieceT) = b := ⟨_, rfl⟩
      obtain ⟨i2, hi2⟩ : ∃ b, (P0 && ts.all pkT) = b := ⟨_, rfl⟩
      obtain ⟨i3, hi3⟩ : ∃ b, (P0 && ts.all lcT) = b := ⟨_, rfl⟩
      rw [hi1] at RK OK
      rw [hi2] at PK
      rw [hi3] at OK
      rw [hi1, hi2, hi3]
      have E3 := Lib.hid (E2.out.keep (kept_below hbr))
      have T3 := Lib.hid (T2.out.keep hbr)
      have B3 := Lib.hid (bl_trans B2.out hbr)
      have HT3 := Lib.hid (HT.out.keep (kept_below hbr))
      have hb1 := bytes_beq (joinT ts) (joinT ts)
      rw [decide_eq_true rfl] at hb1
      have HB1 := Lib.hid hb1
      clear hi1 hi2 hi3 hb1
      generalize joinT ts = y at *
      cases i1 with
      | false =>
        rw [if_neg (by decide)] at RK
        go_wp2_with fail
        refine (RK.out _ E3.out).mono ?_
        rintro e w5 ⟨rfl, hb5⟩
        have T5 := Lib.hid (T3.out.keep hb5)
        have E5 := Lib.hid (E3.out.keep (kept_below hb5))
        have HT5 := Lib.hid (HT3.out.keep (kept_below hb5))
        have B5 := Lib.hid (bl_trans B3.out hb5)
        clear hb5
        go_wp2_with fail
        refine (K1.out _).mono ?_
        rintro e w6 ⟨rfl, e9⟩
        subst e9
        go_wp2_with fail
        refine (K2.out _ T5.out).mono ?_
        rintro e w7 ⟨rfl, hb7⟩
        have E7 := Lib.hid (E5.out.keep (kept_below hb7))
        have HT7 := Lib.hid (HT5.out.keep (kept_below hb7))
        have B7 := Lib.hid (bl_trans B5.out hb7)
        clear hb7
        go_wp2_with fail
        refine (JK.out _ _ HT7.out).mono ?_
        rintro e w8 ⟨rfl, hb8⟩
        have E8 := Lib.hid (E7.out.keep (kept_below hb8))
        have HT8 := Lib.hid (HT7.out.keep (kept_below hb8))
        have B8 := Lib.hid (bl_trans B7.out hb8)
        clear hb8
        have hb1 := HB1.out
        go_wp2_with fail
        refine (LJ.out _ _ HT8.out).mono ?_
        rintro e w9 ⟨rfl, e9⟩
        subst e9
        go_wp2_with fail
        go_loopw [11] (fun i wx => i = .int .i64 0 ∧ Below w8.heap.size w8 wx) (fun _ _ => 0)
        case atStart => exact ⟨rfl, bl_refl _⟩
        case round =>
          obtain ⟨rfl, hbz⟩ := hrel
          have B9 := Lib.hid (bl_trans B8.out hbz)
          have E9 := Lib.hid (E8.out.keep (kept_below hbz))
          go_wp2_with fail
          refine (PK.out _ E9.out).mono ?_
          rintro e w10 ⟨rfl, hb10⟩
          have E10 := Lib.hid (E9.out.keep (kept_below hb10))
          have B10 := Lib.hid (bl_trans B9.out hb10)
          clear hb10
          go_wp2_with fail
          refine (OK.out _ E10.out).mono ?_
          rintro e w11 ⟨rfl, hb11⟩
          have B11 := Lib.hid (bl_trans B10.out hb11)
          clear hb11
          cases i3
          all_goals
            go_wp2_with fail
            go_ret
            exact ⟨(by first | rfl | simp), B11.out⟩
      | true =>
        rw [if_pos rfl] at RK
        go_wp2_with fail
        refine (RK.out _ E3.out).mono ?_
        rintro e w5 ⟨gv, rfl, hG, hb5⟩
        have HG5 := Lib.hid hG
        obtain ⟨ga, gc, rfl, -, -, -⟩ := hG
        have T5 := Lib.hid (T3.out.keep hb5)
        have E5 := Lib.hid (E3.out.keep (kept_below hb5))
        have HT5 := Lib.hid (HT3.out.keep (kept_below hb5))
        have B5 := Lib.hid (bl_trans B3.out hb5)
        clear hb5
        go_wp2_with fail
        refine (K1.out _).mono ?_
        rintro e w6 ⟨rfl, e9⟩
        subst e9
        go_wp2_with fail
        refine (K2.out _ T5.out).mono ?_
        rintro e w7 ⟨rfl, hb7⟩
        have E7 := Lib.hid (E5.out.keep (kept_below hb7))
        have HT7 := Lib.hid (HT5.out.keep (kept_below hb7))
        have HG7 := Lib.hid (HG5.out.keep (kept_below hb7))
        have B7 := Lib.hid (bl_trans B5.out hb7)
        clear hb7
        go_wp2_with fail
        refine (JK.out _ _ HT7.out).mono ?_
        rintro e w8 ⟨rfl, hb8⟩
        have E8 := Lib.hid (E7.out.keep (kept_below hb8))
        have HT8 := Lib.hid (HT7.out.keep (kept_below hb8))
        have HG8 := Lib.hid (HG7.out.keep (kept_below hb8))
        have B8 := Lib.hid (bl_trans B7.out hb8)
        clear hb8
        have hb1 := HB1.out
        go_wp2_with fail
        refine (LJ.out _ _ HT8.out).mono ?_
        rintro e w9 ⟨rfl, e9⟩
        subst e9
        go_wp2_with fail
        go_loopw [11] (fun i wx => ∃ q : Nat, q ≤ ts.length ∧ i = .int .i64 q ∧ Below w8.heap.size w8 wx) (fun i _ => ts.length - (intOf i).toNat)
        case atStart => exact ⟨0, Nat.zero_le _, rfl, bl_refl _⟩
        case round =>
          obtain ⟨q, hq, rfl, hbz⟩ := hrel
          by_cases hlq : q < ts.length
          · obtain ⟨-, -, -, tb, tof, rfl, hct⟩ := (HT8.out.keep (kept_below hbz)).cells (by intro z; rw [z] at hlq; simp at hlq)
            obtain ⟨-, -, -, gb, gof, rfl, hcg⟩ := (HG8.out.keep (kept_below hbz)).cells (by intro z; rw [z] at hlq; simp at hlq)
            have c0 := (hct q hlq).1
            have c1 := (hct q hlq).2.1
            have c2 := (hct q hlq).2.2
            have d0 := (hcg q hlq).1
            have d1 := (hcg q hlq).2.1
            have d2 := (hcg q hlq).2.2
            have k2 : (q : Int) < (ts.length : Int) := by omega
            generalize ts[q] = t0 at *
            clear hct hcg
            go_wp2_with fail
            go_quiet (fail)
            go_wp2_with fail
            go_roundw
            case rel => exact ⟨q + 1, by omega, by go_num, bl_trans hbz (bl_drewN (bl_refl _) _)⟩
            case measure => simp [intOf]; omega
          · have k2 : ¬ (q : Int) < (ts.length : Int) := by omega
            have B9 := Lib.hid (bl_trans B8.out hbz)
            have E9 := Lib.hid (E8.out.keep (kept_below hbz))
            go_wp2_with fail
            refine (PK.out _ E9.out).mono ?_
            rintro e w10 ⟨rfl, hb10⟩
            have E10 := Lib.hid (E9.out.keep (kept_below hb10))
            have B10 := Lib.hid (bl_trans B9.out hb10)
            clear hb10
            go_wp2_with fail
            refine (OK.out _ E10.out).mono ?_
            rintro e w11 ⟨rfl, hb11⟩
            have B11 := Lib.hid (bl_trans B10.out hb11)
            clear hb11
            cases i3
            all_goals
              go_wp2_with fail
              go_ret
              exact ⟨(by first | rfl | simp), B11.out⟩

end Go.Proofs.YtnamnldijopkfaaDoor
