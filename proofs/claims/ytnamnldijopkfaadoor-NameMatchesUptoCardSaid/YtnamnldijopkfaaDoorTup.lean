/-
  NameMatches' walk.
-/
import Derived.Test.YtnamnldijopkfaaDoorTul
import Derived.Test.YtnamnldijopkfaaDoorTuk
import Derived.Deep.CutBlock
import Derived.Test.YtnamnldijopkfaaDoorTce
namespace Go.Proofs.YtnamnldijopkfaaDoor
open Go.ChangeShapes Go.WideShapes Go.ChangeAt Go.RowKit Go.Joins

set_option maxHeartbeats 4000000 in
set_option maxRecDepth 100000 in
theorem matches_walk (ns : List (List UInt8)) (vn : Value) (s : List UInt8) (w : World) (hE : Env w) (hT : Tab w) (hN : Strs w vn ns) (hn : ns.length ≤ 1048576) (hnl : ∀ m ∈ ns, m.length ≤ 1048576) (hl : s.length ≤ 1048576) :
    Calls Tryd.prog 13 #[vn, .string (strOfL s)] w fun e w' => e = .returned (.bool true) ∧ Below w.heap.size w w' := by
  have HE := Lib.hid hE
  have HTB := Lib.hid hT
  have HNS := Lib.hid hN
  have TK := Lib.hid (fun v (h : Env v) => tokens_k s v h (by omega))
  have OK := Lib.hid (fun v (h : Env v) (hm : Strs v vn ns) => of_k vn ns v h hm (by omega) (fun m hm => by have := hnl m hm; omega))
  have hwl : (withP [] ns).length ≤ 1073741824 := by have := withP_len [] ns; simp only [List.length_nil] at this; omega
  have HWC := Lib.hid (fun y => withP_mem y ns [])
  obtain ⟨S, hS⟩ : ∃ S, withP [] ns = S := ⟨_, rfl⟩
  rw [hS] at OK HWC hwl
  obtain ⟨va, vc, rfl, -, -, -⟩ := hN
  clear hS hE hT hnl
  cases hx : toksL s with
  | none =>
    rw [hx] at TK
    clear hx
    go_enter Tryd.func13, Tryd.ntmps13
    go_wp2_with fail
    refine (awake17 _ HE.out).mono ?_
    rintro e w1 ⟨rfl, hb⟩
    have E1 := Lib.hid (HE.out.keep (kept_below hb))
    have N1 := Lib.hid (HNS.out.keep (kept_below hb))
    go_wp2_with fail
    refine (OK.out _ E1.out N1.out).mono ?_
    rintro e w2 ⟨vs, rfl, hSt, hb2⟩
    obtain ⟨sa, sc, rfl, -, -, -⟩ := hSt
    have E2 := Lib.hid ((E1.out.keep (kept_below hb2)).keep (kept_alloc (kept_refl _) (.cells #[.slice sa S.length sc] 45)))
    have B2 := Lib.hid (show Below w.heap.size w (w2.alloc (.cells #[.slice sa S.length sc] 45)) from bl_alloc (bl_trans hb hb2) _)
    clear hb hb2
    go_wp2_with fail
    refine (TK.out _ E2.out).mono ?_
    rintro e w3 ⟨rfl, hb3⟩
    have B3 := Lib.hid (bl_trans B2.out hb3)
    go_wp2_with fail
    go_ret
    exact ⟨rfl, B3.out⟩
  | some ts =>
    have HO := Lib.hid (tokok_src hx hl)
    have HRL := Lib.hid (run_le (toks_fine hx).1 (toks_fine2 hx))
    have hln := HO.out.len
    rw [hx] at TK
    clear hx
    go_enter Tryd.func13, Tryd.ntmps13
    go_wp2_with fail
    refine (awake17 _ HE.out).mono ?_
    rintro e w1 ⟨rfl, hb⟩
    have E1 := Lib.hid (HE.out.keep (kept_below hb))
    have N1 := Lib.hid (HNS.out.keep (kept_below hb))
    go_wp2_with fail
    refine (OK.out _ E1.out N1.out).mono ?_
    rintro e w2 ⟨vs, rfl, hSt, hb2⟩
    have HS0 := Lib.hid hSt
    obtain ⟨sa, sc, rfl, -, -, -⟩ := hSt
    have E2 := Lib.hid ((E1.out.keep (kept_below hb2)).keep (kept_alloc (kept_refl _) (.cells #[.slice sa S.length sc] 45)))
    have HS2 := Lib.hid (HS0.out.keep (kept_alloc (kept_refl _) (.cells #[.slice sa S.length sc] 45)))
    have B2 := Lib.hid (show Below w.heap.size w (w2.alloc (.cells #[.slice sa S.length sc] 45)) from bl_alloc (bl_trans hb hb2) _)
    clear hb hb2 HS0
    go_wp2_with fail
    refine (TK.out _ E2.out).mono ?_
    rintro e w3 ⟨v, rfl, hTk, hb3⟩
    have p0 : w3.cell? ⟨w2.heap.size, 0, none⟩ = some (.slice sa S.length sc) := below_keeps hb3 _ _ _ (by simp [go_sem])
    have hg2 := lt_of_cell p0
    generalize w2.heap.size = g2 at *
    have B3 := Lib.hid (bl_trans B2.out hb3)
    have E3 := Lib.hid (E2.out.keep (kept_below hb3))
    have T3 := Lib.hid (HTB.out.keep B3.out)
    have N3 := Lib.hid (HNS.out.keep (kept_below B3.out))
    have HS3 := Lib.hid (HS2.out.keep (kept_below hb3))
    have HT := Lib.hid hTk
    obtain ⟨a, c, rfl, hc1, hc2, -⟩ := hTk
    clear hb3 TK E1 E2 HE HTB HNS N1 OK HS2
    go_wp2_with fail
    go_loopw [8] (fun i wr => ∃ j : Nat, j ≤ ts.length + 2 ∧ i = .int .i64 ((j : Int) - 1) ∧ Below w3.heap.size w3 wr) (fun i _ => ts.length + 5 - (intOf i + 1).toNat)
    case atStart => exact ⟨0, by omega, rfl, bl_refl w3⟩
    case round =>
      obtain ⟨j, hj, rfl, hbr⟩ := hrel
      obtain ⟨k, hk⟩ : ∃ k : Int, (j : Int) - 1 = k := ⟨_, rfl⟩
      have hk1 : k + 1 = (j : Int) := by omega
      have HK1 := Lib.hid hk1
      rw [hk]
      have hkl : -1 ≤ k := by omega
      have hwr : IntKind.i64.wrap (k + 1) = (j : Int) := by rw [hk1]; exact IntWalk.i64_in _ (by omega)
      clear hk hk1
      by_cases hlt : k ≤ (ts.length : Int) ∧ k < 60
      · obtain ⟨q1, q2⟩ := hlt
        have E4 := Lib.hid (E3.out.keep (kept_below hbr))
        have T4 := Lib.hid (T3.out.keep hbr)
        have N4 := Lib.hid (N3.out.keep (kept_below hbr))
        have HT4 := Lib.hid (HT.out.keep (kept_below hbr))
        have HS4 := Lib.hid (HS3.out.keep (kept_below hbr))
        have p1 := below_keeps hbr _ _ _ p0
        have MK := Lib.hid (match_k S ts _ _ k wr E4.out HS4.out HT4.out HO.out hwl (by omega))
        by_cases hv : 0 ≤ k ∧ k.toNat < ts.length
        · obtain ⟨q, rfl⟩ : ∃ q : Nat, k = (q : Int) := ⟨k.toNat, by omega⟩
          have hqn : q < ts.length := by simpa using hv.2
          obtain ⟨-, -, -, bb, bo, rfl, -⟩ := HT4.out.cells (by intro z; rw [z] at hqn; simp at hqn)
          have k1 : (0 : Int) ≤ (q : Int) := by omega
          have k3 : (q : Int) < (ts.length : Int) := by omega
          have BK := Lib.hid (fun v (h : Tab v) => lbegins_k ts[q] v h (HO.out.kinds _ (List.getElem_mem _)))
          cases hbt : begT ts[q] with
          | false =>
            rw [mat_nb _ _ _ hqn hbt] at MK
            try dsimp only at MK
            rw [show strOfL [] = (⟨#[]⟩ : ByteArray) from rfl] at MK
            rw [hbt] at BK
            clear hbt hv
            go_wp2_with fail
            refine (MK.out).mono ?_
            rintro e w5 ⟨rfl, hb5⟩
            have HT5 := Lib.hid (HT4.out.keep (kept_below hb5))
            have hbr5 := bl_trans hbr hb5
            have T5 := Lib.hid (T3.out.keep hbr5)
            obtain ⟨-, -, -, _, _, hta, hcs⟩ := HT5.out.cells (by intro z; rw [z] at hqn; simp at hqn)
            simp only [Option.some.injEq, Addr.mk.injEq, and_true] at hta
            obtain ⟨rfl, rfl⟩ := hta
            have c0 := (hcs q hqn).1
            have c1 := (hcs q hqn).2.1
            have c2 := (hcs q hqn).2.2
            generalize ts[q] = t0 at *
            clear hb5 hcs
            go_wp2_with fail
            refine (BK.out _ T5.out).mono ?_
            rintro e w6 ⟨rfl, hb6⟩
            have hbr6 := bl_trans hbr5 hb6
            clear c0 c1 c2 hb6
            go_wp2_with fail
            go_roundw
            case rel => exact ⟨j + 1, by have := HK1.out; omega, by go_num, hbr6⟩
            case measure => have := HK1.out; simp [intOf]; omega
          | true =>
            rw [mat_at _ _ _ hqn hbt] at MK
            rw [hbt] at BK
            have HBP := Lib.hid (beg_piece hbt)
            clear hbt hv
            have hls := lead_le pieceT (ts.drop q)
            have HWM := Lib.hid (fun m => Lib.hid (show wmP S (ts.drop q) m = wmP S (ts.drop q) m from rfl))
            obtain ⟨X, hX⟩ : ∃ X, wmP S (ts.drop q) (lead pieceT (ts.drop q)) = X := ⟨_, rfl⟩
            rw [hX] at MK
            have HX := Lib.hid hX
            have hwst := wm_start S ts q hqn
            have HWS := Lib.hid hwst
            obtain ⟨x1, x2⟩ := X
            dsimp only at MK
            clear hX hwst HWM hls
            go_wp2_with fail
            refine (MK.out).mono ?_
            rintro e w5 ⟨rfl, hb5⟩
            have E5 := Lib.hid (E4.out.keep (kept_below hb5))
            have N5 := Lib.hid (N4.out.keep (kept_below hb5))
            have HT5 := Lib.hid (HT4.out.keep (kept_below hb5))
            have hbr5 := bl_trans hbr hb5
            have T5 := Lib.hid (T3.out.keep hbr5)
            obtain ⟨-, -, -, _, _, hta, hcs⟩ := HT5.out.cells (by intro z; rw [z] at hqn; simp at hqn)
            simp only [Option.some.injEq, Addr.mk.injEq, and_true] at hta
            obtain ⟨rfl, rfl⟩ := hta
            have c0 := (hcs q hqn).1
            have c1 := (hcs q hqn).2.1
            have c2 := (hcs q hqn).2.2
            generalize hgt : ts[q] = t0 at c0 c1 c2 BK
            have HGT := Lib.hid hgt
            clear hb5 hcs hgt
            go_wp2_with fail
            refine (BK.out _ T5.out).mono ?_
            rintro e w6 ⟨rfl, hb6⟩
            have hbr6 := bl_trans hbr5 hb6
            have c1 := below_keeps hb6 _ _ _ c1
            clear p1
            have E6 := Lib.hid (E5.out.keep (kept_below hb6))
            have N6 := Lib.hid (N5.out.keep (kept_below hb6))
            have HT6 := Lib.hid (HT5.out.keep (kept_below hb6))
            clear c0 c2 hb6
            go_upto_region 13 with fail
            go_cut [11, 12] from 26 to 99 (fun a b wx => a = .string (strOfL t0.text) ∧ b = .int .i64 1 ∧ wx = w6)
            case first =>
              go_wp2_with fail
              go_meet
              exact ⟨rfl, rfl, rfl⟩
            case rest =>
            obtain ⟨rfl, rfl, e9⟩ := hcut
            have e9 := e9.symm
            subst e9
            clear c1
            go_wp2_with fail
            go_loopw [11, 12, 13] (fun want kk e wx => ∃ m : Nat, 1 ≤ m ∧ q + m ≤ ts.length ∧ e = .int .i64 ((q : Int) + (m : Int)) ∧ want = .string (strOfL (wmP S (ts.drop q) m).1) ∧ kk = .int .i64 ((wmP S (ts.drop q) m).2 : Int) ∧ Below w6.heap.size w6 wx ∧ (∀ i (h : q + i < ts.length), i < m → pieceT ts[q + i] = true)) (fun _ _ e _ => ts.length - (intOf e).toNat)
            case atStart =>
              refine ⟨1, Nat.le_refl _, by omega, ?_, ?_, ?_, bl_refl _, fun i h hi => ?_⟩
              · exact congrArg (Value.int .i64) (by have := HK1.out; omega)
              · rw [HWS.out, HGT.out]
              · rw [HWS.out]; rfl
              · obtain rfl : i = 0 := by omega
                exact HBP.out
            case round =>
              obtain ⟨m, hm1, hqm, rfl, rfl, rfl, hbx, hall⟩ := hrel
              have HALL := Lib.hid hall
              clear hall
              obtain ⟨wm1, hwm1⟩ : ∃ y, (wmP S (ts.drop q) m).1 = y := ⟨_, rfl⟩
              obtain ⟨wm2, hwm2⟩ : ∃ y, (wmP S (ts.drop q) m).2 = y := ⟨_, rfl⟩
              have HW1 := Lib.hid hwm1
              have HW2 := Lib.hid hwm2
              rw [hwm1, hwm2]
              clear hwm1 hwm2
              by_cases hlm : q + m < ts.length
              · have HT7 := Lib.hid (HT6.out.keep (kept_below hbx))
                have E7 := Lib.hid (E6.out.keep (kept_below hbx))
                have N7 := Lib.hid (N6.out.keep (kept_below hbx))
                obtain ⟨-, -, -, _, _, hta, hcs⟩ := HT7.out.cells (by intro z; rw [z] at hqn; simp at hqn)
                simp only [Option.some.injEq, Addr.mk.injEq, and_true] at hta
                obtain ⟨rfl, rfl⟩ := hta
                have c0 := (hcs (q + m) hlm).1
                have c1 := (hcs (q + m) hlm).2.1
                have c2 := (hcs (q + m) hlm).2.2
                have PK := Lib.hid (fun v => lpiece_k ts[q + m] v (HO.out.kinds _ (List.getElem_mem _)))
                have k5 : (q : Int) + (m : Int) < (ts.length : Int) := by omega
                have k6 : (0 : Int) ≤ (q : Int) + (m : Int) := by omega
                have k7 : ((q : Int) + (m : Int)).toNat = q + m := by omega
                generalize hpb : pieceT ts[q + m] = pb at *
                have HPB := Lib.hid hpb
                generalize ts[q + m] = t1 at c0 c1 c2 PK
                clear hcs hpb
                go_wp2_with fail
                refine (PK.out _).mono ?_
                rintro e w8 ⟨rfl, hb8⟩
                have hbx8 := bl_trans hbx hb8
                have HT8 := Lib.hid (HT7.out.keep (kept_below hb8))
                have E8 := Lib.hid (E7.out.keep (kept_below hb8))
                have N8 := Lib.hid (N7.out.keep (kept_below hb8))
                clear c0 c1 c2 hb8 PK
                cases pb with
                | false =>
                  have hL : lead pieceT (ts.drop q) = m := lead_drop pieceT ts q m hqm HALL.out (fun _ => HPB.out)
                  have hX := HX.out
                  rw [hL] at hX
                  have e1 : wm1 = x1 := by rw [← HW1.out, hX]
                  have e2 : wm2 = x2 := by rw [← HW2.out, hX]
                  subst e1 e2
                  have hbb := bytes_beq wm1 wm1
                  rw [decide_eq_true rfl] at hbb
                  clear hX hL
                  go_wp2_with fail
                  go_roundw
                  case rel => exact ⟨j + 1, by have := HK1.out; omega, by go_num, bl_trans hbr6 hbx8⟩
                  case measure => have := HK1.out; simp [intOf]; omega
                | true =>
                  obtain ⟨m', hm'⟩ : ∃ m', m + 1 = m' := ⟨_, rfl⟩
                  have hall2 : ∀ i (h : q + i < ts.length), i < m' → pieceT ts[q + i] = true := fun i hi hl => by
                    by_cases he : i = m
                    · subst he; exact HPB.out
                    · exact HALL.out i hi (by omega)
                  have hrl := HRL.out q m' (by omega) (fun i h1 h2 h3 => by
                    obtain ⟨d, rfl⟩ : ∃ d, i = q + d := ⟨i - q, by omega⟩
                    exact hall2 d h3 (by omega))
                  have HALL2 := Lib.hid hall2
                  have HHIT := Lib.hid (wm_hit S (ts.drop q) m hm1)
                  have HMISS := Lib.hid (wm_miss S (ts.drop q) m hm1)
                  rw [hm'] at HHIT HMISS
                  have HTP := Lib.hid (HT8.out.part q m' (by omega))
                  have hjl := joinT_le ((ts.drop q).take m')
                  have JK := Lib.hid (ljoin_k ((ts.drop q).take m') _ _ HTP.out (by omega) (by rw [List.length_take]; omega))
                  have AK := Lib.hid (fun v (h : Env v) (hs : Strs v (.slice va ns.length vc) ns) => among_k (.slice va ns.length vc) ns (joinT ((ts.drop q).take m')) v h hs (by omega) (by omega))
                  have hwc := HWC.out (joinT ((ts.drop q).take m'))
                  rw [show (([] : List (List UInt8)).contains (joinT ((ts.drop q).take m'))) = false from rfl, Bool.false_or] at hwc
                  rw [← hwc] at AK
                  obtain ⟨y, hy⟩ : ∃ y, joinT ((ts.drop q).take m') = y := ⟨_, rfl⟩
                  rw [hy] at AK JK HHIT HMISS
                  generalize hcb : S.contains y = cb at *
                  have m0 : (q : Int) + (m : Int) + 1 = (q : Int) + (m' : Int) := by omega
                  have m1 : (q : Int) ≤ (q : Int) + (m' : Int) := by omega
                  have m2 : (q : Int) + (m' : Int) ≤ (ts.length : Int) := by omega
                  have m3 : (q : Int) + (m' : Int) ≤ (c : Int) := by omega
                  have m4 : (0 : Int) ≤ (q : Int) + (m' : Int) := by omega
                  have m5 : (q : Int) + (m' : Int) - (q : Int) = (m' : Int) := by omega
                  have HM' := Lib.hid hm'
                  clear hm'
                  clear hall2 hrl hjl hwc hcb hy
                  go_wp2_with fail
                  refine (JK.out).mono ?_
                  rintro e w9 ⟨rfl, e9⟩
                  subst e9
                  go_wp2_with fail
                  refine (AK.out _ E8.out N8.out).mono ?_
                  rintro e w10 ⟨rfl, hb10⟩
                  have hbx10 := bl_trans hbx8 hb10
                  cases cb with
                  | true =>
                    have hh := HHIT.out rfl
                    have HH := Lib.hid hh
                    clear hh
                    go_wp2_with fail
                    go_roundw
                    case rel => exact ⟨m', by have := HM'.out; omega, by have := HM'.out; omega, by go_num, by rw [HH.out], by rw [HH.out], hbx10, HALL2.out⟩
                    case measure => have := HM'.out; simp [intOf]; omega
                  | false =>
                    have hh := HMISS.out rfl
                    have HH := Lib.hid hh
                    clear hh
                    go_wp2_with fail
                    go_roundw
                    case rel => exact ⟨m', by have := HM'.out; omega, by have := HM'.out; omega, by go_num, by rw [HH.out, HW1.out], by rw [HH.out, HW2.out], hbx10, HALL2.out⟩
                    case measure => simp [intOf]; omega
              · have hL : lead pieceT (ts.drop q) = m := lead_drop pieceT ts q m hqm HALL.out (fun h => absurd h hlm)
                have hX := HX.out
                rw [hL] at hX
                have e1 : wm1 = x1 := by rw [← HW1.out, hX]
                have e2 : wm2 = x2 := by rw [← HW2.out, hX]
                subst e1 e2
                have hbb := bytes_beq wm1 wm1
                rw [decide_eq_true rfl] at hbb
                have k5 : ¬ (q : Int) + (m : Int) < (ts.length : Int) := by omega
                clear hX hL
                go_wp2_with fail
                go_roundw
                case rel => exact ⟨j + 1, by have := HK1.out; omega, by go_num, bl_trans hbr6 hbx⟩
                case measure => have := HK1.out; simp [intOf]; omega
        · rw [mat_no _ _ _ hv] at MK
          try dsimp only at MK
          rw [show strOfL [] = (⟨#[]⟩ : ByteArray) from rfl] at MK
          by_cases h0 : k < 0
          · have k1 : ¬ 0 ≤ k := by omega
            clear hv
            go_wp2_with fail
            refine (MK.out).mono ?_
            rintro e w5 ⟨rfl, hb5⟩
            have hbr5 := bl_trans hbr hb5
            go_wp2_with fail
            go_roundw
            case rel => exact ⟨j + 1, by have := HK1.out; omega, by go_num, hbr5⟩
            case measure => have := HK1.out; simp [intOf]; omega
          · have k1 : 0 ≤ k := by omega
            have k2 : ¬ k < (ts.length : Int) := by omega
            clear hv
            go_wp2_with fail
            refine (MK.out).mono ?_
            rintro e w5 ⟨rfl, hb5⟩
            have hbr5 := bl_trans hbr hb5
            go_wp2_with fail
            go_roundw
            case rel => exact ⟨j + 1, by have := HK1.out; omega, by go_num, hbr5⟩
            case measure => have := HK1.out; simp [intOf]; omega
      · have B4 := Lib.hid (bl_trans B3.out hbr)
        by_cases q1 : k ≤ (ts.length : Int)
        · have q2 : ¬ k < 60 := by omega
          clear hlt
          go_wp2_with fail
          go_ret
          exact ⟨rfl, B4.out⟩
        · clear hlt
          go_wp2_with fail
          go_ret
          exact ⟨rfl, B4.out⟩

end Go.Proofs.YtnamnldijopkfaaDoor
