/-
  NameBack's walk.
-/
import Derived.Test.YtnamnldijopkfaaDoorTul
import Derived.Test.YtnamnldijopkfaaDoorTuk
namespace Go.Proofs.YtnamnldijopkfaaDoor
open Go.ChangeShapes Go.WideShapes Go.ChangeAt Go.RowKit Go.Joins

set_option maxHeartbeats 4000000 in
set_option maxRecDepth 100000 in
theorem back_walk (s : List UInt8) (w : World) (hE : Env w) (hl : s.length ≤ 1048576) :
    Calls Tryd.prog 11 #[.string (strOfL s)] w fun e w' => e = .returned (.bool true) ∧ Below w.heap.size w w' := by
  have HE := Lib.hid hE
  have RK := Lib.hid (fun v (h : Env v) => read_k s v h (by omega))
  cases hr : readP s with
  | none =>
    rw [hr] at RK
    clear hr hE
    go_enter Tryd.func11, Tryd.ntmps11
    go_wp2_with fail
    refine (awake17 _ HE.out).mono ?_
    rintro e w1 ⟨rfl, hb⟩
    have E1 := Lib.hid (HE.out.keep (kept_below hb))
    go_wp2_with fail
    refine (RK.out _ E1.out).mono ?_
    rintro e w2 ⟨rfl, hb2⟩
    go_wp2_with fail
    go_ret
    exact ⟨rfl, bl_trans hb hb2⟩
  | some ts =>
    obtain ⟨p1, p2, p3, p4, p5, p6⟩ := back_plain hr hl
    have hrs : (readP s).isSome = true := by rw [hr]; rfl
    have hw1 : withP [] [s] = [s] := by rw [withP_cons, if_pos ⟨hrs, rfl⟩]; rfl
    rw [hr] at RK
    have OK := Lib.hid (fun vm v (h : Env v) (hm : Strs v vm [s]) => of_k vm [s] v h hm (by simp) (fun m hm => by rw [List.mem_singleton.1 hm]; omega))
    rw [hw1] at OK
    have LK := Lib.hid (fun v (h : Env v) => ltokens_k (wideL ts) v h (by omega))
    have MK := Lib.hid (fun vn vt v (h : Env v) (hn : Strs v vn [s]) (ht : Toks v vt (ltoks (wideL ts))) => match_k [s] (ltoks (wideL ts)) vn vt 0 v h hn ht p4 (by simp) (by omega))
    rw [p3] at MK
    have J1 := Lib.hid (fun vt v (ht : Toks v vt ts) => join_k ts vt v ht p5.kinds p5.bulk p5.len)
    rw [p2] at J1
    have J2 := Lib.hid (fun vt v (ht : Toks v vt (ltoks (wideL ts))) => join_k _ vt v ht p4.kinds p4.bulk p4.len)
    rw [p1] at J2
    dsimp only at MK
    have hlen := p5.len
    have hbk := p5.bulk
    have hbb := bytes_beq s s
    rw [decide_eq_true rfl] at hbb
    generalize ltoks (wideL ts) = zs at *
    clear hr hE hrs hw1 p1 p2 p3 p4 p5
    go_enter Tryd.func11, Tryd.ntmps11
    go_wp2_with fail
    refine (awake17 _ HE.out).mono ?_
    rintro e w1 ⟨rfl, hb⟩
    have E1 := Lib.hid (HE.out.keep (kept_below hb))
    go_wp2_with fail
    refine (RK.out _ E1.out).mono ?_
    rintro e w2 ⟨vt, rfl, hT, hb2⟩
    have HT := Lib.hid hT
    have B2 := Lib.hid (bl_trans hb hb2)
    have E2 := Lib.hid (E1.out.keep (kept_below hb2))
    obtain ⟨a, c, rfl, hc1, hc2, -⟩ := hT
    clear hb hb2
    go_wp2_with fail
    go_loopw [5, 6] (fun s i wr => ∃ j : Nat, j ≤ ts.length ∧ i = .int .i64 j ∧ s = .string (strOfL (wideL (ts.take j))) ∧ wr = w2) (fun _ i _ => ts.length - (intOf i).toNat)
    case atStart => exact ⟨0, Nat.zero_le _, rfl, rfl, rfl⟩
    case round =>
      obtain ⟨j, hj, rfl, rfl, rfl⟩ := hrel
      by_cases hlt : j < ts.length
      · have hbg := bulk_get ts j hlt
        have hwl := wideL_len (ts.take j)
        rw [List.length_take, Nat.min_eq_left hj] at hwl
        obtain ⟨-, -, -, bb, bo, rfl, hcs⟩ := HT.out.cells (by intro q; rw [q] at hlt; simp at hlt)
        have c1 := (hcs j hlt).2.1
        have k1 : (j : Int) < (ts.length : Int) := by omega
        have hst : wideL (ts.take (j + 1)) = wideL (ts.take j) ++ [32] ++ ts[j].text ++ [9] := by
          rw [List.take_succ_eq_append_getElem hlt, wideL_append, wideL_cons]
          simp [wideL]
        have A1 : ∀ v, (Op.stringOp .add (strOfL (wideL (ts.take j))) ⟨#[32]⟩).run Tryd.prog v = .ok (.string (strOfL (wideL (ts.take j) ++ [32]))) v := catL _ [32] (by simp only [List.length_cons, List.length_nil]; omega)
        have A2 := catL (P := Tryd.prog) (wideL (ts.take j) ++ [32]) ts[j].text (by simp only [List.length_append, List.length_cons, List.length_nil]; omega)
        have A3 : ∀ v, (Op.stringOp .add (strOfL (wideL (ts.take j) ++ [32] ++ ts[j].text)) ⟨#[9]⟩).run Tryd.prog v = .ok (.string (strOfL (wideL (ts.take j) ++ [32] ++ ts[j].text ++ [9]))) v := catL _ [9] (by simp only [List.length_append, List.length_cons, List.length_nil]; omega)
        rw [← hst] at A3
        obtain ⟨m2, hm2⟩ : ∃ m2, wideL (ts.take (j + 1)) = m2 := ⟨_, rfl⟩
        rw [hm2] at A3
        have HM2 := Lib.hid hm2
        clear hst hcs hbg hm2
        generalize wideL (ts.take j) ++ [32] ++ ts[j].text = m3 at *
        generalize wideL (ts.take j) ++ [32] = m4 at *
        generalize ts[j].text = tx at *
        go_wp2_with fail
        go_roundw
        case rel => exact ⟨j + 1, by omega, by go_num, by rw [HM2.out], by first | rfl | trivial⟩
        case measure => simp [intOf]; omega
      · have k1 : ¬ (j : Int) < (ts.length : Int) := by omega
        rw [List.take_of_length_le (by omega)]
        generalize wideL ts = wd at *
        have S0 : Strs (wr.alloc (.cells #[.string (strOfL s)] 9)) (.slice (some ⟨wr.heap.size, 0, none⟩) 1 1) [s] := by
          refine ⟨some ⟨wr.heap.size, 0, none⟩, 1, rfl, Nat.le_refl _, by omega, fun _ => ?_⟩
          refine ⟨wr.heap.size, 0, rfl, fun j hj => ?_⟩
          match j, hj with
          | 0, _ => simp [go_sem]
        have E3 := Lib.hid (E2.out.keep (kept_alloc (kept_refl _) (.cells #[.string (strOfL s)] 9)))
        have HS0 := Lib.hid S0
        clear S0
        go_wp2_with fail
        refine (OK.out _ _ E3.out HS0.out).mono ?_
        rintro e w3 ⟨v3, rfl, hS3, hb3⟩
        have E4 := Lib.hid (E3.out.keep (kept_below hb3))
        have HS3 := Lib.hid hS3
        have hbx : Below wr.heap.size wr w3 := by (repeat (first | with_reducible assumption | with_reducible exact bl_refl _ | with_reducible refine bl_alloc ?_ _ | with_reducible refine bl_set ?_ (by simp) _ | with_reducible refine bl_drew ?_ | with_reducible refine bl_drewN ?_ _ | with_reducible refine bl_trans ?_ (by assumption)))
        have HT3 := Lib.hid (HT.out.keep (kept_below hbx))
        have B3 := Lib.hid (bl_trans B2.out hbx)
        clear hS3 hb3 hbx
        go_wp2_with fail
        refine (LK.out _ E4.out).mono ?_
        rintro e w4 ⟨v4, rfl, hT4, hb4⟩
        have E5 := Lib.hid (E4.out.keep (kept_below hb4))
        have HS4 := Lib.hid (HS3.out.keep (kept_below hb4))
        have HT4 := Lib.hid (HT3.out.keep (kept_below hb4))
        have B4 := Lib.hid (bl_trans B3.out hb4)
        have HZ4 := Lib.hid hT4
        clear hT4 hb4
        go_wp2_with fail
        refine (MK.out _ _ _ E5.out HS4.out HZ4.out).mono ?_
        rintro e w5 ⟨rfl, hb5⟩
        have E6 := Lib.hid (E5.out.keep (kept_below hb5))
        have HT5 := Lib.hid (HT4.out.keep (kept_below hb5))
        have B5 := Lib.hid (bl_trans B4.out hb5)
        clear hb5
        go_wp2_with fail
        refine (J1.out _ _ HT5.out).mono ?_
        rintro e w6 ⟨rfl, hb6⟩
        have E7 := Lib.hid (E6.out.keep (kept_below hb6))
        have B6 := Lib.hid (bl_trans B5.out hb6)
        clear hb6
        go_wp2_with fail
        refine (LK.out _ E7.out).mono ?_
        rintro e w7 ⟨v7, rfl, hT7, hb7⟩
        have B7 := Lib.hid (bl_trans B6.out hb7)
        have HZ7 := Lib.hid hT7
        clear hT7 hb7
        go_wp2_with fail
        refine (J2.out _ _ HZ7.out).mono ?_
        rintro e w8 ⟨rfl, hb8⟩
        have B8 := Lib.hid (bl_trans B7.out hb8)
        clear hb8
        go_wp2_with fail
        go_ret
        exact ⟨rfl, B8.out⟩

end Go.Proofs.YtnamnldijopkfaaDoor
