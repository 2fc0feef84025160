/-
  The law's own helpers of chapter 17: join, among, same.
-/
import Derived.Test.YtnamnldijopkfaaDoorTuh
import Derived.Deep.QuietTactic
import Derived.BigQuiet
namespace Go.Proofs.YtnamnldijopkfaaDoor
open Go.ChangeShapes Go.WideShapes Go.ChangeAt Go.RowKit Go.Joins

theorem wordT_cases (t : Tok) : (t.kind = 1 ∧ wordT t = true) ∨ (t.kind = 2 ∧ wordT t = true) ∨ (t.kind ≠ 1 ∧ t.kind ≠ 2 ∧ wordT t = false) := by
  by_cases h1 : t.kind = 1
  · exact .inl ⟨h1, by unfold wordT; rw [h1]; rfl⟩
  · by_cases h2 : t.kind = 2
    · exact .inr (.inl ⟨h2, by unfold wordT; rw [h2]; rfl⟩)
    · refine .inr (.inr ⟨h1, h2, ?_⟩)
      unfold wordT
      have e1 : (t.kind == 1) = false := by rw [beq_eq_false_iff_ne]; exact h1
      have e2 : (t.kind == 2) = false := by rw [beq_eq_false_iff_ne]; exact h2
      rw [e1, e2]; rfl

set_option maxHeartbeats 4000000 in
set_option maxRecDepth 100000 in
theorem ljoin_k (ts : List Tok) (v : Value) (w : World) (h : Toks w v ts) (hl : bulkT ts ≤ 35184372088832) (hn : ts.length ≤ 1073741824) :
    Calls Tryd.prog 47 #[v] w fun e w' => e = .returned (.string (strOfL (joinT ts))) ∧ w = w' := by
  have HT := Lib.hid h
  obtain ⟨a, c, rfl, hc1, hc2, -⟩ := h
  go_enter Tryd.func47, Tryd.ntmps47
  go_wp2_with fail
  go_loopw [3, 4] (fun s i wr => ∃ j : Nat, j ≤ ts.length ∧ i = .int .i64 j ∧ s = .string (strOfL (joinT (ts.take j))) ∧ wr = w) (fun _ i _ => ts.length - (intOf i).toNat)
  case atStart => exact ⟨0, Nat.zero_le _, rfl, rfl, rfl⟩
  case round =>
    obtain ⟨j, hj, rfl, rfl, rfl⟩ := hrel
    by_cases hlt : j < ts.length
    · have hjl := joinT_le (ts.take j)
      have hbg := bulk_get ts j hlt
      obtain ⟨-, -, -, bb, bo, rfl, hcs⟩ := HT.out.cells (by intro q; rw [q] at hlt; simp at hlt)
      have c0 := (hcs j hlt).1
      have c1 := (hcs j hlt).2.1
      have k1 : (j : Int) < (ts.length : Int) := by omega
      have hst := join_step ts j hlt
      have HSL := Lib.hid (sepT_succ ts)
      have HCQ := Lib.hid hcs
      have HST := Lib.hid hst
      have hwc := wordT_cases ts[j]
      clear hst hcs
      generalize hwd : ts[j] = t at *
      have HWD := Lib.hid hwd
      clear hwd
      obtain ⟨kd, tx, at1⟩ := t
      dsimp only at c0 c1 HST hbg hwc
      go_upto_region 5 with fail
      go_cut [46] (fun s wx => s = .bool (sepT ts j) ∧ wx = wr)
      case first =>
        by_cases h0 : j = 0
        · subst h0
          simp only [Nat.zero_mul, Nat.add_zero] at c0 c1
          rcases hwc with ⟨rfl, -⟩ | ⟨rfl, -⟩ | ⟨e1, e2, -⟩
          all_goals
            go_wp2_with fail
            go_meet
            exact ⟨rfl, rfl⟩
        · obtain ⟨q, hjq⟩ : ∃ q, j = q + 1 := ⟨j - 1, by omega⟩
          have hq : q < ts.length := by omega
          have hss : sepT ts j = (wordT ts[q] && wordT ts[j]) := by
            subst hjq
            exact HSL.out q hlt
          rw [HWD.out] at hss
          obtain ⟨d0, d1, d2⟩ := HCQ.out q hq
          have hpi : (j : Int) - 1 = (q : Int) := by omega
          have hp0 : (0 : Int) < (j : Int) := by omega
          have hq1 : (q : Int) < (ts.length : Int) := by omega
          have hwc2 := wordT_cases ts[q]
          clear hjq
          generalize ts[q] = t2 at *
          obtain ⟨kd2, tx2, at2⟩ := t2
          dsimp only at d0 hwc2
          generalize wordT ⟨kd2, tx2, at2⟩ = a1 at *
          generalize wordT ⟨kd, tx, at1⟩ = a2 at *
          generalize sepT ts j = sp at *
          have HSS := Lib.hid hss
          clear hss h0 d1 d2
          rcases hwc with ⟨rfl, rfl⟩ | ⟨rfl, rfl⟩ | ⟨e1, e2, rfl⟩
          all_goals
            rcases hwc2 with ⟨rfl, rfl⟩ | ⟨rfl, rfl⟩ | ⟨e3, e4, rfl⟩
          all_goals
            try (have g1 : ((kd : Int) == 1) = false := (by rw [beq_eq_false_iff_ne]; omega))
            try (have g2 : ((kd : Int) == 2) = false := (by rw [beq_eq_false_iff_ne]; omega))
            try (have g3 : ((kd2 : Int) == 1) = false := (by rw [beq_eq_false_iff_ne]; omega))
            try (have g4 : ((kd2 : Int) == 2) = false := (by rw [beq_eq_false_iff_ne]; omega))
            go_wp2_with fail
            go_meet
            exact ⟨by rw [HSS.out]; rfl, rfl⟩
      case rest =>
      obtain ⟨rfl, e9⟩ := hcut
      have e9 := e9.symm
      subst e9
      obtain ⟨sb, hsb⟩ : ∃ sb, sb = (if sepT ts j = true then [32] else ([] : List UInt8)) := ⟨_, rfl⟩
      have hsl : sb.length ≤ 1 := by rw [hsb]; split <;> simp
      have HSB := Lib.hid hsb
      have hst := HST.out
      rw [← hsb] at hst
      replace HST := Lib.hid hst
      have A1 : ∀ v, (Op.stringOp .add (strOfL (joinT (ts.take j))) ⟨#[32]⟩).run Tryd.prog v = .ok (.string (strOfL (joinT (ts.take j) ++ [32]))) v := catL _ [32] (by simp only [List.length_cons, List.length_nil]; omega)
      have A2 := catL (P := Tryd.prog) (joinT (ts.take j) ++ sb) tx (by rw [List.length_append]; omega)
      rw [← hst] at A2
      clear hst hsb HSL HCQ
      go_upto_if 46 with fail
      go_cut [3] (fun s wx => s = .string (strOfL (joinT (ts.take j) ++ sb)) ∧ wx = wr)
      case first =>
        generalize sepT ts j = sp at *
        cases sp with
        | false =>
          have hs := HSB.out
          rw [if_neg (by decide)] at hs
          subst hs
          clear A2
          go_wp2_with fail
          go_meet
          exact ⟨by rw [List.append_nil], rfl⟩
        | true =>
          have hs := HSB.out
          rw [if_pos rfl] at hs
          subst hs
          clear A2
          go_wp2_with fail
          go_meet
          exact ⟨rfl, rfl⟩
      case rest =>
      obtain ⟨rfl, e9⟩ := hcut
      have e9 := e9.symm
      subst e9
      obtain ⟨m2, hm2⟩ : ∃ m2, joinT (ts.take (j + 1)) = m2 := ⟨_, rfl⟩
      rw [hm2] at A2
      have HM2 := Lib.hid hm2
      clear A1 hm2 HST
      generalize joinT (ts.take j) ++ sb = m3 at *
      go_wp2_with fail
      go_roundw
      case rel => exact ⟨j + 1, by omega, by go_num, by rw [HM2.out], by first | rfl | trivial⟩
      case measure => simp [intOf]; omega
    · have k1 : ¬ (j : Int) < (ts.length : Int) := by omega
      rw [List.take_of_length_le (by omega)]
      go_wp2_with fail
      go_ret
      exact ⟨rfl, rfl⟩

theorem contains_false {ns : List (List UInt8)} {x : List UInt8} (h : ∀ j (hj : j < ns.length), ns[j] ≠ x) : ns.contains x = false := by
  cases hq : ns.contains x with
  | false => rfl
  | true =>
    obtain ⟨i, hi, he⟩ := List.getElem_of_mem (List.contains_iff_mem.1 hq)
    exact absurd he (h i hi)

set_option maxHeartbeats 2000000 in
set_option maxRecDepth 100000 in
theorem among_k (v : Value) (ns : List (List UInt8)) (x : List UInt8) (w : World) (hE : Env w) (h : Strs w v ns) (hx : x.length ≤ 2097153) (hn : ns.length ≤ 1073741824) :
    Calls Tryd.prog 48 #[v, .string (strOfL x)] w fun e w' => e = .returned (.bool (ns.contains x && (readP x).isSome)) ∧ Below w.heap.size w w' := by
  have RK := Lib.hid (read_k x w hE hx)
  have HS := Lib.hid h
  obtain ⟨a, c, rfl, hc1, hc2, -⟩ := h
  obtain ⟨ok, hok⟩ : ∃ ok, (readP x).isSome = ok := ⟨_, rfl⟩
  have RK2 : Calls Tryd.prog 36 #[.string (strOfL x)] w fun e w' => ∃ rv, e = .returned (.tuple #[rv, .bool ok]) ∧ Below w.heap.size w w' := by
    refine RK.out.mono ?_
    intro e w' hr
    cases hp : readP x with
    | none =>
      rw [hp] at hr hok
      obtain ⟨rfl, hb⟩ := hr
      subst hok
      exact ⟨_, rfl, hb⟩
    | some ts =>
      rw [hp] at hr hok
      obtain ⟨rv, rfl, -, hb⟩ := hr
      subst hok
      exact ⟨_, rfl, hb⟩
  rw [hok]
  have RK3 := Lib.hid RK2
  obtain ⟨R, hR⟩ : ∃ R, (ns.contains x && ok) = R := ⟨_, rfl⟩
  rw [hR]
  have HR := Lib.hid hR
  clear hE hok RK RK2 hR
  go_enter Tryd.func48, Tryd.ntmps48
  go_wp2_with fail
  refine RK3.out.mono ?_
  rintro e w1 ⟨rv, rfl, hb⟩
  have HS1 := Lib.hid (HS.out.keep (kept_below hb))
  go_wp2_with fail
  go_loopw [7] (fun i wr => ∃ j : Nat, j ≤ ns.length ∧ i = .int .i64 j ∧ wr = w1 ∧ (∀ y (hy : y < ns.length), y < j → ns[y] ≠ x)) (fun i _ => ns.length - (intOf i).toNat)
  case atStart => exact ⟨0, Nat.zero_le _, rfl, rfl, fun y _ hy => absurd hy (Nat.not_lt_zero _)⟩
  case round =>
    obtain ⟨j, hj, rfl, rfl, hno⟩ := hrel
    have HNO := Lib.hid hno
    clear hno
    by_cases hlt : j < ns.length
    · obtain ⟨-, -, -, bb, bo, rfl, hcs⟩ := HS1.out.cells (by intro q; rw [q] at hlt; simp at hlt)
      have c0 := hcs j hlt
      have k1 : (j : Int) < (ns.length : Int) := by omega
      have hbb := bytes_beq ns[j] x
      by_cases he : ns[j] = x
      · have hk : R = ok := by
          rw [← HR.out, List.contains_iff_mem.2 (by rw [← he]; exact List.getElem_mem hlt), Bool.true_and]
        have HK := Lib.hid hk
        rw [decide_eq_true he] at hbb
        generalize ns[j] = y at *
        clear he hk hcs
        go_wp2_with fail
        go_ret
        exact ⟨by rw [HK.out]; rfl, hb⟩
      · rw [decide_eq_false he] at hbb
        have HE := Lib.hid he
        generalize hy : ns[j] = y at *
        have HY := Lib.hid hy
        clear he hy hcs
        go_wp2_with fail
        go_roundw
        case rel =>
          refine ⟨j + 1, by omega, by go_num, by first | rfl | trivial, fun z hz hzl => ?_⟩
          by_cases hzj : z = j
          · subst hzj; rw [HY.out]; exact HE.out
          · exact HNO.out z hz (by omega)
        case measure => simp [intOf]; omega
    · have hk : R = false := by
        rw [← HR.out, contains_false (fun y hy => HNO.out y hy (by omega)), Bool.false_and]
      have HK := Lib.hid hk
      have k1 : ¬ (j : Int) < (ns.length : Int) := by omega
      clear hk
      go_wp2_with fail
      go_ret
      exact ⟨by rw [HK.out]; rfl, hb⟩

set_option maxHeartbeats 2000000 in
set_option maxRecDepth 100000 in
theorem same_k (va vb : Value) (ns : List (List UInt8)) (w : World) (ha : Strs w va ns) (hb : Strs w vb ns) (hn : ns.length ≤ 1073741824) :
    Calls Tryd.prog 42 #[va, vb] w fun e w' => e = .returned (.bool true) ∧ Below w.heap.size w w' := by
  have HA := Lib.hid ha
  have HB := Lib.hid hb
  obtain ⟨aa, ac, rfl, -, -, -⟩ := ha
  obtain ⟨ba, bc, rfl, -, -, -⟩ := hb
  go_enter Tryd.func42, Tryd.ntmps42
  go_wp2_with fail
  go_loopw [5] (fun i wr => ∃ j : Nat, j ≤ ns.length ∧ i = .int .i64 j ∧ Below w.heap.size w wr) (fun i _ => ns.length - (intOf i).toNat)
  case atStart => exact ⟨0, Nat.zero_le _, rfl, bl_refl w⟩
  case round =>
    obtain ⟨j, hj, rfl, hbr⟩ := hrel
    by_cases hlt : j < ns.length
    · obtain ⟨-, -, -, b1, o1, rfl, hc1⟩ := (HA.out.keep (kept_below hbr)).cells (by intro q; rw [q] at hlt; simp at hlt)
      obtain ⟨-, -, -, b2, o2, rfl, hc2⟩ := (HB.out.keep (kept_below hbr)).cells (by intro q; rw [q] at hlt; simp at hlt)
      have c1 := hc1 j hlt
      have c2 := hc2 j hlt
      have k1 : (j : Int) < (ns.length : Int) := by omega
      clear hc1 hc2
      generalize ns[j] = x at *
      go_wp2_with fail
      go_quiet (fail)
      go_wp2_with fail
      go_roundw
      case rel => exact ⟨j + 1, by omega, by go_num, bl_trans hbr (bl_drewN (bl_refl wr) _)⟩
      case measure => simp [intOf]; omega
    · have k1 : ¬ (j : Int) < (ns.length : Int) := by omega
      go_wp2_with fail
      go_ret
      exact ⟨rfl, hbr⟩

end Go.Proofs.YtnamnldijopkfaaDoor
