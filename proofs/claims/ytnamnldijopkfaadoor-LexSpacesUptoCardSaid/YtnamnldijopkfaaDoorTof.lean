/-
  LexSpaces' walk.
-/
import Derived.Test.YtnamnldijopkfaaDoorToc
import Derived.Test.YtnamnldijopkfaaDoorTcb
import Derived.Deep.QuietTactic
import Derived.BigQuiet
namespace Go.Proofs.YtnamnldijopkfaaDoor
open Go.ChangeShapes Go.WideShapes Go.ChangeAt Go.RowKit Go.Joins

theorem gapL_len (n : Nat) : (gapL n).length = 15 + n := by simp [gapL]; omega
theorem gapL_succ (n : Nat) : gapL n ++ [32] = gapL (n + 1) := by
  unfold gapL
  rw [List.append_assoc, ← List.replicate_succ']

/-- where a token of two sources comes from -/
theorem pick_law {x y z : List Tok} (hx : 1 ≤ x.length) (h : z.map kt = (x.take (x.length - 1) ++ y).map kt) (k : Nat) (hk : k < z.length) :
    (k + 1 < x.length → ∃ hj : k < x.length, z[k].kind = x[k].kind ∧ z[k].text = x[k].text) ∧
    (¬ k + 1 < x.length → ∃ hj : k + 1 - x.length < y.length, z[k].kind = y[k + 1 - x.length].kind ∧ z[k].text = y[k + 1 - x.length].text) := by
  have hl := congrArg List.length h
  simp only [List.length_map, List.length_append, List.length_take] at hl
  have hg : (z.map kt)[k]? = some (kt z[k]) := by simp [hk]
  rw [h] at hg
  constructor
  · intro hc
    have hj : k < x.length := by omega
    refine ⟨hj, ?_⟩
    rw [List.map_append, List.getElem?_append_left (by simp; omega)] at hg
    have e : ((x.take (x.length - 1)).map kt)[k]? = some (kt x[k]) := by
      rw [List.map_take, List.getElem?_take, if_pos (by omega)]
      simp [hj]
    rw [e] at hg
    have := Option.some.inj hg
    exact ⟨(congrArg Prod.fst this).symm, (congrArg Prod.snd this).symm⟩
  · intro hc
    have hj : k + 1 - x.length < y.length := by omega
    refine ⟨hj, ?_⟩
    rw [List.map_append, List.getElem?_append_right (by simp; omega)] at hg
    have e : k - ((x.take (x.length - 1)).map kt).length = k + 1 - x.length := by simp; omega
    rw [e] at hg
    have e2 : (y.map kt)[k + 1 - x.length]? = some (kt y[k + 1 - x.length]) := by simp [hj]
    rw [e2] at hg
    have := Option.some.inj hg
    exact ⟨(congrArg Prod.fst this).symm, (congrArg Prod.snd this).symm⟩

set_option maxHeartbeats 4000000 in
set_option maxRecDepth 100000 in
theorem spaces_walk (a b : List UInt8) (n : Int) (w : World) (hE : Env w) (hn : 0 ≤ n ∧ n ≤ 255) (hl : a.length + b.length ≤ 1048576) :
    Calls Tryd.prog 8 #[.string (strOfL a), .string (strOfL b), .int .u8 n] w fun e w' => e = .returned (.bool true) ∧ Below w.heap.size w w' := by
  have HE := Lib.hid hE
  have TA := Lib.hid (fun v (h : Env v) => tokens_k a v h (by omega))
  have TB := Lib.hid (fun v (h : Env v) => tokens_k b v h (by omega))
  obtain ⟨m, hm⟩ : ∃ m : Nat, (m : Int) = n % 4 := ⟨(n % 4).toNat, Int.toNat_of_nonneg (Int.emod_nonneg _ (by omega))⟩
  have hm3 : m ≤ 3 := by omega
  have hrem : n.tmod 4 = (m : Int) := by rw [Int.tmod_eq_emod_of_nonneg hn.1, hm]
  have SL := Lib.hid (spaces_law a b m)
  have hgl := gapL_len m
  have TZ := Lib.hid (fun v (h : Env v) => tokens_k (gapL m ++ a ++ [10] ++ gapL m ++ b ++ gapL m) v h (by simp only [List.length_append, List.length_cons, List.length_nil]; omega))
  have A1 := catL (P := Tryd.prog) (gapL m) a (by omega)
  have A2 : ∀ v, (Op.stringOp .add (strOfL (gapL m ++ a)) ⟨#[10]⟩).run Tryd.prog v = .ok (.string (strOfL (gapL m ++ a ++ [10]))) v := catL _ [10] (by simp only [List.length_append, List.length_cons, List.length_nil]; omega)
  have A3 := catL (P := Tryd.prog) (gapL m ++ a ++ [10]) (gapL m) (by simp only [List.length_append, List.length_cons, List.length_nil]; omega)
  have A4 := catL (P := Tryd.prog) (gapL m ++ a ++ [10] ++ gapL m) b (by simp only [List.length_append, List.length_cons, List.length_nil]; omega)
  have A5 := catL (P := Tryd.prog) (gapL m ++ a ++ [10] ++ gapL m ++ b) (gapL m) (by simp only [List.length_append, List.length_cons, List.length_nil]; omega)
  generalize gapL m ++ a ++ [10] ++ gapL m ++ b ++ gapL m = all at *
  generalize gapL m ++ a ++ [10] ++ gapL m ++ b = g5 at *
  generalize gapL m ++ a ++ [10] ++ gapL m = g4 at *
  generalize gapL m ++ a ++ [10] = g3 at *
  generalize gapL m ++ a = g2 at *
  replace A1 := Lib.hid A1
  replace A2 := Lib.hid A2
  replace A3 := Lib.hid A3
  replace A4 := Lib.hid A4
  replace A5 := Lib.hid A5
  have HGL := Lib.hid hgl
  have HM := Lib.hid hm
  clear hE hgl hm
  go_enter Tryd.func8, Tryd.ntmps8
  go_wp2_with fail
  refine (awake16 _ HE.out).mono ?_
  rintro e w1 ⟨rfl, hb⟩
  have E1 := Lib.hid (HE.out.keep (kept_below hb))
  cases hx : toksL a with
  | none =>
    rw [hx] at TA
    clear hx
    go_wp2_with fail
    refine (TA.out _ E1.out).mono ?_
    rintro e w2 ⟨rfl, hb2⟩
    have hb := bl_trans hb hb2
    have E2 := Lib.hid (HE.out.keep (kept_below hb))
    clear hb2
    go_wp2_with fail
    refine (TB.out _ E2.out).mono ?_
    intro e w3 h3
    cases hy : toksL b with
    | none =>
      rw [hy] at h3
      obtain ⟨rfl, hb3⟩ := h3
      have hb := bl_trans hb hb3
      clear hy
      go_wp2_with fail
      go_ret
      exact ⟨rfl, hb⟩
    | some y =>
      rw [hy] at h3
      obtain ⟨v, rfl, -, hb3⟩ := h3
      have hb := bl_trans hb hb3
      clear hy
      go_wp2_with fail
      go_ret
      exact ⟨rfl, hb⟩
  | some x =>
    rw [hx] at TA
    go_wp2_with fail
    refine (TA.out _ E1.out).mono ?_
    rintro e w2 ⟨vx, rfl, hX, hb2⟩
    have hb := bl_trans hb hb2
    have E2 := Lib.hid (HE.out.keep (kept_below hb))
    clear hb2
    go_wp2_with fail
    refine (TB.out _ E2.out).mono ?_
    intro e w3 h3
    cases hy : toksL b with
    | none =>
      rw [hy] at h3
      obtain ⟨rfl, hb3⟩ := h3
      have hb := bl_trans hb hb3
      clear hy
      go_wp2_with fail
      go_ret
      exact ⟨rfl, hb⟩
    | some y =>
      rw [hy] at h3
      obtain ⟨vy, rfl, hY, hb3⟩ := h3
      have hX := hX.keep (kept_below hb3)
      have hb := bl_trans hb hb3
      have E3 := Lib.hid (HE.out.keep (kept_below hb))
      obtain ⟨z, hz, hzl, hx1, hy1, hzm⟩ := SL.out x y hx hy
      rw [hz] at TZ
      have hxL := (toks_fine hx).1.len
      have hyL := (toks_fine hy).1.len
      have hxI : (x.length : Int) ≤ 1048577 := by omega
      have hyI : (y.length : Int) ≤ 1048577 := by omega
      have hxJ : (0 : Int) ≤ (x.length : Int) := by omega
      have hyJ : (0 : Int) ≤ (y.length : Int) := by omega
      have HX := Lib.hid hX
      have HY := Lib.hid hY
      clear hxL hyL
      have HP := Lib.hid (pick_law hx1 hzm)
      obtain ⟨xa, xc, rfl, hxc, hxm, -⟩ := hX
      obtain ⟨ya, yc, rfl, hyc, hym, -⟩ := hY
      clear hx hy hz hzm hb3 SL TA TB
      go_wp2_with fail
      go_loopw [11, 12] (fun s i wr => ∃ j : Nat, j ≤ m ∧ i = .int .i64 j ∧ s = .string (strOfL (gapL j)) ∧ wr = w3) (fun _ i _ => m - (intOf i).toNat)
      case atStart => exact ⟨0, Nat.zero_le _, rfl, rfl, rfl⟩
      case round =>
        obtain ⟨j, hj, rfl, rfl, rfl⟩ := hrel
        by_cases hlt : j < m
        · have k1 : (j : Int) < (m : Int) := by omega
          have k2 : (j : Int) < n % 4 := by have := HM.out; omega
          have A0 : ∀ v, (Op.stringOp .add (strOfL (gapL j)) ⟨#[32]⟩).run Tryd.prog v = .ok (.string (strOfL (gapL (j + 1)))) v := by
            rw [← gapL_succ]
            exact catL _ [32] (by rw [gapL_len]; simp only [List.length_cons, List.length_nil]; omega)
          go_wp2_with fail
          go_roundw
          case rel => exact ⟨j + 1, by omega, by go_num, rfl, by first | rfl | trivial⟩
          case measure => simp [intOf]; omega
        · obtain rfl : j = m := by omega
          have k1 : ¬ (j : Int) < (j : Int) := by omega
          have k2 : ¬ (j : Int) < n % 4 := by have := HM.out; omega
          have A1 := A1.out
          have A2 := A2.out
          have A3 := A3.out
          have A4 := A4.out
          have A5 := A5.out
          go_wp2_with fail
          refine (TZ.out _ E3.out).mono ?_
          rintro e w4 ⟨vz, rfl, hZ, hb4⟩
          clear A1 A2 A3 A4 A5
          have HX4 := Lib.hid (HX.out.keep (kept_below hb4))
          have HY4 := Lib.hid (HY.out.keep (kept_below hb4))
          have HZ4 := Lib.hid hZ
          have hb := bl_trans hb hb4
          obtain ⟨za, zc, rfl, hzc, hzm, -⟩ := hZ
          have e1 : ((z.length : Int) == (x.length : Int) + (y.length : Int) - 1) = true := by rw [beq_iff_eq]; omega
          have e2 : ((z.length : Int) != (x.length : Int) + (y.length : Int) - 1) = false := by simp only [bne, e1]; rfl
          have e3 : (z.length : Int) = (x.length : Int) + (y.length : Int) - 1 := by omega
          have HZL := Lib.hid hzl
          clear hzl HX HY hb4 hrem k1 k2
          go_wp2_with fail
          clear e1 e2
          go_loopw [15] (fun i wr2 => ∃ k : Nat, k + 1 ≤ z.length ∧ i = .int .i64 k ∧ Below w4.heap.size w4 wr2) (fun i _ => z.length - (intOf i).toNat)
          case atStart =>
            refine ⟨0, by have := HZL.out; omega, rfl, ?_⟩
            exact bl_refl _
          case round =>
            obtain ⟨k, hk, rfl, hbk⟩ := hrel
            by_cases hlt2 : k + 1 < z.length
            · have k1 : (k : Int) < (x.length : Int) + (y.length : Int) - 1 - 1 := by omega
              obtain ⟨-, -, -, zb, zo, hza, hzc⟩ := (HZ4.out.keep (kept_below hbk)).cells (by intro q; rw [q] at hlt2; simp at hlt2)
              subst hza
              have z0 := (hzc k (by omega)).1
              have z1 := (hzc k (by omega)).2.1
              have zl := lt_of_cell z0
              obtain ⟨P1, P2⟩ := HP.out k (by omega)
              have P1 := Lib.hid P1
              have P2 := Lib.hid P2
              have hbb : Below w.heap.size w wr := bl_trans hb hbk
              clear hzc
              by_cases hcx : k + 1 < x.length
              · obtain ⟨hjx, p1, p2⟩ := P1.out hcx
                obtain ⟨-, -, -, xb, xo, hxa, hxcs⟩ := (HX4.out.keep (kept_below hbk)).cells (by intro q; rw [q] at hcx; simp at hcx)
                subst hxa
                have x0 := (hxcs k hjx).1
                have x1 := (hxcs k hjx).2.1
                have x2 := (hxcs k hjx).2.2
                have xl := lt_of_cell x0
                rw [p1] at z0
                rw [p2] at z1
                have k2 : (k : Int) < (x.length : Int) - 1 := by omega
                have k3 : (k : Int) < (x.length : Int) := by omega
                have k4 : (k : Int) < (x.length : Int) + (y.length : Int) - 1 := by omega
                clear hxcs p1 p2 P1 P2
                go_wp2_with fail
                go_quiet (fail)
                go_wp2_with fail
                go_roundw
                case rel =>
                  refine ⟨k + 1, by omega, by go_num, ?_⟩
                  have hs4 := hbk.size
                  (repeat (first | with_reducible assumption | with_reducible exact bl_refl _ | with_reducible refine bl_alloc ?_ _ | with_reducible refine bl_set ?_ (by first | (simp; done) | (simp; omega)) _ | with_reducible refine bl_drew ?_ | with_reducible refine bl_drewN ?_ _ | with_reducible refine bl_trans ?_ (by assumption)))
                case measure => simp [intOf]; omega
              · obtain ⟨hjy, p1, p2⟩ := P2.out hcx
                obtain ⟨-, -, -, yb, yo, hya, hycs⟩ := (HY4.out.keep (kept_below hbk)).cells (by intro q; rw [q] at hjy; simp at hjy)
                subst hya
                obtain ⟨q, hq⟩ : ∃ q : Nat, q = k + 1 - x.length := ⟨_, rfl⟩
                have hqi : (k : Int) - (x.length : Int) + 1 = (q : Int) := by omega
                have x0 := (hycs _ hjy).1
                have x1 := (hycs _ hjy).2.1
                have x2 := (hycs _ hjy).2.2
                have xl := lt_of_cell x0
                rw [p1] at z0
                rw [p2] at z1
                generalize y[k + 1 - x.length] = yq at *
                rw [← hq] at x0 x1 x2 hjy
                have k2 : ¬ (k : Int) < (x.length : Int) - 1 := by omega
                have k3 : (q : Int) < (y.length : Int) := by omega
                have k4 : (k : Int) < (x.length : Int) + (y.length : Int) - 1 := by omega
                clear hycs p1 p2 P1 P2 hq
                go_wp2_with fail
                go_quiet (fail)
                go_wp2_with fail
                go_roundw
                case rel =>
                  refine ⟨k + 1, by omega, by go_num, ?_⟩
                  have hs4 := hbk.size
                  (repeat (first | with_reducible assumption | with_reducible exact bl_refl _ | with_reducible refine bl_alloc ?_ _ | with_reducible refine bl_set ?_ (by first | (simp; done) | (simp; omega)) _ | with_reducible refine bl_drew ?_ | with_reducible refine bl_drewN ?_ _ | with_reducible refine bl_trans ?_ (by assumption)))
                case measure => simp [intOf]; omega
            · have k1 : ¬ (k : Int) < (x.length : Int) + (y.length : Int) - 1 - 1 := by omega
              have hbb : Below w.heap.size w wr := bl_trans hb hbk
              go_wp2_with fail
              go_ret
              exact ⟨rfl, hbb⟩

end Go.Proofs.YtnamnldijopkfaaDoor
