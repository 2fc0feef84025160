/-
  The contracts of name.Local and name.Plain.
-/
import Derived.Test.YtnamnldijopkfaaDoorTuc
namespace Go.Proofs.YtnamnldijopkfaaDoor
open Go.ChangeShapes Go.WideShapes Go.ChangeAt Go.RowKit Go.Joins

theorem readP_ok {s : List UInt8} {ts : List Tok} (h : readP s = some ts) : (∀ t ∈ ts, t.kind ≤ 5) ∧ (∀ t ∈ ts, t.text.length ≤ 4 * s.length) ∧ ts.length ≤ s.length + 1 ∧ joinT ts = s ∧ (∀ t ∈ ts, pieceT t = true) ∧ 1 ≤ ts.length := by
  obtain ⟨all, h1, h2, h3, ⟨t0, us, h4, _⟩, h5, h6⟩ := readP_some h
  have F := (toks_fine h1).1
  have G := toks_fine2 h1
  have hsub : ∀ t ∈ ts, t ∈ all := fun t ht => (List.dropLast_sublist all).subset (by rw [← h2]; exact ht)
  refine ⟨fun t ht => F.kinds t (hsub t ht), fun t ht => G.small t (hsub t ht), ?_, h6, h5, by rw [h4]; simp⟩
  have := F.len
  rw [h2, List.length_dropLast]
  omega

def lcT (t : Tok) : Bool := !(t.kind == 1 && kwB t.text)
def plT (t : Tok) : Bool := wordT t && !kwB t.text
def localP (s : List UInt8) : Bool := match readP s with | none => false | some ts => ts.all lcT
def plainP (s : List UInt8) : Bool := match readP s with | none => false | some ts => ts.all plT

set_option maxHeartbeats 4000000 in
set_option maxRecDepth 100000 in
theorem local_k (s : List UInt8) (w : World) (hE : Env w) (hl : s.length ≤ 2097153) :
    Calls Tryd.prog 55 #[.string (strOfL s)] w fun e w' => e = .returned (.bool (localP s)) ∧ Below w.heap.size w w' := by
  have RK := read_k s w hE hl
  unfold localP
  cases hr : readP s with
  | none =>
    rw [hr] at RK
    replace RK := Lib.hid RK
    clear hr hE
    go_enter Tryd.func55, Tryd.ntmps55
    go_wp2_with fail
    refine RK.out.mono ?_
    rintro e w1 ⟨rfl, hb⟩
    go_wp2_with fail
    go_ret
    exact ⟨rfl, hb⟩
  | some ts =>
    obtain ⟨hk, -, hlen, -, -, -⟩ := readP_ok hr
    rw [hr] at RK
    replace RK := Lib.hid RK
    have HK := Lib.hid hk
    clear hr hE hk
    dsimp only
    obtain ⟨R, hR⟩ : ∃ R, ts.all lcT = R := ⟨_, rfl⟩
    rw [hR]
    have HR := Lib.hid hR
    clear hR
    go_enter Tryd.func55, Tryd.ntmps55
    go_wp2_with fail
    refine RK.out.mono ?_
    rintro e w1 ⟨v, rfl, hT, hb⟩
    have HT := Lib.hid hT
    obtain ⟨a, c, rfl, hc1, hc2, -⟩ := hT
    go_wp2_with fail
    go_loopw [16] (fun i wr => ∃ j : Nat, j ≤ ts.length ∧ i = .int .i64 j ∧ Below w1.heap.size w1 wr ∧ (∀ y (hy : y < ts.length), y < j → lcT ts[y] = true)) (fun i _ => ts.length - (intOf i).toNat)
    case atStart => exact ⟨0, Nat.zero_le _, rfl, bl_refl w1, fun y _ hy => absurd hy (Nat.not_lt_zero _)⟩
    case round =>
      obtain ⟨j, hj, rfl, hbr, hall⟩ := hrel
      have HALL := Lib.hid hall
      clear hall
      by_cases hlt : j < ts.length
      · obtain ⟨-, -, -, bb, bo, rfl, hcs⟩ := (HT.out.keep (kept_below hbr)).cells (by intro q; rw [q] at hlt; simp at hlt)
        have c0 := (hcs j hlt).1
        have c1 := (hcs j hlt).2.1
        have c2 := (hcs j hlt).2.2
        have cl := lt_of_cell c0
        have hkj := HK.out ts[j] (List.getElem_mem _)
        have k1 : (j : Int) < (ts.length : Int) := by omega
        have HF := Lib.hid (fun (h : lcT ts[j] = false) => (show R = false from by
          rw [← HR.out]
          cases hq : ts.all lcT with
          | false => rfl
          | true =>
            have := List.all_eq_true.1 hq ts[j] (List.getElem_mem _)
            rw [h] at this
            cases this))
        have HG := Lib.hid (fun (h : lcT ts[j] = true) (y : Nat) (hy : y < ts.length) (hyj : y < j + 1) => (show lcT ts[y] = true from by
          by_cases he : y = j
          · subst he; exact h
          · exact HALL.out y hy (by omega)))
        have KK := Lib.hid (fun v => keyword_k ts[j].text v)
        have hpj : lcT ts[j] = (!(ts[j].kind == 1 && kwB ts[j].text)) := rfl
        generalize lcT ts[j] = pj at *
        generalize ts[j] = t at *
        obtain ⟨kd, tx, at1⟩ := t
        dsimp only at c0 c1 c2 hkj KK hpj
        generalize kwB tx = kb at *
        have HPJ := Lib.hid hpj
        clear hpj hcs
        by_cases h1 : kd = 1
        · subst h1
          go_wp2_with fail
          refine (KK.out _).mono ?_
          rintro e w2 ⟨rfl, e9⟩
          subst e9
          cases kb with
          | true =>
            have hf := HF.out (by rw [HPJ.out]; rfl)
            have HKR := Lib.hid hf
            clear hf
            go_wp2_with fail
            go_ret
            exact ⟨by rw [HKR.out]; rfl, bl_trans hb (bl_trans hbr (by (repeat (first | with_reducible assumption | with_reducible exact bl_refl _ | with_reducible refine bl_alloc ?_ _ | with_reducible refine bl_set ?_ (by first | (simp; done) | (simp; omega)) _ | with_reducible refine bl_drew ?_ | with_reducible refine bl_drewN ?_ _ | with_reducible refine bl_trans ?_ (by assumption)))))⟩
          | false =>
            have hg := HG.out (by rw [HPJ.out]; rfl)
            have HGG := Lib.hid hg
            clear hg
            go_wp2_with fail
            go_roundw
            case rel => exact ⟨j + 1, by omega, by go_num, bl_trans hbr (by (repeat (first | with_reducible assumption | with_reducible exact bl_refl _ | with_reducible refine bl_alloc ?_ _ | with_reducible refine bl_set ?_ (by first | (simp; done) | (simp; omega)) _ | with_reducible refine bl_drew ?_ | with_reducible refine bl_drewN ?_ _ | with_reducible refine bl_trans ?_ (by assumption)))), HGG.out⟩
            case measure => simp [intOf]; omega
        · have h1b : ((kd : Int) == 1) = false := by rw [beq_eq_false_iff_ne]; omega
          have hg := HG.out (by
            rw [HPJ.out]
            have : (kd == 1) = false := by rw [beq_eq_false_iff_ne]; exact h1
            rw [this]; rfl)
          have HGG := Lib.hid hg
          clear hg
          go_wp2_with fail
          go_roundw
          case rel => exact ⟨j + 1, by omega, by go_num, bl_trans hbr (by (repeat (first | with_reducible assumption | with_reducible exact bl_refl _ | with_reducible refine bl_alloc ?_ _ | with_reducible refine bl_set ?_ (by first | (simp; done) | (simp; omega)) _ | with_reducible refine bl_drew ?_ | with_reducible refine bl_drewN ?_ _ | with_reducible refine bl_trans ?_ (by assumption)))), HGG.out⟩
          case measure => simp [intOf]; omega
      · have hk : R = true := by
          rw [← HR.out]
          refine List.all_eq_true.2 (fun t ht => ?_)
          obtain ⟨i, hi, rfl⟩ := List.getElem_of_mem ht
          exact HALL.out i hi (by omega)
        have HKR := Lib.hid hk
        have k1 : ¬ (j : Int) < (ts.length : Int) := by omega
        clear hk
        go_wp2_with fail
        go_ret
        exact ⟨by rw [HKR.out]; rfl, bl_trans hb hbr⟩

set_option maxHeartbeats 4000000 in
set_option maxRecDepth 100000 in
theorem plain_k (s : List UInt8) (w : World) (hE : Env w) (hl : s.length ≤ 2097153) :
    Calls Tryd.prog 54 #[.string (strOfL s)] w fun e w' => e = .returned (.bool (plainP s)) ∧ Below w.heap.size w w' := by
  have RK := read_k s w hE hl
  unfold plainP
  cases hr : readP s with
  | none =>
    rw [hr] at RK
    replace RK := Lib.hid RK
    clear hr hE
    go_enter Tryd.func54, Tryd.ntmps54
    go_wp2_with fail
    refine RK.out.mono ?_
    rintro e w1 ⟨rfl, hb⟩
    go_wp2_with fail
    go_ret
    exact ⟨rfl, hb⟩
  | some ts =>
    obtain ⟨hk, -, hlen, -, -, -⟩ := readP_ok hr
    rw [hr] at RK
    replace RK := Lib.hid RK
    have HK := Lib.hid hk
    clear hr hE hk
    dsimp only
    obtain ⟨R, hR⟩ : ∃ R, ts.all plT = R := ⟨_, rfl⟩
    rw [hR]
    have HR := Lib.hid hR
    clear hR
    go_enter Tryd.func54, Tryd.ntmps54
    go_wp2_with fail
    refine RK.out.mono ?_
    rintro e w1 ⟨v, rfl, hT, hb⟩
    have HT := Lib.hid hT
    obtain ⟨a, c, rfl, hc1, hc2, -⟩ := hT
    go_wp2_with fail
    go_loopw [16] (fun i wr => ∃ j : Nat, j ≤ ts.length ∧ i = .int .i64 j ∧ Below w1.heap.size w1 wr ∧ (∀ y (hy : y < ts.length), y < j → plT ts[y] = true)) (fun i _ => ts.length - (intOf i).toNat)
    case atStart => exact ⟨0, Nat.zero_le _, rfl, bl_refl w1, fun y _ hy => absurd hy (Nat.not_lt_zero _)⟩
    case round =>
      obtain ⟨j, hj, rfl, hbr, hall⟩ := hrel
      have HALL := Lib.hid hall
      clear hall
      by_cases hlt : j < ts.length
      · obtain ⟨-, -, -, bb, bo, rfl, hcs⟩ := (HT.out.keep (kept_below hbr)).cells (by intro q; rw [q] at hlt; simp at hlt)
        have c0 := (hcs j hlt).1
        have c1 := (hcs j hlt).2.1
        have c2 := (hcs j hlt).2.2
        have cl := lt_of_cell c0
        have hkj := HK.out ts[j] (List.getElem_mem _)
        have k1 : (j : Int) < (ts.length : Int) := by omega
        have HF := Lib.hid (fun (h : plT ts[j] = false) => (show R = false from by
          rw [← HR.out]
          cases hq : ts.all plT with
          | false => rfl
          | true =>
            have := List.all_eq_true.1 hq ts[j] (List.getElem_mem _)
            rw [h] at this
            cases this))
        have HG := Lib.hid (fun (h : plT ts[j] = true) (y : Nat) (hy : y < ts.length) (hyj : y < j + 1) => (show plT ts[y] = true from by
          by_cases he : y = j
          · subst he; exact h
          · exact HALL.out y hy (by omega)))
        have KK := Lib.hid (fun v => keyword_k ts[j].text v)
        have T0 := Lib.hid (TokAt.new wr ts[j])
        have WK := Lib.hid (fun v => wordT_k ts[j] v hkj)
        have hpj : plT ts[j] = (wordT ts[j] && !kwB ts[j].text) := rfl
        generalize plT ts[j] = pj at *
        generalize ts[j] = t at *
        generalize wordT t = wb at *
        obtain ⟨kd, tx, at1⟩ := t
        dsimp only at c0 c1 c2 hkj KK hpj T0 WK
        generalize kwB tx = kb at *
        have HPJ := Lib.hid hpj
        clear hpj hcs
        go_wp2_with fail
        refine (WK.out _).mono ?_
        rintro e w2 ⟨rfl, hb2⟩
        have hx2 : Below wr.heap.size wr w2 := bl_trans (by (repeat (first | with_reducible assumption | with_reducible exact bl_refl _ | with_reducible refine bl_alloc ?_ _ | with_reducible refine bl_set ?_ (by first | (simp; done) | (simp; omega)) _ | with_reducible refine bl_drew ?_ | with_reducible refine bl_drewN ?_ _ | with_reducible refine bl_trans ?_ (by assumption)))) hb2
        obtain ⟨e0, e1, e2⟩ := (T0.out.keep hb2).cells
        dsimp only at e0 e1 e2
        clear hb2
        cases wb with
        | false =>
          have hf := HF.out (by rw [HPJ.out]; rfl)
          have HKR := Lib.hid hf
          clear hf
          go_wp2_with fail
          go_ret
          exact ⟨by rw [HKR.out]; rfl, bl_trans hb (bl_trans hbr hx2)⟩
        | true =>
          go_wp2_with fail
          refine (KK.out _).mono ?_
          rintro e w3 ⟨rfl, e9⟩
          subst e9
          cases kb with
          | true =>
            have hf := HF.out (by rw [HPJ.out]; rfl)
            have HKR := Lib.hid hf
            clear hf
            go_wp2_with fail
            go_ret
            exact ⟨by rw [HKR.out]; rfl, bl_trans hb (bl_trans hbr hx2)⟩
          | false =>
            have hg := HG.out (by rw [HPJ.out]; rfl)
            have HGG := Lib.hid hg
            clear hg
            go_wp2_with fail
            go_roundw
            case rel => exact ⟨j + 1, by omega, by go_num, bl_trans hbr hx2, HGG.out⟩
            case measure => simp [intOf]; omega
      · have hk : R = true := by
          rw [← HR.out]
          refine List.all_eq_true.2 (fun t ht => ?_)
          obtain ⟨i, hi, rfl⟩ := List.getElem_of_mem ht
          exact HALL.out i hi (by omega)
        have HKR := Lib.hid hk
        have k1 : ¬ (j : Int) < (ts.length : Int) := by omega
        clear hk
        go_wp2_with fail
        go_ret
        exact ⟨by rw [HKR.out]; rfl, bl_trans hb hbr⟩

end Go.Proofs.YtnamnldijopkfaaDoor
