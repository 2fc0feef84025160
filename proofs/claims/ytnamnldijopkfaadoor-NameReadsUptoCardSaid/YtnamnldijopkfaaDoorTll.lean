/-
  A number's form: Shape.
-/
import Derived.Test.YtnamnldijopkfaaDoorTlk
namespace Go.Proofs.YtnamnldijopkfaaDoor
open Go.ChangeShapes Go.WideShapes Go.ChangeAt Go.RowKit Go.Joins

/-- an exponent without its sign -/
def exOf (e : List UInt8) : List UInt8 := if e ≠ [] ∧ (e.getD 0 0 = 45 ∨ e.getD 0 0 = 43) then e.drop 1 else e
theorem shapeB_eq (t : List UInt8) : shapeB t = if (Lib.cut t [69]).2.2 = true then shapeE (exOf (Lib.cut t [69]).2.1) && shapeM (Lib.cut t [69]).1 else shapeM (Lib.cut t [69]).1 := rfl
theorem cut_len (t sep : List UInt8) : (Lib.cut t sep).1.length ≤ t.length ∧ (Lib.cut t sep).2.1.length ≤ t.length := by
  unfold Lib.cut
  split
  · dsimp only
    rw [List.length_take, List.length_drop]
    omega
  · simp

theorem cut_k (l : List UInt8) (c : UInt8) (w : World) (hE : Env w) (hl : l.length ≤ 1073741824) : Calls Tryd.prog 68 #[.string (strOfL l), .string ⟨#[c]⟩] w fun e w' => e = .returned (.tuple #[.string (strOfL (Lib.cut l [c]).1), .string (strOfL (Lib.cut l [c]).2.1), .bool (Lib.cut l [c]).2.2]) ∧ Below w.heap.size w w' := by
  obtain ⟨-, m, hm⟩ := hE
  refine (Tryd.strings_Cut (strOfL l) ⟨#[c]⟩ m w (by rw [strOfL_size]; omega) hm).mono ?_
  rintro e w' ⟨rfl, n, rfl⟩
  rw [strOfL_list]
  exact ⟨rfl, bl_drewN (bl_refl w) n⟩

theorem str_ne (l : List UInt8) (b : UInt8) (t : List UInt8) (h : l = b :: t) : (strOfL l).toList.isEmpty = false := by rw [isEmpty_str, h]; rfl

set_option maxHeartbeats 4000000 in
set_option maxRecDepth 100000 in
theorem shape_k (l : List UInt8) (w : World) (hE : Env w) (hl : l.length ≤ 1073741824) : Calls Tryd.prog 33 #[.string (strOfL l)] w fun e w' => e = .returned (.bool (shapeB l)) ∧ Below w.heap.size w w' := by
  have CE := Lib.hid (cut_k l 69 w hE hl)
  have HE := Lib.hid hE
  have HSB := Lib.hid (shapeB_eq l)
  have hcl := cut_len l [69]
  generalize shapeB l = sb at *
  generalize Lib.cut l [69] = c at *
  obtain ⟨s1, e1, b1⟩ := c
  dsimp only at *
  clear hE
  go_enter Tryd.func33, Tryd.ntmps33
  go_wp2_with fail
  refine CE.out.mono ?_
  rintro e w1 ⟨rfl, hb⟩
  have hE1 := Lib.hid (HE.out.keep (kept_below hb))
  go_upto_if 14 with fail
  go_cut [3] (fun s wx => Below w.heap.size w wx ∧ (b1 = true → shapeE (exOf e1) = true))
  case first =>
    cases b1 with
    | false =>
      go_wp2_with fail
      go_meet
      exact ⟨hb, fun h => by cases h⟩
    | true =>
      have HX := Lib.hid (show exOf e1 = exOf e1 from rfl)
      generalize hx : exOf e1 = ex at *
      replace HX := Lib.hid hx
      clear hx
      have hexl : ex.length ≤ e1.length := by
        rw [← HX.out]
        unfold exOf
        split
        · rw [List.length_drop]; omega
        · exact Nat.le_refl _
      go_upto_region 3 with fail
      have HLE := Lib.hid hexl
      have HCL := Lib.hid hcl
      clear hcl hexl
      go_cut [26] (fun s wx => s = .bool (decide (e1 ≠ [] ∧ (e1.getD 0 0 = 45 ∨ e1.getD 0 0 = 43))) ∧ wx = w1)
      case first =>
        cases e1 with
        | nil =>
          have hemp := isEmpty_str []
          go_wp2_with fail
          go_meet
          exact ⟨by simp, rfl⟩
        | cons b t =>
          have hemp := str_ne (b :: t) b t rfl
          have hsz := strOfL_size (b :: t)
          have hib := byte_at (b :: t) 0
          have hpos : 0 < (strOfL (b :: t)).size := by rw [hsz]; simp
          have hposi : (0 : Int) < ((strOfL (b :: t)).size : Int) := by omega
          rw [List.drop_zero, List.getD_cons_zero] at hib
          generalize strOfL (b :: t) = sv at *
          clear hsz
          by_cases h45 : b = 45
          · subst h45
            go_wp2_with fail
            go_meet
            exact ⟨by simp, rfl⟩
          · by_cases h43 : b = 43
            · subst h43
              go_wp2_with fail
              go_meet
              exact ⟨by simp, rfl⟩
            · have n45 : ¬ (b.toNat : Int) = 45 := fun q => h45 (UInt8.toNat_inj.1 (show b.toNat = (45 : UInt8).toNat by have : (45 : UInt8).toNat = 45 := rfl; omega))
              have n43 : ¬ (b.toNat : Int) = 43 := fun q => h43 (UInt8.toNat_inj.1 (show b.toNat = (43 : UInt8).toNat by have : (43 : UInt8).toNat = 43 := rfl; omega))
              go_wp2_with fail
              go_meet
              exact ⟨by simp [h45, h43]; exact ⟨n45, n43⟩, rfl⟩
      case rest =>
      obtain ⟨rfl, e9⟩ := hcut
      have e9 := e9.symm
      subst e9
      go_upto_if 26 with fail
      go_cut [3] (fun s wx => s = .string (strOfL ex) ∧ wx = w1)
      case first =>
        by_cases hc : e1 ≠ [] ∧ (e1.getD 0 0 = 45 ∨ e1.getD 0 0 = 43)
        · have hx := HX.out
          unfold exOf at hx
          rw [if_pos hc] at hx
          have hl1 := List.length_pos_iff.2 hc.1
          have hEX := extract_drop e1 1
          rw [strOfL_size, hx] at hEX
          have hsz := strOfL_size e1
          have k1 : (1 : Int) ≤ (e1.length : Int) := by omega
          have k2 : 1 ≤ e1.length := hl1
          rw [decide_eq_true hc]
          clear hx hc
          go_wp2_with fail
          go_meet
          exact ⟨rfl, rfl⟩
        · have hx := HX.out
          unfold exOf at hx
          rw [if_neg hc] at hx
          have HX2 := Lib.hid hx
          rw [decide_eq_false hc]
          clear hx hc
          go_wp2_with fail
          go_meet
          exact ⟨by rw [HX2.out], rfl⟩
      case rest =>
      obtain ⟨rfl, e9⟩ := hcut
      have e9 := e9.symm
      subst e9
      have DK := Lib.hid (digits_k ex w1)
      generalize hdg : digs ex = dg at *
      have HDG := Lib.hid hdg
      have hsz := strOfL_size ex
      have hll : ex.length ≤ 1073741824 := by have := HLE.out; have := HCL.out.2; omega
      clear hdg
      have hsb := HSB.out
      rw [if_pos rfl] at hsb
      have HSB2 := Lib.hid hsb
      clear hsb
      go_wp2_with fail
      refine DK.out.mono ?_
      rintro e w2 ⟨rfl, hb2⟩
      have hb3 := bl_trans hb hb2
      cases dg with
      | false =>
        go_wp2_with fail
        go_ret
        refine ⟨?_, hb3⟩
        rw [HSB2.out]
        unfold shapeE
        rw [HDG.out]
        rfl
      | true =>
        by_cases h6 : ex.length ≤ 6
        · have k6 : ¬ (6 : Int) < (ex.length : Int) := by omega
          go_wp2_with fail
          go_meet
          refine ⟨hb3, fun _ => ?_⟩
          unfold shapeE
          rw [HDG.out, decide_eq_true h6]
          rfl
        · have k6 : (6 : Int) < (ex.length : Int) := by omega
          go_wp2_with fail
          go_ret
          refine ⟨?_, hb3⟩
          rw [HSB2.out]
          unfold shapeE
          rw [HDG.out, decide_eq_false h6]
          rfl
  case rest =>
  obtain ⟨hb, hsh⟩ := hcut
  have hsb2 : sb = shapeM s1 := by
    have := HSB.out
    cases b1 with
    | true => rw [this, if_pos rfl, hsh rfl, Bool.true_and]
    | false => rw [this, if_neg (by decide)]
  have HSB2 := Lib.hid hsb2
  have CM := Lib.hid (cut_k s1 46 _ (HE.out.keep (kept_below hb)) (by have := hcl.1; omega))
  have hcm := cut_len s1 [46]
  have HM := Lib.hid (show shapeM s1 = (((Lib.cut s1 [46]).2.2 && digs (Lib.cut s1 [46]).2.1 && ((Lib.cut s1 [46]).1.isEmpty || digs (Lib.cut s1 [46]).1)) || (!(Lib.cut s1 [46]).2.2 && digs (Lib.cut s1 [46]).1)) from rfl)
  generalize shapeM s1 = sm at *
  generalize Lib.cut s1 [46] = c at *
  obtain ⟨wh, pt, po⟩ := c
  dsimp only at *
  clear hsb2 hsh hcm hcl HSB CE
  have DP := Lib.hid (fun v => digits_k pt v)
  have DW := Lib.hid (fun v => digits_k wh v)
  have hem := isEmpty_str wh
  generalize digs pt = dp at *
  generalize digs wh = dw at *
  generalize wh.isEmpty = em at *
  go_wp2_with fail
  refine CM.out.mono ?_
  rintro e w3 ⟨rfl, hb2⟩
  have hb := bl_trans hb hb2
  clear hb2
  have HMM := HM.out
  have HEM := Lib.hid hem
  cases po with
  | true =>
    go_wp2_with fail
    refine (DP.out _).mono ?_
    rintro e w4 ⟨rfl, hb2⟩
    have hb := bl_trans hb hb2
    clear hb2
    cases dp with
    | false =>
      have HR := Lib.hid (show sb = false by rw [HSB2.out, HMM]; rfl)
      go_wp2_with fail
      go_ret
      exact ⟨by rw [HR.out]; rfl, hb⟩
    | true =>
      cases em with
      | true =>
        have HR := Lib.hid (show sb = true by rw [HSB2.out, HMM]; rfl)
        go_wp2_with fail
        go_ret
        exact ⟨by rw [HR.out]; rfl, hb⟩
      | false =>
        go_wp2_with fail
        refine (DW.out _).mono ?_
        rintro e w5 ⟨rfl, hb2⟩
        have hb := bl_trans hb hb2
        have HR := Lib.hid (show sb = dw by rw [HSB2.out, HMM]; cases dw <;> rfl)
        clear hb2
        cases dw
        all_goals
          go_wp2_with fail
          go_ret
          exact ⟨by rw [HR.out]; rfl, hb⟩
  | false =>
    go_wp2_with fail
    refine (DW.out _).mono ?_
    rintro e w5 ⟨rfl, hb2⟩
    have hb := bl_trans hb hb2
    have HR := Lib.hid (show sb = dw by rw [HSB2.out, HMM]; cases dw <;> rfl)
    clear hb2
    cases dw
    all_goals
      go_wp2_with fail
      go_ret
      exact ⟨by rw [HR.out]; rfl, hb⟩

end Go.Proofs.YtnamnldijopkfaaDoor
