/-
  The reader's skip.
-/
import Derived.Test.YtnamnldijopkfaaDoorTlg
import Derived.Deep.QuietTactic
import Derived.BigQuiet
namespace Go.Proofs.YtnamnldijopkfaaDoor
open Go.ChangeShapes Go.WideShapes Go.ChangeAt Go.RowKit Go.Joins

def SkOut (w : World) (g : Nat) (l : List UInt8) (ts : List Tok) (r : Option Nat) (e : Ending) (w' : World) : Prop :=
  match r with
  | some q => e = .returned (.bool true) ∧ Rd w' g l q ts ∧ q ≤ l.length ∧ Below g w w'
  | none => e = .returned (.bool false) ∧ Below g w w'

theorem prefix_len (t : List UInt8) (a b : UInt8) (h : Lib.hasPrefix t [a, b] = true) : 2 ≤ t.length := by
  have := List.isPrefixOf_iff_prefix.1 h
  have := this.length_le
  simpa using this
theorem lineIf (t : List UInt8) : lineN t = if Lib.indexByte t 10 < 0 then t.length else (Lib.indexByte t 10).toNat := rfl

set_option maxHeartbeats 4000000 in
set_option maxRecDepth 100000 in
theorem skip_k (l : List UInt8) (k g : Nat) (ts : List Tok) (w : World) (hE : Env w) (hg : 4 < g) (h : Rd w g l k ts) (hk : k ≤ l.length) (hl : l.length ≤ 1073741824) :
    Calls Tryd.prog 65 #[.pointer (some ⟨g, 0, none⟩)] w (SkOut w g l ts (skTo l k)) := by
  have hsz := strOfL_size l
  have HE := Lib.hid hE
  have HR := Lib.hid h
  generalize hsk : skTo l k = r
  have HSK := Lib.hid hsk
  clear hE h hsk
  go_enter Tryd.func65, Tryd.ntmps65
  go_wp2_with fail
  go_loopw [] (fun wr => ∃ q : Nat, q ≤ l.length ∧ Rd wr g l q ts ∧ Below g w wr ∧ skTo l q = r) (fun wr => match wr.cell? ⟨g, 1, none⟩ with | some v => l.length - (intOf v).toNat | none => 0)
  case atStart => exact ⟨k, hk, HR.out, Below.refl g w, HSK.out⟩
  case round =>
    obtain ⟨q, hq, hR, hb, hskq⟩ := hrel
    have hgl := hR.lt
    have hs := hR.s
    have ha := hR.at_
    have HRq := Lib.hid hR
    have HQ := Lib.hid hskq
    have HEq := Lib.hid (HE.out.keepB hg hb)
    clear hR hskq
    by_cases hlt : q < l.length
    · have hstep := skTo_step l q hlt
      rw [HQ.out] at hstep
      have HST := Lib.hid hstep
      clear hstep
      have hEX := extract_drop l q
      rw [hsz] at hEX
      have k1 : (q : Int) < (l.length : Int) := by omega
      have k2 : q ≤ l.length := hq
      have k3 : (q : Int) ≤ (l.length : Int) := by omega
      have k0 : (0 : Int) ≤ (q : Int) := by omega
      have hdl : (l.drop q).length = l.length - q := List.length_drop
      have hd2 : (l.drop q).drop 2 = l.drop (q + 2) := by rw [List.drop_drop]
      have hEX2 := extract_drop (l.drop q) 2
      rw [hd2, strOfL_size, hdl] at hEX2
      have hroom := Lib.index_room (l.drop (q + 2)) [42, 47]
      rw [List.length_drop] at hroom
      have hsz2 := strOfL_size (l.drop q)
      have hln := lineN_le (l.drop q)
      have hlf := lineIf (l.drop q)
      have HGE := Lib.hid (lineN_ge (l.drop q))
      have HP2 := Lib.hid (prefix_len (l.drop q) 47 42)
      generalize hh : hd (l.drop q) = ch at *
      have HH := Lib.hid hh
      clear hh
      generalize hsb : spaceB ch = sb at *
      have HSB := Lib.hid hsb
      clear hsb
      generalize hx1 : lineN (l.drop q) = ln at *
      clear hx1
      go_wp2_with fail
      go_quiet (fail)
      go_wp2_with fail
      go_quiet (fail)
      go_wp2_with fail
      refine (rune_k l q g _ (HEq.out.keep (by first | exact kept_drewN (kept_drewN (kept_refl _) _) _ | exact kept_drewN (kept_refl _) _)) (by simpa using hs)).mono ?_
      rintro e w3 ⟨rfl, hb3⟩
      have hbW : Below wr.heap.size wr w3 := by first | exact bl_trans (bl_drewN (bl_drewN (bl_refl wr) _) _) hb3 | exact bl_trans (bl_drewN (bl_refl wr) _) hb3
      have hR3 := HRq.out.keep hbW
      have hE3 := Lib.hid (HEq.out.keep (kept_below hbW))
      have hbg : Below g w w3 := hb.trans (hbW.mono (by omega))
      have hgl3 := hR3.lt
      have hs3 := hR3.s
      have ha3 := hR3.at_
      have fa3 := hR3.fa
      have HR3 := Lib.hid hR3
      have MS : (match wr.cell? ⟨g, 1, none⟩ with | some v => l.length - (intOf v).toNat | none => 0) = l.length - q := by
        rw [ha]
        simp [intOf]
      replace MS := Lib.hid MS
      clear hb3 hbW hR3 hs ha hgl hb
      rw [HH.out]
      have SK := Lib.hid (space_k ch)
      rw [HSB.out] at SK
      go_wp2_with fail
      refine (SK.out _).mono ?_
      rintro e w4 ⟨rfl, rfl⟩
      cases sb with
      | true =>
        have hst := HST.out
        rw [if_pos rfl] at hst
        have HST2 := Lib.hid hst
        clear hst
        go_wp2_with fail
        go_roundw
        case rel =>
          have hA := HR3.out.setAt (q + 1)
          exact ⟨q + 1, hlt, hA.1, hbg.trans hA.2, HST2.out.symm⟩
        case measure =>
          rw [MS.out]
          simp [go_sem, intOf, *]
          omega
      | false =>
        have hst := HST.out
        rw [if_neg (by simp)] at hst
        have P1 := Lib.hid (fun v => Tryd.strings_HasPrefix (strOfL (l.drop q)) ⟨#[47, 47]⟩ v)
        have P2 := Lib.hid (fun v => Tryd.strings_HasPrefix (strOfL (l.drop q)) ⟨#[47, 42]⟩ v)
        have I1 := Lib.hid (fun v => Tryd.strings_IndexByte (strOfL (l.drop q)) 10 v)
        have I2 := Lib.hid (fun (v : World) (m : Int) (hm : v.cell? ⟨4, 0, none⟩ = some (.int .i64 m)) => Tryd.strings_Index (strOfL (l.drop (q + 2))) ⟨#[42, 47]⟩ m v (by rw [strOfL_size, List.length_drop]; omega) hm)
        rw [strOfL_list] at P1 P2 I1 I2
        rw [show ((10 : Int).toNat.toUInt8) = (10 : UInt8) from rfl] at I1
        rw [show (⟨#[47, 47]⟩ : ByteArray).data.toList = [47, 47] from rfl] at P1
        rw [show (⟨#[47, 42]⟩ : ByteArray).data.toList = [47, 42] from rfl] at P2
        rw [show (⟨#[42, 47]⟩ : ByteArray).data.toList = [42, 47] from rfl] at I2
        generalize Lib.hasPrefix (l.drop q) [47, 47] = p1 at *
        generalize Lib.hasPrefix (l.drop q) [47, 42] = p2 at *
        generalize Lib.indexByte (l.drop q) 10 = i1 at *
        generalize Lib.index (l.drop (q + 2)) [42, 47] = i2 at *
        have HST2 := Lib.hid hst
        have HLF := Lib.hid hlf
        have HRM := Lib.hid hroom
        clear hst HST hlf hroom
        go_wp2_with fail
        refine (P1.out _).mono ?_
        rintro e w4 ⟨rfl, e9⟩
        have e9 := e9.symm
        subst e9
        cases p1 with
        | true =>
          have hst := HST2.out
          rw [if_pos rfl] at hst
          have HST3 := Lib.hid hst
          clear hst
          go_wp2_with fail
          refine (I1.out _).mono ?_
          rintro e w5 ⟨rfl, e9⟩
          have e9 := e9.symm
          subst e9
          go_upto_if 46 with fail
          go_cut [4] (fun s wx => s = .int .i64 ln ∧ wx = w3)
          case first =>
            by_cases hi : i1 < 0
            · have hlf := HLF.out
              rw [if_pos hi] at hlf
              have HLF2 := Lib.hid hlf
              clear hlf
              go_wp2_with fail
              go_meet
              exact ⟨congrArg (Value.int .i64) (by have := HLF2.out; omega), rfl⟩
            · have hlf := HLF.out
              rw [if_neg hi] at hlf
              have HLF2 := Lib.hid hlf
              clear hlf
              go_wp2_with fail
              go_meet
              exact ⟨congrArg (Value.int .i64) (by have := HLF2.out; omega), rfl⟩
          case rest =>
          obtain ⟨rfl, e9⟩ := hcut
          have e9 := e9.symm
          subst e9
          go_wp2_with fail
          go_roundw
          case rel =>
            have hA := HR3.out.setAt (q + ln)
            exact ⟨q + ln, by omega, hA.1, hbg.trans hA.2, HST3.out.symm⟩
          case measure =>
            rw [MS.out]
            have hge := HGE.out (by first | rfl | trivial)
            simp [go_sem, intOf, *]
            omega
        | false =>
          have hst := HST2.out
          rw [if_neg (by simp)] at hst
          have HST3 := Lib.hid hst
          clear hst
          go_wp2_with fail
          refine (P2.out _).mono ?_
          rintro e w4 ⟨rfl, e9⟩
          have e9 := e9.symm
          subst e9
          cases p2 with
          | true =>
            have hst := HST3.out
            rw [if_pos rfl] at hst
            have h2 := HP2.out (by first | rfl | trivial)
            have k7 : (2 : Int) ≤ ((l.drop q).length : Int) := by omega
            have k8 : (2 : Int) ≤ ((l.length - q : Nat) : Int) := by omega
            have k9 : 2 ≤ l.length - q := by omega
            have k10 : q ≤ l.length - 2 := by omega
            have HST4 := Lib.hid hst
            clear hst
            obtain ⟨-, m4, hm4⟩ := hE3.out
            go_wp2_with fail
            refine (I2.out _ m4 hm4).mono ?_
            rintro e w5 ⟨rfl, e9⟩
            have e9 := e9.symm
            subst e9
            by_cases hi : i2 < 0
            · have hst := HST4.out
              rw [if_pos hi] at hst
              have HST5 := Lib.hid hst
              clear hst
              go_wp2_with fail
              go_ret
              rw [HST5.out]
              exact ⟨rfl, hbg⟩
            · have hst := HST4.out
              rw [if_neg hi] at hst
              have hroom := HRM.out (by omega)
              obtain ⟨n2, rfl⟩ : ∃ n2 : Nat, i2 = (n2 : Int) := ⟨i2.toNat, by omega⟩
              rw [Int.toNat_natCast] at hst
              have hrm : q + (n2 + 4) ≤ l.length := by
                simp at hroom
                omega
              have HST5 := Lib.hid hst
              clear hst hroom
              go_wp2_with fail
              go_roundw
              case rel =>
                have hA := HR3.out.setAt (q + (n2 + 4))
                exact ⟨q + (n2 + 4), hrm, hA.1, hbg.trans hA.2, HST5.out.symm⟩
              case measure =>
                rw [MS.out]
                simp [go_sem, intOf, *]
                omega
          | false =>
            have hst := HST3.out
            rw [if_neg (by simp)] at hst
            have HST4 := Lib.hid hst
            clear hst
            go_wp2_with fail
            go_ret
            rw [HST4.out]
            exact ⟨rfl, HR3.out, hq, hbg⟩
    · have he : skTo l q = some q := by
        unfold skTo
        rw [List.drop_eq_nil_of_le (by omega), skP_nil]
        rfl
      rw [HQ.out] at he
      have HF := Lib.hid he
      have k1 : ¬ (q : Int) < (l.length : Int) := by omega
      clear he
      go_wp2_with fail
      go_quiet (fail)
      go_wp2_with fail
      go_ret
      rw [HF.out]
      have hbd := bl_drewN (bl_refl wr)
      exact ⟨rfl, HRq.out.keep (hbd _), hq, hb.trans ((hbd _).mono (by omega))⟩

end Go.Proofs.YtnamnldijopkfaaDoor
