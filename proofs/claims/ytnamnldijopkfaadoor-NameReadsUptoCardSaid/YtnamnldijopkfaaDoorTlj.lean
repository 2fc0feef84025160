/-
  The reader's text.
-/
import Derived.Test.YtnamnldijopkfaaDoorTli
import Derived.Shelf.Strings.MapGrows
namespace Go.Proofs.YtnamnldijopkfaaDoor
open Go.ChangeShapes Go.WideShapes Go.ChangeAt Go.RowKit Go.Joins

theorem hd_le (t : List UInt8) : -1 ≤ hd t ∧ hd t ≤ 1114111 := by
  unfold hd
  split
  · omega
  · have := dec_ok t
    unfold okR at this
    omega
theorem escV_rune (t : List UInt8) : -1 ≤ (escV t).1 ∧ (escV t).1 ≤ 1114111 := by
  have hx : ∀ (u : List UInt8) (n : Nat), -1 ≤ (hexV u n).1 ∧ (hexV u n).1 ≤ 1114111 := by
    intro u n
    unfold hexV
    split
    · dsimp only; omega
    · split
      · rename_i hv
        unfold Lib.validRune at hv
        have hv := of_decide_eq_true hv
        dsimp only
        omega
      · dsimp only; omega
  have h4 := hx (t.drop 1) 4
  have h6 := hx (t.drop 1) 6
  have hh := hd_le t
  unfold escV
  repeat' split
  all_goals first | omega | (dsimp only; omega)

theorem bl_set2 {B : Nat} {w w1 : World} (h : Below B w w1) (a : Addr) (u : Value) : Below B (w.setCell a u) (w1.setCell a u) := by
  refine ⟨h.os, h.tape, h.output, by simpa using h.size, fun k hk => ?_⟩
  have := h.block k hk
  simp only [World.setCell, Array.getElem?_modify, this]

theorem builder_set {T e : TypeId} {B g j : Nat} {bs : List Value} {w : World} (h : Lib.IsBuilderF T e B B bs w) (hg : g < B) (u : Value) : Lib.IsBuilderF T e B B bs (w.setCell ⟨g, j, none⟩ u) := by
  have one : ∀ p, Lib.BuilderAtF T e B B p bs w → Lib.BuilderAtF T e B B p bs (w.setCell ⟨g, j, none⟩ u) := by
    intro p x
    obtain ⟨h0, v, h1, h2, h3⟩ := x
    have hgr : w.grownBy (w.setCell ⟨g, j, none⟩ u) (some g) := ⟨rfl, rfl, rfl, by simp, fun k _ hk => heap_setCell_other w ⟨g, j, none⟩ k u (fun e => hk (by simp [e]))⟩
    refine ⟨h0, v, ?_, h2.kept hgr ?_, h3⟩
    · rw [Below.heap_setCell _ _ _ _ (show B ≠ g by omega)]
      exact h1
    · rcases h2.2 with ⟨rfl, _⟩ | ⟨gg, cap, cur, fz, rfl, hgg, _⟩
      · exact .inl rfl
      · right
        intro e
        simp [Value.ownBlock] at e
        omega
  exact h.elim (fun x => .inl (one _ x)) (fun x => .inr (one _ x))

set_option maxHeartbeats 4000000 in
set_option maxRecDepth 100000 in
theorem text_k (l : List UInt8) (k g : Nat) (ts : List Tok) (w : World) (hE : Env w) (h : Rd w g l k ts) (hk : k ≤ l.length) (hl : l.length ≤ 268435456) :
    Calls Tryd.prog 92 #[.pointer (some ⟨g, 0, none⟩)] w (TxOut w g l k ts (txAt l (k + 1) [])) := by
  have hsz := strOfL_size l
  have HE := Lib.hid hE
  have HR := Lib.hid h
  have hs := h.s
  have ha := h.at_
  have fa := h.fa
  have hgl := h.lt
  generalize hrr : txAt l (k + 1) [] = r
  have HRR := Lib.hid hrr
  clear hE h hrr
  go_enter Tryd.func92, Tryd.ntmps92
  go_upto_region 2 with fail
  generalize hB : w.heap.size = B at *
  have hib : Lib.IsBuilderF 61 5 B B (Lib.byteCells []) (w.alloc (.cells #[.pointer none, .slice none 0 0] 61)) := Lib.IsBuilderF.of (hB ▸ Lib.fresh_isBuilder 61 5 w)
  go_wp2_with fail
  go_loopw [5] (fun i wr => ∃ (q : Nat) (acc : List UInt8), k + 1 ≤ q ∧ q ≤ l.length + 8 ∧ i = .int .i64 q ∧ Lib.IsBuilderF 61 5 B B (Lib.byteCells acc) wr ∧ Below B w wr ∧ B < wr.heap.size ∧ acc.length + 4 * (k + 1) ≤ 4 * q ∧ txAt l q acc = r) (fun i _ => l.length + 8 - (intOf i).toNat)
  case atStart =>
    exact ⟨k + 1, [], Nat.le_refl _, by omega, by simp, hib, hB ▸ bl_alloc (bl_refl w) _, by simp; omega, by simp, HRR.out⟩
  case round =>
    obtain ⟨q, acc, hq1, hq2, rfl, hI, hbr, hBl, hal, htx⟩ := hrel
    have hbW : Below w.heap.size w wr := by rw [hB]; exact hbr
    have hRr := HR.out.keep hbW
    have hEr := Lib.hid (HE.out.keep (kept_below hbW))
    have hbg : Below g w wr := hbr.mono (by omega)
    have hsr := hRr.s
    have har := hRr.at_
    have far := hRr.fa
    have hglr := hRr.lt
    have HRr := Lib.hid hRr
    have HTX := Lib.hid htx
    have HI := Lib.hid hI
    clear hib hI hRr htx hs ha fa hbW
    by_cases hlt : q < l.length
    · have hne : l.drop q ≠ [] := by
        intro e
        have := congrArg List.length e
        rw [List.length_drop, List.length_nil] at this
        omega
      have hstep := txAt_step l q acc hne
      rw [HTX.out] at hstep
      have DK := Lib.hid (dec_k (l.drop q) wr hEr.out hne)
      have hok := dec_ok (l.drop q)
      have hw1 := dec_ge1 (l.drop q)
      have hw2 := dec_le_len (l.drop q) hne
      rw [List.length_drop] at hw2
      have hEX := extract_drop l q
      rw [hsz] at hEX
      generalize Lib.decodeL (l.drop q) = d at *
      obtain ⟨c, wd⟩ := d
      dsimp only at hstep DK hok hw1 hw2
      unfold okR at hok
      have HST := Lib.hid hstep
      have k1 : (q : Int) < (l.length : Int) := by omega
      have k0 : (0 : Int) ≤ (q : Int) := by omega
      have k3 : (q : Int) ≤ (l.length : Int) := by omega
      clear hstep
      generalize l.drop q = t at *
      go_wp2_with fail
      refine DK.out.mono ?_
      rintro e w1 ⟨rfl, hb1⟩
      have hI1 : Lib.IsBuilderF 61 5 B B (Lib.byteCells acc) w1 := Lib.IsBuilderF.below HI.out hb1
      have hbr1 : Below B w w1 := hbr.trans (hb1.mono (by omega))
      have hbg1 : Below g w w1 := hbr1.mono (by omega)
      have hE1 := Lib.hid (hEr.out.keep (kept_below hb1))
      have hR1 := HRr.out.keep hb1
      have hs1 := hR1.s
      have ha1 := hR1.at_
      have fa1 := hR1.fa
      have hgl1 := hR1.lt
      have HR1 := Lib.hid hR1
      have hBl1 : B < w1.heap.size := by have := hb1.size; omega
      have HI1 := Lib.hid hI1
      clear hI1 hR1 hb1 hsr har far hglr hbr hbg
      by_cases c34 : c = 34
      · subst c34
        have hst := HST.out
        rw [if_pos rfl] at hst
        have HS2 := Lib.hid hst
        clear hst HST
        have hA := HR1.out.setAt (q + 1)
        have HA := Lib.hid hA
        have hI2 := builder_set (j := 1) HI1.out (show g < B by omega) (.int .i64 ((q + 1 : Nat) : Int))
        have HI2 := Lib.hid hI2
        have hqi : ((q + 1 : Nat) : Int) = (q : Int) + 1 := by omega
        clear hA hI2
        go_wp2_with fail
        rw [← hqi]
        refine (Tryd.Builder_String_any_k B B acc _ HI2.out (by simp; omega)).mono ?_
        rintro e w3 ⟨rfl, _, b3, _⟩
        have b3g : Below g (w1.setCell ⟨g, 1, none⟩ (.int .i64 ((q + 1 : Nat) : Int))) w3 := b3.mono (by omega)
        have b4 : Below B (w.setCell ⟨g, 1, none⟩ (.int .i64 ((q + 1 : Nat) : Int))) w3 := (bl_set2 hbr1 _ _).trans b3
        have hR4 := (HR.out.setAt (q + 1)).1.keep (w' := w3) (by simpa [hB] using b4)
        go_wp2_with fail
        refine bodyPost_ret (v := .tuple #[.string (strOfL acc), .bool true]) (by simp [results, Tryd.results92, go_sem]; rfl) rfl ?_
        rw [HS2.out]
        exact ⟨rfl, hR4, hbg1.trans (HA.out.2.trans b3g)⟩
      · have hst := HST.out
        rw [if_neg c34] at hst
        have n34 : ¬ (c : Int) = 34 := by omega
        by_cases c10 : c = 10 ∨ c = 13
        · rw [if_pos c10] at hst
          have HS2 := Lib.hid hst
          clear hst HST
          rcases c10 with rfl | rfl
          all_goals
            go_wp2_with fail
            refine bodyPost_ret (v := .tuple #[.string ⟨#[]⟩, .bool false]) (by simp [results, Tryd.results92, go_sem]) rfl ?_
            rw [HS2.out]
            exact ⟨rfl, HR1.out, hbg1⟩
        · rw [if_neg c10] at hst
          have n10 : ¬ (c : Int) = 10 := by omega
          have n13 : ¬ (c : Int) = 13 := by omega
          by_cases c92 : c = 92
          · rw [if_pos c92] at hst
            subst c92
            have EK := escape_k l (q + 1) g w1 hE1.out hs1 (by omega)
            rw [show ((q + 1 : Nat) : Int) = (q : Int) + 1 by omega] at EK
            replace EK := Lib.hid EK
            have he7 := escV_le (l.drop (q + 1))
            have her := escV_rune (l.drop (q + 1))
            generalize escV (l.drop (q + 1)) = ev at *
            obtain ⟨er, em⟩ := ev
            dsimp only at hst EK he7 her
            have HS2 := Lib.hid hst
            clear hst HST
            go_wp2_with fail
            refine EK.out.mono ?_
            rintro e w3 ⟨rfl, hb3⟩
            have hI3 := Lib.hid (Lib.IsBuilderF.below HI1.out hb3)
            have hR3 := Lib.hid (HR1.out.keep hb3)
            have hbr3 : Below B w w3 := hbr1.trans (hb3.mono (by omega))
            have hBl3 : B < w3.heap.size := by have := hb3.size; omega
            clear hb3
            by_cases hm0 : em = 0
            · subst hm0
              have hst := HS2.out
              rw [if_pos rfl] at hst
              have HS3 := Lib.hid hst
              clear hst HS2
              go_wp2_with fail
              refine bodyPost_ret (v := .tuple #[.string ⟨#[]⟩, .bool false]) (by simp [results, Tryd.results92, go_sem]) rfl ?_
              rw [HS3.out]
              exact ⟨rfl, hR3.out, hbr3.mono (by omega)⟩
            · have hst := HS2.out
              rw [if_neg hm0] at hst
              have HS3 := Lib.hid hst
              have nm0 : ¬ (em : Int) = 0 := by omega
              clear hst HS2
              go_wp2_with fail
              refine (Tryd.Builder_WriteRune_k B B _ _ (by omega) (by omega) _ hI3.out (by rw [Lib.byteCells_length]; omega) (by omega)).mono ?_
              rintro e w4 ⟨rfl, h2, b2, k2⟩
              go_wp2_with fail
              go_roundw
              case rel =>
                have hel : (Lib.encodeRune er).length ≤ 4 := by
                  unfold Lib.encodeRune
                  rw [List.length_map]
                  unfold Lib.encodeRuneZ
                  repeat' split
                  all_goals simp
                refine ⟨q + (em + 1), acc ++ Lib.encodeRune er, by omega, by omega, by go_num, ?_, hbr3.trans b2, by have := b2.size; omega, by rw [List.length_append]; omega, HS3.out.symm⟩
                rw [Lib.byteCells_append, Lib.byteCells_encodeRune]; exact Or.inr (by simpa using h2)
              case measure => simp [intOf]; omega
          · rw [if_neg c92] at hst
            have n92 : ¬ (c : Int) = 92 := by omega
            have HS2 := Lib.hid hst
            clear hst HST
            go_wp2_with fail
            refine (Tryd.Builder_WriteRune_k B B _ _ (by omega) (by omega) _ HI1.out (by rw [Lib.byteCells_length]; omega) (by omega)).mono ?_
            rintro e w3 ⟨rfl, h2, b2, k2⟩
            go_wp2_with fail
            go_roundw
            case rel =>
              have hel := (enc_len c).2
              refine ⟨q + wd, acc ++ Lib.encodeRune c, by omega, by omega, by go_num, ?_, hbr1.trans b2, by have := b2.size; omega, by rw [List.length_append]; omega, HS2.out.symm⟩
              rw [Lib.byteCells_append, Lib.byteCells_encodeRune]; exact Or.inr (by simpa using h2)
            case measure => simp [intOf]; omega
    · have htn := txAt_end l q acc hlt
      rw [HTX.out] at htn
      have HN := Lib.hid htn
      have k1 : ¬ (q : Int) < (l.length : Int) := by omega
      clear htn
      go_wp2_with fail
      refine bodyPost_ret (v := .tuple #[.string ⟨#[]⟩, .bool false]) (by simp [results, Tryd.results92, go_sem]) rfl ?_
      rw [HN.out]
      exact ⟨rfl, HRr.out, hbg⟩

end Go.Proofs.YtnamnldijopkfaaDoor
