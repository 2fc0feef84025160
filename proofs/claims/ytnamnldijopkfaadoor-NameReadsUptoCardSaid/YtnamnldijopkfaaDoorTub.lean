/-
  The contract of name.Join.
-/
import Derived.Test.YtnamnldijopkfaaDoorTua
import Derived.Test.YtnamnldijopkfaaDoorToc
namespace Go.Proofs.YtnamnldijopkfaaDoor
open Go.ChangeShapes Go.WideShapes Go.ChangeAt Go.RowKit Go.Joins

def lastW : Bool → List Tok → Bool
  | p, [] => p
  | _, t :: ts => lastW (wordT t) ts
theorem joinA_snoc : ∀ (p : Bool) (us : List Tok) (t : Tok), joinA p (us ++ [t]) = joinA p us ++ (if (lastW p us && wordT t) = true then [32] else []) ++ t.text
  | p, [], t => by simp [joinA, lastW]
  | p, u :: us, t => by
    rw [List.cons_append, joinA, joinA, joinA_snoc _ us t, lastW]
    simp [List.append_assoc]
theorem lastW_snoc : ∀ (p : Bool) (us : List Tok) (t : Tok), lastW p (us ++ [t]) = wordT t
  | _, [], _ => rfl
  | _, _ :: us, t => lastW_snoc _ us t
/-- does a space stand ahead of a token? -/
def sepT (ts : List Tok) (j : Nat) : Bool := lastW false (ts.take j) && wordT (ts.getD j ⟨0, [], 0⟩)
theorem sepT_zero (ts : List Tok) : sepT ts 0 = false := rfl
theorem sepT_succ (ts : List Tok) (j : Nat) (h : j + 1 < ts.length) : sepT ts (j + 1) = (wordT ts[j] && wordT ts[j + 1]) := by
  unfold sepT
  rw [List.take_succ_eq_append_getElem (by omega), lastW_snoc]
  simp [List.getD, h]
theorem join_step (ts : List Tok) (j : Nat) (h : j < ts.length) : joinT (ts.take (j + 1)) = joinT (ts.take j) ++ (if sepT ts j = true then [32] else []) ++ ts[j].text := by
  unfold joinT sepT
  rw [List.take_succ_eq_append_getElem h, joinA_snoc]
  simp [List.getD, h]
theorem bulk_get (ts : List Tok) (j : Nat) (h : j < ts.length) : bulkT (ts.take j) + ts[j].text.length + 1 ≤ bulkT ts := by
  have := bulk_take ts (j + 1)
  rw [List.take_succ_eq_append_getElem h, bulkT_append, bulkT_cons, bulkT_nil] at this
  omega

/-- a block that holds a token -/
def TokAt (g : Nat) (t : Tok) (w : World) : Prop := ∃ fz, w.heap[g]? = some (.cells #[.int .i64 (t.kind : Int), .string (strOfL t.text), .int .i64 (t.at_ : Int)] 40 fz)
theorem TokAt.cells {g : Nat} {t : Tok} {w : World} (h : TokAt g t w) : w.cell? ⟨g, 0, none⟩ = some (.int .i64 (t.kind : Int)) ∧ w.cell? ⟨g, 1, none⟩ = some (.string (strOfL t.text)) ∧ w.cell? ⟨g, 2, none⟩ = some (.int .i64 (t.at_ : Int)) := by
  obtain ⟨fz, h⟩ := h
  simp [World.cell?, h]
theorem TokAt.new (w : World) (t : Tok) : TokAt w.heap.size t (w.alloc (.cells #[.int .i64 (t.kind : Int), .string (strOfL t.text), .int .i64 (t.at_ : Int)] 40)) := ⟨_, heap_alloc_new w _⟩
theorem TokAt.keep {g : Nat} {t : Tok} {w w' : World} (h : TokAt g t w) (hb : Below w.heap.size w w') : TokAt g t w' := by
  obtain ⟨fz, h⟩ := h
  have hg : g < w.heap.size := (Array.getElem?_eq_some_iff.1 h).1
  exact ⟨fz, (hb.block g hg).trans h⟩
theorem TokAt.others {g B : Nat} {t : Tok} {w w' : World} (h : TokAt g t w) (ho : Lib.OthersKept 5 (some B) w w') (hg : g ≠ B) : TokAt g t w' := by
  obtain ⟨fz, h⟩ := h
  exact ⟨fz, ho g _ h (by simpa using hg) (fun c fz' e => by injection e with e1 e2 e3; exact absurd e2 (by decide))⟩

set_option maxHeartbeats 4000000 in
set_option maxRecDepth 100000 in
theorem join_k (ts : List Tok) (v : Value) (w : World) (h : Toks w v ts) (hk : ∀ t ∈ ts, t.kind ≤ 5) (hl : bulkT ts ≤ 35184372088832) (hn : ts.length ≤ 1073741824) :
    Calls Tryd.prog 40 #[v] w fun e w' => e = .returned (.string (strOfL (joinT ts))) ∧ Below w.heap.size w w' := by
  have HT := Lib.hid h
  have HK := Lib.hid hk
  obtain ⟨a, c, rfl, hc1, hc2, -⟩ := h
  clear hk
  go_enter Tryd.func40, Tryd.ntmps40
  go_upto_region 2 with fail
  generalize hB : w.heap.size = B at *
  have hib : Lib.IsBuilderF 61 5 B B (Lib.byteCells []) (w.alloc (.cells #[.pointer none, .slice none 0 0] 61)) := Lib.IsBuilderF.of (hB ▸ Lib.fresh_isBuilder 61 5 w)
  go_wp2_with fail
  go_loopw [8] (fun i wr => ∃ j : Nat, j ≤ ts.length ∧ i = .int .i64 j ∧ Lib.IsBuilderF 61 5 B B (Lib.byteCells (joinT (ts.take j))) wr ∧ Below B w wr ∧ B < wr.heap.size) (fun i _ => ts.length - (intOf i).toNat)
  case atStart => exact ⟨0, Nat.zero_le _, rfl, hib, hB ▸ bl_alloc (bl_refl w) _, by simp; omega⟩
  case round =>
    obtain ⟨j, hj, rfl, hI, hbr, hBl⟩ := hrel
    have HI := Lib.hid hI
    have hkr : Below w.heap.size w wr := by rw [hB]; exact hbr
    by_cases hlt : j < ts.length
    · have hjl := joinT_le (ts.take j)
      have hbg := bulk_get ts j hlt
      obtain ⟨-, -, -, bb, bo, rfl, hcs⟩ := (HT.out.keep (kept_below hkr)).cells (by intro q; rw [q] at hlt; simp at hlt)
      have c0 := (hcs j hlt).1
      have c1 := (hcs j hlt).2.1
      have c2 := (hcs j hlt).2.2
      have cl := lt_of_cell c0
      have k1 : (j : Int) < (ts.length : Int) := by omega
      have hst := join_step ts j hlt
      have hkj := HK.out ts[j] (List.getElem_mem _)
      have hszt := strOfL_size ts[j].text
      have hwj := wordT_k ts[j]
      have HTJ := Lib.hid (show ts[j] = ts[j] from rfl)
      have hsl := sepT_succ ts
      have HSL := Lib.hid hsl
      have hcq := fun q (hq : q < ts.length) => (⟨hcs q hq, HK.out ts[q] (List.getElem_mem _)⟩ : _ ∧ _)
      have HCQ := Lib.hid hcq
      have HST := Lib.hid hst
      clear hcq hcs hsl hst hI
      generalize hwd : ts[j] = t at *
      have HWD := Lib.hid hwd
      clear hwd HTJ
      obtain ⟨kd, tx, at1⟩ := t
      dsimp only at c0 c1 c2 HST hbg hszt hkj
      go_upto_region 5 with fail
      go_cut [26] (fun s wx => s = .bool (sepT ts j) ∧ Below wr.heap.size wr wx ∧ TokAt wr.heap.size ⟨kd, tx, at1⟩ wx)
      case first =>
        have T0 := Lib.hid (TokAt.new wr ⟨kd, tx, at1⟩)
        dsimp only at T0
        by_cases h0 : j = 0
        · subst h0
          go_wp2_with fail
          go_meet
          exact ⟨rfl, bl_alloc (bl_refl wr) _, T0.out⟩
        · obtain ⟨q, hjq⟩ : ∃ q, j = q + 1 := ⟨j - 1, by omega⟩
          have hq : q < ts.length := by omega
          have hss : sepT ts j = (wordT ts[q] && wordT ts[j]) := by
            subst hjq
            exact HSL.out q hlt
          rw [HWD.out] at hss
          obtain ⟨⟨d0, d1, d2⟩, hkq⟩ := HCQ.out q hq
          have hpi : (j : Int) - 1 = (q : Int) := by omega
          have hp0 : (0 : Int) < (j : Int) := by omega
          have hq1 : (q : Int) < (ts.length : Int) := by omega
          have hwq := wordT_k ts[q]
          have HSS := Lib.hid hss
          clear hjq hss
          generalize ts[q] = t2 at *
          obtain ⟨kd2, tx2, at2⟩ := t2
          have W1 := Lib.hid (fun v => hwq v hkq)
          have W2 := Lib.hid (fun v => hwj v hkj)
          dsimp only at d0 d1 d2 W1 W2
          generalize wordT ⟨kd2, tx2, at2⟩ = a1 at *
          generalize wordT ⟨kd, tx, at1⟩ = a2 at *
          generalize sepT ts j = sp at *
          clear hwj hwq hkj hkq h0
          go_wp2_with fail
          refine (W1.out _).mono ?_
          rintro e w3 ⟨rfl, b3⟩
          have hx3 : Below wr.heap.size wr w3 := bl_trans (by (repeat (first | with_reducible assumption | with_reducible exact bl_refl _ | with_reducible refine bl_alloc ?_ _ | with_reducible refine bl_set ?_ (by first | (simp; done) | (simp; omega)) _ | with_reducible refine bl_drew ?_ | with_reducible refine bl_drewN ?_ _ | with_reducible refine bl_trans ?_ (by assumption)))) b3
          have T3 := T0.out.keep b3
          obtain ⟨e0, e1, e2⟩ := T3.cells
          have HT3 := Lib.hid T3
          dsimp only at e0 e1 e2
          clear b3 T3
          cases a1 with
          | false =>
            go_wp2_with fail
            go_meet
            exact ⟨by rw [HSS.out]; rfl, hx3, HT3.out⟩
          | true =>
            go_wp2_with fail
            refine (W2.out _).mono ?_
            rintro e w4 ⟨rfl, b4⟩
            have hx4 := bl_trans hx3 b4
            have HT4 := Lib.hid (HT3.out.keep b4)
            clear b4
            go_wp2_with fail
            go_meet
            exact ⟨by rw [HSS.out]; rfl, hx4, HT4.out⟩
      case rest =>
      obtain ⟨rfl, hxw, hT5⟩ := hcut
      have HT5 := Lib.hid hT5
      have hxs := hxw.size
      have HIc := Lib.hid (Lib.IsBuilderF.below HI.out hxw)
      have hbc : Below B w wc := hbr.trans (hxw.mono (by omega))
      clear hT5 hxw
      go_upto_if 26 with fail
      go_cut [] (fun wx => Lib.IsBuilderF 61 5 B B (Lib.byteCells (joinT (ts.take j) ++ (if sepT ts j = true then [32] else []))) wx ∧ Below B w wx ∧ TokAt wr.heap.size ⟨kd, tx, at1⟩ wx ∧ B < wx.heap.size)
      case first =>
        generalize sepT ts j = sp at *
        cases sp with
        | false =>
          go_wp2_with fail
          go_meet
          refine ⟨?_, hbc, HT5.out, by omega⟩
          have := HIc.out
          simpa using this
        | true =>
          go_wp2_with fail
          refine (Tryd.Builder_WriteByte_k B B _ _ _ HIc.out (by rw [Lib.byteCells_length]; omega) (by omega)).mono ?_
          rintro e w3 ⟨rfl, h2, b2, k2⟩
          have T3 := Lib.hid (HT5.out.others k2 (by omega))
          have hs3 := b2.size
          go_wp2_with fail
          go_meet
          refine ⟨?_, hbc.trans b2, T3.out, by omega⟩
          (first | rw [if_pos rfl] | rw [if_pos trivial])
          rw [Lib.byteCells_append]
          exact Or.inr h2
      case rest =>
      obtain ⟨hI6, hb6, hT6, hs6⟩ := hcut
      obtain ⟨e0, e1, e2⟩ := hT6.cells
      have HI6 := Lib.hid hI6
      dsimp only at e0 e1 e2
      have hsep : (if sepT ts j = true then [32] else ([] : List UInt8)).length ≤ 1 := by split <;> simp
      generalize (if sepT ts j = true then [32] else ([] : List UInt8)) = sb at *
      clear hI6 hT6
      go_wp2_with fail
      refine (Tryd.Builder_WriteString_k B B _ _ _ HI6.out (by rw [Lib.byteCells_length, List.length_append]; omega) (by omega)).mono ?_
      rintro e w3 ⟨rfl, h2, b2, k2⟩
      have hs3 := b2.size
      go_wp2_with fail
      go_roundw
      case rel =>
        refine ⟨j + 1, by omega, by go_num, ?_, hb6.trans b2, by omega⟩
        rw [HST.out, Lib.byteCells_append]
        refine Or.inr ?_
        have := h2
        simpa [Lib.strCells, Lib.byteCells, strOfL] using this
      case measure => simp [intOf]; omega
    · rw [List.take_of_length_le (by omega)] at hI
      have HJ := Lib.hid hI
      have k1 : ¬ (j : Int) < (ts.length : Int) := by omega
      clear hI HI
      go_wp2_with fail
      refine (Tryd.Builder_String_any_k B B (joinT ts) _ HJ.out (by omega)).mono ?_
      rintro e w3 ⟨rfl, _, b3, _⟩
      go_wp2_with fail
      go_ret
      exact ⟨rfl, by rw [hB]; exact hbr.trans b3⟩

end Go.Proofs.YtnamnldijopkfaaDoor
