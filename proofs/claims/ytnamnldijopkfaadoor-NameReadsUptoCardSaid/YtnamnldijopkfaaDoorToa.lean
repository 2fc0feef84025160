/-
  The reader's one.
-/
import Derived.Test.YtnamnldijopkfaaDoorTn
namespace Go.Proofs.YtnamnldijopkfaaDoor
open Go.ChangeShapes Go.WideShapes Go.ChangeAt Go.RowKit Go.Joins

theorem Out.of {w w1 : World} {g : Nat} {l : List UInt8} {k : Nat} {ts : List Tok} {r : Option (Nat × List UInt8 × Nat)} {e : Ending} {w' : World} (h : Out w1 g l k ts r e w') (hb : Below g w w1) : Out w g l k ts r e w' := by
  cases r with
  | none => exact ⟨h.1, hb.trans h.2⟩
  | some x => exact ⟨h.1, h.2.1, hb.trans h.2.2⟩

def numC (t : List UInt8) : Bool := decide (digitB (hd t) = true ∨ (hd t = 46 ∧ digitB (hd (t.drop 1)) = true))
def atC (t : List UInt8) : Bool := decide (hd t = 64 ∧ hd (t.drop 1) = 34)
theorem one_word {t : List UInt8} (h : letterB (hd t) = true) : oneP t = some (1, t.take (runN wordB t), runN wordB t) := by unfold oneP; rw [if_pos h]
theorem one_num {t : List UInt8} (h1 : letterB (hd t) = false) (h2 : numC t = true) : oneP t = if shapeB (t.take (numN t)) = true then some (2, t.take (numN t), numN t) else none := by
  have h2 := of_decide_eq_true h2
  unfold oneP
  rw [if_neg (by rw [h1]; decide), if_pos h2]
theorem one_str {t : List UInt8} (h1 : letterB (hd t) = false) (h2 : numC t = false) (h3 : hd t = 34) : oneP t = (txtP (t.drop 1)).map fun x => (3, x.1, x.2 + 1) := by
  have h2 := of_decide_eq_false h2
  unfold oneP
  rw [if_neg (by rw [h1]; decide), if_neg h2, if_pos h3]
theorem one_tmp {t : List UInt8} (h1 : letterB (hd t) = false) (h2 : numC t = false) (h3 : ¬ hd t = 34) (h4 : atC t = true) : oneP t = (txtP (t.drop 2)).map fun x => (4, x.1, x.2 + 2) := by
  have h2 := of_decide_eq_false h2
  have h4 := of_decide_eq_true h4
  unfold oneP
  rw [if_neg (by rw [h1]; decide), if_neg h2, if_neg h3, if_pos h4]
theorem one_sym {t : List UInt8} (h1 : letterB (hd t) = false) (h2 : numC t = false) (h3 : ¬ hd t = 34) (h4 : atC t = false) : oneP t = (symP t).map fun s => (5, s, s.length) := by
  have h2 := of_decide_eq_false h2
  have h4 := of_decide_eq_false h4
  unfold oneP
  rw [if_neg (by rw [h1]; decide), if_neg h2, if_neg h3, if_neg h4]

set_option maxHeartbeats 4000000 in
set_option maxRecDepth 100000 in
theorem one_k (l : List UInt8) (k g : Nat) (ts : List Tok) (w : World) (hE : Env w) (hg : 4 < g) (h : Rd w g l k ts) (hk : k < l.length) (hl : l.length ≤ 268435456) (ht : ts.length ≤ 268435456) :
    Calls Tryd.prog 67 #[.pointer (some ⟨g, 0, none⟩)] w (Out w g l k ts (oneP (l.drop k))) := by
  have hsz := strOfL_size l
  have HR := Lib.hid h
  have HE := Lib.hid hE
  have hgw := h.lt
  have RK : ∀ (q : Nat) (v : World), Below w.heap.size w v → Calls Tryd.prog 85 #[.pointer (some ⟨g, 0, none⟩), .int .i64 q] v fun e w' => e = .returned (.int .i32 (hd (l.drop q))) ∧ Below v.heap.size v w' :=
    fun q v hb => rune_k l q g v (HE.out.keep (kept_below hb)) (below_keeps hb _ _ _ h.s)
  have R0 := Lib.hid (RK k)
  have R1 := Lib.hid (fun v hb => RK (k + 1) v hb)
  rw [show ((k + 1 : Nat) : Int) = (k : Int) + 1 by omega] at R1
  have hs := h.s
  have ha := h.at_
  clear RK h hE
  go_enter Tryd.func67, Tryd.ntmps67
  go_wp2_with fail
  go_upto_region 3 with fail
  go_cut [3, 4] (fun s3 s4 wx => s3 = .int .i64 k ∧ s4 = .int .i32 (hd (l.drop k)) ∧ Below w.heap.size w wx)
  case first =>
    refine wp_region_held_drew (S := (fun w' => w'.cell? ⟨g, 1, none⟩ = some (.int .i64 (k : Int)) ∧ Below w.heap.size w w')) (by kernel_rfl) ?_ (fun hHeld => ?_); (· (exact ⟨by simpa using ha, bl_drew (bl_refl w)⟩))
    (refine wpAnyH_take (i := 0) (oi := ?oi1) (v := ?v1) ?h1 (by kernel_rfl) (by kernel_rfl) (by kernel_rfl) ?hQ1 ?hy1 (by first | exact hHeld | assumption) ?_; (case h1 => (simp only [List.getElem?_toArray, List.getElem?_cons_zero]; exact rfl)); (case hQ1 => exact fun _ _ _ h => h); (case hy1 => (refine Or.inl ⟨by rfl, ?_⟩; intro w hSw; (try dsimp only at hSw); go_simp; try (first | with_reducible rfl | rfl))); try simp only [Act.put, List.setIfInBounds_toArray, List.set_cons_zero, List.set_cons_succ]); (refine wpAnyH_take (i := 1) (oi := ?oi2) (v := ?v2) ?h2 (by kernel_rfl) (by kernel_rfl) (by kernel_rfl) ?hQ2 ?hy2 (by first | exact hHeld | assumption) ?_; (case h2 => (simp only [List.getElem?_toArray, List.getElem?_cons_succ, List.getElem?_cons_zero]; exact rfl)); (case hQ2 => exact fun _ _ _ h => h); (case hy2 => (refine Or.inl ⟨by rfl, ?_⟩; intro w hSw; (try dsimp only at hSw); go_simp; try (first | with_reducible rfl | rfl))); try simp only [Act.put, List.setIfInBounds_toArray, List.set_cons_zero, List.set_cons_succ]); (refine wpAnyH_take (i := 2) (oi := ?oi3) (v := ?v3) ?h3 (by kernel_rfl) (by kernel_rfl) (by kernel_rfl) ?hQ3 ?hy3 (by first | exact hHeld | assumption) ?_; (case h3 => (simp only [List.getElem?_toArray, List.getElem?_cons_succ, List.getElem?_cons_zero]; exact rfl)); (case hQ3 => exact fun _ _ _ h => h); (case hy3 => (refine Or.inl ⟨by rfl, ?_⟩; intro w hSw; (try dsimp only at hSw); go_simp; try (first | with_reducible rfl | rfl))); try simp only [Act.put, List.setIfInBounds_toArray, List.set_cons_zero, List.set_cons_succ]); (refine wpAnyH_take (i := 3) (oi := ?oi4) (v := ?v4) ?h4 (by kernel_rfl) (by kernel_rfl) (by kernel_rfl) ?hQ4 ?hy4 (by first | exact hHeld | assumption) ?_; (case h4 => (simp only [List.getElem?_toArray, List.getElem?_cons_succ, List.getElem?_cons_zero]; exact rfl)); (case hQ4 => exact fun _ _ _ h => h); (case hy4 => (refine Or.inl ⟨by rfl, ?_⟩; intro w hSw; (try dsimp only at hSw); go_simp; try (first | with_reducible rfl | rfl))); try simp only [Act.put, List.setIfInBounds_toArray, List.set_cons_zero, List.set_cons_succ]); (refine wpAnyH_take (i := 4) (oi := ?oi5) (v := ?v5) ?h5 (by kernel_rfl) (by kernel_rfl) (by kernel_rfl) ?hQ5 ?hy5 (by first | exact hHeld | assumption) ?_; (case h5 => (simp only [List.getElem?_toArray, List.getElem?_cons_succ, List.getElem?_cons_zero]; exact rfl)); (case hQ5 => exact fun _ _ _ h => h); (case hy5 => (refine Or.inl ⟨by rfl, ?_⟩; intro w hSw; (try dsimp only at hSw); go_simp; try (first | with_reducible rfl | rfl))); try simp only [Act.put, List.setIfInBounds_toArray, List.set_cons_zero, List.set_cons_succ]); (refine wpAnyH_take (i := 5) (oi := ?oi6) (v := ?v6) ?h6 (by kernel_rfl) (by kernel_rfl) (by kernel_rfl) ?hQ6 ?hy6 (by first | exact hHeld | assumption) ?_; (case h6 => (simp only [List.getElem?_toArray, List.getElem?_cons_succ, List.getElem?_cons_zero]; exact rfl)); (case hQ6 => exact fun _ _ _ h => h); (case hy6 => (refine Or.inl ⟨by rfl, ?_⟩; intro w hSw; (try dsimp only at hSw); go_simp; try (first | with_reducible rfl | rfl))); try simp only [Act.put, List.setIfInBounds_toArray, List.set_cons_zero, List.set_cons_succ]); (refine wpAnyH_take (i := 6) (oi := ?oi7) (v := ?v7) ?h7 (by kernel_rfl) (by kernel_rfl) (by kernel_rfl) ?hQ7 ?hy7 (by first | exact hHeld | assumption) ?_; (case h7 => (simp only [List.getElem?_toArray, List.getElem?_cons_succ, List.getElem?_cons_zero]; exact rfl)); (case hQ7 => exact fun _ _ _ h => h); (case hy7 => (refine Or.inl ⟨by rfl, ?_⟩; intro w hSw; (try dsimp only at hSw); go_simp; try (first | with_reducible rfl | rfl))); try simp only [Act.put, List.setIfInBounds_toArray, List.set_cons_zero, List.set_cons_succ]); (refine wpAnyH_take (i := 7) (oi := ?oi8) (v := ?v8) ?h8 (by kernel_rfl) (by kernel_rfl) (by kernel_rfl) ?hQ8 ?hy8 (by first | exact hHeld | assumption) ?_; (case h8 => (simp only [List.getElem?_toArray, List.getElem?_cons_succ, List.getElem?_cons_zero]; exact rfl)); (case hQ8 => exact fun _ _ _ h => h); (case hy8 => (refine Or.inl ⟨by rfl, ?_⟩; intro w hSw; (try dsimp only at hSw); go_simp; try (first | with_reducible rfl | rfl))); try simp only [Act.put, List.setIfInBounds_toArray, List.set_cons_zero, List.set_cons_succ]); (refine wpAnyH_take (i := 8) (oi := ?oi9) (v := ?v9) ?h9 (by kernel_rfl) (by kernel_rfl) (by kernel_rfl) ?hQ9 ?hy9 (by first | exact hHeld | assumption) ?_; (case h9 => (simp only [List.getElem?_toArray, List.getElem?_cons_succ, List.getElem?_cons_zero]; exact rfl)); (case hQ9 => exact fun _ _ _ h => h); (case hy9 => (refine Or.inl ⟨by rfl, ?_⟩; intro w hSw; (try dsimp only at hSw); go_simp; try (first | with_reducible rfl | rfl))); try simp only [Act.put, List.setIfInBounds_toArray, List.set_cons_zero, List.set_cons_succ])
    refine wpAnyH_ready (rs := [9]) (by kernel_rfl) (by simp) ?_; refine AllReadyH.cons (o := ?oi10) ?h10 (fun K hK => ?_) AllReadyH.nil; (case h10 => (simp only [List.getElem?_toArray, List.getElem?_cons_succ, List.getElem?_cons_zero]; exact rfl)); go_simp; (refine (R0.out _ hHeld.2).mono ?_; rintro e v1 ⟨rfl, hb⟩; have hk := below_keeps hb); refine hK.out _ _ ?_ (fun hNew => ?_); (· (exact ⟨hk _ _ _ hHeld.1, bl_trans hHeld.2 hb⟩)); clear hK K hHeld; revert hNew; intro hHeld; try simp only [Act.put, List.setIfInBounds_toArray, List.set_cons_zero, List.set_cons_succ]
    refine wpAnyH_take (i := 10) (oi := ?oi11) (v := ?v11) ?h11 (by kernel_rfl) (by kernel_rfl) (by kernel_rfl) ?hQ11 ?hy11 (by first | exact hHeld | assumption) ?_; (case h11 => (simp only [List.getElem?_toArray, List.getElem?_cons_succ, List.getElem?_cons_zero]; exact rfl)); (case hQ11 => exact fun _ _ _ h => h); (case hy11 => (refine Or.inl ⟨by rfl, ?_⟩; intro w hSw; (try dsimp only at hSw); go_simp; try (first | with_reducible rfl | rfl))); try simp only [Act.put, List.setIfInBounds_toArray, List.set_cons_zero, List.set_cons_succ]
    refine wpAnyH_ready (rs := [11]) (by kernel_rfl) (by simp) ?_; refine AllReadyH.cons (o := ?oi12) ?h12 (fun K hK => ?_) AllReadyH.nil; (case h12 => (simp only [List.getElem?_toArray, List.getElem?_cons_succ, List.getElem?_cons_zero]; exact rfl)); go_simp; skip; refine hK.out _ _ ?_ (fun hNew => ?_); (· (exact hHeld)); clear hK K hHeld; revert hNew; intro hHeld; try simp only [Act.put, List.setIfInBounds_toArray, List.set_cons_zero, List.set_cons_succ]
    refine wpAnyH_done (by kernel_rfl) ?_ _
    have hbx := hHeld.2
    go_wp2_with fail
    go_meet
    exact ⟨rfl, rfl, hbx⟩
  case rest =>
  obtain ⟨rfl, rfl, hb⟩ := hcut
  have hRc := HR.out.keep hb
  have hEc := Lib.hid (HE.out.keep (kept_below hb))
  have hbg : Below g w wc := hb.mono (by omega)
  have hsc := hRc.s
  have hac := hRc.at_
  have hgc := hRc.lt
  have HRc := Lib.hid hRc
  have k2 : k ≤ l.length := by omega
  have L0 := Lib.hid (letter_k (hd (l.drop k)))
  have D0 := Lib.hid (digit_k (hd (l.drop k)))
  have R1c := Lib.hid (R1.out wc hb)
  have hlw := runN_at wordB l k k2
  have hln := numN_le (l.drop k)
  have hdl : (l.drop k).length = l.length - k := List.length_drop
  have O1 := Lib.hid (one_word (t := l.drop k))
  have O2 := Lib.hid (one_num (t := l.drop k))
  have O3 := Lib.hid (one_str (t := l.drop k))
  have O4 := Lib.hid (one_tmp (t := l.drop k))
  have O5 := Lib.hid (one_sym (t := l.drop k))
  rw [List.drop_drop] at O3 O4
  have hnc : numC (l.drop k) = decide (digitB (hd (l.drop k)) = true ∨ (hd (l.drop k) = 46 ∧ digitB (hd (l.drop (k + 1))) = true)) := by unfold numC; rw [List.drop_drop]
  have hac2 : atC (l.drop k) = decide (hd (l.drop k) = 64 ∧ hd (l.drop (k + 1)) = 34) := by unfold atC; rw [List.drop_drop]
  have HNC := Lib.hid hnc
  have HAC := Lib.hid hac2
  clear hs ha hRc hnc hac2 R0 R1
  cases hlb : letterB (hd (l.drop k)) with
  | true =>
    rw [hlb] at L0
    have W1 := Lib.hid (while_word_k l k g wc hEc.out hsc k2 (by omega))
    have HO := Lib.hid (O1.out hlb)
    have hmid := extract_mid l k (runN wordB (l.drop k))
    generalize hn : runN wordB (l.drop k) = n at *
    clear hlb hn
    go_wp2_with fail
    refine (L0.out _).mono ?_
    rintro e w2 ⟨rfl, rfl⟩
    go_wp2_with fail
    refine W1.out.mono ?_
    rintro e w3 ⟨rfl, hb2⟩
    have hR3 := HRc.out.keep hb2
    have hs3 := hR3.s
    have PK := Lib.hid (put_k l k g ts 1 ((l.drop k).take n) k (k + n) w3 hR3 (by omega))
    have hbg3 := hbg.trans (hb2.mono (by omega))
    have k3 : (k : Int) ≤ ((k + n : Nat) : Int) := by omega
    have k4 : ((k + n : Nat) : Int) ≤ (l.length : Int) := by omega
    generalize (l.drop k).take n = tx at *
    clear hb2 hR3
    go_wp2_with fail
    refine PK.out.mono ?_
    rintro e w4 ⟨rfl, hR4, hb4⟩
    go_wp2_with fail
    go_ret
    rw [HO.out]
    exact ⟨rfl, hR4, hbg3.trans hb4⟩
  | false =>
    rw [hlb] at L0
    go_wp2_with fail
    refine (L0.out _).mono ?_
    rintro e w2 ⟨rfl, rfl⟩
    obtain ⟨w0, hw0⟩ : ∃ w0, w0 = wc := ⟨_, rfl⟩
    subst hw0
    go_upto_region 6 with fail
    go_cut [41] (fun s wx => s = .bool (numC (l.drop k)) ∧ Below w0.heap.size w0 wx)
    case first =>
      have hnc := HNC.out
      have HR1 := R1c.out
      cases hd0 : digitB (hd (l.drop k)) with
      | true =>
        rw [hd0] at hnc D0
        have HN2 := Lib.hid hnc
        clear hnc hd0 hlb
        go_wp2_with fail
        refine (D0.out _).mono ?_
        rintro e w3 ⟨rfl, rfl⟩
        go_wp2_with fail
        go_meet
        exact ⟨by rw [HN2.out]; simp, bl_refl _⟩
      | false =>
        rw [hd0] at hnc D0
        have HN2 := Lib.hid hnc
        have D1 := Lib.hid (digit_k (hd (l.drop (k + 1))))
        replace HR1 := Lib.hid HR1
        clear hnc hd0 hlb
        by_cases h46 : hd (l.drop k) = 46
        · rw [h46] at D0
          generalize hd (l.drop k) = c at *
          subst h46
          generalize hd (l.drop (k + 1)) = c1 at *
          go_wp2_with fail
          refine (D0.out _).mono ?_
          rintro e w3 ⟨rfl, rfl⟩
          go_wp2_with fail
          refine HR1.out.mono ?_
          rintro e w4 ⟨rfl, hb4⟩
          go_wp2_with fail
          refine (D1.out _).mono ?_
          rintro e w5 ⟨rfl, rfl⟩
          go_wp2_with fail
          go_meet
          exact ⟨by rw [HN2.out]; simp, hb4⟩
        · generalize hd (l.drop k) = c at *
          go_wp2_with fail
          refine (D0.out _).mono ?_
          rintro e w3 ⟨rfl, rfl⟩
          go_wp2_with fail
          go_meet
          exact ⟨by rw [HN2.out]; simp [h46], bl_refl _⟩
    case rest =>
    obtain ⟨rfl, hb2⟩ := hcut
    have hR2 := HRc.out.keep hb2
    have hE2 := Lib.hid (hEc.out.keep (kept_below hb2))
    have hbg2 : Below g w wc := hbg.trans (hb2.mono (by omega))
    have hs2 := hR2.s
    have ha2 := hR2.at_
    have hg2 := hR2.lt
    have fa2 := hR2.fa
    have HR2 := Lib.hid hR2
    have hE0 := Lib.hid (HE.out.keep (kept_below (bl_trans hb hb2)))
    clear hsc hac hgc hb2 hR2 HRc HR HE hbg hb hEc
    cases hnu : numC (l.drop k) with
    | true =>
      have HO := Lib.hid (O2.out hlb hnu)
      have N1 := Lib.hid (number_k l k g wc hE2.out hs2 ha2 k2 (by omega))
      have hmid := extract_mid l k (numN (l.drop k))
      have hn2 : k + numN (l.drop k) ≤ l.length := by omega
      have SK := Lib.hid (fun v (h : Env v) => shape_k ((l.drop k).take (numN (l.drop k))) v h (by rw [List.length_take]; omega))
      generalize hn : numN (l.drop k) = n at *
      clear hlb hn hnu O1 O3 O4 O5 L0 D0 R1c HNC HAC
      go_wp2_with fail
      refine N1.out.mono ?_
      rintro e w3 ⟨rfl, hb3⟩
      have hR3 := HR2.out.keep hb3
      have hs3 := hR3.s
      have PK := Lib.hid (put_k l k g ts 2 ((l.drop k).take n) k (k + n) w3 hR3 (by omega))
      have hbg3 := hbg2.trans (hb3.mono (by omega))
      have hE3 := Lib.hid (hE2.out.keep (kept_below hb3))
      have k3 : (k : Int) ≤ ((k + n : Nat) : Int) := by omega
      have k4 : ((k + n : Nat) : Int) ≤ (l.length : Int) := by omega
      have hg3 := hR3.lt
      generalize (l.drop k).take n = tx at *
      clear hb3 hR3
      go_wp2_with fail
      refine PK.out.mono ?_
      rintro e w4 ⟨rfl, hR4, hb4⟩
      have hs4 := hR4.s
      have hE4 := Lib.hid (hE3.out.keepB hg hb4)
      have hbg4 := hbg3.trans hb4
      have hg4 := hR4.lt
      have HR4 := Lib.hid hR4
      clear hR4 hb4
      go_wp2_with fail
      refine (SK.out _ hE4.out).mono ?_
      rintro e w5 ⟨rfl, hb5⟩
      cases hsb : shapeB tx with
      | true =>
        have ho := HO.out
        rw [hsb, if_pos rfl] at ho
        have HO2 := Lib.hid ho
        clear ho hsb
        go_wp2_with fail
        go_ret
        rw [HO2.out]
        exact ⟨rfl, HR4.out.keep hb5, hbg4.trans (hb5.mono (by omega))⟩
      | false =>
        have ho := HO.out
        rw [hsb, if_neg (by decide)] at ho
        have HO2 := Lib.hid ho
        clear ho hsb
        go_wp2_with fail
        go_ret
        rw [HO2.out]
        exact ⟨rfl, hbg4.trans (hb5.mono (by omega))⟩
    | false =>
      by_cases h34 : hd (l.drop k) = 34
      · have HO := Lib.hid (O3.out hlb hnu h34)
        rw [h34]
        have TK := text_k l k g ts wc hE2.out HR2.out k2 hl
        unfold txAt at TK
        rw [show k + 1 = k + 1 from rfl] at TK
        clear hlb hnu O1 O2 O4 O5 L0 D0 R1c HNC HAC h34
        cases htx : txtP (l.drop (k + 1)) with
        | none =>
          rw [htx] at HO TK
          have HO2 := Lib.hid (show oneP (l.drop k) = none from HO.out)
          replace TK := Lib.hid TK
          clear htx HO
          go_wp2_with fail
          refine TK.out.mono ?_
          rintro e w3 ⟨rfl, hR3, hb3⟩
          have ha3 := hR3.at_
          have PK := put_k l k g ts 3 [] k k w3 hR3 (by omega)
          rw [show strOfL [] = ⟨#[]⟩ from rfl] at PK
          replace PK := Lib.hid PK
          have hbg3 := hbg2.trans hb3
          clear hR3 hb3
          go_wp2_with fail
          refine PK.out.mono ?_
          rintro e w4 ⟨rfl, hR4, hb4⟩
          go_wp2_with fail
          go_ret
          rw [HO2.out]
          exact ⟨rfl, hbg3.trans hb4⟩
        | some x =>
          rw [htx] at HO TK
          have HO2 := Lib.hid (show oneP (l.drop k) = some (3, x.1, x.2 + 1) from HO.out)
          replace TK := Lib.hid TK
          clear htx HO
          go_wp2_with fail
          refine TK.out.mono ?_
          rintro e w3 ⟨rfl, hR3, hb3⟩
          have ha3 := hR3.at_
          have PK := Lib.hid (put_k l _ g ts 3 x.1 k (k + 1 + x.2) w3 hR3 (by omega))
          have hbg3 := hbg2.trans hb3
          clear hR3 hb3
          go_wp2_with fail
          refine PK.out.mono ?_
          rintro e w4 ⟨rfl, hR4, hb4⟩
          go_wp2_with fail
          go_ret
          rw [HO2.out]
          refine ⟨rfl, ?_, hbg3.trans hb4⟩
          dsimp only
          rw [show k + (x.2 + 1) = k + 1 + x.2 by omega]
          exact hR4
      · have h34b : (hd (l.drop k) == 34) = false := by rw [beq_eq_false_iff_ne]; exact h34
        go_upto_region 14 with fail
        clear h34b
        have R1w := rune_k l (k + 1) g wc hE2.out hs2
        rw [show ((k + 1 : Nat) : Int) = (k : Int) + 1 by omega] at R1w
        replace R1w := Lib.hid R1w
        obtain ⟨w1, hw1⟩ : ∃ w1, w1 = wc := ⟨_, rfl⟩
        subst hw1
        go_cut [93] (fun s wx => s = .bool (atC (l.drop k)) ∧ Below w1.heap.size w1 wx)
        case first =>
          have hac := HAC.out
          by_cases h64 : hd (l.drop k) = 64
          · have hac2 : atC (l.drop k) = decide (hd (l.drop (k + 1)) = 34) := by rw [hac]; simp [h64]
            have HA2 := Lib.hid hac2
            clear hac hac2 hlb hnu
            generalize hd (l.drop k) = c at *
            subst h64
            generalize hd (l.drop (k + 1)) = c1 at *
            go_wp2_with fail
            refine R1w.out.mono ?_
            rintro e w4 ⟨rfl, hb4⟩
            go_wp2_with fail
            go_meet
            exact ⟨by rw [HA2.out, ← Bool.beq_eq_decide_eq], hb4⟩
          · have hac2 : atC (l.drop k) = false := by rw [hac]; simp [h64]
            have HA2 := Lib.hid hac2
            clear hac hac2 hlb hnu
            generalize hd (l.drop k) = c at *
            go_wp2_with fail
            go_meet
            exact ⟨by rw [HA2.out], bl_refl _⟩
        case rest =>
        obtain ⟨rfl, hb3⟩ := hcut
        have hR3 := HR2.out.keep hb3
        have hE3 := Lib.hid (hE2.out.keep (kept_below hb3))
        have hbg3 : Below g w wc := hbg2.trans (hb3.mono (by omega))
        have hs3 := hR3.s
        have ha3 := hR3.at_
        have hg3 := hR3.lt
        have fa3 := hR3.fa
        have HR3 := Lib.hid hR3
        clear hb3 hR3 hE2 HR2 hs2 ha2 fa2 hE0 hg2 hbg2 R1w
        cases hat : atC (l.drop k) with
        | true =>
          have HO := Lib.hid (O4.out hlb hnu h34 hat)
          have hk1 : k + 1 < l.length := by
            have := (of_decide_eq_true (HAC.out.symm.trans hat)).2
            exact hd_len l (k + 1) (by omega)
          have hA := HR3.out.setAt (k + 1)
          have hEA := hE3.out.keepB hg hA.2
          have TK := text_k l (k + 1) g ts _ hEA hA.1 (by omega) hl
          unfold txAt at TK
          rw [show k + 1 + 1 = k + 2 from rfl] at TK
          have hbA := hbg3.trans hA.2
          have hqi : ((k + 1 : Nat) : Int) = (k : Int) + 1 := by omega
          have HQI := Lib.hid hqi
          clear hlb hnu O1 O2 O3 O5 L0 D0 HNC HAC h34 hat hA hEA
          cases htx : txtP (l.drop (k + 2)) with
          | none =>
            rw [htx] at HO TK
            have HO2 := Lib.hid (show oneP (l.drop k) = none from HO.out)
            replace TK := Lib.hid TK
            clear htx HO hqi
            go_wp2_with fail
            rw [← HQI.out]
            refine TK.out.mono ?_
            rintro e w3 ⟨rfl, hR3, hb3⟩
            have ha3 := hR3.at_
            have PK := put_k l (k + 1) g ts 4 [] k (k + 1) w3 hR3 (by omega)
            rw [show strOfL [] = ⟨#[]⟩ from rfl] at PK
            replace PK := Lib.hid PK
            have hbg3 := hbA.trans hb3
            clear hR3 hb3
            go_wp2_with fail
            refine PK.out.mono ?_
            rintro e w4 ⟨rfl, hR4, hb4⟩
            go_wp2_with fail
            go_ret
            rw [HO2.out]
            exact ⟨rfl, hbg3.trans hb4⟩
          | some x =>
            rw [htx] at HO TK
            have HO2 := Lib.hid (show oneP (l.drop k) = some (4, x.1, x.2 + 2) from HO.out)
            replace TK := Lib.hid TK
            clear htx HO hqi
            go_wp2_with fail
            rw [← HQI.out]
            refine TK.out.mono ?_
            rintro e w3 ⟨rfl, hR3, hb3⟩
            have ha3 := hR3.at_
            have PK := Lib.hid (put_k l _ g ts 4 x.1 k (k + 2 + x.2) w3 hR3 (by omega))
            have hbg3 := hbA.trans hb3
            clear hR3 hb3
            go_wp2_with fail
            refine PK.out.mono ?_
            rintro e w4 ⟨rfl, hR4, hb4⟩
            go_wp2_with fail
            go_ret
            rw [HO2.out]
            refine ⟨rfl, ?_, hbg3.trans hb4⟩
            dsimp only
            rw [show k + (x.2 + 2) = k + 2 + x.2 by omega]
            exact hR4
        | false =>
          have HO := Lib.hid (O5.out hlb hnu h34 hat)
          have SK := Lib.hid (symbol_k l k g ts wc HR3.out hk (by omega) (by omega))
          clear hlb hnu O1 O2 O3 O4 L0 D0 HNC HAC h34 hat
          go_wp2_with fail
          refine SK.out.mono ?_
          intro e w4 h4
          replace h4 := h4.of hbg3
          cases hsy : symP (l.drop k) with
          | none =>
            rw [hsy] at h4 HO
            obtain ⟨rfl, h4⟩ := h4
            have HO2 := Lib.hid (show oneP (l.drop k) = none from HO.out)
            clear hsy HO
            go_wp2_with fail
            go_ret
            rw [HO2.out]
            exact ⟨rfl, h4⟩
          | some s =>
            rw [hsy] at h4 HO
            obtain ⟨rfl, h4⟩ := h4
            have HO2 := Lib.hid (show oneP (l.drop k) = some (5, s, s.length) from HO.out)
            clear hsy HO
            go_wp2_with fail
            go_ret
            rw [HO2.out]
            exact ⟨rfl, h4⟩

end Go.Proofs.YtnamnldijopkfaaDoor
