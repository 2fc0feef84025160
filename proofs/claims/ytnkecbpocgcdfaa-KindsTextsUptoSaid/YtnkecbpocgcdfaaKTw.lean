/-
  kinds.Text, walked: of a type of no more than 1048576 letters and parts.
-/
import Derived.Test.YtnkecbpocgcdfaaKTx
import Derived.Laws.Concat
namespace Go.Proofs.Ytnkecbpocgcdfaa
open Go.ChangeShapes Go.WideShapes Go.ChangeAt Go.RowKit Go.Joins

def strOfL (l : List UInt8) : ByteArray := ⟨l.toArray⟩

theorem grown_kept {a w w' : World} {row : Option Nat} (h : Kept a w) (hg : w.grownBy w' row) (hn : ∀ g, row = some g → a.heap.size ≤ g) : Kept a w' := fun b o v q =>
  hg.cell (h _ _ _ q) (fun e => by have := hn b e.symm; have := lt_of_cell q; omega)

theorem catL {P : Program} (a b : List UInt8) (h : a.length + b.length ≤ 9223372036854775807) (v : World) : (Op.stringOp .add (strOfL a) (strOfL b)).run P v = .ok (.string (strOfL (a ++ b))) v := by
  have e1 : (strOfL a).size = a.length := by show a.toArray.size = _; simp
  have e2 : (strOfL b).size = b.length := by show b.toArray.size = _; simp
  have e3 : strOfL a ++ strOfL b = strOfL (a ++ b) := by
    apply ByteArray.ext
    simp [strOfL]
  rw [run_string_add_sum v (strOfL a) (strOfL b) (by omega), e3]

theorem quoted_s (s : ByteArray) (w : World) (hs : s.size ≤ 28000000000000) :
    Calls Try.prog 38 #[.string s] w fun e w' => e = .returned (.string (strOfL (quoteL s))) ∧ Below w.heap.size w w' := quoted_k s w hs

/-- strings.Join of the first pieces of a row -/
theorem join_row {W : World} {oa : Option Addr} {oc : Nat} {ps : List (List UInt8)} (hc : ps.length ≤ oc) (hl : lensP ps ≤ 1048576 * 28)
    (hcells : 0 < ps.length → ∃ g, oa = some ⟨g, 0, none⟩ ∧ ∀ j u, (ps.map fun l => Value.string (strOfL l))[j]? = some u → W.cell? ⟨g, j, none⟩ = some u) (m : Nat) (hm : m ≤ ps.length) (v : World) (hK : Kept W v) :
    Calls Try.prog 39 #[.slice oa m oc, .string ⟨#[44, 32]⟩] v fun e w' => e = .returned (.string (strOfL (Lib.join (ps.take m) [44, 32]))) ∧ Below v.heap.size v w' := by
  rcases Nat.eq_zero_or_pos m with h0 | h0
  · subst h0
    refine (Try.strings_Join_none oa oc _ v).mono ?_
    rintro e w' ⟨rfl, rfl⟩
    exact ⟨rfl, bl_refl _⟩
  · obtain ⟨g, rfl, hcs⟩ := hcells (by omega)
    have e1 : ((ps.take m).map strOfL).length = m := by simp; omega
    have e2 : ((ps.take m).map strOfL).map (fun x => x.data.toList) = ps.take m := by
      rw [List.map_map]
      have : ((fun x : ByteArray => x.data.toList) ∘ strOfL) = id := by funext l; simp [strOfL]
      rw [this, List.map_id]
    have h1 := join_le (ps.take m)
    have h2 := lensP_take ps m
    have hx : ps[0]? = some ps[0] := List.getElem?_eq_getElem (by omega)
    have key := Try.strings_Join g 0 oc ((ps.take m).map strOfL) ⟨#[44, 32]⟩ v (fun j x h => ?_) (lt_of_cell (hK _ _ _ (hcs 0 _ (by rw [List.getElem?_map, hx]; rfl)))) (by
      have : ps.length ≤ lensP ps := by
        clear hc hl hcells hm h1 h2 e1 e2 hx hcs
        induction ps with
        | nil => simp
        | cons x r ih => simp only [List.length_cons, lensP]; omega
      omega) (by omega) (by
      rw [e2]
      show (Lib.join (ps.take m) [44, 32]).length ≤ _
      omega)
    · rw [e1, e2] at key
      exact key
    · rw [List.getElem?_map] at h
      obtain ⟨y, hy, rfl⟩ := Option.map_eq_some_iff.1 h
      rw [List.getElem?_take] at hy
      split at hy
      · rw [Nat.zero_add]
        exact hK _ _ _ (hcs j _ (by rw [List.getElem?_map, hy]; rfl))
      · simp at hy

set_option maxHeartbeats 2000000 in
set_option maxRecDepth 100000 in
theorem text_k {w : World} {T : Ty} {vi vn : Value} (h : IsTy w T vi vn) : T.bk ≤ 1048576 → ∀ w' : World, Kept w w' →
    Calls Try.prog 21 #[.agg #[.int .i64 T.kind, vi, vn]] w' fun e w2 => e = .returned (.string (strOfL (txt T))) ∧ Below w'.heap.size w' w2 := by
  obtain ⟨i0, hi0, hz0, hz1, hz2⟩ := info_parts info_str
  induction h with
  | mk k ts ns vn a c I N hk hn h1 h2 h3 h4 ih =>
    intro hbk w' hK
    have hsz : bkL ts + bkN ns + 1 ≤ 1048576 := by simpa [Ty.bk] using hbk
    have hl1 := bkL_length ts
    have hl2 := bkN_length ns
    have HIH := Lib.hid (fun j (hj : j < ts.length) => ih j hj (by have := bkL_mem ts j hj; omega))
    have HC := Lib.hid h3
    have HSH := Lib.hid (fun j (hj : j < ts.length) => (h4 j hj).shape)
    obtain ⟨na, nc, rfl, hn1, hn2, hn3⟩ := (hn.keep hK).out
    have HN := Lib.hid hn3
    have HK := Lib.hid hK
    have HPL := Lib.hid (pcs_lens k ns 0 ts)
    have HNL := Lib.hid (show ∀ j (hj : j < ns.length), ns[j].size ≤ 1048576 from fun j hj => by
      have : ∀ (l : List ByteArray) (x : ByteArray), x ∈ l → x.size ≤ bkN l := by
        intro l x hx
        induction l with
        | nil => simp at hx
        | cons y l ih2 =>
          simp only [bkN]
          rcases List.mem_cons.1 hx with e | e
          · subst e; omega
          · have := ih2 e; omega
      have := this ns ns[j] (List.getElem_mem hj)
      omega)
    clear ih h3 h4 hn hn3 hK hbk
    show Calls Try.prog 21 #[.agg #[.int .i64 k, .slice a ts.length c, .slice na ns.length nc]] w' _
    go_enter Try.func21, Try.ntmps21
    go_wp2_with fail
    go_loopw [3, 10] (fun p i wr => ∃ (j : Nat) (oa : Option Addr) (oc : Nat), j ≤ ts.length ∧ i = .int .i64 j ∧ p = .slice oa j oc ∧ wr.ownsRow (w'.heap.size + 1) 9 1 (.slice oa j oc) j (((pcs k ns 0 ts).take j).map fun l => .string (strOfL l)) ∧
      Kept w' wr ∧ Below w'.heap.size w' wr ∧ w'.heap.size + 1 ≤ wr.heap.size ∧
      wr.cell? ⟨w'.heap.size, 0, none⟩ = some (.int .i64 k) ∧ wr.cell? ⟨w'.heap.size, 1, none⟩ = some (.slice a ts.length c) ∧ wr.cell? ⟨w'.heap.size, 2, none⟩ = some (.slice na ns.length nc)) (fun _ i _ => ts.length - (intOf i).toNat)
    case atStart =>
      refine ⟨0, none, 0, Nat.zero_le _, rfl, rfl, World.ownsRow_nil _ _ _ _, kept_alloc (kept_refl _) _, ?_, ?_, ?_, ?_, ?_⟩
      · (repeat (first | with_reducible assumption | with_reducible exact bl_refl _ | with_reducible refine bl_alloc ?_ _ | with_reducible refine bl_set ?_ (by simp) _ | with_reducible refine bl_drew ?_ | with_reducible refine bl_drewN ?_ _ | with_reducible refine bl_trans ?_ (by assumption)))
      all_goals simp
    case round =>
      obtain ⟨j, oa, oc, hj, rfl, rfl, hown, hkr, hbr, hlw, c0, c1, c2⟩ := hrel
      have HOWN := Lib.hid hown
      have HKR := Lib.hid hkr
      clear hown hkr
      have cl := lt_of_cell c0
      by_cases hlt : j < ts.length
      · obtain ⟨b, o, rfl, hcs⟩ := HC.out (by intro e; rw [e] at hlt; simp at hlt)
        have q0 := HKR.out _ _ _ (HK.out _ _ _ (hcs j hlt).1)
        have q1 := HKR.out _ _ _ (HK.out _ _ _ (hcs j hlt).2.1)
        have q2 := HKR.out _ _ _ (HK.out _ _ _ (hcs j hlt).2.2)
        have k1 : (j : Int) < (ts.length : Int) := by omega
        have HPA := Lib.hid (pcs_take k ns ts j hlt)
        have HX := Lib.hid (HIH.out j hlt)
        obtain ⟨xa, xc, ya, yc, ei, en⟩ := HSH.out j hlt
        rw [ei] at q1 HX
        rw [en] at q2 HX
        clear hcs ei en
        have htb := bkL_mem ts j hlt
        generalize ts[j] = tx at *
        go_wp2_with fail
        refine (HX.out _ (kept_trans HK.out (kept_alloc HKR.out _))).mono ?_
        rintro e w2 ⟨rfl, hb⟩
        have hlw2 := hb.size
        have HO2 := Lib.hid ((HOWN.out.alloc _).kept (grown_of_below hb none) (by cases (Value.slice oa j oc).ownBlock <;> simp))
        have HK2 := Lib.hid (kept_trans (kept_alloc HKR.out _) (below_keeps hb))
        have c0 := below_keeps hb _ _ _ (cell_alloc_keep c0)
        have c1 := below_keeps hb _ _ _ (cell_alloc_keep c1)
        have c2 := below_keeps hb _ _ _ (cell_alloc_keep c2)
        have hbr : Below w'.heap.size w' w2 := by (repeat (first | with_reducible assumption | with_reducible exact bl_refl _ | with_reducible refine bl_alloc ?_ _ | with_reducible refine bl_set ?_ (by first | (simp; done) | (simp; omega)) _ | with_reducible refine bl_drew ?_ | with_reducible refine bl_drewN ?_ _ | with_reducible refine bl_trans ?_ (by assumption)))
        have cl := lt_of_cell c0
        clear hb HX HOWN HKR q0 q1 q2
        obtain ⟨p, hp⟩ : ∃ p, piece k ns j (txt tx) = p := ⟨_, rfl⟩
        have HP := Lib.hid hp
        by_cases hkn : k = 11 ∧ j < ns.length
        · obtain ⟨hk11, hjn⟩ := hkn
          have k2 : (j : Int) < (ns.length : Int) := by omega
          obtain ⟨bn, on, rfl, hcn⟩ := HN.out (by intro e; rw [e] at hjn; simp at hjn)
          have p0 := HK2.out _ _ _ (hcn j hjn)
          have hns := HNL.out j hjn
          have QK := Lib.hid (fun v => quoted_s ns[j] v (by omega))
          have hql := quoteL_len ns[j]
          have htl := txt_len tx
          obtain ⟨m, hm⟩ : ∃ m, quoteL ns[j] ++ [58, 32] = m := ⟨_, rfl⟩
          have hml : m.length ≤ 5 * ns[j].size + 4 := by rw [← hm]; simp; omega
          have A1 : ∀ v, (Op.stringOp .add (strOfL (quoteL ns[j])) ⟨#[58, 32]⟩).run Try.prog v = .ok (.string (strOfL m)) v := by
            rw [← hm]
            exact catL (quoteL ns[j]) [58, 32] (by simp; omega)
          have A2 : ∀ v, (Op.stringOp .add (strOfL m) (strOfL (txt tx))).run Try.prog v = .ok (.string (strOfL p)) v := by
            rw [← hp, piece, if_pos ⟨hk11, hjn⟩, List.getD, List.getElem?_eq_getElem hjn]
            show ∀ v, _ = Result.ok (Value.string (strOfL (quoteL ns[j] ++ [58, 32] ++ txt tx))) v
            rw [hm]
            exact catL m (txt tx) (by omega)
          have hkb : (k == 11) = true := by rw [hk11]; rfl
          clear hcn hql htl hm hml hp hk11
          generalize ns[j] = nj at *
          go_wp2_with fail
          refine (QK.out _).mono ?_
          rintro e w3 ⟨rfl, hb⟩
          have hlw3 := hb.size
          have HO3 := Lib.hid (HO2.out.kept (grown_of_below hb none) (by cases (Value.slice oa j oc).ownBlock <;> simp))
          have HK3 := Lib.hid (kept_trans HK2.out (below_keeps hb))
          have c0 := below_keeps hb _ _ _ c0; have c1 := below_keeps hb _ _ _ c1; have c2 := below_keeps hb _ _ _ c2
          have hbr : Below w'.heap.size w' w3 := by (repeat (first | with_reducible assumption | with_reducible exact bl_refl _ | with_reducible refine bl_alloc ?_ _ | with_reducible refine bl_set ?_ (by first | (simp; done) | (simp; omega)) _ | with_reducible refine bl_drew ?_ | with_reducible refine bl_drewN ?_ _ | with_reducible refine bl_trans ?_ (by assumption)))
          have cl := lt_of_cell c0
          clear hb
          have HGW := Lib.hid (fun (o : Nat) (h : (Value.slice oa j oc).ownBlock = some o) => (HO3.out.lt o h).1)
          go_wp2_with (at_builtin; (refine wpList_append_lies _ rfl _ _ _ rfl (w'.heap.size + 1) 9 i0 _ 1 16 Try.underlying24 hi0 hz0 hz1 hz2 (by rfl) (by omega) (.slice oa j oc) j (((pcs k ns 0 ts).take j).map fun l => .string (strOfL l)) (by rfl) (HO3.out.alloc _) ⟨w3.heap.size, 0, none⟩ 1 1 [.string (strOfL p)] (by rfl) (by rfl) (World.news_of_block (heap_alloc_new w3 _)) (by simp [Value.oneCell']) (by omega) (by unfold maxLen; omega) (by omega) (by simp; omega) (w3.heap.size + 1) (by simp) ?_; intro g cap w4 hown4 hgrow4 hat4 hlt4))
          have HO4 := Lib.hid hown4
          have HG4 := Lib.hid hgrow4
          clear hown4 hgrow4 hat4
          go_roundw
          case rel =>
            have kg : ∀ {a : World}, Kept a w3 → (∀ o, (Value.slice oa j oc).ownBlock = some o → a.heap.size ≤ o) → Kept a w4 := fun h hn => grown_kept (kept_alloc h _) HG4.out hn
            refine ⟨j + 1, some ⟨g, 0, none⟩, cap, by omega, by go_num, rfl, ?_, ?_, ?_, ?_, ?_, ?_, ?_⟩
            · rw [HPA.out, HP.out, List.map_append]
              exact HO4.out
            · exact kg HK3.out (fun o h => by have := HGW.out o h; omega)
            · have hb4 : Below w'.heap.size w' (w3.alloc (Obj.cells #[.string (strOfL p)] 9)) := bl_alloc hbr _
              exact hb4.grown HG4.out hb4.size (fun o h => by have := HGW.out o h; omega)
            · have := HG4.out.size
              simp at this
              omega
            · exact HG4.out.cell (cell_alloc_keep c0) (fun e => by have := HGW.out w'.heap.size e.symm; omega)
            · exact HG4.out.cell (cell_alloc_keep c1) (fun e => by have := HGW.out w'.heap.size e.symm; omega)
            · exact HG4.out.cell (cell_alloc_keep c2) (fun e => by have := HGW.out w'.heap.size e.symm; omega)
          case measure => simp [intOf]; omega
        · have hp2 : txt tx = p := by rw [← hp, piece, if_neg hkn]
          clear hp
          by_cases hk11 : k = 11
          · have k2 : ¬ (j : Int) < (ns.length : Int) := by omega
            have hkb : (k == 11) = true := by rw [hk11]; rfl
            rw [hp2]
            clear hp2 hk11
            have HGW := Lib.hid (fun (o : Nat) (h : (Value.slice oa j oc).ownBlock = some o) => (HO2.out.lt o h).1)
            go_wp2_with (at_builtin; (refine wpList_append_lies _ rfl _ _ _ rfl (w'.heap.size + 1) 9 i0 _ 1 16 Try.underlying24 hi0 hz0 hz1 hz2 (by rfl) (by omega) (.slice oa j oc) j (((pcs k ns 0 ts).take j).map fun l => .string (strOfL l)) (by rfl) (HO2.out.alloc _) ⟨w2.heap.size, 0, none⟩ 1 1 [.string (strOfL p)] (by rfl) (by rfl) (World.news_of_block (heap_alloc_new w2 _)) (by simp [Value.oneCell']) (by omega) (by unfold maxLen; omega) (by omega) (by simp; omega) (w2.heap.size + 1) (by simp) ?_; intro g cap w4 hown4 hgrow4 hat4 hlt4))
            have HO4 := Lib.hid hown4
            have HG4 := Lib.hid hgrow4
            clear hown4 hgrow4 hat4
            go_roundw
            case rel =>
              have kg : ∀ {a : World}, Kept a w2 → (∀ o, (Value.slice oa j oc).ownBlock = some o → a.heap.size ≤ o) → Kept a w4 := fun h hn => grown_kept (kept_alloc h _) HG4.out hn
              refine ⟨j + 1, some ⟨g, 0, none⟩, cap, by omega, by go_num, rfl, ?_, ?_, ?_, ?_, ?_, ?_, ?_⟩
              · rw [HPA.out, HP.out, List.map_append]
                exact HO4.out
              · exact kg HK2.out (fun o h => by have := HGW.out o h; omega)
              · have hb4 : Below w'.heap.size w' (w2.alloc (Obj.cells #[.string (strOfL p)] 9)) := bl_alloc hbr _
                exact hb4.grown HG4.out hb4.size (fun o h => by have := HGW.out o h; omega)
              · have := HG4.out.size
                simp at this
                omega
              · exact HG4.out.cell (cell_alloc_keep c0) (fun e => by have := HGW.out w'.heap.size e.symm; omega)
              · exact HG4.out.cell (cell_alloc_keep c1) (fun e => by have := HGW.out w'.heap.size e.symm; omega)
              · exact HG4.out.cell (cell_alloc_keep c2) (fun e => by have := HGW.out w'.heap.size e.symm; omega)
            case measure => simp [intOf]; omega
          · have hkb : (k == 11) = false := by rw [beq_eq_false_iff_ne]; exact hk11
            rw [hp2]
            clear hp2 hk11
            have HGW := Lib.hid (fun (o : Nat) (h : (Value.slice oa j oc).ownBlock = some o) => (HO2.out.lt o h).1)
            go_wp2_with (at_builtin; (refine wpList_append_lies _ rfl _ _ _ rfl (w'.heap.size + 1) 9 i0 _ 1 16 Try.underlying24 hi0 hz0 hz1 hz2 (by rfl) (by omega) (.slice oa j oc) j (((pcs k ns 0 ts).take j).map fun l => .string (strOfL l)) (by rfl) (HO2.out.alloc _) ⟨w2.heap.size, 0, none⟩ 1 1 [.string (strOfL p)] (by rfl) (by rfl) (World.news_of_block (heap_alloc_new w2 _)) (by simp [Value.oneCell']) (by omega) (by unfold maxLen; omega) (by omega) (by simp; omega) (w2.heap.size + 1) (by simp) ?_; intro g cap w4 hown4 hgrow4 hat4 hlt4))
            have HO4 := Lib.hid hown4
            have HG4 := Lib.hid hgrow4
            clear hown4 hgrow4 hat4
            go_roundw
            case rel =>
              have kg : ∀ {a : World}, Kept a w2 → (∀ o, (Value.slice oa j oc).ownBlock = some o → a.heap.size ≤ o) → Kept a w4 := fun h hn => grown_kept (kept_alloc h _) HG4.out hn
              refine ⟨j + 1, some ⟨g, 0, none⟩, cap, by omega, by go_num, rfl, ?_, ?_, ?_, ?_, ?_, ?_, ?_⟩
              · rw [HPA.out, HP.out, List.map_append]
                exact HO4.out
              · exact kg HK2.out (fun o h => by have := HGW.out o h; omega)
              · have hb4 : Below w'.heap.size w' (w2.alloc (Obj.cells #[.string (strOfL p)] 9)) := bl_alloc hbr _
                exact hb4.grown HG4.out hb4.size (fun o h => by have := HGW.out o h; omega)
              · have := HG4.out.size
                simp at this
                omega
              · exact HG4.out.cell (cell_alloc_keep c0) (fun e => by have := HGW.out w'.heap.size e.symm; omega)
              · exact HG4.out.cell (cell_alloc_keep c1) (fun e => by have := HGW.out w'.heap.size e.symm; omega)
              · exact HG4.out.cell (cell_alloc_keep c2) (fun e => by have := HGW.out w'.heap.size e.symm; omega)
            case measure => simp [intOf]; omega
      · have hje : j = ts.length := by omega
        subst hje
        obtain ⟨ps, hps⟩ : ∃ ps, pcs k ns 0 ts = ps := ⟨_, rfl⟩
        have hpl : ps.length = ts.length := by rw [← hps]; exact pcs_len k ns ts 0
        obtain ⟨R, hR0⟩ : ∃ R, wrapT k ps = R := ⟨_, rfl⟩
        have hR := Lib.hid hR0
        have HT := Lib.hid (show txt (.mk k ts ns) = R by rw [txt, hps, hR0])
        have hown := HOWN.out
        have hlp := HPL.out
        rw [hps] at hown hlp
        simp only [List.drop_zero] at hlp
        rw [List.take_of_length_le (by omega)] at hown
        have hoc : ps.length ≤ oc := by
          obtain ⟨_, _, e, h1, _⟩ := row_shape hown
          simp only [Value.slice.injEq] at e
          omega
        have HROW := Lib.hid (fun (h0 : 0 < ts.length) => row_cells hown h0)
        have JJ := Lib.hid (join_row (W := wr) (oa := oa) (oc := oc) (ps := ps) hoc (by omega) (fun h0 => by
          obtain ⟨g, h1, _, h2⟩ := row_cells hown (by omega)
          exact ⟨g, h1, h2⟩))
        have hjl := join_le ps
        have JN := Lib.hid (fun v (q : Kept wr v) => JJ.out ps.length (Nat.le_refl _) v q)
        rw [List.take_length, hpl] at JN
        clear hown HOWN hR0 hps hlw
        by_cases e10 : k = 10
        · subst e10
          have hR2 : [108, 105, 115, 116, 60] ++ Lib.join ps [44, 32] ++ [62] = R := by rw [← hR.out]; simp [wrapT]
          have A1 : ∀ v, (Op.stringOp .add ⟨#[108, 105, 115, 116, 60]⟩ (strOfL (Lib.join ps [44, 32]))).run Try.prog v = .ok (.string (strOfL ([108, 105, 115, 116, 60] ++ Lib.join ps [44, 32]))) v := catL _ _ (by simp; omega)
          have A2 : ∀ v, (Op.stringOp .add (strOfL ([108, 105, 115, 116, 60] ++ Lib.join ps [44, 32])) ⟨#[62]⟩).run Try.prog v = .ok (.string (strOfL R)) v := by
            rw [← hR2]
            exact catL _ [62] (by simp; omega)
          generalize [108, 105, 115, 116, 60] ++ Lib.join ps [44, 32] = m1 at A1 A2
          generalize Lib.join ps [44, 32] = jn at *
          clear hR hR2 hjl
          go_wp2_with fail
          refine (JN.out _ (kept_refl _)).mono ?_
          rintro e w3 ⟨rfl, hb⟩
          have hbr : Below w'.heap.size w' w3 := by (repeat (first | with_reducible assumption | with_reducible exact bl_refl _ | with_reducible refine bl_alloc ?_ _ | with_reducible refine bl_set ?_ (by first | (simp; done) | (simp; omega)) _ | with_reducible refine bl_drew ?_ | with_reducible refine bl_drewN ?_ _ | with_reducible refine bl_trans ?_ (by assumption)))
          go_wp2_with fail
          go_ret
          refine ⟨?_, hbr⟩
          rw [HT.out]
          rfl
        by_cases e12 : k = 12
        · subst e12
          have hR2 : [114, 97, 110, 103, 101, 60] ++ Lib.join ps [44, 32] ++ [62] = R := by rw [← hR.out]; simp [wrapT]
          have A1 : ∀ v, (Op.stringOp .add ⟨#[114, 97, 110, 103, 101, 60]⟩ (strOfL (Lib.join ps [44, 32]))).run Try.prog v = .ok (.string (strOfL ([114, 97, 110, 103, 101, 60] ++ Lib.join ps [44, 32]))) v := catL _ _ (by simp; omega)
          have A2 : ∀ v, (Op.stringOp .add (strOfL ([114, 97, 110, 103, 101, 60] ++ Lib.join ps [44, 32])) ⟨#[62]⟩).run Try.prog v = .ok (.string (strOfL R)) v := by
            rw [← hR2]
            exact catL _ [62] (by simp; omega)
          generalize [114, 97, 110, 103, 101, 60] ++ Lib.join ps [44, 32] = m1 at A1 A2
          generalize Lib.join ps [44, 32] = jn at *
          clear hR hR2 hjl
          go_wp2_with fail
          refine (JN.out _ (kept_refl _)).mono ?_
          rintro e w3 ⟨rfl, hb⟩
          have hbr : Below w'.heap.size w' w3 := by (repeat (first | with_reducible assumption | with_reducible exact bl_refl _ | with_reducible refine bl_alloc ?_ _ | with_reducible refine bl_set ?_ (by first | (simp; done) | (simp; omega)) _ | with_reducible refine bl_drew ?_ | with_reducible refine bl_drewN ?_ _ | with_reducible refine bl_trans ?_ (by assumption)))
          go_wp2_with fail
          go_ret
          refine ⟨?_, hbr⟩
          rw [HT.out]
          rfl
        by_cases e11 : k = 11
        · subst e11
          have hR2 : [99, 111, 110, 116, 101, 120, 116, 60] ++ Lib.join ps [44, 32] ++ [62] = R := by rw [← hR.out]; simp [wrapT]
          have A1 : ∀ v, (Op.stringOp .add ⟨#[99, 111, 110, 116, 101, 120, 116, 60]⟩ (strOfL (Lib.join ps [44, 32]))).run Try.prog v = .ok (.string (strOfL ([99, 111, 110, 116, 101, 120, 116, 60] ++ Lib.join ps [44, 32]))) v := catL _ _ (by simp; omega)
          have A2 : ∀ v, (Op.stringOp .add (strOfL ([99, 111, 110, 116, 101, 120, 116, 60] ++ Lib.join ps [44, 32])) ⟨#[62]⟩).run Try.prog v = .ok (.string (strOfL R)) v := by
            rw [← hR2]
            exact catL _ [62] (by simp; omega)
          generalize [99, 111, 110, 116, 101, 120, 116, 60] ++ Lib.join ps [44, 32] = m1 at A1 A2
          generalize Lib.join ps [44, 32] = jn at *
          clear hR hR2 hjl
          go_wp2_with fail
          refine (JN.out _ (kept_refl _)).mono ?_
          rintro e w3 ⟨rfl, hb⟩
          have hbr : Below w'.heap.size w' w3 := by (repeat (first | with_reducible assumption | with_reducible exact bl_refl _ | with_reducible refine bl_alloc ?_ _ | with_reducible refine bl_set ?_ (by first | (simp; done) | (simp; omega)) _ | with_reducible refine bl_drew ?_ | with_reducible refine bl_drewN ?_ _ | with_reducible refine bl_trans ?_ (by assumption)))
          go_wp2_with fail
          go_ret
          refine ⟨?_, hbr⟩
          rw [HT.out]
          rfl
        by_cases e13 : k = 13
        · subst e13
          rcases Nat.eq_zero_or_pos ts.length with h0 | h0
          · have hR2 : [102, 117, 110, 99, 116, 105, 111, 110, 60, 62] = R := by rw [← hR.out]; simp [wrapT, hpl, h0]
            have HR2 := Lib.hid hR2
            have k3 : ¬ (0 : Int) < (ts.length : Int) := by omega
            clear hR hR2 h0
            go_wp2_with fail
            go_ret
            refine ⟨?_, hbr⟩
            rw [HT.out, ← HR2.out]
            rfl
          · obtain ⟨m, hm⟩ : ∃ m, ts.length = m + 1 := ⟨ts.length - 1, by omega⟩
            have hml : m ≤ 1048576 := by omega
            obtain ⟨g, hg, _, hcs⟩ := HROW.out h0
            subst hg
            have hmp : m < ps.length := by omega
            obtain ⟨q, hq⟩ : ∃ q, ps.getD m [] = q := ⟨_, rfl⟩
            have p0 := hcs m (.string (strOfL q)) (by rw [List.getElem?_map, List.getElem?_eq_getElem hmp, ← hq, List.getD, List.getElem?_eq_getElem hmp]; rfl)
            have h3 := join_le (ps.take m)
            have h4 := lensP_at ps m hmp
            have h5 := lensP_take ps m
            rw [hq] at h4
            have hR2 : [102, 117, 110, 99, 116, 105, 111, 110, 60] ++ Lib.join (ps.take m) [44, 32] ++ [62, 32, 45, 62, 32] ++ q = R := by
              rw [← hR.out, wrapT, if_neg (by omega), if_neg (by omega), if_neg (by omega), if_pos rfl, if_pos (by omega), hpl, hm, Nat.add_sub_cancel, hq]
            have JF := Lib.hid (JJ.out m (by omega))
            have A1 : ∀ v, (Op.stringOp .add ⟨#[102, 117, 110, 99, 116, 105, 111, 110, 60]⟩ (strOfL (Lib.join (ps.take m) [44, 32]))).run Try.prog v = .ok (.string (strOfL ([102, 117, 110, 99, 116, 105, 111, 110, 60] ++ Lib.join (ps.take m) [44, 32]))) v := catL _ _ (by simp; omega)
            have A2 : ∀ v, (Op.stringOp .add (strOfL ([102, 117, 110, 99, 116, 105, 111, 110, 60] ++ Lib.join (ps.take m) [44, 32])) ⟨#[62, 32, 45, 62, 32]⟩).run Try.prog v = .ok (.string (strOfL ([102, 117, 110, 99, 116, 105, 111, 110, 60] ++ Lib.join (ps.take m) [44, 32] ++ [62, 32, 45, 62, 32]))) v :=
              catL _ [62, 32, 45, 62, 32] (by simp; omega)
            have A3 : ∀ v, (Op.stringOp .add (strOfL ([102, 117, 110, 99, 116, 105, 111, 110, 60] ++ Lib.join (ps.take m) [44, 32] ++ [62, 32, 45, 62, 32])) (strOfL q)).run Try.prog v = .ok (.string (strOfL R)) v := by
              rw [← hR2]
              exact catL _ q (by simp; omega)
            generalize [102, 117, 110, 99, 116, 105, 111, 110, 60] ++ Lib.join (ps.take m) [44, 32] ++ [62, 32, 45, 62, 32] = m2 at A2 A3
            generalize [102, 117, 110, 99, 116, 105, 111, 110, 60] ++ Lib.join (ps.take m) [44, 32] = m1 at A1 A2
            generalize Lib.join (ps.take m) [44, 32] = jn at JF A1
            clear hR hR2 h3 h4 h5 hjl hcs hmp hq
            have hwm : IntKind.i64.wrap (m : Int) = (m : Int) := by simp [IntKind.wrap, IntKind.bits, IntKind.signed]; omega
            have hmo : (m : Int) ≤ (oc : Int) := by omega
            have hms : (m : Int) < (m : Int) + 1 := by omega
            rw [hm] at *
            go_upto_region 19 with fail
            refine wp_region_held_drew (S := (fun v => Kept wr v ∧ Below w'.heap.size w' v)) (by kernel_rfl) ?_ (fun hHeld => ?_); (· exact ⟨kept_drew (kept_refl _), bl_drew hbr⟩)
            (refine wpAnyH_take (i := 0) (oi := ?oi1) (v := ?v1) ?h1 (by kernel_rfl) (by kernel_rfl) (by kernel_rfl) ?hQ1 ?hy1 (by first | exact hHeld | assumption) ?_; (case h1 => (simp only [List.getElem?_toArray, List.getElem?_cons_zero]; exact rfl)); (case hQ1 => exact fun _ _ _ h => h); (case hy1 => (refine Or.inl ⟨by rfl, ?_⟩; intro w hSw; (try dsimp only at hSw); go_simp; try (first | with_reducible rfl | rfl))); try simp only [Act.put, List.setIfInBounds_toArray, List.set_cons_zero, List.set_cons_succ]); (refine wpAnyH_take (i := 1) (oi := ?oi2) (v := ?v2) ?h2 (by kernel_rfl) (by kernel_rfl) (by kernel_rfl) ?hQ2 ?hy2 (by first | exact hHeld | assumption) ?_; (case h2 => (simp only [List.getElem?_toArray, List.getElem?_cons_succ, List.getElem?_cons_zero]; exact rfl)); (case hQ2 => exact fun _ _ _ h => h); (case hy2 => (refine Or.inl ⟨by rfl, ?_⟩; intro w hSw; (try dsimp only at hSw); go_simp; try (first | with_reducible rfl | rfl))); try simp only [Act.put, List.setIfInBounds_toArray, List.set_cons_zero, List.set_cons_succ]); (refine wpAnyH_take (i := 2) (oi := ?oi3) (v := ?v3) ?h3 (by kernel_rfl) (by kernel_rfl) (by kernel_rfl) ?hQ3 ?hy3 (by first | exact hHeld | assumption) ?_; (case h3 => (simp only [List.getElem?_toArray, List.getElem?_cons_succ, List.getElem?_cons_zero]; exact rfl)); (case hQ3 => exact fun _ _ _ h => h); (case hy3 => (refine Or.inl ⟨by rfl, ?_⟩; intro w hSw; (try dsimp only at hSw); go_simp; try (first | with_reducible rfl | rfl))); try simp only [Act.put, List.setIfInBounds_toArray, List.set_cons_zero, List.set_cons_succ]); (refine wpAnyH_take (i := 3) (oi := ?oi4) (v := ?v4) ?h4 (by kernel_rfl) (by kernel_rfl) (by kernel_rfl) ?hQ4 ?hy4 (by first | exact hHeld | assumption) ?_; (case h4 => (simp only [List.getElem?_toArray, List.getElem?_cons_succ, List.getElem?_cons_zero]; exact rfl)); (case hQ4 => exact fun _ _ _ h => h); (case hy4 => (refine Or.inl ⟨by rfl, ?_⟩; intro w hSw; (try dsimp only at hSw); go_simp; try (first | with_reducible rfl | rfl))); try simp only [Act.put, List.setIfInBounds_toArray, List.set_cons_zero, List.set_cons_succ]); (refine wpAnyH_take (i := 4) (oi := ?oi5) (v := ?v5) ?h5 (by kernel_rfl) (by kernel_rfl) (by kernel_rfl) ?hQ5 ?hy5 (by first | exact hHeld | assumption) ?_; (case h5 => (simp only [List.getElem?_toArray, List.getElem?_cons_succ, List.getElem?_cons_zero]; exact rfl)); (case hQ5 => exact fun _ _ _ h => h); (case hy5 => (refine Or.inl ⟨by rfl, ?_⟩; intro w hSw; (try dsimp only at hSw); go_simp; try (first | with_reducible rfl | rfl))); try simp only [Act.put, List.setIfInBounds_toArray, List.set_cons_zero, List.set_cons_succ])
            (refine wpAnyH_take (i := 8) (oi := ?oi6) (v := ?v6) ?h6 (by kernel_rfl) (by kernel_rfl) (by kernel_rfl) ?hQ6 ?hy6 (by first | exact hHeld | assumption) ?_; (case h6 => (simp only [List.getElem?_toArray, List.getElem?_cons_succ, List.getElem?_cons_zero]; exact rfl)); (case hQ6 => exact fun _ _ _ h => h); (case hy6 => (refine Or.inl ⟨by rfl, ?_⟩; intro w hSw; (try dsimp only at hSw); go_simp; try (first | with_reducible rfl | rfl))); try simp only [Act.put, List.setIfInBounds_toArray, List.set_cons_zero, List.set_cons_succ]); (refine wpAnyH_take (i := 9) (oi := ?oi7) (v := ?v7) ?h7 (by kernel_rfl) (by kernel_rfl) (by kernel_rfl) ?hQ7 ?hy7 (by first | exact hHeld | assumption) ?_; (case h7 => (simp only [List.getElem?_toArray, List.getElem?_cons_succ, List.getElem?_cons_zero]; exact rfl)); (case hQ7 => exact fun _ _ _ h => h); (case hy7 => (refine Or.inl ⟨by rfl, ?_⟩; intro w hSw; (try dsimp only at hSw); go_simp; try (first | with_reducible rfl | rfl))); try simp only [Act.put, List.setIfInBounds_toArray, List.set_cons_zero, List.set_cons_succ]); (refine wpAnyH_take (i := 10) (oi := ?oi8) (v := ?v8) ?h8 (by kernel_rfl) (by kernel_rfl) (by kernel_rfl) ?hQ8 ?hy8 (by first | exact hHeld | assumption) ?_; (case h8 => (simp only [List.getElem?_toArray, List.getElem?_cons_succ, List.getElem?_cons_zero]; exact rfl)); (case hQ8 => exact fun _ _ _ h => h); (case hy8 => (refine Or.inl ⟨by rfl, ?_⟩; intro w hSw; (try dsimp only at hSw); go_simp; try (first | with_reducible rfl | rfl))); try simp only [Act.put, List.setIfInBounds_toArray, List.set_cons_zero, List.set_cons_succ]); (refine wpAnyH_take (i := 11) (oi := ?oi9) (v := ?v9) ?h9 (by kernel_rfl) (by kernel_rfl) (by kernel_rfl) ?hQ9 ?hy9 (by first | exact hHeld | assumption) ?_; (case h9 => (simp only [List.getElem?_toArray, List.getElem?_cons_succ, List.getElem?_cons_zero]; exact rfl)); (case hQ9 => exact fun _ _ _ h => h); (case hy9 => (refine Or.inl ⟨by rfl, ?_⟩; intro w hSw; (try dsimp only at hSw); go_simp; try (first | with_reducible rfl | rfl))); try simp only [Act.put, List.setIfInBounds_toArray, List.set_cons_zero, List.set_cons_succ]); (refine wpAnyH_take (i := 12) (oi := ?oi10) (v := ?v10) ?h10 (by kernel_rfl) (by kernel_rfl) (by kernel_rfl) ?hQ10 ?hy10 (by first | exact hHeld | assumption) ?_; (case h10 => (simp only [List.getElem?_toArray, List.getElem?_cons_succ, List.getElem?_cons_zero]; exact rfl)); (case hQ10 => exact fun _ _ _ h => h); (case hy10 => (refine Or.inl ⟨by rfl, ?_⟩; intro w hSw; (try dsimp only at hSw); go_simp; try (first | with_reducible rfl | rfl))); try simp only [Act.put, List.setIfInBounds_toArray, List.set_cons_zero, List.set_cons_succ])
            (refine wpAnyH_take (i := 13) (oi := ?oi11) (v := ?v11) ?h11 (by kernel_rfl) (by kernel_rfl) (by kernel_rfl) ?hQ11 ?hy11 (by first | exact hHeld | assumption) ?_; (case h11 => (simp only [List.getElem?_toArray, List.getElem?_cons_succ, List.getElem?_cons_zero]; exact rfl)); (case hQ11 => exact fun _ _ _ h => h); (case hy11 => (refine Or.inl ⟨by rfl, ?_⟩; intro w hSw; (try dsimp only at hSw); obtain ⟨hk1, hb1⟩ := hSw; have p0 := hk1 _ _ _ p0; go_simp; try (first | with_reducible rfl | rfl))); try simp only [Act.put, List.setIfInBounds_toArray, List.set_cons_zero, List.set_cons_succ])
            refine wpAnyH_ready (rs := [5]) (by kernel_rfl) (by simp) ?_; refine AllReadyH.cons (o := ?oi12) ?h12 (fun K hK => ?_) AllReadyH.nil; (case h12 => (simp only [List.getElem?_toArray, List.getElem?_cons_succ, List.getElem?_cons_zero]; exact rfl)); go_simp; (refine (JF.out _ hHeld.1).mono ?_; rintro e v1 ⟨rfl, hb⟩; have hk := below_keeps hb; obtain ⟨hc, hf⟩ := bcell hb; have hz := hb.size; have hw := hHeld.2.size; (try simp at hz); (try simp at hw)); refine hK.out _ _ ?_ (fun hNew => ?_); (· (refine ⟨?_, ?_⟩ <;> (first | (with_reducible refine kept_head ?_; (repeat (first | with_reducible assumption | with_reducible exact kept_refl _ | with_reducible exact hHeld.1 | with_reducible exact kept_trans hHeld.1 (kept_below hb) | with_reducible refine kept_alloc ?_ _ | with_reducible refine kept_drew ?_ | with_reducible refine kept_set ?_ (by first | (simp; done) | (simp; omega)) _)); done) | ((repeat (first | with_reducible assumption | with_reducible exact bl_refl _ | with_reducible exact hHeld.2 | with_reducible exact bl_trans hHeld.2 hb | with_reducible refine bl_alloc ?_ _ | with_reducible refine bl_set ?_ (by first | (simp; done) | (simp; omega)) _ | with_reducible refine bl_drew ?_)); done)))); clear hK K hHeld; revert hNew; intro hHeld; try simp only [Act.put, List.setIfInBounds_toArray, List.set_cons_zero, List.set_cons_succ]
            (refine wpAnyH_take (i := 6) (oi := ?oi13) (v := ?v13) ?h13 (by kernel_rfl) (by kernel_rfl) (by kernel_rfl) ?hQ13 ?hy13 (by first | exact hHeld | assumption) ?_; (case h13 => (simp only [List.getElem?_toArray, List.getElem?_cons_succ, List.getElem?_cons_zero]; exact rfl)); (case hQ13 => exact fun _ _ _ h => h); (case hy13 => (refine Or.inl ⟨by rfl, ?_⟩; intro w hSw; (try dsimp only at hSw); go_simp; try (first | with_reducible rfl | rfl))); try simp only [Act.put, List.setIfInBounds_toArray, List.set_cons_zero, List.set_cons_succ]); (refine wpAnyH_take (i := 7) (oi := ?oi14) (v := ?v14) ?h14 (by kernel_rfl) (by kernel_rfl) (by kernel_rfl) ?hQ14 ?hy14 (by first | exact hHeld | assumption) ?_; (case h14 => (simp only [List.getElem?_toArray, List.getElem?_cons_succ, List.getElem?_cons_zero]; exact rfl)); (case hQ14 => exact fun _ _ _ h => h); (case hy14 => (refine Or.inl ⟨by rfl, ?_⟩; intro w hSw; (try dsimp only at hSw); go_simp; try (first | with_reducible rfl | rfl))); try simp only [Act.put, List.setIfInBounds_toArray, List.set_cons_zero, List.set_cons_succ]); (refine wpAnyH_take (i := 14) (oi := ?oi15) (v := ?v15) ?h15 (by kernel_rfl) (by kernel_rfl) (by kernel_rfl) ?hQ15 ?hy15 (by first | exact hHeld | assumption) ?_; (case h15 => (simp only [List.getElem?_toArray, List.getElem?_cons_succ, List.getElem?_cons_zero]; exact rfl)); (case hQ15 => exact fun _ _ _ h => h); (case hy15 => (refine Or.inl ⟨by rfl, ?_⟩; intro w hSw; (try dsimp only at hSw); go_simp; try (first | with_reducible rfl | rfl))); try simp only [Act.put, List.setIfInBounds_toArray, List.set_cons_zero, List.set_cons_succ])
            refine wpAnyH_ready (rs := [15]) (by kernel_rfl) (by simp) ?_; refine AllReadyH.cons (o := ?oi16) ?h16 (fun K hK => ?_) AllReadyH.nil; (case h16 => (simp only [List.getElem?_toArray, List.getElem?_cons_succ, List.getElem?_cons_zero]; exact rfl)); go_simp; skip; refine hK.out _ _ ?_ (fun hNew => ?_); (· (refine ⟨?_, ?_⟩ <;> (first | (with_reducible refine kept_head ?_; (repeat (first | with_reducible assumption | with_reducible exact kept_refl _ | with_reducible exact hHeld.1 | with_reducible exact kept_trans hHeld.1 (kept_below hb) | with_reducible refine kept_alloc ?_ _ | with_reducible refine kept_drew ?_ | with_reducible refine kept_set ?_ (by first | (simp; done) | (simp; omega)) _)); done) | ((repeat (first | with_reducible assumption | with_reducible exact bl_refl _ | with_reducible exact hHeld.2 | with_reducible exact bl_trans hHeld.2 hb | with_reducible refine bl_alloc ?_ _ | with_reducible refine bl_set ?_ (by first | (simp; done) | (simp; omega)) _ | with_reducible refine bl_drew ?_)); done)))); clear hK K hHeld; revert hNew; intro hHeld; try simp only [Act.put, List.setIfInBounds_toArray, List.set_cons_zero, List.set_cons_succ]
            refine wpAnyH_done (by kernel_rfl) ?_ _
            have hbx := hHeld.2
            go_wp2_with fail
            go_ret
            refine ⟨?_, hbx⟩
            rw [HT.out]
            rfl
        · have hR2 : wordL k = R := by rw [← hR.out]; simp [wrapT, *]
          have HR2 := Lib.hid hR2
          clear hR2
          go_wp2_with fail
          refine (words_k k _).mono ?_
          rintro e w3 ⟨rfl, rfl⟩
          go_wp2_with fail
          go_ret
          refine ⟨?_, hbr⟩
          rw [HT.out, ← HR2.out]
          rfl

end Go.Proofs.Ytnkecbpocgcdfaa
