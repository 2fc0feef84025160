/-
  The law's own helpers of chapter 17: keyword, wordly, piece, begins, tokens.
-/
import Derived.Test.YtnamnldijopkfaaDoorTud
import Derived.Test.YtnamnldijopkfaaDoorTuf
namespace Go.Proofs.YtnamnldijopkfaaDoor
open Go.ChangeShapes Go.WideShapes Go.ChangeAt Go.RowKit Go.Joins

/-- the table that strings.Fields asks for -/
def Tab (w : World) : Prop := Lib.TabIs Tryd.prog w "strings.asciiSpace" .u8 Lib.asciiSpaceTab
theorem Tab.keep {w w' : World} (h : Tab w) (hb : Below w.heap.size w w') : Tab w' := by
  have hgn : Tryd.prog.globalNamed "strings.asciiSpace" = some 2 := by kernel_rfl
  unfold Tab Lib.TabIs World.var? at h ⊢
  rw [hgn] at h ⊢
  simp only [Option.bind_some] at h ⊢
  have hlt : 2 < w.heap.size := by
    rcases Nat.lt_or_ge 2 w.heap.size with h' | h'
    · exact h'
    · rw [Array.getElem?_eq_none h'] at h; cases h
  rw [hb.block 2 hlt]
  exact h

def kwText : List UInt8 := [110, 117, 108, 108, 32, 116, 114, 117, 101, 32, 102, 97, 108, 115, 101, 32, 105, 102, 32, 116, 104, 101, 110, 32, 101, 108, 115, 101, 32, 102, 111, 114, 32, 105, 110, 32, 114, 101, 116, 117, 114, 110, 32, 115, 111, 109, 101, 32, 101, 118, 101, 114, 121, 32, 115, 97, 116, 105, 115, 102, 105, 101, 115, 32, 97, 110, 100, 32, 111, 114, 32, 98, 101, 116, 119, 101, 101, 110, 32, 105, 110, 115, 116, 97, 110, 99, 101, 32, 111, 102, 32, 102, 117, 110, 99, 116, 105, 111, 110]
theorem kwText_fields : Lib.fields kwText = kws := by decide +kernel
theorem kws_get (j : Nat) (h : j < 18) : kws[j]? = some (kws.getD j []) := by
  have : kws.length = 18 := rfl
  simp [List.getD, this, h]

theorem fields_kw (w : World) (hT : Tab w) : Calls Tryd.prog 80 #[.string (strOfL kwText)] w fun e w' =>
    e = .returned (.slice (some ⟨w.heap.size, 0, none⟩) 18 18) ∧ w' = w.alloc (.cells (kws.map fun l => Value.string (strOfL l)).toArray 9) := by
  have h := Tryd.strings_Fields (strOfL kwText) w (by decide) (fun j b hj => by
    have : ∀ x ∈ kwText, x.toNat < 128 := by decide
    rw [strOfL_list] at hj
    exact this b (List.mem_of_getElem? hj)) hT
  rw [strOfL_list, kwText_fields] at h
  exact h

set_option maxHeartbeats 2000000 in
set_option maxRecDepth 100000 in
theorem lkeyword_k (s : List UInt8) (w : World) (hT : Tab w) : Calls Tryd.prog 51 #[.string (strOfL s)] w fun e w' => e = .returned (.bool (kwB s)) ∧ Below w.heap.size w w' := by
  have FK := Lib.hid (fields_kw w hT)
  clear hT
  go_enter Tryd.func51, Tryd.ntmps51
  go_wp2_with fail
  refine (FK.out).mono ?_
  rintro e w1 ⟨rfl, hw1⟩
  have hb : Below w.heap.size w w1 := by rw [hw1]; exact bl_alloc (bl_refl w) _
  have hcell : ∀ j, j < 18 → w1.cell? ⟨w.heap.size, j, none⟩ = some (.string (strOfL (kws.getD j []))) := fun j hj => by
    rw [hw1, cell_of_row _ _ _ _ _ (0, 0) (heap_alloc_new w _)]
    simp only [List.getElem?_toArray, List.getElem?_map, kws_get j hj, Option.map_some]
  have HC := Lib.hid hcell
  generalize hB : w.heap.size = B at *
  clear hw1 hcell
  go_wp2_with fail
  go_loopw [7] (fun i wr => ∃ j : Nat, j ≤ 18 ∧ i = .int .i64 j ∧ wr = w1 ∧ (∀ x, x < j → kws.getD x [] ≠ s)) (fun i _ => 18 - (intOf i).toNat)
  case atStart => exact ⟨0, Nat.zero_le _, rfl, rfl, fun x hx => absurd hx (Nat.not_lt_zero _)⟩
  case round =>
    obtain ⟨j, hj, rfl, rfl, hno⟩ := hrel
    have HNO := Lib.hid hno
    clear hno
    by_cases hlt : j < 18
    · have c0 := HC.out j hlt
      have k1 : (j : Int) < 18 := by omega
      have hbb := bytes_beq (kws.getD j []) s
      by_cases he : kws.getD j [] = s
      · have hk : kwB s = true := by
          refine List.contains_iff_mem.2 ?_
          rw [← he]
          exact List.mem_of_getElem? (kws_get j hlt)
        have HK := Lib.hid hk
        rw [decide_eq_true he] at hbb
        generalize kws.getD j [] = x at *
        clear he hk
        go_wp2_with fail
        go_ret
        exact ⟨by rw [HK.out]; rfl, by rw [hB]; exact hb⟩
      · rw [decide_eq_false he] at hbb
        have HE := Lib.hid he
        generalize hx : kws.getD j [] = x at *
        have HX := Lib.hid hx
        clear he hx
        go_wp2_with fail
        go_roundw
        case rel =>
          refine ⟨j + 1, by omega, by go_num, by first | rfl | trivial, fun y hy => ?_⟩
          by_cases hyj : y = j
          · subst hyj; rw [HX.out]; exact HE.out
          · exact HNO.out y (by omega)
        case measure => simp [intOf]; omega
    · obtain rfl : j = 18 := by omega
      have hk : kwB s = false := by
        cases hq : kwB s with
        | false => rfl
        | true =>
          obtain ⟨i, hi, he⟩ := List.getElem_of_mem (List.contains_iff_mem.1 hq)
          have hi' : i < 18 := hi
          exact absurd (by simp [List.getD, hi, he]) (HNO.out i hi')
      have HK := Lib.hid hk
      clear hk
      go_wp2_with fail
      go_ret
      exact ⟨by rw [HK.out]; rfl, by rw [hB]; exact hb⟩

def lwT (t : Tok) : Bool := if t.kind = 1 then true else if t.kind = 2 then allDig t.text else false

set_option maxHeartbeats 2000000 in
set_option maxRecDepth 100000 in
theorem lwordly_k (t : Tok) (w : World) (hk : t.kind ≤ 5) : Calls Tryd.prog 52 #[.agg #[.int .i64 (t.kind : Int), .string (strOfL t.text), .int .i64 (t.at_ : Int)]] w fun e w' => e = .returned (.bool (lwT t)) ∧ Below w.heap.size w w' := by
  obtain ⟨kd, l, at1⟩ := t
  dsimp only at hk ⊢
  have HP := Lib.hid (show lwT ⟨kd, l, at1⟩ = if kd = 1 then true else if kd = 2 then allDig l else false from rfl)
  generalize lwT ⟨kd, l, at1⟩ = b at *
  have hb0 := bl_alloc (bl_refl w) (.cells #[.int .i64 (kd : Int), .string (strOfL l), .int .i64 (at1 : Int)] 40)
  by_cases h2 : kd = 2
  · subst h2
    have hp := HP.out
    rw [if_neg (by decide), if_pos rfl] at hp
    have HP2 := Lib.hid hp
    clear hp HP
    go_enter Tryd.func52, Tryd.ntmps52
    go_wp2_with fail
    have hbI := bl_alloc hb0 (.stringIter (strOfL l) 0)
    have hI0 : ((w.alloc (.cells #[.int .i64 (2 : Int), .string (strOfL l), .int .i64 (at1 : Int)] 40)).alloc (.stringIter (strOfL l) 0)).heap[w.heap.size + 1]? = some (.stringIter (strOfL l) 0) := by
      have := World.iter_heap (w.alloc (.cells #[.int .i64 (2 : Int), .string (strOfL l), .int .i64 (at1 : Int)] 40)) (strOfL l) 0
      have e : (w.alloc (.cells #[.int .i64 (2 : Int), .string (strOfL l), .int .i64 (at1 : Int)] 40)).heap.size = w.heap.size + 1 := by simp
      rw [e] at this
      exact this
    have hKw : w.heap.size ≤ w.heap.size + 1 := by omega
    generalize w.heap.size + 1 = K at *
    go_loopw [] (fun wr => ∃ pos : Nat, wr.heap[K]? = some (.stringIter (strOfL l) pos) ∧ Below w.heap.size w wr ∧ allDig l = allDig (l.drop pos) ∧ pos ≤ l.length) (fun wr => (strOfL l).size - wr.iterPos K)
    case atStart => exact ⟨0, hI0, hbI, rfl, Nat.zero_le _⟩
    case round =>
      obtain ⟨pos, hit, hbw, hacc, hpl⟩ := hrel
      have hszk : K < wr.heap.size := (Array.getElem?_eq_some_iff.1 hit).1
      by_cases hp : pos < (strOfL l).size
      · have hnx : ∀ ty, (Instr.next (.pointer (some ⟨K, 0, none⟩)) true ty).run Tryd.prog wr = _ := fun ty => Lib.run_next_any_at wr K (strOfL l) pos ty hit hp
        obtain ⟨hne, hde, hrn, hw1, hw2, hok⟩ := range_step l pos hp
        have hit2 := Lib.iterAt_heap wr K (strOfL l) pos (pos + (Utf8.decode (strOfL l) pos).2) hit
        have hbw2 := Lib.below_iterAt hbw (k := K) (by omega) (strOfL l) (pos + (Utf8.decode (strOfL l) pos).2)
        rw [hde] at hnx hit2 hbw2
        have hds := dig_step (l.drop pos) hne
        rw [List.drop_drop] at hds
        rw [hds] at hacc
        have HA := Lib.hid hacc
        generalize (Lib.decodeL (l.drop pos)).1 = r at *
        generalize (Lib.decodeL (l.drop pos)).2 = wd at *
        clear hde hrn hacc hds hok hI0 hbI
        clear hne
        by_cases h1 : (r : Int) < 48
        · have hf : allDig l = false := by rw [HA.out, decide_eq_false (by omega), Bool.false_and]
          have HF := Lib.hid hf
          clear hf HA
          go_wp2_with fail
          go_ret
          exact ⟨by rw [HP2.out, HF.out]; rfl, hbw2⟩
        · by_cases h2 : 57 < (r : Int)
          · have hf : allDig l = false := by rw [HA.out, decide_eq_false (by omega), Bool.false_and]
            have HF := Lib.hid hf
            clear hf HA
            go_wp2_with fail
            go_ret
            exact ⟨by rw [HP2.out, HF.out]; rfl, hbw2⟩
          · have HA2 := HA.out
            rw [decide_eq_true ⟨by omega, by omega⟩, Bool.true_and] at HA2
            have HA2 := Lib.hid HA2
            clear HA
            go_wp2_with fail
            go_roundw
            case rel => exact ⟨pos + wd, hit2, hbw2, HA2.out, hw2⟩
            case measure =>
              simp only [World.iterPos, hit2, hit]
              omega
      · have hnx : ∀ ty, (Instr.next (.pointer (some ⟨K, 0, none⟩)) true ty).run Tryd.prog wr = _ := fun ty => Lib.run_next_end_at wr K (strOfL l) pos ty hit hp
        have hz : l.drop pos = [] := by
          rw [strOfL_size] at hp
          exact List.drop_eq_nil_of_le (by omega)
        rw [hz] at hacc
        have HF := Lib.hid (show allDig l = true from hacc)
        clear hacc hz hI0 hbI
        go_wp2_with fail
        go_ret
        exact ⟨by rw [HP2.out, HF.out]; rfl, hbw⟩
  · by_cases h1 : kd = 1
    · subst h1
      go_enter Tryd.func52, Tryd.ntmps52
      go_wp2_with fail
      go_ret
      exact ⟨by rw [HP.out]; rfl, hb0⟩
    · have hcase : kd = 0 ∨ kd = 3 ∨ kd = 4 ∨ kd = 5 := by omega
      rcases hcase with rfl | rfl | rfl | rfl
      all_goals
        go_enter Tryd.func52, Tryd.ntmps52
        go_wp2_with fail
        go_ret
        exact ⟨by rw [HP.out]; rfl, hb0⟩

theorem lpieceT (t : Tok) (h : t.kind ≠ 5) : pieceT t = lwT t := by
  unfold pieceT lwT
  rw [if_neg h]

set_option maxHeartbeats 2000000 in
set_option maxRecDepth 100000 in
theorem lpiece_k (t : Tok) (w : World) (hk : t.kind ≤ 5) : Calls Tryd.prog 46 #[.agg #[.int .i64 (t.kind : Int), .string (strOfL t.text), .int .i64 (t.at_ : Int)]] w fun e w' => e = .returned (.bool (pieceT t)) ∧ Below w.heap.size w w' := by
  have LK := Lib.hid (fun v => lwordly_k t v hk)
  have hb0 := bl_alloc (bl_refl w) (.cells #[.int .i64 (t.kind : Int), .string (strOfL t.text), .int .i64 (t.at_ : Int)] 40)
  by_cases h5 : t.kind = 5
  · have hp : pieceT t = signB t.text := by
      unfold pieceT
      rw [if_neg (by omega), if_neg (by omega), if_pos h5]
    rw [hp]
    obtain ⟨kd, s, at1⟩ := t
    dsimp only at h5 hb0 hk ⊢
    subst h5
    clear LK hp
    cases hs : signB s with
    | true =>
      have hm := List.contains_iff_mem.1 hs
      simp only [List.mem_cons, List.not_mem_nil, or_false] at hm
      rcases hm with rfl | rfl | rfl | rfl | rfl | rfl
      all_goals
        have ht := toList_str
        clear hs
        go_enter Tryd.func46, Tryd.ntmps46
        go_wp2_with fail
        go_ret
        exact ⟨rfl, hb0⟩
    | false =>
      have hn : ∀ x ∈ ([[43], [45], [42], [47], [46], [39]] : List (List UInt8)), (s == x) = false := fun x hx => by
        rw [beq_eq_false_iff_ne]
        rintro rfl
        have : signB s = true := List.contains_iff_mem.2 hx
        rw [hs] at this
        cases this
      simp only [List.mem_cons, List.not_mem_nil, or_false, forall_eq_or_imp, forall_eq] at hn
      obtain ⟨h1, h2, h3, h4, h5, h6⟩ := hn
      have ht := toList_str s
      clear hs
      go_enter Tryd.func46, Tryd.ntmps46
      go_wp2_with fail
      go_ret
      exact ⟨rfl, hb0⟩
  · rw [lpieceT t h5]
    obtain ⟨kd, s, at1⟩ := t
    dsimp only at h5 hb0 hk LK ⊢
    generalize lwT ⟨kd, s, at1⟩ = b at *
    have h5b : ((kd : Int) == 5) = false := by rw [beq_eq_false_iff_ne]; omega
    go_enter Tryd.func46, Tryd.ntmps46
    go_wp2_with fail
    refine (LK.out _).mono ?_
    rintro e w1 ⟨rfl, hb1⟩
    have hb := bl_trans hb0 hb1
    go_wp2_with fail
    go_ret
    exact ⟨rfl, hb⟩

theorem lbegins_k (t : Tok) (w : World) (hT : Tab w) (hk : t.kind ≤ 5) : Calls Tryd.prog 45 #[.agg #[.int .i64 (t.kind : Int), .string (strOfL t.text), .int .i64 (t.at_ : Int)]] w fun e w' => e = .returned (.bool (begT t)) ∧ Below w.heap.size w w' := by
  have hb0 := bl_alloc (bl_refl w) (.cells #[.int .i64 (t.kind : Int), .string (strOfL t.text), .int .i64 (t.at_ : Int)] 40)
  have KK := Lib.hid (lkeyword_k t.text _ (hT.keep hb0))
  obtain ⟨kd, tx, at1⟩ := t
  have HB := Lib.hid (show begT ⟨kd, tx, at1⟩ = (kd == 1 && !kwB tx) from rfl)
  dsimp only at hk KK hb0 ⊢
  generalize begT ⟨kd, tx, at1⟩ = b at *
  generalize kwB tx = kb at *
  clear hT
  by_cases h1 : kd = 1
  · subst h1
    go_enter Tryd.func45, Tryd.ntmps45
    go_wp2_with fail
    refine (KK.out).mono ?_
    rintro e w1 ⟨rfl, hb1⟩
    have hb := bl_trans hb0 hb1
    go_wp2_with fail
    go_ret
    exact ⟨by rw [HB.out]; rfl, hb⟩
  · have hcase : kd = 0 ∨ kd = 2 ∨ kd = 3 ∨ kd = 4 ∨ kd = 5 := by omega
    rcases hcase with rfl | rfl | rfl | rfl | rfl
    all_goals
      go_enter Tryd.func45, Tryd.ntmps45
      go_wp2_with fail
      go_ret
      exact ⟨by rw [HB.out]; rfl, hb0⟩

/-- a source's tokens without the end -/
def ltoks (s : List UInt8) : List Tok := match toksL s with | some ts => ts.take (ts.length - 1) | none => []
theorem ltokens_k (s : List UInt8) (w : World) (hE : Env w) (hl : s.length ≤ 268435456) :
    Calls Tryd.prog 39 #[.string (strOfL s)] w fun e w' => ∃ v, e = .returned v ∧ Toks w' v (ltoks s) ∧ Below w.heap.size w w' := by
  have TK := Lib.hid (tokens_k s w hE hl)
  unfold ltoks
  cases hx : toksL s with
  | none =>
    rw [hx] at TK
    clear hx hE
    go_enter Tryd.func39, Tryd.ntmps39
    go_wp2_with fail
    refine TK.out.mono ?_
    rintro e w1 ⟨rfl, hb⟩
    go_wp2_with fail
    go_ret
    exact ⟨_, rfl, Toks.nil _, hb⟩
  | some ts =>
    obtain ⟨us, hus, -⟩ := (toks_fine hx).1.last
    have hpos : 0 < ts.length := by rw [hus]; simp
    rw [hx] at TK
    clear hx hE hus
    go_enter Tryd.func39, Tryd.ntmps39
    go_wp2_with fail
    refine TK.out.mono ?_
    rintro e w1 ⟨v, rfl, hT, hb⟩
    have HT := Lib.hid hT
    obtain ⟨a, c, rfl, hc1, hc2, -⟩ := hT
    obtain ⟨-, -, -, bb, bo, rfl, -⟩ := HT.out.cells (by intro q; rw [q] at hpos; simp at hpos)
    obtain ⟨n, hn⟩ : ∃ n, ts.length = n + 1 := ⟨ts.length - 1, by omega⟩
    have HT3 := Lib.hid (HT.out.take n (by omega))
    have hn1 : (ts.length : Int) - 1 = (n : Int) := by omega
    have hn2 : (n : Int) ≤ (c : Int) := by omega
    have hn3 : (n : Int) ≤ (ts.length : Int) := by omega
    have HN := Lib.hid (show ts.length - 1 = n by omega)
    clear hn
    go_wp2_with fail
    go_ret
    rw [HN.out]
    exact ⟨_, rfl, HT3.out, hb⟩

end Go.Proofs.YtnamnldijopkfaaDoor
