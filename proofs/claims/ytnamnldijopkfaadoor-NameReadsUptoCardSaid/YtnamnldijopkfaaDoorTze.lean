/-
  The contracts of runes.Valid and of the reference's Sub.
-/
import Derived.Test.YtnamnldijopkfaaDoorTzb
namespace Go.Proofs.YtnamnldijopkfaaDoor
open Go.ChangeShapes Go.WideShapes Go.ChangeAt Go.RowKit Go.Joins

theorem valL_valid : ∀ (m : Nat) (l : List UInt8), l.length ≤ m → (Lib.validD l = true ↔ valL l = l) := by
  intro m
  induction m with
  | zero =>
    intro l h
    rw [List.eq_nil_of_length_eq_zero (by omega : l.length = 0)]
    simp [Lib.validD_nil, valL, rns_nil, encL_nil]
  | succ m ih =>
    intro l h
    by_cases e : l = []
    · subst e
      simp [Lib.validD_nil, valL, rns_nil, encL_nil]
    · have hl := List.length_pos_iff.2 e
      have h1 := dec_ge1 l
      have hd := ih (l.drop (Lib.decodeL l).2) (by rw [List.length_drop]; omega)
      have hv : valL l = Lib.encodeRune ((Lib.decodeL l).1 : Int) ++ valL (l.drop (Lib.decodeL l).2) := by
        rw [valL, rns_cons l e, encL_cons]; rfl
      rw [Lib.validD_step l e]
      by_cases hb : (Lib.decodeL l).1 = 65533 ∧ (Lib.decodeL l).2 = 1
      · rw [if_pos hb]
        constructor
        · intro q; cases q
        · intro q
          have hx := decode_encode (Lib.decodeL l).1 (dec_ok l) (valL (l.drop (Lib.decodeL l).2))
          rw [← hv, q] at hx
          have h2 := congrArg Prod.snd hx
          dsimp only at h2
          rw [hb.2, hb.1] at h2
          exact absurd h2 (by decide)
      · rw [if_neg hb, hd, hv, Lib.encode_decode l e hb]
        constructor
        · intro q
          rw [q, List.take_append_drop]
        · intro q
          have h3 : l.take (Lib.decodeL l).2 ++ valL (l.drop (Lib.decodeL l).2) = l.take (Lib.decodeL l).2 ++ l.drop (Lib.decodeL l).2 := by rw [q, List.take_append_drop]
          exact List.append_cancel_left h3

theorem bytes_beq (a b : List UInt8) : ((strOfL a).toList == (strOfL b).toList) = decide (a = b) := by
  by_cases h : a = b
  · subst h
    simp
  · rw [decide_eq_false h]
    have : ¬ (strOfL a = strOfL b) := fun q => h (by have := congrArg (fun x : ByteArray => x.data.toList) q; simpa [strOfL] using this)
    cases hh : ((strOfL a).toList == (strOfL b).toList) with
    | false => rfl
    | true => exact absurd ((Lib.bytes_beq_iff _ _).1 hh) this

theorem valid_k (l : List UInt8) (w : World) (hE : Env w) (hl : l.length ≤ 1073741824) : Calls Tryd.prog 30 #[.string (strOfL l)] w fun e w' => e = .returned (.bool (decide (l = valL l))) ∧ Below w.heap.size w w' := by
  have VK := Tryd.utf8_ValidString (strOfL l) w (by rw [strOfL_size]; omega) hE.1
  rw [strOfL_list, show Lib.validD l = decide (l = valL l) from by
    have := valL_valid _ l (Nat.le_refl _)
    by_cases q : l = valL l
    · rw [decide_eq_true q]; exact this.2 q.symm
    · rw [decide_eq_false q]
      cases hh : Lib.validD l with
      | false => rfl
      | true => exact absurd (this.1 hh).symm q] at VK
  generalize decide (l = valL l) = b at *
  have VK := Lib.hid VK
  clear hE
  go_enter Tryd.func30, Tryd.ntmps30
  go_wp2_with fail
  refine VK.out.mono ?_
  rintro e w1 ⟨rfl, hb⟩
  go_wp2_with fail
  go_ret
  exact ⟨rfl, hb⟩

theorem refsub_no (l : List UInt8) (from1 n : Int) (w : World) (hl : l.length ≤ 1073741824) (h0 : -9223372036854775808 ≤ from1 ∧ from1 ≤ 9223372036854775807) (h1 : ¬ (from1 < 0 ∧ -allN l ≤ from1)) (h2 : ¬ (0 < from1 ∧ from1 ≤ allN l)) :
    Calls Tryd.prog 28 #[.string (strOfL l), .int .i64 from1, .int .i64 n] w fun e w' => e = .returned (.tuple #[.string ⟨#[]⟩, .bool false]) ∧ Below w.heap.size w w' := by
  have RK := Lib.hid (fun v => refRunes_k l v hl)
  have hrl := rns_len l
  unfold allN at h1 h2
  generalize rns l = rs at *
  go_enter Tryd.func28, Tryd.ntmps28
  go_wp2_with fail
  refine (RK.out _).mono ?_
  rintro e w1 ⟨v, rfl, hown, hb⟩
  obtain ⟨la, lc, rfl, _, _⟩ := row_shape hown
  clear hown
  obtain ⟨h3, h4⟩ := h0
  by_cases c1 : from1 < 0
  · have c2 : ¬ from1 = 0 := by omega
    have c3 : (rs.length : Int) + from1 < 0 := by omega
    go_wp2_with fail
    (refine bodyPost_ret (v := .tuple #[.string ⟨#[]⟩, .bool false]) (by simp [results, Tryd.results28, go_sem]) rfl ⟨rfl, ?_⟩; exact hb)
  · by_cases c2 : from1 = 0
    · go_wp2_with fail
      (refine bodyPost_ret (v := .tuple #[.string ⟨#[]⟩, .bool false]) (by simp [results, Tryd.results28, go_sem]) rfl ⟨rfl, ?_⟩; exact hb)
    · have c3 : ¬ (from1 - 1 < 0) := by omega
      have c4 : (rs.length : Int) ≤ from1 - 1 := by omega
      go_wp2_with fail
      (refine bodyPost_ret (v := .tuple #[.string ⟨#[]⟩, .bool false]) (by simp [results, Tryd.results28, go_sem]) rfl ⟨rfl, ?_⟩; exact hb)

theorem take_more (rs : List Nat) (k j : Nat) (h : k + j < rs.length) : (rs.drop k).take (j + 1) = (rs.drop k).take j ++ [rs[k + j]] := by
  rw [List.take_succ_eq_append_getElem (by rw [List.length_drop]; omega)]
  congr 2
  exact List.getElem_drop

set_option maxHeartbeats 4000000 in
set_option maxRecDepth 100000 in
theorem refsub_yes (l : List UInt8) (from1 n : Int) (k : Nat) (w : World) (hl : l.length ≤ 1073741824) (h0 : -9223372036854775808 ≤ from1 ∧ from1 ≤ 9223372036854775807) (hn : -9223372036854775808 ≤ n ∧ n ≤ 9223372036854775807)
    (h : (from1 < 0 ∧ -allN l ≤ from1 ∧ (k : Int) = from1 + allN l) ∨ (0 < from1 ∧ from1 ≤ allN l ∧ (k : Int) = from1 - 1)) :
    Calls Tryd.prog 28 #[.string (strOfL l), .int .i64 from1, .int .i64 n] w fun e w' => e = .returned (.tuple #[.string (strOfL (encL (if 0 ≤ n then ((rns l).drop k).take n.toNat else (rns l).drop k))), .bool true]) ∧ Below w.heap.size w w' := by
  obtain ⟨i0, hi0, hz0, hz1, hz2⟩ := info_parts info_rune
  have RK := Lib.hid (fun v => refRunes_k l v hl)
  have hrl := rns_len l
  have HN := Lib.hid hn
  have HF := Lib.hid h0
  unfold allN at h
  generalize rns l = rs at *
  have hkN : k < rs.length := by omega
  go_enter Tryd.func28, Tryd.ntmps28
  go_wp2_with fail
  refine (RK.out _).mono ?_
  rintro e w2 ⟨v, rfl, hown, hb⟩
  obtain ⟨la, lc, rfl, hrc⟩ := rune_row hown
  have HRC := Lib.hid hrc
  clear hown hrc hn h0
  go_upto_if 17 with fail
  go_cut [9] (fun s9 wx => s9 = .int .i64 k ∧ wx = w2)
  case first =>
    have h0 := HF.out
    rcases h with ⟨g1, g2, g3⟩ | ⟨g1, g2, g3⟩
    · clear HN HF
      have G3 := Lib.hid g3
      clear g3
      go_wp2_with fail
      go_meet
      exact ⟨congrArg (Value.int .i64) (by have := G3.out; omega), rfl⟩
    · have g4 : ¬ from1 < 0 := by omega
      have G3 := Lib.hid g3
      clear HN HF g3
      go_wp2_with fail
      go_meet
      exact ⟨congrArg (Value.int .i64) (by have := G3.out; omega), rfl⟩
  case rest =>
  obtain ⟨rfl, e9⟩ := hcut
  have e9 := e9.symm
  subst e9
  have c0 : ¬ from1 = 0 := by omega
  have c1 : ¬ (k : Int) < 0 := by omega
  have c2 : ¬ (rs.length : Int) ≤ (k : Int) := by omega
  have H := Lib.hid h
  clear h
  go_wp2_with fail
  go_loopw [10, 11] (fun o i wr => ∃ (j : Nat) (oa : Option Addr) (oc : Nat), k + j ≤ rs.length ∧ (n < 0 ∨ (j : Int) ≤ n) ∧ i = .int .i64 ((k : Int) + j) ∧ o = .slice oa j oc ∧ wr.ownsRow w2.heap.size 21 1 (.slice oa j oc) j (rvals ((rs.drop k).take j)) ∧ Kept w2 wr ∧ Below w.heap.size w wr ∧ w2.heap.size ≤ wr.heap.size) (fun _ i _ => rs.length - (intOf i).toNat)
  case atStart =>
    exact ⟨0, none, 0, by omega, by omega, by simp, rfl, World.ownsRow_nil _ _ _ _, kept_refl _, hb, Nat.le_refl _⟩
  case round =>
    obtain ⟨j, oa, oc, hj, hjn, rfl, rfl, hown, hkr, hbr, hlw⟩ := hrel
    have HOWN := Lib.hid hown
    have HKR := Lib.hid hkr
    clear hown hkr
    have hsub : (k : Int) + j - k = (j : Int) := by omega
    have hn := HN.out
    by_cases hlt : k + j < rs.length ∧ (n < 0 ∨ (j : Int) < n)
    · obtain ⟨hlt, hjlt⟩ := hlt
      have hst := take_more rs k j hlt
      obtain ⟨g0, o0, rfl, hcs⟩ := HRC.out (by omega)
      have p0 := HKR.out _ _ _ (hcs (k + j) hlt)
      have k0 : (0 : Int) ≤ (k : Int) + j := by omega
      have k1 : (k : Int) + j < (rs.length : Int) := by omega
      have HST := Lib.hid hst
      have hjl : ((rs.drop k).take j).length = j := by simp; omega
      clear hcs hst
      generalize rs[k + j] = r at *
      have hki : ((k : Int) + j) = ((k + j : Nat) : Int) := by omega
      generalize hq : k + j = q at *
      rw [hki] at hsub k0 k1 ⊢
      have hjlt2 : (n < 0 ∨ ((j : Int) + 1) ≤ n) := by omega
      rcases hjlt with c3 | c3
      · go_wp2_with (at_builtin; (refine wpList_append_lies _ rfl _ _ _ rfl w2.heap.size 21 i0 _ 1 4 Tryd.underlying32 hi0 hz0 hz1 hz2 (by rfl) (by omega) (.slice oa j oc) j (rvals ((rs.drop k).take j)) (by rfl) (HOWN.out.alloc _) ⟨wr.heap.size, 0, none⟩ 1 1 [.int .i32 (r : Int)] (by rfl) (by rfl) (World.news_of_block (heap_alloc_new wr _)) (by simp [Value.oneCell']) (by omega) (by unfold maxLen; omega) (by omega) (by simp; omega) (wr.heap.size + 1) (by simp) ?_; intro g cap w4 hown4 hgrow4 hat4 hlt4))
        have HO4 := Lib.hid hown4
        have HG4 := Lib.hid hgrow4
        have hgb := fun o h => (HOWN.out.lt o h).1
        have HGB := Lib.hid hgb
        clear hown4 hgrow4 hat4 hgb
        go_roundw
        case rel =>
          refine ⟨j + 1, some ⟨g, 0, none⟩, cap, by omega, by omega, ?_, rfl, ?_, ?_, ?_, ?_⟩
          · exact congrArg (Value.int .i64) (by omega)
          · rw [HST.out, rvals_append]
            simpa [rvals] using HO4.out
          · exact grown_kept (kept_alloc HKR.out _) HG4.out (fun o h => by have := HGB.out o h; omega)
          · have hb4 : Below w.heap.size w (wr.alloc (Obj.cells #[.int .i32 (r : Int)] 21)) := bl_alloc hbr _
            exact hb4.grown HG4.out hb4.size (fun o h => by have := HGB.out o h; have := hb.size; omega)
          · have := HG4.out.size
            simp at this
            omega
        case measure => simp [intOf] <;> omega
      · have c4 : ¬ n < 0 := by omega
        go_wp2_with (at_builtin; (refine wpList_append_lies _ rfl _ _ _ rfl w2.heap.size 21 i0 _ 1 4 Tryd.underlying32 hi0 hz0 hz1 hz2 (by rfl) (by omega) (.slice oa j oc) j (rvals ((rs.drop k).take j)) (by rfl) (HOWN.out.alloc _) ⟨wr.heap.size, 0, none⟩ 1 1 [.int .i32 (r : Int)] (by rfl) (by rfl) (World.news_of_block (heap_alloc_new wr _)) (by simp [Value.oneCell']) (by omega) (by unfold maxLen; omega) (by omega) (by simp; omega) (wr.heap.size + 1) (by simp) ?_; intro g cap w4 hown4 hgrow4 hat4 hlt4))
        have HO4 := Lib.hid hown4
        have HG4 := Lib.hid hgrow4
        have hgb := fun o h => (HOWN.out.lt o h).1
        have HGB := Lib.hid hgb
        clear hown4 hgrow4 hat4 hgb
        go_roundw
        case rel =>
          refine ⟨j + 1, some ⟨g, 0, none⟩, cap, by omega, by omega, ?_, rfl, ?_, ?_, ?_, ?_⟩
          · exact congrArg (Value.int .i64) (by omega)
          · rw [HST.out, rvals_append]
            simpa [rvals] using HO4.out
          · exact grown_kept (kept_alloc HKR.out _) HG4.out (fun o h => by have := HGB.out o h; omega)
          · have hb4 : Below w.heap.size w (wr.alloc (Obj.cells #[.int .i32 (r : Int)] 21)) := bl_alloc hbr _
            exact hb4.grown HG4.out hb4.size (fun o h => by have := HGB.out o h; have := hb.size; omega)
          · have := HG4.out.size
            simp at this
            omega
        case measure => simp [intOf] <;> omega
    · have hout : (if 0 ≤ n then (rs.drop k).take n.toNat else rs.drop k) = (rs.drop k).take j := by
        by_cases hn0 : 0 ≤ n
        · rw [if_pos hn0]
          by_cases hje : (j : Int) = n
          · rw [show n.toNat = j by omega]
          · rw [List.take_of_length_le (by rw [List.length_drop]; omega), List.take_of_length_le (by rw [List.length_drop]; omega)]
        · rw [if_neg hn0, List.take_of_length_le (by rw [List.length_drop]; omega)]
      have HOUT := Lib.hid hout
      have hjl : ((rs.drop k).take j).length = j := by simp; omega
      have hown := HOWN.out
      rw [show j = ((rs.drop k).take j).length from hjl.symm] at hown
      have RR := rune_row (rs := (rs.drop k).take j) (by simpa [hjl] using HOWN.out)
      have TK := Lib.hid (refText_k _ ((rs.drop k).take j) wr RR (by omega))
      clear hown RR hout
      generalize her : encL ((rs.drop k).take j) = er at TK
      by_cases hlt2 : k + j < rs.length
      · have c3 : ¬ n < 0 := fun q => hlt ⟨hlt2, .inl q⟩
        have c4 : ¬ (j : Int) < n := fun q => hlt ⟨hlt2, .inr q⟩
        have k1 : (k : Int) + j < (rs.length : Int) := by omega
        clear hlt
        go_wp2_with fail
        refine (TK.out).mono ?_
        rintro e w3 ⟨rfl, hb2⟩
        have hb3 := bl_trans hbr hb2
        go_wp2_with fail
        all_goals
          refine bodyPost_ret (v := .tuple #[.string (strOfL er), .bool true]) (by simp [results, Tryd.results28, go_sem]) rfl ⟨?_, hb3⟩
          first | rw [HOUT.out, her] | (have hq := HOUT.out; rw [if_pos (by omega)] at hq; rw [hq, her]) | (have hq := HOUT.out; rw [if_neg (by omega)] at hq; rw [hq, her])
      · have k1 : ¬ (k : Int) + j < (rs.length : Int) := by omega
        clear hlt
        go_wp2_with fail
        refine (TK.out).mono ?_
        rintro e w3 ⟨rfl, hb2⟩
        have hb3 := bl_trans hbr hb2
        go_wp2_with fail
        all_goals
          refine bodyPost_ret (v := .tuple #[.string (strOfL er), .bool true]) (by simp [results, Tryd.results28, go_sem]) rfl ⟨?_, hb3⟩
          first | rw [HOUT.out, her] | (have hq := HOUT.out; rw [if_pos (by omega)] at hq; rw [hq, her]) | (have hq := HOUT.out; rw [if_neg (by omega)] at hq; rw [hq, her])

end Go.Proofs.YtnamnldijopkfaaDoor
