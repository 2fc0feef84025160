/-
  The contracts of name.keyword, wordly, Begins, piece.
-/
import Derived.Test.YtnamnldijopkfaaDoorTob
import Derived.Test.YtnamnldijopkfaaDoorTu
import Derived.Shelf.Strings.SlTrimAscii
namespace Go.Proofs.YtnamnldijopkfaaDoor
open Go.ChangeShapes Go.WideShapes Go.ChangeAt Go.RowKit Go.Joins

theorem toList_loop (bs : ByteArray) : ∀ (n i : Nat) (r : List UInt8), bs.size - i ≤ n → ByteArray.toList.loop bs i r = r.reverse ++ bs.data.toList.drop i := by
  intro n
  induction n with
  | zero =>
    intro i r h
    unfold ByteArray.toList.loop
    rw [if_neg (by omega), List.drop_eq_nil_of_le (by rw [Array.length_toList]; exact (by omega : bs.size ≤ i)), List.append_nil]
  | succ n ih =>
    intro i r h
    unfold ByteArray.toList.loop
    by_cases hi : i < bs.size
    · rw [if_pos hi, ih (i + 1) _ (by omega)]
      have hl : i < bs.data.toList.length := by rw [Array.length_toList]; exact hi
      rw [List.drop_eq_getElem_cons hl]
      simp [ByteArray.get!, getElem!_def]
      have : bs.data[i]? = some bs.data[i] := Array.getElem?_eq_getElem hi
      rw [this]
    · rw [if_neg hi, List.drop_eq_nil_of_le (by rw [Array.length_toList]; exact (by omega : bs.size ≤ i)), List.append_nil]
theorem toList_str (l : List UInt8) : (strOfL l).toList = l := by
  unfold ByteArray.toList
  rw [toList_loop _ _ 0 [] (Nat.le_refl _), strOfL_list]
  rfl

set_option maxHeartbeats 2000000 in
set_option maxRecDepth 100000 in
theorem keyword_k (s : List UInt8) (w : World) : Calls Tryd.prog 79 #[.string (strOfL s)] w fun e w' => e = .returned (.bool (kwB s)) ∧ w = w' := by
  cases hk : kwB s with
  | true =>
    have hm := List.contains_iff_mem.1 hk
    unfold kws at hm
    simp only [List.mem_cons, List.not_mem_nil, or_false] at hm
    rcases hm with rfl | rfl | rfl | rfl | rfl | rfl | rfl | rfl | rfl | rfl | rfl | rfl | rfl | rfl | rfl | rfl | rfl | rfl
    all_goals
      have ht := toList_str
      clear hk
      go_enter Tryd.func79, Tryd.ntmps79
      go_wp2_with fail
      go_ret
      exact ⟨rfl, rfl⟩
  | false =>
    have hn : ∀ x ∈ kws, (s == x) = false := fun x hx => by
      rw [beq_eq_false_iff_ne]
      rintro rfl
      have : kwB s = true := List.contains_iff_mem.2 hx
      rw [hk] at this
      cases this
    unfold kws at hn
    simp only [List.mem_cons, List.not_mem_nil, or_false, forall_eq_or_imp, forall_eq] at hn
    obtain ⟨h1, h2, h3, h4, h5, h6, h7, h8, h9, h10, h11, h12, h13, h14, h15, h16, h17, h18⟩ := hn
    have ht := toList_str s
    clear hk
    go_enter Tryd.func79, Tryd.ntmps79
    go_wp2_with fail
    go_ret
    exact ⟨rfl, rfl⟩


theorem wordT_k (t : Tok) (w : World) (hk : t.kind ≤ 5) : Calls Tryd.prog 74 #[.agg #[.int .i64 (t.kind : Int), .string (strOfL t.text), .int .i64 (t.at_ : Int)]] w fun e w' => e = .returned (.bool (wordT t)) ∧ Below w.heap.size w w' := by
  obtain ⟨kd, tx, at1⟩ := t
  dsimp only at hk ⊢
  have hcase : kd = 0 ∨ kd = 1 ∨ kd = 2 ∨ kd = 3 ∨ kd = 4 ∨ kd = 5 := by omega
  have hb := bl_alloc (bl_refl w)
  rcases hcase with rfl | rfl | rfl | rfl | rfl | rfl
  all_goals
    go_enter Tryd.func74, Tryd.ntmps74
    go_wp2_with fail
    go_ret
    exact ⟨rfl, hb _⟩

theorem begT_k (t : Tok) (w : World) (hk : t.kind ≤ 5) : Calls Tryd.prog 71 #[.agg #[.int .i64 (t.kind : Int), .string (strOfL t.text), .int .i64 (t.at_ : Int)]] w fun e w' => e = .returned (.bool (begT t)) ∧ Below w.heap.size w w' := by
  have KK := Lib.hid (fun v => keyword_k t.text v)
  obtain ⟨kd, tx, at1⟩ := t
  have HB := Lib.hid (show begT ⟨kd, tx, at1⟩ = (kd == 1 && !kwB tx) from rfl)
  dsimp only at hk KK ⊢
  generalize begT ⟨kd, tx, at1⟩ = b at *
  generalize kwB tx = kb at *
  have hb := bl_alloc (bl_refl w)
  by_cases h1 : kd = 1
  · subst h1
    go_enter Tryd.func71, Tryd.ntmps71
    go_wp2_with fail
    refine (KK.out _).mono ?_
    rintro e w1 ⟨rfl, rfl⟩
    go_wp2_with fail
    go_ret
    exact ⟨by rw [HB.out]; rfl, hb _⟩
  · have hcase : kd = 0 ∨ kd = 2 ∨ kd = 3 ∨ kd = 4 ∨ kd = 5 := by omega
    rcases hcase with rfl | rfl | rfl | rfl | rfl
    all_goals
      go_enter Tryd.func71, Tryd.ntmps71
      go_wp2_with fail
      go_ret
      exact ⟨by rw [HB.out]; rfl, hb _⟩

theorem trim_k (s : List UInt8) (w : World) (hs : s.length ≤ 1073741824) : Calls Tryd.prog 95 #[.string (strOfL s), .string ⟨#[48, 49, 50, 51, 52, 53, 54, 55, 56, 57]⟩] w fun e w' => e = .returned (.string (strOfL (Lib.trimS s ten))) ∧ Below w.heap.size w w' := by
  have h := Go.Proofs.Any.strings_Trim_laid Tryd.lays160 (by kernel_rfl) (strOfL s) ⟨#[48, 49, 50, 51, 52, 53, 54, 55, 56, 57]⟩ w (by rw [strOfL_size]; omega) (by decide) (Go.Proofs.ascii_of_all (by decide))
  rw [strOfL_list] at h
  exact h

set_option maxHeartbeats 1000000 in
theorem pieceT_k (t : Tok) (w : World) (hE : Env w) (hk : t.kind ≤ 5) (hl : t.text.length ≤ 1073741824) : Calls Tryd.prog 72 #[.agg #[.int .i64 (t.kind : Int), .string (strOfL t.text), .int .i64 (t.at_ : Int)]] w fun e w' => e = .returned (.bool (pieceT t)) ∧ Below w.heap.size w w' := by
  have TK := Lib.hid (fun v => trim_k t.text v hl)
  obtain ⟨kd, tx, at1⟩ := t
  have HP := Lib.hid (show pieceT ⟨kd, tx, at1⟩ = if kd = 1 then true else if kd = 2 then allDig tx else if kd = 5 then signB tx else false from rfl)
  dsimp only at hk hl TK ⊢
  generalize pieceT ⟨kd, tx, at1⟩ = b at *
  have hb := bl_alloc (bl_refl w) (.cells #[.int .i64 (kd : Int), .string (strOfL tx), .int .i64 (at1 : Int)] 40)
  have HE := Lib.hid hE
  clear hE
  by_cases h2 : kd = 2
  · subst h2
    have hE := isEmpty_str (Lib.trimS tx ten)
    have htd := trim_digits tx
    have hb2 : b = (Lib.trimS tx ten).isEmpty := by
      rw [HP.out, if_neg (by decide), if_pos rfl]
      cases hq : Lib.trimS tx ten with
      | nil => exact htd.1 hq
      | cons x y =>
        cases hd : allDig tx with
        | false => rfl
        | true => rw [htd.2 hd] at hq; cases hq
    have HB2 := Lib.hid hb2
    generalize Lib.trimS tx ten = tr at *
    generalize tr.isEmpty = em at *
    clear htd hb2
    go_enter Tryd.func72, Tryd.ntmps72
    go_wp2_with fail
    refine (TK.out _).mono ?_
    rintro e w1 ⟨rfl, hb1⟩
    have hb := bl_trans hb hb1
    go_wp2_with fail
    go_ret
    exact ⟨by rw [HB2.out, ← hE]; rfl, hb⟩
  · by_cases h5 : kd = 5
    · subst h5
      by_cases hl1 : tx.length = 1
      · obtain ⟨c, rfl⟩ : ∃ c, tx = [c] := by
          match tx, hl1 with
          | [c], _ => exact ⟨c, rfl⟩
        obtain ⟨-, m, hm⟩ := HE.out.keep (kept_alloc (kept_refl w) (.cells #[.int .i64 (5 : Int), .string (strOfL [c]), .int .i64 (at1 : Int)] 40))
        have CK := Tryd.strings_Contains ⟨#[43, 45, 42, 47, 46, 39]⟩ (strOfL [c]) m _ (by decide) hm
        rw [strOfL_list] at CK
        have hb2 : b = Lib.contains [43, 45, 42, 47, 46, 39] [c] := by
          rw [HP.out, if_neg (by decide), if_neg (by decide), if_pos rfl, sign_one]
        have CK2 := Lib.hid CK
        have HB2 := Lib.hid hb2
        have hsz := strOfL_size [c]
        clear hb2 CK hm
        go_enter Tryd.func72, Tryd.ntmps72
        go_wp2_with fail
        refine (CK2.out).mono ?_
        rintro e w1 ⟨rfl, e9⟩
        subst e9
        have hb := bl_alloc (bl_refl w) (.cells #[.int .i64 (5 : Int), .string (strOfL [c]), .int .i64 (at1 : Int)] 40)
        generalize Lib.contains [43, 45, 42, 47, 46, 39] [c] = cb at *
        go_wp2_with fail
        go_ret
        exact ⟨by rw [HB2.out]; rfl, hb⟩
      · have hb2 : b = false := by
          rw [HP.out, if_neg (by decide), if_neg (by decide), if_pos rfl, sign_len hl1]
        subst hb2
        have hsz := strOfL_size tx
        have k1 : ((tx.length : Int) == 1) = false := by rw [beq_eq_false_iff_ne]; omega
        go_enter Tryd.func72, Tryd.ntmps72
        go_wp2_with fail
        go_ret
        exact ⟨rfl, hb⟩
    · have hcase : kd = 0 ∨ kd = 1 ∨ kd = 3 ∨ kd = 4 := by omega
      rcases hcase with rfl | rfl | rfl | rfl
      all_goals
        go_enter Tryd.func72, Tryd.ntmps72
        go_wp2_with fail
        go_ret
        exact ⟨by rw [HP.out]; rfl, hb⟩

end Go.Proofs.YtnamnldijopkfaaDoor
