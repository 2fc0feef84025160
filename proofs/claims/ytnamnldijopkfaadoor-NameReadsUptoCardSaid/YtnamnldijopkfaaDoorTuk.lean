/-
  The document's examples of chapter 17: the law's awake.
-/
import Derived.Test.YtnamnldijopkfaaDoorTue
import Derived.Test.YtnamnldijopkfaaDoorTug
import Derived.Test.YtnamnldijopkfaaDoorTui
import Derived.Test.YtnamnldijopkfaaDoorTuj
namespace Go.Proofs.YtnamnldijopkfaaDoor
open Go.ChangeShapes Go.WideShapes Go.ChangeAt Go.RowKit Go.Joins

def exA1 : List Tok := [⟨1, [97], 0⟩, ⟨1, [98], 2⟩, ⟨1, [99], 4⟩]
def exA2 : List Tok := [⟨1, [105, 110], 0⟩]
def exA3 : List Tok := [⟨1, [120], 0⟩, ⟨1, [121], 2⟩, ⟨1, [105, 110], 4⟩, ⟨1, [122], 7⟩]
def exA4 : List Tok := [⟨1, [97], 0⟩, ⟨5, [46], 1⟩, ⟨1, [98], 2⟩]
def exA5 : List Tok := [⟨1, [97], 0⟩, ⟨5, [45], 2⟩, ⟨1, [98], 4⟩]

theorem exOk (ts : List Tok) (h1 : (ts.all fun t => decide (t.kind ≤ 5) && decide (t.text.length ≤ 1073741824)) = true) (h2 : ts.length ≤ 1073741824) (h3 : bulkT ts ≤ 35184372088832) : TokOk ts :=
  ⟨fun t ht => by have := List.all_eq_true.1 h1 t ht; simp at this; exact this.1, fun t ht => by have := List.all_eq_true.1 h1 t ht; simp at this; exact this.2, h2, h3⟩

set_option maxHeartbeats 4000000 in
set_option maxRecDepth 100000 in
theorem awake17 (w : World) (hE : Env w) : Calls Tryd.prog 35 #[] w fun e w' => e = .returned (.bool true) ∧ Below w.heap.size w w' := by
  have HE := Lib.hid hE
  have R1 := Lib.hid (read_k [97, 32, 32, 98] w hE (by decide))
  rw [show readP [97, 32, 32, 98] = none by decide +kernel] at R1
  have T1 := Lib.hid (fun v (h : Env v) => ltokens_k [97, 32, 98, 32, 99] v h (by decide))
  rw [show ltoks [97, 32, 98, 32, 99] = exA1 by decide +kernel] at T1
  have T2 := Lib.hid (fun v (h : Env v) => ltokens_k [105, 110] v h (by decide))
  rw [show ltoks [105, 110] = exA2 by decide +kernel] at T2
  have T3 := Lib.hid (fun v (h : Env v) => ltokens_k [120, 32, 121, 32, 105, 110, 32, 122] v h (by decide))
  rw [show ltoks [120, 32, 121, 32, 105, 110, 32, 122] = exA3 by decide +kernel] at T3
  have T4 := Lib.hid (fun v (h : Env v) => ltokens_k [97, 46, 98] v h (by decide))
  rw [show ltoks [97, 46, 98] = exA4 by decide +kernel] at T4
  have T5 := Lib.hid (fun v (h : Env v) => ltokens_k [97, 32, 45, 32, 98] v h (by decide))
  rw [show ltoks [97, 32, 45, 32, 98] = exA5 by decide +kernel] at T5
  have O1 := Lib.hid (fun vm v (h : Env v) (hm : Strs v vm [[97], [97, 32, 98]]) => of_k vm [[97], [97, 32, 98]] v h hm (by decide) (by decide))
  rw [show withP [] [[97], [97, 32, 98]] = [[97], [97, 32, 98]] by decide +kernel] at O1
  have O2 := Lib.hid (fun v (h : Env v) => of_k (.slice none 0 0) [] v h ⟨none, 0, rfl, Nat.le_refl _, by omega, fun q => absurd rfl q⟩ (by decide) (by decide))
  rw [show withP [] [] = [] from rfl] at O2
  have M1 := Lib.hid (fun vn vt v (h : Env v) (hn : Strs v vn [[97], [97, 32, 98]]) (ht : Toks v vt exA1) => match_k [[97], [97, 32, 98]] exA1 vn vt 0 v h hn ht (exOk _ (by decide) (by decide) (by decide)) (by decide) (by omega))
  rw [show matchP [[97], [97, 32, 98]] exA1 0 = ([97, 32, 98], 2) by decide +kernel] at M1
  try dsimp only at M1
  rw [show strOfL [97, 32, 98] = (⟨#[97, 32, 98]⟩ : ByteArray) from rfl] at M1
  have M2 := Lib.hid (fun vn vt v (h : Env v) (hn : Strs v vn []) (ht : Toks v vt exA2) => match_k [] exA2 vn vt 0 v h hn ht (exOk _ (by decide) (by decide) (by decide)) (by decide) (by omega))
  rw [show matchP [] exA2 0 = ([], 0) by decide +kernel] at M2
  try dsimp only at M2
  rw [show strOfL [] = (⟨#[]⟩ : ByteArray) from rfl] at M2
  have G1 := Lib.hid (fun vt v (h : Env v) (ht : Toks v vt exA3) => given_k exA3 vt 0 v h ht (exOk _ (by decide) (by decide) (by decide)) (by omega))
  rw [show givP gvT exA3 0 = ([120, 32, 121], 2) by decide +kernel] at G1
  try dsimp only at G1
  rw [show strOfL [120, 32, 121] = (⟨#[120, 32, 121]⟩ : ByteArray) from rfl] at G1
  have N1 := Lib.hid (fun vt v (h : Env v) (ht : Toks v vt exA4) => run_k exA4 vt 0 v h ht (exOk _ (by decide) (by decide) (by decide)) (by omega))
  rw [show givP rnT exA4 0 = ([97], 1) by decide +kernel] at N1
  try dsimp only at N1
  rw [show strOfL [97] = (⟨#[97]⟩ : ByteArray) from rfl] at N1
  have J1 := Lib.hid (fun vt v (ht : Toks v vt exA5) => join_k exA5 vt v ht (by decide) (by decide) (by decide))
  rw [show joinT exA5 = [97, 45, 98] by decide +kernel] at J1
  try dsimp only at J1
  rw [show strOfL [97, 45, 98] = (⟨#[97, 45, 98]⟩ : ByteArray) from rfl] at J1
  have L1 := Lib.hid (fun v (h : Env v) => local_k [100, 97, 116, 101, 32, 97, 110, 100, 32, 116, 105, 109, 101] v h (by decide))
  rw [show localP [100, 97, 116, 101, 32, 97, 110, 100, 32, 116, 105, 109, 101] = false by decide +kernel] at L1
  clear hE
  go_enter Tryd.func35, Tryd.ntmps35
  go_wp2_with fail
  refine (R1.out).mono ?_
  rintro e w1 ⟨rfl, hb⟩
  have E1 := Lib.hid (HE.out.keep (kept_below hb))
  go_wp2_with fail
  have S0 : Strs (w1.alloc (.cells #[.string ⟨#[97]⟩, .string ⟨#[97, 32, 98]⟩] 9)) (.slice (some ⟨w1.heap.size, 0, none⟩) 2 2) [[97], [97, 32, 98]] := by
    refine ⟨some ⟨w1.heap.size, 0, none⟩, 2, rfl, Nat.le_refl _, by omega, fun _ => ?_⟩
    refine ⟨w1.heap.size, 0, rfl, fun j hj => ?_⟩
    match j, hj with
    | 0, _ => simp [go_sem, strOfL]
    | 1, _ => simp [go_sem, strOfL]
  refine (O1.out _ _ (E1.out.keep (kept_alloc (kept_refl _) _)) S0).mono ?_
  rintro e w2 ⟨v2, rfl, hS2, hb2⟩
  have E2 := Lib.hid ((E1.out.keep (kept_alloc (kept_refl _) _)).keep (kept_below hb2))
  have B2 := Lib.hid (show Below w.heap.size w w2 by (have hA := hb; have hB := hb2; (repeat (first | with_reducible assumption | with_reducible exact bl_refl _ | with_reducible refine bl_alloc ?_ _ | with_reducible refine bl_set ?_ (by simp) _ | with_reducible refine bl_drew ?_ | with_reducible refine bl_drewN ?_ _ | with_reducible refine bl_trans ?_ (by assumption)))))
  clear S0
  go_wp2_with fail
  refine (T1.out _ E2.out).mono ?_
  rintro e w3 ⟨v3, rfl, hT3, hb3⟩
  have E3 := Lib.hid (E2.out.keep (kept_below hb3))
  go_wp2_with fail
  refine (M1.out _ _ _ E3.out (hS2.keep (kept_below hb3)) hT3).mono ?_
  rintro e w4 ⟨rfl, hb4⟩
  have E4 := Lib.hid (E3.out.keep (kept_below hb4))
  go_wp2_with fail
  have B4 := Lib.hid (show Below w.heap.size w w4 by (have hA := B2.out; have hB := hb3; have hC := hb4; (repeat (first | with_reducible assumption | with_reducible exact bl_refl _ | with_reducible refine bl_alloc ?_ _ | with_reducible refine bl_set ?_ (by simp) _ | with_reducible refine bl_drew ?_ | with_reducible refine bl_drewN ?_ _ | with_reducible refine bl_trans ?_ (by assumption)))))
  refine (O2.out _ E4.out).mono ?_
  rintro e w5 ⟨v5, rfl, hS5, hb5⟩
  have E5 := Lib.hid (E4.out.keep (kept_below hb5))
  go_wp2_with fail
  refine (T2.out _ E5.out).mono ?_
  rintro e w6 ⟨v6, rfl, hT6, hb6⟩
  have E6 := Lib.hid (E5.out.keep (kept_below hb6))
  go_wp2_with fail
  refine (M2.out _ _ _ E6.out (hS5.keep (kept_below hb6)) hT6).mono ?_
  rintro e w7 ⟨rfl, hb7⟩
  have E7 := Lib.hid (E6.out.keep (kept_below hb7))
  go_wp2_with fail
  have B7 := Lib.hid (show Below w.heap.size w w7 by (have hA := B4.out; have hB := hb5; have hC := hb6; have hD := hb7; (repeat (first | with_reducible assumption | with_reducible exact bl_refl _ | with_reducible refine bl_alloc ?_ _ | with_reducible refine bl_set ?_ (by simp) _ | with_reducible refine bl_drew ?_ | with_reducible refine bl_drewN ?_ _ | with_reducible refine bl_trans ?_ (by assumption)))))
  refine (T3.out _ E7.out).mono ?_
  rintro e w8 ⟨v8, rfl, hT8, hb8⟩
  have E8 := Lib.hid (E7.out.keep (kept_below hb8))
  go_wp2_with fail
  refine (G1.out _ _ E8.out hT8).mono ?_
  rintro e w9 ⟨rfl, hb9⟩
  have E9 := Lib.hid (E8.out.keep (kept_below hb9))
  go_wp2_with fail
  refine (T4.out _ E9.out).mono ?_
  rintro e w10 ⟨v10, rfl, hT10, hb10⟩
  have E10 := Lib.hid (E9.out.keep (kept_below hb10))
  go_wp2_with fail
  refine (N1.out _ _ E10.out hT10).mono ?_
  rintro e w11 ⟨rfl, hb11⟩
  have E11 := Lib.hid (E10.out.keep (kept_below hb11))
  go_wp2_with fail
  have B11 := Lib.hid (show Below w.heap.size w w11 by (have hA := B7.out; have hB := hb8; have hC := hb9; have hD := hb10; have hF := hb11; (repeat (first | with_reducible assumption | with_reducible exact bl_refl _ | with_reducible refine bl_alloc ?_ _ | with_reducible refine bl_set ?_ (by simp) _ | with_reducible refine bl_drew ?_ | with_reducible refine bl_drewN ?_ _ | with_reducible refine bl_trans ?_ (by assumption)))))
  refine (T5.out _ E11.out).mono ?_
  rintro e w12 ⟨v12, rfl, hT12, hb12⟩
  have E12 := Lib.hid (E11.out.keep (kept_below hb12))
  go_wp2_with fail
  refine (J1.out _ _ hT12).mono ?_
  rintro e w13 ⟨rfl, hb13⟩
  have E13 := Lib.hid (E12.out.keep (kept_below hb13))
  go_wp2_with fail
  refine (L1.out _ E13.out).mono ?_
  rintro e w14 ⟨rfl, hb14⟩
  have B14 := Lib.hid (show Below w.heap.size w w14 by (have hA := B11.out; have hB := hb12; have hC := hb13; have hD := hb14; (repeat (first | with_reducible assumption | with_reducible exact bl_refl _ | with_reducible refine bl_alloc ?_ _ | with_reducible refine bl_set ?_ (by simp) _ | with_reducible refine bl_drew ?_ | with_reducible refine bl_drewN ?_ _ | with_reducible refine bl_trans ?_ (by assumption)))))
  go_wp2_with fail
  go_ret
  exact ⟨rfl, B14.out⟩

end Go.Proofs.YtnamnldijopkfaaDoor
