/-
  The reader's escapes: digit, hex, escape.
-/
import Derived.Test.YtnamnldijopkfaaDoorTlc
namespace Go.Proofs.YtnamnldijopkfaaDoor
open Go.ChangeShapes Go.WideShapes Go.ChangeAt Go.RowKit Go.Joins

theorem hexdigit_k (c : Int) (w : World) : Calls Tryd.prog 132 #[.int .i32 c] w fun e w' => e = .returned (.int .i32 (digV c)) ∧ w = w' := by
  obtain ⟨v, hv⟩ : ∃ v, digV c = v := ⟨_, rfl⟩
  rw [hv]
  have HV := Lib.hid hv
  clear hv
  go_enter Tryd.func132, Tryd.ntmps132
  by_cases a : 48 ≤ c ∧ c ≤ 57
  · obtain ⟨a1, a2⟩ := a
    go_wp2_with fail
    go_ret
    exact ⟨by rw [← HV.out, digV, if_pos ⟨a1, a2⟩]; rfl, rfl⟩
  · by_cases b : 97 ≤ c ∧ c ≤ 102
    · obtain ⟨b1, b2⟩ := b
      have a2 : ¬ c ≤ 57 := by omega
      have a1 : 48 ≤ c := by omega
      go_wp2_with fail
      go_ret
      exact ⟨by rw [← HV.out, digV, if_neg a, if_pos ⟨b1, b2⟩]; rfl, rfl⟩
    · by_cases d : 65 ≤ c ∧ c ≤ 70
      · obtain ⟨d1, d2⟩ := d
        have a2 : ¬ c ≤ 57 := by omega
        have a1 : 48 ≤ c := by omega
        have b1 : ¬ 97 ≤ c := by omega
        go_wp2_with fail
        go_ret
        exact ⟨by rw [← HV.out, digV, if_neg a, if_neg b, if_pos ⟨d1, d2⟩]; rfl, rfl⟩
      · go_wp2_with fail
        all_goals first
          | (exfalso; omega)
          | (go_ret; exact ⟨by rw [← HV.out, digV, if_neg a, if_neg b, if_neg d]; rfl, rfl⟩)

theorem digV_le (c : Int) : digV c ≤ 15 := by
  unfold digV
  repeat' split
  all_goals omega

theorem hexF_step (l : List UInt8) (q m : Nat) (c : Int) : hexF (m + 1) (l.drop q) c = if digV (hd (l.drop q)) < 0 then none else hexF m (l.drop (q + 1)) (16 * c + digV (hd (l.drop q))) := by
  rw [hexF, List.drop_drop]

set_option maxHeartbeats 2000000 in
set_option maxRecDepth 100000 in
theorem hex_k (l : List UInt8) (k n g : Nat) (w : World) (hE : Env w) (hs : w.cell? ⟨g, 0, none⟩ = some (.string (strOfL l))) (hk : k ≤ 4294967296) (hn : n ≤ 6) :
    Calls Tryd.prog 123 #[.pointer (some ⟨g, 0, none⟩), .int .i64 k, .int .i64 n] w fun e w' => e = .returned (.tuple #[.int .i32 (hexV (l.drop k) n).1, .int .i64 (hexV (l.drop k) n).2]) ∧ Below w.heap.size w w' := by
  have RK : ∀ (q : Nat) (v : World), Below w.heap.size w v → Calls Tryd.prog 85 #[.pointer (some ⟨g, 0, none⟩), .int .i64 q] v fun e w' => e = .returned (.int .i32 (hd (l.drop q))) ∧ Below v.heap.size v w' :=
    fun q v hb => rune_k l q g v (hE.keep (kept_below hb)) (below_keeps hb _ _ _ hs)
  replace RK := Lib.hid RK
  have HV := Lib.hid (show hexV (l.drop k) n = match hexF n (l.drop k) 0 with | none => (0, 0) | some c => if Lib.validRune c = true then (c, n + 1) else (0, 0) from rfl)
  generalize hexV (l.drop k) n = hv at *
  have HX := Lib.hid (show hexF (k + n - k) (l.drop k) 0 = hexF n (l.drop k) 0 by rw [Nat.add_sub_cancel_left])
  generalize hexF n (l.drop k) 0 = hx at *
  clear hE hs
  go_enter Tryd.func123, Tryd.ntmps123
  go_wp2_with fail
  go_loopw [8, 9] (fun c i wr => ∃ (q : Nat) (C : Nat), k ≤ q ∧ q ≤ k + n ∧ i = .int .i64 q ∧ c = .int .i32 C ∧ C + 1 ≤ 16 ^ (q - k) ∧ hexF (k + n - q) (l.drop q) C = hx ∧ Below w.heap.size w wr) (fun _ i _ => k + n - (intOf i).toNat)
  case atStart => exact ⟨k, 0, Nat.le_refl _, by omega, rfl, rfl, by simp, by simpa using HX.out, bl_refl _⟩
  case round =>
    obtain ⟨q, C, hkq, hqn, rfl, rfl, hC, hxF, hb⟩ := hrel
    by_cases hlt : q < k + n
    · obtain ⟨m, hm⟩ : ∃ m, k + n - q = m + 1 := ⟨k + n - q - 1, by omega⟩
      rw [hm, hexF_step] at hxF
      have R0 := Lib.hid (RK.out q _ hb)
      generalize hd (l.drop q) = ch at *
      have D := Lib.hid (hexdigit_k ch)
      have hd15 := digV_le ch
      generalize digV ch = dv at *
      have HXF := Lib.hid hxF
      have hp := Nat.pow_le_pow_right (show 0 < 16 by omega) (show q - k ≤ 5 by omega)
      have hC5 : C ≤ 1048575 := by omega
      have HC := Lib.hid hC
      have k1 : (q : Int) < (k : Int) + (n : Int) := by omega
      clear hxF hC hp
      go_wp2_with fail
      refine R0.out.mono ?_
      rintro e w1 ⟨rfl, hb2⟩
      have hb := bl_trans hb hb2
      clear hb2
      go_wp2_with fail
      refine (D.out _).mono ?_
      rintro e w2 ⟨rfl, rfl⟩
      by_cases hneg : dv < 0
      · have hx2 := HXF.out
        rw [if_pos hneg] at hx2
        have hv2 := HV.out
        rw [← hx2] at hv2
        dsimp only at hv2
        subst hv2
        go_wp2_with fail
        (refine bodyPost_ret (v := .tuple #[.int .i32 0, .int .i64 0]) (by simp [results, Tryd.results123, go_sem]) rfl ⟨rfl, ?_⟩; exact hb)
      · obtain ⟨dn, rfl⟩ : ∃ dn : Nat, dv = (dn : Int) := ⟨dv.toNat, by omega⟩
        go_wp2_with fail
        go_roundw
        case rel =>
          have hx2 := HXF.out
          rw [if_neg (by omega)] at hx2
          refine ⟨q + 1, 16 * C + dn, by omega, by omega, by go_num, by go_num, ?_, ?_, hb⟩
          · have := HC.out
            rw [show q + 1 - k = (q - k) + 1 by omega, Nat.pow_succ]
            generalize 16 ^ (q - k) = M at *
            omega
          · rw [show k + n - (q + 1) = m by omega]
            exact_mod_cast hx2
        case measure => simp [intOf]; omega
    · have hqe : q = k + n := by omega
      subst hqe
      rw [Nat.sub_self, hexF] at hxF
      have hv2 := HV.out
      rw [← hxF] at hv2
      dsimp only at hv2
      have V := Lib.hid (Tryd.utf8_ValidRune (C : Int))
      have HV2 := Lib.hid hv2
      clear hv2 HV HX hxF hC
      generalize hvb : Lib.validRune (C : Int) = vb at *
      go_wp2_with fail
      refine (V.out _).mono ?_
      rintro e w1 ⟨rfl, rfl⟩
      cases vb with
      | true =>
        have hv2 := HV2.out
        rw [if_pos rfl] at hv2
        subst hv2
        go_wp2_with fail
        (refine bodyPost_ret (v := .tuple #[.int .i32 (C : Int), .int .i64 ((n + 1 : Nat) : Int)]) (by simp [results, Tryd.results123, go_sem]) rfl ⟨rfl, ?_⟩; exact hb)
      | false =>
        have hv2 := HV2.out
        rw [if_neg (by simp)] at hv2
        subst hv2
        go_wp2_with fail
        (refine bodyPost_ret (v := .tuple #[.int .i32 0, .int .i64 0]) (by simp [results, Tryd.results123, go_sem]) rfl ⟨rfl, ?_⟩; exact hb)

set_option maxHeartbeats 4000000 in
set_option maxRecDepth 100000 in
theorem escape_k (l : List UInt8) (k g : Nat) (w : World) (hE : Env w) (hs : w.cell? ⟨g, 0, none⟩ = some (.string (strOfL l))) (hk : k ≤ 4294967295) :
    Calls Tryd.prog 107 #[.pointer (some ⟨g, 0, none⟩), .int .i64 k] w fun e w' => e = .returned (.tuple #[.int .i32 (escV (l.drop k)).1, .int .i64 (escV (l.drop k)).2]) ∧ Below w.heap.size w w' := by
  have RK : ∀ (v : World), Below w.heap.size w v → Calls Tryd.prog 85 #[.pointer (some ⟨g, 0, none⟩), .int .i64 k] v fun e w' => e = .returned (.int .i32 (hd (l.drop k))) ∧ Below v.heap.size v w' :=
    fun v hb => rune_k l k g v (hE.keep (kept_below hb)) (below_keeps hb _ _ _ hs)
  have XK : ∀ (n : Nat) (v : World), n ≤ 6 → Below w.heap.size w v → Calls Tryd.prog 123 #[.pointer (some ⟨g, 0, none⟩), .int .i64 ((k : Int) + 1), .int .i64 n] v fun e w' => e = .returned (.tuple #[.int .i32 (hexV ((l.drop k).drop 1) n).1, .int .i64 (hexV ((l.drop k).drop 1) n).2]) ∧ Below v.heap.size v w' :=
    fun n v hn hb => by
      rw [List.drop_drop]
      exact hex_k l (k + 1) n g v (hE.keep (kept_below hb)) (below_keeps hb _ _ _ hs) (by omega) hn
  have X4 := fun (v : World) (hb : Below w.heap.size w v) => XK 4 v (by omega) hb
  have X6 := fun (v : World) (hb : Below w.heap.size w v) => XK 6 v (by omega) hb
  have HV := Lib.hid (show escV (l.drop k) = if hd (l.drop k) = 110 then (10, 1) else if hd (l.drop k) = 114 then (13, 1) else if hd (l.drop k) = 116 then (9, 1)
  else if hd (l.drop k) = 34 ∨ hd (l.drop k) = 92 ∨ hd (l.drop k) = 39 then (hd (l.drop k), 1)
  else if hd (l.drop k) = 117 then hexV ((l.drop k).drop 1) 4 else if hd (l.drop k) = 85 then hexV ((l.drop k).drop 1) 6 else (0, 0) from rfl)
  generalize escV (l.drop k) = ev at *
  generalize hexV ((l.drop k).drop 1) 4 = h4 at *
  generalize hexV ((l.drop k).drop 1) 6 = h6 at *
  generalize hd (l.drop k) = c at *
  replace X4 := Lib.hid X4
  replace X6 := Lib.hid X6
  replace RK := Lib.hid RK
  clear XK hE hs
  go_enter Tryd.func107, Tryd.ntmps107
  go_wp2_with fail
  refine (RK.out _ (bl_refl _)).mono ?_
  rintro e w1 ⟨rfl, hb⟩
  by_cases c1 : c = 110
  · subst c1
    have hv := HV.out
    clear HV
    replace hv := hv.trans (show _ = _ from (rfl : _ = (((10 : Int), 1) : Int × Nat)))
    subst hv
    go_wp2_with fail
    (refine bodyPost_ret (v := .tuple #[.int .i32 10, .int .i64 1]) (by simp [results, Tryd.results107, go_sem]) rfl ⟨rfl, ?_⟩; exact hb)
  by_cases c2 : c = 114
  · subst c2
    have hv := HV.out
    clear HV
    replace hv := hv.trans (show _ = _ from (rfl : _ = (((13 : Int), 1) : Int × Nat)))
    subst hv
    go_wp2_with fail
    (refine bodyPost_ret (v := .tuple #[.int .i32 13, .int .i64 1]) (by simp [results, Tryd.results107, go_sem]) rfl ⟨rfl, ?_⟩; exact hb)
  by_cases c3 : c = 116
  · subst c3
    have hv := HV.out
    clear HV
    replace hv := hv.trans (show _ = _ from (rfl : _ = (((9 : Int), 1) : Int × Nat)))
    subst hv
    go_wp2_with fail
    (refine bodyPost_ret (v := .tuple #[.int .i32 9, .int .i64 1]) (by simp [results, Tryd.results107, go_sem]) rfl ⟨rfl, ?_⟩; exact hb)
  by_cases c4 : c = 34
  · subst c4
    have hv := HV.out
    clear HV
    replace hv := hv.trans (show _ = _ from (rfl : _ = (((34 : Int), 1) : Int × Nat)))
    subst hv
    go_wp2_with fail
    refine (RK.out _ hb).mono ?_
    rintro e w2 ⟨rfl, hb2⟩
    have hb := bl_trans hb hb2
    go_wp2_with fail
    (refine bodyPost_ret (v := .tuple #[.int .i32 34, .int .i64 1]) (by simp [results, Tryd.results107, go_sem]) rfl ⟨rfl, ?_⟩; exact hb)
  by_cases c5 : c = 92
  · subst c5
    have hv := HV.out
    clear HV
    replace hv := hv.trans (show _ = _ from (rfl : _ = (((92 : Int), 1) : Int × Nat)))
    subst hv
    go_wp2_with fail
    refine (RK.out _ hb).mono ?_
    rintro e w2 ⟨rfl, hb2⟩
    have hb := bl_trans hb hb2
    go_wp2_with fail
    (refine bodyPost_ret (v := .tuple #[.int .i32 92, .int .i64 1]) (by simp [results, Tryd.results107, go_sem]) rfl ⟨rfl, ?_⟩; exact hb)
  by_cases c6 : c = 39
  · subst c6
    have hv := HV.out
    clear HV
    replace hv := hv.trans (show _ = _ from (rfl : _ = (((39 : Int), 1) : Int × Nat)))
    subst hv
    go_wp2_with fail
    refine (RK.out _ hb).mono ?_
    rintro e w2 ⟨rfl, hb2⟩
    have hb := bl_trans hb hb2
    go_wp2_with fail
    (refine bodyPost_ret (v := .tuple #[.int .i32 39, .int .i64 1]) (by simp [results, Tryd.results107, go_sem]) rfl ⟨rfl, ?_⟩; exact hb)
  by_cases c7 : c = 117
  · subst c7
    have hv := HV.out
    clear HV
    replace hv := hv.trans (show _ = _ from (rfl : _ = h4))
    subst hv
    go_wp2_with fail
    refine (X4.out _ hb).mono ?_
    rintro e w2 ⟨rfl, hb2⟩
    have hb := bl_trans hb hb2
    go_wp2_with fail
    (refine bodyPost_ret (v := .tuple #[.int .i32 ev.1, .int .i64 ev.2]) (by simp [results, Tryd.results107, go_sem]) rfl ⟨rfl, ?_⟩; exact hb)
  by_cases c8 : c = 85
  · subst c8
    have hv := HV.out
    clear HV
    replace hv := hv.trans (show _ = _ from (rfl : _ = h6))
    subst hv
    go_wp2_with fail
    refine (X6.out _ hb).mono ?_
    rintro e w2 ⟨rfl, hb2⟩
    have hb := bl_trans hb hb2
    go_wp2_with fail
    (refine bodyPost_ret (v := .tuple #[.int .i32 ev.1, .int .i64 ev.2]) (by simp [results, Tryd.results107, go_sem]) rfl ⟨rfl, ?_⟩; exact hb)
  have hv := HV.out
  clear HV
  rw [if_neg c1, if_neg c2, if_neg c3, if_neg (by omega), if_neg c7, if_neg c8] at hv
  subst hv
  go_wp2_with fail
  (refine bodyPost_ret (v := .tuple #[.int .i32 0, .int .i64 0]) (by simp [results, Tryd.results107, go_sem]) rfl ⟨rfl, ?_⟩; exact hb)

end Go.Proofs.YtnamnldijopkfaaDoor
