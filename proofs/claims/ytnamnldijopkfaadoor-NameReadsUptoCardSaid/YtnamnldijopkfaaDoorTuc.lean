/-
  The contract of name.Read.
-/
import Derived.Test.YtnamnldijopkfaaDoorTub
namespace Go.Proofs.YtnamnldijopkfaaDoor
open Go.ChangeShapes Go.WideShapes Go.ChangeAt Go.RowKit Go.Joins

def RdOut (w : World) (r : Option (List Tok)) (e : Ending) (w' : World) : Prop :=
  match r with
  | some ts => ∃ v, e = .returned (.tuple #[v, .bool true]) ∧ Toks w' v ts ∧ Below w.heap.size w w'
  | none => e = .returned (.tuple #[.slice none 0 0, .bool false]) ∧ Below w.heap.size w w'

theorem Toks.take {w : World} {a : Option Addr} {c : Nat} {ts : List Tok} (h : Toks w (.slice a ts.length c) ts) (n : Nat) (hn : n ≤ ts.length) : Toks w (.slice a n c) (ts.take n) := by
  obtain ⟨a', c', e, h1, h2, h3⟩ := h
  simp only [Value.slice.injEq, true_and] at e
  obtain ⟨rfl, rfl⟩ := e
  refine ⟨a, c, by rw [List.length_take, Nat.min_eq_left hn], by rw [List.length_take]; omega, h2, fun hne => ?_⟩
  obtain ⟨b, o, e, hc⟩ := h3 (by intro q; subst q; simp at hne)
  refine ⟨b, o, e, fun j hj => ?_⟩
  rw [List.length_take] at hj
  rw [List.getElem_take]
  exact hc j (by omega)

/-- what Read finds of a text's tokens -/
theorem readP_eq {s : List UInt8} {ts : List Tok} (h : toksL s = some ts) : readP s =
    if h1 : 2 ≤ ts.length then (if begT (ts[0]'(by omega)) = true then (if (ts.take (ts.length - 1)).all pieceT = true then (if joinT (ts.take (ts.length - 1)) = s then some (ts.take (ts.length - 1)) else none) else none) else none) else none := by
  unfold readP
  rw [h]
  match ts with
  | [] => rw [dif_neg (by simp)]
  | t :: us =>
    dsimp only
    rw [List.dropLast_eq_take]
    by_cases h1 : 1 ≤ us.length
    · rw [dif_pos (by simp; omega)]
      simp only [List.getElem_cons_zero]
      by_cases h2 : begT t = true
      · rw [if_pos h2]
        by_cases h3 : ((t :: us).take ((t :: us).length - 1)).all pieceT = true
        · rw [if_pos h3]
          by_cases h4 : joinT ((t :: us).take ((t :: us).length - 1)) = s
          · rw [if_pos h4, if_pos ⟨h1, h2, h3, h4⟩]
          · rw [if_neg h4, if_neg (fun q => h4 q.2.2.2)]
        · rw [if_neg h3, if_neg (fun q => h3 q.2.2.1)]
      · rw [if_neg h2, if_neg (fun q => h2 q.2.1)]
    · rw [dif_neg (by rw [List.length_cons]; omega), if_neg (fun q => h1 q.1)]

set_option maxHeartbeats 4000000 in
set_option maxRecDepth 100000 in
theorem read_k (s : List UInt8) (w : World) (hE : Env w) (hl : s.length ≤ 2097153) :
    Calls Tryd.prog 36 #[.string (strOfL s)] w (RdOut w (readP s)) := by
  have HE := Lib.hid hE
  have TK := Lib.hid (tokens_k s w hE (by omega))
  cases hx : toksL s with
  | none =>
    have hr : readP s = none := by unfold readP; rw [hx]
    rw [hr]
    rw [hx] at TK
    clear hx hr hE
    go_enter Tryd.func36, Tryd.ntmps36
    go_wp2_with fail
    refine TK.out.mono ?_
    rintro e w1 ⟨rfl, hb⟩
    go_wp2_with fail
    refine bodyPost_ret (v := .tuple #[.slice none 0 0, .bool false]) (by simp [results, Tryd.results36, go_sem]) rfl ?_
    exact ⟨rfl, hb⟩
  | some ts =>
    have hrp := readP_eq hx
    have F := (toks_fine hx).1
    have G := toks_fine2 hx
    have hlen := F.len
    have hbk := bulk_max (4 * s.length) ts G.small
    have hbk2 : bulkT ts ≤ 35184372088832 := by
      have : ts.length * (4 * s.length + 1) ≤ 2097154 * 8388613 := Nat.mul_le_mul (by omega) (by omega)
      omega
    rw [hx] at TK
    have HRP := Lib.hid hrp
    have HKD := Lib.hid F.kinds
    have HSM := Lib.hid G.small
    clear hx hrp hE F G
    generalize readP s = r at *
    go_enter Tryd.func36, Tryd.ntmps36
    go_wp2_with fail
    refine TK.out.mono ?_
    rintro e w1 ⟨v, rfl, hT, hb⟩
    have E1 := Lib.hid (HE.out.keep (kept_below hb))
    have HT := Lib.hid hT
    obtain ⟨a, c, rfl, hc1, hc2, -⟩ := hT
    by_cases h2 : 2 ≤ ts.length
    · have hrp := HRP.out
      rw [dif_pos h2] at hrp
      obtain ⟨-, -, -, bb, bo, rfl, hcs⟩ := HT.out.cells (by intro q; rw [q] at h2; simp at h2)
      have c0 := (hcs 0 (by omega)).1
      have c1 := (hcs 0 (by omega)).2.1
      have c2 := (hcs 0 (by omega)).2.2
      simp only [Nat.zero_mul, Nat.add_zero] at c0 c1 c2
      have hk0 := HKD.out (ts[0]'(by omega)) (List.getElem_mem _)
      have BK := Lib.hid (fun v => begT_k (ts[0]'(by omega)) v hk0)
      have HRP2 := Lib.hid hrp
      have k1 : ¬ (ts.length : Int) < 2 := by omega
      have k2 : (0 : Int) < (ts.length : Int) := by omega
      clear hcs hk0 hrp HRP
      generalize hbt : begT (ts[0]'(by omega)) = bt at *
      generalize ts[0]'(by omega) = t0 at *
      clear hbt
      go_wp2_with fail
      refine (BK.out _).mono ?_
      rintro e w2 ⟨rfl, hb2⟩
      have E2 := Lib.hid (E1.out.keep (kept_below hb2))
      have HT2 := Lib.hid (HT.out.keep (kept_below hb2))
      have hb := bl_trans hb hb2
      clear hb2 c0 c1 c2 HT
      cases bt with
      | false =>
        have hrp := HRP2.out
        rw [if_neg (by decide)] at hrp
        have HR := Lib.hid hrp
        clear hrp
        go_wp2_with fail
        refine bodyPost_ret (v := .tuple #[.slice none 0 0, .bool false]) (by simp [results, Tryd.results36, go_sem]) rfl ?_
        rw [HR.out]
        exact ⟨rfl, hb⟩
      | true =>
        have hrp := HRP2.out
        rw [if_pos rfl] at hrp
        obtain ⟨n, hn⟩ : ∃ n, ts.length = n + 1 := ⟨ts.length - 1, by omega⟩
        rw [show ts.length - 1 = n by omega] at hrp
        have HR := Lib.hid hrp
        have HT3 := Lib.hid (HT2.out.take n (by omega))
        have hn1 : (ts.length : Int) - 1 = (n : Int) := by omega
        have hn2 : (n : Int) ≤ (c : Int) := by omega
        have hn3 : (n : Int) ≤ (ts.length : Int) := by omega
        clear hrp HRP2
        have hkd2 : ∀ t ∈ ts.take n, t.kind ≤ 5 := fun t ht => HKD.out t (List.mem_of_mem_take ht)
        have JK := Lib.hid (fun (v : World) (h : Kept w2 v) => join_k (ts.take n) _ v (HT3.out.keep h) hkd2 (by have := bulk_take ts n; omega) (by rw [List.length_take]; omega))
        have hln : (ts.take n).length = n := by rw [List.length_take]; omega
        generalize hts : ts.take n = us at *
        have HTS := Lib.hid hts
        have HLN := Lib.hid hln
        clear hts hkd2
        go_wp2_with fail
        go_loopw [34] (fun i wr => ∃ j : Nat, j ≤ n ∧ i = .int .i64 j ∧ Below w2.heap.size w2 wr ∧ (∀ i (h : i < us.length), i < j → pieceT us[i] = true)) (fun i _ => n - (intOf i).toNat)
        case atStart => exact ⟨0, Nat.zero_le _, rfl, bl_refl w2, fun i _ hi => absurd hi (Nat.not_lt_zero _)⟩
        case round =>
          obtain ⟨j, hj, rfl, hbr, hall⟩ := hrel
          have HALL := Lib.hid hall
          clear hall
          by_cases hlt : j < n
          · have hju : j < us.length := by have := HLN.out; omega
            obtain ⟨-, -, -, _, _, hta, hcs2⟩ := (HT3.out.keep (kept_below hbr)).cells (by intro q; rw [q] at hju; simp at hju)
            simp only [Option.some.injEq, Addr.mk.injEq, and_true] at hta
            obtain ⟨rfl, rfl⟩ := hta
            have c0 := (hcs2 j hju).1
            have c1 := (hcs2 j hju).2.1
            have c2 := (hcs2 j hju).2.2
            have cl := lt_of_cell c0
            have hmu : us[j] ∈ ts := List.mem_of_mem_take (by rw [HTS.out]; exact List.getElem_mem hju)
            have hxw := kept_below (bl_trans hb hbr)
            have PK := Lib.hid (fun (v : World) (h : Kept wr v) => pieceT_k us[j] v (HE.out.keep (kept_trans hxw h)) (HKD.out _ hmu) (by have := HSM.out _ hmu; omega))
            have k3 : (j : Int) < (n : Int) := by omega
            generalize hpt : pieceT us[j] = p at *
            have HPT := Lib.hid hpt
            generalize hgt : us[j] = t at c0 c1 c2 PK
            have HGT := Lib.hid hgt
            clear hgt hpt hcs2 hmu hxw
            go_wp2_with fail
            refine (PK.out _ (by first | exact kept_alloc (kept_refl _) _ | exact kept_below (by (repeat (first | with_reducible assumption | with_reducible exact bl_refl _ | with_reducible refine bl_alloc ?_ _ | with_reducible refine bl_set ?_ (by first | (simp; done) | (simp; omega)) _ | with_reducible refine bl_drew ?_ | with_reducible refine bl_drewN ?_ _ | with_reducible refine bl_trans ?_ (by assumption)))))).mono ?_
            rintro e w3 ⟨rfl, hb3⟩
            have hbr3 : Below w2.heap.size w2 w3 := bl_trans (by (repeat (first | with_reducible assumption | with_reducible exact bl_refl _ | with_reducible refine bl_alloc ?_ _ | with_reducible refine bl_set ?_ (by first | (simp; done) | (simp; omega)) _ | with_reducible refine bl_drew ?_ | with_reducible refine bl_drewN ?_ _ | with_reducible refine bl_trans ?_ (by assumption)))) hb3
            clear hb3
            cases p with
            | true =>
              go_wp2_with fail
              go_roundw
              case rel =>
                refine ⟨j + 1, by omega, by go_num, hbr3, fun i hi hl => ?_⟩
                by_cases he : i = j
                · subst he; exact HPT.out
                · exact HALL.out i hi (by omega)
              case measure => simp [intOf]; omega
            | false =>
              have hr := HR.out
              have hna : ¬ us.all pieceT = true := fun q => by
                have := List.all_eq_true.1 q us[j] (List.getElem_mem _)
                rw [HPT.out] at this
                cases this
              rw [if_neg hna] at hr
              have HR2 := Lib.hid hr
              clear hr hna
              go_wp2_with fail
              refine bodyPost_ret (v := .tuple #[.slice none 0 0, .bool false]) (by simp [results, Tryd.results36, go_sem]) rfl ?_
              rw [HR2.out]
              exact ⟨rfl, bl_trans hb hbr3⟩
          · have hr := HR.out
            have hna : us.all pieceT = true := List.all_eq_true.2 (fun t ht => by
              obtain ⟨i, hi, rfl⟩ := List.getElem_of_mem ht
              exact HALL.out i hi (by have := HLN.out; omega))
            rw [if_pos hna] at hr
            have HR2 := Lib.hid hr
            have k3 : ¬ (j : Int) < (n : Int) := by omega
            clear hr hna
            go_wp2_with fail
            refine (JK.out _ (kept_below hbr)).mono ?_
            rintro e w3 ⟨rfl, hb3⟩
            have hbr3 := bl_trans hbr hb3
            have hT3 := Lib.hid (HT3.out.keep (kept_below hbr3))
            have hbb := bytes_beq (joinT us) s
            clear hb3
            by_cases he : joinT us = s
            · have hr := HR2.out
              rw [if_pos he] at hr
              have HR3 := Lib.hid hr
              rw [he]
              clear hr he hbb
              go_wp2_with fail
              refine bodyPost_ret (v := .tuple #[.slice (some ⟨bb, bo, none⟩) n c, .bool true]) (by simp [results, Tryd.results36, go_sem]) rfl ?_
              rw [HR3.out]
              exact ⟨_, rfl, hT3.out, bl_trans hb hbr3⟩
            · have hr := HR2.out
              rw [if_neg he] at hr
              have HR3 := Lib.hid hr
              rw [decide_eq_false he] at hbb
              clear hr he
              go_wp2_with fail
              refine bodyPost_ret (v := .tuple #[.slice none 0 0, .bool false]) (by simp [results, Tryd.results36, go_sem]) rfl ?_
              rw [HR3.out]
              exact ⟨rfl, bl_trans hb hbr3⟩
    · have hrp := HRP.out
      rw [dif_neg h2] at hrp
      have HR := Lib.hid hrp
      have k1 : (ts.length : Int) < 2 := by omega
      clear hrp HRP
      go_wp2_with fail
      refine bodyPost_ret (v := .tuple #[.slice none 0 0, .bool false]) (by simp [results, Tryd.results36, go_sem]) rfl ?_
      rw [HR.out]
      exact ⟨rfl, hb⟩

end Go.Proofs.YtnamnldijopkfaaDoor
