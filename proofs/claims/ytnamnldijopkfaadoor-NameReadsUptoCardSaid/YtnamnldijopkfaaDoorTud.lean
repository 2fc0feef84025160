/-
  The contracts of name.longest, Given, Run.
-/
import Derived.Test.YtnamnldijopkfaaDoorTub
namespace Go.Proofs.YtnamnldijopkfaaDoor
open Go.ChangeShapes Go.WideShapes Go.ChangeAt Go.RowKit Go.Joins

/-- how many tokens at the beginning are like something -/
def lead (p : Tok → Bool) : List Tok → Nat
  | [] => 0
  | t :: ts => if p t = true then lead p ts + 1 else 0
theorem lead_le (p : Tok → Bool) : ∀ ts, lead p ts ≤ ts.length
  | [] => Nat.le_refl _
  | t :: ts => by
    have := lead_le p ts
    rw [lead, List.length_cons]
    split <;> omega
theorem lead_at (p : Tok → Bool) : ∀ (ts : List Tok) (n : Nat) (h : n < ts.length), n < lead p ts → p ts[n] = true
  | [], _, h, _ => absurd h (Nat.not_lt_zero _)
  | t :: ts, 0, _, hl => by
    rw [lead] at hl
    split at hl
    · assumption
    · omega
  | t :: ts, n + 1, h, hl => by
    rw [lead] at hl
    split at hl
    · exact lead_at p ts n (by simpa using h) (by omega)
    · omega
theorem lead_eq (p : Tok → Bool) : ∀ (ts : List Tok) (n : Nat), n ≤ ts.length → (∀ i (h : i < ts.length), i < n → p ts[i] = true) → (∀ h : n < ts.length, p ts[n] = false) → lead p ts = n
  | [], n, h, _, _ => by
    have : n = 0 := by simpa using h
    subst this; rfl
  | t :: ts, 0, _, _, h => by
    have := h (by simp)
    simp only [List.getElem_cons_zero] at this
    rw [lead, if_neg (by rw [this]; decide)]
  | t :: ts, n + 1, hn, h1, h2 => by
    have h0 := h1 0 (by simp) (by omega)
    simp only [List.getElem_cons_zero] at h0
    rw [lead, if_pos h0, lead_eq p ts n (by simpa using hn) (fun i hi hl => by have := h1 (i + 1) (by simpa using hi) (by omega); simpa using this) (fun hl => by have := h2 (by simpa using hl); simpa using this)]
theorem lead_drop (p : Tok → Bool) (ts : List Tok) (k n : Nat) (hn : k + n ≤ ts.length) (h1 : ∀ i (h : k + i < ts.length), i < n → p ts[k + i] = true) (h2 : ∀ h : k + n < ts.length, p ts[k + n] = false) : lead p (ts.drop k) = n := by
  refine lead_eq p _ n (by rw [List.length_drop]; omega) (fun i hi hl => ?_) (fun hl => ?_)
  · rw [List.getElem_drop]
    exact h1 i _ hl
  · rw [List.getElem_drop]
    rw [List.length_drop] at hl
    exact h2 (by omega)

def kwT (t : Tok) : Bool := t.kind == 1 && kwB t.text

set_option maxHeartbeats 2000000 in
set_option maxRecDepth 100000 in
theorem longest_k (ts : List Tok) (v : Value) (k : Nat) (w : World) (hE : Env w) (h : Toks w v ts) (hk : ∀ t ∈ ts, t.kind ≤ 5) (hs : ∀ t ∈ ts, t.text.length ≤ 1073741824) (hn : ts.length ≤ 1073741824) (hkl : k ≤ ts.length) :
    Calls Tryd.prog 73 #[v, .int .i64 k] w fun e w' => e = .returned (.int .i64 (lead pieceT (ts.drop k))) ∧ Below w.heap.size w w' := by
  have HT := Lib.hid h
  have HK := Lib.hid hk
  have HS := Lib.hid hs
  have HE := Lib.hid hE
  obtain ⟨a, c, rfl, hc1, hc2, -⟩ := h
  clear hk hs hE
  go_enter Tryd.func73, Tryd.ntmps73
  go_wp2_with fail
  go_loopw [5] (fun i wr => ∃ n : Nat, k + n ≤ ts.length ∧ i = .int .i64 n ∧ Below w.heap.size w wr ∧ (∀ i (h : k + i < ts.length), i < n → pieceT ts[k + i] = true)) (fun i _ => ts.length - (intOf i).toNat)
  case atStart => exact ⟨0, by omega, rfl, bl_refl w, fun i _ hi => absurd hi (Nat.not_lt_zero _)⟩
  case round =>
    obtain ⟨n, hkn, rfl, hbr, hall⟩ := hrel
    have HALL := Lib.hid hall
    clear hall
    by_cases hlt : k + n < ts.length
    · obtain ⟨-, -, -, bb, bo, rfl, hcs⟩ := (HT.out.keep (kept_below hbr)).cells (by intro q; rw [q] at hlt; simp at hlt)
      have c0 := (hcs (k + n) hlt).1
      have c1 := (hcs (k + n) hlt).2.1
      have c2 := (hcs (k + n) hlt).2.2
      have PK := Lib.hid (pieceT_k ts[k + n] wr (HE.out.keep (kept_below hbr)) (HK.out _ (List.getElem_mem _)) (HS.out _ (List.getElem_mem _)))
      have k1 : (k : Int) + (n : Int) < (ts.length : Int) := by omega
      have k2 : (0 : Int) ≤ (k : Int) + (n : Int) := by omega
      have k3 : ((k : Int) + (n : Int)).toNat = k + n := by omega
      generalize hpt : pieceT ts[k + n] = p at *
      have HPT := Lib.hid hpt
      clear hcs hpt
      generalize hgt : ts[k + n] = t at c0 c1 c2 PK
      have HGT := Lib.hid hgt
      clear hgt
      go_wp2_with fail
      refine (PK.out).mono ?_
      rintro e w2 ⟨rfl, hb2⟩
      have hb := bl_trans hbr hb2
      clear hb2
      cases p with
      | true =>
        go_wp2_with fail
        go_roundw
        case rel =>
          refine ⟨n + 1, by omega, by go_num, hb, fun i hi hl => ?_⟩
          by_cases he : i = n
          · subst he; exact HPT.out
          · exact HALL.out i hi (by omega)
        case measure => simp [intOf]; omega
      | false =>
        have HL := Lib.hid (lead_drop pieceT ts k n hkn HALL.out (fun _ => HPT.out))
        go_wp2_with fail
        go_ret
        exact ⟨by rw [HL.out]; rfl, hb⟩
    · have HL := Lib.hid (lead_drop pieceT ts k n hkn HALL.out (fun h => absurd h hlt))
      have k1 : ¬ (k : Int) + (n : Int) < (ts.length : Int) := by omega
      go_wp2_with fail
      go_ret
      exact ⟨by rw [HL.out]; rfl, hbr⟩

theorem lead_stop (p : Tok → Bool) : ∀ (ts : List Tok) (h : lead p ts < ts.length), p (ts[lead p ts]'h) = false
  | [], h => absurd h (Nat.not_lt_zero _)
  | t :: ts, h => by
    cases hp : p t with
    | false =>
      have e : lead p (t :: ts) = 0 := by rw [lead, if_neg (by rw [hp]; decide)]
      simp only [e, List.getElem_cons_zero]
      exact hp
    | true =>
      have e : lead p (t :: ts) = lead p ts + 1 := by rw [lead, if_pos hp]
      rw [e, List.length_cons] at h
      simp only [e, List.getElem_cons_succ]
      exact lead_stop p ts (by omega)

theorem Toks.part {w : World} {b o L c : Nat} {ts : List Tok} (h : Toks w (.slice (some ⟨b, o, none⟩) L c) ts) (k n : Nat) (hk : k + n ≤ ts.length) : Toks w (.slice (some ⟨b, o + k * 3, none⟩) n (c - k)) ((ts.drop k).take n) := by
  have hl : ((ts.drop k).take n).length = n := by rw [List.length_take, List.length_drop]; omega
  by_cases hne : ts = []
  · subst hne
    have hc : (0 : Nat) ≤ c - k := Nat.zero_le _
    obtain ⟨a', c', e, h1, h2, h3⟩ := h
    simp only [Value.slice.injEq] at e
    refine ⟨_, c - k, by rw [hl], by rw [hl]; simp at hk; omega, by omega, fun q => by simp at q⟩
  · obtain ⟨rfl, h1, h2, b', o', e, hc⟩ := h.cells hne
    simp only [Option.some.injEq, Addr.mk.injEq, and_true] at e
    obtain ⟨rfl, rfl⟩ := e
    refine ⟨_, c - k, by rw [hl], by rw [hl]; omega, by omega, fun _ => ⟨b, o + k * 3, rfl, fun j hj => ?_⟩⟩
    rw [hl] at hj
    have := hc (k + j) (by omega)
    rw [List.getElem_take, List.getElem_drop, show o + k * 3 + j * 3 = o + (k + j) * 3 by omega]
    exact this

theorem bulk_part (ts : List Tok) (k n : Nat) : bulkT ((ts.drop k).take n) ≤ bulkT ts := Nat.le_trans (bulk_take _ n) (bulk_drop ts k)

theorem lead_facts (p : Tok → Bool) (ts : List Tok) (q : Nat) : ∃ L, lead p (ts.drop q) = L ∧ (∀ n (h : q + n < ts.length), n < L → p ts[q + n] = true) ∧ (∀ h : q + L < ts.length, p ts[q + L] = false) := by
  refine ⟨_, rfl, fun n h hl => ?_, fun h => ?_⟩
  · have := lead_at p (ts.drop q) n (by rw [List.length_drop]; omega) hl
    rw [List.getElem_drop] at this
    exact this
  · have := lead_stop p (ts.drop q) (by rw [List.length_drop]; omega)
    rw [List.getElem_drop] at this
    exact this

def gvT (t : Tok) : Bool := pieceT t && !kwT t
def rnT (t : Tok) : Bool := wordT t && pieceT t && !kwB t.text
/-- what is given at a place -/
def givP (q : Tok → Bool) (ts : List Tok) (k : Int) : List UInt8 × Nat :=
  if h : 0 ≤ k ∧ k.toNat < ts.length then (if begT (ts[k.toNat]'h.2) = true then (joinT ((ts.drop k.toNat).take (lead q (ts.drop k.toNat))), lead q (ts.drop k.toNat)) else ([], 0)) else ([], 0)

structure TokOk (ts : List Tok) : Prop where
  kinds : ∀ t ∈ ts, t.kind ≤ 5
  small : ∀ t ∈ ts, t.text.length ≤ 1073741824
  len : ts.length ≤ 1073741824
  bulk : bulkT ts ≤ 35184372088832

set_option maxHeartbeats 4000000 in
set_option maxRecDepth 100000 in
theorem given_k (ts : List Tok) (v : Value) (k : Int) (w : World) (hE : Env w) (h : Toks w v ts) (ho : TokOk ts) (hk : -1 ≤ k ∧ k ≤ 1073741824) :
    Calls Tryd.prog 49 #[v, .int .i64 k] w fun e w' => e = .returned (.tuple #[.string (strOfL (givP gvT ts k).1), .int .i64 (givP gvT ts k).2]) ∧ Below w.heap.size w w' := by
  have HT := Lib.hid h
  have HO := Lib.hid ho
  have HE := Lib.hid hE
  have hln := ho.len
  obtain ⟨a, c, rfl, hc1, hc2, -⟩ := h
  have HG := Lib.hid (show givP gvT ts k = if h : 0 ≤ k ∧ k.toNat < ts.length then (if begT (ts[k.toNat]'h.2) = true then (joinT ((ts.drop k.toNat).take (lead gvT (ts.drop k.toNat))), lead gvT (ts.drop k.toNat)) else ([], 0)) else ([], 0) from rfl)
  generalize givP gvT ts k = g at *
  clear ho hE
  by_cases hv : 0 ≤ k ∧ k.toNat < ts.length
  · obtain ⟨q, rfl⟩ : ∃ q : Nat, k = (q : Int) := ⟨k.toNat, by omega⟩
    have hqn : q < ts.length := by simpa using hv.2
    have hg := HG.out
    rw [dif_pos hv] at hg
    simp only [Int.toNat_natCast] at hg
    obtain ⟨-, -, -, bb, bo, rfl, hcs⟩ := HT.out.cells (by intro z; rw [z] at hqn; simp at hqn)
    have c0 := (hcs q hqn).1
    have c1 := (hcs q hqn).2.1
    have c2 := (hcs q hqn).2.2
    have BK := Lib.hid (fun v => begT_k ts[q] v (HO.out.kinds _ (List.getElem_mem _)))
    have k1 : ¬ (q : Int) < 0 := by omega
    have k2 : ¬ (ts.length : Int) ≤ (q : Int) := by omega
    have k3 : (q : Int) < (ts.length : Int) := by omega
    generalize hbt : begT ts[q] = bt at *
    generalize hgt : ts[q] = t0 at c0 c1 c2 BK
    have HG2 := Lib.hid hg
    clear hcs hg HG hbt hgt hv hk
    go_enter Tryd.func49, Tryd.ntmps49
    go_wp2_with fail
    refine (BK.out _).mono ?_
    rintro e w2 ⟨rfl, hb⟩
    have E2 := Lib.hid (HE.out.keep (kept_below hb))
    have HT2 := Lib.hid (HT.out.keep (kept_below hb))
    cases bt with
    | false =>
      have hg := HG2.out
      rw [if_neg (by decide)] at hg
      subst hg
      go_wp2_with fail
      refine bodyPost_ret (v := .tuple #[.string ⟨#[]⟩, .int .i64 0]) (by simp [results, Tryd.results49, go_sem]) rfl ?_
      exact ⟨rfl, hb⟩
    | true =>
      have hg := HG2.out
      rw [if_pos rfl] at hg
      have HG3 := Lib.hid hg
      clear hg HG2 c0 c1 c2
      have hlL := lead_le pieceT (ts.drop q)
      rw [List.length_drop] at hlL
      have LK := (fun (v : World) (hE : Env v) (hT : Toks v (.slice (some ⟨bb, bo, none⟩) ts.length c) ts) => longest_k ts _ q v hE hT HO.out.kinds HO.out.small hln (by omega))
      obtain ⟨L, hL, hla, hls⟩ := lead_facts pieceT ts q
      rw [hL] at LK hlL
      have LK := Lib.hid LK
      have HLA := Lib.hid hla
      have HLS := Lib.hid hls
      clear hL hla hls
      go_wp2_with fail
      go_loopw [6] (fun i wr => ∃ n : Nat, n ≤ L ∧ i = .int .i64 n ∧ Below w2.heap.size w2 wr ∧ (∀ i (h : q + i < ts.length), i < n → gvT ts[q + i] = true)) (fun i _ => L - (intOf i).toNat)
      case atStart => exact ⟨0, Nat.zero_le _, rfl, bl_refl w2, fun i _ hi => absurd hi (Nat.not_lt_zero _)⟩
      case round =>
        obtain ⟨n, hnL, rfl, hbr, hall⟩ := hrel
        have HALL := Lib.hid hall
        clear hall
        have LKr := Lib.hid (LK.out wr (E2.out.keep (kept_below hbr)) (HT2.out.keep (kept_below hbr)))
        by_cases hlt : n < L
        · have hqn2 : q + n < ts.length := by omega
          obtain ⟨-, -, -, _, _, hta, hcs2⟩ := (HT2.out.keep (kept_below hbr)).cells (by intro z; rw [z] at hqn; simp at hqn)
          simp only [Option.some.injEq, Addr.mk.injEq, and_true] at hta
          obtain ⟨rfl, rfl⟩ := hta
          have c0 := (hcs2 (q + n) hqn2).1
          have c1 := (hcs2 (q + n) hqn2).2.1
          have KK := Lib.hid (fun v => keyword_k ts[q + n].text v)
          have hpn := HLA.out n hqn2 hlt
          have k4 : (n : Int) < (L : Int) := by omega
          have k5 : (q : Int) + (n : Int) < (ts.length : Int) := by omega
          have k6 : (0 : Int) ≤ (q : Int) + (n : Int) := by omega
          have k7 : ((q : Int) + (n : Int)).toNat = q + n := by omega
          have hkd := HO.out.kinds ts[q + n] (List.getElem_mem _)
          have hgv : gvT ts[q + n] = (pieceT ts[q + n] && !(ts[q + n].kind == 1 && kwB ts[q + n].text)) := rfl
          rw [hpn, Bool.true_and] at hgv
          generalize hgb : gvT ts[q + n] = gb at *
          have HGB := Lib.hid hgb
          generalize kwB ts[q + n].text = kb at *
          generalize ts[q + n].kind = kd at *
          generalize ts[q + n].text = tx at *
          have HGV := Lib.hid hgv
          clear hcs2 hgb hgv hpn
          go_wp2_with fail
          refine LKr.out.mono ?_
          rintro e w3 ⟨rfl, hb3⟩
          have hbr3 := bl_trans hbr hb3
          have c0 := below_keeps hb3 _ _ _ c0
          have c1 := below_keeps hb3 _ _ _ c1
          clear hb3
          by_cases h1 : kd = 1
          · subst h1
            go_wp2_with fail
            refine (KK.out _).mono ?_
            rintro e w4 ⟨rfl, rfl⟩
            cases kb with
            | false =>
              have hgt : gb = true := by rw [HGV.out]; rfl
              have HGT := Lib.hid hgt
              clear hgt
              go_wp2_with fail
              go_roundw
              case rel =>
                refine ⟨n + 1, by omega, by go_num, hbr3, fun i hi hl => ?_⟩
                by_cases he : i = n
                · subst he; rw [HGB.out, HGT.out]
                · exact HALL.out i hi (by omega)
              case measure => simp [intOf]; omega
            | true =>
              have hgt : gb = false := by rw [HGV.out]; rfl
              have HL := Lib.hid (lead_drop gvT ts q n (by omega) HALL.out (fun _ => by rw [HGB.out, hgt]))
              clear hgt c0 c1
              have hg := HG3.out
              rw [HL.out] at hg
              have HG4 := Lib.hid hg
              have m1 : (q : Int) ≤ (q : Int) + (n : Int) := by omega
              have m2 : (q : Int) + (n : Int) ≤ (ts.length : Int) := by omega
              have m3 : (q : Int) + (n : Int) ≤ (c : Int) := by omega
              have m4 : (0 : Int) ≤ (q : Int) + (n : Int) := by omega
              have HTP := Lib.hid ((HT2.out.keep (kept_below hbr3)).part q n (by omega))
              have hkd2 : ∀ t ∈ (ts.drop q).take n, t.kind ≤ 5 := fun t ht => HO.out.kinds t (List.mem_of_mem_drop (List.mem_of_mem_take ht))
              have JK := Lib.hid (join_k ((ts.drop q).take n) _ _ HTP.out hkd2 (Nat.le_trans (bulk_part ts q n) HO.out.bulk) (by rw [List.length_take]; omega))
              clear hg hkd2
              go_wp2_with fail
              refine (JK.out).mono ?_
              rintro e w9 ⟨rfl, hb9⟩
              go_wp2_with fail
              refine bodyPost_ret (v := .tuple #[.string (strOfL (joinT ((ts.drop q).take n))), .int .i64 (n : Int)]) (by simp [results, Tryd.results49, go_sem]) rfl ?_
              rw [HG4.out]
              exact ⟨rfl, bl_trans hb (bl_trans hbr3 hb9)⟩
          · have hgt : gb = true := by
              rw [HGV.out]
              have : (kd == 1) = false := by rw [beq_eq_false_iff_ne]; exact h1
              rw [this]; rfl
            have HGT := Lib.hid hgt
            have h1b : ((kd : Int) == 1) = false := by rw [beq_eq_false_iff_ne]; omega
            clear hgt
            go_wp2_with fail
            go_roundw
            case rel =>
              refine ⟨n + 1, by omega, by go_num, hbr3, fun i hi hl => ?_⟩
              by_cases he : i = n
              · subst he; rw [HGB.out, HGT.out]
              · exact HALL.out i hi (by omega)
            case measure => simp [intOf]; omega
        · obtain rfl : n = L := by omega
          have k4 : ¬ (n : Int) < (n : Int) := by omega
          have HL := Lib.hid (lead_drop gvT ts q n (by omega) HALL.out (fun h => by
            unfold gvT
            rw [HLS.out h]; rfl))
          go_wp2_with fail
          refine LKr.out.mono ?_
          rintro e w3 ⟨rfl, hb3⟩
          have hbr3 := bl_trans hbr hb3
          clear hb3
          have hg := HG3.out
          rw [HL.out] at hg
          have HG4 := Lib.hid hg
          have m1 : (q : Int) ≤ (q : Int) + (n : Int) := by omega
          have m2 : (q : Int) + (n : Int) ≤ (ts.length : Int) := by omega
          have m3 : (q : Int) + (n : Int) ≤ (c : Int) := by omega
          have m4 : (0 : Int) ≤ (q : Int) + (n : Int) := by omega
          have HTP := Lib.hid ((HT2.out.keep (kept_below hbr3)).part q n (by omega))
          have hkd2 : ∀ t ∈ (ts.drop q).take n, t.kind ≤ 5 := fun t ht => HO.out.kinds t (List.mem_of_mem_drop (List.mem_of_mem_take ht))
          have JK := Lib.hid (join_k ((ts.drop q).take n) _ _ HTP.out hkd2 (Nat.le_trans (bulk_part ts q n) HO.out.bulk) (by rw [List.length_take]; omega))
          clear hg hkd2
          go_wp2_with fail
          refine (JK.out).mono ?_
          rintro e w9 ⟨rfl, hb9⟩
          go_wp2_with fail
          refine bodyPost_ret (v := .tuple #[.string (strOfL (joinT ((ts.drop q).take n))), .int .i64 (n : Int)]) (by simp [results, Tryd.results49, go_sem]) rfl ?_
          rw [HG4.out]
          exact ⟨rfl, bl_trans hb (bl_trans hbr3 hb9)⟩
  · have hg := HG.out
    rw [dif_neg hv] at hg
    subst hg
    clear HG
    by_cases h0 : k < 0
    · go_enter Tryd.func49, Tryd.ntmps49
      go_wp2_with fail
      refine bodyPost_ret (v := .tuple #[.string ⟨#[]⟩, .int .i64 0]) (by simp [results, Tryd.results49, go_sem]) rfl ?_
      exact ⟨rfl, bl_refl w⟩
    · have k2 : (ts.length : Int) ≤ k := by omega
      go_enter Tryd.func49, Tryd.ntmps49
      go_wp2_with fail
      refine bodyPost_ret (v := .tuple #[.string ⟨#[]⟩, .int .i64 0]) (by simp [results, Tryd.results49, go_sem]) rfl ?_
      exact ⟨rfl, bl_refl w⟩

end Go.Proofs.YtnamnldijopkfaaDoor
