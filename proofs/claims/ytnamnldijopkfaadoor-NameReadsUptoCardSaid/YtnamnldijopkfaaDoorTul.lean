/-
  The laws of names, plainly: no program.
-/
import Derived.Test.YtnamnldijopkfaaDoorTug
import Derived.Test.YtnamnldijopkfaaDoorTuh
import Derived.Test.YtnamnldijopkfaaDoorTuj
namespace Go.Proofs.YtnamnldijopkfaaDoor

theorem bulk_kt : ∀ a b : List Tok, a.map kt = b.map kt → bulkT a = bulkT b
  | [], [], _ => rfl
  | [], _ :: _, h => by cases h
  | _ :: _, [], h => by cases h
  | x :: a, y :: b, h => by
    simp only [List.map_cons, List.cons.injEq] at h
    rw [bulkT_cons, bulkT_cons, (wordT_kt h.1).2.1, bulk_kt a b h.2]
theorem tok_le_bulk {ts : List Tok} {t : Tok} (h : t ∈ ts) : t.text.length ≤ bulkT ts := by
  induction ts with
  | nil => cases h
  | cons u us ih =>
    rw [bulkT_cons]
    rcases List.mem_cons.1 h with rfl | h
    · omega
    · have := ih h; omega
theorem kt_mem {a b : List Tok} (h : a.map kt = b.map kt) {t : Tok} (ht : t ∈ a) : ∃ u ∈ b, kt t = kt u := by
  have : kt t ∈ b.map kt := by rw [← h]; exact List.mem_map_of_mem ht
  obtain ⟨u, hu, e⟩ := List.mem_map.1 this
  exact ⟨u, hu, e.symm⟩
theorem tokok_of {ts : List Tok} (h1 : ∀ t ∈ ts, t.kind ≤ 5) (h2 : bulkT ts ≤ 1073741824) (h3 : ts.length ≤ 1073741824) : TokOk ts :=
  ⟨h1, fun t ht => by have := tok_le_bulk ht; omega, h3, by omega⟩
/-- the tokens of a source are fit -/
theorem tokok_src {s : List UInt8} {ts : List Tok} (h : toksL s = some ts) (hs : s.length ≤ 1048576) : TokOk ts := by
  have F := (toks_fine h).1
  have G := toks_fine2 h
  have hlen := F.len
  refine ⟨F.kinds, fun t ht => by have := G.small t ht; omega, by omega, ?_⟩
  have hb := bulk_max (4 * s.length) ts G.small
  have : ts.length * (4 * s.length + 1) ≤ 1048577 * 4194305 := Nat.mul_le_mul (by omega) (by omega)
  omega
theorem TokOk.take {ts : List Tok} (h : TokOk ts) (n : Nat) : TokOk (ts.take n) :=
  ⟨fun t ht => h.kinds t (List.mem_of_mem_take ht), fun t ht => h.small t (List.mem_of_mem_take ht), by have := h.len; rw [List.length_take]; omega, Nat.le_trans (bulk_take ts n) h.bulk⟩
theorem tokok_nil : TokOk [] := ⟨(fun _ h => by cases h), (fun _ h => by cases h), by simp, by simp [bulkT]⟩
theorem tokok_ltoks {s : List UInt8} (hs : s.length ≤ 1048576) : TokOk (ltoks s) := by
  unfold ltoks
  cases h : toksL s with
  | none => exact tokok_nil
  | some ts => exact (tokok_src h hs).take _

theorem wideL_len (ts : List Tok) : (wideL ts).length = bulkT ts + ts.length := by
  induction ts with
  | nil => rfl
  | cons t ts ih =>
    rw [wideL_cons, bulkT_cons]
    simp only [List.length_append, List.length_cons, List.length_nil, ih]
    omega

theorem lead_all (p : Tok → Bool) : ∀ ts : List Tok, (∀ t ∈ ts, p t = true) → lead p ts = ts.length
  | [], _ => rfl
  | t :: ts, h => by rw [lead, if_pos (h t (by simp)), lead_all p ts (fun x hx => h x (by simp [hx])), List.length_cons]

/-- a name stands where it is looked for -/
theorem match_whole {s : List UInt8} {t : Tok} {us : List Tok} (hb : begT t = true) (hp : ∀ x ∈ t :: us, pieceT x = true) (hj : joinT (t :: us) = s) : matchP [s] (t :: us) 0 = (s, (t :: us).length) := by
  have h0 : (0 : Int) ≤ 0 ∧ (0 : Int).toNat < (t :: us).length := ⟨by omega, by simp⟩
  rw [matchP, dif_pos h0]
  simp only [Int.toNat_zero, List.getElem_cons_zero, List.drop_zero]
  rw [if_pos hb, matchQ, lead_all _ _ hp]
  by_cases h1 : us = []
  · subst h1
    rw [mN_low _ _ _ (by simp), if_neg (by omega)]
    have : joinT [t] = t.text := by simp [joinT, joinA]
    rw [← hj, this]
    rfl
  · have hl : 1 < (t :: us).length := by have := List.length_pos_iff.2 h1; simp; omega
    have ht : (t :: us).take (t :: us).length = t :: us := List.take_of_length_le (Nat.le_refl _)
    rw [mN_hit _ _ _ hl (by rw [ht, hj]; simp), if_pos (by omega), ht, hj]

theorem back_plain {s : List UInt8} {ts : List Tok} (h : readP s = some ts) (hs : s.length ≤ 1048576) :
    joinT (ltoks (wideL ts)) = s ∧ joinT ts = s ∧ matchP [s] (ltoks (wideL ts)) 0 = (s, ts.length) ∧ TokOk (ltoks (wideL ts)) ∧ TokOk ts ∧ (wideL ts).length ≤ 4194304 := by
  obtain ⟨zs, h1, h2, h3, h4⟩ := back_law h
  obtain ⟨all, g1, g2, g3, ⟨t, us, g4, g5⟩, g6, -⟩ := readP_some h
  have hz : ltoks (wideL ts) = zs := by
    unfold ltoks
    rw [h1]
    simp
  have hlen := (toks_fine g1).1.len
  have hle : zs.length = ts.length := by have := congrArg List.length h2; simpa using this
  have htl : ts.length ≤ s.length := by rw [g2, List.length_dropLast]; omega
  have hbk : bulkT ts ≤ s.length + ts.length := by
    have := joinA_ge false ts
    have e : (joinA false ts).length = s.length := by rw [← h4]; rfl
    omega
  have hk : ∀ t ∈ ts, t.kind ≤ 5 := fun t ht => (toks_fine g1).1.kinds t ((List.dropLast_sublist all).subset (by rw [← g2]; exact ht))
  rw [hz]
  refine ⟨h3, h4, ?_, tokok_of (fun t ht => ?_) (by rw [bulk_kt _ _ h2]; omega) (by omega), tokok_of hk (by omega) (by omega), by rw [wideL_len]; omega⟩
  · subst g4
    match zs, h2 with
    | z :: vs, h2 =>
      have hzk : kt z = kt t := by simp only [List.map_cons, List.cons.injEq] at h2; exact h2.1
      rw [← hle]
      refine match_whole (by rw [(wordT_kt hzk).2.2.2.2]; exact g5) (fun x hx => ?_) h3
      obtain ⟨u, hu, e⟩ := kt_mem h2 hx
      rw [(wordT_kt e).2.2.2.1]
      exact g6 u hu
  · obtain ⟨u, hu, e⟩ := kt_mem h2 ht
    rw [(wordT_kt e).2.2.1]
    exact hk u hu

/-! ### scopes -/
theorem withP_cat (ns a b : List (List UInt8)) : withP (withP ns a) b = withP ns (a ++ b) := by
  unfold withP
  rw [List.foldl_append]
theorem withP_cons (ns : List (List UInt8)) (m : List UInt8) (ms : List (List UInt8)) : withP ns (m :: ms) = withP (if (readP m).isSome = true ∧ ns.contains m = false then ns ++ [m] else ns) ms := rfl
theorem withP_mem (y : List UInt8) : ∀ (ms ns : List (List UInt8)), (withP ns ms).contains y = (ns.contains y || (ms.contains y && (readP y).isSome))
  | [], ns => by simp [withP_nil]
  | m :: ms, ns => by
    rw [withP_cons, withP_mem y ms]
    by_cases hm : y = m
    · subst hm
      cases h1 : (readP y).isSome <;> cases h2 : ns.contains y <;> simp_all
    · split
      · simp [hm]
      · simp [hm]
theorem withP_take (ns ms : List (List UInt8)) (k : Nat) (h : k < ms.length) : withP ns (ms.take (k + 1)) = if (readP ms[k]).isSome = true ∧ (withP ns (ms.take k)).contains ms[k] = false then withP ns (ms.take k) ++ [ms[k]] else withP ns (ms.take k) := by
  rw [List.take_succ_eq_append_getElem h, withP_snoc]

/-! ### given -/
theorem kw_digits {t : List UInt8} (h : allDig t = true) : kwB t = false := by
  cases hq : kwB t with
  | false => rfl
  | true =>
    have hm := List.contains_iff_mem.1 hq
    have hall : ∀ k ∈ kws, allDig k = false := by decide
    rw [hall t hm] at h
    cases h
theorem rnT_eq (t : Tok) : rnT t = (gvT t && lwT t) := by
  unfold rnT gvT lwT kwT wordT pieceT
  by_cases h1 : t.kind = 1
  · rw [h1]; simp
  · by_cases h2 : t.kind = 2
    · rw [h2]
      cases h : allDig t.text with
      | false => simp
      | true => simp [kw_digits h]
    · have e1 : (t.kind == 1) = false := by rw [beq_eq_false_iff_ne]; exact h1
      have e2 : (t.kind == 2) = false := by rw [beq_eq_false_iff_ne]; exact h2
      rw [e1, e2, if_neg h1, if_neg h2, if_neg h1, if_neg h2]
      simp

theorem lead_mono {p r : Tok → Bool} (h : ∀ t, p t = true → r t = true) : ∀ ts : List Tok, lead p ts ≤ lead r ts
  | [] => Nat.le_refl _
  | t :: ts => by
    have := lead_mono h ts
    rw [lead, lead]
    split
    · rename_i q
      rw [if_pos (h t q)]
      omega
    · exact Nat.zero_le _
theorem rn_le_gv (ts : List Tok) : lead rnT ts ≤ lead gvT ts := lead_mono (fun t h => by rw [rnT_eq] at h; exact (Bool.and_eq_true _ _ ▸ h : _ ∧ _).1) ts
theorem giv_no (p : Tok → Bool) (ts : List Tok) (k : Int) (h : ¬ (0 ≤ k ∧ k.toNat < ts.length)) : givP p ts k = ([], 0) := by
  unfold givP
  rw [dif_neg h]
theorem giv_nb (p : Tok → Bool) (ts : List Tok) (q : Nat) (h : q < ts.length) (hb : begT ts[q] = false) : givP p ts (q : Int) = ([], 0) := by
  unfold givP
  rw [dif_pos ⟨by omega, by simpa using h⟩, if_neg (by simp only [Int.toNat_natCast]; rw [hb]; decide)]
theorem giv_at (p : Tok → Bool) (ts : List Tok) (q : Nat) (h : q < ts.length) (hb : begT ts[q] = true) : givP p ts (q : Int) = (joinT ((ts.drop q).take (lead p (ts.drop q))), lead p (ts.drop q)) := by
  unfold givP
  rw [dif_pos ⟨by omega, by simpa using h⟩, if_pos (by simp only [Int.toNat_natCast]; exact hb)]
  simp only [Int.toNat_natCast]
theorem run_lead (ts : List Tok) (q E m : Nat) (hE : lead gvT (ts.drop q) = E) (hq : q + E ≤ ts.length) (hm : m ≤ E) (h1 : ∀ i (h : q + i < ts.length), i < m → lwT ts[q + i] = true) (h2 : m < E → ∀ h : q + m < ts.length, lwT ts[q + m] = false) : lead rnT (ts.drop q) = m := by
  obtain ⟨L, e, a, b⟩ := lead_facts gvT ts q
  rw [hE] at e
  subst e
  refine lead_drop rnT ts q m (by omega) (fun i hi hl => ?_) (fun h => ?_)
  · rw [rnT_eq, a i hi (by omega), h1 i hi hl]; rfl
  · rw [rnT_eq]
    by_cases hlt : m < E
    · rw [h2 hlt h, Bool.and_false]
    · obtain rfl : m = E := by omega
      rw [b h]; rfl

/-! ### matches -/
theorem mat_no (ns : List (List UInt8)) (ts : List Tok) (k : Int) (h : ¬ (0 ≤ k ∧ k.toNat < ts.length)) : matchP ns ts k = ([], 0) := by
  unfold matchP
  rw [dif_neg h]
theorem mat_nb (ns : List (List UInt8)) (ts : List Tok) (q : Nat) (h : q < ts.length) (hb : begT ts[q] = false) : matchP ns ts (q : Int) = ([], 0) := by
  unfold matchP
  rw [dif_pos ⟨by omega, by simpa using h⟩, if_neg (by simp only [Int.toNat_natCast]; rw [hb]; decide)]
def wmP (ns : List (List UInt8)) (us : List Tok) (m : Nat) : List UInt8 × Nat := if 2 ≤ mN ns us m then (joinT (us.take (mN ns us m)), mN ns us m) else ((us.getD 0 ⟨0, [], 0⟩).text, 1)
theorem matchQ_wm (ns : List (List UInt8)) (us : List Tok) : matchQ ns us = wmP ns us (lead pieceT us) := rfl
theorem wm_one (ns : List (List UInt8)) (us : List Tok) : wmP ns us 1 = ((us.getD 0 ⟨0, [], 0⟩).text, 1) := by
  rw [wmP, mN_low _ _ _ (Nat.le_refl _), if_neg (by omega)]
theorem wm_hit (ns : List (List UInt8)) (us : List Tok) (m : Nat) (h : 1 ≤ m) (hc : ns.contains (joinT (us.take (m + 1))) = true) : wmP ns us (m + 1) = (joinT (us.take (m + 1)), m + 1) := by
  rw [wmP, mN_hit _ _ _ (by omega) hc, if_pos (by omega)]
theorem wm_miss (ns : List (List UInt8)) (us : List Tok) (m : Nat) (h : 1 ≤ m) (hc : ns.contains (joinT (us.take (m + 1))) = false) : wmP ns us (m + 1) = wmP ns us m := by
  rw [wmP, mN_miss _ _ _ (by omega) hc, Nat.add_sub_cancel]
  rfl
theorem beg_piece {t : Tok} (h : begT t = true) : pieceT t = true := by
  unfold begT at h
  have : t.kind = 1 := by have := (Bool.and_eq_true _ _ ▸ h : _ ∧ _).1; simpa using this
  unfold pieceT
  rw [if_pos this]

theorem mat_at (ns : List (List UInt8)) (ts : List Tok) (q : Nat) (h : q < ts.length) (hb : begT ts[q] = true) : matchP ns ts (q : Int) = wmP ns (ts.drop q) (lead pieceT (ts.drop q)) := by
  unfold matchP
  rw [dif_pos ⟨by omega, by simpa using h⟩, if_pos (by simp only [Int.toNat_natCast]; exact hb)]
  simp only [Int.toNat_natCast]
  exact matchQ_wm _ _
theorem wm_start (ns : List (List UInt8)) (ts : List Tok) (q : Nat) (h : q < ts.length) : wmP ns (ts.drop q) 1 = (ts[q].text, 1) := by
  rw [wm_one]
  simp [List.getD, h]

/-! ### reads -/
theorem all_take (p : Tok → Bool) (ts : List Tok) (k : Nat) (h : k < ts.length) : (ts.take (k + 1)).all p = ((ts.take k).all p && p ts[k]) := by
  rw [List.take_succ_eq_append_getElem h, List.all_append]
  simp
/-- may the tokens of a text be a name's, but for the pieces -/
def isP (s : List UInt8) : List Tok → Bool
  | [] => false
  | t :: us => begT t && decide (joinT (t :: us) = s)
theorem readP_l (s : List UInt8) : readP s = if (isP s (ltoks s) && (ltoks s).all pieceT) = true then some (ltoks s) else none := by
  unfold ltoks
  cases h : toksL s with
  | none =>
    have : readP s = none := by unfold readP; rw [h]
    rw [this]
    rfl
  | some all =>
    rw [readP_eq h]
    dsimp only
    by_cases h2 : 2 ≤ all.length
    · rw [dif_pos h2]
      have hz : all.take (all.length - 1) = all[0] :: (all.take (all.length - 1)).tail := by
        obtain ⟨n, hn⟩ : ∃ n, all.length - 1 = n + 1 := ⟨all.length - 2, by omega⟩
        rw [hn]
        match all, h2 with
        | t :: us, _ => simp
      have hi : isP s (all.take (all.length - 1)) = (begT all[0] && decide (joinT (all.take (all.length - 1)) = s)) := by
        rw [hz]; rfl
      rw [hi]
      cases h3 : begT all[0] <;> cases h4 : (all.take (all.length - 1)).all pieceT <;> by_cases h5 : joinT (all.take (all.length - 1)) = s <;> simp [h5]
    · rw [dif_neg h2]
      have hz : all.take (all.length - 1) = [] := by rw [show all.length - 1 = 0 by omega]; rfl
      rw [if_neg (by rw [hz]; exact Bool.false_ne_true)]
def pkT (t : Tok) : Bool := lwT t && lcT t
theorem pkT_eq (t : Tok) : pkT t = (pieceT t && plT t) := by
  unfold pkT lwT lcT pieceT plT wordT
  by_cases h1 : t.kind = 1
  · rw [h1]; simp
  · by_cases h2 : t.kind = 2
    · rw [h2]
      cases h : allDig t.text with
      | false => simp
      | true => simp [kw_digits h]
    · have e1 : (t.kind == 1) = false := by rw [beq_eq_false_iff_ne]; exact h1
      have e2 : (t.kind == 2) = false := by rw [beq_eq_false_iff_ne]; exact h2
      rw [e1, e2, if_neg h1, if_neg h2]
      simp
theorem all_and (p q : Tok → Bool) (ts : List Tok) : (ts.all fun t => p t && q t) = (ts.all p && ts.all q) := by
  induction ts with
  | nil => rfl
  | cons t ts ih =>
    simp only [List.all_cons, ih]
    cases p t <;> cases q t <;> cases ts.all p <;> cases ts.all q <;> rfl
theorem plain_l (s : List UInt8) : plainP s = (isP s (ltoks s) && (ltoks s).all pkT) := by
  have hk : (ltoks s).all pkT = ((ltoks s).all pieceT && (ltoks s).all plT) := by
    rw [← all_and]
    congr 1
    funext t
    exact pkT_eq t
  rw [hk]
  unfold plainP
  rw [readP_l]
  cases isP s (ltoks s) <;> cases (ltoks s).all pieceT <;> simp
theorem local_l (s : List UInt8) : localP s = ((isP s (ltoks s) && (ltoks s).all lcT) && (isP s (ltoks s) && (ltoks s).all pieceT)) := by
  unfold localP
  rw [readP_l]
  cases isP s (ltoks s) <;> cases (ltoks s).all pieceT <;> simp

end Go.Proofs.YtnamnldijopkfaaDoor
