/-
  The contract of Match.
-/
import Derived.Test.YtnamnldijopkfaaDoorTud
import Derived.Test.YtnamnldijopkfaaDoorTuf
namespace Go.Proofs.YtnamnldijopkfaaDoor
open Go.ChangeShapes Go.WideShapes Go.ChangeAt Go.RowKit Go.Joins

/-- how many tokens the longest name has, of so many at most -/
def mN (ns : List (List UInt8)) (us : List Tok) : Nat → Nat
  | 0 => 1
  | n + 1 => if 1 ≤ n ∧ ns.contains (joinT (us.take (n + 1))) = true then n + 1 else mN ns us n
theorem mN_low (ns : List (List UInt8)) (us : List Tok) (n : Nat) (h : n ≤ 1) : mN ns us n = 1 := by
  match n, h with
  | 0, _ => rfl
  | 1, _ => rw [mN, if_neg (by omega)]; rfl
theorem mN_hit (ns : List (List UInt8)) (us : List Tok) (n : Nat) (h : 1 < n) (hc : ns.contains (joinT (us.take n)) = true) : mN ns us n = n := by
  obtain ⟨m, rfl⟩ : ∃ m, n = m + 1 := ⟨n - 1, by omega⟩
  rw [mN, if_pos ⟨by omega, hc⟩]
theorem mN_miss (ns : List (List UInt8)) (us : List Tok) (n : Nat) (h : 1 < n) (hc : ns.contains (joinT (us.take n)) = false) : mN ns us n = mN ns us (n - 1) := by
  obtain ⟨m, rfl⟩ : ∃ m, n = m + 1 := ⟨n - 1, by omega⟩
  rw [mN, if_neg (fun q => by rw [hc] at q; exact absurd q.2 (by decide)), Nat.add_sub_cancel]
def matchQ (ns : List (List UInt8)) (us : List Tok) : List UInt8 × Nat := if 2 ≤ mN ns us (lead pieceT us) then (joinT (us.take (mN ns us (lead pieceT us))), mN ns us (lead pieceT us)) else ((us.getD 0 ⟨0, [], 0⟩).text, 1)
def matchP (ns : List (List UInt8)) (ts : List Tok) (k : Int) : List UInt8 × Nat :=
  if h : 0 ≤ k ∧ k.toNat < ts.length then (if begT (ts[k.toNat]'h.2) = true then matchQ ns (ts.drop k.toNat) else ([], 0)) else ([], 0)

set_option maxHeartbeats 4000000 in
set_option maxRecDepth 100000 in
theorem match_k (ns : List (List UInt8)) (ts : List Tok) (v vt : Value) (k : Int) (w : World) (hE : Env w) (hv : Strs w v ns) (h : Toks w vt ts) (ho : TokOk ts) (hn : ns.length ≤ 1073741824) (hk : -1 ≤ k ∧ k ≤ 1073741824) :
    Calls Tryd.prog 38 #[.agg #[v], vt, .int .i64 k] w fun e w' => e = .returned (.tuple #[.string (strOfL (matchP ns ts k).1), .int .i64 (matchP ns ts k).2]) ∧ Below w.heap.size w w' := by
  have HT := Lib.hid h
  have HO := Lib.hid ho
  have HE := Lib.hid hE
  have HV := Lib.hid hv
  have hln := ho.len
  obtain ⟨a, c, rfl, hc1, hc2, -⟩ := h
  obtain ⟨va, vc, rfl, -, -, -⟩ := hv
  have HG := Lib.hid (show matchP ns ts k = if h : 0 ≤ k ∧ k.toNat < ts.length then (if begT (ts[k.toNat]'h.2) = true then matchQ ns (ts.drop k.toNat) else ([], 0)) else ([], 0) from rfl)
  generalize matchP ns ts k = g at *
  have hbw0 : Below w.heap.size w (w.alloc (.cells #[.slice va ns.length vc] 45)) := bl_alloc (bl_refl w) _
  clear ho hE
  by_cases hv : 0 ≤ k ∧ k.toNat < ts.length
  · obtain ⟨q, rfl⟩ : ∃ q : Nat, k = (q : Int) := ⟨k.toNat, by omega⟩
    have hqn : q < ts.length := by simpa using hv.2
    have hg := HG.out
    rw [dif_pos hv] at hg
    simp only [Int.toNat_natCast] at hg
    obtain ⟨-, -, -, bb, bo, rfl, hcs⟩ := HT.out.cells (by intro z; rw [z] at hqn; simp at hqn)
    have c0 := (hcs q hqn).1
    have c1 := (hcs q hqn).2.1
    have c2 := (hcs q hqn).2.2
    have cl := lt_of_cell c0
    have BK := Lib.hid (fun v => begT_k ts[q] v (HO.out.kinds _ (List.getElem_mem _)))
    have k1 : ¬ (q : Int) < 0 := by omega
    have k2 : ¬ (ts.length : Int) ≤ (q : Int) := by omega
    have k3 : (q : Int) < (ts.length : Int) := by omega
    have hd0 : ((ts.drop q).getD 0 ⟨0, [], 0⟩) = ts[q] := by simp [List.getD, hqn]
    have hmq : matchQ ns (ts.drop q) = if 2 ≤ mN ns (ts.drop q) (lead pieceT (ts.drop q)) then (joinT ((ts.drop q).take (mN ns (ts.drop q) (lead pieceT (ts.drop q)))), mN ns (ts.drop q) (lead pieceT (ts.drop q))) else (ts[q].text, 1) := by
      unfold matchQ
      rw [hd0]
    rw [hmq] at hg
    generalize hbt : begT ts[q] = bt at *
    generalize hgt : ts[q] = t0 at c0 c1 c2 BK hg
    have HG2 := Lib.hid hg
    have HGT := Lib.hid hgt
    clear hcs hg HG hbt hgt hv hk hd0 hmq
    go_enter Tryd.func38, Tryd.ntmps38
    go_wp2_with fail
    refine (BK.out _).mono ?_
    rintro e w2 ⟨rfl, hb2⟩
    have s0 := below_keeps hb2 w.heap.size 0 (.slice va ns.length vc) (by simp [go_sem])
    have hb := bl_trans hbw0 hb2
    have E2 := Lib.hid (HE.out.keep (kept_below hb))
    have HT2 := Lib.hid (HT.out.keep (kept_below hb))
    have HV2 := Lib.hid (HV.out.keep (kept_below hb))
    clear hb2
    cases bt with
    | false =>
      have hg := HG2.out
      rw [if_neg (by decide)] at hg
      subst hg
      go_wp2_with fail
      refine bodyPost_ret (v := .tuple #[.string ⟨#[]⟩, .int .i64 0]) (by simp [results, Tryd.results38, go_sem]) rfl ?_
      exact ⟨rfl, hb⟩
    | true =>
      have hg := HG2.out
      rw [if_pos rfl] at hg
      have HG3 := Lib.hid hg
      clear hg HG2 c0 c1 c2
      have hlL := lead_le pieceT (ts.drop q)
      rw [List.length_drop] at hlL
      have LK := longest_k ts _ q w2 E2.out HT2.out HO.out.kinds HO.out.small hln (by omega)
      generalize hL : lead pieceT (ts.drop q) = L at *
      replace LK := Lib.hid LK
      clear hL
      go_wp2_with fail
      refine LK.out.mono ?_
      rintro e w3 ⟨rfl, hb3⟩
      have s0 := below_keeps hb3 _ _ _ s0
      have hb := bl_trans hb hb3
      have E3 := Lib.hid (E2.out.keep (kept_below hb3))
      have HT3 := Lib.hid (HT2.out.keep (kept_below hb3))
      have HV3 := Lib.hid (HV2.out.keep (kept_below hb3))
      clear hb3 E2 HT2 HV2
      go_wp2_with fail
      go_loopw [8] (fun i wr => ∃ n : Nat, n ≤ L ∧ i = .int .i64 n ∧ Below w3.heap.size w3 wr ∧ mN ns (ts.drop q) n = mN ns (ts.drop q) L) (fun i _ => (intOf i).toNat)
      case atStart => exact ⟨L, Nat.le_refl _, rfl, bl_refl w3, rfl⟩
      case round =>
        obtain ⟨n, hnL, rfl, hbr, hmn⟩ := hrel
        have HMN := Lib.hid hmn
        clear hmn
        have s0 := below_keeps hbr _ _ _ s0
        by_cases h1 : 1 < n
        · have k4 : (1 : Int) < (n : Int) := by omega
          have m1 : (q : Int) ≤ (q : Int) + (n : Int) := by omega
          have m2 : (q : Int) + (n : Int) ≤ (ts.length : Int) := by omega
          have m3 : (q : Int) + (n : Int) ≤ (c : Int) := by omega
          have m4 : (0 : Int) ≤ (q : Int) + (n : Int) := by omega
          have HTP := Lib.hid ((HT3.out.keep (kept_below hbr)).part q n (by omega))
          have hkd2 : ∀ t ∈ (ts.drop q).take n, t.kind ≤ 5 := fun t ht => HO.out.kinds t (List.mem_of_mem_drop (List.mem_of_mem_take ht))
          have JK := Lib.hid (join_k ((ts.drop q).take n) _ _ HTP.out hkd2 (Nat.le_trans (bulk_part ts q n) HO.out.bulk) (by rw [List.length_take]; omega))
          have HK := Lib.hid (fun (u : World) (kk : Kept wr u) => has_k (.slice va ns.length vc) ns (joinT ((ts.drop q).take n)) u ((HV3.out.keep (kept_below hbr)).keep kk) hn)
          generalize hcb : ns.contains (joinT ((ts.drop q).take n)) = cb at *
          have HCB := Lib.hid hcb
          clear hkd2 hcb
          go_wp2_with fail
          refine (JK.out).mono ?_
          rintro e w4 ⟨rfl, hb4⟩
          have s0 := below_keeps hb4 _ _ _ s0
          have hbr4 := bl_trans hbr hb4
          go_wp2_with fail
          refine (HK.out _ (kept_below hb4)).mono ?_
          rintro e w5 ⟨rfl, hb5⟩
          have hbr5 := bl_trans hbr4 hb5
          cases cb with
          | true =>
            have hm := mN_hit ns (ts.drop q) n h1 HCB.out
            have hg := HG3.out
            rw [← HMN.out, hm, if_pos (by omega)] at hg
            have HG4 := Lib.hid hg
            clear hg hm
            go_wp2_with fail
            refine bodyPost_ret (v := .tuple #[.string (strOfL (joinT ((ts.drop q).take n))), .int .i64 (n : Int)]) (by simp [results, Tryd.results38, go_sem]) rfl ?_
            rw [HG4.out]
            exact ⟨rfl, bl_trans hb hbr5⟩
          | false =>
            have hm := mN_miss ns (ts.drop q) n h1 HCB.out
            have HM := Lib.hid hm
            clear hm
            go_wp2_with fail
            go_roundw
            case rel => exact ⟨n - 1, by omega, congrArg (Value.int .i64) (by omega), hbr5, by rw [← HM.out, HMN.out]⟩
            case measure => simp [intOf]; omega
        · have k4 : ¬ (1 : Int) < (n : Int) := by omega
          have hg := HG3.out
          rw [← HMN.out, mN_low _ _ _ (by omega), if_neg (by omega)] at hg
          have HG4 := Lib.hid hg
          obtain ⟨-, -, -, _, _, hta, hcs2⟩ := (HT3.out.keep (kept_below hbr)).cells (by intro z; rw [z] at hqn; simp at hqn)
          simp only [Option.some.injEq, Addr.mk.injEq, and_true] at hta
          obtain ⟨rfl, rfl⟩ := hta
          have d1 := (hcs2 q hqn).2.1
          clear hg hcs2
          go_wp2_with fail
          refine bodyPost_ret (v := .tuple #[.string (strOfL ts[q].text), .int .i64 1]) (by simp [results, Tryd.results38, go_sem]) rfl ?_
          rw [HG4.out]
          exact ⟨by rw [HGT.out]; rfl, bl_trans hb hbr⟩
  · have hg := HG.out
    rw [dif_neg hv] at hg
    subst hg
    clear HG
    by_cases h0 : k < 0
    · go_enter Tryd.func38, Tryd.ntmps38
      go_wp2_with fail
      refine bodyPost_ret (v := .tuple #[.string ⟨#[]⟩, .int .i64 0]) (by simp [results, Tryd.results38, go_sem]) rfl ?_
      exact ⟨rfl, hbw0⟩
    · have k2 : (ts.length : Int) ≤ k := by omega
      go_enter Tryd.func38, Tryd.ntmps38
      go_wp2_with fail
      refine bodyPost_ret (v := .tuple #[.string ⟨#[]⟩, .int .i64 0]) (by simp [results, Tryd.results38, go_sem]) rfl ?_
      exact ⟨rfl, hbw0⟩

end Go.Proofs.YtnamnldijopkfaaDoor
