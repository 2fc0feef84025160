/-
  LexWords' walk.
-/
import Derived.Test.YtnamnldijopkfaaDoorToc
import Derived.Test.YtnamnldijopkfaaDoorTv
namespace Go.Proofs.YtnamnldijopkfaaDoor
open Go.ChangeShapes Go.WideShapes Go.ChangeAt Go.RowKit Go.Joins

def keepR (P : Int → Bool) (rs : List Nat) : List Nat := rs.filter fun (r : Nat) => P (r : Int)
theorem keepR_cons (P : Int → Bool) (r : Nat) (rs : List Nat) : keepR P (r :: rs) = if P (r : Int) = true then r :: keepR P rs else keepR P rs := by
  unfold keepR
  rw [List.filter_cons]
theorem keepR_len (P : Int → Bool) (rs : List Nat) : (keepR P rs).length ≤ rs.length := List.length_filter_le _ _

set_option maxHeartbeats 4000000 in
set_option maxRecDepth 100000 in
theorem words_walk (l : List UInt8) (w : World) (hE : Env w) (hl : l.length ≤ 1048576) :
    Calls Tryd.prog 9 #[.string (strOfL l)] w fun e w' => e = .returned (.bool true) ∧ Below w.heap.size w w' := by
  have HE := Lib.hid hE
  have hok := rns_ok l
  have hN := rns_len l
  have hsl := encL_le (rns l)
  have hs0 : valL l = encL (rns l) := rfl
  have hrv := rns_valL l
  have VK := Lib.hid (fun v => valid15_k l v (by omega))
  have hW : ∀ r ∈ keepR wordB (rns l), okR r ∧ wordB (r : Int) = true := fun r hr => ⟨hok r (List.mem_filter.1 hr).1, (List.mem_filter.1 hr).2⟩
  have hD : ∀ r ∈ keepR digitB (rns l), digitB (r : Int) = true := fun r hr => (List.mem_filter.1 hr).2
  have lW := keepR_len wordB (rns l)
  have lD := keepR_len digitB (rns l)
  have eW := encL_le (keepR wordB (rns l))
  have eD := encL_le (keepR digitB (rns l))
  have T1 := Lib.hid (fun v (h : Env v) => tokens_k (119 :: encL (keepR wordB (rns l))) v h (by simp only [List.length_cons]; omega))
  rw [words_law _ (fun r hr => (hW r hr).1) (fun r hr => (hW r hr).2)] at T1
  have T2 := Lib.hid (fun v (h : Env v) => tokens_k (55 :: encL (keepR digitB (rns l))) v h (by simp only [List.length_cons]; omega))
  rw [digits_law _ hD] at T2
  have A1 : ∀ v, (Op.stringOp .add ⟨#[119]⟩ (strOfL (encL (keepR wordB (rns l))))).run Tryd.prog v = .ok (.string (strOfL (119 :: encL (keepR wordB (rns l))))) v := catL [119] _ (by simp only [List.length_cons, List.length_nil]; omega)
  have A2 : ∀ v, (Op.stringOp .add ⟨#[55]⟩ (strOfL (encL (keepR digitB (rns l))))).run Tryd.prog v = .ok (.string (strOfL (55 :: encL (keepR digitB (rns l))))) v := catL [55] _ (by simp only [List.length_cons, List.length_nil]; omega)
  rw [← hs0] at hsl
  generalize hwl : encL (keepR wordB (rns l)) = WL at *
  generalize hdl : encL (keepR digitB (rns l)) = DL at *
  rw [← hrv] at hwl hdl
  generalize valL l = t at *
  have HWL := Lib.hid hwl
  have HDL := Lib.hid hdl
  clear hE hok hs0 hrv hW hD lW lD eW eD hwl hdl
  go_enter Tryd.func9, Tryd.ntmps9
  go_wp2_with fail
  refine (awake16 _ HE.out).mono ?_
  rintro e w1 ⟨rfl, hb⟩
  go_wp2_with fail
  refine (VK.out _).mono ?_
  rintro e w2 ⟨rfl, hb2⟩
  have hb := bl_trans hb hb2
  clear hb2
  have hw2 := hb.size
  go_wp2_with fail
  generalize hK : w2.heap.size = K at *
  go_loopw [3, 4] (fun s d wr => ∃ (pos : Nat) (sa da : List UInt8), s = .string (strOfL sa) ∧ d = .string (strOfL da) ∧ wr.heap[K]? = some (.stringIter (strOfL t) pos) ∧ Below w.heap.size w wr ∧ sa ++ encL (keepR wordB (rns (t.drop pos))) = WL ∧ da ++ encL (keepR digitB (rns (t.drop pos))) = DL ∧ pos ≤ t.length ∧ sa.length ≤ 4 * pos ∧ da.length ≤ 4 * pos) (fun _ _ wr => (strOfL t).size - wr.iterPos K)
  case atStart =>
    refine ⟨0, [], [], rfl, rfl, ?_, bl_alloc hb _, by rw [List.drop_zero]; exact HWL.out, by rw [List.drop_zero]; exact HDL.out, Nat.zero_le _, Nat.zero_le _, Nat.zero_le _⟩
    have := World.iter_heap w2 (strOfL t) 0
    rw [hK] at this
    exact this
  case round =>
    obtain ⟨pos, sa, da, rfl, rfl, hit, hbw, haS, haD, hpl, hls, hld⟩ := hrel
    have hszk : K < wr.heap.size := (Array.getElem?_eq_some_iff.1 hit).1
    by_cases hp : pos < (strOfL t).size
    · have hnx : ∀ ty, (Instr.next (.pointer (some ⟨K, 0, none⟩)) true ty).run Tryd.prog wr = _ := fun ty => Lib.run_next_any_at wr K (strOfL t) pos ty hit hp
      obtain ⟨hne, hde, hrn, hw1, hw2, hok⟩ := range_step t pos hp
      have hit2 := Lib.iterAt_heap wr K (strOfL t) pos (pos + (Utf8.decode (strOfL t) pos).2) hit
      have hbw2 := Lib.below_iterAt hbw (k := K) (by omega) (strOfL t) (pos + (Utf8.decode (strOfL t) pos).2)
      rw [hde] at hnx hit2 hbw2
      rw [hrn, keepR_cons] at haS haD
      generalize (Lib.decodeL (t.drop pos)).1 = r at *
      generalize (Lib.decodeL (t.drop pos)).2 = wd at *
      have HS := Lib.hid haS
      have HD := Lib.hid haD
      have HI := Lib.hid hit2
      have HC := encode_r r
      have hel := (enc_len r).2
      have LK := Lib.hid (fun v => letter_k (r : Int) v)
      have DK := Lib.hid (fun v => digit_k (r : Int) v)
      have hwb : wordB (r : Int) = (letterB (r : Int) || digitB (r : Int)) := rfl
      have HWB := Lib.hid hwb
      have A3 := catL (P := Tryd.prog) sa (Lib.encodeRune (r : Int)) (by omega)
      have A4 := catL (P := Tryd.prog) da (Lib.encodeRune (r : Int)) (by omega)
      generalize hlb : letterB (r : Int) = lb at *
      generalize hdb : digitB (r : Int) = db at *
      have HLB := Lib.hid hlb
      have HDB := Lib.hid hdb
      generalize her : Lib.encodeRune (r : Int) = er at *
      have HER := Lib.hid her
      generalize hS2 : sa ++ er = sb at *
      generalize hD2 : da ++ er = dd at *
      have HS2 := Lib.hid hS2
      have HD2 := Lib.hid hD2
      clear hde hrn haS haD hok hne hwb hlb hdb her hS2 hD2 hit2 hl hN hsl
      cases lb with
      | true =>
        cases db with
        | true =>
          exfalso
          have z1 := of_decide_eq_true HLB.out
          have z2 := of_decide_eq_true HDB.out
          omega
        | false =>
          have hww := HWB.out
          have HSS := HS.out
          have HDD := HD.out
          rw [hww] at HSS
          replace HSS := Lib.hid HSS
          replace HDD := Lib.hid HDD
          clear hww HS HD
          go_wp2_with fail
          refine (LK.out _).mono ?_
          rintro e w3 ⟨rfl, rfl⟩
          go_wp2_with fail
          refine (DK.out _).mono ?_
          rintro e w3 ⟨rfl, rfl⟩
          go_wp2_with fail
          go_roundw
          case rel =>
            have hss := HSS.out
            have hdd := HDD.out
            rw [if_pos (show (true || false) = true from rfl)] at hss
            rw [encL_cons, HER.out, ← List.append_assoc, HS2.out] at hss
            (first | rw [if_neg (by decide)] at hdd | rw [if_neg not_false] at hdd)
            have z1 := congrArg List.length HS2.out
            have z2 := congrArg List.length HD2.out
            rw [List.length_append] at z1 z2
            exact ⟨pos + wd, sb, da, rfl, rfl, HI.out, hbw2, hss, hdd, hw2, by omega, by omega⟩
          case measure =>
            have hq := HI.out
            simp only [World.iterPos, hq, hit]
            omega
      | false =>
        cases db with
        | true =>
          have hww := HWB.out
          have HSS := HS.out
          have HDD := HD.out
          rw [hww] at HSS
          replace HSS := Lib.hid HSS
          replace HDD := Lib.hid HDD
          clear hww HS HD
          go_wp2_with fail
          refine (LK.out _).mono ?_
          rintro e w3 ⟨rfl, rfl⟩
          go_wp2_with fail
          refine (DK.out _).mono ?_
          rintro e w3 ⟨rfl, rfl⟩
          go_wp2_with fail
          refine (DK.out _).mono ?_
          rintro e w3 ⟨rfl, rfl⟩
          go_wp2_with fail
          go_roundw
          case rel =>
            have hss := HSS.out
            have hdd := HDD.out
            rw [if_pos (show (false || true) = true from rfl)] at hss
            rw [encL_cons, HER.out, ← List.append_assoc, HS2.out] at hss
            (first | rw [if_pos rfl] at hdd | rw [if_pos trivial] at hdd)
            rw [encL_cons, HER.out, ← List.append_assoc, HD2.out] at hdd
            have z1 := congrArg List.length HS2.out
            have z2 := congrArg List.length HD2.out
            rw [List.length_append] at z1 z2
            exact ⟨pos + wd, sb, dd, rfl, rfl, HI.out, hbw2, hss, hdd, hw2, by omega, by omega⟩
          case measure =>
            have hq := HI.out
            simp only [World.iterPos, hq, hit]
            omega
        | false =>
          have hww := HWB.out
          have HSS := HS.out
          have HDD := HD.out
          rw [hww] at HSS
          replace HSS := Lib.hid HSS
          replace HDD := Lib.hid HDD
          clear hww HS HD
          go_wp2_with fail
          refine (LK.out _).mono ?_
          rintro e w3 ⟨rfl, rfl⟩
          go_wp2_with fail
          refine (DK.out _).mono ?_
          rintro e w3 ⟨rfl, rfl⟩
          go_wp2_with fail
          refine (DK.out _).mono ?_
          rintro e w3 ⟨rfl, rfl⟩
          go_wp2_with fail
          go_roundw
          case rel =>
            have hss := HSS.out
            have hdd := HDD.out
            (first | rw [if_neg (by decide)] at hss | rw [if_neg not_false] at hss)
            (first | rw [if_neg (by decide)] at hdd | rw [if_neg not_false] at hdd)
            have z1 := congrArg List.length HS2.out
            have z2 := congrArg List.length HD2.out
            rw [List.length_append] at z1 z2
            exact ⟨pos + wd, sa, da, rfl, rfl, HI.out, hbw2, hss, hdd, hw2, by omega, by omega⟩
          case measure =>
            have hq := HI.out
            simp only [World.iterPos, hq, hit]
            omega
    · have hnx : ∀ ty, (Instr.next (.pointer (some ⟨K, 0, none⟩)) true ty).run Tryd.prog wr = _ := fun ty => Lib.run_next_end_at wr K (strOfL t) pos ty hit hp
      have hz : t.drop pos = [] := by
        rw [strOfL_size] at hp
        exact List.drop_eq_nil_of_le (by omega)
      rw [hz, show keepR wordB (rns []) = [] from rfl, encL_nil, List.append_nil] at haS
      rw [hz, show keepR digitB (rns []) = [] from rfl, encL_nil, List.append_nil] at haD
      subst haS
      subst haD
      have EW := Lib.hid (HE.out.keep (kept_below hbw))
      clear hz HWL HDL
      go_wp2_with fail
      refine (T1.out _ EW.out).mono ?_
      rintro e w4 ⟨v, rfl, ⟨aa, ac, rfl, _, _, hac⟩, hb2⟩
      obtain ⟨ab, ao, rfl, gac⟩ := hac (by simp)
      have p0 := (gac 0 (by simp)).1
      have p1 := (gac 0 (by simp)).2.1
      have p2 := (gac 0 (by simp)).2.2
      have hb := bl_trans hbw hb2
      have E5 := Lib.hid (HE.out.keep (kept_below hb))
      clear gac
      go_wp2_with fail
      refine (T2.out _ E5.out).mono ?_
      rintro e w6 ⟨v, rfl, ⟨ba, bc, rfl, _, _, hbc⟩, hb3⟩
      obtain ⟨bb, bo, rfl, gbc⟩ := hbc (by simp)
      have q0 := (gbc 0 (by simp)).1
      have q1 := (gbc 0 (by simp)).2.1
      have q2 := (gbc 0 (by simp)).2.2
      have p0 := below_keeps hb3 _ _ _ p0
      have p1 := below_keeps hb3 _ _ _ p1
      have p2 := below_keeps hb3 _ _ _ p2
      have hb := bl_trans hb hb3
      clear hb3 hb2 gbc HE EW E5 T1 T2 hbw hit
      simp at p0 p1 p2 q0 q1 q2
      go_wp2_with fail
      go_ret
      exact ⟨rfl, hb⟩

end Go.Proofs.YtnamnldijopkfaaDoor
