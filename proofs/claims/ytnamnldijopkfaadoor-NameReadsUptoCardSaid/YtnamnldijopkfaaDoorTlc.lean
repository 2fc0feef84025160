/-
  The reader's number.
-/
import Derived.Test.YtnamnldijopkfaaDoorTlb
namespace Go.Proofs.YtnamnldijopkfaaDoor
open Go.ChangeShapes Go.WideShapes Go.ChangeAt Go.RowKit Go.Joins

def ptA (l : List UInt8) (q : Nat) : Nat := if hd (l.drop q) = 46 ∧ digitB (hd (l.drop (q + 1))) = true then q + 1 + runN digitB (l.drop (q + 1)) else q
def exE (l : List UInt8) (q : Nat) : Nat := if hd (l.drop (q + 1)) = 43 ∨ hd (l.drop (q + 1)) = 45 then q + 2 else q + 1
def exA (l : List UInt8) (q : Nat) : Nat :=
  if hd (l.drop q) = 69 then (if 0 < runN digitB (l.drop (exE l q)) ∧ runN digitB (l.drop (exE l q)) ≤ 6 then exE l q + runN digitB (l.drop (exE l q)) else q) else q
theorem pt_at (l : List UInt8) (k : Nat) : k + ptN (l.drop k) = ptA l (k + runN digitB (l.drop k)) := by
  unfold ptN ptA
  simp only [List.drop_drop, Nat.add_assoc]
  split <;> omega
theorem exp_at (l : List UInt8) (k p : Nat) : k + expN (l.drop k) p = exA l (k + p) := by
  unfold expN exA exE
  simp only [List.drop_drop, Nat.add_assoc]
  split
  · split
    · rename_i h
      simp only [Nat.add_assoc]
      split <;> omega
    · split <;> omega
  · rfl
theorem num_at (l : List UInt8) (k : Nat) : k + numN (l.drop k) = exA l (ptA l (k + runN digitB (l.drop k))) := by
  rw [numN, exp_at, pt_at]
theorem hd_len (l : List UInt8) (q : Nat) (h : 0 ≤ hd (l.drop q)) : q < l.length := by
  by_cases e : q < l.length
  · exact e
  · rw [List.drop_eq_nil_of_le (by omega), hd, if_pos rfl] at h
    omega
theorem runN_at (P : Int → Bool) (l : List UInt8) (q : Nat) (h : q ≤ l.length) : q + runN P (l.drop q) ≤ l.length := by
  have := runN_le P _ (l.drop q) (Nat.le_refl _)
  rw [List.length_drop] at this
  omega
theorem digit_ge {r : Int} (h : digitB r = true) : 48 ≤ r ∧ r ≤ 57 := by simpa [digitB] using h
theorem ptA_le (l : List UInt8) (q : Nat) (h : q ≤ l.length) : ptA l q ≤ l.length := by
  unfold ptA
  split
  · rename_i c
    have := digit_ge c.2
    have := hd_len l (q + 1) (by omega)
    exact runN_at _ _ _ (by omega)
  · exact h
theorem exE_le (l : List UInt8) (q : Nat) (h : hd (l.drop q) = 69) : exE l q ≤ l.length := by
  have := hd_len l q (by omega)
  unfold exE
  split
  · rename_i c
    have := hd_len l (q + 1) (by omega)
    omega
  · omega

set_option maxHeartbeats 2000000 in
set_option maxRecDepth 100000 in
theorem number_k (l : List UInt8) (k g : Nat) (w : World) (hE : Env w) (hs : w.cell? ⟨g, 0, none⟩ = some (.string (strOfL l))) (h1 : w.cell? ⟨g, 1, none⟩ = some (.int .i64 k)) (hk : k ≤ l.length) (hl : l.length ≤ 1073741824) :
    Calls Tryd.prog 91 #[.pointer (some ⟨g, 0, none⟩)] w fun e w' => e = .returned (.int .i64 (k + numN (l.drop k) : Nat)) ∧ Below w.heap.size w w' := by
  have RK : ∀ (q : Nat) (v : World), Below w.heap.size w v → Calls Tryd.prog 85 #[.pointer (some ⟨g, 0, none⟩), .int .i64 q] v fun e w' => e = .returned (.int .i32 (hd (l.drop q))) ∧ Below v.heap.size v w' :=
    fun q v hb => rune_k l q g v (hE.keep (kept_below hb)) (below_keeps hb _ _ _ hs)
  have RK1 : ∀ (q : Nat) (v : World), Below w.heap.size w v → Calls Tryd.prog 85 #[.pointer (some ⟨g, 0, none⟩), .int .i64 ((q : Int) + 1)] v fun e w' => e = .returned (.int .i32 (hd (l.drop (q + 1)))) ∧ Below v.heap.size v w' :=
    fun q v hb => RK (q + 1) v hb
  have WK : ∀ (q : Nat) (v : World), q ≤ l.length → Below w.heap.size w v → Calls Tryd.prog 89 #[.pointer (some ⟨g, 0, none⟩), .int .i64 q, .func (.func 21) #[] #[]] v fun e w' => e = .returned (.int .i64 (q + runN digitB (l.drop q) : Nat)) ∧ Below v.heap.size v w' :=
    fun q v hq hb => while_digit_k l q g v (hE.keep (kept_below hb)) (below_keeps hb _ _ _ hs) hq hl
  have WK1 : ∀ (q : Nat) (v : World), q + 1 ≤ l.length → Below w.heap.size w v → Calls Tryd.prog 89 #[.pointer (some ⟨g, 0, none⟩), .int .i64 ((q : Int) + 1), .func (.func 21) #[] #[]] v fun e w' => e = .returned (.int .i64 (q + 1 + runN digitB (l.drop (q + 1)) : Nat)) ∧ Below v.heap.size v w' :=
    fun q v hq hb => WK (q + 1) v hq hb
  replace RK := Lib.hid RK
  replace RK1 := Lib.hid RK1
  replace WK := Lib.hid WK
  replace WK1 := Lib.hid WK1
  rw [num_at]
  have hq0 := runN_at digitB l k hk
  have W0 := Lib.hid (WK.out k w hk (bl_refl _))
  generalize k + runN digitB (l.drop k) = q0 at *
  have hp := ptA_le l q0 hq0
  have HP := Lib.hid (show ptA l q0 = if hd (l.drop q0) = 46 ∧ digitB (hd (l.drop (q0 + 1))) = true then q0 + 1 + runN digitB (l.drop (q0 + 1)) else q0 from rfl)
  generalize ptA l q0 = p at *
  have HX := Lib.hid (show exA l p = if hd (l.drop p) = 69 then (if 0 < runN digitB (l.drop (exE l p)) ∧ runN digitB (l.drop (exE l p)) ≤ 6 then exE l p + runN digitB (l.drop (exE l p)) else p) else p from rfl)
  generalize exA l p = x at *
  clear hE hs
  go_enter Tryd.func91, Tryd.ntmps91
  go_wp2_with fail
  refine W0.out.mono ?_
  rintro e w1 ⟨rfl, hb⟩
  go_upto_region 2 with fail
  go_cut [23] (fun s wx => s = .bool (decide (hd (l.drop q0) = 46 ∧ digitB (hd (l.drop (q0 + 1))) = true)) ∧ Below w.heap.size w wx)
  case first =>
    have R0 := Lib.hid (RK.out q0 _ hb)
    generalize hc0 : hd (l.drop q0) = c0 at *
    generalize hc1 : hd (l.drop (q0 + 1)) = c1 at *
    have HC1 := Lib.hid hc1
    clear hc0 hc1
    go_wp2_with fail
    refine R0.out.mono ?_
    rintro e w2 ⟨rfl, hb2⟩
    have hb := bl_trans hb hb2
    clear hb2
    have R1 := RK1.out q0 _ hb
    rw [HC1.out] at R1
    replace R1 := Lib.hid R1
    by_cases h46 : c0 = 46
    · have D := Lib.hid (digit_k c1)
      subst h46
      go_wp2_with fail
      refine R1.out.mono ?_
      rintro e w3 ⟨rfl, hb3⟩
      have hb := bl_trans hb hb3
      clear hb3
      go_wp2_with fail
      refine (D.out _).mono ?_
      rintro e w4 ⟨rfl, rfl⟩
      go_wp2_with fail
      go_meet
      exact ⟨by simp, hb⟩
    · go_wp2_with fail
      go_meet
      exact ⟨by rw [decide_eq_false (fun q => h46 q.1)], hb⟩
  case rest =>
  obtain ⟨rfl, hb⟩ := hcut
  go_upto_if 23 with fail
  go_cut [3] (fun s wx => s = .int .i64 p ∧ Below w.heap.size w wx)
  case first =>
    by_cases hc : hd (l.drop q0) = 46 ∧ digitB (hd (l.drop (q0 + 1))) = true
    · have hp2 := HP.out
      rw [if_pos hc] at hp2
      have hlt := hd_len l (q0 + 1) (by have := digit_ge hc.2; omega)
      have W1 := WK1.out q0 _ (by omega) hb
      rw [← hp2] at W1
      replace W1 := Lib.hid W1
      rw [decide_eq_true hc]
      clear hc hp2
      go_wp2_with fail
      refine W1.out.mono ?_
      rintro e w2 ⟨rfl, hb2⟩
      have hb := bl_trans hb hb2
      clear hb2
      go_wp2_with fail
      go_meet
      exact ⟨rfl, hb⟩
    · have hp2 := HP.out
      rw [if_neg hc] at hp2
      have HP2 := Lib.hid hp2
      rw [decide_eq_false hc]
      clear hc hp2
      go_wp2_with fail
      go_meet
      exact ⟨by rw [HP2.out], hb⟩
  case rest =>
  obtain ⟨rfl, hb⟩ := hcut
  have R2 := Lib.hid (RK.out p _ hb)
  by_cases h69 : hd (l.drop p) = 69
  · have hx := HX.out
    rw [if_pos h69] at hx
    have HX2 := Lib.hid hx
    have hee := exE_le l p h69
    have HEE := Lib.hid (show exE l p = if hd (l.drop (p + 1)) = 43 ∨ hd (l.drop (p + 1)) = 45 then p + 2 else p + 1 from rfl)
    rw [h69] at R2
    generalize exE l p = ee at *
    clear hx h69 HX
    go_wp2_with fail
    refine R2.out.mono ?_
    rintro e w5 ⟨rfl, hb2⟩
    have hb := bl_trans hb hb2
    clear hb2
    have R3 := Lib.hid (RK1.out p _ hb)
    generalize hd (l.drop (p + 1)) = c3 at *
    go_wp2_with fail
    refine R3.out.mono ?_
    rintro e w6 ⟨rfl, hb2⟩
    have hb := bl_trans hb hb2
    clear hb2
    have WE := WK.out ee
    replace WE := Lib.hid WE
    have hml := runN_at digitB l ee hee
    generalize hm : runN digitB (l.drop ee) = m at *
    clear hm
    go_upto_region 8 with fail
    go_cut [43] (fun s wx => s = .bool (decide (c3 = 43 ∨ c3 = 45)) ∧ wx = w6)
    case first =>
      clear HEE HX2
      by_cases h43 : c3 = 43
      · subst h43
        go_wp2_with fail
        go_meet
        exact ⟨by simp, rfl⟩
      · by_cases h45 : c3 = 45
        · subst h45
          go_wp2_with fail
          go_meet
          exact ⟨by simp, rfl⟩
        · go_wp2_with fail
          go_meet
          exact ⟨by simp [h43, h45], rfl⟩
    case rest =>
    obtain ⟨rfl, e9⟩ := hcut
    have e9 := e9.symm
    subst e9
    go_upto_if 43 with fail
    go_cut [4] (fun s wx => s = .int .i64 ee ∧ wx = w6)
    case first =>
      by_cases hc : c3 = 43 ∨ c3 = 45
      · have he := HEE.out
        rw [if_pos hc] at he
        rw [decide_eq_true hc]
        have HE2 := Lib.hid he
        clear hc he HEE
        go_wp2_with fail
        go_meet
        exact ⟨congrArg (Value.int .i64) (by have := HE2.out; omega), rfl⟩
      · have he := HEE.out
        rw [if_neg hc] at he
        rw [decide_eq_false hc]
        have HE2 := Lib.hid he
        clear hc he HEE
        go_wp2_with fail
        go_meet
        exact ⟨congrArg (Value.int .i64) (by have := HE2.out; omega), rfl⟩
    case rest =>
    obtain ⟨rfl, e9⟩ := hcut
    have e9 := e9.symm
    subst e9
    have W5 := Lib.hid (WE.out _ hee hb)
    clear HEE
    go_wp2_with fail
    refine W5.out.mono ?_
    rintro e w7 ⟨rfl, hb2⟩
    have hb := bl_trans hb hb2
    clear hb2
    by_cases hm0 : 0 < m ∧ m ≤ 6
    · have hx := HX2.out
      rw [if_pos hm0] at hx
      have HX3 := Lib.hid hx
      obtain ⟨hm1, hm2⟩ := hm0
      have k1 : (0 : Int) < (m : Int) := by omega
      have k2 : (m : Int) ≤ 6 := by omega
      clear hx HX2
      go_wp2_with fail
      go_ret
      exact ⟨by rw [HX3.out]; rfl, hb⟩
    · have hx := HX2.out
      rw [if_neg hm0] at hx
      have HX3 := Lib.hid hx
      clear hx HX2
      by_cases hm1 : 0 < m
      · have k2 : ¬ (m : Int) ≤ 6 := by omega
        have k3 : ¬ m ≤ 6 := by omega
        clear hm0
        go_wp2_with fail
        all_goals first
          | (exfalso; omega)
          | (go_ret; exact ⟨by rw [HX3.out]; rfl, hb⟩)
      · have hmz : m = 0 := by omega
        subst hmz
        clear hm0
        go_wp2_with fail
        go_ret
        exact ⟨by rw [HX3.out]; rfl, hb⟩
  · have hx := HX.out
    rw [if_neg h69] at hx
    have HX2 := Lib.hid hx
    generalize hd (l.drop p) = c2 at *
    clear hx
    go_wp2_with fail
    refine R2.out.mono ?_
    rintro e w5 ⟨rfl, hb2⟩
    have hb := bl_trans hb hb2
    clear hb2
    go_wp2_with fail
    go_ret
    exact ⟨by rw [HX2.out]; rfl, hb⟩

end Go.Proofs.YtnamnldijopkfaaDoor
