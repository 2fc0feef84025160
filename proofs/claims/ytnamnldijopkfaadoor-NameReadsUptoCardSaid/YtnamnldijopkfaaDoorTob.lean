/-
  Tokens: a source's tokens.
-/
import Derived.Test.YtnamnldijopkfaaDoorToa
namespace Go.Proofs.YtnamnldijopkfaaDoor
open Go.ChangeShapes Go.WideShapes Go.ChangeAt Go.RowKit Go.Joins

/-- a slice that reads as tokens -/
def Toks (w : World) (v : Value) (ts : List Tok) : Prop := ∃ a c, v = .slice a ts.length c ∧ ts.length ≤ c ∧ c ≤ 9223372036854775807 ∧
  (ts ≠ [] → ∃ b o, a = some ⟨b, o, none⟩ ∧ ∀ j (h : j < ts.length), w.cell? ⟨b, o + j * 3, none⟩ = some (.int .i64 (ts[j].kind : Int)) ∧ w.cell? ⟨b, o + j * 3 + 1, none⟩ = some (.string (strOfL ts[j].text)) ∧ w.cell? ⟨b, o + j * 3 + 2, none⟩ = some (.int .i64 (ts[j].at_ : Int)))
theorem Toks.keep {w w' : World} {v : Value} {ts : List Tok} (h : Toks w v ts) (k : Kept w w') : Toks w' v ts := by
  obtain ⟨a, c, e, h1, h2, h3⟩ := h
  refine ⟨a, c, e, h1, h2, fun hne => ?_⟩
  obtain ⟨b, o, ea, hc⟩ := h3 hne
  exact ⟨b, o, ea, fun j hj => ⟨k _ _ _ (hc j hj).1, k _ _ _ (hc j hj).2.1, k _ _ _ (hc j hj).2.2⟩⟩
theorem Toks.nil (w : World) : Toks w (.slice none 0 0) [] := ⟨none, 0, rfl, Nat.le_refl _, by omega, fun h => absurd rfl h⟩

theorem tvals_get : ∀ (ts : List Tok) (j : Nat) (h : j < ts.length), (tvals ts)[j * 3]? = some (.int .i64 (ts[j].kind : Int)) ∧ (tvals ts)[j * 3 + 1]? = some (.string (strOfL ts[j].text)) ∧ (tvals ts)[j * 3 + 2]? = some (.int .i64 (ts[j].at_ : Int))
  | [], _, h => absurd h (Nat.not_lt_zero _)
  | t :: ts, 0, _ => ⟨rfl, rfl, rfl⟩
  | t :: ts, j + 1, h => by
    have ih := tvals_get ts j (by simpa using h)
    have e : tvals (t :: ts) = .int .i64 (t.kind : Int) :: .string (strOfL t.text) :: .int .i64 (t.at_ : Int) :: tvals ts := rfl
    rw [e, show (j + 1) * 3 = j * 3 + 3 by omega]
    exact ih
theorem rd_toks {w : World} {base n : Nat} {a : Option Addr} {c : Nat} {ts : List Tok} (hn : n = ts.length) (h : w.ownsRow base 40 3 (.slice a n c) n (tvals ts)) : Toks w (.slice a n c) ts := by
  subst hn
  obtain ⟨a', c', e, h1, h2⟩ := row_shape h
  simp only [Value.slice.injEq, true_and] at e
  obtain ⟨rfl, rfl⟩ := e
  refine ⟨a, c, rfl, h1, h2, fun hne => ?_⟩
  obtain ⟨g, e, _, hc⟩ := row_cells h (List.length_pos_iff.2 hne)
  refine ⟨g, 0, e, fun j hj => ?_⟩
  obtain ⟨x1, x2, x3⟩ := tvals_get ts j hj
  simp only [Nat.zero_add]
  exact ⟨hc _ _ x1, hc _ _ x2, hc _ _ x3⟩

theorem tok_at (l : List UInt8) (k : Nat) (hk : k ≤ l.length) : tokA (l.drop k) k =
    match skTo l k with
    | none => none
    | some q =>
      if l.length ≤ q then some [⟨0, [], l.length⟩]
      else
        match oneP (l.drop q) with
        | none => none
        | some x => (tokA (l.drop (q + x.2.2)) (q + x.2.2)).map (⟨x.1, x.2.1, q⟩ :: ·) := by
  rw [tokA_eq]
  unfold skTo
  have hl : (l.drop k).length = l.length - k := List.length_drop
  cases hs : skP (l.drop k) with
  | none => rfl
  | some n =>
    simp only [Option.map_some]
    rw [hl, List.drop_drop]
    by_cases hn : l.length ≤ k + n
    · rw [if_pos (by omega), if_pos hn, show k + (l.length - k) = l.length by omega]
    · rw [if_neg (by omega), if_neg hn]
      cases ho : oneP (l.drop (k + n)) with
      | none => rfl
      | some x =>
        dsimp only
        rw [List.drop_drop, show k + (n + x.2.2) = k + n + x.2.2 by omega]

theorem skTo_ge {l : List UInt8} {k q : Nat} (h : skTo l k = some q) : k ≤ q := by
  unfold skTo at h
  cases hs : skP (l.drop k) with
  | none => rw [hs] at h; cases h
  | some n =>
    rw [hs] at h
    have := Option.some.inj h
    dsimp only at this
    omega

def TkOut (w : World) (r : Option (List Tok)) (e : Ending) (w' : World) : Prop :=
  match r with
  | some ts => ∃ v, e = .returned (.tuple #[v, .bool true]) ∧ Toks w' v ts ∧ Below w.heap.size w w'
  | none => e = .returned (.tuple #[.slice none 0 0, .bool false]) ∧ Below w.heap.size w w'

theorem env_lt {w : World} (h : Env w) : 4 < w.heap.size := by
  obtain ⟨_, m, hm⟩ := h
  exact lt_of_cell hm

set_option maxHeartbeats 4000000 in
set_option maxRecDepth 100000 in
theorem tokens_k (l : List UInt8) (w : World) (hE : Env w) (hl : l.length ≤ 268435456) :
    Calls Tryd.prog 32 #[.string (strOfL l)] w (TkOut w (toksL l)) := by
  have hsz := strOfL_size l
  have HE := Lib.hid hE
  have VK := Lib.hid (valid_k l w hE (by omega))
  have hvd : Lib.validD l = decide (l = valL l) := by
    have := valL_valid _ l (Nat.le_refl _)
    by_cases q : l = valL l
    · rw [decide_eq_true q]; exact this.2 q.symm
    · rw [decide_eq_false q]
      cases hh : Lib.validD l with
      | false => rfl
      | true => exact absurd (this.1 hh).symm q
  have hw4 := env_lt hE
  have HT := Lib.hid (toksL_A l)
  rw [hvd] at HT
  generalize decide (l = valL l) = vb at *
  generalize hr : toksL l = r at *
  clear hE hvd hr
  go_enter Tryd.func32, Tryd.ntmps32
  go_wp2_with fail
  refine VK.out.mono ?_
  rintro e w1 ⟨rfl, hb⟩
  cases vb with
  | false =>
    have ht := HT.out
    rw [if_neg (by decide)] at ht
    have HT2 := Lib.hid ht
    clear ht
    go_wp2_with fail
    refine bodyPost_ret (v := .tuple #[.slice none 0 0, .bool false]) (by simp [results, Tryd.results32, go_sem]) rfl ?_
    rw [HT2.out]
    exact ⟨rfl, hb⟩
  | true =>
    have ht := HT.out
    rw [if_pos rfl] at ht
    have HT2 := Lib.hid ht
    have hw1 := hb.size
    have hE1 := Lib.hid (HE.out.keep (kept_below hb))
    have hR : Rd (w1.alloc (.cells #[.string (strOfL l), .int .i64 0, .slice none 0 0] 69)) w1.heap.size l 0 [] := by
      refine ⟨?_, ?_, ?_, ?_, ?_, none, 0, ?_, World.ownsRow_nil _ _ _ _⟩
      all_goals simp
    have hbA : Below w.heap.size w (w1.alloc (.cells #[.string (strOfL l), .int .i64 0, .slice none 0 0] 69)) := bl_alloc hb _
    have hEA := Lib.hid (hE1.out.keep (kept_alloc (kept_refl w1) (.cells #[.string (strOfL l), .int .i64 0, .slice none 0 0] 69)))
    have HRA := Lib.hid hR
    clear ht HT VK hR
    go_wp2_with fail
    generalize hg : w1.heap.size = g at *
    go_loopw [] (fun wr => ∃ (k : Nat) (ts : List Tok), k ≤ l.length ∧ ts.length ≤ k ∧ Rd wr g l k ts ∧ Env wr ∧ Below w.heap.size w wr ∧ r = (tokA (l.drop k) k).map (ts ++ ·)) (fun wr => match wr.cell? ⟨g, 1, none⟩ with | some v => l.length - (intOf v).toNat | none => 0)
    case atStart =>
      refine ⟨0, [], Nat.zero_le _, Nat.le_refl _, HRA.out, hEA.out, hbA, ?_⟩
      rw [HT2.out, List.drop_zero]
      cases tokA l 0 <;> simp
    case round =>
      obtain ⟨k, ts, hk, htk, hRk, hEk, hbk, hrk⟩ := hrel
      have ha0 := hRk.at_
      have hgk := hRk.lt
      have MS : (match wr.cell? ⟨g, 1, none⟩ with | some v => l.length - (intOf v).toNat | none => 0) = l.length - k := by
        rw [ha0]
        simp [intOf]
      replace MS := Lib.hid MS
      have htA := tok_at l k hk
      have SK := Lib.hid (skip_k l k g ts wr hEk (by omega) hRk hk (by omega))
      rw [htA] at hrk
      cases hs : skTo l k with
      | none =>
        rw [hs] at hrk SK
        have HRK := Lib.hid (show r = none from hrk)
        clear hrk htA hs hRk hEk ha0
        go_wp2_with fail
        refine SK.out.mono ?_
        rintro e w2 ⟨rfl, hb2⟩
        go_wp2_with fail
        refine bodyPost_ret (v := .tuple #[.slice none 0 0, .bool false]) (by simp [results, Tryd.results32, go_sem]) rfl ?_
        rw [HRK.out]
        exact ⟨rfl, hbk.trans (hb2.mono (by omega))⟩
      | some q =>
        rw [hs] at hrk SK
        dsimp only at hrk
        have HEK := Lib.hid hEk
        have hkq := skTo_ge hs
        have HRK := Lib.hid hrk
        clear hrk htA hs hRk hEk ha0
        go_wp2_with fail
        refine SK.out.mono ?_
        rintro e w2 ⟨rfl, hR2, hq, hb2⟩
        have hE2 := Lib.hid (HEK.out.keepB (by omega) hb2)
        have hb2 := hbk.trans (hb2.mono (by omega))
        have ha2 := hR2.at_
        have hg2 := hR2.lt
        have HR2 := Lib.hid hR2
        clear hR2
        by_cases hlq : l.length ≤ q
        · have hql : q = l.length := by omega
          subst hql
          have hrk := HRK.out
          rw [if_pos (Nat.le_refl _)] at hrk
          have HR3 := Lib.hid (show r = some (ts ++ [⟨0, [], l.length⟩]) from hrk)
          have PK := put_k l l.length g ts 0 [] l.length l.length w2 HR2.out (by omega)
          rw [show strOfL [] = ⟨#[]⟩ from rfl] at PK
          replace PK := Lib.hid PK
          clear hrk
          go_wp2_with fail
          refine PK.out.mono ?_
          rintro e w3 ⟨rfl, hR3, hb3⟩
          have hb4 := hb2.trans (hb3.mono (by omega))
          obtain ⟨a, c, ho, hown⟩ := hR3.out
          have HO := Lib.hid (rd_toks rfl hown)
          clear hown hR3
          go_wp2_with fail
          refine bodyPost_ret (v := .tuple #[.slice a (ts ++ [(⟨0, [], l.length⟩ : Tok)]).length c, .bool true]) (by simp [results, Tryd.results32, go_sem]) rfl ?_
          rw [HR3.out]
          exact ⟨_, rfl, HO.out, hb4⟩
        · have hrk := HRK.out
          rw [if_neg hlq] at hrk
          have OK := Lib.hid (one_k l q g ts w2 hE2.out (by omega) HR2.out (by omega) hl (by omega))
          cases ho : oneP (l.drop q) with
          | none =>
            rw [ho] at hrk OK
            have HR3 := Lib.hid (show r = none from hrk)
            have k1 : ¬ (l.length : Int) ≤ (q : Int) := by omega
            clear hrk ho
            go_wp2_with fail
            refine OK.out.mono ?_
            rintro e w3 ⟨rfl, hb3⟩
            go_wp2_with fail
            refine bodyPost_ret (v := .tuple #[.slice none 0 0, .bool false]) (by simp [results, Tryd.results32, go_sem]) rfl ?_
            rw [HR3.out]
            exact ⟨rfl, hb2.trans (hb3.mono (by omega))⟩
          | some x =>
            obtain ⟨x1, x2, _, _, _⟩ := oneP_len ho
            rw [List.length_drop] at x2
            rw [ho] at hrk OK
            have HR3 := Lib.hid hrk
            have k1 : ¬ (l.length : Int) ≤ (q : Int) := by omega
            clear hrk ho
            go_wp2_with fail
            refine OK.out.mono ?_
            rintro e w3 ⟨rfl, hR3, hb3⟩
            have ha3 := hR3.at_
            go_wp2_with fail
            go_roundw
            case rel =>
              refine ⟨q + x.2.2, ts ++ [⟨x.1, x.2.1, q⟩], by omega, by simp; omega, hR3, hE2.out.keepB (by omega) hb3, hb2.trans (hb3.mono (by omega)), ?_⟩
              rw [HR3.out, Option.map_map]
              congr 1
              funext y
              simp
            case measure =>
              rw [MS.out, ha3]
              simp [intOf]
              omega

end Go.Proofs.YtnamnldijopkfaaDoor
