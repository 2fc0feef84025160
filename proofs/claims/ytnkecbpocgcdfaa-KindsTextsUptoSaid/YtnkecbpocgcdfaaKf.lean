/-
  What a context's type has by a name; to conform, as a relation.
-/
import Derived.Test.YtnkecbpocgcdfaaKe
namespace Go.Proofs.Ytnkecbpocgcdfaa
open Go.ChangeShapes Go.WideShapes Go.ChangeAt Go.RowKit Go.Joins

theorem IsTy.inv {w : World} {T : Ty} {i n : Value} (h : IsTy w T i n) : (-9223372036854775808 ≤ T.kind ∧ T.kind ≤ 9223372036854775807) ∧ StrRow w n T.names ∧
    ∃ (a : Option Addr) (c : Nat), i = .slice a T.items.length c ∧ T.items.length ≤ c ∧ c ≤ 9223372036854775807 ∧
      (T.items ≠ [] → ∃ b o, a = some ⟨b, o, none⟩ ∧ ∀ j (hj : j < T.items.length), ∃ xa xc ya yc, w.cell? ⟨b, o + j * 3, none⟩ = some (.int .i64 (T.items[j].kind)) ∧
        w.cell? ⟨b, o + j * 3 + 1, none⟩ = some (.slice xa T.items[j].items.length xc) ∧ w.cell? ⟨b, o + j * 3 + 2, none⟩ = some (.slice ya T.items[j].names.length yc) ∧
        IsTy w T.items[j] (.slice xa T.items[j].items.length xc) (.slice ya T.items[j].names.length yc)) := by
  cases h with
  | mk k ts ns vn a c I N hk hn h1 h2 h3 h4 =>
    refine ⟨hk, hn, a, c, rfl, h1, h2, fun e => ?_⟩
    obtain ⟨b, o, e, g⟩ := h3 e
    refine ⟨b, o, e, fun j hj => ?_⟩
    obtain ⟨xa, xc, ya, yc, e1, e2⟩ := (h4 j hj).shape
    have q := h4 j hj
    rw [e1, e2] at q
    have g0 := g j hj
    rw [e1, e2] at g0
    exact ⟨xa, xc, ya, yc, g0.1, g0.2.1, g0.2.2, q⟩

mutual
def Ty.sz : Ty → Nat
  | .mk _ ts _ => 1 + szL ts
def szL : List Ty → Nat
  | [] => 0
  | t :: ts => t.sz + szL ts
end

theorem sz_le : ∀ (ts : List Ty) (j : Nat) (h : j < ts.length), ts[j].sz ≤ szL ts
  | [], _, h => absurd h (by simp)
  | t :: ts, 0, _ => by rw [szL]; simp
  | t :: ts, j + 1, h => by
    rw [szL]
    have := sz_le ts j (by simpa using h)
    simp only [List.getElem_cons_succ]
    omega

theorem sz_item (T : Ty) (j : Nat) (h : j < T.items.length) : T.items[j].sz < T.sz := by
  obtain ⟨k, ts, ns⟩ := T
  have := sz_le ts j h
  rw [Ty.sz]
  show ts[j].sz < 1 + szL ts
  omega

theorem sz_pos (T : Ty) : 0 < T.sz := by
  obtain ⟨k, ts, ns⟩ := T
  rw [Ty.sz]; omega

def noTy : Ty := .mk 0 [] []

/-- what a type has by a name -/
def entryT (T : Ty) (x : ByteArray) : Option Ty :=
  if 0 ≤ Lib.idxOfS T.names x ∧ Lib.idxOfS T.names x < T.items.length then some (T.items.getD (Lib.idxOfS T.names x).toNat noTy) else none

theorem entry_some {T X : Ty} {x : ByteArray} (h : entryT T x = some X) : ∃ j : Nat, ∃ hj : j < T.items.length, Lib.idxOfS T.names x = j ∧ X = T.items[j] := by
  unfold entryT at h
  by_cases c : 0 ≤ Lib.idxOfS T.names x ∧ Lib.idxOfS T.names x < T.items.length
  · rw [if_pos c] at h
    have hj : (Lib.idxOfS T.names x).toNat < T.items.length := by omega
    refine ⟨(Lib.idxOfS T.names x).toNat, hj, by omega, ?_⟩
    rw [List.getD, List.getElem?_eq_getElem hj] at h
    simpa using h.symm
  · rw [if_neg c] at h; simp at h

theorem entry_none {T : Ty} {x : ByteArray} (h : entryT T x = none) : ¬ (0 ≤ Lib.idxOfS T.names x ∧ Lib.idxOfS T.names x < T.items.length) := by
  intro c
  unfold entryT at h
  rw [if_pos c] at h
  simp at h

theorem entry_no {w : World} {T : Ty} {i n : Value} (hT : IsTy w T i n) (x : ByteArray) (h : entryT T x = none) (w' : World) (hK : Kept w w') :
    Calls Try.prog 34 #[.agg #[.int .i64 T.kind, i, n], .string x] w' fun e w2 =>
      e = .returned (.tuple #[.agg #[.int .i64 0, .slice none 0 0, .slice none 0 0], .bool false]) ∧ Below w'.heap.size w' w2 := by
  obtain ⟨_, hn, a, c, rfl, h1, h2, h3⟩ := hT.inv
  clear h3
  have hn' := hn.keep hK
  obtain ⟨na, nc, rfl, hn1, hn2, hn3⟩ := hn.out
  clear hn3
  have HI := Lib.hid (fun w'' (k : Kept w' w'') => index_any _ T.names x w'' (hn'.keep k))
  have hno := entry_none h
  clear hT hn hn' h hK
  generalize Lib.idxOfS T.names x = q at *
  generalize T.items.length = L at *
  generalize T.names.length = M at *
  generalize T.kind = k at *
  go_enter Try.func34, Try.ntmps34
  go_wp2_with fail
  refine (HI.out _ (kept_alloc (kept_alloc (kept_refl _) _) _)).mono ?_
  rintro e w2 ⟨rfl, rfl⟩
  by_cases hq : q < 0
  · go_wp2_with fail
    refine bodyPost_ret (v := .tuple #[.agg #[.int .i64 0, .slice none 0 0, .slice none 0 0], .bool false]) (by simp [results, Try.results34, go_sem]) rfl ⟨rfl, ?_⟩
    (repeat (first | with_reducible assumption | with_reducible exact bl_refl _ | with_reducible refine bl_alloc ?_ _ | with_reducible refine bl_set ?_ (by first | (simp; done) | (simp; omega)) _ | with_reducible refine bl_drew ?_ | with_reducible refine bl_drewN ?_ _ | with_reducible refine bl_trans ?_ (by assumption)))
  · have hq2 : (L : Int) ≤ q := by omega
    go_wp2_with fail
    refine bodyPost_ret (v := .tuple #[.agg #[.int .i64 0, .slice none 0 0, .slice none 0 0], .bool false]) (by simp [results, Try.results34, go_sem]) rfl ⟨rfl, ?_⟩
    (repeat (first | with_reducible assumption | with_reducible exact bl_refl _ | with_reducible refine bl_alloc ?_ _ | with_reducible refine bl_set ?_ (by first | (simp; done) | (simp; omega)) _ | with_reducible refine bl_drew ?_ | with_reducible refine bl_drewN ?_ _ | with_reducible refine bl_trans ?_ (by assumption)))

theorem entry_yes {w : World} {T X : Ty} {i n : Value} (hT : IsTy w T i n) (x : ByteArray) (h : entryT T x = some X) : ∃ xi xn, IsTy w X xi xn ∧ ∀ w', Kept w w' →
    Calls Try.prog 34 #[.agg #[.int .i64 T.kind, i, n], .string x] w' fun e w2 =>
      e = .returned (.tuple #[.agg #[.int .i64 X.kind, xi, xn], .bool true]) ∧ Below w'.heap.size w' w2 := by
  obtain ⟨_, hn, a, c, rfl, h1, h2, h3⟩ := hT.inv
  obtain ⟨j, hj, hidx, rfl⟩ := entry_some h
  obtain ⟨b, o, rfl, hc⟩ := h3 (by intro e; rw [e] at hj; simp at hj)
  obtain ⟨xa, xc, ya, yc, q0, q1, q2, hX⟩ := hc j hj
  refine ⟨_, _, hX, fun w' hK => ?_⟩
  have q0 := hK _ _ _ q0
  have bl := lt_of_cell q0
  have q1 := hK _ _ _ q1
  have q2 := hK _ _ _ q2
  have hn' := hn.keep hK
  obtain ⟨na, nc, rfl, hn1, hn2, hn3⟩ := hn.out
  clear hn3
  have HI := Lib.hid (fun w'' (k : Kept w' w'') => index_any _ T.names x w'' (hn'.keep k))
  rw [hidx] at HI
  clear hT hn hn' h hK hX hc hidx h3
  generalize T.items[j].kind = K at *
  generalize T.items[j].items.length = LI at *
  generalize T.items[j].names.length = LN at *
  generalize T.items.length = L at *
  generalize T.names.length = M at *
  generalize T.kind = k at *
  go_enter Try.func34, Try.ntmps34
  go_wp2_with fail
  refine (HI.out _ (kept_alloc (kept_alloc (kept_refl _) _) _)).mono ?_
  rintro e w2 ⟨rfl, rfl⟩
  go_wp2_with fail
  refine bodyPost_ret (v := .tuple #[.agg #[.int .i64 K, .slice xa LI xc, .slice ya LN yc], .bool true]) (by simp [results, Try.results34, go_sem]) rfl ⟨rfl, ?_⟩
  (repeat (first | with_reducible assumption | with_reducible exact bl_refl _ | with_reducible refine bl_alloc ?_ _ | with_reducible refine bl_set ?_ (by first | (simp; done) | (simp; omega)) _ | with_reducible refine bl_drew ?_ | with_reducible refine bl_drewN ?_ _ | with_reducible refine bl_trans ?_ (by assumption)))

end Go.Proofs.Ytnkecbpocgcdfaa
