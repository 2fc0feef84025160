/-
  FuncOf gives a function's type.
-/
import Derived.Test.YtnkecbpocgcdfaaKl
namespace Go.Proofs.Ytnkecbpocgcdfaa
open Go.ChangeShapes Go.WideShapes Go.ChangeAt Go.RowKit Go.Joins

/-- the cells of a row of types, one behind the other -/
def rowVals (Xs : List Ty) (I N : Nat → Value) : List Value :=
  (List.range (Xs.length * 3)).map fun j => if j % 3 = 0 then .int .i64 (Xs.getD (j / 3) noTy).kind else if j % 3 = 1 then I (j / 3) else N (j / 3)

theorem rowVals_len (Xs : List Ty) (I N : Nat → Value) : (rowVals Xs I N).length = Xs.length * 3 := by simp [rowVals]

theorem rowVals_at (Xs : List Ty) (I N : Nat → Value) (j : Nat) (u : Value) (h : (rowVals Xs I N)[j]? = some u) : j < Xs.length * 3 ∧
    u = (if j % 3 = 0 then .int .i64 (Xs.getD (j / 3) noTy).kind else if j % 3 = 1 then I (j / 3) else N (j / 3)) := by
  have hj : j < Xs.length * 3 := by
    have := (List.getElem?_eq_some_iff.1 h).1
    rwa [rowVals_len] at this
  refine ⟨hj, ?_⟩
  unfold rowVals at h
  rw [List.getElem?_map, List.getElem?_range hj] at h
  simp at h
  exact h.symm

theorem funcOf_k {w : World} {T : Ty} {i n : Value} (hT : IsTy w T i n) (Xs : List Ty) (v : Value) (hX : IsTy w (.mk 0 Xs []) v (.slice none 0 0)) (h0 : Xs ≠ []) (hL : Xs.length ≤ 2199023255551) (w' : World) (hK : Kept w w') :
    Calls Try.prog 32 #[.agg #[.int .i64 T.kind, i, n], v] w' (Makes (.mk 13 (Xs ++ [T]) []) w') := by
  have hT' := hT.keep hK
  have hX' := hX.keep hK
  clear hT hX
  obtain ⟨xa, xc, ya, yc, rfl, rfl⟩ := hT'.shape
  cases hX' with
  | mk k ts ns vn a c I N hk hn h1 h2 h3 h4 =>
    obtain ⟨b, o, rfl, hc⟩ := h3 h0
    have hl : 0 < Xs.length := List.length_pos_iff.2 h0
    refine (funcOf_walk T.kind xa T.items.length xc ya T.names.length yc b o Xs.length c (rowVals Xs I N) w' (rowVals_len Xs I N) (fun j u h => ?_) (fun u hu => ?_) hl hL).mono ?_
    · obtain ⟨hj, rfl⟩ := rowVals_at Xs I N j u h
      have q := hc (j / 3) (by omega)
      rw [getD_at (show j / 3 < Xs.length by omega)]
      by_cases e0 : j % 3 = 0
      · rw [if_pos e0, show o + j = o + j / 3 * 3 by omega]; exact q.1
      · rw [if_neg e0]
        by_cases e1 : j % 3 = 1
        · rw [if_pos e1, show o + j = o + j / 3 * 3 + 1 by omega]; exact q.2.1
        · rw [if_neg e1, show o + j = o + j / 3 * 3 + 2 by omega]; exact q.2.2
    · obtain ⟨j, hj⟩ := List.mem_iff_getElem?.1 hu
      obtain ⟨hj, rfl⟩ := rowVals_at Xs I N j u hj
      obtain ⟨p1, p2, p3, p4, e1, e2⟩ := (h4 (j / 3) (by omega)).shape
      by_cases e0 : j % 3 = 0
      · rw [if_pos e0]; rfl
      · rw [if_neg e0]
        by_cases e3 : j % 3 = 1
        · rw [if_pos e3, e1]; rfl
        · rw [if_neg e3, e2]; rfl
    · rintro e w2 ⟨g, cap, rfl, q1, q2, q3, hb⟩
      have hk2 := kept_below hb
      have len : (Xs ++ [T]).length = Xs.length + 1 := by simp
      refine ⟨.slice (some ⟨g, 0, none⟩) (Xs.length + 1) cap, .slice none 0 0, rfl, ?_, hb⟩
      have r := IsTy.mk (w := w2) 13 (Xs ++ [T]) [] (.slice none 0 0) (some ⟨g, 0, none⟩) cap (fun j => if j < Xs.length then I j else .slice xa T.items.length xc) (fun j => if j < Xs.length then N j else .slice ya T.names.length yc)
        (by omega) (row_nil w2) (by rw [len]; exact q1) q2 (fun _ => ⟨g, 0, rfl, fun j hj => ?_⟩) (fun j hj => ?_)
      · rw [len] at r
        exact r
      · rw [len] at hj
        have cell : ∀ r u, r < 3 → (rowVals Xs I N ++ [.int .i64 T.kind, .slice xa T.items.length xc, .slice ya T.names.length yc])[j * 3 + r]? = some u → w2.cell? ⟨g, j * 3 + r, none⟩ = some u := fun r u _ h => q3 _ _ h
        by_cases e : j < Xs.length
        · have inn : ∀ r, r < 3 → (rowVals Xs I N ++ [.int .i64 T.kind, .slice xa T.items.length xc, .slice ya T.names.length yc])[j * 3 + r]? = some (if r = 0 then .int .i64 (Xs.getD j noTy).kind else if r = 1 then I j else N j) := by
            intro r hr
            have hlt : j * 3 + r < Xs.length * 3 := by omega
            rw [List.getElem?_append_left (by rw [rowVals_len]; exact hlt)]
            unfold rowVals
            rw [List.getElem?_map, List.getElem?_range hlt]
            simp only [Option.map_some, show (j * 3 + r) / 3 = j by omega, show (j * 3 + r) % 3 = r by omega]
          have e' : (Xs ++ [T])[j] = Xs.getD j noTy := by rw [List.getElem_append_left e, getD_at e]
          rw [e', if_pos e, if_pos e]
          refine ⟨?_, ?_, ?_⟩
          · simpa using cell 0 _ (by omega) (inn 0 (by omega))
          · simpa using cell 1 _ (by omega) (inn 1 (by omega))
          · simpa using cell 2 _ (by omega) (inn 2 (by omega))
        · have ej : j = Xs.length := by omega
          subst ej
          have out : ∀ r, r < 3 → (rowVals Xs I N ++ [.int .i64 T.kind, .slice xa T.items.length xc, .slice ya T.names.length yc])[Xs.length * 3 + r]? = [Value.int .i64 T.kind, .slice xa T.items.length xc, .slice ya T.names.length yc][r]? := by
            intro r hr
            rw [List.getElem?_append_right (by rw [rowVals_len]; omega), rowVals_len]
            congr 1
            omega
          have e' : (Xs ++ [T])[Xs.length] = T := by rw [List.getElem_append_right (Nat.le_refl _)]; simp
          rw [e', if_neg (by omega), if_neg (by omega)]
          refine ⟨?_, ?_, ?_⟩
          · simpa using cell 0 _ (by omega) (out 0 (by omega))
          · simpa using cell 1 _ (by omega) (out 1 (by omega))
          · simpa using cell 2 _ (by omega) (out 2 (by omega))
      · rw [len] at hj
        by_cases e : j < Xs.length
        · have e' : (Xs ++ [T])[j] = Xs[j] := List.getElem_append_left e
          rw [e', if_pos e, if_pos e]
          exact (h4 j e).keep hk2
        · have ej : j = Xs.length := by omega
          subst ej
          have e' : (Xs ++ [T])[Xs.length] = T := by rw [List.getElem_append_right (Nat.le_refl _)]; simp
          rw [e', if_neg (by omega), if_neg (by omega)]
          exact hT'.keep hk2

end Go.Proofs.Ytnkecbpocgcdfaa
