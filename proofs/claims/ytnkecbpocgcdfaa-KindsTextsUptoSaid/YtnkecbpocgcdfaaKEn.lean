/-
  kinds.Entry; rows of types that a call builds.
-/
import Derived.Test.YtnkecbpocgcdfaaKTw
import Derived.Test.YtnkecbpocgcdfaaKt
namespace Go.Proofs.Ytnkecbpocgcdfaa
open Go.ChangeShapes Go.WideShapes Go.ChangeAt Go.RowKit Go.Joins

/-- a row of types whose cells stand at a block's head -/
theorem row_of_cells {w : World} {b : Nat} {es : List (Ty × Value × Value)} (h : ∀ j u, (rowOf es)[j]? = some u → w.cell? ⟨b, j, none⟩ = some u) (ht : ∀ e ∈ es, IsTy w e.1 e.2.1 e.2.2) (hl : es.length ≤ 9223372036854775807) :
    IsTy w (.mk 0 (es.map (·.1)) []) (.slice (some ⟨b, 0, none⟩) es.length es.length) (.slice none 0 0) := by
  have hE : ∀ j (hj : j < (es.map (·.1)).length), ∃ hj' : j < es.length, (es.map (·.1))[j] = es[j].1 := fun j hj => ⟨by simpa using hj, by simp⟩
  have key := IsTy.mk (w := w) 0 (es.map (·.1)) [] (.slice none 0 0) (some ⟨b, 0, none⟩) es.length (fun j => (es.getD j (noTy, .bool false, .bool false)).2.1) (fun j => (es.getD j (noTy, .bool false, .bool false)).2.2) (by omega)
    (row_nil w) (by simp) hl (fun q => ?_) (fun j hj => ?_)
  · simpa using key
  · refine ⟨b, 0, rfl, fun j hj => ?_⟩
    obtain ⟨hj', e⟩ := hE j hj
    obtain ⟨q0, q1, q2⟩ := rowOf_at es j hj'
    rw [Nat.zero_add, e, List.getD, List.getElem?_eq_getElem hj']
    exact ⟨h _ _ q0, h _ _ q1, h _ _ q2⟩
  · obtain ⟨hj', e⟩ := hE j hj
    rw [e, List.getD, List.getElem?_eq_getElem hj']
    exact ht _ (List.getElem_mem hj')

/-- a row of types in a block that is new -/
theorem row_new (v : World) (es : List (Ty × Value × Value)) (t : TypeId) (ht : ∀ e ∈ es, IsTy v e.1 e.2.1 e.2.2) (hl : es.length ≤ 9223372036854775807) (cs : Array Value) (hc : cs = (rowOf es).toArray) :
    IsTy (v.alloc (.cells cs t)) (.mk 0 (es.map (·.1)) []) (.slice (some ⟨v.heap.size, 0, none⟩) es.length es.length) (.slice none 0 0) := by
  subst hc
  refine row_of_cells (fun j u h => ?_) (fun e he => (ht e he).keep (kept_alloc (kept_refl v) _)) hl
  rw [cell_obj]
  have : (v.alloc (.cells (rowOf es).toArray t)).heap[v.heap.size]? = some (.cells (rowOf es).toArray t) := heap_alloc_new v _
  rw [this]
  simpa [objCell] using h

theorem Entry_no {w : World} {T : Ty} {i n : Value} (hT : IsTy w T i n) (x : ByteArray) (h : T.kind ≠ 11 ∨ entryT T x = none) (w' : World) (hK : Kept w w') :
    Calls Try.prog 26 #[.agg #[.int .i64 T.kind, i, n], .string x] w' fun e w2 =>
      e = .returned (.tuple #[.agg #[.int .i64 0, .slice none 0 0, .slice none 0 0], .bool false]) ∧ Below w'.heap.size w' w2 := by
  obtain ⟨xa, xc, ya, yc, rfl, rfl⟩ := hT.shape
  have z1 : w'.heap.size < w'.heap.size + 1 + 1 := by omega
  by_cases hk : T.kind = 11
  · have he : entryT T x = none := h.resolve_left (fun q => q hk)
    have EN := Lib.hid (fun v (q : Kept w' v) => entry_no hT x he v (kept_trans hK q))
    have hkb : (T.kind == 11) = true := by rw [hk]; rfl
    clear h he hK hT hk
    go_enter Try.func26, Try.ntmps26
    go_wp2_with fail
    refine (EN.out _ (kept_alloc (kept_alloc (kept_refl _) _) _)).mono ?_
    rintro e w2 ⟨rfl, hb⟩
    obtain ⟨r0, r1, r2, rf0, rf1, rf2, rl⟩ := keep3 (b := w'.heap.size + 1) (x := .int .i64 0) (y := .slice none 0 0) (z := .slice none 0 0) hb (by simp [go_sem, *]) (by simp [go_sem, *]) (by simp [go_sem, *]) (by simp [go_sem, *]) (by simp [go_sem, *]) (by simp [go_sem, *])
    have hbr : Below w'.heap.size w' w2 := by (repeat (first | with_reducible assumption | with_reducible exact bl_refl _ | with_reducible refine bl_alloc ?_ _ | with_reducible refine bl_set ?_ (by first | (simp; done) | (simp; omega)) _ | with_reducible refine bl_drew ?_ | with_reducible refine bl_drewN ?_ _ | with_reducible refine bl_trans ?_ (by assumption)))
    go_wp2_with fail
    refine bodyPost_ret (v := .tuple #[.agg #[.int .i64 0, .slice none 0 0, .slice none 0 0], .bool false]) (by simp [results, Try.results26, go_sem, *]) rfl ⟨rfl, ?_⟩
    (repeat (first | with_reducible assumption | with_reducible exact bl_refl _ | with_reducible refine bl_alloc ?_ _ | with_reducible refine bl_set ?_ (by first | (simp; done) | (simp; omega)) _ | with_reducible refine bl_drew ?_ | with_reducible refine bl_drewN ?_ _ | with_reducible refine bl_trans ?_ (by assumption)))
  · have hkb : (T.kind == 11) = false := by rw [beq_eq_false_iff_ne]; exact hk
    clear h hK hT hk
    go_enter Try.func26, Try.ntmps26
    go_wp2_with fail
    refine bodyPost_ret (v := .tuple #[.agg #[.int .i64 0, .slice none 0 0, .slice none 0 0], .bool false]) (by simp [results, Try.results26, go_sem, *]) rfl ⟨rfl, ?_⟩
    (repeat (first | with_reducible assumption | with_reducible exact bl_refl _ | with_reducible refine bl_alloc ?_ _ | with_reducible refine bl_set ?_ (by first | (simp; done) | (simp; omega)) _ | with_reducible refine bl_drew ?_ | with_reducible refine bl_drewN ?_ _ | with_reducible refine bl_trans ?_ (by assumption)))

theorem Entry_yes {w : World} {T X : Ty} {i n : Value} (hT : IsTy w T i n) (x : ByteArray) (hk : T.kind = 11) (h : entryT T x = some X) : ∃ xi xn, IsTy w X xi xn ∧ ∀ w', Kept w w' →
    Calls Try.prog 26 #[.agg #[.int .i64 T.kind, i, n], .string x] w' fun e w2 =>
      e = .returned (.tuple #[.agg #[.int .i64 X.kind, xi, xn], .bool true]) ∧ Below w'.heap.size w' w2 := by
  obtain ⟨xi, xn, hX, hc⟩ := entry_yes hT x h
  refine ⟨xi, xn, hX, fun w' hK => ?_⟩
  obtain ⟨xa, xc, ya, yc, rfl, rfl⟩ := hT.shape
  obtain ⟨va, vc, ua, uc, rfl, rfl⟩ := hX.shape
  have z1 : w'.heap.size < w'.heap.size + 1 + 1 := by omega
  have EN := Lib.hid (fun v (q : Kept w' v) => hc v (kept_trans hK q))
  have hkb : (T.kind == 11) = true := by rw [hk]; rfl
  clear h hc hK hT hk hX
  go_enter Try.func26, Try.ntmps26
  go_wp2_with fail
  refine (EN.out _ (kept_alloc (kept_alloc (kept_refl _) _) _)).mono ?_
  rintro e w2 ⟨rfl, hb⟩
  obtain ⟨r0, r1, r2, rf0, rf1, rf2, rl⟩ := keep3 (b := w'.heap.size + 1) (x := .int .i64 0) (y := .slice none 0 0) (z := .slice none 0 0) hb (by simp [go_sem, *]) (by simp [go_sem, *]) (by simp [go_sem, *]) (by simp [go_sem, *]) (by simp [go_sem, *]) (by simp [go_sem, *])
  have hbr : Below w'.heap.size w' w2 := by (repeat (first | with_reducible assumption | with_reducible exact bl_refl _ | with_reducible refine bl_alloc ?_ _ | with_reducible refine bl_set ?_ (by first | (simp; done) | (simp; omega)) _ | with_reducible refine bl_drew ?_ | with_reducible refine bl_drewN ?_ _ | with_reducible refine bl_trans ?_ (by assumption)))
  go_wp2_with fail
  refine bodyPost_ret (v := .tuple #[.agg #[.int .i64 X.kind, .slice va X.items.length vc, .slice ua X.names.length uc], .bool true]) (by simp [results, Try.results26, go_sem, *]) rfl ⟨rfl, ?_⟩
  (repeat (first | with_reducible assumption | with_reducible exact bl_refl _ | with_reducible refine bl_alloc ?_ _ | with_reducible refine bl_set ?_ (by first | (simp; done) | (simp; omega)) _ | with_reducible refine bl_drew ?_ | with_reducible refine bl_drewN ?_ _ | with_reducible refine bl_trans ?_ (by assumption)))

theorem rangeOf_k {w : World} {T : Ty} {i n : Value} (hT : IsTy w T i n) (w' : World) (hK : Kept w w') :
    Calls Try.prog 31 #[.agg #[.int .i64 T.kind, i, n]] w' (Makes (.mk 12 [T] []) w') := by
  have HT := Lib.hid (hT.keep hK)
  obtain ⟨xa, xc, ya, yc, rfl, rfl⟩ := hT.shape
  refine (rangeOf_x T.kind xa T.items.length xc ya T.names.length yc w').mono ?_
  rintro e w2 ⟨rfl, h0, h1, h2, hb⟩
  refine ⟨_, _, rfl, ty_one 12 (by omega) (HT.out.keep (kept_below hb)) _ 0 1 (by omega) (by omega) h0 h1 h2, hb⟩

theorem may_listOf {T : Ty} (h : mayB T = true) : mayB (.mk 10 [T] []) = true := by simp [mayB, allB, headB, h]
theorem may_rangeOf {T : Ty} (h : mayB T = true) : mayB (.mk 12 [T] []) = true := by simp [mayB, allB, headB, h]
theorem may_funcOf {T : Ty} (h : mayB T = true) : mayB (.mk 13 [T, T, T] []) = true := by simp [mayB, allB, headB, h]

theorem may_names {T : Ty} (h : mayB T = true) (hk : T.kind ≠ 11) : T.names = [] := by
  cases T with
  | mk k ts ns =>
    simp only [mayB, headB, Bool.and_eq_true] at h
    rw [if_neg (show ¬ k = 11 from hk)] at h
    by_cases hn : 0 < ns.length
    · rw [if_pos hn] at h; simp at h
    · exact List.eq_nil_of_length_eq_zero (by show ns.length = 0; omega)

theorem entry_empty {T : Ty} (h : T.names = []) (x : ByteArray) : entryT T x = none := by
  unfold entryT
  rw [h, if_neg]
  have : ¬ 0 ≤ Lib.idxOfS [] x := by rw [idx_mem]; simp
  exact fun q => this q.1

end Go.Proofs.Ytnkecbpocgcdfaa
