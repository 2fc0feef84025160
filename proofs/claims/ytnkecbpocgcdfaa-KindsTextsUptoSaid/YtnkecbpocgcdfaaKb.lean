/-
  A type that came in lies in the world.
-/
import Derived.Test.YtnkecbpocgcdfaaKa
import Derived.SliceStrings
namespace Go.Proofs.Ytnkecbpocgcdfaa
open Go.ChangeShapes Go.WideShapes Go.ChangeAt Go.RowKit Go.Joins

section
variable {H : Type} {enc : TypeId × Value → H} {w : World} {base : Nat} {spare : Nat → Bool} {held : Bool}

theorem wide_type : Try.prog.cellsOf 26 = 3 := by kernel_rfl
theorem wide_kind : Try.prog.cellsOf 22 = 1 := by kernel_rfl
theorem wide_items : Try.prog.cellsOf 23 = 1 := by kernel_rfl
theorem wide_names : Try.prog.cellsOf 24 = 1 := by kernel_rfl
theorem wide_string : Try.prog.cellsOf 9 = 1 := by kernel_rfl

theorem names_of_trod {fuel : Nat} {c : Value} {x : DataW H × List MemPlace} (h : DataW.trod enc Try.prog w base spare held fuel 24 [c] = some x) : ∃ ns, StrRow w c ns := by
  rcases open_strings Try.underlying24 Try.underlying9 wide_string h with ⟨hcs, _⟩ | ⟨a, len, cap, ss, hcs, _, hl, hm, hn, _, hc, _⟩
  · simp only [List.cons.injEq, and_true] at hcs
    subst hcs
    exact ⟨[], ⟨⟨none, 0, rfl, Nat.le_refl _, by omega, fun q => absurd rfl q⟩⟩⟩
  · simp only [List.cons.injEq, and_true] at hcs
    subst hcs
    have hle : len ≤ ss.length := by rw [hn]; split <;> omega
    have hlen : (ss.take len).length = len := by rw [List.length_take]; omega
    refine ⟨ss.take len, ⟨⟨some a, cap, by rw [hlen], by omega, by unfold maxLen at hm; omega, fun q => ?_⟩⟩⟩
    have h0 : 0 < len := by
      rcases Nat.eq_zero_or_pos len with e | e
      · subst e; exact absurd (by simp) q
      · exact e
    obtain ⟨b, o, sp⟩ := a
    have hsp : sp = none := by simpa [Addr.add] using World.cell?_spot (hc 0 (by omega))
    subst hsp
    refine ⟨b, o, rfl, fun j hj => ?_⟩
    have := hc j (by omega)
    rw [add_plain] at this
    rw [this]
    simp [List.getD, List.getElem?_eq_getElem (show j < ss.length by omega)]

theorem ty_of_trod : ∀ (fuel : Nat) (cs : List Value) (x : DataW H × List MemPlace), DataW.trod enc Try.prog w base spare held fuel 26 cs = some x →
    ∃ (T : Ty) (i n : Value), cs = [.int .i64 T.kind, i, n] ∧ IsTy w T i n := by
  intro fuel
  induction fuel using Nat.strongRecOn with
  | _ fuel ih =>
    intro cs x h
    obtain ⟨xs, m, rfl, _, hl, hlen, hg⟩ := DataW.trod_struct Try.underlying26 h
    rw [wide_type] at hl
    match cs, hl with
    | [c0, c1, c2], _ =>
      match xs, hlen with
      | [y0, y1, y2], _ =>
        have g0 : DataW.trod enc Try.prog w base spare held m 22 [c0] = some y0 := by simpa [wide_kind] using hg 0 _ rfl
        have g1 : DataW.trod enc Try.prog w base spare held m 23 [c1] = some y1 := by simpa [wide_items] using hg 1 _ rfl
        have g2 : DataW.trod enc Try.prog w base spare held m 24 [c2] = some y2 := by simpa [wide_names] using hg 2 _ rfl
        obtain ⟨k, e0, _, wk⟩ := DataW.trod_int Try.underlying22 g0
        simp only [List.cons.injEq, and_true] at e0
        subst e0
        obtain ⟨ns, hns⟩ := names_of_trod g2
        rcases DataW.trod_slice Try.underlying23 g1 with ⟨e1, _⟩ | ⟨a, len, cap, elems, rest, n, hm, e1, _, _, hlc, hcap, hel, hat, _, _⟩
        · simp only [List.cons.injEq, and_true] at e1
          subst e1
          exact ⟨.mk k [] ns, _, _, rfl, .mk k [] ns c2 none 0 (fun _ => .bool false) (fun _ => .bool false) (bounds_i64 wk) hns (Nat.le_refl _) (by omega) (fun q => absurd rfl q) (fun j hj => absurd hj (by simp))⟩
        · simp only [List.cons.injEq, and_true] at e1
          subst e1
          rw [wide_type] at hat
          have each : ∀ j, j < len → ∃ (T : Ty) (i n : Value), (w.cell? (a.add (j * 3)) = some (.int .i64 T.kind) ∧ w.cell? (a.add (j * 3 + 1)) = some i ∧ w.cell? (a.add (j * 3 + 2)) = some n) ∧ IsTy w T i n := by
            intro j hj
            have h1 := hat j hj
            rw [List.getElem?_eq_getElem (by omega)] at h1
            obtain ⟨cs', h2, h3⟩ := Option.bind_eq_some_iff.1 h1
            obtain ⟨T, i, n', rfl, hT⟩ := ih n (by omega) cs' _ h3
            obtain ⟨_, _, h4⟩ := World.cells?_some h2
            refine ⟨T, i, n', ⟨?_, ?_, ?_⟩, hT⟩
            · have := h4 0 (by omega); rw [Go.Deep.add_add] at this; simpa using this
            · have := h4 1 (by omega); rw [Go.Deep.add_add] at this; simpa using this
            · have := h4 2 (by omega); rw [Go.Deep.add_add] at this; simpa using this
          have pick : ∃ (F : Nat → Ty) (I N : Nat → Value), ∀ j, j < len → (w.cell? (a.add (j * 3)) = some (.int .i64 (F j).kind) ∧ w.cell? (a.add (j * 3 + 1)) = some (I j) ∧ w.cell? (a.add (j * 3 + 2)) = some (N j)) ∧ IsTy w (F j) (I j) (N j) := by
            have : ∀ j, ∃ q : Ty × Value × Value, j < len → (w.cell? (a.add (j * 3)) = some (.int .i64 q.1.kind) ∧ w.cell? (a.add (j * 3 + 1)) = some q.2.1 ∧ w.cell? (a.add (j * 3 + 2)) = some q.2.2) ∧ IsTy w q.1 q.2.1 q.2.2 := by
              intro j
              by_cases hj : j < len
              · obtain ⟨T, i, n', q1, q2⟩ := each j hj
                exact ⟨(T, i, n'), fun _ => ⟨q1, q2⟩⟩
              · exact ⟨(.mk 0 [] [], .bool false, .bool false), fun q => absurd q hj⟩
            exact ⟨fun j => (Classical.choose (this j)).1, fun j => (Classical.choose (this j)).2.1, fun j => (Classical.choose (this j)).2.2, fun j => Classical.choose_spec (this j)⟩
          obtain ⟨F, I, N, hF⟩ := pick
          have hL : ((List.range len).map F).length = len := by simp
          refine ⟨.mk k ((List.range len).map F) ns, _, c2, rfl, ?_⟩
          have := IsTy.mk (w := w) k ((List.range len).map F) ns c2 (some a) cap I N (bounds_i64 wk) hns (by omega) (by unfold maxLen at hcap; omega) (fun q => ?_) (fun j hj => ?_)
          · rw [hL] at this
            exact this
          · have h0 : 0 < len := by
              rcases Nat.eq_zero_or_pos len with e | e
              · subst e; exact absurd (by simp) q
              · exact e
            obtain ⟨b, o, sp⟩ := a
            have hsp : sp = none := by simpa [Addr.add] using World.cell?_spot (hF 0 h0).1.1
            subst hsp
            refine ⟨b, o, rfl, fun j hj => ?_⟩
            have q := (hF j (by omega)).1
            rw [add_plain, add_plain, add_plain] at q
            simpa [Nat.add_assoc] using q
          · have q := (hF j (by omega)).2
            simpa using q

theorem open_type {r : Reach} {b0 : Nat} {v : Value} {d : DataW H} {p : List MemPlace} (hv : Value.okWide Try.prog w r b0 26 v) (h : DataW.Trod enc Try.prog w base spare held 26 v d p) :
    ∃ (T : Ty) (i n : Value), v = tyV T i n ∧ IsTy w T i n := by
  obtain ⟨cs, rfl, hsz⟩ := okWide_struct Try.underlying26 hv
  obtain ⟨fuel, hf⟩ := h
  obtain ⟨T, i, n, e, hT⟩ := ty_of_trod fuel _ _ hf
  refine ⟨T, i, n, ?_, hT⟩
  obtain ⟨l⟩ := cs
  have e' : l = [Value.int .i64 T.kind, i, n] := by simpa [Value.cells] using e
  subst e'
  rfl
end

end Go.Proofs.Ytnkecbpocgcdfaa
