/-
  A row of texts that came in.
-/
import Derived.Test.YtnamnldijopkfaaDoorTCard
import Derived.Test.YtnamnldijopkfaaDoorTuf
import Derived.SliceStrings
namespace Go.Proofs.YtnamnldijopkfaaDoor
open Go.ChangeShapes Go.WideShapes Go.ChangeAt Go.RowKit Go.Joins

/-- the bulk of some texts -/
def bkS : List (List UInt8) → Nat
  | [] => 0
  | x :: r => x.length + 1 + bkS r
theorem bkS_len : ∀ ns : List (List UInt8), ns.length ≤ bkS ns
  | [] => Nat.le_refl _
  | x :: r => by have := bkS_len r; rw [bkS, List.length_cons]; omega
theorem bkS_mem : ∀ ns : List (List UInt8), ∀ m ∈ ns, m.length + 1 ≤ bkS ns
  | x :: r, m, h => by
    rw [bkS]
    rcases List.mem_cons.1 h with rfl | h
    · omega
    · have := bkS_mem r m h; omega
theorem bulk_strsL {H : Type} : ∀ ns : List ByteArray, Rows.uptoBulkAll (strs (H := H) ns) = bkS (ns.map fun x => x.data.toList)
  | [] => by simp [strs, Rows.uptoBulkAll, bkS]
  | x :: r => by
    have h := bulk_strsL (H := H) r
    have e : strs (H := H) (x :: r) = .lit (.string x.data.toList) :: strs r := rfl
    rw [e, Rows.uptoBulkAll, h, List.map_cons, bkS, Array.length_toList]
    simp only [Rows.uptoBulk, Array.length_toList]

section
variable {H : Type} {enc : TypeId × Value → H} {w : World} {base : Nat} {spare : Nat → Bool} {held : Bool}

theorem strs_of_trod {fuel : Nat} {c : Value} {x : DataW H × List MemPlace} (h : DataW.trod enc Tryd.prog w base spare held fuel 43 [c] = some x) : ∃ ns, Strs w c ns ∧ bkS ns ≤ Rows.uptoBulk x.1 := by
  rcases open_strings Tryd.underlying43 Tryd.underlying9 (by kernel_rfl) h with ⟨hcs, _⟩ | ⟨a, len, cap, ss, hcs, _, hl, hm, hn, hx, hc, _⟩
  · simp only [List.cons.injEq, and_true] at hcs
    subst hcs
    exact ⟨[], ⟨none, 0, rfl, Nat.le_refl _, by omega, fun q => absurd rfl q⟩, by simp [bkS]⟩
  · simp only [List.cons.injEq, and_true] at hcs
    subst hcs
    have hle : len ≤ ss.length := by rw [hn]; split <;> omega
    have hlen : ((ss.take len).map fun x => x.data.toList).length = len := by rw [List.length_map, List.length_take]; omega
    refine ⟨(ss.take len).map fun x => x.data.toList, ⟨some a, cap, by rw [hlen], by omega, by unfold maxLen at hm; omega, fun q => ?_⟩, ?_⟩
    · have h0 : 0 < len := by
        rcases Nat.eq_zero_or_pos len with e | e
        · subst e; exact absurd (by simp) q
        · exact e
      obtain ⟨b, o, sp⟩ := a
      have hsp : sp = none := by simpa [Addr.add] using World.cell?_spot (hc 0 (by omega))
      subst hsp
      refine ⟨b, o, rfl, fun j hj => ?_⟩
      have := hc j (by omega)
      rw [add_plain] at this
      rw [this, List.getElem_map, strOfL_of, List.getElem_take]
      simp [List.getD, List.getElem?_eq_getElem (show j < ss.length by omega)]
    · rw [hx]
      simp only [Rows.uptoBulk, bulk_strsL]
      omega
set_option maxRecDepth 100000 in
theorem open_strs_bk {r : Reach} {b0 : Nat} {v : Value} {d : DataW H} {p : List MemPlace} (hv : Value.okWide Tryd.prog w r b0 43 v) (h : DataW.Trod enc Tryd.prog w base spare held 43 v d p) :
    ∃ ns, Strs w v ns ∧ bkS ns ≤ Rows.uptoBulk d := by
  obtain ⟨a, l, c, rfl⟩ := okWide_slice Tryd.underlying43 hv
  obtain ⟨fuel, hf⟩ := h
  have hf' : DataW.trod enc Tryd.prog w base spare held fuel 43 [.slice a l c] = some (d, p) := by simpa [Value.cells] using hf
  exact strs_of_trod hf'
end

end Go.Proofs.YtnamnldijopkfaaDoor
