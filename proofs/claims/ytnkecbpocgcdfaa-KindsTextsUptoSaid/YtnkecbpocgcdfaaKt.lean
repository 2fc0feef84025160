/-
  What the law finds in a context's type by a name: as a value that is known ahead of the call.
-/
import Derived.Test.YtnkecbpocgcdfaaKs
namespace Go.Proofs.Ytnkecbpocgcdfaa
open Go.ChangeShapes Go.WideShapes Go.ChangeAt Go.RowKit Go.Joins

theorem at_no {w : World} {T : Ty} {i n : Value} (hT : IsTy w T i n) (hl : T.names.length ≤ T.items.length) (x : ByteArray) (he : entryT T x = none) (w' : World) (hK : Kept w w') :
    Calls Try.prog 29 #[.agg #[.int .i64 T.kind, i, n], .string x] w' fun e w2 => e = .returned (.tuple #[.agg #[.int .i64 0, .slice none 0 0, .slice none 0 0], .bool false]) ∧ Below w'.heap.size w' w2 := by
  refine (at_any hT hl x w' hK).mono ?_
  rintro e w2 (⟨_, h⟩ | ⟨X, _, _, h, _⟩)
  · exact h
  · rw [he] at h
    simp at h

set_option maxHeartbeats 2000000 in
set_option maxRecDepth 100000 in
theorem at_yes {w : World} {T : Ty} {i n : Value} (hT : IsTy w T i n) (hl : T.names.length ≤ T.items.length) (x : ByteArray) {X : Ty} (he : entryT T x = some X) :
    ∃ xi xn, IsTy w X xi xn ∧ ∀ w', Kept w w' → Calls Try.prog 29 #[.agg #[.int .i64 T.kind, i, n], .string x] w' fun e w2 =>
      e = .returned (.tuple #[.agg #[.int .i64 X.kind, xi, xn], .bool true]) ∧ Below w'.heap.size w' w2 := by
  obtain ⟨m, hm, hidx, rfl⟩ := entry_some he
  have g3 : T.names.length ≤ 9223372036854775807 := by
    obtain ⟨_, _, _, q1, q2, _⟩ := hT.inv.2.1.out
    omega
  have HN := Lib.hid hT.inv.2.1
  obtain ⟨xa, xc, ya, yc, rfl, rfl⟩ := hT.shape
  obtain ⟨pb, po, rfl, va, vc, ua, uc, q0, q1, q2, hX⟩ := hT.item (kept_refl w) m hm
  rw [getD_at hm] at q0 q1 q2 hX
  refine ⟨_, _, hX, fun w' hK => ?_⟩
  have q0 := hK _ _ _ q0
  have q1 := hK _ _ _ q1
  have q2 := hK _ _ _ q2
  have HK := Lib.hid hK
  have HM := Lib.hid hidx
  have HL := Lib.hid hl
  have z1 : w'.heap.size < w'.heap.size + 1 + 1 := by omega
  clear hT hK hX he hidx hl
  generalize T.items[m] = X at *
  go_enter Try.func29, Try.ntmps29
  go_wp2_with fail
  go_loopw [6] (fun i wr => ∃ j : Nat, j ≤ T.names.length ∧ i = .int .i64 j ∧ (∀ q, q < j → T.names.getD q ByteArray.empty ≠ x) ∧ Kept w' wr ∧ Below w'.heap.size w' wr ∧
    wr.cell? ⟨w'.heap.size, 0, none⟩ = some (.int .i64 T.kind) ∧ wr.cell? ⟨w'.heap.size, 1, none⟩ = some (.slice (some ⟨pb, po, none⟩) T.items.length xc) ∧ wr.cell? ⟨w'.heap.size, 2, none⟩ = some (.slice ya T.names.length yc) ∧ wr.cell? ⟨w'.heap.size + 1, 0, none⟩ = some (.int .i64 0) ∧ wr.cell? ⟨w'.heap.size + 1, 1, none⟩ = some (.slice none 0 0) ∧ wr.cell? ⟨w'.heap.size + 1, 2, none⟩ = some (.slice none 0 0) ∧
    wr.frozen? ⟨w'.heap.size + 1, 0, none⟩ = false ∧ wr.frozen? ⟨w'.heap.size + 1, 1, none⟩ = false ∧ wr.frozen? ⟨w'.heap.size + 1, 2, none⟩ = false) (fun i _ => T.names.length - (intOf i).toNat)
  case atStart =>
    refine ⟨0, by omega, rfl, fun x hx => absurd hx (Nat.not_lt_zero _), kept_alloc (kept_alloc (kept_refl _) _) _, ?_, ?_, ?_, ?_, ?_, ?_, ?_, ?_, ?_, ?_⟩
    · (repeat (first | with_reducible assumption | with_reducible exact bl_refl _ | with_reducible refine bl_alloc ?_ _ | with_reducible refine bl_set ?_ (by simp) _ | with_reducible refine bl_drew ?_ | with_reducible refine bl_drewN ?_ _ | with_reducible refine bl_trans ?_ (by assumption)))
    all_goals simp
  case round =>
    obtain ⟨j, hj, rfl, hne, hK2, hbr, c0, c1, c2, r0, r1, r2, f0, f1, f2⟩ := hrel
    have HNE := Lib.hid hne
    clear hne
    have rl := lt_of_cell r0
    by_cases hlt : j < T.names.length
    · obtain ⟨sb, so, rfl, s0⟩ := HN.out.name (kept_trans HK.out hK2) j hlt
      by_cases e : T.names.getD j ByteArray.empty = x
      · have hjm : j = m := by
          have := idx_first x T.names j hlt e HNE.out
          rw [HM.out] at this
          omega
        subst hjm
        have q0 := hK2 _ _ _ q0
        have q1 := hK2 _ _ _ q1
        have q2 := hK2 _ _ _ q2
        have heq : ((T.names.getD j ByteArray.empty).toList == x.toList) = true := (Lib.bytes_beq_iff _ _).2 e
        clear e hK2
        generalize T.names.getD j ByteArray.empty = nm at *
        have ql := lt_of_cell q0
        go_wp2_with fail
        refine bodyPost_ret (v := .tuple #[.agg #[.int .i64 X.kind, .slice va X.items.length vc, .slice ua X.names.length uc], .bool true]) (by simp [results, Try.results29, go_sem, *]) rfl ⟨rfl, ?_⟩
        (repeat (first | with_reducible assumption | with_reducible exact bl_refl _ | with_reducible refine bl_alloc ?_ _ | with_reducible refine bl_set ?_ (by first | (simp; done) | (simp; omega)) _ | with_reducible refine bl_drew ?_ | with_reducible refine bl_drewN ?_ _ | with_reducible refine bl_trans ?_ (by assumption)))
      · have HE := Lib.hid e
        have heq : ((T.names.getD j ByteArray.empty).toList == x.toList) = false := (Lib.bytes_beq_false_iff _ _).2 e
        have HK2 := Lib.hid hK2
        clear e hK2
        generalize hnm : T.names.getD j ByteArray.empty = nm at *
        have HNM := Lib.hid hnm
        clear hnm
        go_wp2_with fail
        go_roundw
        case rel =>
          refine ⟨j + 1, by omega, by go_num, fun q hq => ?_, HK2.out, hbr, c0, c1, c2, r0, r1, r2, f0, f1, f2⟩
          by_cases c : q = j
          · subst c
            rw [HNM.out]; exact HE.out
          · exact HNE.out q (by omega)
        case measure => simp [intOf]; omega
    · exfalso
      have q := Lib.idxOfS_miss T.names T.names.length x (fun i hi => HNE.out i (by omega))
      rw [List.take_length] at q
      have := HM.out
      omega

end Go.Proofs.Ytnkecbpocgcdfaa
