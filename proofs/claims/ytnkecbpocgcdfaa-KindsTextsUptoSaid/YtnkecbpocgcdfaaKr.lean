/-
  What the law finds in a context's type by a name.
-/
import Derived.Test.YtnkecbpocgcdfaaKq
namespace Go.Proofs.Ytnkecbpocgcdfaa
open Go.ChangeShapes Go.WideShapes Go.ChangeAt Go.RowKit Go.Joins

theorem idx_first (x : ByteArray) (ns : List ByteArray) (j : Nat) (hj : j < ns.length) (h : ns.getD j ByteArray.empty = x) (hn : ∀ i, i < j → ns.getD i ByteArray.empty ≠ x) : Lib.idxOfS ns x = j := by
  have q := Lib.idxOfS_hit ns ns.length j x hj (Nat.le_refl _) h hn
  rw [List.take_length] at q
  exact q

theorem kept_set {a w : World} (h : Kept a w) {p : Addr} (hp : a.heap.size ≤ p.block) (u : Value) : Kept a (w.setCell p u) := by
  intro b o v q
  have hb := lt_of_cell q
  exact (World.cell?_setCell_far w p _ u (by simp; omega)).trans (h _ _ _ q)

def AtNo (W : World) (e : Ending) (w' : World) : Prop := e = .returned (.tuple #[.agg #[.int .i64 0, .slice none 0 0, .slice none 0 0], .bool false]) ∧ Below W.heap.size W w'

set_option maxHeartbeats 2000000 in
set_option maxRecDepth 100000 in
theorem at_any {w : World} {T : Ty} {i n : Value} (hT : IsTy w T i n) (hl : T.names.length ≤ T.items.length) (x : ByteArray) (w' : World) (hK : Kept w w') :
    Calls Try.prog 29 #[.agg #[.int .i64 T.kind, i, n], .string x] w' fun e w2 =>
      (entryT T x = none ∧ AtNo w' e w2) ∨ ∃ X xi xn, entryT T x = some X ∧ e = .returned (.tuple #[.agg #[.int .i64 X.kind, xi, xn], .bool true]) ∧ IsTy w2 X xi xn ∧ Below w'.heap.size w' w2 := by
  have HT := Lib.hid hT
  have HK := Lib.hid hK
  have g3 : T.names.length ≤ 9223372036854775807 := by
    obtain ⟨_, _, _, q1, q2, _⟩ := hT.inv.2.1.out
    omega
  obtain ⟨xa, xc, ya, yc, rfl, rfl⟩ := hT.shape
  have HN := Lib.hid hT.inv.2.1
  have z1 : w'.heap.size < w'.heap.size + 1 + 1 := by omega
  clear hT hK
  go_enter Try.func29, Try.ntmps29
  go_wp2_with fail
  go_loopw [6] (fun i wr => ∃ j : Nat, j ≤ T.names.length ∧ i = .int .i64 j ∧ (∀ q, q < j → T.names.getD q ByteArray.empty ≠ x) ∧ Kept w' wr ∧ Below w'.heap.size w' wr ∧
    wr.cell? ⟨w'.heap.size, 0, none⟩ = some (.int .i64 T.kind) ∧ wr.cell? ⟨w'.heap.size, 1, none⟩ = some (.slice xa T.items.length xc) ∧ wr.cell? ⟨w'.heap.size, 2, none⟩ = some (.slice ya T.names.length yc) ∧ wr.cell? ⟨w'.heap.size + 1, 0, none⟩ = some (.int .i64 0) ∧ wr.cell? ⟨w'.heap.size + 1, 1, none⟩ = some (.slice none 0 0) ∧ wr.cell? ⟨w'.heap.size + 1, 2, none⟩ = some (.slice none 0 0) ∧
    wr.frozen? ⟨w'.heap.size + 1, 0, none⟩ = false ∧ wr.frozen? ⟨w'.heap.size + 1, 1, none⟩ = false ∧ wr.frozen? ⟨w'.heap.size + 1, 2, none⟩ = false) (fun i _ => T.names.length - (intOf i).toNat)
  case atStart =>
    refine ⟨0, by omega, rfl, fun x hx => absurd hx (Nat.not_lt_zero _), kept_alloc (kept_alloc (kept_refl _) _) _, ?_, ?_, ?_, ?_, ?_, ?_, ?_, ?_, ?_, ?_⟩
    · (repeat (first | with_reducible assumption | with_reducible exact bl_refl _ | with_reducible refine bl_alloc ?_ _ | with_reducible refine bl_set ?_ (by simp) _ | with_reducible refine bl_drew ?_ | with_reducible refine bl_drewN ?_ _ | with_reducible refine bl_trans ?_ (by assumption)))
    all_goals simp
  case round =>
    obtain ⟨j, hj, rfl, hne, hK2, hbr, c0, c1, c2, r0, r1, r2, f0, f1, f2⟩ := hrel
    have HNE := Lib.hid hne
    clear hne
    have rl := lt_of_cell r0
    by_cases hlt : j < T.names.length
    · obtain ⟨sb, so, rfl, s0⟩ := HN.out.name (kept_trans HK.out hK2) j hlt
      by_cases e : T.names.getD j ByteArray.empty = x
      · obtain ⟨pb, po, rfl, va, vc, ua, uc, q0, q1, q2, hX⟩ := HT.out.item (kept_refl w) j (by omega)
        have q0 := hK2 _ _ _ (HK.out _ _ _ q0)
        have q1 := hK2 _ _ _ (HK.out _ _ _ q1)
        have q2 := hK2 _ _ _ (HK.out _ _ _ q2)
        have HK2 := Lib.hid hK2
        have HX := Lib.hid hX
        have HE := Lib.hid (show entryT T x = some (T.items.getD j noTy) by
          unfold entryT
          rw [idx_first x T.names j hlt e HNE.out, if_pos (by omega)]
          rfl)
        have heq : ((T.names.getD j ByteArray.empty).toList == x.toList) = true := (Lib.bytes_beq_iff _ _).2 e
        clear e hX hK2
        generalize T.items.getD j noTy = X at *
        generalize T.names.getD j ByteArray.empty = nm at *
        have ql := lt_of_cell q0
        go_wp2_with fail
        refine bodyPost_ret (v := .tuple #[.agg #[.int .i64 X.kind, .slice va X.items.length vc, .slice ua X.names.length uc], .bool true]) (by simp [results, Try.results29, go_sem, *]) rfl (Or.inr ⟨X, _, _, HE.out, rfl, HX.out.keep (kept_trans HK.out (kept_set (kept_set (kept_set HK2.out (by simp) _) (by simp) _) (by simp) _)), ?_⟩)
        (repeat (first | with_reducible assumption | with_reducible exact bl_refl _ | with_reducible refine bl_alloc ?_ _ | with_reducible refine bl_set ?_ (by first | (simp; done) | (simp; omega)) _ | with_reducible refine bl_drew ?_ | with_reducible refine bl_drewN ?_ _ | with_reducible refine bl_trans ?_ (by assumption)))
      · have HE := Lib.hid e
        have heq : ((T.names.getD j ByteArray.empty).toList == x.toList) = false := (Lib.bytes_beq_false_iff _ _).2 e
        have HK2 := Lib.hid hK2
        clear e hK2
        generalize hnm : T.names.getD j ByteArray.empty = nm at *
        have HNM := Lib.hid hnm
        clear hnm
        go_wp2_with fail
        go_roundw
        case rel =>
          refine ⟨j + 1, by omega, by go_num, fun q hq => ?_, HK2.out, hbr, c0, c1, c2, r0, r1, r2, f0, f1, f2⟩
          by_cases c : q = j
          · subst c
            rw [HNM.out]; exact HE.out
          · exact HNE.out q (by omega)
        case measure => simp [intOf]; omega
    · have HE := Lib.hid (show entryT T x = none by
        have q := Lib.idxOfS_miss T.names T.names.length x (fun i hi => HNE.out i (by omega))
        rw [List.take_length] at q
        unfold entryT
        rw [q, if_neg (by omega)])
      clear hK2
      go_wp2_with fail
      refine bodyPost_ret (v := .tuple #[.agg #[.int .i64 0, .slice none 0 0, .slice none 0 0], .bool false]) (by simp [results, Try.results29, go_sem, *]) rfl (Or.inl ⟨HE.out, rfl, ?_⟩)
      (repeat (first | with_reducible assumption | with_reducible exact bl_refl _ | with_reducible refine bl_alloc ?_ _ | with_reducible refine bl_set ?_ (by first | (simp; done) | (simp; omega)) _ | with_reducible refine bl_drew ?_ | with_reducible refine bl_drewN ?_ _ | with_reducible refine bl_trans ?_ (by assumption)))

end Go.Proofs.Ytnkecbpocgcdfaa
