/-
  The contracts of the small functions: where a name stands, which kinds are simple.
-/
import Derived.Test.YtnkecbpocgcdfaaKb
import Derived.Lib.SlicesS
namespace Go.Proofs.Ytnkecbpocgcdfaa
open Go.ChangeShapes Go.WideShapes Go.ChangeAt Go.RowKit Go.Joins

theorem index_row (b o c : Nat) (ns : List ByteArray) (x : ByteArray) (w : World) (hn : ns.length ≤ 9223372036854775807) (hc : ∀ j (h : j < ns.length), w.cell? ⟨b, o + j, none⟩ = some (.string ns[j])) :
    Calls Try.prog 42 #[.slice (some ⟨b, o, none⟩) ns.length c, .string x] w fun e w' => e = .returned (.int .i64 (Lib.idxOfS ns x)) ∧ w = w' := by
  go_enter Try.func42, Try.ntmps42
  go_wp2
  go_loop [5, 8] (fun _ i => ∃ k : Nat, k ≤ ns.length ∧ i = .int .i64 k ∧ ∀ j, j < k → ns.getD j ByteArray.empty ≠ x) (fun _ i => ns.length - (intOf i).toNat)
  case atStart => exact ⟨0, Nat.zero_le _, rfl, fun j hj => absurd hj (Nat.not_lt_zero _)⟩
  case round =>
    obtain ⟨k, hk, rfl, hne⟩ := hrel
    have HNE := Lib.hid hne
    clear hne
    by_cases hlt : k < ns.length
    · have hcell := hc k hlt
      by_cases e : ns[k] = x
      · have heq : (x.toList == (ns[k]).toList) = true := (Lib.bytes_beq_iff _ _).2 e.symm
        have E := Lib.hid e
        clear e hc
        go_wp2
        go_ret
        have q := Lib.idxOfS_hit ns ns.length k x hlt (Nat.le_refl _) (by rw [List.getD, List.getElem?_eq_getElem hlt]; exact E.out) HNE.out
        rw [List.take_length] at q
        exact ⟨ret_int q.symm, rfl⟩
      · have heq : (x.toList == (ns[k]).toList) = false := (Lib.bytes_beq_false_iff _ _).2 (Ne.symm e)
        have E := Lib.hid e
        clear e hc
        go_wp2
        go_round
        case rel =>
          refine ⟨k + 1, by omega, by go_num, fun j hj => ?_⟩
          by_cases e : j = k
          · subst e
            rw [List.getD, List.getElem?_eq_getElem hlt]
            exact E.out
          · exact HNE.out j (by omega)
        case measure => simp [intOf]; omega
    · go_wp2
      go_ret
      have q := Lib.idxOfS_miss ns ns.length x (fun j hj => HNE.out j (by omega))
      rw [List.take_length] at q
      exact ⟨ret_int q.symm, rfl⟩

theorem index_none (a : Option Addr) (c : Nat) (x : ByteArray) (w : World) :
    Calls Try.prog 42 #[.slice a 0 c, .string x] w fun e w' => e = .returned (.int .i64 (Lib.idxOfS [] x)) ∧ w = w' := by
  go_enter Try.func42, Try.ntmps42
  go_wp2
  go_loop [5, 8] (fun _ i => i = .int .i64 0) (fun _ _ => 0)
  case atStart => rfl
  case round =>
    subst hrel
    go_wp2
    go_ret
    exact ⟨rfl, rfl⟩

theorem index_any (v : Value) (ns : List ByteArray) (x : ByteArray) (w : World) (h : StrRow w v ns) :
    Calls Try.prog 42 #[v, .string x] w fun e w' => e = .returned (.int .i64 (Lib.idxOfS ns x)) ∧ w = w' := by
  obtain ⟨a, c, rfl, h1, h2, h3⟩ := h.out
  cases ns with
  | nil => exact index_none a c x w
  | cons n ns =>
    obtain ⟨b, o, rfl, hc⟩ := h3 (by simp)
    exact index_row b o c (n :: ns) x w (by omega) hc

theorem contains_any (v : Value) (ns : List ByteArray) (x : ByteArray) (w : World) (h : StrRow w v ns) :
    Calls Try.prog 40 #[v, .string x] w fun e w' => e = .returned (.bool (decide (0 ≤ Lib.idxOfS ns x))) ∧ w = w' := by
  have H := Lib.hid (index_any v ns x w h)
  clear h
  go_enter Try.func40, Try.ntmps40
  go_wp2_with fail
  refine (H.out).mono ?_
  rintro e w' ⟨rfl, rfl⟩
  go_wp2_with fail
  go_ret
  exact ⟨rfl, rfl⟩

def simB (k : Int) : Bool := decide (1 ≤ k ∧ k ≤ 9 ∨ k = 14)

theorem simple_k (k : Int) (w : World) : Calls Try.prog 27 #[.int .i64 k] w fun e w' => e = .returned (.bool (simB k)) ∧ w = w' := by
  go_enter Try.func27, Try.ntmps27
  go_wp2
  all_goals
    go_ret
    refine ⟨ret_bool ?_, rfl⟩
    (try simp only [beq_iff_eq, beq_eq_false_iff_ne] at *)
    simp only [simB]
    first | exact (decide_eq_true (by omega)).symm | exact (decide_eq_false (by omega)).symm | (rw [Bool.eq_iff_iff]; simp; omega)

theorem simple_l (k : Int) (w : World) : Calls Try.prog 28 #[.int .i64 k] w fun e w' => e = .returned (.bool (simB k)) ∧ w = w' := by
  go_enter Try.func28, Try.ntmps28
  go_wp2
  all_goals
    go_ret
    refine ⟨ret_bool ?_, rfl⟩
    (try simp only [beq_iff_eq, beq_eq_false_iff_ne] at *)
    simp only [simB]
    first | exact (decide_eq_true (by omega)).symm | exact (decide_eq_false (by omega)).symm | (rw [Bool.eq_iff_iff]; simp; omega)

end Go.Proofs.Ytnkecbpocgcdfaa
