/-
  The contracts of runes.Letter, Digit, Space, Length, at.
-/
import Derived.Test.YtnamnldijopkfaaDoorTp
namespace Go.Proofs.YtnamnldijopkfaaDoor
open Go.ChangeShapes Go.WideShapes Go.ChangeAt Go.RowKit Go.Joins

def letterB (r : Int) : Bool := decide ((97 ≤ r ∧ r ≤ 122) ∨ (65 ≤ r ∧ r ≤ 90) ∨ r = 95 ∨ 128 ≤ r)
def digitB (r : Int) : Bool := decide (48 ≤ r ∧ r ≤ 57)
def spaceB (r : Int) : Bool := decide (r = 32 ∨ r = 9 ∨ r = 10 ∨ r = 13)

theorem letter_k (r : Int) (w : World) : Calls Tryd.prog 20 #[.int .i32 r] w fun e w' => e = .returned (.bool (letterB r)) ∧ w = w' := by
  go_enter Tryd.func20, Tryd.ntmps20
  go_wp2
  all_goals
    go_ret
    refine ⟨ret_bool ?_, rfl⟩
    (try simp only [beq_iff_eq, beq_eq_false_iff_ne] at *)
    simp only [letterB]
    first | exact (decide_eq_true (by omega)).symm | exact (decide_eq_false (by omega)).symm | (rw [Bool.eq_iff_iff]; simp; done) | (rw [Bool.eq_iff_iff]; simp; omega)

theorem digit_k (r : Int) (w : World) : Calls Tryd.prog 21 #[.int .i32 r] w fun e w' => e = .returned (.bool (digitB r)) ∧ w = w' := by
  go_enter Tryd.func21, Tryd.ntmps21
  go_wp2
  all_goals
    go_ret
    refine ⟨ret_bool ?_, rfl⟩
    (try simp only [beq_iff_eq, beq_eq_false_iff_ne] at *)
    simp only [digitB]
    first | exact (decide_eq_true (by omega)).symm | exact (decide_eq_false (by omega)).symm | (rw [Bool.eq_iff_iff]; simp; done) | (rw [Bool.eq_iff_iff]; simp; omega)

theorem space_k (r : Int) (w : World) : Calls Tryd.prog 22 #[.int .i32 r] w fun e w' => e = .returned (.bool (spaceB r)) ∧ w = w' := by
  go_enter Tryd.func22, Tryd.ntmps22
  go_wp2
  all_goals
    go_ret
    refine ⟨ret_bool ?_, rfl⟩
    (try simp only [beq_iff_eq, beq_eq_false_iff_ne] at *)
    simp only [spaceB]
    first | exact (decide_eq_true (by omega)).symm | exact (decide_eq_false (by omega)).symm | (rw [Bool.eq_iff_iff]; simp; done) | (rw [Bool.eq_iff_iff]; simp; omega)

theorem rns_len (l : List UInt8) : (rns l).length ≤ l.length := by
  suffices H : ∀ (n : Nat) (l : List UInt8), l.length ≤ n → (rns l).length ≤ l.length from H _ l (Nat.le_refl _)
  intro n
  induction n with
  | zero => intro l h; rw [List.eq_nil_of_length_eq_zero (by omega : l.length = 0), rns_nil]; simp
  | succ n ih =>
    intro l h
    by_cases e : l = []
    · subst e; simp [rns_nil]
    · rw [rns_cons l e]
      have h1 := dec_ge1 l
      have h2 := List.length_pos_iff.2 e
      have h3 := ih (l.drop (Lib.decodeL l).2) (by rw [List.length_drop]; omega)
      rw [List.length_drop] at h3
      rw [List.length_cons]
      omega

/-- a place in a text: what a range over it meets there -/
theorem range_step (l : List UInt8) (pos : Nat) (hp : pos < (strOfL l).size) :
    l.drop pos ≠ [] ∧ Utf8.decode (strOfL l) pos = Lib.decodeL (l.drop pos) ∧ rns (l.drop pos) = (Lib.decodeL (l.drop pos)).1 :: rns (l.drop (pos + (Lib.decodeL (l.drop pos)).2)) ∧
      1 ≤ (Lib.decodeL (l.drop pos)).2 ∧ pos + (Lib.decodeL (l.drop pos)).2 ≤ l.length ∧ okR (Lib.decodeL (l.drop pos)).1 := by
  rw [strOfL_size] at hp
  have hne : l.drop pos ≠ [] := by
    intro e
    have := congrArg List.length e
    rw [List.length_drop, List.length_nil] at this
    omega
  have h1 := Lib.decodeL_drop (strOfL l) pos
  rw [strOfL_list] at h1
  have h2 := Lib.decodeL_le (l.drop pos) hne
  rw [List.length_drop] at h2
  refine ⟨hne, h1.symm, ?_, dec_ge1 _, by omega, dec_ok _⟩
  rw [rns_cons _ hne, List.drop_drop]

set_option maxHeartbeats 1000000 in
theorem length_k (l : List UInt8) (w : World) (hl : l.length ≤ 1073741824) : Calls Tryd.prog 18 #[.string (strOfL l)] w fun e w' => e = .returned (.int .i64 (rns l).length) ∧ Below w.heap.size w w' := by
  go_enter Tryd.func18, Tryd.ntmps18
  go_wp2_with fail
  generalize hK : w.heap.size = K at *
  go_loopw [3] (fun o wr => ∃ (pos c : Nat), o = .int .i64 c ∧ wr.heap[K]? = some (.stringIter (strOfL l) pos) ∧ Below w.heap.size w wr ∧ c + (rns (l.drop pos)).length = (rns l).length ∧ pos ≤ l.length ∧ c ≤ pos) (fun _ wr => (strOfL l).size - wr.iterPos K)
  case atStart =>
    refine ⟨0, 0, rfl, ?_, bl_alloc (bl_refl w) _, by simp, Nat.zero_le _, Nat.le_refl _⟩
    have := World.iter_heap w (strOfL l) 0
    rw [hK] at this
    exact this
  case round =>
    obtain ⟨pos, c, rfl, hit, hbw, hacc, hpl, hcp⟩ := hrel
    have hszk : K < wr.heap.size := (Array.getElem?_eq_some_iff.1 hit).1
    by_cases hp : pos < (strOfL l).size
    · have hnx : ∀ ty, (Instr.next (.pointer (some ⟨K, 0, none⟩)) true ty).run Tryd.prog wr = _ := fun ty => Lib.run_next_any_at wr K (strOfL l) pos ty hit hp
      obtain ⟨hne, hde, hrn, hw1, hw2, hok⟩ := range_step l pos hp
      have hit2 := Lib.iterAt_heap wr K (strOfL l) pos (pos + (Utf8.decode (strOfL l) pos).2) hit
      have hbw2 := Lib.below_iterAt hbw (k := K) (by omega) (strOfL l) (pos + (Utf8.decode (strOfL l) pos).2)
      rw [hde] at hnx hit2 hbw2
      rw [hrn, List.length_cons] at hacc
      generalize (Lib.decodeL (l.drop pos)).1 = r at *
      generalize (Lib.decodeL (l.drop pos)).2 = wd at *
      have HA := Lib.hid hacc
      clear hde hrn hne hacc
      go_wp2_with fail
      go_roundw
      case rel =>
        exact ⟨pos + wd, c + 1, by go_num, hit2, hbw2, by have := HA.out; omega, hw2, by omega⟩
      case measure =>
        simp only [World.iterPos, hit2, hit]
        omega
    · have hnx : ∀ ty, (Instr.next (.pointer (some ⟨K, 0, none⟩)) true ty).run Tryd.prog wr = _ := fun ty => Lib.run_next_end_at wr K (strOfL l) pos ty hit hp
      have hz : l.drop pos = [] := by
        rw [strOfL_size] at hp
        exact List.drop_eq_nil_of_le (by omega)
      rw [hz] at hacc
      have HA := Lib.hid (show c = (rns l).length by simpa [rns_nil] using hacc)
      clear hacc hz
      go_wp2_with fail
      go_ret
      exact ⟨by rw [← HA.out]; rfl, hbw⟩

set_option maxHeartbeats 1000000 in
theorem at_k (l : List UInt8) (k : Nat) (w : World) (hl : l.length ≤ 1073741824) (hk : k ≤ 9223372036854775807) : Calls Tryd.prog 60 #[.string (strOfL l), .int .i64 k] w fun e w' => e = .returned (.int .i64 (off k l)) ∧ Below w.heap.size w w' := by
  go_enter Tryd.func60, Tryd.ntmps60
  go_wp2_with fail
  generalize hK : w.heap.size = K at *
  go_loopw [5] (fun o wr => ∃ (pos c : Nat), o = .int .i64 c ∧ wr.heap[K]? = some (.stringIter (strOfL l) pos) ∧ Below w.heap.size w wr ∧ c ≤ k ∧ pos + off (k - c) (l.drop pos) = off k l ∧ pos ≤ l.length ∧ c ≤ pos) (fun _ wr => (strOfL l).size - wr.iterPos K)
  case atStart =>
    refine ⟨0, 0, rfl, ?_, bl_alloc (bl_refl w) _, Nat.zero_le _, by simp, Nat.zero_le _, Nat.le_refl _⟩
    have := World.iter_heap w (strOfL l) 0
    rw [hK] at this
    exact this
  case round =>
    obtain ⟨pos, c, rfl, hit, hbw, hck, hacc, hpl, hcp⟩ := hrel
    have hszk : K < wr.heap.size := (Array.getElem?_eq_some_iff.1 hit).1
    by_cases hp : pos < (strOfL l).size
    · have hnx : ∀ ty, (Instr.next (.pointer (some ⟨K, 0, none⟩)) true ty).run Tryd.prog wr = _ := fun ty => Lib.run_next_any_at wr K (strOfL l) pos ty hit hp
      obtain ⟨hne, hde, hrn, hw1, hw2, hok⟩ := range_step l pos hp
      have hit2 := Lib.iterAt_heap wr K (strOfL l) pos (pos + (Utf8.decode (strOfL l) pos).2) hit
      have hbw2 := Lib.below_iterAt hbw (k := K) (by omega) (strOfL l) (pos + (Utf8.decode (strOfL l) pos).2)
      rw [hde] at hnx hit2 hbw2
      by_cases e : c = k
      · have HA := Lib.hid (show pos = off k l by rw [← hacc, e, Nat.sub_self, off, Nat.add_zero])
        have he : (c : Int) = (k : Int) := by omega
        clear hacc hde hrn hne e
        go_wp2_with fail
        go_ret
        exact ⟨by rw [← HA.out]; rfl, hbw2⟩
      · have hne2 : ¬ (c : Int) = (k : Int) := by omega
        have HA : pos + (Lib.decodeL (l.drop pos)).2 + off (k - (c + 1)) (l.drop (pos + (Lib.decodeL (l.drop pos)).2)) = off k l := by
          obtain ⟨m, hm⟩ : ∃ m, k - c = m + 1 := ⟨k - c - 1, by omega⟩
          rw [← hacc, hm, off, if_neg hne, List.drop_drop, show k - (c + 1) = m by omega]
          omega
        have HA := Lib.hid HA
        clear hde hrn hacc e
        generalize (Lib.decodeL (l.drop pos)).1 = r at *
        generalize (Lib.decodeL (l.drop pos)).2 = wd at *
        clear hne
        go_wp2_with fail
        go_roundw
        case rel =>
          exact ⟨pos + wd, c + 1, by go_num, hit2, hbw2, by omega, HA.out, hw2, by omega⟩
        case measure =>
          simp only [World.iterPos, hit2, hit]
          omega
    · have hnx : ∀ ty, (Instr.next (.pointer (some ⟨K, 0, none⟩)) true ty).run Tryd.prog wr = _ := fun ty => Lib.run_next_end_at wr K (strOfL l) pos ty hit hp
      have hz : l.drop pos = [] := by
        rw [strOfL_size] at hp
        exact List.drop_eq_nil_of_le (by omega)
      have hsz := strOfL_size l
      have HA := Lib.hid (show (strOfL l).size = off k l by
        rw [hz] at hacc
        have : ∀ j, off j [] = 0 := fun j => by cases j <;> simp [off]
        rw [this] at hacc
        rw [hsz] at hp ⊢
        omega)
      clear hacc hz hsz
      go_wp2_with fail
      go_ret
      exact ⟨by rw [← HA.out]; rfl, hbw⟩

end Go.Proofs.YtnamnldijopkfaaDoor
