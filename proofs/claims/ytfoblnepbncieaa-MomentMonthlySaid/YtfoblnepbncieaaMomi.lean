/-
  Moments of instants, and later ones, of whatever moment and number.
-/
import Derived.Test.YtfoblnepbncieaaMomf
namespace Go.Proofs.Ytfoblnepbncieaa
open Go.ChangeShapes Go.WideShapes Go.ChangeAt Go.RowKit

theorem of_good (N s : Int) (z : Bool) (o : Int) (h : numB N = true) (g : mayC s z o = true) :
    mayM (Civ.ofY N) (Civ.ofM N) (Civ.ofD N) s z o = true ∧ ins (Civ.ofY N) (Civ.ofM N) (Civ.ofD N) s o = 86400 * N + s - o := by
  obtain ⟨_, _, _, _, e⟩ := Civ.of_spec N
  refine ⟨(mayM_iff _ _ _ _ _ _).2 ⟨(of_may_b N).trans h, g⟩, ?_⟩
  unfold ins; rw [e]

theorem mayC_sec (s t : Int) (z : Bool) (o : Int) (g : mayC s z o = true) (h1 : 0 ≤ t) (h2 : t < 86400) : mayC t z o = true := by
  obtain ⟨_, _, g3, g4, g5⟩ := (mayC_iff s z o).1 g
  exact (mayC_iff t z o).2 ⟨h1, h2, g3, g4, g5⟩

/-- a number of the days of the years up to 900 million -/
theorem num_near (y m d : Int) (h : Civ.may y m d = true) (y1 : -900000000 ≤ y) (y2 : y ≤ 900000000) : -330000000000 ≤ Civ.num y m d ∧ Civ.num y m d ≤ 330000000000 := by
  obtain ⟨_, _, d1, d2⟩ := (may_iff y m d).1 h
  obtain ⟨_, _, a, b, _⟩ := Civ.num_bounds y m d d1 d2
  unfold Civ.yr at a b
  omega

theorem later_cases (y m d s : Int) (z : Bool) (o n : Int) (h : mayM y m d s z o = true) :
    ((n < -9007199254740992 ∨ n > 9007199254740992 ∨ y > 900000000 ∨ y < -900000000 ∨ n > 1125899906842624 ∨ n < -1125899906842624) ∧
      ∀ w, Calls Try.prog 54 #[.agg #[.int .i64 y, .int .i64 m, .int .i64 d, .int .i64 s, .bool z, .int .i64 o], .int .i64 n] w fun e w' => e = .returned (.tuple #[.agg #[.int .i64 0, .int .i64 0, .int .i64 0, .int .i64 0, .bool false, .int .i64 0], .bool false]) ∧ Below w.heap.size w w') ∨
    ∃ Y M D S : Int, -9007199254740992 ≤ n ∧ n ≤ 9007199254740992 ∧ mayM Y M D S z o = true ∧ ins Y M D S o = ins y m d s o + n ∧
      ∀ w, Calls Try.prog 54 #[.agg #[.int .i64 y, .int .i64 m, .int .i64 d, .int .i64 s, .bool z, .int .i64 o], .int .i64 n] w fun e w' => e = .returned (.tuple #[.agg #[.int .i64 Y, .int .i64 M, .int .i64 D, .int .i64 S, .bool z, .int .i64 o], .bool true]) ∧ Below w.heap.size w w' := by
  obtain ⟨h1, h2⟩ := (mayM_iff y m d s z o).1 h
  obtain ⟨s1, s2, o1, o2, _⟩ := (mayC_iff s z o).1 h2
  by_cases c : -9007199254740992 ≤ n ∧ n ≤ 9007199254740992
  · obtain ⟨c1, c2⟩ := c
    cases hb : numB ((ins y m d s o + n + o) / 86400)
    · left
      refine ⟨?_, fun w => ?_⟩
      · by_cases c : -900000000 ≤ y ∧ y ≤ 900000000
        · obtain ⟨n1, n2⟩ := num_near y m d h1 c.1 c.2
          rw [numB_range] at hb
          simp at hb
          unfold ins at hb
          omega
        · omega
      · have := moment_later_yes y m d s z o n h c1 c2 false hb w
        rwa [if_neg (by simp)] at this
    · right
      obtain ⟨a, b⟩ := of_good _ ((ins y m d s o + n + o) % 86400) z o hb (mayC_sec s _ z o h2 (by omega) (by omega))
      refine ⟨_, _, _, _, c1, c2, a, ?_, fun w => ?_⟩
      · rw [b]; omega
      · have := moment_later_yes y m d s z o n h c1 c2 true hb w
        rwa [if_pos rfl] at this
  · left
    refine ⟨by omega, fun w => moment_later_no y m d s z o n (Or.inr (by omega)) w⟩

/-- back by as many -/
theorem later_back (y m d s : Int) (z : Bool) (o Y M D S n : Int) (h : mayM y m d s z o = true) (g : mayM Y M D S z o = true) (e : ins Y M D S o = ins y m d s o + n)
    (n1 : -9007199254740992 ≤ n) (n2 : n ≤ 9007199254740992) (w : World) :
    Calls Try.prog 54 #[.agg #[.int .i64 Y, .int .i64 M, .int .i64 D, .int .i64 S, .bool z, .int .i64 o], .int .i64 (-n)] w fun e w' => e = .returned (.tuple #[.agg #[.int .i64 y, .int .i64 m, .int .i64 d, .int .i64 s, .bool z, .int .i64 o], .bool true]) ∧ Below w.heap.size w w' := by
  obtain ⟨h1, h2⟩ := (mayM_iff y m d s z o).1 h
  obtain ⟨s1, s2, o1, o2, _⟩ := (mayC_iff s z o).1 h2
  have e1 : (ins Y M D S o + -n + o) / 86400 = Civ.num y m d := by rw [e]; unfold ins; omega
  have e2 : (ins Y M D S o + -n + o) % 86400 = s := by rw [e]; unfold ins; omega
  obtain ⟨q1, q2, q3⟩ := of_of_num y m d h1
  have := moment_later_yes Y M D S z o (-n) g (by omega) (by omega) true (by rw [e1]; exact numB_num y m d h1) w
  rw [if_pos rfl, e1, e2, q1, q2, q3] at this
  exact this

theorem later_zero (y m d s : Int) (z : Bool) (o : Int) (b : Bool) (h : mayM y m d s z o = b) (w : World) :
    Calls Try.prog 54 #[.agg #[.int .i64 y, .int .i64 m, .int .i64 d, .int .i64 s, .bool z, .int .i64 o], .int .i64 0] w fun e w' => e = .returned (.tuple #[if b then .agg #[.int .i64 y, .int .i64 m, .int .i64 d, .int .i64 s, .bool z, .int .i64 o] else .agg #[.int .i64 0, .int .i64 0, .int .i64 0, .int .i64 0, .bool false, .int .i64 0], .bool b]) ∧ Below w.heap.size w w' := by
  cases b
  · have := moment_later_no y m d s z o 0 (Or.inl h) w
    rwa [if_neg (by simp)]
  · have := later_back y m d s z o y m d s 0 h h (by omega) (by omega) (by omega) w
    rwa [if_pos rfl]

end Go.Proofs.Ytfoblnepbncieaa
