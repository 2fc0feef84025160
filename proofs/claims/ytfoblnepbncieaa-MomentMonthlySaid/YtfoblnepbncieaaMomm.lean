/-
  MomentMonthly: for every input it returns true.
-/
import Derived.Test.YtfoblnepbncieaaMoml
namespace Go.Proofs.Ytfoblnepbncieaa
open Go.ChangeShapes Go.WideShapes Go.ChangeAt Go.RowKit

def GivesMB (A B : Value) (n : Int) : Prop :=
  ∀ w, Calls Try.prog 58 #[A, B] w fun e w' => e = .returned (.tuple #[.int .i64 n, .bool true]) ∧ Below w.heap.size w w'
def GivesCmp (A B : Value) (n : Int) (b : Bool) : Prop :=
  ∀ w, Calls Try.prog 56 #[A, B] w fun e w' => e = .returned (.tuple #[.int .i64 n, .bool b]) ∧ Below w.heap.size w w'
def GivesMo (A : Value) (n : Int) (V : Value) (b : Bool) : Prop :=
  ∀ w, Calls Try.prog 57 #[A, .int .i64 n] w fun e w' => e = .returned (.tuple #[V, .bool b]) ∧ Below w.heap.size w w'

theorem moment_between_first (y m d s : Int) (z : Bool) (o v u f t : Int) (x : Bool) (p : Int) (h : mayM y m d s z o = false) (g : mayM v u f t x p = true) (w : World) :
    Calls Try.prog 55 #[.agg #[.int .i64 y, .int .i64 m, .int .i64 d, .int .i64 s, .bool z, .int .i64 o], .agg #[.int .i64 v, .int .i64 u, .int .i64 f, .int .i64 t, .bool x, .int .i64 p]] w fun e w' =>
      e = .returned (.tuple #[.int .i64 0, .bool false]) ∧ Below w.heap.size w w' := by
  have HI := Lib.hid (moment_instant_no y m d s z o h)
  have HJ := Lib.hid (moment_instant_yes v u f t x p g)
  clear h g
  generalize ins v u f t p = j at *
  have z1 : w.heap.size < w.heap.size + 1 + 1 := by omega
  go_enter Try.func55, Try.ntmps55
  go_wp2_with fail
  refine (HI.out _).mono ?_
  rintro e w1 ⟨rfl, hb1⟩
  obtain ⟨b0, b1, b2, b3, b4, b5, bl⟩ := keepc6 (b := w.heap.size + 1) (c0 := .int .i64 v) (c1 := .int .i64 u) (c2 := .int .i64 f) (c3 := .int .i64 t) (c4 := .bool x) (c5 := .int .i64 p) hb1 (by simp [go_sem, *]) (by simp [go_sem, *]) (by simp [go_sem, *]) (by simp [go_sem, *]) (by simp [go_sem, *]) (by simp [go_sem, *])
  have hbx : Below w.heap.size w w1 := by (repeat (first | with_reducible assumption | with_reducible exact bl_refl _ | with_reducible refine bl_alloc ?_ _ | with_reducible refine bl_set ?_ (by first | (simp; done) | (simp; omega)) _ | with_reducible refine bl_drew ?_ | with_reducible refine bl_drewN ?_ _ | with_reducible refine bl_trans ?_ (by assumption)))
  clear hb1
  go_wp2_with fail
  refine (HJ.out _).mono ?_
  rintro e w2 ⟨rfl, hb2⟩
  go_wp2_with fail
  go_ret2
  refine ⟨rfl, ?_⟩
  (repeat (first | with_reducible assumption | with_reducible exact bl_refl _ | with_reducible refine bl_alloc ?_ _ | with_reducible refine bl_set ?_ (by simp) _ | with_reducible refine bl_drew ?_ | with_reducible refine bl_drewN ?_ _ | with_reducible refine bl_trans ?_ (by assumption)))

theorem cmp_of (y m d s v u f t : Int) (z : Bool) (o : Int) (h : mayM y m d s z o = true) (g : mayM v u f t z o = true) :
    GivesCmp (.agg #[.int .i64 y, .int .i64 m, .int .i64 d, .int .i64 s, .bool z, .int .i64 o]) (.agg #[.int .i64 v, .int .i64 u, .int .i64 f, .int .i64 t, .bool z, .int .i64 o]) (sgnI (ins v u f t o - ins y m d s o)) true := by
  intro w
  have := moment_cmp_gen _ _ y m d s z o v u f t z o _ true rfl rfl (moment_between_yes y m d s z o v u f t o h g) w
  rwa [if_pos rfl] at this

theorem cmp_none (v u f t : Int) (z : Bool) (o : Int) (g : mayM v u f t z o = true) :
    GivesCmp (.agg #[.int .i64 0, .int .i64 0, .int .i64 0, .int .i64 0, .bool false, .int .i64 0]) (.agg #[.int .i64 v, .int .i64 u, .int .i64 f, .int .i64 t, .bool z, .int .i64 o]) 0 false := by
  intro w
  have := moment_cmp_gen _ _ 0 0 0 0 false 0 v u f t z o 0 false rfl rfl (moment_between_first 0 0 0 0 false 0 v u f t z o (by decide) g) w
  rwa [if_neg (by simp)] at this

theorem sgnI_pos (n : Int) (h : 0 < n) : sgnI n = -1 := by unfold sgnI; rw [if_pos h]
theorem sgnI_neg (n : Int) (h : n < 0) : sgnI n = 1 := by unfold sgnI; rw [if_neg (by omega), if_pos h]
theorem sgnI_le (n : Int) (h : 0 ≤ n) : sgnI n ≤ 0 := by
  unfold sgnI
  by_cases c : 0 < n
  · rw [if_pos c]; omega
  · rw [if_neg c, if_neg (by omega)]; omega

theorem mo_of (y m d s : Int) (z : Bool) (o n : Int) (h : mayM y m d s z o = true) (n1 : -9007199254740992 ≤ n) (n2 : n ≤ 9007199254740992) (hD : moD y m d n = d) :
    (mayM (moY y m n) (moM y m n) d s z o = true ∧ GivesMo (.agg #[.int .i64 y, .int .i64 m, .int .i64 d, .int .i64 s, .bool z, .int .i64 o]) n (.agg #[.int .i64 (moY y m n), .int .i64 (moM y m n), .int .i64 d, .int .i64 s, .bool z, .int .i64 o]) true) ∨
    (mayM (moY y m n) (moM y m n) d s z o = false ∧ GivesMo (.agg #[.int .i64 y, .int .i64 m, .int .i64 d, .int .i64 s, .bool z, .int .i64 o]) n (.agg #[.int .i64 0, .int .i64 0, .int .i64 0, .int .i64 0, .bool false, .int .i64 0]) false) := by
  obtain ⟨h1, h2⟩ := (mayM_iff _ _ _ _ _ _).1 h
  have q := fun b hb => moment_months_gen y m d s z o n h2 b (moY y m n) (moM y m n) d (fun w => by
    have := civil_months_yes y m d n h1 n1 n2 b hb w
    rwa [hD] at this)
  rw [hD] at q
  cases c : Civ.may (moY y m n) (moM y m n) d
  · refine Or.inr ⟨by simp [mayM, c], fun w => ?_⟩
    have := q false c w
    rwa [if_neg (by simp)] at this
  · refine Or.inl ⟨by simp [mayM, c, h2], fun w => ?_⟩
    have := q true c w
    rwa [if_pos rfl] at this

/-- what the calls of MomentMonthly give, at two moments of one offset -/
theorem monthly_cases (y m d s v u f t : Int) (z : Bool) (o : Int) (h : mayM y m d s z o = true) (g : mayM v u f t z o = true) :
    (∃ k : Int, 0 ≤ k ∧ k ≤ 100000000000 ∧ GivesMB (.agg #[.int .i64 y, .int .i64 m, .int .i64 d, .int .i64 s, .bool z, .int .i64 o]) (.agg #[.int .i64 v, .int .i64 u, .int .i64 f, .int .i64 t, .bool z, .int .i64 o]) (-k) ∧ GivesMB (.agg #[.int .i64 v, .int .i64 u, .int .i64 f, .int .i64 t, .bool z, .int .i64 o]) (.agg #[.int .i64 y, .int .i64 m, .int .i64 d, .int .i64 s, .bool z, .int .i64 o]) k ∧
      GivesCmp (.agg #[.int .i64 y, .int .i64 m, .int .i64 d, .int .i64 s, .bool z, .int .i64 o]) (.agg #[.int .i64 v, .int .i64 u, .int .i64 f, .int .i64 t, .bool z, .int .i64 o]) 1 true) ∨
    ∃ k c : Int, 0 ≤ k ∧ k ≤ 100000000000 ∧ c ≤ 0 ∧ GivesMB (.agg #[.int .i64 y, .int .i64 m, .int .i64 d, .int .i64 s, .bool z, .int .i64 o]) (.agg #[.int .i64 v, .int .i64 u, .int .i64 f, .int .i64 t, .bool z, .int .i64 o]) k ∧ GivesMB (.agg #[.int .i64 v, .int .i64 u, .int .i64 f, .int .i64 t, .bool z, .int .i64 o]) (.agg #[.int .i64 y, .int .i64 m, .int .i64 d, .int .i64 s, .bool z, .int .i64 o]) (-k) ∧
      GivesCmp (.agg #[.int .i64 y, .int .i64 m, .int .i64 d, .int .i64 s, .bool z, .int .i64 o]) (.agg #[.int .i64 v, .int .i64 u, .int .i64 f, .int .i64 t, .bool z, .int .i64 o]) c true ∧
      (28 < d ∨ d ≤ 28 ∧ ∃ Y M i : Int, i ≤ 0 ∧ GivesMo (.agg #[.int .i64 y, .int .i64 m, .int .i64 d, .int .i64 s, .bool z, .int .i64 o]) k (.agg #[.int .i64 Y, .int .i64 M, .int .i64 d, .int .i64 s, .bool z, .int .i64 o]) true ∧ GivesCmp (.agg #[.int .i64 Y, .int .i64 M, .int .i64 d, .int .i64 s, .bool z, .int .i64 o]) (.agg #[.int .i64 v, .int .i64 u, .int .i64 f, .int .i64 t, .bool z, .int .i64 o]) i true ∧
        (GivesMo (.agg #[.int .i64 y, .int .i64 m, .int .i64 d, .int .i64 s, .bool z, .int .i64 o]) (k + 1) (.agg #[.int .i64 0, .int .i64 0, .int .i64 0, .int .i64 0, .bool false, .int .i64 0]) false ∧ GivesCmp (.agg #[.int .i64 0, .int .i64 0, .int .i64 0, .int .i64 0, .bool false, .int .i64 0]) (.agg #[.int .i64 v, .int .i64 u, .int .i64 f, .int .i64 t, .bool z, .int .i64 o]) 0 false ∨
          ∃ V U : Int, GivesMo (.agg #[.int .i64 y, .int .i64 m, .int .i64 d, .int .i64 s, .bool z, .int .i64 o]) (k + 1) (.agg #[.int .i64 V, .int .i64 U, .int .i64 d, .int .i64 s, .bool z, .int .i64 o]) true ∧ GivesCmp (.agg #[.int .i64 V, .int .i64 U, .int .i64 d, .int .i64 s, .bool z, .int .i64 o]) (.agg #[.int .i64 v, .int .i64 u, .int .i64 f, .int .i64 t, .bool z, .int .i64 o]) 1 true)) := by
  by_cases c : ins v u f t o < ins y m d s o
  · left
    obtain ⟨k1, k2⟩ := mb_pos v u f t y m d s z o g h (by omega)
    refine ⟨mkB v u f t y m d s, k1, k2, moment_mb_down y m d s z o v u f t h g c, moment_mb_up v u f t z o y m d s g h (by omega), ?_⟩
    have := cmp_of y m d s v u f t z o h g
    rwa [sgnI_neg _ (by omega)] at this
  · right
    obtain ⟨k1, k2⟩ := mb_pos y m d s v u f t z o h g (by omega)
    refine ⟨mkB y m d s v u f t, _, k1, k2, sgnI_le _ (by omega), moment_mb_up y m d s z o v u f t h g (by omega), ?_, cmp_of y m d s v u f t z o h g, ?_⟩
    · by_cases e : ins y m d s o = ins v u f t o
      · have := moment_mb_up v u f t z o y m d s g h (by omega)
        rw [mb_same y m d s v u f t z o h g e] at this
        exact this
      · exact moment_mb_down v u f t z o y m d s g h (by omega)
    · by_cases q : d ≤ 28
      · right
        obtain ⟨⟨p1, p2, p3⟩, r1, r2⟩ := monthly y m d s v u f t z o h g (by omega) q
        refine ⟨q, moY y m (mkB y m d s v u f t), moM y m (mkB y m d s v u f t), sgnI (ins v u f t o - ins (moY y m (mkB y m d s v u f t)) (moM y m (mkB y m d s v u f t)) d s o), sgnI_le _ (by omega), ?_, cmp_of _ _ _ _ _ _ _ _ _ _ p1 g, ?_⟩
        · rcases mo_of y m d s z o (mkB y m d s v u f t) h (by omega) (by omega) p2 with ⟨_, a⟩ | ⟨a, _⟩
          · exact a
          · rw [p1] at a; exact absurd a (by simp)
        · rcases mo_of y m d s z o (mkB y m d s v u f t + 1) h (by omega) (by omega) r1 with ⟨a, b⟩ | ⟨_, b⟩
          · right
            have q3 := r2 a
            have := cmp_of _ _ _ _ v u f t z o a g
            rw [sgnI_neg _ (by omega)] at this
            exact ⟨_, _, b, this⟩
          · left
            exact ⟨b, cmp_none v u f t z o g⟩
      · left; omega

end Go.Proofs.Ytfoblnepbncieaa
