/-
  The plain law of MomentMonthly: so many months lead not beyond, one more does.
-/
import Derived.Test.YtfoblnepbncieaaMomi
namespace Go.Proofs.Ytfoblnepbncieaa
open Go.ChangeShapes Go.WideShapes Go.ChangeAt Go.RowKit

theorem ins_lt (y m d s v u f t : Int) (z : Bool) (o : Int) (h : mayM y m d s z o = true) (g : mayM v u f t z o = true) :
    ins y m d s o < ins v u f t o ↔ y < v ∨ y = v ∧ (m < u ∨ m = u ∧ (d < f ∨ d = f ∧ s < t)) := by
  obtain ⟨h1, h2⟩ := (mayM_iff _ _ _ _ _ _).1 h
  obtain ⟨g1, g2⟩ := (mayM_iff _ _ _ _ _ _).1 g
  obtain ⟨_, _, d1, d2⟩ := (may_iff _ _ _).1 h1
  obtain ⟨_, _, f1, f2⟩ := (may_iff _ _ _).1 g1
  obtain ⟨s1, s2, _⟩ := (mayC_iff _ _ _).1 h2
  obtain ⟨t1, t2, _⟩ := (mayC_iff _ _ _).1 g2
  have a := Civ.num_lt y m d v u f d1 d2 f1 f2
  have b := Civ.num_lt v u f y m d f1 f2 d1 d2
  have c := Civ.num_inj y m d v u f d1 d2 f1 f2
  unfold ins
  by_cases e : Civ.num y m d = Civ.num v u f
  · obtain ⟨rfl, rfl, rfl⟩ := c e
    omega
  · constructor
    · intro q
      have := a.1 (by omega)
      omega
    · intro q
      have : ¬ (Civ.num v u f < Civ.num y m d) := by
        intro r
        have := b.1 r
        omega
      omega

theorem mk_month (y m d s : Int) (z : Bool) (o : Int) (h : mayM y m d s z o = true) : -999999999 ≤ y ∧ y ≤ 999999999 ∧ 1 ≤ m ∧ m ≤ 12 ∧ 1 ≤ d ∧ d ≤ Civ.len y m := by
  obtain ⟨h1, _⟩ := (mayM_iff _ _ _ _ _ _).1 h
  obtain ⟨a, b, d1, d2⟩ := (may_iff _ _ _).1 h1
  obtain ⟨m1, m2, _⟩ := Civ.num_bounds y m d d1 d2
  exact ⟨a, b, m1, m2, d1, d2⟩

/-- the months between are none below 0, and turn with both -/
theorem mb_pos (y m d s v u f t : Int) (z : Bool) (o : Int) (h : mayM y m d s z o = true) (g : mayM v u f t z o = true) (hle : ins y m d s o ≤ ins v u f t o) :
    0 ≤ mkB y m d s v u f t ∧ mkB y m d s v u f t ≤ 100000000000 := by
  have a := ins_lt v u f t y m d s z o g h
  have b := mk_month _ _ _ _ _ _ h
  have c := mk_month _ _ _ _ _ _ g
  have q : ¬ (v < y ∨ v = y ∧ (u < m ∨ u = m ∧ (f < d ∨ f = d ∧ t < s))) := by
    intro r
    have := a.2 r
    omega
  unfold mkB lag
  by_cases e : f < d ∨ f = d ∧ t < s
  · rw [if_pos e]; omega
  · rw [if_neg e]; omega

theorem mb_same (y m d s v u f t : Int) (z : Bool) (o : Int) (h : mayM y m d s z o = true) (g : mayM v u f t z o = true) (he : ins y m d s o = ins v u f t o) :
    mkB v u f t y m d s = -mkB y m d s v u f t := by
  have a := ins_lt v u f t y m d s z o g h
  have b := ins_lt y m d s v u f t z o h g
  have e : y = v ∧ m = u ∧ d = f ∧ s = t := by
    have q1 : ¬ (v < y ∨ v = y ∧ (u < m ∨ u = m ∧ (f < d ∨ f = d ∧ t < s))) := by
      intro r
      have := a.2 r
      omega
    have q2 : ¬ (y < v ∨ y = v ∧ (m < u ∨ m = u ∧ (d < f ∨ d = f ∧ s < t))) := by
      intro r
      have := b.2 r
      omega
    omega
  obtain ⟨rfl, rfl, rfl, rfl⟩ := e
  unfold mkB lag
  rw [if_neg (by omega)]
  omega

theorem mo_first (y m d k : Int) (_ : 1 ≤ m) (_ : m ≤ 12) (d1 : 1 ≤ d) (h : d ≤ 28) : 1 ≤ moM y m k ∧ moM y m k ≤ 12 ∧ moD y m d k = d ∧ (Civ.may (moY y m k) (moM y m k) d = true ↔ -999999999 ≤ moY y m k ∧ moY y m k ≤ 999999999) := by
  have a : 1 ≤ moM y m k ∧ moM y m k ≤ 12 := by unfold moM moY; omega
  obtain ⟨l1, l2⟩ := Civ.len_pos (moY y m k) (moM y m k) a.1 a.2
  refine ⟨a.1, a.2, ?_, ?_⟩
  · unfold moD; exact Int.min_eq_left (by omega)
  · rw [may_iff]; omega

theorem monthly (y m d s v u f t : Int) (z : Bool) (o : Int) (h : mayM y m d s z o = true) (g : mayM v u f t z o = true) (hle : ins y m d s o ≤ ins v u f t o) (hd : d ≤ 28) :
    (mayM (moY y m (mkB y m d s v u f t)) (moM y m (mkB y m d s v u f t)) d s z o = true ∧ moD y m d (mkB y m d s v u f t) = d ∧
      ins (moY y m (mkB y m d s v u f t)) (moM y m (mkB y m d s v u f t)) d s o ≤ ins v u f t o) ∧
    (moD y m d (mkB y m d s v u f t + 1) = d ∧ (mayM (moY y m (mkB y m d s v u f t + 1)) (moM y m (mkB y m d s v u f t + 1)) d s z o = true →
      ins v u f t o < ins (moY y m (mkB y m d s v u f t + 1)) (moM y m (mkB y m d s v u f t + 1)) d s o)) := by
  have b := mk_month _ _ _ _ _ _ h
  have c := mk_month _ _ _ _ _ _ g
  have a := ins_lt v u f t y m d s z o g h
  have q : ¬ (v < y ∨ v = y ∧ (u < m ∨ u = m ∧ (f < d ∨ f = d ∧ t < s))) := by
    intro r
    have := a.2 r
    omega
  have hc := ((mayM_iff _ _ _ _ _ _).1 h).2
  obtain ⟨p1, p2, p3, p4⟩ := mo_first y m d (mkB y m d s v u f t) b.2.2.1 b.2.2.2.1 b.2.2.2.2.1 hd
  obtain ⟨r1, r2, r3, r4⟩ := mo_first y m d (mkB y m d s v u f t + 1) b.2.2.1 b.2.2.2.1 b.2.2.2.2.1 hd
  have lg : (lag d s f t = 1 ∧ (f < d ∨ f = d ∧ t < s)) ∨ (lag d s f t = 0 ∧ ¬ (f < d ∨ f = d ∧ t < s)) := by
    unfold lag
    by_cases e : f < d ∨ f = d ∧ t < s
    · rw [if_pos e]; exact Or.inl ⟨rfl, e⟩
    · rw [if_neg e]; exact Or.inr ⟨rfl, e⟩
  have e1 : moY y m (mkB y m d s v u f t) = (12 * v + u - 1 - lag d s f t) / 12 := by unfold moY mkB; congr 1; omega
  have e2 : moM y m (mkB y m d s v u f t) = 12 * v + u - 1 - lag d s f t - 12 * ((12 * v + u - 1 - lag d s f t) / 12) + 1 := by unfold moM; rw [e1]; unfold mkB; omega
  have e3 : moY y m (mkB y m d s v u f t + 1) = (12 * v + u - lag d s f t) / 12 := by unfold moY mkB; congr 1; omega
  have e4 : moM y m (mkB y m d s v u f t + 1) = 12 * v + u - lag d s f t - 12 * ((12 * v + u - lag d s f t) / 12) + 1 := by unfold moM; rw [e3]; unfold mkB; omega
  generalize moY y m (mkB y m d s v u f t) = Y1 at *
  generalize moM y m (mkB y m d s v u f t) = M1 at *
  generalize moY y m (mkB y m d s v u f t + 1) = Y2 at *
  generalize moM y m (mkB y m d s v u f t + 1) = M2 at *
  generalize lag d s f t = l at *
  have m1 : mayM Y1 M1 d s z o = true := by
    rw [mayM_iff]
    exact ⟨p4.2 (by omega), hc⟩
  refine ⟨⟨m1, p3, ?_⟩, r3, fun m2 => ?_⟩
  · have x := ins_lt v u f t Y1 M1 d s z o g m1
    apply Decidable.byContradiction
    intro w
    have := x.1 (by omega)
    omega
  · have x := ins_lt v u f t Y2 M2 d s z o g m2
    exact x.2 (by omega)

end Go.Proofs.Ytfoblnepbncieaa
