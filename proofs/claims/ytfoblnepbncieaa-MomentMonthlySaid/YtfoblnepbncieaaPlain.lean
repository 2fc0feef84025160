/-
  Plain laws of the calendar and of quotients: no program in sight.
-/
namespace Go.Proofs.Ytfoblnepbncieaa.Civ
theorem tmod_cases (a b : Int) : (0 ≤ a ∧ a.tmod b = a % b) ∨ (a < 0 ∧ a.tmod b = -((-a) % b)) := by
  by_cases h : 0 ≤ a
  · exact Or.inl ⟨h, Int.tmod_eq_emod_of_nonneg h⟩
  · refine Or.inr ⟨by omega, ?_⟩
    have := Int.neg_tmod (-a) b
    rw [Int.neg_neg] at this
    rw [this, Int.tmod_eq_emod_of_nonneg (by omega)]
theorem tdiv_cases (a b : Int) : (0 ≤ a ∧ a.tdiv b = a / b) ∨ (a < 0 ∧ a.tdiv b = -((-a) / b)) := by
  by_cases h : 0 ≤ a
  · exact Or.inl ⟨h, Int.tdiv_eq_ediv_of_nonneg h⟩
  · refine Or.inr ⟨by omega, ?_⟩
    have := Int.neg_tdiv (-a) b
    rw [Int.neg_neg] at this
    rw [this, Int.tdiv_eq_ediv_of_nonneg (by omega)]
theorem floor_eq (a b : Int) (hb : 0 < b) : (if a.tmod b < 0 then a.tdiv b - 1 else a.tdiv b) = a / b := by
  rcases tmod_cases a b with ⟨h, e⟩ | ⟨h, e⟩ <;> rcases tdiv_cases a b with ⟨g, f⟩ | ⟨g, f⟩ <;> (try omega)
  · rw [e, f, if_neg (by have := Int.emod_nonneg a (show b ≠ 0 by omega); omega)]
  · rw [e, f]
    have h1 := Int.emod_nonneg (-a) (show b ≠ 0 by omega)
    have h2 := Int.emod_lt_of_pos (-a) hb
    have h3 := Int.mul_ediv_add_emod (-a) b
    generalize hq : (-a) / b = q at *
    generalize hr : (-a) % b = r at *
    by_cases z : r = 0
    · rw [if_neg (by omega)]
      have : a = b * (-q) := by rw [Int.mul_neg]; omega
      rw [this, Int.mul_ediv_cancel_left _ (by omega)]
    · rw [if_pos (by omega)]
      have : a = (b - r) + b * (-q - 1) := by
        rw [Int.mul_sub, Int.mul_neg, Int.mul_one]; omega
      rw [this, Int.add_mul_ediv_left _ _ (by omega), Int.ediv_eq_zero_of_lt (by omega) (by omega)]
      omega

def leap (y : Int) : Bool := decide (y % 4 = 0 ∧ (y % 100 ≠ 0 ∨ y % 400 = 0))
def len (y m : Int) : Int :=
  if m = 2 then (if leap y then 29 else 28) else if m = 4 ∨ m = 6 ∨ m = 9 ∨ m = 11 then 30 else if 1 ≤ m ∧ m ≤ 12 then 31 else 0
def may (y m d : Int) : Bool := decide (-999999999 ≤ y ∧ y ≤ 999999999 ∧ 1 ≤ d ∧ d ≤ len y m)
/-- days ahead of the first of January of a year, from that of the year 1 on -/
def yr (y : Int) : Int := 365 * (y - 1) + (y - 1) / 4 - (y - 1) / 100 + (y - 1) / 400
def lp (y : Int) : Int := if leap y then 1 else 0
/-- days ahead of a month's first in its year -/
def cum (y m : Int) : Int :=
  if m ≤ 1 then 0 else if m = 2 then 31 else if m = 3 then 59 + lp y else if m = 4 then 90 + lp y else if m = 5 then 120 + lp y
  else if m = 6 then 151 + lp y else if m = 7 then 181 + lp y else if m = 8 then 212 + lp y else if m = 9 then 243 + lp y
  else if m = 10 then 273 + lp y else if m = 11 then 304 + lp y else if m = 12 then 334 + lp y else 365 + lp y
def num (y m d : Int) : Int := yr y + cum y m + d - 719163

theorem lp_cases (y : Int) : (lp y = 1 ∧ y % 4 = 0 ∧ (y % 100 ≠ 0 ∨ y % 400 = 0)) ∨ (lp y = 0 ∧ ¬ (y % 4 = 0 ∧ (y % 100 ≠ 0 ∨ y % 400 = 0))) := by
  unfold lp leap
  by_cases h : y % 4 = 0 ∧ (y % 100 ≠ 0 ∨ y % 400 = 0)
  · left; simp [h]
  · right; simp [h]

theorem yr_succ (y : Int) : yr (y + 1) = yr y + 365 + lp y := by
  have := lp_cases y
  unfold yr
  omega

theorem lp_01 (y : Int) : lp y = 0 ∨ lp y = 1 := by have := lp_cases y; omega

theorem len_lp (y m : Int) : len y m = if m = 2 then 28 + lp y else if m = 4 ∨ m = 6 ∨ m = 9 ∨ m = 11 then 30 else if 1 ≤ m ∧ m ≤ 12 then 31 else 0 := by
  unfold len lp; split <;> (try split) <;> rfl

theorem len_pos (y m : Int) (h : 1 ≤ m) (h' : m ≤ 12) : 28 ≤ len y m ∧ len y m ≤ 31 := by
  have := lp_01 y
  rw [len_lp]; split; omega; split; omega; split <;> omega

theorem len_zero (y m : Int) (h : ¬ (1 ≤ m ∧ m ≤ 12)) : len y m = 0 := by
  rw [len_lp]; rw [if_neg (by omega), if_neg (by omega), if_neg h]

theorem cum_succ (y m : Int) (h : 1 ≤ m) (h' : m ≤ 12) : cum y (m + 1) = cum y m + len y m := by
  rw [len_lp]
  obtain rfl | rfl | rfl | rfl | rfl | rfl | rfl | rfl | rfl | rfl | rfl | rfl : m = 1 ∨ m = 2 ∨ m = 3 ∨ m = 4 ∨ m = 5 ∨ m = 6 ∨ m = 7 ∨ m = 8 ∨ m = 9 ∨ m = 10 ∨ m = 11 ∨ m = 12 := by omega
  all_goals (simp [cum]; try omega)

theorem cum_one (y : Int) : cum y 1 = 0 := rfl
theorem cum_13 (y : Int) : cum y 13 = 365 + lp y := rfl

theorem cum_le_succ (y m : Int) (h : 1 ≤ m) (h' : m ≤ 12) : cum y m + 28 ≤ cum y (m + 1) := by
  rw [cum_succ y m h h']; have := len_pos y m h h'; omega

theorem cum_add (y m : Int) (n : Nat) (h : 1 ≤ m) (h' : m + n ≤ 13) : cum y m + 28 * n ≤ cum y (m + n) := by
  induction n with
  | zero => simp
  | succ n ih =>
    have a := ih (by omega)
    have b := cum_le_succ y (m + n) (by omega) (by omega)
    rw [show m + ((n + 1 : Nat) : Int) = m + n + 1 from by omega]
    omega

theorem cum_mono (y m k : Int) (h1 : 1 ≤ m) (h2 : m ≤ k) (h3 : k ≤ 13) : cum y m + 28 * (k - m) ≤ cum y k := by
  have := cum_add y m (k - m).toNat h1 (by omega)
  rw [show m + ((k - m).toNat : Int) = k from by omega] at this
  omega

theorem yr_mono (a b : Int) (h : a ≤ b) : yr a ≤ yr b := by unfold yr; omega
theorem yr_lt (a b : Int) (h : a < b) : yr a + 365 ≤ yr b := by unfold yr; omega

/-- a day that is there -/
theorem num_bounds (y m d : Int) (h1 : 1 ≤ d) (h2 : d ≤ len y m) :
    1 ≤ m ∧ m ≤ 12 ∧ yr y ≤ num y m d + 719162 ∧ num y m d + 719162 < yr (y + 1) ∧
    yr y + cum y m ≤ num y m d + 719162 ∧ num y m d + 719162 < yr y + cum y (m + 1) := by
  have hm : 1 ≤ m ∧ m ≤ 12 := by
    by_cases h : 1 ≤ m ∧ m ≤ 12
    · exact h
    · have := len_zero y m h; omega
  have a := cum_succ y m hm.1 hm.2
  have b := cum_mono y 1 m (by omega) hm.1 (by omega)
  have c := cum_mono y (m + 1) 13 (by omega) (by omega) (by omega)
  have e := yr_succ y
  rw [cum_one] at b
  rw [cum_13] at c
  unfold num
  omega

/-- the order of days is that of their numbers -/
theorem num_lt (y m d v u w : Int) (h1 : 1 ≤ d) (h2 : d ≤ len y m) (g1 : 1 ≤ w) (g2 : w ≤ len v u) :
    num y m d < num v u w ↔ y < v ∨ y = v ∧ (m < u ∨ m = u ∧ d < w) := by
  obtain ⟨a1, a2, a3, a4, a5, a6⟩ := num_bounds y m d h1 h2
  obtain ⟨b1, b2, b3, b4, b5, b6⟩ := num_bounds v u w g1 g2
  by_cases hy : y < v
  · have := yr_mono (y + 1) v (by omega); omega
  · by_cases hy' : v < y
    · have := yr_mono (v + 1) y (by omega); omega
    · obtain rfl : y = v := by omega
      by_cases hm : m < u
      · have := cum_mono y (m + 1) u (by omega) (by omega) (by omega); omega
      · by_cases hm' : u < m
        · have := cum_mono y (u + 1) m (by omega) (by omega) (by omega); omega
        · obtain rfl : m = u := by omega
          unfold num; omega

theorem num_inj (y m d v u w : Int) (h1 : 1 ≤ d) (h2 : d ≤ len y m) (g1 : 1 ≤ w) (g2 : w ≤ len v u)
    (h : num y m d = num v u w) : y = v ∧ m = u ∧ d = w := by
  have a := num_lt y m d v u w h1 h2 g1 g2
  have b := num_lt v u w y m d g1 g2 h1 h2
  omega

/-- March's reckoning, as the code has it -/
theorem num_march (y m d : Int) (h1 : 1 ≤ m) (h2 : m ≤ 12) :
    num y m d = (if m ≤ 2 then
      146097 * ((y - 1) / 400) + 365 * (y - 1 - 400 * ((y - 1) / 400)) + (y - 1 - 400 * ((y - 1) / 400)) / 4 - (y - 1 - 400 * ((y - 1) / 400)) / 100 + ((153 * (m + 12 - 3) + 2) / 5 + d - 1) - 719468
     else 146097 * (y / 400) + 365 * (y - 400 * (y / 400)) + (y - 400 * (y / 400)) / 4 - (y - 400 * (y / 400)) / 100 + ((153 * (m - 3) + 2) / 5 + d - 1) - 719468) := by
  have := lp_cases y
  obtain rfl | rfl | rfl | rfl | rfl | rfl | rfl | rfl | rfl | rfl | rfl | rfl : m = 1 ∨ m = 2 ∨ m = 3 ∨ m = 4 ∨ m = 5 ∨ m = 6 ∨ m = 7 ∨ m = 8 ∨ m = 9 ∨ m = 10 ∨ m = 11 ∨ m = 12 := by omega
  all_goals simp [num, cum, yr]
  all_goals omega


theorem yoe_bounds (doe : Int) (h1 : 0 ≤ doe) (h2 : doe ≤ 146096) (y : Int) (hy : y = (doe - doe / 1460 + doe / 36524 - doe / 146096) / 365) :
    0 ≤ y ∧ y ≤ 399 ∧ 0 ≤ doe - (365 * y + y / 4 - y / 100) ∧ doe - (365 * y + y / 4 - y / 100) ≤ 365 ∧
    (doe - (365 * y + y / 4 - y / 100) = 365 → (y + 1) % 4 = 0 ∧ ((y + 1) % 100 ≠ 0 ∨ (y + 1) % 400 = 0)) := by
  have hc : doe / 146096 = 0 ∨ doe / 146096 = 1 := by omega
  have hb : doe / 36524 = 0 ∨ doe / 36524 = 1 ∨ doe / 36524 = 2 ∨ doe / 36524 = 3 ∨ doe / 36524 = 4 := by omega
  rcases hb with hb | hb | hb | hb | hb <;> rcases hc with hc | hc <;> rw [hb, hc] at hy
  all_goals (try (exfalso; omega))
  all_goals
    have hy1 : y / 100 = 0 ∨ y / 100 = 1 ∨ y / 100 = 2 ∨ y / 100 = 3 := by omega
    refine ⟨by omega, by omega, by omega, by omega, ?_⟩
    intro h
    have hr : y % 4 = 3 := by
      have : y % 4 = 0 ∨ y % 4 = 1 ∨ y % 4 = 2 ∨ y % 4 = 3 := by omega
      have hd : doe / 1460 ≤ y / 4 ∨ y / 4 + 1 ≤ doe / 1460 := by omega
      rcases this with e | e | e | e <;> rcases hd with hd | hd
      all_goals (first | exact e | (exfalso; omega))
    omega

/-- the code's way from a number to its day, in March's reckoning -/
theorem of_march (n era doe y doy m : Int) (he : era = (n + 719468) / 146097) (hd : doe = n + 719468 - 146097 * era)
    (hy : y = (doe - doe / 1460 + doe / 36524 - doe / 146096) / 365) (hdoy : doy = doe - (365 * y + y / 4 - y / 100)) (hm : m = (5 * doy + 2) / 153) :
    0 ≤ m ∧ m ≤ 11 ∧ 0 ≤ y ∧ y ≤ 399 ∧ 0 ≤ doy ∧ doy ≤ 365 ∧ 1 ≤ doy - (153 * m + 2) / 5 + 1 ∧
    (m ≤ 9 → doy - (153 * m + 2) / 5 + 1 ≤ len (400 * era + y) (m + 3) ∧ num (400 * era + y) (m + 3) (doy - (153 * m + 2) / 5 + 1) = n) ∧
    (10 ≤ m → doy - (153 * m + 2) / 5 + 1 ≤ len (400 * era + y + 1) (m + 3 - 12) ∧ num (400 * era + y + 1) (m + 3 - 12) (doy - (153 * m + 2) / 5 + 1) = n) := by
  obtain ⟨a1, a2, a3, a4, a5⟩ := yoe_bounds doe (by omega) (by omega) y hy
  rw [← hdoy] at a3 a4 a5
  have hm1 : 0 ≤ m ∧ m ≤ 11 := by omega
  have q1 : (400 * era + y) / 400 = era := by omega
  refine ⟨hm1.1, hm1.2, a1, a2, a3, a4, by omega, ?_, ?_⟩
  · intro hm9
    constructor
    · rw [len_lp]
      obtain rfl | rfl | rfl | rfl | rfl | rfl | rfl | rfl | rfl | rfl : m = 0 ∨ m = 1 ∨ m = 2 ∨ m = 3 ∨ m = 4 ∨ m = 5 ∨ m = 6 ∨ m = 7 ∨ m = 8 ∨ m = 9 := by omega
      all_goals (simp; omega)
    · rw [num_march _ _ _ (by omega) (by omega), if_neg (by omega), q1]
      rw [show (400 * era + y - 400 * era) = y from by omega, show m + 3 - 3 = m from by omega]
      omega
  · intro hm10
    constructor
    · rw [len_lp]
      have e := lp_cases (400 * era + y + 1)
      obtain rfl | rfl : m = 10 ∨ m = 11 := by omega
      · simp; omega
      · simp only [show (11 : Int) + 3 - 12 = 2 from rfl, if_true]
        by_cases h : doy < 365
        · omega
        · have b := a5 (by omega)
          have b1 : (400 * era + y + 1) % 4 = (y + 1) % 4 := by omega
          have b2 : (400 * era + y + 1) % 100 = (y + 1) % 100 := by omega
          have b3 : (400 * era + y + 1) % 400 = (y + 1) % 400 := by omega
          omega
    · rw [num_march _ _ _ (by omega) (by omega), if_pos (by omega), show 400 * era + y + 1 - 1 = 400 * era + y from by omega, q1]
      rw [show (400 * era + y - 400 * era) = y from by omega, show m + 3 - 12 + 12 - 3 = m from by omega]
      omega

def ofEra (n : Int) : Int := (n + 719468) / 146097
def ofDoe (n : Int) : Int := n + 719468 - 146097 * ofEra n
def ofYoe (n : Int) : Int := (ofDoe n - ofDoe n / 1460 + ofDoe n / 36524 - ofDoe n / 146096) / 365
def ofDoy (n : Int) : Int := ofDoe n - (365 * ofYoe n + ofYoe n / 4 - ofYoe n / 100)
def ofMp (n : Int) : Int := (5 * ofDoy n + 2) / 153
def ofY (n : Int) : Int := if 10 ≤ ofMp n then 400 * ofEra n + ofYoe n + 1 else 400 * ofEra n + ofYoe n
def ofM (n : Int) : Int := if 10 ≤ ofMp n then ofMp n + 3 - 12 else ofMp n + 3
def ofD (n : Int) : Int := ofDoy n - (153 * ofMp n + 2) / 5 + 1

theorem of_spec (n : Int) : 1 ≤ ofM n ∧ ofM n ≤ 12 ∧ 1 ≤ ofD n ∧ ofD n ≤ len (ofY n) (ofM n) ∧ num (ofY n) (ofM n) (ofD n) = n := by
  obtain ⟨a1, a2, a3, a4, a5, a6, a7, a8, a9⟩ := of_march n (ofEra n) (ofDoe n) (ofYoe n) (ofDoy n) (ofMp n) rfl rfl rfl rfl rfl
  unfold ofY ofM ofD
  by_cases h : 10 ≤ ofMp n
  · rw [if_pos h, if_pos h]
    exact ⟨by omega, by omega, a7, (a9 h).1, (a9 h).2⟩
  · rw [if_neg h, if_neg h]
    exact ⟨by omega, by omega, a7, (a8 (by omega)).1, (a8 (by omega)).2⟩

theorem of_num (y m d : Int) (h1 : 1 ≤ d) (h2 : d ≤ len y m) : ofY (num y m d) = y ∧ ofM (num y m d) = m ∧ ofD (num y m d) = d := by
  obtain ⟨_, _, c, e, f⟩ := of_spec (num y m d)
  exact num_inj _ _ _ _ _ _ c e h1 h2 f

def first : Int := -365243219162
def last : Int := 365241780471
theorem first_num : num (-999999999) 1 1 = first := by decide
theorem last_num : num 999999999 12 31 = last := by decide

theorem of_may (n : Int) : (-999999999 ≤ ofY n ∧ ofY n ≤ 999999999) ↔ (first ≤ n ∧ n ≤ last) := by
  obtain ⟨a, b, c, e, f⟩ := of_spec n
  have g := num_bounds (ofY n) (ofM n) (ofD n) c e
  have h1 : yr (-999999999) = first + 719162 := by decide
  have h2 : yr 1000000000 = last + 719163 := by decide
  rw [f] at g
  constructor
  · intro ⟨u, v⟩
    have := yr_mono _ _ u
    have := yr_mono (ofY n + 1) 1000000000 (by omega)
    omega
  · intro ⟨u, v⟩
    constructor
    · apply Decidable.byContradiction; intro q
      have := yr_mono (ofY n + 1) (-999999999) (by omega)
      omega
    · apply Decidable.byContradiction; intro q
      have := yr_mono 1000000000 (ofY n) (by omega)
      omega

def wday (y m d : Int) : Int := (num y m d + 3) % 7 + 1
def yday (y m d : Int) : Int := cum y m + d
/-- a week's number, by its Thursday's -/
def thu (y m d : Int) : Int := num y m d + 4 - wday y m d
def weekOf (t : Int) : Int := (yday (ofY t) (ofM t) (ofD t) - 1) / 7 + 1
def week (y m d : Int) : Int := weekOf (thu y m d)

theorem yday_num (y m d : Int) : yday y m d = num y m d + 719163 - yr y := by unfold yday num; omega

theorem weekOf_eq (t y : Int) (h1 : yr y ≤ t + 719162) (h2 : t + 719162 < yr (y + 1)) : ofY t = y ∧ weekOf t = (t + 719162 - yr y) / 7 + 1 := by
  obtain ⟨a, b, c, e, f⟩ := of_spec t
  have g := num_bounds (ofY t) (ofM t) (ofD t) c e
  rw [f] at g
  have hy : ofY t = y := by
    by_cases u : ofY t < y
    · have := yr_mono (ofY t + 1) y (by omega); omega
    · by_cases v : y < ofY t
      · have := yr_mono (y + 1) (ofY t) (by omega); omega
      · omega
  refine ⟨hy, ?_⟩
  unfold weekOf
  rw [yday_num, f, hy]
  rw [show t + 719163 - yr y - 1 = t + 719162 - yr y from by omega]

/-- how many weeks a year has -/
def weeks (y : Int) : Int := if wday y 1 1 = 4 ∨ wday y 1 1 = 3 ∧ leap y = true then 53 else 52

theorem num_jan (y : Int) : num y 1 1 = yr y - 719162 := by unfold num cum; simp; omega
theorem leap_lp (y : Int) : leap y = true ↔ lp y = 1 := by unfold lp; by_cases h : leap y = true <;> simp [h]

theorem weeks_eq (y : Int) : weeks y = if (yr y - 719162) % 7 = 0 ∨ (yr y - 719162) % 7 = 6 ∧ lp y = 1 then 53 else 52 := by
  unfold weeks wday
  rw [num_jan]
  have h1 : ((yr y - 719162 + 3) % 7 + 1 = 4) ↔ ((yr y - 719162) % 7 = 0) := by omega
  have h2 : ((yr y - 719162 + 3) % 7 + 1 = 3) ↔ ((yr y - 719162) % 7 = 6) := by omega
  simp only [h1, h2, leap_lp]

theorem weeks_back (y : Int) : weeks (y + 399) = weeks (y - 1) := by
  rw [weeks_eq, weeks_eq]
  have h1 : lp (y + 399) = lp (y - 1) := by have := lp_cases (y + 399); have := lp_cases (y - 1); omega
  have h2 : yr (y + 399) = yr (y - 1) + 146097 := by unfold yr; omega
  rw [h1, h2]
  have h3 : (yr (y - 1) + 146097 - 719162) % 7 = (yr (y - 1) - 719162) % 7 := by omega
  rw [h3]

/-- the code's week -/
def codeWeek (y m d : Int) : Int := (yday y m d - wday y m d + 10) / 7

theorem week_eq (y m d : Int) (h1 : 1 ≤ d) (h2 : d ≤ len y m) :
    0 ≤ codeWeek y m d ∧ codeWeek y m d ≤ 53 ∧ week y m d = if codeWeek y m d < 1 then weeks (y - 1) else if weeks y < codeWeek y m d then 1 else codeWeek y m d := by
  have g := num_bounds y m d h1 h2
  have hw : 1 ≤ wday y m d ∧ wday y m d ≤ 7 := by unfold wday; omega
  have hyd := yday_num y m d
  have s1 := yr_succ y
  have s0 := yr_succ (y - 1)
  have s2 := yr_succ (y + 1)
  have l1 := lp_01 y
  have l0 := lp_01 (y - 1)
  have l2 := lp_01 (y + 1)
  rw [show y - 1 + 1 = y from by omega] at s0
  have w1 := weeks_eq y
  have w0 := weeks_eq (y - 1)
  have ht : (thu y m d) % 7 = 0 := by unfold thu wday; omega
  have hc : codeWeek y m d = (thu y m d + 719162 - yr y + 7) / 7 := by
    unfold codeWeek thu; rw [hyd]; congr 1; omega
  have hb : thu y m d = num y m d + 4 - wday y m d := rfl
  rw [hc]
  unfold week
  generalize thu y m d = t at *
  generalize ha : yr y = a at *
  have y1 : y - 1 + 1 = y := by omega
  refine ⟨by omega, by omega, ?_⟩
  by_cases c0 : t + 719162 < a
  · rw [if_pos (by omega), (weekOf_eq t (y - 1) (by omega) (by rw [y1, ha]; omega)).2, w0]
    by_cases q : (yr (y - 1) - 719162) % 7 = 0 ∨ (yr (y - 1) - 719162) % 7 = 6 ∧ lp (y - 1) = 1
    · rw [if_pos q]; omega
    · rw [if_neg q]; omega
  · rw [if_neg (by omega)]
    by_cases c1 : t + 719162 < a + 365 + lp y
    · rw [(weekOf_eq t y (by omega) (by omega)).2, w1, ha]
      by_cases q : (a - 719162) % 7 = 0 ∨ (a - 719162) % 7 = 6 ∧ lp y = 1
      · rw [if_pos q, if_neg (by omega)]; omega
      · rw [if_neg q, if_neg (by omega)]; omega
    · rw [(weekOf_eq t (y + 1) (by omega) (by omega)).2, w1]
      by_cases q : (a - 719162) % 7 = 0 ∨ (a - 719162) % 7 = 6 ∧ lp y = 1
      · rw [if_pos q]; exfalso; omega
      · rw [if_neg q, if_pos (by omega)]; omega
end Go.Proofs.Ytfoblnepbncieaa.Civ
