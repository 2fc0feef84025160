/-
  Moments and raw moments as arguments; the stage's maker, and its examples.
-/
import Derived.Test.YtfoblnepbncieaaMome
namespace Go.Proofs.Ytfoblnepbncieaa
open Go.ChangeShapes Go.WideShapes Go.ChangeAt Go.RowKit

def offM (z : Bool) (o : Int) : Int := if z then o.tmod 64801 else 0

theorem law08_made (y m d s o : Int) (z : Bool) : ∃ Y M D S : Int, mayM Y M D S z (offM z o) = true ∧
    ∀ w, Calls Try.prog 50 #[.agg #[.int .i64 y, .int .i64 m, .int .i64 d, .int .i64 s, .int .i64 o, .bool z]] w fun e w' =>
      e = .returned (.agg #[.int .i64 Y, .int .i64 M, .int .i64 D, .int .i64 S, .bool z, .int .i64 (offM z o)]) ∧ Below w.heap.size w w' := by
  refine ⟨mkY y, mkM m, mkD y m d, s % 86400, ?_, fun w => law08_make y m d s o z w⟩
  rw [mayM_iff]
  refine ⟨mk_may y m d, ?_⟩
  obtain ⟨b1, b2⟩ := tmod_in o 64801 (by omega)
  rw [mayC_iff]
  unfold offM
  cases z <;> simp <;> omega

/-- six cells of a block, none frozen: carried over calls as one -/
def Mem6 (w : World) (b : Nat) (c0 c1 c2 c3 c4 c5 : Value) : Prop :=
  Unit → ((w.cell? ⟨b, 0, none⟩ = some c0 ∧ w.cell? ⟨b, 1, none⟩ = some c1 ∧ w.cell? ⟨b, 2, none⟩ = some c2 ∧
    w.cell? ⟨b, 3, none⟩ = some c3 ∧ w.cell? ⟨b, 4, none⟩ = some c4 ∧ w.cell? ⟨b, 5, none⟩ = some c5 ∧ b < w.heap.size) ∧
    w.frozen? ⟨b, 0, none⟩ = false ∧ w.frozen? ⟨b, 1, none⟩ = false ∧ w.frozen? ⟨b, 2, none⟩ = false ∧
    w.frozen? ⟨b, 3, none⟩ = false ∧ w.frozen? ⟨b, 4, none⟩ = false ∧ w.frozen? ⟨b, 5, none⟩ = false)

theorem mem6_keep {W w1 : World} (hb : Below W.heap.size W w1) : ∀ b c0 c1 c2 c3 c4 c5, Mem6 W b c0 c1 c2 c3 c4 c5 → Mem6 w1 b c0 c1 c2 c3 c4 c5 := by
  intro b c0 c1 c2 c3 c4 c5 h
  obtain ⟨⟨h0, h1, h2, h3, h4, h5, _⟩, f0, f1, f2, f3, f4, f5⟩ := h ()
  exact fun _ => (keepf6 hb h0 h1 h2 h3 h4 h5 f0 f1 f2 f3 f4 f5)

theorem mem6_drew {W : World} {b : Nat} {c0 c1 c2 c3 c4 c5 : Value} (h : Mem6 W b c0 c1 c2 c3 c4 c5) : Mem6 W.drew b c0 c1 c2 c3 c4 c5 := by
  obtain ⟨⟨h0, h1, h2, h3, h4, h5, hl⟩, f0, f1, f2, f3, f4, f5⟩ := h ()
  exact fun _ => (by simp [*])

theorem mem6_lt {W : World} {b : Nat} {c0 c1 c2 c3 c4 c5 : Value} (h : Mem6 W b c0 c1 c2 c3 c4 c5) : b < W.heap.size := (h ()).1.2.2.2.2.2.2

theorem mem6_alloc {W : World} {b : Nat} {c0 c1 c2 c3 c4 c5 : Value} (h : Mem6 W b c0 c1 c2 c3 c4 c5) (o : Obj) : Mem6 (W.alloc o) b c0 c1 c2 c3 c4 c5 := by
  have hl := mem6_lt h
  obtain ⟨⟨h0, h1, h2, h3, h4, h5, _⟩, f0, f1, f2, f3, f4, f5⟩ := h ()
  exact fun _ => ⟨⟨cell_alloc_keep h0, cell_alloc_keep h1, cell_alloc_keep h2, cell_alloc_keep h3, cell_alloc_keep h4, cell_alloc_keep h5, by simp; omega⟩, (World.frozen?_alloc_past _ _ _ hl).trans f0, (World.frozen?_alloc_past _ _ _ hl).trans f1, (World.frozen?_alloc_past _ _ _ hl).trans f2, (World.frozen?_alloc_past _ _ _ hl).trans f3, (World.frozen?_alloc_past _ _ _ hl).trans f4, (World.frozen?_alloc_past _ _ _ hl).trans f5⟩

theorem mem6_set {W : World} {b : Nat} {c0 c1 c2 c3 c4 c5 : Value} (h : Mem6 W b c0 c1 c2 c3 c4 c5) {p : Addr} (hp : b ≠ p.block) (u : Value) : Mem6 (W.setCell p u) b c0 c1 c2 c3 c4 c5 := by
  have hl := mem6_lt h
  obtain ⟨⟨h0, h1, h2, h3, h4, h5, _⟩, f0, f1, f2, f3, f4, f5⟩ := h ()
  have far : ∀ i v, W.cell? ⟨b, i, none⟩ = some v → (W.setCell p u).cell? ⟨b, i, none⟩ = some v := fun i v g => (World.cell?_setCell_far W p _ u (Ne.symm hp)).trans g
  exact fun _ => ⟨⟨far _ _ h0, far _ _ h1, far _ _ h2, far _ _ h3, far _ _ h4, far _ _ h5, by simp [hl]⟩, by simp [*], by simp [*], by simp [*], by simp [*], by simp [*], by simp [*]⟩

theorem mem6_set6 {W : World} {b : Nat} {c0 c1 c2 c3 c4 c5 : Value} (h : Mem6 W b c0 c1 c2 c3 c4 c5) {a : Nat} (hp : b ≠ a) (u0 u1 u2 u3 u4 u5 : Value) :
    Mem6 ((((((W.setCell ⟨a, 0, none⟩ u0).setCell ⟨a, 1, none⟩ u1).setCell ⟨a, 2, none⟩ u2).setCell ⟨a, 3, none⟩ u3).setCell ⟨a, 4, none⟩ u4).setCell ⟨a, 5, none⟩ u5) b c0 c1 c2 c3 c4 c5 :=
  mem6_set (mem6_set (mem6_set (mem6_set (mem6_set (mem6_set h hp _) hp _) hp _) hp _) hp _) hp _

theorem mem6_head {W : World} {b : Nat} {c0 c1 c2 c3 c4 c5 : Value} (h : Mem6 W b c0 c1 c2 c3 c4 c5) : Mem6 W b c0 c1 c2 c3 c4 c5 := h

section
open Go.Joins
variable {H : Type} {enc : TypeId × Value → H} {w : World} {base : Nat} {spare : Nat → Bool} {held : Bool}

theorem array6 {α : Type} {cs : Array α} (h : cs.size = 6) : ∃ c0 c1 c2 c3 c4 c5, cs = #[c0, c1, c2, c3, c4, c5] := by
  obtain ⟨l⟩ := cs
  match l, h with
  | [c0, c1, c2, c3, c4, c5], _ => exact ⟨c0, c1, c2, c3, c4, c5, rfl⟩

theorem wide_int : Try.prog.cellsOf 3 = 1 := by kernel_rfl
theorem wide_bool : Try.prog.cellsOf 4 = 1 := by kernel_rfl
theorem wide_date : Try.prog.cellsOf 39 = 3 := by kernel_rfl
theorem wide_time : Try.prog.cellsOf 23 = 3 := by kernel_rfl
theorem wide_raw : Try.prog.cellsOf 54 = 6 := by kernel_rfl
theorem wide_moment : Try.prog.cellsOf 56 = 6 := by kernel_rfl

theorem int_cell {n : Nat} {c : Value} {y : DataW H × List MemPlace} (h : DataW.trod enc Try.prog w base spare held n 3 [c] = some y) :
    ∃ x : Int, c = .int .i64 x ∧ -9223372036854775808 ≤ x ∧ x ≤ 9223372036854775807 := by
  obtain ⟨x, e0, _, wx⟩ := DataW.trod_int Try.underlying3 h
  simp at e0
  exact ⟨x, e0, bounds_i64 wx⟩

theorem bool_cell {n : Nat} {c : Value} {y : DataW H × List MemPlace} (h : DataW.trod enc Try.prog w base spare held n 4 [c] = some y) :
    ∃ x : Bool, c = .bool x := by
  obtain ⟨x, e0, _⟩ := DataW.trod_bool Try.underlying4 h
  simp at e0
  exact ⟨x, e0⟩

theorem open_raw {r : Reach} {b0 : Nat} {v : Value} {d : DataW H} {p : List MemPlace} (hv : Value.okWide Try.prog w r b0 54 v) (h : DataW.Trod enc Try.prog w base spare held 54 v d p) :
    ∃ (a b c s o : Int) (z : Bool), v = .agg #[.int .i64 a, .int .i64 b, .int .i64 c, .int .i64 s, .int .i64 o, .bool z] ∧
      (-9223372036854775808 ≤ a ∧ a ≤ 9223372036854775807) ∧ (-9223372036854775808 ≤ b ∧ b ≤ 9223372036854775807) ∧ (-9223372036854775808 ≤ c ∧ c ≤ 9223372036854775807) ∧
      (-9223372036854775808 ≤ s ∧ s ≤ 9223372036854775807) ∧ -9223372036854775808 ≤ o ∧ o ≤ 9223372036854775807 := by
  obtain ⟨cs, rfl, hsz⟩ := okWide_struct Try.underlying54 hv
  obtain ⟨c0, c1, c2, c3, c4, c5, rfl⟩ := array6 (hsz.trans wide_raw)
  obtain ⟨fuel, hf⟩ := h
  obtain ⟨xs, n, _, _, _, hlen, hg⟩ := DataW.trod_struct Try.underlying54 hf
  match xs, hlen with
  | [y0, y1, y2, y3, y4, y5], _ =>
    have g0 : DataW.trod enc Try.prog w base spare held n 3 [c0] = some y0 := by simpa [Value.cells, wide_int] using hg 0 _ rfl
    have g1 : DataW.trod enc Try.prog w base spare held n 3 [c1] = some y1 := by simpa [Value.cells, wide_int] using hg 1 _ rfl
    have g2 : DataW.trod enc Try.prog w base spare held n 3 [c2] = some y2 := by simpa [Value.cells, wide_int] using hg 2 _ rfl
    have g3 : DataW.trod enc Try.prog w base spare held n 3 [c3] = some y3 := by simpa [Value.cells, wide_int] using hg 3 _ rfl
    have g4 : DataW.trod enc Try.prog w base spare held n 3 [c4] = some y4 := by simpa [Value.cells, wide_int] using hg 4 _ rfl
    have g5 : DataW.trod enc Try.prog w base spare held n 4 [c5] = some y5 := by simpa [Value.cells, wide_bool] using hg 5 _ rfl
    obtain ⟨x0, rfl, b0⟩ := int_cell g0
    obtain ⟨x1, rfl, b1⟩ := int_cell g1
    obtain ⟨x2, rfl, b2⟩ := int_cell g2
    obtain ⟨x3, rfl, b3⟩ := int_cell g3
    obtain ⟨x4, rfl, b4⟩ := int_cell g4
    obtain ⟨x5, rfl⟩ := bool_cell g5
    exact ⟨x0, x1, x2, x3, x4, x5, rfl, b0, b1, b2, b3, b4⟩

theorem open_moment {r : Reach} {b0 : Nat} {v : Value} {d : DataW H} {p : List MemPlace} (hv : Value.okWide Try.prog w r b0 56 v) (h : DataW.Trod enc Try.prog w base spare held 56 v d p) :
    ∃ (a b c s : Int) (z : Bool) (o : Int), v = .agg #[.int .i64 a, .int .i64 b, .int .i64 c, .int .i64 s, .bool z, .int .i64 o] ∧
      (-9223372036854775808 ≤ a ∧ a ≤ 9223372036854775807) ∧ (-9223372036854775808 ≤ b ∧ b ≤ 9223372036854775807) ∧ (-9223372036854775808 ≤ c ∧ c ≤ 9223372036854775807) ∧
      (-9223372036854775808 ≤ s ∧ s ≤ 9223372036854775807) ∧ -9223372036854775808 ≤ o ∧ o ≤ 9223372036854775807 := by
  obtain ⟨cs, rfl, hsz⟩ := okWide_struct Try.underlying56 hv
  obtain ⟨c0, c1, c2, c3, c4, c5, rfl⟩ := array6 (hsz.trans wide_moment)
  obtain ⟨fuel, hf⟩ := h
  obtain ⟨xs, n, _, _, _, hlen, hg⟩ := DataW.trod_struct Try.underlying56 hf
  match xs, hlen with
  | [y0, y1], _ =>
    have g0 : DataW.trod enc Try.prog w base spare held n 39 [c0, c1, c2] = some y0 := by simpa [Value.cells, wide_date] using hg 0 _ rfl
    have g1 : DataW.trod enc Try.prog w base spare held n 23 [c3, c4, c5] = some y1 := by simpa [Value.cells, wide_time] using hg 1 _ rfl
    obtain ⟨us, l, _, _, _, hlen0, hu⟩ := DataW.trod_struct Try.underlying39 g0
    obtain ⟨vs, k, _, _, _, hlen1, ht⟩ := DataW.trod_struct Try.underlying23 g1
    match us, hlen0 with
    | [u0, u1, u2], _ =>
      match vs, hlen1 with
      | [v0, v1, v2], _ =>
        have q0 : DataW.trod enc Try.prog w base spare held l 3 [c0] = some u0 := by simpa [Value.cells, wide_int] using hu 0 _ rfl
        have q1 : DataW.trod enc Try.prog w base spare held l 3 [c1] = some u1 := by simpa [Value.cells, wide_int] using hu 1 _ rfl
        have q2 : DataW.trod enc Try.prog w base spare held l 3 [c2] = some u2 := by simpa [Value.cells, wide_int] using hu 2 _ rfl
        have q3 : DataW.trod enc Try.prog w base spare held k 3 [c3] = some v0 := by simpa [Value.cells, wide_int] using ht 0 _ rfl
        have q4 : DataW.trod enc Try.prog w base spare held k 4 [c4] = some v1 := by simpa [Value.cells, wide_bool] using ht 1 _ rfl
        have q5 : DataW.trod enc Try.prog w base spare held k 3 [c5] = some v2 := by simpa [Value.cells, wide_int] using ht 2 _ rfl
        obtain ⟨x0, rfl, b0⟩ := int_cell q0
        obtain ⟨x1, rfl, b1⟩ := int_cell q1
        obtain ⟨x2, rfl, b2⟩ := int_cell q2
        obtain ⟨x3, rfl, b3⟩ := int_cell q3
        obtain ⟨x4, rfl⟩ := bool_cell q4
        obtain ⟨x5, rfl, b5⟩ := int_cell q5
        exact ⟨x0, x1, x2, x3, x4, x5, rfl, b0, b1, b2, b3, b5⟩
end

theorem awake_later (w : World) : Calls Try.prog 54 #[.agg #[.int .i64 2024, .int .i64 2, .int .i64 28, .int .i64 86399, .bool false, .int .i64 0], .int .i64 1] w fun e w' =>
    e = .returned (.tuple #[.agg #[.int .i64 2024, .int .i64 2, .int .i64 29, .int .i64 0, .bool false, .int .i64 0], .bool true]) ∧ Below w.heap.size w w' := by
  have h := moment_later_yes 2024 2 28 86399 false 0 1 (by decide) (by decide) (by decide) true (by decide) w
  rw [if_pos rfl, show Civ.ofY ((ins 2024 2 28 86399 0 + 1 + 0) / 86400) = 2024 from by decide, show Civ.ofM ((ins 2024 2 28 86399 0 + 1 + 0) / 86400) = 2 from by decide,
    show Civ.ofD ((ins 2024 2 28 86399 0 + 1 + 0) / 86400) = 29 from by decide, show (ins 2024 2 28 86399 0 + 1 + 0) % 86400 = 0 from by decide] at h
  exact h

theorem awake_mb (m d v f k : Int) (h : mayM 2024 m d 0 false 0 = true) (g : mayM 2024 v f 0 false 0 = true) (hle : ins 2024 m d 0 0 ≤ ins 2024 v f 0 0) (hk : mkB 2024 m d 0 2024 v f 0 = k) (w : World) :
    Calls Try.prog 58 #[.agg #[.int .i64 2024, .int .i64 m, .int .i64 d, .int .i64 0, .bool false, .int .i64 0], .agg #[.int .i64 2024, .int .i64 v, .int .i64 f, .int .i64 0, .bool false, .int .i64 0]] w fun e w' =>
      e = .returned (.tuple #[.int .i64 k, .bool true]) ∧ Below w.heap.size w w' := by
  have := moment_mb_up 2024 m d 0 false 0 2024 v f 0 h g hle w
  rwa [hk] at this

set_option maxRecDepth 100000 in
theorem law08_awake (w : World) : Calls Try.prog 49 #[] w fun e w' => e = .returned (.bool true) ∧ Below w.heap.size w w' := by
  have HI := Lib.hid (moment_instant_yes 1970 1 2 0 true 3600 (by decide))
  rw [show ins 1970 1 2 0 3600 = 82800 from by decide] at HI
  have HL := Lib.hid awake_later
  have HA := Lib.hid (awake_mb 1 31 2 29 0 (by decide) (by decide) (by decide) (by decide))
  have HC := Lib.hid (awake_mb 1 29 3 1 1 (by decide) (by decide) (by decide) (by decide))
  go_enter Try.func49, Try.ntmps49
  go_wp2_with fail
  refine (HI.out _).mono ?_
  rintro e w1 ⟨rfl, hb1⟩
  go_wp2_with fail
  refine (law08_day _ _ _ _).mono ?_
  rintro e w2 ⟨rfl, hb2⟩
  go_wp2_with fail
  refine (HL.out _).mono ?_
  rintro e w3 ⟨rfl, hb3⟩
  go_wp2_with fail
  refine (law08_day _ _ _ _).mono ?_
  rintro e w4 ⟨rfl, hb4⟩
  obtain ⟨l0, l1, l2, l3, l4, l5, ll⟩ := keepc6 (b := w3.heap.size) (c0 := .int .i64 2024) (c1 := .int .i64 2) (c2 := .int .i64 29) (c3 := .int .i64 0) (c4 := .bool false) (c5 := .int .i64 0) hb4 (by simp [*]) (by simp [*]) (by simp [*]) (by simp [*]) (by simp [*]) (by simp [*])
  go_wp2_with fail
  refine (law08_day _ _ _ _).mono ?_
  rintro e w5 ⟨rfl, hb5⟩
  obtain ⟨l0, l1, l2, l3, l4, l5, ll⟩ := keepc6 hb5 l0 l1 l2 l3 l4 l5
  go_wp2_with fail
  refine (HA.out _).mono ?_
  rintro e w6 ⟨rfl, hb6⟩
  obtain ⟨l0, l1, l2, l3, l4, l5, ll⟩ := keepc6 hb6 l0 l1 l2 l3 l4 l5
  go_wp2_with fail
  refine (law08_day _ _ _ _).mono ?_
  rintro e w7 ⟨rfl, hb7⟩
  obtain ⟨l0, l1, l2, l3, l4, l5, ll⟩ := keepc6 hb7 l0 l1 l2 l3 l4 l5
  go_wp2_with fail
  refine (law08_day _ _ _ _).mono ?_
  rintro e w8 ⟨rfl, hb8⟩
  obtain ⟨l0, l1, l2, l3, l4, l5, ll⟩ := keepc6 hb8 l0 l1 l2 l3 l4 l5
  go_wp2_with fail
  refine (HC.out _).mono ?_
  rintro e w9 ⟨rfl, hb9⟩
  obtain ⟨l0, l1, l2, l3, l4, l5, ll⟩ := keepc6 hb9 l0 l1 l2 l3 l4 l5
  have hbW : Below w.heap.size w w9 := by (repeat (first | with_reducible assumption | with_reducible exact bl_refl _ | with_reducible refine bl_alloc ?_ _ | with_reducible refine bl_set ?_ (by simp) _ | with_reducible refine bl_drew ?_ | with_reducible refine bl_drewN ?_ _ | with_reducible refine bl_trans ?_ (by assumption)))
  clear hb1 hb2 hb3 hb4 hb5 hb6 hb7 hb8 hb9
  go_wp2_with fail
  go_region_held3 (fun w' => w'.cell? ⟨w3.heap.size, 0, none⟩ = some (.int .i64 2024) ∧ w'.cell? ⟨w3.heap.size, 1, none⟩ = some (.int .i64 2) ∧ w'.cell? ⟨w3.heap.size, 2, none⟩ = some (.int .i64 29) ∧
      w'.cell? ⟨w3.heap.size, 3, none⟩ = some (.int .i64 0) ∧ w'.cell? ⟨w3.heap.size, 4, none⟩ = some (.bool false) ∧ w'.cell? ⟨w3.heap.size, 5, none⟩ = some (.int .i64 0) ∧ Below w.heap.size w w')
    (((try go_split_ands); (repeat' apply And.intro) <;> (first | (simp [*]; done) | ((repeat (first | with_reducible assumption | with_reducible exact bl_refl _ | with_reducible refine bl_alloc ?_ _ | with_reducible refine bl_set ?_ (by simp) _ | with_reducible refine bl_drew ?_ | with_reducible refine bl_drewN ?_ _ | with_reducible refine bl_trans ?_ (by assumption))); done))))
    ((go_at_call 63; refine (law08_day _ _ _ _).mono ?_; rintro e w' ⟨rfl, hb⟩; have hk := below_keeps hb))
  have hw := (‹_ ∧ _ ∧ _ ∧ _ ∧ _ ∧ _ ∧ Below w.heap.size w _›).2.2.2.2.2.2
  go_wp2_with fail
  go_ret
  exact ⟨rfl, hw⟩

end Go.Proofs.Ytfoblnepbncieaa
