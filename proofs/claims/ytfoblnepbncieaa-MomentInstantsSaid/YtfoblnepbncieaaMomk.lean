/-
  MomentInstants: for every input it returns true.
-/
import Derived.Test.YtfoblnepbncieaaMomi
namespace Go.Proofs.Ytfoblnepbncieaa
open Go.ChangeShapes Go.WideShapes Go.ChangeAt Go.RowKit

theorem of_cases (n s : Int) (z : Bool) (o : Int) :
    ((mayC s z o = false ∨ mayC s z o = true ∧ (n < -18014398509481984 ∨ n > 18014398509481984)) ∧
      ∀ w, Calls Try.prog 52 #[.int .i64 n, .agg #[.int .i64 s, .bool z, .int .i64 o]] w fun e w' => e = .returned (.tuple #[.agg #[.int .i64 0, .int .i64 0, .int .i64 0, .int .i64 0, .bool false, .int .i64 0], .bool false]) ∧ Below w.heap.size w w') ∨
    ∃ Y M D S : Int, mayM Y M D S z o = true ∧ ins Y M D S o = n ∧
      ∀ w, Calls Try.prog 52 #[.int .i64 n, .agg #[.int .i64 s, .bool z, .int .i64 o]] w fun e w' => e = .returned (.tuple #[.agg #[.int .i64 Y, .int .i64 M, .int .i64 D, .int .i64 S, .bool z, .int .i64 o], .bool true]) ∧ Below w.heap.size w w' := by
  by_cases c : -72057594037927936 ≤ n ∧ n ≤ 72057594037927936 ∧ mayC s z o = true
  · obtain ⟨c1, c2, h⟩ := c
    obtain ⟨s1, s2, o1, o2, _⟩ := (mayC_iff s z o).1 h
    cases hb : numB ((n + o) / 86400)
    · left
      refine ⟨Or.inr ⟨h, ?_⟩, fun w => ?_⟩
      · rw [numB_range] at hb
        simp at hb
        omega
      · have := moment_of_yes n s z o c1 c2 h false hb w
        rwa [if_neg (by simp)] at this
    · right
      obtain ⟨a, b⟩ := of_good _ ((n + o) % 86400) z o hb (mayC_sec s _ z o h (by omega) (by omega))
      refine ⟨_, _, _, _, a, ?_, fun w => ?_⟩
      · rw [b]; omega
      · have := moment_of_yes n s z o c1 c2 h true hb w
        rwa [if_pos rfl] at this
  · left
    cases h : mayC s z o
    · refine ⟨Or.inl rfl, fun w => moment_of_no n s z o ?_ w⟩
      by_cases c1 : -72057594037927936 ≤ n
      · by_cases c2 : n ≤ 72057594037927936
        · exact Or.inr (Or.inr ⟨c1, c2, h⟩)
        · exact Or.inr (Or.inl ⟨c1, by omega⟩)
      · exact Or.inl (by omega)
    · have c' : ¬ (-72057594037927936 ≤ n ∧ n ≤ 72057594037927936) := fun q => c ⟨q.1, q.2, h⟩
      refine ⟨Or.inr ⟨rfl, by omega⟩, fun w => moment_of_no n s z o (by omega) w⟩

theorem instant_any (y m d s : Int) (z : Bool) (o : Int) (b : Bool) (h : mayM y m d s z o = b) : ∃ i : Int, (b = false → i = 0) ∧
    ∀ w, Calls Try.prog 51 #[.agg #[.int .i64 y, .int .i64 m, .int .i64 d, .int .i64 s, .bool z, .int .i64 o]] w fun e w' => e = .returned (.tuple #[.int .i64 i, .bool b]) ∧ Below w.heap.size w w' := by
  cases b
  · exact ⟨0, fun _ => rfl, fun w => moment_instant_no y m d s z o h w⟩
  · exact ⟨_, fun h => (by simp at h), fun w => moment_instant_yes y m d s z o h w⟩

set_option maxRecDepth 100000 in
set_option maxHeartbeats 2000000 in
theorem momentInstants_walk (ry rm rd rs ro : Int) (rz : Bool) (y m d s : Int) (z : Bool) (o : Int) (n ls : Int) (lz : Bool) (lo : Int) (w : World)
    (_n0 : (-9223372036854775808 ≤ ry ∧ ry ≤ 9223372036854775807) ∧ (-9223372036854775808 ≤ rm ∧ rm ≤ 9223372036854775807) ∧ (-9223372036854775808 ≤ rd ∧ rd ≤ 9223372036854775807) ∧ (-9223372036854775808 ≤ rs ∧ rs ≤ 9223372036854775807) ∧ -9223372036854775808 ≤ ro ∧ ro ≤ 9223372036854775807)
    (_n1 : (-9223372036854775808 ≤ y ∧ y ≤ 9223372036854775807) ∧ (-9223372036854775808 ≤ m ∧ m ≤ 9223372036854775807) ∧ (-9223372036854775808 ≤ d ∧ d ≤ 9223372036854775807) ∧ (-9223372036854775808 ≤ s ∧ s ≤ 9223372036854775807) ∧ -9223372036854775808 ≤ o ∧ o ≤ 9223372036854775807)
    (_n2 : -9223372036854775808 ≤ n ∧ n ≤ 9223372036854775807)
    (_n3 : (-9223372036854775808 ≤ ls ∧ ls ≤ 9223372036854775807) ∧ -9223372036854775808 ≤ lo ∧ lo ≤ 9223372036854775807) :
    Calls Try.prog 13 #[.agg #[.int .i64 ry, .int .i64 rm, .int .i64 rd, .int .i64 rs, .int .i64 ro, .bool rz], .agg #[.int .i64 y, .int .i64 m, .int .i64 d, .int .i64 s, .bool z, .int .i64 o], .int .i64 n, .agg #[.int .i64 ls, .bool lz, .int .i64 lo]] w fun e w' =>
      e = .returned (.bool true) ∧ Below w.heap.size w w' := by
  clear _n0 _n1 _n2 _n3
  obtain ⟨ay, am, ad, ax, ha, hA⟩ := law08_made ry rm rd rs ro rz
  generalize offM rz ro = ao at *
  have HA := Lib.hid hA
  obtain ⟨ha1, ha2⟩ := (mayM_iff _ _ _ _ _ _).1 ha
  obtain ⟨y1, y2, d1, d2⟩ := (may_iff ay am ad).1 ha1
  obtain ⟨m1, m2, _⟩ := Civ.num_bounds ay am ad d1 d2
  obtain ⟨nn1, nn2⟩ := num_in ay am ad ha1
  obtain ⟨s1, s2, o1, o2, _⟩ := (mayC_iff _ _ _).1 ha2
  have HR := Lib.hid (ref_number ay am ad (by omega) (by omega) m1 m2 d1 (by have := Civ.len_pos ay am m1 m2; omega))
  have HI := Lib.hid (moment_instant_yes ay am ad ax rz ao ha)
  have HO := Lib.hid (of_ins ay am ad ax rz ao ha ax ha2)
  rw [show ins ay am ad ax ao = 86400 * Civ.num ay am ad + ax - ao from rfl] at HI HO
  generalize Civ.num ay am ad = N at *
  obtain ⟨j, hj0, hj⟩ := instant_any y m d s z o _ rfl
  have HJ := Lib.hid hj
  have HM := Lib.hid (moment_may y m d s z o)
  have HD := Lib.hid (civil_may y m d)
  have HT := Lib.hid (clock_may s z o)
  have HL := Lib.hid (clock_may ls lz lo)
  clear hA ha ha1 ha2 d1 d2 hj y1 y2 m1 m2
  have HF := Lib.hid (of_cases n ls lz lo)
  have hmm : mayM y m d s z o = (Civ.may y m d && mayC s z o) := rfl
  generalize mayM y m d s z o = mm at *
  generalize Civ.may y m d = md at *
  generalize mayC s z o = mt at *
  have H3 : (md = false ∧ mm = false) ∨ (md = true ∧ mt = false ∧ mm = false) ∨ (md = true ∧ mt = true ∧ mm = true) := by
    cases md <;> cases mt <;> simp_all
  clear hmm
  have z1 : w.heap.size < w.heap.size + 1 + 1 := by omega
  have z2 : w.heap.size < w.heap.size + 1 + 1 + 1 := by omega
  go_enter Try.func13, Try.ntmps13
  go_wp2_with fail
  refine (law08_awake _).mono ?_
  rintro e w1 ⟨rfl, hb1⟩
  obtain ⟨r0, r1, r2, r3, r4, r5, rl⟩ := keepc6 (b := w.heap.size) (c0 := .int .i64 ry) (c1 := .int .i64 rm) (c2 := .int .i64 rd) (c3 := .int .i64 rs) (c4 := .int .i64 ro) (c5 := .bool rz) hb1 (by simp [go_sem, *]) (by simp [go_sem, *]) (by simp [go_sem, *]) (by simp [go_sem, *]) (by simp [go_sem, *]) (by simp [go_sem, *])
  obtain ⟨m0, m1, m2, m3, m4, m5, ml⟩ := keepc6 (b := w.heap.size + 1) (c0 := .int .i64 y) (c1 := .int .i64 m) (c2 := .int .i64 d) (c3 := .int .i64 s) (c4 := .bool z) (c5 := .int .i64 o) hb1 (by simp [go_sem, *]) (by simp [go_sem, *]) (by simp [go_sem, *]) (by simp [go_sem, *]) (by simp [go_sem, *]) (by simp [go_sem, *])
  obtain ⟨t0, t1, t2, tl⟩ := keepc3 (b := w.heap.size + 1 + 1) (x := .int .i64 ls) (y := .bool lz) (z := .int .i64 lo) hb1 (by simp [go_sem, *]) (by simp [go_sem, *]) (by simp [go_sem, *])
  have hbx : Below w.heap.size w w1 := by (repeat (first | with_reducible assumption | with_reducible exact bl_refl _ | with_reducible refine bl_alloc ?_ _ | with_reducible refine bl_set ?_ (by first | (simp; done) | (simp; omega)) _ | with_reducible refine bl_drew ?_ | with_reducible refine bl_drewN ?_ _ | with_reducible refine bl_trans ?_ (by assumption)))
  clear hb1
  go_wp2_with fail
  refine (HA.out _).mono ?_
  rintro e w2 ⟨rfl, hb2⟩
  obtain ⟨m0, m1, m2, m3, m4, m5, ml⟩ := keepc6 hb2 m0 m1 m2 m3 m4 m5
  obtain ⟨t0, t1, t2, tl⟩ := keepc3 hb2 t0 t1 t2
  have hbx : Below w.heap.size w w2 := by (repeat (first | with_reducible assumption | with_reducible exact bl_refl _ | with_reducible refine bl_alloc ?_ _ | with_reducible refine bl_set ?_ (by first | (simp; done) | (simp; omega)) _ | with_reducible refine bl_drew ?_ | with_reducible refine bl_drewN ?_ _ | with_reducible refine bl_trans ?_ (by assumption)))
  clear hb2
  go_wp2_with fail
  refine (HI.out _).mono ?_
  rintro e w3 ⟨rfl, hb3⟩
  obtain ⟨m0, m1, m2, m3, m4, m5, ml⟩ := keepc6 (b := w.heap.size + 1) (c0 := .int .i64 y) (c1 := .int .i64 m) (c2 := .int .i64 d) (c3 := .int .i64 s) (c4 := .bool z) (c5 := .int .i64 o) hb3 (by simp [go_sem, *]) (by simp [go_sem, *]) (by simp [go_sem, *]) (by simp [go_sem, *]) (by simp [go_sem, *]) (by simp [go_sem, *])
  obtain ⟨a0, a1, a2, a3, a4, a5, al⟩ := keepc6 (b := w2.heap.size) (c0 := .int .i64 ay) (c1 := .int .i64 am) (c2 := .int .i64 ad) (c3 := .int .i64 ax) (c4 := .bool rz) (c5 := .int .i64 ao) hb3 (by simp [go_sem, *]) (by simp [go_sem, *]) (by simp [go_sem, *]) (by simp [go_sem, *]) (by simp [go_sem, *]) (by simp [go_sem, *])
  obtain ⟨t0, t1, t2, tl⟩ := keepc3 (b := w.heap.size + 1 + 1) (x := .int .i64 ls) (y := .bool lz) (z := .int .i64 lo) hb3 (by simp [go_sem, *]) (by simp [go_sem, *]) (by simp [go_sem, *])
  have hbx : Below w.heap.size w w3 := by (repeat (first | with_reducible assumption | with_reducible exact bl_refl _ | with_reducible refine bl_alloc ?_ _ | with_reducible refine bl_set ?_ (by first | (simp; done) | (simp; omega)) _ | with_reducible refine bl_drew ?_ | with_reducible refine bl_drewN ?_ _ | with_reducible refine bl_trans ?_ (by assumption)))
  clear hb3
  have W1 : IntKind.i64.wrap (86400 * N) = 86400 * N := IntWalk.i64_in _ (by omega)
  have W2 : IntKind.i64.wrap (86400 * N + ax) = 86400 * N + ax := IntWalk.i64_in _ (by omega)
  have W3 : IntKind.i64.wrap (86400 * N + ax - ao) = 86400 * N + ax - ao := IntWalk.i64_in _ (by omega)
  go_upto_region 5 with fail
  go_region_held3 (fun w' => w'.cell? ⟨w2.heap.size, 0, none⟩ = some (.int .i64 ay) ∧ w'.cell? ⟨w2.heap.size, 1, none⟩ = some (.int .i64 am) ∧ w'.cell? ⟨w2.heap.size, 2, none⟩ = some (.int .i64 ad) ∧ w'.cell? ⟨w2.heap.size, 3, none⟩ = some (.int .i64 ax) ∧ w'.cell? ⟨w2.heap.size, 4, none⟩ = some (.bool rz) ∧ w'.cell? ⟨w2.heap.size, 5, none⟩ = some (.int .i64 ao) ∧ w'.cell? ⟨w.heap.size + 1, 0, none⟩ = some (.int .i64 y) ∧ w'.cell? ⟨w.heap.size + 1, 1, none⟩ = some (.int .i64 m) ∧ w'.cell? ⟨w.heap.size + 1, 2, none⟩ = some (.int .i64 d) ∧ w'.cell? ⟨w.heap.size + 1, 3, none⟩ = some (.int .i64 s) ∧ w'.cell? ⟨w.heap.size + 1, 4, none⟩ = some (.bool z) ∧ w'.cell? ⟨w.heap.size + 1, 5, none⟩ = some (.int .i64 o) ∧
      (w'.cell? ⟨w.heap.size + 1 + 1, 0, none⟩ = some (.int .i64 ls) ∧ w'.cell? ⟨w.heap.size + 1 + 1, 1, none⟩ = some (.bool lz) ∧ w'.cell? ⟨w.heap.size + 1 + 1, 2, none⟩ = some (.int .i64 lo)) ∧ Below w.heap.size w w')
    (((try go_split_ands); (repeat' apply And.intro) <;> (first | (simp [*]; done) | ((repeat (first | with_reducible assumption | with_reducible exact bl_refl _ | with_reducible refine bl_alloc ?_ _ | with_reducible refine bl_set ?_ (by simp) _ | with_reducible refine bl_drew ?_ | with_reducible refine bl_drewN ?_ _ | with_reducible refine bl_trans ?_ (by assumption))); done))))
    ((go_at_call 42; refine (HR.out _).mono ?_; rintro e w' ⟨rfl, rfl⟩))
  obtain ⟨a0, a1, a2, a3, a4, a5, m0, m1, m2, m3, m4, m5, ⟨t0, t1, t2⟩, hbx⟩ := ‹_ ∧ _ ∧ _ ∧ _ ∧ _ ∧ _ ∧ _ ∧ _ ∧ _ ∧ _ ∧ _ ∧ _ ∧ (_ ∧ _ ∧ _) ∧ Below w.heap.size w _›
  clear W1 W2 W3
  have ml := lt_of_cell m0
  have al := lt_of_cell a0
  have tl := lt_of_cell t0
  go_wp2_with fail
  refine (HO.out _).mono ?_
  rintro e w4 ⟨rfl, hb4⟩
  obtain ⟨a0, a1, a2, a3, a4, a5, al⟩ := keepc6 (b := w2.heap.size) (c0 := .int .i64 ay) (c1 := .int .i64 am) (c2 := .int .i64 ad) (c3 := .int .i64 ax) (c4 := .bool rz) (c5 := .int .i64 ao) hb4 (by simp [go_sem, *]) (by simp [go_sem, *]) (by simp [go_sem, *]) (by simp [go_sem, *]) (by simp [go_sem, *]) (by simp [go_sem, *])
  obtain ⟨m0, m1, m2, m3, m4, m5, ml⟩ := keepc6 hb4 m0 m1 m2 m3 m4 m5
  obtain ⟨t0, t1, t2, tl⟩ := keepc3 hb4 t0 t1 t2
  have hbx : Below w.heap.size w w4 := by (repeat (first | with_reducible assumption | with_reducible exact bl_refl _ | with_reducible refine bl_alloc ?_ _ | with_reducible refine bl_set ?_ (by first | (simp; done) | (simp; omega)) _ | with_reducible refine bl_drew ?_ | with_reducible refine bl_drewN ?_ _ | with_reducible refine bl_trans ?_ (by assumption)))
  clear hb4
  go_wp2_with fail
  refine (HJ.out _).mono ?_
  rintro e w5 ⟨rfl, hb5⟩
  obtain ⟨m0, m1, m2, m3, m4, m5, ml⟩ := keepc6 (b := w.heap.size + 1) (c0 := .int .i64 y) (c1 := .int .i64 m) (c2 := .int .i64 d) (c3 := .int .i64 s) (c4 := .bool z) (c5 := .int .i64 o) hb5 (by simp [go_sem, *]) (by simp [go_sem, *]) (by simp [go_sem, *]) (by simp [go_sem, *]) (by simp [go_sem, *]) (by simp [go_sem, *])
  obtain ⟨t0, t1, t2, tl⟩ := keepc3 (b := w.heap.size + 1 + 1) (x := .int .i64 ls) (y := .bool lz) (z := .int .i64 lo) hb5 (by simp [go_sem, *]) (by simp [go_sem, *]) (by simp [go_sem, *])
  have hbx : Below w.heap.size w w5 := by (repeat (first | with_reducible assumption | with_reducible exact bl_refl _ | with_reducible refine bl_alloc ?_ _ | with_reducible refine bl_set ?_ (by first | (simp; done) | (simp; omega)) _ | with_reducible refine bl_drew ?_ | with_reducible refine bl_drewN ?_ _ | with_reducible refine bl_trans ?_ (by assumption)))
  clear hb5
  go_upto_region 11 with fail
  go_cut [97] (fun s97 wx => s97 = .bool false ∧ wx.cell? ⟨w.heap.size + 1 + 1, 0, none⟩ = some (.int .i64 ls) ∧ wx.cell? ⟨w.heap.size + 1 + 1, 1, none⟩ = some (.bool lz) ∧ wx.cell? ⟨w.heap.size + 1 + 1, 2, none⟩ = some (.int .i64 lo) ∧ Below w.heap.size w wx)
  case first =>
    rcases H3 with ⟨rfl, rfl⟩ | ⟨rfl, rfl, rfl⟩ | ⟨rfl, rfl, rfl⟩
    · have hj1 := hj0 rfl
      subst hj1
      refine wp_region_held_drew (S := (fun w' => w'.cell? ⟨w.heap.size + 1, 0, none⟩ = some (.int .i64 y) ∧ w'.cell? ⟨w.heap.size + 1, 1, none⟩ = some (.int .i64 m) ∧ w'.cell? ⟨w.heap.size + 1, 2, none⟩ = some (.int .i64 d) ∧ w'.cell? ⟨w.heap.size + 1, 3, none⟩ = some (.int .i64 s) ∧ w'.cell? ⟨w.heap.size + 1, 4, none⟩ = some (.bool z) ∧ w'.cell? ⟨w.heap.size + 1, 5, none⟩ = some (.int .i64 o) ∧ w'.cell? ⟨w.heap.size + 1 + 1, 0, none⟩ = some (.int .i64 ls) ∧ w'.cell? ⟨w.heap.size + 1 + 1, 1, none⟩ = some (.bool lz) ∧ w'.cell? ⟨w.heap.size + 1 + 1, 2, none⟩ = some (.int .i64 lo) ∧ Below w.heap.size w w')) (by kernel_rfl) ?_ (fun hHeld => ?_); (· ((try dsimp only); (try go_split_ands); (repeat' apply And.intro) <;> (first | (simp [*]; done) | (repeat (first | with_reducible assumption | with_reducible exact bl_refl _ | with_reducible refine bl_alloc ?_ _ | with_reducible refine bl_set ?_ (by first | (simp; done) | (simp; omega)) _ | with_reducible refine bl_drew ?_ | with_reducible refine bl_drewN ?_ _ | with_reducible refine bl_trans ?_ (by assumption))))))
      refine wpAnyH_take (i := 0) (oi := ?oi1) (v := ?v1) ?h1 (by kernel_rfl) (by kernel_rfl) (by kernel_rfl) ?hQ1 ?hy1 (by assumption) ?_; (case h1 => (simp only [List.getElem?_toArray, List.getElem?_cons_zero]; exact rfl)); (case hQ1 => exact fun _ _ _ h => h); (case hy1 => (refine Or.inl ⟨by rfl, ?_⟩; intro w hSw; (try dsimp only at hSw); go_simp; try with_reducible rfl)); try simp only [Act.put, List.setIfInBounds_toArray, List.set_cons_zero, List.set_cons_succ]
      refine wpAnyH_take (i := 1) (oi := ?oi2) (v := ?v2) ?h2 (by kernel_rfl) (by kernel_rfl) (by kernel_rfl) ?hQ2 ?hy2 (by assumption) ?_; (case h2 => (simp only [List.getElem?_toArray, List.getElem?_cons_succ, List.getElem?_cons_zero]; exact rfl)); (case hQ2 => exact fun _ _ _ h => h); (case hy2 => (refine Or.inl ⟨by rfl, ?_⟩; intro w hSw; (try dsimp only at hSw); go_simp; try with_reducible rfl)); try simp only [Act.put, List.setIfInBounds_toArray, List.set_cons_zero, List.set_cons_succ]
      refine wpAnyH_ready (rs := [2]) (by kernel_rfl) (by simp) ?_; refine AllReadyH.cons (o := ?oi3) ?h3 (fun K hK => ?_) AllReadyH.nil; (case h3 => (simp only [List.getElem?_toArray, List.getElem?_cons_succ, List.getElem?_cons_zero]; exact rfl)); go_simp; (refine (HM.out _).mono ?_; rintro e w9 ⟨rfl, hb⟩; have hk := below_keeps hb); refine hK.out _ _ ?_ (fun hNew => ?_); (· ((try dsimp only); (try go_split_ands); (repeat' apply And.intro) <;> (first | exact hk _ _ _ (by assumption) | (repeat (first | with_reducible assumption | with_reducible exact bl_refl _ | with_reducible refine bl_alloc ?_ _ | with_reducible refine bl_set ?_ (by simp) _ | with_reducible refine bl_drew ?_ | with_reducible refine bl_drewN ?_ _ | with_reducible refine bl_trans ?_ (by assumption)))))); clear hK K hHeld; revert hNew; intro hHeld; try simp only [Act.put, List.setIfInBounds_toArray, List.set_cons_zero, List.set_cons_succ]
      refine wpAnyH_take (i := 3) (oi := ?oi4) (v := ?v4) ?h4 (by kernel_rfl) (by kernel_rfl) (by kernel_rfl) ?hQ4 ?hy4 (by assumption) ?_; (case h4 => (simp only [List.getElem?_toArray, List.getElem?_cons_succ, List.getElem?_cons_zero]; exact rfl)); (case hQ4 => exact fun _ _ _ h => h); (case hy4 => (refine Or.inl ⟨by rfl, ?_⟩; intro w hSw; (try dsimp only at hSw); go_simp; try with_reducible rfl)); try simp only [Act.put, List.setIfInBounds_toArray, List.set_cons_zero, List.set_cons_succ]
      refine wpAnyH_take (i := 4) (oi := ?oi5) (v := ?v5) ?h5 (by kernel_rfl) (by kernel_rfl) (by kernel_rfl) ?hQ5 ?hy5 (by assumption) ?_; (case h5 => (simp only [List.getElem?_toArray, List.getElem?_cons_succ, List.getElem?_cons_zero]; exact rfl)); (case hQ5 => exact fun _ _ _ h => h); (case hy5 => (refine Or.inl ⟨by rfl, ?_⟩; intro w hSw; (try dsimp only at hSw); go_simp; try with_reducible rfl)); try simp only [Act.put, List.setIfInBounds_toArray, List.set_cons_zero, List.set_cons_succ]
      refine wpAnyH_take (i := 5) (oi := ?oi6) (v := ?v6) ?h6 (by kernel_rfl) (by kernel_rfl) (by kernel_rfl) ?hQ6 ?hy6 (by assumption) ?_; (case h6 => (simp only [List.getElem?_toArray, List.getElem?_cons_succ, List.getElem?_cons_zero]; exact rfl)); (case hQ6 => exact fun _ _ _ h => h); (case hy6 => (refine Or.inl ⟨by rfl, ?_⟩; intro w hSw; (try dsimp only at hSw); go_simp; try with_reducible rfl)); try simp only [Act.put, List.setIfInBounds_toArray, List.set_cons_zero, List.set_cons_succ]
      refine wpAnyH_take (i := 6) (oi := ?oi7) (v := ?v7) ?h7 (by kernel_rfl) (by kernel_rfl) (by kernel_rfl) ?hQ7 ?hy7 (by assumption) ?_; (case h7 => (simp only [List.getElem?_toArray, List.getElem?_cons_succ, List.getElem?_cons_zero]; exact rfl)); (case hQ7 => exact fun _ _ _ h => h); (case hy7 => (refine Or.inl ⟨by rfl, ?_⟩; intro w hSw; (try dsimp only at hSw); go_simp; try with_reducible rfl)); try simp only [Act.put, List.setIfInBounds_toArray, List.set_cons_zero, List.set_cons_succ]
      refine wpAnyH_take (i := 7) (oi := ?oi8) (v := ?v8) ?h8 (by kernel_rfl) (by kernel_rfl) (by kernel_rfl) ?hQ8 ?hy8 (by assumption) ?_; (case h8 => (simp only [List.getElem?_toArray, List.getElem?_cons_succ, List.getElem?_cons_zero]; exact rfl)); (case hQ8 => exact fun _ _ _ h => h); (case hy8 => (refine Or.inl ⟨by rfl, ?_⟩; intro w hSw; (try dsimp only at hSw); go_simp; try with_reducible rfl)); try simp only [Act.put, List.setIfInBounds_toArray, List.set_cons_zero, List.set_cons_succ]
      refine wpAnyH_take (i := 8) (oi := ?oi9) (v := ?v9) ?h9 (by kernel_rfl) (by kernel_rfl) (by kernel_rfl) ?hQ9 ?hy9 (by assumption) ?_; (case h9 => (simp only [List.getElem?_toArray, List.getElem?_cons_succ, List.getElem?_cons_zero]; exact rfl)); (case hQ9 => exact fun _ _ _ h => h); (case hy9 => (refine Or.inl ⟨by rfl, ?_⟩; intro w hSw; (try dsimp only at hSw); go_simp; try with_reducible rfl)); try simp only [Act.put, List.setIfInBounds_toArray, List.set_cons_zero, List.set_cons_succ]
      refine wpAnyH_take (i := 9) (oi := ?oi10) (v := ?v10) ?h10 (by kernel_rfl) (by kernel_rfl) (by kernel_rfl) ?hQ10 ?hy10 (by assumption) ?_; (case h10 => (simp only [List.getElem?_toArray, List.getElem?_cons_succ, List.getElem?_cons_zero]; exact rfl)); (case hQ10 => exact fun _ _ _ h => h); (case hy10 => (refine Or.inl ⟨by rfl, ?_⟩; intro w hSw; (try dsimp only at hSw); go_simp; try with_reducible rfl)); try simp only [Act.put, List.setIfInBounds_toArray, List.set_cons_zero, List.set_cons_succ]
      refine wpAnyH_take (i := 10) (oi := ?oi11) (v := ?v11) ?h11 (by kernel_rfl) (by kernel_rfl) (by kernel_rfl) ?hQ11 ?hy11 (by assumption) ?_; (case h11 => (simp only [List.getElem?_toArray, List.getElem?_cons_succ, List.getElem?_cons_zero]; exact rfl)); (case hQ11 => exact fun _ _ _ h => h); (case hy11 => (refine Or.inl ⟨by rfl, ?_⟩; intro w hSw; (try dsimp only at hSw); go_simp; try with_reducible rfl)); try simp only [Act.put, List.setIfInBounds_toArray, List.set_cons_zero, List.set_cons_succ]
      refine wpAnyH_take (i := 11) (oi := ?oi12) (v := ?v12) ?h12 (by kernel_rfl) (by kernel_rfl) (by kernel_rfl) ?hQ12 ?hy12 (by assumption) ?_; (case h12 => (simp only [List.getElem?_toArray, List.getElem?_cons_succ, List.getElem?_cons_zero]; exact rfl)); (case hQ12 => exact fun _ _ _ h => h); (case hy12 => (refine Or.inl ⟨by rfl, ?_⟩; intro w hSw; (try dsimp only at hSw); go_simp; try with_reducible rfl)); try simp only [Act.put, List.setIfInBounds_toArray, List.set_cons_zero, List.set_cons_succ]
      refine wpAnyH_take (i := 12) (oi := ?oi13) (v := ?v13) ?h13 (by kernel_rfl) (by kernel_rfl) (by kernel_rfl) ?hQ13 ?hy13 (by assumption) ?_; (case h13 => (simp only [List.getElem?_toArray, List.getElem?_cons_succ, List.getElem?_cons_zero]; exact rfl)); (case hQ13 => exact fun _ _ _ h => h); (case hy13 => (refine Or.inl ⟨by rfl, ?_⟩; intro w hSw; (try dsimp only at hSw); go_simp; try with_reducible rfl)); try simp only [Act.put, List.setIfInBounds_toArray, List.set_cons_zero, List.set_cons_succ]
      refine wpAnyH_take (i := 13) (oi := ?oi14) (v := ?v14) ?h14 (by kernel_rfl) (by kernel_rfl) (by kernel_rfl) ?hQ14 ?hy14 (by assumption) ?_; (case h14 => (simp only [List.getElem?_toArray, List.getElem?_cons_succ, List.getElem?_cons_zero]; exact rfl)); (case hQ14 => exact fun _ _ _ h => h); (case hy14 => (refine Or.inl ⟨by rfl, ?_⟩; intro w hSw; (try dsimp only at hSw); go_simp; try with_reducible rfl)); try simp only [Act.put, List.setIfInBounds_toArray, List.set_cons_zero, List.set_cons_succ]
      refine wpAnyH_take (i := 15) (oi := ?oi15) (v := ?v15) ?h15 (by kernel_rfl) (by kernel_rfl) (by kernel_rfl) ?hQ15 ?hy15 (by assumption) ?_; (case h15 => (simp only [List.getElem?_toArray, List.getElem?_cons_succ, List.getElem?_cons_zero]; exact rfl)); (case hQ15 => exact fun _ _ _ h => h); (case hy15 => (refine Or.inl ⟨by rfl, ?_⟩; intro w hSw; (try dsimp only at hSw); go_simp; try with_reducible rfl)); try simp only [Act.put, List.setIfInBounds_toArray, List.set_cons_zero, List.set_cons_succ]
      refine wpAnyH_take (i := 16) (oi := ?oi16) (v := ?v16) ?h16 (by kernel_rfl) (by kernel_rfl) (by kernel_rfl) ?hQ16 ?hy16 (by assumption) ?_; (case h16 => (simp only [List.getElem?_toArray, List.getElem?_cons_succ, List.getElem?_cons_zero]; exact rfl)); (case hQ16 => exact fun _ _ _ h => h); (case hy16 => (refine Or.inl ⟨by rfl, ?_⟩; intro w hSw; (try dsimp only at hSw); go_simp; try with_reducible rfl)); try simp only [Act.put, List.setIfInBounds_toArray, List.set_cons_zero, List.set_cons_succ]
      refine wpAnyH_ready (rs := [14]) (by kernel_rfl) (by simp) ?_; refine AllReadyH.cons (o := ?oi17) ?h17 (fun K hK => ?_) AllReadyH.nil; (case h17 => (simp only [List.getElem?_toArray, List.getElem?_cons_succ, List.getElem?_cons_zero]; exact rfl)); go_simp; (refine (HM.out _).mono ?_; rintro e w9 ⟨rfl, hb⟩; have hk := below_keeps hb); refine hK.out _ _ ?_ (fun hNew => ?_); (· ((try dsimp only); (try go_split_ands); (repeat' apply And.intro) <;> (first | exact hk _ _ _ (by assumption) | (repeat (first | with_reducible assumption | with_reducible exact bl_refl _ | with_reducible refine bl_alloc ?_ _ | with_reducible refine bl_set ?_ (by simp) _ | with_reducible refine bl_drew ?_ | with_reducible refine bl_drewN ?_ _ | with_reducible refine bl_trans ?_ (by assumption)))))); clear hK K hHeld; revert hNew; intro hHeld; try simp only [Act.put, List.setIfInBounds_toArray, List.set_cons_zero, List.set_cons_succ]
      refine wpAnyH_ready (rs := [17]) (by kernel_rfl) (by simp) ?_; refine AllReadyH.cons (o := ?oi18) ?h18 (fun K hK => ?_) AllReadyH.nil; (case h18 => (simp only [List.getElem?_toArray, List.getElem?_cons_succ, List.getElem?_cons_zero]; exact rfl)); go_simp; (refine (HD.out _).mono ?_; rintro e w9 ⟨rfl, hb⟩; have hk := below_keeps hb); refine hK.out _ _ ?_ (fun hNew => ?_); (· ((try dsimp only); (try go_split_ands); (repeat' apply And.intro) <;> (first | exact hk _ _ _ (by assumption) | (repeat (first | with_reducible assumption | with_reducible exact bl_refl _ | with_reducible refine bl_alloc ?_ _ | with_reducible refine bl_set ?_ (by simp) _ | with_reducible refine bl_drew ?_ | with_reducible refine bl_drewN ?_ _ | with_reducible refine bl_trans ?_ (by assumption)))))); clear hK K hHeld; revert hNew; intro hHeld; try simp only [Act.put, List.setIfInBounds_toArray, List.set_cons_zero, List.set_cons_succ]
      refine wpAnyH_take (i := 18) (oi := ?oi19) (v := ?v19) ?h19 (by kernel_rfl) (by kernel_rfl) (by kernel_rfl) ?hQ19 ?hy19 (by assumption) ?_; (case h19 => (simp only [List.getElem?_toArray, List.getElem?_cons_succ, List.getElem?_cons_zero]; exact rfl)); (case hQ19 => exact fun _ _ _ h => h); (case hy19 => (refine Or.inl ⟨by rfl, ?_⟩; intro w hSw; (try dsimp only at hSw); go_simp; try with_reducible rfl)); try simp only [Act.put, List.setIfInBounds_toArray, List.set_cons_zero, List.set_cons_succ]
      refine wpAnyH_take (i := 19) (oi := ?oi20) (v := undef) ?h20 (by kernel_rfl) (by kernel_rfl) (by kernel_rfl) ?hQ20 ?hy20 (by assumption) ?_; (case h20 => (simp only [List.getElem?_toArray, List.getElem?_cons_succ, List.getElem?_cons_zero]; exact rfl)); (case hQ20 => exact fun _ _ _ h => h); (case hy20 => exact Or.inr ⟨by rfl, rfl⟩); try simp only [Act.put, List.setIfInBounds_toArray, List.set_cons_zero, List.set_cons_succ]
      refine wpAnyH_take (i := 20) (oi := ?oi21) (v := undef) ?h21 (by kernel_rfl) (by kernel_rfl) (by kernel_rfl) ?hQ21 ?hy21 (by assumption) ?_; (case h21 => (simp only [List.getElem?_toArray, List.getElem?_cons_succ, List.getElem?_cons_zero]; exact rfl)); (case hQ21 => exact fun _ _ _ h => h); (case hy21 => exact Or.inr ⟨by rfl, rfl⟩); try simp only [Act.put, List.setIfInBounds_toArray, List.set_cons_zero, List.set_cons_succ]
      refine wpAnyH_take (i := 21) (oi := ?oi22) (v := undef) ?h22 (by kernel_rfl) (by kernel_rfl) (by kernel_rfl) ?hQ22 ?hy22 (by assumption) ?_; (case h22 => (simp only [List.getElem?_toArray, List.getElem?_cons_succ, List.getElem?_cons_zero]; exact rfl)); (case hQ22 => exact fun _ _ _ h => h); (case hy22 => exact Or.inr ⟨by rfl, rfl⟩); try simp only [Act.put, List.setIfInBounds_toArray, List.set_cons_zero, List.set_cons_succ]
      refine wpAnyH_take (i := 22) (oi := ?oi23) (v := ?v23) ?h23 (by kernel_rfl) (by kernel_rfl) (by kernel_rfl) ?hQ23 ?hy23 (by assumption) ?_; (case h23 => (simp only [List.getElem?_toArray, List.getElem?_cons_succ, List.getElem?_cons_zero]; exact rfl)); (case hQ23 => exact fun _ _ _ h => h); (case hy23 => (refine Or.inl ⟨by rfl, ?_⟩; intro w hSw; (try dsimp only at hSw); go_simp; try with_reducible rfl)); try simp only [Act.put, List.setIfInBounds_toArray, List.set_cons_zero, List.set_cons_succ]
      refine wpAnyH_take (i := 23) (oi := ?oi24) (v := ?v24) ?h24 (by kernel_rfl) (by kernel_rfl) (by kernel_rfl) ?hQ24 ?hy24 (by assumption) ?_; (case h24 => (simp only [List.getElem?_toArray, List.getElem?_cons_succ, List.getElem?_cons_zero]; exact rfl)); (case hQ24 => exact fun _ _ _ h => h); (case hy24 => (refine Or.inl ⟨by rfl, ?_⟩; intro w hSw; (try dsimp only at hSw); go_simp; try with_reducible rfl)); try simp only [Act.put, List.setIfInBounds_toArray, List.set_cons_zero, List.set_cons_succ]
      refine wpAnyH_take (i := 24) (oi := ?oi25) (v := ?v25) ?h25 (by kernel_rfl) (by kernel_rfl) (by kernel_rfl) ?hQ25 ?hy25 (by assumption) ?_; (case h25 => (simp only [List.getElem?_toArray, List.getElem?_cons_succ, List.getElem?_cons_zero]; exact rfl)); (case hQ25 => exact fun _ _ _ h => h); (case hy25 => (refine Or.inl ⟨by rfl, ?_⟩; intro w hSw; (try dsimp only at hSw); go_simp; try with_reducible rfl)); try simp only [Act.put, List.setIfInBounds_toArray, List.set_cons_zero, List.set_cons_succ]
      refine wpAnyH_done (by kernel_rfl) ?_ _
      try dsimp only at hHeld
      obtain ⟨_, _, _, _, _, _, t0, t1, t2, hbx⟩ := hHeld
      go_wp2_with fail
      go_meet
      exact ⟨rfl, t0, t1, t2, hbx⟩
    · have hj1 := hj0 rfl
      subst hj1
      refine wp_region_held_drew (S := (fun w' => w'.cell? ⟨w.heap.size + 1, 0, none⟩ = some (.int .i64 y) ∧ w'.cell? ⟨w.heap.size + 1, 1, none⟩ = some (.int .i64 m) ∧ w'.cell? ⟨w.heap.size + 1, 2, none⟩ = some (.int .i64 d) ∧ w'.cell? ⟨w.heap.size + 1, 3, none⟩ = some (.int .i64 s) ∧ w'.cell? ⟨w.heap.size + 1, 4, none⟩ = some (.bool z) ∧ w'.cell? ⟨w.heap.size + 1, 5, none⟩ = some (.int .i64 o) ∧ w'.cell? ⟨w.heap.size + 1 + 1, 0, none⟩ = some (.int .i64 ls) ∧ w'.cell? ⟨w.heap.size + 1 + 1, 1, none⟩ = some (.bool lz) ∧ w'.cell? ⟨w.heap.size + 1 + 1, 2, none⟩ = some (.int .i64 lo) ∧ Below w.heap.size w w')) (by kernel_rfl) ?_ (fun hHeld => ?_); (· ((try dsimp only); (try go_split_ands); (repeat' apply And.intro) <;> (first | (simp [*]; done) | (repeat (first | with_reducible assumption | with_reducible exact bl_refl _ | with_reducible refine bl_alloc ?_ _ | with_reducible refine bl_set ?_ (by first | (simp; done) | (simp; omega)) _ | with_reducible refine bl_drew ?_ | with_reducible refine bl_drewN ?_ _ | with_reducible refine bl_trans ?_ (by assumption))))))
      refine wpAnyH_take (i := 0) (oi := ?oi26) (v := ?v26) ?h26 (by kernel_rfl) (by kernel_rfl) (by kernel_rfl) ?hQ26 ?hy26 (by assumption) ?_; (case h26 => (simp only [List.getElem?_toArray, List.getElem?_cons_zero]; exact rfl)); (case hQ26 => exact fun _ _ _ h => h); (case hy26 => (refine Or.inl ⟨by rfl, ?_⟩; intro w hSw; (try dsimp only at hSw); go_simp; try with_reducible rfl)); try simp only [Act.put, List.setIfInBounds_toArray, List.set_cons_zero, List.set_cons_succ]
      refine wpAnyH_take (i := 1) (oi := ?oi27) (v := ?v27) ?h27 (by kernel_rfl) (by kernel_rfl) (by kernel_rfl) ?hQ27 ?hy27 (by assumption) ?_; (case h27 => (simp only [List.getElem?_toArray, List.getElem?_cons_succ, List.getElem?_cons_zero]; exact rfl)); (case hQ27 => exact fun _ _ _ h => h); (case hy27 => (refine Or.inl ⟨by rfl, ?_⟩; intro w hSw; (try dsimp only at hSw); go_simp; try with_reducible rfl)); try simp only [Act.put, List.setIfInBounds_toArray, List.set_cons_zero, List.set_cons_succ]
      refine wpAnyH_ready (rs := [2]) (by kernel_rfl) (by simp) ?_; refine AllReadyH.cons (o := ?oi28) ?h28 (fun K hK => ?_) AllReadyH.nil; (case h28 => (simp only [List.getElem?_toArray, List.getElem?_cons_succ, List.getElem?_cons_zero]; exact rfl)); go_simp; (refine (HM.out _).mono ?_; rintro e w9 ⟨rfl, hb⟩; have hk := below_keeps hb); refine hK.out _ _ ?_ (fun hNew => ?_); (· ((try dsimp only); (try go_split_ands); (repeat' apply And.intro) <;> (first | exact hk _ _ _ (by assumption) | (repeat (first | with_reducible assumption | with_reducible exact bl_refl _ | with_reducible refine bl_alloc ?_ _ | with_reducible refine bl_set ?_ (by simp) _ | with_reducible refine bl_drew ?_ | with_reducible refine bl_drewN ?_ _ | with_reducible refine bl_trans ?_ (by assumption)))))); clear hK K hHeld; revert hNew; intro hHeld; try simp only [Act.put, List.setIfInBounds_toArray, List.set_cons_zero, List.set_cons_succ]
      refine wpAnyH_take (i := 3) (oi := ?oi29) (v := ?v29) ?h29 (by kernel_rfl) (by kernel_rfl) (by kernel_rfl) ?hQ29 ?hy29 (by assumption) ?_; (case h29 => (simp only [List.getElem?_toArray, List.getElem?_cons_succ, List.getElem?_cons_zero]; exact rfl)); (case hQ29 => exact fun _ _ _ h => h); (case hy29 => (refine Or.inl ⟨by rfl, ?_⟩; intro w hSw; (try dsimp only at hSw); go_simp; try with_reducible rfl)); try simp only [Act.put, List.setIfInBounds_toArray, List.set_cons_zero, List.set_cons_succ]
      refine wpAnyH_take (i := 4) (oi := ?oi30) (v := ?v30) ?h30 (by kernel_rfl) (by kernel_rfl) (by kernel_rfl) ?hQ30 ?hy30 (by assumption) ?_; (case h30 => (simp only [List.getElem?_toArray, List.getElem?_cons_succ, List.getElem?_cons_zero]; exact rfl)); (case hQ30 => exact fun _ _ _ h => h); (case hy30 => (refine Or.inl ⟨by rfl, ?_⟩; intro w hSw; (try dsimp only at hSw); go_simp; try with_reducible rfl)); try simp only [Act.put, List.setIfInBounds_toArray, List.set_cons_zero, List.set_cons_succ]
      refine wpAnyH_take (i := 5) (oi := ?oi31) (v := ?v31) ?h31 (by kernel_rfl) (by kernel_rfl) (by kernel_rfl) ?hQ31 ?hy31 (by assumption) ?_; (case h31 => (simp only [List.getElem?_toArray, List.getElem?_cons_succ, List.getElem?_cons_zero]; exact rfl)); (case hQ31 => exact fun _ _ _ h => h); (case hy31 => (refine Or.inl ⟨by rfl, ?_⟩; intro w hSw; (try dsimp only at hSw); go_simp; try with_reducible rfl)); try simp only [Act.put, List.setIfInBounds_toArray, List.set_cons_zero, List.set_cons_succ]
      refine wpAnyH_take (i := 6) (oi := ?oi32) (v := ?v32) ?h32 (by kernel_rfl) (by kernel_rfl) (by kernel_rfl) ?hQ32 ?hy32 (by assumption) ?_; (case h32 => (simp only [List.getElem?_toArray, List.getElem?_cons_succ, List.getElem?_cons_zero]; exact rfl)); (case hQ32 => exact fun _ _ _ h => h); (case hy32 => (refine Or.inl ⟨by rfl, ?_⟩; intro w hSw; (try dsimp only at hSw); go_simp; try with_reducible rfl)); try simp only [Act.put, List.setIfInBounds_toArray, List.set_cons_zero, List.set_cons_succ]
      refine wpAnyH_take (i := 7) (oi := ?oi33) (v := ?v33) ?h33 (by kernel_rfl) (by kernel_rfl) (by kernel_rfl) ?hQ33 ?hy33 (by assumption) ?_; (case h33 => (simp only [List.getElem?_toArray, List.getElem?_cons_succ, List.getElem?_cons_zero]; exact rfl)); (case hQ33 => exact fun _ _ _ h => h); (case hy33 => (refine Or.inl ⟨by rfl, ?_⟩; intro w hSw; (try dsimp only at hSw); go_simp; try with_reducible rfl)); try simp only [Act.put, List.setIfInBounds_toArray, List.set_cons_zero, List.set_cons_succ]
      refine wpAnyH_take (i := 8) (oi := ?oi34) (v := ?v34) ?h34 (by kernel_rfl) (by kernel_rfl) (by kernel_rfl) ?hQ34 ?hy34 (by assumption) ?_; (case h34 => (simp only [List.getElem?_toArray, List.getElem?_cons_succ, List.getElem?_cons_zero]; exact rfl)); (case hQ34 => exact fun _ _ _ h => h); (case hy34 => (refine Or.inl ⟨by rfl, ?_⟩; intro w hSw; (try dsimp only at hSw); go_simp; try with_reducible rfl)); try simp only [Act.put, List.setIfInBounds_toArray, List.set_cons_zero, List.set_cons_succ]
      refine wpAnyH_take (i := 9) (oi := ?oi35) (v := ?v35) ?h35 (by kernel_rfl) (by kernel_rfl) (by kernel_rfl) ?hQ35 ?hy35 (by assumption) ?_; (case h35 => (simp only [List.getElem?_toArray, List.getElem?_cons_succ, List.getElem?_cons_zero]; exact rfl)); (case hQ35 => exact fun _ _ _ h => h); (case hy35 => (refine Or.inl ⟨by rfl, ?_⟩; intro w hSw; (try dsimp only at hSw); go_simp; try with_reducible rfl)); try simp only [Act.put, List.setIfInBounds_toArray, List.set_cons_zero, List.set_cons_succ]
      refine wpAnyH_take (i := 10) (oi := ?oi36) (v := ?v36) ?h36 (by kernel_rfl) (by kernel_rfl) (by kernel_rfl) ?hQ36 ?hy36 (by assumption) ?_; (case h36 => (simp only [List.getElem?_toArray, List.getElem?_cons_succ, List.getElem?_cons_zero]; exact rfl)); (case hQ36 => exact fun _ _ _ h => h); (case hy36 => (refine Or.inl ⟨by rfl, ?_⟩; intro w hSw; (try dsimp only at hSw); go_simp; try with_reducible rfl)); try simp only [Act.put, List.setIfInBounds_toArray, List.set_cons_zero, List.set_cons_succ]
      refine wpAnyH_take (i := 11) (oi := ?oi37) (v := ?v37) ?h37 (by kernel_rfl) (by kernel_rfl) (by kernel_rfl) ?hQ37 ?hy37 (by assumption) ?_; (case h37 => (simp only [List.getElem?_toArray, List.getElem?_cons_succ, List.getElem?_cons_zero]; exact rfl)); (case hQ37 => exact fun _ _ _ h => h); (case hy37 => (refine Or.inl ⟨by rfl, ?_⟩; intro w hSw; (try dsimp only at hSw); go_simp; try with_reducible rfl)); try simp only [Act.put, List.setIfInBounds_toArray, List.set_cons_zero, List.set_cons_succ]
      refine wpAnyH_take (i := 12) (oi := ?oi38) (v := ?v38) ?h38 (by kernel_rfl) (by kernel_rfl) (by kernel_rfl) ?hQ38 ?hy38 (by assumption) ?_; (case h38 => (simp only [List.getElem?_toArray, List.getElem?_cons_succ, List.getElem?_cons_zero]; exact rfl)); (case hQ38 => exact fun _ _ _ h => h); (case hy38 => (refine Or.inl ⟨by rfl, ?_⟩; intro w hSw; (try dsimp only at hSw); go_simp; try with_reducible rfl)); try simp only [Act.put, List.setIfInBounds_toArray, List.set_cons_zero, List.set_cons_succ]
      refine wpAnyH_take (i := 13) (oi := ?oi39) (v := ?v39) ?h39 (by kernel_rfl) (by kernel_rfl) (by kernel_rfl) ?hQ39 ?hy39 (by assumption) ?_; (case h39 => (simp only [List.getElem?_toArray, List.getElem?_cons_succ, List.getElem?_cons_zero]; exact rfl)); (case hQ39 => exact fun _ _ _ h => h); (case hy39 => (refine Or.inl ⟨by rfl, ?_⟩; intro w hSw; (try dsimp only at hSw); go_simp; try with_reducible rfl)); try simp only [Act.put, List.setIfInBounds_toArray, List.set_cons_zero, List.set_cons_succ]
      refine wpAnyH_take (i := 15) (oi := ?oi40) (v := ?v40) ?h40 (by kernel_rfl) (by kernel_rfl) (by kernel_rfl) ?hQ40 ?hy40 (by assumption) ?_; (case h40 => (simp only [List.getElem?_toArray, List.getElem?_cons_succ, List.getElem?_cons_zero]; exact rfl)); (case hQ40 => exact fun _ _ _ h => h); (case hy40 => (refine Or.inl ⟨by rfl, ?_⟩; intro w hSw; (try dsimp only at hSw); go_simp; try with_reducible rfl)); try simp only [Act.put, List.setIfInBounds_toArray, List.set_cons_zero, List.set_cons_succ]
      refine wpAnyH_take (i := 16) (oi := ?oi41) (v := ?v41) ?h41 (by kernel_rfl) (by kernel_rfl) (by kernel_rfl) ?hQ41 ?hy41 (by assumption) ?_; (case h41 => (simp only [List.getElem?_toArray, List.getElem?_cons_succ, List.getElem?_cons_zero]; exact rfl)); (case hQ41 => exact fun _ _ _ h => h); (case hy41 => (refine Or.inl ⟨by rfl, ?_⟩; intro w hSw; (try dsimp only at hSw); go_simp; try with_reducible rfl)); try simp only [Act.put, List.setIfInBounds_toArray, List.set_cons_zero, List.set_cons_succ]
      refine wpAnyH_ready (rs := [14]) (by kernel_rfl) (by simp) ?_; refine AllReadyH.cons (o := ?oi42) ?h42 (fun K hK => ?_) AllReadyH.nil; (case h42 => (simp only [List.getElem?_toArray, List.getElem?_cons_succ, List.getElem?_cons_zero]; exact rfl)); go_simp; (refine (HM.out _).mono ?_; rintro e w9 ⟨rfl, hb⟩; have hk := below_keeps hb); refine hK.out _ _ ?_ (fun hNew => ?_); (· ((try dsimp only); (try go_split_ands); (repeat' apply And.intro) <;> (first | exact hk _ _ _ (by assumption) | (repeat (first | with_reducible assumption | with_reducible exact bl_refl _ | with_reducible refine bl_alloc ?_ _ | with_reducible refine bl_set ?_ (by simp) _ | with_reducible refine bl_drew ?_ | with_reducible refine bl_drewN ?_ _ | with_reducible refine bl_trans ?_ (by assumption)))))); clear hK K hHeld; revert hNew; intro hHeld; try simp only [Act.put, List.setIfInBounds_toArray, List.set_cons_zero, List.set_cons_succ]
      refine wpAnyH_ready (rs := [17]) (by kernel_rfl) (by simp) ?_; refine AllReadyH.cons (o := ?oi43) ?h43 (fun K hK => ?_) AllReadyH.nil; (case h43 => (simp only [List.getElem?_toArray, List.getElem?_cons_succ, List.getElem?_cons_zero]; exact rfl)); go_simp; (refine (HD.out _).mono ?_; rintro e w9 ⟨rfl, hb⟩; have hk := below_keeps hb); refine hK.out _ _ ?_ (fun hNew => ?_); (· ((try dsimp only); (try go_split_ands); (repeat' apply And.intro) <;> (first | exact hk _ _ _ (by assumption) | (repeat (first | with_reducible assumption | with_reducible exact bl_refl _ | with_reducible refine bl_alloc ?_ _ | with_reducible refine bl_set ?_ (by simp) _ | with_reducible refine bl_drew ?_ | with_reducible refine bl_drewN ?_ _ | with_reducible refine bl_trans ?_ (by assumption)))))); clear hK K hHeld; revert hNew; intro hHeld; try simp only [Act.put, List.setIfInBounds_toArray, List.set_cons_zero, List.set_cons_succ]
      refine wpAnyH_take (i := 18) (oi := ?oi44) (v := ?v44) ?h44 (by kernel_rfl) (by kernel_rfl) (by kernel_rfl) ?hQ44 ?hy44 (by assumption) ?_; (case h44 => (simp only [List.getElem?_toArray, List.getElem?_cons_succ, List.getElem?_cons_zero]; exact rfl)); (case hQ44 => exact fun _ _ _ h => h); (case hy44 => (refine Or.inl ⟨by rfl, ?_⟩; intro w hSw; (try dsimp only at hSw); go_simp; try with_reducible rfl)); try simp only [Act.put, List.setIfInBounds_toArray, List.set_cons_zero, List.set_cons_succ]
      refine wpAnyH_take (i := 19) (oi := ?oi45) (v := ?v45) ?h45 (by kernel_rfl) (by kernel_rfl) (by kernel_rfl) ?hQ45 ?hy45 (by assumption) ?_; (case h45 => (simp only [List.getElem?_toArray, List.getElem?_cons_succ, List.getElem?_cons_zero]; exact rfl)); (case hQ45 => exact fun _ _ _ h => h); (case hy45 => (refine Or.inl ⟨by rfl, ?_⟩; intro w hSw; (try dsimp only at hSw); go_simp; try with_reducible rfl)); try simp only [Act.put, List.setIfInBounds_toArray, List.set_cons_zero, List.set_cons_succ]
      refine wpAnyH_take (i := 20) (oi := ?oi46) (v := ?v46) ?h46 (by kernel_rfl) (by kernel_rfl) (by kernel_rfl) ?hQ46 ?hy46 (by assumption) ?_; (case h46 => (simp only [List.getElem?_toArray, List.getElem?_cons_succ, List.getElem?_cons_zero]; exact rfl)); (case hQ46 => exact fun _ _ _ h => h); (case hy46 => (refine Or.inl ⟨by rfl, ?_⟩; intro w hSw; (try dsimp only at hSw); go_simp; try with_reducible rfl)); try simp only [Act.put, List.setIfInBounds_toArray, List.set_cons_zero, List.set_cons_succ]
      refine wpAnyH_ready (rs := [21]) (by kernel_rfl) (by simp) ?_; refine AllReadyH.cons (o := ?oi47) ?h47 (fun K hK => ?_) AllReadyH.nil; (case h47 => (simp only [List.getElem?_toArray, List.getElem?_cons_succ, List.getElem?_cons_zero]; exact rfl)); go_simp; (refine (HT.out _).mono ?_; rintro e w9 ⟨rfl, hb⟩; have hk := below_keeps hb); refine hK.out _ _ ?_ (fun hNew => ?_); (· ((try dsimp only); (try go_split_ands); (repeat' apply And.intro) <;> (first | exact hk _ _ _ (by assumption) | (repeat (first | with_reducible assumption | with_reducible exact bl_refl _ | with_reducible refine bl_alloc ?_ _ | with_reducible refine bl_set ?_ (by simp) _ | with_reducible refine bl_drew ?_ | with_reducible refine bl_drewN ?_ _ | with_reducible refine bl_trans ?_ (by assumption)))))); clear hK K hHeld; revert hNew; intro hHeld; try simp only [Act.put, List.setIfInBounds_toArray, List.set_cons_zero, List.set_cons_succ]
      refine wpAnyH_take (i := 22) (oi := ?oi48) (v := ?v48) ?h48 (by kernel_rfl) (by kernel_rfl) (by kernel_rfl) ?hQ48 ?hy48 (by assumption) ?_; (case h48 => (simp only [List.getElem?_toArray, List.getElem?_cons_succ, List.getElem?_cons_zero]; exact rfl)); (case hQ48 => exact fun _ _ _ h => h); (case hy48 => (refine Or.inl ⟨by rfl, ?_⟩; intro w hSw; (try dsimp only at hSw); go_simp; try with_reducible rfl)); try simp only [Act.put, List.setIfInBounds_toArray, List.set_cons_zero, List.set_cons_succ]
      refine wpAnyH_take (i := 23) (oi := ?oi49) (v := ?v49) ?h49 (by kernel_rfl) (by kernel_rfl) (by kernel_rfl) ?hQ49 ?hy49 (by assumption) ?_; (case h49 => (simp only [List.getElem?_toArray, List.getElem?_cons_succ, List.getElem?_cons_zero]; exact rfl)); (case hQ49 => exact fun _ _ _ h => h); (case hy49 => (refine Or.inl ⟨by rfl, ?_⟩; intro w hSw; (try dsimp only at hSw); go_simp; try with_reducible rfl)); try simp only [Act.put, List.setIfInBounds_toArray, List.set_cons_zero, List.set_cons_succ]
      refine wpAnyH_take (i := 24) (oi := ?oi50) (v := ?v50) ?h50 (by kernel_rfl) (by kernel_rfl) (by kernel_rfl) ?hQ50 ?hy50 (by assumption) ?_; (case h50 => (simp only [List.getElem?_toArray, List.getElem?_cons_succ, List.getElem?_cons_zero]; exact rfl)); (case hQ50 => exact fun _ _ _ h => h); (case hy50 => (refine Or.inl ⟨by rfl, ?_⟩; intro w hSw; (try dsimp only at hSw); go_simp; try with_reducible rfl)); try simp only [Act.put, List.setIfInBounds_toArray, List.set_cons_zero, List.set_cons_succ]
      refine wpAnyH_done (by kernel_rfl) ?_ _
      try dsimp only at hHeld
      obtain ⟨_, _, _, _, _, _, t0, t1, t2, hbx⟩ := hHeld
      go_wp2_with fail
      go_meet
      exact ⟨rfl, t0, t1, t2, hbx⟩
    · refine wp_region_held_drew (S := (fun w' => w'.cell? ⟨w.heap.size + 1, 0, none⟩ = some (.int .i64 y) ∧ w'.cell? ⟨w.heap.size + 1, 1, none⟩ = some (.int .i64 m) ∧ w'.cell? ⟨w.heap.size + 1, 2, none⟩ = some (.int .i64 d) ∧ w'.cell? ⟨w.heap.size + 1, 3, none⟩ = some (.int .i64 s) ∧ w'.cell? ⟨w.heap.size + 1, 4, none⟩ = some (.bool z) ∧ w'.cell? ⟨w.heap.size + 1, 5, none⟩ = some (.int .i64 o) ∧ w'.cell? ⟨w.heap.size + 1 + 1, 0, none⟩ = some (.int .i64 ls) ∧ w'.cell? ⟨w.heap.size + 1 + 1, 1, none⟩ = some (.bool lz) ∧ w'.cell? ⟨w.heap.size + 1 + 1, 2, none⟩ = some (.int .i64 lo) ∧ Below w.heap.size w w')) (by kernel_rfl) ?_ (fun hHeld => ?_); (· ((try dsimp only); (try go_split_ands); (repeat' apply And.intro) <;> (first | (simp [*]; done) | (repeat (first | with_reducible assumption | with_reducible exact bl_refl _ | with_reducible refine bl_alloc ?_ _ | with_reducible refine bl_set ?_ (by first | (simp; done) | (simp; omega)) _ | with_reducible refine bl_drew ?_ | with_reducible refine bl_drewN ?_ _ | with_reducible refine bl_trans ?_ (by assumption))))))
      refine wpAnyH_take (i := 0) (oi := ?oi51) (v := ?v51) ?h51 (by kernel_rfl) (by kernel_rfl) (by kernel_rfl) ?hQ51 ?hy51 (by assumption) ?_; (case h51 => (simp only [List.getElem?_toArray, List.getElem?_cons_zero]; exact rfl)); (case hQ51 => exact fun _ _ _ h => h); (case hy51 => (refine Or.inl ⟨by rfl, ?_⟩; intro w hSw; (try dsimp only at hSw); go_simp; try with_reducible rfl)); try simp only [Act.put, List.setIfInBounds_toArray, List.set_cons_zero, List.set_cons_succ]
      refine wpAnyH_take (i := 1) (oi := ?oi52) (v := ?v52) ?h52 (by kernel_rfl) (by kernel_rfl) (by kernel_rfl) ?hQ52 ?hy52 (by assumption) ?_; (case h52 => (simp only [List.getElem?_toArray, List.getElem?_cons_succ, List.getElem?_cons_zero]; exact rfl)); (case hQ52 => exact fun _ _ _ h => h); (case hy52 => (refine Or.inl ⟨by rfl, ?_⟩; intro w hSw; (try dsimp only at hSw); go_simp; try with_reducible rfl)); try simp only [Act.put, List.setIfInBounds_toArray, List.set_cons_zero, List.set_cons_succ]
      refine wpAnyH_ready (rs := [2]) (by kernel_rfl) (by simp) ?_; refine AllReadyH.cons (o := ?oi53) ?h53 (fun K hK => ?_) AllReadyH.nil; (case h53 => (simp only [List.getElem?_toArray, List.getElem?_cons_succ, List.getElem?_cons_zero]; exact rfl)); go_simp; (refine (HM.out _).mono ?_; rintro e w9 ⟨rfl, hb⟩; have hk := below_keeps hb); refine hK.out _ _ ?_ (fun hNew => ?_); (· ((try dsimp only); (try go_split_ands); (repeat' apply And.intro) <;> (first | exact hk _ _ _ (by assumption) | (repeat (first | with_reducible assumption | with_reducible exact bl_refl _ | with_reducible refine bl_alloc ?_ _ | with_reducible refine bl_set ?_ (by simp) _ | with_reducible refine bl_drew ?_ | with_reducible refine bl_drewN ?_ _ | with_reducible refine bl_trans ?_ (by assumption)))))); clear hK K hHeld; revert hNew; intro hHeld; try simp only [Act.put, List.setIfInBounds_toArray, List.set_cons_zero, List.set_cons_succ]
      refine wpAnyH_take (i := 3) (oi := ?oi54) (v := ?v54) ?h54 (by kernel_rfl) (by kernel_rfl) (by kernel_rfl) ?hQ54 ?hy54 (by assumption) ?_; (case h54 => (simp only [List.getElem?_toArray, List.getElem?_cons_succ, List.getElem?_cons_zero]; exact rfl)); (case hQ54 => exact fun _ _ _ h => h); (case hy54 => (refine Or.inl ⟨by rfl, ?_⟩; intro w hSw; (try dsimp only at hSw); go_simp; try with_reducible rfl)); try simp only [Act.put, List.setIfInBounds_toArray, List.set_cons_zero, List.set_cons_succ]
      refine wpAnyH_take (i := 4) (oi := ?oi55) (v := ?v55) ?h55 (by kernel_rfl) (by kernel_rfl) (by kernel_rfl) ?hQ55 ?hy55 (by assumption) ?_; (case h55 => (simp only [List.getElem?_toArray, List.getElem?_cons_succ, List.getElem?_cons_zero]; exact rfl)); (case hQ55 => exact fun _ _ _ h => h); (case hy55 => (refine Or.inl ⟨by rfl, ?_⟩; intro w hSw; (try dsimp only at hSw); go_simp; try with_reducible rfl)); try simp only [Act.put, List.setIfInBounds_toArray, List.set_cons_zero, List.set_cons_succ]
      refine wpAnyH_take (i := 5) (oi := ?oi56) (v := ?v56) ?h56 (by kernel_rfl) (by kernel_rfl) (by kernel_rfl) ?hQ56 ?hy56 (by assumption) ?_; (case h56 => (simp only [List.getElem?_toArray, List.getElem?_cons_succ, List.getElem?_cons_zero]; exact rfl)); (case hQ56 => exact fun _ _ _ h => h); (case hy56 => (refine Or.inl ⟨by rfl, ?_⟩; intro w hSw; (try dsimp only at hSw); go_simp; try with_reducible rfl)); try simp only [Act.put, List.setIfInBounds_toArray, List.set_cons_zero, List.set_cons_succ]
      refine wpAnyH_take (i := 6) (oi := ?oi57) (v := ?v57) ?h57 (by kernel_rfl) (by kernel_rfl) (by kernel_rfl) ?hQ57 ?hy57 (by assumption) ?_; (case h57 => (simp only [List.getElem?_toArray, List.getElem?_cons_succ, List.getElem?_cons_zero]; exact rfl)); (case hQ57 => exact fun _ _ _ h => h); (case hy57 => (refine Or.inl ⟨by rfl, ?_⟩; intro w hSw; (try dsimp only at hSw); go_simp; try with_reducible rfl)); try simp only [Act.put, List.setIfInBounds_toArray, List.set_cons_zero, List.set_cons_succ]
      refine wpAnyH_take (i := 7) (oi := ?oi58) (v := ?v58) ?h58 (by kernel_rfl) (by kernel_rfl) (by kernel_rfl) ?hQ58 ?hy58 (by assumption) ?_; (case h58 => (simp only [List.getElem?_toArray, List.getElem?_cons_succ, List.getElem?_cons_zero]; exact rfl)); (case hQ58 => exact fun _ _ _ h => h); (case hy58 => (refine Or.inl ⟨by rfl, ?_⟩; intro w hSw; (try dsimp only at hSw); go_simp; try with_reducible rfl)); try simp only [Act.put, List.setIfInBounds_toArray, List.set_cons_zero, List.set_cons_succ]
      refine wpAnyH_take (i := 8) (oi := ?oi59) (v := undef) ?h59 (by kernel_rfl) (by kernel_rfl) (by kernel_rfl) ?hQ59 ?hy59 (by assumption) ?_; (case h59 => (simp only [List.getElem?_toArray, List.getElem?_cons_succ, List.getElem?_cons_zero]; exact rfl)); (case hQ59 => exact fun _ _ _ h => h); (case hy59 => exact Or.inr ⟨by rfl, rfl⟩); try simp only [Act.put, List.setIfInBounds_toArray, List.set_cons_zero, List.set_cons_succ]
      refine wpAnyH_take (i := 9) (oi := ?oi60) (v := undef) ?h60 (by kernel_rfl) (by kernel_rfl) (by kernel_rfl) ?hQ60 ?hy60 (by assumption) ?_; (case h60 => (simp only [List.getElem?_toArray, List.getElem?_cons_succ, List.getElem?_cons_zero]; exact rfl)); (case hQ60 => exact fun _ _ _ h => h); (case hy60 => exact Or.inr ⟨by rfl, rfl⟩); try simp only [Act.put, List.setIfInBounds_toArray, List.set_cons_zero, List.set_cons_succ]
      refine wpAnyH_take (i := 10) (oi := ?oi61) (v := ?v61) ?h61 (by kernel_rfl) (by kernel_rfl) (by kernel_rfl) ?hQ61 ?hy61 (by assumption) ?_; (case h61 => (simp only [List.getElem?_toArray, List.getElem?_cons_succ, List.getElem?_cons_zero]; exact rfl)); (case hQ61 => exact fun _ _ _ h => h); (case hy61 => (refine Or.inl ⟨by rfl, ?_⟩; intro w hSw; (try dsimp only at hSw); go_simp; try with_reducible rfl)); try simp only [Act.put, List.setIfInBounds_toArray, List.set_cons_zero, List.set_cons_succ]
      refine wpAnyH_take (i := 11) (oi := ?oi62) (v := ?v62) ?h62 (by kernel_rfl) (by kernel_rfl) (by kernel_rfl) ?hQ62 ?hy62 (by assumption) ?_; (case h62 => (simp only [List.getElem?_toArray, List.getElem?_cons_succ, List.getElem?_cons_zero]; exact rfl)); (case hQ62 => exact fun _ _ _ h => h); (case hy62 => (refine Or.inl ⟨by rfl, ?_⟩; intro w hSw; (try dsimp only at hSw); go_simp; try with_reducible rfl)); try simp only [Act.put, List.setIfInBounds_toArray, List.set_cons_zero, List.set_cons_succ]
      refine wpAnyH_take (i := 12) (oi := ?oi63) (v := ?v63) ?h63 (by kernel_rfl) (by kernel_rfl) (by kernel_rfl) ?hQ63 ?hy63 (by assumption) ?_; (case h63 => (simp only [List.getElem?_toArray, List.getElem?_cons_succ, List.getElem?_cons_zero]; exact rfl)); (case hQ63 => exact fun _ _ _ h => h); (case hy63 => (refine Or.inl ⟨by rfl, ?_⟩; intro w hSw; (try dsimp only at hSw); go_simp; try with_reducible rfl)); try simp only [Act.put, List.setIfInBounds_toArray, List.set_cons_zero, List.set_cons_succ]
      refine wpAnyH_take (i := 13) (oi := ?oi64) (v := ?v64) ?h64 (by kernel_rfl) (by kernel_rfl) (by kernel_rfl) ?hQ64 ?hy64 (by assumption) ?_; (case h64 => (simp only [List.getElem?_toArray, List.getElem?_cons_succ, List.getElem?_cons_zero]; exact rfl)); (case hQ64 => exact fun _ _ _ h => h); (case hy64 => (refine Or.inl ⟨by rfl, ?_⟩; intro w hSw; (try dsimp only at hSw); go_simp; try with_reducible rfl)); try simp only [Act.put, List.setIfInBounds_toArray, List.set_cons_zero, List.set_cons_succ]
      refine wpAnyH_take (i := 15) (oi := ?oi65) (v := ?v65) ?h65 (by kernel_rfl) (by kernel_rfl) (by kernel_rfl) ?hQ65 ?hy65 (by assumption) ?_; (case h65 => (simp only [List.getElem?_toArray, List.getElem?_cons_succ, List.getElem?_cons_zero]; exact rfl)); (case hQ65 => exact fun _ _ _ h => h); (case hy65 => (refine Or.inl ⟨by rfl, ?_⟩; intro w hSw; (try dsimp only at hSw); go_simp; try with_reducible rfl)); try simp only [Act.put, List.setIfInBounds_toArray, List.set_cons_zero, List.set_cons_succ]
      refine wpAnyH_take (i := 16) (oi := ?oi66) (v := ?v66) ?h66 (by kernel_rfl) (by kernel_rfl) (by kernel_rfl) ?hQ66 ?hy66 (by assumption) ?_; (case h66 => (simp only [List.getElem?_toArray, List.getElem?_cons_succ, List.getElem?_cons_zero]; exact rfl)); (case hQ66 => exact fun _ _ _ h => h); (case hy66 => (refine Or.inl ⟨by rfl, ?_⟩; intro w hSw; (try dsimp only at hSw); go_simp; try with_reducible rfl)); try simp only [Act.put, List.setIfInBounds_toArray, List.set_cons_zero, List.set_cons_succ]
      refine wpAnyH_ready (rs := [14]) (by kernel_rfl) (by simp) ?_; refine AllReadyH.cons (o := ?oi67) ?h67 (fun K hK => ?_) AllReadyH.nil; (case h67 => (simp only [List.getElem?_toArray, List.getElem?_cons_succ, List.getElem?_cons_zero]; exact rfl)); go_simp; (refine (HM.out _).mono ?_; rintro e w9 ⟨rfl, hb⟩; have hk := below_keeps hb); refine hK.out _ _ ?_ (fun hNew => ?_); (· ((try dsimp only); (try go_split_ands); (repeat' apply And.intro) <;> (first | exact hk _ _ _ (by assumption) | (repeat (first | with_reducible assumption | with_reducible exact bl_refl _ | with_reducible refine bl_alloc ?_ _ | with_reducible refine bl_set ?_ (by simp) _ | with_reducible refine bl_drew ?_ | with_reducible refine bl_drewN ?_ _ | with_reducible refine bl_trans ?_ (by assumption)))))); clear hK K hHeld; revert hNew; intro hHeld; try simp only [Act.put, List.setIfInBounds_toArray, List.set_cons_zero, List.set_cons_succ]
      refine wpAnyH_ready (rs := [17]) (by kernel_rfl) (by simp) ?_; refine AllReadyH.cons (o := ?oi68) ?h68 (fun K hK => ?_) AllReadyH.nil; (case h68 => (simp only [List.getElem?_toArray, List.getElem?_cons_succ, List.getElem?_cons_zero]; exact rfl)); go_simp; (refine (HD.out _).mono ?_; rintro e w9 ⟨rfl, hb⟩; have hk := below_keeps hb); refine hK.out _ _ ?_ (fun hNew => ?_); (· ((try dsimp only); (try go_split_ands); (repeat' apply And.intro) <;> (first | exact hk _ _ _ (by assumption) | (repeat (first | with_reducible assumption | with_reducible exact bl_refl _ | with_reducible refine bl_alloc ?_ _ | with_reducible refine bl_set ?_ (by simp) _ | with_reducible refine bl_drew ?_ | with_reducible refine bl_drewN ?_ _ | with_reducible refine bl_trans ?_ (by assumption)))))); clear hK K hHeld; revert hNew; intro hHeld; try simp only [Act.put, List.setIfInBounds_toArray, List.set_cons_zero, List.set_cons_succ]
      refine wpAnyH_take (i := 18) (oi := ?oi69) (v := ?v69) ?h69 (by kernel_rfl) (by kernel_rfl) (by kernel_rfl) ?hQ69 ?hy69 (by assumption) ?_; (case h69 => (simp only [List.getElem?_toArray, List.getElem?_cons_succ, List.getElem?_cons_zero]; exact rfl)); (case hQ69 => exact fun _ _ _ h => h); (case hy69 => (refine Or.inl ⟨by rfl, ?_⟩; intro w hSw; (try dsimp only at hSw); go_simp; try with_reducible rfl)); try simp only [Act.put, List.setIfInBounds_toArray, List.set_cons_zero, List.set_cons_succ]
      refine wpAnyH_take (i := 19) (oi := ?oi70) (v := ?v70) ?h70 (by kernel_rfl) (by kernel_rfl) (by kernel_rfl) ?hQ70 ?hy70 (by assumption) ?_; (case h70 => (simp only [List.getElem?_toArray, List.getElem?_cons_succ, List.getElem?_cons_zero]; exact rfl)); (case hQ70 => exact fun _ _ _ h => h); (case hy70 => (refine Or.inl ⟨by rfl, ?_⟩; intro w hSw; (try dsimp only at hSw); go_simp; try with_reducible rfl)); try simp only [Act.put, List.setIfInBounds_toArray, List.set_cons_zero, List.set_cons_succ]
      refine wpAnyH_take (i := 20) (oi := ?oi71) (v := ?v71) ?h71 (by kernel_rfl) (by kernel_rfl) (by kernel_rfl) ?hQ71 ?hy71 (by assumption) ?_; (case h71 => (simp only [List.getElem?_toArray, List.getElem?_cons_succ, List.getElem?_cons_zero]; exact rfl)); (case hQ71 => exact fun _ _ _ h => h); (case hy71 => (refine Or.inl ⟨by rfl, ?_⟩; intro w hSw; (try dsimp only at hSw); go_simp; try with_reducible rfl)); try simp only [Act.put, List.setIfInBounds_toArray, List.set_cons_zero, List.set_cons_succ]
      refine wpAnyH_ready (rs := [21]) (by kernel_rfl) (by simp) ?_; refine AllReadyH.cons (o := ?oi72) ?h72 (fun K hK => ?_) AllReadyH.nil; (case h72 => (simp only [List.getElem?_toArray, List.getElem?_cons_succ, List.getElem?_cons_zero]; exact rfl)); go_simp; (refine (HT.out _).mono ?_; rintro e w9 ⟨rfl, hb⟩; have hk := below_keeps hb); refine hK.out _ _ ?_ (fun hNew => ?_); (· ((try dsimp only); (try go_split_ands); (repeat' apply And.intro) <;> (first | exact hk _ _ _ (by assumption) | (repeat (first | with_reducible assumption | with_reducible exact bl_refl _ | with_reducible refine bl_alloc ?_ _ | with_reducible refine bl_set ?_ (by simp) _ | with_reducible refine bl_drew ?_ | with_reducible refine bl_drewN ?_ _ | with_reducible refine bl_trans ?_ (by assumption)))))); clear hK K hHeld; revert hNew; intro hHeld; try simp only [Act.put, List.setIfInBounds_toArray, List.set_cons_zero, List.set_cons_succ]
      refine wpAnyH_take (i := 22) (oi := ?oi73) (v := ?v73) ?h73 (by kernel_rfl) (by kernel_rfl) (by kernel_rfl) ?hQ73 ?hy73 (by assumption) ?_; (case h73 => (simp only [List.getElem?_toArray, List.getElem?_cons_succ, List.getElem?_cons_zero]; exact rfl)); (case hQ73 => exact fun _ _ _ h => h); (case hy73 => (refine Or.inl ⟨by rfl, ?_⟩; intro w hSw; (try dsimp only at hSw); go_simp; try with_reducible rfl)); try simp only [Act.put, List.setIfInBounds_toArray, List.set_cons_zero, List.set_cons_succ]
      refine wpAnyH_take (i := 23) (oi := ?oi74) (v := ?v74) ?h74 (by kernel_rfl) (by kernel_rfl) (by kernel_rfl) ?hQ74 ?hy74 (by assumption) ?_; (case h74 => (simp only [List.getElem?_toArray, List.getElem?_cons_succ, List.getElem?_cons_zero]; exact rfl)); (case hQ74 => exact fun _ _ _ h => h); (case hy74 => (refine Or.inl ⟨by rfl, ?_⟩; intro w hSw; (try dsimp only at hSw); go_simp; try with_reducible rfl)); try simp only [Act.put, List.setIfInBounds_toArray, List.set_cons_zero, List.set_cons_succ]
      refine wpAnyH_take (i := 24) (oi := ?oi75) (v := ?v75) ?h75 (by kernel_rfl) (by kernel_rfl) (by kernel_rfl) ?hQ75 ?hy75 (by assumption) ?_; (case h75 => (simp only [List.getElem?_toArray, List.getElem?_cons_succ, List.getElem?_cons_zero]; exact rfl)); (case hQ75 => exact fun _ _ _ h => h); (case hy75 => (refine Or.inl ⟨by rfl, ?_⟩; intro w hSw; (try dsimp only at hSw); go_simp; try with_reducible rfl)); try simp only [Act.put, List.setIfInBounds_toArray, List.set_cons_zero, List.set_cons_succ]
      refine wpAnyH_done (by kernel_rfl) ?_ _
      try dsimp only at hHeld
      obtain ⟨_, _, _, _, _, _, t0, t1, t2, hbx⟩ := hHeld
      go_wp2_with fail
      go_meet
      exact ⟨rfl, t0, t1, t2, hbx⟩
  case rest =>
    obtain ⟨rfl, t0, t1, t2, hbx⟩ := hcut
    rcases HF.out with ⟨hq, hN⟩ | ⟨Y, M, D, S, hb, hi, hN⟩
    · have HN := Lib.hid hN
      clear hN
      go_wp2_with fail
      refine (HN.out _).mono ?_
      rintro e w6 ⟨rfl, hb6⟩
      obtain ⟨t0, t1, t2, tl⟩ := keepc3 hb6 t0 t1 t2
      have hbx : Below w.heap.size w w6 := by (repeat (first | with_reducible assumption | with_reducible exact bl_refl _ | with_reducible refine bl_alloc ?_ _ | with_reducible refine bl_set ?_ (by first | (simp; done) | (simp; omega)) _ | with_reducible refine bl_drew ?_ | with_reducible refine bl_drewN ?_ _ | with_reducible refine bl_trans ?_ (by assumption)))
      clear hb6
      rcases hq with h | ⟨h, h' | h'⟩
      all_goals
        rw [h] at HL
        clear h
        go_wp2_with fail
        refine (HL.out _).mono ?_
        rintro e w7 ⟨rfl, hb7⟩
        go_wp2_with fail
      all_goals
        go_ret
        refine ⟨?_, ?_⟩
      all_goals first | ((repeat (first | with_reducible assumption | with_reducible exact bl_refl _ | with_reducible refine bl_alloc ?_ _ | with_reducible refine bl_set ?_ (by simp) _ | with_reducible refine bl_drew ?_ | with_reducible refine bl_drewN ?_ _ | with_reducible refine bl_trans ?_ (by assumption))); done) | rfl | (exfalso; omega) | (simp [go_sem, *]; done)
    · have HN := Lib.hid hN
      have HI2 := moment_instant_yes Y M D S lz lo hb
      have HM2 := moment_may Y M D S lz lo
      rw [hi] at HI2
      rw [hb] at HM2
      have HI2 := Lib.hid HI2
      have HM2 := Lib.hid HM2
      clear hN hb hi
      go_wp2_with fail
      refine (HN.out _).mono ?_
      rintro e w6 ⟨rfl, hb6⟩
      obtain ⟨t0, t1, t2, tl⟩ := keepc3 hb6 t0 t1 t2
      have hbx : Below w.heap.size w w6 := by (repeat (first | with_reducible assumption | with_reducible exact bl_refl _ | with_reducible refine bl_alloc ?_ _ | with_reducible refine bl_set ?_ (by first | (simp; done) | (simp; omega)) _ | with_reducible refine bl_drew ?_ | with_reducible refine bl_drewN ?_ _ | with_reducible refine bl_trans ?_ (by assumption)))
      clear hb6
      go_wp2_with fail
      refine (HI2.out _).mono ?_
      rintro e w7 ⟨rfl, hb7⟩
      obtain ⟨t0, t1, t2, tl⟩ := keepc3 (b := w.heap.size + 1 + 1) (x := .int .i64 ls) (y := .bool lz) (z := .int .i64 lo) hb7 (by simp [go_sem, *]) (by simp [go_sem, *]) (by simp [go_sem, *])
      obtain ⟨c0, c1, c2, c3, c4, c5, cl⟩ := keepc6 (b := w6.heap.size) (c0 := .int .i64 Y) (c1 := .int .i64 M) (c2 := .int .i64 D) (c3 := .int .i64 S) (c4 := .bool lz) (c5 := .int .i64 lo) hb7 (by simp [go_sem, *]) (by simp [go_sem, *]) (by simp [go_sem, *]) (by simp [go_sem, *]) (by simp [go_sem, *]) (by simp [go_sem, *])
      have hbx : Below w.heap.size w w7 := by (repeat (first | with_reducible assumption | with_reducible exact bl_refl _ | with_reducible refine bl_alloc ?_ _ | with_reducible refine bl_set ?_ (by first | (simp; done) | (simp; omega)) _ | with_reducible refine bl_drew ?_ | with_reducible refine bl_drewN ?_ _ | with_reducible refine bl_trans ?_ (by assumption)))
      clear hb7
      go_wp2_with fail
      refine (HM2.out _).mono ?_
      rintro e w8 ⟨rfl, hb8⟩
      have hbx : Below w.heap.size w w8 := by (repeat (first | with_reducible assumption | with_reducible exact bl_refl _ | with_reducible refine bl_alloc ?_ _ | with_reducible refine bl_set ?_ (by first | (simp; done) | (simp; omega)) _ | with_reducible refine bl_drew ?_ | with_reducible refine bl_drewN ?_ _ | with_reducible refine bl_trans ?_ (by assumption)))
      go_wp2_with fail
      go_ret
      refine ⟨?_, ?_⟩
      · first | rfl | (simp [go_sem, *]; done)
      · (repeat (first | with_reducible assumption | with_reducible exact bl_refl _ | with_reducible refine bl_alloc ?_ _ | with_reducible refine bl_set ?_ (by simp) _ | with_reducible refine bl_drew ?_ | with_reducible refine bl_drewN ?_ _ | with_reducible refine bl_trans ?_ (by assumption)))

set_option maxRecDepth 100000 in
theorem momentInstants_lifted (os : Os) (started : os.Started) (H : Type) (enc : TypeId × Value → H) :
    ReturnsInHanded {} Try.checked os 13 .any (Rows.momentInstantsSpec.pre6 enc Try.prog Try.f13 Rows.momentInstantsRow.domain false) (Rows.momentInstantsSpec.post enc Try.prog Try.f13 false true false false) := by
  refine returnsInHanded_of_change (C := Try.checked) Try.own started (by kernel_rfl) Try.func13
    (ChangeSpec.witness6 (enc := enc) (C := Try.checked) false ⟨#[], #[.agg #[.int .i64 0, .int .i64 0, .int .i64 0, .int .i64 0, .int .i64 0, .bool false], .agg #[.int .i64 0, .int .i64 0, .int .i64 0, .int .i64 0, .bool false, .int .i64 0], .int .i64 0, .agg #[.int .i64 0, .bool false, .int .i64 0]], []⟩ 8 (by kernel_rfl) (by kernel_rfl) (by kernel_rfl) (by kernel_rfl)) ?_
  intro W base args ds gs before hval0 hW hcnd _
  have hval : ∀ (j : Nat) t v, Try.f13.params[j]? = some t → args[j]? = some v → Value.okWide Try.prog W .any base t v := hval0
  have hW' := hW
  obtain ⟨p, q, hA0, hV, rfl, hfz, hnd⟩ := hW
  have hA : DataW.TrodAll enc Try.prog W 0 (fun _ => true) true Try.f13.params.toList args.toList ds p := hA0
  rw [Try.params13] at hA hval
  obtain ⟨v0, vs0, d0, ds0, p0, q0, hargs, rfl, rfl, h0, r0⟩ := trodAll_cons hA
  obtain ⟨v1, vs1, d1, ds1, p1, q1, rfl, rfl, rfl, h1, r1⟩ := trodAll_cons r0
  obtain ⟨v2, vs2, d2, ds2, p2, q2, rfl, rfl, rfl, h2, r2⟩ := trodAll_cons r1
  obtain ⟨v3, vs3, d3, ds3, p3, q3, rfl, rfl, rfl, h3, r3⟩ := trodAll_cons r2
  obtain ⟨rfl, rfl, rfl⟩ := trodAll_nil r3
  obtain rfl : args = #[v0, v1, v2, v3] := by cases args; simp_all
  obtain ⟨rfl, rfl⟩ := trodVars_none hV
  obtain ⟨a0y, a0m, a0d, a0s, a0o, a0z, rfl, a0w⟩ := open_raw (hval 0 54 v0 rfl rfl) h0
  obtain ⟨a1y, a1m, a1d, a1s, a1z, a1o, rfl, a1w⟩ := open_moment (hval 1 56 v1 rfl rfl) h1
  obtain ⟨a2, rfl, rfl, rfl, a2w⟩ := open_int Try.underlying3 (hval 2 3 v2 rfl rfl) h2
  obtain ⟨a3s, a3z, a3o, rfl, a3w⟩ := open_time (hval 3 23 v3 rfl rfl) h3
  clear hA0 hval0
  refine (momentInstants_walk a0y a0m a0d a0s a0o a0z a1y a1m a1d a1s a1z a1o a2 a3s a3z a3o W a0w a1w (bounds_i64 a2w) a3w).mono fun e W' ⟨he, hg⟩ => ?_
  subst he
  exact ⟨_, rfl, law_post Try.laidOut (by kernel_rfl) rfl rfl Try.underlying4 hW' rfl hg⟩

theorem momentInstants_holds : Rows.MomentInstantsSaid :=
  OpenClaim.holds_of_wide 13 Try.f13 rfl rfl rfl rfl rfl rfl rfl ⟨rfl, rfl, rfl, rfl, rfl⟩ rfl rfl rfl rfl rfl (by kernel_rfl) Try.func13 (by kernel_rfl)
    (of_decide_eq_true (by kernel_rfl)) (by unfold Func.isWrapper; first | (rw [if_pos (by decide +kernel)]; kernel_rfl) | (rw [if_neg (by decide +kernel)]; exact ⟨rfl, rfl⟩))
    (fun os started H enc _ => momentInstants_lifted os started H enc)

#print axioms momentInstants_holds

end Go.Proofs.Ytfoblnepbncieaa
