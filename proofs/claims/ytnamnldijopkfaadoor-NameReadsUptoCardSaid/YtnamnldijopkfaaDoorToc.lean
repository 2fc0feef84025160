/-
  The document's examples of chapter 16: the law's awake.
-/
import Derived.Test.YtnamnldijopkfaaDoorTob
namespace Go.Proofs.YtnamnldijopkfaaDoor
open Go.ChangeShapes Go.WideShapes Go.ChangeAt Go.RowKit Go.Joins

/-- the cells of a token -/
theorem Toks.cells {w : World} {a : Option Addr} {n c : Nat} {ts : List Tok} (h : Toks w (.slice a n c) ts) (hne : ts ≠ []) : n = ts.length ∧ ts.length ≤ c ∧ c ≤ 9223372036854775807 ∧ ∃ b o, a = some ⟨b, o, none⟩ ∧
    ∀ j (h : j < ts.length), w.cell? ⟨b, o + j * 3, none⟩ = some (.int .i64 (ts[j].kind : Int)) ∧ w.cell? ⟨b, o + j * 3 + 1, none⟩ = some (.string (strOfL ts[j].text)) ∧ w.cell? ⟨b, o + j * 3 + 2, none⟩ = some (.int .i64 (ts[j].at_ : Int)) := by
  obtain ⟨a', c', e, h1, h2, h3⟩ := h
  simp only [Value.slice.injEq] at e
  obtain ⟨rfl, rfl, rfl⟩ := e
  exact ⟨rfl, h1, h2, h3 hne⟩

set_option maxHeartbeats 2000000 in
set_option maxRecDepth 100000 in
theorem awake16 (w : World) (hE : Env w) : Calls Tryd.prog 31 #[] w fun e w' => e = .returned (.bool true) ∧ Below w.heap.size w w' := by
  have HE := Lib.hid hE
  have T1 := Lib.hid (fun v (h : Env v) => tokens_k [97, 49, 32, 43, 46, 53, 69, 51, 46, 46] v h (by decide))
  rw [show toksL [97, 49, 32, 43, 46, 53, 69, 51, 46, 46] = some [⟨1, [97, 49], 0⟩, ⟨5, [43], 3⟩, ⟨2, [46, 53, 69, 51], 4⟩, ⟨5, [46, 46], 8⟩, ⟨0, [], 10⟩] by decide +kernel] at T1
  have T2 := Lib.hid (fun v (h : Env v) => tokens_k [49, 50, 69, 49, 50, 51, 52, 53, 54, 55] v h (by decide))
  rw [show toksL [49, 50, 69, 49, 50, 51, 52, 53, 54, 55] = some [⟨2, [49, 50], 0⟩, ⟨1, [69, 49, 50, 51, 52, 53, 54, 55], 2⟩, ⟨0, [], 10⟩] by decide +kernel] at T2
  have T3 := Lib.hid (fun v (h : Env v) => tokens_k [64, 34, 80, 49, 68, 34, 32, 34, 92, 117, 48, 48, 52, 49, 34] v h (by decide))
  rw [show toksL [64, 34, 80, 49, 68, 34, 32, 34, 92, 117, 48, 48, 52, 49, 34] = some [⟨4, [80, 49, 68], 0⟩, ⟨3, [65], 7⟩, ⟨0, [], 15⟩] by decide +kernel] at T3
  have T4 := Lib.hid (fun v (h : Env v) => tokens_k [34, 97] v h (by decide))
  rw [show toksL [34, 97] = none by decide +kernel] at T4
  clear hE
  go_enter Tryd.func31, Tryd.ntmps31
  go_wp2_with fail
  refine (T1.out _ HE.out).mono ?_
  rintro e w1 ⟨v, rfl, ⟨aa, ac, rfl, _, _, hac⟩, hb⟩
  obtain ⟨ab, ao, rfl, gac⟩ := hac (by simp)
  have p0 := (gac 0 (by decide)).2.1
  have p1 := (gac 2 (by decide)).1
  have p2 := (gac 2 (by decide)).2.1
  have p3 := (gac 3 (by decide)).2.1
  have E1 := Lib.hid (HE.out.keep (kept_below hb))
  clear gac
  go_wp2_with fail
  refine (T2.out _ E1.out).mono ?_
  rintro e w2 ⟨v, rfl, ⟨ba, bc, rfl, _, _, hbc⟩, hb2⟩
  obtain ⟨bb, bo, rfl, gbc⟩ := hbc (by simp)
  have q0 := (gbc 1 (by decide)).2.1
  have p0 := below_keeps hb2 _ _ _ p0
  have p1 := below_keeps hb2 _ _ _ p1
  have p2 := below_keeps hb2 _ _ _ p2
  have p3 := below_keeps hb2 _ _ _ p3
  have E2 := Lib.hid (E1.out.keep (kept_below hb2))
  have hb := bl_trans hb hb2
  clear gbc hb2
  go_wp2_with fail
  refine (T3.out _ E2.out).mono ?_
  rintro e w3 ⟨v, rfl, ⟨ca, cc, rfl, _, _, hcc⟩, hb2⟩
  obtain ⟨cb, co, rfl, gcc⟩ := hcc (by simp)
  have r0 := (gcc 0 (by decide)).1
  have r1 := (gcc 1 (by decide)).2.1
  have p0 := below_keeps hb2 _ _ _ p0
  have p1 := below_keeps hb2 _ _ _ p1
  have p2 := below_keeps hb2 _ _ _ p2
  have p3 := below_keeps hb2 _ _ _ p3
  have q0 := below_keeps hb2 _ _ _ q0
  have E3 := Lib.hid (E2.out.keep (kept_below hb2))
  have hb := bl_trans hb hb2
  clear gcc hb2
  go_wp2_with fail
  refine (T4.out _ E3.out).mono ?_
  rintro e w4 ⟨rfl, hb2⟩
  have p0 := below_keeps hb2 _ _ _ p0
  have p1 := below_keeps hb2 _ _ _ p1
  have p2 := below_keeps hb2 _ _ _ p2
  have p3 := below_keeps hb2 _ _ _ p3
  have q0 := below_keeps hb2 _ _ _ q0
  have r0 := below_keeps hb2 _ _ _ r0
  have r1 := below_keeps hb2 _ _ _ r1
  have hb := bl_trans hb hb2
  clear hb2 HE E1 E2 E3 T1 T2 T3 T4
  simp at p0 p1 p2 p3 q0 r0 r1
  rw [show strOfL [97, 49] = ⟨#[97, 49]⟩ from rfl] at p0
  rw [show strOfL [46, 53, 69, 51] = ⟨#[46, 53, 69, 51]⟩ from rfl] at p2
  rw [show strOfL [46, 46] = ⟨#[46, 46]⟩ from rfl] at p3
  rw [show strOfL [69, 49, 50, 51, 52, 53, 54, 55] = ⟨#[69, 49, 50, 51, 52, 53, 54, 55]⟩ from rfl] at q0
  rw [show strOfL [65] = ⟨#[65]⟩ from rfl] at r1
  go_wp2_with fail
  go_ret
  exact ⟨rfl, hb⟩

end Go.Proofs.YtnamnldijopkfaaDoor
