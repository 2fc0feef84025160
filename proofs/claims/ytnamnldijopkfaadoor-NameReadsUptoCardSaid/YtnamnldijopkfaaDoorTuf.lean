/-
  Scopes: With, Of, Has, Names.
-/
import Derived.Test.YtnamnldijopkfaaDoorTuc
import Derived.OneCell
namespace Go.Proofs.YtnamnldijopkfaaDoor
open Go.ChangeShapes Go.WideShapes Go.ChangeAt Go.RowKit Go.Joins

/-- a slice that reads as texts -/
def Strs (w : World) (v : Value) (ns : List (List UInt8)) : Prop := ∃ a c, v = .slice a ns.length c ∧ ns.length ≤ c ∧ c ≤ 9223372036854775807 ∧
  (ns ≠ [] → ∃ b o, a = some ⟨b, o, none⟩ ∧ ∀ j (h : j < ns.length), w.cell? ⟨b, o + j, none⟩ = some (.string (strOfL ns[j])))
theorem Strs.keep {w w' : World} {v : Value} {ns : List (List UInt8)} (h : Strs w v ns) (k : Kept w w') : Strs w' v ns := by
  obtain ⟨a, c, e, h1, h2, h3⟩ := h
  refine ⟨a, c, e, h1, h2, fun hne => ?_⟩
  obtain ⟨b, o, ea, hc⟩ := h3 hne
  exact ⟨b, o, ea, fun j hj => k _ _ _ (hc j hj)⟩
theorem Strs.cells {w : World} {a : Option Addr} {n c : Nat} {ns : List (List UInt8)} (h : Strs w (.slice a n c) ns) (hne : ns ≠ []) : n = ns.length ∧ ns.length ≤ c ∧ c ≤ 9223372036854775807 ∧ ∃ b o, a = some ⟨b, o, none⟩ ∧
    ∀ j (h : j < ns.length), w.cell? ⟨b, o + j, none⟩ = some (.string (strOfL ns[j])) := by
  obtain ⟨a', c', e, h1, h2, h3⟩ := h
  simp only [Value.slice.injEq] at e
  obtain ⟨rfl, rfl, rfl⟩ := e
  exact ⟨rfl, h1, h2, h3 hne⟩
def svals (ns : List (List UInt8)) : List Value := ns.map fun n => .string (strOfL n)
theorem svals_len (ns : List (List UInt8)) : (svals ns).length = ns.length := by simp [svals]
theorem svals_append (a b : List (List UInt8)) : svals (a ++ b) = svals a ++ svals b := by simp [svals]
theorem Strs.ofRow {w : World} {base n : Nat} {a : Option Addr} {c : Nat} {ns : List (List UInt8)} (hn : n = ns.length) (h : w.ownsRow base 9 1 (.slice a n c) n (svals ns)) : Strs w (.slice a n c) ns := by
  subst hn
  obtain ⟨a', c', e, h1, h2⟩ := row_shape h
  simp only [Value.slice.injEq, true_and] at e
  obtain ⟨rfl, rfl⟩ := e
  refine ⟨a, c, rfl, h1, h2, fun hne => ?_⟩
  obtain ⟨g, e, _, hc⟩ := row_cells h (List.length_pos_iff.2 hne)
  refine ⟨g, 0, e, fun j hj => ?_⟩
  rw [Nat.zero_add]
  exact hc j _ (by simp [svals, hj])

theorem strOfL_inj {a b : List UInt8} (h : strOfL a = strOfL b) : a = b := by
  have := congrArg (fun x : ByteArray => x.data.toList) h
  simpa [strOfL] using this

theorem map_getD (ns : List (List UInt8)) (j : Nat) (hj : j < ns.length) : (ns.map strOfL).getD j ByteArray.empty = strOfL ns[j] := by
  rw [List.getD, List.getElem?_map, List.getElem?_eq_getElem hj]
  rfl

theorem clone_k (v : Value) (ns : List (List UInt8)) (w : World) (h : Strs w v ns) (hn : ns.length ≤ 1073741824) :
    Calls Tryd.prog 77 #[v] w fun e w' => ∃ a c, e = .returned (.slice a ns.length c) ∧ w'.ownsRow w.heap.size 9 1 (.slice a ns.length c) ns.length (svals ns) ∧ Below w.heap.size w w' := by
  obtain ⟨a, c, rfl, h1, h2, h3⟩ := h
  cases ns with
  | nil =>
    cases a with
    | none =>
      refine (Tryd.slices_Clone_string_nil 0 c w).mono ?_
      rintro e w' ⟨rfl, e9⟩
      subst e9
      exact ⟨none, 0, rfl, World.ownsRow_nil _ _ _ _, bl_refl _⟩
    | some a =>
      refine (Tryd.slices_Clone_string_zero a c w).mono ?_
      rintro e w' ⟨v, rfl, hown, _, hb⟩
      obtain ⟨a', c', rfl, _⟩ := row_shape hown
      exact ⟨a', c', rfl, hown, hb⟩
  | cons n ns =>
    obtain ⟨b, o, rfl, hc⟩ := h3 (by simp)
    refine (Tryd.slices_Clone_string b o (n :: ns).length c ((n :: ns).map strOfL) w (by simp) (by simp only [List.length_cons] at hn ⊢; omega) ?_).mono ?_
    · intro j hj
      rw [List.length_map] at hj
      rw [hc j hj, map_getD _ _ hj]
    · rintro e w' ⟨v, rfl, hown, _, hb⟩
      rw [List.take_of_length_le (by simp), List.map_map] at hown
      obtain ⟨a', c', rfl, _⟩ := row_shape hown
      exact ⟨a', c', rfl, hown, hb⟩

theorem contains_k (v : Value) (ns : List (List UInt8)) (x : List UInt8) (w : World) (h : Strs w v ns) (hn : ns.length ≤ 1073741824) :
    Calls Tryd.prog 78 #[v, .string (strOfL x)] w fun e w' => e = .returned (.bool (ns.contains x)) ∧ w = w' := by
  obtain ⟨a, c, rfl, h1, h2, h3⟩ := h
  cases ns with
  | nil =>
    refine (Tryd.slices_Contains_string_empty a c (strOfL x) w).mono ?_
    rintro e w' ⟨rfl, e9⟩
    exact ⟨rfl, e9.symm⟩
  | cons n ns =>
    obtain ⟨b, o, rfl, hc⟩ := h3 (by simp)
    refine (Tryd.slices_Contains_string b o (n :: ns).length c ((n :: ns).map strOfL) (strOfL x) w (by simp) (by simp only [List.length_cons] at hn ⊢; omega) ?_).mono ?_
    · intro j hj
      rw [List.length_map] at hj
      rw [hc j hj, map_getD _ _ hj]
    · rintro e w' ⟨rfl, e9⟩
      refine ⟨?_, e9.symm⟩
      congr 2
      rw [List.take_of_length_le (by simp), Bool.eq_iff_iff, Lib.containsS_iff, List.contains_iff_mem, List.mem_map]
      constructor
      · rintro ⟨y, hy, he⟩
        rw [← strOfL_inj he]
        exact hy
      · exact fun hm => ⟨x, hm, rfl⟩

/-- a scope with more names -/
def withP (ns ms : List (List UInt8)) : List (List UInt8) := ms.foldl (fun acc m => if (readP m).isSome = true ∧ acc.contains m = false then acc ++ [m] else acc) ns
theorem withP_nil (ns : List (List UInt8)) : withP ns [] = ns := rfl
theorem withP_snoc (ns ms : List (List UInt8)) (m : List UInt8) : withP ns (ms ++ [m]) = if (readP m).isSome = true ∧ (withP ns ms).contains m = false then withP ns ms ++ [m] else withP ns ms := by
  unfold withP
  rw [List.foldl_append]
  rfl
theorem withP_len (ns : List (List UInt8)) : ∀ ms : List (List UInt8), (withP ns ms).length ≤ ns.length + ms.length := by
  suffices H : ∀ (ms ns : List (List UInt8)), (withP ns ms).length ≤ ns.length + ms.length from fun ms => H ms ns
  intro ms
  induction ms with
  | nil => intro ns; simp [withP]
  | cons m ms ih =>
    intro ns
    show (withP (if (readP m).isSome = true ∧ ns.contains m = false then ns ++ [m] else ns) ms).length ≤ _
    have := ih (if (readP m).isSome = true ∧ ns.contains m = false then ns ++ [m] else ns)
    refine Nat.le_trans this ?_
    split
    · rw [List.length_append]; simp; omega
    · simp

theorem info_str : (Tryd.prog.info? 9).map (fun i => (i.zero, i.size, i.bytes)) = some (some (.string ⟨#[]⟩), 1, 16) := by kernel_rfl

set_option maxHeartbeats 4000000 in
set_option maxRecDepth 100000 in
theorem with_k (v vm : Value) (ns ms : List (List UInt8)) (w : World) (hE : Env w) (h : Strs w v ns) (hm : Strs w vm ms) (hn : ns.length + ms.length ≤ 1073741823) (hl : ∀ m ∈ ms, m.length ≤ 2097153) :
    Calls Tryd.prog 41 #[.agg #[v], vm] w fun e w' => ∃ a c, e = .returned (.agg #[.slice a (withP ns ms).length c]) ∧ w'.ownsRow w.heap.size 9 1 (.slice a (withP ns ms).length c) (withP ns ms).length (svals (withP ns ms)) ∧ Below w.heap.size w w' := by
  obtain ⟨i0, hi0, hz0, hz1, hz2⟩ := info_parts info_str
  have HE := Lib.hid hE
  have HM := Lib.hid hm
  have HL := Lib.hid hl
  have CK := Lib.hid (fun (u : World) (k : Kept w u) => clone_k v ns u (h.keep k) (by omega))
  obtain ⟨a, c, rfl, hc1, hc2, -⟩ := h
  obtain ⟨am, cm, rfl, hm1, hm2, -⟩ := hm
  clear hE hl
  go_enter Tryd.func41, Tryd.ntmps41
  go_wp2_with fail
  refine (CK.out _ (by exact kept_alloc (kept_alloc (kept_refl w) _) _)).mono ?_
  rintro e w1 ⟨ra, rc, rfl, hown, hb⟩
  have hs1 := hb.size
  have hbw : Below w.heap.size w w1 := bl_trans (by (repeat (first | with_reducible assumption | with_reducible exact bl_refl _ | with_reducible refine bl_alloc ?_ _ | with_reducible refine bl_set ?_ (by first | (simp; done) | (simp; omega)) _ | with_reducible refine bl_drew ?_ | with_reducible refine bl_drewN ?_ _ | with_reducible refine bl_trans ?_ (by assumption)))) hb
  have hown1 : w1.ownsRow (w.heap.size + 1 + 1) 9 1 (.slice ra ns.length rc) ns.length (svals ns) := by simpa using hown
  obtain ⟨t4, t4f, t4l⟩ := keep1 (b := w.heap.size + 1) (o := 0) (v := .slice none 0 0) hb (by simp) (by simp)
  have hne1 : (Value.slice ra ns.length rc).ownBlock ≠ some w1.heap.size := fun e => by have := (hown1.lt _ e).2; omega
  have HOWN1 := Lib.hid hown1
  have HNE1 := Lib.hid hne1
  have hB : w.heap.size + 1 + 1 ≤ w1.heap.size := by simpa using hs1
  clear hown hown1 hne1 hb hs1 CK
  go_wp2_with fail
  generalize hg5 : w1.heap.size = g5 at *
  generalize hGB : w.heap.size + 1 + 1 = B at *
  go_loopw [16] (fun i wr => ∃ (j : Nat) (acc : List (List UInt8)) (ra : Option Addr) (rc : Nat), j ≤ ms.length ∧ i = .int .i64 j ∧ acc = withP ns (ms.take j) ∧ wr.cell? ⟨g5, 0, none⟩ = some (.slice ra acc.length rc) ∧ wr.frozen? ⟨g5, 0, none⟩ = false ∧
    wr.ownsRow B 9 1 (.slice ra acc.length rc) acc.length (svals acc) ∧ (Value.slice ra acc.length rc).ownBlock ≠ some g5 ∧ wr.cell? ⟨w.heap.size + 1, 0, none⟩ = some (.slice none 0 0) ∧ wr.frozen? ⟨w.heap.size + 1, 0, none⟩ = false ∧ Below w.heap.size w wr ∧ g5 < wr.heap.size) (fun i _ => ms.length - (intOf i).toNat)
  case atStart =>
    refine ⟨0, ns, ra, rc, Nat.zero_le _, rfl, rfl, ?_, ?_, HOWN1.out.alloc _, HNE1.out, ?_, ?_, ?_, ?_⟩
    · rw [← hg5]; simp
    · rw [← hg5]; simp
    · exact cell_alloc_keep t4
    · simp [go_sem, *]
    · exact bl_alloc hbw _
    · rw [← hg5]; simp
  case round =>
    obtain ⟨j, acc, ra, rc, hj, rfl, hacc, q0, q1, hown, hne, p0, p1, hbr, hgl⟩ := hrel
    have HOWN := Lib.hid hown
    have HNE := Lib.hid hne
    have HACC := Lib.hid hacc
    clear hown hne hacc
    by_cases hlt : j < ms.length
    · obtain ⟨-, -, -, mb, mo, hma, hmc⟩ := (HM.out.keep (kept_below hbr)).cells (by intro z; rw [z] at hlt; simp at hlt)
      subst hma
      have d0 := hmc j hlt
      have k1 : (j : Int) < (ms.length : Int) := by omega
      have RK := Lib.hid (read_k ms[j] wr (HE.out.keep (kept_below hbr)) (HL.out _ (List.getElem_mem _)))
      have hst : withP ns (ms.take (j + 1)) = if (readP ms[j]).isSome = true ∧ acc.contains ms[j] = false then acc ++ [ms[j]] else acc := by
        rw [List.take_succ_eq_append_getElem hlt, withP_snoc, ← HACC.out]
      have hal : acc.length ≤ ns.length + j := by
        have := withP_len ns (ms.take j)
        rw [← HACC.out, List.length_take] at this
        omega
      have HST := Lib.hid hst
      clear hst hmc
      generalize ms[j] = m at *
      cases hr : readP m with
      | none =>
        rw [hr] at RK
        have hst := HST.out
        rw [hr, if_neg (by simp)] at hst
        have HST2 := Lib.hid hst
        clear hst hr
        go_wp2_with fail
        refine RK.out.mono ?_
        rintro e w2 ⟨rfl, hb2⟩
        obtain ⟨q0, q1, ql⟩ := keep1 hb2 q0 q1
        obtain ⟨p0, p1, pl⟩ := keep1 hb2 p0 p1
        have hO2 := Lib.hid (HOWN.out.kept (grown_of_below hb2 none) (by cases hv : (Value.slice ra acc.length rc).ownBlock <;> simp))
        have hbr2 := bl_trans hbr hb2
        clear hb2
        go_wp2_with fail
        go_roundw
        case rel => exact ⟨j + 1, acc, ra, rc, by omega, by go_num, HST2.out.symm, q0, q1, hO2.out, HNE.out, p0, p1, hbr2, by omega⟩
        case measure => simp [intOf]; omega
      | some rts =>
        rw [hr] at RK
        have hst := HST.out
        rw [hr] at hst
        have HST2 := Lib.hid hst
        clear hst hr HST
        go_wp2_with fail
        refine RK.out.mono ?_
        rintro e w2 ⟨rv, rfl, -, hb2⟩
        obtain ⟨q0, q1, ql⟩ := keep1 hb2 q0 q1
        obtain ⟨p0, p1, pl⟩ := keep1 hb2 p0 p1
        have hO2 := Lib.hid (HOWN.out.kept (grown_of_below hb2 none) (by cases hv : (Value.slice ra acc.length rc).ownBlock <;> simp))
        have hbr2 := bl_trans hbr hb2
        have CK := Lib.hid (contains_k (.slice ra acc.length rc) acc m w2 (Strs.ofRow rfl hO2.out) (by omega))
        clear hb2 HOWN
        generalize hcb : acc.contains m = cb at *
        clear hcb
        go_wp2_with fail
        refine CK.out.mono ?_
        rintro e w3 ⟨rfl, rfl⟩
        cases cb with
        | true =>
          have hst := HST2.out
          rw [if_neg (by simp)] at hst
          have HST3 := Lib.hid hst
          clear hst
          go_wp2_with fail
          go_roundw
          case rel => exact ⟨j + 1, acc, ra, rc, by omega, by go_num, HST3.out.symm, q0, q1, hO2.out, HNE.out, p0, p1, hbr2, by omega⟩
          case measure => simp [intOf]; omega
        | false =>
          have hst := HST2.out
          rw [if_pos (by simp)] at hst
          have HST3 := Lib.hid hst
          clear hst HST2
          go_wp2_with (at_builtin; (refine wpList_append_lies _ rfl _ _ _ rfl B 9 i0 _ 1 16 Tryd.underlying43 hi0 hz0 hz1 hz2 (by rfl) (by omega) (.slice ra acc.length rc) acc.length (svals acc) (by rfl) (hO2.out.alloc _) ⟨w2.heap.size, 0, none⟩ 1 1 [.string (strOfL m)] (by rfl) (by rfl) (World.news_of_block (heap_alloc_new w2 _)) (by simp [Value.oneCell']) (by omega) (by unfold maxLen; omega) (by omega) (by simp; omega) (w2.heap.size + 1) (by simp) ?_; intro gg cap w4 hown4 hgrow4 hat4 hlt4; have hH := grown_heap hgrow4 ql HNE.out; have q0 := (heap_at hH 0).1.trans q0; have q1 := (heap_at hH 0).2.trans q1; have hP := grown_heap hgrow4 pl (fun e => by have := (hO2.out.lt _ e).1; omega); have p0 := (heap_at hP 0).1.trans p0; have p1 := (heap_at hP 0).2.trans p1; have HO4 := Lib.hid hown4; have HG4 := Lib.hid hgrow4; have HA4 := Lib.hid hat4; clear hown4 hgrow4 hat4 hH hP))
          have hlen : (acc ++ [m]).length = acc.length + 1 := by simp
          have hgsz : w2.heap.size + 1 ≤ w4.heap.size := by have := HG4.out.size; simpa using this
          have hgne : (Value.slice (some ⟨gg, 0, none⟩) (acc.length + 1) cap).ownBlock ≠ some g5 := by
            intro e
            have e2 : gg = g5 := by simpa [Value.ownBlock] using e
            rcases HA4.out with z | z
            · exact HNE.out (by rw [z, e2])
            · omega
          have hbw4 : Below w.heap.size w w4 := by
            have hbA : Below w.heap.size w (w2.alloc (.cells #[.string (strOfL m)] 9)) := bl_alloc hbr2 _
            exact hbA.grown HG4.out hbA.size (fun o h => by have := (hO2.out.lt o h).1; omega)
          go_roundw
          case rel =>
            refine ⟨j + 1, acc ++ [m], some ⟨gg, 0, none⟩, cap, by omega, by go_num, HST3.out.symm, ?_, ?_, ?_, ?_, ?_, ?_, hbw4.setCell (show w.heap.size ≤ g5 by omega) _, ?_⟩
            · rw [hlen]; simp [go_sem, *]
            · simp [go_sem, *]
            · rw [hlen, svals_append]
              exact ownsRow_setCell_other HO4.out hgne _
            · rw [hlen]; exact hgne
            · exact (World.cell?_setCell_far w4 _ _ _ (by simp; omega)).trans p0
            · simp [go_sem, *]
            · simp; omega
          case measure => simp [intOf]; omega
    · have hst := HACC.out
      rw [List.take_of_length_le (by omega)] at hst
      have HF := Lib.hid hst
      have k1 : ¬ (j : Int) < (ms.length : Int) := by omega
      clear hst
      go_wp2_with fail
      refine bodyPost_ret (v := .agg #[.slice ra acc.length rc]) (by simp [results, Tryd.results41, go_sem, *]) rfl ?_
      rw [← HF.out]
      exact ⟨_, _, rfl, own_mono (ownsRow_setCell_below HOWN.out (show w.heap.size + 1 < B by omega) _) (by omega), hbr.setCell (show w.heap.size ≤ w.heap.size + 1 by omega) _⟩

theorem of_k (vm : Value) (ms : List (List UInt8)) (w : World) (hE : Env w) (hm : Strs w vm ms) (hn : ms.length ≤ 1073741823) (hl : ∀ m ∈ ms, m.length ≤ 2097153) :
    Calls Tryd.prog 37 #[vm] w fun e w' => ∃ v', e = .returned (.agg #[v']) ∧ Strs w' v' (withP [] ms) ∧ Below w.heap.size w w' := by
  have WK := Lib.hid (fun (u : World) (k : Kept w u) => with_k (.slice none 0 0) vm [] ms u (hE.keep k) ⟨none, 0, rfl, Nat.le_refl _, by omega, fun h => absurd rfl h⟩ (hm.keep k) (by simpa using hn) hl)
  clear hE hm hl
  go_enter Tryd.func37, Tryd.ntmps37
  go_wp2_with fail
  refine (WK.out _ (by exact kept_alloc (kept_refl w) _)).mono ?_
  rintro e w1 ⟨ra, rc, rfl, hown, hb⟩
  obtain ⟨t4, t4f, t4l⟩ := keep1 (b := w.heap.size) (o := 0) (v := .slice none 0 0) hb (by simp) (by simp)
  have HOWN := Lib.hid (show w1.ownsRow (w.heap.size + 1) 9 1 (.slice ra (withP [] ms).length rc) (withP [] ms).length (svals (withP [] ms)) by simpa using hown)
  have hbw : Below w.heap.size w w1 := bl_trans (by (repeat (first | with_reducible assumption | with_reducible exact bl_refl _ | with_reducible refine bl_alloc ?_ _ | with_reducible refine bl_set ?_ (by first | (simp; done) | (simp; omega)) _ | with_reducible refine bl_drew ?_ | with_reducible refine bl_drewN ?_ _ | with_reducible refine bl_trans ?_ (by assumption)))) hb
  clear hown hb
  go_wp2_with fail
  refine bodyPost_ret (v := .agg #[.slice ra (withP [] ms).length rc]) (by simp [results, Tryd.results37, go_sem, *]) rfl ?_
  exact ⟨_, rfl, Strs.ofRow rfl (ownsRow_setCell_below HOWN.out (show w.heap.size < w.heap.size + 1 by omega) _), hbw.setCell (Nat.le_refl _) _⟩

theorem withS_k (v vm : Value) (ns ms : List (List UInt8)) (w : World) (hE : Env w) (h : Strs w v ns) (hm : Strs w vm ms) (hn : ns.length + ms.length ≤ 1073741823) (hl : ∀ m ∈ ms, m.length ≤ 2097153) :
    Calls Tryd.prog 41 #[.agg #[v], vm] w fun e w' => ∃ v', e = .returned (.agg #[v']) ∧ Strs w' v' (withP ns ms) ∧ Below w.heap.size w w' := by
  refine (with_k v vm ns ms w hE h hm hn hl).mono ?_
  rintro e w1 ⟨ra, rc, rfl, hown, hb⟩
  exact ⟨_, rfl, Strs.ofRow rfl hown, hb⟩

theorem has_k (v : Value) (ns : List (List UInt8)) (x : List UInt8) (w : World) (h : Strs w v ns) (hn : ns.length ≤ 1073741824) :
    Calls Tryd.prog 44 #[.agg #[v], .string (strOfL x)] w fun e w' => e = .returned (.bool (ns.contains x)) ∧ Below w.heap.size w w' := by
  have CK := Lib.hid (fun (u : World) (k : Kept w u) => contains_k v ns x u (h.keep k) hn)
  obtain ⟨a, c, rfl, -, -, -⟩ := h
  generalize ns.contains x = b at *
  go_enter Tryd.func44, Tryd.ntmps44
  go_wp2_with fail
  refine (CK.out _ (by exact kept_alloc (kept_refl w) _)).mono ?_
  rintro e w1 ⟨rfl, e9⟩
  subst e9
  go_wp2_with fail
  go_ret
  exact ⟨rfl, by (repeat (first | with_reducible assumption | with_reducible exact bl_refl _ | with_reducible refine bl_alloc ?_ _ | with_reducible refine bl_set ?_ (by first | (simp; done) | (simp; omega)) _ | with_reducible refine bl_drew ?_ | with_reducible refine bl_drewN ?_ _ | with_reducible refine bl_trans ?_ (by assumption)))⟩

theorem names_k (v : Value) (ns : List (List UInt8)) (w : World) (h : Strs w v ns) (hn : ns.length ≤ 1073741824) :
    Calls Tryd.prog 43 #[.agg #[v]] w fun e w' => ∃ v', e = .returned v' ∧ Strs w' v' ns ∧ Below w.heap.size w w' := by
  have CK := Lib.hid (fun (u : World) (k : Kept w u) => clone_k v ns u (h.keep k) hn)
  obtain ⟨a, c, rfl, -, -, -⟩ := h
  go_enter Tryd.func43, Tryd.ntmps43
  go_wp2_with fail
  refine (CK.out _ (by exact kept_alloc (kept_refl w) _)).mono ?_
  rintro e w1 ⟨ra, rc, rfl, hown, hb⟩
  go_wp2_with fail
  go_ret
  exact ⟨_, rfl, Strs.ofRow rfl hown, bl_trans (by (repeat (first | with_reducible assumption | with_reducible exact bl_refl _ | with_reducible refine bl_alloc ?_ _ | with_reducible refine bl_set ?_ (by first | (simp; done) | (simp; omega)) _ | with_reducible refine bl_drew ?_ | with_reducible refine bl_drewN ?_ _ | with_reducible refine bl_trans ?_ (by assumption)))) hb⟩

end Go.Proofs.YtnamnldijopkfaaDoor
