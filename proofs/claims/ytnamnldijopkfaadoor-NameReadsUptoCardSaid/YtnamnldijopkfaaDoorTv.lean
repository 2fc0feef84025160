/-
  The contracts of the reference's Runes and Text, and of the law's Valid.
-/
import Derived.Test.YtnamnldijopkfaaDoorTw
import Derived.WalkSmall
namespace Go.Proofs.YtnamnldijopkfaaDoor
open Go.ChangeShapes Go.WideShapes Go.ChangeAt Go.RowKit Go.Joins

theorem info_rune : (Tryd.prog.info? 21).map (fun i => (i.zero, i.size, i.bytes)) = some (some (.int .i32 0), 1, 4) := by kernel_rfl

def rvals (rs : List Nat) : List Value := rs.map fun (r : Nat) => Value.int .i32 (r : Int)
theorem rvals_len (rs : List Nat) : (rvals rs).length = rs.length := by simp [rvals]
theorem rvals_append (a b : List Nat) : rvals (a ++ b) = rvals a ++ rvals b := by simp [rvals]

/-- a slice of runes that lies in a world -/
def RuneRow (w : World) (v : Value) (rs : List Nat) : Prop :=
  ∃ (a : Option Addr) (c : Nat), v = .slice a rs.length c ∧ (0 < rs.length → ∃ g o, a = some ⟨g, o, none⟩ ∧ ∀ j (h : j < rs.length), w.cell? ⟨g, o + j, none⟩ = some (.int .i32 (rs[j] : Nat)))
theorem RuneRow.keep {w w' : World} {v : Value} {rs : List Nat} (h : RuneRow w v rs) (k : Kept w w') : RuneRow w' v rs := by
  obtain ⟨a, c, h1, h2⟩ := h
  exact ⟨a, c, h1, fun q => by
    obtain ⟨g, o, e, f⟩ := h2 q
    exact ⟨g, o, e, fun j hj => k _ _ _ (f j hj)⟩⟩
theorem rune_row {w : World} {base : Nat} {v : Value} {rs : List Nat} (h : w.ownsRow base 21 1 v rs.length (rvals rs)) : RuneRow w v rs := by
  obtain ⟨a, c, rfl, h1, h2⟩ := row_shape h
  refine ⟨a, c, rfl, fun h0 => ?_⟩
  obtain ⟨g, rfl, _, hc⟩ := row_cells h h0
  refine ⟨g, 0, rfl, fun j hj => ?_⟩
  rw [Nat.zero_add]
  exact hc j _ (by rw [rvals, List.getElem?_map, List.getElem?_eq_getElem hj]; rfl)

theorem own_mono {w : World} {base base' : Nat} {e : TypeId} {size n : Nat} {v : Value} {xs : List Value} (h : w.ownsRow base e size v n xs) (hb : base' ≤ base) : w.ownsRow base' e size v n xs := by
  refine ⟨h.1, ?_⟩
  rcases h.2 with q | ⟨g, cap, cur, e1, h1, rest⟩
  · exact .inl q
  · exact .inr ⟨g, cap, cur, e1, by omega, rest⟩

theorem grown_iter {w w' : World} {row : Option Nat} (hg : w.grownBy w' row) {K : Nat} {o : Obj} (h : w.heap[K]? = some o) (hn : some K ≠ row) : w'.heap[K]? = some o := by
  rw [hg.block K (Array.getElem?_eq_some_iff.1 h).1 hn]; exact h

def RunesMade (rs : List Nat) (W : World) (e : Ending) (w' : World) : Prop := ∃ v, e = .returned v ∧ w'.ownsRow W.heap.size 21 1 v rs.length (rvals rs) ∧ Below W.heap.size W w'

set_option maxHeartbeats 2000000 in
set_option maxRecDepth 100000 in
theorem refRunes_k (l : List UInt8) (w : World) (hl : l.length ≤ 1073741824) : Calls Tryd.prog 29 #[.string (strOfL l)] w (RunesMade (rns l) w) := by
  obtain ⟨i0, hi0, hz0, hz1, hz2⟩ := info_parts info_rune
  go_enter Tryd.func29, Tryd.ntmps29
  go_wp2_with fail
  generalize hK : w.heap.size = K at *
  go_loopw [3] (fun o wr => ∃ (pos : Nat) (acc : List Nat) (oa : Option Addr) (oc : Nat), o = .slice oa acc.length oc ∧ wr.ownsRow (K + 1) 21 1 (.slice oa acc.length oc) acc.length (rvals acc) ∧ wr.heap[K]? = some (.stringIter (strOfL l) pos) ∧ Below w.heap.size w wr ∧ acc ++ rns (l.drop pos) = rns l ∧ pos ≤ l.length ∧ acc.length ≤ pos) (fun _ wr => (strOfL l).size - wr.iterPos K)
  case atStart =>
    refine ⟨0, [], none, 0, rfl, World.ownsRow_nil _ _ _ _, ?_, bl_alloc (bl_refl w) _, by simp, Nat.zero_le _, Nat.le_refl _⟩
    have := World.iter_heap w (strOfL l) 0
    rw [hK] at this
    exact this
  case round =>
    obtain ⟨pos, acc, oa, oc, rfl, hown, hit, hbw, hacc, hpl, hcp⟩ := hrel
    have hszk : K < wr.heap.size := (Array.getElem?_eq_some_iff.1 hit).1
    have HOWN := Lib.hid hown
    clear hown
    by_cases hp : pos < (strOfL l).size
    · have hnx : ∀ ty, (Instr.next (.pointer (some ⟨K, 0, none⟩)) true ty).run Tryd.prog wr = _ := fun ty => Lib.run_next_any_at wr K (strOfL l) pos ty hit hp
      obtain ⟨hne, hde, hrn, hw1, hw2, hok⟩ := range_step l pos hp
      have hit2 := Lib.iterAt_heap wr K (strOfL l) pos (pos + (Utf8.decode (strOfL l) pos).2) hit
      have hbw2 := Lib.below_iterAt hbw (k := K) (by omega) (strOfL l) (pos + (Utf8.decode (strOfL l) pos).2)
      rw [hde] at hnx hit2 hbw2
      rw [hrn] at hacc
      generalize (Lib.decodeL (l.drop pos)).1 = r at *
      generalize (Lib.decodeL (l.drop pos)).2 = wd at *
      have HA := Lib.hid hacc
      clear hde hrn hacc
      clear hne hok
      have HO2 := Lib.hid (ownsRow_iterAt HOWN.out (k := K) (by omega) (strOfL l) (pos + wd))
      have hsz2 : K + 1 ≤ (wr.iterAt K (strOfL l) (pos + wd)).heap.size := by rw [Lib.iterAt_size]; omega
      have HIT := Lib.hid hit2
      clear hit2
      generalize hW : wr.iterAt K (strOfL l) (pos + wd) = W at *
      go_wp2_with (at_builtin; (refine wpList_append_lies _ rfl _ _ _ rfl (K + 1) 21 i0 _ 1 4 Tryd.underlying32 hi0 hz0 hz1 hz2 (by rfl) (by omega) (.slice oa acc.length oc) acc.length (rvals acc) (by rfl) (HO2.out.alloc _) ⟨W.heap.size, 0, none⟩ 1 1 [.int .i32 (r : Int)] (by rfl) (by rfl) (World.news_of_block (heap_alloc_new W _)) (by simp [Value.oneCell']) (by omega) (by unfold maxLen; omega) (by omega) (by simp; omega) (W.heap.size + 1) (by simp) ?_; intro g cap w4 hown4 hgrow4 hat4 hlt4))
      have HO4 := Lib.hid hown4
      have HG4 := Lib.hid hgrow4
      have hgb := fun o h => (HO2.out.lt o h).1
      have HGB := Lib.hid hgb
      clear hown4 hgrow4 hat4 hgb
      go_roundw
      case rel =>
        refine ⟨pos + wd, acc ++ [r], some ⟨g, 0, none⟩, cap, by simp, ?_, ?_, ?_, ?_, hw2, by simp; omega⟩
        · rw [rvals_append]
          simpa [rvals] using HO4.out
        · exact grown_iter HG4.out (by rw [heap_alloc_old _ _ (by omega)]; exact HIT.out) (fun e => by have := HGB.out K e.symm; omega)
        · have hb4 : Below w.heap.size w (W.alloc (Obj.cells #[.int .i32 (r : Int)] 21)) := bl_alloc hbw2 _
          exact hb4.grown HG4.out hb4.size (fun o h => by have := HGB.out o h; omega)
        · rw [List.append_assoc]; exact HA.out
      case measure =>
        have hq : w4.heap[K]? = some (.stringIter (strOfL l) (pos + wd)) := grown_iter HG4.out (by rw [heap_alloc_old _ _ (by omega)]; exact HIT.out) (fun e => by have := HGB.out K e.symm; omega)
        simp only [World.iterPos, hq, hit]
        omega
    · have hnx : ∀ ty, (Instr.next (.pointer (some ⟨K, 0, none⟩)) true ty).run Tryd.prog wr = _ := fun ty => Lib.run_next_end_at wr K (strOfL l) pos ty hit hp
      have hz : l.drop pos = [] := by
        rw [strOfL_size] at hp
        exact List.drop_eq_nil_of_le (by omega)
      rw [hz, rns_nil, List.append_nil] at hacc
      have HA := Lib.hid hacc
      clear hacc hz
      go_wp2_with fail
      go_ret
      have hown := HOWN.out
      rw [HA.out] at hown ⊢
      exact ⟨_, rfl, own_mono hown (by omega), hbw⟩

set_option maxHeartbeats 2000000 in
set_option maxRecDepth 100000 in
theorem refText_k (v : Value) (rs : List Nat) (w : World) (h : RuneRow w v rs) (hl : rs.length ≤ 1073741824) : Calls Tryd.prog 59 #[v] w fun e w' => e = .returned (.string (strOfL (encL rs))) ∧ Below w.heap.size w w' := by
  obtain ⟨oa, oc, rfl, hc⟩ := h
  have HC := Lib.hid hc
  clear hc
  go_enter Tryd.func59, Tryd.ntmps59
  go_wp2_with fail
  go_loopw [3, 4] (fun s i wr => ∃ j : Nat, j ≤ rs.length ∧ i = .int .i64 j ∧ s = .string (strOfL (encL (rs.take j))) ∧ wr = w) (fun _ i _ => rs.length - (intOf i).toNat)
  case atStart => exact ⟨0, Nat.zero_le _, rfl, rfl, rfl⟩
  case round =>
    obtain ⟨j, hj, rfl, rfl, rfl⟩ := hrel
    by_cases hlt : j < rs.length
    · have k1 : (j : Int) < (rs.length : Int) := by omega
      obtain ⟨g, o, rfl, hcs⟩ := HC.out (by omega)
      have p0 := hcs j hlt
      have HE := encode_r rs[j]
      have hle := encL_le (rs.take j)
      rw [List.length_take] at hle
      have hle2 := (enc_len rs[j]).2
      have A1 := catL (P := Tryd.prog) (encL (rs.take j)) (Lib.encodeRune (rs[j] : Nat)) (by omega)
      have hst : encL (rs.take (j + 1)) = encL (rs.take j) ++ Lib.encodeRune (rs[j] : Nat) := by
        rw [List.take_succ_eq_append_getElem hlt, encL_append, encL_cons, encL_nil, List.append_nil]
      rw [← hst] at A1
      clear hst hle hle2 hcs
      generalize rs[j] = r at p0 HE A1
      generalize Lib.encodeRune (r : Int) = er at HE A1
      generalize encL (rs.take j) = m1 at A1 ⊢
      generalize hm2 : encL (rs.take (j + 1)) = m2 at A1
      go_wp2_with fail
      go_roundw
      case rel => exact ⟨j + 1, by omega, by go_num, by rw [hm2], by first | rfl | trivial⟩
      case measure => simp [intOf]; omega
    · have k1 : ¬ (j : Int) < (rs.length : Int) := by omega
      rw [List.take_of_length_le (by omega)]
      go_wp2_with fail
      go_ret
      exact ⟨rfl, bl_refl _⟩

theorem valid15_k (l : List UInt8) (w : World) (hl : l.length ≤ 1073741824) : Calls Tryd.prog 17 #[.string (strOfL l)] w fun e w' => e = .returned (.string (strOfL (valL l))) ∧ Below w.heap.size w w' := by
  have HV := Lib.hid (show valL l = encL (rns l) from rfl)
  have hlen := rns_len l
  go_enter Tryd.func17, Tryd.ntmps17
  go_wp2_with fail
  refine (refRunes_k l _ hl).mono ?_
  rintro e w2 ⟨v, rfl, hown, hb⟩
  have RR := rune_row hown
  have TK := Lib.hid (refText_k v (rns l) w2 RR (by omega))
  rw [← HV.out] at TK
  obtain ⟨oa, oc, rfl, _⟩ := RR
  clear hown
  go_wp2_with fail
  refine (TK.out).mono ?_
  rintro e w3 ⟨rfl, hb2⟩
  have hb3 := bl_trans hb hb2
  go_wp2_with fail
  go_ret
  exact ⟨rfl, hb3⟩

end Go.Proofs.YtnamnldijopkfaaDoor
