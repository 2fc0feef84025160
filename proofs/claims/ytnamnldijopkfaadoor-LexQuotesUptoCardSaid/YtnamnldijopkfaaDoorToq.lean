/-
  The contracts of quoted and Quote: a text as a string of the language.
-/
import Derived.Test.YtnamnldijopkfaaDoorTn
import Derived.Laws.RangeAny
namespace Go.Proofs.YtnamnldijopkfaaDoor
open Go.ChangeShapes Go.WideShapes Go.ChangeAt Go.RowKit Go.Joins

def escFrom (s : ByteArray) : Nat → Nat → List UInt8
  | 0, _ => []
  | fuel + 1, pos => if pos < s.size then esc (Utf8.decode s pos).1 ++ escFrom s fuel (pos + (Utf8.decode s pos).2) else []

def quoteB (s : ByteArray) : List UInt8 := [34] ++ escFrom s s.size 0 ++ [34]

theorem width_pos (s : ByteArray) (pos : Nat) (h : pos < s.size) : 1 ≤ (Utf8.decode s pos).2 := by
  by_cases ha : (s[pos]'h).toNat < 128
  · rw [decode_ascii s pos h ha]
    exact Nat.le_refl _
  · exact (decode_high s pos h (by omega)).2

theorem escFrom_end (s : ByteArray) (fuel pos : Nat) (h : ¬ pos < s.size) : escFrom s fuel pos = [] := by
  cases fuel with
  | zero => rfl
  | succ f => simp [escFrom, h]

theorem encode_le (r : Int) : (Lib.encodeRune r).length ≤ 4 := by
  have := Lib.runeCells_le r
  rw [Lib.runeCells_length] at this
  exact this.2

theorem esc_le (r : Int) : (esc r).length ≤ 5 := by
  have := encode_le r
  unfold esc
  split
  · simp; omega
  · split
    · simp
    · split
      · simp
      · split
        · simp
        · omega

theorem escFrom_len (s : ByteArray) : ∀ fuel pos, (escFrom s fuel pos).length ≤ 5 * fuel
  | 0, _ => by simp [escFrom]
  | fuel + 1, pos => by
    rw [escFrom]
    split
    · have := esc_le (Utf8.decode s pos).1
      have := escFrom_len s fuel (pos + (Utf8.decode s pos).2)
      rw [List.length_append]; omega
    · simp

set_option maxHeartbeats 4000000 in
set_option maxRecDepth 1000000 in
theorem quoted_k (s : ByteArray) (w : World) (hs : s.size ≤ 28000000000000) :
    Calls Tryd.prog 70 #[.string s] w fun e w' => e = .returned (.string ⟨(quoteB s).toArray⟩) ∧ Below w.heap.size w w' := by
  go_enter Tryd.func70, Tryd.ntmps70
  go_wp2_with fail
  refine (Tryd.Builder_WriteByte_k w.heap.size w.heap.size [] 34 _ (Lib.IsBuilderF.of (Lib.fresh_isBuilder 61 5 w)) (by simp) (by simp)).mono ?_
  rintro e W1 ⟨rfl, h1, b1, k1⟩
  go_wp2_with fail
  have hsz1 : w.heap.size < W1.heap.size := by have := b1.size; simp at this; omega
  have hb1 : Below w.heap.size w W1 := ((Below.refl _ w).alloc (Nat.le_refl _) _).trans b1
  clear k1 b1
  generalize hK : W1.heap.size = K at *
  go_loopw [] (fun wr => ∃ (pos fuel : Nat) (acc : List UInt8), Lib.IsBuilderF 61 5 w.heap.size w.heap.size (Lib.byteCells acc) wr ∧ wr.heap[K]? = some (.stringIter s pos) ∧ Below w.heap.size w wr ∧ acc ++ escFrom s fuel pos = [34] ++ escFrom s s.size 0 ∧ s.size ≤ pos + fuel ∧ acc.length ≤ 5 * pos + 1) (fun wr => s.size - wr.iterPos K)
  case atStart =>
    refine ⟨0, s.size, [34], (show Lib.IsBuilderF 61 5 w.heap.size w.heap.size [.int .u8 34] W1 from Or.inr (by simpa using h1)).alloc _, ?_, hb1.alloc (by omega) _, rfl, by omega, by simp⟩
    have := World.iter_heap W1 s 0
    rw [hK] at this
    exact this
  case round =>
    obtain ⟨pos, fuel, acc, hI, hit, hbw, hacc, hfu, hal⟩ := hrel
    have hszk : K < wr.heap.size := (Array.getElem?_eq_some_iff.1 hit).1
    by_cases hp : pos < s.size
    · have hnx : ∀ ty, (Instr.next (.pointer (some ⟨K, 0, none⟩)) true ty).run Tryd.prog wr = _ := fun ty => Lib.run_next_any_at wr K s pos ty hit hp
      have hwd := width_pos s pos hp
      have hd1 := decode_le s pos
      have hI2 := hI.iterAt hit (pos + (Utf8.decode s pos).2)
      have hit2 := Lib.iterAt_heap wr K s pos (pos + (Utf8.decode s pos).2) hit
      have hbw2 := Lib.below_iterAt hbw (k := K) (by omega) s (pos + (Utf8.decode s pos).2)
      have hsz2 : w.heap.size ≤ (wr.iterAt K s (pos + (Utf8.decode s pos).2)).heap.size := by rw [Lib.iterAt_size]; omega
      obtain ⟨f, rfl⟩ : ∃ f, fuel = f + 1 := ⟨fuel - 1, by omega⟩
      have hstep : escFrom s (f + 1) pos = esc (Utf8.decode s pos).1 ++ escFrom s f (pos + (Utf8.decode s pos).2) := by simp [escFrom, hp]
      generalize hr : (Utf8.decode s pos).1 = r at *
      generalize hw : (Utf8.decode s pos).2 = wd at *
      have HS := Lib.hid hstep
      clear hr hw hstep
      have hstep := HS.out
      clear HS
      by_cases e34 : r = 34
      · obtain rfl : r = 34 := by omega
        go_wp2_with fail
        refine (Tryd.Builder_WriteByte_k w.heap.size w.heap.size _ 92 _ hI2 (by rw [Lib.byteCells_length]; omega) hsz2).mono ?_
        rintro e W2 ⟨rfl, h2, b2, k2⟩
        go_wp2_with fail
        refine (Tryd.Builder_WriteRune_k w.heap.size w.heap.size _ _ (by omega) (by omega) _ (Or.inr h2) (by simp [Lib.byteCells_length]; omega) (by have := b2.size; omega)).mono ?_
        rintro e W3 ⟨rfl, h3, b3, k3⟩
        go_wp2_with fail
        go_roundw
        case rel =>
          refine ⟨pos + wd, f, acc ++ esc 34, ?_, (k3.iter (k2.iter hit2 (by omega)) (by omega)), ((hbw2.trans b2).trans b3), ?_, by omega, by have := esc_le 34; simp; omega⟩
          · rw [Lib.byteCells_append, show esc 34 = [92] ++ Lib.encodeRune 34 from by simp [esc], Lib.byteCells_append, Lib.byteCells_encodeRune, show Lib.byteCells [92] = [.int .u8 92] from rfl]; exact Or.inr (by simpa using h3)
          · rw [← hacc, hstep, List.append_assoc]; try rfl
        case measure =>
          have hq := (k3.iter (k2.iter hit2 (by omega)) (by omega))
          simp only [World.iterPos, hq, hit]
          omega
      by_cases e92 : r = 92
      · obtain rfl : r = 92 := by omega
        go_wp2_with fail
        refine (Tryd.Builder_WriteByte_k w.heap.size w.heap.size _ 92 _ hI2 (by rw [Lib.byteCells_length]; omega) hsz2).mono ?_
        rintro e W2 ⟨rfl, h2, b2, k2⟩
        go_wp2_with fail
        refine (Tryd.Builder_WriteRune_k w.heap.size w.heap.size _ _ (by omega) (by omega) _ (Or.inr h2) (by simp [Lib.byteCells_length]; omega) (by have := b2.size; omega)).mono ?_
        rintro e W3 ⟨rfl, h3, b3, k3⟩
        go_wp2_with fail
        go_roundw
        case rel =>
          refine ⟨pos + wd, f, acc ++ esc 92, ?_, (k3.iter (k2.iter hit2 (by omega)) (by omega)), ((hbw2.trans b2).trans b3), ?_, by omega, by have := esc_le 92; simp; omega⟩
          · rw [Lib.byteCells_append, show esc 92 = [92] ++ Lib.encodeRune 92 from by simp [esc], Lib.byteCells_append, Lib.byteCells_encodeRune, show Lib.byteCells [92] = [.int .u8 92] from rfl]; exact Or.inr (by simpa using h3)
          · rw [← hacc, hstep, List.append_assoc]; try rfl
        case measure =>
          have hq := (k3.iter (k2.iter hit2 (by omega)) (by omega))
          simp only [World.iterPos, hq, hit]
          omega
      by_cases e10 : r = 10
      · obtain rfl : r = 10 := by omega
        go_wp2_with fail
        refine (Tryd.Builder_WriteString_k w.heap.size w.heap.size _ _ _ hI2 (by rw [Lib.byteCells_length]; simp [ByteArray.size]; omega) hsz2).mono ?_
        rintro e W2 ⟨rfl, h2, b2, k2⟩
        rw [show Lib.strCells ⟨#[92, 110]⟩ = Lib.byteCells [92, 110] from rfl] at h2
        go_wp2_with fail
        go_roundw
        case rel =>
          refine ⟨pos + wd, f, acc ++ esc 10, ?_, (k2.iter hit2 (by omega)), (hbw2.trans b2), ?_, by omega, by have := esc_le 10; simp; omega⟩
          · rw [Lib.byteCells_append, show esc 10 = [92, 110] from by simp [esc]]; exact Or.inr (by simpa using h2)
          · rw [← hacc, hstep, List.append_assoc]; try rfl
        case measure =>
          have hq := (k2.iter hit2 (by omega))
          simp only [World.iterPos, hq, hit]
          omega
      by_cases e13 : r = 13
      · obtain rfl : r = 13 := by omega
        go_wp2_with fail
        refine (Tryd.Builder_WriteString_k w.heap.size w.heap.size _ _ _ hI2 (by rw [Lib.byteCells_length]; simp [ByteArray.size]; omega) hsz2).mono ?_
        rintro e W2 ⟨rfl, h2, b2, k2⟩
        rw [show Lib.strCells ⟨#[92, 114]⟩ = Lib.byteCells [92, 114] from rfl] at h2
        go_wp2_with fail
        go_roundw
        case rel =>
          refine ⟨pos + wd, f, acc ++ esc 13, ?_, (k2.iter hit2 (by omega)), (hbw2.trans b2), ?_, by omega, by have := esc_le 13; simp; omega⟩
          · rw [Lib.byteCells_append, show esc 13 = [92, 114] from by simp [esc]]; exact Or.inr (by simpa using h2)
          · rw [← hacc, hstep, List.append_assoc]; try rfl
        case measure =>
          have hq := (k2.iter hit2 (by omega))
          simp only [World.iterPos, hq, hit]
          omega
      by_cases e9 : r = 9
      · obtain rfl : r = 9 := by omega
        go_wp2_with fail
        refine (Tryd.Builder_WriteString_k w.heap.size w.heap.size _ _ _ hI2 (by rw [Lib.byteCells_length]; simp [ByteArray.size]; omega) hsz2).mono ?_
        rintro e W2 ⟨rfl, h2, b2, k2⟩
        rw [show Lib.strCells ⟨#[92, 116]⟩ = Lib.byteCells [92, 116] from rfl] at h2
        go_wp2_with fail
        go_roundw
        case rel =>
          refine ⟨pos + wd, f, acc ++ esc 9, ?_, (k2.iter hit2 (by omega)), (hbw2.trans b2), ?_, by omega, by have := esc_le 9; simp; omega⟩
          · rw [Lib.byteCells_append, show esc 9 = [92, 116] from by simp [esc]]; exact Or.inr (by simpa using h2)
          · rw [← hacc, hstep, List.append_assoc]; try rfl
        case measure =>
          have hq := (k2.iter hit2 (by omega))
          simp only [World.iterPos, hq, hit]
          omega
      · have n1 : ((r : Int) == 34) = false := by rw [beq_eq_false_iff_ne]; omega
        have n2 : ((r : Int) == 92) = false := by rw [beq_eq_false_iff_ne]; omega
        have n3 : ((r : Int) == 10) = false := by rw [beq_eq_false_iff_ne]; omega
        have n4 : ((r : Int) == 13) = false := by rw [beq_eq_false_iff_ne]; omega
        have n5 : ((r : Int) == 9) = false := by rw [beq_eq_false_iff_ne]; omega
        have hesc : esc r = Lib.encodeRune r := by unfold esc; rw [if_neg (by omega), if_neg (by omega), if_neg (by omega), if_neg (by omega)]
        have HE := Lib.hid hesc
        clear hesc
        go_wp2_with fail
        refine (Tryd.Builder_WriteRune_k w.heap.size w.heap.size _ _ (by omega) (by omega) _ hI2 (by rw [Lib.byteCells_length]; omega) hsz2).mono ?_
        rintro e W2 ⟨rfl, h2, b2, k2⟩
        go_wp2_with fail
        go_roundw
        case rel =>
          refine ⟨pos + wd, f, acc ++ esc r, ?_, (k2.iter hit2 (by omega)), (hbw2.trans b2), ?_, by omega, by have := esc_le r; simp; omega⟩
          · rw [Lib.byteCells_append, HE.out, Lib.byteCells_encodeRune]; exact Or.inr (by simpa using h2)
          · rw [← hacc, hstep, List.append_assoc]; try rfl
        case measure =>
          have hq := (k2.iter hit2 (by omega))
          simp only [World.iterPos, hq, hit]
          omega
    · have hnx : ∀ ty, (Instr.next (.pointer (some ⟨K, 0, none⟩)) true ty).run Tryd.prog wr = _ := fun ty => Lib.run_next_end_at wr K s pos ty hit hp
      rw [escFrom_end s fuel pos hp, List.append_nil] at hacc
      have hl : acc.length ≤ 5 * s.size + 1 := by
        have := escFrom_len s s.size 0
        rw [hacc, List.length_append]; simp; omega
      have HA := Lib.hid hacc
      clear hacc
      go_wp2_with fail
      refine (Tryd.Builder_WriteByte_k w.heap.size w.heap.size _ 34 _ hI (by rw [Lib.byteCells_length]; omega) (by omega)).mono ?_
      rintro e W2 ⟨rfl, h2, b2, k2⟩
      have hI3 : Lib.IsBuilderF 61 5 w.heap.size w.heap.size (Lib.byteCells (acc ++ [34])) W2 := by
        rw [Lib.byteCells_append]
        exact Or.inr h2
      go_wp2_with fail
      refine (Tryd.Builder_String_any_k w.heap.size w.heap.size (acc ++ [34]) _ hI3 (by have := b2.size; omega)).mono ?_
      rintro e W3 ⟨rfl, _, b3, _⟩
      go_wp2_with fail
      go_ret
      refine ⟨?_, (hbw.trans b2).trans b3⟩
      show Ending.returned (.string ⟨(acc ++ [34]).toArray⟩) = _
      rw [HA.out]
      rfl

theorem quote_k (s : ByteArray) (w : World) (hs : s.size ≤ 28000000000000) :
    Calls Tryd.prog 34 #[.string s] w fun e w' => e = .returned (.string ⟨(quoteB s).toArray⟩) ∧ Below w.heap.size w w' := by
  have H := Lib.hid (quoted_k s w hs)
  clear hs
  go_enter Tryd.func34, Tryd.ntmps34
  go_wp2_with fail
  refine (H.out).mono ?_
  rintro e w' ⟨rfl, hb⟩
  go_wp2_with fail
  go_ret
  exact ⟨rfl, hb⟩

theorem esc_from (l : List UInt8) : ∀ (fuel pos : Nat), l.length ≤ pos + fuel → escFrom (strOfL l) fuel pos = escL (rns (l.drop pos)) := by
  intro fuel
  induction fuel with
  | zero =>
    intro pos h
    rw [List.drop_eq_nil_of_le (by omega), rns_nil]
    rfl
  | succ f ih =>
    intro pos h
    by_cases hp : pos < (strOfL l).size
    · obtain ⟨hne, hde, hrn, hw1, hw2, hok⟩ := range_step l pos hp
      rw [escFrom, if_pos hp, hde, ih _ (by omega), hrn, escL_cons]
    · rw [escFrom_end _ _ _ hp]
      rw [strOfL_size] at hp
      rw [List.drop_eq_nil_of_le (by omega), rns_nil]
      rfl
theorem quoteB_eq (l : List UInt8) : quoteB (strOfL l) = quoteL (rns l) := by
  unfold quoteB quoteL
  rw [strOfL_size, esc_from l _ _ (by omega), List.drop_zero]
/-- kinds.Quote of a text of runes -/
theorem quoteR_k (l : List UInt8) (w : World) (hl : l.length ≤ 1073741824) : Calls Tryd.prog 34 #[.string (strOfL l)] w fun e w' => e = .returned (.string (strOfL (quoteL (rns l)))) ∧ Below w.heap.size w w' := by
  have h := quote_k (strOfL l) w (by rw [strOfL_size]; omega)
  rw [quoteB_eq] at h
  exact h

end Go.Proofs.YtnamnldijopkfaaDoor
