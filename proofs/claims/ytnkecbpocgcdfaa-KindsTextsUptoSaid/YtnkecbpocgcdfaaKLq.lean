/-
  The law's own words and quotes.
-/
import Derived.Test.YtnkecbpocgcdfaaKTw
import Derived.Stop.FmtQuoteTie
namespace Go.Proofs.Ytnkecbpocgcdfaa
open Go.ChangeShapes Go.WideShapes Go.ChangeAt Go.RowKit Go.Joins

def wordR (k : Int) : List UInt8 := if simB k = true then wordL k else []

theorem Word_k (k : Int) (w : World) : Calls Try.prog 17 #[.int .i64 k] w fun e w' => e = .returned (.string (strOfL (wordR k))) ∧ w = w' := by
  have HS := Lib.hid (simple_k k)
  have HW := Lib.hid (words_k k)
  have HR := Lib.hid (show wordR k = if simB k = true then wordL k else [] from rfl)
  cases h : simB k
  · rw [h] at HS HR
    clear h
    go_enter Try.func17, Try.ntmps17
    go_wp2_with fail
    refine (HS.out _).mono ?_
    rintro e w' ⟨rfl, rfl⟩
    go_wp2_with fail
    go_ret
    refine ⟨?_, rfl⟩
    rw [HR.out]
    rfl
  · rw [h] at HS HR
    clear h
    go_enter Try.func17, Try.ntmps17
    go_wp2_with fail
    refine (HS.out _).mono ?_
    rintro e w' ⟨rfl, rfl⟩
    go_wp2_with fail
    refine (HW.out _).mono ?_
    rintro e w' ⟨rfl, rfl⟩
    go_wp2_with fail
    go_ret
    refine ⟨?_, rfl⟩
    rw [HR.out]
    rfl

theorem word_l (k : Int) (w : World) : Calls Try.prog 18 #[.int .i64 k] w fun e w' => e = .returned (.string (strOfL (wordR k))) ∧ w = w' := by
  go_enter Try.func18, Try.ntmps18
  go_wp2
  all_goals
    go_ret
    refine ⟨?_, rfl⟩
    (try simp only [beq_iff_eq, beq_eq_false_iff_ne] at *)
    first
      | (subst_vars; rfl)
      | (rw [show wordR k = [] from if_neg (by simp [simB]; omega)]; rfl)

theorem encode_r (r : Nat) : Utf8.encode (r : Int) = strOfL (Lib.encodeRune (r : Int)) := by
  have h := Go.Extern.FmtText.encode_eq r
  apply ByteArray.ext
  apply Array.ext'
  have e : ∀ l : List UInt8, (l.map fun x => (x.toNat : Int)).map (fun x => x.toNat.toUInt8) = l := by
    intro l
    rw [List.map_map]
    conv => rhs; rw [← List.map_id l]
    apply List.map_congr_left
    intro x _
    simp
  have := e (Utf8.encode (r : Int)).data.toList
  show (Utf8.encode (r : Int)).data.toList = (Lib.encodeRune (r : Int)).toArray.toList
  rw [← this]
  show List.map _ (Go.Extern.FmtText.nums _) = _
  rw [h]
  rfl

set_option maxHeartbeats 4000000 in
set_option maxRecDepth 1000000 in
theorem quote_l (s : ByteArray) (w : World) (hs : s.size ≤ 28000000000000) :
    Calls Try.prog 20 #[.string s] w fun e w' => e = .returned (.string (strOfL (quoteL s))) ∧ Below w.heap.size w w' := by
  go_enter Try.func20, Try.ntmps20
  go_wp2_with fail
  generalize hK : w.heap.size = K at *
  go_loopw [3] (fun o wr => ∃ (pos fuel : Nat) (acc : List UInt8), o = .string (strOfL acc) ∧ wr.heap[K]? = some (.stringIter s pos) ∧ Below w.heap.size w wr ∧ acc ++ escFrom s fuel pos = [34] ++ escFrom s s.size 0 ∧ s.size ≤ pos + fuel ∧ acc.length ≤ 5 * pos + 1) (fun _ wr => s.size - wr.iterPos K)
  case atStart =>
    refine ⟨0, s.size, [34], rfl, ?_, bl_alloc (bl_refl w) _, rfl, by omega, by simp⟩
    have := World.iter_heap w s 0
    rw [hK] at this
    exact this
  case round =>
    obtain ⟨pos, fuel, acc, rfl, hit, hbw, hacc, hfu, hal⟩ := hrel
    have hszk : K < wr.heap.size := (Array.getElem?_eq_some_iff.1 hit).1
    by_cases hp : pos < s.size
    · have hnx : ∀ ty, (Instr.next (.pointer (some ⟨K, 0, none⟩)) true ty).run Try.prog wr = _ := fun ty => Lib.run_next_any_at wr K s pos ty hit hp
      have hwd := width_pos s pos hp
      have hd1 := decode_le s pos
      have hit2 := Lib.iterAt_heap wr K s pos (pos + (Utf8.decode s pos).2) hit
      have hbw2 := Lib.below_iterAt hbw (k := K) (by omega) s (pos + (Utf8.decode s pos).2)
      obtain ⟨f, rfl⟩ : ∃ f, fuel = f + 1 := ⟨fuel - 1, by omega⟩
      have hstep : escFrom s (f + 1) pos = esc (Utf8.decode s pos).1 ++ escFrom s f (pos + (Utf8.decode s pos).2) := by simp [escFrom, hp]
      generalize hr : (Utf8.decode s pos).1 = r at *
      generalize hw : (Utf8.decode s pos).2 = wd at *
      have HS := Lib.hid hstep
      have HACC := Lib.hid hacc
      clear hr hw hstep
      have hstep := HS.out
      clear HS
      by_cases e92 : r = 92
      · obtain rfl : r = 92 := by omega
        have A1 : ∀ v, (Op.stringOp .add (strOfL acc) ⟨#[92]⟩).run Try.prog v = .ok (.string (strOfL (acc ++ [92]))) v := catL acc [92] (by simp; omega)
        have HE : Utf8.encode 92 = strOfL [92] := by rfl
        have A2 : ∀ v, (Op.stringOp .add (strOfL (acc ++ [92])) (strOfL [92])).run Try.prog v = .ok (.string (strOfL (acc ++ esc 92))) v := by
          have := catL (P := Try.prog) (acc ++ [92]) [92] (by simp; omega)
          rw [List.append_assoc] at this
          exact this
        generalize acc ++ [92] = m1 at A1 A2
        clear hacc
        generalize hm2 : acc ++ esc 92 = m2 at A2
        go_wp2_with fail
        go_roundw
        case rel =>
          refine ⟨pos + wd, f, acc ++ esc 92, by rw [hm2], hit2, hbw2, ?_, by omega, by have := esc_le 92; simp; omega⟩
          rw [← HACC.out, hstep, List.append_assoc]; try rfl
        case measure =>
          simp only [World.iterPos, hit2, hit]
          omega
      by_cases e34 : r = 34
      · obtain rfl : r = 34 := by omega
        have A1 : ∀ v, (Op.stringOp .add (strOfL acc) ⟨#[92]⟩).run Try.prog v = .ok (.string (strOfL (acc ++ [92]))) v := catL acc [92] (by simp; omega)
        have HE : Utf8.encode 34 = strOfL [34] := by rfl
        have A2 : ∀ v, (Op.stringOp .add (strOfL (acc ++ [92])) (strOfL [34])).run Try.prog v = .ok (.string (strOfL (acc ++ esc 34))) v := by
          have := catL (P := Try.prog) (acc ++ [92]) [34] (by simp; omega)
          rw [List.append_assoc] at this
          exact this
        generalize acc ++ [92] = m1 at A1 A2
        clear hacc
        generalize hm2 : acc ++ esc 34 = m2 at A2
        go_wp2_with fail
        go_roundw
        case rel =>
          refine ⟨pos + wd, f, acc ++ esc 34, by rw [hm2], hit2, hbw2, ?_, by omega, by have := esc_le 34; simp; omega⟩
          rw [← HACC.out, hstep, List.append_assoc]; try rfl
        case measure =>
          simp only [World.iterPos, hit2, hit]
          omega
      by_cases e10 : r = 10
      · obtain rfl : r = 10 := by omega
        have A1 : ∀ v, (Op.stringOp .add (strOfL acc) ⟨#[92, 110]⟩).run Try.prog v = .ok (.string (strOfL (acc ++ esc 10))) v := catL acc [92, 110] (by simp; omega)
        clear hacc
        generalize hm2 : acc ++ esc 10 = m2 at A1
        go_wp2_with fail
        go_roundw
        case rel =>
          refine ⟨pos + wd, f, acc ++ esc 10, by rw [hm2], hit2, hbw2, ?_, by omega, by have := esc_le 10; simp; omega⟩
          rw [← HACC.out, hstep, List.append_assoc]; try rfl
        case measure =>
          simp only [World.iterPos, hit2, hit]
          omega
      by_cases e13 : r = 13
      · obtain rfl : r = 13 := by omega
        have A1 : ∀ v, (Op.stringOp .add (strOfL acc) ⟨#[92, 114]⟩).run Try.prog v = .ok (.string (strOfL (acc ++ esc 13))) v := catL acc [92, 114] (by simp; omega)
        clear hacc
        generalize hm2 : acc ++ esc 13 = m2 at A1
        go_wp2_with fail
        go_roundw
        case rel =>
          refine ⟨pos + wd, f, acc ++ esc 13, by rw [hm2], hit2, hbw2, ?_, by omega, by have := esc_le 13; simp; omega⟩
          rw [← HACC.out, hstep, List.append_assoc]; try rfl
        case measure =>
          simp only [World.iterPos, hit2, hit]
          omega
      by_cases e9 : r = 9
      · obtain rfl : r = 9 := by omega
        have A1 : ∀ v, (Op.stringOp .add (strOfL acc) ⟨#[92, 116]⟩).run Try.prog v = .ok (.string (strOfL (acc ++ esc 9))) v := catL acc [92, 116] (by simp; omega)
        clear hacc
        generalize hm2 : acc ++ esc 9 = m2 at A1
        go_wp2_with fail
        go_roundw
        case rel =>
          refine ⟨pos + wd, f, acc ++ esc 9, by rw [hm2], hit2, hbw2, ?_, by omega, by have := esc_le 9; simp; omega⟩
          rw [← HACC.out, hstep, List.append_assoc]; try rfl
        case measure =>
          simp only [World.iterPos, hit2, hit]
          omega
      · have n1 : ((r : Int) == 34) = false := by rw [beq_eq_false_iff_ne]; omega
        have n2 : ((r : Int) == 92) = false := by rw [beq_eq_false_iff_ne]; omega
        have n3 : ((r : Int) == 10) = false := by rw [beq_eq_false_iff_ne]; omega
        have n4 : ((r : Int) == 13) = false := by rw [beq_eq_false_iff_ne]; omega
        have n5 : ((r : Int) == 9) = false := by rw [beq_eq_false_iff_ne]; omega
        have hesc : esc r = Lib.encodeRune r := by unfold esc; rw [if_neg (by omega), if_neg (by omega), if_neg (by omega), if_neg (by omega)]
        have HE := encode_r r
        rw [← hesc] at HE
        have hle := esc_le r
        have A1 := catL (P := Try.prog) acc (esc r) (by omega)
        clear hacc hesc
        generalize hm2 : acc ++ esc r = m2 at A1
        go_wp2_with fail
        go_roundw
        case rel =>
          refine ⟨pos + wd, f, acc ++ esc r, by rw [hm2], hit2, hbw2, ?_, by omega, by simp; omega⟩
          rw [← HACC.out, hstep, List.append_assoc]; try rfl
        case measure =>
          simp only [World.iterPos, hit2, hit]
          omega
    · have hnx : ∀ ty, (Instr.next (.pointer (some ⟨K, 0, none⟩)) true ty).run Try.prog wr = _ := fun ty => Lib.run_next_end_at wr K s pos ty hit hp
      rw [escFrom_end s fuel pos hp, List.append_nil] at hacc
      have hl : acc.length ≤ 5 * s.size + 1 := by
        have := escFrom_len s s.size 0
        rw [hacc, List.length_append]; simp; omega
      have A1 : ∀ v, (Op.stringOp .add (strOfL acc) ⟨#[34]⟩).run Try.prog v = .ok (.string (strOfL (quoteL s))) v := by
        rw [quoteL, ← hacc]
        exact catL acc [34] (by simp; omega)
      clear hacc
      go_wp2_with fail
      go_ret
      exact ⟨rfl, hbw⟩

end Go.Proofs.Ytnkecbpocgcdfaa
