/-
  The reader's symbol.
-/
import Derived.Test.YtnamnldijopkfaaDoorTle
namespace Go.Proofs.YtnamnldijopkfaaDoor
open Go.ChangeShapes Go.WideShapes Go.ChangeAt Go.RowKit Go.Joins

/-- what taking a token leaves: it, or false -/
def Out (w : World) (g : Nat) (l : List UInt8) (k : Nat) (ts : List Tok) (r : Option (Nat × List UInt8 × Nat)) (e : Ending) (w' : World) : Prop :=
  match r with
  | some x => e = .returned (.bool true) ∧ Rd w' g l (k + x.2.2) (ts ++ [⟨x.1, x.2.1, k⟩]) ∧ Below g w w'
  | none => e = .returned (.bool false) ∧ Below g w w'

theorem find_none (t : List UInt8) : ∀ (n : Nat) (ss : List (List UInt8)), (∀ j, j < n → Lib.hasPrefix t (ss.getD j []) = false) → ss.length ≤ n → (ss.find? fun s => Lib.hasPrefix t s) = none := by
  intro n ss h hl
  rw [List.find?_eq_none]
  intro x hx
  obtain ⟨j, hj, rfl⟩ := List.getElem_of_mem hx
  have := h j (by omega)
  simp [List.getD, hj] at this
  simp [this]
theorem find_some (t : List UInt8) : ∀ (j : Nat) (ss : List (List UInt8)), (∀ i, i < j → Lib.hasPrefix t (ss.getD i []) = false) → j < ss.length → Lib.hasPrefix t (ss.getD j []) = true → (ss.find? fun s => Lib.hasPrefix t s) = some (ss.getD j []) := by
  intro j
  induction j with
  | zero =>
    intro ss _ hl h
    cases ss with
    | nil => simp at hl
    | cons s ss => simp at h; simp [List.find?, h]
  | succ j ih =>
    intro ss h1 hl h
    cases ss with
    | nil => simp at hl
    | cons s ss =>
      have h0 := h1 0 (by omega)
      simp at h0
      simp [List.find?, h0]
      have := ih ss (fun i hi => by have := h1 (i + 1) (by omega); simpa using this) (by simp at hl; omega) (by simpa using h)
      simpa using this

theorem extract_mid (l : List UInt8) (a n : Nat) : (strOfL l).extract a (a + n) = strOfL ((l.drop a).take n) := by
  apply ByteArray.ext
  apply Array.ext'
  simp [strOfL, ByteArray.extract, ByteArray.copySlice]
theorem byte_at (l : List UInt8) (k : Nat) (h : k < (strOfL l).size) : (strOfL l)[k] = (l.drop k).getD 0 0 := by
  have hk : k < l.length := by rwa [strOfL_size] at h
  have e : (l.drop k).getD 0 0 = l[k] := by simp [List.getD, hk]
  rw [e]
  show (strOfL l).data[k] = l[k]
  simp [strOfL]

set_option maxHeartbeats 4000000 in
set_option maxRecDepth 100000 in
theorem symbol_k (l : List UInt8) (k g : Nat) (ts : List Tok) (w : World) (h : Rd w g l k ts) (hk : k < l.length) (hl : l.length ≤ 1073741824) (ht : ts.length ≤ 1073741823) :
    Calls Tryd.prog 93 #[.pointer (some ⟨g, 0, none⟩), .int .i64 k] w (Out w g l k ts ((symP (l.drop k)).map fun s => (5, s, s.length))) := by
  have hsz := strOfL_size l
  have hEX := extract_drop l k
  rw [hsz] at hEX
  have hlt := h.lt
  have HP : ∀ (p : ByteArray) (v : World), Calls Tryd.prog 86 #[.string (strOfL (l.drop k)), .string p] v fun e w' => e = .returned (.bool (Lib.hasPrefix (l.drop k) p.data.toList)) ∧ w' = v := fun p v => by
    have := Tryd.strings_HasPrefix (strOfL (l.drop k)) p v
    rw [strOfL_list] at this
    exact this
  replace HP := Lib.hid HP
  have HR := Lib.hid h
  have hs := h.s
  clear h
  have HSYM := Lib.hid (show symP (l.drop k) = match twos.find? (fun s => Lib.hasPrefix (l.drop k) s) with | some s => some s | none => if Lib.indexByte singles ((l.drop k).getD 0 0) < 0 then none else some ((l.drop k).take 1) from rfl)
  generalize symP (l.drop k) = sy at *
  go_enter Tryd.func93, Tryd.ntmps93
  go_wp2_with fail
  generalize hB : w.heap.size = B at *
  go_loopw [9] (fun i wr => ∃ j : Nat, j ≤ 6 ∧ i = .int .i64 j ∧ (∀ x, x < j → Lib.hasPrefix (l.drop k) (twos.getD x []) = false) ∧ wr = w.alloc (Obj.cells #[.string ⟨#[46, 46]⟩, .string ⟨#[42, 42]⟩, .string ⟨#[60, 61]⟩, .string ⟨#[62, 61]⟩, .string ⟨#[33, 61]⟩, .string ⟨#[45, 62]⟩] 9)) (fun i _ => 6 - (intOf i).toNat)
  case atStart => exact ⟨0, Nat.zero_le _, rfl, fun _ hx => absurd hx (Nat.not_lt_zero _), rfl⟩
  case round =>
    obtain ⟨j, hj, rfl, hno, hW⟩ := hrel
    have hbW : Below w.heap.size w wr := by rw [hW]; exact bl_alloc (bl_refl w) _
    have hRW := Lib.hid (HR.out.keep hbW)
    have hsW := hRW.out.s
    have hBW : Below g w wr := hbW.mono (by omega)
    have HNO := Lib.hid hno
    have HW := Lib.hid hW
    by_cases hlt6 : j < 6
    · have hc : wr.cell? ⟨B, j, none⟩ = some (.string (strOfL (twos.getD j []))) := by
        rw [hW, ← hB]
        have : j = 0 ∨ j = 1 ∨ j = 2 ∨ j = 3 ∨ j = 4 ∨ j = 5 := by omega
        rcases this with rfl | rfl | rfl | rfl | rfl | rfl
        all_goals (rw [cell_of_row _ _ _ _ _ (0, 0) (heap_alloc_new w _)]; rfl)
      have hl2 : (twos.getD j []).length = 2 := by
        have : j = 0 ∨ j = 1 ∨ j = 2 ∨ j = 3 ∨ j = 4 ∨ j = 5 := by omega
        rcases this with rfl | rfl | rfl | rfl | rfl | rfl
        all_goals rfl
      have HH := HP.out (strOfL (twos.getD j []))
      rw [strOfL_list] at HH
      replace HH := Lib.hid HH
      have HFS := Lib.hid (find_some (l.drop k) j twos hno (by show j < 6; exact hlt6))
      have HB := Lib.hid (show ∀ b, Lib.hasPrefix (l.drop k) (twos.getD j []) = b → Lib.hasPrefix (l.drop k) (twos.getD j []) = b from fun _ h => h)
      generalize hx : twos.getD j [] = sx at *
      generalize hpb : Lib.hasPrefix (l.drop k) sx = pb at *
      have HPB := Lib.hid hpb
      have HX := Lib.hid hx
      have k1 : (j : Int) < 6 := by omega
      have k2 : (0 : Int) ≤ (j : Int) := by omega
      have k3 : (k : Int) ≤ (l.length : Int) := by omega
      have k4 : k ≤ l.length := by omega
      clear hpb hx hno hW HB
      cases pb with
      | true =>
        have PK := Lib.hid (put_k l k g ts 5 sx k (k + 2) wr hRW.out (by omega))
        go_wp2_with fail
        refine (HH.out _).mono ?_
        rintro e w2 ⟨rfl, rfl⟩
        go_wp2_with fail
        refine PK.out.mono ?_
        rintro e w3 ⟨rfl, hR3, hb3⟩
        go_wp2_with fail
        go_ret
        have hsy := HSYM.out
        rw [HFS.out (by first | rfl | trivial)] at hsy
        dsimp only at hsy
        rw [hsy]
        refine ⟨rfl, ?_, hBW.trans hb3⟩
        dsimp only
        rw [hl2]
        exact hR3
      | false =>
        go_wp2_with fail
        refine (HH.out _).mono ?_
        rintro e w2 ⟨rfl, rfl⟩
        go_wp2_with fail
        go_roundw
        case rel =>
          refine ⟨j + 1, by omega, by go_num, fun x hx => ?_, HW.out⟩
          by_cases he : x = j
          · rw [he, HX.out]; exact HPB.out
          · exact HNO.out x (by omega)
        case measure => simp [intOf]; omega
    · have hje : j = 6 := by omega
      subst hje
      have hnf := find_none (l.drop k) 6 twos hno (by decide)
      have hsy := HSYM.out
      rw [hnf] at hsy
      dsimp only at hsy
      have HSY := Lib.hid hsy
      have hib := byte_at l k
      have hmid := extract_mid l k 1
      have IK : ∀ v : World, Calls Tryd.prog 87 #[.string (strOfL singles), .int .u8 (((l.drop k).getD 0 0).toNat : Int)] v fun e w' => e = .returned (.int .i64 (Lib.indexByte singles ((l.drop k).getD 0 0))) ∧ w' = v := fun v => by
        have := Tryd.strings_IndexByte (strOfL singles) (((l.drop k).getD 0 0).toNat : Int) v
        rw [strOfL_list] at this
        simpa using this
      replace IK := Lib.hid IK
      generalize (l.drop k).getD 0 0 = bb at *
      generalize Lib.indexByte singles bb = ix at *
      have k3 : (k : Int) < (l.length : Int) := by omega
      have k5 : (k : Int) + 1 ≤ (l.length : Int) := by omega
      have k4 : k < l.length := hk
      have k6 : k + 1 ≤ l.length := hk
      clear hnf hsy hno hW HSYM
      go_wp2_with fail
      refine (IK.out _).mono ?_
      rintro e w2 ⟨rfl, rfl⟩
      by_cases h0 : ix < 0
      · go_wp2_with fail
        go_ret
        have hsy := HSY.out
        rw [if_pos h0] at hsy
        rw [hsy]
        exact ⟨rfl, hBW⟩
      · have PK := Lib.hid (put_k l k g ts 5 ((l.drop k).take 1) k (k + 1) _ hRW.out (by omega))
        have hl1 : ((l.drop k).take 1).length = 1 := by simp; omega
        have HL1 := Lib.hid hl1
        have hsy := HSY.out
        rw [if_neg h0] at hsy
        replace HSY := Lib.hid hsy
        clear hsy hl1
        go_wp2_with fail
        refine PK.out.mono ?_
        rintro e w3 ⟨rfl, hR3, hb3⟩
        go_wp2_with fail
        go_ret
        rw [HSY.out]
        refine ⟨rfl, ?_, hBW.trans hb3⟩
        dsimp only
        rw [HL1.out]
        exact hR3

end Go.Proofs.YtnamnldijopkfaaDoor
