/-
  The runes of a text, over lists of bytes: how they are read, how they are written; no program.
-/
import Derived.Test.YtnamnldijopkfaaDoorTa
import Derived.Lib.MapLaws
import Derived.Lib.ValidU
namespace Go.Proofs.YtnamnldijopkfaaDoor
open Go.Lib

/-- a number that is a rune's -/
def okR (r : Nat) : Prop := r < 55296 ∨ (57344 ≤ r ∧ r ≤ 1114111)

theorem dec_ge1 (l : List UInt8) : 1 ≤ (decodeL l).2 := by rw [decodeL_N]; exact decodeN_ge1 _ _ _ _ _

theorem dec_ok (l : List UInt8) : okR (decodeL l).1 := by
  rw [decodeL_N]
  unfold okR
  rcases decodeN_shape l.length (l.getD 0 0).toNat (l.getD 1 0).toNat (l.getD 2 0).toNat (l.getD 3 0).toNat with ⟨c, e⟩ | ⟨c1, c2, c3, cv, e⟩ | ⟨c1, c2, c3, c4, cv, cs, e⟩ | ⟨c1, c2, c3, c4, c5, cv, cw, e⟩ | e
  all_goals (rw [e]; dsimp only; omega)

theorem dec_le4 (l : List UInt8) : (decodeL l).2 ≤ 4 := by
  rw [decodeL_N]
  rcases decodeN_shape l.length (l.getD 0 0).toNat (l.getD 1 0).toNat (l.getD 2 0).toNat (l.getD 3 0).toNat with ⟨c, e⟩ | ⟨c1, c2, c3, cv, e⟩ | ⟨c1, c2, c3, c4, cv, cs, e⟩ | ⟨c1, c2, c3, c4, c5, cv, cw, e⟩ | e
  all_goals (rw [e]; dsimp only; omega)

def rnsF : Nat → List UInt8 → List Nat
  | 0, _ => []
  | n + 1, l => if l = [] then [] else (decodeL l).1 :: rnsF n (l.drop (decodeL l).2)
/-- the runes of a text -/
def rns (l : List UInt8) : List Nat := rnsF l.length l

theorem rnsF_more : ∀ (n : Nat) (l : List UInt8), l.length ≤ n → rnsF n l = rns l
  | n, l, h => by
    unfold rns
    induction n using Nat.strongRecOn generalizing l with
    | _ n ih =>
      by_cases e : l = []
      · subst e
        cases n <;> simp [rnsF]
      · have hl : 0 < l.length := List.length_pos_iff.2 e
        have h1 := dec_ge1 l
        obtain ⟨m, rfl⟩ : ∃ m, n = m + 1 := ⟨n - 1, by omega⟩
        obtain ⟨k, hk⟩ : ∃ k, l.length = k + 1 := ⟨l.length - 1, by omega⟩
        rw [hk, rnsF, rnsF, if_neg e, if_neg e]
        congr 1
        have hd : (l.drop (decodeL l).2).length ≤ k := by rw [List.length_drop]; omega
        rw [ih m (by omega) _ (by omega)]
        by_cases hkm : k < m + 1
        · rw [ih k (by omega) _ hd]
        · omega

theorem rns_nil : rns [] = [] := rfl
theorem rns_cons (l : List UInt8) (h : l ≠ []) : rns l = (decodeL l).1 :: rns (l.drop (decodeL l).2) := by
  have hl : 0 < l.length := List.length_pos_iff.2 h
  have h1 := dec_ge1 l
  obtain ⟨k, hk⟩ : ∃ k, l.length = k + 1 := ⟨l.length - 1, by omega⟩
  rw [rns, hk, rnsF, if_neg h, rnsF_more _ _ (by rw [List.length_drop]; omega)]

theorem rns_ok (l : List UInt8) : ∀ r ∈ rns l, okR r := by
  suffices H : ∀ (n : Nat) (l : List UInt8), l.length ≤ n → ∀ r ∈ rns l, okR r from H _ l (Nat.le_refl _)
  intro n
  induction n with
  | zero => intro l h r hr; rw [List.eq_nil_of_length_eq_zero (by omega : l.length = 0), rns_nil] at hr; simp at hr
  | succ n ih =>
    intro l h r hr
    by_cases e : l = []
    · subst e; rw [rns_nil] at hr; simp at hr
    · rw [rns_cons l e] at hr
      rcases List.mem_cons.1 hr with q | q
      · rw [q]; exact dec_ok l
      · have := dec_ge1 l
        have := List.length_pos_iff.2 e
        exact ih _ (by rw [List.length_drop]; omega) r q

/-- runes as a text -/
def encL (rs : List Nat) : List UInt8 := rs.flatMap fun (r : Nat) => encodeRune (r : Int)
theorem encL_nil : encL [] = [] := rfl
theorem encL_cons (r : Nat) (rs : List Nat) : encL (r :: rs) = encodeRune (r : Int) ++ encL rs := by simp [encL]
theorem encL_append (a b : List Nat) : encL (a ++ b) = encL a ++ encL b := by simp [encL]

theorem byte_of (n : Nat) (h : n < 256) : ((n : Int).toNat.toUInt8).toNat = n := by
  simp [Nat.mod_eq_of_lt h]

theorem enc_len (r : Nat) : 1 ≤ (encodeRune (r : Int)).length ∧ (encodeRune (r : Int)).length ≤ 4 := by
  unfold encodeRune
  rw [List.length_map]
  unfold encodeRuneZ
  repeat' split
  all_goals simp

theorem toN (z : Int) (n : Nat) (h : z = (n : Int)) (hn : n < 256) : (z.toNat.toUInt8).toNat = n := by
  subst h
  exact byte_of n hn

theorem decode_encode (r : Nat) (h : okR r) (t : List UInt8) : decodeL (encodeRune (r : Int) ++ t) = (r, (encodeRune (r : Int)).length) := by
  rw [decodeL_N]
  unfold okR at h
  unfold encodeRune
  by_cases c1 : r < 128
  · rw [encodeRuneZ_one (by omega) (by omega)]
    simp only [List.map_cons, List.map_nil, List.cons_append, List.nil_append, List.length_cons, List.length_nil, List.getD_cons_zero, List.getD_cons_succ]
    rw [toN r r rfl (by omega)]
    unfold decodeN
    rw [if_pos c1]
  by_cases c2 : r < 2048
  · rw [encodeRuneZ_two (by omega) (by omega)]
    simp only [List.map_cons, List.map_nil, List.cons_append, List.nil_append, List.length_cons, List.length_nil, List.getD_cons_zero, List.getD_cons_succ]
    rw [toN (192 + (r : Int) / 64) (192 + r / 64) (by omega) (by omega), toN (128 + (r : Int) % 64) (128 + r % 64) (by omega) (by omega)]
    unfold decodeN
    rw [if_neg (by omega), if_pos ⟨by omega, by omega, by omega⟩, if_pos (by omega)]
    congr 1
    omega
  by_cases c3 : r < 65536
  · rw [encodeRuneZ_three (by omega)]
    simp only [List.map_cons, List.map_nil, List.cons_append, List.nil_append, List.length_cons, List.length_nil, List.getD_cons_zero, List.getD_cons_succ]
    rw [toN (224 + (r : Int) / 4096) (224 + r / 4096) (by omega) (by omega), toN (128 + (r : Int) / 64 % 64) (128 + r / 64 % 64) (by omega) (by omega), toN (128 + (r : Int) % 64) (128 + r % 64) (by omega) (by omega)]
    unfold decodeN
    rw [if_neg (by omega), if_neg (by omega), if_pos ⟨by omega, ⟨by omega, by omega⟩, by omega, by omega⟩, if_pos ⟨by omega, by omega⟩]
    congr 1
    omega
  · rw [encodeRuneZ_four (by omega) (by omega)]
    simp only [List.map_cons, List.map_nil, List.cons_append, List.nil_append, List.length_cons, List.length_nil, List.getD_cons_zero, List.getD_cons_succ]
    rw [toN (240 + (r : Int) / 262144) (240 + r / 262144) (by omega) (by omega), toN (128 + (r : Int) / 4096 % 64) (128 + r / 4096 % 64) (by omega) (by omega), toN (128 + (r : Int) / 64 % 64) (128 + r / 64 % 64) (by omega) (by omega), toN (128 + (r : Int) % 64) (128 + r % 64) (by omega) (by omega)]
    unfold decodeN
    rw [if_neg (by omega), if_neg (by omega), if_neg (by omega), if_pos ⟨by omega, ⟨by omega, by omega⟩, ⟨by omega, by omega⟩, by omega, by omega⟩, if_pos ⟨by omega, by omega⟩]
    congr 1
    omega

theorem encL_ne (r : Nat) (rs : List Nat) : encL (r :: rs) ≠ [] := by
  intro e
  have h1 := congrArg List.length e
  rw [encL_cons, List.length_append, List.length_nil] at h1
  have h2 := (enc_len r).1
  omega

theorem rns_enc : ∀ rs : List Nat, (∀ r ∈ rs, okR r) → rns (encL rs) = rs
  | [], _ => rfl
  | r :: rs, h => by
    have hne := encL_ne r rs
    rw [rns_cons _ hne, encL_cons, decode_encode r (h r (by simp)) _]
    dsimp only
    rw [List.drop_left, rns_enc rs (fun x hx => h x (by simp [hx]))]

/-- a text as UTF-8 -/
def valL (l : List UInt8) : List UInt8 := encL (rns l)
theorem rns_valL (l : List UInt8) : rns (valL l) = rns l := rns_enc _ (rns_ok l)
theorem valL_valL (l : List UInt8) : valL (valL l) = valL l := by unfold valL; rw [show rns (encL (rns l)) = rns l from rns_valL l]

/-- where a rune begins: so many bytes are ahead of it -/
def off : Nat → List UInt8 → Nat
  | 0, _ => 0
  | k + 1, l => if l = [] then 0 else (decodeL l).2 + off k (l.drop (decodeL l).2)

theorem off_le : ∀ (k : Nat) (l : List UInt8), off k l ≤ l.length
  | 0, _ => Nat.zero_le _
  | k + 1, l => by
    rw [off]
    split
    · exact Nat.zero_le _
    · rename_i h
      have h1 := decodeL_le l h
      have h2 := off_le k (l.drop (decodeL l).2)
      rw [List.length_drop] at h2
      omega

theorem off_enc : ∀ (k : Nat) (rs : List Nat), (∀ r ∈ rs, okR r) → off k (encL rs) = (encL (rs.take k)).length
  | 0, rs, _ => by simp [off, encL_nil]
  | k + 1, [], _ => by simp [off, encL_nil]
  | k + 1, r :: rs, h => by
    have hne := encL_ne r rs
    rw [off, if_neg hne, encL_cons, decode_encode r (h r (by simp)) _]
    dsimp only
    rw [List.drop_left, off_enc k rs (fun x hx => h x (by simp [hx])), List.take_succ_cons, encL_cons, List.length_append]

theorem drop_off (k : Nat) (rs : List Nat) (h : ∀ r ∈ rs, okR r) : (encL rs).drop (off k (encL rs)) = encL (rs.drop k) := by
  rw [off_enc k rs h]
  conv => lhs; arg 2; rw [← List.take_append_drop k rs, encL_append]
  rw [List.drop_left]
theorem take_off (k : Nat) (rs : List Nat) (h : ∀ r ∈ rs, okR r) : (encL rs).take (off k (encL rs)) = encL (rs.take k) := by
  rw [off_enc k rs h]
  conv => lhs; arg 2; rw [← List.take_append_drop k rs, encL_append]
  rw [List.take_left]

end Go.Proofs.YtnamnldijopkfaaDoor
