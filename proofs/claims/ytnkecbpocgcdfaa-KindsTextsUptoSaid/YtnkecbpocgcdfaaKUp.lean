/-
  What a law's second form gives: how great a type that came in is. No condition beside the form's own.
-/
import Derived.Test.YtnkecbpocgcdfaaKJlaw
import Derived.JoinedCond
namespace Go.Proofs.Ytnkecbpocgcdfaa
open Go.ChangeShapes Go.WideShapes Go.ChangeAt Go.RowKit Go.Joins

theorem bulk_one {H : Type} (d : DataW H) : 1 ≤ Rows.uptoBulk d := by
  cases d with
  | lit l => cases l <;> simp [Rows.uptoBulk]
  | nil => simp [Rows.uptoBulk]
  | ptr d => simp [Rows.uptoBulk]
  | slice elems spare => simp [Rows.uptoBulk]
  | agg parts => simp [Rows.uptoBulk]
  | iface t d => simp [Rows.uptoBulk]
  | map entries => simp [Rows.uptoBulk]
  | held h => simp [Rows.uptoBulk]

def bkN : List ByteArray → Nat
  | [] => 0
  | x :: r => x.size + 1 + bkN r

mutual
/-- how many letters and parts a type has -/
def Ty.bk : Ty → Nat
  | .mk _ ts ns => bkL ts + bkN ns + 1
def bkL : List Ty → Nat
  | [] => 0
  | t :: r => t.bk + bkL r
end

theorem bk_parts (T : Ty) : T.bk = bkL T.items + bkN T.names + 1 := by
  cases T; simp [Ty.bk, Ty.items, Ty.names]

theorem bk_pos (T : Ty) : 1 ≤ T.bk := by rw [bk_parts]; omega

theorem bkL_length : ∀ ts : List Ty, ts.length ≤ bkL ts
  | [] => Nat.zero_le _
  | t :: r => by have := bkL_length r; have := bk_pos t; simp only [List.length_cons, bkL]; omega

theorem bkN_length : ∀ ns : List ByteArray, ns.length ≤ bkN ns
  | [] => Nat.zero_le _
  | t :: r => by have := bkN_length r; simp only [List.length_cons, bkN]; omega

theorem bkL_mem : ∀ (ts : List Ty) (j : Nat) (h : j < ts.length), ts[j].bk ≤ bkL ts
  | [], _, h => absurd h (by simp)
  | t :: r, 0, _ => by simp [bkL]
  | t :: r, j + 1, h => by
    have := bkL_mem r j (by simpa using h)
    simp only [bkL, List.getElem_cons_succ]
    omega

theorem small_of_n : ∀ (N : Nat) (T : Ty), T.bk ≤ N → N ≤ 1048576 → Small T
  | 0, T, h, _ => absurd (bk_pos T) (by omega)
  | N + 1, .mk k ts ns, h, hN => by
    rw [bk_parts] at h
    simp only [Ty.items, Ty.names] at h
    have h1 := bkL_length ts
    have h2 := bkN_length ns
    refine .mk k ts ns (by omega) (by omega) fun j hj => ?_
    have h3 := bkL_mem ts j hj
    exact small_of_n N ts[j] (by omega) (by omega)
theorem small_of_bk (T : Ty) (h : T.bk ≤ 1048576) : Small T := small_of_n _ T h (Nat.le_refl _)

theorem bulk_str {H : Type} (x : ByteArray) : Rows.uptoBulk (DataW.lit (H := H) (.string x.data.toList)) = x.size + 1 := by
  simp only [Rows.uptoBulk, Array.length_toList]
  rfl

theorem bulk_strs {H : Type} : ∀ ns : List ByteArray, Rows.uptoBulkAll (strs (H := H) ns) = bkN ns
  | [] => by simp [strs, Rows.uptoBulkAll, bkN]
  | x :: r => by
    have h := bulk_strs (H := H) r
    have e : strs (H := H) (x :: r) = .lit (.string x.data.toList) :: strs r := rfl
    rw [e, Rows.uptoBulkAll, h, bulk_str, bkN]

theorem bulk_items {H : Type} : ∀ (ts : List Ty) (ds : List (DataW H)), ts.length = ds.length → (∀ (j : Nat) (T : Ty) (d : DataW H), ts[j]? = some T → ds[j]? = some d → T.bk ≤ Rows.uptoBulk d) → bkL ts ≤ Rows.uptoBulkAll ds
  | [], [], _, _ => by simp [bkL]
  | [], _ :: _, h, _ => by simp at h
  | _ :: _, [], h, _ => by simp at h
  | t :: ts, d :: ds, h, g => by
    have h1 := bulk_items ts ds (by simpa using h) (fun j T d p q => g (j + 1) T d (by simpa using p) (by simpa using q))
    have h2 := g 0 t d rfl rfl
    simp only [bkL, Rows.uptoBulkAll]
    omega

section
variable {H : Type} {enc : TypeId × Value → H} {w : World} {base : Nat} {spare : Nat → Bool} {held : Bool}

theorem names_of_trod_bk {fuel : Nat} {c : Value} {x : DataW H × List MemPlace} (h : DataW.trod enc Try.prog w base spare held fuel 24 [c] = some x) : ∃ ns, StrRow w c ns ∧ bkN ns ≤ Rows.uptoBulk x.1 := by
  rcases open_strings Try.underlying24 Try.underlying9 wide_string h with ⟨hcs, _⟩ | ⟨a, len, cap, ss, hcs, _, hl, hm, hn, hx, hc, _⟩
  · simp only [List.cons.injEq, and_true] at hcs
    subst hcs
    exact ⟨[], ⟨⟨none, 0, rfl, Nat.le_refl _, by omega, fun q => absurd rfl q⟩⟩, by simp [bkN]⟩
  · simp only [List.cons.injEq, and_true] at hcs
    subst hcs
    have hle : len ≤ ss.length := by rw [hn]; split <;> omega
    have hlen : (ss.take len).length = len := by rw [List.length_take]; omega
    refine ⟨ss.take len, ⟨⟨some a, cap, by rw [hlen], by omega, by unfold maxLen at hm; omega, fun q => ?_⟩⟩, ?_⟩
    · have h0 : 0 < len := by
        rcases Nat.eq_zero_or_pos len with e | e
        · subst e; exact absurd (by simp) q
        · exact e
      obtain ⟨b, o, sp⟩ := a
      have hsp : sp = none := by simpa [Addr.add] using World.cell?_spot (hc 0 (by omega))
      subst hsp
      refine ⟨b, o, rfl, fun j hj => ?_⟩
      have := hc j (by omega)
      rw [add_plain] at this
      rw [this]
      simp [List.getD, List.getElem?_eq_getElem (show j < ss.length by omega)]
    · rw [hx]
      simp only [Rows.uptoBulk, bulk_strs]
      omega

theorem ty_of_trod_bk : ∀ (fuel : Nat) (cs : List Value) (x : DataW H × List MemPlace), DataW.trod enc Try.prog w base spare held fuel 26 cs = some x →
    ∃ (T : Ty) (i n : Value), cs = [.int .i64 T.kind, i, n] ∧ IsTy w T i n ∧ T.bk ≤ Rows.uptoBulk x.1 := by
  intro fuel
  induction fuel using Nat.strongRecOn with
  | _ fuel ih =>
    intro cs x h
    obtain ⟨xs, m, rfl, hx, hl, hlen, hg⟩ := DataW.trod_struct Try.underlying26 h
    rw [wide_type] at hl
    match cs, hl with
    | [c0, c1, c2], _ =>
      match xs, hlen with
      | [y0, y1, y2], _ =>
        have g0 : DataW.trod enc Try.prog w base spare held m 22 [c0] = some y0 := by simpa [wide_kind] using hg 0 _ rfl
        have g1 : DataW.trod enc Try.prog w base spare held m 23 [c1] = some y1 := by simpa [wide_items] using hg 1 _ rfl
        have g2 : DataW.trod enc Try.prog w base spare held m 24 [c2] = some y2 := by simpa [wide_names] using hg 2 _ rfl
        have hx1 : Rows.uptoBulk x.1 = Rows.uptoBulk y0.1 + (Rows.uptoBulk y1.1 + Rows.uptoBulk y2.1) + 1 := by
          rw [hx]; simp [Rows.uptoBulk, Rows.uptoBulkAll]
        have hy0 := bulk_one y0.1
        have hy1 := bulk_one y1.1
        obtain ⟨k, e0, _, wk⟩ := DataW.trod_int Try.underlying22 g0
        simp only [List.cons.injEq, and_true] at e0
        subst e0
        obtain ⟨ns, hns, hbn⟩ := names_of_trod_bk g2
        rcases DataW.trod_slice Try.underlying23 g1 with ⟨e1, _⟩ | ⟨a, len, cap, elems, rest, n, hm, e1, hy, _, hlc, hcap, hel, hat, _, _⟩
        · simp only [List.cons.injEq, and_true] at e1
          subst e1
          exact ⟨.mk k [] ns, _, _, rfl, .mk k [] ns c2 none 0 (fun _ => .bool false) (fun _ => .bool false) (bounds_i64 wk) hns (Nat.le_refl _) (by omega) (fun q => absurd rfl q) (fun j hj => absurd hj (by simp)), by
            simp only [Ty.bk, bkL]; omega⟩
        · simp only [List.cons.injEq, and_true] at e1
          subst e1
          rw [wide_type] at hat
          have each : ∀ j, j < len → ∃ (T : Ty) (i n : Value), ((w.cell? (a.add (j * 3)) = some (.int .i64 T.kind) ∧ w.cell? (a.add (j * 3 + 1)) = some i ∧ w.cell? (a.add (j * 3 + 2)) = some n) ∧ IsTy w T i n) ∧ ∀ d, (elems.map (·.1))[j]? = some d → T.bk ≤ Rows.uptoBulk d := by
            intro j hj
            have h1 := hat j hj
            rw [List.getElem?_eq_getElem (by omega)] at h1
            obtain ⟨cs', h2, h3⟩ := Option.bind_eq_some_iff.1 h1
            obtain ⟨T, i, n', rfl, hT, hb⟩ := ih n (by omega) cs' _ h3
            obtain ⟨_, _, h4⟩ := World.cells?_some h2
            refine ⟨T, i, n', ⟨⟨?_, ?_, ?_⟩, hT⟩, fun d hd => ?_⟩
            · have := h4 0 (by omega); rw [Go.Deep.add_add] at this; simpa using this
            · have := h4 1 (by omega); rw [Go.Deep.add_add] at this; simpa using this
            · have := h4 2 (by omega); rw [Go.Deep.add_add] at this; simpa using this
            · rw [List.getElem?_map, List.getElem?_eq_getElem (by omega)] at hd
              simp only [Option.map_some, Option.some.injEq] at hd
              rw [← hd]
              exact hb
          have pick : ∃ (F : Nat → Ty) (I N : Nat → Value), ∀ j, j < len → ((w.cell? (a.add (j * 3)) = some (.int .i64 (F j).kind) ∧ w.cell? (a.add (j * 3 + 1)) = some (I j) ∧ w.cell? (a.add (j * 3 + 2)) = some (N j)) ∧ IsTy w (F j) (I j) (N j)) ∧ ∀ d, (elems.map (·.1))[j]? = some d → (F j).bk ≤ Rows.uptoBulk d := by
            have : ∀ j, ∃ q : Ty × Value × Value, j < len → ((w.cell? (a.add (j * 3)) = some (.int .i64 q.1.kind) ∧ w.cell? (a.add (j * 3 + 1)) = some q.2.1 ∧ w.cell? (a.add (j * 3 + 2)) = some q.2.2) ∧ IsTy w q.1 q.2.1 q.2.2) ∧ ∀ d, (elems.map (·.1))[j]? = some d → q.1.bk ≤ Rows.uptoBulk d := by
              intro j
              by_cases hj : j < len
              · obtain ⟨T, i, n', q1, q2⟩ := each j hj
                exact ⟨(T, i, n'), fun _ => ⟨q1, q2⟩⟩
              · exact ⟨(.mk 0 [] [], .bool false, .bool false), fun q => absurd q hj⟩
            exact ⟨fun j => (Classical.choose (this j)).1, fun j => (Classical.choose (this j)).2.1, fun j => (Classical.choose (this j)).2.2, fun j => Classical.choose_spec (this j)⟩
          obtain ⟨F, I, N, hF⟩ := pick
          have hL : ((List.range len).map F).length = len := by simp
          refine ⟨.mk k ((List.range len).map F) ns, _, c2, rfl, ?_, ?_⟩
          · have := IsTy.mk (w := w) k ((List.range len).map F) ns c2 (some a) cap I N (bounds_i64 wk) hns (by omega) (by unfold maxLen at hcap; omega) (fun q => ?_) (fun j hj => ?_)
            · rw [hL] at this
              exact this
            · have h0 : 0 < len := by
                rcases Nat.eq_zero_or_pos len with e | e
                · subst e; exact absurd (by simp) q
                · exact e
              obtain ⟨b, o, sp⟩ := a
              have hsp : sp = none := by simpa [Addr.add] using World.cell?_spot (hF 0 h0).1.1.1
              subst hsp
              refine ⟨b, o, rfl, fun j hj => ?_⟩
              have q := (hF j (by omega)).1.1
              rw [add_plain, add_plain, add_plain] at q
              simpa [Nat.add_assoc] using q
            · have q := (hF j (by omega)).1.2
              simpa using q
          · have h5 := bulk_items ((List.range len).map F) (elems.map (·.1)) (by simp [hel]) (fun j T d p q => by
              have hj : j < len := by
                have := (List.getElem?_eq_some_iff.1 p).1
                simpa using this
              rw [List.getElem?_map, List.getElem?_range hj] at p
              simp only [Option.map_some, Option.some.injEq] at p
              rw [← p]
              exact (hF j hj).2 d q)
            have h6 : Rows.uptoBulk y1.1 = Rows.uptoBulkAll (elems.map (·.1)) + Rows.uptoBulkAll (rest.map (·.1)) + 1 := by rw [hy]; simp [Rows.uptoBulk]
            simp only [Ty.bk]
            omega

theorem open_type_bk {r : Reach} {b0 : Nat} {v : Value} {d : DataW H} {p : List MemPlace} (hv : Value.okWide Try.prog w r b0 26 v) (h : DataW.Trod enc Try.prog w base spare held 26 v d p) :
    ∃ (T : Ty) (i n : Value), v = tyV T i n ∧ IsTy w T i n ∧ T.bk ≤ Rows.uptoBulk d := by
  obtain ⟨cs, rfl, hsz⟩ := okWide_struct Try.underlying26 hv
  obtain ⟨fuel, hf⟩ := h
  obtain ⟨T, i, n, e, hT, hb⟩ := ty_of_trod_bk fuel _ _ hf
  refine ⟨T, i, n, ?_, hT, hb⟩
  obtain ⟨l⟩ := cs
  have e' : l = [Value.int .i64 T.kind, i, n] := by simpa [Value.cells] using e
  subst e'
  rfl

end

theorem law_post_upto {H : Type} {enc : TypeId × Value → H} {P : Program} {f : Func} {s : ChangeSpec} {F : Stop.Interp} {W W' : World} {args : Array Value} {ds : List (DataW H)} {before : List MemPlace} {tb : TypeId}
    (hl : laidOutB P = true) (hts : (f.params.toList.all fun t => P.readableRec t && decide (t < P.types.size)) = true)
    (hv : s.vars = []) (hr : f.resultTypes = #[tb]) (htb : P.underlying tb = some .bool)
    (hW : DataW.Whole enc P f.params.toList s.vars false W args.toList ds [] before)
    (hfn : s.fn H (ds ++ []) = { results := [.lit (.bool true)], args := ds })
    (hb : Below W.heap.size W W') : ((Rows.OpenSpec.upto s).at F).post enc P f false true false false W args (.bool true) W' :=
  law_post hl hts hv hr htb hW hfn hb

end Go.Proofs.Ytnkecbpocgcdfaa
