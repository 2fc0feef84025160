/-
  The walk of KindsAll: of types of which no list is long it returns true.
-/
import Derived.Test.YtnkecbpocgcdfaaKAll
namespace Go.Proofs.Ytnkecbpocgcdfaa
open Go.ChangeShapes Go.WideShapes Go.ChangeAt Go.RowKit Go.Joins

section
variable {H : Type} {enc : TypeId × Value → H} {w : World} {base : Nat} {spare : Nat → Bool} {held : Bool}

theorem types_of_trod_bk {fuel : Nat} {c1 : Value} {x : DataW H × List MemPlace} (g1 : DataW.trod enc Try.prog w base spare held fuel 23 [c1] = some x) :
    ∃ Ts, IsTy w (.mk 0 Ts []) c1 (.slice none 0 0) ∧ bkL Ts ≤ Rows.uptoBulk x.1 := by
  have nil : StrRow w (.slice none 0 0) [] := row_nil w
  rcases DataW.trod_slice Try.underlying23 g1 with ⟨e1, _⟩ | ⟨a, len, cap, elems, rest, n, hm, e1, hy, _, hlc, hcap, hel, hat, _, _⟩
  · simp only [List.cons.injEq, and_true] at e1
    subst e1
    exact ⟨[], .mk 0 [] [] _ none 0 (fun _ => .bool false) (fun _ => .bool false) (by omega) nil (Nat.le_refl _) (by omega) (fun q => absurd rfl q) (fun j hj => absurd hj (by simp)), by simp [bkL]⟩
  · simp only [List.cons.injEq, and_true] at e1
    subst e1
    rw [wide_type] at hat
    have each : ∀ j, ∃ q : Ty × Value × Value, j < len → ((w.cell? (a.add (j * 3)) = some (.int .i64 q.1.kind) ∧ w.cell? (a.add (j * 3 + 1)) = some q.2.1 ∧ w.cell? (a.add (j * 3 + 2)) = some q.2.2) ∧ IsTy w q.1 q.2.1 q.2.2) ∧ ∀ d, (elems.map (·.1))[j]? = some d → q.1.bk ≤ Rows.uptoBulk d := by
      intro j
      by_cases hj : j < len
      · have h1 := hat j hj
        rw [List.getElem?_eq_getElem (by omega)] at h1
        obtain ⟨cs', h2, h3⟩ := Option.bind_eq_some_iff.1 h1
        obtain ⟨T, i, n', rfl, hT, hb⟩ := ty_of_trod_bk n cs' _ h3
        obtain ⟨_, _, h4⟩ := World.cells?_some h2
        refine ⟨(T, i, n'), fun _ => ⟨⟨⟨?_, ?_, ?_⟩, hT⟩, fun d hd => ?_⟩⟩
        · have := h4 0 (by omega); rw [Go.Deep.add_add] at this; simpa using this
        · have := h4 1 (by omega); rw [Go.Deep.add_add] at this; simpa using this
        · have := h4 2 (by omega); rw [Go.Deep.add_add] at this; simpa using this
        · rw [List.getElem?_map, List.getElem?_eq_getElem (by omega)] at hd
          simp only [Option.map_some, Option.some.injEq] at hd
          rw [← hd]
          exact hb
      · exact ⟨(.mk 0 [] [], .bool false, .bool false), fun q => absurd q hj⟩
    have pick : ∃ (F : Nat → Ty) (I N : Nat → Value), ∀ j, j < len → ((w.cell? (a.add (j * 3)) = some (.int .i64 (F j).kind) ∧ w.cell? (a.add (j * 3 + 1)) = some (I j) ∧ w.cell? (a.add (j * 3 + 2)) = some (N j)) ∧ IsTy w (F j) (I j) (N j)) ∧ ∀ d, (elems.map (·.1))[j]? = some d → (F j).bk ≤ Rows.uptoBulk d :=
      ⟨fun j => (Classical.choose (each j)).1, fun j => (Classical.choose (each j)).2.1, fun j => (Classical.choose (each j)).2.2, fun j => Classical.choose_spec (each j)⟩
    obtain ⟨F, I, N, hF⟩ := pick
    have hL : ((List.range len).map F).length = len := by simp
    refine ⟨(List.range len).map F, ?_, ?_⟩
    · have := IsTy.mk (w := w) 0 ((List.range len).map F) [] (.slice none 0 0) (some a) cap I N (by omega) nil (by omega) (by unfold maxLen at hcap; omega) (fun q => ?_) (fun j hj => ?_)
      · rw [hL] at this
        exact this
      · have h0 : 0 < len := by
          rcases Nat.eq_zero_or_pos len with e | e
          · subst e; exact absurd (by simp) q
          · exact e
        obtain ⟨b, o, sp⟩ := a
        have hsp : sp = none := by simpa [Addr.add] using World.cell?_spot (hF 0 h0).1.1.1
        subst hsp
        refine ⟨b, o, rfl, fun j hj => ?_⟩
        have q := (hF j (by omega)).1.1
        rw [add_plain, add_plain, add_plain] at q
        simpa [Nat.add_assoc] using q
      · have q := (hF j (by omega)).1.2
        simpa using q
    · have h5 := bulk_items ((List.range len).map F) (elems.map (·.1)) (by simp [hel]) (fun j T d p q => by
        have hj : j < len := by
          have := (List.getElem?_eq_some_iff.1 p).1
          simpa using this
        rw [List.getElem?_map, List.getElem?_range hj] at p
        simp only [Option.map_some, Option.some.injEq] at p
        rw [← p]
        exact (hF j hj).2 d q)
      have h6 : Rows.uptoBulk x.1 = Rows.uptoBulkAll (elems.map (·.1)) + Rows.uptoBulkAll (rest.map (·.1)) + 1 := by rw [hy]; simp [Rows.uptoBulk]
      omega

theorem open_types_bk {r : Reach} {b0 : Nat} {v : Value} {d : DataW H} {p : List MemPlace} (hv : Value.okWide Try.prog w r b0 23 v) (h : DataW.Trod enc Try.prog w base spare held 23 v d p) :
    ∃ Ts, IsTy w (.mk 0 Ts []) v (.slice none 0 0) ∧ bkL Ts ≤ Rows.uptoBulk d := by
  obtain ⟨a, l, c, rfl⟩ := okWide_slice Try.underlying23 hv
  obtain ⟨fuel, hf⟩ := h
  have hf' : DataW.trod enc Try.prog w base spare held fuel 23 [.slice a l c] = some (d, p) := by simpa [Value.cells] using hf
  exact types_of_trod_bk hf'
end

/-- a row that a call owns, of types that lie in the world, is a list of types -/
theorem row_ty {wr : World} {base : Nat} {es : List (Ty × Value × Value)} {vl : Value} (h : wr.ownsRow base 26 3 vl es.length (rowOf es)) (ht : ∀ e ∈ es, IsTy wr e.1 e.2.1 e.2.2) :
    IsTy wr (.mk 0 (es.map (·.1)) []) vl (.slice none 0 0) := by
  obtain ⟨ai, ci, rfl, hi1, hi2⟩ := row_shape h
  have hE : ∀ j (hj : j < (es.map (·.1)).length), ∃ hj' : j < es.length, (es.map (·.1))[j] = es[j].1 := fun j hj => ⟨by simpa using hj, by simp⟩
  have key := IsTy.mk (w := wr) 0 (es.map (·.1)) [] (.slice none 0 0) ai ci (fun j => (es.getD j (noTy, .bool false, .bool false)).2.1) (fun j => (es.getD j (noTy, .bool false, .bool false)).2.2) (by omega)
    (row_nil wr) (by simpa using hi1) hi2 (fun q => ?_) (fun j hj => ?_)
  · simpa using key
  · have h0 : 0 < es.length := by have := List.length_pos_iff.2 q; simpa using this
    obtain ⟨g, rfl, hb, hc⟩ := row_cells h h0
    refine ⟨g, 0, rfl, fun j hj => ?_⟩
    obtain ⟨hj', e⟩ := hE j hj
    obtain ⟨q0, q1, q2⟩ := rowOf_at es j hj'
    rw [Nat.zero_add, e, List.getD, List.getElem?_eq_getElem hj']
    exact ⟨hc _ _ q0, hc _ _ q1, hc _ _ q2⟩
  · obtain ⟨hj', e⟩ := hE j hj
    rw [e, List.getD, List.getElem?_eq_getElem hj']
    exact ht _ (List.getElem_mem hj')

set_option maxHeartbeats 2000000 in
set_option maxRecDepth 100000 in
theorem all_walk (Ts : List Ty) (v : Value) (w : World) (hT : IsTy w (.mk 0 Ts []) v (.slice none 0 0)) (hs : ∀ t ∈ Ts, Small t) :
    Calls Try.prog 7 #[v] w fun e w' => e = .returned (.bool true) ∧ Below w.heap.size w w' := by
  obtain ⟨a, c, _, _, hv, _⟩ := hT.shape
  have hv : v = .slice a Ts.length c := hv
  subst hv
  have hlen : Ts.length ≤ 9223372036854775807 := by
    obtain ⟨_, _, a', c', e, h1, h2, _⟩ := hT.inv
    exact Nat.le_trans h1 h2
  obtain ⟨i0, hi0, hz0, hz1, hz2⟩ := info_parts info_type
  have HT := Lib.hid hT
  have HS := Lib.hid hs
  clear hT hs
  go_enter Try.func7, Try.ntmps7
  go_wp2_with fail
  refine (law13_awake _).mono ?_
  rintro e w1 ⟨rfl, hb⟩
  have HK1 := Lib.hid (below_keeps hb)
  have hz := hb.size
  have hbr : Below w.heap.size w w1 := by (repeat (first | with_reducible assumption | with_reducible exact bl_refl _ | with_reducible refine bl_alloc ?_ _ | with_reducible refine bl_set ?_ (by first | (simp; done) | (simp; omega)) _ | with_reducible refine bl_drew ?_ | with_reducible refine bl_drewN ?_ _ | with_reducible refine bl_trans ?_ (by assumption)))
  clear hb
  go_wp2_with fail
  go_loopw [3, 4] (fun l i wr => ∃ (k : Nat) (es : List (Ty × Value × Value)) (oa : Option Addr) (oc : Nat), k ≤ Ts.length ∧ k ≤ 6 ∧ es.length ≤ k ∧ i = .int .i64 k ∧ l = .slice oa es.length oc ∧ wr.ownsRow w1.heap.size 26 3 (.slice oa es.length oc) es.length (rowOf es) ∧
    (∀ e ∈ es, IsTy w e.1 e.2.1 e.2.2 ∧ mayB e.1 = true ∧ Small e.1) ∧ Kept w wr ∧ Below w.heap.size w wr ∧ w1.heap.size ≤ wr.heap.size) (fun _ i _ => Ts.length - (intOf i).toNat)
  case atStart =>
    exact ⟨0, [], none, 0, Nat.zero_le _, Nat.zero_le _, Nat.le_refl _, rfl, rfl, World.ownsRow_nil _ _ _ _, fun _ h => absurd h (by simp), HK1.out, hbr, Nat.le_refl _⟩
  case round =>
    obtain ⟨k, es, oa, oc, hk, hk6, hek, rfl, rfl, hown, hes, hkr, hbr, hlw⟩ := hrel
    have HOWN := Lib.hid hown
    have HES := Lib.hid hes
    have HKR := Lib.hid hkr
    clear hown hes hkr
    go_upto_region 5 with fail
    go_cut [16] (fun s16 wx => s16 = .bool (decide (k < Ts.length ∧ k < 6)) ∧ wx = wr)
    case first =>
      by_cases h1 : k < Ts.length
      · have k1 : (k : Int) < (Ts.length : Int) := by omega
        by_cases h2 : k < 6
        · have k2 : (k : Int) < 6 := by omega
          go_wp2_with fail
          all_goals (go_meet; refine ⟨congrArg Value.bool ?_, rfl⟩; simp; omega)
        · have k2 : ¬ (k : Int) < 6 := by omega
          go_wp2_with fail
          all_goals (go_meet; refine ⟨congrArg Value.bool ?_, rfl⟩; simp; omega)
      · have k1 : ¬ (k : Int) < (Ts.length : Int) := by omega
        go_wp2_with fail
        all_goals (go_meet; refine ⟨congrArg Value.bool ?_, rfl⟩; simp; omega)
    case rest =>
      obtain ⟨rfl, rfl⟩ := hcut
      by_cases hlt : k < Ts.length ∧ k < 6
      · rw [decide_eq_true hlt]
        obtain ⟨hlt, h6⟩ := hlt
        obtain ⟨pa, po, rfl, xa, xc, ya, yc, p0, p1, p2, hP⟩ := HT.out.item (kept_refl w) k hlt
        simp only [show (Ty.mk 0 Ts []).items = Ts from rfl] at p0 p1 p2 hP
        obtain ⟨tx, hX⟩ : ∃ tx, Ts.getD k noTy = tx := ⟨_, rfl⟩
        rw [hX] at p0 p1 p2 hP
        have SX := Lib.hid (show Small tx by rw [← hX, List.getD, List.getElem?_eq_getElem hlt]; exact HS.out _ (List.getElem_mem hlt))
        have p0 := HKR.out _ _ _ p0
        have p1 := HKR.out _ _ _ p1
        have p2 := HKR.out _ _ _ p2
        have MX := Lib.hid (may_l hP)
        have HP := Lib.hid hP
        clear hX hP
        go_wp2_with fail
        refine (MX.out _ HKR.out).mono ?_
        rintro e w3 ⟨rfl, hb⟩
        have p0 := below_keeps hb _ _ _ p0; have p1 := below_keeps hb _ _ _ p1; have p2 := below_keeps hb _ _ _ p2
        have HK3 := Lib.hid (kept_trans HKR.out (below_keeps hb))
        have HO3 := Lib.hid (HOWN.out.kept (grown_of_below hb none) (by cases (Value.slice oa es.length oc).ownBlock <;> simp))
        have hlw3 := Nat.le_trans hlw hb.size
        have hbr : Below w.heap.size w w3 := by (repeat (first | with_reducible assumption | with_reducible exact bl_refl _ | with_reducible refine bl_alloc ?_ _ | with_reducible refine bl_set ?_ (by first | (simp; done) | (simp; omega)) _ | with_reducible refine bl_drew ?_ | with_reducible refine bl_drewN ?_ _ | with_reducible refine bl_trans ?_ (by assumption)))
        clear hb
        cases mx : mayB tx
        · go_wp2_with fail
          go_roundw
          case rel =>
            exact ⟨k + 1, es, oa, oc, by omega, by omega, by omega, by go_num, rfl, HO3.out, HES.out, HK3.out, hbr, hlw3⟩
          case measure => simp [intOf]; omega
        · have HMX := Lib.hid mx
          clear mx
          have HGW := Lib.hid (fun (o : Nat) (h : (Value.slice oa es.length oc).ownBlock = some o) => (HOWN.out.lt o h).1)
          go_wp2_with (at_builtin; (refine wpList_append_lies _ rfl _ _ _ rfl w1.heap.size 26 i0 _ 3 56 Try.underlying23 hi0 hz0 hz1 hz2 (by rfl) (by omega) (.slice oa es.length oc) es.length (rowOf es) (by rfl) (HO3.out.alloc _) ⟨w3.heap.size, 0, none⟩ 1 1 [.int .i64 tx.kind, .slice xa tx.items.length xc, .slice ya tx.names.length yc] (by rfl) (by rfl) (World.news_of_block (heap_alloc_new w3 _)) (by simp [Value.oneCell']) (by omega) (by unfold maxLen; omega) (by omega) (by simp; omega) (w3.heap.size + 1) (by simp) ?_; intro g cap w4 hown4 hgrow4 hat4 hlt4))
          have HO4 := Lib.hid hown4
          have HG4 := Lib.hid hgrow4
          clear hown4 hgrow4 hat4
          go_roundw
          case rel =>
            refine ⟨k + 1, es ++ [(tx, .slice xa tx.items.length xc, .slice ya tx.names.length yc)], some ⟨g, 0, none⟩, cap, by omega, by omega, by simp; omega, by go_num, by simp, ?_, ?_, ?_, ?_, ?_⟩
            · rw [rowOf_append]
              simpa [tyCells] using HO4.out
            · intro e he
              rcases List.mem_append.1 he with he | he
              · exact HES.out e he
              · simp only [List.mem_singleton] at he
                subst he
                exact ⟨HP.out, HMX.out, SX.out⟩
            · intro b o x q
              have q2 := kept_alloc HK3.out (Obj.cells #[.int .i64 tx.kind, .slice xa tx.items.length xc, .slice ya tx.names.length yc] 26) b o x q
              exact HG4.out.cell q2 (fun e => by have := HGW.out b e.symm; have := lt_of_cell q; omega)
            · have hb4 : Below w.heap.size w (w3.alloc (Obj.cells #[.int .i64 tx.kind, .slice xa tx.items.length xc, .slice ya tx.names.length yc] 26)) := bl_alloc hbr _
              exact hb4.grown HG4.out hb4.size (fun o h => by have := HGW.out o h; omega)
            · have := HG4.out.size
              simp at this
              omega
          case measure => simp [intOf]; omega
      · rw [decide_eq_false hlt]
        clear hlt
        obtain ⟨tj, htj⟩ : ∃ tj, allF tNull (es.map (·.1)) = tj := ⟨_, rfl⟩
        have AL := Lib.hid (all_k (row_ty HOWN.out (fun e he => (HES.out e he).1.keep HKR.out)) (fun t ht => by
          obtain ⟨e, he, rfl⟩ := List.mem_map.1 ht
          exact (HES.out e he).2.2) wc (kept_refl _))
        have HR := Lib.hid (row_ty HOWN.out (fun e he => (HES.out e he).1.keep HKR.out))
        have hmay : ∀ t ∈ es.map (·.1), mayB t = true := fun t ht => by
          obtain ⟨e, he, rfl⟩ := List.mem_map.1 ht
          exact (HES.out e he).2.1
        have HMJ := Lib.hid (allF_may _ tNull (by decide) hmay)
        have HUJ := Lib.hid (allF_upper _ tNull (by decide) hmay).2
        have HNJ := Lib.hid (show es.length = 0 → (allF tNull (es.map (·.1))).kind = 1 from fun h => by
          have : es = [] := List.eq_nil_of_length_eq_zero h
          subst this
          rfl)
        rw [htj] at AL HMJ HUJ HNJ
        clear htj hmay
        have hel := (show (es.map (·.1)).length = es.length by simp)
        obtain ⟨es1, hes1⟩ : ∃ l, es.map (·.1) = l := ⟨_, rfl⟩
        obtain ⟨n, hn⟩ : ∃ n, es.length = n := ⟨_, rfl⟩
        rw [hes1] at HR HUJ hel
        rw [hn] at HR AL HNJ hel hek ⊢
        clear hes1 hn HES HOWN
        go_upto_region 9 with fail
        go_wp2_with fail
        refine (AL.out).mono ?_
        rintro e w3 ⟨ji, jn, M, rfl, hJ, hM, hb⟩
        obtain ⟨xa3, xc3, xna3, xnc3, rfl, rfl⟩ := hJ.shape
        have MJ := Lib.hid (may_k hJ)
        rw [HMJ.out] at MJ
        have HJ := Lib.hid hJ
        have HM := Lib.hid hM
        have hbr : Below w.heap.size w w3 := by (repeat (first | with_reducible assumption | with_reducible exact bl_refl _ | with_reducible refine bl_alloc ?_ _ | with_reducible refine bl_set ?_ (by first | (simp; done) | (simp; omega)) _ | with_reducible refine bl_drew ?_ | with_reducible refine bl_drewN ?_ _ | with_reducible refine bl_trans ?_ (by assumption)))
        clear hb hJ hM AL
        go_wp2_with fail
        generalize hW : w3.alloc (Obj.cells #[.int .i64 tj.kind, .slice xa3 tj.items.length xc3, .slice xna3 tj.names.length xnc3] 26) = W
        have KM := Lib.hid (show Kept M W by rw [← hW]; exact kept_alloc HM.out.kept _)
        have hbr : Below w.heap.size w W := by rw [← hW]; (repeat (first | with_reducible assumption | with_reducible exact bl_refl _ | with_reducible refine bl_alloc ?_ _ | with_reducible refine bl_set ?_ (by first | (simp; done) | (simp; omega)) _ | with_reducible refine bl_drew ?_ | with_reducible refine bl_drewN ?_ _ | with_reducible refine bl_trans ?_ (by assumption)))
        have j0 : W.cell? ⟨w3.heap.size, 0, none⟩ = some (.int .i64 tj.kind) := by subst hW; simp [go_sem]
        have j1 : W.cell? ⟨w3.heap.size, 1, none⟩ = some (.slice xa3 tj.items.length xc3) := by subst hW; simp [go_sem]
        have j2 : W.cell? ⟨w3.heap.size, 2, none⟩ = some (.slice xna3 tj.names.length xnc3) := by subst hW; simp [go_sem]
        clear hW
        go_loopw [6] (fun i wr => ∃ q : Nat, q ≤ n ∧ i = .int .i64 q ∧ Kept W wr ∧ Below w.heap.size w wr) (fun i _ => n - (intOf i).toNat)
        case atStart => exact ⟨0, Nat.zero_le _, rfl, kept_refl _, hbr⟩
        case round =>
          obtain ⟨q, hq, rfl, hkr, hbr⟩ := hrel
          have j0 := hkr _ _ _ j0
          have j1 := hkr _ _ _ j1
          have j2 := hkr _ _ _ j2
          have HKR := Lib.hid hkr
          clear hkr
          by_cases hqn : q < n
          · have k1 : (q : Int) < (n : Int) := by omega
            obtain ⟨pa, po, rfl, xa, xc, ya, yc, p0, p1, p2, hP⟩ := HR.out.item (kept_refl _) q (by show q < es1.length; omega)
            simp only [show (Ty.mk 0 es1 []).items = es1 from rfl] at p0 p1 p2 hP
            obtain ⟨tx, hX⟩ : ∃ X, es1.getD q noTy = X := ⟨_, rfl⟩
            rw [hX] at p0 p1 p2 hP
            have hin : tx ∈ es1 := by rw [← hX, List.getD, List.getElem?_eq_getElem (by omega)]; exact List.getElem_mem _
            have CF := Lib.hid (conf_k tx tj _ _ _ _ _ (hP.keep HM.out.has) HJ.out)
            rw [confB_of (HUJ.out tx hin)] at CF
            have p0 := HKR.out _ _ _ (KM.out _ _ _ (HM.out.has _ _ _ p0))
            have p1 := HKR.out _ _ _ (KM.out _ _ _ (HM.out.has _ _ _ p1))
            have p2 := HKR.out _ _ _ (KM.out _ _ _ (HM.out.has _ _ _ p2))
            have KMR := Lib.hid (kept_trans KM.out HKR.out)
            clear hX hin hP
            go_upto_region 13 with fail
            refine wp_region_held_drew (S := (fun v => Kept wr v ∧ Below w.heap.size w v)) (by kernel_rfl) ?_ (fun hHeld => ?_); (· exact ⟨kept_drew (kept_refl _), bl_drew hbr⟩)
            (refine wpAnyH_take (i := 0) (oi := ?oi1) (v := ?v1) ?h1 (by kernel_rfl) (by kernel_rfl) (by kernel_rfl) ?hQ1 ?hy1 (by first | exact hHeld | assumption) ?_; (case h1 => (simp only [List.getElem?_toArray, List.getElem?_cons_zero]; exact rfl)); (case hQ1 => exact fun _ _ _ h => h); (case hy1 => (refine Or.inl ⟨by rfl, ?_⟩; intro w hSw; (try dsimp only at hSw); go_simp; try (first | with_reducible rfl | rfl))); try simp only [Act.put, List.setIfInBounds_toArray, List.set_cons_zero, List.set_cons_succ]); (refine wpAnyH_take (i := 1) (oi := ?oi2) (v := ?v2) ?h2 (by kernel_rfl) (by kernel_rfl) (by kernel_rfl) ?hQ2 ?hy2 (by first | exact hHeld | assumption) ?_; (case h2 => (simp only [List.getElem?_toArray, List.getElem?_cons_succ, List.getElem?_cons_zero]; exact rfl)); (case hQ2 => exact fun _ _ _ h => h); (case hy2 => (refine Or.inl ⟨by rfl, ?_⟩; intro w hSw; (try dsimp only at hSw); go_simp; try (first | with_reducible rfl | rfl))); try simp only [Act.put, List.setIfInBounds_toArray, List.set_cons_zero, List.set_cons_succ]); (refine wpAnyH_take (i := 2) (oi := ?oi3) (v := ?v3) ?h3 (by kernel_rfl) (by kernel_rfl) (by kernel_rfl) ?hQ3 ?hy3 (by first | exact hHeld | assumption) ?_; (case h3 => (simp only [List.getElem?_toArray, List.getElem?_cons_succ, List.getElem?_cons_zero]; exact rfl)); (case hQ3 => exact fun _ _ _ h => h); (case hy3 => (refine Or.inl ⟨by rfl, ?_⟩; intro w hSw; (try dsimp only at hSw); go_simp; try (first | with_reducible rfl | rfl))); try simp only [Act.put, List.setIfInBounds_toArray, List.set_cons_zero, List.set_cons_succ])
            (refine wpAnyH_take (i := 3) (oi := ?oi4) (v := ?v4) ?h4 (by kernel_rfl) (by kernel_rfl) (by kernel_rfl) ?hQ4 ?hy4 (by first | exact hHeld | assumption) ?_; (case h4 => (simp only [List.getElem?_toArray, List.getElem?_cons_succ, List.getElem?_cons_zero]; exact rfl)); (case hQ4 => exact fun _ _ _ h => h); (case hy4 => (refine Or.inl ⟨by rfl, ?_⟩; intro w hSw; (try dsimp only at hSw); obtain ⟨hk1, hb1⟩ := hSw; have p0 := hk1 _ _ _ p0; have p1 := hk1 _ _ _ p1; have p2 := hk1 _ _ _ p2; go_simp; try (first | with_reducible rfl | rfl))); try simp only [Act.put, List.setIfInBounds_toArray, List.set_cons_zero, List.set_cons_succ])
            (refine wpAnyH_take (i := 4) (oi := ?oi5) (v := ?v5) ?h5 (by kernel_rfl) (by kernel_rfl) (by kernel_rfl) ?hQ5 ?hy5 (by first | exact hHeld | assumption) ?_; (case h5 => (simp only [List.getElem?_toArray, List.getElem?_cons_succ, List.getElem?_cons_zero]; exact rfl)); (case hQ5 => exact fun _ _ _ h => h); (case hy5 => (refine Or.inl ⟨by rfl, ?_⟩; intro w hSw; (try dsimp only at hSw); obtain ⟨hk1, hb1⟩ := hSw; have j0 := hk1 _ _ _ j0; have j1 := hk1 _ _ _ j1; have j2 := hk1 _ _ _ j2; go_simp; try (first | with_reducible rfl | rfl))); try simp only [Act.put, List.setIfInBounds_toArray, List.set_cons_zero, List.set_cons_succ])
            refine wpAnyH_ready (rs := [5]) (by kernel_rfl) (by simp) ?_; refine AllReadyH.cons (o := ?oi6) ?h6 (fun K hK => ?_) AllReadyH.nil; (case h6 => (simp only [List.getElem?_toArray, List.getElem?_cons_succ, List.getElem?_cons_zero]; exact rfl)); go_simp; (refine (CF.out _ (kept_trans KMR.out hHeld.1)).mono ?_; rintro e v1 ⟨rfl, hb⟩; have hk := below_keeps hb; obtain ⟨hc, hf⟩ := bcell hb; have hz := hb.size; have hw := hHeld.2.size; (try simp at hz); (try simp at hw)); refine hK.out _ _ ?_ (fun hNew => ?_); (· (refine ⟨?_, ?_⟩ <;> (first | (with_reducible refine kept_head ?_; (repeat (first | with_reducible assumption | with_reducible exact kept_refl _ | with_reducible exact hHeld.1 | with_reducible exact kept_trans hHeld.1 (kept_below hb) | with_reducible refine kept_alloc ?_ _ | with_reducible refine kept_drew ?_ | with_reducible refine kept_set ?_ (by first | (simp; done) | (simp; omega)) _)); done) | ((repeat (first | with_reducible assumption | with_reducible exact bl_refl _ | with_reducible exact hHeld.2 | with_reducible exact bl_trans hHeld.2 hb | with_reducible refine bl_alloc ?_ _ | with_reducible refine bl_set ?_ (by first | (simp; done) | (simp; omega)) _ | with_reducible refine bl_drew ?_)); done)))); clear hK K hHeld; revert hNew; intro hHeld; try simp only [Act.put, List.setIfInBounds_toArray, List.set_cons_zero, List.set_cons_succ]
            refine wpAnyH_take (i := 6) (oi := ?oi7) (v := ?v7) ?h7 (by kernel_rfl) (by kernel_rfl) (by kernel_rfl) ?hQ7 ?hy7 (by first | exact hHeld | assumption) ?_; (case h7 => (simp only [List.getElem?_toArray, List.getElem?_cons_succ, List.getElem?_cons_zero]; exact rfl)); (case hQ7 => exact fun _ _ _ h => h); (case hy7 => (refine Or.inl ⟨by rfl, ?_⟩; intro w hSw; (try dsimp only at hSw); go_simp; try (first | with_reducible rfl | rfl))); try simp only [Act.put, List.setIfInBounds_toArray, List.set_cons_zero, List.set_cons_succ]
            refine wpAnyH_done (by kernel_rfl) ?_ _
            have hbx := hHeld.2
            have hkx := Lib.hid hHeld.1
            clear hHeld
            go_wp2_with fail
            go_roundw
            case rel => exact ⟨q + 1, by omega, by go_num, kept_trans HKR.out hkx.out, hbx⟩
            case measure => simp [intOf]; omega
          · have k1 : ¬ (q : Int) < (n : Int) := by omega
            go_wp2_with fail
            refine (MJ.out _ (kept_trans KM.out HKR.out)).mono ?_
            rintro e w9 ⟨rfl, hb⟩
            have j0 := below_keeps hb _ _ _ j0; have j1 := below_keeps hb _ _ _ j1; have j2 := below_keeps hb _ _ _ j2
            have hbr : Below w.heap.size w w9 := by (repeat (first | with_reducible assumption | with_reducible exact bl_refl _ | with_reducible refine bl_alloc ?_ _ | with_reducible refine bl_set ?_ (by first | (simp; done) | (simp; omega)) _ | with_reducible refine bl_drew ?_ | with_reducible refine bl_drewN ?_ _ | with_reducible refine bl_trans ?_ (by assumption)))
            clear hb
            rcases Nat.eq_zero_or_pos n with h0 | h0
            · have e1 := HNJ.out h0
              subst h0
              rw [e1] at j0
              go_wp2_with fail
              go_ret
              exact ⟨rfl, hbr⟩
            · have k2 : (0 : Int) < (n : Int) := by omega
              go_wp2_with fail
              go_ret
              exact ⟨rfl, hbr⟩

end Go.Proofs.Ytnkecbpocgcdfaa
