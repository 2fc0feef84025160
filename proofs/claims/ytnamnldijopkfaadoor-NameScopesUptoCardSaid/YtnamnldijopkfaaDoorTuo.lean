/-
  NameScopes' walk.
-/
import Derived.Test.YtnamnldijopkfaaDoorTul
import Derived.Test.YtnamnldijopkfaaDoorTuk
import Derived.Deep.CutBlock
namespace Go.Proofs.YtnamnldijopkfaaDoor
open Go.ChangeShapes Go.WideShapes Go.ChangeAt Go.RowKit Go.Joins

theorem readB_k (x : List UInt8) (w : World) (hE : Env w) (hl : x.length ≤ 2097153) :
    Calls Tryd.prog 36 #[.string (strOfL x)] w fun e w' => ∃ rv, e = .returned (.tuple #[rv, .bool (readP x).isSome]) ∧ Below w.heap.size w w' := by
  refine (read_k x w hE hl).mono ?_
  intro e w' hr
  cases hp : readP x with
  | none =>
    rw [hp] at hr
    obtain ⟨rfl, hb⟩ := hr
    exact ⟨_, rfl, hb⟩
  | some ts =>
    rw [hp] at hr
    obtain ⟨rv, rfl, -, hb⟩ := hr
    exact ⟨_, rfl, hb⟩

theorem take_contains (acc : List (List UInt8)) (x : List UInt8) (p : Nat) (h : p < acc.length) : (acc.take (p + 1)).contains x = ((acc.take p).contains x || decide (acc[p] = x)) := by
  rw [List.take_succ_eq_append_getElem h, Bool.eq_iff_iff]
  simp only [List.contains_iff_mem, List.mem_append, List.mem_singleton, Bool.or_eq_true, decide_eq_true_eq]
  constructor
  · rintro (q | q)
    · exact .inl q
    · exact .inr q.symm
  · rintro (q | q)
    · exact .inl q
    · exact .inr q.symm

set_option maxHeartbeats 8000000 in
set_option maxRecDepth 100000 in
theorem scopes_walk (ns ms : List (List UInt8)) (vn vm : Value) (w : World) (hE : Env w) (hN : Strs w vn ns) (hM : Strs w vm ms) (hn : ns.length + ms.length ≤ 1073741823) (hnl : ∀ m ∈ ns, m.length ≤ 2097153) (hml : ∀ m ∈ ms, m.length ≤ 2097153) :
    Calls Tryd.prog 12 #[vn, vm] w fun e w' => e = .returned (.bool true) ∧ Below w.heap.size w w' := by
  obtain ⟨i0, hi0, hz0, hz1, hz2⟩ := info_parts info_str
  have HE := Lib.hid hE
  have HNS := Lib.hid hN
  have HMS := Lib.hid hM
  have HAL := Lib.hid (show ∀ m ∈ ns ++ ms, m.length ≤ 2097153 from fun m h => (List.mem_append.1 h).elim (hnl m) (hml m))
  have OK := Lib.hid (fun v (h : Env v) (hm : Strs v vn ns) => of_k vn ns v h hm (by omega) hnl)
  have hwl := withP_len [] ns
  simp only [List.length_nil] at hwl
  have WK := Lib.hid (fun va v (h : Env v) (ha : Strs v va (withP [] ns)) (hm : Strs v vm ms) => withS_k va vm (withP [] ns) ms v h ha hm (by omega) hml)
  rw [withP_cat] at WK
  have hzl := withP_len [] (ns ++ ms)
  simp only [List.length_nil, List.length_append] at hzl
  obtain ⟨S, hS⟩ : ∃ S, withP [] ns = S := ⟨_, rfl⟩
  obtain ⟨Z, hZ⟩ : ∃ Z, withP [] (ns ++ ms) = Z := ⟨_, rfl⟩
  rw [hS] at OK WK hwl
  rw [hZ] at WK hzl
  have HSS := Lib.hid hS
  have HZZ := Lib.hid hZ
  obtain ⟨na, nc, rfl, -, -, -⟩ := hN
  obtain ⟨ma, mc, rfl, -, -, -⟩ := hM
  clear hE hnl hml hS hZ
  go_enter Tryd.func12, Tryd.ntmps12
  go_wp2_with fail
  refine (awake17 _ HE.out).mono ?_
  rintro e w1 ⟨rfl, hb⟩
  have E1 := Lib.hid (HE.out.keep (kept_below hb))
  have N1 := Lib.hid (HNS.out.keep (kept_below hb))
  have B1 := Lib.hid hb
  clear hb
  go_wp2_with fail
  refine (OK.out _ E1.out N1.out).mono ?_
  rintro e w2 ⟨va, rfl, hSa, hb2⟩
  have E2 := Lib.hid (E1.out.keep (kept_below hb2))
  have HA2 := Lib.hid hSa
  have B2 := Lib.hid (bl_trans B1.out hb2)
  obtain ⟨aa, ac, rfl, -, -, -⟩ := hSa
  clear hb2 E1 N1 B1
  go_wp2_with fail
  have E3 := Lib.hid (E2.out.keep (kept_alloc (kept_refl _) (.cells #[.slice aa S.length ac] 45)))
  have HA3 := Lib.hid (HA2.out.keep (kept_alloc (kept_refl _) (.cells #[.slice aa S.length ac] 45)))
  have B3 := Lib.hid (show Below w.heap.size w (w2.alloc (.cells #[.slice aa S.length ac] 45)) from bl_alloc B2.out _)
  have M3 := Lib.hid (HMS.out.keep (kept_below B3.out))
  refine (WK.out _ _ E3.out HA3.out M3.out).mono ?_
  rintro e w3 ⟨vb, rfl, hSb, hb3⟩
  have p0 : w3.cell? ⟨w2.heap.size, 0, none⟩ = some (.slice aa S.length ac) := below_keeps hb3 _ _ _ (by simp [go_sem])
  have hg2 := lt_of_cell p0
  generalize w2.heap.size = g2 at *
  have HB0 := Lib.hid hSb
  obtain ⟨ba, bc, rfl, -, -, -⟩ := hSb
  obtain ⟨w4, hw4⟩ : ∃ w4, w3.alloc (.cells #[.slice ba Z.length bc] 45) = w4 := ⟨_, rfl⟩
  have hb4 : Below w3.heap.size w3 w4 := by rw [← hw4]; exact bl_alloc (bl_refl w3) _
  have p1 : w4.cell? ⟨w3.heap.size, 0, none⟩ = some (.slice ba Z.length bc) := by rw [← hw4]; simp [go_sem]
  have p0 := below_keeps hb4 _ _ _ p0
  have B4 := Lib.hid (bl_trans (bl_trans B3.out hb3) hb4)
  have E4 := Lib.hid (HE.out.keep (kept_below B4.out))
  have N4 := Lib.hid (HNS.out.keep (kept_below B4.out))
  have M4 := Lib.hid (HMS.out.keep (kept_below B4.out))
  have HA4 := Lib.hid ((HA3.out.keep (kept_below hb3)).keep (kept_below hb4))
  have HB4 := Lib.hid (HB0.out.keep (kept_below hb4))
  have HW4 := Lib.hid hw4
  have hg3 := lt_of_cell p1
  clear hb3 hb4 HA3 HA2 HB0 M3 E3 E2 B2 B3 HE HNS HMS OK WK
  go_wp2_with fail
  try rw [HW4.out]
  generalize w3.heap.size = g3 at *
  have P0 := Lib.hid p0
  have P1 := Lib.hid p1
  clear HW4 hw4 p0 p1
  go_loopw [7, 8] (fun want k wr => ∃ (j : Nat) (acc : List (List UInt8)) (ra : Option Addr) (rc : Nat), j ≤ ns.length + ms.length ∧ k = .int .i64 j ∧ acc = withP [] ((ns ++ ms).take j) ∧ want = .slice ra acc.length rc ∧ wr.ownsRow w4.heap.size 9 1 (.slice ra acc.length rc) acc.length (svals acc) ∧ Below w4.heap.size w4 wr) (fun _ k _ => ns.length + ms.length - (intOf k).toNat)
  case atStart => exact ⟨0, [], none, 0, Nat.zero_le _, rfl, rfl, rfl, World.ownsRow_nil _ _ _ _, bl_refl _⟩
  case round =>
    obtain ⟨j, acc, ra, rc, hj, rfl, hacc, rfl, hown, hbr⟩ := hrel
    have HACC := Lib.hid hacc
    have HOWN := Lib.hid hown
    have hal : acc.length ≤ ns.length + ms.length := by
      have := withP_len [] ((ns ++ ms).take j)
      rw [← hacc, List.length_take, List.length_append, List.length_nil] at this
      omega
    clear hacc hown
    by_cases hlt : j < ns.length + ms.length
    · have hja : j < (ns ++ ms).length := by rw [List.length_append]; exact hlt
      have k1 : (j : Int) < (ns.length : Int) + (ms.length : Int) := by omega
      have hst := withP_take [] (ns ++ ms) j hja
      rw [← HACC.out] at hst
      have RK := Lib.hid (fun v (h : Env v) => readB_k (ns ++ ms)[j] v h (HAL.out _ (List.getElem_mem _)))
      obtain ⟨x, hx⟩ : ∃ x, (ns ++ ms)[j] = x := ⟨_, rfl⟩
      rw [hx] at hst RK
      have HX := Lib.hid hx
      obtain ⟨acc2, hacc2⟩ : ∃ acc2, withP [] ((ns ++ ms).take (j + 1)) = acc2 := ⟨_, rfl⟩
      rw [hacc2] at hst
      have HACC2 := Lib.hid hacc2
      have HST := Lib.hid hst
      clear hst hx hacc2
      go_upto_if 34 with fail
      go_cut [9] from 22 to 86 (fun s wx => s = .string (strOfL x) ∧ wx = wr)
      case first =>
        by_cases hjn : j < ns.length
        · obtain ⟨-, -, -, nb, no, rfl, hcs⟩ := (N4.out.keep (kept_below hbr)).cells (by intro z; rw [z] at hjn; simp at hjn)
          have d0 := hcs j hjn
          have hxe : ns[j] = x := by rw [← HX.out, List.getElem_append_left hjn]
          rw [hxe] at d0
          have k2 : (j : Int) < (ns.length : Int) := by omega
          clear hcs hxe
          go_wp2_with fail
          go_meet
          exact ⟨rfl, rfl⟩
        · obtain ⟨p, hp⟩ : ∃ p, j = ns.length + p := ⟨j - ns.length, by omega⟩
          have hpm : p < ms.length := by omega
          obtain ⟨-, -, -, mb, mo, rfl, hcs⟩ := (M4.out.keep (kept_below hbr)).cells (by intro z; rw [z] at hpm; simp at hpm)
          have d0 := hcs p hpm
          have hxe : ms[p] = x := by
            rw [← HX.out, List.getElem_append_right (by omega)]
            congr 1
            omega
          rw [hxe] at d0
          have k2 : ¬ (j : Int) < (ns.length : Int) := by omega
          have k3 : (j : Int) - (ns.length : Int) = (p : Int) := by omega
          have k4 : (p : Int) < (ms.length : Int) := by omega
          clear hcs hxe hp
          go_wp2_with fail
          go_meet
          exact ⟨rfl, rfl⟩
      case rest =>
      obtain ⟨rfl, e9⟩ := hcut
      have e9 := e9.symm
      subst e9
      go_upto_block 2 with fail
      go_cut [10] from 22 to 86 (fun s wx => s = .bool (acc.contains x) ∧ wx = wr)
      case first =>
        go_wp2_with fail
        go_loopw [10, 11] (fun tw i wx => ∃ p : Nat, p ≤ acc.length ∧ i = .int .i64 p ∧ tw = .bool ((acc.take p).contains x) ∧ wx = wr) (fun _ i _ => acc.length - (intOf i).toNat)
        case atStart => exact ⟨0, Nat.zero_le _, rfl, rfl, rfl⟩
        case round =>
          obtain ⟨p, hp, rfl, rfl, e8⟩ := hrel
          have e8 := e8.symm
          subst e8
          by_cases hlp : p < acc.length
          · obtain ⟨-, -, -, bb, bo, rfl, hcs⟩ := (Strs.ofRow rfl HOWN.out).cells (by intro z; rw [z] at hlp; simp at hlp)
            have d0 := hcs p hlp
            have k2 : (p : Int) < (acc.length : Int) := by omega
            have htk := take_contains acc x p hlp
            have hbb := bytes_beq acc[p] x
            generalize decide (acc[p] = x) = db at *
            generalize acc[p] = y at *
            generalize (acc.take p).contains x = tb at *
            have HTK := Lib.hid htk
            clear htk hcs
            cases tb with
            | true =>
              go_wp2_with fail
              go_roundw
              case rel => exact ⟨p + 1, by omega, by go_num, by rw [HTK.out]; rfl, by first | rfl | trivial⟩
              case measure => simp [intOf]; omega
            | false =>
              go_wp2_with fail
              go_roundw
              case rel => exact ⟨p + 1, by omega, by go_num, by rw [HTK.out]; rfl, by first | rfl | trivial⟩
              case measure => simp [intOf]; omega
          · have k2 : ¬ (p : Int) < (acc.length : Int) := by omega
            go_wp2_with fail
            go_meet
            exact ⟨by (try rw [List.take_of_length_le (by omega)]); simp, rfl⟩
      case rest =>
      obtain ⟨rfl, e9⟩ := hcut
      have e9 := e9.symm
      subst e9
      have E5 := Lib.hid (E4.out.keep (kept_below hbr))
      obtain ⟨tw, htw⟩ : ∃ b, acc.contains x = b := ⟨_, rfl⟩
      obtain ⟨ok, hok⟩ : ∃ b, (readP x).isSome = b := ⟨_, rfl⟩
      have hst := HST.out
      rw [htw, hok] at hst
      rw [hok] at RK
      rw [htw]
      have HST2 := Lib.hid hst
      clear hst HST htw hok
      go_wp2_with fail
      refine (RK.out _ E5.out).mono ?_
      rintro e w5 ⟨rv, rfl, hb5⟩
      have hO5 := Lib.hid (HOWN.out.kept (grown_of_below hb5 none) (by cases hv : (Value.slice ra acc.length rc).ownBlock <;> simp))
      have hbr5 := bl_trans hbr hb5
      clear hb5 HOWN
      go_upto_region 19 with fail
      go_cut [70] from 22 to 86 (fun s wx => s = .bool (ok && !tw) ∧ wx = w5)
      case first =>
        cases ok with
        | false =>
          go_wp2_with fail
          go_meet
          exact ⟨rfl, rfl⟩
        | true =>
          cases tw with
          | false =>
            go_wp2_with fail
            go_meet
            exact ⟨rfl, rfl⟩
          | true =>
            go_wp2_with fail
            go_meet
            exact ⟨rfl, rfl⟩
      case rest =>
      obtain ⟨rfl, e9⟩ := hcut
      have e9 := e9.symm
      subst e9
      obtain ⟨dd, hdd⟩ : ∃ b, (ok && !tw) = b := ⟨_, rfl⟩
      have hst := HST2.out
      have hst3 : acc2 = if dd = true then acc ++ [x] else acc := by
        rw [hst, ← hdd]
        cases ok <;> cases tw <;> rfl
      rw [hdd]
      have HST3 := Lib.hid hst3
      clear hst hst3 hdd HST2
      go_upto_if 70 with fail
      go_cut [7] from 22 to 86 (fun s wx => ∃ (rb : Option Addr) (rd : Nat), s = .slice rb acc2.length rd ∧ wx.ownsRow w4.heap.size 9 1 (.slice rb acc2.length rd) acc2.length (svals acc2) ∧ Below w4.heap.size w4 wx)
      case first =>
        cases dd with
        | false =>
          have hst := HST3.out
          rw [if_neg (by decide)] at hst
          subst hst
          go_wp2_with fail
          go_meet
          exact ⟨_, _, rfl, hO5.out, hbr5⟩
        | true =>
          have hst := HST3.out
          rw [if_pos rfl] at hst
          have HS7 := Lib.hid hst
          have hsz5 : w4.heap.size ≤ w5.heap.size := hbr5.size
          clear hst HST3
          go_wp2_with (at_builtin; go_loud (refine wpList_append_lies _ rfl _ _ _ rfl w4.heap.size 9 i0 _ 1 16 Tryd.underlying43 hi0 hz0 hz1 hz2 (by rfl) (by omega) (.slice ra acc.length rc) acc.length (svals acc) (by rfl) (hO5.out.alloc _) ⟨w5.heap.size, 0, none⟩ 1 1 [.string (strOfL x)] (by rfl) (by rfl) (World.news_of_block (heap_alloc_new w5 _)) (by simp [Value.oneCell']) (by omega) (by unfold maxLen; omega) (by omega) (by simp; omega) (w5.heap.size + 1) (by simp) ?_); go_loud (intro gg cap w6 hown6 hgrow6 hat6 hlt6; have HO6 := Lib.hid hown6; have HG6 := Lib.hid hgrow6; have HA6 := Lib.hid hat6; clear hown6 hgrow6 hat6))
          go_meet
          have hlen : (acc ++ [x]).length = acc.length + 1 := by simp
          have hbw : Below w4.heap.size w4 w6 := by
            have hbA : Below w4.heap.size w4 (w5.alloc (.cells #[.string (strOfL x)] 9)) := bl_alloc hbr5 _
            exact hbA.grown HG6.out hbA.size (fun o h => by have := (hO5.out.lt o h).1; omega)
          rw [HS7.out]
          refine ⟨some ⟨gg, 0, none⟩, cap, ?_, ?_, hbw⟩
          · rw [hlen]
          · rw [hlen, svals_append]; exact HO6.out
      case rest =>
      obtain ⟨rb, rd, rfl, hown6, hbr6⟩ := hcut
      have HO6 := Lib.hid hown6
      have HA6 := Lib.hid (HA4.out.keep (kept_below hbr6))
      have NK := Lib.hid (fun v (h : Strs v (.slice aa S.length ac) S) => names_k (.slice aa S.length ac) S v h (by omega))
      have SK := Lib.hid (fun va2 vb2 v (h1 : Strs v va2 acc2) (h2 : Strs v vb2 acc2) => same_k va2 vb2 acc2 v h1 h2 (by have := withP_len [] ((ns ++ ms).take (j + 1)); rw [HACC2.out, List.length_take, List.length_append, List.length_nil] at this; omega))
      obtain ⟨z, hz⟩ : ∃ z : Int, (ns.length : Int) - 1 = z := ⟨_, rfl⟩
      have hzw : IntKind.i64.wrap z = z := IntWalk.i64_in _ (by omega)
      clear hO5 hown6
      by_cases hjn : j + 1 = ns.length
      · have hq : ((j : Int) == z) = true := by rw [beq_iff_eq]; omega
        have hSa : acc2 = S := by
          rw [← HACC2.out, ← HSS.out, hjn, List.take_left]
        have HSA := Lib.hid hSa
        have HW := Lib.hid (Strs.ofRow rfl HO6.out)
        have p0 := below_keeps hbr6 _ _ _ P0.out
        clear hSa hjn
        go_wp2_with fail
        refine (NK.out _ HA6.out).mono ?_
        rintro e w7 ⟨v7, rfl, hS7, hb7⟩
        clear p0
        have HW7 := Lib.hid (HW.out.keep (kept_below hb7))
        have hO7 := Lib.hid (HO6.out.kept (grown_of_below hb7 none) (by cases hv : (Value.slice rb acc2.length rd).ownBlock <;> simp))
        rw [← HSA.out] at hS7
        have hbr7 := bl_trans hbr6 hb7
        clear hb7
        go_wp2_with fail
        refine (SK.out _ _ _ hS7 HW7.out).mono ?_
        rintro e w8 ⟨rfl, hb8⟩
        have hO8 := Lib.hid (hO7.out.kept (grown_of_below hb8 none) (by cases hv : (Value.slice rb acc2.length rd).ownBlock <;> simp))
        have hbr8 := bl_trans hbr7 hb8
        clear hb8
        go_wp2_with fail
        go_roundw
        case rel => exact ⟨j + 1, acc2, rb, rd, by omega, by go_num, HACC2.out.symm, rfl, hO8.out, hbr8⟩
        case measure => simp [intOf]; omega
      · have hq : ((j : Int) == z) = false := by rw [beq_eq_false_iff_ne]; omega
        clear hjn
        go_wp2_with fail
        go_roundw
        case rel => exact ⟨j + 1, acc2, rb, rd, by omega, by go_num, HACC2.out.symm, rfl, HO6.out, hbr6⟩
        case measure => simp [intOf]; omega
    · have hst := HACC.out
      rw [List.take_of_length_le (by rw [List.length_append]; omega), HZZ.out] at hst
      subst hst
      have k1 : ¬ (j : Int) < (ns.length : Int) + (ms.length : Int) := by omega
      have HB5 := Lib.hid (HB4.out.keep (kept_below hbr))
      have HW5 := Lib.hid (Strs.ofRow rfl HOWN.out)
      have B5 := Lib.hid (bl_trans B4.out hbr)
      have p1 := below_keeps hbr _ _ _ P1.out
      have NK := Lib.hid (fun v (h : Strs v (.slice ba acc.length bc) acc) => names_k (.slice ba acc.length bc) acc v h (by omega))
      have SK := Lib.hid (fun va2 vb2 v (h1 : Strs v va2 acc) (h2 : Strs v vb2 acc) => same_k va2 vb2 acc v h1 h2 (by omega))
      clear hlt
      go_wp2_with fail
      go_loopw [14] (fun i wx => ∃ p : Nat, p ≤ acc.length ∧ i = .int .i64 p ∧ Below wr.heap.size wr wx) (fun i _ => acc.length - (intOf i).toNat)
      case atStart => exact ⟨0, Nat.zero_le _, rfl, bl_refl _⟩
      case round =>
        obtain ⟨p, hp, rfl, hbx⟩ := hrel
        have p1 := below_keeps hbx _ _ _ p1
        have HB6 := Lib.hid (HB5.out.keep (kept_below hbx))
        have HW6 := Lib.hid (HW5.out.keep (kept_below hbx))
        have B6 := Lib.hid (bl_trans B5.out hbx)
        by_cases hlp : p < acc.length
        · obtain ⟨-, -, -, bb, bo, rfl, hcs⟩ := HW6.out.cells (by intro z; rw [z] at hlp; simp at hlp)
          have d0 := hcs p hlp
          have k2 : (p : Int) < (acc.length : Int) := by omega
          have HK := Lib.hid (fun v (h : Strs v (.slice ba acc.length bc) acc) => has_k (.slice ba acc.length bc) acc acc[p] v h (by omega))
          have hct : acc.contains acc[p] = true := List.contains_iff_mem.2 (List.getElem_mem _)
          rw [hct] at HK
          generalize acc[p] = y at *
          clear hct hcs
          go_wp2_with fail
          refine wp_region_held_drew (S := (fun v => v.cell? ⟨g3, 0, none⟩ = some (.slice ba acc.length bc) ∧ v.cell? ⟨bb, bo + p, none⟩ = some (.string (strOfL y)) ∧ Below wr.heap.size wr v)) (by kernel_rfl) ?_ (fun hHeld => ?_); (· ((try dsimp only); (try go_split_ands); (repeat' apply And.intro) <;> (first | with_reducible assumption | (with_reducible refine kept_head ?_; (first | with_reducible assumption | ((repeat (first | with_reducible refine kept_alloc ?_ _ | with_reducible refine kept_drew ?_)); (first | with_reducible assumption | with_reducible exact kept_refl _)) | exact kept_trans (by assumption) (kept_below hb))) | exact hk _ _ _ (by assumption) | (simp [go_sem, *]; done) | (repeat (first | with_reducible assumption | with_reducible exact bl_refl _ | with_reducible refine bl_alloc ?_ _ | with_reducible refine bl_set ?_ (by first | (simp; done) | (simp; omega)) _ | with_reducible refine bl_drew ?_ | with_reducible refine bl_drewN ?_ _ | with_reducible refine bl_trans ?_ (by assumption))))))
          (refine wpAnyH_take (i := 0) (oi := ?oi1) (v := ?v1) ?h1 (by kernel_rfl) (by kernel_rfl) (by kernel_rfl) ?hQ1 ?hy1 (by first | exact hHeld | assumption) ?_; (case h1 => (simp only [List.getElem?_toArray, List.getElem?_cons_zero]; exact rfl)); (case hQ1 => exact fun _ _ _ h => h); (case hy1 => (refine Or.inl ⟨by rfl, ?_⟩; intro w hSw; (try dsimp only at hSw); go_simp; try (first | with_reducible rfl | rfl))); try simp only [Act.put, List.setIfInBounds_toArray, List.set_cons_zero, List.set_cons_succ]); (refine wpAnyH_take (i := 1) (oi := ?oi2) (v := ?v2) ?h2 (by kernel_rfl) (by kernel_rfl) (by kernel_rfl) ?hQ2 ?hy2 (by first | exact hHeld | assumption) ?_; (case h2 => (simp only [List.getElem?_toArray, List.getElem?_cons_succ, List.getElem?_cons_zero]; exact rfl)); (case hQ2 => exact fun _ _ _ h => h); (case hy2 => (refine Or.inl ⟨by rfl, ?_⟩; intro w hSw; (try dsimp only at hSw); go_simp; try (first | with_reducible rfl | rfl))); try simp only [Act.put, List.setIfInBounds_toArray, List.set_cons_zero, List.set_cons_succ]); (refine wpAnyH_take (i := 2) (oi := ?oi3) (v := ?v3) ?h3 (by kernel_rfl) (by kernel_rfl) (by kernel_rfl) ?hQ3 ?hy3 (by first | exact hHeld | assumption) ?_; (case h3 => (simp only [List.getElem?_toArray, List.getElem?_cons_succ, List.getElem?_cons_zero]; exact rfl)); (case hQ3 => exact fun _ _ _ h => h); (case hy3 => (refine Or.inl ⟨by rfl, ?_⟩; intro w hSw; (try dsimp only at hSw); go_simp; try (first | with_reducible rfl | rfl))); try simp only [Act.put, List.setIfInBounds_toArray, List.set_cons_zero, List.set_cons_succ]); (refine wpAnyH_take (i := 3) (oi := ?oi4) (v := ?v4) ?h4 (by kernel_rfl) (by kernel_rfl) (by kernel_rfl) ?hQ4 ?hy4 (by first | exact hHeld | assumption) ?_; (case h4 => (simp only [List.getElem?_toArray, List.getElem?_cons_succ, List.getElem?_cons_zero]; exact rfl)); (case hQ4 => exact fun _ _ _ h => h); (case hy4 => (refine Or.inl ⟨by rfl, ?_⟩; intro w hSw; (try dsimp only at hSw); go_simp; try (first | with_reducible rfl | rfl))); try simp only [Act.put, List.setIfInBounds_toArray, List.set_cons_zero, List.set_cons_succ]); (refine wpAnyH_take (i := 4) (oi := ?oi5) (v := ?v5) ?h5 (by kernel_rfl) (by kernel_rfl) (by kernel_rfl) ?hQ5 ?hy5 (by first | exact hHeld | assumption) ?_; (case h5 => (simp only [List.getElem?_toArray, List.getElem?_cons_succ, List.getElem?_cons_zero]; exact rfl)); (case hQ5 => exact fun _ _ _ h => h); (case hy5 => (refine Or.inl ⟨by rfl, ?_⟩; intro w hSw; (try dsimp only at hSw); go_simp; try (first | with_reducible rfl | rfl))); try simp only [Act.put, List.setIfInBounds_toArray, List.set_cons_zero, List.set_cons_succ])
          refine wpAnyH_ready (rs := [5]) (by kernel_rfl) (by simp) ?_; refine AllReadyH.cons (o := ?oi6) ?h6 (fun K hK => ?_) AllReadyH.nil; (case h6 => (simp only [List.getElem?_toArray, List.getElem?_cons_succ, List.getElem?_cons_zero]; exact rfl)); go_simp; (refine (HK.out _ (HB6.out.keep (kept_below hHeld.2.2))).mono ?_; rintro e v1 ⟨rfl, hb⟩; have hk := below_keeps hb); refine hK.out _ _ ?_ (fun hNew => ?_); (· ((try dsimp only); (try go_split_ands); (repeat' apply And.intro) <;> (first | with_reducible assumption | (with_reducible refine kept_head ?_; (first | with_reducible assumption | ((repeat (first | with_reducible refine kept_alloc ?_ _ | with_reducible refine kept_drew ?_)); (first | with_reducible assumption | with_reducible exact kept_refl _)) | exact kept_trans (by assumption) (kept_below hb))) | exact hk _ _ _ (by assumption) | (simp [go_sem, *]; done) | (repeat (first | with_reducible assumption | with_reducible exact bl_refl _ | with_reducible refine bl_alloc ?_ _ | with_reducible refine bl_set ?_ (by first | (simp; done) | (simp; omega)) _ | with_reducible refine bl_drew ?_ | with_reducible refine bl_drewN ?_ _ | with_reducible refine bl_trans ?_ (by assumption)))))); clear hK K hHeld; revert hNew; intro hHeld; try simp only [Act.put, List.setIfInBounds_toArray, List.set_cons_zero, List.set_cons_succ]
          (refine wpAnyH_take (i := 6) (oi := ?oi7) (v := ?v7) ?h7 (by kernel_rfl) (by kernel_rfl) (by kernel_rfl) ?hQ7 ?hy7 (by first | exact hHeld | assumption) ?_; (case h7 => (simp only [List.getElem?_toArray, List.getElem?_cons_succ, List.getElem?_cons_zero]; exact rfl)); (case hQ7 => exact fun _ _ _ h => h); (case hy7 => (refine Or.inl ⟨by rfl, ?_⟩; intro w hSw; (try dsimp only at hSw); go_simp; try (first | with_reducible rfl | rfl))); try simp only [Act.put, List.setIfInBounds_toArray, List.set_cons_zero, List.set_cons_succ])
          refine wpAnyH_done (by kernel_rfl) ?_ _
          obtain ⟨-, -, hbz⟩ := hHeld
          go_wp2_with fail
          go_roundw
          case rel => exact ⟨p + 1, by omega, by go_num, bl_trans hbx hbz⟩
          case measure => simp [intOf]; omega
        · have k2 : ¬ (p : Int) < (acc.length : Int) := by omega
          go_wp2_with fail
          refine (NK.out _ HB6.out).mono ?_
          rintro e w7 ⟨v7, rfl, hS7, hb7⟩
          have HW7 := Lib.hid (HW6.out.keep (kept_below hb7))
          have B7 := Lib.hid (bl_trans B6.out hb7)
          clear hb7 p1
          go_wp2_with fail
          refine (SK.out _ _ _ hS7 HW7.out).mono ?_
          rintro e w8 ⟨rfl, hb8⟩
          have B8 := Lib.hid (bl_trans B7.out hb8)
          go_wp2_with fail
          go_ret
          exact ⟨rfl, B8.out⟩

end Go.Proofs.YtnamnldijopkfaaDoor
