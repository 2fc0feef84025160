/-
  The frame of a card that lists four tables. No condition.
-/
import Derived.Test.YtnamnldijopkfaaDoorTCard
import Derived.Test.YtnamnldijopkfaaDoorTuh
import Derived.Deep.DeepLaidRun
import Derived.Lib.LaidTab
namespace Go.Proofs.YtnamnldijopkfaaDoor
open Go.ChangeShapes Go.WideShapes Go.ChangeAt Go.RowKit Go.Joins

theorem asc_eq : (Rows.laid_strings_asciiSpace : DataW Unit) = Lib.tabData .u8 Lib.asciiSpaceTab := by kernel_rfl

theorem tab_of_reads {W : World} (h : Lib.VarReads Tryd.prog W "strings.asciiSpace" (Lib.tabData .u8 Lib.asciiSpaceTab)) : Tab W := by
  obtain ⟨g, t, cs, fuel, p, hg, ht, hv, hd⟩ := h
  have hg2 : Tryd.prog.globalNamed "strings.asciiSpace" = some 2 := by kernel_rfl
  have ht2 : (Tryd.prog.globals[2]?).map (·.type) = some 81 := by kernel_rfl
  obtain rfl := Option.some.inj (hg2.symm.trans hg)
  obtain rfl := Option.some.inj (ht2.symm.trans ht)
  unfold Tab Lib.TabIs
  rw [hv, ← Lib.cells_of_tab (n := 256) Tryd.underlying81 Tryd.underlying5 (by kernel_rfl) (by kernel_rfl) hd]

/-- what a row's list of four tables gives -/
structure Env4 (w : World) : Prop where
  env : Env w
  tab : Tab w

theorem env_of4 {W : World} (hL : laidMetH Tryd.prog [("unicode/utf8.acceptRanges", Rows.laid_unicode_utf8_acceptRanges), ("unicode.White_Space", Rows.laid_unicode_White_Space), ("strings.asciiSpace", Rows.laid_strings_asciiSpace), ("unicode/utf8.first", Rows.laid_unicode_utf8_first)] W) (hS : W.ShapedOpen Tryd.prog) : Env4 W := by
  have h1 : Lib.VarReads Tryd.prog W "unicode/utf8.acceptRanges" Lib.acceptData := by rw [← acc_eq]; exact Lib.laidMet.reads hL (.head _)
  have h3 : Lib.VarReads Tryd.prog W "strings.asciiSpace" (Lib.tabData .u8 Lib.asciiSpaceTab) := by rw [← asc_eq]; exact Lib.laidMet.reads hL (.tail _ (.tail _ (.head _)))
  have h2 : Lib.VarReads Tryd.prog W "unicode/utf8.first" Lib.firstData := by rw [← Pinned.utf8First_eq]; exact Lib.laidMet.reads hL (.tail _ (.tail _ (.tail _ (.head _))))
  exact ⟨⟨Go.Proofs.utf8Tabs_of_readsT (Go.Proofs.U8Types.of196 Tryd.lays196) ⟨by kernel_rfl, by kernel_rfl, by kernel_rfl, by kernel_rfl, by kernel_rfl, by kernel_rfl, by kernel_rfl⟩ h2 h1, Tryd.laysM219.s1_3 W hS⟩, tab_of_reads h3⟩

/-- a world for the witness: the settled one with two blocks more, the four tables holding what their initialisers lay -/
noncomputable def laidWorld4 (os : Os) : World :=
  let N := (World.settled Tryd.prog os).heap.size
  let w0 := World.holding Tryd.prog os ⟨#[.cells (([9, 13, 1, 32, 133, 101, 160, 5760, 5600, 8192, 8202, 1, 8232, 8233, 1, 8239, 8287, 48, 12288, 12288, 1] : List Int).map fun z => Value.int .u16 z).toArray 126, .cells #[.slice (some ⟨N, 0, none⟩) 7 7, .slice none 0 0, .int .i64 2] 124], #[], []⟩
  let put (h : Array Obj) (g : Nat) (cs : Array Value) : Array Obj := h.modify g fun
    | .cells _ t frozen => .cells cs t frozen
    | o => o
  let h1 := put w0.heap 0 (Lib.firstTab.map fun z => Value.int .u8 z).toArray
  let h2 := put h1 1 ((List.range 16).flatMap fun i => [Value.int .u8 (Lib.accLo i), Value.int .u8 (Lib.accHi i)]).toArray
  let h3 := put h2 2 (Lib.asciiSpaceTab.map fun z => Value.int .u8 z).toArray
  let h4 := put h3 3 #[.pointer (some ⟨N + 1, 0, none⟩)]
  { w0 with heap := h4 }

end Go.Proofs.YtnamnldijopkfaaDoor
