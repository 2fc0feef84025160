/-
  The frame of a card: what the rows' lists give of a world; a world for the witness. No condition.
-/
import Derived.Test.YtnamnldijopkfaaDoorTp
import Derived.Test.YtnamnldijopkfaaDoorCards
import Derived.Test.YtnamnldijopkfaaDoorTie
import Derived.Lib.LaidIn
import Derived.Lib.LaidU8T
import Derived.Deep.DeepHandedRow
import Derived.Deep.DeepWitnessRowRef
import Derived.PinnedBridge
import Derived.ChangeMaps5
import Derived.JoinedCond
namespace Go.Proofs.YtnamnldijopkfaaDoor
open Go.ChangeShapes Go.WideShapes Go.ChangeAt Go.RowKit Go.Joins

theorem acc_eq : (Rows.laid_unicode_utf8_acceptRanges : DataW Unit) = Lib.acceptData := by kernel_rfl

theorem env_of {W : World} (hL : laidMetH Tryd.prog [("unicode/utf8.acceptRanges", Rows.laid_unicode_utf8_acceptRanges), ("unicode/utf8.first", Rows.laid_unicode_utf8_first)] W) (hS : W.ShapedOpen Tryd.prog) : Env W := by
  have h1 : Lib.VarReads Tryd.prog W "unicode/utf8.acceptRanges" Lib.acceptData := by rw [← acc_eq]; exact Lib.laidMet.reads hL (.head _)
  have h2 : Lib.VarReads Tryd.prog W "unicode/utf8.first" Lib.firstData := by rw [← Pinned.utf8First_eq]; exact Lib.laidMet.reads hL (.tail _ (.head _))
  exact ⟨Go.Proofs.utf8Tabs_of_readsT (Go.Proofs.U8Types.of196 Tryd.lays196) ⟨by kernel_rfl, by kernel_rfl, by kernel_rfl, by kernel_rfl, by kernel_rfl, by kernel_rfl, by kernel_rfl⟩ h2 h1, Tryd.laysM219.s1_3 W hS⟩

/-- a world for the witness: the settled one, the two tables holding what their initialisers lay -/
noncomputable def laidWorld (os : Os) : World :=
  let w0 := World.holding Tryd.prog os ⟨#[], #[], []⟩
  let put (h : Array Obj) (g : Nat) (cs : Array Value) : Array Obj := h.modify g fun
    | .cells _ t frozen => .cells cs t frozen
    | o => o
  let h1 := put w0.heap 0 (Lib.firstTab.map fun z => Value.int .u8 z).toArray
  let h2 := put h1 1 ((List.range 16).flatMap fun i => [Value.int .u8 (Lib.accLo i), Value.int .u8 (Lib.accHi i)]).toArray
  { w0 with heap := h2 }

end Go.Proofs.YtnamnldijopkfaaDoor
