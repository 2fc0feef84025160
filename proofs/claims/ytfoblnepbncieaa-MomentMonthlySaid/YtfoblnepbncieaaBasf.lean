/-
  Small tools, more: quiet callees, cells that stay where a block is laid.
-/
import Derived.Test.YtfoblnepbncieaaBase
namespace Go.Proofs.Ytfoblnepbncieaa
open Go.ChangeShapes Go.WideShapes Go.ChangeAt Go.RowKit

/-- a callee that leaves the world alone, in a region that draws its order -/
theorem quiet_same {P : Program} {f : FuncId} {args : Array Value} {w : World} {n : Nat} {v : Value}
    (h : Calls P f args (w.drewN n) fun e w' => e = .returned v ∧ w.drewN n = w') : Calls P f args (w.drewN n) fun e w'' => e = .returned v ∧ ∃ m, w'' = w.drewN m :=
  h.mono fun _ _ ⟨he, hm⟩ => ⟨he, n, hm.symm⟩

theorem cell_alloc_keep {w : World} {a : Addr} {v : Value} {o : Obj} (h : w.cell? a = some v) : (w.alloc o).cell? a = some v := by
  obtain ⟨b, k, sp⟩ := a
  exact (World.cell?_alloc_lt _ _ _ (World.block_lt_of_cell? w _ h)).trans h

end Go.Proofs.Ytfoblnepbncieaa
