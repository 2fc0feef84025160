/-
  The bulk of a text.
-/
import Derived.Test.YtnamnldijopkfaaDoorTCard
namespace Go.Proofs.YtnamnldijopkfaaDoor
open Go.ChangeShapes Go.WideShapes Go.ChangeAt Go.RowKit Go.Joins

theorem Rows_str {H : Type} (x : ByteArray) : Rows.uptoBulk (DataW.lit (H := H) (.string x.data.toList)) = x.size + 1 := by
  simp only [Rows.uptoBulk, Array.length_toList]
  rfl

end Go.Proofs.YtnamnldijopkfaaDoor
