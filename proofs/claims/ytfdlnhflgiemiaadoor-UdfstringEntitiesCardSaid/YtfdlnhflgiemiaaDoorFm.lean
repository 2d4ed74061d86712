/-
  The cell of internal/bytealg.MaxLen, by the row's shape.
-/
import Derived.Test.YtfdlnhflgiemiaaDoorFrame
import Derived.Test.YtfdlnhflgiemiaaDoorShelf
namespace Go.Proofs.YtfdlnhflgiemiaaDoor
open Go.RowKit
namespace Frame
theorem maxlen {W : World} (h : W.ShapedOpen Tryd.prog) : ∃ m : Int, W.cell? ⟨2, 0, none⟩ = some (.int .i64 m) :=
  Go.Proofs.cell_of_shapedOpen_int (zero := #[.int .i64 0]) (t := 3) h (of_decide_eq_true (by kernel_rfl)) (by kernel_rfl) rfl (by kernel_rfl) (by kernel_rfl) Tryd.underlying3
end Frame
end Go.Proofs.YtfdlnhflgiemiaaDoor
