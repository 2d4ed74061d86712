/-
  The rows of the table for int and byte.
-/
import Derived.Test.YtlhechlbmbjffaaDoorKit2
namespace Go.Proofs.YtlhechlbmbjffaaDoor
open Go.RowKit
theorem intInfo : (Tryd.prog.info? 3).map (fun i => (i.zero, i.size, i.bytes)) = some (some (.int .i64 0), 1, 8) := by kernel_rfl
theorem byteInfo : (Tryd.prog.info? 5).map (fun i => (i.zero, i.size, i.bytes)) = some (some (.int .u8 0), 1, 1) := by kernel_rfl
end Go.Proofs.YtlhechlbmbjffaaDoor
