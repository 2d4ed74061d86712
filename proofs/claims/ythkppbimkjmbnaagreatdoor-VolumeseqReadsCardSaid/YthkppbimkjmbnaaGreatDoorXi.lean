/-
  The walks through the reference's primary, partition, logical.
-/
import Derived.Test.YthkppbimkjmbnaaGreatDoorXh
import Derived.Test.YthkppbimkjmbnaaGreatDoorXg
namespace Go.Proofs.YthkppbimkjmbnaaGreatDoor
open Go.RowKit
open Vs (bs by_)

end Go.Proofs.YthkppbimkjmbnaaGreatDoor
