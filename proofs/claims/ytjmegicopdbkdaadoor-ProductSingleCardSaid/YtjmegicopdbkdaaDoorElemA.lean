/-
  May all domains be? (The package's own question, by slices.ContainsFunc.)
-/
import Derived.Test.YtjmegicopdbkdaaDoorDoms
set_option maxHeartbeats 1000000
set_option maxRecDepth 10000
namespace Go.Proofs.YtjmegicopdbkdaaDoor
open Go Go.RowKit Pl

end Go.Proofs.YtjmegicopdbkdaaDoor
