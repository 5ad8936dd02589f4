/-
  What a step of a constraint hands back.
-/
import Derived.Test.YtjmegicopdbkdaaDoorDoms
set_option maxHeartbeats 1000000
namespace Go.Proofs.YtjmegicopdbkdaaDoor
open Go Go.RowKit Pl

/-- What a step hands back. -/
def StepPost (r : Option (List DomB)) (w : World) (e : Ending) (w' : World) : Prop :=
  match r with
  | Option.none => e = .returned (.tuple #[.slice Option.none 0 0, .int .i64 1]) ∧ Kept w w'
  | some ds => ∃ A c, e = .returned (.tuple #[.slice A ds.length c, .int .i64 0]) ∧ Doms w' A ds.length ds ∧ Kept w w'

theorem info_dom : (Tryd.prog.info? 47).map (fun i => (i.zero, i.size, i.bytes)) = some (some (.agg #[.slice Option.none 0 0, .int .u64 0]), 2, 32) := by kernel_rfl
end Go.Proofs.YtjmegicopdbkdaaDoor
