/- A part of a proof: a walk over the model by a small separation logic. -/
import Derived.Test.YtbaalaaoggplmaaDoorSlRead
import Derived.Test.YtbaalaaoggplmaaDoorReps
import Derived.OpenShut
set_option linter.unusedVariables false
namespace Go.Sl
open Go.ChangeShapes Go.WideShapes Go.RowKit
theorem rd_bool {H : Type} {enc : TypeId × Value → H} {P : Program} {W : World} {t : TypeId} (ht : P.underlying t = some .bool) : Rd enc P W t RB (fun _ => True) := fun fuel cs x h => by
  obtain ⟨b, rfl, _⟩ := DataW.trod_bool ht h
  exact ⟨b, (), trivial, rfl, trivial⟩
theorem rd_u8 {H : Type} {enc : TypeId × Value → H} {P : Program} {W : World} {t : TypeId} (ht : P.underlying t = some (.int .u8)) : Rd enc P W t RU (fun n => 0 ≤ n ∧ n ≤ 255) := fun fuel cs x h => by
  obtain ⟨n, rfl, _, hw⟩ := DataW.trod_int ht h
  exact ⟨n, (), bounds_u8 hw, rfl, trivial⟩
end Go.Sl
