/-
  Ext, part 2: the world of a call; the words for one seat. Own work of this seat.
-/
import Derived.Test.YtainplhaaklpeaaDoorX1
import Derived.Test.YtainplhaaklpeaaDoorProg
namespace Go.Proofs.YtainplhaaklpeaaDoor
open Go.Abs Go.RowKit

noncomputable def cxD (w : World) : Cx := ⟨Tryd.prog, w, fun _ => none⟩
theorem mixed : Tryd.prog.follows .mixedOrders = true := by kernel_rfl
theorem glD (w : World) : GlOK (cxD w) := fun g cs h => by cases h
def HasMax (w : World) : Prop := ∃ m, w.cell? ⟨0, 0, none⟩ = some (.int .i64 m)
structure EnvOK (w : World) : Prop where
  max : HasMax w
end Go.Proofs.YtainplhaaklpeaaDoor
