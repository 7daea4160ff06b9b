/- The program's own closed facts, each once: what every row asks of it. -/
import Derived.Test.YtcclccakmmdegaaGreatDoorJoin
import Derived.Test.YtcclccakmmdegaaGreatDoorRows
set_option linter.unusedVariables false
set_option linter.unusedSimpArgs false
namespace Go.Proofs.YtcclccakmmdegaaGreatDoor
open Go.ClosedOfChecked
theorem pf_types : Tryz.checked.prog.types = Tryz.checked.src.types := by kernel_rfl
theorem pf_globals : (Tryz.prog.globals.all (fun g => decide (g.type < Tryz.prog.types.size))) = true := by kernel_rfl
theorem pf_params : (Tryz.prog.funcs.all (fun f => f.params.all fun t => decide (t < Tryz.prog.types.size))) = true := by kernel_rfl
theorem pf_laidOut : laidOutB Tryz.prog = true := laidOutB_of (allSpec_of Tryz.checked.wellFormed pf_types) (by rw [Bool.and_eq_true]; exact ⟨pf_globals, pf_params⟩)
theorem pf_mapsRowed : mapsRowed Tryz.prog = true := mapsRowed_of (allSpec_of Tryz.checked.wellFormed pf_types)
theorem pf_keys : Rows.searchNilRow.plainKeys = Tryz.prog.plainKeys := by kernel_rfl
theorem pf_stops : Tryz.prog.stops = [] := by kernel_rfl
theorem pf_stopKnobs : Tryz.prog.stopKnobs = [] := by kernel_rfl
theorem pf_stopsHeard : Tryz.prog.stopsHeard = true := by kernel_rfl
theorem pf_mayEnter : Tryz.prog.mayEnter = true := by kernel_rfl
theorem pf_make : Tryz.prog.make = some Rows.searchNilRow.make := by kernel_rfl
theorem pf_lifted : Rows.searchNilRow.lifted = Tryz.prog.liftsFinal := by kernel_rfl
end Go.Proofs.YtcclccakmmdegaaGreatDoor
