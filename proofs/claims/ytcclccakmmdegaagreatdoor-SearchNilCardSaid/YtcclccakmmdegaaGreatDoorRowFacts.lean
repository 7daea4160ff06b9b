/- The closed facts of the law SearchNil's row. -/
import Derived.Test.YtcclccakmmdegaaGreatDoorFacts
import Derived.Test.YtcclccakmmdegaaGreatDoorClo1
set_option linter.unusedVariables false
set_option linter.unusedSimpArgs false
namespace Go.Proofs.YtcclccakmmdegaaGreatDoor
open Go.Proofs.YtcclccakmmdegaaGreatDoor.Rows Go.Ev
theorem rf1 : searchNilRow.wf (OpenSpec.ofChange searchNilSpec) = true := by kernel_rfl
theorem rf4 : Tryz.f8.params.all (Tryz.prog.readableRec ·) = true := by kernel_rfl
theorem rf5 : namedTie Tryz.prog searchNilRow.named searchNilSpec.vars = true := by kernel_rfl
theorem rf14 : searchNilRow.maps = (Tryz.f8.params.toList ++ searchNilSpec.plain.varTypes Tryz.prog).any (Tryz.prog.mapsRec ·) := by kernel_rfl
theorem rf15 : searchNilRow.ifaces = (Tryz.f8.params.toList ++ searchNilSpec.plain.varTypes Tryz.prog).any (Tryz.prog.ifacesRec ·) := by kernel_rfl
theorem rf16 : searchNilRow.mapsOut = Tryz.prog.mapsAmong Tryz.f8.resultTypes.toList := by kernel_rfl
theorem rf17 : searchNilRow.loops = (Tryz.f8.params.toList ++ searchNilSpec.plain.varTypes Tryz.prog).any (Tryz.prog.loopsFrom ·) := by kernel_rfl
theorem rf17b : searchNilRow.wideKeys = (Tryz.f8.params.toList ++ searchNilSpec.plain.varTypes Tryz.prog ++ Tryz.f8.resultTypes.toList).any (Tryz.prog.wideKeysFrom ·) := by kernel_rfl
theorem rf18 : searchNilSpec.vars.all (Tryz.prog.varReadable ·) = true := by kernel_rfl
theorem rf19 : Tryz.f8.resultTypes.all (fun t => Tryz.prog.readableRec t && decide (t < Tryz.prog.types.size)) = true := by kernel_rfl
theorem rf20 : searchNilRow.ifacesOut = Tryz.f8.resultTypes.toList.any (Tryz.prog.ifacesRec ·) := by kernel_rfl
theorem rf21 : searchNilRow.loopsOut = Tryz.f8.resultTypes.toList.any (Tryz.prog.loopsFrom ·) := by kernel_rfl
theorem rf25 : searchNilRow.kinds = kindsOf searchNilRow Tryz.prog Tryz.f8 := by kernel_rfl
theorem rf26 : searchNilRow.pinned = searchNilRow.pinnedBy := by kernel_rfl
theorem rf27 : searchNilRow.veiled = (Tryz.f8.params.toList ++ searchNilSpec.plain.varTypes Tryz.prog ++ Tryz.f8.resultTypes.toList).any (Tryz.prog.veiledRec ·) := by kernel_rfl
theorem rf28 : searchNilRow.veiledFits Tryz.prog Tryz.f8.params.toList (Tryz.f8.params.toList ++ searchNilSpec.plain.varTypes Tryz.prog ++ Tryz.f8.resultTypes.toList) = true := by kernel_rfl
theorem rf10 : searchNilRow.inPlace = Tryz.prog.inPlace 8 := inPlace8.symm
theorem rf11 : searchNilRow.unfollowed = Tryz.prog.unfollowed 8 := unfollowed8.symm
theorem rf12 : searchNilRow.recurses = Tryz.prog.recurses 8 := recurses8.symm
theorem rf13 : searchNilRow.named = Tryz.prog.varsNamed 8 := varsNamed8.symm
theorem rf6 : searchNilRow.stops = [] := rfl
theorem rf8 : searchNilRow.knobs = [] := rfl
theorem rf23 : searchNilRow.shortTexts.isNone = true := rfl
theorem searchNil_joined : joinedFacts Tryz.prog 8 Tryz.f8 searchNilSpec searchNilRow = true := by
  refine joined_mk ?_ ?_ ?_ ?_ ?_ ?_ ?_ ?_ ?_ ?_ ?_ ?_ ?_ ?_ ?_ ?_ ?_ ?_ ?_ ?_ ?_ ?_ ?_ ?_ ?_ ?_ ?_ ?_ ?_ ?_ ?_ ?_
  exact rf1
  exact pf_laidOut
  exact pf_mapsRowed
  exact rf4
  exact rf5
  exact rf6
  exact pf_stops
  exact rf8
  exact pf_stopKnobs
  exact rf10
  exact rf11
  exact rf12
  exact rf13
  exact rf14
  exact rf15
  exact rf16
  exact rf17
  exact rf17b
  exact rf18
  exact rf19
  exact rf20
  exact rf21
  exact pf_keys
  exact rf23
  exact pf_stopsHeard
  exact pf_mayEnter
  exact pf_lifted
  exact pf_make
  exact rf25
  exact rf26
  exact rf27
  exact rf28
end Go.Proofs.YtcclccakmmdegaaGreatDoor
