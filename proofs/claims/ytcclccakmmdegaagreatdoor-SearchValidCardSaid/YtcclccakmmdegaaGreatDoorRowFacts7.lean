/- The closed facts of the law SearchValid's row. -/
import Derived.Test.YtcclccakmmdegaaGreatDoorFacts
import Derived.Test.YtcclccakmmdegaaGreatDoorClo1
set_option linter.unusedVariables false
set_option linter.unusedSimpArgs false
namespace Go.Proofs.YtcclccakmmdegaaGreatDoor
open Go.Proofs.YtcclccakmmdegaaGreatDoor.Rows Go.Ev
theorem rg1 : searchValidRow.wf (OpenSpec.ofChange searchValidSpec) = true := by kernel_rfl
theorem rg4 : Tryz.f7.params.all (Tryz.prog.readableRec ·) = true := by kernel_rfl
theorem rg5 : namedTie Tryz.prog searchValidRow.named searchValidSpec.vars = true := by kernel_rfl
theorem rg14 : searchValidRow.maps = (Tryz.f7.params.toList ++ searchValidSpec.plain.varTypes Tryz.prog).any (Tryz.prog.mapsRec ·) := by kernel_rfl
theorem rg15 : searchValidRow.ifaces = (Tryz.f7.params.toList ++ searchValidSpec.plain.varTypes Tryz.prog).any (Tryz.prog.ifacesRec ·) := by kernel_rfl
theorem rg16 : searchValidRow.mapsOut = Tryz.prog.mapsAmong Tryz.f7.resultTypes.toList := by kernel_rfl
theorem rg17 : searchValidRow.loops = (Tryz.f7.params.toList ++ searchValidSpec.plain.varTypes Tryz.prog).any (Tryz.prog.loopsFrom ·) := by kernel_rfl
theorem rg17b : searchValidRow.wideKeys = (Tryz.f7.params.toList ++ searchValidSpec.plain.varTypes Tryz.prog ++ Tryz.f7.resultTypes.toList).any (Tryz.prog.wideKeysFrom ·) := by kernel_rfl
theorem rg18 : searchValidSpec.vars.all (Tryz.prog.varReadable ·) = true := by kernel_rfl
theorem rg19 : Tryz.f7.resultTypes.all (fun t => Tryz.prog.readableRec t && decide (t < Tryz.prog.types.size)) = true := by kernel_rfl
theorem rg20 : searchValidRow.ifacesOut = Tryz.f7.resultTypes.toList.any (Tryz.prog.ifacesRec ·) := by kernel_rfl
theorem rg21 : searchValidRow.loopsOut = Tryz.f7.resultTypes.toList.any (Tryz.prog.loopsFrom ·) := by kernel_rfl
theorem rg25 : searchValidRow.kinds = kindsOf searchValidRow Tryz.prog Tryz.f7 := by kernel_rfl
theorem rg26 : searchValidRow.pinned = searchValidRow.pinnedBy := by kernel_rfl
theorem rg27 : searchValidRow.veiled = (Tryz.f7.params.toList ++ searchValidSpec.plain.varTypes Tryz.prog ++ Tryz.f7.resultTypes.toList).any (Tryz.prog.veiledRec ·) := by kernel_rfl
theorem rg28 : searchValidRow.veiledFits Tryz.prog Tryz.f7.params.toList (Tryz.f7.params.toList ++ searchValidSpec.plain.varTypes Tryz.prog ++ Tryz.f7.resultTypes.toList) = true := by kernel_rfl
theorem rg10 : searchValidRow.inPlace = Tryz.prog.inPlace 7 := inPlace7.symm
theorem rg11 : searchValidRow.unfollowed = Tryz.prog.unfollowed 7 := unfollowed7.symm
theorem rg12 : searchValidRow.recurses = Tryz.prog.recurses 7 := recurses7.symm
theorem rg13 : searchValidRow.named = Tryz.prog.varsNamed 7 := varsNamed7.symm
theorem rg6 : searchValidRow.stops = [] := rfl
theorem rg8 : searchValidRow.knobs = [] := rfl
theorem rg23 : searchValidRow.shortTexts.isNone = true := rfl
theorem searchValid_joined : joinedFacts Tryz.prog 7 Tryz.f7 searchValidSpec searchValidRow = true := by
  refine joined_mk ?_ ?_ ?_ ?_ ?_ ?_ ?_ ?_ ?_ ?_ ?_ ?_ ?_ ?_ ?_ ?_ ?_ ?_ ?_ ?_ ?_ ?_ ?_ ?_ ?_ ?_ ?_ ?_ ?_ ?_ ?_ ?_
  exact rg1
  exact pf_laidOut
  exact pf_mapsRowed
  exact rg4
  exact rg5
  exact rg6
  exact pf_stops
  exact rg8
  exact pf_stopKnobs
  exact rg10
  exact rg11
  exact rg12
  exact rg13
  exact rg14
  exact rg15
  exact rg16
  exact rg17
  exact rg17b
  exact rg18
  exact rg19
  exact rg20
  exact rg21
  exact (show searchValidRow.plainKeys = Tryz.prog.plainKeys from pf_keys)
  exact rg23
  exact pf_stopsHeard
  exact pf_mayEnter
  exact (show searchValidRow.lifted = Tryz.prog.liftsFinal from pf_lifted)
  exact (show Tryz.prog.make = some searchValidRow.make from pf_make)
  exact rg25
  exact rg26
  exact rg27
  exact rg28
end Go.Proofs.YtcclccakmmdegaaGreatDoor
