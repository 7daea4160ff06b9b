/- The program's tie: its closed facts each by itself, with the number of gosem.cut.vars looked up once. -/
import Derived.Test.YtcclccakmmdegaaGreatDoorRows
import Derived.LaidByTextLater
import Derived.SevenTiedAt
set_option linter.unusedVariables false
set_option linter.unusedSimpArgs false
namespace Go.Proofs.YtcclccakmmdegaaGreatDoor
open Go
noncomputable def tiedList : List (String × DataW Unit) := [("math/bits.deBruijn32tab", Rows.laid_math_bits_deBruijn32tab), ("internal/strconv.uint64pow10", Rows.laid_internal_strconv_uint64pow10), ("math/bits.deBruijn64tab", Rows.laid_math_bits_deBruijn64tab)]
theorem ti0 : Tryz.pinned.checked.prog.headLifts.contains "ownunsafe" = false := by kernel_rfl
theorem ti1 : Tryz.prog.worded (varsWordLater true) = true := by kernel_rfl
theorem ti2 : Tryz.prog.worded (varsWordLater !true) = false := by kernel_rfl
theorem ti3 : Tryz.prog.worded rootWordLater = true := by kernel_rfl
theorem ti4 : tiedList.map (fun x => Tryz.prog.kindOfLater x.1) = [LaidKind.data, .data, .data].map some := by kernel_rfl
theorem ti5 : Tryz.prog.funcNamed "gosem.cut.vars" = some 798 := by kernel_rfl
theorem ti6 : varsNamedLaterB Tryz.prog 798 tiedList = true := by kernel_rfl
theorem ti7 (os : Os) (tape : Tape) : varsDone Tryz.prog 20 798 os tape = true := by kernel_rfl
theorem ti8 (os : Os) (tape : Tape) : (DataW.laidRun Tryz.prog (varsWorld Tryz.prog 20 798 os tape).memory 8 (tiedList.map (·.1))).map (·.1) = some tiedList := by kernel_rfl
theorem ti9 (os : Os) (tape : Tape) : (DataW.laidRun Tryz.prog (varsWorld Tryz.prog 20 798 os tape).memory 8 (tiedList.map (·.1))).map (fun x => decide x.2.Nodup && laidRowsB Tryz.prog (varsWorld Tryz.prog 20 798 os tape).memory x.2) = some true := by kernel_rfl
theorem ti10 : (tiedList.all fun x => x.2.handleName?.isNone) = true := by kernel_rfl
theorem tied : Tryz.prog.laidByTextLater tiedList [.data, .data, .data] true :=
  Program.laidByTextLater_of_run 798 20 8 ti1 ti2 ti3 ti4 ti5 ti6 ti7 ti8 ti9 ti10
theorem searchNil_tied : Rows.searchNilRow.laidByTextAt .later Tryz.pinned [.data, .data, .data] true :=
  OpenClaim.laidByTextAt_later rfl rfl tied ti0
end Go.Proofs.YtcclccakmmdegaaGreatDoor
