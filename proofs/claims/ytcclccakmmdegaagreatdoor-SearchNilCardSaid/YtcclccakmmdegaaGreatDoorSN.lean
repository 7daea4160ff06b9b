/- The methods of a nil search and of a zero one: the law's own run. -/
import Derived.Test.YtcclccakmmdegaaGreatDoorRunS2
set_option linter.unusedVariables false
set_option linter.unusedSimpArgs false
namespace Go.Proofs.YtcclccakmmdegaaGreatDoor
open Go.Ev

theorem run_nil (i : Int) : isT (topF tab 1000 (viaC 30 (chkT db32 488) (call tab 1000 50)) 8 [.int .i64 i] (startH db32 488)) = true := by kernel_rfl

theorem searchNil (i : Int) {w : World} (hw : Table db32 488 w) : Calls Tryz.prog 8 #[.int .i64 i] w fun e w' => e = .returned (.bool true) ∧ RowKit.Grown w w' :=
  true_ok' tab_ok (sane_inv (call_ok tab_ok 1000 50)) db32_closed db32_flat (run_nil i) (fun _ => .cons _ _ _ _ (.int _ _) .nil) hw

end Go.Proofs.YtcclccakmmdegaaGreatDoor
