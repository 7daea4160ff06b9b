/- The search's sanity run, in two parts: the claim is parsed; it is proved. -/
import Derived.Test.YtcclccakmmdegaaGreatDoorRunS
set_option linter.unusedVariables false
set_option linter.unusedSimpArgs false
namespace Go.Proofs.YtcclccakmmdegaaGreatDoor
open Go.Ev

theorem run_sane : isT (topF tab 100000 (memo mS (call tab 100000 199)) 30 [] (startH db32 488)) = true := by kernel_rfl

theorem inv_sane : InvOk tab Tryz.prog (memo mS (call tab 100000 199)) := memo_ok (call_ok tab_ok 100000 199) mS_ran

/-- one fixed claim is proved by one step -/
theorem sane_ok {w : World} (hw : Table db32 488 w) : Calls Tryz.prog 30 #[] w fun e w' => e = .returned (.bool true) ∧ RowKit.Grown w w' :=
  true_ok' tab_ok inv_sane db32_closed db32_flat run_sane (fun _ => .nil) hw

theorem sane_inv {inv : Inv} (hi : InvOk tab Tryz.prog inv) : InvOk tab Tryz.prog (viaC 30 (chkT db32 488) inv) :=
  viaT_ok tab_ok hi inv_sane db32_closed db32_flat db32_int run_sane Tryz.func30 (by kernel_rfl) (by decide)

end Go.Proofs.YtcclccakmmdegaaGreatDoor
