/- The tied card of the law SearchNil. -/
import Derived.Test.YtcclccakmmdegaaGreatDoorSNFin
import Derived.Test.YtcclccakmmdegaaGreatDoorTied
import Derived.Test.YtcclccakmmdegaaGreatDoorGoes
import Derived.Test.YtcclccakmmdegaaGreatDoorCards
import Derived.SevenTiedAt
set_option linter.unusedVariables false
set_option linter.unusedSimpArgs false
namespace Go.Proofs.YtcclccakmmdegaaGreatDoor
open Go

theorem sn_cf_text : Rows.searchNilRow.wfByText (OpenSpec.ofChange Rows.searchNilSpec) = true := by kernel_rfl
theorem sn_cf_main : Tryz.prog.mainIs = some (Rows.searchNilCard.stood.harness.1, Rows.searchNilCard.stood.harness.2.toList) := by kernel_rfl
theorem sn_cf_looks : true = Tryz.prog.looks [] := by kernel_rfl
theorem sn_cf_named : Tryz.prog.funcNamed Rows.searchNilRow.func = some 8 := by kernel_rfl
theorem sn_cf_goes : false = Rows.searchNilRow.goesBy Tryz.prog := Go.Ev.goesBy_of goes_none rfl sn_cf_named
theorem sn_cf_stand : Tryz.prog.wantsStandIn 3 = false := by kernel_rfl

theorem searchNil_card : Rows.SearchNilCardSaid :=
  Claim7.holds_tied_plain_at .later [] [.data, .data, .data] true Rows.searchNilCard.stood.harness true
    nilLaw.said (fun _ h => by cases h) sn_cf_text (fun _ h => by cases h) searchNil_tied rfl ⟨rfl, rfl⟩ sn_cf_main rfl
    (fun f fn hf hfn => by
      obtain rfl : f = 8 := Option.some.inj (sn_cf_named.symm.trans hf) |>.symm
      obtain rfl : fn = Tryz.f8 := (Option.some.inj (Tryz.func8.symm.trans hfn)).symm
      exact ⟨sn_cf_looks, fun j t ht => by
        rw [Tryz.params8] at ht
        have h3 : t = 3 := by
          rcases j with _ | j
          · simpa using ht.symm
          · simp at ht
        subst h3
        exact sn_cf_stand⟩)
    sn_cf_goes

end Go.Proofs.YtcclccakmmdegaaGreatDoor
