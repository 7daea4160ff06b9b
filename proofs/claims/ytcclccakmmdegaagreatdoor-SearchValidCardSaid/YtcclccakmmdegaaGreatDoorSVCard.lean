/- The tied card of the law SearchValid. -/
import Derived.Test.YtcclccakmmdegaaGreatDoorSVFin
import Derived.Test.YtcclccakmmdegaaGreatDoorTied
import Derived.Test.YtcclccakmmdegaaGreatDoorGoes
import Derived.Test.YtcclccakmmdegaaGreatDoorCards
import Derived.SevenTiedAt
set_option linter.unusedVariables false
set_option linter.unusedSimpArgs false
namespace Go.Proofs.YtcclccakmmdegaaGreatDoor
open Go

theorem searchValid_tied : Rows.searchValidRow.laidByTextAt .later Tryz.pinned [.data, .data, .data] true :=
  OpenClaim.laidByTextAt_later rfl rfl tied ti0
theorem sv_cf_text : Rows.searchValidRow.wfByText (OpenSpec.ofChange Rows.searchValidSpec) = true := by kernel_rfl
theorem sv_cf_main : Tryz.prog.mainIs = some (Rows.searchValidCard.stood.harness.1, Rows.searchValidCard.stood.harness.2.toList) := by kernel_rfl
theorem sv_cf_looks : true = Tryz.prog.looks [] := by kernel_rfl
theorem sv_cf_named : Tryz.prog.funcNamed Rows.searchValidRow.func = some 7 := by kernel_rfl
theorem sv_cf_goes : false = Rows.searchValidRow.goesBy Tryz.prog := Go.Ev.goesBy_of goes_none rfl sv_cf_named
theorem sv_cf_stand : Tryz.prog.wantsStandIn 61 = false := by kernel_rfl

theorem searchValid_card : Rows.SearchValidCardSaid :=
  Claim7.holds_tied_plain_at .later [] [.data, .data, .data] true Rows.searchValidCard.stood.harness true
    validLaw.said (fun _ h => by cases h) sv_cf_text (fun _ h => by cases h) searchValid_tied rfl ⟨rfl, rfl⟩ sv_cf_main rfl
    (fun f fn hf hfn => by
      obtain rfl : f = 7 := Option.some.inj (sv_cf_named.symm.trans hf) |>.symm
      obtain rfl : fn = Tryz.f7 := (Option.some.inj (Tryz.func7.symm.trans hfn)).symm
      exact ⟨sv_cf_looks, fun j t ht => by
        rw [Tryz.params7] at ht
        have h3 : t = 61 := by
          rcases j with _ | j
          · simpa using ht.symm
          · simp at ht
        subst h3
        exact sv_cf_stand⟩)
    sv_cf_goes

end Go.Proofs.YtcclccakmmdegaaGreatDoor
