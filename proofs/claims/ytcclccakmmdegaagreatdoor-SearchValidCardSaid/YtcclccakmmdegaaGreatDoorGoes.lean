/- No function of the program starts a goroutine. -/
import Derived.Test.YtcclccakmmdegaaGreatDoorRows
import GoSem.ClaimGoes
import Derived.KernelRfl
set_option linter.unusedVariables false
set_option linter.unusedSimpArgs false
namespace Go.Ev
theorem goes_of {P : Program} (h : P.funcs.toList.any Func.goes = false) (f : FuncId) : P.goes f = false := by
  have h0 := List.any_eq_false.1 h
  have h1 : ∀ g : Nat, (P.funcs[g]?).any Func.goes = false := by
    intro g
    cases hg : P.funcs[g]? with
    | none => rfl
    | some fn =>
      have : fn ∈ P.funcs.toList := Array.mem_toList_iff.2 (Array.mem_of_getElem? hg)
      have := h0 fn this
      simpa using this
  have h2 : P.funcs.any Func.goes = false := by rw [← Array.any_toList]; exact h
  unfold Program.goes
  rw [h2, Bool.and_false, Bool.or_false]
  exact List.any_eq_false.2 fun g _ => by rw [h1 g]; simp
theorem goesBy_of {P : Program} {c : OpenClaim} {f : FuncId} (h : P.funcs.toList.any Func.goes = false) (hs : c.start = .entering) (hn : P.funcNamed c.func = some f) : false = c.goesBy P := by
  unfold OpenClaim.goesBy Program.goesAt Program.goesFrom
  rw [hs, hn, Option.any_some, goes_of h]
  rfl
end Go.Ev
namespace Go.Proofs.YtcclccakmmdegaaGreatDoor
theorem goes_none : Tryz.prog.funcs.toList.any Func.goes = false := by kernel_rfl
end Go.Proofs.YtcclccakmmdegaaGreatDoor
