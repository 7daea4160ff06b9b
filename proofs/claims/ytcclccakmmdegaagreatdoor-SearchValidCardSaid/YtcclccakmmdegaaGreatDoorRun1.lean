/- The evaluator's tables for this program; the runs. -/
import Derived.Test.YtcclccakmmdegaaGreatDoorRun0
import Derived.Test.YtcclccakmmdegaaGreatDoorEv3
set_option linter.unusedVariables false
set_option linter.unusedSimpArgs false
namespace Go.Proofs.YtcclccakmmdegaaGreatDoor
open Go.Ev

noncomputable def eqsL : List (Nat × List (Nat × FK)) := [(24, [(0, .s), (1, .i .i64)]), (554, [(0, .s), (1, .i .i64)])]
noncomputable def tab : Tab := mkTab trF trT eqsL

theorem names_ok : trF.all (fun x => !(x.name == "runtime.NumGoroutine")) = true := by kernel_rfl
theorem types_ok : trT.all (typeOk trT) = true := by kernel_rfl
theorem bytes_ok : trT.all (fun i => Nat.ble i.bytes 16777216) = true := by kernel_rfl

theorem eqs_ok (k : Nat) (l : List (Nat × FK)) (h : findEq k eqsL = some l) : ∃ fs : Array Field, Tryz.prog.underlying k = some (.struct fs) ∧ Tryz.prog.stoodInHeld k = false ∧ Tryz.prog.eqGuardType Tryz.prog.depth k = false ∧
      l.map (·.1) = fs.toList.map (·.offset) ∧ ∀ (i : Nat) f k, fs.toList[i]? = some f → (l[i]?).map (·.2) = some k → f.name ≠ "_" ∧ Tryz.prog.underlying f.type = some (descK k) := by
  unfold eqsL at h
  simp only [findEq] at h
  cases h1 : Nat.beq 24 k with
  | true =>
    have := Nat.eq_of_beq_eq_true h1
    subst this
    simp only [cond_true, Nat.beq_refl, Option.some.injEq] at h
    subst h
    refine ⟨_, Tryz.underlying24, Tryz.stoodInHeld24, Tryz.eqGuardType24, rfl, fun i f k h2 h3 => ?_⟩
    match i with
    | 0 => simp at h2 h3; subst h2; subst h3; exact ⟨by decide, Tryz.underlying9⟩
    | 1 => simp at h2 h3; subst h2; subst h3; exact ⟨by decide, Tryz.underlying3⟩
    | i + 2 => simp at h2
  | false =>
    rw [h1] at h
    simp only [cond_false] at h
    cases h4 : Nat.beq 554 k with
    | true =>
      have := Nat.eq_of_beq_eq_true h4
      subst this
      simp only [cond_true, Nat.beq_refl, Option.some.injEq] at h
      subst h
      refine ⟨_, Tryz.underlying554, Tryz.stoodInHeld554, Tryz.eqGuardType554, rfl, fun i f k h2 h3 => ?_⟩
      match i with
      | 0 => simp at h2 h3; subst h2; subst h3; exact ⟨by decide, Tryz.underlying9⟩
      | 1 => simp at h2 h3; subst h2; subst h3; exact ⟨by decide, Tryz.underlying3⟩
      | i + 2 => simp at h2
    | false => rw [h4] at h; simp at h

theorem tab_ok : TabOk tab Tryz.prog :=
  tabOk_of (fun k x h => by simpa using trF_ok.get k x h) (fun k x h => by simpa using trT_ok.get k x h) names_ok types_ok bytes_ok eqs_ok

/-- the table of math/bits -/
noncomputable def db32 : List Value := [0, 1, 28, 2, 29, 14, 24, 3, 30, 22, 20, 15, 25, 17, 4, 8, 31, 27, 13, 23, 21, 19, 16, 7, 26, 12, 18, 6, 11, 5, 10, 9].map fun n => Value.int .u8 (.ofNat n)

theorem db32_closed : closedL db32 = true := by kernel_rfl
theorem db32_flat : flatL db32 = true := by kernel_rfl
theorem db32_int (i : Nat) (v : Value) (h : db32[i]? = some v) : ∃ k n, v = .int k n := by
  unfold db32 at h
  rw [List.getElem?_map] at h
  obtain ⟨x, _, rfl⟩ := Option.map_eq_some_iff.1 h
  exact ⟨_, _, rfl⟩

end Go.Proofs.YtcclccakmmdegaaGreatDoor
