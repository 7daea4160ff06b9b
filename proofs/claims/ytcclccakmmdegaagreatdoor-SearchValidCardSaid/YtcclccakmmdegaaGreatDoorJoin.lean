/- The closed facts of a row of the wide form, put together of their parts. -/
import Derived.JoinedOf
import Derived.KernelRfl
import Derived.ClosedOfChecked
set_option linter.unusedVariables false
set_option linter.unusedSimpArgs false
namespace Go.Ev

def kindsOf (c : OpenClaim) (P : Program) (fn : Func) := if c.domain.isEmpty then [] else fn.params.toList.map fun t => match P.underlying t with | some (.int k) => some k | _ => none

theorem joined_mk {P : Program} {f : FuncId} {fn : Func} {s : ChangeSpec} {c : OpenClaim}
    (k1 : c.wf (OpenSpec.ofChange s) = true) (k2 : laidOutB P = true) (k3 : mapsRowed P = true) (k4 : fn.params.all (P.readableRec ·) = true) (k5 : namedTie P c.named s.vars = true)
    (k6 : c.stops = []) (k7 : P.stops = []) (k8 : c.knobs = []) (k9 : P.stopKnobs = []) (k10 : c.inPlace = P.inPlace f) (k11 : c.unfollowed = P.unfollowed f) (k12 : c.recurses = P.recurses f) (k13 : c.named = P.varsNamed f)
    (k14 : c.maps = (fn.params.toList ++ s.plain.varTypes P).any (P.mapsRec ·)) (k15 : c.ifaces = (fn.params.toList ++ s.plain.varTypes P).any (P.ifacesRec ·)) (k16 : c.mapsOut = P.mapsAmong fn.resultTypes.toList)
    (k17 : c.loops = (fn.params.toList ++ s.plain.varTypes P).any (P.loopsFrom ·)) (k17b : c.wideKeys = (fn.params.toList ++ s.plain.varTypes P ++ fn.resultTypes.toList).any (P.wideKeysFrom ·))
    (k18 : s.vars.all (P.varReadable ·) = true) (k19 : fn.resultTypes.all (fun t => P.readableRec t && decide (t < P.types.size)) = true) (k20 : c.ifacesOut = fn.resultTypes.toList.any (P.ifacesRec ·)) (k21 : c.loopsOut = fn.resultTypes.toList.any (P.loopsFrom ·))
    (k22 : c.plainKeys = P.plainKeys) (k23 : c.shortTexts.isNone = true) (k23b : P.stopsHeard = true) (k24 : P.mayEnter = true) (k24b : c.lifted = P.liftsFinal) (k24c : P.make = some c.make)
    (k25 : c.kinds = kindsOf c P fn) (k26 : c.pinned = c.pinnedBy)
    (k27 : c.veiled = (fn.params.toList ++ s.plain.varTypes P ++ fn.resultTypes.toList).any (P.veiledRec ·)) (k28 : c.veiledFits P fn.params.toList (fn.params.toList ++ s.plain.varTypes P ++ fn.resultTypes.toList) = true) : joinedFacts P f fn s c = true := by
  simp only [joinedFacts, Bool.and_eq_true, beq_iff_eq]
  exact ⟨⟨⟨⟨⟨⟨⟨⟨⟨⟨⟨⟨⟨⟨⟨⟨⟨⟨⟨⟨⟨⟨⟨⟨⟨⟨⟨⟨⟨⟨⟨k1, k2⟩, k3⟩, k4⟩, k5⟩, k6⟩, k7⟩, k8⟩, k9⟩, k10⟩, k11⟩, k12⟩, k13⟩, k14⟩, k15⟩, k16⟩, k17⟩, k17b⟩, k18⟩, k19⟩, k20⟩, k21⟩, k22⟩, k23⟩, k23b⟩, k24⟩, k24b⟩, k24c⟩, k25⟩, k26⟩, k27⟩, k28⟩

end Go.Ev
