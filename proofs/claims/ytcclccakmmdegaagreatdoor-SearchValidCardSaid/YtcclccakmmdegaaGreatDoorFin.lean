/- What the frame of a statement gives: the table that is laid; a world that has the program's shape. -/
import Derived.Test.YtcclccakmmdegaaGreatDoorRows
import Derived.Test.YtcclccakmmdegaaGreatDoorRun1
import Derived.ProofKit
import Derived.LaidMore
import Derived.OpenShut
import Derived.Stop.Joined
import Derived.Lib.LaidTab
import Derived.Deep.DeepLaidRun
set_option linter.unusedVariables false
set_option linter.unusedSimpArgs false
namespace Go.Proofs.YtcclccakmmdegaaGreatDoor
open Go.ChangeShapes Go.WideShapes Go.ChangeAt Go.RowKit Go.Ev

/-- the frame, with the world's shape handed on -/
theorem returnsShaped {H : Type} {enc : TypeId × Value → H} {a : Assume} {C : Checked} {os : Os} {f : FuncId} {fn : Func} {s : ChangeSpec} {conds : List PathCond} {apart fresh handsOn again : Bool} {X : World → Array Value → Prop}
    (hX : ∀ (w w' : World) (args : Array Value), w.heap = w'.heap → X w args → X w' args)
    (own : ownKnob C.prog.godebug = none) (started : os.Started) (noInit : C.prog.inits.idxOf? f = none) (hfn : C.prog.funcs[f]? = some fn)
    (witness : ∃ (w : World) (tape : Tape) (i : Input), w.os = os ∧ (w.forCall tape i).Shaped C.prog ∧ i.vars = [] ∧ Input.okWide C.prog (w.forCall tape i) .any w.heap.size f i ∧
      ((s.pre enc C.prog fn conds apart (w.forCall tape i).memory i.args ∧ X (w.forCall tape i).memory i.args) ∧ sizedMet enc C.prog fn (OpenSpec.ofChange s) apart (w.forCall tape i).memory i.args) ∧ a.holds C.prog (lone (Frame.enter C.prog f i.args .normal) [] (w.forCall tape i)))
    (contract : ∀ (W : World) (base : Nat) (args : Array Value) (ds gs : List (DataW H)) (before : List MemPlace),
      (∀ (j : Nat) t v, fn.params[j]? = some t → args[j]? = some v → Value.okWide C.prog W .any base t v) →
      DataW.Whole enc C.prog fn.params.toList s.vars apart W args.toList ds gs before → W.ShapedOpen C.prog → X W args →
      Calls C.prog f args W fun e W' => ∃ v, e = .returned v ∧ s.post enc C.prog fn apart fresh handsOn again W args v W') :
    ReturnsInHanded a C os f .any (fun w args => (s.pre enc C.prog fn conds apart w args ∧ X w args) ∧ sizedMet enc C.prog fn (OpenSpec.ofChange s) apart w args) (s.post enc C.prog fn apart fresh handsOn again) := by
  refine returnsInHanded_of_calls own started noInit witness ?_
  intro w tape i _ hsh _ hok hpre hholds
  obtain ⟨_, _, _, fn', hfn', _, _, _, _, hval⟩ := hok
  have e : fn' = fn := Option.some.inj (hfn'.symm.trans hfn)
  subst e
  obtain ⟨⟨⟨ds, gs, before, hw, hc⟩, hx⟩, hz⟩ := hpre
  have hw' := DataW.Whole.of_heap (w' := w.forCall tape i) (by rfl) hw
  refine (contract (w.forCall tape i) w.heap.size i.args ds gs before hval hw' hsh (hX _ _ _ (by rfl) hx)).mono fun e W' hp => ?_
  obtain ⟨v, he, hp⟩ := hp
  subst he
  exact ChangeSpec.post_blind hp

theorem own : ownKnob Tryz.prog.godebug = none := by kernel_rfl
theorem g0 : Tryz.prog.globalNamed "math/bits.deBruijn32tab" = some 0 := by kernel_rfl
theorem g0Type : (Tryz.prog.globals[0]?).map (·.type) = some 488 := by kernel_rfl
theorem begun0 : (((begin Tryz.prog (fun _ _ => 0) default).world.heap[0]?).bind Obj.row?).map (·.2) = some 488 := by kernel_rfl
theorem begun2 : ((((begin Tryz.prog (fun _ _ => 0) default).world.heap[2]?).bind Obj.row?).map (·.2)).isSome = true := by kernel_rfl

def laid3 : List (String × DataW Unit) := [("math/bits.deBruijn32tab", Rows.laid_math_bits_deBruijn32tab), ("internal/strconv.uint64pow10", Rows.laid_internal_strconv_uint64pow10), ("math/bits.deBruijn64tab", Rows.laid_math_bits_deBruijn64tab)]

def zs32 : List Int := [0, 1, 28, 2, 29, 14, 24, 3, 30, 22, 20, 15, 25, 17, 4, 8, 31, 27, 13, 23, 21, 19, 16, 7, 26, 12, 18, 6, 11, 5, 10, 9]

theorem laid_tab : (laid3 : List (String × DataW Unit)) = ("math/bits.deBruijn32tab", Lib.tabData .u8 zs32) :: laid3.tail := by kernel_rfl

theorem zs32_db32 : zs32.map (fun z => Value.int .u8 z) = db32 := by kernel_rfl

/-- what the conditions give the run -/
theorem table_of {W : World} (hs : W.ShapedOpen Tryz.prog) (hL : laidMetH Tryz.prog laid3 W) : Table db32 488 W := by
  rw [MakeChecks.laidMetH_plain _ _ _ (by kernel_rfl), laid_tab] at hL
  have hT := Lib.tabIs_of_head g0 g0Type Tryz.underlying488 Tryz.underlying5 (by kernel_rfl) (by kernel_rfl) hL
  unfold Lib.TabIs World.var? at hT
  rw [g0, Option.bind_some, zs32_db32] at hT
  obtain ⟨hs1, _⟩ := hs
  obtain ⟨⟨zero, t⟩, hz, ht⟩ := Option.map_eq_some_iff.1 begun0
  have ht : t = 488 := ht
  subst ht
  obtain ⟨cs, h1, _, _⟩ := hs1 0 zero 488 (by rw [Tryz.globals_size]; decide) hz
  rw [h1] at hT
  simp only [Option.some.injEq] at hT
  subst hT
  have hsz : 3 ≤ W.heap.size := by
    cases hr : ((begin Tryz.prog (fun _ _ => 0) default).world.heap[2]?).bind Obj.row? with
    | none => have := begun2; rw [hr] at this; cases this
    | some x =>
      obtain ⟨cs2, h2, _, _⟩ := hs1 2 x.1 x.2 (by rw [Tryz.globals_size]; decide) hr
      exact (Array.getElem?_eq_some_iff.1 h2).1
  exact ⟨_, _, h1, fun i v hv => by simpa using hv, by simp, hsz⟩

def zs10 : List Int := [1, 10, 100, 1000, 10000, 100000, 1000000, 10000000, 100000000, 1000000000, 10000000000, 100000000000, 1000000000000, 10000000000000, 100000000000000, 1000000000000000, 10000000000000000, 100000000000000000, 1000000000000000000, 10000000000000000000]
def zs64 : List Int := [0, 1, 56, 2, 57, 49, 28, 3, 61, 58, 42, 50, 38, 29, 17, 4, 62, 47, 59, 36, 45, 43, 51, 22, 53, 39, 33, 30, 24, 18, 12, 5, 63, 55, 48, 27, 60, 41, 37, 16, 46, 35, 44, 21, 52, 32, 23, 11, 54, 26, 40, 15, 34, 20, 31, 10, 25, 14, 19, 9, 13, 8, 7, 6]

/-- a world in which the variables are laid: the program's start with the three tables in their places -/
noncomputable def laidHeap : Array Obj := ⟨.cells (zs32.map fun z => Value.int .u8 z).toArray 488 (0, 0) :: .cells (zs10.map fun z => Value.int .u64 z).toArray 737 (0, 0) :: .cells (zs64.map fun z => Value.int .u8 z).toArray 739 (0, 0) ::
  (begin Tryz.prog (fun _ _ => 0) default).world.heap.toList.drop 3⟩
noncomputable def laidW (os : Os) : World := { World.holding Tryz.prog os ⟨#[], #[], []⟩ with heap := laidHeap }
noncomputable abbrev doorW (os : Os) (args : Array Value) : World := ((laidW os).forCall (fun _ _ => 0) ⟨#[], args, []⟩).memory

theorem door_shaped (os : Os) (args : Array Value) : ((laidW os).forCall (fun _ _ => 0) ⟨#[], args, []⟩).Shaped Tryz.prog := World.shaped_of_RefB (by kernel_rfl) (by kernel_rfl)
theorem door1 (os : Os) (args : Array Value) : (DataW.laidRun Tryz.prog (doorW os args) 8 ((laid3.filter fun x => x.2.handleName?.isNone).map (·.1))).map (·.1) = some (laid3.filter fun x => x.2.handleName?.isNone) := by kernel_rfl
theorem door2 (os : Os) (args : Array Value) : (DataW.laidRun Tryz.prog (doorW os args) 8 ((laid3.filter fun x => x.2.handleName?.isNone).map (·.1))).map (fun x => nodupB (x.2.map MemPlace.codeOf)) = some true := by kernel_rfl
theorem door3 (os : Os) (args : Array Value) : (DataW.laidRun Tryz.prog (doorW os args) 8 ((laid3.filter fun x => x.2.handleName?.isNone).map (·.1))).map (fun x => laidRowsB Tryz.prog (doorW os args) x.2) = some true := by kernel_rfl
theorem door_met (os : Os) (args : Array Value) : laidMetH Tryz.prog laid3 (doorW os args) :=
  laidMetH_of_parts3 (fuel := 8) (laidMet_of_run3 8 (door1 os args) (door2 os args) (door3 os args)) (by kernel_rfl) (by kernel_rfl)

end Go.Proofs.YtcclccakmmdegaaGreatDoor
