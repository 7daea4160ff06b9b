/- For every input the law SearchValid returns true: which plans are valid. -/
import Derived.Test.YtcclccakmmdegaaGreatDoorFin
import Derived.Test.YtcclccakmmdegaaGreatDoorSV
import Derived.Test.YtcclccakmmdegaaGreatDoorRunS2
import Derived.Test.YtcclccakmmdegaaGreatDoorRowFacts7
import Derived.Lib.SmallJoins
set_option linter.unusedVariables false
set_option linter.unusedSimpArgs false
namespace Go.Proofs.YtcclccakmmdegaaGreatDoor.validLaw
open Go.ChangeShapes Go.WideShapes Go.ChangeAt Go.RowKit Go.Ev

theorem cells61 : Tryz.prog.cellsOf 61 = 3 := by kernel_rfl

theorem holds (b p l : Int) {w : World} (hw : Table db32 488 w) : Calls Tryz.prog 7 #[.agg #[.int .i64 b, .int .i64 p, .int .i64 l]] w fun e w' => e = .returned (.bool true) ∧ GG w w' :=
  searchValid b p l w fun w1 hg => (sane_ok (hw.grown hg.g)).mono fun e w' hp => ⟨hp.1, ⟨hp.2⟩⟩

theorem reads {H' : Type} (enc : TypeId × Value → H') (W' : World) (base : Nat) (sp : Nat → Bool) (held : Bool) (b p l : Int) (wb : (Lit.int .i64 b).wf = true) (wp : (Lit.int .i64 p).wf = true) (wl : (Lit.int .i64 l).wf = true) :
    DataW.Trod enc Tryz.prog W' base sp held 61 (.agg #[.int .i64 b, .int .i64 p, .int .i64 l]) (.agg [.lit (.int .i64 b), .lit (.int .i64 p), .lit (.int .i64 l)]) [] :=
  Joins.shut_agg3 (y0 := (.lit (.int .i64 b), [])) (y1 := (.lit (.int .i64 p), [])) (y2 := (.lit (.int .i64 l), [])) Tryz.underlying61 (by kernel_rfl) cells61 ⟨1, trod_int_mk 0 Tryz.underlying3 wb⟩ ⟨1, trod_int_mk 0 Tryz.underlying3 wp⟩ ⟨1, trod_int_mk 0 Tryz.underlying3 wl⟩

set_option maxRecDepth 100000 in
theorem lifted (os : Os) (started : os.Started) (H : Type) (enc : TypeId × Value → H) :
    ReturnsInHanded {} Tryz.checked os 7 .any (fun w args => (Rows.searchValidSpec.pre enc Tryz.prog Tryz.f7 [] false w args ∧ laidMetH Tryz.prog laid3 w) ∧ sizedMet enc Tryz.prog Tryz.f7 (OpenSpec.ofChange Rows.searchValidSpec) false w args)
      (Rows.searchValidSpec.post enc Tryz.prog Tryz.f7 false true false false) := by
  refine returnsShaped (C := Tryz.checked) (X := fun w _ => laidMetH Tryz.prog laid3 w) (fun _ _ _ hh h => h.of_heap hh) own started (by kernel_rfl) Tryz.func7
    (ChangeSpec.witness_shaped (enc := enc) (C := Tryz.checked) (os := os) (X := fun w _ => laidMetH Tryz.prog laid3 w) false (laidW os) #[.agg #[.int .i64 0, .int .i64 0, .int .i64 0]] 8 rfl (door_shaped os _) (by kernel_rfl) (by kernel_rfl) (by kernel_rfl) (door_met os _)) ?_
  intro W base args ds gs before hval0 hW hS hL
  have hval : ∀ (j : Nat) t v, Tryz.f7.params[j]? = some t → args[j]? = some v → Value.okWide Tryz.prog W .any base t v := hval0
  have hW' := hW
  obtain ⟨p, q, hA0, hV, rfl, hfz, hnd⟩ := hW
  have hA : DataW.TrodAll enc Tryz.prog W 0 (fun _ => true) true Tryz.f7.params.toList args.toList ds p := hA0
  rw [Tryz.params7] at hA hval
  obtain ⟨v0, d0, rfl, rfl, h0⟩ := trodAll_one hA
  obtain ⟨rfl, rfl⟩ := trodVars_none hV
  obtain ⟨c0, c1, c2, y0, y1, y2, m, rfl, rfl, rfl, hy0, hy1, hy2⟩ := Joins.open_agg3 Tryz.underlying61 (by kernel_rfl) cells61 (hval 0 61 v0 rfl rfl) h0
  obtain ⟨x, e0, rfl, wx⟩ := DataW.trod_int Tryz.underlying3 hy0
  obtain ⟨y, e1, rfl, wy⟩ := DataW.trod_int Tryz.underlying3 hy1
  obtain ⟨z, e2, rfl, wz⟩ := DataW.trod_int Tryz.underlying3 hy2
  simp at e0 e1 e2
  subst e0 e1 e2
  clear hA0 hval0
  simp only [List.append_nil] at hW'
  refine (holds x y z (table_of hS hL)).mono fun e W' hp => ?_
  obtain ⟨he, hg⟩ := hp
  subst he
  exact ⟨_, rfl, post_of_same (pa := []) (pv := []) hW' (fun _ _ _ => trodAll_mk1 (shut_bool Tryz.underlying4 _)) (fun sp _ => trodAll_mk1 (reads enc _ _ _ _ x y z wx wy wz)) (fun _ _ => rfl) rfl (hg.g.frame _) hg.g.2.1 (ok_one (by kernel_rfl) rfl (okWide_bool_mk Tryz.underlying4 _))⟩

theorem said : Rows.SearchValidSaid :=
  OpenClaim.holds_of_wide 7 Tryz.f7 rfl rfl rfl rfl rfl rfl rfl ⟨rfl, rfl, rfl, rfl, rfl⟩ rfl rfl rfl rfl rfl (by kernel_rfl) Tryz.func7 searchValid_joined
    (of_decide_eq_true (by kernel_rfl)) (by unfold Func.isWrapper; first | (rw [if_pos (by decide +kernel)]; kernel_rfl) | (rw [if_neg (by decide +kernel)]; exact ⟨rfl, rfl⟩))
    (fun os started H enc _ => lifted os started H enc)

end Go.Proofs.YtcclccakmmdegaaGreatDoor.validLaw
