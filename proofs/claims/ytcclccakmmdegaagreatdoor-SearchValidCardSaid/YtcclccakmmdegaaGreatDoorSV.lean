/- Which plans are valid, by the program and by the reference: the walk of the law behind the sanity run. -/
import Derived.Test.YtcclccakmmdegaaGreatDoorRun1
import Derived.WalkKit
import Derived.WalkSpells
import Derived.Deep.RegionHeld3
set_option linter.unusedVariables false
set_option linter.unusedSimpArgs false
namespace Go.Proofs.YtcclccakmmdegaaGreatDoor
open Go.RowKit

def vB (b p l : Int) : Bool := decide (1 ≤ b) && (decide (b ≤ 1500) && (decide (0 ≤ p) && (decide (p ≤ 128) && (decide (0 ≤ l) && decide (l ≤ 40)))))

theorem ret_bool {a b : Bool} (h : a = b) : Ending.returned (.bool a) = .returned (.bool b) := by rw [h]

/-- a world that has at most grown -/
structure GG (w w' : World) : Prop where
  g : Grown w w'

theorem grown_trans {a b c : World} (h : Grown a b) (k : Grown b c) : Grown a c := by
  have hh := h
  have kk := k
  obtain ⟨h1, h2, h3⟩ := h
  obtain ⟨k1, k2, k3⟩ := k
  refine ⟨⟨k1.1.trans h1.1, k1.2.1.trans h1.2.1, fun i hi => ?_⟩, fun x => (k2 x).trans (h2 x), Nat.le_trans h3 k3⟩
  have e1 := Go.Ev.heap_grown hh (Array.getElem?_eq_getElem hi)
  have e2 := Go.Ev.heap_grown kk e1
  rw [e2, Array.getElem?_eq_getElem hi]
  cases a.heap[i] <;> simp

theorem grown_cell {w w' : World} (h : Grown w w') {x : Addr} {v : Value} (hc : w.cell? x = some v) : w'.cell? x = some v := by
  unfold World.cell? at hc ⊢
  cases hb : w.heap[x.block]? with
  | none => rw [hb] at hc; simp at hc
  | some ob => rw [hb] at hc; rw [Go.Ev.heap_grown h hb]; exact hc

set_option maxHeartbeats 1000000 in
set_option maxRecDepth 100000 in
theorem valid28 (b p l : Int) (w : World) : Calls Tryz.prog 28 #[.agg #[.int .i64 b, .int .i64 p, .int .i64 l]] w fun e w' => e = .returned (.bool (vB b p l)) ∧ GG w w' := by
  go_enter Tryz.func28, Tryz.ntmps28
  go_wp2_with fail
  all_goals
    go_ret
    refine ⟨ret_bool ?_, ⟨(Grown.refl w).alloc _ _⟩⟩
    simp only [vB]
    first
    | (simp [*]; done)
    | (simp [*]; omega)

set_option maxHeartbeats 1000000 in
set_option maxRecDepth 100000 in
theorem valid29 (b p l : Int) (w : World) : Calls Tryz.prog 29 #[.agg #[.int .i64 b, .int .i64 p, .int .i64 l]] w fun e w' => e = .returned (.bool (vB b p l)) ∧ GG w w' := by
  go_enter Tryz.func29, Tryz.ntmps29
  go_wp2_with fail
  all_goals
    go_ret
    refine ⟨ret_bool ?_, ⟨(Grown.refl w).alloc _ _⟩⟩
    simp only [vB]
    first
    | (simp [*]; done)
    | (simp [*]; omega)

theorem stepS {w a w' : World} {b p l : Value} (h : GG w a ∧ a.cell? ⟨w.heap.size, 0, none⟩ = some b ∧ a.cell? ⟨w.heap.size, 1, none⟩ = some p ∧ a.cell? ⟨w.heap.size, 2, none⟩ = some l) (hg : GG a w') :
    GG w w' ∧ w'.cell? ⟨w.heap.size, 0, none⟩ = some b ∧ w'.cell? ⟨w.heap.size, 1, none⟩ = some p ∧ w'.cell? ⟨w.heap.size, 2, none⟩ = some l :=
  ⟨⟨grown_trans h.1.g hg.g⟩, grown_cell hg.g h.2.1, grown_cell hg.g h.2.2.1, grown_cell hg.g h.2.2.2⟩

set_option maxHeartbeats 1000000 in
set_option maxRecDepth 100000 in
theorem searchValid (b p l : Int) (w : World) (hs : ∀ w1 : World, GG w w1 → Calls Tryz.prog 30 #[] w1 fun e w' => e = .returned (.bool true) ∧ GG w1 w') :
    Calls Tryz.prog 7 #[.agg #[.int .i64 b, .int .i64 p, .int .i64 l]] w fun e w' => e = .returned (.bool true) ∧ GG w w' := by
  have h28 := valid28 b p l
  have h29 := valid29 b p l
  generalize vB b p l = V at h28 h29
  go_enter Tryz.func7, Tryz.ntmps7
  go_wp2_with fail
  go_region_held3 (fun w' => GG w w' ∧ w'.cell? ⟨w.heap.size, 0, none⟩ = some (.int .i64 b) ∧ w'.cell? ⟨w.heap.size, 1, none⟩ = some (.int .i64 p) ∧ w'.cell? ⟨w.heap.size, 2, none⟩ = some (.int .i64 l))
    (first | exact stepS (by assumption) (by assumption) | (refine ⟨?_, ?_, ?_, ?_⟩ <;> first | go_keep | exact ⟨((Grown.refl w).alloc _ _).drew⟩))
    (first
      | (go_at_call 28; refine (h28 _).mono ?_; rintro e w' ⟨rfl, hg⟩)
      | (go_at_call 29; refine (h29 _).mono ?_; rintro e w' ⟨rfl, hg⟩)
      | (go_at_call 30; refine (hs _ (by assumption : GG w _ ∧ _).1).mono ?_; rintro e w' ⟨rfl, hg⟩))
  have hfin : GG w _ := (by assumption : GG w _ ∧ _).1
  go_wp2
  go_ret
  exact ⟨rfl, by assumption⟩

end Go.Proofs.YtcclccakmmdegaaGreatDoor
