/- The closed facts that hang on the closure of a function, by a table: of any program. -/
import Derived.Test.YtcclccakmmdegaaGreatDoorEv3
import Derived.JoinedOf
import Derived.KernelRfl
set_option linter.unusedVariables false
set_option linter.unusedSimpArgs false
namespace Go.Ev
noncomputable section

def strict {α : Type} (m : Nat) (F : Nat → α) : α := Nat.rec (motive := fun _ => α) (F 0) (fun k _ => F (Nat.succ k)) m
theorem strict_eq {α : Type} (m : Nat) (F : Nat → α) : strict m F = F m := by cases m <;> rfl

def leadsOf (P : Program) (k : Nat) : List Nat := (P.funcs[k]?).elim [] P.leadsTo
def got (t : TT (List Nat)) (k : Nat) : List Nat := match t.get k with | some l => l | none => []

def hasBit (m f : Nat) : Bool := Nat.beq (Nat.land 1 (Nat.shiftRight m f)) 1

def cloT (t : TT (List Nat)) : Nat → List Nat → Nat → List Nat → Option (List Nat)
  | 0, [], _, seen => some seen.reverse
  | 0, _ :: _, _, _ => none
  | _ + 1, [], _, seen => some seen.reverse
  | n + 1, f :: todo, m, seen => cond (hasBit m f) (cloT t n todo m seen) (strict (Nat.lor m (Nat.shiftLeft 1 f)) fun m' => cloT t n (got t f ++ todo) m' (f :: seen))

theorem hasBit_eq (m f : Nat) : hasBit m f = m.testBit f := by
  unfold hasBit Nat.testBit
  show Nat.beq (1 &&& (m >>> f)) 1 = ((1 &&& (m >>> f)) != 0)
  rw [Nat.and_comm, Nat.and_one_is_mod]
  rcases Nat.mod_two_eq_zero_or_one (m >>> f) with h | h <;> rw [h] <;> rfl

theorem closure_of_cloT {P : Program} {t : TT (List Nat)} (ht : ∀ k, got t k = leadsOf P k) : ∀ (n N : Nat) (todo : List Nat) (m : Nat) (seen L : List Nat), n ≤ N → (∀ k, m.testBit k = seen.contains k) → cloT t n todo m seen = some L → P.closureVia N todo seen = L
  | 0, N, [], m, seen, L, _, _, h => by
    cases N <;> (unfold cloT at h; unfold Program.closureVia; exact Option.some.inj h)
  | 0, N, f :: todo, m, seen, L, _, _, h => by unfold cloT at h; cases h
  | n + 1, N + 1, [], m, seen, L, _, _, h => by unfold cloT at h; unfold Program.closureVia; exact Option.some.inj h
  | n + 1, 0, _, m, seen, L, hn, _, h => by omega
  | n + 1, N + 1, f :: todo, m, seen, L, hn, hm, h => by
    unfold cloT at h
    unfold Program.closureVia
    rw [hasBit_eq, hm f] at h
    cases hc : seen.contains f with
    | true =>
      rw [hc] at h
      rw [if_pos rfl]
      exact closure_of_cloT ht n N todo m seen L (by omega) hm h
    | false =>
      rw [hc] at h
      rw [if_neg (by simp)]
      rw [cond_false, strict_eq] at h
      have e : (P.funcs[f]?).elim [] P.leadsTo = got t f := (ht f).symm
      rw [e]
      refine closure_of_cloT ht n N _ _ _ L (by omega) (fun k => ?_) h
      show (m ||| (1 <<< f)).testBit k = _
      rw [Nat.testBit_or, hm k, Nat.one_shiftLeft, Nat.testBit_two_pow, List.contains_cons]
      cases hk : (k == f) with
      | true =>
        have : f = k := (beq_iff_eq.1 hk).symm
        simp [this]
      | false =>
        have : ¬ f = k := fun e => by subst e; simp at hk
        simp [this]

def eqL : List Nat → List Nat → Bool
  | [], [] => true
  | a :: l, b :: r => cond (Nat.beq a b) (eqL l r) false
  | _, _ => false
theorem eqL_eq : ∀ {a b : List Nat}, eqL a b = true → a = b
  | [], [], _ => rfl
  | a :: l, b :: r, h => by
    unfold eqL at h
    cases e : Nat.beq a b with
    | true => rw [e] at h; rw [Nat.eq_of_beq_eq_true e, eqL_eq h]
    | false => rw [e] at h; cases h
  | [], b :: r, h => by cases h
  | a :: l, [], h => by cases h

/-- the table of what each function leads to, against the functions' own tree -/
def leadsChk (P : Program) : TT Func → TT (List Nat) → Bool
  | .nil, .nil => true
  | .node l (some f) r, .node l' (some x) r' => cond (eqL (P.leadsTo f) x) (cond (leadsChk P l l') (leadsChk P r r') false) false
  | _, _ => false
theorem leadsChk_node {P : Program} {l r : TT Func} {f : Func} {l' r' : TT (List Nat)} {x : List Nat} (h : eqL (P.leadsTo f) x = true) (hl : leadsChk P l l' = true) (hr : leadsChk P r r' = true) : leadsChk P (.node l (some f) r) (.node l' (some x) r') = true := by
  unfold leadsChk
  rw [h, hl, hr]; rfl
theorem leadsChk_get {P : Program} : ∀ {t : TT Func} {u : TT (List Nat)}, leadsChk P t u = true → ∀ k, u.get k = (t.get k).map P.leadsTo
  | .nil, .nil, _, k => by rw [TT.get_nil, TT.get_nil]; rfl
  | .node l (some f) r, .node l' (some x) r', h, k => by
    unfold leadsChk at h
    cases h1 : eqL (P.leadsTo f) x with
    | false => rw [h1] at h; cases h
    | true =>
      cases h2 : leadsChk P l l' with
      | false => rw [h1, h2] at h; cases h
      | true =>
        rw [h1, h2] at h
        cases k with
        | zero => rw [TT.get_zero, TT.get_zero, ← eqL_eq h1]; rfl
        | succ k =>
          rw [TT.get_succ, TT.get_succ]
          split
          · exact leadsChk_get h2 _
          · exact leadsChk_get h _
  | .nil, .node _ _ _, h, _ => by cases h
  | .node _ none _, .nil, h, _ => by cases h
  | .node _ none _, .node _ none _, h, _ => by cases h
  | .node _ none _, .node _ (some _) _, h, _ => by cases h
  | .node _ (some _) _, .nil, h, _ => by cases h
  | .node _ (some _) _, .node _ none _, h, _ => by cases h

theorem got_of {P : Program} {t : TT Func} {u : TT (List Nat)} (h : leadsChk P t u = true) (ht : ∀ k, P.funcs[k]? = t.get k) (k : Nat) : got u k = leadsOf P k := by
  unfold got leadsOf
  rw [leadsChk_get h, ht k]
  cases t.get k <;> rfl

def lenSum (P : Program) : Nat := 1 + (P.funcs.toList.map fun g => (P.leadsTo g).length + 1).sum

/-- the sum of the lengths, by the tree -/
def sumU (u : TT (List Nat)) : Nat → Nat
  | 0 => 0
  | m + 1 => Nat.add (sumU u m) (match u.get m with | some x => Nat.add x.length 1 | none => 0)

theorem sumU_eq {P : Program} {t : TT Func} {u : TT (List Nat)} (h : leadsChk P t u = true) (ht : ∀ k, P.funcs[k]? = t.get k) : ∀ m, ((P.funcs.toList.take m).map fun g => (P.leadsTo g).length + 1).sum = sumU u m
  | 0 => rfl
  | m + 1 => by
    have ih := sumU_eq h ht m
    rw [List.take_add_one, List.map_append, List.sum_append, ih]
    have e : P.funcs.toList[m]? = t.get m := by rw [Array.getElem?_toList]; exact ht m
    have e2 : sumU u (m + 1) = sumU u m + (match u.get m with | some x => Nat.add x.length 1 | none => 0) := rfl
    rw [e, e2, leadsChk_get h m]
    cases t.get m with
    | none => rfl
    | some f => simp

theorem fuel_of {P : Program} {t : TT Func} {u : TT (List Nat)} {n N : Nat} (h : leadsChk P t u = true) (ht : ∀ k, P.funcs[k]? = t.get k) (hn : P.funcs.size = n) (hs : Nat.ble N (Nat.add 1 (sumU u n)) = true) : N ≤ lenSum P := by
  have := sumU_eq h ht n
  rw [List.take_of_length_le (by rw [Array.length_toList]; omega)] at this
  unfold lenSum
  rw [this]
  exact Nat.le_of_ble_eq_true hs

/-! ## What is read off the closure -/
def inPlaceT (t : TT Func) : List Nat → Option (List String)
  | [] => some []
  | g :: l => match t.get g with
    | none => none
    | some fn => match inPlaceT t l with
      | none => none
      | some r => cond (fn.ours || fn.body.isNone || fn.name == "runtime.NumGoroutine") (some (fn.name :: r)) (some r)

theorem inPlaceT_eq {P : Program} {t : TT Func} (ht : ∀ k, P.funcs[k]? = t.get k) : ∀ {l : List Nat} {r : List String}, inPlaceT t l = some r →
    (l.filterMap fun g => (P.funcs[g]?).bind fun fn => if fn.ours || fn.body.isNone || fn.name == "runtime.NumGoroutine" then some fn.name else none) = r
  | [], r, h => Option.some.inj h
  | g :: l, r, h => by
    unfold inPlaceT at h
    rw [List.filterMap_cons, ht g]
    cases hg : t.get g with
    | none => rw [hg] at h; cases h
    | some fn =>
      rw [hg] at h
      cases hr : inPlaceT t l with
      | none => rw [hr] at h; cases h
      | some r' =>
        rw [hr] at h
        have ih := inPlaceT_eq ht hr
        rw [Option.bind_some]
        cases hc : (fn.ours || fn.body.isNone || fn.name == "runtime.NumGoroutine") with
        | true =>
          simp only [hc, cond_true] at h
          rw [if_pos rfl]
          show fn.name :: _ = r
          rw [ih]; exact Option.some.inj h
        | false =>
          simp only [hc, cond_false] at h
          rw [if_neg (by simp)]
          show List.filterMap _ _ = r
          rw [ih]; exact Option.some.inj h

def globsT (t : TT Func) : List Nat → Option (List Nat)
  | [] => some []
  | g :: l => match t.get g with
    | none => none
    | some fn => match globsT t l with
      | none => none
      | some r => some ((fn.body.elim [] Code.globalsNamed) ++ r)

theorem globsT_eq {P : Program} {t : TT Func} (ht : ∀ k, P.funcs[k]? = t.get k) : ∀ {l : List Nat} {r : List Nat}, globsT t l = some r →
    (l.flatMap fun g => ((P.funcs[g]?).bind (·.body)).elim [] Code.globalsNamed) = r
  | [], r, h => Option.some.inj h
  | g :: l, r, h => by
    unfold globsT at h
    rw [List.flatMap_cons, ht g]
    cases hg : t.get g with
    | none => rw [hg] at h; cases h
    | some fn =>
      rw [hg] at h
      cases hr : globsT t l with
      | none => rw [hr] at h; cases h
      | some r' =>
        rw [hr] at h
        rw [globsT_eq ht hr]
        exact Option.some.inj h

def readsT (t : TT Func) : List Nat → Option (List String)
  | [] => some []
  | g :: l => match t.get g with
    | none => none
    | some fn => match readsT t l with
      | none => none
      | some r => match fn.body with
        | some _ => some r
        | none => match entryReads.lookup fn.name with
          | some x => some (x :: r)
          | none => some r

theorem readsT_eq {P : Program} {t : TT Func} (ht : ∀ k, P.funcs[k]? = t.get k) : ∀ {l : List Nat} {r : List String}, readsT t l = some r →
    (l.filterMap fun g => (P.funcs[g]?).bind fun fn => if fn.body.isNone then entryReads.lookup fn.name else none) = r
  | [], r, h => Option.some.inj h
  | g :: l, r, h => by
    unfold readsT at h
    rw [List.filterMap_cons, ht g]
    cases hg : t.get g with
    | none => rw [hg] at h; cases h
    | some fn =>
      rw [hg] at h
      cases hr : readsT t l with
      | none => rw [hr] at h; cases h
      | some r' =>
        rw [hr] at h
        have ih := readsT_eq ht hr
        rw [Option.bind_some]
        cases hb : fn.body with
        | some c =>
          simp only [hb] at h
          rw [if_neg (by simp)]
          show List.filterMap _ _ = r
          rw [ih]; exact Option.some.inj h
        | none =>
          simp only [hb] at h
          rw [if_pos (by simp)]
          cases hx : entryReads.lookup fn.name with
          | none =>
            rw [hx] at h
            show List.filterMap _ _ = r
            rw [ih]; exact Option.some.inj h
          | some x =>
            rw [hx] at h
            show x :: List.filterMap _ _ = r
            rw [ih]; exact Option.some.inj h

def hasT : List Nat → Nat → Bool
  | [], _ => false
  | a :: l, g => cond (Nat.beq a g) true (hasT l g)
theorem hasT_mem : ∀ {l : List Nat} {g : Nat}, hasT l g = true → g ∈ l
  | a :: l, g, h => by
    unfold hasT at h
    cases e : Nat.beq a g with
    | true => rw [Nat.eq_of_beq_eq_true e]; exact List.mem_cons_self
    | false => rw [e] at h; exact List.mem_cons_of_mem _ (hasT_mem h)

structure CloFacts (P : Program) (f : FuncId) (L : List Nat) : Prop where
  clo : P.closure f = L

theorem closure_of {P : Program} {f : FuncId} {t : TT (List Nat)} {L : List Nat} (n : Nat) (ht : ∀ k, got t k = leadsOf P k) (hn : n ≤ lenSum P) (h : cloT t n [f] 0 [] = some L) : P.closure f = L :=
  closure_of_cloT ht n _ [f] 0 [] L hn (fun k => by simp) h

theorem inPlace_of {P : Program} {f : FuncId} {t : TT Func} {L : List Nat} {r : List String} (hc : P.closure f = L) (ht : ∀ k, P.funcs[k]? = t.get k) (h : inPlaceT t L = some r) : P.inPlace f = r := by
  unfold Program.inPlace
  rw [hc]; exact inPlaceT_eq ht h

theorem unfollowed_of {P : Program} {f g : FuncId} {L : List Nat} {fn : Func} {c : Code} (hc : P.closure f = L) (hg : hasT L g = true) (hf : P.funcs[g]? = some fn) (hb : fn.body = some c) (hu : c.unfollowed = true) : P.unfollowed f = true := by
  unfold Program.unfollowed
  rw [hc]
  exact List.any_eq_true.2 ⟨g, hasT_mem hg, by rw [hf]; show (match fn.body with | some c => c.unfollowed | none => entryCalls fn) = true; rw [hb]; exact hu⟩

theorem recurses_of {P : Program} {f : FuncId} (h : P.unfollowed f = true) : P.recurses f = true := by
  unfold Program.recurses
  rw [h]; rfl

theorem varsNamed_of {P : Program} {f : FuncId} {t : TT Func} {L G : List Nat} {R : List String} (hc : P.closure f = L) (ht : ∀ k, P.funcs[k]? = t.get k) (hg : globsT t L = some G) (hr : readsT t L = some R) :
    P.varsNamed f = ((G.eraseDups).filterMap (fun g => (P.globals[g]?).map (·.name)) ++ R).eraseDups := by
  unfold Program.varsNamed
  rw [hc, globsT_eq ht hg, readsT_eq ht hr]

theorem get_of {P : Program} {t : TT Func} {n : Nat} (ok : TT.Ok (fun k x => P.funcs[k]? = some x) t 1 0) (hn : P.funcs.size = n) (all : ∀ k, k < n → (t.get k).isSome = true) (k : Nat) : P.funcs[k]? = t.get k := by
  cases h : t.get k with
  | some x => simpa using ok.get k x h
  | none =>
    have : ¬ k < n := fun hk => by have := all k hk; rw [h] at this; cases this
    rw [Array.getElem?_eq_none]
    omega

def allT (t : TT Func) : Nat → Bool
  | 0 => true
  | n + 1 => cond (t.get n).isSome (allT t n) false
theorem allT_get {t : TT Func} : ∀ {n : Nat}, allT t n = true → ∀ k, k < n → (t.get k).isSome = true
  | n + 1, h, k, hk => by
    unfold allT at h
    cases e : (t.get n).isSome with
    | false => rw [e] at h; cases h
    | true =>
      rw [e] at h
      rcases Nat.lt_or_eq_of_le (Nat.le_of_lt_succ hk) with h1 | h1
      · exact allT_get h k h1
      · rw [h1]; exact e
end
end Go.Ev
