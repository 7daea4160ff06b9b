/- The evaluator of closed runs and its proof, part 2 of 3: what the evaluator answers about the model's code holds of the machine in every world. -/
import Derived.Test.YtcclccakmmdegaaGreatDoorEv1
import Derived.Laws.MakeOwn
import Derived.Deep.AppendSrc
import Derived.MapKept
import Derived.Orders
import Derived.AtR
import Derived.Recover

set_option linter.unusedVariables false
set_option linter.unusedSimpArgs false

/- Operations that make one block. -/
namespace Go.Ev

theorem rep_length (n : Nat) (z : List Value) : (rep n z).length = n * z.length := by
  induction n with
  | zero => simp [rep]
  | succ n ih => simp [rep, ih, Nat.add_mul]; omega

theorem rep_get (n : Nat) (z : List Value) (i : Nat) (hi : i < n * z.length) : (rep n z)[i]? = z[i % z.length]? := by
  induction n generalizing i with
  | zero => simp at hi
  | succ n ih =>
    simp only [rep]
    by_cases h : i < z.length
    · rw [List.getElem?_append_left h, Nat.mod_eq_of_lt h]
    · rw [List.getElem?_append_right (by omega), ih _ (by rw [Nat.add_mul] at hi; omega)]
      congr 1
      conv => rhs; rw [show i = (i - z.length) + z.length by omega]
      rw [Nat.add_mod_right]

theorem flatL_rep {z : List Value} (hz : flatL z = true) (n : Nat) : flatL (rep n z) = true := by
  rw [flatL_mem] at hz ⊢
  induction n with
  | zero => simp [rep]
  | succ n ih =>
    intro v hv
    simp only [rep, List.mem_append] at hv
    rcases hv with hv | hv
    · exact hz v hv
    · exact ih v hv

section
variable {T : Tab} {P : Program} {ι : Inj} {h : H} {w : World} {tm : Tm} {a : Act}

theorem rep_R {z : List Value} {z' : Array Value} (hz : VRs T ι z z'.toList) (n : Nat) : VRs T ι (rep n z) ((Array.range (n * z'.size)).map (z'[· % z'.size]!)).toList := by
  have hl : z.length = z'.size := hz.length.trans (Array.length_toList (xs := z'))
  refine VRs.of_get (by rw [rep_length]; simp [hl]) fun i v v' h1 h2 => ?_
  have hi : i < n * z.length := by have := (List.getElem?_eq_some_iff.1 h1).1; rwa [rep_length] at this
  rw [rep_get _ _ _ hi] at h1
  obtain ⟨u, e1, e2⟩ := hz.get h1
  have hpos : 0 < z'.size := by rw [← hl]; rcases Nat.eq_zero_or_pos z.length with h0 | h0; rw [h0] at hi; simp at hi; exact h0
  have hm : i % z'.size < z'.size := Nat.mod_lt _ hpos
  have hi' : i < n * z'.size := by rw [← hl]; exact hi
  have e3 : v' = z'[i % z'.size]! := by
    simp [hi'] at h2
    exact h2.symm
  rw [e3]
  have e4 : z'[i % z'.size]! = u := by
    rw [hl] at e1
    rw [getElem!_pos z' _ hm]
    have : z'.toList[i % z'.size]? = some z'[i % z'.size] := by simp [hm]
    rw [this] at e1
    exact Option.some.inj e1
  rw [e4]
  exact e2

theorem fillL_flat {ps : List (Operand × Nat × Nat)} {cells l : List Value} (hl : fillL ps cells tm = some l) : l.length = cells.length := by
  induction ps generalizing cells with
  | nil => simp only [fillL, Option.some.injEq] at hl; rw [hl]
  | cons p ps ih =>
    obtain ⟨x, off, size⟩ := p
    simp only [fillL] at hl
    obtain ⟨vs, hvs, hl⟩ := Option.bind_eq_some_iff.1 hl
    cases hsz : Nat.beq vs.length size with
    | false => rw [hsz] at hl; simp at hl
    | true =>
      rw [hsz, cond_true] at hl
      obtain ⟨cs, hcs, hl⟩ := Option.bind_eq_some_iff.1 hl
      obtain ⟨h1, h2⟩ := splice_eq _ _ _ _ hcs
      rw [ih hl, h2]
      simp; omega

/-- what a block of fresh cells is -/
theorem freshCells {cs : List Value} {c : Array Value} {el : TypeId} (hc : VRs T ι cs c.toList) (hf : flatL cs = true) {n b : Nat} (hn : ι n = none) (own : Bool) :
    ObjR T (ι.ins n ⟨b, 0, c.size, el⟩) (.cells cs el own) (.cells c el) ⟨b, 0, c.size, el⟩ := by
  have hlen : cs.length = c.size := hc.length.trans (Array.length_toList (xs := c))
  refine .cells cs c own (0, 0) ⟨b, 0, c.size, el⟩ rfl hf (by simp [hlen]) ?_ (fun _ => rfl)
  intro i v hv
  obtain ⟨v', h1, h2⟩ := hc.get hv
  exact ⟨v', by simpa using h1, h2.mono (Inj.le_ins _ _ hn)⟩

theorem elemZero_R (hT : TabOk T P) {el : Nat} {z : List Value} (hz : elemZero T el = some z) : ∃ zv, zeroV T el = some zv ∧ z = zv.cells.toList ∧ flatL z = true ∧ VRs T ι z zv.cells.toList ∧ z.length = T.size el ∧ 0 < T.size el := by
  obtain ⟨z', h1, h2⟩ := Option.bind_eq_some_iff.1 hz
  cases hb : Nat.beq z'.length (T.size el) with
  | false => rw [hb] at h2; simp at h2
  | true =>
    rw [hb, cond_true] at h2
    cases hb2 : Nat.blt 0 (T.size el) with
    | false => rw [hb2] at h2; simp at h2
    | true =>
      rw [hb2] at h2
      simp only [cond_true, Option.some.injEq] at h2
      subst h2
      obtain ⟨zv, e1, e2, e3, e4⟩ := zeroCells_R (P := P) (ι := ι) hT h1
      exact ⟨zv, e1, e2, e3, e4, Nat.eq_of_beq_eq_true hb, blt_lt hb2⟩

theorem unk_big {n : Nat} (h : n ≤ 16777216) : n < unk := by unfold unk; omega

theorem mkSlice_owned {el : TypeId} {z : List Value} {l c : Value} {ob : AObj} {g : Nat → Value} (h : mkSlice el z l c = some (ob, g)) : ob.owned = true := by
  unfold mkSlice at h
  split at h
  · split at h
    · simp only [fN_eq, Bool.cond_eq_ite] at h
      split at h
      · split at h
        · simp only [Option.some.injEq, Prod.mk.injEq] at h
          rw [← h.1]; rfl
        · cases h
      · cases h
    · cases h
  · cases h

theorem made_owned {op : Op} {tm : Tm} {f : Tm → Option (AObj × (Nat → Value))} (hf : madeF T op = some f) {ob : AObj} {g : Nat → Value} (hv : f tm = some (ob, g)) : ob.owned = true := by
  cases op <;> simp only [madeF, reduceCtorEq] at hf
  case alloc t =>
    obtain ⟨z, _, rfl⟩ := Option.map_eq_some_iff.1 hf
    cases hv; rfl
  case box t x =>
    simp only [Option.some.injEq] at hf
    subst hf
    unfold boxV at hv
    obtain ⟨l, _, hv⟩ := Option.bind_eq_some_iff.1 hv
    cases hfl : flatL l with
    | false => rw [hfl] at hv; cases hv
    | true => rw [hfl] at hv; cases hv; rfl
  case buildSlice t len parts =>
    split at hf
    · cases h1 : Nat.ble (Nat.mul len (T.size _)) 16777216 with
      | false => rw [h1] at hf; cases hf
      | true =>
        rw [h1, cond_true] at hf
        cases h2 : Nat.ble len 16777216 with
        | false => rw [h2] at hf; cases hf
        | true =>
          rw [h2, cond_true] at hf
          obtain ⟨z, _, rfl⟩ := Option.map_eq_some_iff.1 hf
          obtain ⟨l, _, hv⟩ := Option.bind_eq_some_iff.1 hv
          cases hfl : flatL l with
          | false => rw [hfl] at hv; cases hv
          | true => rw [hfl] at hv; cases hv; rfl
    · cases hf
  case makeSlice t l c =>
    split at hf
    · cases h1 : Nat.ble (T.size _) 1000 with
      | false => rw [h1] at hf; cases hf
      | true =>
        rw [h1, cond_true] at hf
        obtain ⟨z, _, rfl⟩ := Option.map_eq_some_iff.1 hf
        exact mkSlice_owned hv
    · cases hf
  case makeMap t r =>
    cases r with
    | some r => simp at hf
    | none =>
      simp only [Option.some.injEq] at hf
      subst hf
      cases hv; rfl

/-- A block is made: what it is, wherever the evaluator puts it. -/
theorem made_ok (hT : TabOk T P) (hw : WR T ι h w) (ht : TmR T ι tm a.tmps) {o : Oper} {f : Tm → Option (AObj × (Nat → Value))} (hf : madeF T o.op = some f) {ob : AObj} {g : Nat → Value}
    (hv : f tm = some (ob, g)) :
    ∃ (obj : Obj) (m : Im) (v' : Value), (execOp a.eval o).run P w = .ok (.value v') (w.alloc obj) ∧ m.blk = w.heap.size ∧ ∀ n, ι n = none → ObjR T (ι.ins n m) ob obj m ∧ VR T (ι.ins n m) (g n) v' := by
  obtain ⟨dst, op, type, pos, after, guard⟩ := o
  have ptrR : ∀ (m : Im) (n : Nat), m.off = 0 → VR T (ι.ins n m) (.pointer (some ⟨n, 0, none⟩)) (.pointer (some ⟨m.blk, 0, none⟩)) := by
    intro m n h0
    have := VR.ptr (T := T) (ι := ι.ins n m) n 0 m (Inj.ins_eq _ _ _)
    rw [h0] at this
    exact this
  have slR : ∀ (m : Im) (n l c : Nat), m.off = 0 → c < unk → l ≤ c → VR T (ι.ins n m) (.slice (some ⟨n, 0, none⟩) l c) (.slice (some ⟨m.blk, 0, none⟩) l c) := by
    intro m n l c h0 hc hl
    have := VR.slice (T := T) (ι := ι.ins n m) n 0 l c m (Inj.ins_eq _ _ _) hc hl
    rw [h0] at this
    exact this
  cases op <;> simp only [madeF, reduceCtorEq] at hf
  case alloc t =>
    obtain ⟨z, hz, rfl⟩ := Option.map_eq_some_iff.1 hf
    simp only [Option.some.injEq, Prod.mk.injEq] at hv
    obtain ⟨rfl, rfl⟩ := hv
    obtain ⟨zv, h1, rfl, h3, h4⟩ := zeroCells_R (P := P) (ι := ι) hT hz
    obtain ⟨e1, _, _⟩ := zeroV_R (P := P) (w := w) (ι := ι) hT h1
    refine ⟨.cells zv.cells t, ⟨w.heap.size, 0, zv.cells.size, t⟩, .pointer (some ⟨w.heap.size, 0, none⟩), ?_, rfl, fun n hn => ⟨freshCells h4 h3 hn true, ptrR _ n rfl⟩⟩
    simp only [execOp, Instr.alloc, Sem.run_bind, e1, Result.andThen_ok, newVar, newRow, run_newObj, Sem.run_pure]
    rfl
  case box t x =>
    simp only [Option.some.injEq] at hf
    subst hf
    simp only [boxV] at hv
    obtain ⟨l, hl, hv⟩ := Option.bind_eq_some_iff.1 hv
    cases hfl : flatL l with
    | false => rw [hfl] at hv; simp at hv
    | true =>
      rw [hfl] at hv
      simp only [cond_true, Option.some.injEq, Prod.mk.injEq] at hv
      obtain ⟨rfl, rfl⟩ := hv
      have hcs := cellsV_R (ev_R hw ht x) hl
      refine ⟨.cells (a.eval x).cells t, ⟨w.heap.size, 0, (a.eval x).cells.size, t⟩, .pointer (some ⟨w.heap.size, 0, none⟩), ?_, rfl, fun n hn => ⟨freshCells hcs hfl hn true, ptrR _ n rfl⟩⟩
      simp only [execOp, Instr.box, Sem.run_bind, Result.andThen_ok, newVar, newRow, run_newObj, Sem.run_pure]
      rfl
  case buildSlice t len parts =>
    cases hd : T.desc t with
    | none => simp [hd] at hf
    | some d =>
      have hu := hT.desc _ _ hd
      cases d <;> simp only [hd, reduceCtorEq] at hf
      rename_i el
      cases hb : Nat.ble (Nat.mul len (T.size el)) 16777216 with
      | false => rw [hb] at hf; simp at hf
      | true =>
        cases hb2 : Nat.ble len 16777216 with
        | false => rw [hb, hb2] at hf; simp at hf
        | true =>
          rw [hb, hb2] at hf
          simp only [cond_true] at hf
          obtain ⟨z, hz, rfl⟩ := Option.map_eq_some_iff.1 hf
          obtain ⟨l, hl, hv⟩ := Option.bind_eq_some_iff.1 hv
          cases hfl : flatL l with
          | false => rw [hfl] at hv; simp at hv
          | true =>
          rw [hfl] at hv
          simp only [cond_true, Option.some.injEq, Prod.mk.injEq] at hv
          obtain ⟨rfl, rfl⟩ := hv
          obtain ⟨zv, h1, rfl, h3, h4, h5, h6⟩ := elemZero_R (P := P) (ι := ι) hT hz
          obtain ⟨e1, _, _⟩ := zeroV_R (P := P) (w := w) (ι := ι) hT h1
          have hzs : zv.cells.size = T.size el := by rw [← h5]; exact (Array.length_toList (xs := zv.cells)).symm
          obtain ⟨l', f1, f2, f3⟩ := fillL_R hw ht (arrayParts_R (a := a) (T.size el) parts.toList) (rep_R h4 len) hl
          have hle := Nat.le_of_ble_eq_true hb
          have hle2 := Nat.le_of_ble_eq_true hb2
          rw [Nat.mul_eq] at hle
          have hparts : (parts.map fun (i, x) => (i, a.eval x)).toList = parts.toList.map fun (i, x) => (i, a.eval x) := by simp
          refine ⟨.cells l' el, ⟨w.heap.size, 0, l'.size, el⟩, .slice (some ⟨w.heap.size, 0, none⟩) len len, ?_, rfl, fun n hn => ⟨freshCells f2 hfl hn true, slR _ n len len rfl (unk_big hle2) (Nat.le_refl _)⟩⟩
          have hfill : ∀ (c0 : Array Value), c0 = (Array.range (len * zv.cells.size)).map (zv.cells[· % zv.cells.size]!) →
              ((match Instr.fill (fun i => some (i * T.size el, T.size el)) c0 (parts.map fun (i, x) => (i, a.eval x)).toList with
                | some cells => do pure (.slice (some (← newRow el cells)) len len)
                | _ => stuck "buildSlice: a part of the wrong size" : Sem Value)).run P w = .ok (.slice (some ⟨w.heap.size, 0, none⟩) len len) (w.alloc (.cells l' el)) := by
            intro c0 h0
            subst h0
            rw [hparts, f1]
            simp only [Sem.run_bind, newRow, run_newObj, Result.andThen_ok, Sem.run_pure]
            rfl
          simp only [execOp, Instr.buildSlice, Sem.run_bind, run_underlying hu, Result.andThen_ok, sizeOf_R (hT.sizeS _ _ hd)]
          rw [if_neg (by omega)]
          by_cases h0 : len * T.size el = 0
          · simp only [h0, if_true, Sem.run_bind, Sem.run_pure, Result.andThen_ok]
            refine (congrArg (·.andThen fun a w' => Result.ok (Next.value a) w') (hfill _ ?_)).trans rfl
            rw [hzs, h0]; simp
          · simp only [h0, if_false, Sem.run_bind, e1, Sem.run_pure, Result.andThen_ok]
            refine (congrArg (·.andThen fun a w' => Result.ok (Next.value a) w') (hfill _ ?_)).trans rfl
            rw [hzs]
  case makeSlice t lo co =>
    cases hd : T.desc t with
    | none => simp [hd] at hf
    | some d =>
      have hu := hT.desc _ _ hd
      cases d <;> simp only [hd, reduceCtorEq] at hf
      rename_i el
      cases hb : Nat.ble (T.size el) 1000 with
      | false => rw [hb] at hf; simp at hf
      | true =>
        rw [hb] at hf
        simp only [cond_true] at hf
        obtain ⟨z, hz, rfl⟩ := Option.map_eq_some_iff.1 hf
        obtain ⟨zv, h1, rfl, h3, h4, h5, h6⟩ := elemZero_R (P := P) (ι := ι) hT hz
        obtain ⟨e1, _, i, hi1, hi2⟩ := zeroV_R (P := P) (w := w) (ι := ι) hT h1
        have hzs : zv.cells.size = T.size el := by rw [← h5]; exact (Array.length_toList (xs := zv.cells)).symm
        dsimp only at hv
        have hl := ev_R hw ht lo
        have hc := ev_R hw ht co
        generalize hel : ev lo tm = elo at hv hl
        generalize hal : a.eval lo = alo at hl
        generalize hec : ev co tm = eco at hv hc
        generalize hac : a.eval co = aco at hc
        cases hl <;> simp only [mkSlice, reduceCtorEq] at hv
        rename_i k1 n1
        cases n1 with
        | negSucc n1 => simp at hv
        | ofNat n1 =>
          cases hc
          all_goals try (simp at hv; done)
          rename_i k2 n2
          cases n2 with
          | negSucc n2 => simp at hv
          | ofNat n2 =>
            simp only [fN_eq] at hv
            cases hb1 : Nat.ble n1 n2 with
            | false => rw [hb1] at hv; simp at hv
            | true =>
              cases hb2 : Nat.ble n2 1048576 with
              | false => rw [hb1, hb2] at hv; simp at hv
              | true =>
                rw [hb1, hb2] at hv
                simp only [cond_true, Option.some.injEq, Prod.mk.injEq] at hv
                obtain ⟨rfl, rfl⟩ := hv
                have hle1 := Nat.le_of_ble_eq_true hb1
                have hle2 := Nat.le_of_ble_eq_true hb2
                have hcs := rep_R h4 n2
                rw [hzs] at hcs
                refine ⟨.cells ((Array.range (n2 * T.size el)).map (zv.cells[· % zv.cells.size]!)) el, ⟨w.heap.size, 0, _, el⟩, .slice (some ⟨w.heap.size, 0, none⟩) n1 n2, ?_, rfl,
                  fun n hn => ⟨freshCells (by rw [hzs]; exact hcs) (flatL_rep h3 _) hn true, slR _ n n1 n2 rfl (unk_big (by omega)) hle1⟩⟩
                obtain ⟨i', hi1', hi2'⟩ := hT.sizeS _ _ hd
                have hii : i' = i := by rw [hi1] at hi1'; cases hi1'; rfl
                subst hii
                have hbytes := hT.bytes _ _ _ hd hi1
                have hmul : i'.bytes * n2 ≤ 16777216 * 1048576 := Nat.mul_le_mul hbytes hle2
                have := run_make (P := P) w t el i' zv hu hi1 hi2 k1 k2 (n1 : Int) (n2 : Int) (Int.natCast_nonneg _) (by omega) (by rw [← Int.natCast_mul]; omega) (by omega)
                simp only [Int.toNat_natCast, hi2'] at this
                simp only [execOp, hal, hac, Sem.run_bind]
                show ((Instr.makeSlice t (.int k1 (n1 : Int)) (.int k2 (n2 : Int))).run P w).andThen _ = _
                rw [this]
                rfl
  case makeMap t r =>
    cases r with
    | some r => simp at hf
    | none =>
      simp only [Option.some.injEq] at hf
      subst hf
      simp only [Option.some.injEq, Prod.mk.injEq] at hv
      obtain ⟨rfl, rfl⟩ := hv
      refine ⟨.map #[] 0, ⟨w.heap.size, 0, 0, 0⟩, .map (some w.heap.size), ?_, rfl, fun n hn => ⟨.map [] #[] 0 _ .nil, .map n ⟨w.heap.size, 0, 0, 0⟩ (Inj.ins_eq _ _ _)⟩⟩
      simp only [execOp, Instr.makeMap, Option.map_none, Sem.run_bind, run_newObj, Result.andThen_ok, Sem.run_pure]
      rfl

end
end Go.Ev

/- Operations that write memory. -/
namespace Go.Ev

section
variable {T : Tab} {P : Program} {ι : Inj} {h : H} {w : World} {tm : Tm} {a : Act}

theorem flat_oneCell {v : Value} (hv : flat v = true) : v.oneCell' = true := by cases v <;> simp_all [flat, Value.oneCell']

theorem flatL_VRs {l l' : List Value} (hl : VRs T ι l l') (hf : flatL l = true) : ∀ v ∈ l', v.oneCell' = true := by
  intro v hv
  obtain ⟨i, hi⟩ := List.getElem?_of_mem hv
  have hil : i < l.length := by have := (List.getElem?_eq_some_iff.1 hi).1; rw [hl.length]; exact this
  obtain ⟨v', h1, h2⟩ := hl.get (List.getElem?_eq_getElem hil)
  rw [hi] at h1; cases h1
  exact flat_oneCell (flat_VR h2 (flatL_mem.1 hf _ (List.getElem_mem hil)))

/-- cells are written -/
theorem storeCells_R (hw : WR T ι h w) {b o : Nat} {vs : List Value} {h' : H} (hs : storeCells h ⟨b, o, none⟩ vs = some h') {m : Im} (hm : ι b = some m) {vs' : List Value} (hv : VRs T ι vs vs') :
    ∃ w', (Go.storeCells ⟨m.blk, m.off + o, none⟩ vs').run P w = .ok () w' ∧ WR T ι h' w' ∧ Keep ι h w ι h' w' := by
  have hs' : (match h.get b with | some (AObj.cells cs e true) => cond (flatL vs) ((splice vs cs o).map fun cs' => h.put b (some (.cells cs' e true))) none | _ => none) = some h' := hs
  cases hg : h.get b with
  | none => simp [hg] at hs'
  | some ob =>
    rw [hg] at hs'
    cases ob with
    | cells cs e own =>
      cases own with
      | false => simp at hs'
      | true =>
        simp only at hs'
        cases hf : flatL vs with
        | false => rw [hf] at hs'; simp at hs'
        | true =>
          rw [hf, cond_true] at hs'
          obtain ⟨cs', hcs', rfl⟩ := Option.map_eq_some_iff.1 hs'
          obtain ⟨h1, h2⟩ := splice_eq _ _ _ _ hcs'
          obtain ⟨obj, e1, e2⟩ := hw.live _ _ _ hg hm
          cases e2 with
          | cells _ c _ fz _ hcap hflat hlen hc hown =>
            have hfz := hown rfl
            subst hfz
            have hvl := hv.length
            have hrun := run_storeCells_at P m.blk (m.off + o) m.el vs' 0 c w e1 (by omega) (flatL_VRs hv hf)
            simp only [Nat.add_zero] at hrun
            refine ⟨_, hrun, ?_, ?_⟩
            · refine hw.write hg rfl hm (by simp) (fun k hk => setRow_other w _ k _ hk) (setRow_heap w _ _ _ _ _ e1) ?_
              have hcl : c.toList.length = c.size := Array.length_toList
              refine .cells cs' _ true (0, 0) m ?_ ?_ ?_ ?_ (fun _ => rfl)
              · rw [← hcap]; simp; omega
              · rw [flatL_mem] at hflat hf ⊢
                intro v hv'
                rw [h2] at hv'
                simp only [List.mem_append] at hv'
                rcases hv' with (hv' | hv') | hv'
                · exact hflat v (List.mem_of_mem_take hv')
                · exact hf v hv'
                · exact hflat v (List.mem_of_mem_drop hv')
              · rw [h2]; simp; omega
              · intro i v hiv
                subst h2
                have hil : i < cs.length := by have := (List.getElem?_eq_some_iff.1 hiv).1; simp at this; omega
                simp only [List.getElem?_toArray]
                by_cases hi1 : i < o
                · rw [List.append_assoc, List.getElem?_append_left (by simp; omega), List.getElem?_take_of_lt hi1] at hiv
                  obtain ⟨v', f1, f2⟩ := hc i v hiv
                  refine ⟨v', ?_, f2⟩
                  rw [List.append_assoc, List.getElem?_append_left (by simp; omega), List.getElem?_take_of_lt (by omega)]
                  simpa using f1
                · by_cases hi2 : i < o + vs.length
                  · rw [List.append_assoc, List.getElem?_append_right (by simp; omega), List.getElem?_append_left (by simp; omega)] at hiv
                    have e3 : i - (cs.take o).length = i - o := by simp; omega
                    rw [e3] at hiv
                    obtain ⟨v', f1, f2⟩ := hv.get hiv
                    refine ⟨v', ?_, f2⟩
                    rw [List.append_assoc, List.getElem?_append_right (by simp; omega), List.getElem?_append_left (by simp; omega)]
                    have e4 : m.off + i - (c.toList.take (m.off + o)).length = i - o := by simp; omega
                    rw [e4]; exact f1
                  · rw [List.getElem?_append_right (by simp; omega)] at hiv
                    rw [List.getElem?_drop] at hiv
                    have e3 : o + vs.length + (i - (cs.take o ++ vs).length) = i := by simp; omega
                    rw [e3] at hiv
                    obtain ⟨v', f1, f2⟩ := hc i v hiv
                    refine ⟨v', ?_, f2⟩
                    rw [List.getElem?_append_right (by simp; omega), List.getElem?_drop]
                    have e4 : m.off + o + vs'.length + (m.off + i - (c.toList.take (m.off + o) ++ vs').length) = m.off + i := by simp; omega
                    rw [e4]
                    simpa using f1
            · exact Keep.write hw hg rfl hm (by simp) (fun k hk => setRow_other w _ k _ hk) rfl rfl rfl (fun ob hob c' t' fz' he => by rw [setRow_heap w _ _ _ _ _ e1] at hob; cases hob; cases he; first | rfl | exact hown rfl)
    | _ => simp at hs'

theorem storeV_R (hT : TabOk T P) (hw : WR T ι h w) {t : Nat} (hd : ∃ d, T.desc t = some d) {p v p' v' : Value} (hp : VR T ι p p') (hv : VR T ι v v') {h' : H} (hs : storeV (T.size t) h p v = some h') :
    ∃ w', (Instr.storeAt t p' v').run P w = .ok () w' ∧ WR T ι h' w' ∧ Keep ι h w ι h' w' := by
  obtain ⟨d, hd⟩ := hd
  cases hp <;> simp only [storeV, reduceCtorEq] at hs
  rename_i b o m hm
  obtain ⟨l, hl, hs⟩ := Option.bind_eq_some_iff.1 hs
  cases hb : Nat.beq l.length (T.size t) with
  | false => rw [hb] at hs; simp at hs
  | true =>
    rw [hb, cond_true] at hs
    have hvs := cellsV_R hv hl
    obtain ⟨w', h1, h2, h3⟩ := storeCells_R (P := P) hw hs hm hvs
    refine ⟨w', ?_, h2, h3⟩
    have hsz : v'.cells.size = T.size t := by
      rw [← Nat.eq_of_beq_eq_true hb, hvs.length]; exact (Array.length_toList (xs := v'.cells)).symm
    simp only [Instr.storeAt, Instr.sureAddr, storeVar, Sem.run_bind, Sem.run_pure, Result.andThen_ok, sizeOf_R (hT.size _ _ hd), hsz, ne_eq, not_true_eq_false, if_false, h1]

end
end Go.Ev

/- append and copy. -/
namespace Go.Ev

section
variable {T : Tab} {P : Program} {ι : Inj} {h : H} {w : World} {tm : Tm} {a : Act}

theorem lenOf_R {v v' : Value} (hv : VR T ι v v') {n : Nat} (hn : lenOf v = some n) : (Builtin.lenOf v').run P w = .ok n w := by
  cases hv <;> simp only [lenOf, reduceCtorEq] at hn
  case string s =>
    obtain ⟨⟨s⟩⟩ := s
    simp only [Option.some.injEq] at hn
    subst hn
    rfl
  all_goals
    simp only [Option.some.injEq] at hn
    subst hn
    rfl

theorem run_loadCells_zero (ad : Addr) : (Go.loadCells ad 0).run P w = .ok #[] w := by simpa using run_loadCells_list (P := P) w ad [] (by simp)

theorem bytes_R (l : List UInt8) : VRs T ι (l.map fun b => .int .u8 (.ofNat b.toNat)) (l.map fun b => .int .u8 b.toNat) := by
  induction l with
  | nil => exact .nil
  | cons b l ih => exact .cons _ _ _ _ (.int _ _) ih

theorem bytes_flat (l : List UInt8) : flatL (l.map fun b => (.int .u8 (.ofNat b.toNat) : Value)) = true := by
  induction l with
  | nil => rfl
  | cons b l ih => simpa [flatL, flat] using ih

theorem firstCells_R (hw : WR T ι h w) {v v' : Value} (hv : VR T ι v v') {size n k : Nat} (hk : lenOf v = some k) (hkn : n ≤ k) {l : List Value} (hl : firstCells h size n v = some l) (hlen : l.length = n * size) :
    ∃ l', (Builtin.firstCells size n v').run P w = .ok ⟨l'⟩ w ∧ VRs T ι l l' ∧ flatL l = true := by
  cases hv <;> simp only [firstCells, reduceCtorEq] at hl
  case sliceNil n' c hc hn =>
    simp only [Option.some.injEq] at hl
    subst hl
    exact ⟨[], rfl, .nil, rfl⟩
  case slice b o n' c m hm hc hn =>
    rw [Nat.mul_eq] at hl
    obtain ⟨l', h1, h2, h3, _⟩ := loadCells_R (P := P) hw hl hm
    exact ⟨l', h1, h2, h3⟩
  case sliceUnk b o n' o' c' m hm hn room place =>
    rw [Nat.mul_eq] at hl
    rcases place with h0 | h0
    · simp only [lenOf, Option.some.injEq] at hk
      have hn0 : n = 0 := by omega
      subst hn0
      simp at hlen
      subst hlen
      exact ⟨[], by simp only [Builtin.firstCells, Nat.zero_mul]; exact run_loadCells_zero _, .nil, rfl⟩
    · obtain ⟨l', h1, h2, h3, _⟩ := loadCells_R (P := P) hw hl hm
      rw [← h0] at h1
      exact ⟨l', h1, h2, h3⟩
  case string s =>
    obtain ⟨⟨s⟩⟩ := s
    simp only [Option.some.injEq] at hl
    subst hl
    refine ⟨(s.take n).map fun b => .int .u8 b.toNat, ?_, bytes_R _, bytes_flat _⟩
    simp only [Builtin.firstCells, Sem.run_pure]
    congr 1
    apply Array.ext'
    rw [ByteArray.data_extract]
    simp

set_option maxHeartbeats 2000000 in
/-- there is room -/
theorem run_append_room {i : TypeInfo} {t u ty e : TypeId} {d : TypeDesc} (ht : P.underlying t = some (.slice e)) (hu : P.underlying u = some d) (hd : ∀ k, d ≠ .int k) (hi : P.info? e = some i)
    {ad : Addr} {len cap n : Nat} {x' : Value} {new' : List Value} {w' : World} (hn : (Builtin.lenOf x').run P w = .ok n w) (hnew : (Builtin.firstCells i.size n x').run P w = .ok ⟨new'⟩ w) (hroom : len + n ≤ cap)
    (hst : (Go.storeCells (ad.add (len * i.size)) new').run P w = .ok () w') :
    (Builtin.append_ #[t, u] ty #[.slice (some ad) len cap, x']).run P w = .ok (.slice (some ad) (len + n) cap) w' := by
  cases d <;> first | exact absurd rfl (hd _) | simp [Builtin.append_, run_underlying ht, run_underlying hu, sizeOf, typeInfo, hi, hn, hroom, hnew, hst]

set_option maxHeartbeats 2000000 in
theorem run_append_roomNil {i : TypeInfo} {t u ty e : TypeId} {d : TypeDesc} (ht : P.underlying t = some (.slice e)) (hu : P.underlying u = some d) (hd : ∀ k, d ≠ .int k) (hi : P.info? e = some i)
    {len cap n : Nat} {x' : Value} {new' : List Value} (hn : (Builtin.lenOf x').run P w = .ok n w) (hnew : (Builtin.firstCells i.size n x').run P w = .ok ⟨new'⟩ w) (hroom : len + n ≤ cap) :
    (Builtin.append_ #[t, u] ty #[.slice none len cap, x']).run P w = .ok (.slice none (len + n) cap) w := by
  cases d <;> first | exact absurd rfl (hd _) | simp [Builtin.append_, run_underlying ht, run_underlying hu, sizeOf, typeInfo, hi, hn, hroom, hnew]

set_option maxHeartbeats 2000000 in
/-- there is none -/
theorem run_append_grow {i : TypeInfo} {t u ty e : TypeId} {d : TypeDesc} {z : Value} (ht : P.underlying t = some (.slice e)) (hu : P.underlying u = some d) (hd : ∀ k, d ≠ .int k) (hi : P.info? e = some i) (hz : i.zero = some z)
    {base : Option Addr} {len cap n : Nat} {x' : Value} {new' old' : List Value} (hn : (Builtin.lenOf x').run P w = .ok n w) (hnew : (Builtin.firstCells i.size n x').run P w.drew = .ok new'.toArray w.drew)
    (hold : (Builtin.firstCells i.size len (.slice base len cap)).run P w.drew = .ok old'.toArray w.drew) (hg : cap < len + n) (h63 : ((len + n : Nat) : Int) ≤ 9223372036854775807) (hfit : Builtin.nextslicecap (len + n) cap * i.bytes ≤ 281474976710656) :
    (Builtin.append_ #[t, u] ty #[.slice base len cap, x']).run P w = .ok (.slice (some ⟨w.heap.size, 0, none⟩) (len + n) (grownCap w (len + n) cap e))
      (w.drew.alloc (.cells ((old' ++ new').toArray ++ Builtin.zeroCells z.cells (grownCap w (len + n) cap e - (len + n))) e)) := by
  have hno : ¬ (len + n ≤ cap) := by omega
  have h63' : ¬ (9223372036854775807 < ((len : Int) + (n : Int))) := by omega
  have h48' : ¬ (281474976710656 < Builtin.nextslicecap (len + n) cap * i.bytes) := by omega
  cases d <;> first | exact absurd rfl (hd _) | (
    simp [Builtin.append_, run_underlying ht, run_underlying hu, sizeOf, typeInfo, zeroValue, hi, hz, hn, hno, h63', h48', Question.forced, hnew, hold, newRow, grownCap]
    congr 2
    apply Array.ext'
    simp [List.append_assoc])

end
end Go.Ev

/- append. -/
namespace Go.Ev

section
variable {T : Tab} {P : Program} {ι : Inj} {h : H} {w : World} {tm : Tm} {a : Act}

/-- a block takes a new name; its old one stands for nothing more -/
theorem WR.rehome {h' : H} {w' : World} (hw : WR T ι h w) {b : Nat} {o o2 : AObj} {ob : Obj} {m m2 : Im}
    (hb : h.get b = some o) (ho : o.owned = true) (hm : ι b = some m) (hnext : h'.next = h.next + 1) (hlim : h.next < 2147483648)
    (hnone : h'.get b = none) (heqn : h'.get h.next = some o2) (hne : ∀ k, k ≠ b → k ≠ h.next → h'.get k = h.get k) (hm2 : m2.blk = m.blk)
    (hsz : w'.heap.size = w.heap.size) (hoth : ∀ k, k ≠ m.blk → w'.heap[k]? = w.heap[k]?) (heq : w'.heap[m.blk]? = some ob) (hob : ObjR T (ι.ins h.next m2) o2 ob m2) :
    WR T (ι.ins h.next m2) h' w' := by
  have hn : ι h.next = none := by
    cases hi : ι h.next with
    | none => rfl
    | some x => exact absurd (hw.ids _ _ hi) (by omega)
  have hbn : b < h.next := hw.fresh _ _ hb
  constructor
  · intro k x mk hk hik
    by_cases hkn : k = h.next
    · subst hkn
      rw [Inj.ins_eq] at hik; cases hik
      rw [heqn] at hk; cases hk
      exact ⟨ob, by rw [hm2]; exact heq, hob⟩
    · rw [Inj.ins_ne _ _ hkn] at hik
      by_cases hkb : k = b
      · subst hkb; rw [hnone] at hk; cases hk
      · rw [hne k hkb hkn] at hk
        obtain ⟨x', h1, h2⟩ := hw.live k x mk hk hik
        exact ⟨x', by rw [hoth _ (hw.excl b k o x m mk (Ne.symm hkb) hb ho hk hm hik).symm]; exact h1, h2.mono (Inj.le_ins _ _ hn)⟩
  · intro k mk hik
    by_cases hkn : k = h.next
    · omega
    · rw [Inj.ins_ne _ _ hkn] at hik; have := hw.ids _ _ hik; omega
  · intro k x hk
    by_cases hkn : k = h.next
    · omega
    · by_cases hkb : k = b
      · omega
      · rw [hne k hkb hkn] at hk; have := hw.fresh _ _ hk; omega
  · intro k mk hik
    rw [hsz]
    by_cases hkn : k = h.next
    · subst hkn; rw [Inj.ins_eq] at hik; cases hik; rw [hm2]; exact hw.bound _ _ hm
    · rw [Inj.ins_ne _ _ hkn] at hik; exact hw.bound _ _ hik
  · intro k k' x x' mk mk' hkk hk hx hk' hik hik'
    have old : ∀ k x mk, k ≠ h.next → h'.get k = some x → ι.ins h.next m2 k = some mk → k ≠ b ∧ h.get k = some x ∧ ι k = some mk := by
      intro k x mk hkn hk hik
      have hkb : k ≠ b := by intro e; subst e; rw [hnone] at hk; cases hk
      rw [Inj.ins_ne _ _ hkn] at hik
      rw [hne k hkb hkn] at hk
      exact ⟨hkb, hk, hik⟩
    by_cases hkn : k = h.next
    · subst hkn
      rw [Inj.ins_eq] at hik; cases hik
      obtain ⟨e1, e2, e3⟩ := old k' x' mk' (Ne.symm hkk) hk' hik'
      rw [hm2]
      exact hw.excl b k' o x' m mk' (Ne.symm e1) hb ho e2 hm e3
    · obtain ⟨e1, e2, e3⟩ := old k x mk hkn hk hik
      by_cases hkn' : k' = h.next
      · subst hkn'
        rw [Inj.ins_eq] at hik'; cases hik'
        rw [hm2]
        exact (hw.excl b k o x m mk (Ne.symm e1) hb ho e2 hm e3).symm
      · obtain ⟨f1, f2, f3⟩ := old k' x' mk' hkn' hk' hik'
        exact hw.excl k k' x x' mk mk' hkk e2 hx f2 e3 f3
  · omega
  · intro g hg
    obtain ⟨m', h1, h2⟩ := hw.glob g hg
    exact ⟨m', Inj.le_ins _ _ hn _ _ h1, h2⟩

theorem Keep.rehome {h' : H} {w' : World} (hw : WR T ι h w) {b : Nat} {o : AObj} {m m2 : Im}
    (hb : h.get b = some o) (ho : o.owned = true) (hm : ι b = some m) (hnext : h'.next = h.next + 1) (hnone : h'.get b = none)
    (hne : ∀ k, k ≠ b → k ≠ h.next → h'.get k = h.get k) (hm2 : m2.blk = m.blk)
    (hsz : w'.heap.size = w.heap.size) (hoth : ∀ k, k ≠ m.blk → w'.heap[k]? = w.heap[k]?) (hos : w'.os = w.os) (_ht : w'.tape = w.tape) (hout : w'.output = w.output) (hbare : ∀ ob, w'.heap[m.blk]? = some ob → Bare ob) :
    Keep ι h w (ι.ins h.next m2) h' w' := by
  have hn : ι h.next = none := by
    cases hi : ι h.next with
    | none => rfl
    | some x => exact absurd (hw.ids _ _ hi) (by omega)
  refine ⟨Inj.le_ins _ _ hn, fun k hk hkn => by rw [Inj.ins_ne _ _ (by omega)]; exact hkn, by omega, by omega, hos, hout, fun k hk hno => ?_, fun k hk hkn => ?_, fun k hk hkn => ?_, fun k hk hf k' x mk h1 h3 => ?_, fun _ hx => thaw_write hoth hbare hx⟩
  case refine_2 => exact hne k (by intro e; subst e; rw [hm] at hkn; cases hkn) (by omega)
  case refine_3 => rw [hne k (by intro e; subst e; rw [hb] at hkn; cases hkn) (by omega)]; exact hkn
  case refine_4 =>
    by_cases hkn : k' = h.next
    · subst hkn; rw [Inj.ins_eq] at h3; cases h3; rw [hm2]; exact hf b o m hb hm
    · rw [Inj.ins_ne _ _ hkn] at h3
      by_cases hkb : k' = b
      · subst hkb; rw [hnone] at h1; cases h1
      · rw [hne k' hkb hkn] at h1; exact hf k' x mk h1 h3
  have hkm : k ≠ m.blk := fun e => hno ⟨b, o, m, hb, ho, hm, e.symm⟩
  refine ⟨hoth k hkm, ?_⟩
  rintro ⟨k', x, mk, h1, h2, h3, h4⟩
  by_cases hkn : k' = h.next
  · subst hkn; rw [Inj.ins_eq] at h3; cases h3; exact hkm (h4 ▸ hm2)
  · rw [Inj.ins_ne _ _ hkn] at h3
    by_cases hkb : k' = b
    · subst hkb; rw [hm] at h3; cases h3; exact hkm h4.symm
    · rw [hne k' hkb hkn] at h1; exact hno ⟨k', x, mk, h1, h2, h3, h4⟩

theorem flatL_app {l l' : List Value} (h1 : flatL l = true) (h2 : flatL l' = true) : flatL (l ++ l') = true := by
  rw [flatL_mem] at *
  intro v hv
  rcases List.mem_append.1 hv with hv | hv
  · exact h1 v hv
  · exact h2 v hv

/-- what stands in a row, from a place on -/
theorem rowObj {l l' pre post : List Value} (hv : VRs T ι l l') (hfl : flatL l = true) {ι' : Inj} (hi : ι.le ι') (k el : Nat) {c : Array Value} (hc : c.toList = pre ++ l' ++ post) :
    ObjR T ι' (.cells l el true) (.cells c el (0, 0)) ⟨k, pre.length, c.size, el⟩ := by
  have hcs : c.size = pre.length + l'.length + post.length := by rw [← Array.length_toList, hc]; simp; omega
  refine ObjR.cells (m := ⟨k, pre.length, c.size, el⟩) l c true (0, 0) rfl hfl (by simp only; rw [hv.length]; omega) (fun i v hiv => ?_) (fun _ => rfl)
  obtain ⟨v', h1, h2⟩ := hv.get hiv
  refine ⟨v', ?_, h2.mono hi⟩
  rw [← Array.getElem?_toList, hc, List.append_assoc, List.getElem?_append_right (by simp), List.getElem?_append_left (by simp; exact (List.getElem?_eq_some_iff.1 h1).1)]
  simpa using h1

theorem WR.remove (hw : WR T ι h w) (b : Nat) (hb : b < h.next) : WR T ι (h.put b none) w := by
  have hlim := hw.lim
  have key : ∀ k x, (h.put b none).get k = some x → h.get k = some x := by
    intro k x hk
    by_cases hkb : k = b
    · subst hkb; rw [H.get_put_eq _ _ _ (by omega)] at hk; cases hk
    · rwa [H.get_put_ne _ _ _ _ hkb] at hk
  exact ⟨fun k x m hk hi => hw.live k x m (key k x hk) hi, hw.ids, fun k x hk => hw.fresh k x (key k x hk), hw.bound,
    fun k k' x x' m m' hne hk hx hk' => hw.excl k k' x x' m m' hne (key k x hk) hx (key k' x' hk'), hw.lim, hw.glob⟩

theorem Keep.remove (hw : WR T ι h w) (b : Nat) (hb : b < h.next) {m : Im} (hm : ι b = some m) : Keep ι h w ι (h.put b none) w := by
  have hlim := hw.lim
  have key : ∀ k x, (h.put b none).get k = some x → h.get k = some x := by
    intro k x hk
    by_cases hkb : k = b
    · subst hkb; rw [H.get_put_eq _ _ _ (by omega)] at hk; cases hk
    · rwa [H.get_put_ne _ _ _ _ hkb] at hk
  refine ⟨ι.le_refl, fun _ _ h => h, Nat.le_refl _, Nat.le_refl _, rfl, rfl, fun k hk hno => ⟨rfl, ?_⟩, fun k _ hn => ?_, fun k _ hn => ?_, fun k _ hf k' x mk h1 h3 => hf k' x mk (key _ _ h1) h3, fun _ h => h⟩
  case refine_2 => exact H.get_put_ne _ _ _ _ (by intro e; subst e; rw [hm] at hn; cases hn)
  case refine_3 =>
    by_cases hkb : k = b
    · subst hkb; exact H.get_put_eq _ _ _ (by omega)
    · rw [H.get_put_ne _ _ _ _ hkb]; exact hn
  rintro ⟨k', x, mk, h1, h2, h3, h4⟩
  refine hno ⟨k', x, mk, ?_, h2, h3, h4⟩
  by_cases hkb : k' = b
  · subst hkb; rw [H.get_put_eq _ _ _ (by omega)] at h1; cases h1
  · rwa [H.get_put_ne _ _ _ _ hkb] at h1

theorem appendNew_R (hw : WR T ι h w) {el : Nat} {zv : Value} (hzs : zv.cells.size = T.size el) {old new old' new' : List Value} (ho : VRs T ι old old') (hn : VRs T ι new new') (hfo : flatL old = true) (hfn : flatL new = true)
    {m c' : Nat} (hlen : old.length + new.length = m * T.size el) (hc : m ≤ c') {v : Value} {h' : H} (e : appendNew el (T.size el) h old new m = some (v, h')) :
    ∃ ι', VR T ι' v (.slice (some ⟨w.heap.size, 0, none⟩) m c') ∧
      WR T ι' h' (w.drew.alloc (.cells ((old' ++ new').toArray ++ Builtin.zeroCells zv.cells (c' - m)) el)) ∧
      Keep ι h w ι' h' (w.drew.alloc (.cells ((old' ++ new').toArray ++ Builtin.zeroCells zv.cells (c' - m)) el)) := by
  obtain ⟨⟨b, h2⟩, e1, e2⟩ := Option.bind_eq_some_iff.1 e
  rw [fN_eq] at e2
  simp only [Option.some.injEq, Prod.mk.injEq] at e2
  obtain ⟨rfl, rfl⟩ := e2
  have hl1 := ho.length
  have hl2 := hn.length
  have hnn : ι b = none := by
    obtain ⟨rfl, _⟩ := H.new_eq e1
    cases hi : ι h.next with
    | none => rfl
    | some x => exact absurd (hw.ids _ _ hi) (by omega)
  have hd : WR T ι h w.drew := hw.drawn (w.drawn + 1)
  have hkd : Keep ι h w ι h w.drew := Keep.drawn ι h w (w.drawn + 1)
  have hcs : ((old' ++ new').toArray ++ Builtin.zeroCells zv.cells (c' - m)).size = c' * T.size el := by
    rw [Array.size_append, size_zeroCells, hzs]
    simp only [List.size_toArray, List.length_append]
    rw [← hl1, ← hl2, hlen, ← Nat.add_mul]
    congr 1; omega
  have hob := rowObj (T := T) (ι := ι) (pre := []) (post := (Builtin.zeroCells zv.cells (c' - m)).toList) (VRs.append ho hn) (flatL_app hfo hfn) (Inj.le_ins ι (b := b) ⟨w.heap.size, 0, c' * T.size el, el⟩ hnn)
    w.heap.size el (c := (old' ++ new').toArray ++ Builtin.zeroCells zv.cells (c' - m)) (by simp)
  rw [hcs] at hob
  obtain ⟨g1, g2, _⟩ := hd.alloc (m := ⟨w.heap.size, 0, c' * T.size el, el⟩) rfl e1 rfl hob
  refine ⟨_, ?_, g1, hkd.trans g2⟩
  exact .sliceUnk b 0 m 0 c' _ (Inj.ins_eq _ _ _) hc (by simp) (.inr rfl)

theorem appendV_inv {el size : Nat} {base : Option Addr} {len cap : Nat} {x v : Value} {h' : H} (e : appendV T el size h (.slice base len cap) x = some (v, h')) :
    ∃ n new, lenOf x = some n ∧ firstCells h size n x = some new ∧ new.length = n * size ∧ (len + n) * size ≤ 1048576 ∧
      cond (Nat.blt cap unk) (appendK el size h base len cap n new) (cond (Nat.beq n 0) (some (.slice base len cap, h)) (appendU T el size h base len n new)) = some (v, h') := by
  simp only [appendV] at e
  obtain ⟨n, h1, e⟩ := Option.bind_eq_some_iff.1 e
  obtain ⟨new, h2, e⟩ := Option.bind_eq_some_iff.1 e
  cases hb : Nat.beq new.length (Nat.mul n size) with
  | false => rw [hb] at e; simp at e
  | true =>
    rw [hb, cond_true] at e
    cases hb2 : Nat.ble (Nat.mul (Nat.add len n) size) 1048576 with
    | false => rw [hb2] at e; simp at e
    | true =>
      rw [hb2, cond_true] at e
      exact ⟨n, new, h1, h2, Nat.eq_of_beq_eq_true hb, Nat.le_of_ble_eq_true hb2, e⟩

theorem blt_irrefl (n : Nat) : Nat.blt n n = false := by
  cases hh : Nat.blt n n with
  | false => rfl
  | true => exact absurd (Nat.le_of_ble_eq_true hh) (Nat.not_succ_le_self n)

theorem appendV_R (hT : TabOk T P) (hw : WR T ι h w) {st el u ty : Nat} {d : TypeDesc} (hd : T.desc st = some (.slice el)) (hu : P.underlying u = some d) (hdi : ∀ k, d ≠ .int k) {z : List Value} (hz : elemZero T el = some z)
    {s s' x x' : Value} (hs : VR T ι s s') (hx : VR T ι x x') {v : Value} {h' : H} (e : appendV T el (T.size el) h s x = some (v, h')) :
    ∃ v' w' ι', (Builtin.append_ #[st, u] ty #[s', x']).run P w = .ok v' w' ∧ VR T ι' v v' ∧ WR T ι' h' w' ∧ Keep ι h w ι' h' w' := by
  obtain ⟨zv, z1, z2, z3, z4, z5, z6⟩ := elemZero_R (P := P) (ι := ι) hT hz
  obtain ⟨_, _, i, hi1, hi2⟩ := zeroV_R (P := P) (w := w) (ι := ι) hT z1
  have hzs : zv.cells.size = T.size el := by rw [← z5, z2]; exact (Array.length_toList (xs := zv.cells)).symm
  obtain ⟨i', hj1, hj2⟩ := hT.sizeS _ _ hd
  have hii : i' = i := by rw [hi1] at hj1; cases hj1; rfl
  subst hii
  have hbytes := hT.bytes _ _ _ hd hi1
  have hus := hT.desc _ _ hd
  have hdr : WR T ι h w.drew := hw.drawn (w.drawn + 1)
  have small : ∀ {len n cap : Nat}, (len + n) * T.size el ≤ 1048576 → cap < len + n → ((len + n : Nat) : Int) ≤ 9223372036854775807 ∧ Builtin.nextslicecap (len + n) cap * i'.bytes ≤ 281474976710656 := by
    intro len n cap h1 h2
    have h3 : len + n ≤ (len + n) * T.size el := Nat.le_mul_of_pos_right _ z6
    refine ⟨by omega, growslice_fits h2 ?_⟩
    have : (len + n) * i'.bytes ≤ 1048576 * 16777216 := Nat.mul_le_mul (by omega) hbytes
    omega
  cases hs <;> try (simp only [appendV, reduceCtorEq] at e)
  case sliceNil n c hc hn =>
    obtain ⟨m, new, e1, e2, e3, e4, e5⟩ := appendV_inv e
    have hlen := lenOf_R (P := P) (w := w) hx e1
    obtain ⟨new', f1, f2, f3⟩ := firstCells_R (P := P) hw hx e1 (Nat.le_refl _) e2 e3
    obtain ⟨new2, g1, g2, g3⟩ := firstCells_R (P := P) hdr hx e1 (Nat.le_refl _) e2 e3
    rw [show Nat.blt c unk = true by simpa [Nat.blt_eq] using hc, cond_true] at e5
    unfold appendK at e5
    cases hb : Nat.ble (Nat.add n m) c with
    | true =>
      rw [hb, cond_true] at e5
      simp only [Option.some.injEq, Prod.mk.injEq] at e5
      obtain ⟨rfl, rfl⟩ := e5
      refine ⟨_, _, ι, run_append_roomNil hus hu hdi hj1 hlen (by rw [hj2]; exact f1) (Nat.le_of_ble_eq_true hb), ?_, hw, Keep.refl _ _ _⟩
      exact .sliceNil _ _ hc (Nat.le_of_ble_eq_true hb)
    | false =>
      rw [hb, cond_false] at e5
      have hlt : c < n + m := by
        rcases Nat.lt_or_ge c (n + m) with h0 | h0
        · exact h0
        · have := Nat.ble_eq_true_of_le h0; rw [Nat.add_eq, this] at hb; cases hb
      obtain ⟨old, o1, o2⟩ := Option.bind_eq_some_iff.1 e5
      cases hn0 : Nat.beq n 0 with
      | false => rw [hn0] at o1; simp at o1
      | true =>
        rw [hn0] at o1
        simp only [cond_true, Option.some.injEq] at o1
        subst o1
        have hn0' := Nat.eq_of_beq_eq_true hn0
        subst hn0'
        obtain ⟨s1, s2⟩ := small e4 hlt
        have hrun := run_append_grow (w := w) (ty := ty) (base := none) (old' := []) hus hu hdi hi1 hi2 (lenOf_R (P := P) (w := w) hx e1) (by rw [hj2]; exact g1) (by rfl) hlt s1 s2
        obtain ⟨ι', q1, q2, q3⟩ := appendNew_R hw hzs (VRs.nil) g2 rfl g3 (by simp [e3]) (grownCap_ge w (0 + m) c el) o2
        exact ⟨_, _, ι', hrun, q1, q2, q3⟩
  case slice b o n c mi hm hc hn =>
    obtain ⟨m, new, e1, e2, e3, e4, e5⟩ := appendV_inv e
    have hlen := lenOf_R (P := P) (w := w) hx e1
    obtain ⟨new', f1, f2, f3⟩ := firstCells_R (P := P) hw hx e1 (Nat.le_refl _) e2 e3
    obtain ⟨new2, g1, g2, g3⟩ := firstCells_R (P := P) hdr hx e1 (Nat.le_refl _) e2 e3
    rw [show Nat.blt c unk = true by simpa [Nat.blt_eq] using hc, cond_true] at e5
    unfold appendK at e5
    cases hb : Nat.ble (Nat.add n m) c with
    | true =>
      rw [hb, cond_true] at e5
      obtain ⟨h1, k1, k2⟩ := Option.bind_eq_some_iff.1 e5
      rw [fN_eq] at k2
      simp only [Option.some.injEq, Prod.mk.injEq] at k2
      obtain ⟨rfl, rfl⟩ := k2
      obtain ⟨w', r1, r2, r3⟩ := storeCells_R (P := P) (o := o + n * T.size el) hw (by rw [← Addr.add_lit]; exact k1) hm f2
      refine ⟨_, w', ι, run_append_room hus hu hdi hj1 hlen (by rw [hj2]; exact f1) (Nat.le_of_ble_eq_true hb) (by rw [hj2, Addr.add_lit, Nat.add_assoc]; exact r1), ?_, r2, r3⟩
      exact .slice b o _ _ mi hm hc (Nat.le_of_ble_eq_true hb)
    | false =>
      rw [hb, cond_false] at e5
      have hlt : c < n + m := by
        rcases Nat.lt_or_ge c (n + m) with h0 | h0
        · exact h0
        · have := Nat.ble_eq_true_of_le h0; rw [Nat.add_eq, this] at hb; cases hb
      obtain ⟨old, o1, o2⟩ := Option.bind_eq_some_iff.1 e5
      obtain ⟨old', p1, p2, p3, p4⟩ := loadCells_R (P := P) hdr o1 hm
      obtain ⟨s1, s2⟩ := small e4 hlt
      rw [Nat.mul_eq] at p1 p4
      have hrun := run_append_grow (w := w) (ty := ty) (base := some ⟨mi.blk, mi.off + o, none⟩) (old' := old') hus hu hdi hi1 hi2 (lenOf_R (P := P) (w := w) hx e1) (by rw [hj2]; exact g1) (by rw [hj2]; exact p1) hlt s1 s2
      obtain ⟨ι', q1, q2, q3⟩ := appendNew_R hw hzs p2 g2 p3 g3 (by rw [p4, e3, ← Nat.add_mul]) (grownCap_ge w (n + m) c el) o2
      exact ⟨_, _, ι', hrun, q1, q2, q3⟩
  case sliceUnk b o n o' c' mi hm hn room place =>
    obtain ⟨m, new, e1, e2, e3, e4, e5⟩ := appendV_inv e
    have hlen := lenOf_R (P := P) (w := w) hx e1
    obtain ⟨new', f1, f2, f3⟩ := firstCells_R (P := P) hw hx e1 (Nat.le_refl _) e2 e3
    obtain ⟨new2, g1, g2, g3⟩ := firstCells_R (P := P) hdr hx e1 (Nat.le_refl _) e2 e3
    rw [blt_irrefl, cond_false] at e5
    cases hm0 : Nat.beq m 0 with
    | true =>
      rw [hm0, cond_true] at e5
      simp only [Option.some.injEq, Prod.mk.injEq] at e5
      obtain ⟨rfl, rfl⟩ := e5
      have hm0' := Nat.eq_of_beq_eq_true hm0
      subst hm0'
      have hnew' : new' = [] := by have := f2.length; rw [e3] at this; simp at this; exact List.length_eq_zero_iff.1 this.symm
      subst hnew'
      exact ⟨_, w, ι, run_append_room hus hu hdi hj1 hlen (by rw [hj2]; exact f1) (by omega) (by rfl), .sliceUnk b o n o' c' mi hm hn room place, hw, Keep.refl _ _ _⟩
    | false =>
      rw [hm0, cond_false] at e5
      simp only [appendU] at e5
      cases hg : h.get b with
      | none => rw [hg] at e5; simp at e5
      | some ob =>
        rw [hg] at e5
        cases ob with
        | cells cs e' own =>
          cases own with
          | false => simp at e5
          | true =>
            simp only at e5
            cases hel : Nat.beq e' el with
            | false => rw [hel] at e5; simp at e5
            | true =>
              rw [hel, cond_true] at e5
              have hel' := Nat.eq_of_beq_eq_true hel
              subst hel'
              obtain ⟨old, o1, o2⟩ := Option.bind_eq_some_iff.1 e5
              have hload : loadCells h ⟨b, o, none⟩ (n * T.size e') = some old := by
                show (cellsAt h ⟨b, o, none⟩).bind _ = _
                have : cellsAt h ⟨b, o, none⟩ = some cs := by simp only [cellsAt, hg]
                rw [this]; exact o1
              obtain ⟨old', p1, p2, p3, p4⟩ := loadCells_R (P := P) hdr hload hm
              have hbn := hw.fresh _ _ hg
              by_cases hfit : n + m ≤ c'
              · obtain ⟨obj, l1, l2⟩ := hw.live _ _ _ hg hm
                cases l2 with
                | cells _ c _ fz _ hcap hflat hlenc hc hown =>
                  have hfz := hown rfl
                  subst hfz
                  obtain ⟨s1, s2⟩ := slicel_eq o1
                  rw [Nat.mul_eq] at s1 s2
                  have hcl : c.toList.length = c.size := Array.length_toList
                  have hmul : (n + m) * T.size mi.el ≤ c' * T.size mi.el := Nat.mul_le_mul_right _ hfit
                  rw [Nat.add_mul] at hmul
                  have hnl : new'.length = m * T.size mi.el := by rw [← e3, f2.length]
                  have hrun := run_storeCells_at P mi.blk (o' + n * T.size mi.el) mi.el new' 0 c w l1 (by omega) (flatL_VRs f2 f3)
                  simp only [Nat.add_zero] at hrun
                  have ho2 : VRs T ι old ((c.toList.drop o').take (n * T.size mi.el)) := by
                    rcases place with h0 | h0
                    · subst h0
                      have : old = [] := by rw [Nat.zero_mul] at p4; exact List.length_eq_zero_iff.1 p4
                      subst this
                      simp only [Nat.zero_mul, List.take_zero]
                      exact .nil
                    · refine VRs.of_get (by rw [s2]; simp; omega) fun j v1 v2 j1 j2 => ?_
                      have hj : j < n * T.size mi.el := by rw [← s2]; exact (List.getElem?_eq_some_iff.1 j1).1
                      rw [s1, List.getElem?_take_of_lt hj, List.getElem?_drop] at j1
                      obtain ⟨v', t1, t2⟩ := hc _ _ j1
                      rw [List.getElem?_take_of_lt hj, List.getElem?_drop, h0] at j2
                      rw [Array.getElem?_toList, Nat.add_assoc, t1] at j2
                      cases j2
                      exact t2
                  obtain ⟨⟨nb, h3⟩, n1, n2⟩ := Option.bind_eq_some_iff.1 o2
                  rw [fN_eq] at n2
                  simp only [Option.some.injEq, Prod.mk.injEq] at n2
                  obtain ⟨rfl, rfl⟩ := n2
                  obtain ⟨rfl, u1, u2, u3, u4⟩ := H.new_eq n1
                  have hnx : (h.put b none).next = h.next := rfl
                  rw [hnx] at u1 u2 u3 u4
                  have hnn : ι h.next = none := by
                    cases hi : ι h.next with
                    | none => rfl
                    | some x => exact absurd (hw.ids _ _ hi) (by omega)
                  have hrow : (c.toList.take (o' + n * T.size mi.el) ++ new' ++ c.toList.drop (o' + n * T.size mi.el + new'.length)) =
                      c.toList.take o' ++ ((c.toList.drop o').take (n * T.size mi.el) ++ new') ++ c.toList.drop (o' + n * T.size mi.el + new'.length) := by
                    rw [List.take_add]; simp only [List.append_assoc]
                  have hsz2 : (c.toList.take (o' + n * T.size mi.el) ++ new' ++ c.toList.drop (o' + n * T.size mi.el + new'.length)).toArray.size = mi.cap := by
                    rw [← hcap]; simp; omega
                  have hob := rowObj (T := T) (ι := ι) (pre := c.toList.take o') (post := c.toList.drop (o' + n * T.size mi.el + new'.length)) (VRs.append ho2 f2) (flatL_app p3 f3) (Inj.le_ins ι (b := h.next) ⟨mi.blk, o', mi.cap, mi.el⟩ hnn)
                    mi.blk mi.el (c := (c.toList.take (o' + n * T.size mi.el) ++ new' ++ c.toList.drop (o' + n * T.size mi.el + new'.length)).toArray) hrow
                  rw [hsz2, show (c.toList.take o').length = o' by simp; omega] at hob
                  refine ⟨_, _, ι.ins h.next ⟨mi.blk, o', mi.cap, mi.el⟩, run_append_room hus hu hdi hj1 hlen (by rw [hj2]; exact f1) hfit (by rw [hj2, Addr.add_lit]; exact hrun), ?_, ?_, ?_⟩
                  · have q := VR.sliceUnk (T := T) h.next 0 (n + m) o' c' ⟨mi.blk, o', mi.cap, mi.el⟩ (Inj.ins_eq ι h.next _) hfit room (.inr (Nat.add_zero o').symm)
                    exact q
                  · refine hw.rehome hg rfl hm u2 u1 ?_ u4 (fun k k1 k2 => ?_) rfl (by simp) (fun k hk => setRow_other w _ k _ hk) (setRow_heap w _ _ _ _ _ l1) hob
                    · have := hw.lim
                      rw [u3 b (by omega), H.get_put_eq _ _ _ (by omega)]
                    · rw [u3 k k2, H.get_put_ne _ _ _ _ k1]
                  · refine Keep.rehome hw hg rfl hm u2 (by rw [u3 b (by omega), H.get_put_eq _ _ _ (by have := hw.lim; omega)]) (fun k k1 k2 => ?_) rfl (by simp) (fun k hk => setRow_other w _ k _ hk) rfl rfl rfl (fun ob h => by rw [setRow_heap w _ _ _ _ _ l1] at h; cases h; exact hob.bare rfl)
                    rw [u3 k k2, H.get_put_ne _ _ _ _ k1]
              · obtain ⟨s1, s2⟩ := small (cap := c') e4 (by omega)
                have hold : ∃ old2, (Builtin.firstCells i'.size n (.slice (some ⟨mi.blk, o', none⟩) n c')).run P w.drew = .ok old2.toArray w.drew ∧ VRs T ι old old2 := by
                  rw [hj2]
                  rcases place with h0 | h0
                  · subst h0
                    have : old = [] := by rw [Nat.zero_mul] at p4; exact List.length_eq_zero_iff.1 p4
                    subst this
                    exact ⟨[], by simp only [Builtin.firstCells, Nat.zero_mul]; exact run_loadCells_zero _, .nil⟩
                  · subst h0
                    exact ⟨old', p1, p2⟩
                obtain ⟨old2, q0, q00⟩ := hold
                have hrun := run_append_grow (w := w) (ty := ty) (base := some ⟨mi.blk, o', none⟩) (old' := old2) hus hu hdi hi1 hi2 (lenOf_R (P := P) (w := w) hx e1) (by rw [hj2]; exact g1) q0 (by omega) s1 s2
                obtain ⟨ι', q1, q2, q3⟩ := appendNew_R (hw.remove b hbn) hzs q00 g2 p3 g3 (by rw [p4, e3, ← Nat.add_mul]) (grownCap_ge w (n + m) c' e') o2
                exact ⟨_, _, ι', hrun, q1, q2, (Keep.remove hw b hbn hm).trans q3⟩
        | _ => simp at e5

end
end Go.Ev

/- copy, maps, iterators. -/
namespace Go.Ev

section
variable {T : Tab} {P : Program} {ι : Inj} {h : H} {w : World} {tm : Tm} {a : Act}

theorem run_storeCells_nil (ad : Addr) : (Go.storeCells ad []).run P w = .ok () w := rfl

theorem min_min (n m : Nat) : Nat.min n m ≤ n := Nat.min_le_left n m

theorem copyV_R (hT : TabOk T P) (hw : WR T ι h w) {t el ty : Nat} {r : List TypeId} (hd : T.desc t = some (.slice el))
    {d d' s s' : Value} (hdv : VR T ι d d') (hs : VR T ι s s') {v : Value} {h' : H} (e : copyV (T.size el) h d s = some (v, h')) :
    ∃ v' w', (Builtin.copy_ ⟨t :: r⟩ ty #[d', s']).run P w = .ok v' w' ∧ VR T ι v v' ∧ WR T ι h' w' ∧ Keep ι h w ι h' w' := by
  have hu := hT.desc _ _ hd
  have hsz : (Go.sizeOf el).run P w = .ok (T.size el) w := sizeOf_R (hT.sizeS _ _ hd)
  have inv : ∀ {base : Option Addr} {len cap : Nat}, copyV (T.size el) h (.slice base len cap) s = some (v, h') → ∃ n cs, lenOf s = some n ∧ firstCells h (T.size el) (Nat.min n len) s = some cs ∧ cs.length = Nat.min n len * T.size el ∧
      (match base with | none => some h | some a => storeCells h a cs) = some h' ∧ v = .int .i64 (.ofNat (Nat.min n len)) := by
    intro base len cap e
    simp only [copyV] at e
    obtain ⟨n, h1, e⟩ := Option.bind_eq_some_iff.1 e
    obtain ⟨cs, h2, e⟩ := Option.bind_eq_some_iff.1 e
    cases hb : Nat.beq cs.length (Nat.mul (Nat.min n len) (T.size el)) with
    | false => rw [hb] at e; simp at e
    | true =>
      rw [hb, cond_true] at e
      obtain ⟨h3, h4, e⟩ := Option.bind_eq_some_iff.1 e
      rw [fN_eq] at e
      simp only [Option.some.injEq, Prod.mk.injEq] at e
      obtain ⟨rfl, rfl⟩ := e
      exact ⟨n, cs, h1, h2, Nat.eq_of_beq_eq_true hb, h4, rfl⟩
  have fin : ∀ {base : Option Addr} {len cap n : Nat} {cs' : List Value} {w' : World}, (Builtin.lenOf s').run P w = .ok n w → (Builtin.firstCells (T.size el) (Nat.min n len) s').run P w = .ok ⟨cs'⟩ w →
      (∀ ad, base = some ad → (Go.storeCells ad cs').run P w = .ok () w') → (base = none → w' = w) → (Builtin.copy_ ⟨t :: r⟩ ty #[.slice base len cap, s']).run P w = .ok (.int .i64 (.ofNat (Nat.min n len))) w' := by
    intro base len cap n cs' w' h1 h2 h3 h4
    cases base with
    | none => rw [h4 rfl]; simp [Builtin.copy_, run_underlying hu, h1, hsz, h2, goInt]
    | some ad => simp [Builtin.copy_, run_underlying hu, h1, hsz, h2, h3 ad rfl, goInt]
  cases hdv <;> try (simp only [copyV, reduceCtorEq] at e; done)
  case sliceNil n c hc hn =>
    obtain ⟨k, cs, e1, e2, e3, e4, rfl⟩ := inv e
    simp only [Option.some.injEq] at e4
    subst e4
    obtain ⟨cs', f1, f2, f3⟩ := firstCells_R (P := P) hw hs e1 (min_min k n) e2 e3
    exact ⟨_, w, fin (lenOf_R hs e1) f1 (fun _ h => by cases h) (fun _ => rfl), .int _ _, hw, Keep.refl _ _ _⟩
  case slice b o n c m hm hc hn =>
    obtain ⟨k, cs, e1, e2, e3, e4, rfl⟩ := inv e
    obtain ⟨cs', f1, f2, f3⟩ := firstCells_R (P := P) hw hs e1 (min_min k n) e2 e3
    obtain ⟨w', g1, g2, g3⟩ := storeCells_R (P := P) hw e4 hm f2
    exact ⟨_, w', fin (lenOf_R hs e1) f1 (fun _ h => by cases h; exact g1) (fun h => by cases h), .int _ _, g2, g3⟩
  case sliceUnk b o n o' c' m hm hn room place =>
    obtain ⟨k, cs, e1, e2, e3, e4, rfl⟩ := inv e
    obtain ⟨cs', f1, f2, f3⟩ := firstCells_R (P := P) hw hs e1 (min_min k n) e2 e3
    obtain ⟨w', g1, g2, g3⟩ := storeCells_R (P := P) hw e4 hm f2
    refine ⟨_, w', fin (lenOf_R hs e1) f1 (fun ad h => ?_) (fun h => by cases h), .int _ _, g2, g3⟩
    cases h
    rcases place with h0 | h0
    · have hk0 : Nat.min k n = 0 := by rw [h0]; exact Nat.min_zero k
      rw [hk0, Nat.zero_mul] at e3
      have : cs' = [] := by have := f2.length; rw [e3] at this; exact List.length_eq_zero_iff.1 this.symm
      subst this
      rw [run_storeCells_nil] at g1 ⊢
      exact g1
    · rw [h0]; exact g1

theorem run_setObj {r : Nat} {o ob : Obj} (hb : w.heap[r]? = some ob) (hnc : ∀ c e f, ob ≠ .cells c e f) : (setObj r o).run P w = .ok () { w with heap := w.heap.setIfInBounds r o } := by
  cases ob <;> first | exact absurd rfl (hnc _ _ _) | simp [setObj, Sem.run, hb]

theorem WR.setObj (hw : WR T ι h w) {b : Nat} {o o' : AObj} {m : Im} {ob' : Obj} (hb : h.get b = some o) (ho : o.owned = true) (hm : ι b = some m) (hob : ObjR T ι o' ob' m) (ho' : o'.owned = true := by rfl) :
    WR T ι (h.put b (some o')) { w with heap := w.heap.setIfInBounds m.blk ob' } ∧ Keep ι h w ι (h.put b (some o')) { w with heap := w.heap.setIfInBounds m.blk ob' } := by
  have hlt := hw.bound _ _ hm
  refine ⟨hw.write hb ho hm (by simp) (fun k hk => ?_) ?_ hob, Keep.write hw hb ho hm (by simp) (fun k hk => ?_) rfl rfl rfl (fun ob h => ?_)⟩
  · simp [Array.getElem?_setIfInBounds, Ne.symm hk]
  · simp [Array.getElem?_setIfInBounds, hlt]
  · simp [Array.getElem?_setIfInBounds, Ne.symm hk]
  · simp only [Array.getElem?_setIfInBounds, hlt, if_true, Option.some.injEq] at h; subst h; exact hob.bare ho'

/-- a key that is found again is the very same -/
theorem keyEq_eq {x y : Value} (hk : keyEq x y = some true) : x = y := by
  cases x <;> simp only [keyEq, reduceCtorEq] at hk <;> cases y <;> simp only [reduceCtorEq] at hk
  · simp only [Option.some.injEq, beqB_eq, beq_iff_eq] at hk; rw [hk]
  · rename_i k a k' b
    cases hkk : beqK k k' with
    | false => rw [hkk] at hk; simp at hk
    | true =>
      rw [hkk] at hk
      simp only [cond_true, Option.some.injEq, beqI_eq, beq_iff_eq] at hk
      rw [(beqK_iff _ _).1 hkk, hk]
  · rename_i s s'
    simp only [Option.some.injEq, beqS_eq, beq_iff_eq] at hk
    obtain ⟨⟨s⟩⟩ := s
    obtain ⟨⟨s'⟩⟩ := s'
    simp only at hk
    rw [hk]

theorem run_keyThatStays {k : Value} {d : TypeDesc} (hp : (∃ q n, k = .int q n ∧ d = .int q) ∨ (∃ s, k = .string s ∧ d = .string) ∨ (∃ c, k = .bool c ∧ d = .bool)) : (Instr.keyThatStays k k).run P w = .ok k w := by
  obtain ⟨n, hn⟩ : ∃ n, n + 1 = 10000 := ⟨9999, rfl⟩
  have : Instr.sameBits 10000 k k = true := by
    rw [← hn]
    rcases hp with ⟨q, n, rfl, rfl⟩ | ⟨s, rfl, rfl⟩ | ⟨c, rfl, rfl⟩
    · cases q <;> simp [Instr.sameBits] <;> rfl
    · simp only [Instr.sameBits]
      exact (MapKept.bytes_beq s s).2 rfl
    · simp [Instr.sameBits]
  simp [Instr.keyThatStays, this]

theorem updE_R {es es' : List MapEntry} (he : Ents T ι es es') {k v v' : Value} (hk : closedV k = true) (hv : VR T ι v v') (i : Nat) :
    Ents T ι (updE i k v es) (es'.modify i fun e => { e with key := k, val := v' }) := by
  induction he generalizing i with
  | nil => cases i <;> exact .nil
  | cons e e' l l' h hl ih =>
    cases i with
    | zero => exact .cons _ _ _ _ ⟨rfl, hk, hv, h.born⟩ hl
    | succ i => exact .cons _ _ _ _ h (ih i)

theorem Ents.append {a a' b b' : List MapEntry} (h : Ents T ι a a') (k : Ents T ι b b') : Ents T ι (a ++ b) (a' ++ b') := by
  induction h with
  | nil => exact k
  | cons e e' l l' h _ ih => exact .cons _ _ _ _ h ih

theorem mapUpdateF_R (hT : TabOk T P) (hw : WR T ι h w) {t : Nat} {f : H → Value → Value → Value → Option H} (hf : mapUpdateF T t = some f) {x x' k k' v v' : Value} (hx : VR T ι x x') (hk : VR T ι k k') (hv : VR T ι v v') {h' : H} (e : f h x k v = some h') :
    ∃ w', (Instr.mapUpdate t x' k' v').run P w = .ok () w' ∧ WR T ι h' w' ∧ Keep ι h w ι h' w' := by
  unfold mapUpdateF at hf
  cases hd : T.desc t with
  | none => simp [hd] at hf
  | some d =>
    have hu := hT.desc _ _ hd
    cases d <;> simp only [hd, reduceCtorEq] at hf
    rename_i kt et
    obtain ⟨pk, hpk, rfl⟩ := Option.map_eq_some_iff.1 hf
    cases hx <;> simp only [reduceCtorEq] at e
    rename_i r m hm
    cases hpb : pk k with
    | false => rw [hpb] at e; simp at e
    | true =>
      rw [hpb, cond_true] at e
      obtain ⟨rfl, hcl, dk, hdk, hp⟩ := plainKey_R hT hpk hk hpb
      cases hg : h.get r with
      | none => rw [hg] at e; simp at e
      | some ob =>
        rw [hg] at e
        cases ob <;> simp only [reduceCtorEq] at e
        rename_i es c
        obtain ⟨q, hq, rfl⟩ := Option.map_eq_some_iff.1 e
        obtain ⟨obj, l1, l2⟩ := hw.live _ _ _ hg hm
        cases l2 with
        | map _ es' _ _ he =>
          obtain ⟨q', f1, f2⟩ := findE_R hp he hq
          rcases f2 with ⟨rfl, rfl⟩ | ⟨j, u, u', rfl, rfl, _, _, y, y', g1, g2, g3, g4, g5, g6⟩
          · obtain ⟨s1, s2⟩ := hw.setObj (o' := .map (es ++ [{ key := k', val := v, born := c }]) (Nat.succ c)) (ob' := .map (es'.push { key := k', val := v', born := c }) (c + 1)) hg rfl hm
              (.map _ _ _ _ (by rw [Array.toList_push]; exact Ents.append he (.cons _ _ _ _ ⟨rfl, hcl, hv, rfl⟩ .nil)))
            refine ⟨_, ?_, s1, s2⟩
            simp [Instr.mapUpdate, run_underlying hu, run_getObj_map l1, checkKey_R hT hdk hp, run_findKey hT hdk f1, run_setObj l1]
          · have hkey : y'.key = k' := by rw [g3.key]; exact (keyEq_eq g6).symm
            have hj : es'[j]? = some y' := by simpa using g2
            obtain ⟨s1, s2⟩ := hw.setObj (o' := .map (updE j k' v es) c) (ob' := .map (es'.modify j fun e => { e with key := k', val := v' }) c) hg rfl hm
              (.map _ _ _ _ (by rw [Array.toList_modify]; exact updE_R he hcl hv j))
            refine ⟨_, ?_, s1, s2⟩
            simp [Instr.mapUpdate, run_underlying hu, run_getObj_map l1, checkKey_R hT hdk hp, run_findKey hT hdk f1, hj, hkey, run_keyThatStays hp, run_setObj l1]

end
end Go.Ev

/- iterators over maps; all effects that are no calls. -/
namespace Go.Ev

section
variable {T : Tab} {P : Program} {ι : Inj} {h : H} {w : World} {tm : Tm} {a : Act}

theorem iterF_R (hw : WR T ι h w) {it it' : Value} (hit : VR T ι it it') {r : Nat} {m : Option Nat} {since : Nat} {seen : List Nat} {st : Nat} (e : iterF h it = some (r, m, since, seen, st)) :
    ∃ mr, it' = .pointer (some ⟨mr.blk, 0, none⟩) ∧ ι r = some mr ∧ mr.off = 0 ∧ h.get r = some (.mapIter m since seen st) ∧
      ((m = none ∧ w.heap[mr.blk]? = some (.mapIter none since ⟨seen⟩ st)) ∨ ∃ q mq, m = some q ∧ ι q = some mq ∧ w.heap[mr.blk]? = some (.mapIter (some mq.blk) since ⟨seen⟩ st)) := by
  cases hit <;> simp only [iterF, reduceCtorEq] at e
  rename_i b o mr hm
  cases o with
  | succ o => simp at e
  | zero =>
    simp only at e
    cases hg : h.get b with
    | none => rw [hg] at e; simp at e
    | some ob =>
      rw [hg] at e
      cases ob <;> simp only [reduceCtorEq, Option.some.injEq, Prod.mk.injEq] at e
      obtain ⟨rfl, rfl, rfl, rfl, rfl⟩ := e
      obtain ⟨obj, l1, l2⟩ := hw.live _ _ _ hg hm
      cases l2 with
      | iterNil _ sn _ _ h0 => exact ⟨mr, by rw [h0], hm, h0, hg, .inl ⟨rfl, l1⟩⟩
      | iter q mq hq _ sn _ _ h0 => exact ⟨mr, by rw [h0], hm, h0, hg, .inr ⟨q, mq, rfl, hq, l1⟩⟩

theorem run_getObj {r : Nat} {ob : Obj} (hb : w.heap[r]? = some ob) (hnc : ∀ c e f, ob ≠ .cells c e f) : (getObj r).run P w = .ok ob w := by
  cases ob <;> first | exact absurd rfl (hnc _ _ _) | simp [getObj, Sem.run, hb]

theorem run_choose_one : (choose (.mapNext 1)).run P w = .ok 0 w := by
  simp [choose, Sem.run, Question.forced]

/-- a map's one entry -/
theorem map_live (hw : WR T ι h w) {q : Nat} {mq : Im} (hq : ι q = some mq) {es : List MapEntry} {c : Nat} (hg : h.get q = some (.map es c)) :
    ∃ es', w.heap[mq.blk]? = some (.map es' c) ∧ Ents T ι es es'.toList := by
  obtain ⟨obj, l1, l2⟩ := hw.live _ _ _ hg hq
  cases l2 with
  | map _ es' _ _ he => exact ⟨es', l1, he⟩

theorem Ents.one {x : MapEntry} {es' : Array MapEntry} (h : Ents T ι [x] es'.toList) : ∃ x', es' = #[x'] ∧ EntR T ι x x' := by
  obtain ⟨l⟩ := es'
  cases h with
  | cons _ e' _ l' h hl => cases hl; exact ⟨e', rfl, h⟩

theorem Ents.none {es' : Array MapEntry} (h : Ents T ι [] es'.toList) : es' = #[] := by
  obtain ⟨l⟩ := es'
  cases h
  rfl

theorem EntR.keyR {x x' : MapEntry} (h : EntR T ι x x') : VR T ι x.key x'.key := by rw [h.key]; exact closedV_VR T ι _ h.plain

theorem next_R (hw : WR T ι h w) (ht : TmR T ι tm a.tmps) {it : Operand} {ty : TypeId} {f : Tm → H → Option (Value × H)} (hf : effF T (.next it false) = some f) {v : Value} {h' : H} (e : f tm h = some (v, h')) :
    ∃ v' w', (Instr.next (a.eval it) false ty).run P w = .ok v' w' ∧ VR T ι v v' ∧ WR T ι h' w' ∧ Keep ι h w ι h' w' := by
  simp only [effF, Option.some.injEq] at hf
  subst hf
  dsimp only at e
  obtain ⟨⟨r, m, since, seen, last⟩, e1, e2⟩ := Option.bind_eq_some_iff.1 e
  obtain ⟨mr, g1, g2, g3, g4, g5⟩ := iterF_R hw (ev_R hw ht it) e1
  have over : ∀ (b : Bool), VR T ι (.tuple #[.bool b]) (.tuple #[.bool b]) := fun b => .tuple _ _ (.cons _ _ _ _ (.bool _) .nil)
  rcases g5 with ⟨rfl, g5⟩ | ⟨q, mq, rfl, hq, g5⟩
  · simp only [Option.some.injEq, Prod.mk.injEq] at e2
    obtain ⟨rfl, rfl⟩ := e2
    refine ⟨_, w, ?_, over _, hw, Keep.refl _ _ _⟩
    rw [g1]
    simp [Instr.next, run_getObj g5]
  · simp only at e2
    cases hg : h.get q with
    | none => rw [hg] at e2; simp at e2
    | some ob =>
      rw [hg] at e2
      cases ob with
      | map es c =>
        obtain ⟨es', k1, k2⟩ := map_live hw hq hg
        cases es with
        | nil =>
          have := k2.none
          subst this
          cases seen with
          | cons _ _ => simp at e2
          | nil =>
            simp only [Option.some.injEq, Prod.mk.injEq] at e2
            obtain ⟨rfl, rfl⟩ := e2
            refine ⟨_, w, ?_, over _, hw, Keep.refl _ _ _⟩
            rw [g1]
            simp [Instr.next, run_getObj g5, run_getObj k1, Question.forced]
        | cons x es =>
          cases es with
          | cons _ _ => simp at e2
          | nil =>
            obtain ⟨x', rfl, hx⟩ := k2.one
            cases seen with
            | nil =>
              simp only at e2
              cases hb : Nat.blt x.born since with
              | false => rw [hb] at e2; simp at e2
              | true =>
                rw [hb, cond_true] at e2
                simp only [Option.some.injEq, Prod.mk.injEq] at e2
                obtain ⟨rfl, rfl⟩ := e2
                have hlt : x'.born < since := by rw [hx.born]; simpa [Nat.blt_eq] using hb
                obtain ⟨s1, s2⟩ := hw.setObj (o' := .mapIter (some q) since [x.born] c) (ob' := .mapIter (some mq.blk) since #[x'.born] c) g4 rfl g2 (by
                  rw [← hx.born]
                  exact .iter q mq hq since #[x'.born] c mr g3)
                refine ⟨.tuple #[.bool true, x'.key, x'.val], _, ?_, .tuple _ _ (.cons _ _ _ _ (.bool _) (.cons _ _ _ _ hx.keyR (.cons _ _ _ _ hx.val .nil))), s1, s2⟩
                rw [g1]
                simp [Instr.next, run_getObj g5, run_getObj k1, Question.forced, run_setObj g5, hlt, Nat.not_le.2 hlt]
            | cons b seen =>
              cases seen with
              | cons _ _ => simp at e2
              | nil =>
                simp only at e2
                cases hb : Nat.beq b x.born with
                | false => rw [hb] at e2; simp at e2
                | true =>
                  rw [hb, cond_true] at e2
                  cases hb2 : Nat.blt x.born last with
                  | false => rw [hb2] at e2; simp at e2
                  | true =>
                    rw [hb2, cond_true] at e2
                    simp only [Option.some.injEq, Prod.mk.injEq] at e2
                    obtain ⟨rfl, rfl⟩ := e2
                    have hb' := Nat.eq_of_beq_eq_true hb
                    have hlt : x'.born < last := by rw [hx.born]; simpa [Nat.blt_eq] using hb2
                    rw [← hx.born] at hb'
                    subst hb'
                    refine ⟨_, w, ?_, over _, hw, Keep.refl _ _ _⟩
                    rw [g1]
                    have hno : ¬ (last ≤ x'.born) := by omega
                    simp [Instr.next, run_getObj g5, run_getObj k1, Question.forced, hno]
      | _ => simp at e2

theorem entry_R (hw : WR T ι h w) (ht : TmR T ι tm a.tmps) {it : Operand} {f : Tm → H → Option (Value × H)} (hf : effF T (.entry it) = some f) {v : Value} {h' : H} (e : f tm h = some (v, h')) :
    ∃ v', (Instr.entry (a.eval it)).run P w = .ok v' w ∧ VR T ι v v' ∧ h' = h := by
  simp only [effF, Option.some.injEq] at hf
  subst hf
  dsimp only at e
  obtain ⟨⟨r, m, since, seen, last⟩, e1, e2⟩ := Option.bind_eq_some_iff.1 e
  obtain ⟨mr, g1, g2, g3, g4, g5⟩ := iterF_R hw (ev_R hw ht it) e1
  rcases g5 with ⟨rfl, g5⟩ | ⟨q, mq, rfl, hq, g5⟩
  · simp at e2
  · simp only at e2
    cases hg : h.get q with
    | none => rw [hg] at e2; simp at e2
    | some ob =>
      rw [hg] at e2
      cases ob with
      | map es c =>
        obtain ⟨es', k1, k2⟩ := map_live hw hq hg
        cases es with
        | nil => simp at e2
        | cons x es =>
          cases es with
          | cons _ _ => simp at e2
          | nil =>
            obtain ⟨x', rfl, hx⟩ := k2.one
            cases seen with
            | nil => simp at e2
            | cons b seen =>
              cases seen with
              | cons _ _ => simp at e2
              | nil =>
                simp only at e2
                cases hb : Nat.beq c last with
                | false => rw [hb] at e2; simp at e2
                | true =>
                  rw [hb, cond_true] at e2
                  cases hb2 : Nat.beq x.born b with
                  | false => rw [hb2] at e2; simp at e2
                  | true =>
                    rw [hb2, cond_true] at e2
                    simp only [Option.some.injEq, Prod.mk.injEq] at e2
                    obtain ⟨rfl, rfl⟩ := e2
                    have h1 := Nat.eq_of_beq_eq_true hb
                    have h2 := Nat.eq_of_beq_eq_true hb2
                    refine ⟨.tuple #[x'.key, x'.val], ?_, .tuple _ _ (.cons _ _ _ _ hx.keyR (.cons _ _ _ _ hx.val .nil)), rfl⟩
                    rw [g1]
                    simp [Instr.entry, run_getObj g5, run_getObj k1, h1, h2, hx.born, Array.back?]
      | _ => simp at e2

theorem range_R (hT : TabOk T P) (hw : WR T ι h w) (ht : TmR T ι tm a.tmps) {x : Operand} {t : TypeId} {f : Tm → H → Option (Value × H)} (hf : effF T (.range t x) = some f) {v : Value} {h' : H} (e : f tm h = some (v, h')) :
    ∃ v' w' ι', (Instr.range t (a.eval x)).run P w = .ok v' w' ∧ VR T ι' v v' ∧ WR T ι' h' w' ∧ Keep ι h w ι' h' w' := by
  simp only [effF] at hf
  cases hd : T.desc t with
  | none => simp [hd] at hf
  | some d =>
    have hu := hT.desc _ _ hd
    cases d <;> simp only [hd, reduceCtorEq, Option.some.injEq] at hf
    subst hf
    dsimp only at e
    have hx := ev_R hw ht x
    generalize ev x tm = y at e hx
    generalize a.eval x = y' at hx
    cases hx <;> simp only [reduceCtorEq] at e
    case mapNil =>
      obtain ⟨⟨b, h2⟩, e1, e2⟩ := Option.map_eq_some_iff.1 e
      simp only [Prod.mk.injEq] at e2
      obtain ⟨rfl, rfl⟩ := e2
      obtain ⟨g1, g2, g3⟩ := hw.alloc (ob := .mapIter none 0 #[] 0) (m := ⟨w.heap.size, 0, 0, 0⟩) rfl e1 rfl (.iterNil 0 #[] 0 _ rfl)
      refine ⟨.pointer (some ⟨w.heap.size, 0, none⟩), _, _, ?_, ?_, g1, g2⟩
      · simp [Instr.range, run_underlying hu, newObj, Sem.run]
      · exact .ptr b 0 ⟨w.heap.size, 0, 0, 0⟩ (Inj.ins_eq _ _ _)
    case map r m hm =>
      cases hg : h.get r with
      | none => rw [hg] at e; simp at e
      | some ob =>
        rw [hg] at e
        cases ob <;> simp only [reduceCtorEq] at e
        rename_i es c
        obtain ⟨⟨b, h2⟩, e1, e2⟩ := Option.map_eq_some_iff.1 e
        simp only [Prod.mk.injEq] at e2
        obtain ⟨rfl, rfl⟩ := e2
        obtain ⟨es', k1, k2⟩ := map_live hw hm hg
        have hnn : ι b = none := by
          obtain ⟨rfl, _⟩ := H.new_eq e1
          cases hi : ι h.next with
          | none => rfl
          | some x => exact absurd (hw.ids _ _ hi) (by omega)
        obtain ⟨g1, g2, g3⟩ := hw.alloc (ob := .mapIter (some m.blk) c #[] c) (m := ⟨w.heap.size, 0, 0, 0⟩) rfl e1 rfl (.iter r m (Inj.le_ins _ _ hnn _ _ hm) c #[] c _ rfl)
        refine ⟨.pointer (some ⟨w.heap.size, 0, none⟩), _, _, ?_, ?_, g1, g2⟩
        · simp [Instr.range, run_underlying hu, run_getObj k1, newObj, Sem.run]
        · exact .ptr b 0 ⟨w.heap.size, 0, 0, 0⟩ (Inj.ins_eq _ _ _)

end
end Go.Ev

/- all effects that are no calls of functions. -/
namespace Go.Ev

section
variable {T : Tab} {P : Program} {ι : Inj} {h : H} {w : World} {tm : Tm} {a : Act}

/-- what an effect leaves: a value, or none -/
def NextR (T : Tab) (ι : Inj) (v : Value) (nx : Next) : Prop := (∃ v', nx = .value v' ∧ VR T ι v v') ∨ (nx = .skip ∧ v = undefV)

theorem eff_ok (hT : TabOk T P) (hw : WR T ι h w) (ht : TmR T ι tm a.tmps) {o : Oper} {f : Tm → H → Option (Value × H)} (hf : effF T o.op = some f) {v : Value} {h' : H} (hv : f tm h = some (v, h')) :
    ∃ (nx : Next) (w' : World) (ι' : Inj), (execOp a.eval o).run P w = .ok nx w' ∧ NextR T ι' v nx ∧ WR T ι' h' w' ∧ Keep ι h w ι' h' w' := by
  obtain ⟨dst, op, type, pos, after, guard⟩ := o
  cases op
  case assign x =>
    simp only [effF, Option.some.injEq] at hf
    subst hf
    simp only [Option.some.injEq, Prod.mk.injEq] at hv
    obtain ⟨rfl, rfl⟩ := hv
    exact ⟨_, w, ι, rfl, .inl ⟨_, rfl, ev_R hw ht x⟩, hw, Keep.refl _ _ _⟩
  case store t p x =>
    simp only [effF] at hf
    obtain ⟨b, hb, rfl⟩ := Option.map_eq_some_iff.1 hf
    obtain ⟨h1, e1, e2⟩ := Option.map_eq_some_iff.1 hv
    simp only [Prod.mk.injEq] at e2
    obtain ⟨rfl, rfl⟩ := e2
    obtain ⟨w', g1, g2, g3⟩ := storeV_R (P := P) hT hw (isAgg_desc hb) (ev_R hw ht p) (ev_R hw ht x) e1
    exact ⟨.skip, w', ι, by simp [execOp, g1], .inr ⟨rfl, rfl⟩, g2, g3⟩
  case mapUpdate t m k x =>
    simp only [effF] at hf
    obtain ⟨g, hg, rfl⟩ := Option.map_eq_some_iff.1 hf
    obtain ⟨h1, e1, e2⟩ := Option.map_eq_some_iff.1 hv
    simp only [Prod.mk.injEq] at e2
    obtain ⟨rfl, rfl⟩ := e2
    obtain ⟨w', g1, g2, g3⟩ := mapUpdateF_R (P := P) hT hw hg (ev_R hw ht m) (ev_R hw ht k) (ev_R hw ht x) e1
    exact ⟨.skip, w', ι, by simp [execOp, g1], .inr ⟨rfl, rfl⟩, g2, g3⟩
  case insert t m k x =>
    simp only [effF] at hf
    obtain ⟨g, hg, rfl⟩ := Option.map_eq_some_iff.1 hf
    obtain ⟨h1, e1, e2⟩ := Option.map_eq_some_iff.1 hv
    simp only [Prod.mk.injEq] at e2
    obtain ⟨rfl, rfl⟩ := e2
    obtain ⟨w', g1, g2, g3⟩ := mapUpdateF_R (P := P) hT hw hg (ev_R hw ht m) (ev_R hw ht k) (ev_R hw ht x) e1
    exact ⟨.skip, w', ι, by simp [execOp, g1], .inr ⟨rfl, rfl⟩, g2, g3⟩
  case range t x =>
    obtain ⟨v', w', ι', g1, g2, g3, g4⟩ := range_R (P := P) hT hw ht hf hv
    exact ⟨.value v', w', ι', by simp [execOp, g1], .inl ⟨_, rfl, g2⟩, g3, g4⟩
  case next it s =>
    cases s with
    | true => simp [effF] at hf
    | false =>
      obtain ⟨v', w', g1, g2, g3, g4⟩ := next_R (P := P) (ty := type) hw ht hf hv
      exact ⟨.value v', w', ι, by simp [execOp, g1], .inl ⟨_, rfl, g2⟩, g3, g4⟩
  case entry it =>
    obtain ⟨v', g1, g2, rfl⟩ := entry_R (P := P) hw ht hf hv
    exact ⟨.value v', w, ι, by simp [execOp, g1], .inl ⟨_, rfl, g2⟩, hw, Keep.refl _ _ _⟩
  case call c =>
    obtain ⟨callee, ⟨args⟩, ⟨argTypes⟩⟩ := c
    cases callee with
    | builtin b =>
      cases b
      case append =>
        simp only [effF] at hf
        split at hf
        · rename_i t u s x
          have hu : ∃ d, T.desc u = some d ∧ (∀ k, d ≠ .int k) ∧ (appendF T t).map (fun f tm h => f h (ev s tm) (ev x tm)) = some f := by
            cases hd : T.desc u with
            | none => rw [hd] at hf; simp at hf
            | some d =>
              rw [hd] at hf
              cases d <;> first | exact ⟨_, rfl, (fun k e => by cases e), hf⟩ | simp at hf
          obtain ⟨d, hd, hdi, hf⟩ := hu
          obtain ⟨g, hg, rfl⟩ := Option.map_eq_some_iff.1 hf
          unfold appendF at hg
          cases hs : T.desc t with
          | none => simp [hs] at hg
          | some ds =>
            cases ds <;> simp only [hs, reduceCtorEq] at hg
            rename_i el
            obtain ⟨z, hz, rfl⟩ := Option.map_eq_some_iff.1 hg
            obtain ⟨v', w', ι', g1, g2, g3, g4⟩ := appendV_R (P := P) (ty := type) hT hw hs (hT.desc _ _ hd) hdi hz (ev_R hw ht s) (ev_R hw ht x) hv
            exact ⟨.value v', w', ι', by simp [execOp, resolve, invoke, builtin, g1], .inl ⟨_, rfl, g2⟩, g3, g4⟩
        · cases hf
      case copy =>
        simp only [effF] at hf
        split at hf
        · rename_i t r d s
          cases hs : T.desc t with
          | none => simp [hs] at hf
          | some ds =>
            cases ds <;> simp only [hs, reduceCtorEq, Option.some.injEq] at hf
            subst hf
            obtain ⟨v', w', g1, g2, g3, g4⟩ := copyV_R (P := P) (ty := type) (r := r) hT hw hs (ev_R hw ht d) (ev_R hw ht s) hv
            exact ⟨.value v', w', ι, by simp [execOp, resolve, invoke, builtin, g1], .inl ⟨_, rfl, g2⟩, g3, g4⟩
        · cases hf
      all_goals simp [effF] at hf
    | _ => simp [effF] at hf
  all_goals simp [effF] at hf

end
end Go.Ev

/- An operation looks at its operands alone. -/
namespace Go.Ev

section
variable {T : Tab} {tm tm' : Tm}

theorem evL_congr {l : List Operand} (h : ∀ x ∈ l, ev x tm = ev x tm') : evL l tm = evL l tm' := by
  induction l with
  | nil => rfl
  | cons x l ih =>
    simp only [evL]
    rw [h x (by simp), ih fun y hy => h y (by simp [hy])]

theorem fillL_congr : ∀ {ps : List (Operand × Nat × Nat)} (_ : ∀ p ∈ ps, ev p.1 tm = ev p.1 tm') (cells : List Value), fillL ps cells tm = fillL ps cells tm'
  | [], _, _ => rfl
  | (x, off, size) :: rest, h, cells => by
    simp only [fillL]
    rw [h (x, off, size) (by simp)]
    have ih := fun cs => fillL_congr (ps := rest) (fun p hp => h p (by simp [hp])) cs
    simp only [ih]

theorem arrayParts_mem {size : Nat} {parts : List (Nat × Operand)} {p : Operand × Nat × Nat} (h : p ∈ arrayParts size parts) : ∃ q ∈ parts, q.2 = p.1 := by
  induction parts with
  | nil => simp [arrayParts] at h
  | cons q parts ih =>
    obtain ⟨i, x⟩ := q
    simp only [arrayParts, List.mem_cons] at h
    rcases h with rfl | h
    · exact ⟨(i, x), by simp, rfl⟩
    · obtain ⟨q, h1, h2⟩ := ih h
      exact ⟨q, by simp [h1], h2⟩

theorem structParts_mem {fs : Array Field} : ∀ {parts : List (Nat × Operand)} {ps : List (Operand × Nat × Nat)} (_ : structParts T fs parts = some ps) {p : Operand × Nat × Nat} (_ : p ∈ ps), ∃ q ∈ parts, q.2 = p.1
  | [], ps, h, p, hp => by
    simp only [structParts, Option.some.injEq] at h
    subst h
    simp at hp
  | (i, x) :: rest, ps, h, p, hp => by
    simp only [structParts] at h
    obtain ⟨f, hf, h⟩ := Option.bind_eq_some_iff.1 h
    obtain ⟨qs, hq, rfl⟩ := Option.map_eq_some_iff.1 h
    simp only [List.mem_cons] at hp
    rcases hp with rfl | hp
    · exact ⟨(i, x), by simp, rfl⟩
    · obtain ⟨q, h1, h2⟩ := structParts_mem hq hp
      exact ⟨q, by simp [h1], h2⟩

theorem boundO_congr {x : Option Operand} (h : ∀ y, x = some y → ev y tm = ev y tm') (d y : Nat) : boundO x d y tm = boundO x d y tm' := by
  cases x with
  | none => rfl
  | some x => simp only [boundO]; rw [h x rfl]

theorem bounds_congr {lo hi mx : Option Operand} (h1 : ∀ y, lo = some y → ev y tm = ev y tm') (h2 : ∀ y, hi = some y → ev y tm = ev y tm') (h3 : ∀ y, mx = some y → ev y tm = ev y tm') (l c : Nat) :
    bounds l c lo hi mx tm = bounds l c lo hi mx tm' := by
  simp only [bounds, boundO_congr h1, boundO_congr h2, boundO_congr h3]

theorem pure_congr {op : Op} {f : Tm → H → Option Value} (hf : pureF T op = some f) (ha : ∀ x ∈ op.operands, ev x tm = ev x tm') (h : H) : f tm h = f tm' h := by
  cases op <;> simp only [pureF, reduceCtorEq] at hf
  case move x =>
    simp only [Option.some.injEq] at hf; subst hf
    simp only [ha x (by simp [Op.operands])]
  case pick c x y =>
    simp only [Option.some.injEq] at hf; subst hf
    simp only [ha c (by simp [Op.operands]), ha x (by simp [Op.operands]), ha y (by simp [Op.operands])]
  case build t parts =>
    unfold buildF at hf
    obtain ⟨z, hz, hf⟩ := Option.bind_eq_some_iff.1 hf
    have hp : ∀ q ∈ parts.toList, ev q.2 tm = ev q.2 tm' := fun q hq => ha q.2 (by simp [Op.operands]; exact ⟨q.1, by simpa using hq⟩)
    cases hd : T.desc t with
    | none => simp [hd] at hf
    | some d =>
      cases d <;> simp only [hd, reduceCtorEq] at hf
      case struct fs =>
        obtain ⟨ps, hps, rfl⟩ := Option.map_eq_some_iff.1 hf
        simp only
        rw [fillL_congr fun p hp' => ?_]
        obtain ⟨q, h1, h2⟩ := structParts_mem hps hp'
        rw [← h2]; exact hp q h1
      case array n el =>
        simp only [Option.some.injEq] at hf; subst hf
        simp only
        rw [fillL_congr fun p hp' => ?_]
        obtain ⟨q, h1, h2⟩ := arrayParts_mem hp'
        rw [← h2]; exact hp q h1
  case load t x =>
    obtain ⟨g, hg, rfl⟩ := Option.map_eq_some_iff.1 hf
    simp only [ha x (by simp [Op.operands])]
  case nilCheck x =>
    simp only [Option.some.injEq] at hf; subst hf
    simp only [ha x (by simp [Op.operands])]
  case binOp op t x y u =>
    obtain ⟨g, hg, rfl⟩ := Option.map_eq_some_iff.1 hf
    simp only [ha x (by simp [Op.operands]), ha y (by simp [Op.operands])]
  case unOp op t x =>
    obtain ⟨g, hg, rfl⟩ := Option.map_eq_some_iff.1 hf
    simp only [ha x (by simp [Op.operands])]
  case convert s d x =>
    obtain ⟨g, hg, rfl⟩ := Option.map_eq_some_iff.1 hf
    simp only [ha x (by simp [Op.operands])]
  case makeInterface t x =>
    have hx := ha x (by simp [Op.operands])
    cases hd : T.desc t with
    | none => simp [hd] at hf
    | some d =>
      cases d <;> simp only [hd, reduceCtorEq, Option.some.injEq] at hf
      all_goals subst hf; simp only [hx]
  case makeFunc fn first captured =>
    have h1 : evL first.toList tm = evL first.toList tm' := evL_congr fun x hx => ha x (by simp [Op.operands]; exact .inl (by simpa using hx))
    have h2 : evL captured.toList tm = evL captured.toList tm' := evL_congr fun x hx => ha x (by simp [Op.operands]; exact .inr (by simpa using hx))
    cases hb : plainFn fn with
    | false => rw [hb] at hf; simp at hf
    | true =>
      rw [hb, cond_true] at hf
      simp only [Option.some.injEq] at hf; subst hf
      simp only [h1, h2]
  case slice t x lo hi mx =>
    have hx := ha x (by simp [Op.operands])
    have h1 : ∀ y, lo = some y → ev y tm = ev y tm' := fun y e => ha y (by simp [Op.operands, e])
    have h2 : ∀ y, hi = some y → ev y tm = ev y tm' := fun y e => ha y (by simp [Op.operands, e])
    have h3 : ∀ y, mx = some y → ev y tm = ev y tm' := fun y e => ha y (by simp [Op.operands, e])
    unfold sliceF at hf
    cases hb : okBounds hi mx with
    | false => rw [hb] at hf; simp at hf
    | true =>
      rw [hb, cond_true] at hf
      cases hd : T.desc t with
      | none => simp [hd] at hf
      | some d =>
        cases d <;> simp only [hd, reduceCtorEq] at hf
        case string =>
          cases mx with
          | some _ => simp at hf
          | none =>
            simp only [Option.some.injEq] at hf; subst hf
            simp only [hx, bounds_congr h1 h2 h3]
        case slice e =>
          simp only [Option.some.injEq] at hf; subst hf
          simp only [hx, bounds_congr h1 h2 h3]
        case array n e =>
          simp only [Option.some.injEq] at hf; subst hf
          simp only [hx, bounds_congr h1 h2 h3]
  case fieldAddr s x i =>
    have hx := ha x (by simp [Op.operands])
    cases hd : T.desc s with
    | none => simp [hd] at hf
    | some d =>
      cases d <;> simp only [hd, reduceCtorEq] at hf
      obtain ⟨fl, hfl, hf⟩ := Option.bind_eq_some_iff.1 hf
      cases hb : Nat.beq (T.size fl.type) 0 with
      | true => rw [hb] at hf; simp at hf
      | false =>
        rw [hb, cond_false] at hf
        simp only [Option.some.injEq] at hf; subst hf
        simp only [hx]
  case field s x i =>
    have hx := ha x (by simp [Op.operands])
    cases hd : T.desc s with
    | none => simp [hd] at hf
    | some d =>
      cases d <;> simp only [hd, reduceCtorEq] at hf
      obtain ⟨fl, hfl, hf⟩ := Option.bind_eq_some_iff.1 hf
      obtain ⟨g, hg, rfl⟩ := Option.map_eq_some_iff.1 hf
      simp only [hx]
  case indexAddr t x i =>
    obtain ⟨g, hg, rfl⟩ := Option.map_eq_some_iff.1 hf
    simp only [ha x (by simp [Op.operands]), ha i (by simp [Op.operands])]
  case index t x i =>
    obtain ⟨g, hg, rfl⟩ := Option.map_eq_some_iff.1 hf
    simp only [ha x (by simp [Op.operands]), ha i (by simp [Op.operands])]
  case lookup t x i ok =>
    obtain ⟨g, hg, rfl⟩ := Option.map_eq_some_iff.1 hf
    simp only [ha x (by simp [Op.operands]), ha i (by simp [Op.operands])]
  case typeAssert x u t ok =>
    obtain ⟨g, hg, rfl⟩ := Option.map_eq_some_iff.1 hf
    simp only [ha x (by simp [Op.operands])]
  case extract x i =>
    simp only [Option.some.injEq] at hf; subst hf
    simp only [ha x (by simp [Op.operands])]
  case call c =>
    obtain ⟨callee, ⟨args⟩, ⟨argTypes⟩⟩ := c
    cases callee <;> simp only [reduceCtorEq] at hf
    rename_i b
    have hx : ∀ x ∈ args, ev x tm = ev x tm' := fun x hx => ha x (by simp [Op.operands, Call.operands]; exact hx)
    cases b <;> simp only [lookF, reduceCtorEq] at hf
    case len =>
      split at hf
      · rename_i t x
        obtain ⟨g, hg, rfl⟩ := Option.map_eq_some_iff.1 hf
        simp only [hx x (by simp)]
      · cases hf
    case cap =>
      split at hf
      · rename_i t x
        cases hd : T.desc t with
        | none => simp [hd] at hf
        | some d =>
          cases d <;> simp only [hd, reduceCtorEq, Option.some.injEq] at hf
          subst hf
          simp only [hx x (by simp)]
      · cases hf
    case min =>
      split at hf
      · rename_i x y
        simp only [Option.some.injEq] at hf; subst hf
        simp only [hx x (by simp), hx y (by simp)]
      · cases hf
    case max =>
      split at hf
      · rename_i x y
        simp only [Option.some.injEq] at hf; subst hf
        simp only [hx x (by simp), hx y (by simp)]
      · cases hf

/-- what is not 'heapy' does not look at memory -/
theorem pure_heap {op : Op} {f : Tm → H → Option Value} (hf : pureF T op = some f) (hh : heapy op = false) (tm : Tm) (h h' : H) : f tm h = f tm h' := by
  cases op <;> simp only [pureF, reduceCtorEq] at hf <;> simp only [heapy, reduceCtorEq] at hh
  case build t parts =>
    unfold buildF at hf
    obtain ⟨z, hz, hf⟩ := Option.bind_eq_some_iff.1 hf
    cases hd : T.desc t with
    | none => simp [hd] at hf
    | some d =>
      cases d <;> simp only [hd, reduceCtorEq] at hf
      case struct fs => obtain ⟨ps, hps, rfl⟩ := Option.map_eq_some_iff.1 hf; rfl
      case array n el => simp only [Option.some.injEq] at hf; subst hf; rfl
  case makeInterface t x =>
    cases hd : T.desc t with
    | none => simp [hd] at hf
    | some d =>
      cases d <;> simp only [hd, reduceCtorEq, Option.some.injEq] at hf
      all_goals subst hf; rfl
  case makeFunc fn first captured =>
    cases hb : plainFn fn with
    | false => rw [hb] at hf; simp at hf
    | true => rw [hb, cond_true] at hf; simp only [Option.some.injEq] at hf; subst hf; rfl
  case fieldAddr s x i =>
    cases hd : T.desc s with
    | none => simp [hd] at hf
    | some d =>
      cases d <;> simp only [hd, reduceCtorEq] at hf
      obtain ⟨fl, hfl, hf⟩ := Option.bind_eq_some_iff.1 hf
      cases hb : Nat.beq (T.size fl.type) 0 with
      | true => rw [hb] at hf; simp at hf
      | false => rw [hb, cond_false] at hf; simp only [Option.some.injEq] at hf; subst hf; rfl
  case field s x i =>
    cases hd : T.desc s with
    | none => simp [hd] at hf
    | some d =>
      cases d <;> simp only [hd, reduceCtorEq] at hf
      obtain ⟨fl, hfl, hf⟩ := Option.bind_eq_some_iff.1 hf
      obtain ⟨g, hg, rfl⟩ := Option.map_eq_some_iff.1 hf
      rfl
  all_goals first
    | (simp only [Option.some.injEq] at hf; subst hf; rfl)
    | (obtain ⟨g, hg, rfl⟩ := Option.map_eq_some_iff.1 hf; rfl)

theorem made_congr {op : Op} {f : Tm → Option (AObj × (Nat → Value))} (hf : madeF T op = some f) (ha : ∀ x ∈ op.operands, ev x tm = ev x tm') : f tm = f tm' := by
  cases op <;> simp only [madeF, reduceCtorEq] at hf
  case alloc t =>
    obtain ⟨z, hz, rfl⟩ := Option.map_eq_some_iff.1 hf
    rfl
  case box t x =>
    simp only [Option.some.injEq] at hf; subst hf
    simp only [ha x (by simp [Op.operands])]
  case buildSlice t len parts =>
    have hp : ∀ q ∈ parts.toList, ev q.2 tm = ev q.2 tm' := fun q hq => ha q.2 (by simp [Op.operands]; exact ⟨q.1, by simpa using hq⟩)
    cases hd : T.desc t with
    | none => simp [hd] at hf
    | some d =>
      cases d <;> simp only [hd, reduceCtorEq] at hf
      rename_i el
      cases hb : Nat.ble (Nat.mul len (T.size el)) 16777216 with
      | false => rw [hb] at hf; simp at hf
      | true =>
        rw [hb, cond_true] at hf
        cases hb2 : Nat.ble len 16777216 with
        | false => rw [hb2] at hf; simp at hf
        | true =>
          rw [hb2, cond_true] at hf
          obtain ⟨z, hz, rfl⟩ := Option.map_eq_some_iff.1 hf
          simp only
          rw [fillL_congr fun p hp' => ?_]
          obtain ⟨q, h1, h2⟩ := arrayParts_mem hp'
          rw [← h2]; exact hp q h1
  case makeSlice t l c =>
    have hl := ha l (by simp [Op.operands])
    have hc := ha c (by simp [Op.operands])
    cases hd : T.desc t with
    | none => simp [hd] at hf
    | some d =>
      cases d <;> simp only [hd, reduceCtorEq] at hf
      rename_i el
      cases hb : Nat.ble (T.size el) 1000 with
      | false => rw [hb] at hf; simp at hf
      | true =>
        rw [hb, cond_true] at hf
        obtain ⟨z, hz, rfl⟩ := Option.map_eq_some_iff.1 hf
        simp only [hl, hc]
  case makeMap t r =>
    cases r with
    | some _ => simp at hf
    | none => simp only [Option.some.injEq] at hf; subst hf; rfl

theorem eff_congr {op : Op} {f : Tm → H → Option (Value × H)} (hf : effF T op = some f) (ha : ∀ x ∈ op.operands, ev x tm = ev x tm') (h : H) : f tm h = f tm' h := by
  cases op <;> simp only [effF, reduceCtorEq] at hf
  case assign x =>
    simp only [Option.some.injEq] at hf; subst hf
    simp only [ha x (by simp [Op.operands])]
  case store t p x =>
    obtain ⟨b, hb, rfl⟩ := Option.map_eq_some_iff.1 hf
    simp only [ha x (by simp [Op.operands]), ha p (by simp [Op.operands])]
  case mapUpdate t m k x =>
    obtain ⟨g, hg, rfl⟩ := Option.map_eq_some_iff.1 hf
    simp only [ha x (by simp [Op.operands]), ha m (by simp [Op.operands]), ha k (by simp [Op.operands])]
  case insert t m k x =>
    obtain ⟨g, hg, rfl⟩ := Option.map_eq_some_iff.1 hf
    simp only [ha x (by simp [Op.operands]), ha m (by simp [Op.operands]), ha k (by simp [Op.operands])]
  case range t x =>
    have hx := ha x (by simp [Op.operands])
    cases hd : T.desc t with
    | none => simp [hd] at hf
    | some d =>
      cases d <;> simp only [hd, reduceCtorEq, Option.some.injEq] at hf
      subst hf
      simp only [hx]
  case next it s =>
    have hx := ha it (by simp [Op.operands])
    cases s with
    | true => simp at hf
    | false =>
      simp only [Option.some.injEq] at hf; subst hf
      simp only [hx]
  case entry it =>
    have hx := ha it (by simp [Op.operands])
    simp only [Option.some.injEq] at hf; subst hf
    simp only [hx]
  case call c =>
    obtain ⟨callee, ⟨args⟩, ⟨argTypes⟩⟩ := c
    have hx : ∀ x ∈ args, ev x tm = ev x tm' := fun x hx => ha x (by simp [Op.operands, Call.operands]; cases callee <;> simp [hx])
    cases callee with
    | builtin b =>
      cases b
      case append =>
        simp only at hf
        split at hf
        · rename_i t u s x
          have hu : (appendF T t).map (fun f tm h => f h (ev s tm) (ev x tm)) = some f := by
            cases hd : T.desc u with
            | none => rw [hd] at hf; simp at hf
            | some d =>
              rw [hd] at hf
              cases d <;> first | exact hf | simp at hf
          obtain ⟨g, hg, rfl⟩ := Option.map_eq_some_iff.1 hu
          simp only [hx s (by simp), hx x (by simp)]
        · cases hf
      case copy =>
        simp only at hf
        split at hf
        · rename_i t r d s
          cases hd : T.desc t with
          | none => simp [hd] at hf
          | some ds =>
            cases ds <;> simp only [hd, reduceCtorEq, Option.some.injEq] at hf
            subst hf
            simp only [hx s (by simp), hx d (by simp)]
        · cases hf
      all_goals simp at hf
    | _ => simp at hf

end
end Go.Ev

/- The orders in which a region may be gone through. -/
namespace Go.Ev

/-- an order of what is not yet done: each operation behind those that it must follow in every mode; nothing is left out -/
inductive Sched (ops : Array Oper) : (Nat → Bool) → List Nat → Prop
  | nil (L : Nat → Bool) (h : ∀ i, i < ops.size → L i = true) : Sched ops L []
  | cons (L : Nat → Bool) (i : Nat) (o : Oper) (l : List Nat) (ho : ops[i]? = some o) (hi : L i = false) (ha : ∀ e ∈ o.after, Region.binds .any e = true → L e.on = true)
      (h : Sched ops (fun k => k == i || L k) l) : Sched ops L (i :: l)

theorem binds_any {md : Region.Mode} {e : Edge} (h : Region.binds .any e = true) : Region.binds md e = true := by
  obtain ⟨on, g⟩ := e
  cases g <;> simp_all [Region.binds]

theorem mem_ready {md : Region.Mode} {ops : Array Oper} {listed : Array Bool} {i : Nat} (h : i ∈ Region.ready md ops listed) :
    ∃ o, ops[i]? = some o ∧ listed.getD i true = false ∧ ∀ e ∈ o.after, Region.binds md e = true → listed.getD e.on false = true := by
  unfold Region.ready at h
  rw [List.mem_filter] at h
  obtain ⟨h1, h2⟩ := h
  rw [List.mem_range] at h1
  rw [Array.getElem?_eq_getElem h1] at h2 ⊢
  simp only [Option.map_some, Option.getD_some, Bool.and_eq_true, Bool.not_eq_true', Array.all_eq_true_iff_forall_mem, Bool.or_eq_true] at h2
  refine ⟨_, rfl, h2.1, fun e he hb => ?_⟩
  rcases h2.2 e he with h3 | h3
  · rw [hb] at h3; cases h3
  · exact h3

theorem ready_mem {md : Region.Mode} {ops : Array Oper} {listed : Array Bool} {i : Nat} {o : Oper} (ho : ops[i]? = some o) (hl : listed.getD i true = false)
    (ha : ∀ e ∈ o.after, Region.binds md e = true → listed.getD e.on false = true) : i ∈ Region.ready md ops listed := by
  unfold Region.ready
  rw [List.mem_filter]
  refine ⟨List.mem_range.2 (Array.getElem?_eq_some_iff.1 ho).1, ?_⟩
  rw [ho]
  simp only [Option.map_some, Option.getD_some, Bool.and_eq_true, Bool.not_eq_true', Array.all_eq_true_iff_forall_mem, Bool.or_eq_true]
  refine ⟨hl, fun e he => ?_⟩
  cases hb : Region.binds md e with
  | false => exact .inl rfl
  | true => exact .inr (ha e he hb)

/-- nothing stands still before all is done -/
def Comp (md : Region.Mode) (ops : Array Oper) : Prop := ∀ listed : Array Bool, listed.size = ops.size → Region.ready md ops listed = [] → ∀ i, i < ops.size → listed.getD i false = true

theorem getD_both {l : Array Bool} {i : Nat} (h : i < l.size) (a b : Bool) : l.getD i a = l.getD i b := by simp [Array.getD, h]

theorem getD_set_eq {l : Array Bool} {i : Nat} (h : i < l.size) (b : Bool) : (l.setIfInBounds i true).getD i b = true := by
  rw [Array.getD_eq_getD_getElem?, Array.getElem?_setIfInBounds]; simp [h]
theorem getD_set_ne (l : Array Bool) {i k : Nat} (h : k ≠ i) (b : Bool) : (l.setIfInBounds i true).getD k b = l.getD k b := by
  rw [Array.getD_eq_getD_getElem?, Array.getD_eq_getD_getElem?, Array.getElem?_setIfInBounds, if_neg (Ne.symm h)]

theorem sched_go {md : Region.Mode} {ops : Array Oper} (hc : Comp md ops) : ∀ (fuel t : Nat) (listed : Array Bool), listed.size = ops.size → ((List.range ops.size).countP fun i => !listed.getD i true) ≤ fuel →
    Sched ops (fun k => listed.getD k false) (Region.linearise.go md ops fuel t listed []) := by
  intro fuel
  induction fuel with
  | zero =>
    intro t listed hs hl
    simp only [Region.linearise.go, List.reverse_nil]
    refine .nil _ fun i hi => ?_
    have h0 : ((List.range ops.size).countP fun i => !listed.getD i true) = 0 := by omega
    have := List.countP_eq_zero.1 h0 i (List.mem_range.2 hi)
    rw [getD_both (by omega) false true]
    simpa using this
  | succ fuel ih =>
    intro t listed hs hl
    simp only [Region.linearise.go]
    change Sched ops (fun k => listed.getD k false) (match (Region.ready md ops listed)[t % (Region.ready md ops listed).length]? with
      | some i => Region.linearise.go md ops fuel (t / (Region.ready md ops listed).length) (listed.setIfInBounds i true) [i]
      | none => [].reverse)
    cases hi : (Region.ready md ops listed)[t % (Region.ready md ops listed).length]? with
    | none =>
      have hnil : Region.ready md ops listed = [] := by
        cases hr : Region.ready md ops listed with
        | nil => rfl
        | cons x xs =>
          rw [hr] at hi
          have hlt : t % (x :: xs).length < (x :: xs).length := Nat.mod_lt _ (by simp)
          simp at hi
          simp at hlt
          omega
      exact .nil _ (hc listed hs hnil)
    | some i =>
      simp only
      rw [linearise_go_acc, List.reverse_singleton, List.singleton_append]
      obtain ⟨o, ho, hl1, ha⟩ := mem_ready (List.mem_of_getElem? hi)
      have hlt : i < ops.size := (Array.getElem?_eq_some_iff.1 ho).1
      refine .cons _ i o _ ho (by rw [getD_both (by omega) false true]; exact hl1) (fun e he hb => ha e he (binds_any hb)) ?_
      have hfun : (fun k => k == i || listed.getD k false) = fun k => (listed.setIfInBounds i true).getD k false := by
        funext k
        by_cases hk : k = i
        · subst hk; rw [getD_set_eq (by omega)]; simp
        · rw [getD_set_ne _ hk]; simp [hk]
      rw [hfun]
      refine ih _ _ (by simp [hs]) ?_
      have hlt2 : ((List.range ops.size).countP fun k => !(listed.setIfInBounds i true).getD k true) < ((List.range ops.size).countP fun k => !listed.getD k true) := by
        have hmem : i ∈ List.range ops.size := List.mem_range.2 hlt
        have key : ∀ l : List Nat, (∀ x ∈ l, x < ops.size) → ((l.countP fun k => !(listed.setIfInBounds i true).getD k true) ≤ (l.countP fun k => !listed.getD k true)) ∧ (i ∈ l → (l.countP fun k => !(listed.setIfInBounds i true).getD k true) < (l.countP fun k => !listed.getD k true)) := by
          intro l
          induction l with
          | nil => intro _; simp
          | cons x l ihl =>
            intro hx
            obtain ⟨h1, h2⟩ := ihl fun y hy => hx y (by simp [hy])
            have hxl := hx x (by simp)
            by_cases hxi : x = i
            · subst hxi
              have e1 : (!(listed.setIfInBounds x true).getD x true) = false := by rw [getD_set_eq (by omega)]; rfl
              have e2 : (!listed.getD x true) = true := by rw [hl1]; rfl
              rw [List.countP_cons, List.countP_cons, e1, e2, if_pos rfl, if_neg (by decide)]
              exact ⟨by omega, fun _ => by omega⟩
            · have e1 : (listed.setIfInBounds i true).getD x true = listed.getD x true := getD_set_ne _ hxi true
              rw [List.countP_cons, List.countP_cons, e1]
              refine ⟨by omega, fun hm => ?_⟩
              have := h2 (by simpa [Ne.symm hxi] using hm)
              omega
        exact (key _ fun x hx => List.mem_range.1 hx).2 hmem
      omega

theorem sched_linearise {md : Region.Mode} {ops : Array Oper} (hc : Comp md ops) (t : Nat) : Sched ops (fun _ => false) (Region.linearise md ops t) := by
  have h := sched_go hc ops.size t (Array.replicate ops.size false) (by simp) (Nat.le_trans List.countP_le_length (by simp))
  have hfun : (fun k => (Array.replicate ops.size false).getD k false) = fun _ => false := by
    funext k
    by_cases hk : k < ops.size <;> simp [Array.getD, hk]
  rw [hfun] at h
  exact h

/-- edges that lead back leave nothing out -/
theorem comp_back {md : Region.Mode} {ops : Array Oper} (hb : ∀ i o, ops[i]? = some o → ∀ e ∈ o.after, Region.binds md e = true → e.on < i) : Comp md ops := by
  intro listed hs hr i
  induction i using Nat.strongRecOn with
  | _ i ih =>
    intro hi
    cases hl : listed.getD i false with
    | true => rfl
    | false =>
      have ho : ops[i]? = some ops[i] := Array.getElem?_eq_getElem hi
      have : i ∈ Region.ready md ops listed := ready_mem ho (by rw [getD_both (by omega) true false]; exact hl) fun e he hbe => ih e.on (hb i _ ho e he hbe) (by have := hb i _ ho e he hbe; omega)
      rw [hr] at this
      cases this

theorem nodup_le : ∀ (n : Nat) (l : List Nat), l.Nodup → (∀ x ∈ l, x < n) → l.length ≤ n
  | 0, l, _, h => by
    cases l with
    | nil => simp
    | cons x l => exact absurd (h x (by simp)) (by omega)
  | n + 1, l, hd, h => by
    have h1 := nodup_le n (l.erase n) (hd.erase n) fun x hx => by
      obtain ⟨h1, h2⟩ := hd.mem_erase_iff.1 hx
      have := h x h2
      omega
    by_cases hm : n ∈ l
    · rw [List.length_erase_of_mem hm] at h1; omega
    · rw [List.erase_of_not_mem hm] at h1; omega

theorem nodup_full {n : Nat} {l : List Nat} (hd : l.Nodup) (h : ∀ x ∈ l, x < n) (hl : l.length = n) {i : Nat} (hi : i < n) : i ∈ l := by
  apply Classical.byContradiction
  intro hn
  have := nodup_le n (i :: l) (List.nodup_cons.2 ⟨hn, hd⟩) fun x hx => by
    rcases List.mem_cons.1 hx with rfl | hx
    · exact hi
    · exact h x hx
  simp at this
  omega

theorem go_facts {md : Region.Mode} {ops : Array Oper} : ∀ (fuel t : Nat) (listed : Array Bool), listed.size = ops.size →
    (Region.linearise.go md ops fuel t listed []).Nodup ∧ (∀ x ∈ Region.linearise.go md ops fuel t listed [], x < ops.size ∧ listed.getD x true = false) ∧
    ∀ l2 : Array Bool, l2.size = ops.size → Region.ready md ops l2 = [] → (∀ k, listed.getD k false = true → l2.getD k false = true) → ∀ x ∈ Region.linearise.go md ops fuel t listed [], l2.getD x false = true := by
  intro fuel
  induction fuel with
  | zero => intro t listed _; simp [Region.linearise.go]
  | succ fuel ih =>
    intro t listed hs
    simp only [Region.linearise.go]
    change (match (Region.ready md ops listed)[t % (Region.ready md ops listed).length]? with
      | some i => Region.linearise.go md ops fuel (t / (Region.ready md ops listed).length) (listed.setIfInBounds i true) [i]
      | none => [].reverse).Nodup ∧ (∀ x ∈ (match (Region.ready md ops listed)[t % (Region.ready md ops listed).length]? with
      | some i => Region.linearise.go md ops fuel (t / (Region.ready md ops listed).length) (listed.setIfInBounds i true) [i]
      | none => [].reverse), x < ops.size ∧ listed.getD x true = false) ∧ ∀ l2 : Array Bool, l2.size = ops.size → Region.ready md ops l2 = [] → (∀ k, listed.getD k false = true → l2.getD k false = true) → ∀ x ∈ (match (Region.ready md ops listed)[t % (Region.ready md ops listed).length]? with
      | some i => Region.linearise.go md ops fuel (t / (Region.ready md ops listed).length) (listed.setIfInBounds i true) [i]
      | none => [].reverse), l2.getD x false = true
    cases hi : (Region.ready md ops listed)[t % (Region.ready md ops listed).length]? with
    | none => simp
    | some i =>
      simp only
      rw [linearise_go_acc, List.reverse_singleton, List.singleton_append]
      obtain ⟨o, ho, hl1, ha⟩ := mem_ready (List.mem_of_getElem? hi)
      have hlt : i < ops.size := (Array.getElem?_eq_some_iff.1 ho).1
      obtain ⟨f1, f2, f3⟩ := ih (t / (Region.ready md ops listed).length) (listed.setIfInBounds i true) (by simp [hs])
      refine ⟨List.nodup_cons.2 ⟨fun hm => ?_, f1⟩, fun x hx => ?_, fun l2 h1 h2 h3 x hx => ?_⟩
      · have := (f2 i hm).2
        rw [getD_set_eq (by omega)] at this
        cases this
      · rcases List.mem_cons.1 hx with rfl | hx
        · exact ⟨hlt, hl1⟩
        · obtain ⟨g1, g2⟩ := f2 x hx
          refine ⟨g1, ?_⟩
          by_cases hxi : x = i
          · subst hxi; exact hl1
          · rwa [getD_set_ne _ hxi] at g2
      · have hil : l2.getD i false = true := by
          cases hl : l2.getD i false with
          | true => rfl
          | false =>
            have : i ∈ Region.ready md ops l2 := ready_mem ho (by rw [getD_both (by omega) true false]; exact hl) fun e he hbe => h3 _ (ha e he hbe)
            rw [h2] at this
            cases this
        rcases List.mem_cons.1 hx with rfl | hx
        · exact hil
        · refine f3 l2 h1 h2 (fun k hk => ?_) x hx
          by_cases hki : k = i
          · subst hki; exact hil
          · rw [getD_set_ne _ hki] at hk; exact h3 k hk

/-- one whole order shows that every order is whole -/
theorem comp_full {md : Region.Mode} {ops : Array Oper} (h : (Region.linearise md ops 0).length = ops.size) : Comp md ops := by
  intro l2 hs hr i hi
  obtain ⟨f1, f2, f3⟩ := go_facts (md := md) (ops := ops) ops.size 0 (Array.replicate ops.size false) (by simp)
  refine f3 l2 hs hr (fun k hk => ?_) i (nodup_full f1 (fun x hx => (f2 x hx).1) h hi)
  by_cases hkl : k < ops.size <;> simp [Array.getD, hkl] at hk

/-- whatever the machine draws -/
theorem sched_schedule {mixed : Bool} {ops : Array Oper} (hb : ∀ i o, ops[i]? = some o → ∀ e ∈ o.after, Region.binds .text e = true → e.on < i)
    (hg : Region.departs ops = true → (Region.linearise .gc ops 0).length = ops.size) (t : Nat) : Sched ops (fun _ => false) (Region.schedule mixed ops t) := by
  unfold Region.schedule
  split
  · exact sched_linearise (comp_back fun i o ho e he hbe => hb i o ho e he (binds_any hbe)) t
  · rename_i hn
    have hd : Region.departs ops = true := by simp at hn; exact hn.2
    split
    · exact sched_linearise (comp_back hb) _
    · exact sched_linearise (comp_full (hg hd)) _

end Go.Ev

/- Which operations stand in front of which. -/
namespace Go.Ev

theorem bitAt_eq (m i : Nat) : bitAt m i = m.testBit i := by
  unfold bitAt
  rw [Nat.testBit_eq_decide_div_mod_eq]
  show Nat.beq (m / 2 ^ i % 2) 1 = _
  rw [Bool.eq_iff_iff, Nat.beq_eq]
  simp

theorem maskOf_bit {done : List Nat} : ∀ {es : List Edge} {i : Nat}, bitAt (maskOf done es) i = true → ∃ e ∈ es, Region.binds .any e = true ∧ (e.on = i ∨ bitAt ((nth? done e.on).getD 0) i = true)
  | [], i, h => by simp [maskOf, bitAt_eq] at h
  | e :: es, i, h => by
    simp only [maskOf] at h
    cases hb : Region.binds .any e with
    | false =>
      rw [hb, cond_false] at h
      obtain ⟨e', h1, h2⟩ := maskOf_bit h
      exact ⟨e', by simp [h1], h2⟩
    | true =>
      rw [hb, cond_true, bitAt_eq] at h
      rw [show ∀ a b : Nat, Nat.lor a b = a ||| b from fun _ _ => rfl, show ∀ a b : Nat, Nat.lor a b = a ||| b from fun _ _ => rfl, Nat.testBit_or, Nat.testBit_or] at h
      simp only [Bool.or_eq_true] at h
      rcases h with (h | h) | h
      · rw [show Nat.pow 2 e.on = 2 ^ e.on from rfl, Nat.testBit_two_pow] at h
        exact ⟨e, by simp, hb, .inl (by simpa using h)⟩
      · exact ⟨e, by simp, hb, .inr (by rw [bitAt_eq]; exact h)⟩
      · obtain ⟨e', h1, h2⟩ := maskOf_bit (by rw [bitAt_eq]; exact h)
        exact ⟨e', by simp [h1], h2⟩

/-- what is done is done with all that stands in front of it -/
def Clo (ops : Array Oper) (L : Nat → Bool) : Prop := ∀ (j : Nat) o, ops[j]? = some o → L j = true → ∀ e ∈ o.after, Region.binds .any e = true → L e.on = true

theorem masks_clo {L : Nat → Bool} : ∀ {rest : List Oper} {done : List Nat} (_ : ∀ (j : Nat) o, rest[j]? = some o → L (done.length + j) = true → ∀ e ∈ o.after, Region.binds .any e = true → L e.on = true)
    (_ : ∀ (j i : Nat), L j = true → bitAt ((nth? done j).getD 0) i = true → L i = true) (j i : Nat), L j = true → bitAt ((nth? (masks rest done) j).getD 0) i = true → L i = true
  | [], done, _, h2, j, i, hj, hb => h2 j i hj hb
  | o :: rest, done, h1, h2, j, i, hj, hb => by
    simp only [masks] at hb
    refine masks_clo (rest := rest) (done := done ++ [maskOf done o.after.toList]) (fun j o' ho' hL => ?_) (fun j i hj hb => ?_) j i hj hb
    · exact h1 (j + 1) o' (by simpa using ho') (by rw [← hL]; congr 1; simp; omega)
    · rw [nth?_eq] at hb
      by_cases hlt : j < done.length
      · rw [List.getElem?_append_left hlt, ← nth?_eq] at hb
        exact h2 j i hj hb
      · by_cases heq : j = done.length
        · subst heq
          simp only [List.getElem?_concat_length, Option.getD_some] at hb
          obtain ⟨e, he, hbe, h3⟩ := maskOf_bit hb
          have hL := h1 0 o (by simp) (by simpa using hj) e (by simpa using he) hbe
          rcases h3 with h3 | h3
          · rw [← h3]; exact hL
          · exact h2 e.on i hL h3
        · rw [List.getElem?_eq_none (by simp; omega)] at hb
          simp [bitAt_eq] at hb

theorem clo_mask {ops : Array Oper} {L : Nat → Bool} (hc : Clo ops L) {j i : Nat} (hj : L j = true) (hb : bitAt ((nth? (masks ops.toList []) j).getD 0) i = true) : L i = true :=
  masks_clo (fun j o ho hL e he hbe => hc j o (by simpa using ho) (by simpa using hL) e he hbe) (fun j i _ hb => by simp [nth?_eq, bitAt_eq] at hb) j i hj hb

theorem Clo.step {ops : Array Oper} {L : Nat → Bool} (hc : Clo ops L) {i : Nat} {o : Oper} (ho : ops[i]? = some o) (ha : ∀ e ∈ o.after, Region.binds .any e = true → L e.on = true) : Clo ops fun k => k == i || L k := by
  intro j o' ho' hj e he hb
  simp only [Bool.or_eq_true, beq_iff_eq] at hj ⊢
  rcases hj with rfl | hj
  · rw [ho] at ho'; cases ho'
    exact .inr (ha e he hb)
  · exact .inr (hc j o' ho' hj e he hb)

/-- what is next has all in front of it done -/
theorem mask_next {ops : Array Oper} {L : Nat → Bool} (hc : Clo ops L) {i : Nat} {o : Oper} (ho : ops[i]? = some o) (ha : ∀ e ∈ o.after, Region.binds .any e = true → L e.on = true)
    {k : Nat} (hk : bitAt ((nth? (masks ops.toList []) i).getD 0) k = true) : k = i ∨ L k = true := by
  have := clo_mask (hc.step ho ha) (j := i) (by simp) hk
  simpa using this

theorem masks_lt : ∀ {rest : List Oper} {done : List Nat} (_ : ∀ (j : Nat) o, rest[j]? = some o → ∀ e ∈ o.after, Region.binds .any e = true → e.on < done.length + j)
    (_ : ∀ (j i : Nat), bitAt ((nth? done j).getD 0) i = true → i < j) (j i : Nat), bitAt ((nth? (masks rest done) j).getD 0) i = true → i < j
  | [], done, _, h2, j, i, hb => h2 j i hb
  | o :: rest, done, h1, h2, j, i, hb => by
    simp only [masks] at hb
    refine masks_lt (rest := rest) (done := done ++ [maskOf done o.after.toList]) (fun j o' ho' e he hbe => ?_) (fun j i hb => ?_) j i hb
    · have := h1 (j + 1) o' (by simpa using ho') e he hbe
      simp; omega
    · rw [nth?_eq] at hb
      by_cases hlt : j < done.length
      · rw [List.getElem?_append_left hlt, ← nth?_eq] at hb
        exact h2 j i hb
      · by_cases heq : j = done.length
        · subst heq
          simp only [List.getElem?_concat_length, Option.getD_some] at hb
          obtain ⟨e, he, hbe, h3⟩ := maskOf_bit hb
          have hlt := h1 0 o (by simp) e (by simpa using he) hbe
          rcases h3 with h3 | h3
          · omega
          · have := h2 e.on i h3; omega
        · rw [List.getElem?_eq_none (by simp; omega)] at hb
          simp [bitAt_eq] at hb

theorem mask_lt {ops : Array Oper} (hb : ∀ i o, ops[i]? = some o → ∀ e ∈ o.after, Region.binds .any e = true → e.on < i) {j i : Nat} (h : bitAt ((nth? (masks ops.toList []) j).getD 0) i = true) : i < j :=
  masks_lt (fun j o ho e he hbe => by simpa using hb j o (by simpa using ho) e he hbe) (fun j i hb => by simp [nth?_eq, bitAt_eq] at hb) j i h

end Go.Ev

/- 'veq' is a sure sign that two values are the same. -/
namespace Go.Ev

theorem beqA_eq {a b : Option Addr} (h : beqA a b = true) : a = b := by
  cases a with
  | none => cases b with
    | none => rfl
    | some b => simp [beqA] at h
  | some a =>
    obtain ⟨x, i, s⟩ := a
    cases b with
    | none => cases s <;> simp [beqA] at h
    | some b =>
      obtain ⟨y, j, s'⟩ := b
      cases s <;> cases s' <;> simp only [beqA, Bool.false_eq_true] at h
      cases hb : Nat.beq x y with
      | false => rw [hb] at h; simp at h
      | true =>
        rw [hb, cond_true] at h
        rw [Nat.eq_of_beq_eq_true hb, Nat.eq_of_beq_eq_true h]

theorem cond_and {a b : Bool} (h : cond a b false = true) : a = true ∧ b = true := by cases a <;> cases b <;> simp_all

mutual
theorem veq_eq : ∀ (a b : Value), veq a b = true → a = b
  | .bool a, b, h => by
    cases b <;> simp only [veq, Bool.false_eq_true] at h
    rw [beqB_eq, beq_iff_eq] at h; rw [h]
  | .int k a, b, h => by
    cases b <;> simp only [veq, Bool.false_eq_true] at h
    obtain ⟨h1, h2⟩ := cond_and h
    rw [beqI_eq, beq_iff_eq] at h2
    rw [(beqK_iff _ _).1 h1, h2]
  | .string s, b, h => by
    cases b <;> simp only [veq, Bool.false_eq_true] at h
    rename_i s'
    obtain ⟨⟨s⟩⟩ := s
    obtain ⟨⟨s'⟩⟩ := s'
    rw [beqS_eq, beq_iff_eq] at h
    simp only at h
    rw [h]
  | .pointer a, b, h => by
    cases b <;> simp only [veq, Bool.false_eq_true] at h
    rw [beqA_eq h]
  | .slice a n c, b, h => by
    cases b <;> simp only [veq, Bool.false_eq_true] at h
    obtain ⟨h1, h2⟩ := cond_and h
    obtain ⟨h2, h3⟩ := cond_and h2
    rw [beqA_eq h1, Nat.eq_of_beq_eq_true h2, Nat.eq_of_beq_eq_true h3]
  | .map none, b, h => by
    cases b <;> try (simp [veq] at h; done)
    rename_i m
    cases m with
    | none => rfl
    | some m => simp [veq] at h
  | .map (some r), b, h => by
    cases b <;> try (simp [veq] at h; done)
    rename_i m
    cases m with
    | none => simp [veq] at h
    | some m =>
      simp only [veq] at h
      rw [Nat.eq_of_beq_eq_true h]
  | .nilFunc, b, h => by cases b <;> first | rfl | (simp [veq] at h; done)
  | .nilIface, b, h => by cases b <;> first | rfl | (simp [veq] at h; done)
  | .agg ⟨a⟩, b, h => by
    cases b <;> try (simp [veq] at h; done)
    rename_i l
    obtain ⟨l⟩ := l
    rw [veqL_eq a l h]
  | .iface t a, b, h => by
    cases b <;> try (simp [veq] at h; done)
    rename_i u c
    obtain ⟨h1, h2⟩ := cond_and (a := Nat.beq t u) (b := veq a c) h
    rw [Nat.eq_of_beq_eq_true h1, veq_eq a c h2]
  | .func (.func f) ⟨a⟩ ⟨c⟩, b, h => by
    cases b <;> try (simp [veq] at h; done)
    rename_i g x y
    obtain ⟨x⟩ := x
    obtain ⟨y⟩ := y
    cases g <;> try (simp [veq] at h; done)
    rename_i g
    obtain ⟨h1, h2⟩ := cond_and (a := Nat.beq f g) (b := cond (veqL a x) (veqL c y) false) h
    obtain ⟨h2, h3⟩ := cond_and h2
    rw [Nat.eq_of_beq_eq_true h1, veqL_eq a x h2, veqL_eq c y h3]
  | .func (.via _ _ _ _) _ _, b, h => by cases b <;> simp [veq] at h
  | .func (.yield _) _ _, b, h => by cases b <;> simp [veq] at h
  | .func (.method _) _ _, b, h => by cases b <;> simp [veq] at h
  | .func (.methodOf _ _) _ _, b, h => by cases b <;> simp [veq] at h
  | .float .., b, h => by cases b <;> simp [veq] at h
  | .complex .., b, h => by cases b <;> simp [veq] at h
  | .chan _, b, h => by cases b <;> simp [veq] at h
  | .tuple _, b, h => by cases b <;> simp [veq] at h
theorem veqL_eq : ∀ (a b : List Value), veqL a b = true → a = b
  | [], b, h => by cases b with | nil => rfl | cons _ _ => simp [veqL] at h
  | x :: xs, b, h => by
    cases b with
    | nil => simp [veqL] at h
    | cons y ys =>
      obtain ⟨h1, h2⟩ := cond_and (a := veq x y) (b := veqL xs ys) h
      rw [veq_eq x y h1, veqL_eq xs ys h2]
end

end Go.Ev

/- A region that is gone through in the order of its text: what the evaluator does, step for step. -/
namespace Go.Ev

inductive TStep (T : Tab) (ops : Array Oper) (b es : List Nat) (e : Env) (i : Nat) (o : Oper) : DrawSt → St → DrawSt → St → Prop
  | skip (d : DrawSt) (s : St) (hw : wantedF ops o s.tm = false) : TStep T ops b es e i o d s d ⟨putD o.dst s.tm undefV, s.df, s.u, s.h⟩
  | float (d d' : DrawSt) (s : St) (f : Tm → H → Option Value) (v : Value) (hc : cls o.op = .float) (hf : pureF T o.op = some f) (hw : wantedF ops o s.tm = true) (hv : f s.tm s.h = some v)
      (hb : d'.base = d.base) (hh : d'.hs = d.hs) (hl : d'.ls = cond (cond (heapy o.op) (loose b i es) false) (⟨i, f s.tm, v⟩ :: d.ls) d.ls) : TStep T ops b es e i o d s d' ⟨putD o.dst s.tm v, s.df, s.u, s.h⟩
  | made (d : DrawSt) (s : St) (f : Tm → Option (AObj × (Nat → Value))) (ob : AObj) (g : Nat → Value) (hc : cls o.op = .made) (hf : madeF T o.op = some f) (hw : wantedF ops o s.tm = true) (hv : f s.tm = some (ob, g)) :
      TStep T ops b es e i o d s d ⟨putD o.dst s.tm (g (d.base + i)), s.df, s.u, s.h.put (d.base + i) (some ob)⟩
  | eff (d : DrawSt) (s : St) (v : Value) (df : List Deferred) (u : FrameMode) (h : H) (hc : cls o.op = .eff) (hw : wantedF ops o s.tm = true) (hv : effect T o.op e s = .value v df u h) :
      TStep T ops b es e i o d s ⟨d.base, d.hs ++ [(i, s.h)], d.ls⟩ ⟨putD o.dst s.tm v, df, u, h⟩

inductive Trace (T : Tab) (ops : Array Oper) (b es : List Nat) (e : Env) : List Oper → Nat → DrawSt → St → DrawSt → St → Prop
  | nil (i : Nat) (d : DrawSt) (s : St) : Trace T ops b es e [] i d s d s
  | cons (o : Oper) (l : List Oper) (i : Nat) (d d1 d' : DrawSt) (s s1 s' : St) (hg : guardOk ops o s.tm = true) (h : TStep T ops b es e i o d s d1 s1) (hl : Trace T ops b es e l (i + 1) d1 s1 d' s') : Trace T ops b es e (o :: l) i d s d' s'

theorem drawStepG_trace {T : Tab} {ops : Array Oper} {b es : List Nat} {i : Nat} {o : Oper} {next : Env → DrawSt → St → Ex} {e : Env} {d : DrawSt} {s : St} {r : Ex} (h : drawStepG T ops b es i o next e d s = r) :
    r = .fail ∨ ∃ d1 s1, TStep T ops b es e i o d s d1 s1 ∧ next e d1 s1 = r := by
  unfold drawStepG at h
  cases hc : cls o.op with
  | float =>
    simp only [hc] at h
    cases hf : pureF T o.op with
    | none => rw [hf] at h; exact .inl h.symm
    | some f =>
      simp only [hf] at h
      cases hl : cond (heapy o.op) (loose b i es) false with
      | true =>
        rw [hl] at h
        simp only at h
        cases hw : wantedF ops o s.tm with
        | false => rw [hw, cond_false] at h; exact .inr ⟨_, _, .skip d s hw, h⟩
        | true =>
          rw [hw, cond_true] at h
          cases hv : f s.tm s.h with
          | none => rw [hv] at h; exact .inl h.symm
          | some v => rw [hv] at h; exact .inr ⟨_, _, .float d ⟨d.base, d.hs, ⟨i, f s.tm, v⟩ :: d.ls⟩ s f v hc hf hw hv rfl rfl (by rw [hl]; rfl), h⟩
      | false =>
        rw [hl] at h
        simp only at h
        cases hw : wantedF ops o s.tm with
        | false => rw [hw, cond_false] at h; exact .inr ⟨_, _, .skip d s hw, h⟩
        | true =>
          rw [hw, cond_true] at h
          cases hv : f s.tm s.h with
          | none => rw [hv] at h; exact .inl h.symm
          | some v => rw [hv] at h; exact .inr ⟨_, _, .float d d s f v hc hf hw hv rfl rfl (by rw [hl]; rfl), h⟩
  | made =>
    simp only [hc] at h
    cases hf : madeF T o.op with
    | none => rw [hf] at h; exact .inl h.symm
    | some f =>
      simp only [hf] at h
      cases hw : wantedF ops o s.tm with
      | false => rw [hw, cond_false] at h; exact .inr ⟨_, _, .skip d s hw, h⟩
      | true =>
        rw [hw, cond_true] at h
        cases hv : f s.tm with
        | none => rw [hv] at h; exact .inl h.symm
        | some p =>
          obtain ⟨ob, g⟩ := p
          rw [hv] at h
          simp only [fN_eq] at h
          exact .inr ⟨_, _, .made d s f ob g hc hf hw hv, h⟩
  | eff =>
    simp only [hc] at h
    cases hw : wantedF ops o s.tm with
    | false => rw [hw, cond_false] at h; exact .inr ⟨_, _, .skip d s hw, h⟩
    | true =>
      rw [hw, cond_true] at h
      cases hv : effect T o.op e s with
      | fail => rw [hv] at h; exact .inl h.symm
      | panic c u h' => rw [hv] at h; exact .inl h.symm
      | value v df u h' => rw [hv] at h; exact .inr ⟨_, _, .eff d s v df u h' hc hw hv, h⟩

theorem drawStep_trace {T : Tab} {ops : Array Oper} {b es : List Nat} {i : Nat} {o : Oper} {next : Env → DrawSt → St → Ex} {e : Env} {d : DrawSt} {s : St} {r : Ex} (h : drawStep T ops b es i o next e d s = r) :
    r = .fail ∨ ∃ d1 s1, guardOk ops o s.tm = true ∧ TStep T ops b es e i o d s d1 s1 ∧ next e d1 s1 = r := by
  unfold drawStep at h
  cases hg : o.guard with
  | none =>
    rw [hg] at h
    rcases drawStepG_trace h with h | ⟨d1, s1, h1, h2⟩
    · exact .inl h
    · exact .inr ⟨d1, s1, by simp [guardOk, hg], h1, h2⟩
  | some g =>
    rw [hg] at h
    simp only at h
    cases hk : guardOk ops o s.tm with
    | false => rw [hk] at h; exact .inl h.symm
    | true =>
      rw [hk, cond_true] at h
      rcases drawStepG_trace h with h | ⟨d1, s1, h1, h2⟩
      · exact .inl h
      · exact .inr ⟨d1, s1, rfl, h1, h2⟩

theorem drawF_trace {T : Tab} {ops : Array Oper} {b es : List Nat} {e : Env} : ∀ {l : List Oper} {i : Nat} {d : DrawSt} {s : St} {r : Ex}, drawF T ops b es l i e d s = r →
    r = .fail ∨ ∃ d' s', r = .normal s' ∧ Trace T ops b es e l i d s d' s' ∧ looksOk b d' s'.h d'.ls = true
  | [], i, d, s, r, h => by
    simp only [drawF] at h
    cases hl : looksOk b d s.h d.ls with
    | false => rw [hl] at h; exact .inl h.symm
    | true => rw [hl] at h; exact .inr ⟨d, s, h.symm, .nil _ _ _, hl⟩
  | o :: l, i, d, s, r, h => by
    simp only [drawF] at h
    rcases drawStep_trace h with h | ⟨d1, s1, h0, h1, h2⟩
    · exact .inl h
    · rcases drawF_trace h2 with h | ⟨d', s', h3, h4, h5⟩
      · exact .inl h
      · exact .inr ⟨d', s', h3, .cons _ _ _ _ _ _ _ _ _ h0 h1 h4, h5⟩

/-- the states in front of each operation -/
theorem Trace.states {T : Tab} {ops : Array Oper} {b es : List Nat} {e : Env} {l : List Oper} {i : Nat} {d d' : DrawSt} {s s' : St} (h : Trace T ops b es e l i d s d' s') :
    ∃ (D : Nat → DrawSt) (S : Nat → St), D 0 = d ∧ S 0 = s ∧ D l.length = d' ∧ S l.length = s' ∧ ∀ (j : Nat) o, l[j]? = some o → guardOk ops o (S j).tm = true ∧ TStep T ops b es e (i + j) o (D j) (S j) (D (j + 1)) (S (j + 1)) := by
  induction h with
  | nil i d s => exact ⟨fun _ => d, fun _ => s, rfl, rfl, rfl, rfl, fun j o h => by simp at h⟩
  | cons o l i d d1 d' s s1 s' hg h _ ih =>
    obtain ⟨D, S, h1, h2, h3, h4, h5⟩ := ih
    refine ⟨fun j => match j with | 0 => d | j + 1 => D j, fun j => match j with | 0 => s | j + 1 => S j, rfl, rfl, h3, h4, fun j o' ho => ?_⟩
    cases j with
    | zero =>
      simp only [List.getElem?_cons_zero, Option.some.injEq] at ho
      subst ho
      simp only [Nat.add_zero, h1, h2]
      exact ⟨hg, h⟩
    | succ j =>
      have := h5 j o' (by simpa using ho)
      rw [show i + (j + 1) = i + 1 + j by omega]
      exact this

end Go.Ev

/- Temporaries in a region that is gone through in another order than its text's. -/
namespace Go.Ev

theorem allB_mem {α : Type} {p : α → Bool} : ∀ {l : List α}, allB p l = true → ∀ x ∈ l, p x = true
  | [], _, x, hx => by simp at hx
  | y :: l, h, x, hx => by
    obtain ⟨h1, h2⟩ := cond_and (a := p y) (b := allB p l) h
    rcases List.mem_cons.1 hx with rfl | hx
    · exact h1
    · exact allB_mem h2 x hx

theorem writersOf_mem {t : Nat} : ∀ {l : List Oper} {k i : Nat} {o : Oper}, l[i]? = some o → o.dst = some t → k + i ∈ writersOf t l k
  | [], k, i, o, h, _ => by simp at h
  | x :: l, k, i, o, h, hd => by
    cases i with
    | zero =>
      simp only [List.getElem?_cons_zero, Option.some.injEq] at h
      subst h
      have hb : Nat.beq t t = true := Nat.beq_refl t
      simp [writersOf, hd, hb]
    | succ i =>
      have ih := writersOf_mem (t := t) (l := l) (k := k + 1) (i := i) (by simpa using h) hd
      rw [show k + (i + 1) = k + 1 + i by omega]
      unfold writersOf
      cases hx : x.dst with
      | none => exact ih
      | some d =>
        simp only
        cases Nat.beq d t with
        | true => exact List.mem_cons_of_mem _ ih
        | false => exact ih

theorem tidy_mem {ops : List Oper} {b : List Nat} : ∀ {l : List Oper} {k : Nat}, tidyFrom ops b l k = true → ∀ (j : Nat) o, l[j]? = some o → ∀ t ∈ namesOf ops o, ∀ i ∈ writersOf t ops 0, i = k + j ∨ bitAt ((nth? b (max i (k + j))).getD 0) (min i (k + j)) = true
  | [], k, _, j, o, ho, _, _, _, _ => by simp at ho
  | x :: l, k, h, j, o, ho, t, ht, i, hi => by
    obtain ⟨h1, h2⟩ := cond_and (a := allB (fun t => allB (fun i => cond (Nat.beq i k) true (bitAt ((nth? b (max i k)).getD 0) (min i k))) (writersOf t ops 0)) (namesOf ops x)) (b := tidyFrom ops b l (k + 1)) h
    cases j with
    | zero =>
      simp only [List.getElem?_cons_zero, Option.some.injEq] at ho
      subst ho
      have h3 := allB_mem (allB_mem h1 t ht) i hi
      cases hb : Nat.beq i k with
      | true => exact .inl (Nat.eq_of_beq_eq_true hb)
      | false => rw [hb] at h3; exact .inr h3
    | succ j =>
      have := tidy_mem h2 j o (by simpa using ho) t ht i hi
      rwa [show k + 1 + j = k + (j + 1) by omega] at this

/-- whoever writes a temporary that an operation names is done just if it stands in front of it -/
theorem writers_done {ops : Array Oper} {L : Nat → Bool} (hback : ∀ i o, ops[i]? = some o → ∀ e ∈ o.after, Region.binds .any e = true → e.on < i)
    (ht : tidyFrom ops.toList (masks ops.toList []) ops.toList 0 = true) (hc : Clo ops L) {i : Nat} {o : Oper} (ho : ops[i]? = some o) (hi : L i = false)
    (ha : ∀ e ∈ o.after, Region.binds .any e = true → L e.on = true) {t : Nat} (hn : t ∈ namesOf ops.toList o) {j : Nat} {o' : Oper} (hj : ops[j]? = some o') (hd : o'.dst = some t) (hne : j ≠ i) :
    L j = true ↔ j < i := by
  have hw := writersOf_mem (k := 0) (l := ops.toList) (i := j) (o := o') (by simpa using hj) hd
  have hb := tidy_mem ht i o (by simpa using ho) t hn (0 + j) hw
  simp only [Nat.zero_add] at hb
  rcases hb with hb | hb
  · exact absurd hb hne
  · rcases Nat.lt_or_ge j i with hlt | hge
    · rw [Nat.max_eq_right (by omega), Nat.min_eq_left (by omega)] at hb
      refine ⟨fun _ => hlt, fun _ => ?_⟩
      rcases mask_next hc ho ha hb with h | h
      · exact absurd h hne
      · exact h
    · rw [Nat.max_eq_left (by omega), Nat.min_eq_right (by omega)] at hb
      refine ⟨fun hL => ?_, fun h => by omega⟩
      have := clo_mask hc hL hb
      rw [hi] at this; cases this

/-- the last of those done, below a bound, that writes a temporary -/
def lastW (ops : Array Oper) (L : Nat → Bool) (t : Nat) : Nat → Option Nat
  | 0 => none
  | k + 1 => if L k = true ∧ (ops[k]?).bind (·.dst) = some t then some k else lastW ops L t k

theorem lastW_congr {ops : Array Oper} {L L' : Nat → Bool} {t : Nat} : ∀ {k : Nat}, (∀ j, j < k → (ops[j]?).bind (·.dst) = some t → L j = L' j) → lastW ops L t k = lastW ops L' t k
  | 0, _ => rfl
  | k + 1, h => by
    have ih := lastW_congr (k := k) fun j hj hd => h j (by omega) hd
    unfold lastW
    by_cases hd : (ops[k]?).bind (·.dst) = some t
    · rw [h k (by omega) hd, ih]
    · simp [hd, ih]

theorem lastW_cut {ops : Array Oper} {L : Nat → Bool} {t i : Nat} : ∀ {k : Nat}, i ≤ k → (∀ j, i ≤ j → j < k → (ops[j]?).bind (·.dst) = some t → L j = false) → lastW ops L t k = lastW ops L t i
  | 0, hk, _ => by rw [Nat.le_zero.1 hk]
  | k + 1, hk, h => by
    by_cases he : i = k + 1
    · rw [he]
    · rw [← lastW_cut (k := k) (by omega) fun j h1 h2 hd => h j h1 (by omega) hd]
      show (if L k = true ∧ _ then _ else _) = _
      rw [if_neg]
      rintro ⟨h1, h2⟩
      rw [h k (by omega) (by omega) h2] at h1
      cases h1

theorem dst_of {ops : Array Oper} {j t : Nat} (h : (ops[j]?).bind (·.dst) = some t) : ∃ o, ops[j]? = some o ∧ o.dst = some t := by
  obtain ⟨o, h1, h2⟩ := Option.bind_eq_some_iff.1 h
  exact ⟨o, h1, h2⟩

/-- what an operation finds in a temporary that it names is what the text's order has there -/
theorem temp_next {ops : Array Oper} {L : Nat → Bool} (hback : ∀ i o, ops[i]? = some o → ∀ e ∈ o.after, Region.binds .any e = true → e.on < i)
    (ht : tidyFrom ops.toList (masks ops.toList []) ops.toList 0 = true) (hc : Clo ops L) {i : Nat} {o : Oper} (ho : ops[i]? = some o) (hi : L i = false)
    (ha : ∀ e ∈ o.after, Region.binds .any e = true → L e.on = true) {t : Nat} (hn : t ∈ namesOf ops.toList o) : lastW ops L t ops.size = lastW ops (fun _ => true) t i := by
  have hlt : i < ops.size := (Array.getElem?_eq_some_iff.1 ho).1
  rw [lastW_cut (i := i) (by omega) fun j h1 h2 hd => ?_]
  · refine lastW_congr fun j hj hd => ?_
    obtain ⟨o', h3, h4⟩ := dst_of hd
    exact (writers_done hback ht hc ho hi ha hn h3 h4 (by omega)).2 hj
  · obtain ⟨o', h3, h4⟩ := dst_of hd
    by_cases he : j = i
    · rw [he]; exact hi
    · cases hL : L j with
      | false => rfl
      | true => have := (writers_done hback ht hc ho hi ha hn h3 h4 he).1 hL; omega

theorem lastW_some {ops : Array Oper} {L : Nat → Bool} {t i : Nat} (hL : L i = true) (hd : (ops[i]?).bind (·.dst) = some t) : ∀ {k : Nat}, i < k → (∀ j, i < j → j < k → (ops[j]?).bind (·.dst) = some t → L j = false) → lastW ops L t k = some i
  | 0, hk, _ => by omega
  | k + 1, hk, h => by
    rw [lastW_cut (i := i + 1) (by omega) fun j h1 h2 hdj => h j (by omega) h2 hdj]
    show (if L i = true ∧ _ then _ else _) = _
    rw [if_pos ⟨hL, hd⟩]

/-- .. and when it is done, it is the last writer of its own -/
theorem temp_own {ops : Array Oper} {L : Nat → Bool} (hback : ∀ i o, ops[i]? = some o → ∀ e ∈ o.after, Region.binds .any e = true → e.on < i)
    (ht : tidyFrom ops.toList (masks ops.toList []) ops.toList 0 = true) (hc : Clo ops L) {i : Nat} {o : Oper} (ho : ops[i]? = some o) (hi : L i = false)
    (ha : ∀ e ∈ o.after, Region.binds .any e = true → L e.on = true) {t : Nat} (hd : o.dst = some t) : lastW ops (fun k => k == i || L k) t ops.size = some i := by
  have hlt : i < ops.size := (Array.getElem?_eq_some_iff.1 ho).1
  refine lastW_some (by simp) (by rw [ho]; exact hd) hlt fun j h1 h2 hdj => ?_
  obtain ⟨o', h3, h4⟩ := dst_of hdj
  have hn : t ∈ namesOf ops.toList o := by simp [namesOf, hd]
  have hw := writers_done hback ht hc ho hi ha hn h3 h4 (by omega)
  have : L j = false := by
    cases hL : L j with
    | false => rfl
    | true => have := hw.1 hL; omega
  simp [this]; omega

theorem temp_other {ops : Array Oper} {L : Nat → Bool} {i : Nat} {o : Oper} (ho : ops[i]? = some o) {t : Nat} (hd : o.dst ≠ some t) (k : Nat) : lastW ops (fun k => k == i || L k) t k = lastW ops L t k := by
  refine lastW_congr fun j _ hdj => ?_
  have : j ≠ i := by
    intro e
    subst e
    rw [ho] at hdj
    exact hd hdj
  simp [this]

/-- the text's temporaries, by their last writers -/
theorem text_tm {ops : Array Oper} {S : Nat → St} {V : Nat → Value} (hS : ∀ (j : Nat) o, ops[j]? = some o → (S (j + 1)).tm = putD o.dst (S j).tm (V j) ∧ ∀ d, o.dst = some d → d < 65535) (t : Nat) :
    ∀ k, k ≤ ops.size → nth (S k).tm t = match lastW ops (fun _ => true) t k with | some j => V j | none => nth (S 0).tm t
  | 0, _ => rfl
  | k + 1, hk => by
    have ih := text_tm hS t k (by omega)
    have ho : ops[k]? = some ops[k] := Array.getElem?_eq_getElem (by omega)
    obtain ⟨h1, h2⟩ := hS k _ ho
    rw [h1]
    rw [show lastW ops (fun _ => true) t (k + 1) = if true = true ∧ (ops[k]?).bind (·.dst) = some t then some k else lastW ops (fun _ => true) t k from rfl]
    cases hd : ops[k].dst with
    | none => simp only [putD, ho, Option.bind_some, hd, reduceCtorEq, and_false, if_false]; exact ih
    | some d =>
      by_cases he : d = t
      · subst he
        simp only [putD, ho, Option.bind_some, hd, true_and, if_true]
        exact nth_upd_eq _ _ _ (h2 d hd)
      · simp only [putD, ho, Option.bind_some, hd, Option.some.injEq, he, and_false, if_false]
        rw [nth_upd_ne _ _ _ _ (Ne.symm he)]
        exact ih

end Go.Ev

/- Heaps that hold fewer or more of what is known. -/
namespace Go.Ev

section
variable {T : Tab} {ι : Inj} {h : H} {w : World}

/-- fewer objects -/
theorem WR.sub (hw : WR T ι h w) {h2 : H} (hn : h2.next = h.next) (hs : ∀ b o, h2.get b = some o → h.get b = some o) : WR T ι h2 w :=
  ⟨fun b o m hb hi => hw.live b o m (hs b o hb) hi, fun b m hi => by rw [hn]; exact hw.ids b m hi, fun b o hb => by rw [hn]; exact hw.fresh b o (hs b o hb), hw.bound,
    fun b b' o o' m m' hne hb ho hb' => hw.excl b b' o o' m m' hne (hs b o hb) ho (hs b' o' hb'), by rw [hn]; exact hw.lim, hw.glob⟩

/-- an object that is not yet made -/
theorem WR.putNone (hw : WR T ι h w) {b : Nat} (hb : b < h.next) (hi : ι b = none) (o : AObj) : WR T ι (h.put b (some o)) w := by
  have hlim := hw.lim
  have key : ∀ k x m, (h.put b (some o)).get k = some x → ι k = some m → h.get k = some x := by
    intro k x m hk hik
    rwa [H.get_put_ne _ _ _ _ (by intro e; subst e; rw [hi] at hik; cases hik)] at hk
  refine ⟨fun k x m hk hik => hw.live k x m (key k x m hk hik) hik, hw.ids, fun k x hk => ?_, hw.bound,
    fun k k' x x' m m' hne hk hx hk' hik hik' => hw.excl k k' x x' m m' hne (key k x m hk hik) hx (key k' x' m' hk' hik') hik hik', hw.lim, hw.glob⟩
  by_cases hkb : k = b
  · subst hkb; exact hb
  · rw [H.get_put_ne _ _ _ _ hkb] at hk; exact hw.fresh k x hk

/-- an object that was made early -/
theorem WR.putSome (hw : WR T ι h w) {b : Nat} {m : Im} (hi : ι b = some m) {o : AObj} {ob : Obj} (hob : w.heap[m.blk]? = some ob) (ho : ObjR T ι o ob m) (hf : Free ι h m.blk) : WR T ι (h.put b (some o)) w := by
  have hlim := hw.lim
  have hb := hw.ids _ _ hi
  have key : ∀ k x, (h.put b (some o)).get k = some x → (k = b ∧ x = o) ∨ (k ≠ b ∧ h.get k = some x) := by
    intro k x hk
    by_cases hkb : k = b
    · subst hkb; rw [H.get_put_eq _ _ _ (by omega)] at hk; cases hk; exact .inl ⟨rfl, rfl⟩
    · rw [H.get_put_ne _ _ _ _ hkb] at hk; exact .inr ⟨hkb, hk⟩
  refine ⟨fun k x mk hk hik => ?_, hw.ids, fun k x hk => ?_, hw.bound, fun k k' x x' mk mk' hne hk hx hk' hik hik' => ?_, hw.lim, hw.glob⟩
  · rcases key k x hk with ⟨rfl, rfl⟩ | ⟨_, h1⟩
    · rw [hi] at hik; cases hik; exact ⟨ob, hob, ho⟩
    · exact hw.live k x mk h1 hik
  · rcases key k x hk with ⟨rfl, rfl⟩ | ⟨_, h1⟩
    · exact hb
    · exact hw.fresh k x h1
  · rcases key k x hk with ⟨rfl, rfl⟩ | ⟨h0, h1⟩
    · rcases key k' x' hk' with ⟨rfl, rfl⟩ | ⟨_, h2⟩
      · exact absurd rfl hne
      · rw [hi] at hik; cases hik
        exact (hf k' x' mk' h2 hik').symm
    · rcases key k' x' hk' with ⟨rfl, rfl⟩ | ⟨_, h2⟩
      · rw [hi] at hik'; cases hik'
        exact hf k x mk h1 hik
      · exact hw.excl k k' x x' mk mk' hne h1 hx h2 hik hik'

/-- an object is made early: the evaluator's heap does not hold it yet -/
theorem WR.early (hw : WR T ι h w) {b : Nat} (hb : b < h.next) (hi : ι b = none) (hg : h.get b = none) {m : Im} (ob : Obj) (hm : m.blk = w.heap.size) :
    WR T (ι.ins b m) h (w.alloc ob) where
  live k x mk hk hik := by
    have hkb : k ≠ b := by intro e; subst e; rw [hg] at hk; cases hk
    rw [Inj.ins_ne _ _ hkb] at hik
    obtain ⟨x', h1, h2⟩ := hw.live k x mk hk hik
    exact ⟨x', by rw [heap_alloc_lt _ _ (hw.bound _ _ hik)]; exact h1, h2.mono (Inj.le_ins _ _ hi)⟩
  ids k mk hik := by
    by_cases hkb : k = b
    · subst hkb; exact hb
    · rw [Inj.ins_ne _ _ hkb] at hik; exact hw.ids _ _ hik
  fresh := hw.fresh
  bound k mk hik := by
    rw [alloc_size]
    by_cases hkb : k = b
    · subst hkb; rw [Inj.ins_eq] at hik; cases hik; omega
    · rw [Inj.ins_ne _ _ hkb] at hik; have := hw.bound _ _ hik; omega
  excl k k' x x' mk mk' hne hk hx hk' hik hik' := by
    have h1 : k ≠ b := by intro e; subst e; rw [hg] at hk; cases hk
    have h2 : k' ≠ b := by intro e; subst e; rw [hg] at hk'; cases hk'
    rw [Inj.ins_ne _ _ h1] at hik
    rw [Inj.ins_ne _ _ h2] at hik'
    exact hw.excl k k' x x' mk mk' hne hk hx hk' hik hik'
  lim := hw.lim
  glob g hg := let ⟨m', h1, h2⟩ := hw.glob g hg; ⟨m', Inj.le_ins _ _ hi _ _ h1, h2⟩

/-- from a region's beginning: an object beyond what was there is laid into the evaluator's heap -/
theorem Keep.putHigh {ι₀ : Inj} {h₀ : H} {w₀ : World} (k : Keep ι₀ h₀ w₀ ι h w) {b : Nat} (hb : h₀.next ≤ b) (hm : ∀ m, ι b = some m → w₀.heap.size ≤ m.blk) (o : AObj) : Keep ι₀ h₀ w₀ ι (h.put b (some o)) w where
  le := k.le
  new := k.new
  next := k.next
  size := k.size
  os := k.os
  output := k.output
  kept x hx hn := by
    obtain ⟨h1, h2⟩ := k.kept x hx hn
    refine ⟨h1, ?_⟩
    rintro ⟨b', o', m, g1, g2, g3, g4⟩
    by_cases he : b' = b
    · subst he; have := hm m g3; omega
    · rw [H.get_put_ne _ _ _ _ he] at g1; exact h2 ⟨b', o', m, g1, g2, g3, g4⟩
  same x hx hn := by rw [H.get_put_ne _ _ _ _ (by omega)]; exact k.same x hx hn
  void x hx hn := by rw [H.get_put_ne _ _ _ _ (by omega)]; exact k.void x hx hn
  free x hx hf b' o' m g1 g3 := by
    by_cases he : b' = b
    · subst he; have := hm m g3; omega
    · rw [H.get_put_ne _ _ _ _ he] at g1; exact k.free x hx hf b' o' m g1 g3
  thaw := k.thaw

/-- .. a block is made for an id beyond what was there -/
theorem Keep.insHigh {ι₀ : Inj} {h₀ : H} {w₀ : World} (k : Keep ι₀ h₀ w₀ ι h w) {b : Nat} (hb : h₀.next ≤ b) (hi : ι b = none) {m : Im} (ob : Obj) (hm : m.blk = w.heap.size) (hbare : Bare ob) : Keep ι₀ h₀ w₀ (ι.ins b m) h (w.alloc ob) where
  le := Inj.le_trans k.le (Inj.le_ins _ _ hi)
  new x hx hn := by rw [Inj.ins_ne _ _ (by omega)]; exact k.new x hx hn
  next := k.next
  size := by rw [alloc_size]; have := k.size; omega
  os := k.os
  output := k.output
  kept x hx hn := by
    obtain ⟨h1, h2⟩ := k.kept x hx hn
    have := k.size
    refine ⟨by rw [heap_alloc_lt _ _ (by omega)]; exact h1, ?_⟩
    rintro ⟨b', o', m', g1, g2, g3, g4⟩
    by_cases he : b' = b
    · subst he; rw [Inj.ins_eq] at g3; cases g3; omega
    · rw [Inj.ins_ne _ _ he] at g3; exact h2 ⟨b', o', m', g1, g2, g3, g4⟩
  same := k.same
  void := k.void
  free x hx hf b' o' m' g1 g3 := by
    have := k.size
    by_cases he : b' = b
    · subst he; rw [Inj.ins_eq] at g3; cases g3; omega
    · rw [Inj.ins_ne _ _ he] at g3; exact k.free x hx hf b' o' m' g1 g3
  thaw x hx := k.thaw x (thaw_alloc hbare hx)

end
end Go.Ev

/- An effect looks at its operands alone. -/
namespace Go.Ev

theorem eff_congr' {T : Tab} {op : Op} {tm tm' : Tm} (ha : ∀ x ∈ op.operands, ev x tm = ev x tm') (df : List Deferred) (u : FrameMode) (h : H) :
    (match effF T op with
      | some f => (match f tm h with | some (v, h) => OpR.value v df u h | none => .fail)
      | none => .fail) = (match effF T op with
      | some f => (match f tm' h with | some (v, h) => OpR.value v df u h | none => .fail)
      | none => .fail) := by
  cases hf : effF T op with
  | none => rfl
  | some f => simp only; rw [eff_congr hf ha h]

theorem effect_congr {T : Tab} {op : Op} {tm tm' : Tm} (ha : ∀ x ∈ op.operands, ev x tm = ev x tm') (e : Env) (df : List Deferred) (u : FrameMode) (h : H) :
    effect T op e ⟨tm, df, u, h⟩ = effect T op e ⟨tm', df, u, h⟩ := by
  have gen : ∀ (g g' : Env → St → OpR), (∀ e s, g e s = (match effF T op with
      | some f => (match f s.tm s.h with | some (v, h) => OpR.value v s.df s.u h | none => .fail)
      | none => .fail)) → g e ⟨tm, df, u, h⟩ = g e ⟨tm', df, u, h⟩ := by
    intro g _ hg
    rw [hg, hg]
    exact eff_congr' ha df u h
  have fin : ∀ g : Env → St → OpR, g = (match effF T op with
      | some f => fun _ s => (match f s.tm s.h with | some (v, h) => .value v s.df s.u h | none => .fail)
      | none => fun _ _ => .fail) → g e ⟨tm, df, u, h⟩ = g e ⟨tm', df, u, h⟩ := by
    intro g hg
    refine gen g g fun e s => ?_
    rw [hg]
    cases effF T op <;> rfl
  cases op
  case defer c =>
    obtain ⟨callee, ⟨args⟩, ts⟩ := c
    cases callee with
    | value f =>
      have hf : ev f tm = ev f tm' := ha f (by simp [Op.operands, Call.operands])
      have hx : evL args tm = evL args tm' := evL_congr fun x hx => ha x (by simp [Op.operands, Call.operands]; exact .inr hx)
      simp only [effect, hf, hx]
    | builtin b => rfl
    | invoke r m => rfl
  case panic x =>
    have hx := ha x (by simp [Op.operands])
    simp only [effect, hx]
  case call c =>
    obtain ⟨callee, ⟨args⟩, ts⟩ := c
    cases callee with
    | value f =>
      have hf : ev f tm = ev f tm' := ha f (by simp [Op.operands, Call.operands])
      have hx : evL args tm = evL args tm' := evL_congr fun x hx => ha x (by simp [Op.operands, Call.operands]; exact .inr hx)
      simp only [effect, hf, hx]
    | builtin b =>
      cases b
      case recover => rfl
      all_goals exact fin _ rfl
    | invoke r m => exact fin _ rfl
  all_goals exact fin _ rfl

end Go.Ev

/- A tree of temporaries that agrees with what is known and is silent elsewhere. -/
namespace Go.Ev

theorem lt_pow (k : Nat) : k + 1 < 2 ^ (k + 1) := by
  induction k with
  | zero => decide
  | succ k ih => rw [Nat.pow_succ]; omega

theorem tm_build (g : Nat → Value) : ∀ N, ∃ tm : Tm, ∀ t, nth tm t = if t < N then g t else undefV
  | 0 => ⟨.nil, fun t => by simp [nth, TT.get]⟩
  | N + 1 => by
    obtain ⟨tm, ih⟩ := tm_build g N
    refine ⟨TT.set (some (g N)) (N + 1) tm N, fun t => ?_⟩
    by_cases he : t = N
    · subst he
      rw [if_pos (by omega)]
      unfold nth
      rw [TT.get_set_eq _ _ _ _ (by have := lt_pow t; omega)]
    · have : nth (TT.set (some (g N)) (N + 1) tm N) t = nth tm t := by unfold nth; rw [TT.get_set_ne _ _ _ _ _ he]
      rw [this, ih]
      by_cases hl : t < N
      · rw [if_pos hl, if_pos (by omega)]
      · rw [if_neg hl, if_neg (by omega)]

theorem tmps_bound : ∀ xs : List Operand, ∃ N, ∀ t, Operand.tmp t ∈ xs → t < N
  | [] => ⟨0, fun t h => by simp at h⟩
  | x :: xs => by
    obtain ⟨N, h⟩ := tmps_bound xs
    cases x with
    | tmp u =>
      refine ⟨N + u + 1, fun t ht => ?_⟩
      rcases List.mem_cons.1 ht with e | ht
      · cases e; exact Nat.lt_succ_of_le (Nat.le_add_left _ _)
      · exact Nat.lt_of_lt_of_le (h t ht) (Nat.le_trans (Nat.le_add_right N u) (Nat.le_succ _))
    | _ =>
      refine ⟨N, fun t ht => ?_⟩
      rcases List.mem_cons.1 ht with e | ht
      · cases e
      · exact h t ht

open Classical in
/-- what an operation knows of the temporaries is enough -/
theorem tm_some {T : Tab} {ι : Inj} {tm : Tm} {a : Act} {xs : List Operand} (hx : ∀ t, Operand.tmp t ∈ xs → VR T ι (nth tm t) (a.tmps.getD t undef)) :
    ∃ tm', TmR T ι tm' a.tmps ∧ ∀ x ∈ xs, ev x tm = ev x tm' := by
  obtain ⟨N, hN⟩ := tmps_bound xs
  obtain ⟨tm', h⟩ := tm_build (fun t => if Operand.tmp t ∈ xs then nth tm t else poison) (N + a.tmps.size)
  refine ⟨tm', fun t => ?_, fun x hxs => ?_⟩
  · rw [h]
    by_cases hl : t < N + a.tmps.size
    · rw [if_pos hl]
      by_cases hm : Operand.tmp t ∈ xs
      · simp only [hm, if_true]; exact hx t hm
      · simp only [hm, if_false]; exact .poison _
    · rw [if_neg hl]
      have : a.tmps.getD t undef = undef := by
        rw [Array.getD_eq_getD_getElem?, Array.getElem?_eq_none (by omega)]; rfl
      rw [this]
      exact .tuple _ _ .nil
  · cases x with
    | tmp t =>
      show nth tm t = nth tm' t
      rw [h, if_pos (Nat.lt_of_lt_of_le (hN t hxs) (Nat.le_add_right _ _)), if_pos hxs]
    | const v => show (cond (closedV v) (fun _ => v) (fun _ => poison) : Tm → Value) tm = (cond (closedV v) (fun _ => v) (fun _ => poison) : Tm → Value) tm'; cases closedV v <;> rfl
    | global g => show (cond (Nat.blt g ngl) (fun _ => Value.pointer (some ⟨g, 0, none⟩)) (fun _ => poison) : Tm → Value) tm = (cond (Nat.blt g ngl) (fun _ => Value.pointer (some ⟨g, 0, none⟩)) (fun _ => poison) : Tm → Value) tm'; cases Nat.blt g ngl <;> rfl
    | func f => rfl

end Go.Ev

/- Calls, deferred calls, panics and the frames' modes: what stands for what; one step of an operation. -/
namespace Go.Ev

structure EntryR (T : Tab) (ι : Inj) (e e' : PanicEntry) : Prop where
  v : VR T ι e.v e'.v
  r : e'.recovered = e.recovered
  g : e'.goexit = e.goexit

inductive ChainR (T : Tab) (ι : Inj) : List PanicEntry → List PanicEntry → Prop
  | nil : ChainR T ι [] []
  | cons (e e' : PanicEntry) (l l' : List PanicEntry) (h : EntryR T ι e e') (hl : ChainR T ι l l') : ChainR T ι (e :: l) (e' :: l')

inductive ModeR (T : Tab) (ι : Inj) : FrameMode → FrameMode → Prop
  | run : ModeR T ι .run .run
  | returning : ModeR T ι .returning .returning
  | panicking (c c' : List PanicEntry) (h : ChainR T ι c c') : ModeR T ι (.panicking c) (.panicking c')

inductive TargetR (T : Tab) (ι : Inj) : Target → Target → Prop
  | fn (f f' : Fn) (a a' : Array Value) (h : FnR ι f f') (ha : VRs T ι a.toList a'.toList) : TargetR T ι (.fn f a) (.fn f' a')
  | collected (r : Nat) (m : Im) (h : ι r = some m) : TargetR T ι (.collected r) (.collected m.blk)

structure DefR (T : Tab) (ι : Inj) (d d' : Deferred) : Prop where
  t : TargetR T ι d.target d'.target
  a : VRs T ι d.args.toList d'.args.toList

inductive DefsR (T : Tab) (ι : Inj) : List Deferred → List Deferred → Prop
  | nil : DefsR T ι [] []
  | cons (d d' : Deferred) (l l' : List Deferred) (h : DefR T ι d d') (hl : DefsR T ι l l') : DefsR T ι (d :: l) (d' :: l')

inductive EndR (T : Tab) (ι : Inj) : End → Ending → Prop
  | returned (v v' : Value) (h : VR T ι v v') : EndR T ι (.returned v) (.returned v')
  | panicked (c c' : List PanicEntry) (h : ChainR T ι c c') : EndR T ι (.panicked c) (.panicked c')

theorem ChainR.mono {T : Tab} {ι ι' : Inj} (hi : ι.le ι') {l l' : List PanicEntry} (h : ChainR T ι l l') : ChainR T ι' l l' := by
  induction h with
  | nil => exact .nil
  | cons e e' l l' h _ ih => exact .cons _ _ _ _ ⟨h.v.mono hi, h.r, h.g⟩ ih

theorem ModeR.mono {T : Tab} {ι ι' : Inj} (hi : ι.le ι') {m m' : FrameMode} (h : ModeR T ι m m') : ModeR T ι' m m' := by
  cases h with
  | run => exact .run
  | returning => exact .returning
  | panicking c c' h => exact .panicking c c' (h.mono hi)

theorem TargetR.mono {T : Tab} {ι ι' : Inj} (hi : ι.le ι') {t t' : Target} (h : TargetR T ι t t') : TargetR T ι' t t' := by
  cases h with
  | fn f f' a a' h ha => exact .fn f f' a a' (h.mono hi) (ha.mono hi)
  | collected r m h => exact .collected r m (hi _ _ h)

theorem DefsR.mono {T : Tab} {ι ι' : Inj} (hi : ι.le ι') {l l' : List Deferred} (h : DefsR T ι l l') : DefsR T ι' l l' := by
  induction h with
  | nil => exact .nil
  | cons d d' l l' h _ ih => exact .cons _ _ _ _ ⟨h.t.mono hi, h.a.mono hi⟩ ih

theorem ChainR.append {T : Tab} {ι : Inj} {a a' b b' : List PanicEntry} (h : ChainR T ι a a') (k : ChainR T ι b b') : ChainR T ι (a ++ b) (a' ++ b') := by
  induction h with
  | nil => exact k
  | cons e e' l l' h _ ih => exact .cons _ _ _ _ h ih

def FrameMode.live : FrameMode → Bool
  | .run => false
  | _ => true

/-- the callers, of which the first one's mode may have been turned by a deferred call -/
def HeadR (T : Tab) (ι : Inj) (deferred : Bool) (cs0 : List Frame) (u : FrameMode) (cs : List Frame) : Prop :=
  match deferred with
  | false => cs = cs0
  | true => ∃ c rest m, cs0 = c :: rest ∧ cs = { c with mode := m } :: rest ∧ ModeR T ι u m ∧ FrameMode.live m = true

theorem HeadR.mono {T : Tab} {ι ι' : Inj} (hi : ι.le ι') {d : Bool} {cs0 cs : List Frame} {u : FrameMode} (h : HeadR T ι d cs0 u cs) : HeadR T ι' d cs0 u cs := by
  cases d with
  | false => exact h
  | true => obtain ⟨c, rest, m, h1, h2, h3, h4⟩ := h; exact ⟨c, rest, m, h1, h2, h3.mono hi, h4⟩

def kindOf (deferred : Bool) : CallKind := cond deferred .deferred .normal

structure FrameOk (e : Env) (b : Frame) : Prop where
  kind : b.kind = kindOf e.deferred
  round : e.round = false → b.roundOf = none
  roundD : e.round = true → b.roundOf ≠ none ∧ e.deferred = false

/-- what becomes of the caller when a call has ended -/
def back (deferred : Bool) (c : Frame) (m : FrameMode) (e : Ending) : Frame := match e with
  | .returned v => cond deferred { c with mode := settle m } (c.finish v)
  | .panicked chain => cond deferred (({ c with mode := m } : Frame).raise chain) (c.raise chain)
  | .outgrown => c

def entered (P : Program) (k : CallKind) (nx : Next) : Option Frame := match nx with
  | .enter f args => some (Frame.enter P f args k)
  | .round l f tmps assign body => some (Frame.round l f tmps assign body k)
  | _ => none

/-- calls are made as the evaluator says -/
def InvOk (T : Tab) (P : Program) (inv : Inv) : Prop :=
  ∀ (t : Target) (args : List Value) (deferred : Bool) (u : FrameMode) (h : H) (r : End) (u' : FrameMode) (h' : H), inv t args deferred u h = some (r, u', h') →
  ∀ (ι : Inj) (w : World) (t' : Target) (args' : Array Value), WR T ι h w → TargetR T ι t t' → VRs T ι args args'.toList →
  ∃ (nx : Next) (w1 : World) (fr0 : Frame), (invoke t' args').run P w = .ok nx w1 ∧ entered P (kindOf deferred) nx = some fr0 ∧
    ∀ (c : Frame) (rest : List Frame), (deferred = true → ModeR T ι u c.mode ∧ FrameMode.live c.mode = true) →
      ∃ (w' : World) (ι' : Inj) (m' : FrameMode) (e : Ending), Steps P (lone fr0 (c :: rest) w1) (lone (back deferred c m' e) rest w') ∧ EndR T ι' r e ∧
        (deferred = true → ModeR T ι' u' m' ∧ FrameMode.live m' = true) ∧ WR T ι' h' w' ∧ Keep ι h w ι' h' w'

section steps
variable {P : Program} {b : Frame} {a : Act} {k : List Item} {cs : List Frame} {w : World} {ops : Array Oper} {i : Nat} {rest : List Nat} {o : Oper}

theorem finish_op (ho : ops[i]? = some o) (v : Value) : (b.atR a (.inRegion ops (i :: rest) :: k)).finish v = b.atR (a.put o.dst v) (.inRegion ops rest :: k) := by
  rw [Frame.finish_atR, ho]; rfl

theorem step_value (ho : ops[i]? = some o) (hw : Region.wanted o (yielded ops a.tmps) = true) (hd : ∀ c, o.op ≠ .defer c) {v : Value} {w' : World} (hr : (execOp a.eval o).run P w = .ok (.value v) w') :
    step P (lone (b.atR a (.inRegion ops (i :: rest) :: k)) cs w) = .next (lone (b.atR (a.put o.dst v) (.inRegion ops rest :: k)) cs w') :=
  step_lone_go (by rw [stepGR_op ho hw, Oper.semAt_eq _ _ _ hd, ← finish_op ho]; simp [stepG.apply, hr])

theorem step_none (ho : ops[i]? = some o) (hw : Region.wanted o (yielded ops a.tmps) = true) (hd : ∀ c, o.op ≠ .defer c) {w' : World} (hr : (execOp a.eval o).run P w = .ok .skip w') :
    step P (lone (b.atR a (.inRegion ops (i :: rest) :: k)) cs w) = .next (lone (b.atR (a.put o.dst undef) (.inRegion ops rest :: k)) cs w') :=
  step_lone_go (by rw [stepGR_op ho hw, Oper.semAt_eq _ _ _ hd, ← finish_op ho]; simp [stepG.apply, hr])

theorem step_defer (ho : ops[i]? = some o) (hw : Region.wanted o (yielded ops a.tmps) = true) (hb : b.roundOf = none) {d : Deferred} {w' : World} (hr : (execOp a.eval o).run P w = .ok (.defer d) w') :
    step P (lone (b.atR a (.inRegion ops (i :: rest) :: k)) cs w) = .next (lone (b.atR (({ a with defers := d :: a.defers } : Act).put o.dst undef) (.inRegion ops rest :: k)) cs w') :=
  step_lone_go (by
    rw [stepGR_op ho hw, hb, Oper.semAt_none, ← finish_op ho]
    simp only [stepG.apply, if_true, Sem.runT_eq, hr, GStep.bare_after]
    rfl)

theorem step_raise (ho : ops[i]? = some o) (hw : Region.wanted o (yielded ops a.tmps) = true) (hd : ∀ c, o.op ≠ .defer c) {v : Value} {w' : World} (hr : (execOp a.eval o).run P w = .halt (.panic v) w') :
    step P (lone (b.atR a (.inRegion ops (i :: rest) :: k)) cs w) = .next (lone { b.atR a (.inRegion ops (i :: rest) :: k) with mode := .panicking [{ v, recovered := false }] } cs w') :=
  step_lone_go (by rw [stepGR_op ho hw, Oper.semAt_eq _ _ _ hd, ← Frame.raise_atR]; simp [stepG.apply, hr])

theorem step_call (ho : ops[i]? = some o) (hw : Region.wanted o (yielded ops a.tmps) = true) (hd : ∀ c, o.op ≠ .defer c) {nx : Next} {fr : Frame} {w' : World} (hr : (execOp a.eval o).run P w = .ok nx w') (hn : entered P .normal nx = some fr) :
    step P (lone (b.atR a (.inRegion ops (i :: rest) :: k)) cs w) = .next (lone fr (b.atR a (.inRegion ops (i :: rest) :: k) :: cs) w') :=
  step_lone_go (by
    rw [stepGR_op ho hw, Oper.semAt_eq _ _ _ hd]
    cases nx <;> simp only [entered, reduceCtorEq, Option.some.injEq] at hn
    all_goals subst hn; simp [stepG.apply, hr, Frame.atR])

theorem step_recover (ho : ops[i]? = some o) (hw : Region.wanted o (yielded ops a.tmps) = true) (hd : ∀ c, o.op ≠ .defer c) (hb : b.roundOf = none) {w' : World} (hr : (execOp a.eval o).run P w = .ok .recover w')
    {v : Value} {cs' : List Frame} (ht : (match tryRecover (b.atR a (.inRegion ops (i :: rest) :: k)) cs with | some (v, cs) => (v, cs) | none => (.nilIface, cs)) = (v, cs')) :
    step P (lone (b.atR a (.inRegion ops (i :: rest) :: k)) cs w) = .next (lone (b.atR (a.put o.dst v) (.inRegion ops rest :: k)) cs' w') :=
  step_lone_go (by
    rw [stepGR_op ho hw, Oper.semAt_eq _ _ _ hd, ← finish_op ho]
    have hb' : (b.atR a (.inRegion ops (i :: rest) :: k)).roundOf = none := hb
    simp only [stepG.apply, if_true, Sem.runT_eq, hr, GStep.bare_after, hb']
    cases hx : tryRecover (b.atR a (.inRegion ops (i :: rest) :: k)) cs with
    | none => rw [hx] at ht; simp only [Prod.mk.injEq] at ht; obtain ⟨rfl, rfl⟩ := ht; rfl
    | some p => rw [hx] at ht; obtain ⟨v1, cs1⟩ := p; simp only [Prod.mk.injEq] at ht; obtain ⟨rfl, rfl⟩ := ht; rfl)

end steps
end Go.Ev

/- One effect, a call or another, as the machine does it. -/
namespace Go.Ev

section
variable {T : Tab} {P : Program} {ι : Inj} {w : World} {a : Act} {b : Frame} {k : List Item} {cs0 cs : List Frame} {ops : Array Oper} {i : Nat} {rest : List Nat} {o : Oper}

/-- an effect that leaves a value -/
def StepsV (T : Tab) (P : Program) (ι : Inj) (h : H) (w : World) (deferred : Bool) (cs0 : List Frame) (m : Machine) (b : Frame) (a : Act) (dst : Option Tmp) (todo : List Item) (v : Value) (df : List Deferred) (u : FrameMode) (h' : H) : Prop :=
  ∃ (v' : Value) (ds : List Deferred) (cs' : List Frame) (w' : World) (ι' : Inj), Steps P m (lone (b.atR (({ a with defers := ds } : Act).put dst v') todo) cs' w') ∧
    VR T ι' v v' ∧ DefsR T ι' df ds ∧ HeadR T ι' deferred cs0 u cs' ∧ WR T ι' h' w' ∧ Keep ι h w ι' h' w'

/-- .. that ends in a panic -/
def StepsP (T : Tab) (P : Program) (ι : Inj) (h : H) (w : World) (deferred : Bool) (cs0 : List Frame) (m : Machine) (b : Frame) (a : Act) (df : List Deferred) (chain : List PanicEntry) (u : FrameMode) (h' : H) : Prop :=
  ∃ (todo : List Item) (chain' : List PanicEntry) (cs' : List Frame) (w' : World) (ι' : Inj), Steps P m (lone { b.atR a todo with mode := .panicking chain' } cs' w') ∧
    ChainR T ι' chain chain' ∧ DefsR T ι' df a.defers ∧ HeadR T ι' deferred cs0 u cs' ∧ WR T ι' h' w' ∧ Keep ι h w ι' h' w'

def StepsE (T : Tab) (P : Program) (ι : Inj) (h : H) (w : World) (deferred : Bool) (cs0 : List Frame) (m : Machine) (b : Frame) (a : Act) (dst : Option Tmp) (todo : List Item) (df : List Deferred) : OpR → Prop
  | .fail => True
  | .value v df u h' => StepsV T P ι h w deferred cs0 m b a dst todo v df u h'
  | .panic chain u h' => StepsP T P ι h w deferred cs0 m b a df chain u h'

theorem targetV_R {f f' : Value} {l : List Value} {l' : Array Value} (hf : VR T ι f f') (hl : VRs T ι l l'.toList) {t : Target} {r : List Value} (h : targetV f l = some (t, r)) :
    ∃ (fn' : Fn) (first' captured' : Array Value), f' = .func fn' first' captured' ∧ TargetR T ι t (.fn fn' captured') ∧ VRs T ι r (first' ++ l').toList := by
  unfold targetV at h
  split at h
  · rename_i fn first captured
    simp only [Option.some.injEq, Prod.mk.injEq] at h
    obtain ⟨rfl, rfl⟩ := h
    cases hf with
    | func _ fn' _ _ a' b' h0 h1 h2 =>
      refine ⟨fn', a', b', rfl, .fn _ _ _ _ h0 h2, ?_⟩
      rw [Array.toList_append]
      exact h1.append hl
  · cases h

theorem effF_ok (hT : TabOk T P) {e : Env} {s : St} (hw : WR T ι s.h w) (ht : TmR T ι s.tm a.tmps) (hdf : DefsR T ι s.df a.defers) (hh : HeadR T ι e.deferred cs0 s.u cs) (ho : ops[i]? = some o)
    (hwant : Region.wanted o (yielded ops a.tmps) = true) (hd : ∀ c, o.op ≠ .defer c) :
    StepsE T P ι s.h w e.deferred cs0 (lone (b.atR a (.inRegion ops (i :: rest) :: k)) cs w) b a o.dst (.inRegion ops rest :: k) s.df
      (match effF T o.op with
        | some f => (match f s.tm s.h with | some (v, h) => .value v s.df s.u h | none => .fail)
        | none => .fail) := by
  cases hf : effF T o.op with
  | none => trivial
  | some f =>
    simp only
    cases hv : f s.tm s.h with
    | none => trivial
    | some p =>
      obtain ⟨v, h'⟩ := p
      obtain ⟨nx, w', ι', h1, h2, h3, h4⟩ := eff_ok (P := P) hT hw ht hf hv
      rcases h2 with ⟨v', rfl, h2⟩ | ⟨rfl, rfl⟩
      · exact ⟨v', a.defers, cs, w', ι', .one (step_value ho hwant hd h1), h2, hdf.mono h4.le, hh.mono h4.le, h3, h4⟩
      · exact ⟨undef, a.defers, cs, w', ι', .one (step_none ho hwant hd h1), .tuple _ _ .nil, hdf.mono h4.le, hh.mono h4.le, h3, h4⟩

theorem recover_R {d : Bool} {u : FrameMode} {v : Value} {u' : FrameMode} (hr : recoverV d u = (v, u')) (hh : HeadR T ι d cs0 u cs) {fr : Frame} (hk : fr.kind = kindOf d) :
    ∃ (v' : Value) (cs' : List Frame), (match tryRecover fr cs with | some (v, cs) => (v, cs) | none => (.nilIface, cs)) = (v', cs') ∧ VR T ι v v' ∧ HeadR T ι d cs0 u' cs' := by
  cases d with
  | false =>
    have hn : tryRecover fr cs = none := by
      unfold tryRecover
      rw [hk]
      rfl
    simp only [recoverV, Prod.mk.injEq] at hr
    obtain ⟨rfl, rfl⟩ := hr
    refine ⟨.nilIface, cs, ?_, .nilIface, hh⟩
    rw [hn]
  | true =>
    obtain ⟨c, rest, m, rfl, rfl, hm, hlive⟩ := hh
    have hk' : fr.kind = .deferred := hk
    rw [tryRecover_deferred hk']
    simp only [recoverD]
    have other : (v, u') = (.nilIface, u) → ∃ (v' : Value) (cs' : List Frame), ((.nilIface, { c with mode := m } :: rest) : Value × List Frame) = (v', cs') ∧ VR T ι v v' ∧ HeadR T ι true (c :: rest) u' cs' := by
      intro h
      simp only [Prod.mk.injEq] at h
      obtain ⟨rfl, rfl⟩ := h
      exact ⟨_, _, rfl, .nilIface, c, rest, m, rfl, rfl, hm, hlive⟩
    cases hm with
    | run => exact other (by rw [← hr]; rfl)
    | returning => exact other (by rw [← hr]; rfl)
    | panicking l l' hl =>
      cases hl with
      | nil => exact other (by rw [← hr]; rfl)
      | cons e e' l l' he hl =>
        obtain ⟨ev, er, eg⟩ := e
        obtain ⟨ev', er', eg'⟩ := e'
        obtain ⟨h1, h2, h3⟩ := he
        simp only at h1 h2 h3
        subst h2
        subst h3
        cases er' with
        | true => exact other (by rw [← hr]; rfl)
        | false =>
          cases eg' with
          | true => exact other (by rw [← hr]; rfl)
          | false =>
            have hr' : (ev, FrameMode.panicking ({ v := ev, recovered := true } :: l)) = (v, u') := hr
            simp only [Prod.mk.injEq] at hr'
            obtain ⟨rfl, rfl⟩ := hr'
            exact ⟨ev', _, rfl, h1, c, rest, _, rfl, rfl, .panicking _ _ (.cons _ _ _ _ ⟨h1, rfl, rfl⟩ hl), rfl⟩

theorem effect_ok (hT : TabOk T P) {e : Env} (hi : InvOk T P e.inv) (hb : FrameOk e b) {s : St} (hw : WR T ι s.h w) (ht : TmR T ι s.tm a.tmps) (hdf : DefsR T ι s.df a.defers)
    (hh : HeadR T ι e.deferred cs0 s.u cs) (ho : ops[i]? = some o) (hwant : Region.wanted o (yielded ops a.tmps) = true) :
    StepsE T P ι s.h w e.deferred cs0 (lone (b.atR a (.inRegion ops (i :: rest) :: k)) cs w) b a o.dst (.inRegion ops rest :: k) s.df (effect T o.op e s) := by
  have gen : ∀ r, (∀ c, o.op ≠ .defer c) → r = (match effF T o.op with
        | some f => (match f s.tm s.h with | some (v, h) => OpR.value v s.df s.u h | none => .fail)
        | none => .fail) → StepsE T P ι s.h w e.deferred cs0 (lone (b.atR a (.inRegion ops (i :: rest) :: k)) cs w) b a o.dst (.inRegion ops rest :: k) s.df r := by
    intro r hd hr
    rw [hr]
    exact effF_ok hT hw ht hdf hh ho hwant hd
  have fin : (∀ c, o.op ≠ .defer c) → effect T o.op e s = ((match effF T o.op with
      | some f => fun _ s => (match f s.tm s.h with | some (v, h) => .value v s.df s.u h | none => .fail)
      | none => fun _ _ => .fail) : Env → St → OpR) e s → StepsE T P ι s.h w e.deferred cs0 (lone (b.atR a (.inRegion ops (i :: rest) :: k)) cs w) b a o.dst (.inRegion ops rest :: k) s.df (effect T o.op e s) := by
    intro hd hr
    refine gen _ hd (hr.trans ?_)
    cases effF T o.op <;> rfl
  obtain ⟨dst, op, type, pos, after, guard⟩ := o
  cases op
  case defer c =>
    obtain ⟨callee, ⟨args⟩, ts⟩ := c
    cases callee with
    | value f =>
      simp only [effect]
      cases hr : e.round with
      | true => trivial
      | false =>
        simp only [cond_false]
        have hx : VRs T ι (evL args s.tm) ((args.map a.eval).toArray).toList := by simpa using evL_R hw ht args
        cases ht' : targetV (ev f s.tm) (evL args s.tm) with
        | none => trivial
        | some p =>
          obtain ⟨t, l⟩ := p
          obtain ⟨fn', first', captured', h1, h2, h3⟩ := targetV_R (ev_R hw ht f) hx ht'
          refine ⟨undef, { target := .fn fn' captured', args := first' ++ (args.map a.eval).toArray } :: a.defers, cs, w, ι, .one (step_defer ho hwant (hb.round hr) ?_), .tuple _ _ .nil, .cons _ _ _ _ ⟨h2, h3⟩ hdf, hh, hw, Keep.refl _ _ _⟩
          simp [execOp, resolve, Deferred.ofValue, h1]
    | builtin b => trivial
    | invoke r m => trivial
  case panic x =>
    simp only [effect]
    have hx := ev_R hw ht x
    split
    · rename_i t v hv
      rw [hv] at hx
      cases hx' : a.eval x with
      | iface t' v' =>
        rw [hx'] at hx
        cases hx with
        | iface _ _ _ hx =>
          refine ⟨_, _, cs, w, ι, .one (step_raise (v := .iface t v') ho hwant (by simp) ?_), .cons _ _ _ _ ⟨.iface _ _ _ hx, rfl, rfl⟩ .nil, hdf, hh, hw, Keep.refl _ _ _⟩
          simp [execOp, Instr.panic, hx', goPanic]
      | _ => rw [hx'] at hx; cases hx
    · trivial
  case call c =>
    obtain ⟨callee, ⟨args⟩, ts⟩ := c
    cases callee with
    | value f =>
      simp only [effect]
      have hx : VRs T ι (evL args s.tm) ((args.map a.eval).toArray).toList := by simpa using evL_R hw ht args
      cases ht' : targetV (ev f s.tm) (evL args s.tm) with
      | none => trivial
      | some p =>
        obtain ⟨t, l⟩ := p
        obtain ⟨fn', first', captured', h1, h2, h3⟩ := targetV_R (ev_R hw ht f) hx ht'
        simp only
        cases hv : e.inv t l false .run s.h with
        | none => trivial
        | some q =>
          obtain ⟨r, u', h'⟩ := q
          obtain ⟨nx, w1, fr0, g1, g2, g3⟩ := hi t l false .run s.h r u' h' hv ι w (.fn fn' captured') (first' ++ (args.map a.eval).toArray) hw h2 h3
          have hex : (execOp a.eval { dst, op := .call { callee := .value f, args := ⟨args⟩, argTypes := ts }, type, pos, after, guard }).run P w = .ok nx w1 := by
            rw [← g1]
            simp [execOp, resolve, Deferred.ofValue, h1]
          have hs := step_call (P := P) (b := b) (k := k) (cs := cs) (rest := rest) ho hwant (by simp) hex g2
          obtain ⟨w', ι', m', e', g4, g5, _, g6, g7⟩ := g3 (b.atR a (.inRegion ops (i :: rest) :: k)) cs (by simp)
          cases g5 with
          | returned v v' hv' =>
            refine ⟨v', a.defers, cs, w', ι', ?_, hv', hdf.mono g7.le, hh.mono g7.le, g6, g7⟩
            have := Steps.head hs g4
            simp only [back, cond_false] at this
            rw [finish_op ho] at this
            exact this
          | panicked c c' hc =>
            refine ⟨.inRegion ops (i :: rest) :: k, c', cs, w', ι', ?_, hc, hdf.mono g7.le, hh.mono g7.le, g6, g7⟩
            have := Steps.head hs g4
            simp only [back, cond_false, Frame.raise_atR] at this
            exact this
    | builtin b' =>
      cases b'
      case recover =>
        simp only [effect]
        cases hr : e.round with
        | true => trivial
        | false =>
          simp only [cond_false]
          cases hv : recoverV e.deferred s.u with
          | mk v u' =>
            obtain ⟨v', cs', h1, h2, h3⟩ := recover_R (fr := b.atR a (.inRegion ops (i :: rest) :: k)) hv hh hb.kind
            refine ⟨v', a.defers, cs', w, ι, .one (step_recover ho hwant (by simp) (hb.round hr) ?_ h1), h2, hdf, h3, hw, Keep.refl _ _ _⟩
            simp [execOp, resolve, invoke, builtin]
      all_goals exact fin (by simp) rfl
    | invoke r m => exact fin (by simp) rfl
  all_goals exact fin (by simp) rfl

end
end Go.Ev

/- A region in the order of its text. -/
namespace Go.Ev

/-- a frame and its surroundings stand for the evaluator's state -/
structure StR (T : Tab) (ι : Inj) (e : Env) (cs0 : List Frame) (n : Nat) (s : St) (a : Act) (cs : List Frame) (w : World) : Prop where
  wr : WR T ι s.h w
  tm : TmR T ι s.tm a.tmps
  df : DefsR T ι s.df a.defers
  head : HeadR T ι e.deferred cs0 s.u cs
  size : a.tmps.size = n
  small : n ≤ 65535

/-- what the machine does where the evaluator answers -/
def ExR (T : Tab) (P : Program) (ι : Inj) (h : H) (w : World) (e : Env) (cs0 : List Frame) (n : Nat) (m : Machine) (b : Frame) (k : List Item) : Ex → Prop
  | .fail => True
  | .normal s => ∃ (a' : Act) (cs' : List Frame) (w' : World) (ι' : Inj), Steps P m (lone (b.atR a' k) cs' w') ∧ StR T ι' e cs0 n s a' cs' w' ∧ Keep ι h w ι' s.h w'
  | .exit id s => ∃ (a' : Act) (cs' : List Frame) (w' : World) (ι' : Inj) (k2 : List Item), Steps P m (lone (b.atR a' (.code (.exit id) :: k2)) cs' w') ∧ exitTo id k2 = exitTo id k ∧
      StR T ι' e cs0 n s a' cs' w' ∧ Keep ι h w ι' s.h w'
  | .ret s => ∃ (a' : Act) (cs' : List Frame) (w' : World) (ι' : Inj) (k2 : List Item), Steps P m (lone (b.atR a' (.code .ret :: k2)) cs' w') ∧ StR T ι' e cs0 n s a' cs' w' ∧ Keep ι h w ι' s.h w'
  | .panic chain s => ∃ (a' : Act) (cs' : List Frame) (w' : World) (ι' : Inj) (todo : List Item) (chain' : List PanicEntry), Steps P m (lone { b.atR a' todo with mode := .panicking chain' } cs' w') ∧
      ChainR T ι' chain chain' ∧ StR T ι' e cs0 n s a' cs' w' ∧ Keep ι h w ι' s.h w'

section
variable {T : Tab} {P : Program} {ι : Inj} {w : World} {a : Act} {b : Frame} {k : List Item} {cs0 cs : List Frame} {n : Nat}

theorem ExR.after {ι₀ : Inj} {h₀ h : H} {w₀ : World} {e : Env} {m m₁ : Machine} {r : Ex} (hs : Steps P m m₁) (hk : Keep ι₀ h₀ w₀ ι h w) (hr : ExR T P ι h w e cs0 n m₁ b k r) : ExR T P ι₀ h₀ w₀ e cs0 n m b k r := by
  cases r with
  | fail => trivial
  | normal s => obtain ⟨a', cs', w', ι', h1, h2, h3⟩ := hr; exact ⟨a', cs', w', ι', hs.trans h1, h2, hk.trans h3⟩
  | exit id s => obtain ⟨a', cs', w', ι', k2, h1, h0, h2, h3⟩ := hr; exact ⟨a', cs', w', ι', k2, hs.trans h1, h0, h2, hk.trans h3⟩
  | ret s => obtain ⟨a', cs', w', ι', k2, h1, h2, h3⟩ := hr; exact ⟨a', cs', w', ι', k2, hs.trans h1, h2, hk.trans h3⟩
  | panic c s => obtain ⟨a', cs', w', ι', t, c', h1, h0, h2, h3⟩ := hr; exact ⟨a', cs', w', ι', t, c', hs.trans h1, h0, h2, hk.trans h3⟩

theorem wanted_R {ops : Array Oper} {o : Oper} {tm : Tm} {tmps : Array Value} (ht : ∀ j w d, o.guard = some (j, w) → (nth? ops.toList j).bind (·.dst) = some d → VR T ι (nth tm d) (tmps.getD d undef))
    (hg : guardOk ops o tm = true) : Region.wanted o (yielded ops tmps) = wantedF ops o tm := by
  unfold Region.wanted wantedF
  unfold guardOk at hg
  cases hgd : o.guard with
  | none => rfl
  | some g =>
    obtain ⟨j, want⟩ := g
    rw [hgd] at hg
    simp only at hg ⊢
    have hj : nth? ops.toList j = ops[j]? := by rw [nth?_eq]; simp
    unfold yielded
    rw [hj] at hg ⊢
    cases hd : (ops[j]?).bind (·.dst) with
    | none => simp
    | some d =>
      rw [hd] at hg
      have hv := ht j want d hgd (by rw [hj]; exact hd)
      simp only [Option.bind_some]
      simp only at hg
      have hb : ∀ b : Bool, (tmps.getD d undef = .bool b) ↔ tmps[d]? = some (.bool b) := by
        intro b
        rw [Array.getD_eq_getD_getElem?]
        cases tmps[d]? with
        | none => simp [undef]
        | some x => simp
      cases hx : nth tm d with
      | bool c =>
        rw [hx] at hv
        generalize hy : tmps.getD d undef = y at hv
        cases hv with
        | bool _ =>
          rw [(hb c).1 hy]
          cases c <;> cases want <;> rfl
      | chan c => rw [hx] at hg; simp at hg
      | _ =>
        rw [hx] at hv
        have : ∀ c, tmps[d]? ≠ some (.bool c) := by
          intro c hc
          rw [(hb c).2 hc] at hv
          cases hv
        split
        · rename_i c hc; exact absurd hc (this c)
        · rfl

theorem TmR.guard {ops : Array Oper} {o : Oper} {tm : Tm} {tmps : Array Value} (ht : TmR T ι tm tmps) : ∀ j w d, o.guard = some (j, w) → (nth? ops.toList j).bind (·.dst) = some d → VR T ι (nth tm d) (tmps.getD d undef) :=
  fun _ _ d _ _ => ht d

theorem StR.put {e : Env} {s : St} {ι' : Inj} (h : StR T ι e cs0 n s a cs w) {d : Option Nat} (hd : ltO d n = true) {v v' : Value} {ds : List Deferred} {df : List Deferred} {u : FrameMode} {h' : H} {cs' : List Frame} {w' : World}
    (hle : ι.le ι') (hv : VR T ι' v v') (hdf : DefsR T ι' df ds) (hh : HeadR T ι' e.deferred cs0 u cs') (hw : WR T ι' h' w') :
    StR T ι' e cs0 n ⟨putD d s.tm v, df, u, h'⟩ (({ a with defers := ds } : Act).put d v') cs' w' where
  wr := hw
  tm := TmR.put (a := { a with defers := ds }) (h.tm.mono hle) (by rw [show ({ a with defers := ds } : Act).tmps.size = n from h.size]; exact hd) (by rw [show ({ a with defers := ds } : Act).tmps.size = n from h.size]; exact h.small) hv
  df := by cases d <;> exact hdf
  head := hh
  size := by rw [put_size]; exact h.size
  small := h.small

theorem cls_defer {op : Op} {c : Call} (h : op = .defer c) : cls op = .eff := by subst h; rfl

/-- what an operation does in its place -/
theorem stepG_ok (hT : TabOk T P) {e : Env} (hi : InvOk T P e.inv) (hb : FrameOk e b) {ops : Array Oper} {i : Nat} {rest : List Nat} {o : Oper} (ho : ops[i]? = some o) (hd : ltO o.dst n = true) {s : St} (hst : StR T ι e cs0 n s a cs w)
    (hg : guardOk ops o s.tm = true) {next : Env → St → Ex} (hnext : ∀ (ι' : Inj) (s' : St) (a' : Act) (cs' : List Frame) (w' : World), StR T ι' e cs0 n s' a' cs' w' → ExR T P ι' s'.h w' e cs0 n (lone (b.atR a' (.inRegion ops rest :: k)) cs' w') b k (next e s')) :
    ExR T P ι s.h w e cs0 n (lone (b.atR a (.inRegion ops (i :: rest) :: k)) cs w) b k (stepG T ops o next e s) := by
  have hwant := wanted_R (ops := ops) (o := o) hst.tm.guard hg
  have skip : wantedF ops o s.tm = false → ExR T P ι s.h w e cs0 n (lone (b.atR a (.inRegion ops (i :: rest) :: k)) cs w) b k (next e ⟨putD o.dst s.tm undefV, s.df, s.u, s.h⟩) := by
    intro hf
    have hs := stepR_op_skip (P := P) (b := b) (a := a) (k := k) (cs := cs) (w := w) (ops := ops) (i := i) (rest := rest) (by rw [ho]; simp only [Option.map_some, Option.getD_some]; rw [hwant]; exact hf)
    rw [ho] at hs
    exact (hnext ι _ _ cs w (hst.put hd ι.le_refl (.tuple _ _ .nil) hst.df hst.head hst.wr)).after (.one hs) (Keep.refl _ _ _)
  have hnd : cls o.op ≠ .eff → ∀ c, o.op ≠ .defer c := fun h c hc => h (cls_defer hc)
  unfold stepG
  cases hc : cls o.op with
  | float =>
    simp only
    cases hf : pureF T o.op with
    | none => trivial
    | some f =>
      simp only
      cases hw : wantedF ops o s.tm with
      | false => simp only [cond_false]; exact skip hw
      | true =>
        simp only [cond_true]
        cases hv : f s.tm s.h with
        | none => trivial
        | some v =>
          obtain ⟨v', h1, h2⟩ := pure_ok hT hst.wr hst.tm hf hv
          have hs := step_value (P := P) (b := b) (k := k) (cs := cs) (rest := rest) ho (hwant.trans hw) (hnd (by rw [hc]; simp)) h1
          exact (hnext ι _ _ cs w (hst.put hd ι.le_refl h2 hst.df hst.head hst.wr)).after (.one hs) (Keep.refl _ _ _)
  | made =>
    simp only
    cases hf : madeF T o.op with
    | none => trivial
    | some f =>
      simp only
      cases hw : wantedF ops o s.tm with
      | false => simp only [cond_false]; exact skip hw
      | true =>
        simp only [cond_true]
        cases hv : f s.tm with
        | none => trivial
        | some p =>
          obtain ⟨ob, g⟩ := p
          simp only
          cases hn : s.h.new ob with
          | none => trivial
          | some q =>
            obtain ⟨nb, h'⟩ := q
            simp only
            obtain ⟨obj, m, v', h1, h2, h3⟩ := made_ok hT hst.wr hst.tm hf hv
            obtain ⟨e1, _, _, _, _⟩ := H.new_eq hn
            have hnone : ι nb = none := by
              cases hi' : ι nb with
              | none => rfl
              | some x => have := hst.wr.ids _ _ hi'; omega
            obtain ⟨h4, h5⟩ := h3 nb hnone
            obtain ⟨h6, h7, _⟩ := hst.wr.alloc (made_owned hf hv) hn h2 h4
            have hs := step_value (P := P) (b := b) (k := k) (cs := cs) (rest := rest) ho (hwant.trans hw) (hnd (by rw [hc]; simp)) h1
            exact (hnext _ _ _ cs _ (hst.put hd h7.le h5 (hst.df.mono h7.le) (hst.head.mono h7.le) h6)).after (.one hs) h7
  | eff =>
    simp only
    cases hw : wantedF ops o s.tm with
    | false => simp only [cond_false]; exact skip hw
    | true =>
      simp only [cond_true]
      have he := effect_ok (k := k) (rest := rest) hT hi hb hst.wr hst.tm hst.df hst.head ho (hwant.trans hw)
      cases hv : effect T o.op e s with
      | fail => trivial
      | value v df u h' =>
        rw [hv] at he
        obtain ⟨v', ds, cs', w', ι', h1, h2, h3, h4, h5, h6⟩ := he
        exact (hnext _ _ _ cs' w' (hst.put hd h6.le h2 h3 h4 h5)).after h1 h6
      | panic chain u h' =>
        rw [hv] at he
        obtain ⟨todo, chain', cs', w', ι', h1, h2, h3, h4, h5, h6⟩ := he
        exact ⟨a, cs', w', ι', todo, chain', h1, h2, ⟨h5, hst.tm.mono h6.le, h3, h4, hst.size, hst.small⟩, h6⟩

theorem opsF_ok (hT : TabOk T P) {e : Env} (hi : InvOk T P e.inv) (hb : FrameOk e b) {ops : Array Oper} (hd : ∀ (i : Nat) o, ops[i]? = some o → ltO o.dst n = true) :
    ∀ (l : List Oper) (i : Nat), ops.toList.drop i = l → ∀ (ι : Inj) (s : St) (a : Act) (cs : List Frame) (w : World), StR T ι e cs0 n s a cs w →
    ExR T P ι s.h w e cs0 n (lone (b.atR a (.inRegion ops (List.range' i l.length) :: k)) cs w) b k (opsF T ops l e s) := by
  intro l
  induction l with
  | nil =>
    intro i hl ι s a cs w hst
    exact ⟨a, cs, w, ι, .one stepR_region_end, hst, Keep.refl _ _ _⟩
  | cons o l ih =>
    intro i hl ι s a cs w hst
    have ho : ops[i]? = some o := by
      have := congrArg (fun x => x[0]?) hl
      simpa using this
    have hl' : ops.toList.drop (i + 1) = l := by
      have := congrArg List.tail hl
      simpa using this
    have hnext : ∀ (ι' : Inj) (s' : St) (a' : Act) (cs' : List Frame) (w' : World), StR T ι' e cs0 n s' a' cs' w' →
        ExR T P ι' s'.h w' e cs0 n (lone (b.atR a' (.inRegion ops (List.range' (i + 1) l.length) :: k)) cs' w') b k (opsF T ops l e s') := ih (i + 1) hl'
    simp only [opsF, List.length_cons, List.range'_succ]
    unfold stepF
    cases hg : o.guard with
    | none => exact stepG_ok hT hi hb ho (hd i o ho) hst (by simp [guardOk, hg]) hnext
    | some g =>
      simp only
      cases hk : guardOk ops o s.tm with
      | false => trivial
      | true => exact stepG_ok hT hi hb ho (hd i o ho) hst hk hnext

end
end Go.Ev

/- What a region's text says, gathered; what holds while it is gone through in another order. -/
namespace Go.Ev

inductive Kind where
  | skip
  | float (v : Value)
  | made (ob : AObj) (g : Nat → Value)
  | eff (v : Value)

def Kind.val (n : Nat) : Kind → Value
  | .skip => undefV
  | .float v => v
  | .made _ g => g n
  | .eff v => v

inductive StepK (T : Tab) (ops : Array Oper) (e : Env) (n : Nat) (o : Oper) (s : St) : Kind → St → Prop
  | skip (hw : wantedF ops o s.tm = false) : StepK T ops e n o s .skip ⟨putD o.dst s.tm undefV, s.df, s.u, s.h⟩
  | float (f : Tm → H → Option Value) (v : Value) (hc : cls o.op = .float) (hf : pureF T o.op = some f) (hw : wantedF ops o s.tm = true) (hv : f s.tm s.h = some v) :
      StepK T ops e n o s (.float v) ⟨putD o.dst s.tm v, s.df, s.u, s.h⟩
  | made (f : Tm → Option (AObj × (Nat → Value))) (ob : AObj) (g : Nat → Value) (hc : cls o.op = .made) (hf : madeF T o.op = some f) (hw : wantedF ops o s.tm = true) (hv : f s.tm = some (ob, g)) :
      StepK T ops e n o s (.made ob g) ⟨putD o.dst s.tm (g n), s.df, s.u, s.h.put n (some ob)⟩
  | eff (v : Value) (df : List Deferred) (u : FrameMode) (h : H) (hc : cls o.op = .eff) (hw : wantedF ops o s.tm = true) (hv : effect T o.op e s = .value v df u h) :
      StepK T ops e n o s (.eff v) ⟨putD o.dst s.tm v, df, u, h⟩

theorem StepK.tm {T : Tab} {ops : Array Oper} {e : Env} {n : Nat} {o : Oper} {s s' : St} {kd : Kind} (h : StepK T ops e n o s kd s') : s'.tm = putD o.dst s.tm (kd.val n) := by cases h <;> rfl

noncomputable abbrev bit (ops : Array Oper) (j i : Nat) : Bool := bitAt ((nth? (masks ops.toList []) j).getD 0) i

/-- the run in the text's order -/
structure Text (T : Tab) (ops : Array Oper) (e : Env) (base : Nat) (S : Nat → St) (K : Nat → Kind) : Prop where
  step : ∀ (j : Nat) o, ops[j]? = some o → guardOk ops o (S j).tm = true ∧ StepK T ops e (base + j) o (S j) (K j) (S (j + 1))
  look : ∀ (j : Nat) o f v, ops[j]? = some o → pureF T o.op = some f → K j = .float v → cond (heapy o.op) (loose (masks ops.toList []) j (effs ops.toList 0)) false = true →
    ∀ p, p ≤ ops.size → (p < ops.size → ∃ v, K p = .eff v) → (∀ q vq, q < p → K q = .eff vq → bit ops q j = false) → (p < ops.size → bit ops j p = false) → f (S j).tm (S p).h = some v

theorem floatOk_at {b : List Nat} {m : Nat} {f : H → Option Value} {v : Value} {last : H} : ∀ (pre : Heaps) (_ : ∀ x ∈ pre, bitAt ((nth? b x.1).getD 0) m = false),
    (floatOk b m f v last pre = true → f last = some v) ∧
    ∀ (p : Nat) (h : H) (post : Heaps), floatOk b m f v last (pre ++ (p, h) :: post) = true → bitAt ((nth? b m).getD 0) p = false → f h = some v
  | [], _ => by
    refine ⟨fun h => ?_, fun p h post hf hb => ?_⟩
    · simp only [floatOk] at h
      cases hx : f last with
      | none => rw [hx] at h; simp at h
      | some w => rw [hx] at h; rw [veq_eq _ _ h]
    · simp only [List.nil_append, floatOk, hb, cond_false] at hf
      obtain ⟨h1, _⟩ := cond_and hf
      cases hx : f h with
      | none => rw [hx] at h1; simp at h1
      | some w => rw [hx] at h1; rw [veq_eq _ _ h1]
  | (j, g) :: pre, hp => by
    have hj := hp (j, g) (by simp)
    have ih := floatOk_at (b := b) (m := m) (f := f) (v := v) (last := last) pre fun x hx => hp x (by simp [hx])
    refine ⟨fun h => ?_, fun p h post hf hb => ?_⟩
    · simp only [floatOk, hj, cond_false] at h
      exact ih.1 (cond_and h).2
    · simp only [List.cons_append, floatOk, hj, cond_false] at hf
      exact ih.2 p h post (cond_and hf).2 hb

theorem looksOk_mem {b : List Nat} {d : DrawSt} {last : H} : ∀ {ls : List Look}, looksOk b d last ls = true → ∀ l ∈ ls, floatOk b l.m l.f l.v last d.hs = true
  | [], _, l, hl => by simp at hl
  | x :: ls, h, l, hl => by
    obtain ⟨h1, h2⟩ := cond_and (a := floatOk b x.m x.f x.v last d.hs) (b := looksOk b d last ls) h
    rcases List.mem_cons.1 hl with rfl | hl
    · exact h1
    · exact looksOk_mem h2 l hl

/-- what a step lays by -/
structure DrawK (T : Tab) (ops : Array Oper) (S : Nat → St) (D : Nat → DrawSt) (j : Nat) (o : Oper) (kd : Kind) : Prop where
  base : (D (j + 1)).base = (D j).base
  hs : (D (j + 1)).hs = (D j).hs ++ (match kd with | .eff _ => [(j, (S j).h)] | _ => [])
  ls : ∀ l ∈ (D j).ls, l ∈ (D (j + 1)).ls
  look : ∀ v f, kd = .float v → pureF T o.op = some f → cond (heapy o.op) (loose (masks ops.toList []) j (effs ops.toList 0)) false = true → ⟨j, f (S j).tm, v⟩ ∈ (D (j + 1)).ls

theorem text_of {T : Tab} {ops : Array Oper} {e : Env} {base : Nat} {s0 s' : St} {d' : DrawSt} (ht : Trace T ops (masks ops.toList []) (effs ops.toList 0) e ops.toList 0 ⟨base, [], []⟩ s0 d' s')
    (hl : looksOk (masks ops.toList []) d' s'.h d'.ls = true) : ∃ (S : Nat → St) (K : Nat → Kind), S 0 = s0 ∧ S ops.size = s' ∧ Text T ops e base S K := by
  obtain ⟨D, S, h1, h2, h3, h4, h5⟩ := ht.states
  simp only [Array.length_toList, Nat.zero_add] at h3 h4 h5
  have step : ∀ j : Nat, ∃ kd : Kind, ∀ o, ops[j]? = some o → guardOk ops o (S j).tm = true ∧ StepK T ops e ((D j).base + j) o (S j) kd (S (j + 1)) ∧ DrawK T ops S D j o kd := by
    intro j
    cases ho : ops[j]? with
    | none => exact ⟨.skip, fun o h => by cases h⟩
    | some o =>
      obtain ⟨hg, hs⟩ := h5 j o (by simpa using ho)
      have key : ∃ kd : Kind, StepK T ops e ((D j).base + j) o (S j) kd (S (j + 1)) ∧ DrawK T ops S D j o kd := by
        generalize hDj : D j = dj at hs
        generalize hDj' : D (j + 1) = dj' at hs
        generalize hSj : S j = sj at hs
        generalize hSj' : S (j + 1) = sj' at hs
        cases hs with
        | skip _ hw => exact ⟨.skip, .skip hw, ⟨by rw [hDj, hDj'], by rw [hDj, hDj']; simp, by rw [hDj, hDj']; exact fun l h => h, fun v f h => by cases h⟩⟩
        | float _ _ f v hc hf hw hv hb hh hl =>
          refine ⟨.float v, .float f v hc hf hw hv, ⟨by rw [hDj, hDj']; exact hb, by rw [hDj, hDj', hh]; simp, ?_, ?_⟩⟩
          · rw [hDj, hDj', hl]
            intro l hm
            cases cond (heapy o.op) (loose (masks ops.toList []) j (effs ops.toList 0)) false with
            | true => exact List.mem_cons_of_mem _ hm
            | false => exact hm
          · intro v' f' he hf' hx
            cases he
            rw [hf] at hf'; cases hf'
            rw [hDj', hl, hx, hSj]
            exact List.mem_cons_self
        | made _ f ob g hc hf hw hv => exact ⟨.made ob g, .made f ob g hc hf hw hv, ⟨by rw [hDj, hDj'], by rw [hDj, hDj']; simp, by rw [hDj, hDj']; exact fun l h => h, fun v f h => by cases h⟩⟩
        | eff _ v df u h hc hw hv => exact ⟨.eff v, .eff v df u h hc hw hv, ⟨by rw [hDj, hDj'], by rw [hDj, hDj', hSj], by rw [hDj, hDj']; exact fun l h => h, fun v f h => by cases h⟩⟩
      obtain ⟨kd, k1, k2⟩ := key
      refine ⟨kd, fun o' h => ?_⟩
      cases h
      exact ⟨hg, k1, k2⟩
  obtain ⟨K, hK⟩ := Classical.axiomOfChoice step
  have some_of : ∀ j, j < ops.size → ∃ o, ops[j]? = some o := fun j hj => ⟨_, Array.getElem?_eq_getElem hj⟩
  have hbase : ∀ j, j ≤ ops.size → (D j).base = base := by
    intro j
    induction j with
    | zero => intro _; rw [h1]
    | succ j ih =>
      intro hj
      obtain ⟨o, ho⟩ := some_of j (by omega)
      rw [(hK j o ho).2.2.base, ih (by omega)]
  have hpre : ∀ q, q ≤ ops.size → ∀ x ∈ (D q).hs, x.1 < q ∧ ∃ v, K x.1 = .eff v := by
    intro q
    induction q with
    | zero => intro _ x hx; rw [h1] at hx; simp at hx
    | succ q ih =>
      intro hq x hx
      obtain ⟨o, ho⟩ := some_of q (by omega)
      rw [(hK q o ho).2.2.hs] at hx
      rcases List.mem_append.1 hx with hx | hx
      · obtain ⟨g1, g2⟩ := ih (by omega) x hx
        exact ⟨by omega, g2⟩
      · cases hk : K q with
        | eff v =>
          simp only [hk, List.mem_singleton] at hx
          subst hx
          exact ⟨Nat.lt_succ_self _, v, hk⟩
        | _ => simp [hk] at hx
  have hext : ∀ d q, q + d = ops.size → ∃ post, (D ops.size).hs = (D q).hs ++ post := by
    intro d
    induction d with
    | zero => intro q hq; rw [show q = ops.size by omega]; exact ⟨[], by simp⟩
    | succ d ih =>
      intro q hq
      obtain ⟨o, ho⟩ := some_of q (by omega)
      obtain ⟨post, hp⟩ := ih (q + 1) (by omega)
      exact ⟨_, by rw [hp, (hK q o ho).2.2.hs, List.append_assoc]⟩
  have hls : ∀ d q, q + d = ops.size → ∀ l ∈ (D q).ls, l ∈ (D ops.size).ls := by
    intro d
    induction d with
    | zero => intro q hq l h; rw [← show q = ops.size by omega]; exact h
    | succ d ih =>
      intro q hq l h
      obtain ⟨o, ho⟩ := some_of q (by omega)
      exact ih (q + 1) (by omega) l ((hK q o ho).2.2.ls l h)
  refine ⟨S, K, h2, h4, ⟨fun j o ho => ?_, fun j o f v ho hf hk hx p hp hpe hb1 hb2 => ?_⟩⟩
  · obtain ⟨g1, g2, _⟩ := hK j o ho
    rw [hbase j (by have := (Array.getElem?_eq_some_iff.1 ho).1; omega)] at g2
    exact ⟨g1, g2⟩
  · have hlt : j < ops.size := (Array.getElem?_eq_some_iff.1 ho).1
    have hm := hls (ops.size - (j + 1)) (j + 1) (by omega) _ ((hK j o ho).2.2.look v f hk hf hx)
    rw [h3] at hm
    have hfl := looksOk_mem hl _ hm
    simp only at hfl
    rw [← h3] at hfl
    rcases Nat.lt_or_ge p ops.size with hlt' | hge
    · obtain ⟨vp, hvp⟩ := hpe hlt'
      obtain ⟨op', hop⟩ := some_of p hlt'
      obtain ⟨post, hpost⟩ := hext (ops.size - (p + 1)) (p + 1) (by omega)
      rw [(hK p op' hop).2.2.hs, hvp, List.append_assoc] at hpost
      rw [hpost] at hfl
      exact (floatOk_at (D p).hs (fun x hx => by obtain ⟨g1, v', g2⟩ := hpre p hp x hx; exact hb1 x.1 v' g1 g2)).2 p (S p).h post hfl (hb2 hlt')
    · have hpe' : p = ops.size := by omega
      subst hpe'
      rw [← h4] at hfl
      exact (floatOk_at (D ops.size).hs (fun x hx => by obtain ⟨g1, v', g2⟩ := hpre ops.size (Nat.le_refl _) x hx; exact hb1 x.1 v' g1 g2)).1 hfl

theorem effs_mem : ∀ {l : List Oper} {k j : Nat} {o : Oper}, l[j]? = some o → cls o.op = .eff → k + j ∈ effs l k
  | [], k, j, o, h, _ => by simp at h
  | x :: l, k, j, o, h, hc => by
    cases j with
    | zero =>
      simp only [List.getElem?_cons_zero, Option.some.injEq] at h
      subst h
      simp [effs, hc]
    | succ j =>
      have ih := effs_mem (l := l) (k := k + 1) (j := j) (o := o) (by simpa using h) hc
      rw [show k + (j + 1) = k + 1 + j by omega]
      unfold effs
      cases cls x.op with
      | eff => exact List.mem_cons_of_mem _ ih
      | _ => exact ih

theorem effs_sorted : ∀ {l : List Oper} {k : Nat}, (effs l k).Pairwise (· < ·) ∧ ∀ x ∈ effs l k, k ≤ x
  | [], k => by simp [effs]
  | x :: l, k => by
    obtain ⟨h1, h2⟩ := effs_sorted (l := l) (k := k + 1)
    unfold effs
    cases cls x.op with
    | eff => exact ⟨List.pairwise_cons.2 ⟨fun y hy => by have := h2 y hy; omega, h1⟩, fun y hy => by rcases List.mem_cons.1 hy with rfl | hy; exact Nat.le_refl _; have := h2 y hy; omega⟩
    | _ => exact ⟨h1, fun y hy => by have := h2 y hy; omega⟩

theorem orderedE_bit {b : List Nat} : ∀ {es : List Nat}, orderedE b es = true → es.Pairwise (· < ·) → ∀ i ∈ es, ∀ j ∈ es, i < j → bitAt ((nth? b j).getD 0) i = true
  | [], _, _, i, hi, _, _, _ => by simp at hi
  | x :: es, h, hs, i, hi, j, hj, hlt => by
    obtain ⟨h1, h2⟩ := cond_and (a := allB (fun k => bitAt ((nth? b k).getD 0) x) es) (b := orderedE b es) h
    obtain ⟨s1, s2⟩ := List.pairwise_cons.1 hs
    rcases List.mem_cons.1 hi with hi1 | hi1
    · subst hi1
      rcases List.mem_cons.1 hj with hj1 | hj1
      · omega
      · exact allB_mem h1 j hj1
    · rcases List.mem_cons.1 hj with hj1 | hj1
      · subst hj1; have := s1 i hi1; omega
      · exact orderedE_bit h2 s2 i hi1 j hj1 hlt

theorem loose_bit {b : List Nat} {m : Nat} : ∀ {es : List Nat}, loose b m es = false → ∀ j ∈ es, bitAt ((nth? b (max m j)).getD 0) (min m j) = true
  | [], _, j, hj => by simp at hj
  | x :: es, h, j, hj => by
    simp only [loose] at h
    cases hb : bitAt ((nth? b (max m x)).getD 0) (min m x) with
    | false => rw [hb] at h; simp at h
    | true =>
      rw [hb, cond_true] at h
      rcases List.mem_cons.1 hj with rfl | hj
      · exact hb
      · exact loose_bit h j hj

theorem StepK.effCls {T : Tab} {ops : Array Oper} {e : Env} {n : Nat} {o : Oper} {s s' : St} {v : Value} (h : StepK T ops e n o s (.eff v) s') : cls o.op = .eff := by cases h; assumption

end Go.Ev
