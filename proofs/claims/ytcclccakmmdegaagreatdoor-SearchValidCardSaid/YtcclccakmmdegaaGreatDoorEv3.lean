/- The evaluator of closed runs and its proof, part 3 of 3: what the evaluator answers about the model's code holds of the machine in every world. -/
import Derived.Test.YtcclccakmmdegaaGreatDoorEv2
import Derived.RangeFuncRecord
import Derived.RowKit3

set_option linter.unusedVariables false
set_option linter.unusedSimpArgs false

/- What holds while a region is gone through in another order than its text's. -/
namespace Go.Ev

structure DInv (T : Tab) (ops : Array Oper) (e : Env) (base : Nat) (S : Nat → St) (K : Nat → Kind) (ι0 : Inj) (h0 : H) (w0 : World) (n : Nat) (cs0 : List Frame)
    (L : Nat → Bool) (p : Nat) (ι : Inj) (a : Act) (cs : List Frame) (w : World) : Prop where
  clo : Clo ops L
  ple : p ≤ ops.size
  before : ∀ j v, j < p → K j = .eff v → L j = true
  behind : ∀ j v, p ≤ j → j < ops.size → K j = .eff v → L j = false
  wr : WR T ι (S p).h w
  keep : Keep ι0 h0 w0 ι (S p).h w
  tms : ∀ t, VR T ι (match lastW ops L t ops.size with | some j => (K j).val (base + j) | none => nth (S 0).tm t) (a.tmps.getD t undef)
  df : DefsR T ι (S p).df a.defers
  head : HeadR T ι e.deferred cs0 (S p).u cs
  size : a.tmps.size = n
  high : ∀ j m, j < ops.size → ι (base + j) = some m → w0.heap.size ≤ m.blk
  ids : ∀ j, j < ops.size → (L j = false ∨ (∀ ob g, K j ≠ .made ob g)) → ι (base + j) = none
  early : ∀ j ob g, p ≤ j → j < ops.size → K j = .made ob g → L j = true → ∃ m obj, ι (base + j) = some m ∧ w.heap[m.blk]? = some obj ∧ ObjR T ι ob obj m ∧ Free ι (S p).h m.blk
  apart : ∀ j j' m m', j < ops.size → j' < ops.size → j ≠ j' → ι (base + j) = some m → ι (base + j') = some m' → m.blk ≠ m'.blk
  late : ∀ j ob g, j < p → K j = .made ob g → L j = false → (S p).h.get (base + j) = some ob
  void : ∀ q j, q ≤ p → q ≤ j → j < ops.size → (S q).h.get (base + j) = none
  nexts : ∀ q, q ≤ p → base + ops.size ≤ (S q).h.next

section
variable {T : Tab} {P : Program} {ops : Array Oper} {e : Env} {base : Nat} {S : Nat → St} {K : Nat → Kind} {ι0 : Inj} {h0 : H} {w0 : World} {n : Nat} {cs0 : List Frame}
  {L : Nat → Bool} {p : Nat} {ι : Inj} {a : Act} {cs : List Frame} {w : World}

theorem DInv.advance_same (hI : DInv T ops e base S K ι0 h0 w0 n cs0 L p ι a cs w) (hp : p < ops.size) (hk : ∀ v, K p ≠ .eff v) (hm : ∀ ob g, K p ≠ .made ob g)
    (hh : (S (p + 1)).h = (S p).h) (hdf : (S (p + 1)).df = (S p).df) (hu : (S (p + 1)).u = (S p).u) : DInv T ops e base S K ι0 h0 w0 n cs0 L (p + 1) ι a cs w where
  clo := hI.clo
  ple := hp
  before j v hj hk' := by
    by_cases he : j = p
    · subst he; exact absurd hk' (hk v)
    · exact hI.before j v (by omega) hk'
  behind j v hj := hI.behind j v (by omega)
  wr := by rw [hh]; exact hI.wr
  keep := by rw [hh]; exact hI.keep
  tms := hI.tms
  df := by rw [hdf]; exact hI.df
  head := by rw [hu]; exact hI.head
  size := hI.size
  high := hI.high
  ids := hI.ids
  early j ob g hj := by rw [hh]; exact hI.early j ob g (by omega)
  apart := hI.apart
  late j ob g hj hk' hl := by
    rw [hh]
    by_cases he : j = p
    · subst he; exact absurd hk' (hm ob g)
    · exact hI.late j ob g (by omega) hk' hl
  void q j hq hj hlt := by
    by_cases he : q = p + 1
    · subst he; rw [hh]; exact hI.void p j (Nat.le_refl _) (by omega) hlt
    · exact hI.void q j (by omega) hj hlt
  nexts q hq := by
    by_cases he : q = p + 1
    · subst he; rw [hh]; exact hI.nexts p (Nat.le_refl _)
    · exact hI.nexts q (by omega)

theorem DInv.advance_made (hI : DInv T ops e base S K ι0 h0 w0 n cs0 L p ι a cs w) (hbase : h0.next ≤ base) (hp : p < ops.size) {ob : AObj} {g : Nat → Value} (hk : K p = .made ob g)
    (hh : (S (p + 1)).h = (S p).h.put (base + p) (some ob)) (hdf : (S (p + 1)).df = (S p).df) (hu : (S (p + 1)).u = (S p).u) : DInv T ops e base S K ι0 h0 w0 n cs0 L (p + 1) ι a cs w := by
  have hlim := hI.wr.lim
  have hnx := hI.nexts p (Nat.le_refl _)
  have hne : ∀ v, K p ≠ .eff v := by intro v; rw [hk]; simp
  have hwr : WR T ι (S (p + 1)).h w := by
    rw [hh]
    cases hL : L p with
    | false => exact hI.wr.putNone (by omega) (hI.ids p hp (.inl hL)) ob
    | true =>
      obtain ⟨m, obj, g1, g2, g3, g4⟩ := hI.early p ob g (Nat.le_refl _) hp hk hL
      exact hI.wr.putSome g1 g2 g3 g4
  exact {
    clo := hI.clo
    ple := hp
    before := fun j v hj hk' => by
      by_cases he : j = p
      · subst he; exact absurd hk' (hne v)
      · exact hI.before j v (by omega) hk'
    behind := fun j v hj => hI.behind j v (by omega)
    wr := hwr
    keep := by rw [hh]; exact hI.keep.putHigh (by omega) (fun m hm => hI.high p m hp hm) ob
    tms := hI.tms
    df := by rw [hdf]; exact hI.df
    head := by rw [hu]; exact hI.head
    size := hI.size
    high := hI.high
    ids := hI.ids
    early := fun j ob' g' hj hlt hk' hL => by
      obtain ⟨m, obj, g1, g2, g3, g4⟩ := hI.early j ob' g' (by omega) hlt hk' hL
      refine ⟨m, obj, g1, g2, g3, fun b o mb hb hib => ?_⟩
      rw [hh] at hb
      by_cases hbp : b = base + p
      · subst hbp
        exact hI.apart p j mb m hp hlt (by omega) hib g1
      · rw [H.get_put_ne _ _ _ _ hbp] at hb
        exact g4 b o mb hb hib
    apart := hI.apart
    late := fun j ob' g' hj hk' hl => by
      rw [hh]
      by_cases he : j = p
      · subst he
        rw [hk] at hk'
        cases hk'
        exact H.get_put_eq _ _ _ (by omega)
      · rw [H.get_put_ne _ _ _ _ (by omega)]
        exact hI.late j ob' g' (by omega) hk' hl
    void := fun q j hq hj hlt => by
      by_cases he : q = p + 1
      · subst he
        rw [hh, H.get_put_ne _ _ _ _ (by omega)]
        exact hI.void p j (Nat.le_refl _) (by omega) hlt
      · exact hI.void q j (by omega) hj hlt
    nexts := fun q hq => by
      by_cases he : q = p + 1
      · subst he; rw [hh]; exact hnx
      · exact hI.nexts q (by omega) }

theorem DInv.advance_one (hX : Text T ops e base S K) (hbase : h0.next ≤ base) (hI : DInv T ops e base S K ι0 h0 w0 n cs0 L p ι a cs w) (hp : p < ops.size) (hk : ∀ v, K p ≠ .eff v) :
    DInv T ops e base S K ι0 h0 w0 n cs0 L (p + 1) ι a cs w := by
  obtain ⟨_, hs⟩ := hX.step p _ (Array.getElem?_eq_getElem hp)
  generalize hkd : K p = kd at hs
  generalize hs' : S (p + 1) = s' at hs
  cases hs with
  | skip hw => exact hI.advance_same hp hk (by rw [hkd]; simp) (by rw [hs']) (by rw [hs']) (by rw [hs'])
  | float f v hc hf hw hv => exact hI.advance_same hp hk (by rw [hkd]; simp) (by rw [hs']) (by rw [hs']) (by rw [hs'])
  | made f ob g hc hf hw hv => exact hI.advance_made hbase hp hkd (by rw [hs']) (by rw [hs']) (by rw [hs'])
  | eff v df u h hc hw hv => exact absurd hkd (hk v)

/-- on to the next effect -/
theorem DInv.advance (hX : Text T ops e base S K) (hbase : h0.next ≤ base) : ∀ (d p : Nat), p + d = ops.size → DInv T ops e base S K ι0 h0 w0 n cs0 L p ι a cs w →
    ∃ p', DInv T ops e base S K ι0 h0 w0 n cs0 L p' ι a cs w ∧ (p' < ops.size → ∃ v, K p' = .eff v)
  | 0, p, hd, hI => ⟨p, hI, fun h => by omega⟩
  | d + 1, p, hd, hI => by
    cases hk : K p with
    | eff v => exact ⟨p, hI, fun _ => ⟨v, hk⟩⟩
    | _ => exact DInv.advance hX hbase d (p + 1) (by omega) (hI.advance_one hX hbase (by omega) (by rw [hk]; simp))

theorem DInv.advance_all (hX : Text T ops e base S K) (hbase : h0.next ≤ base) (hall : ∀ i, i < ops.size → L i = true) : ∀ (d p : Nat), p + d = ops.size → DInv T ops e base S K ι0 h0 w0 n cs0 L p ι a cs w →
    DInv T ops e base S K ι0 h0 w0 n cs0 L ops.size ι a cs w
  | 0, p, hd, hI => by rw [← show p = ops.size by omega]; exact hI
  | d + 1, p, hd, hI => by
    refine DInv.advance_all hX hbase hall d (p + 1) (by omega) (hI.advance_one hX hbase (by omega) fun v hk => ?_)
    have := hI.behind p v (Nat.le_refl _) (by omega) hk
    rw [hall p (by omega)] at this
    cases this

/-- an operation that only looks is done -/
theorem DInv.mark (hI : DInv T ops e base S K ι0 h0 w0 n cs0 L p ι a cs w) {i : Nat} (hclo : Clo ops fun k => k == i || L k) (hi : L i = false) (hlt : i < ops.size)
    (hk : ∀ v, K i ≠ .eff v) (hm : ∀ ob g, K i ≠ .made ob g) {a' : Act} (hdf : a'.defers = a.defers) (hsz : a'.tmps.size = n)
    (ht : ∀ t, VR T ι (match lastW ops (fun k => k == i || L k) t ops.size with | some j => (K j).val (base + j) | none => nth (S 0).tm t) (a'.tmps.getD t undef)) :
    DInv T ops e base S K ι0 h0 w0 n cs0 (fun k => k == i || L k) p ι a' cs w where
  clo := hclo
  ple := hI.ple
  before j v hj hk' := by simp [hI.before j v hj hk']
  behind j v hj hl hk' := by
    have : j ≠ i := by rintro rfl; exact hk v hk'
    simp [this, hI.behind j v hj hl hk']
  wr := hI.wr
  keep := hI.keep
  tms := ht
  df := by rw [hdf]; exact hI.df
  head := hI.head
  size := hsz
  high := hI.high
  ids j hj h := by
    refine hI.ids j hj ?_
    rcases h with h | h
    · simp only [Bool.or_eq_false_iff] at h; exact .inl h.2
    · exact .inr h
  early j ob g hj hl hk' hL := by
    have : j ≠ i := by rintro rfl; exact hm ob g hk'
    exact hI.early j ob g hj hl hk' (by simpa [this] using hL)
  apart := hI.apart
  late j ob g hj hk' hL := by
    simp only [Bool.or_eq_false_iff] at hL
    exact hI.late j ob g hj hk' hL.2
  void := hI.void
  nexts := hI.nexts

/-- a block is made -/
theorem DInv.make (hI : DInv T ops e base S K ι0 h0 w0 n cs0 L p ι a cs w) (hbase : h0.next ≤ base) {i : Nat} (hclo : Clo ops fun k => k == i || L k) (hi : L i = false) (hlt : i < ops.size)
    {ob : AObj} {g : Nat → Value} (hk : K i = .made ob g) {m : Im} {obj : Obj} (hm : m.blk = w.heap.size) (hob : ObjR T (ι.ins (base + i) m) ob obj m) (how : ob.owned = true)
    {a' : Act} (hdf : a'.defers = a.defers) (hsz : a'.tmps.size = n)
    (ht : ∀ t, VR T (ι.ins (base + i) m) (match lastW ops (fun k => k == i || L k) t ops.size with | some j => (K j).val (base + j) | none => nth (S 0).tm t) (a'.tmps.getD t undef)) :
    DInv T ops e base S K ι0 h0 w0 n cs0 (fun k => k == i || L k) p (ι.ins (base + i) m) a' cs (w.alloc obj) := by
  have hnone : ι (base + i) = none := hI.ids i hlt (.inl hi)
  have hle := Inj.le_ins ι m hnone
  have hnx := hI.nexts p (Nat.le_refl _)
  have hins : ∀ j, j ≠ i → (ι.ins (base + i) m) (base + j) = ι (base + j) := fun j hj => Inj.ins_ne _ _ (by omega)
  have hwr : WR T (ι.ins (base + i) m) (S p).h (w.alloc obj) := by
    rcases Nat.lt_or_ge i p with h | h
    · exact hI.wr.add hnone (by omega) (Nat.le_refl _) hI.wr.lim (fun _ _ => rfl) (hI.late i ob g h hk hi) hm hob
    · exact hI.wr.early (by omega) hnone (hI.void p i (Nat.le_refl _) h hlt) obj hm
  exact {
    clo := hclo
    ple := hI.ple
    before := fun j v hj hk' => by simp [hI.before j v hj hk']
    behind := fun j v hj hl hk' => by
      have : j ≠ i := by rintro rfl; rw [hk] at hk'; cases hk'
      simp [this, hI.behind j v hj hl hk']
    wr := hwr
    keep := hI.keep.insHigh (by omega) hnone obj hm (hob.bare how)
    tms := ht
    df := by rw [hdf]; exact hI.df.mono hle
    head := hI.head.mono hle
    size := hsz
    high := fun j mj hj h => by
      by_cases he : j = i
      · subst he; rw [Inj.ins_eq] at h; cases h; rw [hm]; exact hI.keep.size
      · rw [hins j he] at h; exact hI.high j mj hj h
    ids := fun j hj h => by
      have he : j ≠ i := by
        rintro rfl
        rcases h with h | h
        · simp at h
        · exact h ob g hk
      rw [hins j he]
      refine hI.ids j hj ?_
      rcases h with h | h
      · simp only [Bool.or_eq_false_iff] at h; exact .inl h.2
      · exact .inr h
    early := fun j ob' g' hj hl hk' hL => by
      by_cases he : j = i
      · subst he
        rw [hk] at hk'
        cases hk'
        refine ⟨m, obj, Inj.ins_eq _ _ _, by rw [hm]; exact heap_alloc_eq w obj, hob, fun b o mb hb hib => ?_⟩
        by_cases hbj : b = base + j
        · subst hbj
          rw [hI.void p j (Nat.le_refl _) hj hl] at hb
          cases hb
        · rw [Inj.ins_ne _ _ hbj] at hib
          have := hI.wr.bound _ _ hib
          omega
      · obtain ⟨mj, objj, g1, g2, g3, g4⟩ := hI.early j ob' g' hj hl hk' (by simpa [he] using hL)
        have hb := hI.wr.bound _ _ g1
        refine ⟨mj, objj, by rw [hins j he]; exact g1, by rw [heap_alloc_lt _ _ hb]; exact g2, g3.mono hle, fun b o mb hb' hib => ?_⟩
        by_cases hbi : b = base + i
        · subst hbi
          rw [Inj.ins_eq] at hib
          cases hib
          omega
        · rw [Inj.ins_ne _ _ hbi] at hib
          exact g4 b o mb hb' hib
    apart := fun j j' mj mj' hj hj' hne h h' => by
      by_cases he : j = i
      · subst he
        rw [Inj.ins_eq] at h; cases h
        rw [hins j' (Ne.symm hne)] at h'
        have := hI.wr.bound _ _ h'
        omega
      · rw [hins j he] at h
        by_cases he' : j' = i
        · subst he'
          rw [Inj.ins_eq] at h'; cases h'
          have := hI.wr.bound _ _ h
          omega
        · rw [hins j' he'] at h'
          exact hI.apart j j' mj mj' hj hj' hne h h'
    late := fun j ob' g' hj hk' hL => by
      simp only [Bool.or_eq_false_iff] at hL
      exact hI.late j ob' g' hj hk' hL.2
    void := hI.void
    nexts := hI.nexts }

/-- the next effect is done -/
theorem DInv.effect (hI : DInv T ops e base S K ι0 h0 w0 n cs0 L p ι a cs w) (hclo : Clo ops fun k => k == p || L k) (hi : L p = false) (hlt : p < ops.size)
    {v : Value} (hk : K p = .eff v) {ι' : Inj} {w' : World} (hw : WR T ι' (S (p + 1)).h w') (hkeep : Keep ι (S p).h w ι' (S (p + 1)).h w')
    {a' : Act} {cs' : List Frame} (hdf : DefsR T ι' (S (p + 1)).df a'.defers) (hh : HeadR T ι' e.deferred cs0 (S (p + 1)).u cs') (hsz : a'.tmps.size = n)
    (ht : ∀ t, VR T ι' (match lastW ops (fun k => k == p || L k) t ops.size with | some j => (K j).val (base + j) | none => nth (S 0).tm t) (a'.tmps.getD t undef)) :
    DInv T ops e base S K ι0 h0 w0 n cs0 (fun k => k == p || L k) (p + 1) ι' a' cs' w' := by
  have hnx := hI.nexts p (Nat.le_refl _)
  have hsome : ∀ j m, j < ops.size → ι' (base + j) = some m → ι (base + j) = some m := by
    intro j m hj h
    cases hn : ι (base + j) with
    | none => rw [hkeep.new _ (by omega) hn] at h; cases h
    | some m0 => rw [hkeep.le _ _ hn] at h; cases h; rfl
  exact {
    clo := hclo
    ple := hlt
    before := fun j v' hj hk' => by
      by_cases he : j = p
      · simp [he]
      · simp [hI.before j v' (by omega) hk']
    behind := fun j v' hj hl hk' => by
      have he : j ≠ p := by omega
      simp [he, hI.behind j v' (by omega) hl hk']
    wr := hw
    keep := hI.keep.trans hkeep
    tms := ht
    df := hdf
    head := hh
    size := hsz
    high := fun j m hj h => hI.high j m hj (hsome j m hj h)
    ids := fun j hj h => by
      refine hkeep.new _ (by omega) (hI.ids j hj ?_)
      rcases h with h | h
      · simp only [Bool.or_eq_false_iff] at h; exact .inl h.2
      · exact .inr h
    early := fun j ob g hj hl hk' hL => by
      have he : j ≠ p := by omega
      obtain ⟨m, obj, g1, g2, g3, g4⟩ := hI.early j ob g (by omega) hl hk' (by simpa [he] using hL)
      have hb := hI.wr.bound _ _ g1
      refine ⟨m, obj, hkeep.le _ _ g1, ?_, g3.mono hkeep.le, hkeep.free _ hb g4⟩
      rw [(hkeep.kept _ hb g4.not_own).1]; exact g2
    apart := fun j j' m m' hj hj' hne h h' => hI.apart j j' m m' hj hj' hne (hsome j m hj h) (hsome j' m' hj' h')
    late := fun j ob g hj hk' hL => by
      simp only [Bool.or_eq_false_iff] at hL
      have he : j ≠ p := by rintro rfl; rw [hk] at hk'; cases hk'
      rw [hkeep.same _ (by omega) (hI.ids j (by omega) (.inl hL.2))]
      exact hI.late j ob g (by omega) hk' hL.2
    void := fun q j hq hj hl => by
      by_cases he : q = p + 1
      · subst he
        exact hkeep.void _ (by omega) (hI.void p j (Nat.le_refl _) (by omega) hl)
      · exact hI.void q j (by omega) hj hl
    nexts := fun q hq => by
      by_cases he : q = p + 1
      · subst he; exact Nat.le_trans hnx hkeep.next
      · exact hI.nexts q (by omega) }

end
end Go.Ev

/- A region in whatever order the machine draws. -/
namespace Go.Ev

section
variable {T : Tab} {P : Program} {ops : Array Oper} {e : Env} {base : Nat} {S : Nat → St} {K : Nat → Kind} {ι0 : Inj} {h0 : H} {w0 : World} {n : Nat} {cs0 : List Frame} {b : Frame} {k : List Item}

/-- what is known of a drawn region's text -/
structure Static (T : Tab) (ops : Array Oper) (n : Nat) : Prop where
  back : ∀ (i : Nat) o, ops[i]? = some o → ∀ x ∈ o.after, Region.binds .any x = true → x.on < i
  tidy : tidyFrom ops.toList (masks ops.toList []) ops.toList 0 = true
  order : ∀ (i j : Nat) o o', ops[i]? = some o → ops[j]? = some o' → cls o.op = .eff → cls o'.op = .eff → i < j → bit ops j i = true
  loose : ∀ (i : Nat), loose (masks ops.toList []) i (effs ops.toList 0) = false → ∀ (j : Nat) o, ops[j]? = some o → cls o.op = .eff → bit ops (max i j) (min i j) = true
  dst : ∀ (i : Nat) o, ops[i]? = some o → ltO o.dst n = true
  small : n ≤ 65535

theorem Static.text (hs : Static T ops n) (hX : Text T ops e base S K) : ∀ (j : Nat) o, ops[j]? = some o → (S (j + 1)).tm = putD o.dst (S j).tm ((K j).val (base + j)) ∧ ∀ d, o.dst = some d → d < 65535 := by
  intro j o ho
  refine ⟨(hX.step j o ho).2.tm, fun d hd => ?_⟩
  have h1 := hs.dst j o ho
  have h2 := hs.small
  rw [hd] at h1
  have h3 : d < n := by simpa [ltO, Nat.blt_eq] using h1
  exact Nat.lt_of_lt_of_le h3 h2

theorem putD_tms {L : Nat → Bool} {ι ι' : Inj} {a a' : Act} (hs : Static T ops n) (hle : ι.le ι') (hc : Clo ops L) {i : Nat} {o : Oper} (ho : ops[i]? = some o) (hi : L i = false)
    (ha : ∀ x ∈ o.after, Region.binds .any x = true → L x.on = true) (hsz : a.tmps.size = n) (htm : a'.tmps = a.tmps) {v' : Value} (hv : VR T ι' ((K i).val (base + i)) v')
    (ht : ∀ t, VR T ι (match lastW ops L t ops.size with | some j => (K j).val (base + j) | none => nth (S 0).tm t) (a.tmps.getD t undef)) :
    ∀ t, VR T ι' (match lastW ops (fun k => k == i || L k) t ops.size with | some j => (K j).val (base + j) | none => nth (S 0).tm t) ((a'.put o.dst v').tmps.getD t undef) := by
  intro t
  by_cases hd : o.dst = some t
  · rw [temp_own hs.back hs.tidy hc ho hi ha hd, hd]
    have h1 := hs.dst i o ho
    rw [hd] at h1
    have h2 : t < n := by simpa [ltO, Nat.blt_eq] using h1
    have : (a'.put (some t) v').tmps.getD t undef = v' := by
      simp [Act.put, htm, Array.getD_eq_getD_getElem?, Array.getElem?_setIfInBounds, hsz, h2]
    rw [this]
    exact hv
  · rw [temp_other ho hd]
    have : (a'.put o.dst v').tmps.getD t undef = a.tmps.getD t undef := by
      cases hx : o.dst with
      | none => simp [Act.put, htm]
      | some d =>
        have hne : d ≠ t := by rintro rfl; exact hd hx
        simp [Act.put, htm, Array.getD_eq_getD_getElem?, Array.getElem?_setIfInBounds, hne]
    rw [this]
    exact (ht t).mono hle

theorem heap_sub (hX : Text T ops e base S K) : ∀ (d j : Nat), j + d ≤ ops.size → (∀ q v, j ≤ q → q < j + d → K q ≠ .eff v) → (∀ q i, q ≤ j + d → q ≤ i → i < ops.size → (S q).h.get (base + i) = none) →
    (S (j + d)).h.next = (S j).h.next ∧ ∀ x o, (S j).h.get x = some o → (S (j + d)).h.get x = some o
  | 0, j, _, _, _ => ⟨rfl, fun _ _ h => h⟩
  | d + 1, j, hl, hk, hv => by
    obtain ⟨h1, h2⟩ := heap_sub hX d j (by omega) (fun q v h3 h4 => hk q v h3 (by omega)) fun q i h3 h4 h5 => hv q i (by omega) h4 h5
    obtain ⟨_, hs⟩ := hX.step (j + d) _ (Array.getElem?_eq_getElem (by omega))
    have hne := fun v => hk (j + d) v (by omega) (by omega)
    have hnone := hv (j + d) (j + d) (by omega) (Nat.le_refl _) (by omega)
    rw [show j + (d + 1) = j + d + 1 by omega]
    generalize hkd : K (j + d) = kd at hs
    generalize hs' : S (j + d + 1) = s' at hs
    cases hs with
    | skip hw => exact ⟨h1, h2⟩
    | float f v hc hf hw hv => exact ⟨h1, h2⟩
    | made f ob g hc hf hw hv' =>
      refine ⟨h1, fun x o hx => ?_⟩
      have := h2 x o hx
      have hxb : x ≠ base + (j + d) := by rintro rfl; rw [hnone] at this; cases this
      simp only
      rw [H.get_put_ne _ _ _ _ hxb]
      exact this
    | eff v df u h hc hw hv' => exact absurd hkd (hne v)

/-- one operation, in its turn -/
theorem draw_step (hT : TabOk T P) (hi : InvOk T P e.inv) (hb : FrameOk e b) (hs : Static T ops n) (hX : Text T ops e base S K) (hbase : h0.next ≤ base)
    {L : Nat → Bool} {p : Nat} {ι : Inj} {a : Act} {cs : List Frame} {w : World} (hI : DInv T ops e base S K ι0 h0 w0 n cs0 L p ι a cs w)
    {i : Nat} {o : Oper} {rest : List Nat} (ho : ops[i]? = some o) (hL : L i = false) (ha : ∀ x ∈ o.after, Region.binds .any x = true → L x.on = true) :
    ∃ (p' : Nat) (ι' : Inj) (a' : Act) (cs' : List Frame) (w' : World), Steps P (lone (b.atR a (.inRegion ops (i :: rest) :: k)) cs w) (lone (b.atR a' (.inRegion ops rest :: k)) cs' w') ∧
      DInv T ops e base S K ι0 h0 w0 n cs0 (fun k => k == i || L k) p' ι' a' cs' w' := by
  obtain ⟨p, hI, hpe⟩ := DInv.advance hX hbase (ops.size - p) p (by have := hI.ple; omega) hI
  have hlt : i < ops.size := (Array.getElem?_eq_some_iff.1 ho).1
  have hclo := hI.clo.step ho ha
  obtain ⟨hg, hst⟩ := hX.step i o ho
  have hnext : ∀ {j : Nat}, bit ops i j = true → j = i ∨ L j = true := fun h => mask_next hI.clo ho ha h
  have named : ∀ t ∈ namesOf ops.toList o, VR T ι (nth (S i).tm t) (a.tmps.getD t undef) := by
    intro t hn
    have h1 := hI.tms t
    rw [temp_next hs.back hs.tidy hI.clo ho hL ha hn] at h1
    rw [text_tm (hs.text hX) t i (by omega)]
    exact h1
  have opnds : ∀ t, Operand.tmp t ∈ o.op.operands.toList → VR T ι (nth (S i).tm t) (a.tmps.getD t undef) := by
    intro t hm
    refine named t ?_
    unfold namesOf
    exact List.mem_append_left _ (List.mem_append_right _ (List.mem_filterMap.2 ⟨.tmp t, hm, rfl⟩))
  have guard : ∀ j x d, o.guard = some (j, x) → (nth? ops.toList j).bind (·.dst) = some d → VR T ι (nth (S i).tm d) (a.tmps.getD d undef) := by
    intro j x d h1 h2
    refine named d ?_
    unfold namesOf
    refine List.mem_append_right _ ?_
    simp [h1, h2]
  have hwant := wanted_R (ops := ops) (o := o) guard hg
  obtain ⟨tm', htm, hev⟩ := tm_some opnds
  have hev' : ∀ x ∈ o.op.operands, ev x (S i).tm = ev x tm' := fun x hx => hev x (by simpa using hx)
  have hnd : cls o.op ≠ .eff → ∀ c, o.op ≠ .defer c := fun h c hc => h (cls_defer hc)
  generalize hkd : K i = kd at hst
  generalize hs' : S (i + 1) = s' at hst
  cases hst with
  | skip hw =>
    have hstep := stepR_op_skip (P := P) (b := b) (a := a) (k := k) (cs := cs) (w := w) (ops := ops) (i := i) (rest := rest) (by rw [ho]; simp only [Option.map_some, Option.getD_some]; rw [hwant]; exact hw)
    simp only [ho, Option.bind_some] at hstep
    refine ⟨p, ι, _, cs, w, .one hstep, hI.mark hclo hL hlt (by rw [hkd]; simp) (by rw [hkd]; simp) (by cases o.dst <;> rfl) (by rw [put_size]; exact hI.size) ?_⟩
    exact putD_tms hs ι.le_refl hI.clo ho hL ha hI.size rfl (by rw [hkd]; exact .tuple _ _ .nil) hI.tms
  | float f v hc hf hw hv =>
    have heffs : ∀ {q : Nat} {vq : Value}, q < ops.size → K q = .eff vq → ∃ oq, ops[q]? = some oq ∧ cls oq.op = .eff := by
      intro q vq hq hk
      have hoq : ops[q]? = some ops[q] := Array.getElem?_eq_getElem hq
      have := (hX.step q _ hoq).2
      rw [hk] at this
      exact ⟨_, hoq, this.effCls⟩
    have hrun : ∃ v', (execOp a.eval o).run P w = .ok (.value v') w ∧ VR T ι v v' := by
      cases hh : heapy o.op with
      | false =>
        have h1 : f tm' (S p).h = some v := by rw [← pure_congr hf hev', pure_heap hf hh _ _ (S i).h]; exact hv
        exact pure_ok hT hI.wr htm hf h1
      | true =>
        cases hl : loose (masks ops.toList []) i (effs ops.toList 0) with
        | true =>
          have h1 := hX.look i o f v ho hf hkd (by rw [hh, hl]; rfl) p hI.ple hpe
            (fun q vq hq hk => by
              cases hbq : bit ops q i with
              | false => rfl
              | true =>
                have := clo_mask hI.clo (hI.before q vq hq hk) hbq
                rw [hL] at this; cases this)
            (fun hp => by
              cases hbp : bit ops i p with
              | false => rfl
              | true =>
                obtain ⟨vp, hk⟩ := hpe hp
                rcases hnext hbp with h | h
                · subst h; rw [hkd] at hk; cases hk
                · rw [hI.behind p vp (Nat.le_refl _) hp hk] at h; cases h)
          rw [pure_congr hf hev'] at h1
          exact pure_ok hT hI.wr htm hf h1
        | false =>
          have hord := hs.loose i hl
          have hip : i ≤ p := by
            apply Classical.byContradiction
            intro hn
            obtain ⟨vp, hk⟩ := hpe (by omega)
            obtain ⟨oq, g1, g2⟩ := heffs (q := p) (by omega) hk
            have hb' := hord p oq g1 g2
            rw [Nat.max_eq_left (by omega), Nat.min_eq_right (by omega)] at hb'
            rcases hnext hb' with h | h
            · omega
            · rw [hI.behind p vp (Nat.le_refl _) (by omega) hk] at h; cases h
          have hno : ∀ q vq, i ≤ q → q < p → K q ≠ .eff vq := by
            intro q vq h1 h2 hk
            obtain ⟨oq, g1, g2⟩ := heffs (q := q) (by have := hI.ple; omega) hk
            have hb' := hord q oq g1 g2
            rcases Nat.lt_or_ge i q with h3 | h3
            · rw [Nat.max_eq_right (by omega), Nat.min_eq_left (by omega)] at hb'
              have := clo_mask hI.clo (hI.before q vq h2 hk) hb'
              rw [hL] at this; cases this
            · have : q = i := by omega
              subst this
              rw [hkd] at hk; cases hk
          have hsub := heap_sub hX (p - i) i (by have := hI.ple; omega) (fun q vq h1 h2 => hno q vq h1 (by omega)) fun q j h1 h2 h3 => hI.void q j (by omega) h2 h3
          rw [show i + (p - i) = p by omega] at hsub
          have hwr := hI.wr.sub hsub.1.symm hsub.2
          have h1 : f tm' (S i).h = some v := by rw [← pure_congr hf hev']; exact hv
          exact pure_ok hT hwr htm hf h1
    obtain ⟨v', h1, h2⟩ := hrun
    refine ⟨p, ι, _, cs, w, .one (step_value ho (hwant.trans hw) (hnd (by rw [hc]; simp)) h1), hI.mark hclo hL hlt (by rw [hkd]; simp) (by rw [hkd]; simp) (by cases o.dst <;> rfl) (by rw [put_size]; exact hI.size) ?_⟩
    exact putD_tms hs ι.le_refl hI.clo ho hL ha hI.size rfl (by rw [hkd]; exact h2) hI.tms
  | made f ob g hc hf hw hv =>
    have h1 : f tm' = some (ob, g) := by rw [← made_congr hf hev']; exact hv
    obtain ⟨obj, m, v', g1, g2, g3⟩ := made_ok (P := P) hT hI.wr htm hf h1
    have hnone : ι (base + i) = none := hI.ids i hlt (.inl hL)
    obtain ⟨g4, g5⟩ := g3 (base + i) hnone
    refine ⟨p, ι.ins (base + i) m, _, cs, w.alloc obj, .one (step_value ho (hwant.trans hw) (hnd (by rw [hc]; simp)) g1), hI.make hbase hclo hL hlt hkd g2 g4 (made_owned hf hv) (by cases o.dst <;> rfl) (by rw [put_size]; exact hI.size) ?_⟩
    exact putD_tms hs (Inj.le_ins _ _ hnone) hI.clo ho hL ha hI.size rfl (by rw [hkd]; exact g5) hI.tms
  | eff v df u h' hc hw hv =>
    have hpi : p = i := by
      have hpi1 : p ≤ i := by
        apply Classical.byContradiction
        intro hn
        have := hI.before i v (by omega) hkd
        rw [hL] at this; cases this
      apply Classical.byContradiction
      intro hn
      obtain ⟨vp, hk⟩ := hpe (by omega)
      have hop : ops[p]? = some ops[p] := Array.getElem?_eq_getElem (by omega)
      have hcp := (hX.step p _ hop).2
      rw [hk] at hcp
      have hbp := hs.order p i _ o hop ho hcp.effCls hc (by omega)
      rcases hnext hbp with h | h
      · exact hn h
      · rw [hI.behind p vp (Nat.le_refl _) (by omega) hk] at h; cases h
    subst hpi
    have heq : effect T o.op e ⟨tm', (S p).df, (S p).u, (S p).h⟩ = .value v df u h' := by rw [← effect_congr hev' e (S p).df (S p).u (S p).h]; exact hv
    have hE := effect_ok (k := k) (rest := rest) (s := ⟨tm', (S p).df, (S p).u, (S p).h⟩) hT hi hb hI.wr htm hI.df hI.head ho (hwant.trans hw)
    rw [heq] at hE
    obtain ⟨v', ds, cs', w', ι', g1, g2, g3, g4, g5, g6⟩ := hE
    refine ⟨p + 1, ι', _, cs', w', g1, hI.effect hclo hL hlt hkd (by rw [hs']; exact g5) (by rw [hs']; exact g6) (by rw [hs']; cases o.dst <;> exact g3) (by rw [hs']; exact g4) (by rw [put_size]; exact hI.size) ?_⟩
    exact putD_tms (a' := { a with defers := ds }) hs g6.le hI.clo ho hL ha hI.size rfl (by rw [hkd]; exact g2) hI.tms

theorem draw_steps (hT : TabOk T P) (hi : InvOk T P e.inv) (hb : FrameOk e b) (hs : Static T ops n) (hX : Text T ops e base S K) (hbase : h0.next ≤ base) {L : Nat → Bool} {l : List Nat} (hl : Sched ops L l) :
    ∀ {p : Nat} {ι : Inj} {a : Act} {cs : List Frame} {w : World}, DInv T ops e base S K ι0 h0 w0 n cs0 L p ι a cs w →
    ∃ (ι' : Inj) (a' : Act) (cs' : List Frame) (w' : World) (L' : Nat → Bool), Steps P (lone (b.atR a (.inRegion ops l :: k)) cs w) (lone (b.atR a' k) cs' w') ∧ (∀ i, i < ops.size → L' i = true) ∧
      DInv T ops e base S K ι0 h0 w0 n cs0 L' ops.size ι' a' cs' w' := by
  induction hl with
  | nil L h =>
    intro p ι a cs w hI
    exact ⟨ι, a, cs, w, L, .one stepR_region_end, h, DInv.advance_all hX hbase h (ops.size - p) p (by have := hI.ple; omega) hI⟩
  | cons L i o l ho hL ha _ ih =>
    intro p ι a cs w hI
    obtain ⟨p', ι', a', cs', w', h1, h2⟩ := draw_step (k := k) (rest := l) hT hi hb hs hX hbase hI ho hL ha
    obtain ⟨ι2, a2, cs2, w2, L2, h3, h4, h5⟩ := ih h2
    exact ⟨ι2, a2, cs2, w2, L2, h1.trans h3, h4, h5⟩

theorem guards_mem {b : List Nat} : ∀ {l : List Oper} {j : Nat}, guardsIn b l j = true → ∀ (i : Nat) o, l[i]? = some o → ∀ x ∈ o.after, Region.binds .text x = true → x.on < j + i
  | [], j, _, i, o, ho, _, _, _ => by simp at ho
  | y :: l, j, h, i, o, ho, x, hx, hb => by
    obtain ⟨h1, h2⟩ := cond_and (b := guardsIn b l (j + 1)) h
    obtain ⟨h1, _⟩ := cond_and h1
    cases i with
    | zero =>
      simp only [List.getElem?_cons_zero, Option.some.injEq] at ho
      subst ho
      have := allB_mem h1 x (by simpa using hx)
      rw [hb, cond_true] at this
      simpa [Nat.blt_eq] using this
    | succ i =>
      have := guards_mem h2 i o (by simpa using ho) x hx hb
      omega

theorem Keep.grow {ι : Inj} {h : H} {w : World} {ι' : Inj} {h' : H} {w' : World} (hk : Keep ι h w ι' h' w') {n : Nat} (hn : h'.next ≤ n) : Keep ι h w ι' ⟨h'.tr, n⟩ w' :=
  ⟨hk.le, hk.new, Nat.le_trans hk.next hn, hk.size, hk.os, hk.output, hk.kept, hk.same, hk.void, hk.free, hk.thaw⟩

theorem WR.grow {ι : Inj} {h : H} {w : World} (hw : WR T ι h w) {n : Nat} (hn : h.next ≤ n) (hl : n ≤ 2147483648) : WR T ι ⟨h.tr, n⟩ w :=
  ⟨hw.live, fun b m hi => Nat.lt_of_lt_of_le (hw.ids b m hi) hn, fun b o hb => Nat.lt_of_lt_of_le (hw.fresh b o hb) hn, hw.bound, hw.excl, hl, hw.glob⟩

theorem drawWith_ok (hT : TabOk T P) (hi : InvOk T P e.inv) (hb : FrameOk e b) (hd : ∀ (i : Nat) o, ops[i]? = some o → ltO o.dst n = true) {ι : Inj} {s : St} {a : Act} {cs : List Frame} {w : World} (hst : StR T ι e cs0 n s a cs w)
    (mixed : Bool) (t : Nat) :
    ExR T P ι s.h w e cs0 n (lone (b.atR a (.inRegion ops (Region.schedule mixed ops t) :: k)) cs w) b k (drawWith T ops (masks ops.toList []) (effs ops.toList 0) e s) := by
  unfold drawWith
  cases hc : (cond (orderedE (masks ops.toList []) (effs ops.toList 0)) (cond (tidyFrom ops.toList (masks ops.toList []) ops.toList 0) (cond (guardsIn (masks ops.toList []) ops.toList 0) (!Region.departs ops || Nat.beq (Region.linearise .gc ops 0).length ops.toList.length) false) false) false) with
  | false => trivial
  | true =>
    obtain ⟨c1, c2⟩ := cond_and hc
    obtain ⟨c2, c3⟩ := cond_and c2
    obtain ⟨c3, c4⟩ := cond_and c3
    simp only [cond_true, fN_eq]
    cases hl : Nat.blt (Nat.add s.h.next ops.toList.length) 2147483648 with
    | false => trivial
    | true =>
      simp only [cond_true]
      have hlim : s.h.next + ops.size < 2147483648 := by
        have : s.h.next + ops.toList.length < 2147483648 := by simpa [Nat.blt_eq] using hl
        simpa using this
      rcases drawF_trace (T := T) (ops := ops) (b := masks ops.toList []) (es := effs ops.toList 0) (e := e) (l := ops.toList) (i := 0) (d := ⟨s.h.next, [], []⟩) (s := ⟨s.tm, s.df, s.u, ⟨s.h.tr, Nat.add s.h.next ops.toList.length⟩⟩) rfl with h | ⟨d', s', h1, h2, h3⟩
      · rw [h]; trivial
      · rw [h1]
        obtain ⟨S, K, hS0, hSN, hX⟩ := text_of h2 h3
        have htext : ∀ (i : Nat) o, ops[i]? = some o → ∀ x ∈ o.after, Region.binds .text x = true → x.on < i := fun i o ho x hx hbx => by
          have := guards_mem c3 i o (by simpa using ho) x hx hbx
          omega
        have hstat : Static T ops n := {
          back := fun i o ho x hx hbx => htext i o ho x hx (binds_any hbx)
          tidy := c2
          order := fun i j o o' ho ho' hc hc' hlt => by
            have m1 := effs_mem (l := ops.toList) (k := 0) (j := i) (o := o) (by simpa using ho) hc
            have m2 := effs_mem (l := ops.toList) (k := 0) (j := j) (o := o') (by simpa using ho') hc'
            simp only [Nat.zero_add] at m1 m2
            exact orderedE_bit c1 effs_sorted.1 i m1 j m2 hlt
          loose := fun i hl' j o ho hc => by
            have m1 := effs_mem (l := ops.toList) (k := 0) (j := j) (o := o) (by simpa using ho) hc
            simp only [Nat.zero_add] at m1
            exact loose_bit hl' j m1
          dst := hd
          small := hst.small }
        have hsched : Sched ops (fun _ => false) (Region.schedule mixed ops t) := by
          refine sched_schedule htext (fun hdep => ?_) t
          rw [hdep] at c4
          simp only [Bool.not_true, Bool.false_or] at c4
          simpa using Nat.eq_of_beq_eq_true c4
        have hget : ∀ j, s.h.get (s.h.next + j) = none := by
          intro j
          cases hx : s.h.get (s.h.next + j) with
          | none => rfl
          | some x => have := hst.wr.fresh _ _ hx; omega
        have hS0h : (S 0).h = ⟨s.h.tr, s.h.next + ops.size⟩ := by rw [hS0]; simp
        have h0get : ∀ j, (S 0).h.get (s.h.next + j) = none := by intro j; rw [hS0h]; exact hget j
        have hnone : ∀ j, ι (s.h.next + j) = none := by
          intro j
          cases hx : ι (s.h.next + j) with
          | none => rfl
          | some x => have := hst.wr.ids _ _ hx; omega
        have hlast : ∀ t k, lastW ops (fun _ => false) t k = none := by
          intro t k
          induction k with
          | zero => rfl
          | succ k ih => simp [lastW, ih]
        have hI : DInv T ops e s.h.next S K ι s.h w n cs0 (fun _ => false) 0 ι a cs w := {
          clo := fun j o _ h => by cases h
          ple := Nat.zero_le _
          before := fun j v hj => by omega
          behind := fun _ _ _ _ _ => rfl
          wr := by rw [hS0h]; exact hst.wr.grow (by omega) (by omega)
          keep := by rw [hS0h]; exact (Keep.refl _ _ _).grow (by omega)
          tms := fun t => by rw [hlast, hS0]; exact hst.tm t
          df := by rw [hS0]; exact hst.df
          head := by rw [hS0]; exact hst.head
          size := hst.size
          high := fun j m _ h => by rw [hnone j] at h; cases h
          ids := fun j _ _ => hnone j
          early := fun j ob g _ _ _ h => by cases h
          apart := fun j j' m m' _ _ _ h => by rw [hnone j] at h; cases h
          late := fun j ob g hj => by omega
          void := fun q j hq _ _ => by rw [show q = 0 by omega]; exact h0get j
          nexts := fun q hq => by rw [show q = 0 by omega, hS0h]; exact Nat.le_refl _ }
        obtain ⟨ι', a', cs', w', L', g1, g2, g3⟩ := draw_steps (k := k) hT hi hb hstat hX (Nat.le_refl _) hsched hI
        refine ⟨a', cs', w', ι', g1, ?_, ?_⟩
        · rw [← hSN]
          refine ⟨g3.wr, fun t => ?_, g3.df, g3.head, g3.size, hst.small⟩
          rw [text_tm (hstat.text hX) t ops.size (Nat.le_refl _), ← lastW_congr (L := L') fun j hj _ => g2 j hj]
          exact g3.tms t
        · rw [← hSN]; exact g3.keep

theorem regionF_ok (hT : TabOk T P) (hi : InvOk T P e.inv) (hb : FrameOk e b) (hd : ∀ (i : Nat) o, ops[i]? = some o → ltO o.dst n = true) {ι : Inj} {s : St} {a : Act} {cs : List Frame} {w : World} (hst : StR T ι e cs0 n s a cs w)
    (id : Nat) (draw : Bool) : ExR T P ι s.h w e cs0 n (lone (b.atR a (.code (.region id ops draw) :: k)) cs w) b k (regionF T ops draw e s) := by
  cases draw with
  | false =>
    have h := opsF_ok (k := k) hT hi hb hd ops.toList 0 (by simp) ι s a cs w hst
    refine ExR.after (.one (stepR_region (P := P) (id := id))) (Keep.refl ι s.h w) ?_
    rw [show List.range ops.size = List.range' 0 ops.toList.length by simp [List.range_eq_range']]
    exact h
  | true =>
    have hst' : StR T ι e cs0 n s a cs { w with drawn := w.drawn + 1 } := ⟨hst.wr.drawn _, hst.tm, hst.df, hst.head, hst.size, hst.small⟩
    exact ExR.after (.one (stepR_region_draw (P := P) (id := id))) (Keep.drawn ι s.h w _) (drawWith_ok hT hi hb hd hst' _ _)

end
end Go.Ev

/- Code, statement by statement. -/
namespace Go.Ev

section
variable {T : Tab} {P : Program} {e : Env} {n nt : Nat} {cs0 : List Frame} {b : Frame}

theorem stepR_inScope {a : Act} {k : List Item} {cs : List Frame} {w : World} {c : Code} : step P (lone (b.atR a (.inScope c :: k)) cs w) = .next (lone (b.atR a k) cs w) :=
  step_lone_go (by simp [Go.stepG, stepG.exec, Frame.atR])
theorem stepR_scope {a : Act} {k : List Item} {cs : List Frame} {w : World} {c : Code} : step P (lone (b.atR a (.code (.scope c) :: k)) cs w) = .next (lone (b.atR a (.code c :: .inScope c :: k)) cs w) :=
  step_lone_go (by simp [Go.stepG, stepG.exec, Frame.atR])

/-- what does not end normally goes past an item -/
theorem ExR.pop {ι : Inj} {h : H} {w : World} {m : Machine} {x : Item} {k : List Item} (hx : ∀ id, exitTo id (x :: k) = exitTo id k) {r : Ex} (hn : ∀ s, r ≠ .normal s) (hr : ExR T P ι h w e cs0 n m b (x :: k) r) :
    ExR T P ι h w e cs0 n m b k r := by
  cases r with
  | fail => trivial
  | normal s => exact absurd rfl (hn s)
  | exit id s => obtain ⟨a', cs', w', ι', k2, h1, h0, h2, h3⟩ := hr; exact ⟨a', cs', w', ι', k2, h1, h0.trans (hx id), h2, h3⟩
  | ret s => exact hr
  | panic c s => exact hr

theorem ltO_mono {d : Option Nat} (h : ltO d nt = true) (hn : nt ≤ n) : ltO d n = true := by
  cases d with
  | none => rfl
  | some d =>
    have : d < nt := by simpa [ltO, Nat.blt_eq] using h
    simp [ltO, Nat.blt_eq]
    omega

theorem step_rangeCall {a : Act} {k : List Item} {cs : List Frame} {w : World} {g : Operand} {ps : Array Tmp} {assign body : Code} {l : Nat} {mark : List Deferred} {w₁ w₁' w₂ : World} {d : Deferred} {nx : Next} {fr : Frame}
    (he : (Instr.enterLoop b.fn a.tmps ps assign body b.roundOf).run P w = .ok (l, mark) w₁)
    (hres : (resolve a.eval { callee := .value g, args := #[.const (.func (.yield l) #[] #[])], argTypes := #[] } 0).run P w₁ = .ok d w₁') (hinv : (invoke d.target d.args).run P w₁' = .ok nx w₂) (hn : entered P .normal nx = some fr) :
    step P (lone (b.atR a (.code (.rangeFunc g ps assign body) :: k)) cs w) = .next (lone fr (b.atR { a with defers := mark ++ a.defers } (.inRangeFunc l :: k) :: cs) w₂) :=
  step_lone_go (by
    have hev := Frame.eval_atR b { a with defers := mark ++ a.defers } (.inRangeFunc l :: k)
    simp only [Frame.atR] at hev
    have hres' : Sem.run P (resolve ({ tmps := a.tmps, defers := mark ++ a.defers } : Act).eval { callee := .value g, args := #[.const (.func (.yield l) #[] #[])], argTypes := #[] } 0) w₁ = .ok d w₁' := hres
    cases nx <;> simp only [entered, reduceCtorEq, Option.some.injEq] at hn
    all_goals subst hn; simp [Go.stepG, stepG.exec, Frame.atR, Sem.runT_eq, he, GStep.bare_after, stepG.apply, hev, Sem.run_bind, hres', hinv, Result.andThen])

theorem finish_inRange {a : Act} {k : List Item} (l : Nat) (v : Value) : (b.atR a (.inRangeFunc l :: k)).finish v = b.atR a (.endRangeFunc l :: k) := by
  simp [Frame.finish, Frame.atR]

theorem step_endRange {a : Act} {k : List Item} {cs : List Frame} {w : World} {l : Nat} {jump : Option Code} {w' : World} (h : (Instr.endLoop l).run P w = .ok jump w') :
    step P (lone (b.atR a (.endRangeFunc l :: k)) cs w) = .next (lone (b.atR a ((jump.map Item.code).toList ++ k)) cs w') :=
  step_lone_go (by simp [Go.stepG, stepG.exec, Frame.atR, Sem.runT_eq, h, GStep.bare_after])

/-- a loop's record is written -/
theorem loop_write {ι : Inj} {h : H} {w : World} (hw : WR T ι h w) {l : Nat} {lo : ALoop} (hl : h.get l = some (.loop lo)) {m : Im} (hm : ι l = some m) :
    ∃ lo' : Loop, w.heap[m.blk]? = some (.loop lo') ∧ lo'.state = lo.state ∧ lo'.pending = lo.pending ∧ ∃ nt, ObjR T ι (.loop lo) (.loop lo') m ∧ nt ≤ lo'.tmps.size ∧ lo'.tmps.size ≤ 65535 ∧ lo'.fn = lo.fn ∧ TmR T ι lo.tm lo'.tmps ∧ lo'.params.toList = lo.params ∧
      lo'.assign = lo.assign ∧ lo'.body = lo.body ∧ allB (fun p => Nat.blt p nt) lo.params = true ∧ codeOk nt lo.assign = true ∧ codeOk nt lo.body = true ∧
      ∀ (st : LoopState) (pe : Option Code), WR T ι (h.put l (some (.loop { lo with state := st, pending := pe }))) (w.putObj m.blk (.loop { lo' with state := st, pending := pe })) ∧
        Keep ι h w ι (h.put l (some (.loop { lo with state := st, pending := pe }))) (w.putObj m.blk (.loop { lo' with state := st, pending := pe })) := by
  obtain ⟨ob, h1, h2⟩ := hw.live _ _ _ hl hm
  have hlt := hw.bound _ _ hm
  cases h2 with
  | loop _ lo' nt _ hs hp hf ht hps ha hb hn hn' hok hok1 hok2 =>
    refine ⟨lo', h1, hs, hp, nt, .loop _ _ nt _ hs hp hf ht hps ha hb hn hn' hok hok1 hok2, hn, hn', hf, ht, hps, ha, hb, hok, hok1, hok2, fun st pe => ?_⟩
    have ho : ObjR T ι (.loop { lo with state := st, pending := pe }) (.loop { lo' with state := st, pending := pe }) m := .loop _ _ nt _ rfl rfl hf ht hps ha hb hn hn' hok hok1 hok2
    exact ⟨hw.write hl rfl hm World.putObj_size (fun k hk => World.putObj_heap_other hk) (World.putObj_heap_same hlt) ho,
      Keep.write hw hl rfl hm World.putObj_size (fun k hk => World.putObj_heap_other hk) rfl rfl rfl (fun ob h => by rw [World.putObj_heap_same hlt] at h; cases h; exact fun _ _ _ he => by cases he)⟩

theorem rangeFunc_ok (hi : InvOk T P e.inv) (hb : FrameOk e b) {f : Operand} {params : Array Tmp} {assign body : Code} (hok : codeOk nt (.rangeFunc f params assign body) = true) (hnt : nt ≤ n)
    {ι : Inj} {s : St} {a : Act} {cs : List Frame} {w : World} {k : List Item} (hst : StR T ι e cs0 n s a cs w) (fuel : Nat) :
    ExR T P ι s.h w e cs0 n (lone (b.atR a (.code (.rangeFunc f params assign body) :: k)) cs w) b k (execF T b.fn (.rangeFunc f params assign body) fuel e s) := by
  simp only [execF]
  cases hr : e.round with
  | true => trivial
  | false =>
    simp only [cond_false]
    cases hn1 : s.h.new (.deferred (some [])) with
    | none => trivial
    | some q1 =>
      obtain ⟨r, h1⟩ := q1
      simp only
      cases hn2 : h1.new (.loop { state := .ready, pending := none, fn := b.fn, tm := s.tm, params := params.toList, assign, body }) with
      | none => trivial
      | some q2 =>
        obtain ⟨l, h2⟩ := q2
        simp only
        cases htv : targetV (ev f s.tm) [.func (.yield l) #[] #[]] with
        | none => trivial
        | some q3 =>
          obtain ⟨t, args⟩ := q3
          simp only
          cases hinv : e.inv t args false .run h2 with
          | none => trivial
          | some q4 =>
            obtain ⟨en, u', h3⟩ := q4
            obtain ⟨o1, o2⟩ := cond_and (a := allB (fun p => Nat.blt p nt) params.toList) (b := cond (codeOk nt assign) (codeOk nt body) false) hok
            obtain ⟨o2, o3⟩ := cond_and o2
            -- the two blocks
            obtain ⟨w1, k1, _⟩ := hst.wr.alloc rfl hn1 (ob := .deferred (some [])) (m := ⟨w.heap.size, 0, 0, 0⟩) rfl (.noneLeft _)
            have hlo : ObjR T ((ι.ins r ⟨w.heap.size, 0, 0, 0⟩).ins l ⟨(w.alloc (.deferred (some []))).heap.size, 0, 0, 0⟩) (.loop { state := .ready, pending := none, fn := b.fn, tm := s.tm, params := params.toList, assign, body })
                (.loop { state := .ready, pending := none, fn := b.fn, tmps := a.tmps, params, assign, body, defers := w.heap.size }) ⟨(w.alloc (.deferred (some []))).heap.size, 0, 0, 0⟩ := by
              have hnone : (ι.ins r ⟨w.heap.size, 0, 0, 0⟩) l = none := by
                obtain ⟨e1, _, _, _, _⟩ := H.new_eq hn2
                cases hx : (ι.ins r ⟨w.heap.size, 0, 0, 0⟩) l with
                | none => rfl
                | some x => have := w1.ids _ _ hx; omega
              exact .loop _ _ nt _ rfl rfl rfl (hst.tm.mono (Inj.le_trans k1.le (Inj.le_ins _ _ hnone))) rfl rfl rfl (by rw [hst.size]; exact hnt) (by rw [hst.size]; exact hst.small) o1 o2 o3
            obtain ⟨w2, k2, _⟩ := w1.alloc rfl hn2 (ob := .loop { state := .ready, pending := none, fn := b.fn, tmps := a.tmps, params, assign, body, defers := w.heap.size }) (m := ⟨(w.alloc (.deferred (some []))).heap.size, 0, 0, 0⟩) rfl hlo
            have k12 := k1.trans k2
            generalize hι2 : (ι.ins r ⟨w.heap.size, 0, 0, 0⟩).ins l ⟨(w.alloc (.deferred (some []))).heap.size, 0, 0, 0⟩ = ι2 at w2 k2 k12 hlo
            have hl2 : ι2 l = some ⟨(w.alloc (.deferred (some []))).heap.size, 0, 0, 0⟩ := by rw [← hι2]; exact Inj.ins_eq _ _ _
            have hr2 : ι2 r = some ⟨w.heap.size, 0, 0, 0⟩ := k2.le _ _ (Inj.ins_eq _ _ _)
            have hsz : (w.alloc (.deferred (some []))).heap.size = w.heap.size + 1 := alloc_size _ _
            -- the call
            have hf2 : VR T ι2 (ev f s.tm) (a.eval f) := (ev_R hst.wr hst.tm f).mono k12.le
            have hy : VRs T ι2 [.func (.yield l) #[] #[]] (#[.func (.yield (w.heap.size + 1)) #[] #[]] : Array Value).toList := by
              refine .cons _ _ _ _ (.func _ _ _ _ _ _ ?_ .nil .nil) .nil
              have := FnR.yield (ι := ι2) l _ hl2
              simp only at this
              rwa [hsz] at this
            obtain ⟨fn', first', captured', g1, g2, g3⟩ := targetV_R hf2 hy htv
            obtain ⟨nx, wc, fr0, i1, i2, i3⟩ := hi t args false .run h2 en u' h3 hinv ι2 _ _ _ w2 g2 g3
            have hstep := step_rangeCall (P := P) (b := b) (a := a) (k := k) (cs := cs) (w := w) (g := f) (ps := params) (assign := assign) (body := body) (d := { target := .fn fn' captured', args := first' ++ #[.func (.yield (w.heap.size + 1)) #[] #[]] })
              (by rw [hb.round hr]; exact run_enterLoop_outer (P := P) (w := w) b.fn a.tmps params assign body)
              (by simp only [resolve, Deferred.ofValue, g1]; simp [Act.eval]) i1 i2
            obtain ⟨w3, ι3, m3, e3, s3, en3, _, wr3, k3⟩ := i3 (b.atR { a with defers := [{ target := .collected w.heap.size, args := #[] }] ++ a.defers } (.inRangeFunc (w.heap.size + 1) :: k)) cs (by simp)
            have ksum := k12.trans k3
            have hdf3 : DefsR T ι3 ({ target := .collected r, args := #[] } :: s.df) ([{ target := .collected w.heap.size, args := #[] }] ++ a.defers) :=
              .cons _ _ _ _ ⟨.collected r _ (k3.le _ _ hr2), .nil⟩ (hst.df.mono ksum.le)
            have hl3 := k3.le _ _ hl2
            cases en3 with
            | returned v v' hv =>
              simp only
              cases hlo3 : h3.get l with
              | none => trivial
              | some ob3 =>
                cases ob3 with
                | loop lo =>
                  simp only
                  obtain ⟨lo', b1, b2, b3, nt', b4, b5, b6, b7, b8, b9, b10, b11, b12, b13, b14, b15⟩ := loop_write wr3 hlo3 hl3
                  simp only [hsz] at b1
                  have fin : lo.state ≠ .busy → ExR T P ι s.h w e cs0 n (lone (b.atR a (.code (.rangeFunc f params assign body) :: k)) cs w) b k (pendingV lo.pending ⟨s.tm, { target := .collected r, args := #[] } :: s.df, s.u, h3.put l (some (.loop { lo with state := .exhausted }))⟩) := by
                    intro hbusy
                    obtain ⟨b16, b17⟩ := b15 .exhausted lo.pending
                    have hend := run_endLoop (P := P) b1 (by rw [b2]; exact hbusy)
                    rw [b3] at hend
                    have s4 : Steps P (lone (b.atR a (.code (.rangeFunc f params assign body) :: k)) cs w) (lone (b.atR { a with defers := [{ target := .collected w.heap.size, args := #[] }] ++ a.defers } ((lo.pending.map Item.code).toList ++ k)) cs (w3.putObj (w.heap.size + 1) (.loop { lo' with state := .exhausted, pending := lo.pending }))) := by
                      refine .head hstep (s3.trans (.one ?_))
                      simp only [back, cond_false]
                      rw [finish_inRange]
                      exact step_endRange hend
                    have hsz' : (⟨(w.alloc (.deferred (some []))).heap.size, 0, 0, 0⟩ : Im).blk = w.heap.size + 1 := hsz
                    rw [hsz'] at b16 b17
                    have hst4 : StR T ι3 e cs0 n ⟨s.tm, { target := .collected r, args := #[] } :: s.df, s.u, h3.put l (some (.loop { lo with state := .exhausted }))⟩ { a with defers := [{ target := .collected w.heap.size, args := #[] }] ++ a.defers } cs (w3.putObj (w.heap.size + 1) (.loop { lo' with state := .exhausted, pending := lo.pending })) :=
                      ⟨b16, hst.tm.mono ksum.le, hdf3, hst.head.mono ksum.le, hst.size, hst.small⟩
                    have k4 := ksum.trans b17
                    unfold pendingV
                    split
                    · rename_i hp; rw [show (lo.pending.map Item.code).toList ++ k = k by rw [hp]; rfl] at s4; exact ⟨_, _, _, _, s4, hst4, k4⟩
                    · rename_i id hp; rw [show (lo.pending.map Item.code).toList ++ k = .code (.exit id) :: k by rw [hp]; rfl] at s4; exact ⟨_, _, _, _, k, s4, rfl, hst4, k4⟩
                    · rename_i hp; rw [show (lo.pending.map Item.code).toList ++ k = .code .ret :: k by rw [hp]; rfl] at s4; exact ⟨_, _, _, _, k, s4, hst4, k4⟩
                    · trivial
                  cases hstt : lo.state with
                  | busy => trivial
                  | _ => exact fin (by rw [hstt]; simp)
                | _ => trivial
            | panicked c c' hc =>
              simp only
              refine ⟨_, cs, w3, ι3, _, c', .head hstep s3, hc, ⟨wr3, hst.tm.mono ksum.le, hdf3, hst.head.mono ksum.le, hst.size, hst.small⟩, ksum⟩

theorem execF_ok (hT : TabOk T P) (hi : InvOk T P e.inv) (hb : FrameOk e b) (hnt : nt ≤ n) (fuel : Nat) : ∀ (c : Code), codeOk nt c = true → ∀ (ι : Inj) (s : St) (a : Act) (cs : List Frame) (w : World) (k : List Item), StR T ι e cs0 n s a cs w →
    ExR T P ι s.h w e cs0 n (lone (b.atR a (.code c :: k)) cs w) b k (execF T b.fn c fuel e s) := by
  intro c
  induction c with
  | skip => intro _ ι s a cs w k hst; exact ⟨a, cs, w, ι, .one stepR_skip, hst, Keep.refl _ _ _⟩
  | label l => intro _ ι s a cs w k hst; exact ⟨a, cs, w, ι, .one stepR_label, hst, Keep.refl _ _ _⟩
  | region id ops draw =>
    intro hok ι s a cs w k hst
    refine regionF_ok hT hi hb (fun i o ho => ltO_mono (nt := nt) ?_ hnt) hst id draw
    exact allB_mem (p := fun o : Oper => ltO o.dst nt) (l := ops.toList) hok o (by simpa using Array.mem_of_getElem? ho)
  | seq x y ihx ihy =>
    intro hok ι s a cs w k hst
    obtain ⟨o1, o2⟩ := cond_and (a := codeOk nt x) (b := codeOk nt y) hok
    have h1 := ihx o1 ι s a cs w (.code y :: k) hst
    refine ExR.after (.one (stepR_seq (P := P))) (Keep.refl ι s.h w) ?_
    simp only [execF]
    cases hr : execF T b.fn x fuel e s with
    | normal s' =>
      rw [hr] at h1
      obtain ⟨a', cs', w', ι', g1, g2, g3⟩ := h1
      exact (ihy o2 ι' s' a' cs' w' k g2).after g1 g3
    | _ => rw [hr] at h1; exact h1.pop (fun _ => rfl) (by simp)
  | cond c x y ihx ihy =>
    intro hok ι s a cs w k hst
    obtain ⟨o1, o2⟩ := cond_and (a := codeOk nt x) (b := codeOk nt y) hok
    simp only [execF]
    have hc := ev_R hst.wr hst.tm c
    split
    · rename_i t ht
      rw [ht] at hc
      generalize hc' : a.eval c = v at hc
      cases hc with
      | bool _ =>
        refine ExR.after (.one (stepR_cond (P := P) hc')) (Keep.refl ι s.h w) ?_
        cases t with
        | true => exact ihx o1 ι s a cs w k hst
        | false => exact ihy o2 ι s a cs w k hst
    · trivial
  | block id c ih =>
    intro hok ι s a cs w k hst
    have h1 := ih hok ι s a cs w (.inBlock id :: k) hst
    refine ExR.after (.one (stepR_block (P := P))) (Keep.refl ι s.h w) ?_
    simp only [execF]
    cases hr : execF T b.fn c fuel e s with
    | normal s' =>
      rw [hr] at h1
      obtain ⟨a', cs', w', ι', g1, g2, g3⟩ := h1
      exact ⟨a', cs', w', ι', g1.trans (.one stepR_inBlock), g2, g3⟩
    | exit id' s' =>
      rw [hr] at h1
      obtain ⟨a', cs', w', ι', k2, g1, g0, g2, g3⟩ := h1
      simp only
      cases hid : Nat.beq id' id with
      | true =>
        have := Nat.eq_of_beq_eq_true hid
        subst this
        refine ⟨a', cs', w', ι', g1.trans (.one (stepR_exit ?_)), g2, g3⟩
        rw [g0]
        simp [exitTo]
      | false =>
        refine ⟨a', cs', w', ι', k2, g1, ?_, g2, g3⟩
        rw [g0]
        have hne : (id == id') = false := by
          rw [beq_eq_false_iff_ne]
          rintro rfl
          have hb : Nat.beq id id = true := Nat.beq_refl id
          rw [hid] at hb
          cases hb
        simp [exitTo, hne]
    | ret s' => rw [hr] at h1; exact h1
    | panic c s' => rw [hr] at h1; exact h1
    | fail => trivial
  | loop c ih =>
    intro hok ι s a cs w k hst
    refine ExR.after (.one (stepR_loop (P := P))) (Keep.refl ι s.h w) ?_
    simp only [execF]
    have key : ∀ m (ι : Inj) (s : St) (a : Act) (cs : List Frame) (w : World), StR T ι e cs0 n s a cs w →
        ExR T P ι s.h w e cs0 n (lone (b.atR a (.code c :: .inLoop c :: k)) cs w) b k (loopF (fun s => execF T b.fn c fuel e s) m s) := by
      intro m
      induction m with
      | zero => intro ι s a cs w _; trivial
      | succ m ihm =>
        intro ι s a cs w hst
        have h1 := ih hok ι s a cs w (.inLoop c :: k) hst
        simp only [loopF]
        cases hr : execF T b.fn c fuel e s with
        | normal s' =>
          rw [hr] at h1
          obtain ⟨a', cs', w', ι', g1, g2, g3⟩ := h1
          exact (ihm ι' s' a' cs' w' g2).after (g1.trans (.one stepR_inLoop)) g3
        | _ => rw [hr] at h1; exact h1.pop (fun _ => rfl) (by simp)
    exact key fuel ι s a cs w hst
  | rangeFunc f params assign body _ _ =>
    intro hok ι s a cs w k hst
    exact rangeFunc_ok hi hb hok hnt hst fuel
  | exit id => intro _ ι s a cs w k hst; exact ⟨a, cs, w, ι, k, .refl _ _, rfl, hst, Keep.refl _ _ _⟩
  | scope c ih =>
    intro hok ι s a cs w k hst
    have h1 := ih hok ι s a cs w (.inScope c :: k) hst
    refine ExR.after (.one (stepR_scope (P := P))) (Keep.refl ι s.h w) ?_
    simp only [execF]
    cases hr : execF T b.fn c fuel e s with
    | normal s' =>
      rw [hr] at h1
      obtain ⟨a', cs', w', ι', g1, g2, g3⟩ := h1
      exact ⟨a', cs', w', ι', g1.trans (.one stepR_inScope), g2, g3⟩
    | _ => rw [hr] at h1; exact h1.pop (fun _ => rfl) (by simp)
  | goto l => intro _ ι s a cs w k _; trivial
  | ret => intro _ ι s a cs w k hst; exact ⟨a, cs, w, ι, k, .refl _ _, hst, Keep.refl _ _ _⟩
  | refuse why => intro _ ι s a cs w k _; trivial

end
end Go.Ev

/- Frames: how a call is entered, gone through and left. -/
namespace Go.Ev

section
variable {T : Tab} {P : Program}

/-- one result -/
def resV (tmps : Array Value) : ResultVar → Sem Value
  | .tmp t => pure (tmps.getD t undef)
  | .cell a t => do loadVar t (← asAddr (tmps.getD a undef))

theorem results_eq (fn : Func) (tmps : Array Value) : results fn tmps = (do
    let vs ← fn.results.mapM (resV tmps)
    pure (if h : vs.size = 1 then vs[0] else .tuple vs)) := by
  unfold results
  congr 1

theorem results_R (hT : TabOk T P) {ι : Inj} {h : H} {w : World} (hw : WR T ι h w) {tm : Tm} {tmps : Array Value} (ht : TmR T ι tm tmps) : ∀ {l : List ResultVar} {f : Tm → H → Option (List Value)} {vs : List Value}, resultsF T l = some f → f tm h = some vs →
    ∃ vs' : List Value, (l.mapM (resV tmps)).run P w = .ok vs' w ∧ VRs T ι vs vs'
  | [], f, vs, hf, hv => by
    simp only [resultsF, Option.some.injEq] at hf
    subst hf
    simp only [Option.some.injEq] at hv
    subst hv
    exact ⟨[], by rw [List.mapM_nil]; rfl, .nil⟩
  | .tmp t :: l, f, vs, hf, hv => by
    simp only [resultsF] at hf
    obtain ⟨g, hg, rfl⟩ := Option.map_eq_some_iff.1 hf
    obtain ⟨vs1, h1, rfl⟩ := Option.map_eq_some_iff.1 hv
    obtain ⟨vs', h2, h3⟩ := results_R hT hw ht hg h1
    refine ⟨tmps.getD t undef :: vs', ?_, .cons _ _ _ _ (ht t) h3⟩
    rw [List.mapM_cons, show resV tmps (.tmp t) = pure (tmps.getD t undef) from rfl]
    simp only [Sem.run_bind, Sem.run_pure, Result.andThen, h2]
  | .cell a t :: l, f, vs, hf, hv => by
    simp only [resultsF] at hf
    obtain ⟨g0, hg0, hf⟩ := Option.bind_eq_some_iff.1 hf
    obtain ⟨g, hg, rfl⟩ := Option.map_eq_some_iff.1 hf
    have ha := ht a
    simp only at hv
    split at hv
    · rename_i ad had
      obtain ⟨v, hv1, hv2⟩ := Option.bind_eq_some_iff.1 hv
      obtain ⟨vs1, h1, rfl⟩ := Option.map_eq_some_iff.1 hv2
      obtain ⟨vs', h2, h3⟩ := results_R hT hw ht hg h1
      rw [had] at ha
      generalize hx : tmps.getD a undef = x at ha
      have ha' := ha
      cases ha with
      | ptr b o m hm =>
        obtain ⟨v', h4, h5⟩ := loadF_R (P := P) hT hw hg0 ha' hv1
        have h4' : (loadVar t ⟨m.blk, m.off + o, none⟩).run P w = .ok v' w := by simpa [Instr.loadAt, Instr.sureAddr] using h4
        refine ⟨v' :: vs', ?_, .cons _ _ _ _ h5 h3⟩
        rw [List.mapM_cons, show resV tmps (.cell a t) = (do loadVar t (← asAddr (tmps.getD a undef))) from rfl, hx]
        simp only [asAddr, Sem.run_bind, Sem.run_pure, Result.andThen, h4', h2]
    · cases hv

theorem results_ok (hT : TabOk T P) {ι : Inj} {h : H} {w : World} (hw : WR T ι h w) {tm : Tm} {tmps : Array Value} (ht : TmR T ι tm tmps) {fn : Func} {f : Tm → H → Option (List Value)} {vs : List Value} (hf : resultsF T fn.results.toList = some f) (hv : f tm h = some vs) :
    ∃ v', (results fn tmps).run P w = .ok v' w ∧ VR T ι (oneOf vs) v' := by
  obtain ⟨vs', h1, h2⟩ := results_R (P := P) hT hw ht hf hv
  refine ⟨if h : vs'.toArray.size = 1 then vs'.toArray[0] else .tuple vs'.toArray, ?_, ?_⟩
  · rw [results_eq, Array.mapM_eq_mapM_toList, map_eq_pure_bind]
    simp only [Sem.run_bind, Sem.run_pure, Result.andThen, h1]
  · have hlen := h2.length
    cases h2 with
    | nil => exact .tuple _ _ .nil
    | cons v v' l l' hv' hl =>
      cases hl with
      | nil => exact hv'
      | cons x x' l l' hx hl =>
        have : ¬ (v' :: x' :: l').toArray.size = 1 := by simp
        rw [dif_neg this]
        exact .tuple _ _ (.cons _ _ _ _ hv' (.cons _ _ _ _ hx hl))

/-- the frame has done all it had to do -/
def Leaves (P : Program) (fr : Frame) (w : World) : Ending → Prop
  | .returned v => fr.mode = .returning ∧ fr.defers = [] ∧ ∃ fn, P.funcs[fr.fn]? = some fn ∧ (results fn fr.tmps).run P w = .ok v w
  | .panicked chain => fr.mode = .panicking chain ∧ fr.defers = [] ∧ ∃ fn, P.funcs[fr.fn]? = some fn
  | .outgrown => False

theorem dropWhile_R {ι : Inj} {c c' : List PanicEntry} (h : ChainR T ι c c') : ChainR T ι (c.dropWhile (!·.goexit)) (c'.dropWhile (!·.goexit)) := by
  induction h with
  | nil => exact .nil
  | cons e e' l l' h hl ih =>
    simp only [List.dropWhile_cons, h.g]
    split
    · exact ih
    · exact .cons _ _ _ _ h hl

theorem settle_R {ι : Inj} {m m' : FrameMode} (h : ModeR T ι m m') : ModeR T ι (settle m) (settle m') := by
  cases h with
  | run => exact .run
  | returning => exact .returning
  | panicking c c' h =>
    cases h with
    | nil => exact .panicking _ _ .nil
    | cons e e' l l' h hl =>
      obtain ⟨ev, er, eg⟩ := e
      obtain ⟨ev', er', eg'⟩ := e'
      have hr : er' = er := h.r
      subst hr
      cases er' with
      | false => exact .panicking _ _ (.cons _ _ _ _ h hl)
      | true =>
        have hd := dropWhile_R hl
        simp only [settle]
        cases hx : l.dropWhile (!·.goexit) with
        | nil =>
          rw [hx] at hd
          generalize l'.dropWhile (!·.goexit) = y at hd
          cases hd
          exact .returning
        | cons a as =>
          rw [hx] at hd
          generalize l'.dropWhile (!·.goexit) = y at hd
          cases hd with
          | cons _ b _ bs h1 h2 => exact .panicking _ _ (.cons _ _ _ _ h1 h2)

theorem settle_live {m : FrameMode} (h : FrameMode.live m = true) : FrameMode.live (settle m) = true := by
  unfold settle
  split
  · split <;> rfl
  · exact h

theorem ModeR.live {ι : Inj} {m m' : FrameMode} (h : ModeR T ι m m') : FrameMode.live m' = FrameMode.live m := by cases h <;> rfl

theorem raise_mode {ι : Inj} {u m : FrameMode} {c c' : List PanicEntry} (hm : ModeR T ι u m) (hc : ChainR T ι c c') {F : Frame} (hF : F.mode = m) : ∃ m', F.raise c' = { F with mode := m' } ∧ ModeR T ι (raised u c) m' ∧ FrameMode.live m' = true := by
  unfold Frame.raise
  rw [hF]
  cases hm with
  | run => exact ⟨_, rfl, .panicking _ _ hc, rfl⟩
  | returning => exact ⟨_, rfl, .panicking _ _ hc, rfl⟩
  | panicking o o' ho => exact ⟨_, rfl, .panicking _ _ (hc.append ho), rfl⟩

theorem step_collected {F : Frame} {m : FrameMode} (hm : FrameMode.live m = true) {r : Nat} {ar : Array Value} {ds calls : List Deferred} {cs : List Frame} {w w' : World} (hr : (Instr.takeDeferred r).run P w = .ok calls w') :
    step P (lone { F with defers := { target := .collected r, args := ar } :: ds, mode := m } cs w) = .next (lone { F with defers := calls ++ ds, mode := m } cs w') :=
  step_lone_go (by
    cases m with
    | run => cases hm
    | returning => simp [Go.stepG, unwind, Sem.runT_eq, hr, GStep.bare_after]
    | panicking c => simp [Go.stepG, unwind, Sem.runT_eq, hr, GStep.bare_after])

theorem step_deferred {F : Frame} {m : FrameMode} (hm : FrameMode.live m = true) {fn : Fn} {cap ar : Array Value} {ds : List Deferred} {cs : List Frame} {w w1 : World} {nx : Next} {fr0 : Frame}
    (hr : (invoke (.fn fn cap) ar).run P w = .ok nx w1) (hn : entered P .deferred nx = some fr0) :
    step P (lone { F with defers := { target := .fn fn cap, args := ar } :: ds, mode := m } cs w) = .next (lone fr0 ({ F with defers := ds, mode := m } :: cs) w1) :=
  step_lone_go (by
    cases m with
    | run => cases hm
    | returning => cases nx <;> simp only [entered, reduceCtorEq, Option.some.injEq] at hn <;> subst hn <;> simp [Go.stepG, unwind, callDeferred, Sem.runT_eq, hr, GStep.bare_after]
    | panicking c => cases nx <;> simp only [entered, reduceCtorEq, Option.some.injEq] at hn <;> subst hn <;> simp [Go.stepG, unwind, callDeferred, Sem.runT_eq, hr, GStep.bare_after])

theorem leave_ok (hT : TabOk T P) {inv : Inv} (hi : InvOk T P inv) {fn : Func} {f : Tm → H → Option (List Value)} (hf : resultsF T fn.results.toList = some f) {tm : Tm} {F : Frame} (hfn : P.funcs[F.fn]? = some fn) :
    ∀ (ds : List Deferred) (m : FrameMode) (h : H) (r : End) (h' : H), leave inv (f tm) ds m h = some (r, h') → ∀ (ι : Inj) (ds' : List Deferred) (m' : FrameMode) (w : World) (cs : List Frame), DefsR T ι ds ds' → ModeR T ι m m' → FrameMode.live m = true →
      WR T ι h w → TmR T ι tm F.tmps →
    ∃ (w' : World) (ι' : Inj) (e : Ending) (m2 : FrameMode), Steps P (lone { F with defers := ds', mode := m' } cs w) (lone { F with defers := [], mode := m2 } cs w') ∧ EndR T ι' r e ∧ Leaves P { F with defers := [], mode := m2 } w' e ∧ WR T ι' h' w' ∧ Keep ι h w ι' h' w' := by
  intro ds
  induction ds with
  | nil =>
    intro m h r h' hv ι ds' m' w cs hd hm hl hw ht
    cases hd
    simp only [leave] at hv
    cases hm with
    | run => cases hl
    | returning =>
      obtain ⟨vs, h1, h2⟩ := Option.map_eq_some_iff.1 hv
      simp only [Prod.mk.injEq] at h2
      obtain ⟨rfl, rfl⟩ := h2
      obtain ⟨v', g1, g2⟩ := results_ok (P := P) hT hw ht hf h1
      exact ⟨w, ι, .returned v', .returning, .refl _ _, .returned _ _ g2, ⟨rfl, rfl, fn, hfn, g1⟩, hw, Keep.refl _ _ _⟩
    | panicking c c' hc =>
      simp only [Option.some.injEq, Prod.mk.injEq] at hv
      obtain ⟨rfl, rfl⟩ := hv
      exact ⟨w, ι, .panicked c', .panicking c', .refl _ _, .panicked _ _ hc, ⟨rfl, rfl, fn, hfn⟩, hw, Keep.refl _ _ _⟩
  | cons d ds ih =>
    intro m h r h' hv ι ds' m' w cs hd hm hl hw ht
    cases hd with
    | cons _ d' _ ds' hdd hds =>
      obtain ⟨t, ar⟩ := d
      obtain ⟨t', ar'⟩ := d'
      obtain ⟨ht', har⟩ := hdd
      simp only at ht' har
      cases ht' with
      | collected r0 m0 hm0 =>
        simp only [leave] at hv
        split at hv
        · rename_i hg
          obtain ⟨ob, g1, g2⟩ := hw.live _ _ _ hg hm0
          cases g2 with
          | noneLeft =>
            have hlt := hw.bound _ _ hm0
            have hw2 := hw.write (w' := w.putObj m0.blk (.deferred none)) (o' := .deferred none) hg rfl hm0 World.putObj_size (fun k hk => World.putObj_heap_other hk) (World.putObj_heap_same hlt) (.taken _)
            have hk2 := Keep.write (w' := w.putObj m0.blk (.deferred none)) (o' := .deferred none) hw hg rfl hm0 World.putObj_size (fun k hk => World.putObj_heap_other hk) rfl rfl rfl (fun ob h => by rw [World.putObj_heap_same hlt] at h; cases h; exact fun _ _ _ he => by cases he)
            obtain ⟨w', ι', e, m2, s1, s2, s3, s4, s5⟩ := ih m _ r h' hv ι ds' m' _ cs hds hm hl hw2 ht
            exact ⟨w', ι', e, m2, .head (step_collected (by rw [hm.live]; exact hl) (run_takeDeferred g1)) s1, s2, s3, s4, hk2.trans s5⟩
        · cases hv
      | fn fn1 fn1' a a' hfa haa =>
        simp only [leave] at hv
        have hm2 : FrameMode.live m' = true := by rw [hm.live]; exact hl
        cases hq : inv (.fn fn1 a) ar.toList true m h with
        | none => rw [hq] at hv; cases hv
        | some q =>
          obtain ⟨r1, u1, h1⟩ := q
          rw [hq] at hv
          obtain ⟨nx, w1, fr0, g1, g2, g3⟩ := hi _ _ true m h r1 u1 h1 hq ι w (.fn fn1' a') ar' hw (.fn _ _ _ _ hfa haa) har
          have hs := step_deferred (P := P) (F := F) (m := m') hm2 (ds := ds') (cs := cs) g1 g2
          obtain ⟨w2, ι2, m3, e, s1, s2, s3, s4, s5⟩ := g3 { F with defers := ds', mode := m' } cs (fun _ => ⟨hm, hm2⟩)
          have s3 := s3 rfl
          cases s2 with
          | returned v v' hv' =>
            simp only at hv
            have hb : back true { F with defers := ds', mode := m' } m3 (.returned v') = { F with defers := ds', mode := settle m3 } := rfl
            rw [hb] at s1
            obtain ⟨w', ι', e', m4, t1, t2, t3, t4, t5⟩ := ih (settle u1) h1 r h' hv ι2 ds' (settle m3) w2 cs (hds.mono s5.le) (settle_R s3.1) (settle_live (by rw [← s3.1.live]; exact s3.2)) s4 (ht.mono s5.le)
            exact ⟨w', ι', e', m4, .head hs (s1.trans t1), t2, t3, t4, s5.trans t5⟩
          | panicked c c' hc =>
            simp only at hv
            obtain ⟨m4, q1, q2, q3⟩ := raise_mode s3.1 hc (F := { F with defers := ds', mode := m3 }) rfl
            have hb : back true { F with defers := ds', mode := m' } m3 (.panicked c') = { F with defers := ds', mode := m4 } := q1
            rw [hb] at s1
            obtain ⟨w', ι', e', m5, t1, t2, t3, t4, t5⟩ := ih (raised u1 c) h1 r h' hv ι2 ds' m4 w2 cs (hds.mono s5.le) q2 (by rw [← q2.live]; exact q3) s4 (ht.mono s5.le)
            exact ⟨w', ι', e', m5, .head hs (s1.trans t1), t2, t3, t4, s5.trans t5⟩

end
end Go.Ev

/- Calls, as deep as they go. -/
namespace Go.Ev

section
variable {T : Tab} {P : Program}

theorem argsTm_nth : ∀ (l : List Value) (i : Nat) (tm : Tm), i + l.length ≤ 65535 → ∀ j, nth (argsTm l i tm) j = if i ≤ j ∧ j < i + l.length then l.getD (j - i) undefV else nth tm j
  | [], i, tm, _, j => by
    rw [if_neg (by simp)]; rfl
  | v :: l, i, tm, hl, j => by
    simp only [List.length_cons] at hl
    show nth (argsTm l (i + 1) (upd tm i v)) j = _
    rw [argsTm_nth l (i + 1) (upd tm i v) (by omega) j]
    by_cases h1 : j = i
    · subst h1
      rw [if_neg (by omega), if_pos (by simp), nth_upd_eq _ _ _ (by omega)]
      simp
    · rw [nth_upd_ne _ _ _ _ h1]
      by_cases h2 : i + 1 ≤ j ∧ j < i + 1 + l.length
      · rw [if_pos h2, if_pos (by simp; omega), show j - i = (j - (i + 1)) + 1 by omega]
        simp
      · rw [if_neg h2, if_neg (by simp; omega)]

theorem args_R {ι : Inj} {l : List Value} {args : Array Value} (h : VRs T ι l args.toList) (hl : l.length ≤ 60000) (m : Nat) : TmR T ι (argsTm l 0 .nil) (args ++ Array.replicate m undef) := by
  intro j
  rw [argsTm_nth l 0 .nil (by omega) j]
  have hlen := h.length
  simp only [Array.length_toList] at hlen
  by_cases hj : j < l.length
  · rw [if_pos ⟨by omega, by omega⟩]
    obtain ⟨v', h1, h2⟩ := h.get (List.getElem?_eq_getElem hj)
    have h3 : args[j]? = some v' := by simpa using h1
    have h4 : (args ++ Array.replicate m undef).getD j undef = v' := by
      rw [Array.getD_eq_getD_getElem?, Array.getElem?_append_left (by omega), h3]; rfl
    rw [h4]
    simpa [List.getD_eq_getElem?_getD, List.getElem?_eq_getElem hj] using h2
  · rw [if_neg (by omega)]
    have h4 : (args ++ Array.replicate m undef).getD j undef = undef := by
      rw [Array.getD_eq_getD_getElem?, Array.getElem?_append_right (by omega), Array.getElem?_replicate]
      split <;> rfl
    rw [h4]
    exact .tuple _ _ .nil

theorem enterF_ok (hT : TabOk T P) {inv : Inv} (hi : InvOk T P inv) {f : Nat} {g : Nat → Inv → List Value → Bool → FrameMode → H → Option (End × FrameMode × H)} (hg : enterF T f = some g)
    {fuel : Nat} {l : List Value} {deferred : Bool} {u : FrameMode} {h : H} {r : End} {u' : FrameMode} {h' : H} (hv : g fuel inv l deferred u h = some (r, u', h'))
    {ι : Inj} {w : World} (hw : WR T ι h w) {args : Array Value} (hl : VRs T ι l args.toList) :
    (∃ fn, P.funcs[f]? = some fn ∧ fn.body.isSome = true ∧ fn.name ≠ "runtime.NumGoroutine") ∧
    ∀ (cs0 cs : List Frame), HeadR T ι deferred cs0 u cs →
      ∃ (w' : World) (ι' : Inj) (e : Ending) (fr' : Frame) (cs' : List Frame), Steps P (lone (Frame.enter P f args (kindOf deferred)) cs w) (lone fr' cs' w') ∧ EndR T ι' r e ∧ Leaves P fr' w' e ∧ fr'.kind = kindOf deferred ∧ fr'.fn = f ∧
        HeadR T ι' deferred cs0 u' cs' ∧ WR T ι' h' w' ∧ Keep ι h w ι' h' w' := by
  unfold enterF at hg
  obtain ⟨fn, hfn, hg⟩ := Option.bind_eq_some_iff.1 hg
  obtain ⟨body, hbody, hg⟩ := Option.bind_eq_some_iff.1 hg
  obtain ⟨res, hres, rfl⟩ := Option.map_eq_some_iff.1 hg
  have hPf := hT.fn _ _ hfn
  refine ⟨⟨fn, hPf, by rw [hbody]; rfl, hT.name _ _ hfn⟩, fun cs0 cs hh => ?_⟩
  simp only at hv
  cases hc : (cond (codeOk fn.ntmps body) (cond (Nat.ble l.length 60000) (Nat.ble fn.ntmps 60000) false) false) with
  | false => rw [hc] at hv; cases hv
  | true =>
    rw [hc, cond_true] at hv
    obtain ⟨c1, c2⟩ := cond_and hc
    obtain ⟨c2, c3⟩ := cond_and c2
    have c2 : l.length ≤ 60000 := Nat.le_of_ble_eq_true c2
    have c3 : fn.ntmps ≤ 60000 := Nat.le_of_ble_eq_true c3
    have hlen : l.length = args.size := by simpa using hl.length
    let b : Frame := { (default : Frame) with fn := f, kind := kindOf deferred }
    have henter : Frame.enter P f args (kindOf deferred) = b.atR { tmps := args ++ Array.replicate (fn.ntmps - args.size) undef, defers := [] } [.code body] := by
      simp [Frame.enter, Frame.atR, hPf, hbody, b]
      rfl
    have hb : FrameOk ⟨inv, deferred, false⟩ b := ⟨rfl, fun _ => rfl, fun h => by cases h⟩
    have hst : StR T ι ⟨inv, deferred, false⟩ cs0 (args ++ Array.replicate (fn.ntmps - args.size) undef).size ⟨argsTm l 0 .nil, [], u, h⟩ { tmps := args ++ Array.replicate (fn.ntmps - args.size) undef, defers := [] } cs w :=
      ⟨hw, args_R hl c2 _, .nil, hh, rfl, by simp; omega⟩
    have hx := execF_ok (b := b) hT hi hb (nt := fn.ntmps) (by simp; omega) fuel body c1 ι _ _ cs w [] hst
    rw [henter]
    -- what comes behind the body
    have fin : ∀ (m : FrameMode) (m' : FrameMode) (s : St) (a' : Act) (cs' : List Frame) (w1 : World) (ι1 : Inj) (todo : List Item), StR T ι1 ⟨inv, deferred, false⟩ cs0 (args ++ Array.replicate (fn.ntmps - args.size) undef).size s a' cs' w1 → Keep ι h w ι1 s.h w1 →
        ModeR T ι1 m m' → FrameMode.live m = true → (leave inv (res s.tm) s.df m s.h).map (fun (r, h') => (r, s.u, h')) = some (r, u', h') →
        Steps P (lone (b.atR { tmps := args ++ Array.replicate (fn.ntmps - args.size) undef, defers := [] } [.code body]) cs w) (lone { b.atR a' todo with mode := m' } cs' w1) →
        ∃ (w' : World) (ι' : Inj) (e : Ending) (fr' : Frame) (cs' : List Frame), Steps P (lone (b.atR { tmps := args ++ Array.replicate (fn.ntmps - args.size) undef, defers := [] } [.code body]) cs w) (lone fr' cs' w') ∧ EndR T ι' r e ∧ Leaves P fr' w' e ∧ fr'.kind = kindOf deferred ∧ fr'.fn = f ∧
          HeadR T ι' deferred cs0 u' cs' ∧ WR T ι' h' w' ∧ Keep ι h w ι' h' w' := by
      intro m m' s a' cs' w1 ι1 todo hs hk hm hlive hlv hsteps
      obtain ⟨p, hp, hpe⟩ := Option.map_eq_some_iff.1 hlv
      obtain ⟨r1, h1⟩ := p
      simp only [Prod.mk.injEq] at hpe
      obtain ⟨rfl, rfl, rfl⟩ := hpe
      obtain ⟨w', ι', e, m2, s1, s2, s3, s4, s5⟩ := leave_ok hT hi hres (F := b.atR a' todo) hPf s.df m s.h r1 h1 hp ι1 a'.defers m' w1 cs' hs.df hm hlive hs.wr hs.tm
      exact ⟨w', ι', e, _, cs', hsteps.trans s1, s2, s3, rfl, rfl, hs.head.mono s5.le, s4, hk.trans s5⟩
    cases hr : execF T f body fuel ⟨inv, deferred, false⟩ ⟨argsTm l 0 .nil, [], u, h⟩ with
    | fail => rw [hr] at hv; cases hv
    | exit id s => rw [hr] at hv; cases hv
    | normal s =>
      rw [hr] at hv
      rw [show b.fn = f from rfl, hr] at hx
      obtain ⟨a', cs', w1, ι1, g1, g2, g3⟩ := hx
      exact fin .returning .returning s a' cs' w1 ι1 [] g2 g3 .returning rfl hv (g1.trans (.one (stepR_end rfl)))
    | ret s =>
      rw [hr] at hv
      rw [show b.fn = f from rfl, hr] at hx
      obtain ⟨a', cs', w1, ι1, k2, g1, g2, g3⟩ := hx
      exact fin .returning .returning s a' cs' w1 ι1 (.code .ret :: k2) g2 g3 .returning rfl hv (g1.trans (.one (stepR_ret rfl)))
    | panic chain s =>
      rw [hr] at hv
      rw [show b.fn = f from rfl, hr] at hx
      obtain ⟨a', cs', w1, ι1, todo, chain', g1, g0, g2, g3⟩ := hx
      exact fin (.panicking chain) (.panicking chain') s a' cs' w1 ι1 todo g2 g3 (.panicking _ _ g0) rfl hv g1

/-- back to the caller -/
theorem step_back {deferred : Bool} {fr c : Frame} {cs : List Frame} {w : World} {e : Ending} (h : Leaves P fr w e) (hk : fr.kind = kindOf deferred) : step P (lone fr (c :: cs) w) = .next (lone (back deferred c c.mode e) cs w) := by
  cases e with
  | returned v =>
    obtain ⟨hm, hd, fn, hf, hr⟩ := h
    cases deferred with
    | false => exact step_lone_go (by simp [Go.stepG, unwind, doReturn, hm, hd, hk, kindOf, hf, hr, back])
    | true =>
      refine step_lone_go ?_
      have : (match c.mode with
        | .panicking ({ recovered := true, .. } :: older) =>
          match older.dropWhile (!·.goexit) with
          | [] => { c with mode := .returning }
          | rest => { c with mode := .panicking rest }
        | _ => c) = { c with mode := settle c.mode } := by
        obtain ⟨fn, tmps, todo, defers, mode, kind, ro⟩ := c
        cases mode with
        | run => rfl
        | returning => rfl
        | panicking l =>
          cases l with
          | nil => rfl
          | cons e l =>
            obtain ⟨v, r, g⟩ := e
            cases r with
            | false => rfl
            | true =>
              simp only [settle]
              cases List.dropWhile (fun x => !x.goexit) l <;> rfl
      simp only [Go.stepG, hm]
      simp [unwind, doReturn, hm, hd, hk, kindOf, hf, hr, back]
      exact this
  | panicked chain =>
    obtain ⟨hm, hd, fn, hf⟩ := h
    cases deferred with
    | false => exact step_lone_go (by simp [Go.stepG, unwind, Frame.catches, hm, hd, hf, back])
    | true => exact step_lone_go (by simp [Go.stepG, unwind, Frame.catches, hm, hd, hf, back])
  | outgrown => exact h.elim

theorem callFunc_run {f : Nat} {fn : Func} (h : P.funcs[f]? = some fn) (hb : fn.body.isSome = true) (hn : fn.name ≠ "runtime.NumGoroutine") (args : Array Value) (w : World) : (callFunc f args).run P w = .ok (.enter f args) w := by
  have hb' : ¬ fn.body = none := by intro hx; rw [hx] at hb; cases hb
  simp [callFunc, h, hb', hn]

end
end Go.Ev

/- What the evaluator answers holds of the machine. -/
namespace Go.Ev

section
variable {T : Tab} {P : Program}

/-- a function's call out of its frame -/
theorem enter_inv (hT : TabOk T P) {inv : Inv} (hi : InvOk T P inv) {f : Nat} {g : Nat → Inv → List Value → Bool → FrameMode → H → Option (End × FrameMode × H)} (hg : enterF T f = some g)
    {fuel : Nat} {l : List Value} {deferred : Bool} {u : FrameMode} {h : H} {r : End} {u' : FrameMode} {h' : H} (hv : g fuel inv l deferred u h = some (r, u', h'))
    {ι : Inj} {w : World} (hw : WR T ι h w) {args : Array Value} (hl : VRs T ι l args.toList) :
    (callFunc f args).run P w = .ok (.enter f args) w ∧ ∀ (c : Frame) (rest : List Frame), (deferred = true → ModeR T ι u c.mode ∧ FrameMode.live c.mode = true) →
      ∃ (w' : World) (ι' : Inj) (m' : FrameMode) (e : Ending), Steps P (lone (Frame.enter P f args (kindOf deferred)) (c :: rest) w) (lone (back deferred c m' e) rest w') ∧ EndR T ι' r e ∧
        (deferred = true → ModeR T ι' u' m' ∧ FrameMode.live m' = true) ∧ WR T ι' h' w' ∧ Keep ι h w ι' h' w' := by
  obtain ⟨⟨fn, h1, h2, h3⟩, h4⟩ := enterF_ok hT hi hg hv hw hl
  refine ⟨callFunc_run h1 h2 h3 _ _, fun c rest hc => ?_⟩
  cases deferred with
  | false =>
    obtain ⟨w', ι', e, fr', cs', s1, s2, s3, s4, s5, s6, s7, s8⟩ := h4 (c :: rest) (c :: rest) rfl
    have s6 : cs' = c :: rest := s6
    subst s6
    exact ⟨w', ι', c.mode, e, s1.trans (.one (step_back s3 s4)), s2, (fun h => by cases h), s7, s8⟩
  | true =>
    obtain ⟨hm, hlive⟩ := hc rfl
    obtain ⟨w', ι', e, fr', cs', s1, s2, s3, s4, s5, s6, s7, s8⟩ := h4 (c :: rest) (c :: rest) ⟨c, rest, c.mode, rfl, rfl, hm, hlive⟩
    obtain ⟨c0, rest0, m, e1, e2, e3, e4⟩ := s6
    cases e1
    subst e2
    refine ⟨w', ι', m, e, s1.trans (.one ?_), s2, fun _ => ⟨e3, e4⟩, s7, s8⟩
    have := step_back (P := P) (c := { c with mode := m }) (cs := rest) s3 s4
    rw [this]
    cases e with
    | outgrown => exact s3.elim
    | _ => rfl

theorem bindTm_R {ι : Inj} : ∀ {ps : List Nat} {vs : List Value} {tm tm' : Tm} {vs' : List Value} {a : Array Value} {nt : Nat}, bindTm ps vs tm = some tm' → VRs T ι vs vs' → TmR T ι tm a → allB (fun p => Nat.blt p nt) ps = true → nt ≤ a.size → a.size ≤ 65535 →
    TmR T ι tm' ((ps.zip vs').foldl (fun tmps (t, x) => tmps.setIfInBounds t x) a) ∧ ((ps.zip vs').foldl (fun (tmps : Array Value) (t, x) => tmps.setIfInBounds t x) a).size = a.size ∧ ps.length = vs'.length
  | [], [], tm, tm', vs', a, nt, h, hv, ht, _, _, _ => by
    cases hv
    simp only [bindTm, Option.some.injEq] at h
    subst h
    exact ⟨ht, rfl, rfl⟩
  | p :: ps, v :: vs, tm, tm', vs', a, nt, h, hv, ht, hp, hn, hs => by
    cases hv with
    | cons _ v' _ vs' h1 h2 =>
      simp only [bindTm] at h
      obtain ⟨p1, p2⟩ := cond_and (a := Nat.blt p nt) (b := allB (fun p => Nat.blt p nt) ps) hp
      have p1 : p < nt := by simpa [Nat.blt_eq] using p1
      obtain ⟨g1, g2, g3⟩ := bindTm_R (a := a.setIfInBounds p v') (nt := nt) h h2 (ht.upd (by omega) (by omega) h1) p2 (by simpa using hn) (by simpa using hs)
      exact ⟨by simpa using g1, by simpa using g2, by simp [g3]⟩
  | [], _ :: _, tm, tm', vs', a, nt, h, _, _, _, _, _ => by simp [bindTm] at h
  | _ :: _, [], tm, tm', vs', a, nt, h, _, _, _, _, _ => by simp [bindTm] at h

theorem round_ok (hT : TabOk T P) {inv : Inv} (hi : InvOk T P inv) {l : Nat} {args : List Value} {u : FrameMode} {h : H} {r : End} {u' : FrameMode} {h' : H} {fuel : Nat}
    (hv : (match h.get l with
      | some (.loop lo) => (match bindTm lo.params args lo.tm with
        | none => none
        | some tm => match execF T lo.fn lo.assign fuel ⟨inv, false, true⟩ ⟨tm, [], u, h⟩ with
          | .normal s => (match s.h.get l with
            | some (.loop l1) => (match l1.state with
              | .ready => (match execF T lo.fn lo.body fuel ⟨inv, false, true⟩ ⟨s.tm, s.df, u, s.h.put l (some (.loop { l1 with state := .busy }))⟩ with
                | .normal s => endRound s.h l u none
                | .exit id s => endRound s.h l u (some (.exit id))
                | .ret s => endRound s.h l u (some .ret)
                | .panic chain s => (match s.df, T.fn lo.fn with | [], some _ => some (.panicked chain, u, s.h) | _, _ => none)
                | .fail => none)
              | _ => none)
            | _ => none)
          | _ => none)
      | _ => none) = some (r, u', h'))
    {ι : Inj} {w : World} (hw : WR T ι h w) {m : Im} (hm : ι l = some m) {args' : Array Value} (ha : VRs T ι args args'.toList) :
    ∃ (nx : Next) (fr0 : Frame), (Instr.yield m.blk args').run P w = .ok nx w ∧ entered P .normal nx = some fr0 ∧ ∀ (c : Frame) (rest : List Frame),
      ∃ (w' : World) (ι' : Inj) (e : Ending), Steps P (lone fr0 (c :: rest) w) (lone (back false c c.mode e) rest w') ∧ EndR T ι' r e ∧ WR T ι' h' w' ∧ Keep ι h w ι' h' w' := by
  split at hv
  case h_2 => cases hv
  rename_i lo hlo
  obtain ⟨lo', b1, b2, b3, nt, b4, b5, b6, b7, b8, b9, b10, b11, b12, b13, b14, b15⟩ := loop_write hw hlo hm
  split at hv
  case h_1 => cases hv
  rename_i tm htm
  obtain ⟨t1, t2, t3⟩ := bindTm_R htm ha b8 b12 b5 b6
  have hps : args'.size = lo'.params.size := by
    have h1 : lo'.params.toList.length = args'.toList.length := by rw [b9]; exact t3
    simpa using h1.symm
  have hy := run_yield (P := P) b1 hps
  have hfold : (lo'.params.zip args').foldl (fun tmps (t, a) => tmps.setIfInBounds t a) lo'.tmps = (lo.params.zip args'.toList).foldl (fun (tmps : Array Value) (t, x) => tmps.setIfInBounds t x) lo'.tmps := by
    rw [← b9, ← Array.foldl_toList, Array.toList_zip]
  rw [hfold] at hy
  generalize hts : (lo.params.zip args'.toList).foldl (fun (tmps : Array Value) (t, x) => tmps.setIfInBounds t x) lo'.tmps = ts at hy t1 t2
  refine ⟨_, Frame.round m.blk lo'.fn ts lo'.assign lo'.body .normal, hy, rfl, fun c rest => ?_⟩
  let b : Frame := { (default : Frame) with fn := lo.fn, kind := .normal, roundOf := some m.blk }
  have hfr : Frame.round m.blk lo'.fn ts lo'.assign lo'.body .normal = b.atR { tmps := ts, defers := [] } [.code lo.assign, .beginRound, .code lo.body] := by
    simp only [Frame.round, Frame.atR, b, b7, b10, b11]
  rw [hfr]
  have hb : FrameOk ⟨inv, false, true⟩ b := ⟨rfl, (fun h => by cases h), fun _ => ⟨by simp [b], rfl⟩⟩
  have hst : StR T ι ⟨inv, false, true⟩ (c :: rest) lo'.tmps.size ⟨tm, [], u, h⟩ { tmps := ts, defers := [] } (c :: rest) w := ⟨hw, t1, .nil, rfl, t2, b6⟩
  have hx := execF_ok (b := b) hT hi hb (nt := nt) b5 fuel lo.assign b13 ι _ _ (c :: rest) w [.beginRound, .code lo.body] hst
  rw [show b.fn = lo.fn from rfl] at hx
  split at hv
  case h_2 => cases hv
  rename_i s1 hr1
  rw [hr1] at hx
  obtain ⟨a1, cs1, w1, ι1, g1, g2, g3⟩ := hx
  have hcs1 : cs1 = c :: rest := g2.head
  subst hcs1
  split at hv
  case h_2 => cases hv
  rename_i l1 hl1
  split at hv
  case h_2 => cases hv
  rename_i hready
  have hm1 := g3.le _ _ hm
  obtain ⟨l1', d1, d2, d3, nt1, d4, d5, d6, d7, d8, d9, d10, d11, d12, d13, d14, d15⟩ := loop_write g2.wr hl1 hm1
  have hbr := run_beginRound (P := P) d1 (d2.trans hready)
  obtain ⟨d16, d17⟩ := d15 .busy l1.pending
  have hl1e : { l1' with state := .busy } = { l1' with state := .busy, pending := l1.pending } := by rw [← d3]
  rw [hl1e] at hbr
  have st1 : Steps P (lone (b.atR { tmps := ts, defers := [] } [.code lo.assign, .beginRound, .code lo.body]) (c :: rest) w) (lone (b.atR a1 [.code lo.body]) (c :: rest) (w1.putObj m.blk (.loop { l1' with state := .busy, pending := l1.pending }))) :=
    g1.trans (.one (stepR_beginRound rfl hbr))
  have hst2 : StR T ι1 ⟨inv, false, true⟩ (c :: rest) lo'.tmps.size ⟨s1.tm, s1.df, u, s1.h.put l (some (.loop { l1 with state := .busy }))⟩ a1 (c :: rest) (w1.putObj m.blk (.loop { l1' with state := .busy, pending := l1.pending })) :=
    ⟨d16, g2.tm, g2.df, rfl, g2.size, g2.small⟩
  have hx2 := execF_ok (b := b) hT hi hb (nt := nt) b5 fuel lo.body b14 ι1 _ _ (c :: rest) _ [] hst2
  rw [show b.fn = lo.fn from rfl] at hx2
  have k2 : Keep ι h w ι1 (s1.h.put l (some (.loop { l1 with state := .busy }))) (w1.putObj m.blk (.loop { l1' with state := .busy, pending := l1.pending })) := g3.trans d17
  -- a round's end
  have fin : ∀ (j : Option Code) (s2 : St) (a2 : Act) (w2 : World) (ι2 : Inj) (todo : List Item), StR T ι2 ⟨inv, false, true⟩ (c :: rest) lo'.tmps.size s2 a2 (c :: rest) w2 → Keep ι h w ι2 s2.h w2 → endRound s2.h l u j = some (r, u', h') →
      Steps P (lone (b.atR { tmps := ts, defers := [] } [.code lo.assign, .beginRound, .code lo.body]) (c :: rest) w) (lone (b.atR a2 todo) (c :: rest) w2) →
      (∀ (v : Value) (w' : World), (Instr.endRound m.blk j).run P w2 = .ok v w' → step P (lone (b.atR a2 todo) (c :: rest) w2) = .next (lone (c.finish v) rest w')) →
      ∃ (w' : World) (ι' : Inj) (e : Ending), Steps P (lone (b.atR { tmps := ts, defers := [] } [.code lo.assign, .beginRound, .code lo.body]) (c :: rest) w) (lone (back false c c.mode e) rest w') ∧ EndR T ι' r e ∧ WR T ι' h' w' ∧ Keep ι h w ι' h' w' := by
    intro j s2 a2 w2 ι2 todo hs hk he hsteps hlast
    unfold endRound at he
    split at he
    case h_2 => cases he
    rename_i l2 hl2
    simp only [Option.some.injEq, Prod.mk.injEq] at he
    obtain ⟨rfl, rfl, rfl⟩ := he
    obtain ⟨l2', f1, f2, f3, nt2, f4, f5, f6, f7, f8, f9, f10, f11, f12, f13, f14, f15⟩ := loop_write hs.wr hl2 (hk.le _ _ hm)
    have her := run_endRound (P := P) j f1
    obtain ⟨f16, f17⟩ := f15 (if j.isNone then .ready else .done) j
    refine ⟨_, ι2, .returned (.bool j.isNone), hsteps.trans (.one (hlast _ _ her)), .returned _ _ (.bool _), ?_, ?_⟩
    · cases j <;> exact f16
    · cases j <;> exact hk.trans f17
  split at hv
  · rename_i s2 hr2
    rw [hr2] at hx2
    obtain ⟨a2, cs2, w2, ι2, e1, e2, e3⟩ := hx2
    have hcs2 : cs2 = c :: rest := e2.head
    subst hcs2
    exact fin none s2 a2 w2 ι2 [] e2 (k2.trans e3) hv (st1.trans e1) fun v w' hr => stepR_round_end rfl rfl hr
  · rename_i id s2 hr2
    rw [hr2] at hx2
    obtain ⟨a2, cs2, w2, ι2, k3, e1, e0, e2, e3⟩ := hx2
    have hcs2 : cs2 = c :: rest := e2.head
    subst hcs2
    exact fin (some (.exit id)) s2 a2 w2 ι2 _ e2 (k2.trans e3) hv (st1.trans e1) fun v w' hr => stepR_round_exit rfl rfl e0 hr
  · rename_i s2 hr2
    rw [hr2] at hx2
    obtain ⟨a2, cs2, w2, ι2, k3, e1, e2, e3⟩ := hx2
    have hcs2 : cs2 = c :: rest := e2.head
    subst hcs2
    exact fin (some .ret) s2 a2 w2 ι2 _ e2 (k2.trans e3) hv (st1.trans e1) fun v w' hr => stepR_round_ret rfl rfl hr
  · rename_i chain s2 hr2
    rw [hr2] at hx2
    obtain ⟨a2, cs2, w2, ι2, todo, chain', e1, e0, e2, e3⟩ := hx2
    have hcs2 : cs2 = c :: rest := e2.head
    subst hcs2
    split at hv
    case h_2 => cases hv
    rename_i fn hdf hfn
    have hPf := hT.fn _ _ hfn
    simp only [Option.some.injEq, Prod.mk.injEq] at hv
    obtain ⟨rfl, rfl, rfl⟩ := hv
    have hdf2 := e2.df
    rw [hdf] at hdf2
    have hnil : a2.defers = [] := by generalize a2.defers = y at hdf2; cases hdf2; rfl
    refine ⟨w2, ι2, .panicked chain', (st1.trans e1).trans (.one ?_), .panicked _ _ e0, e2.wr, k2.trans e3⟩
    exact step_lone_go (by simp [Go.stepG, unwind, Frame.catches, Frame.atR, b, hnil, hPf, back])
  · cases hv

theorem call_ok (hT : TabOk T P) (fuel : Nat) : ∀ n, InvOk T P (call T fuel n)
  | 0 => fun t args deferred u h r u' h' hv => by simp [call] at hv
  | n + 1 => by
    have ih := call_ok hT fuel n
    intro t args deferred u h r u' h' hv ι w t' args' hw ht ha
    cases ht with
    | collected r m h => simp [call] at hv
    | fn fn fn' cap cap' hf hc =>
      cases hf with
      | func f =>
        obtain ⟨cap⟩ := cap
        simp only [call] at hv
        cases hg : enterF T f with
        | none => rw [hg] at hv; cases hv
        | some g =>
          rw [hg] at hv
          have hl : VRs T ι (args ++ cap) (args' ++ cap').toList := by rw [Array.toList_append]; exact ha.append hc
          obtain ⟨h1, h2⟩ := enter_inv hT ih hg hv hw hl
          exact ⟨.enter f (args' ++ cap'), w, _, by simpa [invoke] using h1, rfl, h2⟩
      | via ty path f ptr =>
        obtain ⟨cap⟩ := cap
        obtain ⟨path⟩ := path
        simp only [call] at hv
        split at hv
        case h_2 => cases hv
        rename_i x xs
        obtain ⟨args'⟩ := args'
        cases ha with
        | cons _ x' _ xs' hx hxs =>
          have key : ∀ g, enterF T f = some g → g fuel (call T fuel n) (x :: xs) deferred u h = some (r, u', h') → (receiverVia ty x' #[] ptr).run P w = .ok x' w →
              ∃ (nx : Next) (w1 : World) (fr0 : Frame), (invoke (.fn (.via ty ⟨[]⟩ f ptr) cap') ⟨x' :: xs'⟩).run P w = .ok nx w1 ∧ entered P (kindOf deferred) nx = some fr0 ∧
                ∀ (c : Frame) (rest : List Frame), (deferred = true → ModeR T ι u c.mode ∧ FrameMode.live c.mode = true) →
                  ∃ (w' : World) (ι' : Inj) (m' : FrameMode) (e : Ending), Steps P (lone fr0 (c :: rest) w1) (lone (back deferred c m' e) rest w') ∧ EndR T ι' r e ∧
                    (deferred = true → ModeR T ι' u' m' ∧ FrameMode.live m' = true) ∧ WR T ι' h' w' ∧ Keep ι h w ι' h' w' := by
            intro g hg hgv hr
            obtain ⟨h1, h2⟩ := enter_inv hT ih hg hgv hw (args := ⟨x' :: xs'⟩) (.cons _ _ _ _ hx hxs)
            refine ⟨.enter f ⟨x' :: xs'⟩, w, _, ?_, rfl, h2⟩
            have hex : (#[x'] ++ (⟨x' :: xs'⟩ : Array Value).extract 1 (⟨x' :: xs'⟩ : Array Value).size) = (⟨x' :: xs'⟩ : Array Value) := by
              apply Array.toList_inj.1
              simp
            have h0 : (⟨x' :: xs'⟩ : Array Value)[0]? = some x' := rfl
            have hi : invoke (.fn (.via ty ⟨[]⟩ f ptr) cap') ⟨x' :: xs'⟩ = (do callFunc f (#[← receiverVia ty x' #[] ptr] ++ (⟨x' :: xs'⟩ : Array Value).extract 1 (⟨x' :: xs'⟩ : Array Value).size)) := by
              simp only [invoke, h0]
            rw [hi]
            simp only [Sem.run_bind, hr, Result.andThen]
            rw [hex]
            exact h1
          split at hv
          · rename_i e hd
            cases hg : enterF T f with
            | none => rw [hg] at hv; cases hv
            | some g =>
              rw [hg] at hv
              refine key g hg hv ?_
              have := hT.desc _ _ hd
              simp [receiverVia, follow, receiverAt, Place.get, underlying, this]
          · rename_i fs hd
            cases hg : enterF T f with
            | none => rw [hg] at hv; cases hv
            | some g =>
              rw [hg] at hv
              refine key g hg hv ?_
              have := hT.desc _ _ hd
              simp [receiverVia, follow, receiverAt, Place.get, underlying, this]
          · cases hv
      | yield l m hm =>
        obtain ⟨cap⟩ := cap
        simp only [call] at hv
        cases deferred with
        | true => cases hv
        | false =>
          simp only [cond_false] at hv
          obtain ⟨nx, fr0, h1, h2, h3⟩ := round_ok hT ih hv hw hm ha
          refine ⟨nx, w, fr0, by simpa [invoke] using h1, h2, fun c rest _ => ?_⟩
          obtain ⟨w', ι', e, s1, s2, s3, s4⟩ := h3 c rest
          exact ⟨w', ι', c.mode, e, s1, s2, (fun h => by cases h), s3, s4⟩

/-- a run that the evaluator makes, as a contract -/
theorem closed_ok (hT : TabOk T P) {fuel n f : Nat} {args : List Value} {u u' : FrameMode} {h h' : H} {v : Value} (hv : call T fuel (n + 1) (.fn (.func f) #[]) args false u h = some (.returned v, u', h'))
    {ι : Inj} {w : World} (hw : WR T ι h w) {args' : Array Value} (ha : VRs T ι args args'.toList) :
    Calls P f args' w fun e w' => ∃ (v' : Value) (ι' : Inj), e = .returned v' ∧ VR T ι' v v' ∧ WR T ι' h' w' ∧ Keep ι h w ι' h' w' := by
  intro cs
  simp only [call] at hv
  cases hg : enterF T f with
  | none => rw [hg] at hv; cases hv
  | some g =>
    rw [hg] at hv
    simp only [List.append_nil] at hv
    obtain ⟨_, h4⟩ := enterF_ok hT (call_ok hT fuel n) hg hv hw ha
    obtain ⟨w', ι', e, fr', cs', s1, s2, s3, s4, s5, s6, s7, s8⟩ := h4 cs cs rfl
    have s6 : cs' = cs := s6
    subst s6
    cases s2 with
    | returned _ v' hv' =>
      obtain ⟨g1, g2, g3⟩ := s3
      exact ⟨.returned v', w', fr', ⟨v', ι', rfl, hv', s7, s8⟩, s1, s5, g1, g2, s4, g3⟩

end
end Go.Ev

/- The program's tables, as trees; what must be shown of them. -/
namespace Go.Ev
noncomputable section

def descOf (t : TT TypeInfo) (k : Nat) : Option TypeDesc := match t.get k with
  | some i => (match i.desc with
    | .named _ u => (match t.get u with | some j => some j.desc | none => none)
    | d => some d)
  | none => none

def findEq (k : Nat) : List (Nat × List (Nat × FK)) → Option (List (Nat × FK))
  | [] => none
  | (t, l) :: rest => cond (Nat.beq t k) (some l) (findEq k rest)

def mkTab (f : TT Func) (t : TT TypeInfo) (es : List (Nat × List (Nat × FK))) : Tab where
  fn := f.get
  desc := descOf t
  size k := match t.get k with | some i => i.size | none => 0
  zero k := match t.get k with | some i => i.zero | none => none
  eqs k := findEq k es

/-- a tree whose entries, by their numbers 'a * k + s', are as they should be -/
inductive TT.Ok {α : Type} (Q : Nat → α → Prop) : TT α → Nat → Nat → Prop
  | nil (a s : Nat) : TT.Ok Q .nil a s
  | none (l r : TT α) (a s : Nat) (hl : TT.Ok Q l (2 * a) (a + s)) (hr : TT.Ok Q r (2 * a) (2 * a + s)) : TT.Ok Q (.node l none r) a s
  | node (l r : TT α) (x : α) (a s : Nat) (h : Q s x) (hl : TT.Ok Q l (2 * a) (a + s)) (hr : TT.Ok Q r (2 * a) (2 * a + s)) : TT.Ok Q (.node l (some x) r) a s

theorem TT.Ok.get {α : Type} {Q : Nat → α → Prop} {t : TT α} {a s : Nat} (h : TT.Ok Q t a s) : ∀ k x, t.get k = some x → Q (a * k + s) x := by
  have arith1 : ∀ a j s : Nat, 2 * a * j + (a + s) = a * (2 * j + 1) + s := by
    intro a j s
    rw [Nat.mul_add, Nat.mul_one, Nat.mul_comm 2 a, Nat.mul_assoc]; omega
  have arith2 : ∀ a j s : Nat, 2 * a * j + (2 * a + s) = a * (2 * j + 2) + s := by
    intro a j s
    rw [Nat.mul_add, Nat.mul_comm 2 a, Nat.mul_assoc]; omega
  have key : ∀ (l r : TT α) (v : Option α) (a s : Nat), (∀ x, v = some x → Q s x) → (∀ k x, l.get k = some x → Q (2 * a * k + (a + s)) x) → (∀ k x, r.get k = some x → Q (2 * a * k + (2 * a + s)) x) →
      ∀ k x, (TT.node l v r).get k = some x → Q (a * k + s) x := by
    intro l r v a s hv hl hr k x hx
    cases k with
    | zero =>
      rw [TT.get_zero] at hx
      simpa using hv x hx
    | succ k =>
      rw [TT.get_succ] at hx
      split at hx
      · rename_i hk
        have := hl (k / 2) x hx
        rw [arith1, show 2 * (k / 2) + 1 = k + 1 by omega] at this
        exact this
      · rename_i hk
        have := hr (k / 2) x hx
        rw [arith2, show 2 * (k / 2) + 2 = k + 1 by omega] at this
        exact this
  induction h with
  | nil a s => intro k x hx; rw [TT.get_nil] at hx; cases hx
  | none l r a s _ _ ihl ihr => exact key l r Option.none a s (fun x h => by cases h) ihl ihr
  | node l r x a s h _ _ ihl ihr => exact key l r (some x) a s (by rintro y ⟨⟩; exact h) ihl ihr

/-- a check of each entry -/
def onO {α : Type} (p : α → Bool) (o : Option α) : Bool := match o with | some x => p x | none => true
def TT.all {α : Type} (p : α → Bool) (t : TT α) : Bool :=
  TT.rec (motive := fun _ => Bool) true (fun _ v _ gl gr => cond (onO p v) (cond gl gr false) false) t

theorem TT.all_get {α : Type} {p : α → Bool} : ∀ {t : TT α}, t.all p = true → ∀ k x, t.get k = some x → p x = true
  | .nil, _, k, x, hx => by rw [TT.get_nil] at hx; cases hx
  | .node l v r, h, k, x, hx => by
    obtain ⟨h1, h2⟩ := cond_and (a := onO p v) (b := cond (l.all p) (r.all p) false) h
    obtain ⟨h2, h3⟩ := cond_and h2
    cases k with
    | zero => rw [TT.get_zero] at hx; subst hx; exact h1
    | succ k =>
      rw [TT.get_succ] at hx
      split at hx
      · exact TT.all_get h2 _ _ hx
      · exact TT.all_get h3 _ _ hx

def isS {α : Type} (o : Option α) : Bool := match o with | some _ => true | none => false

/-- what a type is made of is in the tree -/
def typeOk (t : TT TypeInfo) (i : TypeInfo) : Bool := match i.desc with
  | .slice e => isS (t.get e)
  | .array _ e => isS (t.get e)
  | .struct fs => allB (fun (f : Field) => isS (t.get f.type)) fs.toList
  | _ => true

theorem isS_some {α : Type} {o : Option α} (h : isS o = true) : ∃ x, o = some x := by cases o with | none => cases h | some x => exact ⟨x, rfl⟩

theorem tabOk_of {P : Program} {f : TT Func} {t : TT TypeInfo} {es : List (Nat × List (Nat × FK))} (hf : ∀ k x, f.get k = some x → P.funcs[k]? = some x) (ht0 : ∀ k i, t.get k = some i → P.types[k]? = some i)
    (hn : f.all (fun x => !(x.name == "runtime.NumGoroutine")) = true) (hty : t.all (typeOk t) = true) (hb : t.all (fun i => Nat.ble i.bytes 16777216) = true)
    (he : ∀ k l, findEq k es = some l → ∃ fs : Array Field, P.underlying k = some (.struct fs) ∧ P.stoodInHeld k = false ∧ P.eqGuardType P.depth k = false ∧
      l.map (·.1) = fs.toList.map (·.offset) ∧ ∀ (i : Nat) f k, fs.toList[i]? = some f → (l[i]?).map (·.2) = some k → f.name ≠ "_" ∧ P.underlying f.type = some (descK k)) : TabOk (mkTab f t es) P := by
  have ht : ∀ k i, t.get k = some i → P.info? k = some i := by
    intro k i hk
    have h1 := ht0 k i hk
    have h2 : k < P.types.size := (Array.getElem?_eq_some_iff.1 h1).1
    show (if k < P.types.size then P.types[k]? else _) = _
    rw [if_pos h2, h1]
  have hdesc : ∀ k d, descOf t k = some d → (∃ i, t.get k = some i) ∧ P.underlying k = some d ∧ ∃ j u, t.get u = some j ∧ j.desc = d ∨ ∃ i, t.get k = some i ∧ i.desc = d := by
    intro k d hd
    unfold descOf at hd
    cases hk : t.get k with
    | none => rw [hk] at hd; cases hd
    | some i =>
      rw [hk] at hd
      have hi := ht k i hk
      refine ⟨⟨i, rfl⟩, ?_⟩
      obtain ⟨desc, str, size, bytes, hp, al, fa, zero, cmp, ms⟩ := i
      simp only at hd
      unfold Program.underlying
      rw [hi]
      cases desc with
      | named n u =>
        simp only at hd
        cases hu : t.get u with
        | none => rw [hu] at hd; cases hd
        | some j =>
          rw [hu] at hd
          cases hd
          refine ⟨?_, j, u, .inl ⟨hu, rfl⟩⟩
          simp [ht u j hu]
      | _ => cases hd; exact ⟨rfl, default, 0, .inr ⟨_, rfl, rfl⟩⟩
  have hent : ∀ k d, descOf t k = some d → ∃ i k', t.get k' = some i ∧ i.desc = d := by
    intro k d hd
    obtain ⟨_, _, j, u, h | ⟨i, h1, h2⟩⟩ := hdesc k d hd
    · exact ⟨j, u, h.1, h.2⟩
    · exact ⟨i, k, h1, h2⟩
  have hsz : ∀ k i, t.get k = some i → ∃ j, P.info? k = some j ∧ j.size = (mkTab f t es).size k := by
    intro k i hk
    refine ⟨i, ht k i hk, ?_⟩
    show i.size = match t.get k with | some i => i.size | none => 0
    rw [hk]
  refine ⟨hf, fun k x hx hnm => ?_, fun k d hd => (hdesc k d hd).2.1, fun k d hd => ?_, fun k e hd => ?_, fun k n e hd => ?_, fun k fs j fl hd hj => ?_, fun k z hz => ?_, fun k e i hd hi => ?_, he⟩
  · have := TT.all_get hn k x hx
    simp [hnm] at this
  · obtain ⟨i, hi⟩ := (hdesc k d hd).1
    exact hsz k i hi
  · obtain ⟨i, k', h1, h2⟩ := hent k _ hd
    have h3 := TT.all_get hty k' i h1
    unfold typeOk at h3
    rw [h2] at h3
    obtain ⟨x, hx⟩ := isS_some h3
    exact hsz e x hx
  · obtain ⟨i, k', h1, h2⟩ := hent k _ hd
    have h3 := TT.all_get hty k' i h1
    unfold typeOk at h3
    rw [h2] at h3
    obtain ⟨x, hx⟩ := isS_some h3
    exact hsz e x hx
  · obtain ⟨i, k', h1, h2⟩ := hent k _ hd
    have h3 := TT.all_get hty k' i h1
    unfold typeOk at h3
    rw [h2] at h3
    obtain ⟨x, hx⟩ := isS_some (allB_mem h3 fl (by simpa using Array.mem_of_getElem? hj))
    exact hsz fl.type x hx
  · show ∃ i, P.info? k = some i ∧ i.zero = some z
    have hz' : (match t.get k with | some i => i.zero | none => none) = some z := hz
    cases hk : t.get k with
    | none => rw [hk] at hz'; cases hz'
    | some i => rw [hk] at hz'; exact ⟨i, ht k i hk, hz'⟩
  · obtain ⟨i', k', h1, h2⟩ := hent k _ hd
    have h3 := TT.all_get hty k' i' h1
    unfold typeOk at h3
    rw [h2] at h3
    obtain ⟨x, hx⟩ := isS_some h3
    have h4 := ht e x hx
    rw [hi] at h4
    cases h4
    exact Nat.le_of_ble_eq_true (TT.all_get hb e i hx)

end
end Go.Ev

/- A call that has been run before: its answer is laid down, of its heap only what is still wanted. -/
namespace Go.Ev
noncomputable section

def isNone' {α : Type} (o : Option α) : Bool := match o with | none => true | some _ => false

mutual
/-- two values are the same -/
def same : Value → Value → Bool
  | .bool a, .bool b => beqB a b
  | .int k a, .int k' b => cond (beqK k k') (beqI a b) false
  | .string a, .string b => beqS a.data.toList b.data.toList
  | .pointer a, .pointer b => beqA a b
  | .slice a n c, .slice b m d => cond (beqA a b) (cond (Nat.beq n m) (Nat.beq c d) false) false
  | .map (some a), .map (some b) => Nat.beq a b
  | .map none, .map none => true
  | .nilFunc, .nilFunc => true
  | .nilIface, .nilIface => true
  | .chan none, .chan none => true
  | .agg ⟨a⟩, .agg ⟨b⟩ => sameL a b
  | .tuple ⟨a⟩, .tuple ⟨b⟩ => sameL a b
  | .iface t a, .iface u b => cond (Nat.beq t u) (same a b) false
  | _, _ => false
termination_by structural v => v
def sameL : List Value → List Value → Bool
  | [], [] => true
  | x :: xs, y :: ys => cond (same x y) (sameL xs ys) false
  | _, _ => false
termination_by structural l => l
end

mutual
theorem same_eq : ∀ (a b : Value), same a b = true → a = b
  | .bool a, b, h => by
    cases b <;> simp only [same, Bool.false_eq_true] at h
    rw [beqB_eq, beq_iff_eq] at h; rw [h]
  | .int k a, b, h => by
    cases b <;> simp only [same, Bool.false_eq_true] at h
    obtain ⟨h1, h2⟩ := cond_and h
    rw [beqI_eq, beq_iff_eq] at h2
    rw [(beqK_iff _ _).1 h1, h2]
  | .string s, b, h => by
    cases b <;> simp only [same, Bool.false_eq_true] at h
    rename_i s'
    obtain ⟨⟨s⟩⟩ := s
    obtain ⟨⟨s'⟩⟩ := s'
    rw [beqS_eq, beq_iff_eq] at h
    simp only at h
    rw [h]
  | .pointer a, b, h => by
    cases b <;> simp only [same, Bool.false_eq_true] at h
    rw [beqA_eq h]
  | .slice a n c, b, h => by
    cases b <;> simp only [same, Bool.false_eq_true] at h
    obtain ⟨h1, h2⟩ := cond_and h
    obtain ⟨h2, h3⟩ := cond_and h2
    rw [beqA_eq h1, Nat.eq_of_beq_eq_true h2, Nat.eq_of_beq_eq_true h3]
  | .map none, b, h => by
    cases b <;> try (simp [same] at h; done)
    rename_i m
    cases m with
    | none => rfl
    | some m => simp [same] at h
  | .map (some r), b, h => by
    cases b <;> try (simp [same] at h; done)
    rename_i m
    cases m with
    | none => simp [same] at h
    | some m =>
      simp only [same] at h
      rw [Nat.eq_of_beq_eq_true h]
  | .nilFunc, b, h => by cases b <;> first | rfl | (simp [same] at h; done)
  | .nilIface, b, h => by cases b <;> first | rfl | (simp [same] at h; done)
  | .chan none, b, h => by
    cases b <;> try (simp [same] at h; done)
    rename_i m
    cases m with
    | none => rfl
    | some m => simp [same] at h
  | .chan (some _), b, h => by cases b <;> simp [same] at h
  | .agg ⟨a⟩, b, h => by
    cases b <;> try (simp [same] at h; done)
    rename_i l
    obtain ⟨l⟩ := l
    rw [sameL_eq a l h]
  | .tuple ⟨a⟩, b, h => by
    cases b <;> try (simp [same] at h; done)
    rename_i l
    obtain ⟨l⟩ := l
    rw [sameL_eq a l h]
  | .iface t a, b, h => by
    cases b <;> try (simp [same] at h; done)
    rename_i u c
    obtain ⟨h1, h2⟩ := cond_and (a := Nat.beq t u) (b := same a c) h
    rw [Nat.eq_of_beq_eq_true h1, same_eq a c h2]
  | .func _ _ _, b, h => by cases b <;> simp [same] at h
  | .float .., b, h => by cases b <;> simp [same] at h
  | .complex .., b, h => by cases b <;> simp [same] at h
theorem sameL_eq : ∀ (a b : List Value), sameL a b = true → a = b
  | [], b, h => by cases b with | nil => rfl | cons _ _ => simp [sameL] at h
  | x :: xs, b, h => by
    cases b with
    | nil => simp [sameL] at h
    | cons y ys =>
      obtain ⟨h1, h2⟩ := cond_and (a := same x y) (b := sameL xs ys) h
      rw [same_eq x y h1, sameL_eq xs ys h2]
end

/-- two objects are the same (rows of cells alone) -/
def sameO : AObj → AObj → Bool
  | .cells a t o, .cells b u p => cond (sameL a b) (cond (Nat.beq t u) (beqB o p) false) false
  | _, _ => false

theorem sameO_eq {a b : AObj} (h : sameO a b = true) : a = b := by
  cases a <;> cases b <;> simp only [sameO, Bool.false_eq_true] at h
  obtain ⟨h1, h2⟩ := cond_and h
  obtain ⟨h2, h3⟩ := cond_and h2
  rw [beqB_eq, beq_iff_eq] at h3
  rw [sameL_eq _ _ h1, Nat.eq_of_beq_eq_true h2, h3]

def subV (a b : Option AObj) : Bool := match a with
  | none => true
  | some a => (match b with | some b => sameO a b | none => false)

/-- all that the first tree holds the second one holds -/
def subT (a : TT AObj) : TT AObj → Bool :=
  TT.rec (motive := fun _ => TT AObj → Bool) (fun _ => true)
    (fun l v r gl gr b => match b with
      | .nil => false
      | .node l' v' r' => cond (subV v v') (cond (gl l') (gr r') false) false) a

theorem subT_get : ∀ {a b : TT AObj}, subT a b = true → ∀ k o, a.get k = some o → b.get k = some o
  | .nil, b, _, k, o, h => by rw [TT.get_nil] at h; cases h
  | .node l v r, .nil, h, k, o, _ => by cases h
  | .node l v r, .node l' v' r', h, k, o, hk => by
    obtain ⟨h1, h2⟩ := cond_and (a := subV v v') (b := cond (subT l l') (subT r r') false) h
    obtain ⟨h2, h3⟩ := cond_and h2
    cases k with
    | zero =>
      rw [TT.get_zero] at hk ⊢
      subst hk
      unfold subV at h1
      cases v' with
      | none => cases h1
      | some x => rw [sameO_eq h1]
    | succ k =>
      rw [TT.get_succ] at hk ⊢
      split at hk
      · rename_i hc; rw [if_pos hc]; exact subT_get h2 _ _ hk
      · rename_i hc; rw [if_neg hc]; exact subT_get h3 _ _ hk

/-- .. and the other way below a bound -/
def backB (a b : TT AObj) : Nat → Bool
  | 0 => true
  | n + 1 => cond (subV (b.get n) (a.get n)) (backB a b n) false

theorem backB_get {a b : TT AObj} : ∀ {n : Nat}, backB a b n = true → ∀ k o, k < n → b.get k = some o → a.get k = some o
  | 0, _, k, o, hk, _ => by omega
  | n + 1, h, k, o, hk, hb => by
    obtain ⟨h1, h2⟩ := cond_and (a := subV (b.get n) (a.get n)) (b := backB a b n) h
    by_cases he : k = n
    · subst he
      rw [hb] at h1
      unfold subV at h1
      cases ha : a.get k with
      | none => rw [ha] at h1; cases h1
      | some x => rw [ha] at h1; rw [sameO_eq h1]
    · exact backB_get h2 k o (by omega) hb

/-- the first heap holds part of what the second holds, and all of it below a bound -/
def subH (n : Nat) (a b : H) : Bool := cond (Nat.beq a.next b.next) (cond (subT a.tr b.tr) (backB a.tr b.tr n) false) false

theorem subH_get {n : Nat} {a b : H} (h : subH n a b = true) : a.next = b.next ∧ (∀ k o, a.get k = some o → b.get k = some o) ∧ ∀ k, k < n → a.get k = b.get k := by
  obtain ⟨h1, h2⟩ := cond_and h
  obtain ⟨h2, h3⟩ := cond_and h2
  refine ⟨Nat.eq_of_beq_eq_true h1, subT_get h2, fun k hk => ?_⟩
  cases hb : b.get k with
  | some o => exact backB_get h3 k o hk hb
  | none =>
    cases ha : a.get k with
    | none => rfl
    | some o =>
      have := subT_get h2 k o ha
      exact absurd (hb.symm.trans this) (by simp)

theorem Keep.less {ι : Inj} {h : H} {w : World} {ι' : Inj} {h' : H} {w' : World} (hk : Keep ι h w ι' h' w') {h2 : H} (hn : h2.next = h'.next) (hs : ∀ k o, h2.get k = some o → h'.get k = some o) (hb : ∀ k, k < h.next → h2.get k = h'.get k) : Keep ι h w ι' h2 w' where
  le := hk.le
  new := hk.new
  next := by rw [hn]; exact hk.next
  size := hk.size
  os := hk.os
  output := hk.output
  kept k h1 h3 := by
    obtain ⟨h4, h5⟩ := hk.kept k h1 h3
    exact ⟨h4, fun ⟨b, o, m, g1, g2, g3, g4⟩ => h5 ⟨b, o, m, hs _ _ g1, g2, g3, g4⟩⟩
  same b h1 h3 := (hb b h1).trans (hk.same b h1 h3)
  void b h1 h3 := (hb b h1).trans (hk.void b h1 h3)
  free k h1 h3 b o m g1 g3 := hk.free k h1 h3 b o m (hs _ _ g1) g3
  thaw := hk.thaw

structure Memo where
  f : Nat
  args : List Value
  pre : H
  v : Value
  post : H

/-- is it the call that has been run? -/
def Memo.hit (m : Memo) (t : Target) (args : List Value) (d : Bool) (u : FrameMode) (h : H) : Bool :=
  match t with
  | .fn (.func f) ⟨cap⟩ => cond (Nat.beq f m.f) (match cap with
    | [] => cond d false (match u with
      | .run => cond (sameL m.args args) (cond (Nat.beq m.pre.next h.next) (cond (subT m.pre.tr h.tr) (subT h.tr m.pre.tr) false) false) false
      | _ => false)
    | _ => false) false
  | _ => false

def memo (m : Memo) (inv : Inv) : Inv := fun t args d u h => cond (m.hit t args d u h) (some (.returned m.v, .run, m.post)) (inv t args d u h)

/-- what the run must have shown -/
def Memo.ran (m : Memo) (r : Option (Ev.End × FrameMode × H)) : Bool := match r with
  | some (.returned v, .run, h) => cond (same m.v v) (subH m.pre.next m.post h) false
  | _ => false

theorem subT_both : ∀ {a b : TT AObj}, subT a b = true → subT b a = true → a = b
  | .nil, .nil, _, _ => rfl
  | .nil, .node _ _ _, _, h => by cases h
  | .node _ _ _, .nil, h, _ => by cases h
  | .node l v r, .node l' v' r', h, h' => by
    obtain ⟨h1, h2⟩ := cond_and (a := subV v v') (b := cond (subT l l') (subT r r') false) h
    obtain ⟨h2, h3⟩ := cond_and h2
    obtain ⟨g1, g2⟩ := cond_and (a := subV v' v) (b := cond (subT l' l) (subT r' r) false) h'
    obtain ⟨g2, g3⟩ := cond_and g2
    rw [subT_both h2 g2, subT_both h3 g3]
    cases v with
    | none => cases v' with
      | none => rfl
      | some y => cases g1
    | some x => cases v' with
      | none => cases h1
      | some y => rw [sameO_eq h1]

theorem memo_ok {T : Tab} {P : Program} {inv : Inv} (hi : InvOk T P inv) {m : Memo} (hr : m.ran (inv (.fn (.func m.f) #[]) m.args false .run m.pre) = true) : InvOk T P (memo m inv) := by
  intro t args d u h r u' h' hv ι w t' args' hw ht ha
  unfold memo at hv
  cases hh : m.hit t args d u h with
  | false => rw [hh, cond_false] at hv; exact hi t args d u h r u' h' hv ι w t' args' hw ht ha
  | true =>
    rw [hh, cond_true] at hv
    simp only [Option.some.injEq, Prod.mk.injEq] at hv
    obtain ⟨rfl, rfl, rfl⟩ := hv
    unfold Memo.hit at hh
    split at hh
    case h_2 => cases hh
    rename_i f cap
    obtain ⟨e1, e2⟩ := cond_and hh
    have e1 := Nat.eq_of_beq_eq_true e1
    subst e1
    split at e2
    case h_2 => cases e2
    cases d with
    | true => cases e2
    | false =>
      simp only [cond_false] at e2
      split at e2
      case h_2 => cases e2
      obtain ⟨e3, e4⟩ := cond_and e2
      obtain ⟨e4, e5⟩ := cond_and e4
      obtain ⟨e5, e6⟩ := cond_and e5
      have e3 := sameL_eq _ _ e3
      subst e3
      have e4 := Nat.eq_of_beq_eq_true e4
      have e5 := subT_both e5 e6
      have hpre : m.pre = h := by
        cases hm : m.pre with
        | mk tr nx => rw [hm] at e4 e5; simp only at e4 e5; rw [e4, e5]
      rw [hpre] at hr
      unfold Memo.ran at hr
      split at hr
      case h_2 => cases hr
      rename_i v hf hrun
      obtain ⟨r1, r2⟩ := cond_and hr
      have r1 := same_eq _ _ r1
      obtain ⟨s1, s2, s3⟩ := subH_get r2
      obtain ⟨nx, w1, fr0, g1, g2, g3⟩ := hi _ _ _ _ _ _ _ _ hrun ι w t' args' hw ht ha
      refine ⟨nx, w1, fr0, g1, g2, fun c rest hc => ?_⟩
      obtain ⟨w', ι', m', e, q1, q2, q3, q4, q5⟩ := g3 c rest hc
      rw [r1]
      exact ⟨w', ι', m', e, q1, q2, q3, q4.sub s1 s2, q5.less s1 s2 (by rw [hpre] at s3; exact s3)⟩

/-- a function's run with given calls -/
def topF (T : Tab) (fuel : Nat) (inv : Inv) (f : Nat) (args : List Value) (h : H) : Option (Ev.End × FrameMode × H) := match enterF T f with
  | some g => g fuel inv args false .run h
  | none => none

theorem top_ok {T : Tab} {P : Program} (hT : TabOk T P) {inv : Inv} (hi : InvOk T P inv) {fuel f : Nat} {args : List Value} {u' : FrameMode} {h h' : H} {v : Value} (hv : topF T fuel inv f args h = some (.returned v, u', h'))
    {ι : Inj} {w : World} (hw : WR T ι h w) {args' : Array Value} (ha : VRs T ι args args'.toList) :
    Calls P f args' w fun e w' => ∃ (v' : Value) (ι' : Inj), e = .returned v' ∧ VR T ι' v v' ∧ WR T ι' h' w' ∧ Keep ι h w ι' h' w' := by
  intro cs
  unfold topF at hv
  cases hg : enterF T f with
  | none => rw [hg] at hv; cases hv
  | some g =>
    rw [hg] at hv
    simp only at hv
    obtain ⟨_, h4⟩ := enterF_ok hT hi hg hv hw ha
    obtain ⟨w', ι', e, fr', cs', s1, s2, s3, s4, s5, s6, s7, s8⟩ := h4 cs cs rfl
    have s6 : cs' = cs := s6
    subst s6
    cases s2 with
    | returned _ v' hv' =>
      obtain ⟨g1, g2, g3⟩ := s3
      exact ⟨.returned v', w', fr', ⟨v', ι', rfl, hv', s7, s8⟩, s1, s5, g1, g2, s4, g3⟩

end
end Go.Ev

/- A run that hands back true, as a contract in the kit's words. -/
namespace Go.Ev
open Go.RowKit
noncomputable section

/-- the heap at the start: the first variable's cells -/
def startH (cs : List Value) (el : TypeId) : H := ⟨TT.set (some (.cells cs el false)) 32 .nil 0, 3⟩

theorem startH_get {cs : List Value} {el : TypeId} {k : Nat} {o : AObj} (h : (startH cs el).get k = some o) : k = 0 ∧ o = .cells cs el false := by
  by_cases hk : k = 0
  · subst hk
    have : (startH cs el).get 0 = some (.cells cs el false) := TT.get_set_eq _ 32 .nil 0 (by omega)
    rw [this] at h
    cases h
    exact ⟨rfl, rfl⟩
  · have : (startH cs el).get k = none := TT.get_set_ne _ 32 .nil 0 k hk
    rw [this] at h; cases h

theorem start_WR {T : Tab} {cs : List Value} {el : TypeId} {w : World} {fz : Nat × Nat} (h0 : w.heap[0]? = some (.cells cs.toArray el fz)) (hsz : 3 ≤ w.heap.size) (hc : closedL cs = true) (hf : flatL cs = true) :
    ∃ ι, WR T ι (startH cs el) w := by
  refine ⟨fun g => if g < 3 then some ⟨g, 0, cs.length, el⟩ else none, ?_, ?_, ?_, ?_, ?_, ?_, ?_⟩
  · intro b o m hb hm
    obtain ⟨rfl, rfl⟩ := startH_get hb
    simp only [Nat.zero_lt_succ, if_true, Option.some.injEq] at hm
    subst hm
    refine ⟨_, h0, .cells cs cs.toArray false fz ⟨0, 0, cs.length, el⟩ (by simp) hf (by simp) (fun i v hv => ⟨v, by simpa using hv, ?_⟩) (fun h => by cases h)⟩
    have hr := closedL_VRs T (fun g => if g < 3 then some ⟨g, 0, cs.length, el⟩ else none) cs hc
    obtain ⟨v', h1, h2⟩ := hr.get hv
    rw [hv] at h1
    cases h1
    exact h2
  · intro b m hm
    by_cases hb : b < 3
    · exact hb
    · simp [hb] at hm
  · intro b o hb
    obtain ⟨rfl, _⟩ := startH_get hb
    exact (by decide : 0 < 3)
  · intro b m hm
    by_cases hb : b < 3
    · simp only [hb, if_true, Option.some.injEq] at hm
      subst hm
      show b < w.heap.size
      omega
    · simp [hb] at hm
  · intro b b' o o' m m' hne hb ho hb' hm hm'
    obtain ⟨rfl, rfl⟩ := startH_get hb
    cases ho
  · exact (by decide : 3 ≤ 2147483648)
  · intro g hg
    exact ⟨⟨g, 0, cs.length, el⟩, by simp [show g < 3 from hg], rfl, rfl⟩

theorem grown_of {ι ι' : Inj} {h h' : H} {w w' : World} (hk : Keep ι h w ι' h' w') (hn : ∀ b o, h.get b = some o → o.owned = false) : Grown w w' := by
  have hsame : ∀ k, k < w.heap.size → w'.heap[k]? = w.heap[k]? := by
    intro k hlt
    refine (hk.kept k hlt ?_).1
    rintro ⟨b, o, m, g1, g2, _, _⟩
    rw [hn b o g1] at g2
    cases g2
  refine ⟨⟨hk.os, hk.output, fun i hi => ?_⟩, fun a => ?_, hk.size⟩
  · rw [hsame i hi]
    cases w.heap[i]? with
    | none => rfl
    | some o => cases o <;> simp
  · by_cases ha : a.block < w.heap.size
    · unfold World.frozen?
      rw [hsame _ ha]
    · have h1 : w.frozen? a = false := by
        unfold World.frozen?
        rw [Array.getElem?_eq_none (by omega)]
      cases h2 : w'.frozen? a with
      | false => exact h1.symm
      | true => rw [hk.thaw a h2] at h1; cases h1

def isT (r : Option (Ev.End × FrameMode × H)) : Bool := match r with
  | some (.returned (.bool b), _, _) => b
  | _ => false

theorem isT_some {r : Option (Ev.End × FrameMode × H)} (h : isT r = true) : ∃ u h', r = some (.returned (.bool true), u, h') := by
  unfold isT at h
  split at h
  · rename_i b u h'
    cases b with
    | true => exact ⟨u, h', rfl⟩
    | false => cases h
  · cases h

/-- what the evaluator shows to be true is true of the machine, in every world that holds the first variable -/
theorem true_ok {T : Tab} {P : Program} (hT : TabOk T P) {inv : Inv} (hi : InvOk T P inv) {fuel f : Nat} {cs : List Value} {el : TypeId} (hc : closedL cs = true) (hf : flatL cs = true)
    (hrun : isT (topF T fuel inv f [] (startH cs el)) = true) {w : World} {fz : Nat × Nat} (h0 : w.heap[0]? = some (.cells cs.toArray el fz)) (hsz : 3 ≤ w.heap.size) :
    Calls P f #[] w fun e w' => e = .returned (.bool true) ∧ Grown w w' := by
  obtain ⟨u, h', hv⟩ := isT_some hrun
  obtain ⟨ι, hw⟩ := start_WR (T := T) h0 hsz hc hf
  refine (top_ok hT hi hv hw (args' := #[]) .nil).mono ?_
  rintro e w' ⟨v', ι', rfl, hv', _, hk⟩
  cases hv' with
  | bool _ => exact ⟨rfl, grown_of hk fun b o hb => by obtain ⟨_, rfl⟩ := startH_get hb; rfl⟩

end
end Go.Ev

/- Contracts of the kit's, taken into the evaluator. -/
namespace Go.Ev
open Go.RowKit
noncomputable section

def noInv : Inv := fun _ _ _ _ _ => none
theorem noInv_ok (T : Tab) (P : Program) : InvOk T P noInv := fun t args d u h r u' h' hv => by cases hv

theorem heap_grown {w w' : World} (hg : Grown w w') {k : Nat} {ob : Obj} (h : w.heap[k]? = some ob) : w'.heap[k]? = some ob := by
  have hk : k < w.heap.size := (Array.getElem?_eq_some_iff.1 h).1
  have h1 := hg.1.2.2 k hk
  rw [h] at h1
  cases hx : w'.heap[k]? with
  | none => rw [hx] at h1; simp at h1
  | some o =>
    rw [hx] at h1
    cases ob <;> cases o <;> simp at h1
    case cells.cells c t fr c' t' fr' =>
      obtain ⟨rfl, rfl, h2, h3⟩ := h1
      have : c' = c := by
        apply Array.ext_getElem?
        intro j
        exact h3 j
      rw [this]
    all_goals first
      | (obtain ⟨rfl, rfl⟩ := h1; rfl)
      | (rw [h1]; done)
      | simp_all

theorem WR.grown {T : Tab} {ι : Inj} {h : H} {w w' : World} (hw : WR T ι h w) (hg : Grown w w') : WR T ι h w' where
  live b o m hb hm := let ⟨ob, h1, h2⟩ := hw.live b o m hb hm; ⟨ob, heap_grown hg h1, h2⟩
  ids := hw.ids
  fresh := hw.fresh
  bound b m hm := Nat.lt_of_lt_of_le (hw.bound b m hm) hg.2.2
  excl := hw.excl
  lim := hw.lim
  glob := hw.glob

theorem Keep.grown {ι : Inj} {h : H} {w w' : World} (hg : Grown w w') : Keep ι h w ι h w' where
  le := ι.le_refl
  new _ _ h := h
  next := Nat.le_refl _
  size := hg.2.2
  os := hg.1.1
  output := hg.1.2.1
  kept k hk hn := by
    obtain ⟨ob, hob⟩ : ∃ ob, w.heap[k]? = some ob := ⟨_, Array.getElem?_eq_getElem hk⟩
    exact ⟨by rw [heap_grown hg hob, hob], hn⟩
  same _ _ _ := rfl
  void _ _ h := h
  free _ _ h := h
  thaw a ha := by rw [← hg.2.1 a]; exact ha

/-- a function whose calls are answered by a contract -/
def viaC (f : Nat) (chk : List Value → H → Option Value) (inv : Inv) : Inv := fun t args d u h =>
  match t with
  | .fn (.func g) ⟨[]⟩ => cond (Nat.beq g f) (match d, u with
    | false, .run => (match chk args h with
      | some v => some (.returned v, .run, h)
      | none => inv t args d u h)
    | _, _ => inv t args d u h) (inv t args d u h)
  | t => inv t args d u h

theorem viaC_ok {T : Tab} {P : Program} {inv : Inv} (hi : InvOk T P inv) {f : Nat} {chk : List Value → H → Option Value} {fn : Func} (hf : P.funcs[f]? = some fn) (hb : fn.body.isSome = true) (hn : fn.name ≠ "runtime.NumGoroutine")
    (hc : ∀ (args : List Value) (h : H) (v : Value), chk args h = some v → ∀ (ι : Inj) (w : World) (args' : Array Value), WR T ι h w → VRs T ι args args'.toList →
      Calls P f args' w fun e w' => (∃ v', e = .returned v' ∧ VR T ι v v') ∧ Grown w w') : InvOk T P (viaC f chk inv) := by
  intro t args d u h r u' h' hv ι w t' args' hw ht ha
  have other : inv t args d u h = some (r, u', h') → _ := fun hv => hi t args d u h r u' h' hv ι w t' args' hw ht ha
  unfold viaC at hv
  split at hv
  case h_2 => exact other hv
  rename_i g
  cases hg : Nat.beq g f with
  | false => rw [hg] at hv; exact other hv
  | true =>
    rw [hg, cond_true] at hv
    have := Nat.eq_of_beq_eq_true hg
    subst this
    split at hv
    case h_2 => exact other hv
    split at hv
    case h_2 => exact other hv
    rename_i v hchk
    simp only [Option.some.injEq, Prod.mk.injEq] at hv
    obtain ⟨rfl, rfl, rfl⟩ := hv
    cases ht with
    | fn _ fn' _ a' hfn ha' =>
      cases hfn with
      | func _ =>
        have hnil : a' = #[] := by
          have := ha'.length
          simpa using this.symm
        subst hnil
        refine ⟨.enter g args', w, _, by simpa [invoke] using callFunc_run hf hb hn args' w, rfl, fun c rest _ => ?_⟩
        obtain ⟨e, w', fr, ⟨⟨v', he, hv'⟩, hgr⟩, hs, hfr, hl⟩ := hc args h v hchk ι w args' hw ha (c :: rest)
        subst he
        exact ⟨w', ι, c.mode, .returned v', Steps.trans hs (.one (step_leave_returned hl)), .returned _ _ hv', (fun h => by cases h), hw.grown hgr, Keep.grown hgr⟩

/-- the first variable, as the evaluator's heap has it -/
def hasTable (cs : List Value) (el : TypeId) (h : H) : Bool := match h.get 0 with
  | some (.cells c t _) => cond (sameL c cs) (Nat.beq t el) false
  | _ => false

theorem start_WR' {T : Tab} {cs : List Value} {el : TypeId} {w : World} {fz : Nat × Nat} {c : Array Value} (h0 : w.heap[0]? = some (.cells c el fz)) (hcs : ∀ (i : Nat) v, cs[i]? = some v → c[i]? = some v) (hlen : cs.length ≤ c.size)
    (hsz : 3 ≤ w.heap.size) (hc : closedL cs = true) (hf : flatL cs = true) : ∃ ι, WR T ι (startH cs el) w := by
  refine ⟨fun g => if g < 3 then some ⟨g, 0, c.size, el⟩ else none, ?_, ?_, ?_, ?_, ?_, ?_, ?_⟩
  · intro b o m hb hm
    obtain ⟨rfl, rfl⟩ := startH_get hb
    simp only [Nat.zero_lt_succ, if_true, Option.some.injEq] at hm
    subst hm
    refine ⟨_, h0, .cells cs c false fz ⟨0, 0, c.size, el⟩ rfl hf (by simpa using hlen) (fun i v hv => ⟨v, by simpa using hcs i v hv, ?_⟩) (fun h => by cases h)⟩
    have hr := closedL_VRs T (fun g => if g < 3 then some ⟨g, 0, c.size, el⟩ else none) cs hc
    obtain ⟨v', h1, h2⟩ := hr.get hv
    rw [hv] at h1
    cases h1
    exact h2
  · intro b m hm
    by_cases hb : b < 3
    · exact hb
    · simp [hb] at hm
  · intro b o hb
    obtain ⟨rfl, _⟩ := startH_get hb
    exact (by decide : 0 < 3)
  · intro b m hm
    by_cases hb : b < 3
    · simp only [hb, if_true, Option.some.injEq] at hm
      subst hm
      show b < w.heap.size
      omega
    · simp [hb] at hm
  · intro b b' o o' m m' hne hb ho hb' hm hm'
    obtain ⟨rfl, rfl⟩ := startH_get hb
    cases ho
  · exact (by decide : 3 ≤ 2147483648)
  · intro g hg
    exact ⟨⟨g, 0, c.size, el⟩, by simp [show g < 3 from hg], rfl, rfl⟩

/-- a value without addresses stands for itself alone -/
theorem VR.closed {T : Tab} {ι : Inj} : ∀ {v v' : Value}, flat v = true → closedV v = true → (∀ t x, v ≠ .iface t x) → (∀ f a b, v ≠ .func f a b) → VR T ι v v' → v' = v
  | .bool _, _, _, _, _, _, h => by cases h; rfl
  | .int _ _, _, _, _, _, _, h => by cases h; rfl
  | .string _, _, _, _, _, _, h => by cases h; rfl
  | .pointer none, _, _, _, _, _, h => by cases h; rfl
  | .map none, _, _, _, _, _, h => by cases h; rfl
  | .nilFunc, _, _, _, _, _, h => by cases h; rfl
  | .nilIface, _, _, _, _, _, h => by cases h; rfl
  | .slice none _ _, _, _, _, _, _, h => by cases h; rfl
  | .pointer (some _), _, _, hc, _, _, _ => by simp [closedV] at hc
  | .map (some _), _, _, hc, _, _, _ => by simp [closedV] at hc
  | .slice (some _) _ _, _, _, hc, _, _, _ => by simp [closedV] at hc
  | .iface t x, _, _, _, h1, _, _ => absurd rfl (h1 t x)
  | .func f a b, _, _, _, _, h2, _ => absurd rfl (h2 f a b)
  | .agg _, _, hf, _, _, _, _ => by simp [flat] at hf
  | .tuple _, _, hf, _, _, _, _ => by simp [flat] at hf
  | .chan _, _, hf, _, _, _, _ => by simp [flat] at hf
  | .float .., _, _, hc, _, _, _ => by simp [closedV] at hc
  | .complex .., _, _, hc, _, _, _ => by simp [closedV] at hc

def intsOnly : List Value → Bool
  | [] => true
  | .int _ _ :: l => intsOnly l
  | _ => false

theorem table_get {T : Tab} {ι : Inj} {h : H} {w : World} (hw : WR T ι h w) {cs : List Value} {el : TypeId} (hh : hasTable cs el h = true) (hint : ∀ (i : Nat) v, cs[i]? = some v → ∃ k n, v = .int k n) :
    ∃ (c : Array Value) (fz : Nat × Nat), w.heap[0]? = some (.cells c el fz) ∧ (∀ (i : Nat) v, cs[i]? = some v → c[i]? = some v) ∧ cs.length ≤ c.size := by
  unfold hasTable at hh
  split at hh
  case h_2 => cases hh
  rename_i c t own hg
  obtain ⟨h1, h2⟩ := cond_and hh
  have h1 := sameL_eq _ _ h1
  have h2 := Nat.eq_of_beq_eq_true h2
  subst h1
  obtain ⟨m, m1, m2, m3⟩ := hw.glob 0 (by decide)
  obtain ⟨ob, o1, o2⟩ := hw.live _ _ _ hg m1
  cases o2 with
  | cells _ c' _ fz _ hcap hflat hlen hc hown =>
    rw [m2] at o1
    rw [m3] at hlen hc
    refine ⟨c', fz, by rw [o1, h2], fun i v hv => ?_, by simpa using hlen⟩
    obtain ⟨v', e1, e2⟩ := hc i v hv
    obtain ⟨k, n, rfl⟩ := hint i v hv
    cases e2
    simpa using e1

/-- a closed run that hands back true, taken in -/
def chkT (cs : List Value) (el : TypeId) : List Value → H → Option Value := fun args h => match args with
  | [] => cond (hasTable cs el h) (some (.bool true)) none
  | _ => none

theorem viaT_ok {T : Tab} {P : Program} (hT : TabOk T P) {inv inv0 : Inv} (hi : InvOk T P inv) (hi0 : InvOk T P inv0) {fuel f : Nat} {cs : List Value} {el : TypeId} (hc : closedL cs = true) (hf : flatL cs = true) (hint : ∀ (i : Nat) v, cs[i]? = some v → ∃ k n, v = .int k n)
    (hrun : isT (topF T fuel inv0 f [] (startH cs el)) = true) {fn : Func} (hfn : P.funcs[f]? = some fn) (hb : fn.body.isSome = true) (hn : fn.name ≠ "runtime.NumGoroutine") : InvOk T P (viaC f (chkT cs el) inv) := by
  refine viaC_ok hi hfn hb hn fun args h v hv ι w args' hw ha => ?_
  unfold chkT at hv
  split at hv
  case h_2 => cases hv
  cases hh : hasTable cs el h with
  | false => rw [hh] at hv; cases hv
  | true =>
    rw [hh] at hv
    cases hv
    obtain ⟨c, fz, g1, g2, g3⟩ := table_get hw hh hint
    obtain ⟨u, h', hrv⟩ := isT_some hrun
    have hsz : 3 ≤ w.heap.size := by
      obtain ⟨m, m1, m2, _⟩ := hw.glob 2 (by decide)
      have := hw.bound _ _ m1
      omega
    obtain ⟨ι0, hw0⟩ := start_WR' (T := T) g1 g2 g3 hsz hc hf
    have hnil : args' = #[] := by
      have := ha.length
      simpa using this.symm
    subst hnil
    refine (top_ok hT hi0 hrv hw0 (args' := #[]) .nil).mono ?_
    rintro e w' ⟨v', ι', rfl, hv', _, hk⟩
    cases hv' with
    | bool _ => exact ⟨⟨_, rfl, .bool true⟩, grown_of hk fun b o hb => by obtain ⟨_, rfl⟩ := startH_get hb; rfl⟩

/-- the first variable, as the machine has it -/
def Table (cs : List Value) (el : TypeId) (w : World) : Prop :=
  ∃ (c : Array Value) (fz : Nat × Nat), w.heap[0]? = some (.cells c el fz) ∧ (∀ (i : Nat) v, cs[i]? = some v → c[i]? = some v) ∧ cs.length ≤ c.size ∧ 3 ≤ w.heap.size

theorem Table.grown {cs : List Value} {el : TypeId} {w w' : World} (h : Table cs el w) (hg : Grown w w') : Table cs el w' := by
  obtain ⟨c, fz, h1, h2, h3, h4⟩ := h
  exact ⟨c, fz, heap_grown hg h1, h2, h3, Nat.le_trans h4 hg.2.2⟩

theorem true_ok' {T : Tab} {P : Program} (hT : TabOk T P) {inv : Inv} (hi : InvOk T P inv) {fuel f : Nat} {args : List Value} {cs : List Value} {el : TypeId} (hc : closedL cs = true) (hf : flatL cs = true)
    (hrun : isT (topF T fuel inv f args (startH cs el)) = true) {args' : Array Value} (ha : ∀ ι, VRs T ι args args'.toList) {w : World} (hw : Table cs el w) :
    Calls P f args' w fun e w' => e = .returned (.bool true) ∧ Grown w w' := by
  obtain ⟨u, h', hv⟩ := isT_some hrun
  obtain ⟨c, fz, g1, g2, g3, g4⟩ := hw
  obtain ⟨ι, hw⟩ := start_WR' (T := T) g1 g2 g3 g4 hc hf
  refine (top_ok hT hi hv hw (ha ι)).mono ?_
  rintro e w' ⟨v', ι', rfl, hv', _, hk⟩
  cases hv' with
  | bool _ => exact ⟨rfl, grown_of hk fun b o hb => by obtain ⟨_, rfl⟩ := startH_get hb; rfl⟩

end
end Go.Ev
