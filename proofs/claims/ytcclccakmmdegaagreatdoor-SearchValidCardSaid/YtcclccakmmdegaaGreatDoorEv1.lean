/- The evaluator of closed runs and its proof, part 1 of 3: what the evaluator answers about the model's code holds of the machine in every world. -/
import GoSem.Machine.Early
import GoSem.Dispatch
import Derived.Calls
import Derived.Laws.World
import Derived.Laws.Tables
import Derived.Laws.Cells
import Derived.Laws.CopyRow
import Derived.Laws.StructEq

set_option linter.unusedVariables false
set_option linter.unusedSimpArgs false

/- The evaluator: a deterministic big-step reading of the model's Code over an abstract heap; what it answers is shown (in the texts behind it) to hold of the machine in every world. It is staged: an operation is read once, to a function of the temporaries and the heap. -/
namespace Go.Ev
noncomputable section

/-- a slice whose capacity the evaluator does not know bears this number -/
@[irreducible] def unk : Nat := 18446744073709551616

inductive TT (α : Type) where
  | nil
  | node (l : TT α) (v : Option α) (r : TT α)

def TT.get {α : Type} (t : TT α) : Nat → Option α :=
  TT.rec (motive := fun _ => Nat → Option α) (fun _ => none)
    (fun _ v _ gl gr k => Nat.rec (motive := fun _ => Option α) v
      (fun k _ => Bool.rec (motive := fun _ => Option α) (gr (Nat.div k 2)) (gl (Nat.div k 2)) (Nat.beq (Nat.mod k 2) 0)) k) t

def TT.set {α : Type} (v : Option α) (n : Nat) : TT α → Nat → TT α :=
  Nat.rec (motive := fun _ => TT α → Nat → TT α) (fun t _ => t)
    (fun _ ih t => TT.rec (motive := fun _ => Nat → TT α)
      (fun k => Nat.rec (motive := fun _ => TT α) (.node .nil v .nil)
        (fun k _ => Bool.rec (motive := fun _ => TT α) (.node .nil none (ih .nil (Nat.div k 2))) (.node (ih .nil (Nat.div k 2)) none .nil) (Nat.beq (Nat.mod k 2) 0)) k)
      (fun l x r _ _ k => Nat.rec (motive := fun _ => TT α) (.node l v r)
        (fun k _ => Bool.rec (motive := fun _ => TT α) (.node l x (ih r (Nat.div k 2))) (.node (ih l (Nat.div k 2)) x r) (Nat.beq (Nat.mod k 2) 0)) k) t) n

def nth? {α : Type} (l : List α) : Nat → Option α :=
  List.rec (motive := fun _ => Nat → Option α) (fun _ => none) (fun v _ ih i => Nat.rec (motive := fun _ => Option α) (some v) (fun i _ => ih i) i) l

def splice (vs : List Value) (cs : List Value) : Nat → Option (List Value) :=
  List.rec (motive := fun _ => Nat → Option (List Value))
    (fun n => Nat.rec (motive := fun _ => Option (List Value)) (Bool.rec (motive := fun _ => Option (List Value)) none (some vs) (Nat.beq vs.length 0)) (fun _ _ => none) n)
    (fun c cs ih n => Nat.rec (motive := fun _ => Option (List Value))
      (Bool.rec (motive := fun _ => Option (List Value)) none (some (vs ++ (c :: cs).drop vs.length)) (Nat.ble vs.length (c :: cs).length))
      (fun n _ => (ih n).map (c :: ·)) n) cs

/-- a number is reckoned out before it is handed on -/
def fN {α : Type} (k : Nat → α) (n : Nat) : α := Nat.rec (motive := fun _ => α) (k 0) (fun m _ => k (Nat.succ m)) n

def fI {α : Type} (k : Int → α) (n : Int) : α := match n with
  | .ofNat m => fN (fun m => k (.ofNat m)) m
  | .negSucc m => fN (fun m => k (.negSucc m)) m

def modK : IntKind → Nat
  | .i8 | .u8 => 256
  | .i16 | .u16 => 65536
  | .i32 | .u32 => 4294967296
  | .i64 | .u64 => 18446744073709551616

def halfK : IntKind → Nat
  | .i8 => 128
  | .i16 => 32768
  | .i32 => 2147483648
  | .i64 => 9223372036854775808
  | .u8 => 256
  | .u16 => 65536
  | .u32 => 4294967296
  | .u64 => 18446744073709551616

/-- a residue, read as a number of the kind -/
def ofRes (k : IntKind) (r : Nat) : Int := cond (Nat.blt r (halfK k)) (.ofNat r) (.negSucc (Nat.sub (modK k) (Nat.succ r)))

def wrapF (k : IntKind) (n : Int) : Int := match n with
  | .ofNat m => ofRes k (Nat.mod m (modK k))
  | .negSucc m => ofRes k (Nat.sub (Nat.sub (modK k) 1) (Nat.mod m (modK k)))

def mkInt (k : IntKind) (n : Int) : Option Value := fI (fun n => some (.int k n)) (wrapF k n)

/-- what a field holds that is compared by its content -/
inductive FK where
  | b
  | s
  | i (k : IntKind)

structure Tab where
  fn : Nat → Option Func
  desc : Nat → Option TypeDesc
  size : Nat → Nat
  zero : Nat → Option Value
  /-- the fields' places in a struct type that is compared field by field, each field a bool, an integer or a string -/
  eqs : Nat → Option (List (Nat × FK))

structure ALoop where
  state : LoopState
  pending : Option Code
  fn : FuncId
  tm : TT Value
  params : List Nat
  assign : Code
  body : Code

inductive AObj where
  | cells (cs : List Value) (elem : TypeId) (own : Bool)
  | map (es : List MapEntry) (clock : Nat)
  | mapIter (m : Option Nat) (since : Nat) (seen : List Nat) (stepped : Nat)
  | loop (l : ALoop)
  | deferred (calls : Option (List Deferred))

structure H where
  tr : TT AObj
  next : Nat

abbrev Tm := TT Value

def undefV : Value := .tuple #[]

def nth (tm : Tm) (i : Nat) : Value := match tm.get i with | some v => v | none => undefV
def upd (tm : Tm) (i : Nat) (v : Value) : Tm := TT.set (some v) 16 tm i

def H.get (h : H) (b : Nat) : Option AObj := h.tr.get b
def H.put (h : H) (b : Nat) (o : Option AObj) : H := ⟨TT.set o 32 h.tr b, h.next⟩
def H.new (h : H) (o : AObj) : Option (Nat × H) :=
  fN (fun n => cond (Nat.blt n 2147483648) (some (n, ⟨TT.set (some o) 32 h.tr n, Nat.succ n⟩)) none) h.next

/-- a value that nothing is known of; no channel is ever met -/
def poison : Value := .chan none

def flat (v : Value) : Bool := match v with
  | .agg _ | .tuple _ | .chan _ => false
  | _ => true

mutual
/-- no address in it -/
def closedV : Value → Bool
  | .bool _ | .int _ _ | .string _ | .pointer none | .map none | .nilFunc | .nilIface => true
  | .slice none n c => cond (Nat.ble n c) (Nat.blt c unk) false
  | .func (.func _) ⟨a⟩ ⟨b⟩ => cond (closedL a) (closedL b) false
  | .iface _ v => closedV v
  | .agg ⟨a⟩ => closedL a
  | .tuple ⟨a⟩ => closedL a
  | _ => false
termination_by structural v => v
def closedL : List Value → Bool
  | [] => true
  | v :: l => cond (closedV v) (closedL l) false
termination_by structural l => l
end

def flatL : List Value → Bool
  | [] => true
  | v :: l => flat v && flatL l

/-- how many package-level variables the program has -/
def ngl : Nat := 3

def ev : Operand → Tm → Value
  | .tmp t => fun tm => nth tm t
  | .const v => cond (closedV v) (fun _ => v) (fun _ => poison)
  | .global g => cond (Nat.blt g ngl) (fun _ => .pointer (some ⟨g, 0, none⟩)) (fun _ => poison)
  | .func f => fun _ => .func (.func f) #[] #[]

def isAgg (T : Tab) (t : Nat) : Option Bool :=
  match T.desc t with
  | some (.struct _) | some (.array _ _) => some true
  | some _ => some false
  | none => none

def slicel (l : List Value) (off n : Nat) : Option (List Value) :=
  let r := (l.drop off).take n
  cond (Nat.beq r.length n) (some r) none

def cellsAt (h : H) (a : Addr) : Option (List Value) :=
  match a.spot with
  | some _ => none
  | none => match h.get a.block with
    | some (.cells cs _ _) => some cs
    | _ => none

def loadCells (h : H) (a : Addr) (n : Nat) : Option (List Value) := (cellsAt h a).bind fun cs => slicel cs a.off n

def load1 (h : H) (v : Value) : Option Value := match v with
  | .pointer (some a) => (cellsAt h a).bind fun cs => nth? cs a.off
  | _ => none

def loadN (n : Nat) (h : H) (v : Value) : Option Value := match v with
  | .pointer (some a) => (loadCells h a n).map fun l => .agg ⟨l⟩
  | _ => none

def loadF (T : Tab) (t : Nat) : Option (H → Value → Option Value) :=
  match isAgg T t with
  | some true => some (loadN (T.size t))
  | some false => some load1
  | none => none

def storeCells (h : H) (a : Addr) (vs : List Value) : Option H :=
  match a.spot with
  | some _ => none
  | none => match h.get a.block with
    | some (.cells cs e true) => cond (flatL vs) ((splice vs cs a.off).map fun cs' => h.put a.block (some (.cells cs' e true))) none
    | _ => none

def partF (T : Tab) (t : Nat) (off : Nat) : Option (List Value → Option Value) :=
  match isAgg T t with
  | some true => some fun cs => (slicel cs off (T.size t)).map fun l => .agg ⟨l⟩
  | some false => some fun cs => nth? cs off
  | none => none

/-- a value's cells -/
def cellsV (v : Value) : Option (List Value) := match v with
  | .agg ⟨l⟩ => some l
  | .chan _ => none
  | v => some [v]

/-- the parts of a literal put into its cells -/
def fillL (parts : List (Operand × Nat × Nat)) : List Value → Tm → Option (List Value) :=
  match parts with
  | [] => fun cells _ => some cells
  | (x, off, size) :: rest => fun cells tm =>
    (cellsV (ev x tm)).bind fun l => cond (Nat.beq l.length size) ((splice l cells off).bind fun cs => fillL rest cs tm) none

def structParts (T : Tab) (fs : Array Field) : List (Nat × Operand) → Option (List (Operand × Nat × Nat))
  | [] => some []
  | (i, x) :: rest => (nth? fs.toList i).bind fun f => (structParts T fs rest).map ((x, f.offset, T.size f.type) :: ·)

def arrayParts (size : Nat) : List (Nat × Operand) → List (Operand × Nat × Nat)
  | [] => []
  | (i, x) :: rest => (x, i * size, size) :: arrayParts size rest

def zeroV (T : Tab) (t : Nat) : Option Value := (T.zero t).bind fun z => cond (closedV z) (some z) none

def zeroCells (T : Tab) (t : Nat) : Option (List Value) := (zeroV T t).bind fun z => cond (flatL z.cells.toList) (some z.cells.toList) none

/-- the zero cells of an element that has some -/
def elemZero (T : Tab) (el : TypeId) : Option (List Value) :=
  (zeroCells T el).bind fun z => cond (Nat.beq z.length (T.size el)) (cond (Nat.blt 0 (T.size el)) (some z) none) none

def rep (n : Nat) (l : List Value) : List Value := match n with | 0 => [] | n + 1 => l ++ rep n l

def beqK (a b : IntKind) : Bool := match a, b with
  | .i8, .i8 | .i16, .i16 | .i32, .i32 | .i64, .i64 | .u8, .u8 | .u16, .u16 | .u32, .u32 | .u64, .u64 => true
  | _, _ => false

def beqI (a b : Int) : Bool := match a, b with
  | .ofNat a, .ofNat b => Nat.beq a b
  | .negSucc a, .negSucc b => Nat.beq a b
  | _, _ => false

def ltI (a b : Int) : Bool := match a, b with
  | .ofNat a, .ofNat b => Nat.blt a b
  | .negSucc a, .negSucc b => Nat.blt b a
  | .ofNat _, .negSucc _ => false
  | .negSucc _, .ofNat _ => true

def beqB (a b : Bool) : Bool := cond a b (cond b false true)

def beqS : List UInt8 → List UInt8 → Bool
  | [], [] => true
  | a :: x, b :: y => cond (Nat.beq a.toNat b.toNat) (beqS x y) false
  | _, _ => false

def ltS : List UInt8 → List UInt8 → Bool
  | _, [] => false
  | [], _ :: _ => true
  | a :: x, b :: y => cond (Nat.blt a.toNat b.toNat) true (cond (Nat.beq a.toNat b.toNat) (ltS x y) false)

def beqA (a b : Option Addr) : Bool := match a, b with
  | none, none => true
  | some ⟨a, i, none⟩, some ⟨b, j, none⟩ => cond (Nat.beq a b) (Nat.beq i j) false
  | _, _ => false

mutual
/-- a sure sign that two values are the same -/
def veq : Value → Value → Bool
  | .bool a, .bool b => beqB a b
  | .int k a, .int k' b => cond (beqK k k') (beqI a b) false
  | .string a, .string b => beqS a.data.toList b.data.toList
  | .pointer a, .pointer b => beqA a b
  | .slice a n c, .slice b m d => cond (beqA a b) (cond (Nat.beq n m) (Nat.beq c d) false) false
  | .map (some a), .map (some b) => Nat.beq a b
  | .map none, .map none => true
  | .nilFunc, .nilFunc => true
  | .nilIface, .nilIface => true
  | .agg ⟨a⟩, .agg ⟨b⟩ => veqL a b
  | .iface t a, .iface u b => cond (Nat.beq t u) (veq a b) false
  | .func (.func f) ⟨a⟩ ⟨b⟩, .func (.func g) ⟨c⟩ ⟨d⟩ => cond (Nat.beq f g) (cond (veqL a c) (veqL b d) false) false
  | _, _ => false
termination_by structural v => v
def veqL : List Value → List Value → Bool
  | [], [] => true
  | x :: xs, y :: ys => cond (veq x y) (veqL xs ys) false
  | _, _ => false
termination_by structural l => l
end

/-- scalars whose '==' is their content's -/
def keyEq (x y : Value) : Option Bool := match x with
  | .bool a => (match y with | .bool b => some (beqB a b) | _ => none)
  | .int k a => (match y with | .int k' b => cond (beqK k k') (some (beqI a b)) none | _ => none)
  | .string a => (match y with | .string b => some (beqS a.data.toList b.data.toList) | _ => none)
  | _ => none

def fieldEq (k : FK) : Value → Value → Option Bool := match k with
  | .b => fun x y => match x with
    | .bool a => (match y with | .bool b => some (beqB a b) | _ => none)
    | _ => none
  | .s => fun x y => match x with
    | .string a => (match y with | .string b => some (beqS a.data.toList b.data.toList) | _ => none)
    | _ => none
  | .i k => fun x y => match x with
    | .int k1 a => (match y with | .int k2 b => cond (beqK k1 k) (cond (beqK k2 k) (some (beqI a b)) none) none | _ => none)
    | _ => none

def eqFields (fs : List (Nat × FK)) : List Value → List Value → Option Bool := match fs with
  | [] => fun _ _ => some true
  | (off, k) :: rest => fun xs ys => (nth? xs off).bind fun x => (nth? ys off).bind fun y => (fieldEq k x y).bind fun b => (eqFields rest xs ys).map fun c => cond b c false

/-- '==' at a type -/
def equalF (T : Tab) (t : Nat) : Option (Value → Value → Option Bool) :=
  match T.desc t with
  | some (.pointer _) => some fun x y => match x, y with
    | .pointer none, .pointer b => some b.isNone
    | .pointer (some _), .pointer none => some false
    | _, _ => none
  | some (.interface _) => some fun x y => match x, y with
    | .nilIface, .nilIface => some true
    | .nilIface, .iface _ _ => some false
    | .iface _ _, .nilIface => some false
    | _, _ => none
  | some (.slice _) => some fun x y => match x, y with
    | .slice none _ _, .slice b _ _ => some b.isNone
    | .slice (some _) _ _, .slice none _ _ => some false
    | _, _ => none
  | some (.map _ _) => some fun x y => match x, y with
    | .map none, .map b => some b.isNone
    | .map (some _), .map none => some false
    | _, _ => none
  | some (.func _ _ _) => some fun x y => match x, y with
    | .nilFunc, .nilFunc => some true
    | .nilFunc, .func _ _ _ => some false
    | .func _ _ _, .nilFunc => some false
    | _, _ => none
  | some .bool => some fun x y => match x, y with
    | .bool a, .bool b => some (beqB a b)
    | _, _ => none
  | some (.struct _) => (T.eqs t).map fun fs x y => match x, y with
    | .agg ⟨xs⟩, .agg ⟨ys⟩ => eqFields fs xs ys
    | _, _ => none
  | _ => none

def bits (k : IntKind) : Nat := match k with | .i8 | .u8 => 8 | .i16 | .u16 => 16 | .i32 | .u32 => 32 | .i64 | .u64 => 64

def res (k : IntKind) (n : Int) : Nat := match n with
  | .ofNat m => Nat.mod m (modK k)
  | .negSucc m => Nat.sub (Nat.sub (modK k) 1) (Nat.mod m (modK k))

/-- arithmetic on two integers of one kind -/
def intF (op : BinOp) : Option (IntKind → Int → Int → Option Value) := match op with
  | .add => some fun k a b => mkInt k (Int.add a b)
  | .sub => some fun k a b => mkInt k (Int.sub a b)
  | .mul => some fun k a b => mkInt k (Int.mul a b)
  | .quo => some fun k a b => cond (beqI b 0) none (mkInt k (a.tdiv b))
  | .rem => some fun k a b => cond (beqI b 0) none (fI (fun n => some (.int k n)) (a.tmod b))
  | .and => some fun k a b => mkInt k (.ofNat (Nat.land (res k a) (res k b)))
  | .or => some fun k a b => mkInt k (.ofNat (Nat.lor (res k a) (res k b)))
  | .xor => some fun k a b => mkInt k (.ofNat (Nat.xor (res k a) (res k b)))
  | .andNot => some fun k a b => mkInt k (.ofNat (Nat.land (res k a) (Nat.sub (Nat.sub (modK k) 1) (res k b))))
  | .eql => some fun _ a b => some (.bool (beqI a b))
  | .neq => some fun _ a b => some (.bool (cond (beqI a b) false true))
  | .lss => some fun _ a b => some (.bool (ltI a b))
  | .leq => some fun _ a b => some (.bool (cond (ltI b a) false true))
  | .gtr => some fun _ a b => some (.bool (ltI b a))
  | .geq => some fun _ a b => some (.bool (cond (ltI a b) false true))
  | _ => none

def strF (op : BinOp) : Option (List UInt8 → List UInt8 → Option Value) := match op with
  | .add => some fun a b => cond (Nat.blt (Nat.add a.length b.length) 4294967296) (some (.string ⟨⟨a ++ b⟩⟩)) none
  | .eql => some fun a b => some (.bool (beqS a b))
  | .neq => some fun a b => some (.bool (cond (beqS a b) false true))
  | .lss => some fun a b => some (.bool (ltS a b))
  | .leq => some fun a b => some (.bool (cond (ltS a b) true (beqS a b)))
  | .gtr => some fun a b => some (.bool (cond (cond (ltS a b) true (beqS a b)) false true))
  | .geq => some fun a b => some (.bool (cond (ltS a b) false true))
  | _ => none

def isC : Operand → Bool
  | .const _ => true
  | _ => false

def shlV (x y : Value) : Option Value := match x, y with
  | .int k a, .int _ (.ofNat b) => mkInt k (Int.mul a (.ofNat (Nat.pow 2 (cond (Nat.ble b (bits k)) b (bits k)))))
  | _, _ => none

def shrV (x y : Value) : Option Value := match x, y with
  | .int k (.ofNat a), .int _ (.ofNat b) => fN (fun n => some (.int k (.ofNat n))) (Nat.div a (Nat.pow 2 (cond (Nat.ble b (bits k)) b (bits k))))
  | _, _ => none

/-- '==' and '!=' -/
def eqB (T : Tab) (op : BinOp) (t : Nat) : Option (Value → Value → Option Value) := match op with
  | .eql => (equalF T t).map fun f x y => (f x y).map .bool
  | .neq => (equalF T t).map fun f x y => (f x y).map fun b => .bool (cond b false true)
  | _ => none

def binE (T : Tab) (op : BinOp) (t : Nat) (c : Bool) : Option (Value → Value → Option Value) := match T.desc t with
  | some (.int _) => (intF op).map fun f x y => match x with
    | .int k a => (match y with | .int k' b => cond (beqK k k') (f k a b) none | _ => none)
    | _ => none
  | some .string => (strF op).map fun f x y => match x with
    | .string a => (match y with | .string b => f a.data.toList b.data.toList | _ => none)
    | _ => none
  | some (.interface _) => cond c (eqB T op t) none
  | _ => eqB T op t

def binF (T : Tab) (op : BinOp) (t : Nat) (c : Bool) : Option (Value → Value → Option Value) :=
  match op with
  | .shl => some shlV
  | .shr => some shrV
  | op => binE T op t c

def unV (op : UnOp) : Option (Value → Option Value) := match op with
  | .neg => some fun x => match x with | .int k n => mkInt k (Int.neg n) | _ => none
  | .xor => some fun x => match x with | .int k n => mkInt k (.ofNat (Nat.sub (Nat.sub (modK k) 1) (res k n))) | _ => none
  | .not => some fun x => match x with | .bool b => some (.bool (cond b false true)) | _ => none
  | _ => none

def asNat (y : Nat) (v : Value) : Option Nat := match v with
  | .int _ (.ofNat i) => cond (Nat.ble i y) (some i) none
  | _ => none

def optV (x : Option Operand) : Option (Tm → Value) := match x with
  | some x => some (ev x)
  | none => none

def boundO (x : Option Operand) (dflt y : Nat) (tm : Tm) : Option Nat := match x with
  | some x => asNat y (ev x tm)
  | none => some dflt

/-- low, high, max of a slice expression whose bounds hold -/
def bounds (len cap : Nat) (low high max : Option Operand) (tm : Tm) : Option (Nat × Nat × Nat) :=
  (boundO max cap cap tm).bind fun m => (boundO high len m tm).bind fun h => (boundO low 0 h tm).bind fun l => some (l, h, m)

/-- a slice of what has a known capacity -/
def sliceK (size : Nat) (a : Option Addr) (r : Nat × Nat × Nat) : Option Value := match r with
  | (l, u, m) => cond (Nat.blt m unk) (fN (fun n => fN (fun c =>
      some (.slice (cond (Nat.beq m l) a (a.map fun (a : Addr) => a.add (Nat.mul l size))) n c)) (Nat.sub m l)) (Nat.sub u l)) none

/-- a slice of a slice whose capacity is not known, without and with a third bound -/
def sliceU (size b off : Nat) (r : Nat × Nat × Nat) : Option Value := match r with
  | (l, u, _) => fN (fun n => fN (fun o => some (.slice (some ⟨b, o, none⟩) n unk)) (Nat.add off (Nat.mul l size))) (Nat.sub u l)
def sliceM (size b off len : Nat) (r : Nat × Nat × Nat) : Option Value := match r with
  | (l, u, m) => cond (Nat.beq len 0) none (cond (Nat.blt m unk) (cond (Nat.beq m l) (some (.slice (some ⟨b, off, none⟩) 0 0))
      (fN (fun n => fN (fun o => fN (fun c => some (.slice (some ⟨b, o, none⟩) n c)) (Nat.sub m l)) (Nat.add off (Nat.mul l size))) (Nat.sub u l))) none)

def okBounds (high max : Option Operand) : Bool := match max with
  | none => true
  | some _ => high.isSome

def sliceF (T : Tab) (t : Nat) (x : Operand) (low high max : Option Operand) : Option (Tm → H → Option Value) :=
  cond (okBounds high max) (match T.desc t with
  | some .string => (match max with
    | some _ => none
    | none => some fun tm _ => match ev x tm with
      | .string ⟨⟨s⟩⟩ => (bounds s.length s.length low high none tm).map fun (l, hi, _) => .string ⟨⟨(s.drop l).take (Nat.sub hi l)⟩⟩
      | _ => none)
  | some (.slice e) => some fun tm h => match ev x tm with
    | .slice a len cap => cond (Nat.blt cap unk)
      ((bounds len cap low high max tm).bind (sliceK (T.size e) a))
      (match a with
      | some ⟨b, off, none⟩ => (match h.get b with
        | some (.cells _ e' _) => cond (Nat.beq (T.size e') (T.size e))
          ((bounds len len low high max tm).bind (match max with
            | none => sliceU (T.size e) b off
            | some _ => sliceM (T.size e) b off len)) none
        | _ => none)
      | _ => none)
    | _ => none
  | some (.array n e) => some fun tm _ => match ev x tm with
    | .pointer (some a) => (bounds n n low high max tm).bind (sliceK (T.size e) (some a))
    | _ => none
  | _ => none) none

def addA (a : Addr) (n : Nat) : Option Value := match a with
  | ⟨b, off, none⟩ => fN (fun off => some (.pointer (some ⟨b, off, none⟩))) (Nat.add off n)
  | _ => none

def fieldA (off : Nat) (x : Value) : Option Value := match x with
  | .pointer (some a) => addA a off
  | _ => none

/-- an index that is below a bound -/
def ixN (n : Nat) (i : Value) : Option Nat := match i with
  | .int _ (.ofNat z) => cond (Nat.blt z n) (some z) none
  | _ => none

def indexAddrF (T : Tab) (t : Nat) : Option (Value → Value → Option Value) :=
  match T.desc t with
  | some (.array n e) => some fun x i => match x with
    | .pointer (some a) => (ixN n i).bind fun z => addA a (Nat.mul z (T.size e))
    | _ => none
  | some (.slice e) => some fun x i => match x with
    | .slice (some a) n _ => (ixN n i).bind fun z => addA a (Nat.mul z (T.size e))
    | _ => none
  | _ => none

def indexF (T : Tab) (t : Nat) : Option (Value → Value → Option Value) :=
  match T.desc t with
  | some (.array n e) => some fun x i => match x with
    | .agg ⟨cs⟩ => (ixN n i).bind fun z => (partF T e (Nat.mul z (T.size e))).bind fun f => f cs
    | _ => none
  | some .string => some fun x i => match x with
    | .string ⟨⟨s⟩⟩ => (ixN s.length i).bind fun z => (nth? s z).bind fun b => fN (fun n => some (.int .u8 (.ofNat n))) b.toNat
    | _ => none
  | _ => none

def findE (k : Value) : List MapEntry → Nat → Option (Option (Nat × Value))
  | [], _ => some none
  | e :: es, i => (keyEq k e.key).bind fun b => cond b (some (some (i, e.val))) (findE k es (Nat.succ i))

def plainKey (T : Tab) (t : Nat) : Option (Value → Bool) :=
  match T.desc t with
  | some .bool => some fun k => match k with | .bool _ => true | _ => false
  | some (.int k) => some fun x => match x with | .int k' _ => beqK k k' | _ => false
  | some .string => some fun k => match k with | .string _ => true | _ => false
  | _ => none

def entriesOf (h : H) (x : Value) : Option (List MapEntry) := match x with
  | .map none => some []
  | .map (some r) => (match h.get r with | some (.map es _) => some es | _ => none)
  | _ => none

def lookupF (T : Tab) (t : Nat) (ok : Bool) : Option (H → Value → Value → Option Value) :=
  match T.desc t with
  | some (.map kt et) => (plainKey T kt).bind fun pk => (zeroV T et).map fun z h x k => cond (pk k)
    ((entriesOf h x).bind fun es => (findE k es 0).map fun r => match r with
      | some (_, v) => cond ok (.tuple #[v, .bool true]) v
      | none => cond ok (.tuple #[z, .bool false]) z) none
  | _ => none

def updE (i : Nat) (k v : Value) (es : List MapEntry) : List MapEntry :=
  match es with
  | [] => []
  | e :: es => match i with
    | 0 => { e with key := k, val := v } :: es
    | i + 1 => e :: updE i k v es

def mapUpdateF (T : Tab) (t : Nat) : Option (H → Value → Value → Value → Option H) :=
  match T.desc t with
  | some (.map kt _) => (plainKey T kt).map fun pk h m k v => match m with
    | .map (some r) => cond (pk k) (match h.get r with
      | some (.map es c) => (findE k es 0).map fun x => match x with
        | some (i, _) => h.put r (some (.map (updE i k v es) c))
        | none => h.put r (some (.map (es ++ [{ key := k, val := v, born := c }]) (Nat.succ c)))
      | _ => none) none
    | _ => none
  | _ => none

def typeAssertF (T : Tab) (t : Nat) (ok : Bool) : Option (Value → Option Value) :=
  match T.desc t with
  | none => none
  | some (.interface _) => cond ok ((zeroV T t).map fun z x => match x with | .nilIface => some (.tuple #[z, .bool false]) | _ => none) none
  | some _ => (zeroV T t).map fun z x => match x with
    | .nilIface => cond ok (some (.tuple #[z, .bool false])) none
    | .iface u v => cond (Nat.beq u t) (some (cond ok (.tuple #[v, .bool true]) v)) (cond ok (some (.tuple #[z, .bool false])) none)
    | _ => none

def convertF (T : Tab) (src dst : Nat) : Option (Value → Option Value) :=
  match T.desc src, T.desc dst with
  | some (.int _), some (.int k) => some fun x => match x with | .int _ n => mkInt k n | _ => none
  | some .string, some .string => some fun x => match x with | .string s => some (.string s) | _ => none
  | _, _ => none

def gi (n : Nat) : Option Value := fN (fun n => some (.int .i64 (.ofNat n))) n

def lenF (T : Tab) (t : Nat) : Option (H → Value → Option Value) :=
  match T.desc t with
  | some .string => some fun _ x => match x with | .string ⟨⟨s⟩⟩ => gi s.length | _ => none
  | some (.slice _) => some fun _ x => match x with | .slice _ n _ => gi n | _ => none
  | some (.map _ _) => some fun h x => (entriesOf h x).bind fun es => gi es.length
  | some (.array n _) => some fun _ _ => gi n
  | _ => none

def evL : List Operand → Tm → List Value
  | [] => fun _ => []
  | x :: l => fun tm => ev x tm :: evL l tm

/-- a literal of a struct or an array -/
def buildF (T : Tab) (t : Nat) (parts : List (Nat × Operand)) : Option (Tm → H → Option Value) :=
  (zeroCells T t).bind fun z => match T.desc t with
    | some (.struct fs) => (structParts T fs parts).map fun ps (tm : Tm) (_ : H) => (fillL ps z tm).map fun l => .agg ⟨l⟩
    | some (.array _ el) => some fun (tm : Tm) (_ : H) => (fillL (arrayParts (T.size el) parts) z tm).map fun l => .agg ⟨l⟩
    | _ => none

def capV (v : Value) : Option Value := match v with
  | .slice _ _ c => cond (Nat.blt c unk) (gi c) none
  | _ => none

def minV (x y : Value) : Option Value := match x with
  | .int k a => (match y with | .int k' b => cond (beqK k k') (some (.int k (cond (ltI b a) b a))) none | _ => none)
  | _ => none

def maxV (x y : Value) : Option Value := match x with
  | .int k a => (match y with | .int k' b => cond (beqK k k') (some (.int k (cond (ltI a b) b a))) none | _ => none)
  | _ => none

/-- the builtin functions that only look -/
def lookF (T : Tab) (b : Builtin) (ts : List TypeId) (xs : List Operand) : Option (Tm → H → Option Value) := match b with
  | .len => (match ts, xs with
    | [t], [x] => (lenF T t).map fun f tm h => f h (ev x tm)
    | _, _ => none)
  | .cap => (match ts, xs with
    | [t], [x] => (match T.desc t with
      | some (.slice _) => some fun tm _ => capV (ev x tm)
      | _ => none)
    | _, _ => none)
  | .min => (match xs with
    | [x, y] => some fun tm _ => minV (ev x tm) (ev y tm)
    | _ => none)
  | .max => (match xs with
    | [x, y] => some fun tm _ => maxV (ev x tm) (ev y tm)
    | _ => none)
  | _ => none

def nilCheckV (v : Value) : Option Value := match v with
  | .pointer (some a) => some (.pointer (some a))
  | .func (.func f) a b => some (.func (.func f) a b)
  | .func (.yield f) a b => some (.func (.yield f) a b)
  | .func (.via t p f q) a b => some (.func (.via t p f q) a b)
  | _ => none

def plainFn (fn : Fn) : Bool := match fn with
  | .func _ | .via .. => true
  | _ => false

/-- operations that neither write nor make memory -/
def pureF (T : Tab) (op : Op) : Option (Tm → H → Option Value) :=
  match op with
  | .move x => some fun tm _ => some (ev x tm)
  | .pick c a b => some fun tm _ => match ev c tm with | .bool t => some (cond t (ev a tm) (ev b tm)) | _ => none
  | .build t parts => buildF T t parts.toList
  | .load t a => (loadF T t).map fun f tm h => f h (ev a tm)
  | .nilCheck x => some fun tm _ => nilCheckV (ev x tm)
  | .binOp op t x y _ => (binF T op t (cond (isC x) true (isC y))).map fun f tm _ => f (ev x tm) (ev y tm)
  | .unOp op _ x => (unV op).map fun f tm _ => f (ev x tm)
  | .convert s d x => (convertF T s d).map fun f tm _ => f (ev x tm)
  | .makeInterface t x => match T.desc t with
    | none => none
    | some (.interface _) => none
    | _ => some fun tm _ => some (.iface t (ev x tm))
  | .makeFunc fn first captured => cond (plainFn fn) (some fun tm _ => some (.func fn ⟨evL first.toList tm⟩ ⟨evL captured.toList tm⟩)) none
  | .slice t x lo hi mx => sliceF T t x lo hi mx
  | .fieldAddr s x f => match T.desc s with
    | some (.struct fs) => (nth? fs.toList f).bind fun f => cond (Nat.beq (T.size f.type) 0) none (some fun tm _ => fieldA f.offset (ev x tm))
    | _ => none
  | .field t x f => match T.desc t with
    | some (.struct fs) => (nth? fs.toList f).bind fun f => (partF T f.type f.offset).map fun g tm _ => match ev x tm with
      | .agg ⟨cs⟩ => g cs
      | _ => none
    | _ => none
  | .indexAddr t x i => (indexAddrF T t).map fun f tm _ => f (ev x tm) (ev i tm)
  | .index t x i => (indexF T t).map fun f tm _ => f (ev x tm) (ev i tm)
  | .lookup t x i ok => (lookupF T t ok).map fun f tm h => f h (ev x tm) (ev i tm)
  | .typeAssert x _ t ok => (typeAssertF T t ok).map fun f tm _ => f (ev x tm)
  | .extract x i => some fun tm _ => match ev x tm with | .tuple ⟨vs⟩ => nth? vs i | _ => none
  | .call c => match c.callee with
    | .builtin b => lookF T b c.argTypes.toList c.args.toList
    | _ => none
  | _ => none

/-- may what a float gives hang on memory? -/
def heapy : Op → Bool
  | .load .. | .lookup .. | .slice .. | .call _ => true
  | _ => false

/-- a value that is put into a block of its own -/
def boxV (t : TypeId) (v : Value) : Option (AObj × (Nat → Value)) :=
  (cellsV v).bind fun l => cond (flatL l) (some (.cells l t true, fun b => .pointer (some ⟨b, 0, none⟩))) none

def mkSlice (el : TypeId) (z : List Value) (l c : Value) : Option (AObj × (Nat → Value)) := match l with
  | .int _ (.ofNat l) => (match c with
    | .int _ (.ofNat c) => cond (Nat.ble l c) (cond (Nat.ble c 1048576) (fN (fun l => fN (fun c => some (.cells (rep c z) el true, fun b => .slice (some ⟨b, 0, none⟩) l c)) c) l) none) none
    | _ => none)
  | _ => none

/-- operations that make one block out of their operands alone -/
def madeF (T : Tab) (op : Op) : Option (Tm → Option (AObj × (Nat → Value))) :=
  match op with
  | .alloc t => (zeroCells T t).map fun z _ => some (.cells z t true, fun b => .pointer (some ⟨b, 0, none⟩))
  | .box t x => some fun tm => boxV t (ev x tm)
  | .buildSlice t len parts => match T.desc t with
    | some (.slice el) => cond (Nat.ble (Nat.mul len (T.size el)) 16777216) (cond (Nat.ble len 16777216)
      ((elemZero T el).map fun z tm =>
        (fillL (arrayParts (T.size el) parts.toList) (rep len z) tm).bind fun l => cond (flatL l) (some (.cells l el true, fun b => .slice (some ⟨b, 0, none⟩) len len)) none) none) none
    | _ => none
  | .makeSlice t l c => match T.desc t with
    | some (.slice el) => cond (Nat.ble (T.size el) 1000) ((elemZero T el).map fun z tm => mkSlice el z (ev l tm) (ev c tm)) none
    | _ => none
  | .makeMap _ none => some fun _ => some (.map [] 0, fun b => .map (some b))
  | _ => none

def firstCells (h : H) (size n : Nat) (v : Value) : Option (List Value) := match v with
  | .slice (some a) _ _ => loadCells h a (Nat.mul n size)
  | .slice none _ _ => some []
  | .string ⟨⟨s⟩⟩ => some ((s.take n).map fun b => .int .u8 (.ofNat b.toNat))
  | _ => none

def lenOf (v : Value) : Option Nat := match v with
  | .slice _ n _ => some n
  | .string ⟨⟨s⟩⟩ => some s.length
  | _ => none

/-- what is appended to has no room, as far as is known: a new block -/
def appendNew (el size : Nat) (h : H) (old new : List Value) (m : Nat) : Option (Value × H) :=
  (h.new (.cells (old ++ new) el true)).bind fun r => fN (fun m => some (.slice (some ⟨r.1, 0, none⟩) m unk, r.2)) m

def appendK (el size : Nat) (h : H) (base : Option Addr) (len cap n : Nat) (new : List Value) : Option (Value × H) :=
  cond (Nat.ble (Nat.add len n) cap)
    (match base with
      | none => some (.slice none (Nat.add len n) cap, h)
      | some a => (storeCells h (a.add (Nat.mul len size)) new).bind fun h' => fN (fun m => some (.slice base m cap, h')) (Nat.add len n))
    ((match base with | none => cond (Nat.beq len 0) (some []) none | some a => loadCells h a (Nat.mul len size)).bind fun old => appendNew el size h old new (Nat.add len n))

def appendU (T : Tab) (el size : Nat) (h : H) (base : Option Addr) (len n : Nat) (new : List Value) : Option (Value × H) :=
  match base with
  | some ⟨b, off, none⟩ => (match h.get b with
    | some (.cells cs e' true) => cond (Nat.beq e' el)
      ((slicel cs off (Nat.mul len size)).bind fun old => appendNew el size (h.put b none) old new (Nat.add len n)) none
    | _ => none)
  | _ => none

def appendV (T : Tab) (el size : Nat) (h : H) (s x : Value) : Option (Value × H) := match s with
  | .slice base len cap => (lenOf x).bind fun n => (firstCells h size n x).bind fun new => cond (Nat.beq new.length (Nat.mul n size)) (
    cond (Nat.ble (Nat.mul (Nat.add len n) size) 1048576)
      (cond (Nat.blt cap unk) (appendK el size h base len cap n new) (cond (Nat.beq n 0) (some (s, h)) (appendU T el size h base len n new))) none) none
  | _ => none

def appendF (T : Tab) (st : Nat) : Option (H → Value → Value → Option (Value × H)) :=
  match T.desc st with
  | some (.slice el) => (elemZero T el).map fun _ h s x => appendV T el (T.size el) h s x
  | _ => none

/-- a variable is written -/
def storeV (n : Nat) (h : H) (p v : Value) : Option H := match p with
  | .pointer (some a) => (cellsV v).bind fun l => cond (Nat.beq l.length n) (storeCells h a l) none
  | _ => none

def iterF (h : H) (v : Value) : Option (Nat × Option Nat × Nat × List Nat × Nat) := match v with
  | .pointer (some ⟨r, 0, none⟩) => (match h.get r with
    | some (.mapIter m since seen stepped) => some (r, m, since, seen, stepped)
    | _ => none)
  | _ => none

def copyV (size : Nat) (h : H) (d s : Value) : Option (Value × H) := match d with
  | .slice base len _ => (lenOf s).bind fun n => (firstCells h size (Nat.min n len) s).bind fun cs =>
    cond (Nat.beq cs.length (Nat.mul (Nat.min n len) size)) ((match base with | none => some h | some a => storeCells h a cs).bind fun h' => fN (fun n => some (.int .i64 (.ofNat n), h')) (Nat.min n len)) none
  | _ => none

/-- the operations of which a region's text fixes the order, calls left out -/
def effF (T : Tab) (op : Op) : Option (Tm → H → Option (Value × H)) :=
  match op with
  | .assign x => some fun tm h => some (ev x tm, h)
  | .store t a x => (isAgg T t).map fun _ tm h => (storeV (T.size t) h (ev a tm) (ev x tm)).map fun h' => (undefV, h')
  | .mapUpdate t m k v => (mapUpdateF T t).map fun f tm h => (f h (ev m tm) (ev k tm) (ev v tm)).map fun h' => (undefV, h')
  | .insert t m k v => (mapUpdateF T t).map fun f tm h => (f h (ev m tm) (ev k tm) (ev v tm)).map fun h' => (undefV, h')
  | .range t x => match T.desc t with
    | some (.map _ _) => some fun tm h => match ev x tm with
      | .map none => (h.new (.mapIter none 0 [] 0)).map fun (b, h') => (.pointer (some ⟨b, 0, none⟩), h')
      | .map (some m) => (match h.get m with
        | some (.map _ c) => (h.new (.mapIter (some m) c [] c)).map fun (b, h') => (.pointer (some ⟨b, 0, none⟩), h')
        | _ => none)
      | _ => none
    | _ => none
  | .next it false => some fun tm h => (iterF h (ev it tm)).bind fun (r, m, since, seen, last) => match m with
    | none => some (.tuple #[.bool false], h)
    | some m => match h.get m with
      | some (.map [] _) => (match seen with | [] => some (.tuple #[.bool false], h) | _ => none)
      | some (.map [x] c) => (match seen with
        | [] => cond (Nat.blt x.born since) (some (.tuple #[.bool true, x.key, x.val], h.put r (some (.mapIter (some m) since [x.born] c)))) none
        | [b] => cond (Nat.beq b x.born) (cond (Nat.blt x.born last) (some (.tuple #[.bool false], h)) none) none
        | _ => none)
      | _ => none
  | .entry it => some fun tm h => (iterF h (ev it tm)).bind fun (_, m, _, seen, stepped) => match m with
    | none => none
    | some m => match h.get m with
      | some (.map [x] c) => (match seen with
        | [b] => cond (Nat.beq c stepped) (cond (Nat.beq x.born b) (some (.tuple #[x.key, x.val], h)) none) none
        | _ => none)
      | _ => none
  | .call c => match c.callee with
    | .builtin .append => (match c.argTypes.toList, c.args.toList with
      | [t, u], [s, x] => (match T.desc u with
        | some (.int _) => none
        | none => none
        | _ => (appendF T t).map fun f tm h => f h (ev s tm) (ev x tm))
      | _, _ => none)
    | .builtin .copy => (match c.argTypes.toList, c.args.toList with
      | t :: _, [d, s] => (match T.desc t with
        | some (.slice el) => some fun tm h => copyV (T.size el) h (ev d tm) (ev s tm)
        | _ => none)
      | _, _ => none)
    | _ => none
  | _ => none

inductive End where
  | returned (v : Value)
  | panicked (chain : List PanicEntry)

structure St where
  tm : Tm
  df : List Deferred
  u : FrameMode
  h : H

inductive Ex where
  | fail
  | normal (s : St)
  | exit (id : Nat) (s : St)
  | ret (s : St)
  | panic (chain : List PanicEntry) (s : St)

/-- how a target is entered: what it is handed; whether it is a deferred call, and then the mode of the frame that calls it (which 'recover' may turn) -/
abbrev Inv := Target → List Value → Bool → FrameMode → H → Option (End × FrameMode × H)

def targetV (f : Value) (l : List Value) : Option (Target × List Value) := match f with
  | .func fn ⟨first⟩ captured => some (.fn fn captured, first ++ l)
  | _ => none

def recoverV (deferred : Bool) (u : FrameMode) : Value × FrameMode :=
  match deferred, u with
  | true, .panicking ({ v, recovered := false, goexit := false } :: older) => (v, .panicking ({ v, recovered := true } :: older))
  | _, _ => (.nilIface, u)

/-- where an operation's surroundings come in: how calls are made; is the frame a deferred call's? a round's? -/
structure Env where
  inv : Inv
  deferred : Bool
  round : Bool

/-- an effect: what becomes of the frame; its value is put by whoever goes on -/
inductive OpR where
  | fail
  | value (v : Value) (df : List Deferred) (u : FrameMode) (h : H)
  | panic (chain : List PanicEntry) (u : FrameMode) (h : H)

def effect (T : Tab) (op : Op) : Env → St → OpR :=
  match op with
  | .defer c => (match c.callee with
    | .value f => fun e s => cond e.round .fail (match targetV (ev f s.tm) (evL c.args.toList s.tm) with
      | some (t, l) => .value undefV ({ target := t, args := ⟨l⟩ } :: s.df) s.u s.h
      | none => .fail)
    | _ => fun _ _ => .fail)
  | .panic x => fun _ s => match ev x s.tm with
    | .iface t v => .panic [{ v := .iface t v, recovered := false }] s.u s.h
    | _ => .fail
  | .call c => (match c.callee with
    | .builtin .recover => fun e s => cond e.round .fail (match recoverV e.deferred s.u with | (v, u) => .value v s.df u s.h)
    | .value f => fun e s => (match targetV (ev f s.tm) (evL c.args.toList s.tm) with
      | some (t, l) => (match e.inv t l false .run s.h with
        | some (.returned v, _, h) => .value v s.df s.u h
        | some (.panicked chain, _, h) => .panic chain s.u h
        | none => .fail)
      | none => .fail)
    | _ => match effF T op with
      | some f => fun _ s => (match f s.tm s.h with | some (v, h) => .value v s.df s.u h | none => .fail)
      | none => fun _ _ => .fail)
  | op => match effF T op with
    | some f => fun _ s => (match f s.tm s.h with | some (v, h) => .value v s.df s.u h | none => .fail)
    | none => fun _ _ => .fail

def putD (d : Option Nat) : Tm → Value → Tm :=
  match d with | some d => fun tm v => upd tm d v | none => fun tm _ => tm

/-- is the operation wanted? (none: the one on which that hangs holds no bool) -/
def wantedF (ops : Array Oper) (o : Oper) : Tm → Bool :=
  match o.guard with
  | none => fun _ => true
  | some (j, want) => match (nth? ops.toList j).bind (·.dst) with
    | some d => fun tm => match nth tm d with | .bool b => beqB b want | _ => false
    | none => fun _ => false

/-- what an operation hangs on is a value that is known -/
def guardOk (ops : Array Oper) (o : Oper) : Tm → Bool :=
  match o.guard with
  | none => fun _ => true
  | some (j, _) => match (nth? ops.toList j).bind (·.dst) with
    | some d => fun tm => match nth tm d with | .chan _ => false | _ => true
    | none => fun _ => true

inductive Cls where
  | float
  | made
  | eff

def cls : Op → Cls
  | .alloc _ | .box .. | .buildSlice .. | .makeSlice .. | .makeMap .. => .made
  | .assign _ | .store .. | .mapUpdate .. | .insert .. | .range .. | .next .. | .entry .. | .defer _ | .panic _ => .eff
  | .call c => match c.callee with
    | .builtin .len | .builtin .cap | .builtin .min | .builtin .max => .float
    | _ => .eff
  | _ => .float

/-- one operation in its place, whatever it hangs on -/
def stepG (T : Tab) (ops : Array Oper) (o : Oper) (next : Env → St → Ex) : Env → St → Ex :=
  match cls o.op with
  | .float => (match pureF T o.op with
    | some f => fun e s => cond (wantedF ops o s.tm) (match f s.tm s.h with | some v => next e ⟨putD o.dst s.tm v, s.df, s.u, s.h⟩ | none => .fail) (next e ⟨putD o.dst s.tm undefV, s.df, s.u, s.h⟩)
    | none => fun _ _ => .fail)
  | .made => (match madeF T o.op with
    | some f => fun e s => cond (wantedF ops o s.tm) (match f s.tm with
      | some (ob, g) => (match s.h.new ob with | some (b, h) => next e ⟨putD o.dst s.tm (g b), s.df, s.u, h⟩ | none => .fail)
      | none => .fail) (next e ⟨putD o.dst s.tm undefV, s.df, s.u, s.h⟩)
    | none => fun _ _ => .fail)
  | .eff => fun e s => cond (wantedF ops o s.tm) (match effect T o.op e s with
      | .value v df u h => next e ⟨putD o.dst s.tm v, df, u, h⟩
      | .panic chain u h => .panic chain ⟨s.tm, s.df, u, h⟩
      | .fail => .fail) (next e ⟨putD o.dst s.tm undefV, s.df, s.u, s.h⟩)

def stepF (T : Tab) (ops : Array Oper) (o : Oper) (next : Env → St → Ex) : Env → St → Ex :=
  match o.guard with
  | none => stepG T ops o next
  | some _ => fun e s => cond (guardOk ops o s.tm) (stepG T ops o next e s) .fail

/-- a region in the order of its text -/
def opsF (T : Tab) (ops : Array Oper) : List Oper → Env → St → Ex
  | [] => fun _ s => .normal s
  | o :: rest => stepF T ops o (opsF T ops rest)

/-- the numbers of the operations in front of each one, as bits: what 'Region.before' reckons -/
def maskOf (done : List Nat) : List Edge → Nat
  | [] => 0
  | e :: es => cond (Region.binds .any e) (Nat.lor (Nat.lor (Nat.pow 2 e.on) ((nth? done e.on).getD 0)) (maskOf done es)) (maskOf done es)

def masks : List Oper → List Nat → List Nat
  | [], done => done
  | o :: rest, done => masks rest (done ++ [maskOf done o.after.toList])

def bitAt (m i : Nat) : Bool := Nat.beq (Nat.mod (Nat.div m (Nat.pow 2 i)) 2) 1

def effs : List Oper → Nat → List Nat
  | [], _ => []
  | o :: rest, i => match cls o.op with | .eff => i :: effs rest (i + 1) | _ => effs rest (i + 1)

def allB {α : Type} (p : α → Bool) : List α → Bool
  | [] => true
  | x :: l => cond (p x) (allB p l) false

/-- each effect stands in front of the later ones -/
def orderedE (b : List Nat) : List Nat → Bool
  | [] => true
  | j :: rest => cond (allB (fun k => bitAt ((nth? b k).getD 0) j) rest) (orderedE b rest) false

/-- the temporaries that an operation names -/
def namesOf (ops : List Oper) (o : Oper) : List Nat :=
  o.dst.toList ++ (o.op.operands.toList.filterMap fun | .tmp t => some t | _ => none) ++ (match o.guard with | some (j, _) => ((nth? ops j).bind (·.dst)).toList | none => [])

def writersOf (t : Nat) : List Oper → Nat → List Nat
  | [], _ => []
  | o :: rest, i => match o.dst with | some d => cond (Nat.beq d t) (i :: writersOf t rest (i + 1)) (writersOf t rest (i + 1)) | none => writersOf t rest (i + 1)

/-- whoever names a temporary stands in an order with all who write it; edges lead back -/
def tidyFrom (ops : List Oper) (b : List Nat) : List Oper → Nat → Bool
  | [], _ => true
  | o :: rest, j => cond (allB (fun t => allB (fun i => cond (Nat.beq i j) true (bitAt ((nth? b (max i j)).getD 0) (min i j))) (writersOf t ops 0)) (namesOf ops o)) (tidyFrom ops b rest (j + 1)) false

def guardsIn (b : List Nat) : List Oper → Nat → Bool
  | [], _ => true
  | o :: rest, j => cond (cond (allB (fun e => cond (Region.binds .text e) (Nat.blt e.on j) true) o.after.toList) (match o.guard with | some (i, _) => bitAt ((nth? b j).getD 0) i | none => true) false) (guardsIn b rest (j + 1)) false

/-- the heap in front of each effect, the last one behind all -/
abbrev Heaps := List (Nat × H)

/-- a float against the heaps at which it may run: 'm' its number, 'b' the masks -/
def floatOk (b : List Nat) (m : Nat) (f : H → Option Value) (v : Value) (last : H) : Heaps → Bool
  | [] => (match f last with | some w => veq w v | none => false)
  | (j, h) :: rest =>
    cond (cond (bitAt ((nth? b m).getD 0) j) true (match f h with | some w => veq w v | none => false))
      (cond (bitAt ((nth? b j).getD 0) m) true (floatOk b m f v last rest)) false

structure Look where
  m : Nat
  f : H → Option Value
  v : Value

/-- is the float unordered with one of the effects? -/
def loose (b : List Nat) (m : Nat) : List Nat → Bool
  | [] => false
  | j :: rest => cond (bitAt ((nth? b (max m j)).getD 0) (min m j)) (loose b m rest) true

structure DrawSt where
  base : Nat
  hs : Heaps
  ls : List Look

def drawStepG (T : Tab) (ops : Array Oper) (b : List Nat) (es : List Nat) (i : Nat) (o : Oper) (next : Env → DrawSt → St → Ex) : Env → DrawSt → St → Ex :=
  match cls o.op with
  | .float => (match pureF T o.op with
    | some f => (match cond (heapy o.op) (loose b i es) false with
      | true => fun e d s => cond (wantedF ops o s.tm) (match f s.tm s.h with | some v => next e ⟨d.base, d.hs, ⟨i, f s.tm, v⟩ :: d.ls⟩ ⟨putD o.dst s.tm v, s.df, s.u, s.h⟩ | none => .fail) (next e d ⟨putD o.dst s.tm undefV, s.df, s.u, s.h⟩)
      | false => fun e d s => cond (wantedF ops o s.tm) (match f s.tm s.h with | some v => next e d ⟨putD o.dst s.tm v, s.df, s.u, s.h⟩ | none => .fail) (next e d ⟨putD o.dst s.tm undefV, s.df, s.u, s.h⟩))
    | none => fun _ _ _ => .fail)
  | .made => (match madeF T o.op with
    | some f => fun e d s => cond (wantedF ops o s.tm) (match f s.tm with
      | some (ob, g) => fN (fun n => next e d ⟨putD o.dst s.tm (g n), s.df, s.u, s.h.put n (some ob)⟩) (Nat.add d.base i)
      | none => .fail) (next e d ⟨putD o.dst s.tm undefV, s.df, s.u, s.h⟩)
    | none => fun _ _ _ => .fail)
  | .eff => fun e d s => cond (wantedF ops o s.tm) (match effect T o.op e s with
      | .value v df u h => next e ⟨d.base, d.hs ++ [(i, s.h)], d.ls⟩ ⟨putD o.dst s.tm v, df, u, h⟩
      | .panic _ _ _ => .fail
      | .fail => .fail) (next e d ⟨putD o.dst s.tm undefV, s.df, s.u, s.h⟩)

def drawStep (T : Tab) (ops : Array Oper) (b : List Nat) (es : List Nat) (i : Nat) (o : Oper) (next : Env → DrawSt → St → Ex) : Env → DrawSt → St → Ex :=
  match o.guard with
  | none => drawStepG T ops b es i o next
  | some _ => fun e d s => cond (guardOk ops o s.tm) (drawStepG T ops b es i o next e d s) .fail

def looksOk (b : List Nat) (d : DrawSt) (last : H) : List Look → Bool
  | [] => true
  | l :: rest => cond (floatOk b l.m l.f l.v last d.hs) (looksOk b d last rest) false

def drawF (T : Tab) (ops : Array Oper) (b es : List Nat) : List Oper → Nat → Env → DrawSt → St → Ex
  | [], _ => fun _ d s => cond (looksOk b d s.h d.ls) (.normal s) .fail
  | o :: rest, i => drawStep T ops b es i o (drawF T ops b es rest (i + 1))

def drawWith (T : Tab) (ops : Array Oper) (b es : List Nat) : Env → St → Ex :=
  cond (cond (orderedE b es) (cond (tidyFrom ops.toList b ops.toList 0) (cond (guardsIn b ops.toList 0) (!Region.departs ops || Nat.beq (Region.linearise .gc ops 0).length ops.toList.length) false) false) false)
    (fun e s => fN (fun n => cond (Nat.blt (Nat.add n ops.toList.length) 2147483648)
      (fN (fun n' => drawF T ops b es ops.toList 0 e ⟨n, [], []⟩ ⟨s.tm, s.df, s.u, ⟨s.h.tr, n'⟩⟩) (Nat.add n ops.toList.length)) .fail) s.h.next)
    (fun _ _ => .fail)

def regionF (T : Tab) (ops : Array Oper) (draw : Bool) : Env → St → Ex :=
  match draw with
  | false => opsF T ops ops.toList
  | true => drawWith T ops (masks ops.toList []) (effs ops.toList 0)

def loopF (f : St → Ex) : Nat → St → Ex
  | 0, _ => .fail
  | n + 1, s => match f s with
    | .normal s' => loopF f n s'
    | r => r

def pendingV (j : Option Code) (s : St) : Ex := match j with
  | none => .normal s
  | some (.exit id) => .exit id s
  | some .ret => .ret s
  | some _ => .fail

def execF (T : Tab) (fn : Nat) (c : Code) : Nat → Env → St → Ex :=
  match c with
  | .skip => fun _ _ s => .normal s
  | .label _ => fun _ _ s => .normal s
  | .region _ ops draw => fun _ e s => regionF T ops draw e s
  | .seq a b => fun n e s => match execF T fn a n e s with
    | .normal s' => execF T fn b n e s'
    | r => r
  | .cond c a b => fun n e s => match ev c s.tm with
    | .bool t => cond t (execF T fn a n e s) (execF T fn b n e s)
    | _ => .fail
  | .block id c => fun n e s => match execF T fn c n e s with
    | .exit id' s' => cond (Nat.beq id' id) (.normal s') (.exit id' s')
    | r => r
  | .loop c => fun n e s => loopF (fun s => execF T fn c n e s) n s
  | .scope c => fun n e s => execF T fn c n e s
  | .exit id => fun _ _ s => .exit id s
  | .ret => fun _ _ s => .ret s
  | .rangeFunc f params assign body => fun _ e s =>
    cond e.round .fail (match s.h.new (.deferred (some [])) with
      | none => .fail
      | some (r, h) => match h.new (.loop { state := .ready, pending := none, fn, tm := s.tm, params := params.toList, assign, body }) with
        | none => .fail
        | some (l, h) => match targetV (ev f s.tm) [.func (.yield l) #[] #[]] with
          | none => .fail
          | some (t, args) => match e.inv t args false .run h with
            | some (.returned _, _, h) => (match h.get l with
              | some (.loop lo) => (match lo.state with
                | .busy => .fail
                | _ => pendingV lo.pending ⟨s.tm, { target := .collected r, args := #[] } :: s.df, s.u, h.put l (some (.loop { lo with state := .exhausted }))⟩)
              | _ => .fail)
            | some (.panicked chain, _, h) => .panic chain ⟨s.tm, { target := .collected r, args := #[] } :: s.df, s.u, h⟩
            | none => .fail)
  | .goto _ => fun _ _ _ => .fail
  | .refuse _ => fun _ _ _ => .fail

def resultsF (T : Tab) : List ResultVar → Option (Tm → H → Option (List Value))
  | [] => some fun _ _ => some []
  | .tmp t :: rest => (resultsF T rest).map fun f tm h => (f tm h).map (nth tm t :: ·)
  | .cell a t :: rest => (loadF T t).bind fun g => (resultsF T rest).map fun f tm h => match nth tm a with
    | .pointer (some a) => (g h (.pointer (some a))).bind fun v => (f tm h).map (v :: ·)
    | _ => none

def settle (m : FrameMode) : FrameMode := match m with
  | .panicking ({ recovered := true, .. } :: older) =>
    match older.dropWhile (!·.goexit) with
    | [] => .returning
    | rest => .panicking rest
  | m => m

def raised (u : FrameMode) (chain : List PanicEntry) : FrameMode :=
  match u with
  | .panicking old => .panicking (chain ++ old)
  | _ => .panicking chain

def oneOf (l : List Value) : Value := match l with | [v] => v | vs => .tuple ⟨vs⟩

/-- the deferred calls of a frame, then its end -/
def leave (inv : Inv) (res : H → Option (List Value)) (ds : List Deferred) : FrameMode → H → Option (End × H) :=
  match ds with
  | [] => fun m h => match m with
    | .returning => (res h).map fun vs => (.returned (oneOf vs), h)
    | .panicking chain => some (.panicked chain, h)
    | .run => none
  | d :: ds => fun m h => match d.target with
    | .collected r => (match h.get r with
      | some (.deferred (some [])) => leave inv res ds m (h.put r (some (.deferred none)))
      | _ => none)
    | t => match inv t d.args.toList true m h with
      | some (.returned _, m', h') => leave inv res ds (settle m') h'
      | some (.panicked chain, m', h') => leave inv res ds (raised m' chain) h'
      | none => none

def bindTm : List Nat → List Value → Tm → Option Tm
  | [], [], tm => some tm
  | p :: ps, v :: vs, tm => bindTm ps vs (upd tm p v)
  | _, _, _ => none

def argsTm : List Value → Nat → Tm → Tm
  | [], _, tm => tm
  | v :: vs, i, tm => argsTm vs (Nat.succ i) (upd tm i v)

def endRound (h : H) (l : Nat) (u : FrameMode) (j : Option Code) : Option (End × FrameMode × H) := match h.get l with
  | some (.loop lo) => some (.returned (.bool j.isNone), u, h.put l (some (.loop { lo with state := match j with | none => .ready | some _ => .done, pending := j })))
  | _ => none

def ltO (d : Option Nat) (n : Nat) : Bool := match d with | some d => Nat.blt d n | none => true

/-- every temporary that the code writes is one of the frame's -/
def codeOk (n : Nat) (c : Code) : Bool := match c with
  | .region _ ops _ => allB (fun o => ltO o.dst n) ops.toList
  | .seq a b => cond (codeOk n a) (codeOk n b) false
  | .cond _ a b => cond (codeOk n a) (codeOk n b) false
  | .block _ c => codeOk n c
  | .loop c => codeOk n c
  | .scope c => codeOk n c
  | .rangeFunc _ ps a b => cond (allB (fun p => Nat.blt p n) ps.toList) (cond (codeOk n a) (codeOk n b) false) false
  | _ => true

def enterF (T : Tab) (f : Nat) : Option (Nat → Inv → List Value → Bool → FrameMode → H → Option (End × FrameMode × H)) :=
  (T.fn f).bind fun fn => fn.body.bind fun body => (resultsF T fn.results.toList).map fun res n inv l deferred u h =>
    cond (cond (codeOk fn.ntmps body) (cond (Nat.ble l.length 60000) (Nat.ble fn.ntmps 60000) false) false) (match execF T f body n ⟨inv, deferred, false⟩ ⟨argsTm l 0 .nil, [], u, h⟩ with
    | .normal s => (leave inv (res s.tm) s.df .returning s.h).map fun (r, h') => (r, s.u, h')
    | .ret s => (leave inv (res s.tm) s.df .returning s.h).map fun (r, h') => (r, s.u, h')
    | .panic chain s => (leave inv (res s.tm) s.df (.panicking chain) s.h).map fun (r, h') => (r, s.u, h')
    | _ => none) none

/-- a call, 'n' deep at most, each loop 'fuel' rounds at most -/
def call (T : Tab) (fuel : Nat) : Nat → Inv
  | 0 => fun _ _ _ _ _ => none
  | n + 1 => fun t args deferred u h => match t with
    | .fn (.func f) ⟨captured⟩ => (match enterF T f with
      | some g => g fuel (call T fuel n) (args ++ captured) deferred u h
      | none => none)
    | .fn (.via ty ⟨path⟩ f ptr) _ => (match path, args with
      | [], _ :: _ => (match T.desc ty, ptr with
        | some (.pointer _), true => (match enterF T f with
          | some g => g fuel (call T fuel n) args deferred u h
          | none => none)
        | some (.struct _), false => (match enterF T f with
          | some g => g fuel (call T fuel n) args deferred u h
          | none => none)
        | _, _ => none)
      | _, _ => none)
    | .fn (.yield l) _ => cond deferred none (match h.get l with
      | some (.loop lo) => (match bindTm lo.params args lo.tm with
        | none => none
        | some tm => match execF T lo.fn lo.assign fuel ⟨call T fuel n, false, true⟩ ⟨tm, [], u, h⟩ with
          | .normal s => (match s.h.get l with
            | some (.loop l1) => (match l1.state with
              | .ready => (match execF T lo.fn lo.body fuel ⟨call T fuel n, false, true⟩ ⟨s.tm, s.df, u, s.h.put l (some (.loop { l1 with state := .busy }))⟩ with
                | .normal s => endRound s.h l u none
                | .exit id s => endRound s.h l u (some (.exit id))
                | .ret s => endRound s.h l u (some .ret)
                | .panic chain s => (match s.df, T.fn lo.fn with | [], some _ => some (.panicked chain, u, s.h) | _, _ => none)
                | .fail => none)
              | _ => none)
            | _ => none)
          | _ => none)
      | _ => none)
    | _ => none

end
end Go.Ev

/- What it means that the evaluator's values, temporaries and heap stand for the machine's. -/
namespace Go.Ev

/-- where an abstract block lies: the machine's block, the cell at which it begins, how many cells that block has, of which type its elements are -/
structure Im where
  blk : Nat
  off : Nat
  cap : Nat
  el : TypeId

abbrev Inj := Nat → Option Im

inductive FnR (ι : Inj) : Fn → Fn → Prop
  | func (f : FuncId) : FnR ι (.func f) (.func f)
  | via (t : TypeId) (p : Array FieldStep) (f : FuncId) (q : Bool) : FnR ι (.via t p f q) (.via t p f q)
  | yield (l : Nat) (m : Im) (h : ι l = some m) : FnR ι (.yield l) (.yield m.blk)

mutual
inductive VR (T : Tab) (ι : Inj) : Value → Value → Prop
  | bool (b : Bool) : VR T ι (.bool b) (.bool b)
  | int (k : IntKind) (n : Int) : VR T ι (.int k n) (.int k n)
  | string (s : ByteArray) : VR T ι (.string s) (.string s)
  | ptrNil : VR T ι (.pointer none) (.pointer none)
  | ptr (b o : Nat) (m : Im) (h : ι b = some m) : VR T ι (.pointer (some ⟨b, o, none⟩)) (.pointer (some ⟨m.blk, m.off + o, none⟩))
  | sliceNil (n c : Nat) (hc : c < unk) (hn : n ≤ c) : VR T ι (.slice none n c) (.slice none n c)
  | slice (b o n c : Nat) (m : Im) (h : ι b = some m) (hc : c < unk) (hn : n ≤ c) : VR T ι (.slice (some ⟨b, o, none⟩) n c) (.slice (some ⟨m.blk, m.off + o, none⟩) n c)
  | sliceUnk (b o n o' c' : Nat) (m : Im) (h : ι b = some m) (hn : n ≤ c') (room : o' + c' * T.size m.el ≤ m.cap) (place : n = 0 ∨ o' = m.off + o) :
      VR T ι (.slice (some ⟨b, o, none⟩) n unk) (.slice (some ⟨m.blk, o', none⟩) n c')
  | mapNil : VR T ι (.map none) (.map none)
  | map (r : Nat) (m : Im) (h : ι r = some m) : VR T ι (.map (some r)) (.map (some m.blk))
  | func (fn fn' : Fn) (a b a' b' : Array Value) (h : FnR ι fn fn') (h1 : VRs T ι a.toList a'.toList) (h2 : VRs T ι b.toList b'.toList) :
      VR T ι (.func fn a b) (.func fn' a' b')
  | nilFunc : VR T ι .nilFunc .nilFunc
  | nilIface : VR T ι .nilIface .nilIface
  | iface (t : TypeId) (v v' : Value) (h : VR T ι v v') : VR T ι (.iface t v) (.iface t v')
  | agg (a a' : Array Value) (h : VRs T ι a.toList a'.toList) : VR T ι (.agg a) (.agg a')
  | tuple (a a' : Array Value) (h : VRs T ι a.toList a'.toList) : VR T ι (.tuple a) (.tuple a')
  | poison (v' : Value) : VR T ι (.chan none) v'
inductive VRs (T : Tab) (ι : Inj) : List Value → List Value → Prop
  | nil : VRs T ι [] []
  | cons (v v' : Value) (l l' : List Value) (h : VR T ι v v') (hl : VRs T ι l l') : VRs T ι (v :: l) (v' :: l')
end

def Inj.le (ι ι' : Inj) : Prop := ∀ b m, ι b = some m → ι' b = some m

theorem Inj.le_refl (ι : Inj) : ι.le ι := fun _ _ h => h
theorem Inj.le_trans {a b c : Inj} (h : a.le b) (k : b.le c) : a.le c := fun _ _ e => k _ _ (h _ _ e)

theorem FnR.mono {ι ι' : Inj} (hi : ι.le ι') {f g : Fn} (h : FnR ι f g) : FnR ι' f g := by
  cases h with
  | func f => exact .func f
  | via t p f q => exact .via t p f q
  | yield l m h => exact .yield l m (hi _ _ h)

mutual
theorem VR.mono {T : Tab} {ι ι' : Inj} (hi : ι.le ι') {v v' : Value} (h : VR T ι v v') : VR T ι' v v' := by
  cases h with
  | bool b => exact .bool b
  | int k n => exact .int k n
  | string s => exact .string s
  | ptrNil => exact .ptrNil
  | ptr b o m h => exact .ptr b o m (hi _ _ h)
  | sliceNil n c hc hn => exact .sliceNil n c hc hn
  | slice b o n c m h hc hn => exact .slice b o n c m (hi _ _ h) hc hn
  | sliceUnk b o n o' c' m h hn room place => exact .sliceUnk b o n o' c' m (hi _ _ h) hn room place
  | mapNil => exact .mapNil
  | map r m h => exact .map r m (hi _ _ h)
  | func fn fn' a b a' b' h h1 h2 => exact .func fn fn' a b a' b' (h.mono hi) (h1.mono hi) (h2.mono hi)
  | nilFunc => exact .nilFunc
  | nilIface => exact .nilIface
  | iface t v v' h => exact .iface t v v' (h.mono hi)
  | agg a a' h => exact .agg a a' (h.mono hi)
  | tuple a a' h => exact .tuple a a' (h.mono hi)
  | poison v' => exact .poison v'
theorem VRs.mono {T : Tab} {ι ι' : Inj} (hi : ι.le ι') {l l' : List Value} (h : VRs T ι l l') : VRs T ι' l l' := by
  cases h with
  | nil => exact .nil
  | cons v v' l l' h hl => exact .cons v v' l l' (h.mono hi) (hl.mono hi)
end

mutual
theorem closedV_VR (T : Tab) (ι : Inj) : ∀ (v : Value), closedV v = true → VR T ι v v
  | .bool b, _ => .bool b
  | .int k n, _ => .int k n
  | .string s, _ => .string s
  | .pointer none, _ => .ptrNil
  | .map none, _ => .mapNil
  | .nilFunc, _ => .nilFunc
  | .nilIface, _ => .nilIface
  | .slice none n c, h => by
    have h' : cond (Nat.ble n c) (Nat.blt c unk) false = true := h
    cases hb : Nat.ble n c with
    | false => simp [hb] at h'
    | true =>
      simp only [hb, cond_true] at h'
      exact .sliceNil n c (by simpa [Nat.blt_eq] using h') (Nat.le_of_ble_eq_true hb)
  | .func (.func f) ⟨a⟩ ⟨b⟩, h => by
    have h' : cond (closedL a) (closedL b) false = true := h
    cases ha : closedL a with
    | false => simp [ha] at h'
    | true =>
      simp [ha] at h'
      exact .func _ _ _ _ _ _ (.func f) (closedL_VRs T ι a ha) (closedL_VRs T ι b h')
  | .iface t v, h => .iface t v v (closedV_VR T ι v h)
  | .agg ⟨a⟩, h => .agg _ _ (closedL_VRs T ι a h)
  | .tuple ⟨a⟩, h => .tuple _ _ (closedL_VRs T ι a h)
  | .float .., h => by simp [closedV] at h
  | .complex .., h => by simp [closedV] at h
  | .pointer (some _), h => by simp [closedV] at h
  | .map (some _), h => by simp [closedV] at h
  | .slice (some _) _ _, h => by simp [closedV] at h
  | .chan _, h => by simp [closedV] at h
  | .func (.method _) _ _, h => by simp [closedV] at h
  | .func (.methodOf _ _) _ _, h => by simp [closedV] at h
  | .func (.via _ _ _ _) _ _, h => by simp [closedV] at h
  | .func (.yield _) _ _, h => by simp [closedV] at h
theorem closedL_VRs (T : Tab) (ι : Inj) : ∀ (l : List Value), closedL l = true → VRs T ι l l
  | [], _ => .nil
  | v :: l, h => by
    have h' : cond (closedV v) (closedL l) false = true := h
    cases hv : closedV v with
    | false => simp [hv] at h'
    | true =>
      simp [hv] at h'
      exact .cons _ _ _ _ (closedV_VR T ι v hv) (closedL_VRs T ι l h')
end

/-- Lists of values that stand for one another. -/
theorem VRs.length {T : Tab} {ι : Inj} {l l' : List Value} (h : VRs T ι l l') : l.length = l'.length := by
  induction l generalizing l' with
  | nil => cases h; rfl
  | cons v l ih => cases h with | cons _ _ _ _ _ hl => simp [ih hl]

theorem VRs.get {T : Tab} {ι : Inj} {l l' : List Value} (h : VRs T ι l l') {i : Nat} {v : Value} (hv : l[i]? = some v) : ∃ v', l'[i]? = some v' ∧ VR T ι v v' := by
  induction l generalizing l' i with
  | nil => simp at hv
  | cons x l ih =>
    cases h with
    | cons _ v' _ l' hx hl =>
      cases i with
      | zero => simp at hv; subst hv; exact ⟨v', rfl, hx⟩
      | succ i => simp at hv; simpa using ih hl hv

theorem VRs.of_get {T : Tab} {ι : Inj} {l l' : List Value} (hlen : l.length = l'.length)
    (h : ∀ (i : Nat) v v', l[i]? = some v → l'[i]? = some v' → VR T ι v v') : VRs T ι l l' := by
  induction l generalizing l' with
  | nil => cases l' with | nil => exact .nil | cons _ _ => simp at hlen
  | cons x l ih =>
    cases l' with
    | nil => simp at hlen
    | cons y l' =>
      refine .cons _ _ _ _ (h 0 x y rfl rfl) (ih (by simpa using hlen) fun i v v' h1 h2 => h (i + 1) v v' (by simpa using h1) (by simpa using h2))

theorem VRs.append {T : Tab} {ι : Inj} {a a' b b' : List Value} (h : VRs T ι a a') (k : VRs T ι b b') : VRs T ι (a ++ b) (a' ++ b') := by
  induction a generalizing a' with
  | nil => cases h; exact k
  | cons x l ih => cases h with | cons _ _ _ _ hx hl => exact .cons _ _ _ _ hx (ih hl)

theorem VRs.take {T : Tab} {ι : Inj} {a a' : List Value} (h : VRs T ι a a') (n : Nat) : VRs T ι (a.take n) (a'.take n) := by
  induction n generalizing a a' with
  | zero => simp; exact .nil
  | succ n ih => cases h with | nil => exact .nil | cons _ _ _ _ hx hl => exact .cons _ _ _ _ hx (ih hl)

theorem VRs.drop {T : Tab} {ι : Inj} {a a' : List Value} (h : VRs T ι a a') (n : Nat) : VRs T ι (a.drop n) (a'.drop n) := by
  induction n generalizing a a' with
  | zero => simpa using h
  | succ n ih => cases h with | nil => exact .nil | cons _ _ _ _ hx hl => simpa using ih hl

theorem flat_VR {T : Tab} {ι : Inj} {v v' : Value} (h : VR T ι v v') (hf : flat v = true) : flat v' = true := by
  cases h <;> first | rfl | simp_all [flat]

theorem flatL_mem {l : List Value} : flatL l = true ↔ ∀ v ∈ l, flat v = true := by
  induction l with
  | nil => simp [flatL]
  | cons v l ih => simp [flatL, ih]

/-- The trees that hold values by number. -/
theorem TT.get_nil {α : Type} (k : Nat) : (TT.nil : TT α).get k = none := rfl
theorem TT.get_zero {α : Type} (l r : TT α) (v : Option α) : (TT.node l v r).get 0 = v := rfl
theorem TT.get_succ {α : Type} (l r : TT α) (v : Option α) (k : Nat) : (TT.node l v r).get (k + 1) = if k % 2 = 0 then l.get (k / 2) else r.get (k / 2) := by
  show Bool.rec (motive := fun _ => Option α) (r.get (k / 2)) (l.get (k / 2)) (Nat.beq (k % 2) 0) = _
  by_cases h : k % 2 = 0
  · simp [h]
  · rw [if_neg h]
    have : Nat.beq (k % 2) 0 = false := by
      rw [Bool.eq_false_iff]; intro h'; exact h (Nat.eq_of_beq_eq_true h')
    rw [this]

theorem TT.set_zero {α : Type} (v : Option α) (t : TT α) (k : Nat) : TT.set v 0 t k = t := rfl
theorem TT.set_nil_zero {α : Type} (v : Option α) (n : Nat) : TT.set v (n + 1) .nil 0 = .node .nil v .nil := rfl
theorem TT.set_nil_succ {α : Type} (v : Option α) (n k : Nat) : TT.set v (n + 1) .nil (k + 1) =
    if k % 2 = 0 then .node (TT.set v n .nil (k / 2)) none .nil else .node .nil none (TT.set v n .nil (k / 2)) := by
  show Bool.rec (motive := fun _ => TT α) (TT.node .nil none (TT.set v n .nil (k / 2))) (.node (TT.set v n .nil (k / 2)) none .nil) (Nat.beq (k % 2) 0) = _
  by_cases h : k % 2 = 0
  · simp [h]
  · rw [if_neg h]
    have : Nat.beq (k % 2) 0 = false := by
      rw [Bool.eq_false_iff]; intro h'; exact h (Nat.eq_of_beq_eq_true h')
    rw [this]
theorem TT.set_node_zero {α : Type} (v x : Option α) (l r : TT α) (n : Nat) : TT.set v (n + 1) (.node l x r) 0 = .node l v r := rfl
theorem TT.set_node_succ {α : Type} (v x : Option α) (l r : TT α) (n k : Nat) : TT.set v (n + 1) (.node l x r) (k + 1) =
    if k % 2 = 0 then .node (TT.set v n l (k / 2)) x r else .node l x (TT.set v n r (k / 2)) := by
  show Bool.rec (motive := fun _ => TT α) (TT.node l x (TT.set v n r (k / 2))) (.node (TT.set v n l (k / 2)) x r) (Nat.beq (k % 2) 0) = _
  by_cases h : k % 2 = 0
  · simp [h]
  · rw [if_neg h]
    have : Nat.beq (k % 2) 0 = false := by
      rw [Bool.eq_false_iff]; intro h'; exact h (Nat.eq_of_beq_eq_true h')
    rw [this]

theorem TT.get_set_ne {α : Type} (v : Option α) (n : Nat) (t : TT α) (k j : Nat) (h : j ≠ k) : (TT.set v n t k).get j = t.get j := by
  induction n generalizing t k j with
  | zero => rfl
  | succ n ih =>
    cases t with
    | nil =>
      cases k with
      | zero =>
        cases j with
        | zero => exact absurd rfl h
        | succ j => rw [TT.set_nil_zero, TT.get_succ]; split <;> rfl
      | succ k =>
        rw [TT.set_nil_succ]
        split
        · cases j with
          | zero => rfl
          | succ j =>
            rw [TT.get_succ]
            split
            · rw [ih _ _ _ (by omega)]; rfl
            · rfl
        · cases j with
          | zero => rfl
          | succ j =>
            rw [TT.get_succ]
            split
            · rfl
            · rw [ih _ _ _ (by omega)]; rfl
    | node l x r =>
      cases k with
      | zero =>
        cases j with
        | zero => exact absurd rfl h
        | succ j => rw [TT.set_node_zero, TT.get_succ, TT.get_succ]
      | succ k =>
        rw [TT.set_node_succ]
        split
        · cases j with
          | zero => rfl
          | succ j =>
            rw [TT.get_succ, TT.get_succ]
            split
            · rw [ih _ _ _ (by omega)]
            · rfl
        · cases j with
          | zero => rfl
          | succ j =>
            rw [TT.get_succ, TT.get_succ]
            split
            · rfl
            · rw [ih _ _ _ (by omega)]

theorem TT.get_set_eq {α : Type} (v : Option α) (n : Nat) (t : TT α) (k : Nat) (h : k + 1 < 2 ^ n) : (TT.set v n t k).get k = v := by
  induction n generalizing t k with
  | zero => simp at h
  | succ n ih =>
    have h2 : 2 ^ (n + 1) = 2 ^ n * 2 := Nat.pow_succ ..
    cases t with
    | nil =>
      cases k with
      | zero => rfl
      | succ k =>
        rw [TT.set_nil_succ]
        split
        · rw [TT.get_succ, if_pos (by assumption)]; exact ih _ _ (by omega)
        · rw [TT.get_succ, if_neg (by assumption)]; exact ih _ _ (by omega)
    | node l x r =>
      cases k with
      | zero => rfl
      | succ k =>
        rw [TT.set_node_succ]
        split
        · rw [TT.get_succ, if_pos (by assumption)]; exact ih _ _ (by omega)
        · rw [TT.get_succ, if_neg (by assumption)]; exact ih _ _ (by omega)

theorem nth?_eq {α : Type} (l : List α) (i : Nat) : nth? l i = l[i]? := by
  induction l generalizing i with
  | nil => rfl
  | cons v l ih => cases i with
    | zero => rfl
    | succ i => show nth? l i = _; rw [ih]; simp

theorem fN_eq {α : Type} (k : Nat → α) (n : Nat) : fN k n = k n := by cases n <;> rfl
theorem fI_eq {α : Type} (k : Int → α) (n : Int) : fI k n = k n := by cases n <;> simp [fI, fN_eq]

theorem splice_eq (vs cs : List Value) (n : Nat) (r : List Value) (h : splice vs cs n = some r) : n + vs.length ≤ cs.length ∧ r = cs.take n ++ vs ++ cs.drop (n + vs.length) := by
  induction cs generalizing n r with
  | nil =>
    cases n with
    | zero =>
      have h' : Bool.rec (motive := fun _ => Option (List Value)) none (some vs) (Nat.beq vs.length 0) = some r := h
      cases hb : Nat.beq vs.length 0 with
      | false => rw [hb] at h'; simp at h'
      | true =>
        rw [hb] at h'
        have := Nat.eq_of_beq_eq_true hb
        have hv : vs = [] := List.length_eq_zero_iff.1 this
        simp at h'; subst hv; subst h'; simp
    | succ n => exact absurd h (by intro h; cases h)
  | cons c cs ih =>
    cases n with
    | zero =>
      have h' : Bool.rec (motive := fun _ => Option (List Value)) none (some (vs ++ (c :: cs).drop vs.length)) (Nat.ble vs.length (c :: cs).length) = some r := h
      cases hb : Nat.ble vs.length (c :: cs).length with
      | false => rw [hb] at h'; simp at h'
      | true =>
        rw [hb] at h'
        have := Nat.le_of_ble_eq_true hb
        simp only [Option.some.injEq] at h'
        exact ⟨by omega, by rw [← h']; simp⟩
    | succ n =>
      have h' : (splice vs cs n).map (c :: ·) = some r := h
      rw [Option.map_eq_some_iff] at h'
      obtain ⟨r', hr, rfl⟩ := h'
      obtain ⟨h1, h2⟩ := ih n r' hr
      refine ⟨by simp; omega, ?_⟩
      rw [h2]
      simp [Nat.add_right_comm]

/-- the temporaries -/
def TmR (T : Tab) (ι : Inj) (tm : Tm) (a : Array Value) : Prop := ∀ i, VR T ι (nth tm i) (a.getD i undef)

theorem TmR.mono {T : Tab} {ι ι' : Inj} (hi : ι.le ι') {tm : Tm} {a : Array Value} (h : TmR T ι tm a) : TmR T ι' tm a := fun i => (h i).mono hi

theorem nth_upd_ne (tm : Tm) (i j : Nat) (v : Value) (h : j ≠ i) : nth (upd tm i v) j = nth tm j := by
  unfold nth upd; rw [TT.get_set_ne _ _ _ _ _ h]
theorem nth_upd_eq (tm : Tm) (i : Nat) (v : Value) (h : i < 65535) : nth (upd tm i v) i = v := by
  unfold nth upd; rw [TT.get_set_eq _ _ _ _ (by omega)]

theorem TmR.upd {T : Tab} {ι : Inj} {tm : Tm} {a : Array Value} (h : TmR T ι tm a) {i : Nat} (hi : i < a.size) (hs : i < 65535) {v v' : Value} (hv : VR T ι v v') :
    TmR T ι (upd tm i v) (a.setIfInBounds i v') := by
  intro j
  by_cases hj : j = i
  · subst hj
    rw [nth_upd_eq _ _ _ hs]
    simpa [Array.getD_eq_getD_getElem?, Array.getElem?_setIfInBounds, hi] using hv
  · rw [nth_upd_ne _ _ _ _ hj]
    have := h j
    simpa [Array.getD_eq_getD_getElem?, Array.getElem?_setIfInBounds, Ne.symm hj] using this

theorem TmR.put {T : Tab} {ι : Inj} {tm : Tm} {a : Act} (h : TmR T ι tm a.tmps) {d : Option Nat} (hd : ltO d a.tmps.size = true) (hs : a.tmps.size ≤ 65535) {v v' : Value} (hv : VR T ι v v') :
    TmR T ι (putD d tm v) (a.put d v').tmps := by
  cases d with
  | none => exact h
  | some d =>
    have hd' : d < a.tmps.size := by simpa [ltO, Nat.blt_eq] using hd
    exact h.upd hd' (by omega) hv

theorem put_size (a : Act) (d : Option Nat) (v : Value) : (a.put d v).tmps.size = a.tmps.size := by
  cases d <;> simp [Act.put]

end Go.Ev

/- What it means that the evaluator's heap stands for the machine's, and what a step keeps. -/
namespace Go.Ev

structure EntR (T : Tab) (ι : Inj) (e e' : MapEntry) : Prop where
  key : e'.key = e.key
  plain : closedV e.key = true
  val : VR T ι e.val e'.val
  born : e'.born = e.born

inductive Ents (T : Tab) (ι : Inj) : List MapEntry → List MapEntry → Prop
  | nil : Ents T ι [] []
  | cons (e e' : MapEntry) (l l' : List MapEntry) (h : EntR T ι e e') (hl : Ents T ι l l') : Ents T ι (e :: l) (e' :: l')

inductive ObjR (T : Tab) (ι : Inj) : AObj → Obj → Im → Prop
  | cells (cs : List Value) (c : Array Value) (own : Bool) (fz : Nat × Nat) (m : Im) (hcap : c.size = m.cap) (hflat : flatL cs = true)
      (hlen : m.off + cs.length ≤ c.size) (hc : ∀ (i : Nat) v, cs[i]? = some v → ∃ v', c[m.off + i]? = some v' ∧ VR T ι v v') (hown : own = true → fz = (0, 0)) :
      ObjR T ι (.cells cs m.el own) (.cells c m.el fz) m
  | map (es : List MapEntry) (es' : Array MapEntry) (clock : Nat) (m : Im) (h : Ents T ι es es'.toList) : ObjR T ι (.map es clock) (.map es' clock) m
  | iterNil (since : Nat) (seen : Array Nat) (st : Nat) (m : Im) (h0 : m.off = 0) : ObjR T ι (.mapIter none since seen.toList st) (.mapIter none since seen st) m
  | iter (r : Nat) (mr : Im) (hr : ι r = some mr) (since : Nat) (seen : Array Nat) (st : Nat) (m : Im) (h0 : m.off = 0) :
      ObjR T ι (.mapIter (some r) since seen.toList st) (.mapIter (some mr.blk) since seen st) m
  | loop (l : ALoop) (l' : Loop) (n : Nat) (m : Im) (hs : l'.state = l.state) (hp : l'.pending = l.pending) (hf : l'.fn = l.fn) (ht : TmR T ι l.tm l'.tmps)
      (hps : l'.params.toList = l.params) (ha : l'.assign = l.assign) (hb : l'.body = l.body) (hn : n ≤ l'.tmps.size) (hn' : l'.tmps.size ≤ 65535)
      (hok : allB (fun p => Nat.blt p n) l.params = true) (hok1 : codeOk n l.assign = true) (hok2 : codeOk n l.body = true) : ObjR T ι (.loop l) (.loop l') m
  | noneLeft (m : Im) : ObjR T ι (.deferred (some [])) (.deferred (some [])) m
  | taken (m : Im) : ObjR T ι (.deferred none) (.deferred none) m

theorem Ents.mono {T : Tab} {ι ι' : Inj} (hi : ι.le ι') {l l' : List MapEntry} (h : Ents T ι l l') : Ents T ι' l l' := by
  induction h with
  | nil => exact .nil
  | cons e e' l l' h _ ih => exact .cons _ _ _ _ ⟨h.key, h.plain, h.val.mono hi, h.born⟩ ih

theorem ObjR.mono {T : Tab} {ι ι' : Inj} (hi : ι.le ι') {o : AObj} {ob : Obj} {m : Im} (h : ObjR T ι o ob m) : ObjR T ι' o ob m := by
  cases h with
  | cells cs c own fz m hcap hflat hlen hc hown => exact .cells cs c own fz m hcap hflat hlen (fun i v hv => let ⟨v', h1, h2⟩ := hc i v hv; ⟨v', h1, h2.mono hi⟩) hown
  | map es es' clock m h => exact .map es es' clock m (h.mono hi)
  | iterNil since seen st m h0 => exact .iterNil since seen st m h0
  | iter r mr hr since seen st m h0 => exact .iter r mr (hi _ _ hr) since seen st m h0
  | loop l l' n m hs hp hf ht hps ha hb hn hn' hok hok1 hok2 => exact .loop l l' n m hs hp hf (ht.mono hi) hps ha hb hn hn' hok hok1 hok2
  | noneLeft m => exact .noneLeft m
  | taken m => exact .taken m

/-- no string shares its cells -/
def Bare (o : Obj) : Prop := ∀ c t fz, o = .cells c t fz → fz = (0, 0)

def AObj.owned : AObj → Bool
  | .cells _ _ own => own
  | _ => true

theorem ObjR.bare {T : Tab} {ι : Inj} {o : AObj} {ob : Obj} {m : Im} (h : ObjR T ι o ob m) (ho : o.owned = true) : Bare ob := by
  intro c t fz he
  cases h with
  | cells cs c own fz m hcap hflat hlen hc hown => cases he; exact hown ho
  | _ => cases he

structure WR (T : Tab) (ι : Inj) (h : H) (w : World) : Prop where
  live : ∀ b o m, h.get b = some o → ι b = some m → ∃ ob, w.heap[m.blk]? = some ob ∧ ObjR T ι o ob m
  ids : ∀ b m, ι b = some m → b < h.next
  fresh : ∀ b o, h.get b = some o → b < h.next
  bound : ∀ b m, ι b = some m → m.blk < w.heap.size
  excl : ∀ b b' o o' m m', b ≠ b' → h.get b = some o → o.owned = true → h.get b' = some o' → ι b = some m → ι b' = some m' → m.blk ≠ m'.blk
  lim : h.next ≤ 2147483648
  glob : ∀ g, g < ngl → ∃ m, ι g = some m ∧ m.blk = g ∧ m.off = 0

/-- the machine's block is one that may be written through the abstract heap -/
def Own (ι : Inj) (h : H) (k : Nat) : Prop := ∃ b o m, h.get b = some o ∧ o.owned = true ∧ ι b = some m ∧ m.blk = k

/-- no id that is present leads to the machine's block -/
def Free (ι : Inj) (h : H) (k : Nat) : Prop := ∀ b o m, h.get b = some o → ι b = some m → m.blk ≠ k

theorem Free.not_own {ι : Inj} {h : H} {k : Nat} (hf : Free ι h k) : ¬ Own ι h k := fun ⟨b, o, m, h1, _, h3, h4⟩ => hf b o m h1 h3 h4

/-- what a step keeps -/
structure Keep (ι : Inj) (h : H) (w : World) (ι' : Inj) (h' : H) (w' : World) : Prop where
  le : ι.le ι'
  new : ∀ b, b < h.next → ι b = none → ι' b = none
  next : h.next ≤ h'.next
  size : w.heap.size ≤ w'.heap.size
  os : w'.os = w.os
  output : w'.output = w.output
  kept : ∀ k, k < w.heap.size → ¬ Own ι h k → w'.heap[k]? = w.heap[k]? ∧ ¬ Own ι' h' k
  same : ∀ b, b < h.next → ι b = none → h'.get b = h.get b
  void : ∀ b, b < h.next → h.get b = none → h'.get b = none
  free : ∀ k, k < w.heap.size → Free ι h k → Free ι' h' k
  thaw : ∀ a, w'.frozen? a = true → w.frozen? a = true

theorem Keep.refl (ι : Inj) (h : H) (w : World) : Keep ι h w ι h w :=
  ⟨ι.le_refl, fun _ _ h => h, Nat.le_refl _, Nat.le_refl _, rfl, rfl, fun _ _ h => ⟨rfl, h⟩, fun _ _ _ => rfl, fun _ _ h => h, fun _ _ h => h, fun _ h => h⟩

theorem Keep.trans {ι₁ ι₂ ι₃ : Inj} {h₁ h₂ h₃ : H} {w₁ w₂ w₃ : World} (a : Keep ι₁ h₁ w₁ ι₂ h₂ w₂) (b : Keep ι₂ h₂ w₂ ι₃ h₃ w₃) : Keep ι₁ h₁ w₁ ι₃ h₃ w₃ where
  le := Inj.le_trans a.le b.le
  new k hk hn := b.new k (Nat.lt_of_lt_of_le hk a.next) (a.new k hk hn)
  next := Nat.le_trans a.next b.next
  size := Nat.le_trans a.size b.size
  os := b.os.trans a.os
  output := b.output.trans a.output
  kept k hk hn := by
    obtain ⟨h1, h2⟩ := a.kept k hk hn
    obtain ⟨h3, h4⟩ := b.kept k (Nat.lt_of_lt_of_le hk a.size) h2
    exact ⟨h3.trans h1, h4⟩
  same k hk hn := (b.same k (Nat.lt_of_lt_of_le hk a.next) (a.new k hk hn)).trans (a.same k hk hn)
  void k hk hn := b.void k (Nat.lt_of_lt_of_le hk a.next) (a.void k hk hn)
  free k hk hn := b.free k (Nat.lt_of_lt_of_le hk a.size) (a.free k hk hn)
  thaw x hx := a.thaw x (b.thaw x hx)

/-- a draw alone -/
theorem WR.drawn {T : Tab} {ι : Inj} {h : H} {w : World} (hw : WR T ι h w) (n : Nat) : WR T ι h { w with drawn := n } :=
  ⟨hw.live, hw.ids, hw.fresh, hw.bound, hw.excl, hw.lim, hw.glob⟩
theorem Keep.drawn (ι : Inj) (h : H) (w : World) (n : Nat) : Keep ι h w ι h { w with drawn := n } :=
  ⟨ι.le_refl, fun _ _ h => h, Nat.le_refl _, Nat.le_refl _, rfl, rfl, fun _ _ h => ⟨rfl, h⟩, fun _ _ _ => rfl, fun _ _ h => h, fun _ _ h => h, fun _ h => h⟩

def Inj.ins (ι : Inj) (b : Nat) (m : Im) : Inj := fun k => if k = b then some m else ι k

theorem Inj.ins_eq (ι : Inj) (b : Nat) (m : Im) : ι.ins b m b = some m := by simp [Inj.ins]
theorem Inj.ins_ne (ι : Inj) {b k : Nat} (m : Im) (h : k ≠ b) : ι.ins b m k = ι k := by simp [Inj.ins, h]
theorem Inj.le_ins (ι : Inj) {b : Nat} (m : Im) (h : ι b = none) : ι.le (ι.ins b m) := by
  intro k x hx
  by_cases hk : k = b
  · subst hk; rw [h] at hx; cases hx
  · rw [Inj.ins_ne _ _ hk]; exact hx

theorem H.get_put_ne (h : H) (b k : Nat) (o : Option AObj) (hk : k ≠ b) : (h.put b o).get k = h.get k := TT.get_set_ne o 32 h.tr b k hk
theorem H.get_put_eq (h : H) (b : Nat) (o : Option AObj) (hb : b < 2147483648) : (h.put b o).get b = o := TT.get_set_eq o 32 h.tr b (by omega)

theorem H.new_eq {h : H} {o : AObj} {b : Nat} {h' : H} (e : h.new o = some (b, h')) :
    b = h.next ∧ h.next < 2147483648 ∧ h'.next = h.next + 1 ∧ (∀ k, k ≠ h.next → h'.get k = h.get k) ∧ h'.get h.next = some o := by
  unfold H.new at e
  rw [fN_eq] at e
  cases hb : Nat.blt h.next 2147483648 with
  | false => rw [hb] at e; simp at e
  | true =>
    rw [hb] at e
    have hlt : h.next < 2147483648 := by simpa [Nat.blt_eq] using hb
    simp only [cond_true, Option.some.injEq, Prod.mk.injEq] at e
    obtain ⟨rfl, rfl⟩ := e
    exact ⟨rfl, hlt, rfl, fun k hk => TT.get_set_ne (some o) 32 h.tr h.next k hk, TT.get_set_eq (some o) 32 h.tr h.next (by omega)⟩

theorem heap_alloc_lt (w : World) (ob : Obj) {k : Nat} (hk : k < w.heap.size) : (w.alloc ob).heap[k]? = w.heap[k]? := by
  show (w.heap.push ob)[k]? = _
  rw [Array.getElem?_push, if_neg (by omega)]
theorem heap_alloc_eq (w : World) (ob : Obj) : (w.alloc ob).heap[w.heap.size]? = some ob := by
  show (w.heap.push ob)[w.heap.size]? = _
  simp
theorem alloc_size (w : World) (ob : Obj) : (w.alloc ob).heap.size = w.heap.size + 1 := by
  show (w.heap.push ob).size = _
  simp

/-- A block that nobody knew is put beside the others: at an id that stands for nothing yet. -/
theorem WR.add {T : Tab} {ι : Inj} {h h' : H} {w : World} (hw : WR T ι h w) {b : Nat} {o : AObj} {ob : Obj} {m : Im}
    (hb : ι b = none) (hbn : b < h'.next) (hnext : h.next ≤ h'.next) (hlim : h'.next ≤ 2147483648)
    (hne : ∀ k, k ≠ b → h'.get k = h.get k) (heq : h'.get b = some o) (hm : m.blk = w.heap.size)
    (hob : ObjR T (ι.ins b m) o ob m) : WR T (ι.ins b m) h' (w.alloc ob) where
  live k x mk hk hik := by
    by_cases hkb : k = b
    · subst hkb
      rw [Inj.ins_eq] at hik; cases hik
      rw [heq] at hk; cases hk
      exact ⟨ob, by rw [hm]; exact heap_alloc_eq w ob, hob⟩
    · rw [Inj.ins_ne _ _ hkb] at hik
      rw [hne k hkb] at hk
      obtain ⟨x', h1, h2⟩ := hw.live k x mk hk hik
      exact ⟨x', by rw [heap_alloc_lt _ _ (hw.bound _ _ hik)]; exact h1, h2.mono (Inj.le_ins _ _ hb)⟩
  ids k mk hik := by
    by_cases hkb : k = b
    · subst hkb; exact hbn
    · rw [Inj.ins_ne _ _ hkb] at hik; exact Nat.lt_of_lt_of_le (hw.ids _ _ hik) hnext
  fresh k x hk := by
    by_cases hkb : k = b
    · subst hkb; exact hbn
    · rw [hne k hkb] at hk; exact Nat.lt_of_lt_of_le (hw.fresh _ _ hk) hnext
  bound k mk hik := by
    rw [alloc_size]
    by_cases hkb : k = b
    · subst hkb; rw [Inj.ins_eq] at hik; cases hik; omega
    · rw [Inj.ins_ne _ _ hkb] at hik; have := hw.bound _ _ hik; omega
  excl k k' x x' mk mk' hkk hk hx hk' hik hik' := by
    by_cases hkb : k = b
    · subst hkb
      have hkb' : k' ≠ k := fun e => hkk e.symm
      rw [Inj.ins_eq] at hik; cases hik
      rw [Inj.ins_ne _ _ hkb'] at hik'
      have := hw.bound _ _ hik'
      omega
    · rw [Inj.ins_ne _ _ hkb] at hik
      rw [hne k hkb] at hk
      by_cases hkb' : k' = b
      · subst hkb'
        rw [Inj.ins_eq] at hik'; cases hik'
        have := hw.bound _ _ hik
        omega
      · rw [Inj.ins_ne _ _ hkb'] at hik'
        rw [hne k' hkb'] at hk'
        exact hw.excl k k' x x' mk mk' hkk hk hx hk' hik hik'
  lim := hlim
  glob g hg := let ⟨m', h1, h2⟩ := hw.glob g hg; ⟨m', Inj.le_ins _ _ hb _ _ h1, h2⟩

theorem thaw_alloc {w : World} {ob : Obj} (hb : Bare ob) {x : Addr} (hx : (w.alloc ob).frozen? x = true) : w.frozen? x = true := by
  unfold World.frozen? at hx ⊢
  by_cases h1 : x.block < w.heap.size
  · rw [heap_alloc_lt _ _ h1] at hx; exact hx
  · by_cases h2 : x.block = w.heap.size
    · rw [h2, heap_alloc_eq] at hx
      cases ob with
      | cells c t fz =>
        have := hb c t fz rfl
        subst this
        simp at hx
      | _ => simp at hx
    · rw [Array.getElem?_eq_none (by rw [alloc_size]; omega)] at hx
      simp at hx

theorem thaw_write {w w' : World} {b : Nat} (hne : ∀ k, k ≠ b → w'.heap[k]? = w.heap[k]?) (hbare : ∀ ob, w'.heap[b]? = some ob → Bare ob) {x : Addr} (hx : w'.frozen? x = true) : w.frozen? x = true := by
  unfold World.frozen? at hx ⊢
  by_cases h1 : x.block = b
  · rw [h1] at hx
    cases hy : w'.heap[b]? with
    | none => rw [hy] at hx; simp at hx
    | some ob =>
      rw [hy] at hx
      cases ob with
      | cells c t fz =>
        have := hbare _ hy c t fz rfl
        subst this
        simp at hx
      | _ => simp at hx
  · rw [hne _ h1] at hx; exact hx

theorem Keep.add {T : Tab} {ι : Inj} {h h' : H} {w : World} (hw : WR T ι h w) {b : Nat} {ob : Obj} {m : Im}
    (hb : ι b = none) (hbn : h.next ≤ b) (hnext : h.next ≤ h'.next)
    (hne : ∀ k, k ≠ b → h'.get k = h.get k) (hm : m.blk = w.heap.size) (hbare : Bare ob) : Keep ι h w (ι.ins b m) h' (w.alloc ob) where
  le := Inj.le_ins _ _ hb
  new k hk hn := by rw [Inj.ins_ne _ _ (by omega)]; exact hn
  next := hnext
  size := by rw [alloc_size]; omega
  os := rfl
  output := rfl
  kept k hk hn := by
    refine ⟨heap_alloc_lt _ _ hk, ?_⟩
    rintro ⟨k', x, mk, h1, h2, h3, h4⟩
    by_cases hkb : k' = b
    · subst hkb; rw [Inj.ins_eq] at h3; cases h3; omega
    · rw [Inj.ins_ne _ _ hkb] at h3
      rw [hne k' hkb] at h1
      exact hn ⟨k', x, mk, h1, h2, h3, h4⟩
  same k hk _ := hne k (by omega)
  void k hk hn := by rw [hne k (by omega)]; exact hn
  free k hk hf k' x mk h1 h3 := by
    by_cases hkb : k' = b
    · subst hkb; rw [Inj.ins_eq] at h3; cases h3; omega
    · rw [Inj.ins_ne _ _ hkb] at h3
      rw [hne k' hkb] at h1
      exact hf k' x mk h1 h3
  thaw x hx := thaw_alloc hbare hx

/-- A new block at the next id. -/
theorem WR.alloc {T : Tab} {ι : Inj} {h h' : H} {w : World} (hw : WR T ι h w) {b : Nat} {o : AObj} (how : o.owned = true) (e : h.new o = some (b, h')) {ob : Obj} {m : Im} (hm : m.blk = w.heap.size)
    (hob : ObjR T (ι.ins b m) o ob m) : WR T (ι.ins b m) h' (w.alloc ob) ∧ Keep ι h w (ι.ins b m) h' (w.alloc ob) ∧ ι b = none := by
  obtain ⟨rfl, h1, h2, h3, h4⟩ := H.new_eq e
  have hn : ι h.next = none := by
    cases hi : ι h.next with
    | none => rfl
    | some x => exact absurd (hw.ids _ _ hi) (by omega)
  exact ⟨hw.add hn (by omega) (by omega) (by omega) h3 h4 hm hob, Keep.add hw hn (Nat.le_refl _) (by omega) h3 hm (hob.bare how), hn⟩

/-- One block of the evaluator's own is written, in place. -/
theorem WR.write {T : Tab} {ι : Inj} {h : H} {w w' : World} (hw : WR T ι h w) {b : Nat} {o o' : AObj} {ob' : Obj} {m : Im}
    (hb : h.get b = some o) (ho : o.owned = true) (hm : ι b = some m) (hsz : w'.heap.size = w.heap.size)
    (hne : ∀ k, k ≠ m.blk → w'.heap[k]? = w.heap[k]?) (heq : w'.heap[m.blk]? = some ob') (hob : ObjR T ι o' ob' m) : WR T ι (h.put b (some o')) w' where
  live k x mk hk hik := by
    have hlt := hw.fresh _ _ hb
    have := hw.lim
    by_cases hkb : k = b
    · subst hkb
      rw [H.get_put_eq _ _ _ (by omega)] at hk; cases hk
      rw [hm] at hik; cases hik
      exact ⟨ob', heq, hob⟩
    · rw [H.get_put_ne _ _ _ _ hkb] at hk
      obtain ⟨x', h1, h2⟩ := hw.live k x mk hk hik
      exact ⟨x', by rw [hne _ (hw.excl b k o x m mk (Ne.symm hkb) hb ho hk hm hik).symm]; exact h1, h2⟩
  ids := hw.ids
  fresh k x hk := by
    by_cases hkb : k = b
    · subst hkb; exact hw.fresh _ _ hb
    · rw [H.get_put_ne _ _ _ _ hkb] at hk; exact hw.fresh _ _ hk
  bound k mk hik := by rw [hsz]; exact hw.bound _ _ hik
  excl k k' x x' mk mk' hkk hk hx hk' hik hik' := by
    have hlt := hw.fresh _ _ hb
    have := hw.lim
    by_cases hkb : k = b
    · subst hkb
      have hkb' : k' ≠ k := fun e => hkk e.symm
      rw [H.get_put_ne _ _ _ _ hkb'] at hk'
      exact hw.excl k k' o x' mk mk' hkk hb ho hk' hik hik'
    · rw [H.get_put_ne _ _ _ _ hkb] at hk
      by_cases hkb' : k' = b
      · subst hkb'
        exact hw.excl k k' x o mk mk' hkk hk hx hb hik hik'
      · rw [H.get_put_ne _ _ _ _ hkb'] at hk'
        exact hw.excl k k' x x' mk mk' hkk hk hx hk' hik hik'
  lim := hw.lim
  glob := hw.glob

theorem Keep.write {T : Tab} {ι : Inj} {h : H} {w w' : World} (hw : WR T ι h w) {b : Nat} {o o' : AObj} {m : Im}
    (hb : h.get b = some o) (ho : o.owned = true) (hm : ι b = some m) (hsz : w'.heap.size = w.heap.size)
    (hne : ∀ k, k ≠ m.blk → w'.heap[k]? = w.heap[k]?) (hos : w'.os = w.os) (_ht : w'.tape = w.tape) (hout : w'.output = w.output) (hbare : ∀ ob, w'.heap[m.blk]? = some ob → Bare ob) : Keep ι h w ι (h.put b (some o')) w' where
  le := ι.le_refl
  new _ _ h := h
  next := Nat.le_refl _
  size := by rw [hsz]; exact Nat.le_refl _
  os := hos
  output := hout
  kept k hk hn := by
    have hkm : k ≠ m.blk := fun e => hn ⟨b, o, m, hb, ho, hm, e.symm⟩
    refine ⟨hne k hkm, ?_⟩
    rintro ⟨k', x, mk, h1, h2, h3, h4⟩
    by_cases hkb : k' = b
    · subst hkb; rw [hm] at h3; cases h3; exact hkm h4.symm
    · rw [H.get_put_ne _ _ _ _ hkb] at h1
      exact hn ⟨k', x, mk, h1, h2, h3, h4⟩
  same k _ hn := H.get_put_ne _ _ _ _ (by intro e; subst e; rw [hm] at hn; cases hn)
  void k _ hn := by rw [H.get_put_ne _ _ _ _ (by intro e; subst e; rw [hb] at hn; cases hn)]; exact hn
  free k _ hf k' x mk h1 h3 := by
    by_cases hkb : k' = b
    · subst hkb; rw [hm] at h3; cases h3; exact hf k' o m hb hm
    · rw [H.get_put_ne _ _ _ _ hkb] at h1
      exact hf k' x mk h1 h3
  thaw x hx := thaw_write hne hbare hx

end Go.Ev

/- What an operation gives that neither writes nor makes memory. -/
namespace Go.Ev

def descK (k : FK) : TypeDesc := match k with | .b => .bool | .s => .string | .i k => .int k

structure TabOk (T : Tab) (P : Program) : Prop where
  fn : ∀ f x, T.fn f = some x → P.funcs[f]? = some x
  name : ∀ f x, T.fn f = some x → x.name ≠ "runtime.NumGoroutine"
  desc : ∀ t d, T.desc t = some d → P.underlying t = some d
  size : ∀ t d, T.desc t = some d → ∃ i, P.info? t = some i ∧ i.size = T.size t
  sizeS : ∀ t e, T.desc t = some (.slice e) → ∃ i, P.info? e = some i ∧ i.size = T.size e
  sizeA : ∀ t n e, T.desc t = some (.array n e) → ∃ i, P.info? e = some i ∧ i.size = T.size e
  sizeF : ∀ t (fs : Array Field) (j : Nat) f, T.desc t = some (.struct fs) → fs[j]? = some f → ∃ i, P.info? f.type = some i ∧ i.size = T.size f.type
  zero : ∀ t z, T.zero t = some z → ∃ i, P.info? t = some i ∧ i.zero = some z
  bytes : ∀ t e i, T.desc t = some (.slice e) → P.info? e = some i → i.bytes ≤ 16777216
  eqs : ∀ t l, T.eqs t = some l → ∃ fs : Array Field, P.underlying t = some (.struct fs) ∧ P.stoodInHeld t = false ∧ P.eqGuardType P.depth t = false ∧
    l.map (·.1) = fs.toList.map (·.offset) ∧ ∀ (i : Nat) f k, fs.toList[i]? = some f → (l[i]?).map (·.2) = some k → f.name ≠ "_" ∧ P.underlying f.type = some (descK k)

section
variable {T : Tab} {P : Program} {ι : Inj} {h : H} {w : World} {tm : Tm} {a : Act}

theorem ev_R (hw : WR T ι h w) (ht : TmR T ι tm a.tmps) (x : Operand) : VR T ι (ev x tm) (a.eval x) := by
  cases x with
  | tmp t => exact ht t
  | const v =>
    show VR T ι ((cond (closedV v) (fun _ => v) (fun _ => poison) : Tm → Value) tm) v
    cases hc : closedV v with
    | true => exact closedV_VR T ι v hc
    | false => exact .poison v
  | global g =>
    show VR T ι ((cond (Nat.blt g ngl) (fun _ => Value.pointer (some ⟨g, 0, none⟩)) (fun _ => poison) : Tm → Value) tm) (.pointer (some ⟨g, 0, none⟩))
    cases hc : Nat.blt g ngl with
    | true =>
      obtain ⟨m, h1, h2, h3⟩ := hw.glob g (by simpa [Nat.blt_eq] using hc)
      have := VR.ptr (T := T) g 0 m h1
      rw [h2, h3] at this
      exact this
    | false => exact .poison _
  | func f => exact .func _ _ _ _ _ _ (.func f) .nil .nil

theorem evL_R (hw : WR T ι h w) (ht : TmR T ι tm a.tmps) (l : List Operand) : VRs T ι (evL l tm) (l.map a.eval) := by
  induction l with
  | nil => exact .nil
  | cons x l ih => exact .cons _ _ _ _ (ev_R hw ht x) ih

/-- the cells of a block that is known -/
theorem cellsAt_R (hw : WR T ι h w) {b o : Nat} {cs : List Value} (hc : cellsAt h ⟨b, o, none⟩ = some cs) {m : Im} (hm : ι b = some m) :
    ∃ (c : Array Value) (fz : Nat × Nat), w.heap[m.blk]? = some (.cells c m.el fz) ∧ m.off + cs.length ≤ c.size ∧ c.size = m.cap ∧ flatL cs = true ∧
      (∀ (i : Nat) v, cs[i]? = some v → ∃ v', c[m.off + i]? = some v' ∧ VR T ι v v') := by
  have hc' : (match h.get b with | some (AObj.cells cs _ _) => some cs | _ => none) = some cs := hc
  cases hg : h.get b with
  | none => simp [hg] at hc'
  | some o =>
    rw [hg] at hc'
    cases o with
    | cells cs' e own =>
      simp only [Option.some.injEq] at hc'
      subst hc'
      obtain ⟨ob, h1, h2⟩ := hw.live _ _ _ hg hm
      cases h2 with
      | cells _ c _ fz _ hcap hflat hlen hc hown => exact ⟨c, fz, h1, hlen, hcap, hflat, hc⟩
    | _ => simp at hc'

theorem cell?_of {b o : Nat} {c : Array Value} {e : TypeId} {fz : Nat × Nat} (hb : w.heap[b]? = some (.cells c e fz)) : w.cell? ⟨b, o, none⟩ = c[o]? := by
  simp [World.cell?, hb]

theorem slicel_eq {l : List Value} {off n : Nat} {r : List Value} (hs : slicel l off n = some r) : r = (l.drop off).take n ∧ r.length = n := by
  have hs' : cond (Nat.beq ((l.drop off).take n).length n) (some ((l.drop off).take n)) none = some r := hs
  cases hb : Nat.beq ((l.drop off).take n).length n with
  | false => rw [hb] at hs'; simp at hs'
  | true =>
    rw [hb] at hs'
    have := Nat.eq_of_beq_eq_true hb
    simp only [cond_true, Option.some.injEq] at hs'
    subst hs'
    exact ⟨rfl, this⟩

theorem slicel_get {l : List Value} {off n : Nat} {r : List Value} (hs : slicel l off n = some r) {i : Nat} (hi : i < n) : r[i]? = l[off + i]? := by
  obtain ⟨rfl, _⟩ := slicel_eq hs
  simp [hi]

theorem addr_add (b o n : Nat) : (⟨b, o, none⟩ : Addr).add n = ⟨b, o + n, none⟩ := by unfold Addr.add; split <;> simp_all

theorem run_load_at {b o : Nat} {c : Array Value} {e : TypeId} {fz : Nat × Nat} (hb : w.heap[b]? = some (.cells c e fz)) {v : Value} (hv : c[o]? = some v) :
    (load ⟨b, o, none⟩).run P w = .ok v w := by
  have : w.cell? ⟨b, o, none⟩ = some v := by rw [cell?_of hb]; exact hv
  simp [this]

/-- many cells are read -/
theorem loadCells_R (hw : WR T ι h w) {b o n : Nat} {l : List Value} (hl : loadCells h ⟨b, o, none⟩ n = some l) {m : Im} (hm : ι b = some m) :
    ∃ l', (Go.loadCells ⟨m.blk, m.off + o, none⟩ n).run P w = .ok ⟨l'⟩ w ∧ VRs T ι l l' ∧ flatL l = true ∧ l.length = n := by
  obtain ⟨cs, hcs, hs⟩ := Option.bind_eq_some_iff.1 hl
  obtain ⟨c, fz, h1, h2, h3, h4, h5⟩ := cellsAt_R hw hcs hm
  obtain ⟨he, hn⟩ := slicel_eq hs
  have hin : o + n ≤ cs.length ∨ n = 0 := by
    by_cases h0 : n = 0
    · exact .inr h0
    · left
      have : ((cs.drop o).take n).length = n := by rw [← he]; exact hn
      simp at this; omega
  -- the cells as they lie in the machine
  let l' := (List.range n).map fun j => (c[m.off + o + j]?).getD undef
  have hget : ∀ j, j < n → ∃ v v', l[j]? = some v ∧ c[m.off + o + j]? = some v' ∧ VR T ι v v' := by
    intro j hj
    have hj' : o + j < cs.length := by omega
    obtain ⟨v', e1, e2⟩ := h5 (o + j) _ (List.getElem?_eq_getElem hj')
    exact ⟨cs[o + j], v', by rw [slicel_get hs hj, List.getElem?_eq_getElem hj'], by rw [Nat.add_assoc]; exact e1, e2⟩
  have hlen' : l'.length = n := by simp [l']
  refine ⟨l', ?_, ?_, ?_, hn⟩
  · have := run_loadCells_list (P := P) w ⟨m.blk, m.off + o, none⟩ l' (fun j v hv => by
      have hj : j < n := by have := (List.getElem?_eq_some_iff.1 hv).1; omega
      obtain ⟨x, x', e1, e2, e3⟩ := hget j hj
      rw [addr_add, cell?_of h1, e2]
      simp [l', hj, e2] at hv
      rw [hv])
    rw [hlen'] at this
    exact this
  · refine VRs.of_get (by rw [hlen', hn]) fun j v v' e1 e2 => ?_
    have hj : j < n := by have := (List.getElem?_eq_some_iff.1 e2).1; omega
    obtain ⟨x, x', f1, f2, f3⟩ := hget j hj
    rw [f1] at e1; cases e1
    simp [l', hj, f2] at e2
    rw [← e2]; exact f3
  · rw [flatL_mem] at h4 ⊢
    intro v hv
    rw [he] at hv
    exact h4 v (List.mem_of_mem_drop (List.mem_of_mem_take hv))

theorem isAgg_R (hT : TabOk T P) {t : Nat} {b : Bool} (hb : isAgg T t = some b) : (Go.isAgg t).run P w = .ok b w := by
  unfold isAgg at hb
  cases hd : T.desc t with
  | none => simp [hd] at hb
  | some d =>
    have hu := hT.desc _ _ hd
    cases d <;> simp [hd] at hb <;> subst hb <;> simp [Go.isAgg, run_underlying hu]

theorem isAgg_desc {t : Nat} {b : Bool} (hb : isAgg T t = some b) : ∃ d, T.desc t = some d := by
  unfold isAgg at hb
  cases hd : T.desc t with
  | none => simp [hd] at hb
  | some d => exact ⟨d, rfl⟩

theorem sizeOf_R {t n : Nat} (hi : ∃ i, P.info? t = some i ∧ i.size = n) : (Go.sizeOf t).run P w = .ok n w := by
  obtain ⟨i, h1, h2⟩ := hi
  simp [Go.sizeOf, typeInfo, h1, h2]

/-- a variable is read -/
theorem loadF_R (hT : TabOk T P) (hw : WR T ι h w) {t : Nat} {f : H → Value → Option Value} (hf : loadF T t = some f) {x x' v : Value} (hx : VR T ι x x') (hv : f h x = some v) :
    ∃ v', (Instr.loadAt t x').run P w = .ok v' w ∧ VR T ι v v' := by
  unfold loadF at hf
  cases hb : isAgg T t with
  | none => simp [hb] at hf
  | some b =>
    obtain ⟨d, hd⟩ := isAgg_desc hb
    cases b with
    | true =>
      simp only [hb, Option.some.injEq] at hf
      subst hf
      cases hx <;> simp only [loadN, reduceCtorEq] at hv
      case ptr b o m hm =>
        obtain ⟨l, hl, rfl⟩ := Option.map_eq_some_iff.1 hv
        obtain ⟨l', h1, h2, _, _⟩ := loadCells_R (P := P) hw hl hm
        exact ⟨.agg ⟨l'⟩, by simp [Instr.loadAt, Instr.sureAddr, loadVar, isAgg_R hT hb, sizeOf_R (hT.size _ _ hd), h1], .agg _ _ h2⟩
    | false =>
      simp only [hb, Option.some.injEq] at hf
      subst hf
      cases hx <;> simp only [load1, reduceCtorEq] at hv
      case ptr b o m hm =>
        obtain ⟨cs, hcs, hn⟩ := Option.bind_eq_some_iff.1 hv
        rw [nth?_eq] at hn
        obtain ⟨c, fz, h1, h2, h3, h4, h5⟩ := cellsAt_R hw hcs hm
        obtain ⟨v', e1, e2⟩ := h5 _ _ hn
        exact ⟨v', by simp [Instr.loadAt, Instr.sureAddr, loadVar, isAgg_R hT hb, cell?_of h1, e1], e2⟩

/-- a part of cells -/
theorem partF_R (hT : TabOk T P) {t off : Nat} {f : List Value → Option Value} (hf : partF T t off = some f) {l l' : List Value} (hl : VRs T ι l l') {v : Value} (hv : f l = some v) :
    ∃ v', (part t ⟨l'⟩ off).run P w = .ok v' w ∧ VR T ι v v' := by
  unfold partF at hf
  cases hb : isAgg T t with
  | none => simp [hb] at hf
  | some b =>
    obtain ⟨d, hd⟩ := isAgg_desc hb
    cases b with
    | true =>
      simp only [hb, Option.some.injEq] at hf
      subst hf
      obtain ⟨r, hr, rfl⟩ := Option.map_eq_some_iff.1 hv
      obtain ⟨rfl, _⟩ := slicel_eq hr
      refine ⟨.agg ((⟨l'⟩ : Array Value).extract off (off + T.size t)), by simp [part, isAgg_R hT hb, sizeOf_R (hT.size _ _ hd)], .agg _ _ ?_⟩
      have : ((⟨l'⟩ : Array Value).extract off (off + T.size t)).toList = (l'.drop off).take (T.size t) := by
        simp
      rw [this]
      exact (hl.drop off).take _
    | false =>
      simp only [hb, Option.some.injEq] at hf
      subst hf
      have hv' : nth? l off = some v := hv
      rw [nth?_eq] at hv'
      obtain ⟨v', e1, e2⟩ := hl.get hv'
      exact ⟨v', by simp [part, isAgg_R hT hb, e1], e2⟩

end
end Go.Ev

/- Integers, strings and '==' as the evaluator reckons them. -/
namespace Go.Ev

theorem two_bits (k : IntKind) : (2 ^ k.bits : Int) = (modK k : Int) := by cases k <;> decide
theorem two_bits_nat (k : IntKind) : 2 ^ k.bits = modK k := by cases k <;> decide
theorem bits_eq (k : IntKind) : bits k = k.bits := by cases k <;> rfl
theorem modK_pos (k : IntKind) : 0 < modK k := by cases k <;> decide

theorem beqK_iff (a b : IntKind) : beqK a b = true ↔ a = b := by cases a <;> cases b <;> simp [beqK]
theorem beqI_eq (a b : Int) : beqI a b = (a == b) := by
  cases a <;> cases b <;> simp [beqI]
  all_goals
    rw [Bool.eq_iff_iff]
    simp [Nat.beq_eq]
    try omega
theorem ltI_eq (a b : Int) : ltI a b = decide (a < b) := by
  rw [Bool.eq_iff_iff, decide_eq_true_eq]
  cases a <;> cases b <;> simp only [ltI, Nat.blt_eq, Int.ofNat_eq_natCast, Int.negSucc_eq] <;> (try simp only [Bool.false_eq_true, true_iff, false_iff]) <;> omega
theorem beqB_eq (a b : Bool) : beqB a b = (a == b) := by cases a <;> cases b <;> rfl

/-- what a residue is read as -/
theorem ofRes_eq (k : IntKind) (r : Nat) (hr : r < modK k) : ofRes k r = if k.signed && (r : Int) ≥ (2 ^ (k.bits - 1) : Int) then (r : Int) - (2 ^ k.bits : Int) else (r : Int) := by
  unfold ofRes
  by_cases hlt : r < halfK k
  · have hb : Nat.blt r (halfK k) = true := by rw [Nat.blt_eq]; exact hlt
    rw [hb, cond_true]
    cases k <;> simp only [halfK, modK] at hlt hr <;> simp [IntKind.signed, IntKind.bits] <;> omega
  · have hb : Nat.blt r (halfK k) = false := by rw [Bool.eq_false_iff, ne_eq, Nat.blt_eq]; exact hlt
    rw [hb, cond_false]
    cases k <;> simp only [halfK, modK] at hlt hr ⊢ <;> simp [IntKind.signed, IntKind.bits, Int.negSucc_eq] <;> omega

theorem wrapF_eq (k : IntKind) (n : Int) : wrapF k n = k.wrap n := by
  have hp := modK_pos k
  have key : ∃ r : Nat, r < modK k ∧ wrapF k n = ofRes k r ∧ n % (2 ^ k.bits : Int) = (r : Int) := by
    cases n with
    | ofNat m => exact ⟨m % modK k, Nat.mod_lt _ hp, rfl, by rw [two_bits]; rfl⟩
    | negSucc m =>
      have hm := Nat.mod_lt m hp
      refine ⟨modK k - 1 - m % modK k, by omega, rfl, ?_⟩
      rw [two_bits, Int.negSucc_emod _ (by omega)]
      omega
  obtain ⟨r, h1, h2, h3⟩ := key
  rw [h2, ofRes_eq k r h1]
  unfold IntKind.wrap
  simp only [h3]

theorem mkInt_eq (k : IntKind) (n : Int) : mkInt k n = some (.int k (k.wrap n)) := by
  unfold mkInt; rw [fI_eq, wrapF_eq]

theorem res_eq (k : IntKind) (n : Int) : res k n = (BitVec.ofInt k.bits n).toNat := by
  have hp := modK_pos k
  rw [BitVec.toNat_ofInt, two_bits_nat]
  cases n with
  | ofNat m => rfl
  | negSucc m =>
    have hm := Nat.mod_lt m hp
    rw [Int.negSucc_emod _ (by omega)]
    show modK k - 1 - m % modK k = _
    omega

section
variable {P : Program} {w : World}

theorem intF_R (t : TypeId) {op : BinOp} {f : IntKind → Int → Int → Option Value} (hf : intF op = some f) {k : IntKind} {x y : Int} {v : Value} (hv : f k x y = some v) :
    (binOp op t (.int k x) (.int k y)).run P w = .ok v w ∧ ∃ T : Unit, closedV v = true := by
  refine ⟨?_, ⟨(), ?_⟩⟩
  · cases op <;> simp only [intF, Option.some.injEq, reduceCtorEq] at hf <;> subst hf <;> simp only [mkInt_eq, fI_eq, beqI_eq, ltI_eq, Option.some.injEq] at hv
    all_goals try (subst hv; simp [binOp, Op.intArith, Op.intCmp]; done)
    case sub => subst hv; simp [binOp, Op.intArith]; rfl
    case quo =>
      cases hb : (y == 0) with
      | true => rw [hb] at hv; simp at hv
      | false => rw [hb] at hv; simp at hv; subst hv; simp at hb; simp [binOp, Op.intDiv, hb]
    case rem =>
      cases hb : (y == 0) with
      | true => rw [hb] at hv; simp at hv
      | false => rw [hb] at hv; simp at hv; subst hv; simp at hb; simp [binOp, Op.intDiv, hb]
    case and => subst hv; simp [binOp, Op.intBits, res_eq]
    case or => subst hv; simp [binOp, Op.intBits, res_eq]
    case xor => subst hv; simp [binOp, Op.intBits, res_eq]
    case andNot =>
      subst hv
      have e : modK k - 1 - (BitVec.ofInt k.bits y).toNat = (~~~ (BitVec.ofInt k.bits y)).toNat := by rw [BitVec.toNat_not, two_bits_nat]
      have e2 : Nat.sub (Nat.sub (modK k) 1) (res k y) = (~~~ (BitVec.ofInt k.bits y)).toNat := by rw [res_eq]; exact e
      rw [e2, res_eq]
      simp [binOp, Op.intBits]
    case leq => subst hv; simp [binOp, Op.intCmp]; cases hb : decide (y < x) <;> simp_all <;> omega
    case geq => subst hv; simp [binOp, Op.intCmp]; cases hb : decide (x < y) <;> simp_all <;> omega
    case neq => subst hv; simp [binOp, Op.intCmp]; cases hb : (x == y) <;> simp_all
  · cases op <;> simp only [intF, Option.some.injEq, reduceCtorEq] at hf <;> subst hf <;> simp only [mkInt_eq, fI_eq, Option.some.injEq] at hv
    all_goals try (subst hv; rfl)
    all_goals
      cases hb : beqI y 0 with
      | true => rw [hb] at hv; simp at hv
      | false => rw [hb] at hv; simp at hv; subst hv; rfl
end
end Go.Ev

/- Operators on two values. -/
namespace Go.Ev

theorem beqS_eq (a b : List UInt8) : beqS a b = (a == b) := by
  induction a generalizing b with
  | nil => cases b <;> rfl
  | cons x a ih =>
    cases b with
    | nil => rfl
    | cons y b =>
      show cond (Nat.beq x.toNat y.toNat) (beqS a b) false = _
      rw [ih, List.cons_beq_cons]
      cases hb : Nat.beq x.toNat y.toNat with
      | true =>
        have : x = y := UInt8.toNat_inj.1 (Nat.eq_of_beq_eq_true hb)
        subst this; simp
      | false =>
        have : (x == y) = false := by
          rw [beq_eq_false_iff_ne]; intro e; subst e; simp at hb
        simp [this]

theorem ltS_eq (a b : List UInt8) : ltS a b = Op.bytesLess a b := by
  induction a generalizing b with
  | nil => cases b <;> rfl
  | cons x a ih =>
    cases b with
    | nil => rfl
    | cons y b =>
      show cond (Nat.blt x.toNat y.toNat) true (cond (Nat.beq x.toNat y.toNat) (ltS a b) false) = (decide (x < y) || (x == y && Op.bytesLess a b))
      rw [ih]
      have h1 : decide (x < y) = Nat.blt x.toNat y.toNat := by rw [Bool.eq_iff_iff]; simp [Nat.blt_eq, UInt8.lt_iff_toNat_lt]
      have h2 : (x == y) = Nat.beq x.toNat y.toNat := by rw [Bool.eq_iff_iff]; simp [Nat.beq_eq, UInt8.toNat_inj]
      rw [h1, h2]
      cases Nat.blt x.toNat y.toNat <;> cases Nat.beq x.toNat y.toNat <;> simp

section
variable {T : Tab} {P : Program} {ι : Inj} {w : World}

theorem strF_R (t : TypeId) {op : BinOp} {f : List UInt8 → List UInt8 → Option Value} (hf : strF op = some f) {x y : ByteArray} {v : Value} (hv : f x.data.toList y.data.toList = some v) :
    (binOp op t (.string x) (.string y)).run P w = .ok v w ∧ closedV v = true := by
  cases op <;> simp only [strF, Option.some.injEq, reduceCtorEq] at hf <;> subst hf <;> simp only [beqS_eq, ltS_eq, Option.some.injEq] at hv
  case add =>
    cases hb : Nat.blt (Nat.add x.data.toList.length y.data.toList.length) 4294967296 with
    | false => rw [hb] at hv; simp at hv
    | true =>
      rw [hb] at hv
      simp only [cond_true, Option.some.injEq] at hv
      have hlt : x.data.toList.length + y.data.toList.length < 4294967296 := by simpa [Nat.blt_eq] using hb
      have hx : x.size = x.data.toList.length := by rw [Array.length_toList]; rfl
      have hy : y.size = y.data.toList.length := by rw [Array.length_toList]; rfl
      have hno : ¬ ((x.size + y.size : Nat) : Int) > IntKind.i64.max := by
        rw [hx, hy]; simp [IntKind.max, IntKind.signed, IntKind.bits]; omega
      subst hv
      refine ⟨?_, rfl⟩
      have e : (x ++ y : ByteArray) = ⟨⟨x.data.toList ++ y.data.toList⟩⟩ := by
        apply ByteArray.ext
        simp [ByteArray.data_append]
      simp only [binOp, Op.stringOp]
      rw [if_neg hno, e]; rfl
  all_goals
    subst hv
    refine ⟨?_, rfl⟩
    simp [binOp, Op.stringOp, ByteArray.toList_eq]
  all_goals
    first
    | done
    | (cases x.data.toList == y.data.toList <;> simp; done)
    | (cases Op.bytesLess x.data.toList y.data.toList <;> simp; done)
    | (cases Op.bytesLess x.data.toList y.data.toList <;> cases x.data.toList == y.data.toList <;> simp; done)

/-- fields that are compared by their content -/
theorem fieldEq_R {f : TypeId} {k : FK} (hu : P.underlying f = some (descK k)) {x y x' y' : Value} {b : Bool} (hk : fieldEq k x y = some b) (n : Nat) (hx : VR T ι x x') (hy : VR T ι y y') :
    (Op.equalIn (n + 1) f x' y').run P w = .ok b w := by
  cases k with
  | b =>
    cases hx <;> simp only [fieldEq, reduceCtorEq] at hk
    cases hy <;> simp only [reduceCtorEq, Option.some.injEq] at hk
    subst hk
    simp [Op.equalIn, run_underlying hu, descK, beqB_eq]
  | s =>
    cases hx <;> simp only [fieldEq, reduceCtorEq] at hk
    cases hy <;> simp only [reduceCtorEq, Option.some.injEq] at hk
    subst hk
    simp [Op.equalIn, run_underlying hu, descK, beqS_eq, beq_toListBytes, ByteArray.toList_eq]
  | i k =>
    cases hx <;> simp only [fieldEq, reduceCtorEq] at hk
    cases hy <;> simp only [reduceCtorEq] at hk
    rename_i k1 u k2 u'
    cases h1 : beqK k1 k with
    | false => rw [h1] at hk; simp at hk
    | true =>
      cases h2 : beqK k2 k with
      | false => rw [h1, h2] at hk; simp at hk
      | true =>
        rw [h1, h2] at hk
        simp only [cond_true, Option.some.injEq] at hk
        rw [beqK_iff] at h1 h2
        subst h1; subst h2; subst hk
        simp [Op.equalIn, run_underlying hu, descK, beqI_eq]

theorem eqFields_R (hT : TabOk T P) {fs : List (Nat × FK)} {gs : List Field} (hoff : fs.map (·.1) = gs.map (·.offset))
    (hg : ∀ (i : Nat) f k, gs[i]? = some f → (fs[i]?).map (·.2) = some k → f.name ≠ "_" ∧ P.underlying f.type = some (descK k))
    {xs ys xs' ys' : List Value} (hx : VRs T ι xs xs') (hy : VRs T ι ys ys') {b : Bool} (hb : eqFields fs xs ys = some b) (n : Nat) :
    (Op.eqFields (n + 1) ⟨xs'⟩ ⟨ys'⟩ gs).run P w = .ok b w := by
  induction fs generalizing gs b with
  | nil =>
    have : gs = [] := by simpa using hoff.symm
    subst this
    simp only [eqFields, Option.some.injEq] at hb
    subst hb
    simp [Op.eqFields]
  | cons fk fs ih =>
    obtain ⟨off, k⟩ := fk
    cases gs with
    | nil => simp at hoff
    | cons g gs =>
      simp only [List.map_cons, List.cons.injEq] at hoff
      obtain ⟨ho, hoff⟩ := hoff
      obtain ⟨hn, hu⟩ := hg 0 g k rfl rfl
      simp only [eqFields] at hb
      obtain ⟨x, hx1, hb⟩ := Option.bind_eq_some_iff.1 hb
      obtain ⟨y, hy1, hb⟩ := Option.bind_eq_some_iff.1 hb
      obtain ⟨c, hc, hb⟩ := Option.bind_eq_some_iff.1 hb
      obtain ⟨r, hr, hb⟩ := Option.map_eq_some_iff.1 hb
      rw [nth?_eq] at hx1 hy1
      obtain ⟨x', hx2, hx3⟩ := hx.get hx1
      obtain ⟨y', hy2, hy3⟩ := hy.get hy1
      have hagg : ∀ z : List Value, ∀ v, z[g.offset]? = some v → (part g.type ⟨z⟩ g.offset).run P w = .ok v w := by
        intro z v hz
        have : (Go.isAgg g.type).run P w = .ok false w := by
          cases k <;> simp [Go.isAgg, run_underlying hu, descK]
        simp [part, this, hz]
      subst ho
      have e := fieldEq_R (T := T) (P := P) (ι := ι) (w := w) hu hc n hx3 hy3
      have hrest := ih hoff (fun i f k h1 h2 => hg (i + 1) f k (by simpa using h1) (by simpa using h2)) hr
      simp only [Op.eqFields]
      rw [if_pos hn]
      simp only [Sem.run_bind, hagg _ _ hx2, hagg _ _ hy2, Result.andThen_ok, e]
      cases c with
      | true => simp at hb; subst hb; simp [hrest]
      | false => simp at hb; subst hb; simp

set_option maxHeartbeats 4000000 in
/-- '==' of two values at a type -/
theorem equalF_R (hT : TabOk T P) {t : Nat} {f : Value → Value → Option Bool} (hf : equalF T t = some f) {x y x' y' : Value} (hx : VR T ι x x') (hy : VR T ι y y') {b : Bool} (hb : f x y = some b) :
    (Op.equal t x' y').run P w = .ok b w := by
  unfold Op.equal
  obtain ⟨n, hn⟩ : ∃ n, n + 1 + 1 = Op.maxDepth := ⟨9998, rfl⟩
  rw [← hn]
  unfold equalF at hf
  cases hd : T.desc t with
  | none => simp [hd] at hf
  | some d =>
    have hu := hT.desc _ _ hd
    cases d <;> simp only [hd, Option.some.injEq, reduceCtorEq] at hf
    case bool =>
      subst hf
      cases hx <;> simp only [reduceCtorEq] at hb
      cases hy <;> simp only [reduceCtorEq, Option.some.injEq] at hb
      subst hb
      simp [Op.equalIn, run_underlying hu, beqB_eq]
    case pointer =>
      subst hf
      cases hx <;> simp only [reduceCtorEq] at hb <;> cases hy <;> simp only [reduceCtorEq, Option.some.injEq] at hb <;> subst hb <;> simp only [Op.equalIn, Sem.run_bind, run_underlying hu, Result.andThen_ok, Sem.run_pure, Option.isNone_none, Option.isNone_some]
    case slice =>
      subst hf
      cases hx <;> simp only [reduceCtorEq] at hb <;> cases hy <;> simp only [reduceCtorEq, Option.some.injEq] at hb <;> subst hb <;> simp only [Op.equalIn, Sem.run_bind, run_underlying hu, Result.andThen_ok, Sem.run_pure, Option.isNone_none, Option.isNone_some]
    case map =>
      subst hf
      cases hx <;> simp only [reduceCtorEq] at hb <;> cases hy <;> simp only [reduceCtorEq, Option.some.injEq] at hb <;> subst hb <;> simp only [Op.equalIn, Sem.run_bind, run_underlying hu, Result.andThen_ok, Sem.run_pure, Option.isNone_none, Option.isNone_some]
    case func =>
      subst hf
      cases hx <;> simp only [reduceCtorEq] at hb <;> cases hy <;> simp only [reduceCtorEq, Option.some.injEq] at hb <;> subst hb <;> simp only [Op.equalIn, Sem.run_bind, run_underlying hu, Result.andThen_ok, Sem.run_pure, Option.isNone_none, Option.isNone_some]
    case interface =>
      subst hf
      cases hx <;> simp only [reduceCtorEq] at hb <;> cases hy <;> simp only [reduceCtorEq, Option.some.injEq] at hb <;> subst hb <;> simp only [Op.equalIn, Sem.run_bind, run_underlying hu, Result.andThen_ok, Sem.run_pure, Option.isNone_none, Option.isNone_some]
    case struct =>
      obtain ⟨l, hl, rfl⟩ := Option.map_eq_some_iff.1 hf
      obtain ⟨fs, h1, h2, h3, h4, h5⟩ := hT.eqs _ _ hl
      cases hx <;> simp only [reduceCtorEq] at hb
      cases hy <;> simp only [reduceCtorEq] at hb
      rename_i xs xs' hxs ys ys' hys
      obtain ⟨xs⟩ := xs
      obtain ⟨ys⟩ := ys
      obtain ⟨xs'⟩ := xs'
      obtain ⟨ys'⟩ := ys'
      have hfo : P.fieldsOf t = fs := by simp [Program.fieldsOf, h1]
      rw [run_equalIn_struct w (n + 1) t _ _ (by rw [hfo]; exact h1) h2, hfo]
      exact eqFields_R hT h4 h5 hxs hys hb n

end
end Go.Ev

/- Operators, conversions, slices, maps: what the machine gives beside what the evaluator gives. -/
namespace Go.Ev

section
variable {T : Tab} {P : Program} {ι : Inj} {h : H} {w : World} {tm : Tm} {a : Act}

theorem shlV_R (t : TypeId) {x y x' y' v : Value} (hx : VR T ι x x') (hy : VR T ι y y') (hv : shlV x y = some v) : ∃ v', (binOp .shl t x' y').run P w = .ok v' w ∧ VR T ι v v' := by
  cases hx <;> simp only [shlV, reduceCtorEq] at hv
  rename_i k n
  cases hy
  all_goals try (simp at hv; done)
  rename_i k' m
  cases m with
  | negSucc m => simp at hv
  | ofNat m =>
    simp only [mkInt_eq, Option.some.injEq] at hv
    subst hv
    refine ⟨_, ?_, .int _ _⟩
    have hneg : ¬ (Int.ofNat m < 0) := by simp
    have hmin : (cond (Nat.ble m (bits k)) m (bits k)) = min (Int.ofNat m).toNat k.bits := by
      rw [bits_eq]
      cases hb : Nat.ble m k.bits with
      | true => have := Nat.le_of_ble_eq_true hb; simp; omega
      | false => have : ¬ m ≤ k.bits := fun h => by rw [Nat.ble_eq_true_of_le h] at hb; cases hb
                 simp; omega
    simp only [binOp, Op.shift, hneg, if_false, Sem.run_pure]
    rw [hmin]
    rfl

theorem shrV_R (t : TypeId) {x y x' y' v : Value} (hx : VR T ι x x') (hy : VR T ι y y') (hv : shrV x y = some v) : ∃ v', (binOp .shr t x' y').run P w = .ok v' w ∧ VR T ι v v' := by
  cases hx <;> simp only [shrV, reduceCtorEq] at hv
  rename_i k n
  cases n with
  | negSucc n => simp at hv
  | ofNat n =>
    cases hy
    all_goals try (simp at hv; done)
    rename_i k' m
    cases m with
    | negSucc m => simp at hv
    | ofNat m =>
      simp only [fN_eq, Option.some.injEq] at hv
      subst hv
      refine ⟨_, ?_, .int _ _⟩
      have hneg : ¬ (Int.ofNat m < 0) := by simp
      have hmin : (cond (Nat.ble m (bits k)) m (bits k)) = min (Int.ofNat m).toNat k.bits := by
        rw [bits_eq]
        cases hb : Nat.ble m k.bits with
        | true => have := Nat.le_of_ble_eq_true hb; simp; omega
        | false => have : ¬ m ≤ k.bits := fun h => by rw [Nat.ble_eq_true_of_le h] at hb; cases hb
                   simp; omega
      simp only [binOp, Op.shift, hneg, if_false, Sem.run_pure]
      rw [hmin]
      generalize min (Int.ofNat m).toNat k.bits = q
      have e : (Int.ofNat n).fdiv (2 ^ q) = Int.ofNat (n.div (Nat.pow 2 q)) := by
        rw [Int.fdiv_eq_ediv_of_nonneg _ (Int.pow_nonneg (by decide))]
        show (n : Int) / (2 ^ q) = ((n / 2 ^ q : Nat) : Int)
        rw [Int.natCast_ediv, Int.natCast_pow]
        rfl
      rw [e]

theorem isC_spec {x : Operand} (hx : isC x = true) : ∃ v, x = .const v := by cases x <;> simp [isC] at hx; exact ⟨_, rfl⟩

theorem isAgg_eq {x : Value} : (∃ l, x = .agg l) ∨ ∀ l, x ≠ .agg l := by
  cases x <;> first | (left; exact ⟨_, rfl⟩) | (right; intro l h; cases h)

/-- the guard of '==' lets what the evaluator compares pass -/
theorem eqGuard_R (hT : TabOk T P) (op : BinOp) {t : Nat} (x y : Operand) {x' y' : Value}
    (hc : (x' = .nilIface → y' = .nilIface → (isC x || isC y) = true)) (hs : (∃ l, x' = .agg l) → (∃ l, y' = .agg l) → P.eqGuardType P.depth t = false) :
    (eqGuard op t x y x' y').run P w = .ok () w := by
  have key : (eqGuard .eql t x y x' y').run P w = .ok () w := by
    cases x' <;> cases y' <;> first
      | rfl
      | (have := hs ⟨_, rfl⟩ ⟨_, rfl⟩; simp [eqGuard, this]; done)
      | (have := hc rfl rfl
         cases x <;> cases y <;> first | rfl | (simp [isC] at this; done))
  cases op
  case eql => exact key
  case neq => exact key
  all_goals rfl

theorem equalF_nil {t : Nat} {f : Value → Value → Option Bool} (hf : equalF T t = some f) {x y x' y' : Value} (hx : VR T ι x x') (hy : VR T ι y y') {b : Bool} (hb : f x y = some b)
    (h1 : x' = .nilIface) (h2 : y' = .nilIface) : ∃ ms, T.desc t = some (.interface ms) := by
  unfold equalF at hf
  cases hd : T.desc t with
  | none => simp [hd] at hf
  | some d =>
    subst h1; subst h2
    cases d <;> simp only [hd, Option.some.injEq, reduceCtorEq] at hf
    case interface ms => exact ⟨ms, rfl⟩
    case struct =>
      obtain ⟨l, hl, rfl⟩ := Option.map_eq_some_iff.1 hf
      cases hx <;> simp at hb
    all_goals
      subst hf
      cases hx <;> simp at hb

theorem equalF_agg (hT : TabOk T P) {t : Nat} {f : Value → Value → Option Bool} (hf : equalF T t = some f) {x y x' y' : Value} (hx : VR T ι x x') (hy : VR T ι y y') {b : Bool} (hb : f x y = some b)
    (h1 : ∃ l, x' = .agg l) : P.eqGuardType P.depth t = false := by
  obtain ⟨l, rfl⟩ := h1
  unfold equalF at hf
  cases hd : T.desc t with
  | none => simp [hd] at hf
  | some d =>
    cases d <;> simp only [hd, Option.some.injEq, reduceCtorEq] at hf
    case struct =>
      obtain ⟨l, hl, rfl⟩ := Option.map_eq_some_iff.1 hf
      obtain ⟨fs, _, _, h3, _⟩ := hT.eqs _ _ hl
      exact h3
    all_goals
      subst hf
      cases hx <;> simp at hb

/-- '==' and '!=' where the operator is one of those that 'equalF' serves -/
theorem eql_R (hT : TabOk T P) {t : Nat} {f : Value → Value → Option Bool} (hf : equalF T t = some f) {x y x' y' : Value} (hx : VR T ι x x') (hy : VR T ι y y') {b : Bool} (hb : f x y = some b) :
    (binOp .eql t x' y').run P w = .ok (.bool b) w ∧ (binOp .neq t x' y').run P w = .ok (.bool !b) w := by
  have he := equalF_R (P := P) (w := w) hT hf hx hy hb
  -- none of the forms that 'binOp' takes first
  have key : ∀ op, (op = .eql ∨ op = .neq) → binOp op t x' y' = (match op with | .eql => (do pure (.bool (← Op.equal t x' y'))) | _ => do pure (.bool (!(← Op.equal t x' y')))) ∨
      (∃ p q, x' = .bool p ∧ y' = .bool q) ∨ True := fun _ _ => .inr (.inr trivial)
  clear key
  unfold equalF at hf
  cases hd : T.desc t with
  | none => simp [hd] at hf
  | some d =>
    cases d <;> simp only [hd, Option.some.injEq, reduceCtorEq] at hf
    case struct =>
      obtain ⟨l, hl, rfl⟩ := Option.map_eq_some_iff.1 hf
      cases hx <;> simp only [reduceCtorEq] at hb
      cases hy <;> simp only [reduceCtorEq] at hb
      constructor <;> simp only [binOp, Sem.run_bind, he, Result.andThen_ok, Sem.run_pure]
    all_goals
      subst hf
      cases hx <;> simp only [reduceCtorEq] at hb
      all_goals
        cases hy <;> simp only [reduceCtorEq] at hb
        all_goals constructor <;> simp only [binOp, Sem.run_bind, he, Result.andThen_ok, Sem.run_pure]

theorem not_cond (b : Bool) : (cond b false true) = !b := by cases b <;> rfl

theorem binF_R (hT : TabOk T P) {op : BinOp} {t : Nat} {xo yo : Operand} {f : Value → Value → Option Value} (hf : binF T op t (cond (isC xo) true (isC yo)) = some f) {x y x' y' v : Value}
    (hx : VR T ι x x') (hy : VR T ι y y') (hv : f x y = some v) :
    ∃ v', (do eqGuard op t xo yo x' y'; binOp op t x' y' : Sem Value).run P w = .ok v' w ∧ VR T ι v v' := by
  have plain : (∀ b, op ≠ b → True) → (op ≠ .eql ∧ op ≠ .neq) → (eqGuard op t xo yo x' y').run P w = .ok () w := by
    intro _ ⟨h1, h2⟩
    cases op <;> first | rfl | exact absurd rfl h1 | exact absurd rfl h2
  have cc : cond (isC xo) true (isC yo) = (isC xo || isC yo) := by cases isC xo <;> rfl
  have eqs : ∀ g, equalF T t = some g → (∀ b, g x y = some b → (x' = .nilIface → y' = .nilIface → (isC xo || isC yo) = true) → (eqGuard op t xo yo x' y').run P w = .ok () w) := by
    intro g hg b hb hc
    exact eqGuard_R hT op xo yo hc (fun h1 _ => equalF_agg hT hg hx hy hb h1)
  by_cases hsh : op = .shl
  · subst hsh
    simp only [binF, Option.some.injEq] at hf
    subst hf
    obtain ⟨v', h1, h2⟩ := shlV_R (P := P) (w := w) t hx hy hv
    exact ⟨v', by simp [plain (fun _ _ => trivial) (by simp), h1], h2⟩
  by_cases hsr : op = .shr
  · subst hsr
    simp only [binF, Option.some.injEq] at hf
    subst hf
    obtain ⟨v', h1, h2⟩ := shrV_R (P := P) (w := w) t hx hy hv
    exact ⟨v', by simp [plain (fun _ _ => trivial) (by simp), h1], h2⟩
  have hf' : binE T op t (cond (isC xo) true (isC yo)) = some f := by
    cases op <;> first | exact hf | exact absurd rfl hsh | exact absurd rfl hsr
  clear hf
  unfold binE at hf'
  have last : eqB T op t = some f → ((∃ ms, T.desc t = some (.interface ms)) → (isC xo || isC yo) = true) →
      ∃ v', (do eqGuard op t xo yo x' y'; binOp op t x' y' : Sem Value).run P w = .ok v' w ∧ VR T ι v v' := by
    intro hl hi
    cases op <;> simp only [eqB, reduceCtorEq] at hl
    case eql =>
      obtain ⟨g, hg, rfl⟩ := Option.map_eq_some_iff.1 hl
      obtain ⟨b, hb, rfl⟩ := Option.map_eq_some_iff.1 hv
      have hgd := eqs g hg b hb (fun h1 h2 => hi (equalF_nil hg hx hy hb h1 h2))
      exact ⟨.bool b, by simp [hgd, (eql_R hT hg hx hy hb).1], .bool b⟩
    case neq =>
      obtain ⟨g, hg, rfl⟩ := Option.map_eq_some_iff.1 hl
      obtain ⟨b, hb, rfl⟩ := Option.map_eq_some_iff.1 hv
      have hgd := eqs g hg b hb (fun h1 h2 => hi (equalF_nil hg hx hy hb h1 h2))
      exact ⟨.bool !b, by simp [hgd, (eql_R hT hg hx hy hb).2], by rw [not_cond]; exact .bool _⟩
  cases hd : T.desc t with
  | none => rw [hd] at hf'; exact last hf' (fun ⟨ms, h⟩ => by rw [hd] at h; cases h)
  | some d =>
    rw [hd] at hf'
    cases d
    case int k =>
      obtain ⟨g, hg, rfl⟩ := Option.map_eq_some_iff.1 hf'
      cases hx <;> simp only [reduceCtorEq] at hv
      cases hy <;> simp only [reduceCtorEq] at hv
      rename_i k1 n1 k2 n2
      cases hb : beqK k1 k2 with
      | false => rw [hb] at hv; simp at hv
      | true =>
        rw [hb] at hv
        rw [beqK_iff] at hb
        subst hb
        obtain ⟨h1, _, h2⟩ := intF_R (P := P) (w := w) t hg hv
        refine ⟨v, ?_, closedV_VR T ι v h2⟩
        have hgd : (eqGuard op t xo yo (.int k1 n1) (.int k1 n2)).run P w = .ok () w := by cases op <;> rfl
        simp [hgd, h1]
    case string =>
      obtain ⟨g, hg, rfl⟩ := Option.map_eq_some_iff.1 hf'
      cases hx <;> simp only [reduceCtorEq] at hv
      cases hy <;> simp only [reduceCtorEq] at hv
      rename_i s1 s2
      obtain ⟨h1, h2⟩ := strF_R (P := P) (w := w) t hg hv
      refine ⟨v, ?_, closedV_VR T ι v h2⟩
      have hgd : (eqGuard op t xo yo (.string s1) (.string s2)).run P w = .ok () w := by cases op <;> rfl
      simp [hgd, h1]
    case interface ms =>
      cases hc : (cond (isC xo) true (isC yo)) with
      | false => simp [hc] at hf'
      | true =>
        simp only [hc, cond_true] at hf'
        exact last hf' (fun _ => by rw [← cc]; exact hc)
    all_goals exact last hf' (fun ⟨ms, h⟩ => by rw [hd] at h; cases h)

theorem unV_R {op : UnOp} {f : Value → Option Value} (hf : unV op = some f) {x x' v : Value} (hx : VR T ι x x') (hv : f x = some v) : ∃ v', (Op.unary op x').run P w = .ok v' w ∧ VR T ι v v' := by
  cases op <;> simp only [unV, Option.some.injEq, reduceCtorEq] at hf <;> subst hf
  case neg =>
    cases hx <;> simp only [mkInt_eq, Option.some.injEq, reduceCtorEq] at hv
    rename_i k n
    subst hv
    have e : Int.neg n = 0 - n := by show -n = 0 - n; omega
    exact ⟨.int k (k.wrap (0 - n)), by simp [Op.unary, Op.intArith], by rw [e]; exact .int _ _⟩
  case xor =>
    cases hx <;> simp only [mkInt_eq, Option.some.injEq, reduceCtorEq] at hv
    rename_i k n
    subst hv
    refine ⟨.int k (k.wrap ((BitVec.ofInt k.bits (if k.signed then -1 else k.max) ^^^ BitVec.ofInt k.bits n).toNat)), by simp [Op.unary, Op.intBits], ?_⟩
    have e : Nat.sub (Nat.sub (modK k) 1) (res k n) = (BitVec.ofInt k.bits (if k.signed then -1 else k.max) ^^^ BitVec.ofInt k.bits n).toNat := by
      have hall : BitVec.ofInt k.bits (if k.signed then -1 else k.max) = BitVec.allOnes k.bits := by cases k <;> decide
      rw [hall, res_eq, show BitVec.allOnes k.bits ^^^ BitVec.ofInt k.bits n = ~~~ (BitVec.ofInt k.bits n) from by simp, BitVec.toNat_not, two_bits_nat]
      rfl
    rw [e]
    exact .int _ _
  case not =>
    cases hx <;> simp only [Option.some.injEq, reduceCtorEq] at hv
    rename_i b
    subst hv
    exact ⟨.bool !b, by simp [Op.unary], by rw [not_cond]; exact .bool _⟩

theorem convertF_R (hT : TabOk T P) {s d : Nat} {f : Value → Option Value} (hf : convertF T s d = some f) {x x' v : Value} (hx : VR T ι x x') (hv : f x = some v) : ∃ v', (convert s d x').run P w = .ok v' w ∧ VR T ι v v' := by
  unfold convertF at hf
  cases hs : T.desc s with
  | none => simp [hs] at hf
  | some ds =>
    cases hd : T.desc d with
    | none => cases ds <;> simp [hs, hd] at hf
    | some dd =>
      have h1 := hT.desc _ _ hs
      have h2 := hT.desc _ _ hd
      cases ds <;> cases dd <;> simp only [hs, hd, Option.some.injEq, reduceCtorEq] at hf <;> subst hf
      case int.int k k' =>
        cases hx <;> simp only [mkInt_eq, Option.some.injEq, reduceCtorEq] at hv
        subst hv
        exact ⟨_, by simp [convert, run_underlying h1, run_underlying h2, Conv.intToInt], .int _ _⟩
      case string.string =>
        cases hx <;> simp only [Option.some.injEq, reduceCtorEq] at hv
        subst hv
        exact ⟨_, by simp [convert, run_underlying h1, run_underlying h2], .string _⟩

end
end Go.Ev

/- Slices, indexes, lengths, maps read. -/
namespace Go.Ev

section
variable {T : Tab} {P : Program} {ι : Inj} {h : H} {w : World} {tm : Tm} {a : Act}

theorem asNat_R {y y' : Nat} (hy : y ≤ y') {v v' : Value} {i : Nat} (hv : VR T ι v v') (hi : asNat y v = some i) : (∀ code, (Instr.sliceBound v' y' code).run P w = .ok i w) ∧ i ≤ y := by
  cases hv <;> simp only [asNat, reduceCtorEq] at hi
  rename_i k n
  cases n with
  | negSucc n => simp at hi
  | ofNat n =>
    simp only at hi
    cases hb : Nat.ble n y with
    | false => rw [hb] at hi; simp at hi
    | true =>
      rw [hb] at hi
      simp only [cond_true, Option.some.injEq] at hi
      subst hi
      have := Nat.le_of_ble_eq_true hb
      refine ⟨fun code => ?_, this⟩
      have hc : (0 : Int) ≤ Int.ofNat n ∧ Int.ofNat n ≤ (y' : Int) := ⟨Int.natCast_nonneg n, by show (n : Int) ≤ y'; omega⟩
      simp only [Instr.sliceBound, asIntOf, Sem.run_bind, Sem.run_pure, Result.andThen_ok]
      rw [if_pos hc]
      rfl

/-- the bounds of a slice expression: 'cap' is what the evaluator takes for the capacity, c' what it is -/
theorem bounds_R (hw : WR T ι h w) (ht : TmR T ι tm a.tmps) (isS : Bool) {len cap c' : Nat} (hcap : cap ≤ c') (hlen : len ≤ cap) {lo hi mx : Option Operand} {l u m : Nat}
    (hb : bounds len cap lo hi mx tm = some (l, u, m)) (hx : okBounds hi mx = true) :
    (Instr.sliceBounds isS len c' (lo.map a.eval) (hi.map a.eval) (mx.map a.eval)).run P w = .ok (l, u, if mx.isSome then m else c') w ∧ l ≤ u ∧ u ≤ m ∧ m ≤ cap ∧ (mx = none → m = cap) := by
  unfold bounds at hb
  obtain ⟨m1, h1, hb⟩ := Option.bind_eq_some_iff.1 hb
  obtain ⟨u1, h2, hb⟩ := Option.bind_eq_some_iff.1 hb
  obtain ⟨l1, h3, hb⟩ := Option.bind_eq_some_iff.1 hb
  simp only [Option.some.injEq, Prod.mk.injEq] at hb
  obtain ⟨rfl, rfl, rfl⟩ := hb
  have elo : (match lo with | some x => (∀ code, (Instr.sliceBound (a.eval x) u1 code).run P w = .ok l1 w) ∧ l1 ≤ u1 | none => l1 = 0) := by
    cases lo with
    | none => simp only [boundO, Option.some.injEq] at h3; exact h3.symm
    | some x => exact asNat_R (Nat.le_refl _) (ev_R hw ht x) h3
  have hl : l1 ≤ u1 := by
    cases lo with
    | none => simp only at elo; omega
    | some x => exact elo.2
  cases mx with
  | none =>
    simp only [boundO, Option.some.injEq] at h1
    subst h1
    cases hi with
    | none =>
      simp only [boundO, Option.some.injEq] at h2
      subst h2
      refine ⟨?_, hl, hlen, Nat.le_refl _, fun _ => rfl⟩
      cases lo with
      | none => simp only at elo; subst elo; simp [Instr.sliceBounds]
      | some lo => simp [Instr.sliceBounds, elo.1]
    | some hi =>
      obtain ⟨e2, e2'⟩ := asNat_R (P := P) (w := w) hcap (ev_R hw ht hi) h2
      refine ⟨?_, hl, e2', Nat.le_refl _, fun _ => rfl⟩
      cases lo with
      | none => simp only at elo; subst elo; simp [Instr.sliceBounds, e2]
      | some lo => simp [Instr.sliceBounds, e2, elo.1]
  | some mx =>
    obtain ⟨e1, e1'⟩ := asNat_R (P := P) (w := w) hcap (ev_R hw ht mx) h1
    cases hi with
    | none => simp [okBounds] at hx
    | some hi =>
      obtain ⟨e2, e2'⟩ := asNat_R (P := P) (w := w) (Nat.le_refl _) (ev_R hw ht hi) h2
      refine ⟨?_, hl, e2', e1', fun h => by cases h⟩
      cases lo with
      | none => simp only at elo; subst elo; simp [Instr.sliceBounds, e1, e2]
      | some lo => simp [Instr.sliceBounds, e1, e2, elo.1]

theorem ixN_R {n : Nat} {i i' : Value} {z : Nat} (hi : VR T ι i i') (hz : ixN n i = some z) : ∃ k, i' = .int k (.ofNat z) ∧ z < n ∧ ((0 : Int) ≤ Int.ofNat z ∧ Int.ofNat z < (n : Int)) := by
  cases hi <;> simp only [ixN, reduceCtorEq] at hz
  rename_i k m
  cases m with
  | negSucc m => simp at hz
  | ofNat m =>
    simp only at hz
    cases hb : Nat.blt m n with
    | false => rw [hb] at hz; simp at hz
    | true =>
      rw [hb] at hz
      simp only [cond_true, Option.some.injEq] at hz
      subst hz
      have hlt : m < n := by simpa [Nat.blt_eq] using hb
      exact ⟨k, rfl, hlt, Int.natCast_nonneg m, by show (m : Int) < n; omega⟩

theorem addA_eq {b o n : Nat} {v : Value} (hv : addA ⟨b, o, none⟩ n = some v) : v = .pointer (some ⟨b, o + n, none⟩) := by
  simp only [addA, fN_eq, Option.some.injEq] at hv
  exact hv.symm

theorem indexAddrF_R (hT : TabOk T P) {t : Nat} {f : Value → Value → Option Value} (hf : indexAddrF T t = some f) {x i x' i' v : Value} (hx : VR T ι x x') (hi : VR T ι i i') (hv : f x i = some v) :
    ∃ v', (Instr.indexAt t x' i').run P w = .ok v' w ∧ VR T ι v v' := by
  unfold indexAddrF at hf
  cases hd : T.desc t with
  | none => simp [hd] at hf
  | some d =>
    have hu := hT.desc _ _ hd
    cases d <;> simp only [hd, Option.some.injEq, reduceCtorEq] at hf <;> subst hf
    case array n e =>
      cases hx <;> simp only [reduceCtorEq] at hv
      rename_i b o m hm
      obtain ⟨z, hz, hv⟩ := Option.bind_eq_some_iff.1 hv
      obtain ⟨k, rfl, hlt, hc⟩ := ixN_R hi hz
      have := addA_eq hv
      subst this
      refine ⟨.pointer (some ⟨m.blk, m.off + (o + z * T.size e), none⟩), ?_, .ptr _ _ _ hm⟩
      simp only [Instr.indexAt, asIntOf, Sem.run_bind, Sem.run_pure, Result.andThen_ok, run_underlying hu, Instr.sureAddr]
      rw [if_pos hc]
      simp only [Sem.run_bind, sizeOf_R (hT.sizeA _ _ _ hd), Result.andThen_ok, Sem.run_pure, addr_add]
      rw [show (Int.ofNat z).toNat = z from rfl, Nat.add_assoc]
    case slice e =>
      have go : ∀ b o n (m : Im) (c' o' : Nat) (v : Value), ι b = some m → (n = 0 ∨ o' = m.off + o) → ((ixN n i).bind fun z => addA ⟨b, o, none⟩ (Nat.mul z (T.size e))) = some v →
          ∃ v', (Instr.indexAt t (.slice (some ⟨m.blk, o', none⟩) n c') i').run P w = .ok v' w ∧ VR T ι v v' := by
        intro b o n m c' o' v hm ho hv
        obtain ⟨z, hz, hv⟩ := Option.bind_eq_some_iff.1 hv
        obtain ⟨k, rfl, hlt, hc⟩ := ixN_R hi hz
        have := addA_eq hv
        subst this
        have ho' : o' = m.off + o := by rcases ho with h0 | h0 <;> omega
        subst ho'
        refine ⟨.pointer (some ⟨m.blk, m.off + (o + z * T.size e), none⟩), ?_, .ptr _ _ _ hm⟩
        simp only [Instr.indexAt, asIntOf, Sem.run_bind, Sem.run_pure, Result.andThen_ok, run_underlying hu]
        rw [if_pos hc]
        simp only [Sem.run_bind, sizeOf_R (hT.sizeS _ _ hd), Result.andThen_ok, Sem.run_pure, addr_add]
        rw [show (Int.ofNat z).toNat = z from rfl, Nat.add_assoc]
      cases hx <;> simp only [reduceCtorEq] at hv
      case slice b o n c m hm hc hn => exact go b o n m c _ v hm (.inr rfl) hv
      case sliceUnk b o n o' c' m hm hn room place => exact go b o n m c' o' v hm place hv

theorem indexF_R (hT : TabOk T P) {t : Nat} {f : Value → Value → Option Value} (hf : indexF T t = some f) {x i x' i' v : Value} (hx : VR T ι x x') (hi : VR T ι i i') (hv : f x i = some v) :
    ∃ v', (Instr.index t x' i').run P w = .ok v' w ∧ VR T ι v v' := by
  unfold indexF at hf
  cases hd : T.desc t with
  | none => simp [hd] at hf
  | some d =>
    have hu := hT.desc _ _ hd
    cases d <;> simp only [hd, Option.some.injEq, reduceCtorEq] at hf <;> subst hf
    case array n e =>
      cases hx <;> simp only [reduceCtorEq] at hv
      rename_i xs xs' hxs
      obtain ⟨xs⟩ := xs
      obtain ⟨xs'⟩ := xs'
      obtain ⟨z, hz, hv⟩ := Option.bind_eq_some_iff.1 hv
      obtain ⟨k, rfl, hlt, hc⟩ := ixN_R hi hz
      obtain ⟨g, hg, hv⟩ := Option.bind_eq_some_iff.1 hv
      obtain ⟨v', h1, h2⟩ := partF_R (P := P) (w := w) hT hg hxs hv
      refine ⟨v', ?_, h2⟩
      simp only [Instr.index, asIntOf, Sem.run_bind, Sem.run_pure, Result.andThen_ok, run_underlying hu]
      rw [if_pos hc]
      simp only [Sem.run_bind, sizeOf_R (hT.sizeA _ _ _ hd), Result.andThen_ok]
      exact h1
    case string =>
      cases hx <;> simp only [reduceCtorEq] at hv
      rename_i s
      obtain ⟨⟨s⟩⟩ := s
      obtain ⟨z, hz, hv⟩ := Option.bind_eq_some_iff.1 hv
      obtain ⟨k, rfl, hlt, hc⟩ := ixN_R hi hz
      obtain ⟨b, hb, hv⟩ := Option.bind_eq_some_iff.1 hv
      rw [nth?_eq] at hb
      simp only [fN_eq, Option.some.injEq] at hv
      subst hv
      refine ⟨.int .u8 b.toNat, ?_, .int _ _⟩
      have hz' : z < ByteArray.size ⟨⟨s⟩⟩ := hlt
      have hs := getElem?_pos (⟨⟨s⟩⟩ : ByteArray) z hz'
      have hb2 : (⟨⟨s⟩⟩ : ByteArray)[z]'hz' = b := by
        rw [List.getElem?_eq_getElem hlt] at hb
        cases hb
        rfl
      rw [hb2] at hs
      simp only [Instr.index, asIntOf, Sem.run_bind, Sem.run_pure, Result.andThen_ok, run_underlying hu]
      rw [if_pos hc.1, show (Int.ofNat z).toNat = z from rfl, hs]
      rfl

theorem Ents.length {es es' : List MapEntry} (h : Ents T ι es es') : es.length = es'.length := by
  induction h with
  | nil => rfl
  | cons _ _ _ _ _ _ ih => simp [ih]

theorem entriesOf_R (hw : WR T ι h w) {x x' : Value} {es : List MapEntry} (hx : VR T ι x x') (he : entriesOf h x = some es) :
    (x' = .map none ∧ es = []) ∨ ∃ r m es' c, x = .map (some r) ∧ ι r = some m ∧ x' = .map (some m.blk) ∧ h.get r = some (.map es c) ∧ w.heap[m.blk]? = some (.map es' c) ∧ Ents T ι es es'.toList := by
  cases hx <;> simp only [entriesOf, reduceCtorEq] at he
  case mapNil => simp only [Option.some.injEq] at he; exact .inl ⟨rfl, he.symm⟩
  case map r m hm =>
    right
    cases hg : h.get r with
    | none => simp [hg] at he
    | some o =>
      cases o with
      | map es0 c =>
        simp only [hg, Option.some.injEq] at he
        subst he
        obtain ⟨ob, h1, h2⟩ := hw.live _ _ _ hg hm
        cases h2 with
        | map _ es' _ _ hh => exact ⟨r, m, es', c, rfl, hm, rfl, hg, h1, hh⟩
      | _ => simp [hg] at he

theorem run_getObj_map {b : Nat} {es : Array MapEntry} {c : Nat} (hb : w.heap[b]? = some (.map es c)) : (getObj b).run P w = .ok (.map es c) w := by
  simp [getObj, Sem.run, hb]

theorem lenF_R (hT : TabOk T P) (hw : WR T ι h w) {t ty : Nat} {f : H → Value → Option Value} (hf : lenF T t = some f) {x x' v : Value} (hx : VR T ι x x') (hv : f h x = some v) :
    ∃ v', (Builtin.len_ #[t] ty #[x']).run P w = .ok v' w ∧ VR T ι v v' := by
  unfold lenF at hf
  cases hd : T.desc t with
  | none => simp [hd] at hf
  | some d =>
    have hu := hT.desc _ _ hd
    cases d <;> simp only [hd, Option.some.injEq, reduceCtorEq] at hf <;> subst hf
    case string =>
      cases hx <;> simp only [reduceCtorEq] at hv
      rename_i s
      obtain ⟨⟨s⟩⟩ := s
      simp only [gi, fN_eq, Option.some.injEq] at hv
      subst hv
      exact ⟨goInt s.length, by simp only [Builtin.len_]; simp [run_underlying hu]; rfl, .int _ _⟩
    case slice =>
      cases hx <;> simp only [reduceCtorEq] at hv <;> simp only [gi, fN_eq, Option.some.injEq] at hv <;> subst hv <;> exact ⟨goInt _, by simp [Builtin.len_, run_underlying hu], .int _ _⟩
    case array n e =>
      simp only [gi, fN_eq, Option.some.injEq] at hv
      subst hv
      exact ⟨goInt n, by simp [Builtin.len_, run_underlying hu], .int _ _⟩
    case map =>
      obtain ⟨es, he, hv⟩ := Option.bind_eq_some_iff.1 hv
      simp only [gi, fN_eq, Option.some.injEq] at hv
      subst hv
      rcases entriesOf_R hw hx he with ⟨rfl, rfl⟩ | ⟨r, m, es', c, rfl, hm, rfl, hg, hb, hes⟩
      · exact ⟨goInt 0, by simp [Builtin.len_, run_underlying hu], .int _ _⟩
      · refine ⟨goInt es'.size, by simp [Builtin.len_, run_underlying hu, run_getObj_map hb], ?_⟩
        have hl : es.length = es'.size := by rw [hes.length]; simp
        rw [hl]
        exact .int _ _

theorem typeAssertF_R (hT : TabOk T P) {t xt : Nat} {ok : Bool} {f : Value → Option Value} (hf : typeAssertF T t ok = some f) {x x' v : Value} (hx : VR T ι x x') (hv : f x = some v) :
    ∃ v', (Instr.typeAssert x' xt t ok).run P w = .ok v' w ∧ VR T ι v v' := by
  have zr : ∀ z, zeroV T t = some z → (zeroValue t).run P w = .ok z w ∧ VR T ι z z := by
    intro z hz
    obtain ⟨z', h1, h2⟩ := Option.bind_eq_some_iff.1 hz
    cases hc : closedV z' with
    | false => rw [hc] at h2; simp at h2
    | true =>
      rw [hc] at h2
      simp only [cond_true, Option.some.injEq] at h2
      subst h2
      obtain ⟨i, e1, e2⟩ := hT.zero _ _ h1
      exact ⟨by simp [zeroValue, typeInfo, e1, e2], closedV_VR T ι _ hc⟩
  unfold typeAssertF at hf
  cases hd : T.desc t with
  | none => simp [hd] at hf
  | some d =>
    have hu := hT.desc _ _ hd
    have one : ∀ z : Value, VR T ι z z → VR T ι (.tuple #[z, .bool false]) (.tuple #[z, .bool false]) := fun z hz => .tuple _ _ (.cons _ _ _ _ hz (.cons _ _ _ _ (.bool _) .nil))
    by_cases hif : ∃ ms, d = .interface ms
    · obtain ⟨ms, rfl⟩ := hif
      simp only [hd] at hf
      cases ok with
      | false => simp at hf
      | true =>
        obtain ⟨z, hz, rfl⟩ := Option.map_eq_some_iff.1 hf
        obtain ⟨h1, h2⟩ := zr z hz
        cases hx <;> simp only [reduceCtorEq] at hv
        simp only [Option.some.injEq] at hv
        subst hv
        exact ⟨_, by simp [Instr.typeAssert, run_underlying hu, h1], one z h2⟩
    · have hf' : (zeroV T t).map (fun z x => match x with
          | .nilIface => cond ok (some (.tuple #[z, .bool false])) none
          | .iface u v => cond (Nat.beq u t) (some (cond ok (.tuple #[v, .bool true]) v)) (cond ok (some (.tuple #[z, .bool false])) none)
          | _ => none) = some f := by
        rw [hd] at hf
        cases d <;> first | exact hf | exact absurd ⟨_, rfl⟩ hif
      obtain ⟨z, hz, rfl⟩ := Option.map_eq_some_iff.1 hf'
      obtain ⟨h1, h2⟩ := zr z hz
      cases hx <;> simp only [reduceCtorEq] at hv
      case nilIface =>
        cases ok with
        | false => simp at hv
        | true =>
          simp only [cond_true, Option.some.injEq] at hv
          subst hv
          refine ⟨_, ?_, one z h2⟩
          simp only [Instr.typeAssert, Sem.run_bind, run_underlying hu, Result.andThen_ok]
          cases d <;> first | exact absurd ⟨_, rfl⟩ hif | simp [h1]
      case iface u y y' hy =>
        cases hb : Nat.beq u t with
        | true =>
          have hut := Nat.eq_of_beq_eq_true hb
          rw [hb] at hv
          simp only [cond_true, Option.some.injEq] at hv
          subst hv; subst hut
          refine ⟨cond ok (.tuple #[y', .bool true]) y', ?_, ?_⟩
          · simp only [Instr.typeAssert, Sem.run_bind, run_underlying hu, Result.andThen_ok]
            cases d <;> first | exact absurd ⟨_, rfl⟩ hif | (cases ok <;> simp)
          · cases ok
            · exact hy
            · exact .tuple _ _ (.cons _ _ _ _ hy (.cons _ _ _ _ (.bool _) .nil))
        | false =>
          rw [hb] at hv
          have hut : ¬ u = t := fun e => by subst e; simp at hb
          cases ok with
          | false => simp at hv
          | true =>
            simp only [cond_true, cond_false, Option.some.injEq] at hv
            subst hv
            refine ⟨_, ?_, one z h2⟩
            simp only [Instr.typeAssert, Sem.run_bind, run_underlying hu, Result.andThen_ok]
            cases d <;> first | exact absurd ⟨_, rfl⟩ hif | simp [h1, hut]

end
end Go.Ev

/- Slice expressions; maps read; literals. -/
namespace Go.Ev

section
variable {T : Tab} {P : Program} {ι : Inj} {h : H} {w : World} {tm : Tm} {a : Act}

theorem blt_lt {a b : Nat} (h : Nat.blt a b = true) : a < b := by simpa [Nat.blt_eq] using h

theorem sliceK_R {size : Nat} {ad : Option Addr} {l u m : Nat} {v : Value} (hv : sliceK size ad (l, u, m) = some v) :
    m < unk ∧ v = .slice (if m = l then ad else ad.map (·.add (l * size))) (u - l) (m - l) := by
  unfold sliceK at hv
  simp only [fN_eq] at hv
  cases hb : Nat.blt m unk with
  | false => rw [hb] at hv; simp at hv
  | true =>
    rw [hb] at hv
    simp only [cond_true, Option.some.injEq] at hv
    refine ⟨blt_lt hb, ?_⟩
    rw [← hv]
    by_cases he : m = l
    · subst he; simp
    · have : Nat.beq m l = false := by rw [Bool.eq_false_iff]; intro e; exact he (Nat.eq_of_beq_eq_true e)
      rw [this, if_neg he]; rfl

theorem slen (s : List UInt8) : ByteArray.size ⟨⟨s⟩⟩ = s.length := rfl

theorem sliceF_R (hT : TabOk T P) (hw : WR T ι h w) (ht : TmR T ι tm a.tmps) {t : Nat} {x : Operand} {lo hi mx : Option Operand} {f : Tm → H → Option Value}
    (hf : sliceF T t x lo hi mx = some f) {v : Value} (hv : f tm h = some v) :
    ∃ v', (Instr.sliceAt t (a.eval x) (lo.map a.eval) (hi.map a.eval) (mx.map a.eval)).run P w = .ok v' w ∧ VR T ι v v' := by
  unfold sliceF at hf
  cases hok : okBounds hi mx with
  | false => rw [hok] at hf; simp at hf
  | true =>
  rw [hok] at hf
  simp only [cond_true] at hf
  have hx := ev_R hw ht x
  cases hd : T.desc t with
  | none => simp [hd] at hf
  | some d =>
    have hu := hT.desc _ _ hd
    cases d <;> simp only [hd, Option.some.injEq, reduceCtorEq] at hf
    case string =>
      cases mx with
      | some mx => simp at hf
      | none =>
        simp only [Option.some.injEq] at hf
        subst hf
        dsimp only at hv
        generalize hex : ev x tm = ex at hv hx
        generalize hax : a.eval x = ax at hx ⊢
        cases hx <;> simp only [reduceCtorEq] at hv
        rename_i s
        obtain ⟨⟨s⟩⟩ := s
        obtain ⟨⟨l, u, m⟩, hb, rfl⟩ := Option.map_eq_some_iff.1 hv
        obtain ⟨h1, h2, h3, h4, h5⟩ := bounds_R (P := P) hw ht false (Nat.le_refl _) (Nat.le_refl _) hb hok
        refine ⟨.string ((⟨⟨s⟩⟩ : ByteArray).extract l u), ?_, ?_⟩
        · simp only [Instr.sliceAt, Sem.run_bind, run_underlying hu, Result.andThen_ok, Instr.slice, Option.map_none, Option.isSome_none, Bool.false_eq_true, if_false, slen]
          simp only [Option.map_none] at h1
          simp [h1]
        · have e : (⟨⟨s⟩⟩ : ByteArray).extract l u = ⟨⟨(s.drop l).take (u - l)⟩⟩ := by
            apply ByteArray.ext
            rw [ByteArray.data_extract]
            apply Array.ext'
            simp
          rw [e]
          exact .string _
    case slice e =>
      subst hf
      dsimp only at hv
      generalize hex : ev x tm = ex at hv hx
      generalize hax : a.eval x = ax at hx ⊢
      have run : ∀ (ad : Option Addr) (n c : Nat), (Instr.sliceAt t (.slice ad n c) (lo.map a.eval) (hi.map a.eval) (mx.map a.eval)).run P w =
          (((Instr.sliceBounds true n c (lo.map a.eval) (hi.map a.eval) (mx.map a.eval)).run P w).andThen fun r w' => .ok (.slice (if r.2.2 = r.1 then ad else ad.map (·.add (r.1 * T.size e))) (r.2.1 - r.1) (r.2.2 - r.1)) w') := by
        intro ad n c
        simp only [Instr.sliceAt, Sem.run_bind, run_underlying hu, Result.andThen_ok, Instr.slice]
        cases (Instr.sliceBounds true n c (lo.map a.eval) (hi.map a.eval) (mx.map a.eval)).run P w with
        | ok r w' => simp only [Result.andThen_ok, sizeOf_R (hT.sizeS _ _ hd), Sem.run_pure]
        | halt _ _ => rfl
      have known : ∀ (ad ad' : Option Addr) (n c : Nat), c < unk → n ≤ c → (∀ l u m, u ≤ m → m ≤ c → l ≤ u → VR T ι (.slice (if m = l then ad else ad.map (·.add (l * T.size e))) (u - l) (m - l)) (.slice (if m = l then ad' else ad'.map (·.add (l * T.size e))) (u - l) (m - l))) →
          (bounds n c lo hi mx tm).bind (sliceK (T.size e) ad) = some v →
          ∃ v', (Instr.sliceAt t (.slice ad' n c) (lo.map a.eval) (hi.map a.eval) (mx.map a.eval)).run P w = .ok v' w ∧ VR T ι v v' := by
        intro ad ad' n c hc hn hV hv
        obtain ⟨⟨l, u, m⟩, hb, hv⟩ := Option.bind_eq_some_iff.1 hv
        obtain ⟨h1, h2, h3, h4, h5⟩ := bounds_R (P := P) hw ht true (Nat.le_refl _) hn hb hok
        obtain ⟨h6, rfl⟩ := sliceK_R hv
        have hm : (if mx.isSome then m else c) = m := by
          cases mx with
          | none => simp [h5 rfl]
          | some _ => simp
        rw [hm] at h1
        exact ⟨_, by rw [run, h1]; rfl, hV l u m h3 h4 h2⟩
      have bk : ∀ c, c < unk → Nat.blt c unk = true := fun c hc => by rw [Nat.blt_eq]; exact hc
      cases hx <;> simp only [reduceCtorEq] at hv
      case sliceNil n c hc hn =>
        rw [bk c hc, cond_true] at hv
        refine known none none n c hc hn (fun l u m h1 h2 h3 => ?_) hv
        have e : (if m = l then (none : Option Addr) else none) = none := by split <;> rfl
        simp only [Option.map_none]
        rw [e]
        exact .sliceNil _ _ (by omega) (by omega)
      case slice b o n c m hm hc hn =>
        rw [bk c hc, cond_true] at hv
        refine known (some ⟨b, o, none⟩) (some ⟨m.blk, m.off + o, none⟩) n c hc hn (fun l u c' h1 h2 h3 => ?_) hv
        simp only [Option.map_some, addr_add]
        split
        · exact .slice _ _ _ _ _ hm (by omega) (by omega)
        · rw [Nat.add_assoc]; exact .slice _ _ _ _ _ hm (by omega) (by omega)
      case sliceUnk b o n o' c' m hm hn room place =>
        have hbu : Nat.blt unk unk = false := by rw [Bool.eq_false_iff, ne_eq, Nat.blt_eq]; omega
        rw [hbu, cond_false] at hv
        cases hg : h.get b with
        | none => simp [hg] at hv
        | some ob =>
          cases ob with
          | cells cs e' own =>
            simp only [hg] at hv
            cases hsz : Nat.beq (T.size e') (T.size e) with
            | false => rw [hsz] at hv; simp at hv
            | true =>
              rw [hsz, cond_true] at hv
              have hsz' := Nat.eq_of_beq_eq_true hsz
              obtain ⟨obj, hob1, hob2⟩ := hw.live _ _ _ hg hm
              have hel : m.el = e' := by cases hob2; rfl
              rw [hel, hsz'] at room
              obtain ⟨⟨l, u, q⟩, hb, hv⟩ := Option.bind_eq_some_iff.1 hv
              obtain ⟨h1, h2, h3, h4, h5⟩ := bounds_R (P := P) hw ht true hn (Nat.le_refl _) hb hok
              cases mx with
              | none =>
                simp only [Option.isSome_none, Bool.false_eq_true, if_false] at h1
                simp only [sliceU, fN_eq, Option.some.injEq, Nat.sub_eq, Nat.mul_eq, Nat.add_eq] at hv
                subst hv
                refine ⟨_, by rw [run, h1]; rfl, ?_⟩
                simp only [Option.map_some, addr_add]
                have hlc : l * T.size e + (c' - l) * T.size e = c' * T.size e := by rw [← Nat.add_mul]; congr 1; omega
                by_cases hcl : c' = l
                · rw [if_pos hcl]
                  exact .sliceUnk _ _ _ _ _ m hm (by omega) (by rw [hel, hsz']; subst hcl; simp; omega) (.inl (by show u - l = 0; omega))
                · rw [if_neg hcl]
                  refine .sliceUnk _ _ _ _ _ m hm (by show u - l ≤ c' - l; omega) (by rw [hel, hsz']; omega) ?_
                  rcases place with h0 | h0
                  · exact .inl (by show u - l = 0; omega)
                  · exact .inr (by show o' + l * T.size e = m.off + (o + l * T.size e); omega)
              | some mx =>
                simp only [Option.isSome_some, if_true] at h1
                unfold sliceM at hv
                dsimp only at hv
                cases h0 : Nat.beq n 0 with
                | true => rw [h0] at hv; simp at hv
                | false =>
                  rw [h0, cond_false] at hv
                  have hn0 : n ≠ 0 := fun e => by subst e; simp at h0
                  have hpl : o' = m.off + o := by rcases place with h | h; exact absurd h hn0; exact h
                  cases hqu : Nat.blt q unk with
                  | false => rw [hqu] at hv; simp at hv
                  | true =>
                    rw [hqu, cond_true] at hv
                    have hqu' := blt_lt hqu
                    refine ⟨_, by rw [run, h1]; rfl, ?_⟩
                    simp only [Option.map_some, addr_add]
                    cases hql : Nat.beq q l with
                    | true =>
                      have := Nat.eq_of_beq_eq_true hql
                      rw [hql] at hv
                      simp only [cond_true, Option.some.injEq] at hv
                      subst hv
                      subst this
                      rw [if_pos rfl, hpl, show u - q = 0 by omega, show q - q = 0 by omega]
                      exact .slice _ _ _ _ _ hm (by omega) (by omega)
                    | false =>
                      have hne : q ≠ l := fun e => by subst e; simp at hql
                      rw [hql] at hv
                      simp only [cond_false, fN_eq, Option.some.injEq, Nat.sub_eq, Nat.mul_eq, Nat.add_eq] at hv
                      subst hv
                      rw [if_neg hne, hpl, Nat.add_assoc]
                      exact .slice _ _ _ _ _ hm (by show q - l < unk; omega) (by show u - l ≤ q - l; omega)
          | _ => simp [hg] at hv
    case array n e =>
      subst hf
      dsimp only at hv
      generalize hex : ev x tm = ex at hv hx
      generalize hax : a.eval x = ax at hx ⊢
      cases hx <;> simp only [reduceCtorEq] at hv
      rename_i b o m hm
      obtain ⟨⟨l, u, c⟩, hb, hv⟩ := Option.bind_eq_some_iff.1 hv
      obtain ⟨h1, h2, h3, h4, h5⟩ := bounds_R (P := P) hw ht false (Nat.le_refl _) (Nat.le_refl _) hb hok
      obtain ⟨h6, rfl⟩ := sliceK_R hv
      have hc : (if mx.isSome then c else n) = c := by
        cases mx with
        | none => simp [h5 rfl]
        | some _ => simp
      rw [hc] at h1
      refine ⟨.slice (some (if c = l then ⟨m.blk, m.off + o, none⟩ else (⟨m.blk, m.off + o, none⟩ : Addr).add (l * T.size e))) (u - l) (c - l), ?_, ?_⟩
      · simp only [Instr.sliceAt, Sem.run_bind, run_underlying hu, Result.andThen_ok, Instr.sureAddr, Sem.run_pure, h1, sizeOf_R (hT.sizeA _ _ _ hd)]
      · split
        · exact .slice _ _ _ _ _ hm (by omega) (by omega)
        · simp only [Option.map_some, addr_add, Nat.add_assoc]
          exact .slice _ _ _ _ _ hm (by omega) (by omega)

end
end Go.Ev

/- Maps read; literals; what gives a value and leaves the world alone. -/
namespace Go.Ev

section
variable {T : Tab} {P : Program} {ι : Inj} {h : H} {w : World} {tm : Tm} {a : Act}

theorem zeroV_R (hT : TabOk T P) {t : Nat} {z : Value} (hz : zeroV T t = some z) : (zeroValue t).run P w = .ok z w ∧ VR T ι z z ∧ ∃ i, P.info? t = some i ∧ i.zero = some z := by
  obtain ⟨z', h1, h2⟩ := Option.bind_eq_some_iff.1 hz
  cases hc : closedV z' with
  | false => rw [hc] at h2; simp at h2
  | true =>
    rw [hc] at h2
    simp only [cond_true, Option.some.injEq] at h2
    subst h2
    obtain ⟨i, e1, e2⟩ := hT.zero _ _ h1
    exact ⟨by simp [zeroValue, typeInfo, e1, e2], closedV_VR T ι _ hc, i, e1, e2⟩

theorem zeroCells_R (hT : TabOk T P) {t : Nat} {l : List Value} (hz : zeroCells T t = some l) : ∃ z, zeroV T t = some z ∧ l = z.cells.toList ∧ flatL l = true ∧ VRs T ι l z.cells.toList := by
  obtain ⟨z, h1, h2⟩ := Option.bind_eq_some_iff.1 hz
  cases hc : flatL z.cells.toList with
  | false => rw [hc] at h2; simp at h2
  | true =>
    rw [hc] at h2
    simp only [cond_true, Option.some.injEq] at h2
    subst h2
    refine ⟨z, h1, rfl, hc, ?_⟩
    obtain ⟨z', e1, e2⟩ := Option.bind_eq_some_iff.1 h1
    cases hcl : closedV z' with
    | false => rw [hcl] at e2; simp at e2
    | true =>
      rw [hcl] at e2
      simp only [cond_true, Option.some.injEq] at e2
      subst e2
      by_cases ha : ∃ x, z' = .agg x
      · obtain ⟨⟨x⟩, rfl⟩ := ha
        exact closedL_VRs T ι x hcl
      · have hcells : z'.cells = #[z'] := by
          cases z' <;> first | rfl | exact absurd ⟨_, rfl⟩ ha
        rw [hcells]
        exact .cons _ _ _ _ (closedV_VR T ι z' hcl) .nil

/-- a scalar stands for itself -/
theorem keyEq_same {x y y' : Value} {b : Bool} (hy : y' = y) (hk : keyEq x y = some b) {t : TypeDesc} {x' : Value} (hx : VR T ι x x')
    (hp : (∃ k n, x = .int k n ∧ t = .int k) ∨ (∃ s, x = .string s ∧ t = .string) ∨ (∃ c, x = .bool c ∧ t = .bool)) : Instr.sameNow t x' y' = some b ∧ x' = x := by
  subst hy
  rcases hp with ⟨k, n, rfl, rfl⟩ | ⟨s, rfl, rfl⟩ | ⟨c, rfl, rfl⟩
  · cases hx
    simp only [keyEq] at hk
    cases y' <;> simp only [reduceCtorEq] at hk
    rename_i k' n'
    cases hb : beqK k k' with
    | false => rw [hb] at hk; simp at hk
    | true =>
      rw [hb] at hk
      simp only [cond_true, Option.some.injEq] at hk
      rw [beqK_iff] at hb
      subst hb
      exact ⟨by simp [Instr.sameNow, ← hk, beqI_eq], rfl⟩
  · cases hx
    simp only [keyEq] at hk
    cases y' <;> simp only [reduceCtorEq, Option.some.injEq] at hk
    rename_i s'
    refine ⟨?_, rfl⟩
    simp only [Instr.sameNow, ← hk, beqS_eq]
    rw [beq_toListBytes, ByteArray.toList_eq, ByteArray.toList_eq]
  · cases hx
    simp only [keyEq] at hk
    cases y' <;> simp only [reduceCtorEq, Option.some.injEq] at hk
    exact ⟨by simp [Instr.sameNow, ← hk, beqB_eq], rfl⟩

theorem plainKey_R (hT : TabOk T P) {t : Nat} {f : Value → Bool} (hf : plainKey T t = some f) {k k' : Value} (hk : VR T ι k k') (hb : f k = true) :
    k' = k ∧ closedV k = true ∧ ∃ d, T.desc t = some d ∧ ((∃ q n, k = .int q n ∧ d = .int q) ∨ (∃ s, k = .string s ∧ d = .string) ∨ (∃ c, k = .bool c ∧ d = .bool)) := by
  unfold plainKey at hf
  cases hd : T.desc t with
  | none => simp [hd] at hf
  | some d =>
    cases d <;> simp only [hd, Option.some.injEq, reduceCtorEq] at hf <;> subst hf
    case bool => cases hk <;> simp at hb; exact ⟨rfl, rfl, _, rfl, .inr (.inr ⟨_, rfl, rfl⟩)⟩
    case int q =>
      cases hk <;> simp only [reduceCtorEq, Bool.false_eq_true] at hb
      rw [beqK_iff] at hb
      subst hb
      exact ⟨rfl, rfl, _, rfl, .inl ⟨_, _, rfl, rfl⟩⟩
    case string => cases hk <;> simp at hb; exact ⟨rfl, rfl, _, rfl, .inr (.inl ⟨_, rfl, rfl⟩)⟩

theorem checkKey_R (hT : TabOk T P) {t : Nat} {d : TypeDesc} (hd : T.desc t = some d) {k : Value} (hp : (∃ q n, k = .int q n ∧ d = .int q) ∨ (∃ s, k = .string s ∧ d = .string) ∨ (∃ c, k = .bool c ∧ d = .bool)) (e : Bool) :
    (Instr.checkKey e 10000 t k).run P w = .ok () w := by
  have hu := hT.desc _ _ hd
  obtain ⟨n, hn⟩ : ∃ n, n + 1 = 10000 := ⟨9999, rfl⟩
  rw [← hn]
  rcases hp with ⟨q, n, rfl, rfl⟩ | ⟨s, rfl, rfl⟩ | ⟨c, rfl, rfl⟩ <;> simp only [Instr.checkKey, Sem.run_bind, run_underlying hu, Result.andThen_ok, Sem.run_pure]

/-- the machine finds the entry that the evaluator finds -/
theorem findE_R {d : TypeDesc} {k : Value} (hp : (∃ q n, k = .int q n ∧ d = .int q) ∨ (∃ s, k = .string s ∧ d = .string) ∨ (∃ c, k = .bool c ∧ d = .bool))
    {es es' : List MapEntry} (he : Ents T ι es es') {i : Nat} {r : Option (Nat × Value)} (hr : findE k es i = some r) :
    ∃ r', Instr.findNow d k es' i = some r' ∧ (r = none ∧ r' = none ∨ ∃ j v v', r = some (j, v) ∧ r' = some (j, v') ∧ VR T ι v v' ∧ i ≤ j ∧ ∃ e e', es[j - i]? = some e ∧ es'[j - i]? = some e' ∧ EntR T ι e e' ∧ e.val = v ∧ e'.val = v' ∧ keyEq k e.key = some true) := by
  induction he generalizing i with
  | nil =>
    simp only [findE, Option.some.injEq] at hr
    subst hr
    exact ⟨none, rfl, .inl ⟨rfl, rfl⟩⟩
  | cons e e' l l' hh hl ih =>
    simp only [findE] at hr
    obtain ⟨b, hb, hr⟩ := Option.bind_eq_some_iff.1 hr
    have hs := (keyEq_same (T := T) (ι := ι) hh.key hb (x' := k) (by
      rcases hp with ⟨q, n, rfl, rfl⟩ | ⟨s, rfl, rfl⟩ | ⟨c, rfl, rfl⟩
      · exact .int _ _
      · exact .string _
      · exact .bool _) hp).1
    cases b with
    | true =>
      simp only [cond_true, Option.some.injEq] at hr
      subst hr
      exact ⟨some (i, e'.val), by simp [Instr.findNow, hs], .inr ⟨i, _, _, rfl, rfl, hh.val, Nat.le_refl _, e, e', by simp, by simp, hh, rfl, rfl, hb⟩⟩
    | false =>
      simp only [cond_false] at hr
      obtain ⟨r', h1, h2⟩ := ih hr
      refine ⟨r', by simp only [Instr.findNow, hs]; exact h1, ?_⟩
      rcases h2 with h2 | ⟨j, v, v', e1, e2, e3, e4, x, x', e5, e6, e7⟩
      · exact .inl h2
      · refine .inr ⟨j, v, v', e1, e2, e3, by omega, x, x', ?_, ?_, e7⟩
        · rw [show j - i = (j - (i + 1)) + 1 by omega]; simpa using e5
        · rw [show j - i = (j - (i + 1)) + 1 by omega]; simpa using e6

theorem run_findKey (hT : TabOk T P) {t : Nat} {d : TypeDesc} (hd : T.desc t = some d) {k : Value} {es : List MapEntry} {r : Option (Nat × Value)} (hr : Instr.findNow d k es 0 = some r) :
    (Instr.findKey t k es).run P w = .ok r w := by
  simp [Instr.findKey, run_underlying (hT.desc _ _ hd), hr]

theorem lookupF_R (hT : TabOk T P) (hw : WR T ι h w) {t : Nat} {ok : Bool} {f : H → Value → Value → Option Value} (hf : lookupF T t ok = some f) {x k x' k' v : Value} (hx : VR T ι x x') (hk : VR T ι k k') (hv : f h x k = some v) :
    ∃ v', (Instr.lookup t x' k' ok).run P w = .ok v' w ∧ VR T ι v v' := by
  unfold lookupF at hf
  cases hd : T.desc t with
  | none => simp [hd] at hf
  | some d =>
    have hu := hT.desc _ _ hd
    cases d <;> simp only [hd, reduceCtorEq] at hf
    rename_i kt et
    obtain ⟨pk, hpk, hf⟩ := Option.bind_eq_some_iff.1 hf
    obtain ⟨z, hz, rfl⟩ := Option.map_eq_some_iff.1 hf
    obtain ⟨hz1, hz2, _⟩ := zeroV_R (P := P) (w := w) (ι := ι) hT hz
    dsimp only at hv
    cases hpb : pk k with
    | false => rw [hpb] at hv; simp at hv
    | true =>
      rw [hpb] at hv
      simp only [cond_true] at hv
      obtain ⟨es, hes, hv⟩ := Option.bind_eq_some_iff.1 hv
      obtain ⟨r, hr, hv⟩ := Option.map_eq_some_iff.1 hv
      obtain ⟨rfl, _, dk, hdk, hp⟩ := plainKey_R hT hpk hk hpb
      have fin : ∀ (es' : Array MapEntry), Ents T ι es es'.toList → (∀ (e : Bool), True) →
          ∃ v', ((do
            Instr.checkKey es'.isEmpty 10000 kt k'
            let (v, okk) ← match ← Instr.findKey kt k' es'.toList with
              | some (_, v) => pure (v, true)
              | none => pure (← zeroValue et, false)
            pure (if ok then .tuple #[v, .bool okk] else v)) : Sem Value).run P w = .ok v' w ∧ VR T ι v v' := by
        intro es' he _
        obtain ⟨r', h1, h2⟩ := findE_R hp he hr
        rcases h2 with ⟨rfl, rfl⟩ | ⟨j, u, u', rfl, rfl, hu1, _⟩
        · simp only at hv
          refine ⟨v, ?_, ?_⟩
          · simp only [Sem.run_bind, checkKey_R hT hdk hp, Result.andThen_ok, run_findKey hT hdk h1, hz1, Sem.run_pure]
            rw [← hv]; cases ok <;> rfl
          · rw [← hv]; cases ok
            · exact hz2
            · exact .tuple _ _ (.cons _ _ _ _ hz2 (.cons _ _ _ _ (.bool _) .nil))
        · simp only at hv
          refine ⟨if ok then .tuple #[u', .bool true] else u', ?_, ?_⟩
          · simp only [Sem.run_bind, checkKey_R hT hdk hp, Result.andThen_ok, run_findKey hT hdk h1, Sem.run_pure]
          · rw [← hv]; cases ok
            · exact hu1
            · exact .tuple _ _ (.cons _ _ _ _ hu1 (.cons _ _ _ _ (.bool _) .nil))
      rcases entriesOf_R hw hx hes with ⟨rfl, rfl⟩ | ⟨q, m, es', c, rfl, hm, rfl, hg, hb, he⟩
      · obtain ⟨v', h1, h2⟩ := fin #[] .nil (fun _ => trivial)
        refine ⟨v', ?_, h2⟩
        simp only [Instr.lookup, Sem.run_bind, run_underlying hu, Result.andThen_ok, Sem.run_pure]
        simp only [Sem.run_bind] at h1
        exact h1
      · obtain ⟨v', h1, h2⟩ := fin es' he (fun _ => trivial)
        refine ⟨v', ?_, h2⟩
        simp only [Instr.lookup, Sem.run_bind, run_underlying hu, Result.andThen_ok, run_getObj_map hb, Sem.run_pure]
        simp only [Sem.run_bind] at h1
        exact h1

end
end Go.Ev

/- Literals; and what gives a value and leaves the world alone, all of it. -/
namespace Go.Ev

theorem cellsV_R {T : Tab} {ι : Inj} {v v' : Value} (hv : VR T ι v v') {l : List Value} (hl : cellsV v = some l) : VRs T ι l v'.cells.toList := by
  cases hv <;> simp only [cellsV, Option.some.injEq, reduceCtorEq] at hl
  case agg a a' h => rw [← hl]; exact h
  all_goals
    subst hl
    refine .cons _ _ _ _ ?_ .nil
  case bool b => exact .bool b
  case int k n => exact .int k n
  case string s => exact .string s
  case ptrNil => exact .ptrNil
  case ptr b o m h => exact .ptr b o m h
  case sliceNil n c hc hn => exact .sliceNil n c hc hn
  case slice b o n c m h hc hn => exact .slice b o n c m h hc hn
  case sliceUnk b o n o' c' m h hn room place => exact .sliceUnk b o n o' c' m h hn room place
  case mapNil => exact .mapNil
  case map r m h => exact .map r m h
  case func fn fn' a b a' b' h h1 h2 => exact .func fn fn' a b a' b' h h1 h2
  case nilFunc => exact .nilFunc
  case nilIface => exact .nilIface
  case iface t v v' h => exact .iface t v v' h
  case tuple a a' h => exact .tuple a a' h

theorem foldl_set (off : Nat) : ∀ (vs : List Value) (k : Nat) (cells : Array Value), off + k + vs.length ≤ cells.size →
    ((vs.zipIdx k).foldl (fun (cs : Array Value) (x : Value × Nat) => cs.setIfInBounds (off + x.2) x.1) cells).toList = cells.toList.take (off + k) ++ vs ++ cells.toList.drop (off + k + vs.length)
  | [], k, cells, _ => by simp
  | v :: vs, k, cells, hk => by
    have hk' : off + k + (vs.length + 1) ≤ cells.size := by simpa using hk
    rw [List.zipIdx_cons, List.foldl_cons, foldl_set off vs (k + 1) (cells.setIfInBounds (off + k) v) (by simp; omega)]
    have e := list_seg_step cells.toList (off + k) v vs (by simpa using hk')
    rw [Array.toList_setIfInBounds, show off + (k + 1) = off + k + 1 by omega]
    rw [e]
    simp

theorem splice_R {T : Tab} {ι : Inj} {vs cs r vs' : List Value} {c' : Array Value} {off : Nat} (hs : splice vs cs off = some r) (hv : VRs T ι vs vs') (hc : VRs T ι cs c'.toList) :
    off + vs'.length ≤ c'.size ∧ VRs T ι r (c'.toList.take off ++ vs' ++ c'.toList.drop (off + vs'.length)) := by
  obtain ⟨h1, rfl⟩ := splice_eq _ _ _ _ hs
  have e1 := hv.length
  have e2 : cs.length = c'.size := hc.length.trans (Array.length_toList (xs := c'))
  refine ⟨by omega, ?_⟩
  rw [← e1]
  exact ((hc.take _).append hv).append (hc.drop _)

inductive PartsR (a : Act) (place : Nat → Option (Nat × Nat)) : List (Operand × Nat × Nat) → List (Nat × Value) → Prop
  | nil : PartsR a place [] []
  | cons (x : Operand) (off size i : Nat) (l : List (Operand × Nat × Nat)) (l' : List (Nat × Value)) (h : place i = some (off, size)) (hl : PartsR a place l l') :
      PartsR a place ((x, off, size) :: l) ((i, a.eval x) :: l')

section
variable {T : Tab} {P : Program} {ι : Inj} {h : H} {w : World} {tm : Tm} {a : Act}

theorem fillL_R (hw : WR T ι h w) (ht : TmR T ι tm a.tmps) {place : Nat → Option (Nat × Nat)} {ps : List (Operand × Nat × Nat)} {ps' : List (Nat × Value)} (hp : PartsR a place ps ps')
    {cells l : List Value} {cells' : Array Value} (hc : VRs T ι cells cells'.toList) (hl : fillL ps cells tm = some l) :
    ∃ l', Instr.fill place cells' ps' = some l' ∧ VRs T ι l l'.toList ∧ l'.size = cells'.size := by
  induction hp generalizing cells cells' with
  | nil =>
    simp only [fillL, Option.some.injEq] at hl
    subst hl
    exact ⟨cells', rfl, hc, rfl⟩
  | cons x off size i ps ps' hi _ ih =>
    simp only [fillL] at hl
    obtain ⟨vs, hvs, hl⟩ := Option.bind_eq_some_iff.1 hl
    cases hsz : Nat.beq vs.length size with
    | false => rw [hsz] at hl; simp at hl
    | true =>
      rw [hsz, cond_true] at hl
      obtain ⟨cs, hcs, hl⟩ := Option.bind_eq_some_iff.1 hl
      have hv := cellsV_R (ev_R hw ht x) hvs
      obtain ⟨h1, h2⟩ := splice_R hcs hv hc
      have hsize : (a.eval x).cells.size = size := by
        have := hv.length.trans (Array.length_toList (xs := (a.eval x).cells))
        rw [← this]; exact Nat.eq_of_beq_eq_true hsz
      have hlen : (a.eval x).cells.toList.length = (a.eval x).cells.size := Array.length_toList
      rw [hlen] at h1
      -- the machine's cells behind this part
      let c1 := ((a.eval x).cells.zipIdx.foldl (fun cs (c, j) => cs.setIfInBounds (off + j) c) cells')
      have e1 : c1.toList = cells'.toList.take off ++ (a.eval x).cells.toList ++ cells'.toList.drop (off + (a.eval x).cells.toList.length) := by
        have := foldl_set off (a.eval x).cells.toList 0 cells' (by simpa using h1)
        simp only [Nat.add_zero] at this
        rw [← this]
        show ((a.eval x).cells.zipIdx.foldl _ cells').toList = _
        rw [← Array.foldl_toList, Array.toList_zipIdx]
      obtain ⟨l', f1, f2, f3⟩ := ih (cells' := c1) (by rw [e1]; exact h2) hl
      have hc1 : c1.size = cells'.size := by
        have := congrArg List.length e1
        have e0 : c1.toList.length = c1.size := Array.length_toList
        rw [e0] at this
        rw [this]
        simp
        omega
      refine ⟨l', ?_, f2, by rw [f3, hc1]⟩
      simp only [Instr.fill, hi]
      have hno : (decide ((a.eval x).cells.size ≠ size) || decide (off + (a.eval x).cells.size > cells'.size)) = false := by
        simp [hsize]; omega
      rw [hno]
      exact f1

theorem arrayParts_R (size : Nat) (l : List (Nat × Operand)) : PartsR a (fun i => some (i * size, size)) (arrayParts size l) (l.map fun (i, x) => (i, a.eval x)) := by
  induction l with
  | nil => exact .nil
  | cons p l ih => obtain ⟨i, x⟩ := p; exact .cons _ _ _ _ _ _ rfl ih

theorem places_of (hT : TabOk T P) {t : Nat} {fs : Array Field} (hd : T.desc t = some (.struct fs)) :
    fs.toList.mapM (fun f => (P.info? f.type).map fun i => (f.offset, i.size)) = some (fs.toList.map fun f => (f.offset, T.size f.type)) := by
  have key : ∀ (l : List Field), (∀ f ∈ l, ∃ i, P.info? f.type = some i ∧ i.size = T.size f.type) → l.mapM (fun f => (P.info? f.type).map fun i => (f.offset, i.size)) = some (l.map fun f => (f.offset, T.size f.type)) := by
    intro l
    induction l with
    | nil => intro _; rfl
    | cons f l ih =>
      intro hl
      obtain ⟨i, h1, h2⟩ := hl f (by simp)
      simp only [List.mapM_cons, h1, Option.map_some, h2, Option.bind_eq_bind, Option.bind_some, ih (fun g hg => hl g (by simp [hg])), Option.pure_def, List.map_cons]
  apply key
  intro f hf
  obtain ⟨j, hj⟩ := List.getElem?_of_mem hf
  exact hT.sizeF t fs j f hd (by simpa using hj)

theorem structParts_R {t : Nat} {fs : Array Field} {l : List (Nat × Operand)} {ps : List (Operand × Nat × Nat)} (hs : structParts T fs l = some ps) :
    PartsR a (fun i => ((fs.toList.map fun f => (f.offset, T.size f.type)).toArray)[i]?) ps (l.map fun (i, x) => (i, a.eval x)) ∧ t = t := by
  refine ⟨?_, rfl⟩
  induction l generalizing ps with
  | nil => simp only [structParts, Option.some.injEq] at hs; subst hs; exact .nil
  | cons p l ih =>
    obtain ⟨i, x⟩ := p
    simp only [structParts] at hs
    obtain ⟨f, hf, hs⟩ := Option.bind_eq_some_iff.1 hs
    obtain ⟨ps', hps, rfl⟩ := Option.map_eq_some_iff.1 hs
    rw [nth?_eq] at hf
    exact .cons _ _ _ _ _ _ (by simp at hf; simp [hf]) (ih hps)

theorem build_R (hT : TabOk T P) (hw : WR T ι h w) (ht : TmR T ι tm a.tmps) {t : Nat} {parts : Array (Nat × Operand)} {f : Tm → H → Option Value} {v : Value}
    (hf : buildF T t parts.toList = some f) (hv : f tm h = some v) :
    ∃ v', (Instr.build t (parts.map fun (i, x) => (i, a.eval x))).run P w = .ok v' w ∧ VR T ι v v' := by
  unfold buildF at hf
  obtain ⟨z, hz, hf⟩ := Option.bind_eq_some_iff.1 hf
  obtain ⟨zv, hz1, rfl, hz3, hz4⟩ := zeroCells_R (P := P) (ι := ι) hT hz
  obtain ⟨_, _, i, hi1, hi2⟩ := zeroV_R (P := P) (w := w) (ι := ι) hT hz1
  have hparts : (parts.map fun (i, x) => (i, a.eval x)).toList = parts.toList.map fun (i, x) => (i, a.eval x) := by simp
  cases hd : T.desc t with
  | none => simp [hd] at hf
  | some d =>
    have hu := hT.desc _ _ hd
    cases d <;> simp only [hd, Option.some.injEq, reduceCtorEq] at hf
    case struct fs =>
      obtain ⟨ps, hps, rfl⟩ := Option.map_eq_some_iff.1 hf
      obtain ⟨l, hl, rfl⟩ := Option.map_eq_some_iff.1 hv
      obtain ⟨l', h1, h2, _⟩ := fillL_R hw ht (structParts_R (a := a) (t := t) hps).1 hz4 hl
      refine ⟨.agg l', run_build w t _ l' ?_, .agg _ _ h2⟩
      unfold Program.built
      rw [hi1, hu]
      simp only [hi2, places_of hT hd]
      rw [hparts]
      exact h1
    case array n el =>
      subst hf
      obtain ⟨l, hl, rfl⟩ := Option.map_eq_some_iff.1 hv
      obtain ⟨l', h1, h2, _⟩ := fillL_R hw ht (arrayParts_R (a := a) (T.size el) parts.toList) hz4 hl
      obtain ⟨ie, he1, he2⟩ := hT.sizeA _ _ _ hd
      refine ⟨.agg l', run_build w t _ l' ?_, .agg _ _ h2⟩
      unfold Program.built
      rw [hi1, hu]
      simp only [hi2, he1]
      rw [hparts, he2]
      exact h1

theorem evL_arr (hw : WR T ι h w) (ht : TmR T ι tm a.tmps) (xs : Array Operand) : VRs T ι (evL xs.toList tm) (xs.map a.eval).toList := by
  rw [Array.toList_map]; exact evL_R hw ht _

theorem nilCheck_R {x : Operand} {v : Value} (hw : WR T ι h w) (ht : TmR T ι tm a.tmps) {dst : Option Tmp} {type : TypeId} {pos : String} {after : Array Edge} {guard : Option (Nat × Bool)}
    (hv : nilCheckV (ev x tm) = some v) : ∃ v', (execOp a.eval ⟨dst, .nilCheck x, type, pos, after, guard⟩).run P w = .ok (.value v') w ∧ VR T ι v v' := by
  have hx := ev_R hw ht x
  generalize hex : ev x tm = ex at hv hx
  generalize hax : a.eval x = ax at hx
  cases hx <;> simp only [nilCheckV, reduceCtorEq, Option.some.injEq] at hv
  case ptr b o m hm =>
    subst hv
    exact ⟨_, by simp only [execOp, hax]; rfl, .ptr b o m hm⟩
  case func fn fn' p q p' q' hfn h1 h2 =>
    cases hfn with
    | func f =>
      simp only [nilCheckV, Option.some.injEq] at hv
      subst hv
      exact ⟨_, by simp only [execOp, hax]; rfl, .func _ _ _ _ _ _ (.func f) h1 h2⟩
    | via t p1 f q1 =>
      simp only [nilCheckV, Option.some.injEq] at hv
      subst hv
      exact ⟨_, by simp only [execOp, hax]; rfl, .func _ _ _ _ _ _ (.via t p1 f q1) h1 h2⟩
    | yield l m hm =>
      simp only [nilCheckV, Option.some.injEq] at hv
      subst hv
      exact ⟨_, by simp only [execOp, hax]; rfl, .func _ _ _ _ _ _ (.yield l m hm) h1 h2⟩

theorem fieldAddr_R (hT : TabOk T P) {t off : Nat} {fs : Array Field} {f : Field} (hd : T.desc t = some (.struct fs)) (hf : fs.toList[off]? = some f) (hs : Nat.beq (T.size f.type) 0 = false)
    {x x' v : Value} (hx : VR T ι x x') (hv : fieldA f.offset x = some v) :
    ∃ v', (Instr.fieldAt t x' off).run P w = .ok v' w ∧ VR T ι v v' := by
  have hu := hT.desc _ _ hd
  cases hx <;> simp only [fieldA, reduceCtorEq] at hv
  rename_i b o m hm
  have := addA_eq hv
  subst this
  have hf' : fs[off]? = some f := by simpa using hf
  have hsz := hT.sizeF _ _ _ _ hd hf'
  have hs0 : ¬ T.size f.type = 0 := fun e => by rw [e] at hs; simp at hs
  refine ⟨.pointer (some ⟨m.blk, m.off + (o + f.offset), none⟩), ?_, .ptr _ _ _ hm⟩
  simp only [Instr.fieldAt, Sem.run_bind, run_underlying hu, Result.andThen_ok, hf', Instr.sureAddr, Sem.run_pure, fieldPlace, sizeOf_R hsz, hs0, if_false, addr_add, Nat.add_assoc]

theorem lookF_R (hT : TabOk T P) (hw : WR T ι h w) (ht : TmR T ι tm a.tmps) {b : Builtin} {args : Array Operand} {argTypes : Array TypeId} {dst : Option Tmp} {type : TypeId} {pos : String} {after : Array Edge} {guard : Option (Nat × Bool)}
    {f : Tm → H → Option Value} (hf : lookF T b argTypes.toList args.toList = some f) {v : Value} (hv : f tm h = some v) :
    ∃ v', (execOp a.eval ⟨dst, .call ⟨.builtin b, args, argTypes⟩, type, pos, after, guard⟩).run P w = .ok (.value v') w ∧ VR T ι v v' := by
  obtain ⟨args⟩ := args
  obtain ⟨argTypes⟩ := argTypes
  cases b <;> simp only [lookF, reduceCtorEq] at hf
  case len =>
    split at hf
    · rename_i t x
      obtain ⟨g, hg, rfl⟩ := Option.map_eq_some_iff.1 hf
      obtain ⟨v', h1, h2⟩ := lenF_R (P := P) (ty := type) hT hw hg (ev_R hw ht x) hv
      exact ⟨v', by simp only [execOp, resolve, List.map_toArray, List.map_cons, List.map_nil, Sem.run_bind, Sem.run_pure, Result.andThen_ok, invoke, builtin, h1], h2⟩
    · cases hf
  case cap =>
    split at hf
    · rename_i t x
      cases hd : T.desc t with
      | none => simp [hd] at hf
      | some d =>
        have hu := hT.desc _ _ hd
        cases d <;> simp only [hd, Option.some.injEq, reduceCtorEq] at hf
        subst hf
        have hx := ev_R hw ht x
        dsimp only at hv
        generalize hex : ev x tm = ex at hv hx
        generalize hax : a.eval x = ax at hx
        have hbu : Nat.blt unk unk = false := by rw [Bool.eq_false_iff, ne_eq, Nat.blt_eq]; omega
        cases hx <;> simp only [capV, reduceCtorEq] at hv
        case sliceNil n c hc hn =>
          have hb : Nat.blt c unk = true := by rw [Nat.blt_eq]; exact hc
          simp only [hb, cond_true, gi, fN_eq, Option.some.injEq] at hv
          subst hv
          exact ⟨goInt c, by simp only [execOp, resolve, List.map_toArray, List.map_cons, List.map_nil, Sem.run_bind, Sem.run_pure, Result.andThen_ok, invoke, builtin, hax, Builtin.cap_]; simp [run_underlying hu], .int _ _⟩
        case slice b o n c m hm hc hn =>
          have hb : Nat.blt c unk = true := by rw [Nat.blt_eq]; exact hc
          simp only [hb, cond_true, gi, fN_eq, Option.some.injEq] at hv
          subst hv
          exact ⟨goInt c, by simp only [execOp, resolve, List.map_toArray, List.map_cons, List.map_nil, Sem.run_bind, Sem.run_pure, Result.andThen_ok, invoke, builtin, hax, Builtin.cap_]; simp [run_underlying hu], .int _ _⟩
        case sliceUnk => simp [hbu] at hv
    · cases hf
  case min =>
    split at hf
    · rename_i x y
      simp only [Option.some.injEq] at hf
      subst hf
      have hx := ev_R hw ht x
      have hy := ev_R hw ht y
      dsimp only at hv
      generalize hex : ev x tm = ex at hv hx
      generalize hax : a.eval x = ax at hx
      generalize hey : ev y tm = ey at hv hy
      generalize hay : a.eval y = ay at hy
      cases hx <;> simp only [minV, reduceCtorEq] at hv
      cases hy <;> simp only [reduceCtorEq] at hv
      rename_i k1 n1 k2 n2
      cases hb : beqK k1 k2 with
      | false => rw [hb] at hv; simp at hv
      | true =>
        rw [hb] at hv
        rw [beqK_iff] at hb
        subst hb
        simp only [cond_true, Option.some.injEq] at hv
        subst hv
        refine ⟨.int k1 (if n2 < n1 then n2 else n1), ?_, ?_⟩
        · simp only [execOp, resolve, List.map_toArray, List.map_cons, List.map_nil, Sem.run_bind, Sem.run_pure, Result.andThen_ok, invoke, builtin, hax, hay]
          simp [Builtin.min_, Builtin.min2]
        · rw [ltI_eq]
          by_cases hlt : n2 < n1
          · simp [hlt]; exact .int _ _
          · simp [hlt]; exact .int _ _
    · cases hf
  case max =>
    split at hf
    · rename_i x y
      simp only [Option.some.injEq] at hf
      subst hf
      have hx := ev_R hw ht x
      have hy := ev_R hw ht y
      dsimp only at hv
      generalize hex : ev x tm = ex at hv hx
      generalize hax : a.eval x = ax at hx
      generalize hey : ev y tm = ey at hv hy
      generalize hay : a.eval y = ay at hy
      cases hx <;> simp only [maxV, reduceCtorEq] at hv
      cases hy <;> simp only [reduceCtorEq] at hv
      rename_i k1 n1 k2 n2
      cases hb : beqK k1 k2 with
      | false => rw [hb] at hv; simp at hv
      | true =>
        rw [hb] at hv
        rw [beqK_iff] at hb
        subst hb
        simp only [cond_true, Option.some.injEq] at hv
        subst hv
        refine ⟨.int k1 (if n2 > n1 then n2 else n1), ?_, ?_⟩
        · simp only [execOp, resolve, List.map_toArray, List.map_cons, List.map_nil, Sem.run_bind, Sem.run_pure, Result.andThen_ok, invoke, builtin, hax, hay]
          simp [Builtin.max_, Builtin.max2]
        · rw [ltI_eq]
          by_cases hlt : n1 < n2
          · simp [hlt]; exact .int _ _
          · simp [hlt]; exact .int _ _
    · cases hf

set_option maxHeartbeats 2000000 in
/-- A float: the machine gives what stands for what the evaluator gives; nothing turns. -/
theorem pure_ok (hT : TabOk T P) (hw : WR T ι h w) (ht : TmR T ι tm a.tmps) {o : Oper} {f : Tm → H → Option Value} (hf : pureF T o.op = some f) {v : Value} (hv : f tm h = some v) :
    ∃ v', (execOp a.eval o).run P w = .ok (.value v') w ∧ VR T ι v v' := by
  obtain ⟨dst, op, type, pos, after, guard⟩ := o
  have lift : ∀ {s : Sem Value} {v : Value}, (∃ v', s.run P w = .ok v' w ∧ VR T ι v v') → ∃ v', ((do pure (.value (← s)) : Sem Next)).run P w = .ok (.value v') w ∧ VR T ι v v' := by
    rintro s v ⟨v', h1, h2⟩
    exact ⟨v', by simp [h1], h2⟩
  cases op <;> simp only [pureF, reduceCtorEq] at hf
  case move x =>
    simp only [Option.some.injEq] at hf
    subst hf
    simp only [Option.some.injEq] at hv
    subst hv
    exact ⟨_, rfl, ev_R hw ht x⟩
  case pick c x y =>
    simp only [Option.some.injEq] at hf
    subst hf
    dsimp only at hv
    have hc := ev_R hw ht c
    generalize hec : ev c tm = ec at hv hc
    generalize hac : a.eval c = ac at hc
    cases hc <;> simp only [reduceCtorEq, Option.some.injEq] at hv
    rename_i b
    refine ⟨if b then a.eval x else a.eval y, ?_, ?_⟩
    · simp only [execOp, hac, asBool, Sem.run_bind, Sem.run_pure, Result.andThen_ok]
    · cases b <;> simp only [cond_true, cond_false] at hv <;> subst hv
      · exact ev_R hw ht y
      · exact ev_R hw ht x
  case build t parts => exact lift (build_R hT hw ht hf hv)
  case load t x =>
    obtain ⟨g, hg, rfl⟩ := Option.map_eq_some_iff.1 hf
    exact lift (loadF_R hT hw hg (ev_R hw ht x) hv)
  case nilCheck x =>
    simp only [Option.some.injEq] at hf
    subst hf
    exact nilCheck_R hw ht hv
  case binOp op t x y yt =>
    obtain ⟨g, hg, rfl⟩ := Option.map_eq_some_iff.1 hf
    exact lift (binF_R hT hg (ev_R hw ht x) (ev_R hw ht y) hv)
  case unOp op t x =>
    obtain ⟨g, hg, rfl⟩ := Option.map_eq_some_iff.1 hf
    exact lift (unV_R hg (ev_R hw ht x) hv)
  case convert s d x =>
    obtain ⟨g, hg, rfl⟩ := Option.map_eq_some_iff.1 hf
    exact lift (convertF_R hT hg (ev_R hw ht x) hv)
  case makeInterface t x =>
    cases hd : T.desc t with
    | none => simp [hd] at hf
    | some d =>
      have hu := hT.desc _ _ hd
      cases d <;> simp only [hd, Option.some.injEq, reduceCtorEq] at hf <;> subst hf <;> simp only [Option.some.injEq] at hv <;> subst hv <;>
        exact lift ⟨_, by simp only [Instr.makeInterface, Sem.run_bind, run_underlying hu, Result.andThen_ok, Sem.run_pure], .iface _ _ _ (ev_R hw ht x)⟩
  case makeFunc fn first captured =>
    cases hp : plainFn fn with
    | false => rw [hp] at hf; simp at hf
    | true =>
      rw [hp] at hf
      simp only [cond_true, Option.some.injEq] at hf
      subst hf
      simp only [Option.some.injEq] at hv
      subst hv
      have hfn : FnR ι fn fn := by
        cases fn <;> simp [plainFn] at hp
        · exact .func _
        · exact .via _ _ _ _
      exact ⟨_, rfl, .func _ _ _ _ _ _ hfn (evL_arr hw ht first) (evL_arr hw ht captured)⟩
  case slice t x lo hi mx => exact lift (sliceF_R hT hw ht hf hv)
  case fieldAddr t x i =>
    cases hd : T.desc t with
    | none => simp [hd] at hf
    | some d =>
      cases d <;> simp only [hd, reduceCtorEq] at hf
      obtain ⟨g, hg, hf⟩ := Option.bind_eq_some_iff.1 hf
      rw [nth?_eq] at hg
      cases hs : Nat.beq (T.size g.type) 0 with
      | true => rw [hs] at hf; simp at hf
      | false =>
        rw [hs] at hf
        simp only [cond_false, Option.some.injEq] at hf
        subst hf
        exact lift (fieldAddr_R hT hd hg hs (ev_R hw ht x) hv)
  case field t x i =>
    cases hd : T.desc t with
    | none => simp [hd] at hf
    | some d =>
      have hu := hT.desc _ _ hd
      cases d <;> simp only [hd, reduceCtorEq] at hf
      obtain ⟨g, hg, hf⟩ := Option.bind_eq_some_iff.1 hf
      rw [nth?_eq] at hg
      obtain ⟨p, hp, rfl⟩ := Option.map_eq_some_iff.1 hf
      dsimp only at hv
      have hx := ev_R hw ht x
      generalize hex : ev x tm = ex at hv hx
      generalize hax : a.eval x = ax at hx
      cases hx <;> simp only [reduceCtorEq] at hv
      rename_i xs xs' hxs
      obtain ⟨xs⟩ := xs
      obtain ⟨xs'⟩ := xs'
      obtain ⟨v', h1, h2⟩ := partF_R (P := P) (w := w) hT hp hxs hv
      rename_i fs _
      have hg' : fs[i]? = some g := by simpa using hg
      refine lift (s := Instr.field t (a.eval x) i) ⟨v', ?_, h2⟩
      simp only [Instr.field, Sem.run_bind, run_underlying hu, Result.andThen_ok, hg', hax, asAgg, Sem.run_pure, h1]
  case indexAddr t x i =>
    obtain ⟨g, hg, rfl⟩ := Option.map_eq_some_iff.1 hf
    exact lift (indexAddrF_R hT hg (ev_R hw ht x) (ev_R hw ht i) hv)
  case index t x i =>
    obtain ⟨g, hg, rfl⟩ := Option.map_eq_some_iff.1 hf
    exact lift (indexF_R hT hg (ev_R hw ht x) (ev_R hw ht i) hv)
  case lookup t x i ok =>
    obtain ⟨g, hg, rfl⟩ := Option.map_eq_some_iff.1 hf
    exact lift (lookupF_R hT hw hg (ev_R hw ht x) (ev_R hw ht i) hv)
  case typeAssert x xt t ok =>
    obtain ⟨g, hg, rfl⟩ := Option.map_eq_some_iff.1 hf
    exact lift (typeAssertF_R hT hg (ev_R hw ht x) hv)
  case extract x i =>
    simp only [Option.some.injEq] at hf
    subst hf
    dsimp only at hv
    have hx := ev_R hw ht x
    generalize hex : ev x tm = ex at hv hx
    generalize hax : a.eval x = ax at hx
    cases hx <;> simp only [reduceCtorEq] at hv
    rename_i xs xs' hxs
    obtain ⟨xs⟩ := xs
    obtain ⟨xs'⟩ := xs'
    rw [nth?_eq] at hv
    obtain ⟨v', e1, e2⟩ := hxs.get hv
    refine lift (s := Instr.extract (a.eval x) i) ⟨v', ?_, e2⟩
    have e1' : (⟨xs'⟩ : Array Value)[i]? = some v' := by simpa using e1
    simp only [hax, Instr.extract, e1', Sem.run_pure]
  case call c =>
    obtain ⟨callee, args, argTypes⟩ := c
    cases callee <;> simp only [reduceCtorEq] at hf
    rename_i b
    exact lookF_R hT hw ht hf hv

end
end Go.Ev
