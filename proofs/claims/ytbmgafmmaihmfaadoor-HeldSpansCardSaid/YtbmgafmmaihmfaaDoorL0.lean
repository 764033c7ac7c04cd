/- Plain definitions: values by value, an evaluator of a program's code over them. No statement of a law is proved here. -/
import Derived.Orders
set_option linter.unusedVariables false
namespace Go.Bw

/-! ### values -/
inductive PV where
  | int (k : IntKind) (n : Int)
  | bool (b : Bool)
  | str (s : ByteArray)
  | flt (k : FloatKind) (b : Nat)
  | list (sz : Nat) (xs : List (List PV))
  | agg (cs : List PV)
  | ifc (t : Nat) (v : PV)
  | nilI
  | tup (vs : List PV)
  deriving Inhabited

/-! ### an answer, or none: in the form that hands on -/
structure M (α : Type) where
  run : (α → Option PV) → Option PV
  det : (∀ k, run k = none) ∨ (∃ a, ∀ k, run k = k a)
namespace M
def ret {α : Type} (a : α) : M α := ⟨fun k => k a, .inr ⟨a, fun _ => rfl⟩⟩
def fail {α : Type} : M α := ⟨fun _ => none, .inl fun _ => rfl⟩
def lift {α : Type} (o : Option α) : M α := ⟨fun k => o.bind k, by
  cases o with
  | none => exact .inl fun _ => rfl
  | some a => exact .inr ⟨a, fun _ => rfl⟩⟩
def bnd {α β : Type} (x : M α) (f : α → M β) : M β := ⟨fun k => x.run (fun a => (f a).run k), by
  rcases x.det with h | ⟨a, h⟩
  · exact .inl fun _ => h _
  · rcases (f a).det with h' | ⟨b, h'⟩
    · exact .inl fun k => (h _).trans (h' k)
    · exact .inr ⟨b, fun k => (h _).trans (h' k)⟩⟩
def ite {α : Type} (b : Bool) (x y : M α) : M α := ⟨fun k => bif b then x.run k else y.run k, by
  cases b
  · exact y.det
  · exact x.det⟩
/-- What is answered, told first, then handed on. -/
def told (x : M PV) : M PV := lift (x.run some)
instance : Monad M where
  pure := ret
  bind := bnd
/-- The same answers, told otherwise. -/
def ofEq {α : Type} (x : M α) (f : (α → Option PV) → Option PV) (h : ∀ k, x.run k = f k) : M α := ⟨f, by
  rcases x.det with h' | ⟨a, h'⟩
  · exact .inl fun k => (h k).symm.trans (h' k)
  · exact .inr ⟨a, fun k => (h k).symm.trans (h' k)⟩⟩
/-- It answers a. -/
def Is {α : Type} (x : M α) (a : α) : Prop := ∀ k, x.run k = k a
end M

inductive LV where
  | any
  | pv (p : PV)
  | ptr (id off : Nat)
  | eptr (cs : List PV) (off : Nat)
  | osl (id len : Nat)
  | optr (id len i off : Nat)
  | agg (cs : List LV)
  | clo (f : Nat) (caps : List LV)
  | tup (vs : List LV)
  deriving Inhabited

inductive Cells where
  | pure (cs : List PV)
  | mix (cs : List LV)

inductive HObj where
  | box (c : Cells)
  | sl (e sz : Nat) (xs : List (List PV)) (snap : Bool)

abbrev Heap := Nat → Option HObj

inductive TU where
  | int (k : IntKind) | flt (k : FloatKind) | bool | str | slice (e : Nat) | arr (n e : Nat) | struct (fs : List (Nat × Nat)) | ptr (e : Nat) | other
structure TI where
  u : TU
  size : Nat
  bytes : Nat
  agg : Bool
  zero : List PV
instance : Inhabited TI := ⟨⟨.other, 0, 0, false, []⟩⟩

/-! ### parts of values -/
def pint : PV → Option Int | .int _ n => some n | _ => none
def pbool : PV → Option Bool | .bool b => some b | _ => none
def pstr : PV → Option ByteArray | .str s => some s | _ => none
def plist : PV → Option (List (List PV)) | .list _ xs => some xs | _ => none
/-- The elements of a slice of elements of sz cells. -/
def plistS (sz : Nat) : PV → Option (List (List PV)) | .list s xs => if s = sz ∨ xs = [] then some xs else none | _ => none
/-- A value of one cell. -/
def pscal : PV → Option PV | .agg _ => none | .tup _ => none | p => some p
def pcells (n : Nat) : PV → Option (List PV) | .agg cs => if cs.length = n then some cs else none | _ => none
def pnth (p : PV) (i : Nat) : Option PV := match p with | .tup vs => vs[i]? | _ => none
def lget (xs : List (List PV)) (i : Int) : Option (List PV) := if 0 ≤ i then xs[i.toNat]? else none
def pext (cs : List PV) (off n : Nat) : Option PV := if off + n ≤ cs.length then some (.agg ((cs.drop off).take n)) else none
def psetc (cs : List PV) (off : Nat) (p : PV) : Option (List PV) := if off < cs.length then some (cs.set off p) else none
def pputs (cs : List PV) (off : Nat) (ds : List PV) : Option (List PV) :=
  if off + ds.length ≤ cs.length then some (cs.take off ++ ds ++ cs.drop (off + ds.length)) else none
def lset (xs : List (List PV)) (i off : Nat) (ds : List PV) : Option (List (List PV)) :=
  (xs[i]?).bind fun cs => (pputs cs off ds).map fun cs' => xs.set i cs'
def pslice (xs : List (List PV)) (lo hi : Int) : Option (List (List PV)) :=
  if 0 ≤ lo ∧ lo ≤ hi ∧ hi ≤ xs.length then some ((xs.take hi.toNat).drop lo.toNat) else none
def pstrslice (s : ByteArray) (lo hi : Int) : Option PV :=
  if 0 ≤ lo ∧ lo ≤ hi ∧ hi ≤ s.size then some (.str (s.extract lo.toNat hi.toNat)) else none
def pstridx (s : ByteArray) (i : Int) : Option PV :=
  if 0 ≤ i then (s[i.toNat]?).map fun b => .int .u8 b.toNat else none

/-! ### operations on numbers, truth, strings -/
def bits (k : IntKind) (f : BitVec k.bits → BitVec k.bits → BitVec k.bits) (a b : Int) : PV := .int k (k.wrap (f (BitVec.ofInt k.bits a) (BitVec.ofInt k.bits b)).toNat)
def ibin (op : BinOp) (k : IntKind) (a b : Int) : Option PV :=
  match op with
  | .add => some (.int k (k.wrap (a + b)))
  | .sub => some (.int k (k.wrap (a - b)))
  | .mul => some (.int k (k.wrap (a * b)))
  | .quo => if b = 0 then none else some (.int k (k.wrap (a.tdiv b)))
  | .rem => if b = 0 then none else some (.int k (a.tmod b))
  | .and => some (bits k (· &&& ·) a b)
  | .or => some (bits k (· ||| ·) a b)
  | .xor => some (bits k (· ^^^ ·) a b)
  | .andNot => some (bits k (fun x y => x &&& ~~~y) a b)
  | .eql => some (.bool (a == b))
  | .neq => some (.bool (a != b))
  | .lss => some (.bool (a < b))
  | .leq => some (.bool (a ≤ b))
  | .gtr => some (.bool (a > b))
  | .geq => some (.bool (a ≥ b))
  | _ => none
def ishift (op : BinOp) (k : IntKind) (a b : Int) : Option PV :=
  if b < 0 then none else
  match op with
  | .shl => some (.int k (k.wrap (a * 2 ^ (min b.toNat k.bits))))
  | .shr => some (.int k (a.fdiv (2 ^ (min b.toNat k.bits))))
  | _ => none
def sbin (op : BinOp) (x y : ByteArray) : Option PV :=
  match op with
  | .add => if ((x.size + y.size : Nat) : Int) > IntKind.i64.max then none else some (.str (x ++ y))
  | .eql => some (.bool (x.toList == y.toList))
  | .neq => some (.bool !(x.toList == y.toList))
  | .lss => some (.bool (Op.bytesLess x.toList y.toList))
  | .leq => some (.bool (Op.bytesLess x.toList y.toList || x.toList == y.toList))
  | .gtr => some (.bool !(Op.bytesLess x.toList y.toList || x.toList == y.toList))
  | .geq => some (.bool !(Op.bytesLess x.toList y.toList))
  | _ => none
def isShift : BinOp → Bool | .shl => true | .shr => true | _ => false
def pbin (op : BinOp) : PV → PV → Option PV
  | .int k a, .int k' b => bif isShift op then ishift op k a b else if k = k' then ibin op k a b else none
  | .str a, .str b => sbin op a b
  | _, _ => none
/-- '==' and '!=' at a type. -/
def peq (T : Nat → TI) (t : Nat) (neq : Bool) (p q : PV) : Option PV :=
  match (T t).u, p, q with
  | .bool, .bool a, .bool b => some (.bool (if neq then !(a == b) else a == b))
  | _, _, _ => none
def pun (op : UnOp) : PV → Option PV
  | .int k n => match op with | .neg => some (.int k (k.wrap (0 - n))) | _ => none
  | .bool b => match op with | .not => some (.bool !b) | _ => none
  | _ => none
def pconv (T : Nat → TI) (dst : Nat) : PV → Option PV
  | .int _ n => match (T dst).u with | .int k => some (.int k (k.wrap n)) | _ => none
  | .str s => match (T dst).u with | .str => some (.str s) | _ => none
  | _ => none
def pmax : PV → PV → Option PV
  | .int k x, .int k' y => if k = k' then some (.int k (if y > x then y else x)) else none
  | _, _ => none
def pmin : PV → PV → Option PV
  | .int k x, .int k' y => if k = k' then some (.int k (if y < x then y else x)) else none
  | _, _ => none

/-! ### cells of values -/
def allPure : List LV → Option (List PV)
  | [] => some []
  | .pv p :: r => (allPure r).map (p :: ·)
  | _ :: _ => none
def Cells.ofL (cs : List LV) : Cells := match allPure cs with | some ps => .pure ps | none => .mix cs
def Cells.len : Cells → Nat | .pure cs => cs.length | .mix cs => cs.length
/-- The cells of a value of a type. -/
def cellsOf (T : Nat → TI) (t : Nat) (v : LV) : M Cells :=
  match v with
  | .pv p => bif (T t).agg then do let cs ← M.lift (pcells (T t).size p); pure (.pure cs) else do let q ← M.lift (pscal p); pure (.pure [q])
  | .agg cs => bif (T t).agg && cs.length == (T t).size then pure (.mix cs) else M.fail
  | .any => M.fail
  | .tup _ => M.fail
  | v => bif (T t).agg then M.fail else pure (.mix [v])
def loadFrom (T : Nat → TI) (t : Nat) (off : Nat) : Cells → M LV
  | .pure cs => bif (T t).agg then do let p ← M.lift (pext cs off (T t).size); pure (.pv p) else do let p ← M.lift (cs[off]?); pure (.pv p)
  | .mix cs => bif (T t).agg then (bif off + (T t).size ≤ cs.length then pure (.agg ((cs.drop off).take (T t).size)) else M.fail) else (match cs[off]? with | some v => pure v | none => M.fail)
def storeTo (agg : Bool) (off : Nat) (c d : Cells) : M Cells :=
  match c, d with
  | .pure cs, .pure ds => bif agg then do let cs' ← M.lift (pputs cs off ds); pure (.pure cs')
    else (match ds with | [p] => do let cs' ← M.lift (psetc cs off p); pure (.pure cs') | _ => M.fail)
  | .pure cs, .mix ds => let cs := cs.map LV.pv; bif off + ds.length ≤ cs.length then pure (.mix (cs.take off ++ ds ++ cs.drop (off + ds.length))) else M.fail
  | .mix cs, .pure ds => let ds := ds.map LV.pv; bif off + ds.length ≤ cs.length then pure (.mix (cs.take off ++ ds ++ cs.drop (off + ds.length))) else M.fail
  | .mix cs, .mix ds => bif off + ds.length ≤ cs.length then pure (.mix (cs.take off ++ ds ++ cs.drop (off + ds.length))) else M.fail

/-! ### what an operation does -/
inductive LSem where
  | val (v : LV)
  | new (o : HObj) (v : LV)
  | get (id : Nat) (f : HObj → M LV)
  | mod (id : Nat) (f : HObj → M (LV × HObj))
  | mod2 (rd id : Nat) (f : HObj → HObj → M (LV × HObj))
  /-- it is taken over -/
  | take (id : Nat) (f : HObj → M LV)
  | take2 (rd id : Nat) (f : HObj → HObj → M LV)
  | globR (f : Heap → M LV)
  | glob (f : Heap → M (LV × Heap))

inductive Given where
  /-- by values alone -/
  | pcall (F : List PV → Option PV)
  /-- as it; closed functions may be among what is handed over -/
  | fcall (F : List LV → Option PV)
  /-- as it, and what comes back is a row of its own (elements' type, cells) -/
  | ocall (e sz : Nat) (F : List PV → Option (List (List PV)))
  /-- as it, and what comes back is the address of a variable of its own -/
  | bcall (F : List PV → Option (List PV))
  /-- as it, and what comes back is the address of a variable that is written no more -/
  | ecall (F : List PV → Option (List PV))
  /-- it reads the heap (of its own numbers from nid on), and answers a value -/
  | rcall (F : List LV → Nat → Heap → M PV)
  /-- anything -/
  | gcall (K : List LV → M LSem)

def hset (H : Heap) (id : Nat) (o : HObj) : Heap := fun j => bif Nat.beq j id then some o else H j
def hdel (H : Heap) (id : Nat) : Heap := fun j => bif Nat.beq j id then none else H j
def hcut (H : Heap) (n : Nat) : Heap := fun j => bif Nat.blt j n then H j else none

/-- The value of an own row, told by value. -/
def purify (H : Heap) : LV → M PV
  | .pv p => pure p
  | .osl id len => match H id with
    | some (.sl _ sz xs _) => M.ite (xs.length == len) (pure (.list sz xs)) M.fail
    | _ => M.fail
  | _ => M.fail
def purifyL (H : Heap) : List LV → M (List PV)
  | [] => pure []
  | v :: r => do let p ← purify H v; let ps ← purifyL H r; pure (p :: ps)
/-- What was told by value isn't written any more. -/
def snapL (H : Heap) : List LV → Heap
  | [] => H
  | .osl id _ :: r => match H id with
    | some (.sl e sz xs _) => snapL (hset H id (.sl e sz xs true)) r
    | _ => snapL H r
  | _ :: r => snapL H r

/-- As it; of a struct part by part. -/
def purifyA (H : Heap) : LV → M PV
  | .agg cs => do let ps ← purifyL H cs; pure (.agg ps)
  | v => purify H v
def snapA (H : Heap) : LV → Heap
  | .agg cs => snapL H cs
  | v => snapL H [v]
def purifyAL (H : Heap) : List LV → M (List PV)
  | [] => pure []
  | v :: r => do let p ← purifyA H v; let ps ← purifyAL H r; pure (p :: ps)
def snapAL (H : Heap) : List LV → Heap
  | [] => H
  | v :: r => snapAL (snapA H v) r

def cval : Value → LV
  | .int k n => .pv (.int k n)
  | .bool b => .pv (.bool b)
  | .string s => .pv (.str s)
  | .float k b => .pv (.flt k b)
  | .slice none 0 0 => .pv (.list 0 [])
  | .nilIface => .pv .nilI
  | _ => .any

def LIM : Nat := 549755813888
/-- As many rounds as ever; closed to the kernel's reckoning. -/
noncomputable def FU : Nat := Classical.choose (⟨LIM, rfl⟩ : ∃ n, n = LIM)
theorem FU_eq : FU = LIM := Classical.choose_spec (⟨LIM, rfl⟩ : ∃ n, n = LIM)

def asPure : LV → M PV | .pv p => pure p | _ => M.fail
def asList : List LV → Option (List PV) := allPure

/-- The elements' type of a slice type that the table tells. -/
def sliceElem (T : Nat → TI) (t : Nat) : Option Nat := match (T t).u with | .slice e => bif Nat.beq (T e).size 0 then none else some e | _ => none
def nz (T : Nat → TI) (t : Nat) : Bool := !(Nat.beq (T t).size 0)

def lappend (e sz : Nat) (xs ys : List (List PV)) : M (List (List PV)) := M.ite (decide (xs.length + ys.length ≤ LIM)) (pure (xs ++ ys)) M.fail

def builtinSem (T : Nat → TI) (b : Builtin) (ts : List TypeId) (args : List LV) (nid : Nat) : M LSem :=
  match b, args with
  | .len, [.osl _ n] => match ts with
    | [t] => match (T t).u with
      | .slice _ => pure (.val (.pv (.int .i64 n)))
      | _ => M.fail
    | _ => M.fail
  | .len, [.pv p] => match ts with
    | [t] => match (T t).u with
      | .str => do let s ← M.lift (pstr p); pure (.val (.pv (.int .i64 s.size)))
      | .slice _ => do let xs ← M.lift (plist p); pure (.val (.pv (.int .i64 xs.length)))
      | _ => M.fail
    | _ => M.fail
  | .append, [.osl id n, .pv p] => match ts with
    | [t, t'] => match sliceElem T t with
      | some e' => bif !(Nat.beq t t') then M.fail else do
        let ys ← M.lift (plistS (T e').size p)
        pure (.mod id fun o => match o with
          | .sl e sz xs s => bif e == e' && sz == (T e').size then M.ite (xs.length == n) (do
              let zs ← lappend e sz xs ys
              pure (.osl id zs.length, .sl e sz zs s)) M.fail else M.fail
          | _ => M.fail)
      | _ => M.fail
    | _ => M.fail
  | .append, [.osl id n, .osl id2 n2] => match ts with
    | [t, t'] => match sliceElem T t with
      | some e' => bif Nat.beq id id2 || !(Nat.beq t t') then M.fail else
        pure (.mod2 id2 id fun o2 o => match o2, o with
          | .sl e2 sz2 ys _, .sl e sz xs s => bif e == e' && sz == (T e').size && sz2 == sz then M.ite (xs.length == n) (M.ite (ys.length == n2) (do
              let zs ← lappend e sz xs ys
              pure (.osl id zs.length, .sl e sz zs s)) M.fail) M.fail else M.fail
          | _, _ => M.fail)
      | _ => M.fail
    | _ => M.fail
  | .max, [.pv p, .pv q] => do let r ← M.lift (pmax p q); pure (.val (.pv r))
  | .min, [.pv p, .pv q] => do let r ← M.lift (pmin p q); pure (.val (.pv r))
  | _, _ => M.fail

def LV.closed1 : LV → Bool | .pv _ => true | .eptr .. => true | .clo _ [] => true | _ => false
def LV.closed : LV → Bool | .pv _ => true | .eptr .. => true | .clo _ caps => caps.all LV.closed1 | _ => false
def PV.flat1 : PV → Bool | .int .. => true | .bool _ => true | .str _ => true | .flt .. => true | _ => false
/-- It leads nowhere. -/
def PV.flat : PV → Bool | .tup vs => vs.all PV.flat1 | p => p.flat1
/-- What a callee that only reads is handed: by value. -/
def closeV1 (H : Heap) : LV → M LV
  | .pv p => pure (.pv p)
  | .eptr cs off => pure (.eptr cs off)
  | .clo f [] => pure (.clo f [])
  | .osl id len => do let p ← purify H (.osl id len); pure (.pv p)
  | .ptr id off => match H id with
    | some (.box (.pure cs)) => pure (.eptr cs off)
    | some (.box (.mix cs)) => do let ps ← purifyL H cs; pure (.eptr ps off)
    | _ => M.fail
  | .agg cs => do let ps ← purifyL H cs; pure (.pv (.agg ps))
  | _ => M.fail
def closeL1 (H : Heap) : List LV → M (List LV)
  | [] => pure []
  | v :: r => do let p ← closeV1 H v; let ps ← closeL1 H r; pure (p :: ps)
def closeV (H : Heap) : LV → M LV
  | .clo f caps => do let cs ← closeL1 H caps; pure (.clo f cs)
  | v => closeV1 H v
def closeL (H : Heap) : List LV → M (List LV)
  | [] => pure []
  | v :: r => do let p ← closeV H v; let ps ← closeL H r; pure (p :: ps)
def callSem (g : Given) (args : List LV) (nid : Nat) : M LSem :=
  match g with
  | .pcall F => match allPure args with
    | some ps => do let r ← M.lift (F ps); pure (.val (.pv r))
    | none => pure (.glob fun H => do let ps ← purifyAL H args; let r ← M.lift (F ps); pure (.pv r, snapAL H args))
  | .fcall F => bif args.all LV.closed then do let r ← M.lift (F args); pure (.val (.pv r))
    else pure (.globR fun H => do let ls ← closeL H args; let r ← M.lift (F ls); M.ite r.flat (pure (.pv r)) M.fail)
  | .ocall e sz F => match allPure args with
    | some ps => do let xs ← M.lift (F ps); pure (.new (.sl e sz xs false) (.osl nid xs.length))
    | none => M.fail
  | .bcall F => match allPure args with
    | some ps => do let cs ← M.lift (F ps); pure (.new (.box (.pure cs)) (.ptr nid 0))
    | none => M.fail
  | .ecall F => match allPure args with
    | some ps => do let cs ← M.lift (F ps); pure (.val (.eptr cs 0))
    | none => M.fail
  | .rcall F => pure (.globR fun H => do let r ← F args (nid + 4096) H; pure (.pv r))
  | .gcall K => K args

def partsOf (T : Nat → TI) : List (Nat × Nat × LV) → M (List (Bool × Nat × Cells))
  | [] => pure []
  | (off, t, v) :: r => do let c ← cellsOf T t v; let cs ← partsOf T r; pure (((T t).agg, off, c) :: cs)
def fillC : Cells → List (Bool × Nat × Cells) → M Cells
  | c, [] => pure c
  | c, (g, off, d) :: r => do let c' ← storeTo g off c d; fillC c' r
/-- Where a part lies, and its type. -/
def partAt (T : Nat → TI) (t i : Nat) : Option (Nat × Nat) := match (T t).u with
  | .struct fs => bif fs.all (fun f => nz T f.1) then (match fs[i]? with | some (ft, off) => some (off, ft) | none => none) else none
  | .arr n e => bif nz T e then (if i < n then some (i * (T e).size, e) else none) else none
  | _ => none
def buildParts (T : Nat → TI) (t : Nat) (ev : Operand → LV) : List (Nat × Operand) → Option (List (Nat × Nat × LV))
  | [] => match (T t).u with
    | .struct fs => bif fs.all (fun f => nz T f.1) then some [] else none
    | .arr _ e => bif nz T e then some [] else none
    | _ => none
  | (i, x) :: r => match partAt T t i with
    | some (off, ft) => (buildParts T t ev r).map ((off, ft, ev x) :: ·)
    | none => none
def Cells.val : Cells → LV | .pure cs => .pv (.agg cs) | .mix cs => .agg cs
def elemsOf (T : Nat → TI) (e : Nat) (ev : Operand → LV) : List (Nat × Operand) → M (List Cells)
  | [] => pure []
  | (_, x) :: r => do
    let c ← cellsOf T e (ev x)
    let cs ← elemsOf T e ev r
    pure (c :: cs)
def pureRows : List Cells → Option (List (List PV))
  | [] => some []
  | .pure cs :: r => (pureRows r).map (cs :: ·)
  | _ => none
def rowsL (H : Heap) : List Cells → M (List (List PV))
  | [] => pure []
  | .pure cs :: r => do let rs ← rowsL H r; pure (cs :: rs)
  | .mix cs :: r => do let ps ← purifyL H cs; let rs ← rowsL H r; pure (ps :: rs)
def rowsSnap (H : Heap) : List Cells → Heap
  | [] => H
  | .pure _ :: r => rowsSnap H r
  | .mix cs :: r => rowsSnap (snapL H cs) r

def isNilC : Operand → Bool | .const (.slice none 0 0) => true | _ => false

def moveSem (T : Nat → TI) (t : Nat) (x : Operand) (ev : Operand → LV) (nid : Nat) : M LSem :=
  bif isNilC x then (match sliceElem T t with | some e => pure (.new (.sl e (T e).size [] false) (.osl nid 0)) | _ => M.fail) else pure (.val (ev x))

def boundOf (ev : Operand → LV) (x : Option Operand) (d : Int) : M Int := match x with
  | some x => do let p ← asPure (ev x); M.lift (pint p)
  | none => pure d

/-- A nil, at its type. -/
def fixV (T : Nat → TI) (t : Nat) (v : LV) : LV := match v with
  | .pv (.list 0 []) => match (T t).u with | .slice e => .pv (.list (T e).size []) | _ => .pv (.list 0 [])
  | v => v
def nilOp : Operand → Bool | .const (.slice none 0 0) => true | _ => false
def fixL (T : Nat → TI) : List Operand → List LV → List TypeId → List LV
  | x :: xs, v :: vs, t :: ts => (bif nilOp x then fixV T t v else v) :: fixL T xs vs ts
  | _, vs, _ => vs
def lop (T : Nat → TI) (G : Nat → Option Given) (o : Oper) (ev : Operand → LV) (nid : Nat) : M LSem :=
  match o.op with
  | .move x => moveSem T o.type x ev nid
  | .assign x => moveSem T o.type x ev nid
  | .pick c a b => do
    let p ← asPure (ev c); let t ← M.lift (pbool p)
    M.ite t (pure (.val (ev a))) (pure (.val (ev b)))
  | .alloc t => bif !nz T t then M.fail else pure (.new (.box (.pure (T t).zero)) (.ptr nid 0))
  | .box t x => do let c ← cellsOf T t (ev x); pure (.new (.box c) (.ptr nid 0))
  | .build t parts => bif !nz T t then M.fail else match buildParts T t ev parts.toList with
    | some ps => do let ps ← partsOf T ps; let c ← fillC (.pure (T t).zero) ps; pure (.val c.val)
    | none => M.fail
  | .buildSlice t len parts => match sliceElem T t with
    | some e => bif !(parts.toList.map (·.1) == List.range len && Nat.ble (len * (T e).size) 16777216) then M.fail else do
      let cs ← elemsOf T e ev parts.toList
      match pureRows cs with
      | some xs => pure (.new (.sl e (T e).size xs false) (.osl nid len))
      | none => pure (.glob fun H => do let xs ← rowsL H cs; pure (.osl nid len, hset (rowsSnap H cs) nid (.sl e (T e).size xs false)))
    | _ => M.fail
  | .load t a => bif !nz T t then M.fail else match ev a with
    | .ptr id off => pure (.get id fun o => match o with | .box c => loadFrom T t off c | _ => M.fail)
    | .eptr cs off => do let v ← loadFrom T t off (.pure cs); pure (.val v)
    | .optr id n i off => pure (.get id fun o => match o with
      | .sl _ _ xs _ => M.ite (xs.length == n) (do let cs ← M.lift (xs[i]?); loadFrom T t off (.pure cs)) M.fail
      | _ => M.fail)
    | _ => M.fail
  | .store t a x => bif !nz T t then M.fail else do
    let c ← cellsOf T t (ev x)
    match ev a with
    | .ptr id off => match c with
      | .mix [.osl i n] => pure (.glob fun H => match H id with
        | some (.box (.pure d)) => do let p ← purify H (.osl i n); let d' ← storeTo (T t).agg off (.pure d) (.pure [p]); pure (.any, hset (snapL H [.osl i n]) id (.box d'))
        | some (.box d) => do let d' ← storeTo (T t).agg off d c; pure (.any, hset H id (.box d'))
        | _ => M.fail)
      | c => pure (.mod id fun o => match o with | .box d => do let d' ← storeTo (T t).agg off d c; pure (.any, .box d') | _ => M.fail)
    | .optr id n i off => match c with
      | .pure ds => pure (.mod id fun o => match o with
        | .sl e sz xs false => M.ite (xs.length == n) (do let xs' ← M.lift (lset xs i off ds); pure (.any, .sl e sz xs' false)) M.fail
        | _ => M.fail)
      | _ => M.fail
    | _ => M.fail
  | .nilCheck x => match ev x with
    | .ptr id off => pure (.val (.ptr id off))
    | .eptr cs off => pure (.val (.eptr cs off))
    | .optr id n i off => pure (.val (.optr id n i off))
    | _ => M.fail
  | .binOp op t x y _ => match ev x, ev y with
    | .pv p, .pv q => match op, (T t).u with
      | .eql, .bool => do let r ← M.lift (peq T t false p q); pure (.val (.pv r))
      | .neq, .bool => do let r ← M.lift (peq T t true p q); pure (.val (.pv r))
      | op, _ => do let r ← M.lift (pbin op p q); pure (.val (.pv r))
    | _, _ => M.fail
  | .unOp op _ x => do let p ← asPure (ev x); let r ← M.lift (pun op p); pure (.val (.pv r))
  | .convert src dst x => bif !nz T src then M.fail else do let p ← asPure (ev x); let r ← M.lift (pconv T dst p); pure (.val (.pv r))
  | .makeInterface t x => match (T t).u with
    | .other => M.fail
    | _ => do let p ← asPure (ev x); pure (.val (.pv (.ifc t p)))
  | .makeFunc (.func f) first caps => bif first.isEmpty then pure (.val (.clo f (caps.toList.map ev))) else M.fail
  | .makeSlice t l c => do
    let p ← asPure (ev l); let q ← asPure (ev c)
    let n ← M.lift (pint p); let m ← M.lift (pint q)
    match sliceElem T t with
    | some e => M.ite (n == m && decide (0 ≤ n) && decide (n ≤ LIM)) (pure (.new (.sl e (T e).size (List.replicate n.toNat (T e).zero) false) (.osl nid n.toNat))) M.fail
    | _ => M.fail
  | .slice t x lo hi mx => bif mx.isSome then M.fail else do
    let l ← boundOf ev lo 0
    match ev x, (T t).u with
    | .pv p, .str => do
        let s ← M.lift (pstr p)
        let h ← boundOf ev hi (s.size : Int)
        let r ← M.lift (pstrslice s l h); pure (.val (.pv r))
    | .pv p, .slice e => bif !nz T e then M.fail else do
        let xs ← M.lift (plistS (T e).size p)
        let h ← boundOf ev hi (xs.length : Int)
        let ys ← M.lift (pslice xs l h); pure (.val (.pv (.list (T e).size ys)))
    | _, _ => M.fail
  | .fieldAddr s x f => match (T s).u with
    | .struct fs => match fs[f]? with
      | some (ft, off) => bif !nz T ft then M.fail else match ev x with
        | .ptr id o => pure (.val (.ptr id (o + off)))
        | .eptr cs o => pure (.val (.eptr cs (o + off)))
        | .optr id n i o => pure (.val (.optr id n i (o + off)))
        | _ => M.fail
      | none => M.fail
    | _ => M.fail
  | .field s x f => match (T s).u with
    | .struct fs => match fs[f]? with
      | some (ft, off) => bif !nz T ft then M.fail else do let c ← cellsOf T s (ev x); let v ← loadFrom T ft off c; pure (.val v)
      | none => M.fail
    | _ => M.fail
  | .indexAddr t x i => do
    let p ← asPure (ev i); let n ← M.lift (pint p)
    match (T t).u, ev x with
    | .slice e, .osl id len => bif !nz T e then M.fail else pure (.get id fun o => match o with
      | .sl _ sz _ _ => bif Nat.beq sz (T e).size then M.ite (decide (0 ≤ n) && decide (n < len)) (pure (.optr id len n.toNat 0)) M.fail else M.fail
      | _ => M.fail)
    | .slice e, .pv q => bif !nz T e then M.fail else do
      let xs ← M.lift (plistS (T e).size q)
      let cs ← M.lift (lget xs n)
      pure (.val (.eptr cs 0))
    | .arr len e, .ptr id off => bif decide (2 ≤ len) && nz T e then M.ite (decide (0 ≤ n) && decide (n < len)) (pure (.val (.ptr id (off + n.toNat * (T e).size)))) M.fail else M.fail
    | _, _ => M.fail
  | .index t x i => do
    let p ← asPure (ev i); let n ← M.lift (pint p); let q ← asPure (ev x)
    match (T t).u with
    | .str => do let s ← M.lift (pstr q); let r ← M.lift (pstridx s n); pure (.val (.pv r))
    | .arr len e => bif !(T e).agg && (T e).size == 1 then M.ite (decide (0 ≤ n) && decide (n < len)) (do let cs ← M.lift (pcells len q); let r ← M.lift (cs[n.toNat]?); pure (.val (.pv r))) M.fail else M.fail
    | _ => M.fail
  | .extract t i => match ev t with
    | .tup vs => match vs[i]? with | some v => pure (.val v) | none => M.fail
    | .pv p => do let r ← M.lift (pnth p i); pure (.val (.pv r))
    | _ => M.fail
  | .call c => match c.callee with
    | .builtin b => builtinSem T b c.argTypes.toList (c.args.toList.map ev) nid
    | .value f => match ev f with
      | .clo f caps => match G f with
        | some g => callSem g (fixL T c.args.toList (c.args.toList.map ev) c.argTypes.toList ++ caps) nid
        | none => M.fail
      | _ => M.fail
    | _ => M.fail
  | _ => M.fail

/-! ### regions, code -/
structure LS where
  sl : Nat → LV
  H : Heap
  nx : Nat
  lim : Nat

def supd (f : Nat → LV) (i : Nat) (v : LV) : Nat → LV := fun j => bif Nat.beq j i then v else f j
def LS.set (S : LS) (d : Option Nat) (v : LV) : LS := match d with | some d => { S with sl := supd S.sl d v } | none => S
def LS.ev (S : LS) : Operand → LV
  | .tmp t => S.sl t
  | .const v => cval v
  | .func f => .clo f []
  | _ => .any

def exec (s : LSem) (nid lim : Nat) (H : Heap) : M (LV × Heap) :=
  match s with
  | .val v => pure (v, H)
  | .new o v => pure (v, hset H nid o)
  | .get id f => match H id with | some o => do let v ← f o; pure (v, H) | none => M.fail
  | .mod id f => bif Nat.ble lim id then (match H id with | some o => do let (v, o') ← f o; pure (v, hset H id o') | none => M.fail) else M.fail
  | .mod2 rd id f => bif Nat.ble lim id then (match H rd, H id with | some o2, some o => do let (v, o') ← f o2 o; pure (v, hset H id o') | _, _ => M.fail) else M.fail
  | .take id f => bif Nat.ble lim id then (match H id with | some o => do let v ← f o; pure (v, hdel H id) | none => M.fail) else M.fail
  | .take2 rd id f => bif Nat.ble lim id && !Nat.beq rd id then (match H rd, H id with | some o2, some o => do let v ← f o2 o; pure (v, hdel H id) | _, _ => M.fail) else M.fail
  | .globR f => do let v ← f H; pure (v, H)
  | .glob f => bif Nat.beq lim 0 then f H else M.fail

/-- What of the heap an operation looks at and writes. -/
structure Fp where
  rd : List Nat
  wr : List Nat
  rall : Bool
  wall : Bool
def fpOf (s : LSem) (nid : Nat) : Fp :=
  match s with
  | .val _ => ⟨[], [], false, false⟩
  | .new _ _ => ⟨[], [nid], false, false⟩
  | .get id _ => ⟨[id], [], false, false⟩
  | .mod id _ => ⟨[], [id], false, false⟩
  | .mod2 rd id _ => ⟨[rd], [id], false, false⟩
  | .take id _ => ⟨[], [id], false, false⟩
  | .take2 rd id _ => ⟨[rd], [id], false, false⟩
  | .globR _ => ⟨[], [], true, false⟩
  | .glob _ => ⟨[], [], true, true⟩
def meets (a b : List Nat) : Bool := a.any fun x => b.any fun y => Nat.beq x y
def Fp.quiet (a : Fp) : Bool := a.rd.isEmpty && a.wr.isEmpty && !a.rall && !a.wall
/-- Their order doesn't matter. -/
def fpApart (a b : Fp) : Bool :=
  (!a.wall || b.quiet) && (!b.wall || a.quiet) && (!a.rall || b.wr.isEmpty) && (!b.rall || a.wr.isEmpty) && !meets a.wr b.wr && !meets a.wr b.rd && !meets a.rd b.wr

def lstep (T : Nat → TI) (G : Nat → Option Given) (o : Oper) (nid : Nat) (S : LS) : M (LS × Fp) := do
  let s ← lop T G o S.ev nid
  let (v, H) ← exec s nid S.lim S.H
  pure ({ S with sl := (S.set o.dst v).sl, H := H }, fpOf s nid)

def dstOf (ops : Array Oper) (g : Nat) : Option Nat := (ops[g]?).bind (·.dst)

/-- One operation; a guard that isn't known parts the ways. -/
def lstepG (T : Nat → TI) (G : Nat → Option Given) (ops : Array Oper) (o : Oper) (nid : Nat) (S : LS) : M (LS × Fp) :=
  match o.guard with
  | none => lstep T G o nid S
  | some (g, want) => match dstOf ops g with
    | some d => match S.sl d with
      | .tup [] => pure (S.set o.dst (.tup []), ⟨[], [], false, false⟩)
      | v => do
        let p ← asPure v; let b ← M.lift (pbool p)
        M.ite b
          (let S := S.set (some d) (.pv (.bool true)); bif want then lstep T G o nid S else pure (S.set o.dst (.tup []), ⟨[], [], false, false⟩))
          (let S := S.set (some d) (.pv (.bool false)); bif want then pure (S.set o.dst (.tup []), ⟨[], [], false, false⟩) else lstep T G o nid S)
    | none => M.fail
/-- Operations of a region, in a given order. -/
def lrun (T : Nat → TI) (G : Nat → Option Given) (ops : Array Oper) : List Nat → LS → M (LS × List (Nat × Fp))
  | [], S => pure (S, [])
  | i :: r, S => match ops[i]? with
    | some o => do
      let (S', f) ← lstepG T G ops o (S.nx + i) S
      let (S'', l) ← lrun T G ops r S'
      pure (S'', (i, f) :: l)
    | none => M.fail

/-- Which operations come ahead of one, always: a number's bits. -/
def maskOf (o : Oper) (acc : List Nat) : Nat :=
  o.after.toList.foldr (fun e m => bif Region.binds .any e then Nat.lor m (Nat.lor (Nat.shiftLeft 1 e.on) (acc.getD e.on 0)) else m) 0
def masks : List Oper → List Nat → List Nat
  | [], acc => acc
  | o :: r, acc => masks r (acc ++ [maskOf o acc])
def pairOk (ops : Array Oper) (ms : List Nat) (p q : Nat × Fp) : Bool :=
  ((ms.getD q.1 0).testBit p.1) || (match ops[p.1]?, ops[q.1]? with | some x, some y => x.apart ops y && fpApart p.2 q.2 | _, _ => false)
def raceOk (ops : Array Oper) (ms : List Nat) : List (Nat × Fp) → Bool
  | [] => true
  | p :: r => r.all (pairOk ops ms p) && raceOk ops ms r

def edgesOk : List Oper → Nat → Bool
  | [], _ => true
  | o :: r, i => o.after.toList.all (fun e => !Region.binds .any e || Nat.blt e.on i) && edgesOk r (i + 1)

def hasGuard (ops : List Oper) : Bool := ops.any (·.guard.isSome)
def hasStore (ops : List Oper) : Bool := ops.any fun o => match o.op with | .store .. => true | _ => false
def forget (S : LS) : List Oper → LS
  | [] => S
  | o :: r => forget (S.set o.dst .any) r
def lastDst (ops : List Oper) : Option Nat := (ops.getLast?).bind (·.dst)

/-- Variables that are assigned beside. -/
def besides (d : Nat) : List Oper → List Nat
  | [] => []
  | o :: r => match o.guard, o.op, o.dst with
    | none, .assign _, some e => bif Nat.beq e d then besides d r else e :: besides d r
    | _, _, _ => besides d r
def pureSl (S : LS) : List Nat → M (List PV)
  | [] => pure []
  | d :: r => do let p ← asPure (S.sl d); let ps ← pureSl S r; pure (p :: ps)
def keepL (S : LS) (v : PV) : List Nat → Nat → M LS
  | [], _ => pure S
  | d :: r, i => do let p ← M.lift (pnth v i); keepL (S.set (some d) (.pv p)) v r (i + 1)
/-- A guarded region is told by its last value, and what is assigned beside. -/
def lregion (T : Nat → TI) (G : Nat → Option Given) (draw : Bool) (ops : Array Oper) (S : LS) : M LS :=
  bif !Nat.ble ops.size 4096 then M.fail else
  bif hasGuard ops.toList && !hasStore ops.toList then
    (match lastDst ops.toList with
    | some d => match besides d ops.toList with
      | [] => do
        let v ← M.told (do
          let (S', l) ← lrun T G ops (List.range ops.size) { S with lim := S.nx }
          bif draw && !(edgesOk ops.toList 0 && raceOk ops (masks ops.toList []) l) then M.fail else asPure (S'.sl d))
        pure { (forget S ops.toList).set (some d) (.pv v) with nx := S.nx + ops.size }
      | e :: es => do
        let v ← M.told (do
          let (S', l) ← lrun T G ops (List.range ops.size) { S with lim := S.nx }
          bif draw && !(edgesOk ops.toList 0 && raceOk ops (masks ops.toList []) l) then M.fail else do
            let qs ← pureSl S' (d :: e :: es)
            pure (.tup qs))
        let S2 ← keepL (forget S ops.toList) v (d :: e :: es) 0
        pure { S2 with nx := S.nx + ops.size }
    | none => M.fail)
  else do
    let (S', l) ← lrun T G ops (List.range ops.size) S
    bif draw && !(edgesOk ops.toList 0 && raceOk ops (masks ops.toList []) l) then M.fail else pure { S' with nx := S.nx + ops.size }

inductive LOut where
  | normal | exit (id : Nat) | ret

structure Tpl where
  slots : List Nat
  ids : List Nat
  nx : Nat
  /-- the heap stays whole -/
  keep : Bool := false
  /-- own rows that are told by value here -/
  told : List Nat := []

def LV.idsIn (ids : List Nat) : LV → Bool
  | .any | .pv _ | .eptr .. => true
  | .ptr id _ => ids.contains id
  | .osl id _ => ids.contains id
  | .optr id .. => ids.contains id
  | .clo _ caps => caps.all LV.closed1
  | _ => false
def Cells.idsIn (ids : List Nat) : Cells → Bool
  | .pure _ => true
  | .mix cs => cs.all (LV.idsIn ids)
def HObj.idsIn (ids : List Nat) : HObj → Bool
  | .box c => c.idsIn ids
  | .sl .. => true

def normSl (f : Nat → LV) : List Nat → (Nat → LV)
  | [] => fun _ => .any
  | s :: r => supd (normSl f r) s (f s)
def normH (H : Heap) : List Nat → Heap
  | [] => fun _ => none
  | i :: r => match H i with | some o => hset (normH H r) i o | none => normH H r
/-- Own rows, told by value. -/
def tell : List Nat → LS → M LS
  | [], S => pure S
  | s :: r, S => match S.sl s with
    | .osl id len => do let p ← purify S.H (.osl id len); tell r { S with sl := supd S.sl s (.pv p), H := snapL S.H [.osl id len] }
    | _ => tell r S
/-- Only what the template names is kept. -/
def norm0 (t : Tpl) (S : LS) : M LS :=
  bif t.keep then pure { S with sl := normSl S.sl t.slots }
  else bif t.slots.all (fun s => (S.sl s).idsIn t.ids) && t.ids.all (fun i => Nat.blt i t.nx && (match S.H i with | some o => o.idsIn t.ids | none => true)) && Nat.beq S.lim 0 then
    pure { sl := normSl S.sl t.slots, H := normH S.H t.ids, nx := t.nx, lim := S.lim }
  else M.fail

def norm (t : Tpl) (S : LS) : M LS := match t.told with
  | [] => norm0 t S
  | s :: r => bif Nat.beq S.lim 0 then (do let S' ← tell (s :: r) S; norm0 t S') else M.fail

structure Ann where
  /-- loops, told: by the first region inside -/
  loop : Nat → Option (LS → M (LOut × LS))
  head : Nat → Option Tpl
  exit : Nat → Option Tpl
  ret : Option Tpl

def firstRegion : Code → Option Nat
  | .region id _ _ => some id
  | .seq a b => match firstRegion a with | some i => some i | none => firstRegion b
  | .cond _ a b => match firstRegion a with | some i => some i | none => firstRegion b
  | .block _ c => firstRegion c
  | .loop c => firstRegion c
  | _ => none
/-- What is inside a loop. -/
def findLoop (key : Nat) : Code → Option Code
  | .seq a b => match findLoop key a with | some c => some c | none => findLoop key b
  | .cond _ a b => match findLoop key a with | some c => some c | none => findLoop key b
  | .block _ c => findLoop key c
  | .loop c => match firstRegion c with
    | some i => bif Nat.beq i key then some c else findLoop key c
    | none => findLoop key c
  | _ => none
def normOpt (t : Option Tpl) (S : LS) : M LS := match t with | some t => norm t S | none => pure S

def liter (body : LS → M (LOut × LS)) : Nat → LS → M (LOut × LS)
  | 0, _ => M.fail
  | n + 1, S => do
    let (o, S') ← body S
    match o with
    | .normal => liter body n S'
    | o => pure (o, S')

/-- What follows a round. -/
def lk (body : LS → M (LOut × LS)) (n : Nat) (K : LOut × LS → Option PV) (p : LOut × LS) : Option PV :=
  match p.1 with | .normal => (liter body n p.2).run K | o => K (o, p.2)
theorem liter_succ (body : LS → M (LOut × LS)) (n : Nat) (S : LS) (K : LOut × LS → Option PV) : (liter body (n + 1) S).run K = (body S).run (lk body n K) := by
  rcases (body S).det with h | ⟨⟨o, S'⟩, h⟩
  · exact (h _).trans (h _).symm
  · refine (h _).trans (Eq.trans ?_ (h _).symm)
    cases o <;> rfl
theorem lk_normal (body : LS → M (LOut × LS)) (n : Nat) (S : LS) (K : LOut × LS → Option PV) : lk body n K (.normal, S) = (liter body n S).run K := rfl
theorem lk_exit (body : LS → M (LOut × LS)) (n i : Nat) (S : LS) (K : LOut × LS → Option PV) : lk body n K (.exit i, S) = K (.exit i, S) := rfl
theorem lk_ret (body : LS → M (LOut × LS)) (n : Nat) (S : LS) (K : LOut × LS → Option PV) : lk body n K (.ret, S) = K (.ret, S) := rfl

def leval (T : Nat → TI) (G : Nat → Option Given) (A : Ann) : Code → LS → M (LOut × LS)
  | .skip, S => pure (.normal, S)
  | .label _, S => pure (.normal, S)
  | .region _ ops draw, S => do let S' ← lregion T G draw ops S; pure (.normal, S')
  | .seq a b, S => do
    let (o, S') ← leval T G A a S
    match o with
    | .normal => leval T G A b S'
    | o => pure (o, S')
  | .cond c a b, S => do
    let p ← asPure (S.ev c); let t ← M.lift (pbool p)
    M.ite t (leval T G A a S) (leval T G A b S)
  | .block id c, S => do
    let (o, S') ← leval T G A c S
    match o with
    | .exit i => bif Nat.beq i id then pure (.normal, S') else pure (.exit i, S')
    | o => pure (o, S')
  | .loop c, S => match (firstRegion c).bind A.loop with
    | some f => do let S' ← normOpt ((firstRegion c).bind A.head) S; f S'
    | none => M.fail
  | .exit id, S => do let S' ← normOpt (A.exit id) S; pure (.exit id, S')
  | .ret, S => do let S' ← normOpt A.ret S; pure (.ret, S')
  | _, _ => M.fail

/-- One round. -/
def lbody (T : Nat → TI) (G : Nat → Option Given) (A : Ann) (c : Code) (S : LS) : M (LOut × LS) := do
  let (o, S') ← leval T G A c S
  match o with
  | .normal => do let S'' ← normOpt ((firstRegion c).bind A.head) S'; pure (.normal, S'')
  | o => pure (o, S')

def resOf (T : Nat → TI) (S : LS) : ResultVar → M LV
  | .tmp t => pure (S.sl t)
  | .cell a t => bif !nz T t then M.fail else match S.sl a with
    | .ptr id off => match S.H id with
      | some (.box c) => loadFrom T t off c
      | _ => M.fail
    | _ => M.fail
def resL (T : Nat → TI) (S : LS) : List ResultVar → M (List LV)
  | [] => pure []
  | r :: rs => do let v ← resOf T S r; let vs ← resL T S rs; pure (v :: vs)
def slotsOf : List LV → Nat → (Nat → LV)
  | [], _ => fun _ => .any
  | v :: r, i => supd (slotsOf r (i + 1)) i v

/-- A function's code, from given values on: its result, by value. -/
def lfun (T : Nat → TI) (G : Nat → Option Given) (A : Ann) (fn : Func) (args : List LV) (nx : Nat) (H : Heap) (lim : Nat) : M PV :=
  match fn.body with
  | none => M.fail
  | some c => do
    let (o, S) ← leval T G A c { sl := slotsOf args 0, H := H, nx := nx, lim := lim }
    match o with
    | .exit _ => M.fail
    | _ => do
      let vs ← resL T S fn.results.toList
      let ps ← purifyAL S.H vs
      match ps with
      | [p] => pure p
      | ps => pure (.tup ps)
def lfunP (T : Nat → TI) (G : Nat → Option Given) (A : Ann) (fn : Func) (args : List LV) : Option PV :=
  (lfun T G A fn args 0 (fun _ => none) 0).run some

/-- What comes back is a row of its own. -/
def lfunO (T : Nat → TI) (G : Nat → Option Given) (A : Ann) (fn : Func) (e sz : Nat) (args : List LV) : M PV :=
  match fn.body with
  | none => M.fail
  | some c => do
    let (o, S) ← leval T G A c { sl := slotsOf args 0, H := fun _ => none, nx := 0, lim := 0 }
    match o with
    | .exit _ => M.fail
    | _ => do
      let vs ← resL T S fn.results.toList
      match vs with
      | [.osl id len] => match S.H id with
        | some (.sl e' sz' xs false) => bif Nat.beq e' e && Nat.beq sz' sz then M.ite (xs.length == len) (pure (.list sz xs)) M.fail else M.fail
        | _ => M.fail
      | _ => M.fail
def lfunOP (T : Nat → TI) (G : Nat → Option Given) (A : Ann) (fn : Func) (e sz : Nat) (args : List LV) : Option PV := (lfunO T G A fn e sz args).run some

def tabGet : List (Nat × TI) → Nat → TI
  | [], _ => default
  | (j, x) :: r, t => bif Nat.beq j t then x else tabGet r t
def assoc {α : Type} : List (Nat × α) → Nat → Option α
  | [], _ => none
  | (j, x) :: r, t => bif Nat.beq j t then some x else assoc r t
end Go.Bw
