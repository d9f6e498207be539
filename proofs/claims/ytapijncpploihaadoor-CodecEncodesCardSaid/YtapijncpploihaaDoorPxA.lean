/- Our library of evaluations, part 1. -/
import Derived.Laws.AppendOwn
import Derived.Laws.CopyRow
import Derived.Orders
import Derived.Below
import Derived.Laws.OwnMore
import Derived.Laws.RangeAny
import Derived.Laws.BytesArg
import Derived.Laws.BytesString
import Derived.Laws.IdiomStrings
import Derived.Laws.Cover4
set_option linter.unusedVariables false
set_option linter.unusedSimpArgs false
/- The evaluator: what a function's code does, told over contents (lists, numbers), with no memory in it. Every slot has one owner of each block. -/
namespace Go.Px
open Go

/-! ### element kinds -/
inductive T0 where
  | int (k : IntKind)
  | bool
  | str
  deriving DecidableEq
@[reducible] def T0.α : T0 → Type
  | .int _ => Int
  | .bool => Bool
  | .str => ByteArray
def T0.val : (t : T0) → t.α → Value
  | .int k, n => .int k n
  | .bool, b => .bool b
  | .str, s => .string s
def T0.dec : (t : T0) → Value → Option t.α
  | .int k, .int k' n => if k' = k then some n else none
  | .bool, .bool b => some b
  | .str, .string s => some s
  | _, _ => none
def T0.dflt : (t : T0) → t.α
  | .int _ => (0 : Int)
  | .bool => false
  | .str => ByteArray.empty

@[reducible] def recα : List T0 → Type
  | [] => Unit
  | a :: r => a.α × recα r
def recVals : (fs : List T0) → recα fs → List Value
  | [], _ => []
  | a :: r, x => a.val x.1 :: recVals r x.2
def recDec : (fs : List T0) → List Value → Option (recα fs)
  | [], [] => some ()
  | a :: r, v :: vs => (a.dec v).bind fun x => (recDec r vs).bind fun y => some (x, y)
  | _, _ => none
def recDflt : (fs : List T0) → recα fs
  | [] => ()
  | a :: r => (a.dflt, recDflt r)
/-- a field of a record -/
def recAt : (fs : List T0) → recα fs → Nat → Value
  | [], _, _ => .nilFunc
  | a :: _, x, 0 => a.val x.1
  | _ :: r, x, n + 1 => recAt r x.2 n

inductive Cod where
  | sc (t : T0)
  | strc (fs : List T0)
  deriving DecidableEq
@[reducible] def Cod.α : Cod → Type
  | .sc t => t.α
  | .strc fs => recα fs
def Cod.cells : (C : Cod) → C.α → List Value
  | .sc t, x => [t.val x]
  | .strc fs, x => recVals fs x
def Cod.sz : Cod → Nat
  | .sc _ => 1
  | .strc fs => fs.length
def Cod.dflt : (C : Cod) → C.α
  | .sc t => t.dflt
  | .strc fs => recDflt fs
def Cod.fieldAt : (C : Cod) → C.α → Nat → Value
  | .sc t, x, _ => t.val x
  | .strc fs, x, f => recAt fs x f
def flat (C : Cod) (l : List C.α) : List Value := l.flatMap C.cells

/-! ### what a slot holds -/
inductive Seg where
  | one (v : Value)
  | arr (C : Cod) (n : Nat) (l : List C.α)
  | ro (a : Option Addr) (cap : Nat) (C : Cod) (l : List C.α)
def Seg.cells : Seg → List Value
  | .one v => [v]
  | .arr C _ l => flat C l
  | .ro a cap _ l => [.slice a l.length cap]
def Seg.size : Seg → Nat
  | .one _ => 1
  | .arr C n _ => n * C.sz
  | .ro .. => 1
def noRo (ss : List Seg) : Bool := ss.all fun
  | .ro .. => false
  | _ => true
def segCells (ss : List Seg) : List Value := ss.flatMap Seg.cells
def segOff : List Seg → Nat → Nat
  | _, 0 => 0
  | [], _ + 1 => 0
  | s :: r, g + 1 => s.size + segOff r g

/-- a part of a value that is handed over -/
inductive D1 where
  | junk
  | raw (v : Value)
  | arr (C : Cod) (n : Nat) (l : List C.α)
  | strc (ss : List Seg)
  | own (C : Cod) (l : List C.α)
inductive DV where
  | one (d : D1)
  | tup (ds : List D1)

inductive PV where
  | junk
  | raw (v : Value)
  | arr (C : Cod) (n : Nat) (l : List C.α)
  | strc (ss : List Seg)
  | ros (C : Cod) (l : List C.α)
  | own (C : Cod) (l : List C.α)
  | tup (ds : List D1)
  | obj (ss : List Seg)
  | iter (s : ByteArray) (pos : Nat)
  | alias (k : Nat)
  | view (k g off len : Nat)
  | ptr (k g idx f : Nat)
  | gl (g : Nat)
  | gptr (g s idx f : Nat)
  | fptr (C : Cod) (l : List C.α) (idx f : Nat)
  | spr (C : Cod) (l : List C.α) (n : Nat)
abbrev St := List PV
def isObj : PV → Bool
  | .obj _ => true
  | _ => false
def get (S : St) (i : Nat) : PV := S.getD i .junk
def D1.owns : D1 → Bool
  | .own .. => true
  | _ => false
def PV.owns : PV → Bool
  | .own .. | .obj .. | .iter .. | .spr .. => true
  | .tup ds => ds.any D1.owns
  | _ => false
def PV.ref : PV → Option Nat
  | .alias k | .view k .. | .ptr k .. => some k
  | _ => none
def kill1 (d : Nat) (p : PV) : PV := if p.ref = some d then .junk else p
def kill (S : St) (d : Nat) : St := if (get S d).owns then (S.map (kill1 d)).set d .junk else S
/-- a value goes into a slot -/
def put (S : St) (d : Option Nat) (p : PV) : St :=
  match d with
  | none => S
  | some d => (kill S d).set d p
/-- a variable that was handed over stays in its slot -/
def pinned (S : St) (d : Nat) : Bool := Nat.beq d 0 && isObj (get S 0)
def rename1 (s d : Nat) : PV → PV
  | .alias k => .alias (if k = s then d else k)
  | .view k g o l => .view (if k = s then d else k) g o l
  | .ptr k g i f => .ptr (if k = s then d else k) g i f
  | p => p

/-- what a seg tells of itself -/
def Seg.kind : Seg → Nat × Nat
  | .one _ => (1, 1)
  | .arr C n _ => (C.sz, n)
  | .ro .. => (1, 1)
/-- base, size of an element, how many -/
def shp : PV → Nat → Option (Nat × Nat × Nat)
  | .own C l, 0 => some (0, C.sz, l.length)
  | .spr C l _, 0 => some (0, C.sz, l.length)
  | .obj ss, g => match ss[g]? with
    | some (.one _) => some (segOff ss g, 1, 1)
    | some (.arr C n _) => some (segOff ss g, C.sz, n)
    | some (.ro ..) => some (segOff ss g, 1, 1)
    | none => none
  | _, _ => none
/-! ### types -/
structure TI where
  desc : TypeDesc
  size : Nat
  bytes : Nat
  agg : Bool
  cod : Option Cod
  zero : List Seg
structure Cont where
  C : Cod
  l : List C.α
/-- the contents of a slice -/
def content (S : St) : PV → Option Cont
  | .ros C l | .own C l => some ⟨C, l⟩
  | .alias k => match get S k with
    | .own C l => some ⟨C, l⟩
    | .spr C l n => some ⟨C, l.take n⟩
    | _ => none
  | .view k g off len => match get S k with
    | .own C l => some ⟨C, (l.drop off).take len⟩
    | .spr C l _ => some ⟨C, (l.drop off).take len⟩
    | .obj ss => match ss[g]? with
      | some (.arr C n l) => if off = 0 ∧ len = n then some ⟨C, l⟩ else some ⟨C, (l.drop off).take len⟩
      | _ => none
    | _ => none
  | _ => none
def slLen (S : St) : PV → Option Nat
  | .raw (.slice none 0 0) => some 0
  | .ros _ l | .own _ l => some l.length
  | .alias k => match get S k with
    | .own _ l => some l.length
    | _ => none
  | .view _ _ _ len => some len
  | _ => none
/-- with a nil of a known element kind -/
def contentT (S : St) (C : Cod) (p : PV) : Option (List C.α) :=
  match p with
  | .raw (.slice none 0 0) => some []
  | p => match content S p with
    | some ⟨C', l⟩ => if h : C' = C then some (h ▸ l) else none
    | none => none

structure Fun : Type 1 where
  run : (ρ : Type) → List DV → (DV → Option ρ) → Option ρ
  nat : ∀ (ρ : Type) (ds : List DV) (k : DV → Option ρ) (r : ρ), run ρ ds k = some r → ∃ d, ∀ k' : DV → Option ρ, run ρ ds k' = k' d
/-- a function that is handed one variable to write: what it holds, the rest; what it holds then -/
structure FunR : Type 1 where
  run : (ρ : Type) → List Seg → List DV → (List Seg → DV → Option ρ) → Option ρ
/-- a function that is handed a slice of ours to use up: what it holds, the rest -/
structure FunA : Type 1 where
  run : (ρ : Type) → Cont → List DV → (DV → Option ρ) → Option ρ
structure LoopC (ρ : Type) : Type 1 where
  σ : Type
  τ : Type
  projI : St → Option σ
  injI : σ → St
  projX : St → Option τ
  injX : τ → St
  L : σ → (τ → Option ρ) → Option ρ
structure Env (ρ : Type) : Type 1 where
  T : TypeId → Option TI
  Γ : FuncId → Option Fun
  R : FuncId → Option FunR
  A : FuncId → Option FunA
  G : Nat → Option (List Seg)
  Λ : Nat → Option (LoopC ρ)

section
variable {ρ : Type}

def opd (S : St) : Operand → PV
  | .tmp t => get S t
  | .const v => .raw v
  | .global g => .gl g
  | .func f => .raw (.func (.func f) #[] #[])

/-- an int in a slot -/
def asI : PV → Option Int
  | .raw (.int _ n) => some n
  | _ => none
def chk (b : Bool) (k : Option ρ) : Option ρ := cond b k none

/-- a value of one cell -/
abbrev oneC (v : Value) : Bool := v.oneCell'
def pureVal : Sem Value → Option Value
  | .pure v => some v
  | _ => none

/-- an operand; an owner is told as an alias of itself -/
def selfAlias (x : Operand) (p : PV) : PV := match x with
  | .tmp s => match p with
    | .own .. | .obj .. | .spr .. => .alias s
    | p => p
  | _ => p
/-! ### operators -/
def evShift (op : BinOp) (k : IntKind) (a b : Int) (K : Value → Option ρ) : Option ρ :=
  match op with
  | .shl => K (.int k (k.wrap (a * 2 ^ (min b.toNat k.bits))))
  | .shr => K (.int k (a.fdiv (2 ^ (min b.toNat k.bits))))
  | _ => none
def isNN : Int → Bool
  | .ofNat _ => true
  | .negSucc _ => false
/-- is it a written number that is not negative? -/
def evBin (td : Option TypeDesc) (op : BinOp) (v u : Value) (lit : Bool) (K : Value → Option ρ) : Option ρ :=
  match op, v, u with
  | .shl, .int k a, .int _ b | .shr, .int k a, .int _ b => if lit then evShift op k a b K else chk (decide (0 ≤ b)) (evShift op k a b K)
  | .add, .string a, .string b => chk (decide (a.size + b.size < 4611686018427387904)) (K (.string (a ++ b)))
  | .quo, .int k a, .int k' b | .rem, .int k a, .int k' b =>
    if k = k' then
      if lit then (match pureVal (Op.intDiv op k a b) with | some v => K v | none => none)
      else chk (decide (b ≠ 0)) (match op with | .quo => K (.int k (k.wrap (a.tdiv b))) | _ => K (.int k (a.tmod b)))
    else none
  | op, .int k a, .int k' b =>
    if k = k' then
      match (match op with
        | .add | .sub | .mul => pureVal (Op.intArith op k a b)
        | .and | .or | .xor | .andNot => pureVal (Op.intBits op k a b)
        | _ => pureVal (Op.intCmp op a b)) with
      | some v => K v
      | none => none
    else none
  | op, .string a, .string b => match op with
    | .eql | .neq | .lss | .leq | .gtr | .geq => (match pureVal (Op.stringOp op a b) with | some v => K v | none => none)
    | _ => none
  | .eql, .bool a, .bool b => match td with
    | some .bool => K (.bool (a == b))
    | _ => none
  | .neq, .bool a, .bool b => match td with
    | some .bool => K (.bool (!(a == b)))
    | _ => none
  | _, _, _ => none
def strOf (l : List Int) : ByteArray := ⟨(l.map fun n => UInt8.ofNat n.toNat).toArray⟩
def bytesOf (s : ByteArray) : List Int := s.data.toList.map fun b => (b.toNat : Int)
def byteAt (s : ByteArray) (i : Nat) : Int := (((s.data.toList)[i]?.getD 0).toNat : Int)
def strOfRunes (l : List Int) : ByteArray := l.foldl (fun s n => s ++ Utf8.encode n) ByteArray.empty
def subStr (s : ByteArray) (a b : Int) : ByteArray := s.extract a.toNat b.toNat

def isLit : Operand → Bool
  | .const (.int _ n) => isNN n && n != 0
  | _ => false

/-- a bound of a slice expression: absent, or a number -/
def bnd (S : St) (d : Int) : Option Operand → Option Int
  | none => some d
  | some o => asI (opd S o)
def inB (i : Int) (n : Int) : Bool := decide (0 ≤ i) && decide (i < n)
def leB (a b : Int) : Bool := decide (a ≤ b)

/-- the size of a type, in cells -/
def esz (E : Env ρ) (t : TypeId) : Option Nat := (E.T t).map (·.size)
/-- x[lo:hi] -/
def evSlice (E : Env ρ) (S : St) (t : TypeId) (x : PV) (lo hi : Option Operand) (K : PV → Option ρ) : Option ρ :=
  match E.T t with
  | none => none
  | some ti => match ti.desc, x with
    | .string, .raw (.string s) =>
      (bnd S 0 lo).bind fun a => (bnd S s.size hi).bind fun b =>
      chk (leB 0 a && (leB a b && leB b s.size)) (K (.raw (.string (subStr s a b))))
    | .array n e, .alias k => match get S k with
      | .obj [.arr C n' _] => if n = n' ∧ esz E e = some C.sz then
          (bnd S 0 lo).bind fun a => (bnd S n hi).bind fun b =>
          chk (leB 0 a && (leB a b && leB b n)) (K (.view k 0 a.toNat (b - a).toNat))
        else none
      | _ => none
    | .array n e, .ptr k g idx f => match get S k with
      | .obj ss => match ss[g]? with
        | some (.arr C n' _) => if n = n' ∧ esz E e = some C.sz ∧ 0 < C.sz ∧ idx = 0 ∧ f = 0 then
            (bnd S 0 lo).bind fun a => (bnd S n hi).bind fun b =>
            chk (leB 0 a && (leB a b && leB b n)) (K (.view k g a.toNat (b - a).toNat))
          else none
        | _ => none
      | _ => none
    | .slice e, .ros C l => if esz E e = some C.sz then
        (bnd S 0 lo).bind fun a => (bnd S l.length hi).bind fun b =>
        chk (leB 0 a && (leB a b && leB b l.length)) (K (.ros C ((l.drop a.toNat).take (b - a).toNat)))
      else none
    | .slice e, .alias k => match get S k with
      | .own C l => if esz E e = some C.sz then
          (bnd S 0 lo).bind fun a => (bnd S l.length hi).bind fun b =>
          chk (leB 0 a && (leB a b && leB b l.length)) (K (.view k 0 a.toNat (b - a).toNat))
        else none
      | .spr C l n => if esz E e = some C.sz then
          (bnd S 0 lo).bind fun a => (bnd S n hi).bind fun b =>
          chk (leB 0 a && (leB a b && leB b l.length)) (K (.view k 0 a.toNat (b - a).toNat))
        else none
      | _ => none
    | _, _ => none

/-- &x[i] -/
def evIndexAddr (E : Env ρ) (S : St) (t : TypeId) (x : PV) (i : Int) (K : PV → Option ρ) : Option ρ :=
  match E.T t with
  | none => none
  | some ti => match ti.desc, x with
    | .array n e, .alias k => match get S k with
      | .obj [.arr C n' _] => if n = n' ∧ esz E e = some C.sz ∧ 0 < C.sz then chk (inB i n) (K (.ptr k 0 i.toNat 0)) else none
      | _ => none
    | .array n e, .gl g => match (E.G g) with
      | some [.arr C n' _] => if n = n' ∧ esz E e = some C.sz ∧ 0 < C.sz then chk (inB i n) (K (.gptr g 0 i.toNat 0)) else none
      | _ => none
    | .array n e, .ptr k g 0 0 => match get S k with
      | .obj ss => match ss[g]? with
        | some (.arr C n' _) => if n = n' ∧ esz E e = some C.sz ∧ 0 < C.sz then chk (inB i n) (K (.ptr k g i.toNat 0)) else none
        | _ => none
      | _ => none
    | .slice e, .alias k => match get S k with
      | .own C l => if esz E e = some C.sz ∧ 0 < C.sz then chk (inB i l.length) (K (.ptr k 0 i.toNat 0)) else none
      | _ => none
    | .slice e, .view k g off len => match shp (get S k) g with
      | some (_, sz, _) => if esz E e = some sz ∧ 0 < sz then chk (inB i len) (K (.ptr k g (off + i.toNat) 0)) else none
      | none => none
    | .slice e, .ros C l => if esz E e = some C.sz ∧ 0 < C.sz then chk (inB i l.length) (K (.fptr C l i.toNat 0)) else none
    | _, _ => none
/-- an element, or a field of it -/
def evEl (ti : TI) (C : Cod) (x : C.α) (f : Nat) (K : PV → Option ρ) : Option ρ :=
  if ti.agg = false then K (.raw (C.fieldAt x f))
  else match ti.desc with
    | .struct _ => if f = 0 ∧ ti.size = C.sz then K (.strc ((C.cells x).map Seg.one)) else none
    | _ => none
/-- a part of a variable -/
def evRd (ti : TI) (ss : List Seg) (g idx f : Nat) (K : PV → Option ρ) : Option ρ :=
  match ss[g]? with
  | some (.one v) => if ti.agg = false then K (.raw v) else none
  | some (.arr C n l) => match ti.desc with
    | .array n' _ => if idx = 0 ∧ f = 0 ∧ n = n' ∧ ti.size = n * C.sz then K (.arr C n l) else none
    | _ => evEl ti C (l.getD idx C.dflt) f K
  | some (.ro _ _ C l) => if ti.agg = false then K (.ros C l) else none
  | none => none
/-- reads of a slice that is not ours: its element, at once -/
def evLoad (E : Env ρ) (S : St) (t : TypeId) (p : PV) (K : PV → Option ρ) : Option ρ :=
  match E.T t with
  | none => none
  | some ti =>
    match p with
    | .alias k => match get S k with
      | .obj [.arr C n l] => match ti.desc with
        | .array n' _ => if n = n' ∧ ti.size = n * C.sz then K (.arr C n l) else none
        | _ => none
      | .obj ss => match ti.desc with
        | .struct _ => if ti.size = (ss.map Seg.size).sum then K (.strc ss) else none
        | _ => none
      | _ => none
    | .ptr k g idx f => match get S k with
      | .own C l => match ti.desc with
        | .array n _ => if f = 0 ∧ ti.size = n * C.sz then chk (decide (idx + n ≤ l.length)) (K (.arr C n ((l.drop idx).take n))) else none
        | _ => evEl ti C (l.getD idx C.dflt) f K
      | .obj ss => evRd ti ss g idx f K
      | _ => none
    | .gptr g s idx f => match E.G g with
      | some ss => evRd ti ss s idx f K
      | none => none
    | .fptr C l idx f => evEl ti C (l.getD idx C.dflt) f K
    | .gl g => match E.G g with
      | some [.arr C n l] => match ti.desc with
        | .array n' _ => if n = n' ∧ ti.size = n * C.sz then K (.arr C n l) else none
        | _ => none
      | _ => none
    | _ => none
/-- a slice told as an array that is pointed to -/
def evArrAt (E : Env ρ) (S : St) (t : TypeId) (x : PV) (K : PV → Option ρ) : Option ρ :=
  match E.T t with
  | none => none
  | some ti => match ti.desc with
    | .array n _ => match x with
      | .view k g off len => match get S k with
        | .own C _ => if 0 < n ∧ 0 < C.sz then chk (decide (n ≤ len)) (K (.ptr k g off 0)) else none
        | _ => none
      | _ => none
    | _ => none
def evFieldAddr (E : Env ρ) (S : St) (t : TypeId) (x : PV) (f : Nat) (K : PV → Option ρ) : Option ρ :=
  match E.T t with
  | none => none
  | some ti => match ti.desc with
    | .struct fs => match fs[f]? with
      | none => none
      | some fd => match E.T fd.type with
        | none => none
        | some tf => if tf.size = 0 then none else match x with
          | .alias k => match get S k with
            | .obj ss => match ss[f]? with
              | some sg => if segOff ss f = fd.offset ∧ 0 < sg.kind.1 ∧ 0 < sg.kind.2 then K (.ptr k f 0 0) else none
              | none => none
            | _ => none
          | .ptr k g idx 0 => match get S k with
            | .own (.strc fs') _ => if fd.offset = f ∧ f < fs'.length ∧ g = 0 then K (.ptr k g idx f) else none
            | _ => none
          | .fptr (.strc fs') l idx 0 => if fd.offset = f ∧ f < fs'.length then K (.fptr (.strc fs') l idx f) else none
          | .gptr g s idx 0 => match E.G g with
            | some ss => match ss[s]? with
              | some (.arr (.strc fs') _ _) => if fd.offset = f ∧ f < fs'.length then K (.gptr g s idx f) else none
              | _ => none
            | none => none
          | _ => none
    | _ => none
def ones : List Seg → Option (List Value)
  | [] => some []
  | .one v :: r => (ones r).bind fun l => some (v :: l)
  | _ => none
/-- an element out of a slot's value -/
def PV.elem (C : Cod) : PV → Option C.α
  | .raw v => match C with
    | .sc t => t.dec v
    | .strc _ => none
  | .strc ss => match C with
    | .sc _ => none
    | .strc fs => (ones ss).bind (recDec fs)
  | _ => none
/-- one cell each -/
def segs1 (ss : List Seg) : Bool := ss.all fun
  | .one v => oneC v
  | _ => true
/-- *p = x; the new contents -/
def evStore (E : Env ρ) (S : St) (t : TypeId) (p x : PV) (K : St → Option ρ) : Option ρ :=
  match E.T t with
  | none => none
  | some ti => match p with
    | .alias k => match get S k, x with
      | .obj [.arr C n _], .arr C' n' l' => if C = C' ∧ n = n' ∧ ti.size = n * C.sz then K (S.set k (.obj [.arr C' n' l'])) else none
      | .obj [.one _], .raw v => if oneC v ∧ ti.size = 1 then K (S.set k (.obj [.one v])) else none
      | .obj ss, .strc ss' => if ss'.map Seg.kind = ss.map Seg.kind ∧ segs1 ss' = true ∧ ti.size = (ss'.map Seg.size).sum then K (S.set k (.obj ss')) else none
      | _, _ => none
    | .ptr k g idx 0 => match get S k with
      | .own (.sc c) l => if ti.size = 1 then (match x with
        | .raw v => (c.dec v).bind fun y => K (S.set k (.own (.sc c) (l.set idx y)))
        | _ => none) else none
      | .obj ss => match ss[g]? with
        | some (.one _) => if ti.size = 1 then (match x with
          | .raw v => if oneC v then K (S.set k (.obj (ss.set g (.one v)))) else none
          | _ => none) else none
        | some (.arr (.sc c) n l) => match x with
          | .raw v => if ti.size = 1 then (c.dec v).bind fun y => K (S.set k (.obj (ss.set g (.arr (.sc c) n (l.set idx y))))) else none
          | .arr C' n' l' => if Cod.sc c = C' ∧ n = n' ∧ ti.size = n ∧ idx = 0 then K (S.set k (.obj (ss.set g (.arr C' n' l')))) else none
          | _ => none
        | _ => none
      | _ => none
    | _ => none
def D1.toPV : D1 → PV
  | .junk => .junk
  | .raw v => .raw v
  | .arr C n l => .arr C n l
  | .strc ss => .strc ss
  | .own C l => .own C l
def DV.toPV : DV → PV
  | .one d => d.toPV
  | .tup ds => .tup ds
/-- what is handed to a callee -/
def toD1 (S : St) (p : PV) : Option D1 :=
  match p with
  | .raw v => some (.raw v)
  | .arr C n l => some (.arr C n l)
  | .strc ss => some (.strc ss)
  | p => match content S p with
    | some c => some (.own c.C c.l)
    | none => none
def codOf (E : Env ρ) (t : TypeId) : Option (Cod × Nat) :=
  match E.T t with
  | some ti => match ti.desc with
    | .slice e => match E.T e with
      | some te => match te.cod with
        | some C => if te.size = C.sz then some (C, te.bytes) else none
        | none => none
      | none => none
    | _ => none
  | none => none
/-- what is appended or copied: a slice's elements, a text's bytes -/
def srcOf (E : Env ρ) (S : St) (C : Cod) (p : PV) : Option (List C.α) :=
  match p, C with
  | .raw (.string s), .sc (.int .u8) => some (bytesOf s)
  | p, C => contentT S C p
def room (C : Cod) (bytes : Nat) (a b : List C.α) : Bool := decide ((a.length + b.length) * bytes < 140737488355328)
/-- a slice or a text -/
def okSrc (E : Env ρ) (t : TypeId) : Bool := match E.T t with
  | some ti => match ti.desc with
    | .slice _ | .string => true
    | _ => false
  | none => false
def evAppend (E : Env ρ) (S : St) (t : TypeId) (xo yo : Operand) (K : PV → St → Option ρ) : Option ρ :=
  match codOf E t with
  | none => none
  | some (C, bytes) => if bytes = 0 then none else match srcOf E S C (selfAlias yo (opd S yo)) with
    | none => none
    | some y =>
      let use (j : Nat) : Option ρ := match get S j with
        | .own C' l => if h : C' = C then chk (room C bytes (h ▸ l) y) (K (.own C ((h ▸ l) ++ y)) (kill S j)) else none
        | _ => none
      match opd S xo with
      | .raw (.slice none 0 0) => chk (room C bytes [] y) (K (.own C y) S)
      | .own .. => match xo with
        | .tmp j => use j
        | _ => none
      | .alias j => use j
      | .view k g off len => match get S k with
        | .obj ss => match ss[g]? with
          | some (.arr C' n l) => if h : C' = C then
              if off + len = n then cond (decide (y.length = 0)) (K (.view k g off len) S) (chk (room C bytes ((h ▸ l : List C.α).drop off) y) (K (.own C (((h ▸ l : List C.α).drop off) ++ y)) S)) else none
            else none
          | _ => none
        | _ => none
      | _ => none
def copied {α : Type} (l : List α) (off n : Nat) (y : List α) : List α := l.take off ++ y.take n ++ l.drop (off + n)
def evCopy (E : Env ρ) (S : St) (t : TypeId) (x yp : PV) (K : PV → St → Option ρ) : Option ρ :=
  match codOf E t with
  | none => none
  | some (C, _) => match srcOf E S C yp with
    | none => none
    | some y => match x with
      | .alias k => match get S k with
        | .own C' l => if h : C' = C then
            let l : List C.α := h ▸ l
            let n := min y.length l.length
            K (.raw (.int .i64 n)) (S.set k (.own C (copied l 0 n y))) else none
        | .spr C' l m => if h : C' = C then
            let l : List C.α := h ▸ l
            let n := min y.length m
            K (.raw (.int .i64 n)) (S.set k (.spr C (copied l 0 n y) m)) else none
        | _ => none
      | .view k g off len => match get S k with
        | .obj ss => match ss[g]? with
          | some (.arr C' n' l) => if h : C' = C ∧ 0 < len then
              let l : List C.α := h.1 ▸ l
              let n := min y.length len
              K (.raw (.int .i64 n)) (S.set k (.obj (ss.set g (.arr C n' (copied l off n y))))) else none
          | _ => none
        | _ => none
      | _ => none
def evConvert (E : Env ρ) (S : St) (a b : TypeId) (p : PV) (K : PV → Option ρ) : Option ρ :=
  match E.T a, E.T b with
  | some ta, some tb => match tb.desc, p with
    | .int k, .raw (.int _ n) => K (.raw (.int k (k.wrap n)))
    | .string, p => match ta.desc with
      | .string => (match p with | .raw (.string s) => K (.raw (.string s)) | _ => none)
      | .slice _ => match codOf E a with
        | some (.sc (.int .u8), _) => (match contentT S (.sc (.int .u8)) p with | some l => K (.raw (.string (strOf l))) | none => none)
        | some (.sc (.int .i32), _) => (match contentT S (.sc (.int .i32)) p with | some l => K (.raw (.string (strOfRunes l))) | none => none)
        | _ => none
      | _ => none
    | .slice _, p => match ta.desc, p with
     | .slice _, .alias k => match codOf E b, get S k with
      | some (.sc (.int .u8), _), .own (.sc (.int .u8)) l => if a = b then chk (decide (0 < l.length)) (K (.alias k)) else none
      | _, _ => none
     | .string, .raw (.string s) => match codOf E b with
      | some (.sc (.int .u8), _) => chk (decide (s.size < 140737488355328)) (K (.own (.sc (.int .u8)) (bytesOf s)))
      | _ => none
     | _, _ => none
    | _, _ => none
  | _, _ => none
def evLen (E : Env ρ) (S : St) (t : TypeId) (p : PV) (K : PV → Option ρ) : Option ρ :=
  match E.T t with
  | some ti => match ti.desc, p with
    | .string, .raw (.string s) => K (.raw (.int .i64 s.size))
    | .slice _, p => (match slLen S p with | some n => K (.raw (.int .i64 n)) | none => none)
    | .array n _, _ => K (.raw (.int .i64 n))
    | _, _ => none
  | none => none
def elems (S : St) (C : Cod) : Nat → List (Nat × Operand) → Option (List C.α)
  | _, [] => some []
  | i, (j, o) :: r => if i = j then ((opd S o).elem C).bind fun x => (elems S C (i + 1) r).bind fun l => some (x :: l) else none
def evBuildSlice (E : Env ρ) (S : St) (t : TypeId) (len : Nat) (parts : List (Nat × Operand)) (K : PV → Option ρ) : Option ρ :=
  match codOf E t with
  | none => none
  | some (C, _) => if parts.length = len ∧ 0 < len ∧ len ≤ 64 ∧ C.sz ≤ 1000 ∧ 0 < C.sz then (match elems S C 0 parts with | some l => K (.own C l) | none => none) else none
/-- the fields stand where the parts stand -/
def fieldsSeg (E : Env ρ) (z : List Seg) : Nat → List Field → Bool
  | _, [] => true
  | i, f :: r => (match z[i]? with
      | some s => f.offset == segOff z i && (match E.T f.type with | some tf => tf.size == s.size | none => false)
      | none => false) && fieldsSeg E z (i + 1) r
def setParts (S : St) : List Seg → List (Nat × Operand) → Option (List Seg)
  | z, [] => some z
  | z, (i, o) :: r => match z[i]?, opd S o with
    | some (.one _), .raw v => if oneC v = true then setParts S (z.set i (.one v)) r else none
    | some (.arr C n _), .arr C' n' l => if C = C' ∧ n = n' then setParts S (z.set i (.arr C' n' l)) r else none
    | _, _ => none
def setEls (S : St) (c : T0) : List c.α → List (Nat × Operand) → Option (List c.α)
  | z, [] => some z
  | z, (i, o) :: r => match opd S o with
    | .raw v => if i < z.length then (c.dec v).bind fun y => setEls S c (z.set i y) r else none
    | _ => none
def evBuild (E : Env ρ) (S : St) (t : TypeId) (parts : List (Nat × Operand)) (K : PV → Option ρ) : Option ρ :=
  match E.T t with
  | some ti => match ti.desc with
    | .struct fs => if fieldsSeg E ti.zero 0 fs.toList = true ∧ ti.zero.length = fs.toList.length then (setParts S ti.zero parts).bind fun z => K (.strc z) else none
    | .array n e => match ti.zero with
      | [.arr (.sc c) n' z] => if n = n' ∧ esz E e = some 1 then (setEls S c z parts).bind fun z' => K (.arr (.sc c) n z') else none
      | _ => none
    | _ => none
  | none => none
/-! ### == of arrays and structs -/
def isIntT (E : Env ρ) (e : TypeId) (k : IntKind) : Bool := match E.T e with
  | some te => (match te.desc with | .int k' => decide (k' = k) | _ => false)
  | none => false
def leq (a b : List Int) : Bool := a == b
def segEq (E : Env ρ) (tf : TI) (a b : Seg) : Option Bool :=
  match tf.desc, a, b with
  | .int _, .one (.int k x), .one (.int k' y) => if k = k' then some (x == y) else none
  | .bool, .one (.bool x), .one (.bool y) => some (x == y)
  | .string, .one (.string x), .one (.string y) => some (x.toList == y.toList)
  | .array n e, .arr (.sc (.int k)) n1 l, .arr (.sc (.int k')) n2 l' =>
    if k = k' ∧ n1 = n ∧ n2 = n ∧ isIntT E e k = true ∧ esz E e = some 1 then some (leq l l') else none
  | _, _, _ => none
def fieldsEq (E : Env ρ) (o : Nat) : List Field → List Seg → List Seg → Option Bool
  | [], [], [] => some true
  | f :: fs, a :: r, b :: r' => if f.name ≠ "_" ∧ f.offset = o then
      match E.T f.type with
      | some tf => if tf.size = a.size ∧ b.size = a.size then (segEq E tf a b).bind fun x => (fieldsEq E (o + a.size) fs r r').bind fun y => some (x && y) else none
      | none => none
    else none
  | _, _, _ => none
def evEq (E : Env ρ) (t : TypeId) (x y : PV) : Option Bool :=
  match E.T t with
  | some ti => match x, y with
    | .arr C n l, .arr C' n' l' => (match ti.desc with | .array .. => segEq E ti (.arr C n l) (.arr C' n' l') | _ => none)
    | .strc ss, .strc ss' => (match ti.desc with | .struct fs => fieldsEq E 0 fs.toList ss ss' | _ => none)
    | _, _ => none
  | none => none
def evCmp (E : Env ρ) (op : BinOp) (t : TypeId) (x y : PV) (K : PV → Option ρ) : Option ρ :=
  match op with
  | .eql => (evEq E t x y).bind fun b => K (.raw (.bool b))
  | .neq => (evEq E t x y).bind fun b => K (.raw (.bool (!b)))
  | _ => none
/-! ### make -/
def zeroInt (k : IntKind) : List Seg → Bool
  | [.one (.int k' n)] => decide (k' = k ∧ n = 0)
  | _ => false
/-- the same operand twice -/
def sameO : Operand → Operand → Bool
  | .tmp a, .tmp b => Nat.beq a b
  | .const (.int _ a), .const (.int _ b) => decide (a = b)
  | _, _ => false
def evMake (E : Env ρ) (t : TypeId) (same : Bool) (x y : PV) (K : PV → Option ρ) : Option ρ :=
  match E.T t, asI x, asI y with
  | some ti, some l, some c => match ti.desc with
    | .slice e => match E.T e with
      | some te => match te.cod with
        | some (.sc (.int k)) => if zeroInt k te.zero = true ∧ te.size = 1 ∧ 0 < te.bytes then cond (same || leB c l) (chk (leB 0 l && (leB l c && (leB c l && decide (l.toNat * te.bytes < 140737488355328)))) (K (.own (.sc (.int k)) (List.replicate l.toNat 0)))) (chk (leB 0 l && decide (c.toNat * te.bytes < 140737488355328)) (K (.spr (.sc (.int k)) (List.replicate c.toNat 0) l.toNat))) else none
        | _ => none
      | none => none
    | _ => none
  | _, _, _ => none
/-! ### values of any type -/
inductive Dyn where
  | nil
  | int (u : TypeId) (k : IntKind) (n : Int)
  | bool (u : TypeId) (b : Bool)
  | str (u : TypeId) (s : ByteArray)
def Dyn.val : Dyn → Value
  | .nil => .nilIface
  | .int u k n => .iface u (.int k n)
  | .bool u b => .iface u (.bool b)
  | .str u s => .iface u (.string s)
def Dyn.dec : Value → Option Dyn
  | .nilIface => some .nil
  | .iface u (.int k n) => some (.int u k n)
  | .iface u (.bool b) => some (.bool u b)
  | .iface u (.string s) => some (.str u s)
  | _ => none
theorem Dyn.dec_val (d : Dyn) : Dyn.dec d.val = some d := by cases d <;> rfl
theorem Dyn.dec_ok {v : Value} {d : Dyn} (h : Dyn.dec v = some d) : v = d.val := by
  unfold Dyn.dec at h
  split at h <;> first
    | (cases h; rfl)
    | cases h
def isT (T : TypeId) : Value → Bool
  | .iface u _ => u == T
  | _ => false
def fitT (T : TypeId) (τ : T0) : Value → Bool
  | .nilIface => true
  | .iface u x => !(u == T) || (τ.dec x).isSome
  | _ => false
def asT (τ : T0) (T : TypeId) : Value → τ.α
  | .iface u x => if u = T then (τ.dec x).getD τ.dflt else τ.dflt
  | _ => τ.dflt
def evTA (E : Env ρ) (T : TypeId) (ok : Bool) (x : PV) (K : PV → Option ρ) : Option ρ :=
  match E.T T, x, ok with
  | some ti, .raw v, true => match ti.cod with
    | some (.sc τ) => chk (fitT T τ v) (cond (isT T v) (K (.raw (.tuple #[τ.val (asT τ T v), .bool true]))) (K (.tup [.junk, .raw (.bool false)])))
    | _ => none
  | _, _, _ => none
def evMI (E : Env ρ) (T : TypeId) (x : PV) (K : PV → Option ρ) : Option ρ :=
  match E.T T, x with
  | some ti, .raw v => match ti.cod with
    | some (.sc _) => K (.raw (.iface T v))
    | _ => none
  | _, _ => none
def takeD (ds : List D1) (i : Nat) : PV := match ds[i]? with
  | some d => d.toPV
  | none => .junk
def evCallArgs (S : St) : List Operand → Option (List D1)
  | [] => some []
  | o :: r => (toD1 S (selfAlias o (opd S o))).bind fun d => (evCallArgs S r).bind fun ds => some (d :: ds)
/-- what is handed over beside the variable of slot k -/
def evCallArgsR (S : St) (k : Nat) : List Operand → Option (List D1)
  | [] => some []
  | o :: r => if (selfAlias o (opd S o)).ref = some k then none else (toD1 S (selfAlias o (opd S o))).bind fun d => (evCallArgsR S k r).bind fun ds => some (d :: ds)
/-- the rest: plain values -/
def evCallArgsS (S : St) : List Operand → Option (List D1)
  | [] => some []
  | o :: r => match opd S o with
    | .raw v => (evCallArgsS S r).bind fun ds => some (.raw v :: ds)
    | _ => none
def evCallA (E : Env ρ) (S : St) (f : FuncId) (args : List Operand) (K : PV → St → Option ρ) : Option ρ :=
  match E.A f, args with
  | some F, x :: xs => match selfAlias x (opd S x) with
    | .alias k => match get S k with
      | .own C l => (evCallArgsS S xs).bind fun ds => F.run ρ ⟨C, l⟩ (ds.map .one) fun d => K d.toPV (kill S k)
      | _ => none
    | _ => none
  | _, _ => none
def evCallR (E : Env ρ) (S : St) (f : FuncId) (args : List Operand) (K : PV → St → Option ρ) : Option ρ :=
  match E.R f, args with
  | some F, x :: xs => match selfAlias x (opd S x) with
    | .alias k => match get S k with
      | .obj ss => cond (noRo ss) ((evCallArgsR S k xs).bind fun ds => F.run ρ ss (ds.map .one) fun ss' d => K d.toPV (S.set k (.obj ss'))) none
      | _ => none
    | _ => none
  | none, args => evCallA E S f args K
  | _, _ => none
/-- one operation: its value, and what has become of the slots -/
def evOp (E : Env ρ) (S : St) (dst : Option Nat) (o : Op) (ty : TypeId) (K : PV → St → Option ρ) : Option ρ :=
  match o with
  | .move x => match x with
    | .tmp s => match get S s with
      | .own .. | .obj .. | .iter .. | .spr .. => K (.alias s) S
      | .tup ds => K (.tup ds) (kill S s)
      | p => K p S
    | x => K (opd S x) S
  | .assign x => match x with
    | .tmp s => match get S s, dst with
      | .own C l, some d => if s = d ∨ pinned S d = true then none else K (.own C l) (((kill S d).map (rename1 s d)).set s (.alias d))
      | .spr C l n, some d => if s = d ∨ pinned S d = true then none else K (.spr C l n) (((kill S d).map (rename1 s d)).set s (.alias d))
      | .alias j, some d => if j = d then none else K (.alias j) S
      | .view j g off len, some d => if j = d then (match get S d with
          | .own C l => if g = 0 then K (.own C ((l.drop off).take len)) (kill S d) else none
          | .spr C l _ => if g = 0 then K (.own C ((l.drop off).take len)) (kill S d) else none
          | _ => none) else K (.view j g off len) S
      | .tup ds, some _ => K (.tup ds) (kill S s)
      | .tup _, none => none
      | .own _ _, none => none
      | .spr _ _ _, none => none
      | .obj .., _ | .iter .., _ => K (.alias s) S
      | p, _ => K p S
    | .const (.slice none 0 0) => match codOf E ty with
      | some (C, _) => K (.own C []) S
      | none => none
    | x => K (opd S x) S
  | .pick c a b => match opd S c with
    | .raw (.bool β) => cond β (match opd S a with | .raw v => K (.raw v) S | _ => none) (match opd S b with | .raw v => K (.raw v) S | _ => none)
    | _ => none
  | .alloc t => match E.T t with
    | some ti => K (.obj ti.zero) S
    | none => none
  | .box _ x => match opd S x with
    | .raw v => if oneC v then K (.obj [.one v]) S else none
    | .arr C n l => K (.obj [.arr C n l]) S
    | .strc ss => K (.obj ss) S
    | _ => none
  | .build t parts => evBuild E S t parts.toList fun p => K p S
  | .buildSlice t len parts => evBuildSlice E S t len parts.toList fun p => K p S
  | .makeSlice t l c => evMake E t (sameO l c) (opd S l) (opd S c) fun p => K p S
  | .load t a => evLoad E S t (selfAlias a (opd S a)) fun p => K p S
  | .store t a x => evStore E S t (selfAlias a (opd S a)) (opd S x) fun S' => K (.raw undef) S'
  | .nilCheck x => match x with
    | .tmp s => match get S s with
      | .obj .. => K (.alias s) S
      | .alias j => (match get S j with | .obj .. => K (.alias j) S | _ => none)
      | _ => none
    | _ => none
  | .binOp op t x y _ => match opd S x, opd S y with
    | .raw v, .raw u => evBin ((E.T t).map (·.desc)) op v u (isLit y) fun r => K (.raw r) S
    | p, q => evCmp E op t p q fun r => K r S
  | .unOp op _ x => match opd S x with
    | .raw v => match pureVal (Op.unary op v) with
      | some r => K (.raw r) S
      | none => none
    | _ => none
  | .convert a b x => evConvert E S a b (selfAlias x (opd S x)) fun p => K p S
  | .slice t x lo hi none => evSlice E S t (selfAlias x (opd S x)) lo hi fun p => K p S
  | .sliceToArrayPointer t x => evArrAt E S t (selfAlias x (opd S x)) fun p => K p S
  | .typeAssert x _ t ok => evTA E t ok (opd S x) fun p => K p S
  | .makeInterface t x => evMI E t (opd S x) fun p => K p S
  | .fieldAddr t x f => evFieldAddr E S t (selfAlias x (opd S x)) f fun p => K p S
  | .indexAddr t x i => match asI (opd S i) with
    | some i => evIndexAddr E S t (selfAlias x (opd S x)) i fun p => K p S
    | none => none
  | .index t x i => match asI (opd S i), E.T t with
    | some i, some ti => match ti.desc, opd S x with
      | .string, .raw (.string s) => chk (inB i s.size) (K (.raw (.int .u8 (byteAt s i.toNat))) S)
      | .array n e, .arr (.sc t) n' l => if n = n' ∧ (E.T e).map (·.agg) = some false ∧ esz E e = some 1 then chk (inB i n) (K (.raw (t.val (l.getD i.toNat t.dflt))) S) else none
      | _, _ => none
    | _, _ => none
  | .range t x => match E.T t with
    | some ti => match ti.desc, opd S x with
      | .string, .raw (.string s) => K (.iter s 0) S
      | _, _ => none
    | none => none
  | .next x true => match x with
    | .tmp k => match get S k with
      | .iter s pos => cond (decide (pos < s.size))
          (K (.raw (.tuple #[.bool true, .int .i64 pos, .int .i32 (Utf8.decode s pos).1])) (S.set k (.iter s (pos + (Utf8.decode s pos).2))))
          (K (.raw (.tuple #[.bool false])) S)
      | _ => none
    | _ => none
  | .extract x i => match x with
    | .tmp s => match get S s with
      | .raw (.tuple vs) => match vs[i]? with
        | some v => K (.raw v) S
        | none => none
      | .tup ds => match ds[i]? with
        | some d => if d.owns then K d.toPV ((kill S s).set s (.tup (ds.set i .junk))) else K d.toPV S
        | none => none
      | _ => none
    | _ => none
  | .call { callee := .value (.func f), args, argTypes := _ } => match E.Γ f, evCallArgs S args.toList with
    | some F, some ds => F.run ρ (ds.map .one) fun d => K d.toPV S
    | none, _ => evCallR E S f args.toList K
    | _, _ => none
  | .call { callee := .builtin .len, args, argTypes } => match args[0]?, argTypes[0]? with
    | some x, some t => evLen E S t (selfAlias x (opd S x)) fun p => K p S
    | _, _ => none
  | .call { callee := .builtin .append, args, argTypes } => match args[0]?, args[1]?, argTypes[0]? with
    | some x, some y, some t => match argTypes[1]? with
      | some t2 => if okSrc E t2 then evAppend E S t x y K else none
      | none => none
    | _, _, _ => none
  | .call { callee := .builtin .copy, args, argTypes } => match args[0]?, args[1]?, argTypes[0]? with
    | some x, some y, some t => evCopy E S t (selfAlias x (opd S x)) (selfAlias y (opd S y)) K
    | _, _, _ => none
  | _ => none
/-- the value goes to its slot; nothing may point to what it takes the place of -/
def fin (dst : Option Nat) (K : St → Option ρ) (p : PV) (S : St) : Option ρ :=
  match dst with
  | none => K S
  | some d => if d < S.length ∧ pinned S d = false then (match p.ref with
    | some k => if k = d then none else K (put S (some d) p)
    | none => K (put S (some d) p)) else none
/-- nothing goes into a slot -/
def putU (S : St) (dst : Option Nat) (K : St → Option ρ) : Option ρ := match dst with
  | none => K S
  | some d => cond (pinned S d) none (K (put S (some d) (.raw undef)))
/-- one operation with its guard -/
def evOper (E : Env ρ) (ops : Array Oper) (o : Oper) (S : St) (K : St → Option ρ) : Option ρ :=
  match o.guard with
  | none => evOp E S o.dst o.op o.type (fin o.dst K)
  | some (j, want) => match (ops[j]?).bind (·.dst) with
    | none => none
    | some d => match get S d with
      | .raw (.bool β) =>
        let go (b : Bool) : Option ρ :=
          let S := S.set d (.raw (.bool b))
          if b = want then evOp E S o.dst o.op o.type (fin o.dst K) else putU S o.dst K
        cond β (go true) (go false)
      | .raw (.tuple _) => putU S o.dst K
      | _ => none
def evOps (E : Env ρ) (ops : Array Oper) : List Nat → St → (St → Option ρ) → Option ρ
  | [], S, K => K S
  | i :: r, S, K => match ops[i]? with
    | none => none
    | some o => evOper E ops o S fun S' => evOps E ops r S' K
/-! ### a region whose order is drawn -/
def isNilS : Value → Bool
  | .slice none 0 0 => true
  | _ => false
/-- an assignment that makes a value -/
def evAsg (E : Env ρ) (S : St) (ty : TypeId) (x : Operand) : Option PV := match x with
  | .const v => if isNilS v = true then (codOf E ty).map fun c => .own c.1 [] else some (.raw v)
  | x => match opd S x with
    | .raw v => if isNilS v = true then none else some (.raw v)
    | _ => none
/-- an operation that only makes a value out of what it looks at -/
def evVal (E : Env ρ) (S : St) (ty : TypeId) (o : Op) (K : PV → Option ρ) : Option ρ :=
  match o with
  | .move x => match opd S x with
    | .tup ds => cond (ds.any D1.owns) none (K (.tup ds))
    | .iter .. => none
    | p => K (selfAlias x p)
  | .assign x => (evAsg E S ty x).bind K
  | .nilCheck x => match x with
    | .tmp s => match get S s with
      | .obj .. => K (.alias s)
      | .alias j => (match get S j with | .obj .. => K (.alias j) | _ => none)
      | _ => none
    | _ => none
  | .pick c a b => match opd S c with
    | .raw (.bool β) => cond β (match opd S a with | .raw v => K (.raw v) | _ => none) (match opd S b with | .raw v => K (.raw v) | _ => none)
    | _ => none
  | .alloc t => match E.T t with
    | some ti => K (.obj ti.zero)
    | none => none
  | .box _ x => match opd S x with
    | .raw v => if oneC v then K (.obj [.one v]) else none
    | .arr C n l => K (.obj [.arr C n l])
    | .strc ss => K (.obj ss)
    | _ => none
  | .build t parts => evBuild E S t parts.toList K
  | .buildSlice t len parts => evBuildSlice E S t len parts.toList K
  | .makeSlice t l c => evMake E t (sameO l c) (opd S l) (opd S c) K
  | .load t a => evLoad E S t (selfAlias a (opd S a)) K
  | .binOp op t x y _ => match opd S x, opd S y with
    | .raw v, .raw u => evBin ((E.T t).map (·.desc)) op v u (isLit y) fun r => K (.raw r)
    | p, q => evCmp E op t p q K
  | .unOp op _ x => match opd S x with
    | .raw v => match pureVal (Op.unary op v) with
      | some r => K (.raw r)
      | none => none
    | _ => none
  | .convert a b x => evConvert E S a b (selfAlias x (opd S x)) K
  | .slice t x lo hi none => evSlice E S t (selfAlias x (opd S x)) lo hi K
  | .sliceToArrayPointer t x => evArrAt E S t (selfAlias x (opd S x)) K
  | .typeAssert x _ t ok => evTA E t ok (opd S x) K
  | .makeInterface t x => evMI E t (opd S x) K
  | .fieldAddr t x f => evFieldAddr E S t (selfAlias x (opd S x)) f K
  | .indexAddr t x i => match asI (opd S i) with
    | some i => evIndexAddr E S t (selfAlias x (opd S x)) i K
    | none => none
  | .index t x i => match asI (opd S i), E.T t with
    | some i, some ti => match ti.desc, opd S x with
      | .string, .raw (.string s) => chk (inB i s.size) (K (.raw (.int .u8 (byteAt s i.toNat))))
      | .array n e, .arr (.sc t) n' l => if n = n' ∧ (E.T e).map (·.agg) = some false ∧ esz E e = some 1 then chk (inB i n) (K (.raw (t.val (l.getD i.toNat t.dflt)))) else none
      | _, _ => none
    | _, _ => none
  | .extract x i => match x with
    | .tmp s => match get S s with
      | .raw (.tuple vs) => match vs[i]? with
        | some v => K (.raw v)
        | none => none
      | .tup ds => match ds[i]? with
        | some d => if d.owns then none else K d.toPV
        | none => none
      | _ => none
    | _ => none
  | .call { callee := .value (.func f), args, argTypes := _ } => match E.Γ f, evCallArgs S args.toList with
    | some F, some ds => F.run ρ (ds.map .one) fun d => K d.toPV
    | _, _ => none
  | .call { callee := .builtin .len, args, argTypes } => match args[0]?, argTypes[0]? with
    | some x, some t => evLen E S t (selfAlias x (opd S x)) K
    | _, _ => none
  | .call { callee := .builtin .append, args, argTypes } => match args[0]?, args[1]?, argTypes[0]? with
    | some x, some y, some t => match argTypes[1]? with
      | some t2 => if okSrc E t2 then (match opd S x with
        | .raw (.slice none 0 0) => match codOf E t with
          | none => none
          | some (C, bytes) => if bytes = 0 then none else match srcOf E S C (selfAlias y (opd S y)) with
            | none => none
            | some y => chk (room C bytes [] y) (K (.own C y))
        | _ => none) else none
      | none => none
    | _, _, _ => none
  | _ => none
/-- is the one written as standing behind the other? -/
def aft (ops : Array Oper) (i j : Nat) : Bool := match ops[i]? with
  | some o => o.after.any fun e => Region.binds .any e && e.on == j
  | none => false
def dstOf (ops : Array Oper) (i : Nat) : Option Nat := match ops[i]? with
  | some o => o.dst
  | none => none
def apartB (ops : Array Oper) (i j : Nat) : Bool := match ops[i]?, ops[j]? with
  | some x, some y => x.apart ops y
  | _, _ => false
/-- nothing may be drawn to its other side -/
def maskOf (acc : List Nat) (o : Option Oper) : Nat := match o with
  | some o => o.after.toList.foldl (fun m e => cond (Region.binds .any e) (m ||| (1 <<< e.on ||| acc.getD e.on 0)) m) 0
  | none => 0
/-- what stands ahead of each, by one step or by several -/
def masks (ops : Array Oper) : List Nat := ops.toList.foldl (fun acc o => acc ++ [maskOf acc (some o)]) []
def aftT (ops : Array Oper) (i j : Nat) : Bool := ((masks ops).getD i 0).testBit j
def alone (ops : Array Oper) (i : Nat) : Bool := (List.range ops.size).all fun j => j == i || (aftT ops i j || aftT ops j i)
def uniq (ops : Array Oper) (i : Nat) : Bool := (List.range ops.size).all fun j => j == i || dstOf ops j != dstOf ops i
def aftLt (ops : Array Oper) (i : Nat) : Bool := match ops[i]? with
  | some o => o.after.all fun e => !Region.binds .any e || Nat.blt e.on i
  | none => true
def drawOk (ops : Array Oper) : Bool := (List.range ops.size).all fun i => aftLt ops i && (List.range i).all fun j => aft ops i j || apartB ops j i
def free (ops : Array Oper) (l : List Nat) (S : St) : Bool := l.all fun i => match dstOf ops i with
  | some d => !(get S d).owns || alone ops i
  | none => true
def evOperV (E : Env ρ) (ops : Array Oper) (i : Nat) (o : Oper) (S : St) (K : St → Option ρ) : Option ρ :=
  match o.guard with
  | none => evVal E S o.type o.op fun p => cond (uniq ops i || !p.owns) (fin o.dst K p S) none
  | some (j, want) => match (ops[j]?).bind (·.dst) with
    | none => none
    | some d => match get S d with
      | .raw (.bool β) =>
        let go (b : Bool) : Option ρ :=
          let S := S.set d (.raw (.bool b))
          if b = want then evVal E S o.type o.op fun p => cond (uniq ops i || !p.owns) (fin o.dst K p S) none else putU S o.dst K
        cond β (go true) (go false)
      | .raw (.tuple _) => putU S o.dst K
      | _ => none
def isStore (ops : Array Oper) (i : Nat) : Bool := match ops[i]? with
  | some o => match o.op, o.guard, o.dst with
    | .store .., none, none => true
    | _, _, _ => false
  | none => false
def unord (ops : Array Oper) (i j : Nat) : Bool := !(j == i || (aftT ops i j || aftT ops j i))
/-- has it a store that may be drawn to its other side -/
def byStore (ops : Array Oper) (i : Nat) : Bool := (List.range ops.size).any fun j => unord ops i j && isStore ops j
def looksOf (ops : Array Oper) (i : Nat) : List Nat := match ops[i]? with
  | some o => o.looksAt ops
  | none => []
def noRefs (S : St) (ts : List Nat) : Bool := ts.all fun t => match (get S t).ref with
  | none => true
  | some _ => false
def stepS (E : Env ρ) (ops : Array Oper) (i : Nat) (o : Oper) (S : St) (K : St → Option ρ) : Option ρ :=
  match o.op with
  | .store t a x => match (selfAlias a (opd S a)).ref with
    | some k => cond ((List.range ops.size).all fun j => !unord ops i j || (!isStore ops j && !(looksOf ops j).contains k)) (evStore E S t (selfAlias a (opd S a)) (opd S x) K) none
    | none => none
  | _ => none
/-- an append onto a slice of ours, which it uses up; all that is written ahead of it stands ahead of it -/
def isApp (ops : Array Oper) (i : Nat) : Bool := match ops[i]? with
  | some o => match o.op, o.guard, o.dst with
    | .call { callee := .builtin .append, args, argTypes := _ }, none, some _ => (match (args[0]? : Option Operand) with
      | some (.tmp _) => uniq ops i && (List.range i).all fun j => aftT ops i j
      | _ => false)
    | _, _, _ => false
  | none => false
def appAt (S : St) (s : Nat) : Option Nat := match get S s with
  | .own .. => some s
  | .alias j => match get S j with
    | .own .. => some j
    | _ => none
  | _ => none
def appOk (ops : Array Oper) (i : Nat) (S : St) (k : Nat) : Bool := (List.range ops.size).all fun j => !unord ops i j || (!isStore ops j && (!isApp ops j && (looksOf ops j).all fun t => t != k && (get S t).ref != some k))
def stepA (E : Env ρ) (ops : Array Oper) (i : Nat) (o : Oper) (S : St) (K : St → Option ρ) : Option ρ :=
  match o.op with
  | .call { callee := .builtin .append, args, argTypes } => match (args[0]? : Option Operand), args[1]?, argTypes[0]?, argTypes[1]? with
    | some (.tmp s), some y, some t, some t2 => match appAt S s with
      | some k => cond (okSrc E t2 && appOk ops i S k) (evAppend E S t (.tmp s) y (fin o.dst K)) none
      | none => none
    | _, _, _, _ => none
  | _ => none
/-- one that may be drawn ahead of others, or behind them -/
def evD (E : Env ρ) (ops : Array Oper) (i : Nat) (o : Oper) (S : St) (K : St → Option ρ) : Option ρ :=
  cond (isStore ops i) (stepS E ops i o S K) (cond (isApp ops i) (stepA E ops i o S K) (cond (!byStore ops i || noRefs S (looksOf ops i)) (evOperV E ops i o S K) none))
/-- the order of the text, where no other order could tell anything else -/
def evOpsD (E : Env ρ) (ops : Array Oper) : List Nat → St → (St → Option ρ) → Option ρ
  | [], S, K => K S
  | i :: r, S, K => match ops[i]? with
    | none => none
    | some o => cond (alone ops i)
      (evOper E ops o S fun S' => cond (free ops r S') (evOpsD E ops r S' K) none)
      (evD E ops i o S fun S' => evOpsD E ops r S' K)
/-! ### the slots of a loop, told by their kinds -/
inductive SP where
  | one (t : T0)
  | arr (C : Cod) (n : Nat)
  | ro (C : Cod)
@[reducible] def SP.α : SP → Type
  | .one t => t.α
  | .arr C _ => List C.α
  | .ro C => (Option Addr × Nat) × List C.α
def SP.inj : (p : SP) → p.α → Seg
  | .one t, x => .one (t.val x)
  | .arr C n, l => .arr C n l
  | .ro C, x => .ro x.1.1 x.1.2 C x.2
def SP.proj : (p : SP) → Seg → Option p.α
  | .one t, .one v => t.dec v
  | .arr C n, .arr C' n' l => if h : C' = C then (if n' = n then some (h ▸ l) else none) else none
  | .ro C, .ro a cap C' l => if h : C' = C then some ((a, cap), h ▸ l) else none
  | _, _ => none
@[reducible] def spα : List SP → Type
  | [] => Unit
  | p :: r => p.α × spα r
def spInj : (ps : List SP) → spα ps → List Seg
  | [], _ => []
  | p :: r, x => p.inj x.1 :: spInj r x.2
def spProj : (ps : List SP) → List Seg → Option (spα ps)
  | [], [] => some ()
  | p :: r, s :: ss => (p.proj s).bind fun x => (spProj r ss).bind fun y => some (x, y)
  | _, _ => none
inductive IP where
  | junk
  | sc (t : T0)
  | own (C : Cod)
  | ros (C : Cod)
  | arr (C : Cod) (n : Nat)
  | strc (ss : List SP)
  | obj (ss : List SP)
  | iter
  | al (k : Nat)
@[reducible] def IP.α : IP → Type
  | .junk | .al _ => Unit
  | .sc t => t.α
  | .own C | .ros C | .arr C _ => List C.α
  | .strc ss | .obj ss => spα ss
  | .iter => ByteArray × Nat
def IP.inj : (p : IP) → p.α → PV
  | .junk, _ => .junk
  | .al k, _ => .alias k
  | .sc t, x => .raw (t.val x)
  | .own C, l => .own C l
  | .ros C, l => .ros C l
  | .arr C n, l => .arr C n l
  | .strc ss, x => .strc (spInj ss x)
  | .obj ss, x => .obj (spInj ss x)
  | .iter, x => .iter x.1 x.2
def IP.proj : (p : IP) → PV → Option p.α
  | .junk, _ => some ()
  | .al k, .alias k' => if k' = k then some () else none
  | .sc t, .raw v => t.dec v
  | .own C, .own C' l => if h : C' = C then some (h ▸ l) else none
  | .ros C, .ros C' l => if h : C' = C then some (h ▸ l) else none
  | .arr C n, .arr C' n' l => if h : C' = C then (if n' = n then some (h ▸ l) else none) else none
  | .strc ss, .strc s => spProj ss s
  | .obj ss, .obj s => spProj ss s
  | .iter, .iter s pos => some (s, pos)
  | _, _ => none
/-- a slot with the slots behind it; those that tell nothing are left out -/
@[reducible] def IP.cons : IP → Type → Type
  | .junk, T | .al _, T => T
  | .sc t, T => t.α × T
  | .own C, T | .ros C, T | .arr C _, T => List C.α × T
  | .strc ss, T | .obj ss, T => spα ss × T
  | .iter, T => (ByteArray × Nat) × T
def IP.pair {T : Type} : (p : IP) → p.α → T → p.cons T
  | .junk, _, y | .al _, _, y => y
  | .sc _, x, y => (x, y)
  | .own _, x, y | .ros _, x, y | .arr _ _, x, y => (x, y)
  | .strc _, x, y | .obj _, x, y => (x, y)
  | .iter, x, y => (x, y)
def IP.fst {T : Type} : (p : IP) → p.cons T → p.α
  | .junk, _ | .al _, _ => ()
  | .sc _, x => x.1
  | .own _, x | .ros _, x | .arr _ _, x => x.1
  | .strc _, x | .obj _, x => x.1
  | .iter, x => x.1
def IP.snd {T : Type} : (p : IP) → p.cons T → T
  | .junk, x | .al _, x => x
  | .sc _, x => x.2
  | .own _, x | .ros _, x | .arr _ _, x => x.2
  | .strc _, x | .obj _, x => x.2
  | .iter, x => x.2
theorem IP.fst_pair {T : Type} (p : IP) (x : p.α) (y : T) : p.fst (p.pair x y) = x := by cases p <;> rfl
theorem IP.snd_pair {T : Type} (p : IP) (x : p.α) (y : T) : p.snd (p.pair x y) = y := by cases p <;> rfl
@[reducible] def ipα : List IP → Type
  | [] => Unit
  | p :: r => p.cons (ipα r)
def ipInj : (ps : List IP) → ipα ps → St
  | [], _ => []
  | p :: r, x => p.inj (p.fst x) :: ipInj r (p.snd x)
def ipProjL : (ps : List IP) → St → Option (ipα ps)
  | [], [] => some ()
  | p :: r, s :: ss => (p.proj s).bind fun x => (ipProjL r ss).bind fun y => some (p.pair x y)
  | _, _ => none
def IP.isObj : IP → Bool
  | .obj _ => true
  | _ => false
/-- a variable in the first slot stays told -/
def ipProj (ps : List IP) (S : St) : Option (ipα ps) := cond (isObj (get S 0) && !(ps.getD 0 .junk).isObj) none (ipProjL ps S)
/-- enough rounds for anything that goes through what it has -/
def T0.fuel : (t : T0) → t.α → Nat
  | .int _, n => Int.toNat n
  | .bool, _ => 0
  | .str, s => s.size
def SP.fuel : (p : SP) → p.α → Nat
  | .one t, x => t.fuel x
  | .arr _ _, l => l.length
  | .ro _, x => x.2.length
def spFuel : (ps : List SP) → spα ps → Nat
  | [], _ => 0
  | p :: r, x => p.fuel x.1 + spFuel r x.2
def IP.fuel : (p : IP) → p.α → Nat
  | .junk, _ | .al _, _ => 0
  | .sc t, x => t.fuel x
  | .own _, l | .ros _, l | .arr _ _, l => l.length
  | .strc ss, x | .obj ss, x => spFuel ss x
  | .iter, x => x.1.size
def ipFuel : (ps : List IP) → ipα ps → Nat
  | [], _ => 0
  | p :: r, x => p.fuel (p.fst x) + ipFuel r (p.snd x)
def IP.owns : IP → Bool
  | .own _ | .obj _ | .iter => true
  | _ => false
/-- what is pointed to is there -/
def ipOk (ps : List IP) : Bool := ps.all fun
  | .al k => (ps.getD k .junk).owns
  | _ => true
inductive Ex where
  | normal
  | exit (id : Nat)
  | ret
def ev (E : Env ρ) : Code → St → (Ex → St → Option ρ) → Option ρ
  | .skip, S, k => k .normal S
  | .region _ ops false, S, k => evOps E ops (List.range ops.size) S (k .normal)
  | .region _ ops true, S, k => cond (drawOk ops && free ops (List.range ops.size) S) (evOpsD E ops (List.range ops.size) S (k .normal)) none
  | .seq a b, S, k => ev E a S fun e S' => match e with
    | .normal => ev E b S' k
    | e => k e S'
  | .cond c a b, S, k => match opd S c with
    | .raw (.bool β) => cond β (ev E a S k) (ev E b S k)
    | _ => none
  | .block id c, S, k => match E.Λ id with
    | some lc => (lc.projI S).bind fun x => lc.L x fun y => k .normal (lc.injX y)
    | none => ev E c S fun e S' => match e with
      | .exit j => if j = id then k .normal S' else k e S'
      | e => k e S'
  | .exit id, S, k => k (.exit id) S
  | .ret, S, k => k .ret S
  | _, _, _ => none
def loopN {σ : Type} : Nat → (σ → (σ → Option ρ) → Option ρ) → σ → Option ρ
  | 0, _, _ => none
  | n + 1, step, x => step x (loopN n step)
end
/-! ### words for the shallow twins -/
def iadd (k : IntKind) (a b : Int) : Int := k.wrap (a + b)
def isub (k : IntKind) (a b : Int) : Int := k.wrap (a - b)
def imul (k : IntKind) (a b : Int) : Int := k.wrap (a * b)
def iand (k : IntKind) (a b : Int) : Int := k.wrap (BitVec.ofInt k.bits a &&& BitVec.ofInt k.bits b).toNat
def ior (k : IntKind) (a b : Int) : Int := k.wrap (BitVec.ofInt k.bits a ||| BitVec.ofInt k.bits b).toNat
def ixor (k : IntKind) (a b : Int) : Int := k.wrap (BitVec.ofInt k.bits a ^^^ BitVec.ofInt k.bits b).toNat
def iandn (k : IntKind) (a b : Int) : Int := k.wrap (BitVec.ofInt k.bits a &&& ~~~ BitVec.ofInt k.bits b).toNat
def inot (k : IntKind) (a : Int) : Int := ixor k (if k.signed then -1 else k.max) a
def ishl (k : IntKind) (a b : Int) : Int := k.wrap (a * 2 ^ (min b.toNat k.bits))
def ishr (k : IntKind) (a b : Int) : Int := a.fdiv (2 ^ (min b.toNat k.bits))
def iquo (k : IntKind) (a b : Int) : Int := k.wrap (a.tdiv b)
def irem (_ : IntKind) (a b : Int) : Int := a.tmod b
def ieq (a b : Int) : Bool := a == b
def ine (a b : Int) : Bool := a != b
def ilt (a b : Int) : Bool := decide (a < b)
def ile (a b : Int) : Bool := decide (a ≤ b)
def igt (a b : Int) : Bool := decide (a > b)
def ige (a b : Int) : Bool := decide (a ≥ b)
def seq (a b : ByteArray) : Bool := a.toList == b.toList
def sne (a b : ByteArray) : Bool := !(a.toList == b.toList)
def slt (a b : ByteArray) : Bool := Op.bytesLess a.toList b.toList
def sle (a b : ByteArray) : Bool := Op.bytesLess a.toList b.toList || a.toList == b.toList
def sgt (a b : ByteArray) : Bool := !(Op.bytesLess a.toList b.toList || a.toList == b.toList)
def sge (a b : ByteArray) : Bool := !(Op.bytesLess a.toList b.toList)
def fits (bytes n : Nat) : Bool := decide (n * bytes < 140737488355328)
end Go.Px

/- What a slot's contents mean in memory, and how that is kept. -/
namespace Go.Px
open Go Go.RowKit

def blkSize (w : World) (b : Nat) : Nat := match w.heap[b]? with
  | some (.cells c _ _) => c.size
  | _ => 0
def Harm (fr : Nat × Nat) (n : Nat) : Prop := fr.1 ≤ fr.2 ∧ ∀ j, j < n → ¬ (fr.1 ≤ j ∧ j < fr.2)
theorem harm_zero (n : Nat) : Harm (0, 0) n := ⟨Nat.le_refl _, fun j _ h => Nat.not_lt_zero _ h.2⟩
/-- the cells that stand from o on -/
def Has (cur : Array Value) (o : Nat) (xs : List Value) : Prop := ∀ (j : Nat) (x : Value), xs[j]? = some x → cur[o + j]? = some x
def OwnRep (w : World) (Mi : Nat → Prop) (C : Cod) (l : List C.α) (ℓ : Option (Nat × Nat)) (v : Value) : Prop :=
  (ℓ = none ∧ v = .slice none 0 0 ∧ l = []) ∨
  ∃ b o cap cur e fr, ℓ = some (b, o) ∧ v = .slice (some ⟨b, o, none⟩) l.length cap ∧ Mi b ∧ w.heap[b]? = some (.cells cur e fr) ∧ Harm fr cur.size ∧ l.length ≤ cap ∧
    o + cap * C.sz ≤ cur.size ∧ Has cur o (flat C l)
/-- a slice of n elements that is told as far as its room goes -/
def SprRep (w : World) (Mi : Nat → Prop) (C : Cod) (l : List C.α) (n : Nat) (ℓ : Option (Nat × Nat)) (v : Value) : Prop :=
  n ≤ l.length ∧ ∃ b o cur e fr, ℓ = some (b, o) ∧ v = .slice (some ⟨b, o, none⟩) n l.length ∧ Mi b ∧ w.heap[b]? = some (.cells cur e fr) ∧ Harm fr cur.size ∧ o + l.length * C.sz ≤ cur.size ∧ Has cur o (flat C l)
/-- contents that nobody writes, in blocks of those before -/
def RoRep (w : World) (Lo : Nat → Prop) (C : Cod) (l : List C.α) (v : Value) : Prop :=
  ∃ a cap, v = .slice a l.length cap ∧ l.length ≤ cap ∧ (l = [] ∨ ∃ b o cur e fr, a = some ⟨b, o, none⟩ ∧ Lo b ∧ w.heap[b]? = some (.cells cur e fr) ∧ Has cur o (flat C l))
def segOk (w : World) (Lo : Nat → Prop) : Seg → Prop
  | .one v => v.cells = #[v]
  | .arr _ n l => l.length = n
  | .ro a cap C l => RoRep w Lo C l (.slice a l.length cap)
def segsOk (w : World) (Lo : Nat → Prop) (ss : List Seg) : Prop := ∀ s ∈ ss, segOk w Lo s
/-- no slice among them -/
def segsPl (ss : List Seg) : Prop := ∀ w Lo, segsOk w Lo ss
theorem segsPl_of {w : World} {Lo : Nat → Prop} {ss : List Seg} (h : segsOk w Lo ss) (hn : noRo ss = true) : segsPl ss := fun w' Lo' s hs => by
  have h1 := h s hs
  have h2 := List.all_eq_true.1 hn s hs
  cases s with
  | ro a cap C l => cases h2
  | _ => exact h1
def D1Rep (w : World) (Mi : Nat → Prop) (d : D1) (ℓ : Option (Nat × Nat)) (v : Value) : Prop :=
  match d with
  | .junk => True
  | .raw x => v = x
  | .arr C n l => l.length = n ∧ v = .agg (flat C l).toArray
  | .strc ss => segsPl ss ∧ v = .agg (segCells ss).toArray
  | .own C l => OwnRep w Mi C l ℓ v

/-- B: the blocks from B on are ours; M: those that were handed over to be written -/
structure Cx where
  P : Program
  B : Nat
  G : Nat → Option (List Seg)
  M : Nat → Prop
def noM : Nat → Prop := fun _ => False
def Cx.Low (X : Cx) (b : Nat) : Prop := b < X.B ∧ ¬ X.M b
def Cx.Mine (X : Cx) (b : Nat) : Prop := X.B ≤ b ∨ X.M b
theorem Cx.low_mine {X : Cx} {b c : Nat} (h : X.Low b) (k : X.Mine c) : b ≠ c := fun e => by
  subst e
  rcases k with k | k
  · exact Nat.lt_irrefl _ (Nat.lt_of_lt_of_le h.1 k)
  · exact h.2 k
structure Kept (X : Cx) (w w' : World) : Prop where
  os : w'.os = w.os
  tape : w'.tape = w.tape
  output : w'.output = w.output
  size : w.heap.size ≤ w'.heap.size
  block : ∀ k, X.Low k → w'.heap[k]? = w.heap[k]?
theorem Kept.refl (X : Cx) (w : World) : Kept X w w := ⟨rfl, rfl, rfl, Nat.le_refl _, fun _ _ => rfl⟩
theorem Kept.trans {X : Cx} {a b c : World} (h : Kept X a b) (k : Kept X b c) : Kept X a c :=
  ⟨k.os.trans h.os, k.tape.trans h.tape, k.output.trans h.output, Nat.le_trans h.size k.size, fun i hi => (k.block i hi).trans (h.block i hi)⟩
theorem Kept.of {X : Cx} {w w' : World} {B : Nat} (h : Below B w w') (hB : X.B ≤ B) : Kept X w w' := ⟨h.os, h.tape, h.output, h.size, fun k hk => h.block k (Nat.lt_of_lt_of_le hk.1 hB)⟩
theorem Kept.below {P : Program} {B : Nat} {G : Nat → Option (List Seg)} {w w' : World} (h : Kept ⟨P, B, G, noM⟩ w w') : Below B w w' := ⟨h.os, h.tape, h.output, h.size, fun k hk => h.block k ⟨hk, id⟩⟩

section
variable (X : Cx)
def Rep (w : World) (S : St) (tmps : Array Value) (loc : Nat → Nat → Option (Nat × Nat)) (ℓ : Nat → Option (Nat × Nat)) (p : PV) (v : Value) : Prop :=
  match p with
  | .junk => True
  | .raw x => v = x
  | .arr C n l => l.length = n ∧ v = .agg (flat C l).toArray
  | .strc ss => segsOk w X.Low ss ∧ v = .agg (segCells ss).toArray
  | .ros C l => RoRep w X.Low C l v
  | .own C l => OwnRep w X.Mine C l (ℓ 0) v
  | .spr C l n => SprRep w X.Mine C l n (ℓ 0) v
  | .tup ds => ∃ vs : Array Value, v = .tuple vs ∧ vs.size = ds.length ∧ ∀ (j : Nat) d, ds[j]? = some d → ∃ u, vs[j]? = some u ∧ D1Rep w X.Mine d (ℓ j) u
  | .obj ss => ∃ b cur e fr, ℓ 0 = some (b, 0) ∧ v = .pointer (some ⟨b, 0, none⟩) ∧ X.Mine b ∧ w.heap[b]? = some (.cells cur e fr) ∧ Harm fr cur.size ∧ segsOk w X.Low ss ∧ cur = (segCells ss).toArray
  | .iter s pos => ∃ b, ℓ 0 = some (b, 0) ∧ v = .pointer (some ⟨b, 0, none⟩) ∧ X.Mine b ∧ w.heap[b]? = some (.stringIter s pos)
  | .alias k => tmps[k]? = some v
  | .view k g off len => ∃ base sz cnt, shp (get S k) g = some (base, sz, cnt) ∧ off + len ≤ cnt ∧
      ((loc k 0 = none ∧ v = .slice none 0 0 ∧ len = 0) ∨
       ∃ b o o' cap, loc k 0 = some (b, o) ∧ v = .slice (some ⟨b, o', none⟩) len cap ∧ len ≤ cap ∧ (len = 0 ∨ o' = o + base + off * sz) ∧ o' + cap * sz ≤ blkSize w b ∧
         (isObj (get S k) = true → cap + off = cnt))
  | .ptr k g idx f => ∃ base sz cnt b o, shp (get S k) g = some (base, sz, cnt) ∧ loc k 0 = some (b, o) ∧ idx < cnt ∧ f < sz ∧ v = .pointer (some ⟨b, o + base + idx * sz + f, none⟩)
  | .gl g => v = .pointer (some ⟨g, 0, none⟩)
  | .gptr g s idx f => ∃ ss base sz cnt, X.G g = some ss ∧ shp (.obj ss) s = some (base, sz, cnt) ∧ idx < cnt ∧ f < sz ∧ v = .pointer (some ⟨g, base + idx * sz + f, none⟩)
  | .fptr C l idx f => ∃ b o cur e fr, idx < l.length ∧ f < C.sz ∧ v = .pointer (some ⟨b, o + idx * C.sz + f, none⟩) ∧ X.Low b ∧ w.heap[b]? = some (.cells cur e fr) ∧ Has cur o (flat C l)

/-- the globals read as they are laid -/
def GOk (w : World) : Prop := ∀ g ss, X.G g = some ss → X.Low g ∧ segsOk w X.Low ss ∧ ∃ cur e fr, w.heap[g]? = some (.cells cur e fr) ∧ Has cur 0 (segCells ss)

structure Sim (w0 : World) (S : St) (a : Act) (w : World) (loc : Nat → Nat → Option (Nat × Nat)) : Prop where
  len : a.tmps.size = S.length
  defers : a.defers = []
  hB : X.B ≤ w.heap.size
  below : Kept X w0 w
  glob : GOk X w
  rep : ∀ (i : Nat) p, S[i]? = some p → ∃ v, a.tmps[i]? = some v ∧ Rep X w S a.tmps loc (loc i) p v
  ref : ∀ (i : Nat) p k, S[i]? = some p → p.ref = some k → (get S k).owns = true
  sep : ∀ i j i' j' b o o', loc i j = some (b, o) → loc i' j' = some (b, o') → i = i' ∧ j = j'
  dom : ∀ i, (get S i).owns = false → ∀ j, loc i j = none
  lt : ∀ i j b o, loc i j = some (b, o) → b < w.heap.size ∧ X.Mine b
  pin : ∀ b, X.M = (· = b) → isObj (get S 0) = true ∧ loc 0 0 = some (b, 0)

variable {X}
theorem get_eq {S : St} {i : Nat} {p : PV} (h : S[i]? = some p) : get S i = p := by simp [get, List.getD, h]
theorem get_none {S : St} {i : Nat} (h : S[i]? = none) : get S i = .junk := by simp [get, List.getD, h]
theorem get_some {S : St} {i : Nat} (h : (get S i).owns = true) : S[i]? = some (get S i) := by
  cases hs : S[i]? with
  | none => rw [get_none hs] at h; simp [PV.owns] at h
  | some p => rw [get_eq hs]
theorem get_of_ne {S : St} {i : Nat} (h : get S i ≠ .junk) : S[i]? = some (get S i) := by
  cases hs : S[i]? with
  | none => rw [get_none hs] at h; exact absurd rfl h
  | some p => rw [get_eq hs]

theorem OwnRep.frame {w w' : World} {B : Nat → Prop} {C : Cod} {l : List C.α} {ℓ : Option (Nat × Nat)} {v : Value} (h : OwnRep w B C l ℓ v)
    (hh : ∀ b o, ℓ = some (b, o) → w'.heap[b]? = w.heap[b]?) : OwnRep w' B C l ℓ v := by
  rcases h with h | ⟨b, o, cap, cur, e, fr, h1, h2, h3, h4, h5⟩
  · exact .inl h
  · exact .inr ⟨b, o, cap, cur, e, fr, h1, h2, h3, by rw [hh b o h1]; exact h4, h5⟩
theorem RoRep.frame {w w' : World} {B : Nat → Prop} {C : Cod} {l : List C.α} {v : Value} (h : RoRep w B C l v) (hh : ∀ b, B b → w'.heap[b]? = w.heap[b]?) : RoRep w' B C l v := by
  obtain ⟨a, cap, h1, h2, h3⟩ := h
  refine ⟨a, cap, h1, h2, h3.imp id ?_⟩
  rintro ⟨b, o, cur, e, fr, g1, g2, g3, g4⟩
  exact ⟨b, o, cur, e, fr, g1, g2, by rw [hh b g2]; exact g3, g4⟩
theorem segOk.frame {w w' : World} {B : Nat → Prop} {s : Seg} (h : segOk w B s) (hh : ∀ b, B b → w'.heap[b]? = w.heap[b]?) : segOk w' B s := by
  cases s with
  | ro a cap C l => exact RoRep.frame h hh
  | _ => exact h
theorem segsOk.frame {w w' : World} {B : Nat → Prop} {ss : List Seg} (h : segsOk w B ss) (hh : ∀ b, B b → w'.heap[b]? = w.heap[b]?) : segsOk w' B ss := fun s hs => (h s hs).frame hh
theorem RoRep.mono {w : World} {B B' : Nat → Prop} {C : Cod} {l : List C.α} {v : Value} (h : RoRep w B C l v) (hh : ∀ b, B b → B' b) : RoRep w B' C l v := by
  obtain ⟨a, cap, h1, h2, h3⟩ := h
  refine ⟨a, cap, h1, h2, h3.imp id ?_⟩
  rintro ⟨b, o, cur, e, fr, g1, g2, g3, g4⟩
  exact ⟨b, o, cur, e, fr, g1, hh b g2, g3, g4⟩
theorem segsOk.mono {w : World} {B B' : Nat → Prop} {ss : List Seg} (h : segsOk w B ss) (hh : ∀ b, B b → B' b) : segsOk w B' ss := fun s hs => by
  have h := h s hs
  cases s with
  | ro a cap C l => exact RoRep.mono h hh
  | _ => exact h
theorem Cx.low_of {X : Cx} {b : Nat} (h : ¬ X.Mine b) : X.Low b := ⟨Nat.lt_of_not_le fun k => h (.inl k), fun k => h (.inr k)⟩
theorem Cx.of_low {X : Cx} {b : Nat} (h : X.Low b) : ¬ X.Mine b := fun k => Cx.low_mine h k rfl
theorem D1Rep.frame {w w' : World} {B : Nat → Prop} {d : D1} {ℓ : Option (Nat × Nat)} {v : Value} (h : D1Rep w B d ℓ v)
    (hh : ∀ b o, ℓ = some (b, o) → w'.heap[b]? = w.heap[b]?) : D1Rep w' B d ℓ v := by
  cases d with
  | own C l => exact OwnRep.frame h hh
  | _ => exact h

/-- the meaning of a slot hangs on its own blocks, those below B, the places that it names, and the sizes of blocks -/
theorem Rep.frame' {w w' : World} {S S' : St} {tmps tmps' : Array Value} {loc loc' : Nat → Nat → Option (Nat × Nat)} {ℓ : Nat → Option (Nat × Nat)} {p : PV} {v : Value}
    (h : Rep X w S tmps loc ℓ p v)
    (hown : ∀ j b o, ℓ j = some (b, o) → w'.heap[b]? = w.heap[b]?)
    (hlow : ∀ b, X.Low b → w'.heap[b]? = w.heap[b]?)
    (hsz : ∀ k b o, p.ref = some k → loc k 0 = some (b, o) → blkSize w b ≤ blkSize w' b)
    (hk : ∀ k, p.ref = some k → (∀ g, shp (get S' k) g = shp (get S k) g) ∧ isObj (get S' k) = isObj (get S k) ∧ tmps'[k]? = tmps[k]? ∧ loc' k 0 = loc k 0) :
    Rep X w' S' tmps' loc' ℓ p v := by
  cases p with
  | junk => trivial
  | raw x => exact h
  | arr C n l => exact h
  | strc ss => exact ⟨h.1.frame hlow, h.2⟩
  | ros C l => exact RoRep.frame h hlow
  | own C l => exact OwnRep.frame h (hown 0)
  | spr C l n =>
    obtain ⟨h0, b, o, cur, e, fr, h1, h2, h3, h4, h5⟩ := h
    exact ⟨h0, b, o, cur, e, fr, h1, h2, h3, by rw [hown 0 b o h1]; exact h4, h5⟩
  | tup ds =>
    obtain ⟨vs, h1, h2, h3⟩ := h
    refine ⟨vs, h1, h2, fun j d hj => ?_⟩
    obtain ⟨u, hu, hr⟩ := h3 j d hj
    exact ⟨u, hu, hr.frame (hown j)⟩
  | obj ss =>
    obtain ⟨b, cur, e, fr, h1, h2, h3, h4, h5, h6, h7⟩ := h
    exact ⟨b, cur, e, fr, h1, h2, h3, by rw [hown 0 b 0 h1]; exact h4, h5, h6.frame hlow, h7⟩
  | iter s pos =>
    obtain ⟨b, h1, h2, h3, h4⟩ := h
    exact ⟨b, h1, h2, h3, by rw [hown 0 b 0 h1]; exact h4⟩
  | alias k =>
    obtain ⟨_, _, h3, _⟩ := hk k rfl
    show tmps'[k]? = some v
    rw [h3]; exact h
  | view k g off len =>
    obtain ⟨hs, ho, _, hl⟩ := hk k rfl
    obtain ⟨base, sz, cnt, h1, h2, h3⟩ := h
    refine ⟨base, sz, cnt, by rw [hs]; exact h1, h2, ?_⟩
    rw [hl, ho]
    refine h3.imp id ?_
    rintro ⟨b, o, o', cap, g1, g2, g3, g5, g6, g7⟩
    exact ⟨b, o, o', cap, g1, g2, g3, g5, Nat.le_trans g6 (hsz k b o rfl g1), g7⟩
  | ptr k g idx f =>
    obtain ⟨hs, _, _, hl⟩ := hk k rfl
    obtain ⟨base, sz, cnt, b, o, h1, h2, h3⟩ := h
    exact ⟨base, sz, cnt, b, o, by rw [hs]; exact h1, by rw [hl]; exact h2, h3⟩
  | gl g => exact h
  | gptr g s idx f => exact h
  | fptr C l idx f =>
    obtain ⟨b, o, cur, e, fr, h1, h2, h3, h4, h5, h6⟩ := h
    exact ⟨b, o, cur, e, fr, h1, h2, h3, h4, by rw [hlow b h4]; exact h5, h6⟩

theorem Rep.frame {w w' : World} {S S' : St} {tmps tmps' : Array Value} {loc loc' : Nat → Nat → Option (Nat × Nat)} {ℓ : Nat → Option (Nat × Nat)} {p : PV} {v : Value}
    (h : Rep X w S tmps loc ℓ p v)
    (hown : ∀ j b o, ℓ j = some (b, o) → w'.heap[b]? = w.heap[b]?)
    (hlow : ∀ b, X.Low b → w'.heap[b]? = w.heap[b]?)
    (hsz : ∀ b, blkSize w b ≤ blkSize w' b)
    (hk : ∀ k, p.ref = some k → (∀ g, shp (get S' k) g = shp (get S k) g) ∧ isObj (get S' k) = isObj (get S k) ∧ tmps'[k]? = tmps[k]? ∧ loc' k 0 = loc k 0) :
    Rep X w' S' tmps' loc' ℓ p v :=
  h.frame' hown hlow (fun _ b _ _ _ => hsz b) hk

theorem GOk.frame {w w' : World} (h : GOk X w) (hlow : ∀ b, X.Low b → w'.heap[b]? = w.heap[b]?) : GOk X w' := fun g ss hg => by
  obtain ⟨h1, h2, cur, e, fr, h3, h4⟩ := h g ss hg
  exact ⟨h1, h2.frame hlow, cur, e, fr, by rw [hlow g h1]; exact h3, h4⟩

theorem blkSize_of_eq {w w' : World} {b : Nat} (h : w'.heap[b]? = w.heap[b]?) : blkSize w' b = blkSize w b := by simp [blkSize, h]
theorem blkSize_below {w w' : World} (h : Below w.heap.size w w') (b : Nat) : blkSize w b ≤ blkSize w' b := by
  by_cases hb : b < w.heap.size
  · exact Nat.le_of_eq (blkSize_of_eq (h.block b hb)).symm
  · simp [blkSize, Array.getElem?_eq_none (Nat.le_of_not_lt hb)]

variable {w0 : World} {S : St} {a : Act} {w : World} {loc : Nat → Nat → Option (Nat × Nat)}
/-- new blocks, nothing that stood turned -/
theorem Sim.ext (h : Sim X w0 S a w loc) {w' : World} (hb : Below w.heap.size w w') : Sim X w0 S a w' loc := by
  have hlow : ∀ b, X.Low b → w'.heap[b]? = w.heap[b]? := fun b hb' => hb.block b (Nat.lt_of_lt_of_le hb'.1 h.hB)
  refine { h with hB := Nat.le_trans h.hB hb.size, below := h.below.trans (Kept.of hb h.hB), glob := h.glob.frame hlow, rep := fun i p hp => ?_, lt := fun i j b o hl => ?_ }
  · obtain ⟨v, hv, hr⟩ := h.rep i p hp
    exact ⟨v, hv, hr.frame (fun j b o hl => hb.block b (h.lt i j b o hl).1) hlow (blkSize_below hb) (fun k _ => ⟨fun _ => rfl, rfl, rfl, rfl⟩)⟩
  · exact ⟨Nat.lt_of_lt_of_le (h.lt i j b o hl).1 hb.size, (h.lt i j b o hl).2⟩

def locPut (loc : Nat → Nat → Option (Nat × Nat)) (d : Nat) (ℓ : Nat → Option (Nat × Nat)) : Nat → Nat → Option (Nat × Nat) := fun i => if i = d then ℓ else loc i
theorem locPut_same (d : Nat) (ℓ : Nat → Option (Nat × Nat)) : locPut loc d ℓ d = ℓ := by simp [locPut]
theorem locPut_ne {d i : Nat} (h : i ≠ d) (ℓ : Nat → Option (Nat × Nat)) : locPut loc d ℓ i = loc i := by simp [locPut, h]

theorem get_set_ne {S : St} {d i : Nat} {p : PV} (h : i ≠ d) : get (S.set d p) i = get S i := by
  simp [get, List.getD, List.getElem?_set_ne (Ne.symm h)]
theorem get_set_same {S : St} {d : Nat} {p : PV} (h : d < S.length) : get (S.set d p) d = p := by
  simp [get, List.getD, h]
theorem get_map {f : PV → PV} (hf : f .junk = .junk) (S : St) (i : Nat) : get (S.map f) i = f (get S i) := by
  simp only [get, List.getD, List.getElem?_map]
  cases S[i]? <;> simp [hf]
theorem kill1_owns {d : Nat} {p : PV} (h : p.owns = true) : kill1 d p = p := by
  cases p <;> simp_all [kill1, PV.ref, PV.owns]
theorem kill1_ref {d : Nat} {p : PV} {k : Nat} (h : (kill1 d p).ref = some k) : p.ref = some k ∧ k ≠ d := by
  unfold kill1 at h
  split at h
  · simp [PV.ref] at h
  · rename_i hn
    exact ⟨h, fun e => hn (e ▸ h)⟩

/-- behind a kill nothing points to d, and d owns nothing -/
structure Free (S : St) (d : Nat) : Prop where
  own : (get S d).owns = false
  ref : ∀ (i : Nat) p, S[i]? = some p → p.ref ≠ some d

theorem Sim.free (h : Sim X w0 S a w loc) {d : Nat} (ho : (get S d).owns = false) : Free S d :=
  ⟨ho, fun i p hp hr => by have := h.ref i p d hp hr; rw [ho] at this; cases this⟩

theorem pinned_ne {S : St} {d : Nat} (h : pinned S d = false) (ho : isObj (get S 0) = true) : d ≠ 0 := fun e => by subst e; simp [pinned, ho] at h
theorem isObj_owns {p : PV} (h : isObj p = true) : p.owns = true := by cases p <;> simp_all [isObj, PV.owns]
theorem pinned_of_owns {S : St} {d : Nat} (h : (get S d).owns = false) : pinned S d = false := by
  cases d with
  | zero => cases hp : get S 0 <;> rw [hp] at h <;> simp_all [pinned, isObj, PV.owns]
  | succ d => rfl
theorem pinned_of_obj {S : St} {d : Nat} (h : isObj (get S d) = false) : pinned S d = false := by
  cases d with
  | zero => simp [pinned, h]
  | succ d => rfl
theorem Sim.kill (h : Sim X w0 S a w loc) (d : Nat) (hn : pinned S d = false) : ∃ loc', Sim X w0 (kill S d) a w loc' ∧ Free (kill S d) d ∧ (∀ i, i ≠ d → loc' i = loc i) ∧ (∀ j, loc' d j = none) := by
  unfold Px.kill
  split
  · rename_i ho
    have hd : d < S.length := by
      have := get_some ho
      exact (List.getElem?_eq_some_iff.1 this).1
    have hget : ∀ i, i ≠ d → get ((S.map (kill1 d)).set d .junk) i = kill1 d (get S i) := fun i hi => by
      rw [get_set_ne hi, get_map rfl]
    have hgd : get ((S.map (kill1 d)).set d .junk) d = .junk := get_set_same (by simpa using hd)
    have hel : ∀ (i : Nat) p, ((S.map (kill1 d)).set d .junk)[i]? = some p → (i = d ∧ p = .junk) ∨ (i ≠ d ∧ ∃ q, S[i]? = some q ∧ p = kill1 d q) := fun i p hp => by
      by_cases hi : i = d
      · subst hi; left; simp [hd] at hp; exact ⟨rfl, hp.symm⟩
      · right
        rw [List.getElem?_set_ne (Ne.symm hi), List.getElem?_map] at hp
        cases hs : S[i]? with
        | none => rw [hs] at hp; cases hp
        | some q => rw [hs] at hp; exact ⟨hi, q, rfl, by simpa using hp.symm⟩
    refine ⟨locPut loc d fun _ => none, { h with len := by simpa using h.len, rep := ?_, ref := ?_, sep := ?_, dom := ?_, lt := ?_, pin := fun b hb => ?_ }, ⟨by rw [hgd]; rfl, ?_⟩, fun i hi => locPut_ne hi _, fun j => by rw [locPut_same]⟩
    · intro i p hp
      rcases hel i p hp with ⟨rfl, rfl⟩ | ⟨hi, q, hq, rfl⟩
      · obtain ⟨v, hv, _⟩ := h.rep i _ (get_some ho)
        exact ⟨v, hv, trivial⟩
      · obtain ⟨v, hv, hr⟩ := h.rep i q hq
        refine ⟨v, hv, ?_⟩
        rw [locPut_ne hi]
        by_cases hr' : q.ref = some d
        · simp [kill1, hr']; trivial
        · simp only [kill1, hr', if_false]
          refine hr.frame (fun _ _ _ _ => rfl) (fun _ _ => rfl) (fun _ => Nat.le_refl _) (fun k hk => ?_)
          have hkd : k ≠ d := fun e => hr' (e ▸ hk)
          have hko := h.ref i q k hq hk
          rw [hget k hkd, kill1_owns hko, locPut_ne hkd]
          exact ⟨fun _ => rfl, rfl, rfl, rfl⟩
    · intro i p k hp hk
      rcases hel i p hp with ⟨rfl, rfl⟩ | ⟨hi, q, hq, rfl⟩
      · simp [PV.ref] at hk
      · obtain ⟨hk1, hk2⟩ := kill1_ref hk
        have hko := h.ref i q k hq hk1
        rw [hget k hk2, kill1_owns hko]; exact hko
    · intro i j i' j' b o o' h1 h2
      by_cases hi : i = d
      · subst hi; rw [locPut_same] at h1; cases h1
      · by_cases hi' : i' = d
        · subst hi'; rw [locPut_same] at h2; cases h2
        · rw [locPut_ne hi] at h1; rw [locPut_ne hi'] at h2; exact h.sep i j i' j' b o o' h1 h2
    · intro i ho' j
      by_cases hi : i = d
      · subst hi; rw [locPut_same]
      · rw [locPut_ne hi]
        rw [hget i hi] at ho'
        refine h.dom i ?_ j
        cases hoi : (get S i).owns with
        | false => rfl
        | true => rw [kill1_owns hoi, hoi] at ho'; cases ho'
    · intro i j b o hl
      by_cases hi : i = d
      · subst hi; rw [locPut_same] at hl; cases hl
      · rw [locPut_ne hi] at hl; exact h.lt i j b o hl
    · obtain ⟨p1, p2⟩ := h.pin b hb
      have hne := Ne.symm (pinned_ne hn p1)
      rw [hget 0 hne, kill1_owns (isObj_owns p1), locPut_ne hne]
      exact ⟨p1, p2⟩
    · intro i p hp hr
      rcases hel i p hp with ⟨rfl, rfl⟩ | ⟨hi, q, hq, rfl⟩
      · simp [PV.ref] at hr
      · exact (kill1_ref hr).2 rfl
  · rename_i ho
    have ho : (get S d).owns = false := by simpa using ho
    exact ⟨loc, h, h.free ho, fun _ _ => rfl, fun j => h.dom d ho j⟩

/-- a value goes into a free slot -/
theorem Sim.set (h : Sim X w0 S a w loc) {d : Nat} (hd : d < S.length) (hf : Free S d) (ℓ : Nat → Option (Nat × Nat)) (p : PV) (v : Value)
    (hrep : Rep X w S a.tmps loc ℓ p v) (href : ∀ k, p.ref = some k → (get S k).owns = true)
    (hℓ : p.owns = false → ∀ j, ℓ j = none) (hsep : ∀ j j' b o o', ℓ j = some (b, o) → ℓ j' = some (b, o') → j = j')
    (hnew : ∀ j b o, ℓ j = some (b, o) → b < w.heap.size ∧ X.Mine b ∧ ∀ i j' o', loc i j' ≠ some (b, o')) :
    Sim X w0 (S.set d p) { a with tmps := a.tmps.setIfInBounds d v } w (locPut loc d ℓ) := by
  have hgk : ∀ k, (get S k).owns = true → k ≠ d := fun k hk e => by rw [e, hf.own] at hk; cases hk
  have hel : ∀ (i : Nat) q, (S.set d p)[i]? = some q → (i = d ∧ q = p ∧ d < S.length) ∨ (i ≠ d ∧ S[i]? = some q) := fun i q hq => by
    by_cases hi : i = d
    · subst hi
      left
      have hlt : i < (S.set i p).length := (List.getElem?_eq_some_iff.1 hq).1
      simp at hlt
      simp [hlt] at hq
      exact ⟨rfl, hq.symm, hlt⟩
    · rw [List.getElem?_set_ne (Ne.symm hi)] at hq; exact .inr ⟨hi, hq⟩
  have hfr : ∀ (q : PV) (ℓ' : Nat → Option (Nat × Nat)) u, (∀ k, q.ref = some k → (get S k).owns = true) → Rep X w S a.tmps loc ℓ' q u →
      Rep X w (S.set d p) (a.tmps.setIfInBounds d v) (locPut loc d ℓ) ℓ' q u := fun q ℓ' u hq hr => by
    refine hr.frame (fun _ _ _ _ => rfl) (fun _ _ => rfl) (fun _ => Nat.le_refl _) (fun k hk => ?_)
    have hkd := hgk k (hq k hk)
    rw [get_set_ne hkd, locPut_ne hkd, Array.getElem?_setIfInBounds_ne (Ne.symm hkd)]
    exact ⟨fun _ => rfl, rfl, rfl, rfl⟩
  refine { h with len := by simpa using h.len, defers := h.defers, rep := ?_, ref := ?_, sep := ?_, dom := ?_, lt := ?_, pin := fun b hb => ?_ }
  · intro i q hq
    rcases hel i q hq with ⟨rfl, rfl, hlt⟩ | ⟨hi, hq⟩
    · refine ⟨v, by simp [h.len, hlt], ?_⟩
      rw [locPut_same]
      exact hfr q ℓ v href hrep
    · obtain ⟨u, hu, hr⟩ := h.rep i q hq
      refine ⟨u, by show (a.tmps.setIfInBounds d v)[i]? = some u; rw [Array.getElem?_setIfInBounds_ne (Ne.symm hi)]; exact hu, ?_⟩
      rw [locPut_ne hi]
      exact hfr q (loc i) u (fun k hk => h.ref i q k hq hk) hr
  · intro i q k hq hk
    have key : (get S k).owns = true := by
      rcases hel i q hq with ⟨rfl, rfl, _⟩ | ⟨_, hq⟩
      · exact href k hk
      · exact h.ref i q k hq hk
    rw [get_set_ne (hgk k key)]; exact key
  · intro i j i' j' b o o' h1 h2
    by_cases hi : i = d
    · subst hi
      rw [locPut_same] at h1
      by_cases hi' : i' = i
      · subst hi'; rw [locPut_same] at h2; exact ⟨rfl, hsep j j' b o o' h1 h2⟩
      · rw [locPut_ne hi'] at h2; exact absurd h2 ((hnew j b o h1).2.2 i' j' o')
    · rw [locPut_ne hi] at h1
      by_cases hi' : i' = d
      · subst hi'; rw [locPut_same] at h2; exact absurd h1 ((hnew j' b o' h2).2.2 i j o)
      · rw [locPut_ne hi'] at h2; exact h.sep i j i' j' b o o' h1 h2
  · intro i ho j
    by_cases hi : i = d
    · subst hi
      rw [locPut_same]
      rw [get_set_same hd] at ho; exact hℓ ho j
    · rw [locPut_ne hi]; rw [get_set_ne hi] at ho; exact h.dom i ho j
  · intro i j b o hl
    by_cases hi : i = d
    · subst hi; rw [locPut_same] at hl; exact ⟨(hnew j b o hl).1, (hnew j b o hl).2.1⟩
    · rw [locPut_ne hi] at hl; exact h.lt i j b o hl
  · obtain ⟨p1, p2⟩ := h.pin b hb
    have hne : (0 : Nat) ≠ d := fun e => by have := hf.own; rw [← e, isObj_owns p1] at this; cases this
    rw [get_set_ne hne, locPut_ne hne]
    exact ⟨p1, p2⟩

theorem kill_get {S : St} {d k : Nat} (hk : k ≠ d) (ho : (get S k).owns = true) : get (kill S d) k = get S k := by
  unfold Px.kill
  split
  · rw [get_set_ne hk, get_map rfl, kill1_owns ho]
  · rfl
theorem kill_length (S : St) (d : Nat) : (kill S d).length = S.length := by
  unfold Px.kill; split <;> simp
/-- a value goes into a slot, whatever stood there -/
theorem Sim.fin (h : Sim X w0 S a w loc) {d : Nat} (hd : d < S.length ∧ pinned S d = false) (ℓ : Nat → Option (Nat × Nat)) (p : PV) (v : Value)
    (hrep : Rep X w S a.tmps loc ℓ p v) (href : ∀ k, p.ref = some k → (get S k).owns = true ∧ k ≠ d)
    (hℓ : p.owns = false → ∀ j, ℓ j = none) (hsep : ∀ j j' b o o', ℓ j = some (b, o) → ℓ j' = some (b, o') → j = j')
    (hnew : ∀ j b o, ℓ j = some (b, o) → b < w.heap.size ∧ X.Mine b ∧ ∀ i j' o', loc i j' ≠ some (b, o')) :
    ∃ loc', Sim X w0 (put S (some d) p) (a.put (some d) v) w loc' := by
  obtain ⟨loc1, h1, hf, hl, hl0⟩ := h.kill d hd.2
  refine ⟨_, h1.set (by rw [kill_length]; exact hd.1) hf ℓ p v ?_ ?_ hℓ hsep ?_⟩
  · refine hrep.frame (fun _ _ _ _ => rfl) (fun _ _ => rfl) (fun _ => Nat.le_refl _) (fun k hk => ?_)
    obtain ⟨h1, h2⟩ := href k hk
    rw [kill_get h2 h1, hl k h2]
    exact ⟨fun _ => rfl, rfl, rfl, rfl⟩
  · intro k hk
    obtain ⟨h1, h2⟩ := href k hk
    rw [kill_get h2 h1]; exact h1
  · intro j b o hj
    obtain ⟨g1, g2, g3⟩ := hnew j b o hj
    refine ⟨g1, g2, fun i j' o' hi => ?_⟩
    by_cases hid : i = d
    · subst hid; rw [hl0] at hi; cases hi
    · rw [hl i hid] at hi; exact g3 i j' o' hi
/-- one that owns nothing -/
theorem Sim.fin0 (h : Sim X w0 S a w loc) {d : Nat} (hd : d < S.length ∧ pinned S d = false) (p : PV) (v : Value) (ho : p.owns = false)
    (hrep : Rep X w S a.tmps loc (fun _ => none) p v) (href : ∀ k, p.ref = some k → (get S k).owns = true ∧ k ≠ d) :
    ∃ loc', Sim X w0 (put S (some d) p) (a.put (some d) v) w loc' :=
  h.fin hd (fun _ => none) p v hrep href (fun _ _ => rfl) (fun _ _ _ _ _ h => by cases h) (fun _ _ _ h => by cases h)
/-- one that owns one new block -/
theorem Sim.fin1 (h : Sim X w0 S a w loc) {d : Nat} (hd : d < S.length ∧ pinned S d = false) (b o : Nat) (p : PV) (v : Value) (ho : p.owns = true)
    (hrep : Rep X w S a.tmps loc (fun j => if j = 0 then some (b, o) else none) p v) (href : p.ref = none)
    (hb : b < w.heap.size ∧ X.Mine b ∧ ∀ i j' o', loc i j' ≠ some (b, o')) :
    ∃ loc', Sim X w0 (put S (some d) p) (a.put (some d) v) w loc' :=
  h.fin hd _ p v hrep (fun k hk => by rw [href] at hk; cases hk) (fun hp => by rw [ho] at hp; cases hp)
    (fun j j' b o o' h1 h2 => by
      split at h1
      · split at h2
        · omega
        · cases h2
      · cases h1)
    (fun j b' o' hj => by
      split at hj
      · cases hj; exact hb
      · cases hj)
end
end Go.Px

/- Each operation does what the evaluator tells. -/
namespace Go.Px
open Go Go.RowKit

/-- the table of types is the program's -/
structure TOk (P : Program) (t : TypeId) (i : TI) : Prop where
  und : P.underlying t = some i.desc
  info : ∃ ti, P.info? t = some ti ∧ ti.size = i.size ∧ ti.bytes = i.bytes ∧ ∃ z, ti.zero = some z ∧ z.cells = (segCells i.zero).toArray
  agg : i.agg = (match i.desc with | .struct _ | .array _ _ => true | _ => false)
  zok : segsPl i.zero
  zsz : (segCells i.zero).length = i.size
  scal : ∀ c, i.cod = some (.sc c) → i.agg = false ∧ i.size = 1 ∧ i.desc = (match c with | .int k => .int k | .bool => .bool | .str => .string)
  strc : ∀ fs, i.cod = some (.strc fs) → i.agg = true ∧ i.size = fs.length
  eqs : i.agg = true → P.eqGuardType P.depth t = false ∧ P.stoodInHeld t = false

section
variable {X : Cx} {ρ : Type} {w0 : World} {S : St} {a : Act} {w : World} {loc : Nat → Nat → Option (Nat × Nat)}

theorem opd_get (h : Sim X w0 S a w loc) {s : Nat} {p : PV} (hp : get S s = p) (hn : p ≠ .junk) : ∃ v, a.tmps[s]? = some v ∧ a.eval (.tmp s) = v ∧ Rep X w S a.tmps loc (loc s) p v := by
  have hs := get_of_ne (i := s) (S := S) (by rw [hp]; exact hn)
  rw [hp] at hs
  obtain ⟨v, hv, hr⟩ := h.rep s p hs
  exact ⟨v, hv, by simp [Act.eval, hv], hr⟩
theorem opd_raw (h : Sim X w0 S a w loc) {x : Operand} {v : Value} (hx : opd S x = .raw v) : a.eval x = v := by
  cases x with
  | tmp s =>
    obtain ⟨u, _, h2, h3⟩ := opd_get h (s := s) hx (by simp)
    rw [h2]; exact h3
  | const c => simp [opd] at hx; exact hx
  | global g => simp [opd] at hx
  | func f => simp [opd] at hx; rw [← hx]; rfl

def Post (X : Cx) (w0 : World) (K : St → Option ρ) (r : ρ) : Act → World → Prop := fun a w => ∃ S loc, K S = some r ∧ Sim X w0 S a w loc

theorem fin_some {d : Nat} {K : St → Option ρ} {p : PV} {S : St} {r : ρ} (h : fin (some d) K p S = some r) : (d < S.length ∧ pinned S d = false) ∧ p.ref ≠ some d ∧ K (put S (some d) p) = some r := by
  unfold Px.fin at h
  dsimp only at h
  split at h
  · rename_i hd
    split at h
    · rename_i k hk
      split at h
      · cases h
      · rename_i hkd
        exact ⟨hd, by rw [hk]; intro e; cases e; exact hkd rfl, h⟩
    · rename_i hk
      exact ⟨hd, by rw [hk]; simp, h⟩
  · cases h
theorem fin_none {K : St → Option ρ} {p : PV} {S : St} {r : ρ} (h : fin none K p S = some r) : K S = some r := h
theorem wp_run {P : Program} {o : Oper} {v : Value} {w' : World} {K : Act → World → Prop} {Q : Exit → Act → World → Prop}
    (hrun : (execOp a.eval o).run P w = .ok (.value v) w') (h : K (a.put o.dst v) w') : o.wp P a w K Q := by
  unfold Oper.wp; rw [hrun]; exact h

/-- a value that owns nothing -/
theorem wp0 {o : Oper} {S' : St} {w' : World} {loc' : Nat → Nat → Option (Nat × Nat)} {v : Value} {p : PV} {K : St → Option ρ} {r : ρ} {Q : Exit → Act → World → Prop}
    (hrun : (execOp a.eval o).run X.P w = .ok (.value v) w') (hs : Sim X w0 S' a w' loc') (hf : fin o.dst K p S' = some r) (ho : p.owns = false)
    (hrep : Rep X w' S' a.tmps loc' (fun _ => none) p v) (href : ∀ k, p.ref = some k → (get S' k).owns = true) : o.wp X.P a w (Post X w0 K r) Q := by
  refine wp_run hrun ?_
  cases hd : o.dst with
  | none => rw [hd] at hf; exact ⟨S', loc', fin_none hf, hs⟩
  | some d =>
    rw [hd] at hf
    obtain ⟨h1, h2, h3⟩ := fin_some hf
    obtain ⟨loc1, hs1⟩ := hs.fin0 h1 p v ho hrep (fun k hk => ⟨href k hk, fun e => h2 (e ▸ hk)⟩)
    exact ⟨_, loc1, h3, hs1⟩
theorem wp_raw {o : Oper} {S' : St} {w' : World} {loc' : Nat → Nat → Option (Nat × Nat)} {v : Value} {K : St → Option ρ} {r : ρ} {Q : Exit → Act → World → Prop}
    (hrun : (execOp a.eval o).run X.P w = .ok (.value v) w') (hs : Sim X w0 S' a w' loc') (hf : fin o.dst K (.raw v) S' = some r) : o.wp X.P a w (Post X w0 K r) Q :=
  wp0 hrun hs hf rfl rfl (fun k hk => by cases hk)
/-- a value that owns one block -/
theorem wp1 {o : Oper} {S' : St} {w' : World} {loc' : Nat → Nat → Option (Nat × Nat)} {v : Value} {p : PV} {K : St → Option ρ} {r : ρ} {Q : Exit → Act → World → Prop} (b off : Nat)
    (hrun : (execOp a.eval o).run X.P w = .ok (.value v) w') (hs : Sim X w0 S' a w' loc') (hf : fin o.dst K p S' = some r) (ho : p.owns = true) (hr : p.ref = none)
    (hrep : Rep X w' S' a.tmps loc' (fun j => if j = 0 then some (b, off) else none) p v) (hb : b < w'.heap.size ∧ X.Mine b ∧ ∀ i j' o', loc' i j' ≠ some (b, o')) :
    o.wp X.P a w (Post X w0 K r) Q := by
  refine wp_run hrun ?_
  cases hd : o.dst with
  | none =>
    rw [hd] at hf
    exact ⟨S', loc', fin_none hf, hs⟩
  | some d =>
    rw [hd] at hf
    obtain ⟨h1, h2, h3⟩ := fin_some hf
    obtain ⟨loc1, hs1⟩ := hs.fin1 h1 b off p v ho hrep hr hb
    exact ⟨_, loc1, h3, hs1⟩

/-- a value that owns some blocks -/
theorem wpG {o : Oper} {S' : St} {w' : World} {loc' : Nat → Nat → Option (Nat × Nat)} {v : Value} {p : PV} {K : St → Option ρ} {r : ρ} {Q : Exit → Act → World → Prop} (ℓ : Nat → Option (Nat × Nat))
    (hrun : (execOp a.eval o).run X.P w = .ok (.value v) w') (hs : Sim X w0 S' a w' loc') (hf : fin o.dst K p S' = some r) (ho : p.owns = true) (hr : p.ref = none)
    (hrep : Rep X w' S' a.tmps loc' ℓ p v) (hsep : ∀ j j' b o o', ℓ j = some (b, o) → ℓ j' = some (b, o') → j = j')
    (hnew : ∀ j b o, ℓ j = some (b, o) → b < w'.heap.size ∧ X.Mine b ∧ ∀ i j' o', loc' i j' ≠ some (b, o')) :
    o.wp X.P a w (Post X w0 K r) Q := by
  refine wp_run hrun ?_
  cases hd : o.dst with
  | none =>
    rw [hd] at hf
    exact ⟨S', loc', fin_none hf, hs⟩
  | some d =>
    rw [hd] at hf
    obtain ⟨h1, h2, h3⟩ := fin_some hf
    obtain ⟨loc1, hs1⟩ := hs.fin h1 ℓ p v hrep (fun k hk => by rw [hr] at hk; cases hk) (fun hp => by rw [ho] at hp; cases hp) hsep hnew
    exact ⟨_, loc1, h3, hs1⟩

/-! ### operators on numbers and texts -/
def plain : Value → Bool
  | .int .. | .string _ | .bool _ => true
  | _ => false
theorem run_eqGuard {P : Program} (w : World) (op : BinOp) (t : TypeId) (x y : Operand) (v u : Value) (hv : plain v = true) : (eqGuard op t x y v u).run P w = .ok () w := by
  unfold eqGuard
  cases v <;> simp [plain] at hv <;> cases op <;> simp
theorem pureVal_run {P : Program} {s : Sem Value} {v : Value} (h : pureVal s = some v) (w : World) : s.run P w = .ok v w := by
  cases s <;> simp [pureVal] at h
  subst h; rfl
theorem chk_some {b : Bool} {k : Option ρ} {r : ρ} (h : chk b k = some r) : b = true ∧ k = some r := by
  cases b
  · simp [chk] at h
  · exact ⟨rfl, h⟩
theorem shift_ok {P : Program} (w : World) (op : BinOp) (k yk : IntKind) (x y : Int) (hy : 0 ≤ y) {K : Value → Option ρ} {r : ρ} (h : evShift op k x y K = some r) :
    ∃ v, K v = some r ∧ (Op.shift op k x yk y).run P w = .ok v w := by
  have hn : ¬ y < 0 := by omega
  unfold evShift at h
  cases op <;> simp at h
  all_goals exact ⟨_, h, by simp [Op.shift, hn]⟩
theorem run_equalIn_bool {P : Program} (w : World) (d : Nat) (t : TypeId) (ht : P.underlying t = some .bool) (x y : Bool) : (Op.equalIn (d + 1) t (.bool x) (.bool y)).run P w = .ok (x == y) w := by
  simp only [Op.equalIn, Sem.run_bind, run_underlying ht, Result.andThen_ok]
  rfl
theorem run_binOp_bool {P : Program} (w : World) (t : TypeId) (ht : P.underlying t = some .bool) (x y : Bool) :
    (binOp .eql t (.bool x) (.bool y)).run P w = .ok (.bool (x == y)) w ∧ (binOp .neq t (.bool x) (.bool y)).run P w = .ok (.bool (!(x == y))) w := by
  have h : (Op.equal t (.bool x) (.bool y)).run P w = .ok (x == y) w := run_equalIn_bool w 9999 t ht x y
  constructor <;> simp only [binOp, Sem.run_bind, h, Result.andThen_ok] <;> rfl
theorem evBin_sound {P : Program} (w : World) (op : BinOp) (t : TypeId) (td : Option TypeDesc) (htd : ∀ d, td = some d → P.underlying t = some d) (v u : Value) (lit : Bool) (hlit : lit = true → ∀ k n, u = .int k n → 0 < n) (K : Value → Option ρ) (r : ρ)
    (h : evBin td op v u lit K = some r) : plain v = true ∧ ∃ x, K x = some r ∧ (binOp op t v u).run P w = .ok x w := by
  unfold evBin at h
  split at h
  · rename_i k n yk m
    refine ⟨rfl, ?_⟩
    split at h
    · rename_i hl
      have := hlit hl yk m rfl
      obtain ⟨x, h1, h2⟩ := shift_ok (P := P) w .shl k yk n m (by omega) h
      exact ⟨x, h1, h2⟩
    · obtain ⟨hm, h⟩ := chk_some h
      obtain ⟨x, h1, h2⟩ := shift_ok (P := P) w .shl k yk n m (of_decide_eq_true hm) h
      exact ⟨x, h1, h2⟩
  · rename_i k n yk m
    refine ⟨rfl, ?_⟩
    split at h
    · rename_i hl
      have := hlit hl yk m rfl
      obtain ⟨x, h1, h2⟩ := shift_ok (P := P) w .shr k yk n m (by omega) h
      exact ⟨x, h1, h2⟩
    · obtain ⟨hm, h⟩ := chk_some h
      obtain ⟨x, h1, h2⟩ := shift_ok (P := P) w .shr k yk n m (of_decide_eq_true hm) h
      exact ⟨x, h1, h2⟩
  · rename_i x y
    obtain ⟨hm, h⟩ := chk_some h
    refine ⟨rfl, _, h, ?_⟩
    have hm := of_decide_eq_true hm
    have : ¬ (((x.size + y.size : Nat) : Int) > IntKind.i64.max) := by
      have e : IntKind.i64.max = 9223372036854775807 := rfl
      rw [e]; omega
    simp only [binOp, Op.stringOp, if_neg this]; rfl
  · rename_i k n k' m
    refine ⟨rfl, ?_⟩
    split at h
    · rename_i hk
      subst hk
      split at h
      · split at h
        · rename_i x hx
          exact ⟨x, h, by simpa [binOp] using pureVal_run hx w⟩
        · cases h
      · obtain ⟨hm, h⟩ := chk_some h
        have hm := of_decide_eq_true hm
        exact ⟨_, h, by simp [binOp, Op.intDiv, hm]⟩
    · cases h
  · rename_i k n k' m
    refine ⟨rfl, ?_⟩
    split at h
    · rename_i hk
      subst hk
      split at h
      · split at h
        · rename_i x hx
          exact ⟨x, h, by simpa [binOp] using pureVal_run hx w⟩
        · cases h
      · obtain ⟨hm, h⟩ := chk_some h
        have hm := of_decide_eq_true hm
        exact ⟨_, h, by simp [binOp, Op.intDiv, hm]⟩
    · cases h
  · rename_i op k n k' m hs1 hs2 hd1 hd2
    refine ⟨rfl, ?_⟩
    split at h
    · rename_i hk
      subst hk
      split at h
      · rename_i x hx
        refine ⟨x, h, ?_⟩
        have key : ∀ o : BinOp, o ≠ .shl → o ≠ .shr → o ≠ .quo → o ≠ .rem → (match o with
            | .add | .sub | .mul => pureVal (Op.intArith o k n m)
            | .and | .or | .xor | .andNot => pureVal (Op.intBits o k n m)
            | _ => pureVal (Op.intCmp o n m)) = some x → (binOp o t (.int k n) (.int k m)).run P w = .ok x w := by
          intro o g1 g2 g3 g4 hx
          cases o <;> first | exact absurd rfl g1 | exact absurd rfl g2 | exact absurd rfl g3 | exact absurd rfl g4 | (simp only [binOp, ne_eq, not_true_eq_false, if_false]; exact pureVal_run hx w)
        exact key _ hs1 hs2 hd1 hd2 hx
      · cases h
    · cases h
  · rename_i op x y hs
    refine ⟨rfl, ?_⟩
    split at h <;> first
      | cases h
      | (split at h
         · rename_i z hz
           exact ⟨z, h, by simpa [binOp] using pureVal_run hz w⟩
         · cases h)
  · rename_i x y
    refine ⟨rfl, ?_⟩
    split at h
    · exact ⟨_, h, (run_binOp_bool w t (htd _ rfl) x y).1⟩
    · cases h
  · rename_i x y
    refine ⟨rfl, ?_⟩
    split at h
    · exact ⟨_, h, (run_binOp_bool w t (htd _ rfl) x y).2⟩
    · cases h
  · cases h
theorem isLit_ok {x : Operand} {a : Act} (h : isLit x = true) {k : IntKind} {n : Int} (hx : a.eval x = .int k n) : 0 < n := by
  unfold isLit at h
  split at h
  · rename_i kk m
    simp [Act.eval] at hx
    obtain ⟨_, rfl⟩ := hx
    cases m with
    | ofNat m => simp [isNN] at h; show (0 : Int) < (m : Int); omega
    | negSucc m => simp [isNN] at h
  · cases h
end
end Go.Px

/- Each operation does what the evaluator tells: copies, variables, loads and stores. -/
namespace Go.Px
open Go Go.RowKit

/-- what a callee is told of an argument -/
def ArgRepP (w : World) (Lo : Nat → Prop) (d : D1) (v : Value) : Prop := match d with
  | .junk => True
  | .raw x => v = x
  | .arr C n l => l.length = n ∧ v = .agg (flat C l).toArray
  | .strc ss => segsOk w Lo ss ∧ v = .agg (segCells ss).toArray
  | .own C l => RoRep w Lo C l v
abbrev ArgRep (w : World) (d : D1) (v : Value) : Prop := ArgRepP w (· < w.heap.size) d v
/-- what a callee hands back: new blocks, each part its own -/
def DRep (w : World) (B : Nat → Prop) (ℓ : Nat → Option (Nat × Nat)) (d : DV) (v : Value) : Prop := match d with
  | .one d => D1Rep w B d (ℓ 0) v
  | .tup ds => ∃ vs : Array Value, v = .tuple vs ∧ vs.size = ds.length ∧ ∀ (j : Nat) d, ds[j]? = some d → ∃ u, vs[j]? = some u ∧ D1Rep w B d (ℓ j) u
def ResRepP (w : World) (Mi : Nat → Prop) (d : DV) (v : Value) : Prop :=
  ∃ ℓ : Nat → Option (Nat × Nat), (∀ j b o, ℓ j = some (b, o) → Mi b ∧ b < w.heap.size) ∧ (∀ j j' b o o', ℓ j = some (b, o) → ℓ j' = some (b, o') → j = j') ∧
    (d.toPV.owns = false → ∀ j, ℓ j = none) ∧ DRep w Mi ℓ d v
abbrev ResRep (w : World) (B : Nat) (d : DV) (v : Value) : Prop := ResRepP w (B ≤ ·) d v
/-- a function's contract -/
def FunOk (P : Program) (G : Nat → Option (List Seg)) (f : FuncId) (F : Fun) : Prop :=
  ∀ (ρ : Type) (ds : List DV) (k : DV → Option ρ) (r : ρ), F.run ρ ds k = some r → ∀ (w : World) (vs : Array Value), GOk ⟨P, w.heap.size, G, noM⟩ w →
    vs.size = ds.length → (∀ (i : Nat) d, ds[i]? = some d → ∃ d1 v, d = .one d1 ∧ vs[i]? = some v ∧ ArgRep w d1 v) →
    Calls P f vs w fun e w' => ∃ d v, k d = some r ∧ e = .returned v ∧ Below w.heap.size w w' ∧ ResRep w' w.heap.size d v
/-- beside block b -/
abbrev ArgRepX (w : World) (b : Nat) (d : D1) (v : Value) : Prop := ArgRepP w (fun c => c < w.heap.size ∧ c ≠ b) d v
/-- the contract of a function that is handed a variable to write -/
def FunROk (P : Program) (G : Nat → Option (List Seg)) (f : FuncId) (F : FunR) : Prop :=
  ∀ (ρ : Type) (ss : List Seg) (ds : List DV) (k : List Seg → DV → Option ρ) (r : ρ), F.run ρ ss ds k = some r → ∀ (w : World) (vs : Array Value) (b : Nat) (cur : Array Value) (e : TypeId) (fr : Nat × Nat), GOk ⟨P, w.heap.size, G, (· = b)⟩ w →
    vs.size = ds.length + 1 → vs[0]? = some (.pointer (some ⟨b, 0, none⟩)) → w.heap[b]? = some (.cells cur e fr) → Harm fr cur.size → segsPl ss → cur = (segCells ss).toArray →
    (∀ (i : Nat) d, ds[i]? = some d → ∃ d1 v, d = .one d1 ∧ vs[i + 1]? = some v ∧ ArgRepX w b d1 v) →
    Calls P f vs w fun en w' => ∃ ss' d v, k ss' d = some r ∧ en = .returned v ∧ Kept ⟨P, w.heap.size, G, (· = b)⟩ w w' ∧
      (∃ cur' e' fr', w'.heap[b]? = some (.cells cur' e' fr') ∧ Harm fr' cur'.size ∧ cur' = (segCells ss').toArray) ∧ segsPl ss' ∧ ss'.map Seg.kind = ss.map Seg.kind ∧ ResRep w' w.heap.size d v
/-- the blocks of a slice that is handed over to be used up, and the new ones -/
def usedM (B : Nat) (ℓ : Option (Nat × Nat)) : Nat → Prop := fun c => B ≤ c ∨ ∃ o, ℓ = some (c, o)
/-- the contract of a function that is handed a slice to use up -/
def FunAOk (P : Program) (G : Nat → Option (List Seg)) (f : FuncId) (F : FunA) : Prop :=
  ∀ (ρ : Type) (c : Cont) (ds : List DV) (k : DV → Option ρ) (r : ρ), F.run ρ c ds k = some r → ∀ (w : World) (vs : Array Value) (ℓ : Option (Nat × Nat)) (v0 : Value), GOk ⟨P, w.heap.size, G, usedM w.heap.size ℓ⟩ w →
    vs.size = ds.length + 1 → vs[0]? = some v0 → OwnRep w (usedM w.heap.size ℓ) c.C c.l ℓ v0 →
    (∀ (i : Nat) d, ds[i]? = some d → ∃ d1 v, d = .one d1 ∧ vs[i + 1]? = some v ∧ ArgRepP w (fun b => b < w.heap.size ∧ ¬ usedM w.heap.size ℓ b) d1 v) →
    Calls P f vs w fun en w' => ∃ d v, k d = some r ∧ en = .returned v ∧ Kept ⟨P, w.heap.size, G, usedM w.heap.size ℓ⟩ w w' ∧ ResRepP w' (usedM w.heap.size ℓ) d v
def Callable (P : Program) (f : FuncId) : Prop := ∃ fn, P.funcs[f]? = some fn ∧ fn.body.isNone = false ∧ (fn.name == "runtime.NumGoroutine") = false
structure EnvOk {ρ : Type} (X : Cx) (E : Env ρ) : Prop where
  T : ∀ t i, E.T t = some i → TOk X.P t i
  G : E.G = X.G
  mixed : X.P.follows .mixedOrders = true
  Γ : ∀ f F, E.Γ f = some F → FunOk X.P X.G f F ∧ Callable X.P f
  R : ∀ f F, E.R f = some F → FunROk X.P X.G f F ∧ Callable X.P f
  A : ∀ f F, E.A f = some F → FunAOk X.P X.G f F ∧ Callable X.P f

section
variable {X : Cx} {ρ : Type} {w0 : World} {S : St} {a : Act} {w : World} {loc : Nat → Nat → Option (Nat × Nat)} {E : Env ρ} {K : St → Option ρ} {r : ρ} {o : Oper} {Q : Exit → Act → World → Prop}

theorem loc_none (h : Sim X w0 S a w loc) {s : Nat} (ho : (get S s).owns = false) : loc s = fun _ => none := funext (h.dom s ho)
/-- what is copied out of a slot that owns nothing -/
theorem copy_rep (h : Sim X w0 S a w loc) {s : Nat} (ho : (get S s).owns = false) : Rep X w S a.tmps loc (fun _ => none) (get S s) (a.eval (.tmp s)) := by
  by_cases hj : get S s = .junk
  · rw [hj]; trivial
  · obtain ⟨v, _, h2, h3⟩ := opd_get h rfl hj
    rw [h2]; rw [loc_none h ho] at h3; exact h3
theorem get_ref (h : Sim X w0 S a w loc) {s k : Nat} (hr : (get S s).ref = some k) : (get S k).owns = true := by
  have hj : get S s ≠ .junk := fun e => by rw [e] at hr; cases hr
  exact h.ref s _ k (get_of_ne hj) hr
theorem alias_rep (h : Sim X w0 S a w loc) {s : Nat} (ho : (get S s).owns = true) : Rep X w S a.tmps loc (fun _ => none) (.alias s) (a.eval (.tmp s)) := by
  obtain ⟨v, h1, h2, _⟩ := opd_get h (s := s) rfl (fun e => by rw [e] at ho; cases ho)
  rw [h2]; exact h1
theorem run_move {x : Operand} (ho : o.op = .move x) : (execOp a.eval o).run X.P w = .ok (.value (a.eval x)) w := by simp [execOp, ho]
theorem run_assign {x : Operand} (ho : o.op = .assign x) : (execOp a.eval o).run X.P w = .ok (.value (a.eval x)) w := by simp [execOp, ho]
theorem opd_tmp (S : St) (s : Nat) : opd S (.tmp s) = get S s := rfl

/-- a kill of s frees its blocks: they may go to another slot -/
theorem Sim.take (h : Sim X w0 S a w loc) (s : Nat) (hn : isObj (get S s) = false) : ∃ loc', Sim X w0 (Px.kill S s) a w loc' ∧ Free (Px.kill S s) s ∧ (∀ i, i ≠ s → loc' i = loc i) ∧
    (∀ j b o, loc s j = some (b, o) → b < w.heap.size ∧ X.Mine b ∧ ∀ i j' o', loc' i j' ≠ some (b, o')) := by
  obtain ⟨loc', h1, hf, hl, hl0⟩ := h.kill s (pinned_of_obj hn)
  refine ⟨loc', h1, hf, hl, fun j b o hj => ⟨(h.lt s j b o hj).1, (h.lt s j b o hj).2, fun i j' o' hi => ?_⟩⟩
  by_cases his : i = s
  · subst his; rw [hl0] at hi; cases hi
  · rw [hl i his] at hi; exact his (h.sep i j' s j b o' o hi hj).1
theorem tup_go {s d : Nat} {ds : List D1} {v : Value} (h : Sim X w0 S a w loc) (hs : get S s = .tup ds)
    (hrun : (execOp a.eval o).run X.P w = .ok (.value v) w) (hv : a.eval (.tmp s) = v) (hd : o.dst = some d) (hf : fin o.dst K (.tup ds) (kill S s) = some r) : o.wp X.P a w (Post X w0 K r) Q := by
  obtain ⟨u, h1, h2, h3⟩ := opd_get h hs (by simp)
  obtain ⟨loc', hk, _, hl, hnew⟩ := h.take s (by rw [hs]; rfl)
  rw [hd] at hf
  obtain ⟨g1, g2, g3⟩ := fin_some hf
  have hfr : Rep X w (kill S s) a.tmps loc' (loc s) (.tup ds) v := by
    rw [← hv, h2]
    exact h3.frame (fun _ _ _ _ => rfl) (fun _ _ => rfl) (fun _ => Nat.le_refl _) (fun k hk => by cases hk)
  obtain ⟨loc2, h5⟩ := hk.fin g1 (loc s) (.tup ds) v hfr (fun k hk => by cases hk) (fun ho => h.dom s (by rw [hs]; exact ho))
    (fun j j' b o o' e1 e2 => (h.sep s j s j' b o o' e1 e2).2) hnew
  refine wp_run hrun ?_
  rw [hd]
  exact ⟨_, loc2, g3, h5⟩

theorem op_move {x : Operand} (h : Sim X w0 S a w loc) (ho : o.op = .move x) (hr : evOp E S o.dst o.op o.type (fin o.dst K) = some r) : o.wp X.P a w (Post X w0 K r) Q := by
  have hrun := run_move (X := X) (a := a) (w := w) ho
  rw [ho] at hr
  simp only [evOp] at hr
  split at hr
  · rename_i s
    split at hr
    · rename_i C l hs; exact wp0 hrun h hr rfl (alias_rep h (by rw [hs]; rfl)) (fun k hk => by cases hk; rw [hs]; rfl)
    · rename_i ss hs; exact wp0 hrun h hr rfl (alias_rep h (by rw [hs]; rfl)) (fun k hk => by cases hk; rw [hs]; rfl)
    · rename_i t q hs; exact wp0 hrun h hr rfl (alias_rep h (by rw [hs]; rfl)) (fun k hk => by cases hk; rw [hs]; rfl)
    · rename_i c l n hs; exact wp0 hrun h hr rfl (alias_rep h (by rw [hs]; rfl)) (fun k hk => by cases hk; rw [hs]; rfl)
    · rename_i ds hs
      cases hd : o.dst with
      | none =>
        rw [hd] at hr
        obtain ⟨loc', hk, _⟩ := h.take s (by rw [hs]; rfl)
        refine wp_run hrun ?_
        rw [hd]
        exact ⟨_, loc', fin_none hr, hk⟩
      | some d => exact tup_go h hs hrun rfl hd hr
    · rename_i p hn1 hn2 hn3 hn5 hn4
      have how : (get S s).owns = false := by
        cases hp : get S s <;> first | rfl | (rw [hp] at hn1; exact absurd rfl (hn1 _ _)) | (rw [hp] at hn2; exact absurd rfl (hn2 _)) | (rw [hp] at hn3; exact absurd rfl (hn3 _ _)) | (rw [hp] at hn4; exact absurd rfl (hn4 _)) | (rw [hp] at hn5; exact absurd rfl (hn5 _ _ _))
      exact wp0 hrun h hr how (copy_rep h how) (fun k hk => get_ref h hk)
  · rename_i hn
    cases x with
    | tmp s => exact absurd rfl (hn s)
    | const c => exact wp0 hrun h hr rfl rfl (fun k hk => by cases hk)
    | global g => exact wp0 hrun h hr rfl rfl (fun k hk => by cases hk)
    | func f => exact wp0 hrun h hr rfl rfl (fun k hk => by cases hk)
theorem op_pick {c x y : Operand} (h : Sim X w0 S a w loc) (ho : o.op = .pick c x y) (hr : evOp E S o.dst o.op o.type (fin o.dst K) = some r) : o.wp X.P a w (Post X w0 K r) Q := by
  rw [ho] at hr
  simp only [evOp] at hr
  split at hr
  · rename_i β hc
    have hcv := opd_raw h hc
    have hrun : (execOp a.eval o).run X.P w = .ok (.value (if β then a.eval x else a.eval y)) w := by simp [execOp, ho, hcv, asBool]
    cases β with
    | true =>
      simp only [cond_true] at hr
      split at hr
      · rename_i v hv
        have := opd_raw h hv
        simp only [if_true] at hrun
        rw [this] at hrun
        exact wp_raw hrun h hr
      · cases hr
    | false =>
      simp only [cond_false] at hr
      split at hr
      · rename_i v hv
        have := opd_raw h hv
        simp only [Bool.false_eq_true, if_false] at hrun
        rw [this] at hrun
        exact wp_raw hrun h hr
      · cases hr
  · cases hr
theorem op_binOp {op : BinOp} {t ty : TypeId} {x y : Operand} (hE : EnvOk X E) (h : Sim X w0 S a w loc) (ho : o.op = .binOp op t x y ty) (hr : evOp E S o.dst o.op o.type (fin o.dst K) = some r)
    (hcmp : evCmp E op t (opd S x) (opd S y) (fun r => fin o.dst K r S) = some r → o.wp X.P a w (Post X w0 K r) Q) : o.wp X.P a w (Post X w0 K r) Q := by
  rw [ho] at hr
  simp only [evOp] at hr
  split at hr
  · rename_i v u hx hy
    have e1 := opd_raw h hx
    have e2 := opd_raw h hy
    obtain ⟨hp, z, hz, hb⟩ := evBin_sound (P := X.P) w op t ((E.T t).map (·.desc)) (fun d hd => by
      cases ht : E.T t with
      | none => rw [ht] at hd; cases hd
      | some i => rw [ht] at hd; simp at hd; rw [← hd]; exact (hE.T t i ht).und) v u (isLit y) (fun hl k n e => isLit_ok hl (by rw [e2, e])) _ r hr
    have hrun : (execOp a.eval o).run X.P w = .ok (.value z) w := by
      simp only [execOp, ho, e1, e2, Sem.run_bind, run_eqGuard w op t x y v u hp, Result.andThen_ok, hb]; rfl
    exact wp_raw hrun h hz
  · exact hcmp hr
theorem op_unOp {op : UnOp} {t : TypeId} {x : Operand} (h : Sim X w0 S a w loc) (ho : o.op = .unOp op t x) (hr : evOp E S o.dst o.op o.type (fin o.dst K) = some r) : o.wp X.P a w (Post X w0 K r) Q := by
  rw [ho] at hr
  simp only [evOp] at hr
  split at hr
  · rename_i v hx
    have e1 := opd_raw h hx
    split at hr
    · rename_i z hz
      have hrun : (execOp a.eval o).run X.P w = .ok (.value z) w := by
        simp only [execOp, ho, e1, Sem.run_bind, pureVal_run hz, Result.andThen_ok]; rfl
      exact wp_raw hrun h hr
    · cases hr
  · cases hr
theorem run_zero {t : TypeId} {i : TI} (ht : TOk X.P t i) (w : World) : ∃ z, (zeroValue t).run X.P w = .ok z w ∧ z.cells = (segCells i.zero).toArray := by
  obtain ⟨ti, h1, _, _, z, h2, h3⟩ := ht.info
  exact ⟨z, by simp [zeroValue, typeInfo, h1, h2], h3⟩
theorem below_alloc' (w : World) (ob : Obj) : Below w.heap.size w { w with heap := w.heap.push ob } := (Below.refl _ w).alloc (Nat.le_refl _) ob
theorem new_block (h : Sim X w0 S a w loc) (ob : Obj) : w.heap.size < ({ w with heap := w.heap.push ob } : World).heap.size ∧ X.Mine w.heap.size ∧ ∀ i j' o', loc i j' ≠ some (w.heap.size, o') :=
  ⟨by simp, .inl h.hB, fun i j' o' e => Nat.lt_irrefl _ (h.lt i j' _ o' e).1⟩
theorem oneC_cells {v : Value} (h : oneC v = true) : v.cells = #[v] := by cases v <;> first | rfl | simp [Value.oneCell'] at h
theorem harm0 (n : Nat) : Harm (0, 0) n := harm_zero n
theorem op_alloc {t : TypeId} (hE : EnvOk X E) (h : Sim X w0 S a w loc) (ho : o.op = .alloc t) (hr : evOp E S o.dst o.op o.type (fin o.dst K) = some r) : o.wp X.P a w (Post X w0 K r) Q := by
  rw [ho] at hr
  simp only [evOp] at hr
  split at hr
  · rename_i ti ht
    obtain ⟨z, h1, h2⟩ := run_zero (hE.T t ti ht) w
    have hrun : (execOp a.eval o).run X.P w = .ok (.value (.pointer (some ⟨w.heap.size, 0, none⟩))) { w with heap := w.heap.push (.cells z.cells t) } := by
      simp [execOp, ho, Instr.alloc, h1, newVar, newRow]
    refine wp1 w.heap.size 0 hrun (h.ext (below_alloc' w _)) hr rfl rfl ?_ (new_block h _)
    exact ⟨w.heap.size, z.cells, t, (0, 0), by simp, rfl, .inl h.hB, by simp, harm0 _, (hE.T t ti ht).zok _ _, h2⟩
  · cases hr
theorem op_box {t : TypeId} {x : Operand} (h : Sim X w0 S a w loc) (ho : o.op = .box t x) (hr : evOp E S o.dst o.op o.type (fin o.dst K) = some r) : o.wp X.P a w (Post X w0 K r) Q := by
  have hrun : (execOp a.eval o).run X.P w = .ok (.value (.pointer (some ⟨w.heap.size, 0, none⟩))) { w with heap := w.heap.push (.cells (a.eval x).cells t) } := by
    simp [execOp, ho, Instr.box, newVar, newRow]
  have key : ∀ (ss : List Seg), segsOk w X.Low ss → (a.eval x).cells = (segCells ss).toArray → fin o.dst K (.obj ss) S = some r → o.wp X.P a w (Post X w0 K r) Q := fun ss h1 h2 h3 => by
    refine wp1 w.heap.size 0 hrun (h.ext (below_alloc' w _)) h3 rfl rfl ?_ (new_block h _)
    exact ⟨w.heap.size, (a.eval x).cells, t, (0, 0), by simp, rfl, .inl h.hB, by simp, harm0 _, h1.frame fun b hb => (below_alloc' w _).block b (Nat.lt_of_lt_of_le hb.1 h.hB), h2⟩
  rw [ho] at hr
  simp only [evOp] at hr
  have hget : ∀ p, opd S x = p → p ≠ .junk → p.owns = false → (∀ g, p ≠ .gl g) → (∀ v, p ≠ .raw v) → Rep X w S a.tmps loc (fun _ => none) p (a.eval x) := fun p hp hj hn hg hv => by
    cases x with
    | tmp s =>
      have := copy_rep h (s := s) (by rw [opd_tmp] at hp; rw [hp]; exact hn)
      rw [opd_tmp] at hp; rw [hp] at this; exact this
    | const c => exact absurd hp.symm (hv c)
    | global g => exact absurd hp.symm (hg g)
    | func f => exact absurd hp.symm (hv _)
  split at hr
  · rename_i v hv
    have e := opd_raw h hv
    split at hr
    · rename_i hc
      refine key _ (fun s hs => ?_) ?_ hr
      · simp at hs; subst hs
        exact oneC_cells hc
      · rw [e, oneC_cells hc]; rfl
    · cases hr
  · rename_i C n l hp
    have hrep := hget _ hp (by simp) rfl (by simp) (by simp)
    exact key _ (fun s hs => by simp at hs; subst hs; exact hrep.1) (by rw [hrep.2]; simp [Value.cells, segCells, Seg.cells]) hr
  · rename_i ss hp
    have hrep := hget _ hp (by simp) rfl (by simp) (by simp)
    exact key _ hrep.1 (by rw [hrep.2]; rfl) hr
  · cases hr
end
end Go.Px

/- Loads and stores. -/
namespace Go.Px
open Go Go.RowKit
variable {Ww : World} {Ll : Nat → Prop}

/-! ### flat contents -/
theorem recVals_length : (fs : List T0) → (x : recα fs) → (recVals fs x).length = fs.length
  | [], _ => rfl
  | _ :: r, x => by simp [recVals, recVals_length r x.2]
theorem cells_length (C : Cod) (x : C.α) : (C.cells x).length = C.sz := by
  cases C with
  | sc t => rfl
  | strc fs => exact recVals_length fs x
theorem recVals_at : (fs : List T0) → (x : recα fs) → (f : Nat) → f < fs.length → (recVals fs x)[f]? = some (recAt fs x f)
  | [], _, f, h => by simp at h
  | a :: r, x, 0, _ => by simp [recVals, recAt]
  | a :: r, x, f + 1, h => by simpa [recVals, recAt] using recVals_at r x.2 f (by simpa using h)
theorem cells_at (C : Cod) (x : C.α) (f : Nat) (h : f < C.sz) : (C.cells x)[f]? = some (C.fieldAt x f) := by
  cases C with
  | sc t => simp [Cod.sz] at h; subst h; rfl
  | strc fs => exact recVals_at fs x f h
theorem T0.val_oneC (t : T0) (x : t.α) : oneC (t.val x) = true := by cases t <;> rfl
theorem recVals_oneC : (fs : List T0) → (x : recα fs) → ∀ v ∈ recVals fs x, oneC v = true
  | [], _, v, h => by simp [recVals] at h
  | a :: r, x, v, h => by
    simp [recVals] at h
    rcases h with rfl | h
    · exact a.val_oneC _
    · exact recVals_oneC r x.2 v h
theorem cells_oneC (C : Cod) (x : C.α) : ∀ v ∈ C.cells x, oneC v = true := by
  cases C with
  | sc t => intro v h; simp [Cod.cells] at h; subst h; exact t.val_oneC x
  | strc fs => exact recVals_oneC fs x
theorem flat_length (C : Cod) (l : List C.α) : (flat C l).length = l.length * C.sz := by
  induction l with
  | nil => simp [flat]
  | cons x l ih => simp [flat] at ih ⊢; rw [ih, cells_length, Nat.add_mul, Nat.one_mul, Nat.add_comm]
theorem flat_nil (C : Cod) : flat C [] = [] := rfl
theorem flat_cons (C : Cod) (x : C.α) (l : List C.α) : flat C (x :: l) = C.cells x ++ flat C l := rfl
theorem flat_append (C : Cod) (l m : List C.α) : flat C (l ++ m) = flat C l ++ flat C m := by simp [flat]
theorem flat_oneC (C : Cod) (l : List C.α) : ∀ v ∈ flat C l, oneC v = true := by
  intro v h
  simp only [flat, List.mem_flatMap] at h
  obtain ⟨x, _, hx⟩ := h
  exact cells_oneC C x v hx
theorem flat_drop (C : Cod) (l : List C.α) (n : Nat) : flat C (l.drop n) = (flat C l).drop (n * C.sz) := by
  by_cases h : n ≤ l.length
  · have e : flat C l = flat C (l.take n) ++ flat C (l.drop n) := by rw [← flat_append, List.take_append_drop]
    have hl : (flat C (l.take n)).length = n * C.sz := by rw [flat_length, List.length_take, Nat.min_eq_left h]
    rw [e, ← hl, List.drop_left]
  · have h := Nat.le_of_lt (Nat.lt_of_not_le h)
    rw [List.drop_of_length_le h, List.drop_of_length_le (by rw [flat_length]; exact Nat.mul_le_mul_right _ h)]; rfl
theorem flat_take (C : Cod) (l : List C.α) (n : Nat) : flat C (l.take n) = (flat C l).take (n * C.sz) := by
  by_cases h : n ≤ l.length
  · have e : flat C l = flat C (l.take n) ++ flat C (l.drop n) := by rw [← flat_append, List.take_append_drop]
    have hl : (flat C (l.take n)).length = n * C.sz := by rw [flat_length, List.length_take, Nat.min_eq_left h]
    rw [e, ← hl, List.take_left]
  · have h := Nat.le_of_lt (Nat.lt_of_not_le h)
    rw [List.take_of_length_le h, List.take_of_length_le (by rw [flat_length]; exact Nat.mul_le_mul_right _ h)]
theorem flat_at (C : Cod) (l : List C.α) (i f : Nat) (hi : i < l.length) (hf : f < C.sz) : (flat C l)[i * C.sz + f]? = some (C.fieldAt (l.getD i C.dflt) f) := by
  have e : flat C l = flat C (l.take i) ++ (C.cells l[i] ++ flat C (l.drop (i + 1))) := by
    rw [← flat_cons, ← flat_append, ← List.drop_eq_getElem_cons hi, List.take_append_drop]
  have hl : (flat C (l.take i)).length = i * C.sz := by rw [flat_length, List.length_take, Nat.min_eq_left (Nat.le_of_lt hi)]
  rw [e, List.getElem?_append_right (by omega), hl, Nat.add_sub_cancel_left, List.getElem?_append_left (by rw [cells_length]; exact hf), cells_at C _ f hf]
  simp [List.getD, hi]
theorem Has.drop {cur : Array Value} {o : Nat} {xs : List Value} (h : Has cur o xs) (n : Nat) : Has cur (o + n) (xs.drop n) := fun j x hj => by
  rw [List.getElem?_drop] at hj
  rw [Nat.add_assoc]; exact h _ x hj
theorem Has.take {cur : Array Value} {o : Nat} {xs : List Value} (h : Has cur o xs) (n : Nat) : Has cur o (xs.take n) := fun j x hj => by
  rw [List.getElem?_take] at hj
  split at hj
  · exact h j x hj
  · cases hj
theorem Seg.size_ok {s : Seg} (h : segOk Ww Ll s) : s.cells.length = s.size := by
  cases s with
  | one v => rfl
  | arr C n l => simp [Seg.cells, Seg.size, flat_length]; rw [h]
  | ro a cap C l => rfl
theorem segCells_at : (ss : List Seg) → segsOk Ww Ll ss → (g : Nat) → (s : Seg) → ss[g]? = some s → (j : Nat) → j < s.size → (segCells ss)[segOff ss g + j]? = s.cells[j]?
  | [], _, g, s, h, _, _ => by simp at h
  | t :: r, ho, 0, s, h, j, hj => by
    simp at h; subst h
    have hs := Seg.size_ok (ho t (by simp))
    simp only [segOff, Nat.zero_add, segCells, List.flatMap_cons]
    rw [List.getElem?_append_left (by omega)]
  | t :: r, ho, g + 1, s, h, j, hj => by
    have hs := Seg.size_ok (ho t (by simp))
    have ih := segCells_at r (fun x hx => ho x (by simp [hx])) g s (by simpa using h) j hj
    simp only [segOff, segCells, List.flatMap_cons] at ih ⊢
    rw [List.getElem?_append_right (by omega), hs, Nat.add_assoc, Nat.add_sub_cancel_left]
    exact ih
theorem segCells_length : (ss : List Seg) → segsOk Ww Ll ss → (segCells ss).length = (ss.map Seg.size).sum
  | [], _ => rfl
  | t :: r, ho => by
    have ih := segCells_length r (fun x hx => ho x (by simp [hx]))
    simp only [segCells, List.flatMap_cons, List.length_append, List.map_cons, List.sum_cons, Seg.size_ok (ho t (by simp))] at ih ⊢
    rw [ih]

section
variable {X : Cx} {ρ : Type} {w0 : World} {S : St} {a : Act} {w : World} {loc : Nat → Nat → Option (Nat × Nat)} {E : Env ρ} {K : St → Option ρ} {r : ρ} {o : Oper} {Q : Exit → Act → World → Prop}

theorem cell_of (w : World) {b i : Nat} {cur : Array Value} {e : TypeId} {fr : Nat × Nat} (h : w.heap[b]? = some (.cells cur e fr)) : w.cell? ⟨b, i, none⟩ = cur[i]? := by simp [World.cell?, h]
theorem frozen_of (w : World) {b i : Nat} {cur : Array Value} {e : TypeId} {fr : Nat × Nat} (h : w.heap[b]? = some (.cells cur e fr)) (hh : Harm fr cur.size) (hi : i < cur.size) : w.frozen? ⟨b, i, none⟩ = false := by
  have := hh.2 i hi
  simp only [World.frozen?, h]
  by_cases h1 : fr.1 ≤ i <;> by_cases h2 : i < fr.2 <;> simp [h1, h2]
  exact this ⟨h1, h2⟩
theorem add_lit (b o i : Nat) : (⟨b, o, none⟩ : Addr).add i = ⟨b, o + i, none⟩ := by unfold Addr.add; split <;> simp_all
/-- the cell that an element's address names -/
theorem fptr_cell {C : Cod} {l : List C.α} {idx f b o : Nat} {cur : Array Value} {e : TypeId} {fr : Nat × Nat} (hb : w.heap[b]? = some (.cells cur e fr)) (hc : Has cur o (flat C l)) (hi : idx < l.length) (hf : f < C.sz) :
    w.cell? ⟨b, o + idx * C.sz + f, none⟩ = some (C.fieldAt (l.getD idx C.dflt) f) := by
  rw [cell_of w hb, Nat.add_assoc]
  exact hc _ _ (flat_at C l idx f hi hf)
theorem obj_cell {ss : List Seg} {g : Nat} {C : Cod} {n : Nat} {l : List C.α} {idx f b : Nat} {e : TypeId} {fr : Nat × Nat} {cur : Array Value} (hb : w.heap[b]? = some (.cells cur e fr)) (hH : Has cur 0 (segCells ss)) (hok : segsOk Ww Ll ss)
    (hg : ss[g]? = some (.arr C n l)) (hi : idx < n) (hf : f < C.sz) :
    w.cell? ⟨b, segOff ss g + idx * C.sz + f, none⟩ = some (C.fieldAt (l.getD idx C.dflt) f) := by
  have hl : l.length = n := hok _ (List.mem_of_getElem? hg)
  rw [cell_of w hb]
  have hlt : idx * C.sz + f < n * C.sz := by
    have := Nat.mul_le_mul_right C.sz (Nat.succ_le_of_lt hi)
    rw [Nat.succ_mul] at this; omega
  have := segCells_at ss hok g _ hg (idx * C.sz + f) hlt
  rw [Nat.add_assoc]
  refine (by simpa using hH (segOff ss g + (idx * C.sz + f)) _ (this.trans (flat_at C l idx f (by omega) hf)))
theorem obj_one {ss : List Seg} {g : Nat} {v : Value} {b : Nat} {e : TypeId} {fr : Nat × Nat} {cur : Array Value} (hb : w.heap[b]? = some (.cells cur e fr)) (hH : Has cur 0 (segCells ss)) (hok : segsOk Ww Ll ss)
    (hg : ss[g]? = some (.one v)) : w.cell? ⟨b, segOff ss g, none⟩ = some v := by
  rw [cell_of w hb]
  have := segCells_at ss hok g _ hg 0 (by simp [Seg.size])
  have h2 := hH (segOff ss g) v (by simpa [Seg.cells] using this)
  simpa using h2

theorem isAgg_run {t : TypeId} {i : TI} (ht : TOk X.P t i) (w : World) : (isAgg t).run X.P w = .ok i.agg w := by
  rw [ht.agg]
  simp only [isAgg, Sem.run_bind, run_underlying ht.und, Result.andThen_ok]
  cases i.desc <;> rfl
theorem sizeOf_run {t : TypeId} {i : TI} (ht : TOk X.P t i) (w : World) : (Go.sizeOf t).run X.P w = .ok i.size w := by
  obtain ⟨ti, h1, h2, _⟩ := ht.info
  simp [Go.sizeOf, typeInfo, h1, h2]
theorem load_cell {t : TypeId} {i : TI} (ht : TOk X.P t i) (hs : i.agg = false) {ad : Addr} {v : Value} (hv : w.cell? ad = some v) : (Instr.loadAt t (.pointer (some ad))).run X.P w = .ok v w := by
  simp [Instr.loadAt, Instr.sureAddr, loadVar, isAgg_run ht, hs, hv]
theorem load_rowAt {t : TypeId} {i : TI} (ht : TOk X.P t i) (hs : i.agg = true) {b o : Nat} {xs : List Value} {e : TypeId} {fr : Nat × Nat} {cur : Array Value} (hb : w.heap[b]? = some (.cells cur e fr)) (hc : Has cur o xs) (hl : xs.length = i.size) :
    (Instr.loadAt t (.pointer (some ⟨b, o, none⟩))).run X.P w = .ok (.agg xs.toArray) w := by
  have hload := run_loadCells_list (P := X.P) w ⟨b, o, none⟩ xs (fun j v hj => by rw [add_lit, cell_of w hb]; exact hc j v hj)
  simp [Instr.loadAt, Instr.sureAddr, loadVar, isAgg_run ht, hs, sizeOf_run ht, ← hl, hload]
theorem load_row {t : TypeId} {i : TI} (ht : TOk X.P t i) (hs : i.agg = true) {b : Nat} {xs : List Value} {e : TypeId} {fr : Nat × Nat} {cur : Array Value} (hb : w.heap[b]? = some (.cells cur e fr)) (hc : Has cur 0 xs) (hl : xs.length = i.size) :
    (Instr.loadAt t (.pointer (some ⟨b, 0, none⟩))).run X.P w = .ok (.agg xs.toArray) w := by
  have hload := run_loadCells_list (P := X.P) w ⟨b, 0, none⟩ xs (fun j v hj => by rw [add_lit, cell_of w hb]; exact hc j v hj)
  simp [Instr.loadAt, Instr.sureAddr, loadVar, isAgg_run ht, hs, sizeOf_run ht, ← hl, hload]

theorem run_load' {t : TypeId} {x : Operand} (ho : o.op = .load t x) {v v' : Value} (hx : a.eval x = v) (hl : (Instr.loadAt t v).run X.P w = .ok v' w) : (execOp a.eval o).run X.P w = .ok (.value v') w := by
  simp [execOp, ho, hx, hl]
theorem arr_desc {t : TypeId} {i : TI} (ht : TOk X.P t i) {n : Nat} {e : TypeId} (hd : i.desc = .array n e) : i.agg = true := by rw [ht.agg, hd]
theorem opd_self (h : Sim X w0 S a w loc) {x : Operand} {p : PV} (hx : opd S x = p) (hj : p ≠ .junk) (hi : ∀ s q, p ≠ .iter s q) (ht : ∀ ds, p ≠ .tup ds) :
    Rep X w S a.tmps loc (fun _ => none) (selfAlias x p) (a.eval x) ∧ (∀ k, (selfAlias x p).ref = some k → (get S k).owns = true) := by
  cases x with
  | tmp s =>
    rw [opd_tmp] at hx
    by_cases ho : p.owns = true
    · have e : selfAlias (.tmp s) p = .alias s := by
        cases p <;> simp [PV.owns] at ho <;> first | rfl | exact absurd rfl (hi _ _) | exact absurd rfl (ht _)
      rw [e]
      exact ⟨alias_rep h (by rw [hx]; exact ho), fun k hk => by cases hk; rw [hx]; exact ho⟩
    · have ho : p.owns = false := by simpa using ho
      have e : selfAlias (.tmp s) p = p := by cases p <;> first | rfl | simp [PV.owns] at ho
      rw [e, ← hx]
      exact ⟨copy_rep h (by rw [hx]; exact ho), fun k hk => get_ref h hk⟩
  | const c => rw [← hx]; exact ⟨rfl, fun k hk => by cases hk⟩
  | global g => rw [← hx]; exact ⟨rfl, fun k hk => by cases hk⟩
  | func f => rw [← hx]; exact ⟨rfl, fun k hk => by cases hk⟩
theorem alias_val (h : Sim X w0 S a w loc) {k : Nat} {v : Value} (hr : Rep X w S a.tmps loc (fun _ => none) (.alias k) v) (ho : (get S k).owns = true) : Rep X w S a.tmps loc (loc k) (get S k) v := by
  obtain ⟨u, h1, h2, h3⟩ := opd_get h (s := k) rfl (fun e => by rw [e] at ho; cases ho)
  have : a.tmps[k]? = some v := hr
  rw [h1] at this; cases this; exact h3
theorem segOk_one {v : Value} (h : oneC v = true) : segOk Ww Ll (.one v) := by
  show v.cells = #[v]
  cases v <;> first
    | rfl
    | simp [Value.oneCell'] at h
theorem segsOk_cells (C : Cod) (x : C.α) : segsPl ((C.cells x).map Seg.one) := fun _ _ s hs => by
  simp only [List.mem_map] at hs
  obtain ⟨v, hv, rfl⟩ := hs
  exact segOk_one (cells_oneC C x v hv)
theorem segOff_le : (ss : List Seg) → (g : Nat) → segsOk Ww Ll ss → (s : Seg) → ss[g]? = some s → segOff ss g + s.size ≤ (segCells ss).length
  | [], g, _, s, h => by simp at h
  | t :: r, 0, ho, s, h => by
    have hs := Seg.size_ok (ho t (by simp))
    simp at h; subst h; simp [segOff, segCells, hs]
  | t :: r, g + 1, ho, s, h => by
    have hs := Seg.size_ok (ho t (by simp))
    have := segOff_le r g (fun x hx => ho x (by simp [hx])) s (by simpa using h)
    simp [segOff, segCells, hs] at this ⊢; omega
theorem segCells_ones (l : List Value) : segCells (l.map Seg.one) = l := by
  induction l with
  | nil => rfl
  | cons a l ih => simp only [segCells, List.map_cons, List.flatMap_cons, Seg.cells] at ih ⊢; rw [ih]; rfl
theorem struct_agg {t : TypeId} {i : TI} (ht : TOk X.P t i) {fs : Array Field} (hd : i.desc = .struct fs) : i.agg = true := by rw [ht.agg, hd]
/-- an element's cells stand in a row -/
theorem el_has {C : Cod} {l : List C.α} {idx o : Nat} {cur : Array Value} (hc : ∀ f, f < C.sz → cur[o + idx * C.sz + f]? = some (C.fieldAt (l.getD idx C.dflt) f)) : Has cur (o + idx * C.sz) (C.cells (l.getD idx C.dflt)) := fun j x hj => by
  have hlt : j < C.sz := by rw [← cells_length C (l.getD idx C.dflt)]; exact (List.getElem?_eq_some_iff.1 hj).1
  rw [cells_at C _ j hlt] at hj
  rw [hc j hlt]; exact hj
theorem evEl_ok {t : TypeId} {x : Operand} {v : Value} {ti : TI} (ht : TOk X.P t ti) (h : Sim X w0 S a w loc) (ho : o.op = .load t x) (hx : a.eval x = v) {C : Cod} {l : List C.α} {idx f b o' : Nat} {cur : Array Value} {e : TypeId} {fr : Nat × Nat}
    (hv : v = .pointer (some ⟨b, o' + idx * C.sz + f, none⟩)) (hb : w.heap[b]? = some (.cells cur e fr)) (hf : f < C.sz) (hc : ∀ f, f < C.sz → cur[o' + idx * C.sz + f]? = some (C.fieldAt (l.getD idx C.dflt) f))
    (hr : evEl ti C (l.getD idx C.dflt) f (fun q => fin o.dst K q S) = some r) : o.wp X.P a w (Post X w0 K r) Q := by
  unfold evEl at hr
  split at hr
  · rename_i hag
    exact wp_raw (run_load' ho (hx.trans hv) (load_cell ht hag (by rw [cell_of w hb]; exact hc f hf))) h hr
  · split at hr
    · rename_i fs hd
      split at hr
      · rename_i hcc
        obtain ⟨rfl, h2⟩ := hcc
        refine wp0 (p := .strc ((C.cells (l.getD idx C.dflt)).map Seg.one)) (run_load' ho (hx.trans hv) (load_rowAt (xs := C.cells (l.getD idx C.dflt)) ht (struct_agg ht hd) hb (el_has hc) (by rw [cells_length]; exact h2.symm))) h hr rfl ⟨segsOk_cells C _ _ _, by rw [segCells_ones]⟩ (fun k hk => by cases hk)
      · cases hr
    · cases hr
theorem evRd_ok {t : TypeId} {x : Operand} {v : Value} {ti : TI} (ht : TOk X.P t ti) (h : Sim X w0 S a w loc) (ho : o.op = .load t x) (hx : a.eval x = v) {ss : List Seg} {g idx f b : Nat} {e : TypeId} {fr : Nat × Nat} {base sz cnt : Nat}
    (hs : shp (.obj ss) g = some (base, sz, cnt)) (hi : idx < cnt) (hf : f < sz) (hv : v = .pointer (some ⟨b, base + idx * sz + f, none⟩)) {cur : Array Value} (hb : w.heap[b]? = some (.cells cur e fr)) (hH : Has cur 0 (segCells ss)) (hok : segsOk w X.Low ss)
    (hr : evRd ti ss g idx f (fun q => fin o.dst K q S) = some r) : o.wp X.P a w (Post X w0 K r) Q := by
  unfold evRd at hr
  split at hr
  · rename_i u' hu
    simp [shp, hu] at hs
    obtain ⟨rfl, rfl, rfl⟩ := hs
    obtain rfl : idx = 0 := by omega
    obtain rfl : f = 0 := by omega
    split at hr
    · rename_i hag
      refine wp_raw (run_load' ho (hx.trans hv) (load_cell ht hag ?_)) h hr
      have := obj_one (w := w) hb hH hok hu
      simpa using this
    · cases hr
  · rename_i C n l hu
    simp [shp, hu] at hs
    obtain ⟨rfl, rfl, rfl⟩ := hs
    have hl : l.length = n := hok _ (List.mem_of_getElem? hu)
    have hc : ∀ f, f < C.sz → cur[segOff ss g + idx * C.sz + f]? = some (C.fieldAt (l.getD idx C.dflt) f) := fun f hf => by
      have := obj_cell (w := w) hb hH hok hu hi hf
      rwa [cell_of w hb] at this
    split at hr
    · rename_i n' e' hd
      split at hr
      · rename_i hcc
        obtain ⟨rfl, rfl, rfl, h4⟩ := hcc
        refine wp0 (p := .arr C n l) (run_load' ho (hx.trans hv) (load_rowAt (xs := flat C l) ht (arr_desc ht hd) hb (fun j u hj => ?_) (by rw [flat_length, hl]; exact h4.symm))) h hr rfl ⟨hl, rfl⟩ (fun k hk => by cases hk)
        have hj' := (List.getElem?_eq_some_iff.1 hj).1
        rw [flat_length, hl] at hj'
        have := segCells_at ss hok g _ hu j hj'
        have h2 := hH (segOff ss g + j) u (by rw [this]; exact hj)
        simpa using h2
      · cases hr
    · exact evEl_ok ht h ho hx hv hb hf hc hr
  · rename_i ra rc C l hu
    simp [shp, hu] at hs
    obtain ⟨rfl, rfl, rfl⟩ := hs
    obtain rfl : idx = 0 := by omega
    obtain rfl : f = 0 := by omega
    split at hr
    · rename_i hag
      refine wp0 (p := .ros C l) (run_load' ho (hx.trans hv) (load_cell ht hag (v := .slice ra l.length rc) ?_)) h hr rfl (hok _ (List.mem_of_getElem? hu)) (fun k hk => by cases hk)
      have := segCells_at ss hok g _ hu 0 (by simp [Seg.size])
      have h2 := hH (segOff ss g) (.slice ra l.length rc) (by simpa [Seg.cells] using this)
      simpa [cell_of w hb] using h2
    · cases hr
  · cases hr
theorem evLoad_ok {t : TypeId} {x : Operand} {p : PV} {v : Value} (hE : EnvOk X E) (h : Sim X w0 S a w loc) (ho : o.op = .load t x) (hx : a.eval x = v)
    (hp : Rep X w S a.tmps loc (fun _ => none) p v) (hown : ∀ k, p.ref = some k → (get S k).owns = true) (hr : evLoad E S t p (fun q => fin o.dst K q S) = some r) : o.wp X.P a w (Post X w0 K r) Q := by
  unfold evLoad at hr
  cases hti : E.T t with
  | none => rw [hti] at hr; cases hr
  | some ti =>
    rw [hti] at hr
    have ht := hE.T t ti hti
    dsimp only at hr
    cases p with
    | alias k =>
      dsimp only at hr
      have hv := alias_val h hp (hown k rfl)
      split at hr
      · rename_i C n l hs
        split at hr
        · rename_i n' e hd
          split at hr
          · rename_i hc
            obtain ⟨hc1, hc2⟩ := hc
            rw [hs] at hv
            obtain ⟨b, cur, e', fr, g1, g2, g3, g4, g5, g6, g7⟩ := hv
            have hl : l.length = n := g6 (.arr C n l) (by simp)
            refine wp0 (p := .arr C n l) (run_load' ho (hx.trans g2) (load_row (xs := flat C l) ht (arr_desc ht hd) g4 (fun j u hj => by rw [g7]; simpa [segCells, Seg.cells] using hj) (by rw [flat_length, hl]; exact hc2.symm))) h hr rfl ⟨hl, rfl⟩ (fun k hk => by cases hk)
          · cases hr
        · cases hr
      · rename_i ss _ hs
        split at hr
        · rename_i fs hd
          split at hr
          · rename_i hc
            rw [hs] at hv
            obtain ⟨b, cur, e', fr, g1, g2, g3, g4, g5, g6, g7⟩ := hv
            refine wp0 (p := .strc ss) (run_load' ho (hx.trans g2) (load_row (xs := segCells ss) ht (struct_agg ht hd) g4 (fun j u hj => by rw [g7]; simpa using hj) (by rw [segCells_length ss g6]; exact hc.symm))) h hr rfl ⟨g6, rfl⟩ (fun k hk => by cases hk)
          · cases hr
        · cases hr
      · cases hr
    | ptr k g idx f =>
      dsimp only at hr
      obtain ⟨base, sz, cnt, b, o', e1, e2, e3, e4, e5⟩ := hp
      have hk := hown k rfl
      obtain ⟨u, q1, q2, q3⟩ := opd_get h (s := k) rfl (fun e => by rw [e] at hk; cases hk)
      split at hr
      · rename_i C l hs
        rw [hs] at e1 q3
        cases g with
        | succ g => simp [shp] at e1
        | zero =>
          simp [shp] at e1
          obtain ⟨rfl, rfl, rfl⟩ := e1
          rcases q3 with ⟨q4, _⟩ | ⟨b', o2, cap, cur, e', fr, q4, q5, q6, q7, q8, q9, q11, q12⟩
          · rw [e2] at q4; cases q4
          · rw [e2] at q4; cases q4
            split at hr
            · rename_i n' ea hd
              split at hr
              · rename_i hcc
                obtain ⟨rfl, hsz⟩ := hcc
                obtain ⟨hle, hr⟩ := chk_some hr
                have hle : idx + n' ≤ l.length := of_decide_eq_true hle
                have hlen : ((l.drop idx).take n').length = n' := by simp; omega
                refine wp0 (p := .arr C n' ((l.drop idx).take n')) (run_load' ho (hx.trans e5) (load_rowAt (xs := flat C ((l.drop idx).take n')) ht (arr_desc ht hd) q7 (fun j u hj => ?_) (by rw [flat_length, hlen]; exact hsz.symm))) h hr rfl ⟨hlen, rfl⟩ (fun k hk => by cases hk)
                rw [flat_take, flat_drop] at hj
                have hj1 := (List.getElem?_eq_some_iff.1 hj).1
                rw [List.length_take, List.length_drop] at hj1
                rw [List.getElem?_take_of_lt (by omega), List.getElem?_drop] at hj
                have := q12 (idx * C.sz + j) u hj
                rw [← this]
                congr 1
                omega
              · cases hr
            · refine evEl_ok ht h ho hx (o' := o') (by simpa using e5) q7 e4 (fun f hf => ?_) hr
              have := fptr_cell (w := w) q7 q12 e3 hf
              rwa [cell_of w q7] at this
      · rename_i ss hs
        rw [hs] at e1 q3
        obtain ⟨b', cur, e', fr, q4, q5, q6, q7, q8, q9, q10⟩ := q3
        rw [e2] at q4; cases q4
        rw [q10] at q7
        exact evRd_ok ht h ho hx e1 e3 e4 (by simpa using e5) q7 (fun j x hj => by simpa using hj) q9 hr
      · cases hr
    | gptr g s idx f =>
      dsimp only at hr
      obtain ⟨ss, base, sz, cnt, e0, e1, e3, e4, e5⟩ := hp
      rw [hE.G] at hr
      rw [e0] at hr
      obtain ⟨_, q9, cur, e', fr, q7, q8⟩ := h.glob g ss e0
      dsimp only at hr
      exact evRd_ok ht h ho hx e1 e3 e4 e5 q7 q8 q9 hr
    | fptr C l idx f =>
      dsimp only at hr
      obtain ⟨b, o', cur, e', fr, e1, e2, e3, e4, e5, e6⟩ := hp
      refine evEl_ok ht h ho hx e3 e5 e2 (fun f hf => ?_) hr
      have := fptr_cell (w := w) e5 e6 e1 hf
      rwa [cell_of w e5] at this
    | gl g =>
      dsimp only at hr
      rw [hE.G] at hr
      split at hr
      · rename_i C n l hg
        split at hr
        · rename_i n' e hd
          split at hr
          · rename_i hc
            obtain ⟨hc1, hc2⟩ := hc
            obtain ⟨_, q9, cur, e', fr, q7, q8⟩ := h.glob g _ hg
            have hl : l.length = n := q9 (.arr C n l) (by simp)
            have hv : v = .pointer (some ⟨g, 0, none⟩) := hp
            refine wp0 (p := .arr C n l) (run_load' ho (hx.trans hv) (load_row (xs := flat C l) ht (arr_desc ht hd) q7 (fun j u hj => q8 j u (by simpa [segCells, Seg.cells] using hj)) (by rw [flat_length, hl]; exact hc2.symm))) h hr rfl ⟨hl, rfl⟩ (fun k hk => by cases hk)
          · cases hr
        · cases hr
      · cases hr
    | _ => cases hr
end
end Go.Px

/- Stores. -/
namespace Go.Px
open Go Go.RowKit
variable {Ww : World} {Ll : Nat → Prop}

section
variable {X : Cx} {ρ : Type} {w0 : World} {S : St} {a : Act} {w : World} {loc : Nat → Nat → Option (Nat × Nat)} {E : Env ρ} {K : St → Option ρ} {r : ρ} {o : Oper} {Q : Exit → Act → World → Prop}

theorem wp_skipped {P : Program} {o : Oper} {w' : World} {K : Act → World → Prop} {Q : Exit → Act → World → Prop}
    (hrun : (execOp a.eval o).run P w = .ok .skip w') (h : K (a.put o.dst undef) w') : o.wp P a w K Q := by
  unfold Oper.wp; rw [hrun]; exact h
theorem wp_stored {o : Oper} {S' : St} {w' : World} {loc' : Nat → Nat → Option (Nat × Nat)} {K : St → Option ρ} {r : ρ} {Q : Exit → Act → World → Prop}
    (hrun : (execOp a.eval o).run X.P w = .ok .skip w') (hs : Sim X w0 S' a w' loc') (hf : fin o.dst K (.raw undef) S' = some r) : o.wp X.P a w (Post X w0 K r) Q := by
  refine wp_skipped hrun ?_
  cases hd : o.dst with
  | none => rw [hd] at hf; exact ⟨S', loc', fin_none hf, hs⟩
  | some d =>
    rw [hd] at hf
    obtain ⟨h1, h2, h3⟩ := fin_some hf
    obtain ⟨loc1, hs1⟩ := hs.fin0 h1 (.raw undef) undef rfl rfl (fun k hk => by cases hk)
    exact ⟨_, loc1, h3, hs1⟩

/-- the cells behind o + i become vs -/
def splice (cur : Array Value) (i : Nat) (vs : List Value) : Array Value := (cur.toList.take i ++ vs ++ cur.toList.drop (i + vs.length)).toArray
theorem splice_size {cur : Array Value} {i : Nat} {vs : List Value} (h : i + vs.length ≤ cur.size) : (splice cur i vs).size = cur.size := by
  simp [splice]; omega
theorem splice_one {cur : Array Value} {i : Nat} {v : Value} (h : i < cur.size) : splice cur i [v] = cur.setIfInBounds i v := by
  apply Array.ext'
  simp only [splice, Array.toList_setIfInBounds, List.length_singleton, List.append_assoc, List.singleton_append]
  rw [List.set_eq_take_append_cons_drop]
  simp [h]
theorem run_storeCells (P : Program) (b o : Nat) (t : TypeId) (fr : Nat × Nat) : ∀ (vs : List Value) (i : Nat) (cur : Array Value) (w : World), w.heap[b]? = some (.cells cur t fr) → Harm fr cur.size →
    o + i + vs.length ≤ cur.size → (∀ v ∈ vs, oneC v = true) →
    (storeCells ⟨b, o, none⟩ vs i).run P w = .ok () (w.setRow b (splice cur (o + i) vs))
  | [], i, cur, w, hg, _, _, _ => by
    simp only [storeCells, splice, List.append_nil, List.length_nil, Nat.add_zero, List.take_append_drop, Array.toArray_toList]
    rw [setRow_self w b cur t fr hg]
    rfl
  | v :: rest, i, cur, w, hg, hh, hl, h1 => by
    have hi : o + i < cur.size := by simp at hl; omega
    have hcell : w.cell? ⟨b, o + i, none⟩ = some cur[o + i] := by rw [cell_of w hg]; simp [hi]
    have hst : (store ((⟨b, o, none⟩ : Addr).add i) v).run P w = .ok () (w.setRow b (cur.setIfInBounds (o + i) v)) := by
      rw [add_lit, run_store P w _ v _ (h1 v (by simp)), hcell]
      simp [frozen_of w hg hh hi, setCell_eq_setRow w b (o + i) cur t fr v hg]
    have ih := run_storeCells P b o t fr rest (i + 1) (cur.setIfInBounds (o + i) v) (w.setRow b (cur.setIfInBounds (o + i) v)) (setRow_heap w b cur _ t _ hg) (by simpa using hh) (by simp at hl ⊢; omega) (fun x hx => h1 x (by simp [hx]))
    simp only [storeCells, Sem.run_bind, hst, Result.andThen_ok, ih, setRow_setRow]
    congr 2
    simp only [splice]
    congr 1
    simp only [Array.toList_setIfInBounds, List.length_cons]
    have hi' : o + i < cur.toList.length := by simpa using hi
    generalize cur.toList = c at hi'
    rw [show o + (i + 1) = o + i + 1 by omega]
    have e1 : (c.set (o + i) v).take (o + i + 1) = c.take (o + i) ++ [v] := by
      rw [List.take_set, List.take_succ_eq_append_getElem hi', List.set_append]
      simp [Nat.min_eq_left (Nat.le_of_lt hi')]
    have e2 : (c.set (o + i) v).drop (o + i + 1 + rest.length) = c.drop (o + i + 1 + rest.length) := List.drop_set_of_lt (by omega)
    rw [e1, e2]
    simp [Nat.add_assoc, Nat.add_comm 1]

/-- the contents of slot k are turned -/
theorem Sim.updG (h : Sim X w0 S a w loc) {k b ob : Nat} {pk : PV} {w' : World} (hk : (get S k).owns = true) (hl : loc k 0 = some (b, ob))
    (hoth : ∀ c, c < w.heap.size → c ≠ b → w'.heap[c]? = w.heap[c]?) (hsize : w.heap.size ≤ w'.heap.size) (hos : w'.os = w.os) (htape : w'.tape = w.tape) (hout : w'.output = w.output) (hbs : ∀ c, blkSize w c ≤ blkSize w' c) (hsh : ∀ g, shp pk g = shp (get S k) g) (hob : isObj pk = isObj (get S k)) (ho : pk.owns = true) (hr : pk.ref = none)
    (hrep : ∀ v, a.tmps[k]? = some v → Rep X w' S a.tmps loc (loc k) pk v) : Sim X w0 (S.set k pk) a w' loc := by
  have hkl : k < S.length := (List.getElem?_eq_some_iff.1 (get_some hk)).1
  have hbB := (h.lt k 0 b ob hl).2
  have hlow : ∀ c, X.Low c → w'.heap[c]? = w.heap[c]? := fun c hc => hoth c (Nat.lt_of_lt_of_le hc.1 h.hB) (Cx.low_mine hc hbB)
  have hel : ∀ (i : Nat) q, (S.set k pk)[i]? = some q → (i = k ∧ q = pk) ∨ (i ≠ k ∧ S[i]? = some q) := fun i q hq => by
    by_cases hi : i = k
    · subst hi; simp [hkl] at hq; exact .inl ⟨rfl, hq.symm⟩
    · rw [List.getElem?_set_ne (Ne.symm hi)] at hq; exact .inr ⟨hi, hq⟩
  have hgo : ∀ i, (get (S.set k pk) i).owns = (get S i).owns := fun i => by
    by_cases hi : i = k
    · subst hi; rw [get_set_same hkl, ho, hk]
    · rw [get_set_ne hi]
  have hfr : ∀ (i : Nat) (q : PV) (v : Value), i ≠ k ∨ q = pk → (∀ c oc j, loc i j = some (c, oc) → q = pk ∨ c ≠ b) → True := fun _ _ _ _ _ => trivial
  have hkk : ∀ k', (∀ g, shp (get (S.set k pk) k') g = shp (get S k') g) ∧ isObj (get (S.set k pk) k') = isObj (get S k') := fun k' => by
    by_cases hi : k' = k
    · subst hi; rw [get_set_same hkl]; exact ⟨hsh, hob⟩
    · rw [get_set_ne hi]; exact ⟨fun _ => rfl, rfl⟩
  refine { h with len := by simpa using h.len, hB := Nat.le_trans h.hB hsize, below := h.below.trans ⟨hos, htape, hout, hsize, fun c hc => hlow c hc⟩, glob := h.glob.frame hlow, rep := ?_, ref := ?_, dom := ?_, lt := ?_, pin := fun b hb => ⟨by rw [(hkk 0).2]; exact (h.pin b hb).1, (h.pin b hb).2⟩ }
  · intro i q hq
    rcases hel i q hq with ⟨rfl, rfl⟩ | ⟨hi, hq⟩
    · obtain ⟨v, hv, _⟩ := h.rep i _ (get_some hk)
      refine ⟨v, hv, (hrep v hv).frame (fun _ _ _ _ => rfl) (fun _ _ => rfl) (fun _ => Nat.le_refl _) (fun k' hk' => by rw [hr] at hk'; cases hk')⟩
    · obtain ⟨v, hv, hrv⟩ := h.rep i q hq
      refine ⟨v, hv, hrv.frame (fun j c oc hj => hoth c (h.lt i j c oc hj).1 (fun ec => ?_)) hlow hbs (fun k' _ => ⟨(hkk k').1, (hkk k').2, rfl, rfl⟩)⟩
      subst ec
      exact hi (h.sep i j k 0 c oc ob hj hl).1
  · intro i q k' hq hk'
    rw [hgo]
    rcases hel i q hq with ⟨rfl, rfl⟩ | ⟨hi, hq⟩
    · rw [hr] at hk'; cases hk'
    · exact h.ref i q k' hq hk'
  · intro i hi j
    rw [hgo] at hi; exact h.dom i hi j
  · intro i j c oc hj
    exact ⟨Nat.lt_of_lt_of_le (h.lt i j c oc hj).1 hsize, (h.lt i j c oc hj).2⟩

theorem Sim.upd (h : Sim X w0 S a w loc) {k b ob : Nat} {pk : PV} {cur cur' : Array Value} {e : TypeId} {fr : Nat × Nat} (hk : (get S k).owns = true) (hl : loc k 0 = some (b, ob))
    (hb : w.heap[b]? = some (.cells cur e fr)) (hsz : cur'.size = cur.size) (hsh : ∀ g, shp pk g = shp (get S k) g) (hob : isObj pk = isObj (get S k)) (ho : pk.owns = true) (hr : pk.ref = none)
    (hrep : ∀ v, a.tmps[k]? = some v → Rep X (w.setRow b cur') S a.tmps loc (loc k) pk v) : Sim X w0 (S.set k pk) a (w.setRow b cur') loc :=
  h.updG hk hl (fun c _ hc => setRow_other w b c cur' hc) (by simp) rfl rfl rfl (fun c => by
    by_cases hc : c = b
    · subst hc; simp [blkSize, hb, setRow_heap w c cur cur' e fr hb, hsz]
    · exact Nat.le_of_eq (blkSize_of_eq (setRow_other w b c cur' hc)).symm) hsh hob ho hr hrep

theorem Has.splice {cur : Array Value} {o i : Nat} {xs vs : List Value} (h : Has cur o xs) (hi : i + vs.length ≤ xs.length) (hx : o + xs.length ≤ cur.size) :
    Has (Px.splice cur (o + i) vs) o (xs.take i ++ vs ++ xs.drop (i + vs.length)) := by
  intro j x hj
  have hlen : ∀ m, m < xs.length → cur.toList[o + m]? = xs[m]? := fun m hm => by
    rw [List.getElem?_eq_getElem hm]; simpa using h m _ (List.getElem?_eq_getElem hm)
  simp only [Px.splice, List.getElem?_toArray]
  rw [List.append_assoc] at hj ⊢
  have hct : cur.toList.length = cur.size := by simp
  by_cases h1 : j < i
  · rw [List.getElem?_append_left (by simp; omega)] at hj ⊢
    rw [List.getElem?_take_of_lt (by omega)] at hj ⊢
    rw [hlen j (by omega)]; exact hj
  · rw [List.getElem?_append_right (by simp; omega)] at hj ⊢
    simp only [List.length_take] at hj ⊢
    rw [Nat.min_eq_left (by omega)] at hj ⊢
    rw [show o + j - (o + i) = j - i by omega]
    by_cases h2 : j - i < vs.length
    · rw [List.getElem?_append_left h2] at hj ⊢; exact hj
    · rw [List.getElem?_append_right (by omega)] at hj ⊢
      rw [List.getElem?_drop] at hj ⊢
      rw [show o + i + vs.length + (j - i - vs.length) = o + (i + vs.length + (j - i - vs.length)) by omega]
      have : i + vs.length + (j - i - vs.length) < xs.length := (List.getElem?_eq_some_iff.1 hj).1
      rw [hlen _ this]; exact hj
theorem set_take_drop {α : Type} (l : List α) (i : Nat) (y : α) (h : i < l.length) : l.set i y = l.take i ++ [y] ++ l.drop (i + 1) := by
  rw [List.set_eq_take_append_cons_drop]; simp [h]
theorem flat_set (C : Cod) (l : List C.α) (i : Nat) (y : C.α) (h : i < l.length) : flat C (l.set i y) = (flat C l).take (i * C.sz) ++ C.cells y ++ (flat C l).drop (i * C.sz + (C.cells y).length) := by
  rw [set_take_drop l i y h, flat_append, flat_append, flat_take, flat_drop, cells_length, Nat.add_mul, Nat.one_mul]
  simp [flat]
theorem segCells_set : (ss : List Seg) → segsOk Ww Ll ss → (g : Nat) → (s s' : Seg) → ss[g]? = some s → s'.cells.length = s.size → segCells (ss.set g s') = (segCells ss).take (segOff ss g) ++ s'.cells ++ (segCells ss).drop (segOff ss g + s'.cells.length)
  | [], _, g, s, _, h, _ => by simp at h
  | t :: r, ho, 0, s, s', h, hl => by
    simp at h; subst h
    have hs := Seg.size_ok (ho t (by simp))
    simp only [List.set_cons_zero, segOff, segCells, List.flatMap_cons, List.take_zero, List.nil_append, Nat.zero_add]
    rw [hl, ← hs, List.drop_left]
  | t :: r, ho, g + 1, s, s', h, hl => by
    have hs := Seg.size_ok (ho t (by simp))
    have ih := segCells_set r (fun x hx => ho x (by simp [hx])) g s s' (by simpa using h) hl
    simp only [List.set_cons_succ, segOff, segCells, List.flatMap_cons] at ih ⊢
    rw [ih, ← hs, Nat.add_assoc, List.take_length_add_append, List.drop_length_add_append]
    simp
theorem segOff_set : (ss : List Seg) → (g : Nat) → (s s' : Seg) → ss[g]? = some s → s'.size = s.size → ∀ g', segOff (ss.set g s') g' = segOff ss g'
  | [], g, s, _, h, _, _ => by simp at h
  | t :: r, 0, s, s', h, hz, 0 => rfl
  | t :: r, 0, s, s', h, hz, g' + 1 => by simp at h; subst h; simp [segOff, hz]
  | t :: r, g + 1, s, s', h, hz, 0 => rfl
  | t :: r, g + 1, s, s', h, hz, g' + 1 => by simp [segOff, segOff_set r g s s' (by simpa using h) hz g']
theorem shp_obj (ss : List Seg) (g : Nat) : shp (.obj ss) g = (ss[g]?).map fun s => (segOff ss g, s.kind.1, s.kind.2) := by
  simp only [shp]
  cases ss[g]? with
  | none => rfl
  | some s => cases s <;> rfl
theorem shp_set (ss : List Seg) (g : Nat) (s s' : Seg) (h : ss[g]? = some s) (hz : s'.size = s.size) (hk : s'.kind = s.kind) (g' : Nat) : shp (.obj (ss.set g s')) g' = shp (.obj ss) g' := by
  rw [shp_obj, shp_obj, segOff_set ss g s s' h hz]
  by_cases hg : g' = g
  · subst hg
    have : g' < ss.length := (List.getElem?_eq_some_iff.1 h).1
    simp [this] at h ⊢
    rw [hk, h]; exact ⟨rfl, rfl⟩
  · rw [List.getElem?_set_ne (Ne.symm hg)]
theorem segsOk_set {ss : List Seg} (h : segsOk Ww Ll ss) (g : Nat) {s : Seg} (hs : segOk Ww Ll s) : segsOk Ww Ll (ss.set g s) := fun t ht => by
  rcases List.mem_or_eq_of_mem_set ht with h' | rfl
  · exact h t h'
  · exact hs

theorem nest_splice {α : Type} (c F : List α) (p i n : Nat) (u : α) (hF : F.length = n) (hsub : ∀ j, j < n → c[p + j]? = F[j]?) (hi : i < n) (hc : p + n ≤ c.length) :
    c.take p ++ (F.take i ++ [u] ++ F.drop (i + 1)) ++ c.drop (p + n) = c.take (p + i) ++ [u] ++ c.drop (p + i + 1) := by
  have hFe : F = (c.drop p).take n := by
    apply List.ext_getElem?
    intro j
    by_cases hj : j < n
    · rw [← hsub j hj, List.getElem?_take_of_lt hj, List.getElem?_drop]
    · rw [List.getElem?_eq_none (by omega), List.getElem?_eq_none (by simp; omega)]
  subst hFe
  rw [List.take_add, List.take_take, Nat.min_eq_left (by omega), List.drop_take, List.drop_drop]
  have e : c.drop (p + i + 1) = (c.drop (p + (i + 1))).take (n - (i + 1)) ++ c.drop (p + n) := by
    have e1 : c.drop (p + n) = (c.drop (p + (i + 1))).drop (n - (i + 1)) := by rw [List.drop_drop]; congr 1; omega
    rw [e1, List.take_append_drop, Nat.add_assoc]
  rw [e]
  simp
/-- a part of an owned slice is turned -/
theorem upd_own (h : Sim X w0 S a w loc) {k i : Nat} {C : Cod} {l l' : List C.α} (hs : get S k = .own C l) {b o : Nat} (hl : loc k 0 = some (b, o)) (vs : List Value)
    (hlen : l'.length = l.length) (hfl : flat C l' = (flat C l).take i ++ vs ++ (flat C l).drop (i + vs.length)) (hi : i + vs.length ≤ (flat C l).length) :
    ∃ cur e fr, w.heap[b]? = some (.cells cur e fr) ∧ Harm fr cur.size ∧ o + i + vs.length ≤ cur.size ∧ Sim X w0 (S.set k (.own C l')) a (w.setRow b (Px.splice cur (o + i) vs)) loc := by
  obtain ⟨v, h1, h2, h3⟩ := opd_get h hs (by simp)
  rcases h3 with ⟨q4, _⟩ | ⟨b', o2, cap, cur, e, fr, q4, q5, q6, q7, q8, q9, q11, q12⟩
  · rw [hl] at q4; cases q4
  · rw [hl] at q4; cases q4
    have hfit : o + (flat C l).length ≤ cur.size := by
      rw [flat_length]; exact Nat.le_trans (Nat.add_le_add_left (Nat.mul_le_mul_right _ q9) _) q11
    refine ⟨cur, e, fr, q7, q8, by omega, h.upd (by rw [hs]; rfl) hl q7 (splice_size (by omega)) (fun g => ?_) (by rw [hs]; rfl) rfl rfl (fun u hu => ?_)⟩
    · rw [hs]; cases g <;> simp [shp, hlen]
    · rw [h1] at hu; cases hu
      refine .inr ⟨b, o, cap, _, e, fr, hl, by rw [hlen]; exact q5, q6, setRow_heap w b cur _ e fr q7, by rw [splice_size (by omega)]; exact q8, by omega, by rw [splice_size (by omega)]; exact q11, ?_⟩
      rw [hfl]
      exact q12.splice hi hfit
theorem upd_spr (h : Sim X w0 S a w loc) {k i : Nat} {C : Cod} {l l' : List C.α} {n : Nat} (hs : get S k = .spr C l n) {b o : Nat} (hl : loc k 0 = some (b, o)) (vs : List Value)
    (hlen : l'.length = l.length) (hfl : flat C l' = (flat C l).take i ++ vs ++ (flat C l).drop (i + vs.length)) (hi : i + vs.length ≤ (flat C l).length) :
    ∃ cur e fr, w.heap[b]? = some (.cells cur e fr) ∧ Harm fr cur.size ∧ o + i + vs.length ≤ cur.size ∧ Sim X w0 (S.set k (.spr C l' n)) a (w.setRow b (Px.splice cur (o + i) vs)) loc := by
  obtain ⟨v, h1, h2, h3⟩ := opd_get h hs (by simp)
  obtain ⟨q0, b', o2, cur, e, fr, q4, q5, q6, q7, q8, q11, q12⟩ := h3
  rw [hl] at q4; cases q4
  have hfit : o + (flat C l).length ≤ cur.size := by rw [flat_length]; exact q11
  refine ⟨cur, e, fr, q7, q8, by omega, h.upd (by rw [hs]; rfl) hl q7 (splice_size (by omega)) (fun g => ?_) (by rw [hs]; rfl) rfl rfl (fun u hu => ?_)⟩
  · rw [hs]; cases g <;> simp [shp, hlen]
  · rw [h1] at hu; cases hu
    refine ⟨by rw [hlen]; exact q0, b, o, _, e, fr, hl, by rw [hlen]; exact q5, q6, setRow_heap w b cur _ e fr q7, by rw [splice_size (by omega)]; exact q8, by rw [hlen, splice_size (by omega)]; exact q11, ?_⟩
    rw [hfl]
    exact q12.splice hi hfit
/-- a part of a variable is turned -/
theorem upd_obj (h : Sim X w0 S a w loc) {k i : Nat} {ss ss' : List Seg} (hs : get S k = .obj ss) {b o : Nat} (hl : loc k 0 = some (b, o)) (vs : List Value)
    (hsh : ∀ g, shp (.obj ss') g = shp (.obj ss) g) (hok : segsOk w X.Low ss') (hfl : segCells ss' = (segCells ss).take i ++ vs ++ (segCells ss).drop (i + vs.length)) (hi : i + vs.length ≤ (segCells ss).length) :
    o = 0 ∧ ∃ e fr, w.heap[b]? = some (.cells (segCells ss).toArray e fr) ∧ Harm fr (segCells ss).toArray.size ∧ i + vs.length ≤ (segCells ss).toArray.size ∧
      Sim X w0 (S.set k (.obj ss')) a (w.setRow b (Px.splice (segCells ss).toArray i vs)) loc := by
  obtain ⟨v, h1, h2, h3⟩ := opd_get h hs (by simp)
  obtain ⟨b', cur, e, fr, q1, q2, q3, q4, q5, q6, q7⟩ := h3
  rw [hl] at q1; cases q1
  subst q7
  have hspl : Px.splice (segCells ss).toArray i vs = (segCells ss').toArray := by simp [Px.splice, hfl]
  refine ⟨rfl, e, fr, q4, q5, by simpa using hi, h.upd (by rw [hs]; rfl) hl q4 (splice_size (by simpa using hi)) (fun g => by rw [hs]; exact hsh g) (by rw [hs]; rfl) rfl rfl (fun u hu => ?_)⟩
  rw [h1] at hu; cases hu
  exact ⟨b, _, e, fr, hl, q2, q3, setRow_heap w b _ _ e fr q4, by rw [splice_size (by simpa using hi)]; exact q5, hok.frame fun c hc => setRow_other w b c _ (Cx.low_mine hc q3), hspl⟩

theorem run_store_cells {t : TypeId} {i : TI} (ht : TOk X.P t i) {b o : Nat} {v : Value} {cur : Array Value} {e : TypeId} {fr : Nat × Nat} (hb : w.heap[b]? = some (.cells cur e fr)) (hh : Harm fr cur.size)
    (hsz : v.cells.size = i.size) (hfit : o + v.cells.size ≤ cur.size) (h1 : ∀ u ∈ v.cells.toList, oneC u = true) :
    (Instr.storeAt t (.pointer (some ⟨b, o, none⟩)) v).run X.P w = .ok () (w.setRow b (Px.splice cur o v.cells.toList)) := by
  have := run_storeCells X.P b o e fr v.cells.toList 0 cur w hb hh (by simpa using hfit) h1
  simp [Instr.storeAt, Instr.sureAddr, storeVar, sizeOf_run ht, hsz, this]
theorem run_store' {t : TypeId} {x y : Operand} (ho : o.op = .store t x y) {v u : Value} {w' : World} (hx : a.eval x = v) (hy : a.eval y = u) (hl : (Instr.storeAt t v u).run X.P w = .ok () w') : (execOp a.eval o).run X.P w = .ok .skip w' := by
  simp [execOp, ho, hx, hy, hl]
theorem T0.dec_ok {t : T0} {v : Value} {y : t.α} (h : t.dec v = some y) : t.val y = v := by
  cases t <;> cases v <;> simp [T0.dec] at h
  · obtain ⟨rfl, rfl⟩ := h; rfl
  · subst h; rfl
  · subst h; rfl
theorem cells_sc {v : Value} (h : oneC v = true) : v.cells = #[v] := oneC_cells h
theorem size_kind (s : Seg) : s.size = s.kind.1 * s.kind.2 := by
  cases s with
  | one v => rfl
  | arr C n l => exact Nat.mul_comm _ _
  | ro a cap C l => rfl
theorem shp_kind (ss : List Seg) (g : Nat) : shp (.obj ss) g = (ss[g]?).map fun s => (segOff ss g, s.kind.1, s.kind.2) := by
  simp only [shp]
  cases ss[g]? with
  | none => rfl
  | some s => cases s <;> rfl
theorem kinds_off : (ss ss' : List Seg) → ss'.map Seg.kind = ss.map Seg.kind → ∀ g, segOff ss' g = segOff ss g
  | [], [], _, _ => rfl
  | [], _ :: _, h, _ => by simp at h
  | _ :: _, [], h, _ => by simp at h
  | a :: ss, b :: ss', h, 0 => by simp [segOff]
  | a :: ss, b :: ss', h, g + 1 => by
    simp only [List.map_cons, List.cons.injEq] at h
    simp only [segOff, kinds_off ss ss' h.2 g, size_kind, h.1]
theorem kinds_shp {ss ss' : List Seg} (h : ss'.map Seg.kind = ss.map Seg.kind) (g : Nat) : shp (.obj ss') g = shp (.obj ss) g := by
  have hk : (ss'[g]?).map Seg.kind = (ss[g]?).map Seg.kind := by rw [← List.getElem?_map, ← List.getElem?_map, h]
  rw [shp_kind, shp_kind, kinds_off ss ss' h g]
  cases h1 : ss'[g]? <;> cases h2 : ss[g]? <;> rw [h1, h2] at hk <;> simp at hk ⊢
  rw [hk]; exact ⟨rfl, rfl⟩
theorem seg_len {s : Seg} (h : segOk Ww Ll s) : s.cells.length = s.size := by
  cases s with
  | one v => rfl
  | arr C n l => simp only [Seg.cells, Seg.size, flat_length]; rw [show l.length = n from h]
  | ro a cap C l => rfl
theorem kinds_len : (ss ss' : List Seg) → ss'.map Seg.kind = ss.map Seg.kind → segsOk Ww Ll ss' → segsOk Ww Ll ss → (segCells ss').length = (segCells ss).length
  | [], [], _, _, _ => rfl
  | [], _ :: _, h, _, _ => by simp at h
  | _ :: _, [], h, _, _ => by simp at h
  | a :: ss, b :: ss', h, h1, h2 => by
    simp only [List.map_cons, List.cons.injEq] at h
    have ih := kinds_len ss ss' h.2 (fun s hs => h1 s (by simp [hs])) (fun s hs => h2 s (by simp [hs]))
    have e1 := seg_len (h1 b (by simp))
    have e2 := seg_len (h2 a (by simp))
    simp only [segCells, List.flatMap_cons, List.length_append] at ih ⊢
    rw [ih, e1, e2, size_kind, size_kind, h.1]
theorem segs1_oneC {ss : List Seg} (h : segs1 ss = true) : ∀ v ∈ segCells ss, oneC v = true := fun v hv => by
  simp only [segCells, List.mem_flatMap] at hv
  obtain ⟨s, hs, hv⟩ := hv
  have := List.all_eq_true.1 h s hs
  cases s with
  | one u => simp only [Seg.cells, List.mem_singleton] at hv; subst hv; exact this
  | arr C n l => exact flat_oneC C l v hv
  | ro a cap C l => simp only [Seg.cells, List.mem_singleton] at hv; subst hv; rfl
theorem evStore_ok {t : TypeId} {x y : Operand} {p q : PV} {v u : Value} (hE : EnvOk X E) (h : Sim X w0 S a w loc) (ho : o.op = .store t x y) (hx : a.eval x = v) (hy : a.eval y = u)
    (hp : Rep X w S a.tmps loc (fun _ => none) p v) (hown : ∀ k, p.ref = some k → (get S k).owns = true) (hq : q.owns = false → Rep X w S a.tmps loc (fun _ => none) q u)
    (hr : evStore E S t p q (fun S' => fin o.dst K (.raw undef) S') = some r) : o.wp X.P a w (Post X w0 K r) Q := by
  unfold evStore at hr
  cases hti : E.T t with
  | none => rw [hti] at hr; cases hr
  | some ti =>
    rw [hti] at hr
    have ht := hE.T t ti hti
    dsimp only at hr
    cases p with
    | alias k =>
      dsimp only at hr
      have hv := alias_val h hp (hown k rfl)
      split at hr
      · rename_i C n l0 C' n' l' hs
        split at hr
        · rename_i hc
          obtain ⟨rfl, rfl, hc3⟩ := hc
          have hq := hq rfl
          obtain ⟨hl', hu⟩ := hq
          rw [hs] at hv
          obtain ⟨b, cur, e, fr, g1, g2, g3, g4, g5, g6, g7⟩ := hv
          have hl0 : l0.length = n := g6 (.arr C n l0) (by simp)
          have e0 : segCells [Seg.arr C n l0] = flat C l0 := by simp [segCells, Seg.cells]
          have e1 : segCells [Seg.arr C n l'] = flat C l' := by simp [segCells, Seg.cells]
          have hlen : (flat C l').length = (flat C l0).length := by rw [flat_length, flat_length, hl', hl0]
          obtain ⟨_, e2, fr2, q1, q2, q3, q4⟩ := upd_obj h hs g1 (i := 0) (ss' := [.arr C n l']) (flat C l') (fun g => by cases g <;> simp [shp, segOff]) (fun s hs => by simp at hs; subst hs; exact hl')
            (by rw [e1, e0, hlen]; simp) (by rw [e0, hlen]; simp)
          have hcu : u.cells = (flat C l').toArray := by rw [hu]; rfl
          refine wp_stored (loc' := loc) (run_store' ho (hx.trans g2) hy (run_store_cells ht q1 q2 (by rw [hcu]; simp [flat_length, hl', hc3]) (by rw [hcu]; simpa using q3) (by rw [hcu]; exact flat_oneC C l'))) ?_ hr
          rw [hcu]
          exact q4
        · cases hr
      · rename_i v0 u' hs
        split at hr
        · rename_i hc
          obtain ⟨hc1, hc2⟩ := hc
          have hu : u = u' := hq rfl
          rw [hs] at hv
          obtain ⟨b, cur, e, fr, g1, g2, g3, g4, g5, g6, g7⟩ := hv
          obtain ⟨_, e2, fr2, q1, q2, q3, q4⟩ := upd_obj h hs g1 (i := 0) (ss' := [.one u']) [u'] (fun g => by cases g <;> simp [shp, segOff]) (fun s hs => by simp at hs; subst hs; exact oneC_cells hc1)
            (by simp [segCells, Seg.cells]) (by simp [segCells, Seg.cells])
          refine wp_stored (loc' := loc) (run_store' ho (hx.trans g2) (hy.trans hu) (run_store_cells ht q1 q2 (by rw [oneC_cells hc1, hc2]; rfl) (by rw [oneC_cells hc1]; simpa using q3) (by rw [oneC_cells hc1]; simpa using hc1))) ?_ hr
          rw [oneC_cells hc1]; exact q4
        · cases hr
      · rename_i _ _ ss ss' hs
        split at hr
        · rename_i hc
          obtain ⟨hk, h1, h2⟩ := hc
          obtain ⟨hok', hu⟩ := hq rfl
          rw [hs] at hv
          obtain ⟨b, cur, e, fr, g1, g2, g3, g4, g5, g6, g7⟩ := hv
          have hlen := kinds_len ss ss' hk hok' g6
          obtain ⟨_, e2, fr2, q1, q2, q3, q4⟩ := upd_obj h hs g1 (i := 0) (ss' := ss') (segCells ss') (kinds_shp hk) hok' (by rw [hlen]; simp) (by rw [hlen]; simp)
          have hcu : u.cells = (segCells ss').toArray := by rw [hu]; rfl
          refine wp_stored (loc' := loc) (run_store' ho (hx.trans g2) hy (run_store_cells ht q1 q2 (by rw [hcu, List.size_toArray, segCells_length ss' hok']; exact h2.symm) (by rw [hcu]; simpa using q3) (by rw [hcu]; simpa using segs1_oneC h1))) ?_ hr
          rw [hcu]
          simpa using q4
        · cases hr
      · cases hr
    | ptr k g idx f =>
      cases f with
      | succ f => cases hr
      | zero =>
      split at hr
      · rename_i hs; cases hs
      · rename_i k2 g2 idx2 hs; cases hs
        obtain ⟨base, sz, cnt, b, o', e1, e2, e3, e4, e5⟩ := hp
        simp only [Nat.add_zero] at e5
        split at hr
        · rename_i c l hs
          rw [hs] at e1
          split at hr
          · rename_i hsz
            split at hr
            · rename_i u'
              have hu : u = u' := hq rfl
              cases g with
              | succ g => simp [shp] at e1
              | zero =>
                simp [shp] at e1
                obtain ⟨rfl, rfl, rfl⟩ := e1
                cases hd : c.dec u' with
                | none => rw [hd] at hr; cases hr
                | some y' =>
                  rw [hd] at hr
                  simp only [Option.bind_some] at hr
                  have hval := T0.dec_ok hd
                  have hone : oneC u' = true := by rw [← hval]; exact c.val_oneC y'
                  obtain ⟨cur, e, fr, q1, q2, q3, q4⟩ := upd_own h hs e2 (i := idx * 1) (l' := l.set idx y') [u'] (by simp)
                    (by have := flat_set (.sc c) l idx y' e3; simp only [Cod.sz, Cod.cells, hval] at this; exact this)
                    (by rw [flat_length]; simp [Cod.sz]; omega)
                  simp only [Cod.sz, Nat.mul_one, Nat.add_zero] at e5 q3 q4
                  refine wp_stored (loc' := loc) (run_store' ho (hx.trans e5) (hy.trans hu) (run_store_cells ht q1 q2 (by rw [oneC_cells hone, hsz]; rfl) (by rw [oneC_cells hone]; simpa using q3) (by rw [oneC_cells hone]; simpa using hone))) ?_ hr
                  rw [oneC_cells hone]; exact q4
            · cases hr
          · cases hr
        · rename_i ss hs
          rw [hs] at e1
          have hok : segsOk w X.Low ss := by
            obtain ⟨v', _, _, h3⟩ := opd_get h hs (by simp)
            obtain ⟨_, _, _, _, _, _, _, _, _, g6, _⟩ := h3
            exact g6
          have hcl : ∀ (s : Seg), ss[g]? = some s → ∀ j, j ≤ s.size → segOff ss g + j ≤ (segCells ss).length := fun s hs' j hj => by
            have : ∀ (ss : List Seg) (g : Nat), segsOk w X.Low ss → ss[g]? = some s → segOff ss g + s.size ≤ (segCells ss).length := by
              intro ss
              induction ss with
              | nil => intro g _ h; simp at h
              | cons t r ih =>
                intro g ho h
                have hs := Seg.size_ok (ho t (by simp))
                cases g with
                | zero => simp at h; subst h; simp [segOff, segCells, hs]
                | succ g =>
                  have := ih g (fun x hx => ho x (by simp [hx])) (by simpa using h)
                  simp [segOff, segCells, hs] at this ⊢; omega
            have := this ss g hok hs'
            omega
          split at hr
          · rename_i u0 hg
            simp [shp, hg] at e1
            obtain ⟨rfl, rfl, rfl⟩ := e1
            obtain rfl : idx = 0 := by omega
            split at hr
            · rename_i hsz
              split at hr
              · rename_i u'
                have hu : u = u' := hq rfl
                split at hr
                · rename_i hone
                  obtain ⟨rfl, e, fr, q1, q2, q3, q4⟩ := upd_obj h hs e2 (i := segOff ss g) (ss' := ss.set g (.one u')) [u'] (shp_set ss g _ _ hg rfl rfl) (segsOk_set hok g (oneC_cells hone))
                    (segCells_set ss hok g _ _ hg rfl) (by have := hcl _ hg 1 (Nat.le_refl _); simpa using this)
                  simp only [Nat.zero_add, Nat.zero_mul, Nat.add_zero] at e5
                  refine wp_stored (loc' := loc) (run_store' ho (hx.trans e5) (hy.trans hu) (run_store_cells ht q1 q2 (by rw [oneC_cells hone, hsz]; rfl) (by rw [oneC_cells hone]; simpa using q3) (by rw [oneC_cells hone]; simpa using hone))) ?_ hr
                  rw [oneC_cells hone]; exact q4
                · cases hr
              · cases hr
            · cases hr
          · rename_i c n l hg
            have hl : l.length = n := hok _ (List.mem_of_getElem? hg)
            simp [shp, hg] at e1
            obtain ⟨rfl, rfl, rfl⟩ := e1
            split at hr
            · rename_i u'
              have hu : u = u' := hq rfl
              split at hr
              · rename_i hsz
                cases hd : c.dec u' with
                | none => rw [hd] at hr; cases hr
                | some y' =>
                  rw [hd] at hr
                  simp only [Option.bind_some] at hr
                  have hval := T0.dec_ok hd
                  have hone : oneC u' = true := by rw [← hval]; exact c.val_oneC y'
                  have hcs := segCells_set ss hok g _ (.arr (.sc c) n (l.set idx y')) hg (by simp [Seg.cells, Seg.size, flat_length, hl])
                  have hidx : segOff ss g + idx + 1 ≤ (segCells ss).length := by
                    have := hcl _ hg (idx + 1) (by simp [Seg.size, Cod.sz]; omega); omega
                  have hfs := flat_set (.sc c) l idx y' (by omega)
                  simp only [Cod.sz, Cod.cells, hval, Nat.mul_one, List.length_singleton] at hfs
                  have hsl : ∀ j, j < n → (segCells ss)[segOff ss g + j]? = (flat (.sc c) l)[j]? := fun j hj => segCells_at ss hok g _ hg j (by simp [Seg.size, Cod.sz]; omega)
                  have hfln : (flat (.sc c) l).length = n := by rw [flat_length, hl]; simp [Cod.sz]
                  obtain ⟨rfl, e, fr, q1, q2, q3, q4⟩ := upd_obj h hs e2 (i := segOff ss g + idx) (ss' := ss.set g (.arr (.sc c) n (l.set idx y'))) [u'] (shp_set ss g _ _ hg rfl rfl) (segsOk_set hok g (by simpa [segOk] using hl))
                    (by
                      rw [hcs]
                      simp only [Seg.cells]
                      rw [hfs]
                      have hlen5 : (List.take idx (flat (.sc c) l) ++ [u'] ++ List.drop (idx + 1) (flat (.sc c) l)).length = n := by simp; omega
                      rw [hlen5]
                      exact nest_splice _ _ _ _ n u' hfln (fun j hj => hsl j hj) (by omega) (by have := hcl _ hg n (by simp [Seg.size, Cod.sz]); omega))
                    (by simpa using hidx)
                  simp only [Nat.zero_add, Cod.sz, Nat.mul_one] at e5
                  refine wp_stored (loc' := loc) (run_store' ho (hx.trans e5) (hy.trans hu) (run_store_cells ht q1 q2 (by rw [oneC_cells hone, hsz]; rfl) (by rw [oneC_cells hone]; simpa using q3) (by rw [oneC_cells hone]; simpa using hone))) ?_ hr
                  rw [oneC_cells hone]; exact q4
              · cases hr
            · rename_i C' n' l'
              split at hr
              · rename_i hc
                obtain ⟨hc1, rfl, hc3, rfl⟩ := hc
                subst hc1
                obtain ⟨hl', hu⟩ := hq rfl
                have hcs := segCells_set ss hok g _ (.arr (.sc c) n l') hg (by simp [Seg.cells, Seg.size, flat_length, hl'])
                obtain ⟨rfl, e, fr, q1, q2, q3, q4⟩ := upd_obj h hs e2 (i := segOff ss g) (ss' := ss.set g (.arr (.sc c) n l')) (flat (.sc c) l') (shp_set ss g _ _ hg rfl rfl) (segsOk_set hok g hl')
                  (by rw [hcs]; rfl) (by have := hcl _ hg n (by simp [Seg.size, Cod.sz]); simpa [flat_length, hl', Cod.sz] using this)
                simp only [Nat.zero_add, Nat.zero_mul, Nat.add_zero] at e5
                have hcu : u.cells = (flat (.sc c) l').toArray := by rw [hu]; rfl
                refine wp_stored (loc' := loc) (run_store' ho (hx.trans e5) hy (run_store_cells ht q1 q2 (by rw [hcu]; simp [flat_length, hl', hc3, Cod.sz]) (by rw [hcu]; simpa using q3) (by rw [hcu]; exact flat_oneC _ l'))) ?_ hr
                rw [hcu]
                exact q4
              · cases hr
            · cases hr
          · cases hr
        · cases hr
      · cases hr
    | _ => cases hr
end
end Go.Px

/- Addresses, pieces, texts. -/
namespace Go.Px
open Go Go.RowKit

section
variable {X : Cx} {ρ : Type} {w0 : World} {S : St} {a : Act} {w : World} {loc : Nat → Nat → Option (Nat × Nat)} {E : Env ρ} {K : St → Option ρ} {r : ρ} {o : Oper} {Q : Exit → Act → World → Prop}

theorem asI_val (h : Sim X w0 S a w loc) {x : Operand} {n : Int} (hx : asI (opd S x) = some n) : ∃ k, a.eval x = .int k n := by
  unfold asI at hx
  split at hx
  · rename_i k m hm
    cases hx
    exact ⟨k, opd_raw h hm⟩
  · cases hx
theorem esz_ok (hE : EnvOk X E) {t : TypeId} {n : Nat} (h : esz E t = some n) (w : World) : (Go.sizeOf t).run X.P w = .ok n w := by
  unfold esz at h
  cases ht : E.T t with
  | none => rw [ht] at h; cases h
  | some i => rw [ht] at h; simp at h; rw [sizeOf_run (hE.T t i ht), h]
theorem inB_iff {i n : Int} (h : inB i n = true) : 0 ≤ i ∧ i < n := by simpa [inB] using h
theorem leB_iff {i n : Int} (h : leB i n = true) : i ≤ n := by simpa [leB] using h

theorem run_indexAt_arr {P : Program} {t e : TypeId} {n sz : Nat} (hu : P.underlying t = some (.array n e)) (hs : ∀ w : World, (Go.sizeOf e).run P w = .ok sz w) {b off : Nat} {k : IntKind} {i : Int} (hi : 0 ≤ i ∧ i < n) (w : World) :
    (Instr.indexAt t (.pointer (some ⟨b, off, none⟩)) (.int k i)).run P w = .ok (.pointer (some ⟨b, off + i.toNat * sz, none⟩)) w := by
  simp [Instr.indexAt, asIntOf, run_underlying hu, Instr.sureAddr, hi.1, hi.2, hs, add_lit]
theorem run_indexAt_sl {P : Program} {t e : TypeId} {n sz c : Nat} (hu : P.underlying t = some (.slice e)) (hs : ∀ w : World, (Go.sizeOf e).run P w = .ok sz w) {b off : Nat} {k : IntKind} {i : Int} (hi : 0 ≤ i ∧ i < n) (w : World) :
    (Instr.indexAt t (.slice (some ⟨b, off, none⟩) n c) (.int k i)).run P w = .ok (.pointer (some ⟨b, off + i.toNat * sz, none⟩)) w := by
  simp [Instr.indexAt, asIntOf, run_underlying hu, hi.1, hi.2, hs, add_lit]
theorem run_ix {t : TypeId} {x y : Operand} (ho : o.op = .indexAddr t x y) {v u z : Value} (hx : a.eval x = v) (hy : a.eval y = u) (hl : (Instr.indexAt t v u).run X.P w = .ok z w) : (execOp a.eval o).run X.P w = .ok (.value z) w := by
  simp [execOp, ho, hx, hy, hl]
theorem run_arrAt {t : TypeId} {x : Operand} (ho : o.op = .sliceToArrayPointer t x) {n : Nat} {e : TypeId} (ht : X.P.underlying t = some (.array n e)) {ad : Option Addr} {len cap : Nat} (hx : a.eval x = .slice ad len cap) (hl : n ≤ len) : (execOp a.eval o).run X.P w = .ok (.value (.pointer ad)) w := by
  have h1 : ¬ len < n := by omega
  simp [execOp, ho, hx, Instr.arrayAt, run_underlying ht, h1]
theorem evArrAt_ok {t : TypeId} {x : Operand} {p : PV} {v : Value} (hE : EnvOk X E) (h : Sim X w0 S a w loc) (ho : o.op = .sliceToArrayPointer t x) (hx : a.eval x = v)
    (hp : Rep X w S a.tmps loc (fun _ => none) p v) (hown : ∀ k, p.ref = some k → (get S k).owns = true) (hr : evArrAt E S t p (fun q => fin o.dst K q S) = some r) : o.wp X.P a w (Post X w0 K r) Q := by
  unfold evArrAt at hr
  cases hti : E.T t with
  | none => rw [hti] at hr; cases hr
  | some ti =>
    rw [hti] at hr
    have ht := hE.T t ti hti
    dsimp only at hr
    split at hr
    · rename_i n e hd
      have hu := ht.und
      rw [hd] at hu
      split at hr
      · rename_i k g off len
        split at hr
        · rename_i C l hg
          split at hr
          · rename_i hc
            obtain ⟨hle, hr⟩ := chk_some hr
            have hle : n ≤ len := of_decide_eq_true hle
            obtain ⟨base, sz, cnt, e1, e2, e3⟩ := hp
            have hsz : sz = C.sz := by
              rw [hg] at e1
              cases g with
              | zero => simp [shp] at e1; exact e1.2.1.symm
              | succ g => simp [shp] at e1
            rcases e3 with ⟨_, _, q⟩ | ⟨b, o1, o2, cap, q1, q2, q3, q4, _⟩
            · omega
            · have q4 : o2 = o1 + base + off * sz := by rcases q4 with q4 | q4 <;> omega
              refine wp0 (p := .ptr k g off 0) (run_arrAt ho hu (hx.trans q2) hle) h hr rfl ⟨base, sz, cnt, b, o1, e1, q1, by omega, by omega, by rw [q4]; rfl⟩ (fun k' hk' => by cases hk'; exact hown k rfl)
          · cases hr
        · cases hr
      · cases hr
    · cases hr
theorem evIndexAddr_ok {t : TypeId} {x y : Operand} {p : PV} {v : Value} {i : Int} {ki : IntKind} (hE : EnvOk X E) (h : Sim X w0 S a w loc) (ho : o.op = .indexAddr t x y) (hx : a.eval x = v) (hy : a.eval y = .int ki i)
    (hp : Rep X w S a.tmps loc (fun _ => none) p v) (hown : ∀ k, p.ref = some k → (get S k).owns = true) (hr : evIndexAddr E S t p i (fun q => fin o.dst K q S) = some r) : o.wp X.P a w (Post X w0 K r) Q := by
  unfold evIndexAddr at hr
  cases hti : E.T t with
  | none => rw [hti] at hr; cases hr
  | some ti =>
    rw [hti] at hr
    have ht := hE.T t ti hti
    dsimp only at hr
    split at hr
    · rename_i n e k hd
      have hu := ht.und
      rw [hd] at hu
      split at hr
      · rename_i C n' l hs
        split at hr
        · rename_i hc
          obtain ⟨rfl, hc1, hc2⟩ := hc
          obtain ⟨hi, hr⟩ := chk_some hr
          have hi := inB_iff hi
          have hv := alias_val h hp (hown k rfl)
          rw [hs] at hv
          obtain ⟨b, cur, e', fr, g1, g2, g3, g4, g5, g6, g7⟩ := hv
          exact wp0 (run_ix ho (hx.trans g2) hy (run_indexAt_arr hu (esz_ok hE hc1) hi w)) h hr rfl
            ⟨0, C.sz, n, b, 0, by rw [hs]; rfl, g1, by omega, hc2, by simp⟩ (fun k' hk' => by cases hk'; exact hown k rfl)
        · cases hr
      · cases hr
    · rename_i n e g hd
      have hu := ht.und
      rw [hd] at hu
      rw [hE.G] at hr
      split at hr
      · rename_i C n' l hs
        split at hr
        · rename_i hc
          obtain ⟨rfl, hc1, hc2⟩ := hc
          obtain ⟨hi, hr⟩ := chk_some hr
          have hi := inB_iff hi
          have hv : v = .pointer (some ⟨g, 0, none⟩) := hp
          exact wp0 (run_ix ho (hx.trans hv) hy (run_indexAt_arr hu (esz_ok hE hc1) hi w)) h hr rfl
            ⟨_, 0, C.sz, n, hs, rfl, by omega, hc2, by simp⟩ (fun k' hk' => by cases hk')
        · cases hr
      · cases hr
    · rename_i n e k g hd
      have hu := ht.und
      rw [hd] at hu
      split at hr
      · rename_i ss hs
        split at hr
        · rename_i C n' l hg
          split at hr
          · rename_i hc
            obtain ⟨rfl, hc1, hc2⟩ := hc
            obtain ⟨hi, hr⟩ := chk_some hr
            have hi := inB_iff hi
            obtain ⟨base, sz, cnt, b, o', e1, e2, e3, e4, e5⟩ := hp
            have e1' := e1
            rw [hs] at e1'
            simp [shp, hg] at e1'
            obtain ⟨q1, q2, q3⟩ := e1'
            simp only [Nat.zero_mul, Nat.add_zero] at e5
            exact wp0 (run_ix ho (hx.trans e5) hy (run_indexAt_arr hu (esz_ok hE hc1) hi w)) h hr rfl
              ⟨base, sz, cnt, b, o', e1, e2, by omega, e4, by rw [← q2]; simp⟩ (fun k' hk' => by cases hk'; exact hown k rfl)
          · cases hr
        · cases hr
      · cases hr
    · rename_i e k hd
      have hu := ht.und
      rw [hd] at hu
      split at hr
      · rename_i C l hs
        split at hr
        · rename_i hc
          obtain ⟨hc1, hc2⟩ := hc
          obtain ⟨hi, hr⟩ := chk_some hr
          have hi := inB_iff hi
          have hv := alias_val h hp (hown k rfl)
          rw [hs] at hv
          rcases hv with ⟨_, _, rfl⟩ | ⟨b, o2, cap, cur, e', fr, q4, q5, q6, q7, q8, q9, q11, q12⟩
          · simp at hi; omega
          · exact wp0 (run_ix ho (hx.trans q5) hy (run_indexAt_sl hu (esz_ok hE hc1) hi w)) h hr rfl
              ⟨0, C.sz, l.length, b, o2, by rw [hs]; rfl, q4, by omega, hc2, by simp⟩ (fun k' hk' => by cases hk'; exact hown k rfl)
        · cases hr
      · cases hr
    · rename_i e k g off len hd
      have hu := ht.und
      rw [hd] at hu
      split at hr
      · rename_i base' sz cnt' hs
        split at hr
        · rename_i hc
          obtain ⟨hc1, hc2⟩ := hc
          obtain ⟨hi, hr⟩ := chk_some hr
          have hi := inB_iff hi
          obtain ⟨base, sz', cnt, e1, e2, e3⟩ := hp
          rw [hs] at e1; cases e1
          rcases e3 with ⟨_, _, rfl⟩ | ⟨b, o2, o3, cap, q1, q2, q3, q4, q5, q6⟩
          · simp at hi; omega
          · have q4 := q4.resolve_left (by intro e0; subst e0; simp at hi; omega)
            exact wp0 (run_ix ho (hx.trans q2) hy (run_indexAt_sl hu (esz_ok hE hc1) hi w)) h hr rfl
              ⟨base', sz, cnt', b, o2, hs, q1, by omega, hc2, by rw [q4, Nat.add_mul]; simp [Nat.add_assoc]⟩ (fun k' hk' => by cases hk'; exact hown k rfl)
        · cases hr
      · cases hr
    · rename_i e C l hd
      have hu := ht.und
      rw [hd] at hu
      split at hr
      · rename_i hc
        obtain ⟨hc1, hc2⟩ := hc
        obtain ⟨hi, hr⟩ := chk_some hr
        have hi := inB_iff hi
        obtain ⟨ad, cap, q1, q2, q3⟩ := hp
        rcases q3 with rfl | ⟨b, o2, cur, e', fr, rfl, q5, q6, q7⟩
        · simp at hi; omega
        · exact wp0 (run_ix ho (hx.trans q1) hy (run_indexAt_sl hu (esz_ok hE hc1) hi w)) h hr rfl
            ⟨b, o2, cur, e', fr, by omega, hc2, by simp, q5, q6, q7⟩ (fun k' hk' => by cases hk')
      · cases hr
    · cases hr

theorem run_fieldAt {P : Program} {t : TypeId} {fs : Array Field} {f : Nat} {fd : Field} {sz : Nat} (hu : P.underlying t = some (.struct fs)) (hf : fs[f]? = some fd) (hs : ∀ w : World, (Go.sizeOf fd.type).run P w = .ok sz w) (hz : sz ≠ 0) {b off : Nat} (w : World) :
    (Instr.fieldAt t (.pointer (some ⟨b, off, none⟩)) f).run P w = .ok (.pointer (some ⟨b, off + fd.offset, none⟩)) w := by
  simp [Instr.fieldAt, run_underlying hu, hf, Instr.sureAddr, fieldPlace, hs, hz, add_lit]
theorem run_fa {t : TypeId} {x : Operand} {f : Nat} (ho : o.op = .fieldAddr t x f) {v z : Value} (hx : a.eval x = v) (hl : (Instr.fieldAt t v f).run X.P w = .ok z w) : (execOp a.eval o).run X.P w = .ok (.value z) w := by
  simp [execOp, ho, hx, hl]
theorem evFieldAddr_ok {t : TypeId} {x : Operand} {p : PV} {v : Value} {f : Nat} (hE : EnvOk X E) (h : Sim X w0 S a w loc) (ho : o.op = .fieldAddr t x f) (hx : a.eval x = v)
    (hp : Rep X w S a.tmps loc (fun _ => none) p v) (hown : ∀ k, p.ref = some k → (get S k).owns = true) (hr : evFieldAddr E S t p f (fun q => fin o.dst K q S) = some r) : o.wp X.P a w (Post X w0 K r) Q := by
  unfold evFieldAddr at hr
  cases hti : E.T t with
  | none => rw [hti] at hr; cases hr
  | some ti =>
    rw [hti] at hr
    have ht := hE.T t ti hti
    dsimp only at hr
    split at hr
    · rename_i fs hd
      have hu := ht.und
      rw [hd] at hu
      split at hr
      · cases hr
      · rename_i fd hf
        cases htf : E.T fd.type with
        | none => rw [htf] at hr; cases hr
        | some tf =>
          rw [htf] at hr
          dsimp only at hr
          split at hr
          · cases hr
          · rename_i hz
            have hsz : ∀ w : World, (Go.sizeOf fd.type).run X.P w = .ok tf.size w := fun w => sizeOf_run (hE.T _ _ htf) w
            split at hr
            · rename_i k
              split at hr
              · rename_i ss hs
                split at hr
                · rename_i sg hsf
                  split at hr
                  · rename_i hoff
                    obtain ⟨hoff, hk1, hk2⟩ := hoff
                    have hv := alias_val h hp (hown k rfl)
                    rw [hs] at hv
                    obtain ⟨b, cur, e', fr, g1, g2, g3, g4, g5, g6, g7⟩ := hv
                    exact wp0 (run_fa ho (hx.trans g2) (run_fieldAt hu hf hsz hz w)) h hr rfl ⟨_, _, _, b, 0, by rw [hs, shp_obj, hsf]; rfl, g1, hk2, hk1, by simp [hoff]⟩ (fun k' hk' => by cases hk'; exact hown k rfl)
                  · cases hr
                · cases hr
              · cases hr
            · rename_i k g idx
              split at hr
              · rename_i fs' l hs
                split at hr
                · rename_i hoff
                  obtain ⟨hoff, hfl, rfl⟩ := hoff
                  obtain ⟨base, sz, cnt, b, o', e1, e2, e3, e4, e5⟩ := hp
                  simp only [Nat.add_zero] at e5
                  have e1' := e1
                  rw [hs] at e1'
                  simp only [shp, Option.some.injEq, Prod.mk.injEq] at e1'
                  refine wp0 (run_fa ho (hx.trans e5) (run_fieldAt hu hf hsz hz w)) h hr rfl ⟨base, sz, cnt, b, o', e1, e2, e3, ?_, by rw [hoff]⟩ (fun k' hk' => by cases hk'; exact hown k rfl)
                  rw [← e1'.2.1]; exact hfl
                · cases hr
              · cases hr
            · rename_i fs' l idx
              split at hr
              · rename_i hoff
                obtain ⟨hoff, hfl⟩ := hoff
                obtain ⟨b, o', cur, e', fr, e1, e2, e3, e4, e5, e6⟩ := hp
                simp only [Nat.add_zero] at e3
                exact wp0 (run_fa ho (hx.trans e3) (run_fieldAt hu hf hsz hz w)) h hr rfl ⟨b, o', cur, e', fr, e1, hfl, by rw [hoff], e4, e5, e6⟩ (fun k' hk' => by cases hk')
              · cases hr
            · rename_i g s idx
              obtain ⟨ss, base, sz, cnt, e0, e1, e3, e4, e5⟩ := hp
              rw [hE.G, e0] at hr
              dsimp only at hr
              split at hr
              · rename_i fs' n l hsg
                split at hr
                · rename_i hoff
                  obtain ⟨hoff, hfl⟩ := hoff
                  simp only [Nat.add_zero] at e5
                  have e1' := e1
                  rw [shp_obj, hsg] at e1'
                  simp only [Option.map_some, Option.some.injEq, Prod.mk.injEq, Seg.kind] at e1'
                  refine wp0 (run_fa ho (hx.trans e5) (run_fieldAt hu hf hsz hz w)) h hr rfl ⟨ss, base, sz, cnt, e0, e1, e3, ?_, by rw [hoff]⟩ (fun k' hk' => by cases hk')
                  rw [← e1'.2.1]; exact hfl
                · cases hr
              · cases hr
            · cases hr
    · cases hr
end
end Go.Px

/- Pieces of slices and texts, conversions. -/
namespace Go.Px
open Go Go.RowKit

section
variable {X : Cx} {ρ : Type} {w0 : World} {S : St} {a : Act} {w : World} {loc : Nat → Nat → Option (Nat × Nat)} {E : Env ρ} {K : St → Option ρ} {r : ρ} {o : Oper} {Q : Exit → Act → World → Prop}

/-- a slice whose contents can be read now -/
abbrev SlRep (w : World) (C : Cod) (l : List C.α) (v : Value) : Prop := RoRep w (· < w.heap.size) C l v
theorem heap_lt {b : Nat} {ob : Obj} (h : w.heap[b]? = some ob) : b < w.heap.size := (Array.getElem?_eq_some_iff.1 h).1
theorem OwnRep.sl {B : Nat → Prop} {C : Cod} {l : List C.α} {ℓ : Option (Nat × Nat)} {v : Value} (h : OwnRep w B C l ℓ v) : SlRep w C l v := by
  rcases h with ⟨_, rfl, rfl⟩ | ⟨b, o, cap, cur, e, fr, h1, h2, h3, h4, h5, h6, h8, h9⟩
  · exact ⟨none, 0, rfl, Nat.le_refl _, .inl rfl⟩
  · exact ⟨_, cap, h2, h6, .inr ⟨b, o, cur, e, fr, rfl, heap_lt h4, h4, h9⟩⟩
theorem drop_take_length {α : Type} (l : List α) (off len : Nat) (h : off + len ≤ l.length) : ((l.drop off).take len).length = len := by simp; omega
theorem flat_dt (C : Cod) (l : List C.α) (off len : Nat) : flat C ((l.drop off).take len) = ((flat C l).drop (off * C.sz)).take (len * C.sz) := by rw [flat_take, flat_drop]
/-- what a view names can be read -/
theorem view_sl (h : Sim X w0 S a w loc) {k g off len : Nat} {v : Value} (hp : Rep X w S a.tmps loc (fun _ => none) (.view k g off len) v) {C : Cod} {l : List C.α}
    (hs : get S k = .own C l ∧ g = 0 ∨ ∃ ss n, get S k = .obj ss ∧ ss[g]? = some (.arr C n l)) : off + len ≤ l.length ∧ SlRep w C ((l.drop off).take len) v := by
  obtain ⟨base, sz, cnt, e1, e2, e3⟩ := hp
  rcases hs with ⟨hs, rfl⟩ | ⟨ss, n, hs, hg⟩
  · have e1' := e1
    rw [hs] at e1'
    simp only [shp, Option.some.injEq, Prod.mk.injEq] at e1'
    obtain ⟨q1, q2, q3⟩ := e1'
    subst q1 q2 q3
    refine ⟨e2, ?_⟩
    rcases e3 with ⟨_, rfl, rfl⟩ | ⟨b, o2, o3, cap, g1, g2, g3, g4, g5, g6⟩
    · exact ⟨none, 0, by simp, by simp, .inl (by simp)⟩
    · refine ⟨_, cap, by rw [drop_take_length l off len e2]; exact g2, by rw [drop_take_length l off len e2]; exact g3, ?_⟩
      rcases g4 with rfl | rfl
      · exact .inl (by simp)
      · right
        obtain ⟨u, _, _, h3⟩ := opd_get h hs (by simp)
        rcases h3 with ⟨q4, _⟩ | ⟨b', o4, cap', cur, e, fr, q4, q5, q6, q7, q8, q9, q11, q12⟩
        · rw [g1] at q4; cases q4
        · rw [g1] at q4; cases q4
          refine ⟨b, _, cur, e, fr, rfl, heap_lt q7, q7, ?_⟩
          rw [flat_dt, Nat.add_zero]
          exact (q12.drop _).take _
  · have e1' := e1
    rw [hs] at e1'
    simp only [shp, hg, Option.some.injEq, Prod.mk.injEq] at e1'
    obtain ⟨q1, q2, q3⟩ := e1'
    subst q1 q2 q3
    obtain ⟨u, _, _, h3⟩ := opd_get h hs (by simp)
    obtain ⟨b', cur, e, fr, q1, q2, q3, q4, q5, q6, q7⟩ := h3
    have hl : l.length = n := q6 _ (List.mem_of_getElem? hg)
    rw [hl]
    refine ⟨e2, ?_⟩
    have e2' : off + len ≤ l.length := by omega
    rcases e3 with ⟨_, rfl, rfl⟩ | ⟨b, o2, o3, cap, g1, g2, g3, g4, g5, g6⟩
    · exact ⟨none, 0, by simp, by simp, .inl (by simp)⟩
    · refine ⟨_, cap, by rw [drop_take_length l off len e2']; exact g2, by rw [drop_take_length l off len e2']; exact g3, ?_⟩
      rcases g4 with rfl | rfl
      · exact .inl (by simp)
      · right
        rw [g1] at q1; cases q1
        refine ⟨b', _, cur, e, fr, rfl, heap_lt q4, q4, ?_⟩
        rw [flat_dt]
        refine Has.take (o := 0 + segOff ss g + off * C.sz) (Has.drop (o := 0 + segOff ss g) ?_ _) _
        intro j x hj
        have hjl : j < n * C.sz := by
          have := (List.getElem?_eq_some_iff.1 hj).1
          rw [flat_length, hl] at this; exact this
        rw [q7, List.getElem?_toArray, Nat.zero_add, segCells_at ss q6 g _ hg j hjl]
        exact hj
theorem SprRep.sl {w : World} {Mi : Nat → Prop} {C : Cod} {l : List C.α} {n : Nat} {ℓ : Option (Nat × Nat)} {v : Value} (h : SprRep w Mi C l n ℓ v) : SlRep w C (l.take n) v := by
  obtain ⟨h0, b, o, cur, e, fr, h1, h2, h3, h4, h5, h6, h7⟩ := h
  have hl : (l.take n).length = n := by rw [List.length_take]; omega
  refine ⟨some ⟨b, o, none⟩, l.length, by rw [hl]; exact h2, by rw [hl]; exact h0, .inr ⟨b, o, cur, e, fr, rfl, heap_lt h4, h4, ?_⟩⟩
  rw [flat_take]; exact h7.take _
theorem spr_view (h : Sim X w0 S a w loc) {k g off len : Nat} {C : Cod} {l : List C.α} {n : Nat} {v : Value} (hs : get S k = .spr C l n) (hp : Rep X w S a.tmps loc (fun _ => none) (.view k g off len) v) : g = 0 ∧ off + len ≤ l.length ∧ SlRep w C ((l.drop off).take len) v := by
  obtain ⟨base, sz, cnt, e1, e2, e3⟩ := hp
  rw [hs] at e1
  cases g with
  | succ g => simp [shp] at e1
  | zero =>
    simp only [shp, Option.some.injEq, Prod.mk.injEq] at e1
    obtain ⟨q1, q2, q3⟩ := e1
    subst q1 q2 q3
    refine ⟨rfl, e2, ?_⟩
    have hdt := drop_take_length l off len e2
    rcases e3 with ⟨_, rfl, rfl⟩ | ⟨b, o2, o3, cap, g1, g2, g3, g4, g5, g6⟩
    · exact ⟨none, 0, by simp, by simp, .inl (by simp)⟩
    · refine ⟨_, cap, by rw [hdt]; exact g2, by rw [hdt]; exact g3, ?_⟩
      rcases g4 with rfl | rfl
      · exact .inl (by simp)
      · right
        obtain ⟨u, _, _, h3⟩ := opd_get h hs (by simp)
        obtain ⟨_, b', o4, cur, e, fr, q4, q5, q6, q7, q8, q9, q12⟩ := h3
        rw [g1] at q4; cases q4
        refine ⟨b, _, cur, e, fr, rfl, heap_lt q7, q7, ?_⟩
        rw [flat_dt, Nat.add_zero]
        exact (q12.drop _).take _
theorem content_sl (h : Sim X w0 S a w loc) {p : PV} {v : Value} {c : Cont} (hc : content S p = some c) (ho : p.owns = false) (hp : Rep X w S a.tmps loc (fun _ => none) p v) (hown : ∀ k, p.ref = some k → (get S k).owns = true) : SlRep w c.C c.l v := by
  cases p with
  | ros C l => simp only [content, Option.some.injEq] at hc; subst hc; exact RoRep.mono hp fun b hb => Nat.lt_of_lt_of_le hb.1 h.hB
  | own C l => simp [PV.owns] at ho
  | alias k =>
    simp only [content] at hc
    split at hc
    · rename_i C l hs
      simp only [Option.some.injEq] at hc; subst hc
      have := alias_val h hp (hown k rfl)
      rw [hs] at this
      exact OwnRep.sl this
    · rename_i C l n hs
      simp only [Option.some.injEq] at hc; subst hc
      have := alias_val h hp (hown k rfl)
      rw [hs] at this
      exact SprRep.sl this
    · cases hc
  | view k g off len =>
    simp only [content] at hc
    split at hc
    · rename_i C l hs
      simp only [Option.some.injEq] at hc; subst hc
      have hg : g = 0 := by
        obtain ⟨base, sz, cnt, e1, _⟩ := hp
        rw [hs] at e1
        cases g with
        | zero => rfl
        | succ g => simp [shp] at e1
      exact (view_sl h hp (.inl ⟨hs, hg⟩)).2
    · rename_i C l n hs
      simp only [Option.some.injEq] at hc; subst hc
      exact (spr_view h hs hp).2.2
    · rename_i ss hs
      split at hc
      · rename_i C n l hg
        have key := view_sl h hp (.inr ⟨ss, n, hs, hg⟩)
        obtain ⟨u, _, _, h3⟩ := opd_get h hs (by simp)
        obtain ⟨b', cur, e, fr, q1, q2, q3, q4, q5, q6, q7⟩ := h3
        have hl : l.length = n := q6 _ (List.mem_of_getElem? hg)
        split at hc
        · rename_i hoff
          obtain ⟨rfl, rfl⟩ := hoff
          simp only [Option.some.injEq] at hc; subst hc
          have := key.2
          rw [List.drop_zero, List.take_of_length_le (by omega)] at this
          exact this
        · simp only [Option.some.injEq] at hc; subst hc; exact key.2
      · cases hc
    · cases hc
  | _ => simp [content] at hc
theorem contentT_sl (h : Sim X w0 S a w loc) {C : Cod} {p : PV} {v : Value} {l : List C.α} (hc : contentT S C p = some l) (ho : p.owns = false) (hp : Rep X w S a.tmps loc (fun _ => none) p v) (hown : ∀ k, p.ref = some k → (get S k).owns = true) : SlRep w C l v := by
  unfold contentT at hc
  split at hc
  · cases hc
    have hv : v = .slice none 0 0 := hp
    exact ⟨none, 0, hv, Nat.le_refl _, .inl rfl⟩
  · split at hc
    · rename_i C' l' hcc
      split at hc
      · rename_i he
        subst he
        simp only [Option.some.injEq] at hc
        subst hc
        exact content_sl h hcc ho hp hown
      · cases hc
    · cases hc

/-! ### x[lo:hi] -/
theorem bnd_val (h : Sim X w0 S a w loc) {d i : Int} {x : Option Operand} (hb : bnd S d x = some i) : (x = none ∧ i = d) ∨ ∃ y k, x = some y ∧ a.eval y = .int k i := by
  unfold bnd at hb
  cases x with
  | none => simp at hb; exact .inl ⟨rfl, hb.symm⟩
  | some y => obtain ⟨k, hk⟩ := asI_val h hb; exact .inr ⟨y, k, rfl, hk⟩
theorem run_bounds (P : Program) (w : World) (isS : Bool) (len cap : Nat) (hlc : len ≤ cap) (lo hi : Option Operand) {i j : Int} (hlo : (lo = none ∧ i = 0) ∨ ∃ y k, lo = some y ∧ a.eval y = .int k i)
    (hhi : (hi = none ∧ j = len) ∨ ∃ y k, hi = some y ∧ a.eval y = .int k j) (h0 : 0 ≤ i) (h1 : i ≤ j) (h2 : j ≤ cap) :
    (Instr.sliceBounds isS len cap (lo.map a.eval) (hi.map a.eval) none).run P w = .ok (i.toNat, j.toNat, cap) w := by
  have hm : (Instr.sliceBounds isS len cap (lo.map a.eval) (hi.map a.eval) none).run P w = ((do
      let h ← (match hi.map a.eval with | some v => Instr.sliceBound v cap (if isS then .sliceAcap else .sliceAlen) | none => pure len : Sem Nat)
      let l ← (match lo.map a.eval with | some v => Instr.sliceBound v h .sliceB | none => pure 0 : Sem Nat)
      pure (l, h, cap)) : Sem (Nat × Nat × Nat)).run P w := by
    unfold Instr.sliceBounds
    cases hi <;> cases lo <;> rfl
  rw [hm]
  have e1 : ((match hi.map a.eval with | some v => Instr.sliceBound v cap (if isS then .sliceAcap else .sliceAlen) | none => pure len : Sem Nat)).run P w = .ok j.toNat w := by
    rcases hhi with ⟨rfl, rfl⟩ | ⟨y, k, rfl, hy⟩
    · simp
    · simp [hy, Instr.sliceBound, asIntOf, show 0 ≤ j by omega, h2]
  have e2 : ((match lo.map a.eval with | some v => Instr.sliceBound v j.toNat .sliceB | none => pure 0 : Sem Nat)).run P w = .ok i.toNat w := by
    rcases hlo with ⟨rfl, rfl⟩ | ⟨y, k, rfl, hy⟩
    · simp
    · simp [hy, Instr.sliceBound, asIntOf, h0, show i ≤ max j 0 by omega]
  simp only [Sem.run_bind, e1, Result.andThen_ok, e2, Sem.run_pure]
theorem run_sl {t : TypeId} {x : Operand} {lo hi : Option Operand} (ho : o.op = .slice t x lo hi none) {v z : Value} (hx : a.eval x = v) (hl : (Instr.sliceAt t v (lo.map a.eval) (hi.map a.eval) none).run X.P w = .ok z w) : (execOp a.eval o).run X.P w = .ok (.value z) w := by
  simp [execOp, ho, hx, hl]
theorem leB3 {i j n : Int} (h : (leB 0 i && (leB i j && leB j n)) = true) : 0 ≤ i ∧ i ≤ j ∧ j ≤ n := by
  simp only [Bool.and_eq_true] at h
  exact ⟨leB_iff h.1, leB_iff h.2.1, leB_iff h.2.2⟩
theorem run_sliceAt_sl {P : Program} {t e : TypeId} {sz : Nat} (hu : P.underlying t = some (.slice e)) (hs : ∀ w : World, (Go.sizeOf e).run P w = .ok sz w) {ad : Option Addr} {len cap i j : Nat} {lo hi : Option Value} (w : World)
    (hb : (Instr.sliceBounds true len cap lo hi none).run P w = .ok (i, j, cap) w) :
    (Instr.sliceAt t (.slice ad len cap) lo hi none).run P w = .ok (.slice (if cap = i then ad else ad.map (·.add (i * sz))) (j - i) (cap - i)) w := by
  simp only [Instr.sliceAt, Sem.run_bind, run_underlying hu, Result.andThen_ok, Instr.slice, hb, hs, Sem.run_pure]
theorem evSlice_ok {t : TypeId} {x : Operand} {lo hi : Option Operand} {p : PV} {v : Value} (hE : EnvOk X E) (h : Sim X w0 S a w loc) (ho : o.op = .slice t x lo hi none) (hx : a.eval x = v)
    (hp : Rep X w S a.tmps loc (fun _ => none) p v) (hown : ∀ k, p.ref = some k → (get S k).owns = true) (hr : evSlice E S t p lo hi (fun q => fin o.dst K q S) = some r) : o.wp X.P a w (Post X w0 K r) Q := by
  unfold evSlice at hr
  cases hti : E.T t with
  | none => rw [hti] at hr; cases hr
  | some ti =>
    rw [hti] at hr
    have ht := hE.T t ti hti
    dsimp only at hr
    have bnds : ∀ {d1 d2 : Int} {F : Int → Int → Option ρ}, ((bnd S d1 lo).bind fun i => (bnd S d2 hi).bind fun j => F i j) = some r → ∃ i j, bnd S d1 lo = some i ∧ bnd S d2 hi = some j ∧ F i j = some r := fun {d1 d2 F} hh => by
      cases h1 : bnd S d1 lo with
      | none => rw [h1] at hh; cases hh
      | some i =>
        rw [h1] at hh
        cases h2 : bnd S d2 hi with
        | none => rw [h2] at hh; cases hh
        | some j => rw [h2] at hh; exact ⟨i, j, rfl, rfl, hh⟩
    split at hr
    · rename_i s hd
      have hu := ht.und
      rw [hd] at hu
      obtain ⟨i, j, h1, h2, hr⟩ := bnds hr
      obtain ⟨hc, hr2⟩ := chk_some hr
      have hc := leB3 hc
      have hv : v = .string s := hp
      have hb := run_bounds (a := a) X.P w false s.size s.size (Nat.le_refl _) lo hi (bnd_val h h1) (bnd_val h h2) hc.1 hc.2.1 hc.2.2
      refine wp_raw (run_sl ho (hx.trans hv) ?_) h hr2
      simp only [Instr.sliceAt, Sem.run_bind, run_underlying hu, Result.andThen_ok, Instr.slice, hb, Sem.run_pure, subStr, Option.isSome_none, Bool.false_eq_true, if_false]
    · rename_i n e k hd
      have hu := ht.und
      rw [hd] at hu
      split at hr
      · rename_i C n' l hs
        split at hr
        · rename_i hc
          obtain ⟨rfl, hc1⟩ := hc
          obtain ⟨i, j, h1, h2, hr⟩ := bnds hr
          obtain ⟨hc, hr2⟩ := chk_some hr
          have hc := leB3 hc
          have hv := alias_val h hp (hown k rfl)
          rw [hs] at hv
          obtain ⟨b, cur, e', fr, g1, g2, g3, g4, g5, g6, g7⟩ := hv
          have hl : l.length = n := g6 (.arr C n l) (by simp)
          have hb := run_bounds (a := a) X.P w false n n (Nat.le_refl _) lo hi (bnd_val h h1) (bnd_val h h2) hc.1 hc.2.1 hc.2.2
          have hsz := esz_ok hE hc1
          have hbs : blkSize w b = n * C.sz := by simp [blkSize, g4, g7, segCells, Seg.cells, flat_length, hl]
          have hrun : (Instr.sliceAt t v (lo.map a.eval) (hi.map a.eval) none).run X.P w = .ok (.slice (some (if n = i.toNat then ⟨b, 0, none⟩ else ⟨b, 0 + i.toNat * C.sz, none⟩)) (j.toNat - i.toNat) (n - i.toNat)) w := by
            rw [g2]
            simp only [Instr.sliceAt, Sem.run_bind, run_underlying hu, Result.andThen_ok, Instr.sureAddr, hb, hsz w, Sem.run_pure, add_lit]
          have hij : j.toNat - i.toNat = (j - i).toNat := by omega
          rw [hij] at hrun
          refine wp0 (run_sl ho hx hrun) h hr2 rfl ⟨0, C.sz, n, by rw [hs]; rfl, by omega, .inr ?_⟩ (fun k' hk' => by cases hk'; exact hown k rfl)
          by_cases hni : n = i.toNat
          · refine ⟨b, 0, 0, n - i.toNat, g1, by simp [hni], by omega, .inl (by omega), ?_, fun _ => by omega⟩
            · rw [hbs]; simp [hni]
          · refine ⟨b, 0, 0 + i.toNat * C.sz, n - i.toNat, g1, by simp [hni], by omega, .inr (by simp), ?_, fun _ => by omega⟩
            · rw [hbs, Nat.zero_add, ← Nat.add_mul]; exact Nat.mul_le_mul_right _ (by omega)
        · cases hr
      · cases hr
    · rename_i n e k g idx f hd
      have hu := ht.und
      rw [hd] at hu
      split at hr
      · rename_i ss hs
        split at hr
        · rename_i C n' l hg
          split at hr
          · rename_i hc
            obtain ⟨rfl, hc1, hc0, rfl, rfl⟩ := hc
            obtain ⟨i, j, h1, h2, hr⟩ := bnds hr
            obtain ⟨hc, hr2⟩ := chk_some hr
            have hc := leB3 hc
            obtain ⟨base, sz, cnt, b, ob, e1, e2, e3, e4, e5⟩ := hp
            rw [hs] at e1
            simp only [shp, hg, Option.some.injEq, Prod.mk.injEq] at e1
            obtain ⟨rfl, rfl, rfl⟩ := e1
            obtain ⟨u, _, _, h3⟩ := opd_get h hs (by simp)
            obtain ⟨b', cur, e', fr, g1, g2, g3, g4, g5, g6, g7⟩ := h3
            rw [g1] at e2; cases e2
            have hl : l.length = n := g6 _ (List.mem_of_getElem? hg)
            have hb := run_bounds (a := a) X.P w false n n (Nat.le_refl _) lo hi (bnd_val h h1) (bnd_val h h2) hc.1 hc.2.1 hc.2.2
            have hsz := esz_ok hE hc1
            have hsegl := segOff_le ss g g6 _ hg
            simp only [Seg.size] at hsegl
            have hbs : blkSize w b = (segCells ss).length := by simp [blkSize, g4, g7]
            have hrun : (Instr.sliceAt t v (lo.map a.eval) (hi.map a.eval) none).run X.P w = .ok (.slice (some (if n = i.toNat then ⟨b, segOff ss g, none⟩ else ⟨b, segOff ss g + i.toNat * C.sz, none⟩)) (j.toNat - i.toNat) (n - i.toNat)) w := by
              rw [e5]
              simp only [Nat.zero_add, Nat.zero_mul, Nat.add_zero, Instr.sliceAt, Sem.run_bind, run_underlying hu, Result.andThen_ok, Instr.sureAddr, hb, hsz w, Sem.run_pure, add_lit]
            have hij : j.toNat - i.toNat = (j - i).toNat := by omega
            rw [hij] at hrun
            refine wp0 (run_sl ho hx hrun) h hr2 rfl ⟨segOff ss g, C.sz, n, by rw [hs]; simp [shp, hg], by omega, .inr ?_⟩ (fun k' hk' => by cases hk'; exact hown k rfl)
            by_cases hni : n = i.toNat
            · refine ⟨b, 0, segOff ss g, n - i.toNat, g1, by simp [hni], by omega, .inl (by omega), ?_, fun _ => by omega⟩
              · rw [hbs]; simp [hni]; omega
            · refine ⟨b, 0, segOff ss g + i.toNat * C.sz, n - i.toNat, g1, by simp [hni], by omega, .inr (by omega), ?_, fun _ => by omega⟩
              · rw [hbs, Nat.add_assoc, ← Nat.add_mul]
                refine Nat.le_trans (Nat.add_le_add_left (Nat.mul_le_mul_right _ (by omega : i.toNat + (n - i.toNat) ≤ n)) _) hsegl
          · cases hr
        · cases hr
      · cases hr
    · rename_i e C l hd
      have hu := ht.und
      rw [hd] at hu
      split at hr
      · rename_i hc1
        obtain ⟨i, j, h1, h2, hr⟩ := bnds hr
        obtain ⟨hc, hr2⟩ := chk_some hr
        have hc := leB3 hc
        obtain ⟨ad, cap, q1, q2, q3⟩ := hp
        have hb := run_bounds (a := a) X.P w true l.length cap q2 lo hi (bnd_val h h1) (bnd_val h h2) hc.1 hc.2.1 (by omega)
        have hrun := run_sliceAt_sl hu (esz_ok hE hc1) (ad := ad) w hb
        rw [← q1] at hrun
        have hlen : ((l.drop i.toNat).take (j - i).toNat).length = j.toNat - i.toNat := by simp; omega
        refine wp0 (run_sl ho hx hrun) h hr2 rfl ⟨_, cap - i.toNat, by rw [hlen], by rw [hlen]; omega, ?_⟩ (fun k' hk' => by cases hk')
        rcases q3 with rfl | ⟨b, o2, cur, e', fr, rfl, q5, q6, q7⟩
        · exact .inl (by simp)
        · by_cases hni : cap = i.toNat
          · left
            apply List.eq_nil_of_length_eq_zero
            rw [hlen]; omega
          · right
            refine ⟨b, o2 + i.toNat * C.sz, cur, e', fr, by simp [hni, add_lit], q5, q6, ?_⟩
            rw [flat_dt]
            exact (q7.drop _).take _
      · cases hr
    · rename_i e k hd
      have hu := ht.und
      rw [hd] at hu
      split at hr
      · rename_i C l hs
        split at hr
        · rename_i hc1
          obtain ⟨i, j, h1, h2, hr⟩ := bnds hr
          obtain ⟨hc, hr2⟩ := chk_some hr
          have hc := leB3 hc
          have hv := alias_val h hp (hown k rfl)
          rw [hs] at hv
          rcases hv with ⟨q1, q2, rfl⟩ | ⟨b, o2, cap, cur, e', fr, q4, q5, q6, q7, q8, q9, q11, q12⟩
          · have hc0 : i = 0 ∧ j = 0 := by have := hc.2.2; simp at this; omega
            obtain ⟨rfl, rfl⟩ := hc0
            have hb := run_bounds (a := a) X.P w true 0 0 (Nat.le_refl _) lo hi (bnd_val h h1) (bnd_val h h2) hc.1 hc.2.1 (by simp)
            have hrun := run_sliceAt_sl hu (esz_ok hE hc1) (ad := none) w hb
            rw [← q2] at hrun
            refine wp0 (run_sl ho hx hrun) h hr2 rfl ⟨0, C.sz, 0, by rw [hs]; rfl, by simp, .inl ⟨q1, by simp, by simp⟩⟩ (fun k' hk' => by cases hk'; exact hown k rfl)
          · have hb := run_bounds (a := a) X.P w true l.length cap q9 lo hi (bnd_val h h1) (bnd_val h h2) hc.1 hc.2.1 (by omega)
            have hrun := run_sliceAt_sl hu (esz_ok hE hc1) (ad := some ⟨b, o2, none⟩) w hb
            rw [← q5] at hrun
            have hbs : blkSize w b = cur.size := by simp [blkSize, q7]
            have hij : j.toNat - i.toNat = (j - i).toNat := by omega
            rw [hij] at hrun
            refine wp0 (run_sl ho hx hrun) h hr2 rfl ⟨0, C.sz, l.length, by rw [hs]; rfl, by omega, .inr ?_⟩ (fun k' hk' => by cases hk'; exact hown k rfl)
            by_cases hni : cap = i.toNat
            · refine ⟨b, o2, o2, cap - i.toNat, q4, by simp [hni], by omega, .inl (by omega), ?_, fun hob => by rw [hs] at hob; cases hob⟩
              rw [hbs, hni]; simp; omega
            · refine ⟨b, o2, o2 + i.toNat * C.sz, cap - i.toNat, q4, by simp [hni, add_lit], by omega, .inr (by simp), ?_, fun hob => by rw [hs] at hob; cases hob⟩
              rw [hbs]
              refine Nat.le_trans ?_ q11
              rw [Nat.add_assoc, ← Nat.add_mul]
              exact Nat.add_le_add_left (Nat.mul_le_mul_right _ (by omega)) _
        · cases hr
      · rename_i C l n hs
        split at hr
        · rename_i hc1
          obtain ⟨i, j, h1, h2, hr⟩ := bnds hr
          obtain ⟨hc, hr2⟩ := chk_some hr
          have hc := leB3 hc
          have hv := alias_val h hp (hown k rfl)
          rw [hs] at hv
          obtain ⟨q9, b, o2, cur, e', fr, q4, q5, q6, q7, q8, q11, q12⟩ := hv
          have hb := run_bounds (a := a) X.P w true n l.length q9 lo hi (bnd_val h h1) (bnd_val h h2) hc.1 hc.2.1 (by omega)
          have hrun := run_sliceAt_sl hu (esz_ok hE hc1) (ad := some ⟨b, o2, none⟩) w hb
          rw [← q5] at hrun
          have hbs : blkSize w b = cur.size := by simp [blkSize, q7]
          have hij : j.toNat - i.toNat = (j - i).toNat := by omega
          rw [hij] at hrun
          refine wp0 (run_sl ho hx hrun) h hr2 rfl ⟨0, C.sz, l.length, by rw [hs]; rfl, by omega, .inr ?_⟩ (fun k' hk' => by cases hk'; exact hown k rfl)
          by_cases hni : l.length = i.toNat
          · refine ⟨b, o2, o2, l.length - i.toNat, q4, by simp [hni], by omega, .inl (by omega), ?_, fun hob => by rw [hs] at hob; cases hob⟩
            rw [hbs, hni]; simp; omega
          · refine ⟨b, o2, o2 + i.toNat * C.sz, l.length - i.toNat, q4, by simp [hni, add_lit], by omega, .inr (by simp), ?_, fun hob => by rw [hs] at hob; cases hob⟩
            rw [hbs]
            refine Nat.le_trans ?_ q11
            rw [Nat.add_assoc, ← Nat.add_mul]
            exact Nat.add_le_add_left (Nat.mul_le_mul_right _ (by omega)) _
        · cases hr
      · cases hr
    · cases hr
end
end Go.Px

/- Conversions, texts walked, assignments. -/
namespace Go.Px
open Go Go.RowKit

theorem strOf_eq (l : List Int) : l.foldl (fun r n => r.push (UInt8.ofNat n.toNat)) ByteArray.empty = strOf l := by
  have key : ∀ (l : List Int) (r : ByteArray), l.foldl (fun r n => r.push (UInt8.ofNat n.toNat)) r = ⟨r.data ++ (l.map fun n => UInt8.ofNat n.toNat).toArray⟩ := by
    intro l
    induction l with
    | nil => intro r; simp
    | cons n l ih => intro r; simp only [List.foldl_cons, List.map_cons]; rw [ih]; simp [ByteArray.push]
  rw [key]
  unfold strOf
  congr 1
  show #[] ++ _ = _
  simp
theorem flat_sc (t : T0) (l : List t.α) : flat (.sc t) l = l.map t.val := by
  induction l with
  | nil => rfl
  | cons x l ih => rw [flat_cons, ih]; rfl

section
variable {X : Cx} {ρ : Type} {w0 : World} {S : St} {a : Act} {w : World} {loc : Nat → Nat → Option (Nat × Nat)} {E : Env ρ} {K : St → Option ρ} {r : ρ} {o : Oper} {Q : Exit → Act → World → Prop}

theorem codOf_ok (hE : EnvOk X E) {t : TypeId} {C : Cod} {by_ : Nat} (h : codOf E t = some (C, by_)) : ∃ e te, X.P.underlying t = some (.slice e) ∧ TOk X.P e te ∧ te.cod = some C ∧ te.size = C.sz ∧ te.bytes = by_ := by
  unfold codOf at h
  split at h
  · rename_i ti ht
    split at h
    · rename_i e hd
      split at h
      · rename_i te hte
        split at h
        · rename_i C' hc
          split at h
          · rename_i hs
            simp only [Option.some.injEq, Prod.mk.injEq] at h
            obtain ⟨rfl, rfl⟩ := h
            have hu := (hE.T t ti ht).und
            rw [hd] at hu
            exact ⟨e, te, hu, hE.T e te hte, hc, hs, rfl⟩
          · cases h
        · cases h
      · cases h
    · cases h
  · cases h
theorem sl_load {C : Cod} {l : List C.α} {ad : Addr} {n cap : Nat} (h : SlRep w C l (.slice (some ad) n cap)) (P : Program) (m : Nat) (hm : m ≤ l.length) : n = l.length ∧ (loadCells ad (m * C.sz)).run P w = .ok (flat C (l.take m)).toArray w := by
  obtain ⟨ad', cap', h1, h2, h3⟩ := h
  cases h1
  refine ⟨rfl, ?_⟩
  have hlen : (flat C (l.take m)).length = m * C.sz := by rw [flat_length, List.length_take, Nat.min_eq_left hm]
  rw [← hlen]
  refine run_loadCells_list (P := P) w ad _ (fun j u hj => ?_)
  rcases h3 with rfl | ⟨b, o, cur, e, fr, h4, h5, h6, h7⟩
  · simp [flat] at hj
  · cases h4
    rw [add_lit, cell_of w h6]
    rw [flat_take] at hj
    exact (h7.take _) j u hj
theorem sl_nil {C : Cod} {l : List C.α} {n cap : Nat} (h : SlRep w C l (.slice none n cap)) : l = [] ∧ n = 0 := by
  obtain ⟨ad', cap', h1, h2, h3⟩ := h
  cases h1
  rcases h3 with rfl | ⟨b, o, cur, e, fr, h4, _⟩
  · exact ⟨rfl, rfl⟩
  · cases h4
theorem heap_pushed (w : World) (ob : Obj) : (w.drew.alloc ob).heap[w.heap.size]? = some ob := by
  show (w.heap.push ob)[w.heap.size]? = some ob
  simp
theorem run_cv {s d : TypeId} {x : Operand} (ho : o.op = .convert s d x) {v z : Value} {w' : World} (hx : a.eval x = v) (hl : (convert s d v).run X.P w = .ok z w') : (execOp a.eval o).run X.P w = .ok (.value z) w' := by
  simp [execOp, ho, hx, hl]
theorem freeze_heap (w : World) {b : Nat} {cur : Array Value} {e : TypeId} {fr : Nat × Nat} (n : Nat) (h : w.heap[b]? = some (.cells cur e fr)) :
    (w.freeze ⟨b, n, none⟩ 1).heap[b]? = some (.cells cur e (if fr.1 == fr.2 then (n, n + 1) else (min fr.1 n, max fr.2 (n + 1)))) := by
  have hlt := (Array.getElem?_eq_some_iff.1 h).1
  simp only [World.freeze, Nat.one_ne_zero, if_false]
  rw [Array.getElem?_modify, if_pos rfl, h]
  rfl
theorem freeze_other (w : World) {b c : Nat} (n : Nat) (hc : c ≠ b) : (w.freeze ⟨b, n, none⟩ 1).heap[c]? = w.heap[c]? := by
  simp only [World.freeze, Nat.one_ne_zero, if_false]
  rw [Array.getElem?_modify, if_neg (Ne.symm hc)]
theorem harm_freeze {fr : Nat × Nat} {n : Nat} (h : Harm fr n) : Harm (if fr.1 == fr.2 then (n, n + 1) else (min fr.1 n, max fr.2 (n + 1))) n := by
  obtain ⟨h1, h2⟩ := h
  by_cases he : fr.1 = fr.2
  · simp only [he, beq_self_eq_true, if_true]
    exact ⟨Nat.le_succ _, fun j hj hh => by simp at hh; omega⟩
  · have hb : (fr.1 == fr.2) = false := by simpa using he
    simp only [hb, Bool.false_eq_true, if_false]
    have hle : n ≤ fr.1 := by
      rcases Nat.lt_or_ge fr.1 n with h' | h'
      · exact absurd ⟨Nat.le_refl _, by omega⟩ (h2 _ h')
      · exact h'
    refine ⟨by simp only []; omega, fun j hj hh => ?_⟩
    simp only [] at hh
    omega
/-- a literal's row is marked; it goes on as it is -/
theorem convert_same {t e : TypeId} {x : Operand} {k : Nat} {l : List Int} {v : Value} (h : Sim X w0 S a w loc) (ho : o.op = .convert t t x) (hx : a.eval x = v) (hs : get S k = .own (.sc (.int .u8)) l) (hpos : 0 < l.length)
    (hp : Rep X w S a.tmps loc (fun _ => none) (.alias k) v) (hb : X.P.underlying t = some (.slice e)) (hue : X.P.underlying e = some (.int .u8)) (hr : fin o.dst K (.alias k) S = some r) : o.wp X.P a w (Post X w0 K r) Q := by
  have hown : (get S k).owns = true := by rw [hs]; rfl
  have h1 := alias_val h hp hown
  rw [hs] at h1
  rcases h1 with ⟨_, _, h3⟩ | ⟨b, of, cap, cur, e', fr, q1, q2, q3, q4, q5, q6, q7, q8⟩
  · rw [h3] at hpos; cases hpos
  · have hrun : (convert t t v).run X.P w = .ok v (w.freeze ⟨b, cur.size, none⟩ 1) := by
      rw [q2]
      have hsh : w.shape? b = some (e', cur.size) := by unfold World.shape?; rw [q4]
      simp [convert, run_underlying hb, run_underlying hue, markStringish, hsh]
    have hbs : ∀ c, blkSize w c ≤ blkSize (w.freeze ⟨b, cur.size, none⟩ 1) c := fun c => by
      by_cases hc : c = b
      · subst hc; simp only [blkSize, q4, freeze_heap w cur.size q4]; exact Nat.le_refl _
      · simp only [blkSize, freeze_other w cur.size hc]; exact Nat.le_refl _
    have hsim := h.updG (pk := .own (.sc (.int .u8)) l) (w' := w.freeze ⟨b, cur.size, none⟩ 1) hown q1 (fun c _ hc => freeze_other w _ hc) (by simp [World.freeze]) (by simp [World.freeze]) (by simp [World.freeze]) (by simp [World.freeze]) hbs
      (fun g => by rw [hs]) (by rw [hs]) rfl rfl (fun u hu => by
        have : a.tmps[k]? = some v := hp
        rw [this] at hu; cases hu
        exact .inr ⟨b, of, cap, cur, e', _, q1, q2, q3, freeze_heap w _ q4, harm_freeze q5, q6, q7, q8⟩)
    have hset : S.set k (.own (.sc (.int .u8)) l) = S := by
      rw [← hs]
      apply List.ext_getElem?
      intro i
      by_cases hi : k = i
      · subst hi
        have := get_of_ne (i := k) (S := S) (by rw [hs]; simp)
        have hk : k < S.length := (List.getElem?_eq_some_iff.1 this).1
        rw [List.getElem?_set_self hk, this]
      · rw [List.getElem?_set_ne hi]
    rw [hset] at hsim
    exact wp0 (run_cv ho hx hrun) hsim hr rfl hp (fun j hj => by cases hj; exact hown)
theorem evConvert_ok {s d : TypeId} {x : Operand} {p : PV} {v : Value} (hE : EnvOk X E) (h : Sim X w0 S a w loc) (ho : o.op = .convert s d x) (hx : a.eval x = v) (hpo : p.owns = false)
    (hp : Rep X w S a.tmps loc (fun _ => none) p v) (hown : ∀ k, p.ref = some k → (get S k).owns = true) (hr : evConvert E S s d p (fun q => fin o.dst K q S) = some r) : o.wp X.P a w (Post X w0 K r) Q := by
  unfold evConvert at hr
  split at hr
  · rename_i ta tb hta htb
    have ha := (hE.T s ta hta).und
    have hb := (hE.T d tb htb).und
    split at hr
    · rename_i k kk n hd
      rw [hd] at hb
      have hv : v = .int kk n := hp
      refine wp_raw (run_cv ho (hx.trans hv) ?_) h hr
      simp [convert, run_underlying ha, run_underlying hb, Conv.intToInt]
    · rename_i hd
      rw [hd] at hb
      split at hr
      · rename_i hd'
        split at hr
        · rename_i st
          have hv : v = .string st := hp
          refine wp_raw (run_cv ho (hx.trans hv) ?_) h hr
          simp [convert, run_underlying ha, run_underlying hb]
        · cases hr
      · rename_i e0 hd'
        rw [hd'] at ha
        split at hr
        · rename_i bb hco
          obtain ⟨e, te, q1, q2, q3, q4, q5⟩ := codOf_ok hE hco
          rw [ha] at q1; cases q1
          have hue := q2.und
          rw [(q2.scal _ q3).2.2] at hue
          split at hr
          · rename_i l hc
            have hs := contentT_sl h hc hpo hp hown
            obtain ⟨ad, cap, h1, h2, h3⟩ := id hs
            refine wp_raw (run_cv ho (hx.trans h1) ?_) h hr
            rw [h1] at hs
            simp only [convert, Sem.run_bind, run_underlying ha, run_underlying hb, Result.andThen_ok, run_underlying hue]
            cases ad with
            | none =>
              obtain ⟨rfl, _⟩ := sl_nil hs
              rfl
            | some ad =>
              have hld := (sl_load hs X.P l.length (Nat.le_refl _)).2
              rw [List.take_length, flat_sc] at hld
              simp only [Cod.sz, Nat.mul_one] at hld
              rw [← strOf_eq]
              exact run_bytesToString w ad l.length cap l hld
          · cases hr
        · rename_i bb hco
          obtain ⟨e, te, q1, q2, q3, q4, q5⟩ := codOf_ok hE hco
          rw [ha] at q1; cases q1
          have hue := q2.und
          rw [(q2.scal _ q3).2.2] at hue
          split at hr
          · rename_i l hc
            have hs := contentT_sl h hc hpo hp hown
            obtain ⟨ad, cap, h1, h2, h3⟩ := id hs
            refine wp_raw (run_cv ho (hx.trans h1) ?_) h hr
            rw [h1] at hs
            simp only [convert, Sem.run_bind, run_underlying ha, run_underlying hb, Result.andThen_ok, run_underlying hue]
            cases ad with
            | none =>
              obtain ⟨rfl, _⟩ := sl_nil hs
              rfl
            | some ad =>
              have hld := (sl_load hs X.P l.length (Nat.le_refl _)).2
              rw [List.take_length, flat_sc] at hld
              simp only [Cod.sz, Nat.mul_one] at hld
              exact run_runesToString w ad l.length cap l hld
          · cases hr
        · cases hr
      · cases hr
    · rename_i e0 hd
      rw [hd] at hb
      split at hr
      · rename_i e1 k hd'
        split at hr
        · rename_i bb l hco hs
          split at hr
          · rename_i hsd
            subst hsd
            obtain ⟨hpos, hr⟩ := chk_some hr
            have hpos : 0 < l.length := of_decide_eq_true hpos
            obtain ⟨e, te, q1, q2, q3, q4, q5⟩ := codOf_ok hE hco
            rw [hb] at q1; cases q1
            have hue := q2.und
            rw [(q2.scal _ q3).2.2] at hue
            exact convert_same h ho hx hs hpos hp hb hue hr
          · cases hr
        · cases hr
      case h_3 => cases hr
      rename_i st hd'
      have ha' := ha
      rw [hd'] at ha'
      split at hr
      · rename_i bb hco
        obtain ⟨e, te, q1, q2, q3, q4, q5⟩ := codOf_ok hE hco
        rw [hb] at q1; cases q1
        have hue := q2.und
        rw [(q2.scal _ q3).2.2] at hue
        obtain ⟨hsz, hr⟩ := chk_some hr
        have hv : v = .string st := hp
        have hrun := run_bytes_of_string (P := X.P) w s d e0 st ha' hb hue
        have hge := grownCap_ge w st.size 0 e0
        generalize grownCap w st.size 0 e0 = cap at hrun hge
        have hbs : (bytesRow st cap).size = cap := by simp [bytesRow]; omega
        have hext : Below w.heap.size w (w.drew.alloc (.cells (bytesRow st cap) e0 ((bytesRow st cap).size, (bytesRow st cap).size + 1))) := ((Below.refl _ w).drew).alloc (Nat.le_refl _) _
        refine wp1 w.heap.size 0 (run_cv ho (hx.trans hv) hrun) (h.ext hext) hr rfl rfl ?_ ⟨by simp, .inl h.hB, fun i j' o' e0 => Nat.lt_irrefl _ (h.lt i j' _ o' e0).1⟩
        have hbl : (bytesOf st).length = st.size := by simp [bytesOf]
        refine .inr ⟨w.heap.size, 0, cap, bytesRow st cap, e0, _, by simp, by rw [hbl], .inl h.hB, heap_pushed _ _, ⟨Nat.le_succ _, fun j hj hh => by simp at hh; omega⟩, by rw [hbl]; exact hge, by rw [hbs]; simp [Cod.sz], ?_⟩
        intro j x hj
        rw [flat_sc] at hj
        have hjl : j < st.data.size := by
          have := (List.getElem?_eq_some_iff.1 hj).1
          simp [bytesOf] at this; exact this
        rw [Nat.zero_add]
        simp only [bytesRow]
        rw [Array.getElem?_append_left (by simpa using hjl)]
        simp only [bytesOf, List.map_map] at hj
        simp only [Array.getElem?_map]
        rw [List.getElem?_map] at hj
        simpa [T0.val] using hj
      · cases hr
    · cases hr
  · cases hr

/-! ### parts of values; texts walked -/
theorem op_nilCheck {x : Operand} (h : Sim X w0 S a w loc) (ho : o.op = .nilCheck x) (hr : evOp E S o.dst o.op o.type (fin o.dst K) = some r) : o.wp X.P a w (Post X w0 K r) Q := by
  rw [ho] at hr
  simp only [evOp] at hr
  have key : ∀ {k : Nat} {ss : List Seg}, get S k = .obj ss → Rep X w S a.tmps loc (fun _ => none) (.alias k) (a.eval x) → fin o.dst K (.alias k) S = some r → o.wp X.P a w (Post X w0 K r) Q := fun {k ss} hs hp hf => by
    have ho' : (get S k).owns = true := by rw [hs]; rfl
    have hv := alias_val h hp ho'
    rw [hs] at hv
    obtain ⟨b, cur, e', fr, g1, g2, g3⟩ := hv
    refine wp0 (v := a.eval x) ?_ h hf rfl hp (fun k' hk' => by cases hk'; exact ho')
    simp [execOp, ho, g2]
  split at hr
  · rename_i s
    split at hr
    · rename_i ss hs
      exact key hs (alias_rep h (by rw [hs]; rfl)) hr
    · rename_i j hs
      split at hr
      · rename_i ss hj
        have := copy_rep h (s := s) (by rw [hs]; rfl)
        rw [hs] at this
        exact key hj this hr
      · cases hr
    · cases hr
  · cases hr
theorem op_index {t : TypeId} {x y : Operand} (hE : EnvOk X E) (h : Sim X w0 S a w loc) (ho : o.op = .index t x y) (hr : evOp E S o.dst o.op o.type (fin o.dst K) = some r) : o.wp X.P a w (Post X w0 K r) Q := by
  rw [ho] at hr
  simp only [evOp] at hr
  split at hr
  · rename_i i ti hi hti
    obtain ⟨k, hy⟩ := asI_val h hi
    have ht := hE.T t ti hti
    split at hr
    · rename_i st hd hx
      have hu := ht.und
      rw [hd] at hu
      have hv := opd_raw h hx
      obtain ⟨hb, hr⟩ := chk_some hr
      have hb := inB_iff hb
      refine wp_raw ?_ h hr
      have hlt : i.toNat < st.size := by omega
      have hge : st[i.toNat]? = some (st.data[i.toNat]'hlt) := by
        rw [getElem?_pos st i.toNat hlt]; rfl
      have hbv : byteAt st i.toNat = ((st.data[i.toNat]'hlt).toNat : Int) := by
        simp [byteAt, List.getElem?_eq_getElem (show i.toNat < st.data.toList.length by simpa using hlt)]
      simp only [execOp, ho, Sem.run_bind, Instr.index, hy, hv, asIntOf, Sem.run_pure, Result.andThen_ok, run_underlying hu, hb.1, if_true, hge, hbv]
    · rename_i n e0 t0 n' l hd hx
      have hu := ht.und
      rw [hd] at hu
      split at hr
      · rename_i hn
        obtain ⟨rfl, hn1, hn2⟩ := hn
        obtain ⟨hb, hr⟩ := chk_some hr
        have hb := inB_iff hb
        refine wp_raw ?_ h hr
        have hv : l.length = n ∧ a.eval x = .agg (flat (.sc t0) l).toArray := by
          cases x with
          | tmp s => rw [opd_tmp] at hx; have := copy_rep h (s := s) (by rw [hx]; rfl); rw [hx] at this; exact this
          | const c => simp [opd] at hx
          | global g => simp [opd] at hx
          | func f => simp [opd] at hx
        cases hte : E.T e0 with
        | none => rw [hte] at hn1; simp at hn1
        | some te =>
          rw [hte] at hn1; simp at hn1
          have hag := isAgg_run (hE.T e0 te hte) w
          rw [hn1] at hag
          have hat : (flat (.sc t0) l)[i.toNat]? = some (t0.val (l.getD i.toNat t0.dflt)) := by
            have := flat_at (.sc t0) l i.toNat 0 (by omega) (by simp [Cod.sz])
            simp only [Cod.sz, Nat.mul_one, Nat.add_zero] at this
            exact this
          simp only [execOp, ho, Sem.run_bind, Instr.index, hy, hv.2, asIntOf, Sem.run_pure, Result.andThen_ok, run_underlying hu, hb.1, hb.2, and_self, if_true, esz_ok hE hn2 w, part, hag, Nat.mul_one, List.getElem?_toArray, hat, Bool.false_eq_true, if_false]
      · cases hr
    · cases hr
  · cases hr
theorem op_range {t : TypeId} {x : Operand} (hE : EnvOk X E) (h : Sim X w0 S a w loc) (ho : o.op = .range t x) (hr : evOp E S o.dst o.op o.type (fin o.dst K) = some r) : o.wp X.P a w (Post X w0 K r) Q := by
  rw [ho] at hr
  simp only [evOp] at hr
  split at hr
  · rename_i ti hti
    have ht := hE.T t ti hti
    split at hr
    · rename_i st hd hx
      have hu := ht.und
      rw [hd] at hu
      have hv := opd_raw h hx
      have hrun : (execOp a.eval o).run X.P w = .ok (.value (.pointer (some ⟨w.heap.size, 0, none⟩))) { w with heap := w.heap.push (.stringIter st 0) } := by
        simp [execOp, ho, Instr.range, run_underlying hu, hv]
      refine wp1 w.heap.size 0 hrun (h.ext (below_alloc' w _)) hr rfl rfl ?_ (new_block h _)
      exact ⟨w.heap.size, by simp, rfl, .inl h.hB, by simp⟩
    · cases hr
  · cases hr
theorem op_extract {x : Operand} {i : Nat} (h : Sim X w0 S a w loc) (ho : o.op = .extract x i) (hr : evOp E S o.dst o.op o.type (fin o.dst K) = some r) : o.wp X.P a w (Post X w0 K r) Q := by
  rw [ho] at hr
  simp only [evOp] at hr
  split at hr
  · rename_i s
    split at hr
    · rename_i vs hs
      split at hr
      · rename_i v hv
        obtain ⟨u, h1, h2, h3⟩ := opd_get h hs (by simp)
        have h3 : u = .tuple vs := h3
        refine wp_raw ?_ h hr
        simp [execOp, ho, Instr.extract, h2, h3, hv]
      · cases hr
    · rename_i ds hs
      obtain ⟨u, h1, h2, h3⟩ := opd_get h hs (by simp)
      obtain ⟨vs, q1, q2, q3⟩ := h3
      split at hr
      · rename_i d hd
        obtain ⟨v, hv, hrep⟩ := q3 i d hd
        have hrun : (execOp a.eval o).run X.P w = .ok (.value v) w := by simp [execOp, ho, Instr.extract, h2, q1, hv]
        split at hr
        · rename_i how
          obtain ⟨loc2, hk2, hf2, hl, hnew⟩ := h.take s (by rw [hs]; rfl)
          have hsl : s < (Px.kill S s).length := by
            rw [kill_length]
            exact (List.getElem?_eq_some_iff.1 (get_of_ne (i := s) (S := S) (by rw [hs]; simp))).1
          have hnew2 : ∀ j b o, loc s j = some (b, o) → ∀ i j' o', loc2 i j' ≠ some (b, o') := fun j b o hj => (hnew j b o hj).2.2
          have hset := hk2.set hsl hf2 (fun j => if j = i then none else if (PV.tup (ds.set i .junk)).owns then loc s j else none) (.tup (ds.set i .junk)) u
            (by
              refine ⟨vs, q1, by simpa using q2, fun j d' hj => ?_⟩
              by_cases hji : j = i
              · subst hji
                refine ⟨v, hv, ?_⟩
                have : j < ds.length := (List.getElem?_eq_some_iff.1 hd).1
                simp [this] at hj; subst hj; trivial
              · rw [List.getElem?_set_ne (Ne.symm hji)] at hj
                obtain ⟨u', g1, g2⟩ := q3 j d' hj
                refine ⟨u', g1, ?_⟩
                simp only [if_neg hji]
                cases hd' : d'.owns with
                | false => cases d' <;> first | exact g2 | simp [D1.owns] at hd'
                | true =>
                  have : (PV.tup (ds.set i .junk)).owns = true := by
                    simp only [PV.owns, List.any_eq_true]
                    refine ⟨d', List.mem_of_getElem? (i := j) ?_, hd'⟩
                    rw [List.getElem?_set_ne (Ne.symm hji)]; exact hj
                  rw [if_pos this]; exact g2)
            (fun k hk => by cases hk) (fun ho' j => by simp only [ho']; split <;> rfl)
            (fun j j' b o o' e1 e2 => by
              split at e1
              · cases e1
              · split at e2
                · cases e2
                · split at e1
                  · rename_i hh; rw [if_pos hh] at e2; exact (h.sep s j s j' b o o' e1 e2).2
                  · cases e1)
            (fun j b o e1 => by
              split at e1
              · cases e1
              · split at e1
                · exact ⟨(h.lt s j b o e1).1, (h.lt s j b o e1).2, hnew2 j b o e1⟩
                · cases e1)
          have hact : ({ a with tmps := a.tmps.setIfInBounds s u } : Act) = a := by
            have : a.tmps.setIfInBounds s u = a.tmps := by
              apply Array.ext_getElem?
              intro m
              by_cases hm : m = s
              · subst hm; rw [Array.getElem?_setIfInBounds_self]; obtain ⟨hlt, he⟩ := Array.getElem?_eq_some_iff.1 h1; simp [hlt, he]
              · rw [Array.getElem?_setIfInBounds_ne (Ne.symm hm)]
            rw [this]
          rw [hact] at hset
          cases d with
          | own C l =>
            refine wpG (fun j => if j = 0 then loc s i else none) hrun hset hr rfl rfl hrep (fun j j' b o o' e1 e2 => by
              split at e1
              · split at e2
                · omega
                · cases e2
              · cases e1) (fun j b o e1 => by
              split at e1
              · refine ⟨(h.lt s i b o e1).1, (h.lt s i b o e1).2, fun i' j' o' e2 => ?_⟩
                by_cases his : i' = s
                · subst his
                  rw [locPut_same] at e2
                  split at e2
                  · cases e2
                  · split at e2
                    · rename_i hji _; exact hji (h.sep i' j' i' i b o' o e2 e1).2
                    · cases e2
                · rw [locPut_ne his] at e2; exact hnew2 i b o e1 i' j' o' e2
              · cases e1)
          | _ => simp [D1.owns] at how
        · rename_i how
          refine wp0 hrun h hr ?_ ?_ (fun k hk => by cases d <;> simp [D1.toPV, PV.ref] at hk)
          · cases d <;> first | rfl | simp [D1.owns] at how
          · cases d <;> first | exact hrep | exact ⟨hrep.1 _ _, hrep.2⟩ | simp [D1.owns] at how
      · cases hr
    · cases hr
  · cases hr
theorem op_next {x : Operand} {ty : TypeId} (h : Sim X w0 S a w loc) (ho : o.op = .next x true) (hr : evOp E S o.dst o.op o.type (fin o.dst K) = some r) : o.wp X.P a w (Post X w0 K r) Q := by
  rw [ho] at hr
  simp only [evOp] at hr
  split at hr
  · rename_i k
    split at hr
    · rename_i st pos hs
      obtain ⟨u, h1, h2, h3⟩ := opd_get h hs (by simp)
      obtain ⟨b, g1, g2, g3, g4⟩ := h3
      by_cases hp : pos < st.size
      · rw [decide_eq_true hp] at hr
        simp only [cond_true] at hr
        have hbl := (h.lt k 0 b 0 g1).1
        have hrun : (execOp a.eval o).run X.P w = .ok (.value (.tuple #[.bool true, .int .i64 pos, .int .i32 (Utf8.decode st pos).1])) { w with heap := w.heap.setIfInBounds b (.stringIter st (pos + (Utf8.decode st pos).2)) } := by
          simp [execOp, ho, h2, g2, Instr.next, getObj, setObj, Sem.run, g4, hp, goInt]
        have hupd := h.updG (k := k) (b := b) (ob := 0) (pk := .iter st (pos + (Utf8.decode st pos).2)) (w' := { w with heap := w.heap.setIfInBounds b (.stringIter st (pos + (Utf8.decode st pos).2)) })
          (by rw [hs]; rfl) g1 (fun c _ hc => by show (w.heap.setIfInBounds b _)[c]? = _; rw [Array.getElem?_setIfInBounds_ne (Ne.symm hc)]) (by simp) rfl rfl rfl
          (fun c => by
            by_cases hc : c = b
            · subst hc; simp [blkSize, g4]
            · refine Nat.le_of_eq (blkSize_of_eq ?_).symm
              show (w.heap.setIfInBounds b _)[c]? = _; rw [Array.getElem?_setIfInBounds_ne (Ne.symm hc)])
          (fun g => by rw [hs]; rfl) (by rw [hs]; rfl) rfl rfl
          (fun v hv => by
            rw [h1] at hv; cases hv
            exact ⟨b, g1, g2, g3, by show (w.heap.setIfInBounds b _)[b]? = _; rw [Array.getElem?_setIfInBounds_self]; simp [hbl]⟩)
        exact wp_raw hrun hupd hr
      · rw [decide_eq_false hp] at hr
        simp only [cond_false] at hr
        refine wp_raw ?_ h hr
        simp [execOp, ho, h2, g2, Instr.next, getObj, Sem.run, g4, hp]
    · cases hr
  · cases hr
end
end Go.Px

