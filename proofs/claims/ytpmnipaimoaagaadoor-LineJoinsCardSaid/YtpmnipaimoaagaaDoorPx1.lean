/- The evaluator: what a function's code does, told over contents (lists, numbers), with no memory in it. Every slot has one owner of each block. -/
import Derived.Laws.AppendOwn
import Derived.Laws.CopyRow
import Derived.Orders
set_option linter.unusedVariables false
set_option linter.unusedSimpArgs false
namespace Go.Px
open Go

/-! ### element kinds -/
inductive T0 where
  | int (k : IntKind)
  | bool
  | str
  deriving DecidableEq
@[reducible] def T0.α : T0 → Type
  | .int _ => Int
  | .bool => Bool
  | .str => ByteArray
def T0.val : (t : T0) → t.α → Value
  | .int k, n => .int k n
  | .bool, b => .bool b
  | .str, s => .string s
def T0.dec : (t : T0) → Value → Option t.α
  | .int k, .int k' n => if k' = k then some n else none
  | .bool, .bool b => some b
  | .str, .string s => some s
  | _, _ => none
def T0.dflt : (t : T0) → t.α
  | .int _ => (0 : Int)
  | .bool => false
  | .str => ByteArray.empty

@[reducible] def recα : List T0 → Type
  | [] => Unit
  | a :: r => a.α × recα r
def recVals : (fs : List T0) → recα fs → List Value
  | [], _ => []
  | a :: r, x => a.val x.1 :: recVals r x.2
def recDec : (fs : List T0) → List Value → Option (recα fs)
  | [], [] => some ()
  | a :: r, v :: vs => (a.dec v).bind fun x => (recDec r vs).bind fun y => some (x, y)
  | _, _ => none
def recDflt : (fs : List T0) → recα fs
  | [] => ()
  | a :: r => (a.dflt, recDflt r)
/-- a field of a record -/
def recAt : (fs : List T0) → recα fs → Nat → Value
  | [], _, _ => .nilFunc
  | a :: _, x, 0 => a.val x.1
  | _ :: r, x, n + 1 => recAt r x.2 n

inductive Cod where
  | sc (t : T0)
  | strc (fs : List T0)
  deriving DecidableEq
@[reducible] def Cod.α : Cod → Type
  | .sc t => t.α
  | .strc fs => recα fs
def Cod.cells : (C : Cod) → C.α → List Value
  | .sc t, x => [t.val x]
  | .strc fs, x => recVals fs x
def Cod.sz : Cod → Nat
  | .sc _ => 1
  | .strc fs => fs.length
def Cod.dflt : (C : Cod) → C.α
  | .sc t => t.dflt
  | .strc fs => recDflt fs
def Cod.fieldAt : (C : Cod) → C.α → Nat → Value
  | .sc t, x, _ => t.val x
  | .strc fs, x, f => recAt fs x f
def flat (C : Cod) (l : List C.α) : List Value := l.flatMap C.cells

/-! ### what a slot holds -/
inductive Seg where
  | one (v : Value)
  | arr (C : Cod) (n : Nat) (l : List C.α)
  | ro (a : Option Addr) (cap : Nat) (C : Cod) (l : List C.α)
def Seg.cells : Seg → List Value
  | .one v => [v]
  | .arr C _ l => flat C l
  | .ro a cap _ l => [.slice a l.length cap]
def Seg.size : Seg → Nat
  | .one _ => 1
  | .arr C n _ => n * C.sz
  | .ro .. => 1
def noRo (ss : List Seg) : Bool := ss.all fun
  | .ro .. => false
  | _ => true
def segCells (ss : List Seg) : List Value := ss.flatMap Seg.cells
def segOff : List Seg → Nat → Nat
  | _, 0 => 0
  | [], _ + 1 => 0
  | s :: r, g + 1 => s.size + segOff r g

/-- a part of a value that is handed over -/
inductive D1 where
  | junk
  | raw (v : Value)
  | arr (C : Cod) (n : Nat) (l : List C.α)
  | strc (ss : List Seg)
  | own (C : Cod) (l : List C.α)
inductive DV where
  | one (d : D1)
  | tup (ds : List D1)

inductive PV where
  | junk
  | raw (v : Value)
  | arr (C : Cod) (n : Nat) (l : List C.α)
  | strc (ss : List Seg)
  | ros (C : Cod) (l : List C.α)
  | own (C : Cod) (l : List C.α)
  | tup (ds : List D1)
  | obj (ss : List Seg)
  | iter (s : ByteArray) (pos : Nat)
  | alias (k : Nat)
  | view (k g off len : Nat)
  | ptr (k g idx f : Nat)
  | gl (g : Nat)
  | gptr (g s idx f : Nat)
  | fptr (C : Cod) (l : List C.α) (idx f : Nat)
  | spr (C : Cod) (l : List C.α) (n : Nat)
abbrev St := List PV
def isObj : PV → Bool
  | .obj _ => true
  | _ => false
def get (S : St) (i : Nat) : PV := S.getD i .junk
def D1.owns : D1 → Bool
  | .own .. => true
  | _ => false
def PV.owns : PV → Bool
  | .own .. | .obj .. | .iter .. | .spr .. => true
  | .tup ds => ds.any D1.owns
  | _ => false
def PV.ref : PV → Option Nat
  | .alias k | .view k .. | .ptr k .. => some k
  | _ => none
def kill1 (d : Nat) (p : PV) : PV := if p.ref = some d then .junk else p
def kill (S : St) (d : Nat) : St := if (get S d).owns then (S.map (kill1 d)).set d .junk else S
/-- a value goes into a slot -/
def put (S : St) (d : Option Nat) (p : PV) : St :=
  match d with
  | none => S
  | some d => (kill S d).set d p
/-- a variable that was handed over stays in its slot -/
def pinned (S : St) (d : Nat) : Bool := Nat.beq d 0 && isObj (get S 0)
def rename1 (s d : Nat) : PV → PV
  | .alias k => .alias (if k = s then d else k)
  | .view k g o l => .view (if k = s then d else k) g o l
  | .ptr k g i f => .ptr (if k = s then d else k) g i f
  | p => p

/-- what a seg tells of itself -/
def Seg.kind : Seg → Nat × Nat
  | .one _ => (1, 1)
  | .arr C n _ => (C.sz, n)
  | .ro .. => (1, 1)
/-- base, size of an element, how many -/
def shp : PV → Nat → Option (Nat × Nat × Nat)
  | .own C l, 0 => some (0, C.sz, l.length)
  | .spr C l _, 0 => some (0, C.sz, l.length)
  | .obj ss, g => match ss[g]? with
    | some (.one _) => some (segOff ss g, 1, 1)
    | some (.arr C n _) => some (segOff ss g, C.sz, n)
    | some (.ro ..) => some (segOff ss g, 1, 1)
    | none => none
  | _, _ => none
/-! ### types -/
structure TI where
  desc : TypeDesc
  size : Nat
  bytes : Nat
  agg : Bool
  cod : Option Cod
  zero : List Seg
structure Cont where
  C : Cod
  l : List C.α
/-- the contents of a slice -/
def content (S : St) : PV → Option Cont
  | .ros C l | .own C l => some ⟨C, l⟩
  | .alias k => match get S k with
    | .own C l => some ⟨C, l⟩
    | .spr C l n => some ⟨C, l.take n⟩
    | _ => none
  | .view k g off len => match get S k with
    | .own C l => some ⟨C, (l.drop off).take len⟩
    | .spr C l _ => some ⟨C, (l.drop off).take len⟩
    | .obj ss => match ss[g]? with
      | some (.arr C n l) => if off = 0 ∧ len = n then some ⟨C, l⟩ else some ⟨C, (l.drop off).take len⟩
      | _ => none
    | _ => none
  | _ => none
def slLen (S : St) : PV → Option Nat
  | .raw (.slice none 0 0) => some 0
  | .ros _ l | .own _ l => some l.length
  | .alias k => match get S k with
    | .own _ l => some l.length
    | _ => none
  | .view _ _ _ len => some len
  | _ => none
/-- with a nil of a known element kind -/
def contentT (S : St) (C : Cod) (p : PV) : Option (List C.α) :=
  match p with
  | .raw (.slice none 0 0) => some []
  | p => match content S p with
    | some ⟨C', l⟩ => if h : C' = C then some (h ▸ l) else none
    | none => none

structure Fun : Type 1 where
  run : (ρ : Type) → List DV → (DV → Option ρ) → Option ρ
  nat : ∀ (ρ : Type) (ds : List DV) (k : DV → Option ρ) (r : ρ), run ρ ds k = some r → ∃ d, ∀ k' : DV → Option ρ, run ρ ds k' = k' d
/-- a function that is handed one variable to write: what it holds, the rest; what it holds then -/
structure FunR : Type 1 where
  run : (ρ : Type) → List Seg → List DV → (List Seg → DV → Option ρ) → Option ρ
/-- a function that is handed a slice of ours to use up: what it holds, the rest -/
structure FunA : Type 1 where
  run : (ρ : Type) → Cont → List DV → (DV → Option ρ) → Option ρ
structure LoopC (ρ : Type) : Type 1 where
  σ : Type
  τ : Type
  projI : St → Option σ
  injI : σ → St
  projX : St → Option τ
  injX : τ → St
  L : σ → (τ → Option ρ) → Option ρ
structure Env (ρ : Type) : Type 1 where
  T : TypeId → Option TI
  Γ : FuncId → Option Fun
  R : FuncId → Option FunR
  A : FuncId → Option FunA
  G : Nat → Option (List Seg)
  Λ : Nat → Option (LoopC ρ)

section
variable {ρ : Type}

def opd (S : St) : Operand → PV
  | .tmp t => get S t
  | .const v => .raw v
  | .global g => .gl g
  | .func f => .raw (.func (.func f) #[] #[])

/-- an int in a slot -/
def asI : PV → Option Int
  | .raw (.int _ n) => some n
  | _ => none
def chk (b : Bool) (k : Option ρ) : Option ρ := cond b k none

/-- a value of one cell -/
abbrev oneC (v : Value) : Bool := v.oneCell'
def pureVal : Sem Value → Option Value
  | .pure v => some v
  | _ => none

/-- an operand; an owner is told as an alias of itself -/
def selfAlias (x : Operand) (p : PV) : PV := match x with
  | .tmp s => match p with
    | .own .. | .obj .. | .spr .. => .alias s
    | p => p
  | _ => p
/-! ### operators -/
def evShift (op : BinOp) (k : IntKind) (a b : Int) (K : Value → Option ρ) : Option ρ :=
  match op with
  | .shl => K (.int k (k.wrap (a * 2 ^ (min b.toNat k.bits))))
  | .shr => K (.int k (a.fdiv (2 ^ (min b.toNat k.bits))))
  | _ => none
def isNN : Int → Bool
  | .ofNat _ => true
  | .negSucc _ => false
/-- is it a written number that is not negative? -/
def evBin (td : Option TypeDesc) (op : BinOp) (v u : Value) (lit : Bool) (K : Value → Option ρ) : Option ρ :=
  match op, v, u with
  | .shl, .int k a, .int _ b | .shr, .int k a, .int _ b => if lit then evShift op k a b K else chk (decide (0 ≤ b)) (evShift op k a b K)
  | .add, .string a, .string b => chk (decide (a.size + b.size < 4611686018427387904)) (K (.string (a ++ b)))
  | .quo, .int k a, .int k' b | .rem, .int k a, .int k' b =>
    if k = k' then
      if lit then (match pureVal (Op.intDiv op k a b) with | some v => K v | none => none)
      else chk (decide (b ≠ 0)) (match op with | .quo => K (.int k (k.wrap (a.tdiv b))) | _ => K (.int k (a.tmod b)))
    else none
  | op, .int k a, .int k' b =>
    if k = k' then
      match (match op with
        | .add | .sub | .mul => pureVal (Op.intArith op k a b)
        | .and | .or | .xor | .andNot => pureVal (Op.intBits op k a b)
        | _ => pureVal (Op.intCmp op a b)) with
      | some v => K v
      | none => none
    else none
  | op, .string a, .string b => match op with
    | .eql | .neq | .lss | .leq | .gtr | .geq => (match pureVal (Op.stringOp op a b) with | some v => K v | none => none)
    | _ => none
  | .eql, .bool a, .bool b => match td with
    | some .bool => K (.bool (a == b))
    | _ => none
  | .neq, .bool a, .bool b => match td with
    | some .bool => K (.bool (!(a == b)))
    | _ => none
  | _, _, _ => none
def strOf (l : List Int) : ByteArray := ⟨(l.map fun n => UInt8.ofNat n.toNat).toArray⟩
def bytesOf (s : ByteArray) : List Int := s.data.toList.map fun b => (b.toNat : Int)
def byteAt (s : ByteArray) (i : Nat) : Int := (((s.data.toList)[i]?.getD 0).toNat : Int)
def strOfRunes (l : List Int) : ByteArray := l.foldl (fun s n => s ++ Utf8.encode n) ByteArray.empty
def subStr (s : ByteArray) (a b : Int) : ByteArray := s.extract a.toNat b.toNat

def isLit : Operand → Bool
  | .const (.int _ n) => isNN n && n != 0
  | _ => false

/-- a bound of a slice expression: absent, or a number -/
def bnd (S : St) (d : Int) : Option Operand → Option Int
  | none => some d
  | some o => asI (opd S o)
def inB (i : Int) (n : Int) : Bool := decide (0 ≤ i) && decide (i < n)
def leB (a b : Int) : Bool := decide (a ≤ b)

/-- the size of a type, in cells -/
def esz (E : Env ρ) (t : TypeId) : Option Nat := (E.T t).map (·.size)
/-- x[lo:hi] -/
def evSlice (E : Env ρ) (S : St) (t : TypeId) (x : PV) (lo hi : Option Operand) (K : PV → Option ρ) : Option ρ :=
  match E.T t with
  | none => none
  | some ti => match ti.desc, x with
    | .string, .raw (.string s) =>
      (bnd S 0 lo).bind fun a => (bnd S s.size hi).bind fun b =>
      chk (leB 0 a && (leB a b && leB b s.size)) (K (.raw (.string (subStr s a b))))
    | .array n e, .alias k => match get S k with
      | .obj [.arr C n' _] => if n = n' ∧ esz E e = some C.sz then
          (bnd S 0 lo).bind fun a => (bnd S n hi).bind fun b =>
          chk (leB 0 a && (leB a b && leB b n)) (K (.view k 0 a.toNat (b - a).toNat))
        else none
      | _ => none
    | .array n e, .ptr k g idx f => match get S k with
      | .obj ss => match ss[g]? with
        | some (.arr C n' _) => if n = n' ∧ esz E e = some C.sz ∧ 0 < C.sz ∧ idx = 0 ∧ f = 0 then
            (bnd S 0 lo).bind fun a => (bnd S n hi).bind fun b =>
            chk (leB 0 a && (leB a b && leB b n)) (K (.view k g a.toNat (b - a).toNat))
          else none
        | _ => none
      | _ => none
    | .slice e, .ros C l => if esz E e = some C.sz then
        (bnd S 0 lo).bind fun a => (bnd S l.length hi).bind fun b =>
        chk (leB 0 a && (leB a b && leB b l.length)) (K (.ros C ((l.drop a.toNat).take (b - a).toNat)))
      else none
    | .slice e, .alias k => match get S k with
      | .own C l => if esz E e = some C.sz then
          (bnd S 0 lo).bind fun a => (bnd S l.length hi).bind fun b =>
          chk (leB 0 a && (leB a b && leB b l.length)) (K (.view k 0 a.toNat (b - a).toNat))
        else none
      | .spr C l n => if esz E e = some C.sz then
          (bnd S 0 lo).bind fun a => (bnd S n hi).bind fun b =>
          chk (leB 0 a && (leB a b && leB b l.length)) (K (.view k 0 a.toNat (b - a).toNat))
        else none
      | _ => none
    | _, _ => none

/-- &x[i] -/
def evIndexAddr (E : Env ρ) (S : St) (t : TypeId) (x : PV) (i : Int) (K : PV → Option ρ) : Option ρ :=
  match E.T t with
  | none => none
  | some ti => match ti.desc, x with
    | .array n e, .alias k => match get S k with
      | .obj [.arr C n' _] => if n = n' ∧ esz E e = some C.sz ∧ 0 < C.sz then chk (inB i n) (K (.ptr k 0 i.toNat 0)) else none
      | _ => none
    | .array n e, .gl g => match (E.G g) with
      | some [.arr C n' _] => if n = n' ∧ esz E e = some C.sz ∧ 0 < C.sz then chk (inB i n) (K (.gptr g 0 i.toNat 0)) else none
      | _ => none
    | .array n e, .ptr k g 0 0 => match get S k with
      | .obj ss => match ss[g]? with
        | some (.arr C n' _) => if n = n' ∧ esz E e = some C.sz ∧ 0 < C.sz then chk (inB i n) (K (.ptr k g i.toNat 0)) else none
        | _ => none
      | _ => none
    | .slice e, .alias k => match get S k with
      | .own C l => if esz E e = some C.sz ∧ 0 < C.sz then chk (inB i l.length) (K (.ptr k 0 i.toNat 0)) else none
      | _ => none
    | .slice e, .view k g off len => match shp (get S k) g with
      | some (_, sz, _) => if esz E e = some sz ∧ 0 < sz then chk (inB i len) (K (.ptr k g (off + i.toNat) 0)) else none
      | none => none
    | .slice e, .ros C l => if esz E e = some C.sz ∧ 0 < C.sz then chk (inB i l.length) (K (.fptr C l i.toNat 0)) else none
    | _, _ => none
/-- an element, or a field of it -/
def evEl (ti : TI) (C : Cod) (x : C.α) (f : Nat) (K : PV → Option ρ) : Option ρ :=
  if ti.agg = false then K (.raw (C.fieldAt x f))
  else match ti.desc with
    | .struct _ => if f = 0 ∧ ti.size = C.sz then K (.strc ((C.cells x).map Seg.one)) else none
    | _ => none
/-- a part of a variable -/
def evRd (ti : TI) (ss : List Seg) (g idx f : Nat) (K : PV → Option ρ) : Option ρ :=
  match ss[g]? with
  | some (.one v) => if ti.agg = false then K (.raw v) else none
  | some (.arr C n l) => match ti.desc with
    | .array n' _ => if idx = 0 ∧ f = 0 ∧ n = n' ∧ ti.size = n * C.sz then K (.arr C n l) else none
    | _ => evEl ti C (l.getD idx C.dflt) f K
  | some (.ro _ _ C l) => if ti.agg = false then K (.ros C l) else none
  | none => none
/-- reads of a slice that is not ours: its element, at once -/
def evLoad (E : Env ρ) (S : St) (t : TypeId) (p : PV) (K : PV → Option ρ) : Option ρ :=
  match E.T t with
  | none => none
  | some ti =>
    match p with
    | .alias k => match get S k with
      | .obj [.arr C n l] => match ti.desc with
        | .array n' _ => if n = n' ∧ ti.size = n * C.sz then K (.arr C n l) else none
        | _ => none
      | .obj ss => match ti.desc with
        | .struct _ => if ti.size = (ss.map Seg.size).sum then K (.strc ss) else none
        | _ => none
      | _ => none
    | .ptr k g idx f => match get S k with
      | .own C l => match ti.desc with
        | .array n _ => if f = 0 ∧ ti.size = n * C.sz then chk (decide (idx + n ≤ l.length)) (K (.arr C n ((l.drop idx).take n))) else none
        | _ => evEl ti C (l.getD idx C.dflt) f K
      | .obj ss => evRd ti ss g idx f K
      | _ => none
    | .gptr g s idx f => match E.G g with
      | some ss => evRd ti ss s idx f K
      | none => none
    | .fptr C l idx f => evEl ti C (l.getD idx C.dflt) f K
    | .gl g => match E.G g with
      | some [.arr C n l] => match ti.desc with
        | .array n' _ => if n = n' ∧ ti.size = n * C.sz then K (.arr C n l) else none
        | _ => none
      | _ => none
    | _ => none
/-- a slice told as an array that is pointed to -/
def evArrAt (E : Env ρ) (S : St) (t : TypeId) (x : PV) (K : PV → Option ρ) : Option ρ :=
  match E.T t with
  | none => none
  | some ti => match ti.desc with
    | .array n _ => match x with
      | .view k g off len => match get S k with
        | .own C _ => if 0 < n ∧ 0 < C.sz then chk (decide (n ≤ len)) (K (.ptr k g off 0)) else none
        | _ => none
      | _ => none
    | _ => none
def evFieldAddr (E : Env ρ) (S : St) (t : TypeId) (x : PV) (f : Nat) (K : PV → Option ρ) : Option ρ :=
  match E.T t with
  | none => none
  | some ti => match ti.desc with
    | .struct fs => match fs[f]? with
      | none => none
      | some fd => match E.T fd.type with
        | none => none
        | some tf => if tf.size = 0 then none else match x with
          | .alias k => match get S k with
            | .obj ss => match ss[f]? with
              | some sg => if segOff ss f = fd.offset ∧ 0 < sg.kind.1 ∧ 0 < sg.kind.2 then K (.ptr k f 0 0) else none
              | none => none
            | _ => none
          | .ptr k g idx 0 => match get S k with
            | .own (.strc fs') _ => if fd.offset = f ∧ f < fs'.length ∧ g = 0 then K (.ptr k g idx f) else none
            | _ => none
          | .fptr (.strc fs') l idx 0 => if fd.offset = f ∧ f < fs'.length then K (.fptr (.strc fs') l idx f) else none
          | .gptr g s idx 0 => match E.G g with
            | some ss => match ss[s]? with
              | some (.arr (.strc fs') _ _) => if fd.offset = f ∧ f < fs'.length then K (.gptr g s idx f) else none
              | _ => none
            | none => none
          | _ => none
    | _ => none
def ones : List Seg → Option (List Value)
  | [] => some []
  | .one v :: r => (ones r).bind fun l => some (v :: l)
  | _ => none
/-- an element out of a slot's value -/
def PV.elem (C : Cod) : PV → Option C.α
  | .raw v => match C with
    | .sc t => t.dec v
    | .strc _ => none
  | .strc ss => match C with
    | .sc _ => none
    | .strc fs => (ones ss).bind (recDec fs)
  | _ => none
/-- one cell each -/
def segs1 (ss : List Seg) : Bool := ss.all fun
  | .one v => oneC v
  | _ => true
/-- *p = x; the new contents -/
def evStore (E : Env ρ) (S : St) (t : TypeId) (p x : PV) (K : St → Option ρ) : Option ρ :=
  match E.T t with
  | none => none
  | some ti => match p with
    | .alias k => match get S k, x with
      | .obj [.arr C n _], .arr C' n' l' => if C = C' ∧ n = n' ∧ ti.size = n * C.sz then K (S.set k (.obj [.arr C' n' l'])) else none
      | .obj [.one _], .raw v => if oneC v ∧ ti.size = 1 then K (S.set k (.obj [.one v])) else none
      | .obj ss, .strc ss' => if ss'.map Seg.kind = ss.map Seg.kind ∧ segs1 ss' = true ∧ ti.size = (ss'.map Seg.size).sum then K (S.set k (.obj ss')) else none
      | _, _ => none
    | .ptr k g idx 0 => match get S k with
      | .own (.sc c) l => if ti.size = 1 then (match x with
        | .raw v => (c.dec v).bind fun y => K (S.set k (.own (.sc c) (l.set idx y)))
        | _ => none) else none
      | .obj ss => match ss[g]? with
        | some (.one _) => if ti.size = 1 then (match x with
          | .raw v => if oneC v then K (S.set k (.obj (ss.set g (.one v)))) else none
          | _ => none) else none
        | some (.arr (.sc c) n l) => match x with
          | .raw v => if ti.size = 1 then (c.dec v).bind fun y => K (S.set k (.obj (ss.set g (.arr (.sc c) n (l.set idx y))))) else none
          | .arr C' n' l' => if Cod.sc c = C' ∧ n = n' ∧ ti.size = n ∧ idx = 0 then K (S.set k (.obj (ss.set g (.arr C' n' l')))) else none
          | _ => none
        | _ => none
      | _ => none
    | _ => none
def D1.toPV : D1 → PV
  | .junk => .junk
  | .raw v => .raw v
  | .arr C n l => .arr C n l
  | .strc ss => .strc ss
  | .own C l => .own C l
def DV.toPV : DV → PV
  | .one d => d.toPV
  | .tup ds => .tup ds
/-- what is handed to a callee -/
def toD1 (S : St) (p : PV) : Option D1 :=
  match p with
  | .raw v => some (.raw v)
  | .arr C n l => some (.arr C n l)
  | .strc ss => some (.strc ss)
  | p => match content S p with
    | some c => some (.own c.C c.l)
    | none => none
def codOf (E : Env ρ) (t : TypeId) : Option (Cod × Nat) :=
  match E.T t with
  | some ti => match ti.desc with
    | .slice e => match E.T e with
      | some te => match te.cod with
        | some C => if te.size = C.sz then some (C, te.bytes) else none
        | none => none
      | none => none
    | _ => none
  | none => none
/-- what is appended or copied: a slice's elements, a text's bytes -/
def srcOf (E : Env ρ) (S : St) (C : Cod) (p : PV) : Option (List C.α) :=
  match p, C with
  | .raw (.string s), .sc (.int .u8) => some (bytesOf s)
  | p, C => contentT S C p
def room (C : Cod) (bytes : Nat) (a b : List C.α) : Bool := decide ((a.length + b.length) * bytes < 140737488355328)
/-- a slice or a text -/
def okSrc (E : Env ρ) (t : TypeId) : Bool := match E.T t with
  | some ti => match ti.desc with
    | .slice _ | .string => true
    | _ => false
  | none => false
def evAppend (E : Env ρ) (S : St) (t : TypeId) (xo yo : Operand) (K : PV → St → Option ρ) : Option ρ :=
  match codOf E t with
  | none => none
  | some (C, bytes) => if bytes = 0 then none else match srcOf E S C (selfAlias yo (opd S yo)) with
    | none => none
    | some y =>
      let use (j : Nat) : Option ρ := match get S j with
        | .own C' l => if h : C' = C then chk (room C bytes (h ▸ l) y) (K (.own C ((h ▸ l) ++ y)) (kill S j)) else none
        | _ => none
      match opd S xo with
      | .raw (.slice none 0 0) => chk (room C bytes [] y) (K (.own C y) S)
      | .own .. => match xo with
        | .tmp j => use j
        | _ => none
      | .alias j => use j
      | .view k g off len => match get S k with
        | .obj ss => match ss[g]? with
          | some (.arr C' n l) => if h : C' = C then
              if off + len = n then cond (decide (y.length = 0)) (K (.view k g off len) S) (chk (room C bytes ((h ▸ l : List C.α).drop off) y) (K (.own C (((h ▸ l : List C.α).drop off) ++ y)) S)) else none
            else none
          | _ => none
        | _ => none
      | _ => none
def copied {α : Type} (l : List α) (off n : Nat) (y : List α) : List α := l.take off ++ y.take n ++ l.drop (off + n)
def evCopy (E : Env ρ) (S : St) (t : TypeId) (x yp : PV) (K : PV → St → Option ρ) : Option ρ :=
  match codOf E t with
  | none => none
  | some (C, _) => match srcOf E S C yp with
    | none => none
    | some y => match x with
      | .alias k => match get S k with
        | .own C' l => if h : C' = C then
            let l : List C.α := h ▸ l
            let n := min y.length l.length
            K (.raw (.int .i64 n)) (S.set k (.own C (copied l 0 n y))) else none
        | .spr C' l m => if h : C' = C then
            let l : List C.α := h ▸ l
            let n := min y.length m
            K (.raw (.int .i64 n)) (S.set k (.spr C (copied l 0 n y) m)) else none
        | _ => none
      | .view k g off len => match get S k with
        | .obj ss => match ss[g]? with
          | some (.arr C' n' l) => if h : C' = C ∧ 0 < len then
              let l : List C.α := h.1 ▸ l
              let n := min y.length len
              K (.raw (.int .i64 n)) (S.set k (.obj (ss.set g (.arr C n' (copied l off n y))))) else none
          | _ => none
        | _ => none
      | _ => none
def evConvert (E : Env ρ) (S : St) (a b : TypeId) (p : PV) (K : PV → Option ρ) : Option ρ :=
  match E.T a, E.T b with
  | some ta, some tb => match tb.desc, p with
    | .int k, .raw (.int _ n) => K (.raw (.int k (k.wrap n)))
    | .string, p => match ta.desc with
      | .string => (match p with | .raw (.string s) => K (.raw (.string s)) | _ => none)
      | .slice _ => match codOf E a with
        | some (.sc (.int .u8), _) => (match contentT S (.sc (.int .u8)) p with | some l => K (.raw (.string (strOf l))) | none => none)
        | some (.sc (.int .i32), _) => (match contentT S (.sc (.int .i32)) p with | some l => K (.raw (.string (strOfRunes l))) | none => none)
        | _ => none
      | _ => none
    | .slice _, p => match ta.desc, p with
     | .slice _, .alias k => match codOf E b, get S k with
      | some (.sc (.int .u8), _), .own (.sc (.int .u8)) l => if a = b then chk (decide (0 < l.length)) (K (.alias k)) else none
      | _, _ => none
     | .string, .raw (.string s) => match codOf E b with
      | some (.sc (.int .u8), _) => chk (decide (s.size < 140737488355328)) (K (.own (.sc (.int .u8)) (bytesOf s)))
      | _ => none
     | _, _ => none
    | _, _ => none
  | _, _ => none
def evLen (E : Env ρ) (S : St) (t : TypeId) (p : PV) (K : PV → Option ρ) : Option ρ :=
  match E.T t with
  | some ti => match ti.desc, p with
    | .string, .raw (.string s) => K (.raw (.int .i64 s.size))
    | .slice _, p => (match slLen S p with | some n => K (.raw (.int .i64 n)) | none => none)
    | .array n _, _ => K (.raw (.int .i64 n))
    | _, _ => none
  | none => none
def elems (S : St) (C : Cod) : Nat → List (Nat × Operand) → Option (List C.α)
  | _, [] => some []
  | i, (j, o) :: r => if i = j then ((opd S o).elem C).bind fun x => (elems S C (i + 1) r).bind fun l => some (x :: l) else none
def evBuildSlice (E : Env ρ) (S : St) (t : TypeId) (len : Nat) (parts : List (Nat × Operand)) (K : PV → Option ρ) : Option ρ :=
  match codOf E t with
  | none => none
  | some (C, _) => if parts.length = len ∧ 0 < len ∧ len ≤ 64 ∧ C.sz ≤ 1000 ∧ 0 < C.sz then (match elems S C 0 parts with | some l => K (.own C l) | none => none) else none
/-- the fields stand where the parts stand -/
def fieldsSeg (E : Env ρ) (z : List Seg) : Nat → List Field → Bool
  | _, [] => true
  | i, f :: r => (match z[i]? with
      | some s => f.offset == segOff z i && (match E.T f.type with | some tf => tf.size == s.size | none => false)
      | none => false) && fieldsSeg E z (i + 1) r
def setParts (S : St) : List Seg → List (Nat × Operand) → Option (List Seg)
  | z, [] => some z
  | z, (i, o) :: r => match z[i]?, opd S o with
    | some (.one _), .raw v => if oneC v = true then setParts S (z.set i (.one v)) r else none
    | some (.arr C n _), .arr C' n' l => if C = C' ∧ n = n' then setParts S (z.set i (.arr C' n' l)) r else none
    | _, _ => none
def setEls (S : St) (c : T0) : List c.α → List (Nat × Operand) → Option (List c.α)
  | z, [] => some z
  | z, (i, o) :: r => match opd S o with
    | .raw v => if i < z.length then (c.dec v).bind fun y => setEls S c (z.set i y) r else none
    | _ => none
def evBuild (E : Env ρ) (S : St) (t : TypeId) (parts : List (Nat × Operand)) (K : PV → Option ρ) : Option ρ :=
  match E.T t with
  | some ti => match ti.desc with
    | .struct fs => if fieldsSeg E ti.zero 0 fs.toList = true ∧ ti.zero.length = fs.toList.length then (setParts S ti.zero parts).bind fun z => K (.strc z) else none
    | .array n e => match ti.zero with
      | [.arr (.sc c) n' z] => if n = n' ∧ esz E e = some 1 then (setEls S c z parts).bind fun z' => K (.arr (.sc c) n z') else none
      | _ => none
    | _ => none
  | none => none
/-! ### == of arrays and structs -/
def isIntT (E : Env ρ) (e : TypeId) (k : IntKind) : Bool := match E.T e with
  | some te => (match te.desc with | .int k' => decide (k' = k) | _ => false)
  | none => false
def leq (a b : List Int) : Bool := a == b
def segEq (E : Env ρ) (tf : TI) (a b : Seg) : Option Bool :=
  match tf.desc, a, b with
  | .int _, .one (.int k x), .one (.int k' y) => if k = k' then some (x == y) else none
  | .bool, .one (.bool x), .one (.bool y) => some (x == y)
  | .string, .one (.string x), .one (.string y) => some (x.toList == y.toList)
  | .array n e, .arr (.sc (.int k)) n1 l, .arr (.sc (.int k')) n2 l' =>
    if k = k' ∧ n1 = n ∧ n2 = n ∧ isIntT E e k = true ∧ esz E e = some 1 then some (leq l l') else none
  | _, _, _ => none
def fieldsEq (E : Env ρ) (o : Nat) : List Field → List Seg → List Seg → Option Bool
  | [], [], [] => some true
  | f :: fs, a :: r, b :: r' => if f.name ≠ "_" ∧ f.offset = o then
      match E.T f.type with
      | some tf => if tf.size = a.size ∧ b.size = a.size then (segEq E tf a b).bind fun x => (fieldsEq E (o + a.size) fs r r').bind fun y => some (x && y) else none
      | none => none
    else none
  | _, _, _ => none
def evEq (E : Env ρ) (t : TypeId) (x y : PV) : Option Bool :=
  match E.T t with
  | some ti => match x, y with
    | .arr C n l, .arr C' n' l' => (match ti.desc with | .array .. => segEq E ti (.arr C n l) (.arr C' n' l') | _ => none)
    | .strc ss, .strc ss' => (match ti.desc with | .struct fs => fieldsEq E 0 fs.toList ss ss' | _ => none)
    | _, _ => none
  | none => none
def evCmp (E : Env ρ) (op : BinOp) (t : TypeId) (x y : PV) (K : PV → Option ρ) : Option ρ :=
  match op with
  | .eql => (evEq E t x y).bind fun b => K (.raw (.bool b))
  | .neq => (evEq E t x y).bind fun b => K (.raw (.bool (!b)))
  | _ => none
/-! ### make -/
def zeroInt (k : IntKind) : List Seg → Bool
  | [.one (.int k' n)] => decide (k' = k ∧ n = 0)
  | _ => false
/-- the same operand twice -/
def sameO : Operand → Operand → Bool
  | .tmp a, .tmp b => Nat.beq a b
  | .const (.int _ a), .const (.int _ b) => decide (a = b)
  | _, _ => false
def evMake (E : Env ρ) (t : TypeId) (same : Bool) (x y : PV) (K : PV → Option ρ) : Option ρ :=
  match E.T t, asI x, asI y with
  | some ti, some l, some c => match ti.desc with
    | .slice e => match E.T e with
      | some te => match te.cod with
        | some (.sc (.int k)) => if zeroInt k te.zero = true ∧ te.size = 1 ∧ 0 < te.bytes then cond (same || leB c l) (chk (leB 0 l && (leB l c && (leB c l && decide (l.toNat * te.bytes < 140737488355328)))) (K (.own (.sc (.int k)) (List.replicate l.toNat 0)))) (chk (leB 0 l && decide (c.toNat * te.bytes < 140737488355328)) (K (.spr (.sc (.int k)) (List.replicate c.toNat 0) l.toNat))) else none
        | _ => none
      | none => none
    | _ => none
  | _, _, _ => none
/-! ### values of any type -/
inductive Dyn where
  | nil
  | int (u : TypeId) (k : IntKind) (n : Int)
  | bool (u : TypeId) (b : Bool)
  | str (u : TypeId) (s : ByteArray)
def Dyn.val : Dyn → Value
  | .nil => .nilIface
  | .int u k n => .iface u (.int k n)
  | .bool u b => .iface u (.bool b)
  | .str u s => .iface u (.string s)
def Dyn.dec : Value → Option Dyn
  | .nilIface => some .nil
  | .iface u (.int k n) => some (.int u k n)
  | .iface u (.bool b) => some (.bool u b)
  | .iface u (.string s) => some (.str u s)
  | _ => none
theorem Dyn.dec_val (d : Dyn) : Dyn.dec d.val = some d := by cases d <;> rfl
theorem Dyn.dec_ok {v : Value} {d : Dyn} (h : Dyn.dec v = some d) : v = d.val := by
  unfold Dyn.dec at h
  split at h <;> first
    | (cases h; rfl)
    | cases h
def isT (T : TypeId) : Value → Bool
  | .iface u _ => u == T
  | _ => false
def fitT (T : TypeId) (τ : T0) : Value → Bool
  | .nilIface => true
  | .iface u x => !(u == T) || (τ.dec x).isSome
  | _ => false
def asT (τ : T0) (T : TypeId) : Value → τ.α
  | .iface u x => if u = T then (τ.dec x).getD τ.dflt else τ.dflt
  | _ => τ.dflt
def evTA (E : Env ρ) (T : TypeId) (ok : Bool) (x : PV) (K : PV → Option ρ) : Option ρ :=
  match E.T T, x, ok with
  | some ti, .raw v, true => match ti.cod with
    | some (.sc τ) => chk (fitT T τ v) (cond (isT T v) (K (.raw (.tuple #[τ.val (asT τ T v), .bool true]))) (K (.tup [.junk, .raw (.bool false)])))
    | _ => none
  | _, _, _ => none
def evMI (E : Env ρ) (T : TypeId) (x : PV) (K : PV → Option ρ) : Option ρ :=
  match E.T T, x with
  | some ti, .raw v => match ti.cod with
    | some (.sc _) => K (.raw (.iface T v))
    | _ => none
  | _, _ => none
def takeD (ds : List D1) (i : Nat) : PV := match ds[i]? with
  | some d => d.toPV
  | none => .junk
def evCallArgs (S : St) : List Operand → Option (List D1)
  | [] => some []
  | o :: r => (toD1 S (selfAlias o (opd S o))).bind fun d => (evCallArgs S r).bind fun ds => some (d :: ds)
/-- what is handed over beside the variable of slot k -/
def evCallArgsR (S : St) (k : Nat) : List Operand → Option (List D1)
  | [] => some []
  | o :: r => if (selfAlias o (opd S o)).ref = some k then none else (toD1 S (selfAlias o (opd S o))).bind fun d => (evCallArgsR S k r).bind fun ds => some (d :: ds)
/-- the rest: plain values -/
def evCallArgsS (S : St) : List Operand → Option (List D1)
  | [] => some []
  | o :: r => match opd S o with
    | .raw v => (evCallArgsS S r).bind fun ds => some (.raw v :: ds)
    | _ => none
def evCallA (E : Env ρ) (S : St) (f : FuncId) (args : List Operand) (K : PV → St → Option ρ) : Option ρ :=
  match E.A f, args with
  | some F, x :: xs => match selfAlias x (opd S x) with
    | .alias k => match get S k with
      | .own C l => (evCallArgsS S xs).bind fun ds => F.run ρ ⟨C, l⟩ (ds.map .one) fun d => K d.toPV (kill S k)
      | _ => none
    | _ => none
  | _, _ => none
def evCallR (E : Env ρ) (S : St) (f : FuncId) (args : List Operand) (K : PV → St → Option ρ) : Option ρ :=
  match E.R f, args with
  | some F, x :: xs => match selfAlias x (opd S x) with
    | .alias k => match get S k with
      | .obj ss => cond (noRo ss) ((evCallArgsR S k xs).bind fun ds => F.run ρ ss (ds.map .one) fun ss' d => K d.toPV (S.set k (.obj ss'))) none
      | _ => none
    | _ => none
  | none, args => evCallA E S f args K
  | _, _ => none
/-- one operation: its value, and what has become of the slots -/
def evOp (E : Env ρ) (S : St) (dst : Option Nat) (o : Op) (ty : TypeId) (K : PV → St → Option ρ) : Option ρ :=
  match o with
  | .move x => match x with
    | .tmp s => match get S s with
      | .own .. | .obj .. | .iter .. | .spr .. => K (.alias s) S
      | .tup ds => K (.tup ds) (kill S s)
      | p => K p S
    | x => K (opd S x) S
  | .assign x => match x with
    | .tmp s => match get S s, dst with
      | .own C l, some d => if s = d ∨ pinned S d = true then none else K (.own C l) (((kill S d).map (rename1 s d)).set s (.alias d))
      | .spr C l n, some d => if s = d ∨ pinned S d = true then none else K (.spr C l n) (((kill S d).map (rename1 s d)).set s (.alias d))
      | .alias j, some d => if j = d then none else K (.alias j) S
      | .view j g off len, some d => if j = d then (match get S d with
          | .own C l => if g = 0 then K (.own C ((l.drop off).take len)) (kill S d) else none
          | .spr C l _ => if g = 0 then K (.own C ((l.drop off).take len)) (kill S d) else none
          | _ => none) else K (.view j g off len) S
      | .tup ds, some _ => K (.tup ds) (kill S s)
      | .tup _, none => none
      | .own _ _, none => none
      | .spr _ _ _, none => none
      | .obj .., _ | .iter .., _ => K (.alias s) S
      | p, _ => K p S
    | .const (.slice none 0 0) => match codOf E ty with
      | some (C, _) => K (.own C []) S
      | none => none
    | x => K (opd S x) S
  | .pick c a b => match opd S c with
    | .raw (.bool β) => cond β (match opd S a with | .raw v => K (.raw v) S | _ => none) (match opd S b with | .raw v => K (.raw v) S | _ => none)
    | _ => none
  | .alloc t => match E.T t with
    | some ti => K (.obj ti.zero) S
    | none => none
  | .box _ x => match opd S x with
    | .raw v => if oneC v then K (.obj [.one v]) S else none
    | .arr C n l => K (.obj [.arr C n l]) S
    | .strc ss => K (.obj ss) S
    | _ => none
  | .build t parts => evBuild E S t parts.toList fun p => K p S
  | .buildSlice t len parts => evBuildSlice E S t len parts.toList fun p => K p S
  | .makeSlice t l c => evMake E t (sameO l c) (opd S l) (opd S c) fun p => K p S
  | .load t a => evLoad E S t (selfAlias a (opd S a)) fun p => K p S
  | .store t a x => evStore E S t (selfAlias a (opd S a)) (opd S x) fun S' => K (.raw undef) S'
  | .nilCheck x => match x with
    | .tmp s => match get S s with
      | .obj .. => K (.alias s) S
      | .alias j => (match get S j with | .obj .. => K (.alias j) S | _ => none)
      | _ => none
    | _ => none
  | .binOp op t x y _ => match opd S x, opd S y with
    | .raw v, .raw u => evBin ((E.T t).map (·.desc)) op v u (isLit y) fun r => K (.raw r) S
    | p, q => evCmp E op t p q fun r => K r S
  | .unOp op _ x => match opd S x with
    | .raw v => match pureVal (Op.unary op v) with
      | some r => K (.raw r) S
      | none => none
    | _ => none
  | .convert a b x => evConvert E S a b (selfAlias x (opd S x)) fun p => K p S
  | .slice t x lo hi none => evSlice E S t (selfAlias x (opd S x)) lo hi fun p => K p S
  | .sliceToArrayPointer t x => evArrAt E S t (selfAlias x (opd S x)) fun p => K p S
  | .typeAssert x _ t ok => evTA E t ok (opd S x) fun p => K p S
  | .makeInterface t x => evMI E t (opd S x) fun p => K p S
  | .fieldAddr t x f => evFieldAddr E S t (selfAlias x (opd S x)) f fun p => K p S
  | .indexAddr t x i => match asI (opd S i) with
    | some i => evIndexAddr E S t (selfAlias x (opd S x)) i fun p => K p S
    | none => none
  | .index t x i => match asI (opd S i), E.T t with
    | some i, some ti => match ti.desc, opd S x with
      | .string, .raw (.string s) => chk (inB i s.size) (K (.raw (.int .u8 (byteAt s i.toNat))) S)
      | .array n e, .arr (.sc t) n' l => if n = n' ∧ (E.T e).map (·.agg) = some false ∧ esz E e = some 1 then chk (inB i n) (K (.raw (t.val (l.getD i.toNat t.dflt))) S) else none
      | _, _ => none
    | _, _ => none
  | .range t x => match E.T t with
    | some ti => match ti.desc, opd S x with
      | .string, .raw (.string s) => K (.iter s 0) S
      | _, _ => none
    | none => none
  | .next x true => match x with
    | .tmp k => match get S k with
      | .iter s pos => cond (decide (pos < s.size))
          (K (.raw (.tuple #[.bool true, .int .i64 pos, .int .i32 (Utf8.decode s pos).1])) (S.set k (.iter s (pos + (Utf8.decode s pos).2))))
          (K (.raw (.tuple #[.bool false])) S)
      | _ => none
    | _ => none
  | .extract x i => match x with
    | .tmp s => match get S s with
      | .raw (.tuple vs) => match vs[i]? with
        | some v => K (.raw v) S
        | none => none
      | .tup ds => match ds[i]? with
        | some d => if d.owns then K d.toPV ((kill S s).set s (.tup (ds.set i .junk))) else K d.toPV S
        | none => none
      | _ => none
    | _ => none
  | .call { callee := .value (.func f), args, argTypes := _ } => match E.Γ f, evCallArgs S args.toList with
    | some F, some ds => F.run ρ (ds.map .one) fun d => K d.toPV S
    | none, _ => evCallR E S f args.toList K
    | _, _ => none
  | .call { callee := .builtin .len, args, argTypes } => match args[0]?, argTypes[0]? with
    | some x, some t => evLen E S t (selfAlias x (opd S x)) fun p => K p S
    | _, _ => none
  | .call { callee := .builtin .append, args, argTypes } => match args[0]?, args[1]?, argTypes[0]? with
    | some x, some y, some t => match argTypes[1]? with
      | some t2 => if okSrc E t2 then evAppend E S t x y K else none
      | none => none
    | _, _, _ => none
  | .call { callee := .builtin .copy, args, argTypes } => match args[0]?, args[1]?, argTypes[0]? with
    | some x, some y, some t => evCopy E S t (selfAlias x (opd S x)) (selfAlias y (opd S y)) K
    | _, _, _ => none
  | _ => none
/-- the value goes to its slot; nothing may point to what it takes the place of -/
def fin (dst : Option Nat) (K : St → Option ρ) (p : PV) (S : St) : Option ρ :=
  match dst with
  | none => K S
  | some d => if d < S.length ∧ pinned S d = false then (match p.ref with
    | some k => if k = d then none else K (put S (some d) p)
    | none => K (put S (some d) p)) else none
/-- nothing goes into a slot -/
def putU (S : St) (dst : Option Nat) (K : St → Option ρ) : Option ρ := match dst with
  | none => K S
  | some d => cond (pinned S d) none (K (put S (some d) (.raw undef)))
/-- one operation with its guard -/
def evOper (E : Env ρ) (ops : Array Oper) (o : Oper) (S : St) (K : St → Option ρ) : Option ρ :=
  match o.guard with
  | none => evOp E S o.dst o.op o.type (fin o.dst K)
  | some (j, want) => match (ops[j]?).bind (·.dst) with
    | none => none
    | some d => match get S d with
      | .raw (.bool β) =>
        let go (b : Bool) : Option ρ :=
          let S := S.set d (.raw (.bool b))
          if b = want then evOp E S o.dst o.op o.type (fin o.dst K) else putU S o.dst K
        cond β (go true) (go false)
      | .raw (.tuple _) => putU S o.dst K
      | _ => none
def evOps (E : Env ρ) (ops : Array Oper) : List Nat → St → (St → Option ρ) → Option ρ
  | [], S, K => K S
  | i :: r, S, K => match ops[i]? with
    | none => none
    | some o => evOper E ops o S fun S' => evOps E ops r S' K
/-! ### a region whose order is drawn -/
def isNilS : Value → Bool
  | .slice none 0 0 => true
  | _ => false
/-- an assignment that makes a value -/
def evAsg (E : Env ρ) (S : St) (ty : TypeId) (x : Operand) : Option PV := match x with
  | .const v => if isNilS v = true then (codOf E ty).map fun c => .own c.1 [] else some (.raw v)
  | x => match opd S x with
    | .raw v => if isNilS v = true then none else some (.raw v)
    | _ => none
/-- an operation that only makes a value out of what it looks at -/
def evVal (E : Env ρ) (S : St) (ty : TypeId) (o : Op) (K : PV → Option ρ) : Option ρ :=
  match o with
  | .move x => match opd S x with
    | .tup ds => cond (ds.any D1.owns) none (K (.tup ds))
    | .iter .. => none
    | p => K (selfAlias x p)
  | .assign x => (evAsg E S ty x).bind K
  | .nilCheck x => match x with
    | .tmp s => match get S s with
      | .obj .. => K (.alias s)
      | .alias j => (match get S j with | .obj .. => K (.alias j) | _ => none)
      | _ => none
    | _ => none
  | .pick c a b => match opd S c with
    | .raw (.bool β) => cond β (match opd S a with | .raw v => K (.raw v) | _ => none) (match opd S b with | .raw v => K (.raw v) | _ => none)
    | _ => none
  | .alloc t => match E.T t with
    | some ti => K (.obj ti.zero)
    | none => none
  | .box _ x => match opd S x with
    | .raw v => if oneC v then K (.obj [.one v]) else none
    | .arr C n l => K (.obj [.arr C n l])
    | .strc ss => K (.obj ss)
    | _ => none
  | .build t parts => evBuild E S t parts.toList K
  | .buildSlice t len parts => evBuildSlice E S t len parts.toList K
  | .makeSlice t l c => evMake E t (sameO l c) (opd S l) (opd S c) K
  | .load t a => evLoad E S t (selfAlias a (opd S a)) K
  | .binOp op t x y _ => match opd S x, opd S y with
    | .raw v, .raw u => evBin ((E.T t).map (·.desc)) op v u (isLit y) fun r => K (.raw r)
    | p, q => evCmp E op t p q K
  | .unOp op _ x => match opd S x with
    | .raw v => match pureVal (Op.unary op v) with
      | some r => K (.raw r)
      | none => none
    | _ => none
  | .convert a b x => evConvert E S a b (selfAlias x (opd S x)) K
  | .slice t x lo hi none => evSlice E S t (selfAlias x (opd S x)) lo hi K
  | .sliceToArrayPointer t x => evArrAt E S t (selfAlias x (opd S x)) K
  | .typeAssert x _ t ok => evTA E t ok (opd S x) K
  | .makeInterface t x => evMI E t (opd S x) K
  | .fieldAddr t x f => evFieldAddr E S t (selfAlias x (opd S x)) f K
  | .indexAddr t x i => match asI (opd S i) with
    | some i => evIndexAddr E S t (selfAlias x (opd S x)) i K
    | none => none
  | .index t x i => match asI (opd S i), E.T t with
    | some i, some ti => match ti.desc, opd S x with
      | .string, .raw (.string s) => chk (inB i s.size) (K (.raw (.int .u8 (byteAt s i.toNat))))
      | .array n e, .arr (.sc t) n' l => if n = n' ∧ (E.T e).map (·.agg) = some false ∧ esz E e = some 1 then chk (inB i n) (K (.raw (t.val (l.getD i.toNat t.dflt)))) else none
      | _, _ => none
    | _, _ => none
  | .extract x i => match x with
    | .tmp s => match get S s with
      | .raw (.tuple vs) => match vs[i]? with
        | some v => K (.raw v)
        | none => none
      | .tup ds => match ds[i]? with
        | some d => if d.owns then none else K d.toPV
        | none => none
      | _ => none
    | _ => none
  | .call { callee := .value (.func f), args, argTypes := _ } => match E.Γ f, evCallArgs S args.toList with
    | some F, some ds => F.run ρ (ds.map .one) fun d => K d.toPV
    | _, _ => none
  | .call { callee := .builtin .len, args, argTypes } => match args[0]?, argTypes[0]? with
    | some x, some t => evLen E S t (selfAlias x (opd S x)) K
    | _, _ => none
  | .call { callee := .builtin .append, args, argTypes } => match args[0]?, args[1]?, argTypes[0]? with
    | some x, some y, some t => match argTypes[1]? with
      | some t2 => if okSrc E t2 then (match opd S x with
        | .raw (.slice none 0 0) => match codOf E t with
          | none => none
          | some (C, bytes) => if bytes = 0 then none else match srcOf E S C (selfAlias y (opd S y)) with
            | none => none
            | some y => chk (room C bytes [] y) (K (.own C y))
        | _ => none) else none
      | none => none
    | _, _, _ => none
  | _ => none
/-- is the one written as standing behind the other? -/
def aft (ops : Array Oper) (i j : Nat) : Bool := match ops[i]? with
  | some o => o.after.any fun e => Region.binds .any e && e.on == j
  | none => false
def dstOf (ops : Array Oper) (i : Nat) : Option Nat := match ops[i]? with
  | some o => o.dst
  | none => none
def apartB (ops : Array Oper) (i j : Nat) : Bool := match ops[i]?, ops[j]? with
  | some x, some y => x.apart ops y
  | _, _ => false
/-- nothing may be drawn to its other side -/
def maskOf (acc : List Nat) (o : Option Oper) : Nat := match o with
  | some o => o.after.toList.foldl (fun m e => cond (Region.binds .any e) (m ||| (1 <<< e.on ||| acc.getD e.on 0)) m) 0
  | none => 0
/-- what stands ahead of each, by one step or by several -/
def masks (ops : Array Oper) : List Nat := ops.toList.foldl (fun acc o => acc ++ [maskOf acc (some o)]) []
def aftT (ops : Array Oper) (i j : Nat) : Bool := ((masks ops).getD i 0).testBit j
def alone (ops : Array Oper) (i : Nat) : Bool := (List.range ops.size).all fun j => j == i || (aftT ops i j || aftT ops j i)
def uniq (ops : Array Oper) (i : Nat) : Bool := (List.range ops.size).all fun j => j == i || dstOf ops j != dstOf ops i
def aftLt (ops : Array Oper) (i : Nat) : Bool := match ops[i]? with
  | some o => o.after.all fun e => !Region.binds .any e || Nat.blt e.on i
  | none => true
def drawOk (ops : Array Oper) : Bool := (List.range ops.size).all fun i => aftLt ops i && (List.range i).all fun j => aft ops i j || apartB ops j i
def free (ops : Array Oper) (l : List Nat) (S : St) : Bool := l.all fun i => match dstOf ops i with
  | some d => !(get S d).owns || alone ops i
  | none => true
def evOperV (E : Env ρ) (ops : Array Oper) (i : Nat) (o : Oper) (S : St) (K : St → Option ρ) : Option ρ :=
  match o.guard with
  | none => evVal E S o.type o.op fun p => cond (uniq ops i || !p.owns) (fin o.dst K p S) none
  | some (j, want) => match (ops[j]?).bind (·.dst) with
    | none => none
    | some d => match get S d with
      | .raw (.bool β) =>
        let go (b : Bool) : Option ρ :=
          let S := S.set d (.raw (.bool b))
          if b = want then evVal E S o.type o.op fun p => cond (uniq ops i || !p.owns) (fin o.dst K p S) none else putU S o.dst K
        cond β (go true) (go false)
      | .raw (.tuple _) => putU S o.dst K
      | _ => none
def isStore (ops : Array Oper) (i : Nat) : Bool := match ops[i]? with
  | some o => match o.op, o.guard, o.dst with
    | .store .., none, none => true
    | _, _, _ => false
  | none => false
def unord (ops : Array Oper) (i j : Nat) : Bool := !(j == i || (aftT ops i j || aftT ops j i))
/-- has it a store that may be drawn to its other side -/
def byStore (ops : Array Oper) (i : Nat) : Bool := (List.range ops.size).any fun j => unord ops i j && isStore ops j
def looksOf (ops : Array Oper) (i : Nat) : List Nat := match ops[i]? with
  | some o => o.looksAt ops
  | none => []
def noRefs (S : St) (ts : List Nat) : Bool := ts.all fun t => match (get S t).ref with
  | none => true
  | some _ => false
def stepS (E : Env ρ) (ops : Array Oper) (i : Nat) (o : Oper) (S : St) (K : St → Option ρ) : Option ρ :=
  match o.op with
  | .store t a x => match (selfAlias a (opd S a)).ref with
    | some k => cond ((List.range ops.size).all fun j => !unord ops i j || (!isStore ops j && !(looksOf ops j).contains k)) (evStore E S t (selfAlias a (opd S a)) (opd S x) K) none
    | none => none
  | _ => none
/-- an append onto a slice of ours, which it uses up; all that is written ahead of it stands ahead of it -/
def isApp (ops : Array Oper) (i : Nat) : Bool := match ops[i]? with
  | some o => match o.op, o.guard, o.dst with
    | .call { callee := .builtin .append, args, argTypes := _ }, none, some _ => (match (args[0]? : Option Operand) with
      | some (.tmp _) => uniq ops i && (List.range i).all fun j => aftT ops i j
      | _ => false)
    | _, _, _ => false
  | none => false
def appAt (S : St) (s : Nat) : Option Nat := match get S s with
  | .own .. => some s
  | .alias j => match get S j with
    | .own .. => some j
    | _ => none
  | _ => none
def appOk (ops : Array Oper) (i : Nat) (S : St) (k : Nat) : Bool := (List.range ops.size).all fun j => !unord ops i j || (!isStore ops j && (!isApp ops j && (looksOf ops j).all fun t => t != k && (get S t).ref != some k))
def stepA (E : Env ρ) (ops : Array Oper) (i : Nat) (o : Oper) (S : St) (K : St → Option ρ) : Option ρ :=
  match o.op with
  | .call { callee := .builtin .append, args, argTypes } => match (args[0]? : Option Operand), args[1]?, argTypes[0]?, argTypes[1]? with
    | some (.tmp s), some y, some t, some t2 => match appAt S s with
      | some k => cond (okSrc E t2 && appOk ops i S k) (evAppend E S t (.tmp s) y (fin o.dst K)) none
      | none => none
    | _, _, _, _ => none
  | _ => none
/-- one that may be drawn ahead of others, or behind them -/
def evD (E : Env ρ) (ops : Array Oper) (i : Nat) (o : Oper) (S : St) (K : St → Option ρ) : Option ρ :=
  cond (isStore ops i) (stepS E ops i o S K) (cond (isApp ops i) (stepA E ops i o S K) (cond (!byStore ops i || noRefs S (looksOf ops i)) (evOperV E ops i o S K) none))
/-- the order of the text, where no other order could tell anything else -/
def evOpsD (E : Env ρ) (ops : Array Oper) : List Nat → St → (St → Option ρ) → Option ρ
  | [], S, K => K S
  | i :: r, S, K => match ops[i]? with
    | none => none
    | some o => cond (alone ops i)
      (evOper E ops o S fun S' => cond (free ops r S') (evOpsD E ops r S' K) none)
      (evD E ops i o S fun S' => evOpsD E ops r S' K)
/-! ### the slots of a loop, told by their kinds -/
inductive SP where
  | one (t : T0)
  | arr (C : Cod) (n : Nat)
  | ro (C : Cod)
@[reducible] def SP.α : SP → Type
  | .one t => t.α
  | .arr C _ => List C.α
  | .ro C => (Option Addr × Nat) × List C.α
def SP.inj : (p : SP) → p.α → Seg
  | .one t, x => .one (t.val x)
  | .arr C n, l => .arr C n l
  | .ro C, x => .ro x.1.1 x.1.2 C x.2
def SP.proj : (p : SP) → Seg → Option p.α
  | .one t, .one v => t.dec v
  | .arr C n, .arr C' n' l => if h : C' = C then (if n' = n then some (h ▸ l) else none) else none
  | .ro C, .ro a cap C' l => if h : C' = C then some ((a, cap), h ▸ l) else none
  | _, _ => none
@[reducible] def spα : List SP → Type
  | [] => Unit
  | p :: r => p.α × spα r
def spInj : (ps : List SP) → spα ps → List Seg
  | [], _ => []
  | p :: r, x => p.inj x.1 :: spInj r x.2
def spProj : (ps : List SP) → List Seg → Option (spα ps)
  | [], [] => some ()
  | p :: r, s :: ss => (p.proj s).bind fun x => (spProj r ss).bind fun y => some (x, y)
  | _, _ => none
inductive IP where
  | junk
  | sc (t : T0)
  | own (C : Cod)
  | ros (C : Cod)
  | arr (C : Cod) (n : Nat)
  | strc (ss : List SP)
  | obj (ss : List SP)
  | iter
  | al (k : Nat)
@[reducible] def IP.α : IP → Type
  | .junk | .al _ => Unit
  | .sc t => t.α
  | .own C | .ros C | .arr C _ => List C.α
  | .strc ss | .obj ss => spα ss
  | .iter => ByteArray × Nat
def IP.inj : (p : IP) → p.α → PV
  | .junk, _ => .junk
  | .al k, _ => .alias k
  | .sc t, x => .raw (t.val x)
  | .own C, l => .own C l
  | .ros C, l => .ros C l
  | .arr C n, l => .arr C n l
  | .strc ss, x => .strc (spInj ss x)
  | .obj ss, x => .obj (spInj ss x)
  | .iter, x => .iter x.1 x.2
def IP.proj : (p : IP) → PV → Option p.α
  | .junk, _ => some ()
  | .al k, .alias k' => if k' = k then some () else none
  | .sc t, .raw v => t.dec v
  | .own C, .own C' l => if h : C' = C then some (h ▸ l) else none
  | .ros C, .ros C' l => if h : C' = C then some (h ▸ l) else none
  | .arr C n, .arr C' n' l => if h : C' = C then (if n' = n then some (h ▸ l) else none) else none
  | .strc ss, .strc s => spProj ss s
  | .obj ss, .obj s => spProj ss s
  | .iter, .iter s pos => some (s, pos)
  | _, _ => none
/-- a slot with the slots behind it; those that tell nothing are left out -/
@[reducible] def IP.cons : IP → Type → Type
  | .junk, T | .al _, T => T
  | .sc t, T => t.α × T
  | .own C, T | .ros C, T | .arr C _, T => List C.α × T
  | .strc ss, T | .obj ss, T => spα ss × T
  | .iter, T => (ByteArray × Nat) × T
def IP.pair {T : Type} : (p : IP) → p.α → T → p.cons T
  | .junk, _, y | .al _, _, y => y
  | .sc _, x, y => (x, y)
  | .own _, x, y | .ros _, x, y | .arr _ _, x, y => (x, y)
  | .strc _, x, y | .obj _, x, y => (x, y)
  | .iter, x, y => (x, y)
def IP.fst {T : Type} : (p : IP) → p.cons T → p.α
  | .junk, _ | .al _, _ => ()
  | .sc _, x => x.1
  | .own _, x | .ros _, x | .arr _ _, x => x.1
  | .strc _, x | .obj _, x => x.1
  | .iter, x => x.1
def IP.snd {T : Type} : (p : IP) → p.cons T → T
  | .junk, x | .al _, x => x
  | .sc _, x => x.2
  | .own _, x | .ros _, x | .arr _ _, x => x.2
  | .strc _, x | .obj _, x => x.2
  | .iter, x => x.2
theorem IP.fst_pair {T : Type} (p : IP) (x : p.α) (y : T) : p.fst (p.pair x y) = x := by cases p <;> rfl
theorem IP.snd_pair {T : Type} (p : IP) (x : p.α) (y : T) : p.snd (p.pair x y) = y := by cases p <;> rfl
@[reducible] def ipα : List IP → Type
  | [] => Unit
  | p :: r => p.cons (ipα r)
def ipInj : (ps : List IP) → ipα ps → St
  | [], _ => []
  | p :: r, x => p.inj (p.fst x) :: ipInj r (p.snd x)
def ipProjL : (ps : List IP) → St → Option (ipα ps)
  | [], [] => some ()
  | p :: r, s :: ss => (p.proj s).bind fun x => (ipProjL r ss).bind fun y => some (p.pair x y)
  | _, _ => none
def IP.isObj : IP → Bool
  | .obj _ => true
  | _ => false
/-- a variable in the first slot stays told -/
def ipProj (ps : List IP) (S : St) : Option (ipα ps) := cond (isObj (get S 0) && !(ps.getD 0 .junk).isObj) none (ipProjL ps S)
/-- enough rounds for anything that goes through what it has -/
def T0.fuel : (t : T0) → t.α → Nat
  | .int _, n => Int.toNat n
  | .bool, _ => 0
  | .str, s => s.size
def SP.fuel : (p : SP) → p.α → Nat
  | .one t, x => t.fuel x
  | .arr _ _, l => l.length
  | .ro _, x => x.2.length
def spFuel : (ps : List SP) → spα ps → Nat
  | [], _ => 0
  | p :: r, x => p.fuel x.1 + spFuel r x.2
def IP.fuel : (p : IP) → p.α → Nat
  | .junk, _ | .al _, _ => 0
  | .sc t, x => t.fuel x
  | .own _, l | .ros _, l | .arr _ _, l => l.length
  | .strc ss, x | .obj ss, x => spFuel ss x
  | .iter, x => x.1.size
def ipFuel : (ps : List IP) → ipα ps → Nat
  | [], _ => 0
  | p :: r, x => p.fuel (p.fst x) + ipFuel r (p.snd x)
def IP.owns : IP → Bool
  | .own _ | .obj _ | .iter => true
  | _ => false
/-- what is pointed to is there -/
def ipOk (ps : List IP) : Bool := ps.all fun
  | .al k => (ps.getD k .junk).owns
  | _ => true
inductive Ex where
  | normal
  | exit (id : Nat)
  | ret
def ev (E : Env ρ) : Code → St → (Ex → St → Option ρ) → Option ρ
  | .skip, S, k => k .normal S
  | .region _ ops false, S, k => evOps E ops (List.range ops.size) S (k .normal)
  | .region _ ops true, S, k => cond (drawOk ops && free ops (List.range ops.size) S) (evOpsD E ops (List.range ops.size) S (k .normal)) none
  | .seq a b, S, k => ev E a S fun e S' => match e with
    | .normal => ev E b S' k
    | e => k e S'
  | .cond c a b, S, k => match opd S c with
    | .raw (.bool β) => cond β (ev E a S k) (ev E b S k)
    | _ => none
  | .block id c, S, k => match E.Λ id with
    | some lc => (lc.projI S).bind fun x => lc.L x fun y => k .normal (lc.injX y)
    | none => ev E c S fun e S' => match e with
      | .exit j => if j = id then k .normal S' else k e S'
      | e => k e S'
  | .exit id, S, k => k (.exit id) S
  | .ret, S, k => k .ret S
  | _, _, _ => none
def loopN {σ : Type} : Nat → (σ → (σ → Option ρ) → Option ρ) → σ → Option ρ
  | 0, _, _ => none
  | n + 1, step, x => step x (loopN n step)
end
/-! ### words for the shallow twins -/
def iadd (k : IntKind) (a b : Int) : Int := k.wrap (a + b)
def isub (k : IntKind) (a b : Int) : Int := k.wrap (a - b)
def imul (k : IntKind) (a b : Int) : Int := k.wrap (a * b)
def iand (k : IntKind) (a b : Int) : Int := k.wrap (BitVec.ofInt k.bits a &&& BitVec.ofInt k.bits b).toNat
def ior (k : IntKind) (a b : Int) : Int := k.wrap (BitVec.ofInt k.bits a ||| BitVec.ofInt k.bits b).toNat
def ixor (k : IntKind) (a b : Int) : Int := k.wrap (BitVec.ofInt k.bits a ^^^ BitVec.ofInt k.bits b).toNat
def iandn (k : IntKind) (a b : Int) : Int := k.wrap (BitVec.ofInt k.bits a &&& ~~~ BitVec.ofInt k.bits b).toNat
def inot (k : IntKind) (a : Int) : Int := ixor k (if k.signed then -1 else k.max) a
def ishl (k : IntKind) (a b : Int) : Int := k.wrap (a * 2 ^ (min b.toNat k.bits))
def ishr (k : IntKind) (a b : Int) : Int := a.fdiv (2 ^ (min b.toNat k.bits))
def iquo (k : IntKind) (a b : Int) : Int := k.wrap (a.tdiv b)
def irem (_ : IntKind) (a b : Int) : Int := a.tmod b
def ieq (a b : Int) : Bool := a == b
def ine (a b : Int) : Bool := a != b
def ilt (a b : Int) : Bool := decide (a < b)
def ile (a b : Int) : Bool := decide (a ≤ b)
def igt (a b : Int) : Bool := decide (a > b)
def ige (a b : Int) : Bool := decide (a ≥ b)
def seq (a b : ByteArray) : Bool := a.toList == b.toList
def sne (a b : ByteArray) : Bool := !(a.toList == b.toList)
def slt (a b : ByteArray) : Bool := Op.bytesLess a.toList b.toList
def sle (a b : ByteArray) : Bool := Op.bytesLess a.toList b.toList || a.toList == b.toList
def sgt (a b : ByteArray) : Bool := !(Op.bytesLess a.toList b.toList || a.toList == b.toList)
def sge (a b : ByteArray) : Bool := !(Op.bytesLess a.toList b.toList)
def fits (bytes n : Nat) : Bool := decide (n * bytes < 140737488355328)
end Go.Px
