/- line.quoted, told as a plain function: a word in quotes from a place on. -/
import Derived.Test.YtpmnipaimoaagaaDoorPxA
import Derived.Lib.RuneBytes
set_option linter.unusedVariables false
set_option linter.unusedSimpArgs false
namespace Go.Px.Quo
open Go

/-- what line.wrong says -/
def wrongB (s : ByteArray) (a : Nat) (r : Int) : Bool := r == 65533 && (((if (s.extract a s.size).size = 0 then ((65533, 0) : Nat × Nat) else Utf8.decode (s.extract a s.size) 0).2 : Nat) : Int) == 1
/-- line.quoted from a place on: open?, what was gathered -/
def qG (s : ByteArray) (a : Nat) : Nat → Nat → Bool → List UInt8 → ByteArray × Int × Bool
  | 0, _, _, _ => (ByteArray.empty, s.size, false)
  | f + 1, pos, op, acc =>
    if pos < (s.extract a s.size).size then
      let r : Int := (Utf8.decode (s.extract a s.size) pos).1
      let n := (Utf8.decode (s.extract a s.size) pos).2
      if r < 32 ∨ r = 127 ∨ wrongB s (a + pos) r = true ∨ (op = true ∧ r ≠ 34 ∧ r ≠ 92) then (ByteArray.empty, (a + pos : Nat), false)
      else if op = false ∧ r = 92 then qG s a f (pos + n) true acc
      else if op = false ∧ r = 34 then
        if h : a + pos + 1 < s.size then
          if ((s[a + pos + 1]'h).toNat : Int) ≠ 32 then (ByteArray.empty, (a + pos + 1 : Nat), false) else (⟨acc.toArray⟩, (a + pos + 1 : Nat), true)
        else (⟨acc.toArray⟩, (a + pos + 1 : Nat), true)
      else qG s a f (pos + n) false (acc ++ Lib.encodeRune r)
    else (ByteArray.empty, s.size, false)
def quotedG (s : ByteArray) (a : Nat) : ByteArray × Int × Bool := qG s a s.size 0 false []
/-- line.quoted, where its place stands in the text -/
def conQuoted (x : ByteArray × Int × Unit) : Option (ByteArray × Int × Bool × Unit) :=
  if 0 ≤ x.2.1 ∧ x.2.1.toNat ≤ x.1.size ∧ x.1.size ≤ 35184372088832 then some ((quotedG x.1 x.2.1.toNat).1, (quotedG x.1 x.2.1.toNat).2.1, (quotedG x.1 x.2.1.toNat).2.2, ()) else none
end Go.Px.Quo
