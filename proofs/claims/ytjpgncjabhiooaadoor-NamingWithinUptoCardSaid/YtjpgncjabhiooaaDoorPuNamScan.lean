/- The kinds of the characters of a text: the program's way. -/
import Derived.Test.YtjpgncjabhiooaaDoorSh
import Derived.Test.YtjpgncjabhiooaaDoorPuBase
import Derived.Test.YtjpgncjabhiooaaDoorPuLex
import Derived.Lib.DecodeN
import Derived.Lib.TrimU
set_option linter.unusedVariables false
set_option linter.unusedSimpArgs false
namespace Go.Px.Pu
open Go Go.Px

def kindB (a b c d e f g : Bool) : Int := cond (a && b) 1 (cond (c && d) 2 (cond (e && f) 4 (cond g 8 16)))
def kindOf (r : Int) : Int := kindB (ige r 97) (ile r 122) (ige r 65) (ile r 90) (ige r 48) (ile r 57) (ilt r 128)
theorem step_eq (f17 : (ByteArray × Unit) → Option (Int × Int × Unit)) (kx : (Int × Int × Unit) → Option (Int × Int × Bool × Unit)) (κ : (ByteArray × Int × Int × (ByteArray × Nat) × Unit) → Option (Int × Int × Bool × Unit)) (t0 : ByteArray) (c n : Int) (s : ByteArray) (p : Nat) :
    naming_Classes.s0b f17 kx (t0, c, n, (s, p), ()) κ = cond (decide (p < s.size))
      (cond (ieq ((Utf8.decode s p).1 : Int) 65533)
        (chk (leB 0 (p : Int) && (leB (p : Int) t0.size && leB t0.size t0.size)) <| (f17 ((subStr t0 (p : Int) t0.size), ())).bind fun v => cond (ieq v.2.1 1) (some (0, 0, false, ()))
          (κ (t0, ior .i64 c (kindOf (Utf8.decode s p).1), iadd .i64 n 1, (s, p + (Utf8.decode s p).2), ())))
        (κ (t0, ior .i64 c (kindOf (Utf8.decode s p).1), iadd .i64 n 1, (s, p + (Utf8.decode s p).2), ())))
      (kx (c, n, ())) := by
  simp only [naming_Classes.s0b]
  unfold kindOf
  generalize ige ((Utf8.decode s p).1 : Int) 97 = b1
  generalize ile ((Utf8.decode s p).1 : Int) 122 = b2
  generalize ige ((Utf8.decode s p).1 : Int) 65 = b3
  generalize ile ((Utf8.decode s p).1 : Int) 90 = b4
  generalize ige ((Utf8.decode s p).1 : Int) 48 = b5
  generalize ile ((Utf8.decode s p).1 : Int) 57 = b6
  generalize ilt ((Utf8.decode s p).1 : Int) 128 = b7
  cases b1 <;> cases b2 <;> cases b3 <;> cases b4 <;> cases b5 <;> cases b6 <;> cases b7 <;> rfl
end Go.Px.Pu
