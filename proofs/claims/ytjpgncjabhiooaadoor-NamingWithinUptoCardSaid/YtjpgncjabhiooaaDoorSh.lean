import Derived.Test.YtjpgncjabhiooaaDoorPx1
import Derived.Test.YtjpgncjabhiooaaDoorPx23
set_option linter.unusedVariables false
set_option linter.unusedSimpArgs false
namespace Go.Px
open Go
/-- muniment/naming.letter -/
def naming_letter.b : (Int × Unit) → Option (Int × Bool × Unit)
  | (x0, _) =>
    cond (ige x0 65) (
    cond (ile x0 90) (
    some ((isub .i32 (iadd .i32 x0 97) 65), true, ())) (
    cond (ige x0 97) (
    cond (ile x0 122) (
    cond (ile x0 122) (
    some (x0, true, ())) (
    cond (ige x0 128) (
    some (x0, (ine x0 65533), ())) (
    some (x0, false, ())))) (
    cond (ige x0 48) (
    cond (ile x0 57) (
    cond (ile x0 57) (
    some (x0, true, ())) (
    cond (ige x0 128) (
    some (x0, (ine x0 65533), ())) (
    some (x0, false, ())))) (
    cond (ieq x0 46) (
    cond (ieq x0 46) (
    some (x0, true, ())) (
    cond (ige x0 128) (
    some (x0, (ine x0 65533), ())) (
    some (x0, false, ())))) (
    cond (ieq x0 45) (
    cond (ieq x0 45) (
    some (x0, true, ())) (
    cond (ige x0 128) (
    some (x0, (ine x0 65533), ())) (
    some (x0, false, ())))) (
    cond (ieq x0 95) (
    some (x0, true, ())) (
    cond (ige x0 128) (
    some (x0, (ine x0 65533), ())) (
    some (x0, false, ()))))))) (
    cond (ieq x0 46) (
    cond (ieq x0 46) (
    some (x0, true, ())) (
    cond (ige x0 128) (
    some (x0, (ine x0 65533), ())) (
    some (x0, false, ())))) (
    cond (ieq x0 45) (
    cond (ieq x0 45) (
    some (x0, true, ())) (
    cond (ige x0 128) (
    some (x0, (ine x0 65533), ())) (
    some (x0, false, ())))) (
    cond (ieq x0 95) (
    some (x0, true, ())) (
    cond (ige x0 128) (
    some (x0, (ine x0 65533), ())) (
    some (x0, false, ())))))))) (
    cond (ige x0 48) (
    cond (ile x0 57) (
    cond (ile x0 57) (
    some (x0, true, ())) (
    cond (ige x0 128) (
    some (x0, (ine x0 65533), ())) (
    some (x0, false, ())))) (
    cond (ieq x0 46) (
    cond (ieq x0 46) (
    some (x0, true, ())) (
    cond (ige x0 128) (
    some (x0, (ine x0 65533), ())) (
    some (x0, false, ())))) (
    cond (ieq x0 45) (
    cond (ieq x0 45) (
    some (x0, true, ())) (
    cond (ige x0 128) (
    some (x0, (ine x0 65533), ())) (
    some (x0, false, ())))) (
    cond (ieq x0 95) (
    some (x0, true, ())) (
    cond (ige x0 128) (
    some (x0, (ine x0 65533), ())) (
    some (x0, false, ()))))))) (
    cond (ieq x0 46) (
    cond (ieq x0 46) (
    some (x0, true, ())) (
    cond (ige x0 128) (
    some (x0, (ine x0 65533), ())) (
    some (x0, false, ())))) (
    cond (ieq x0 45) (
    cond (ieq x0 45) (
    some (x0, true, ())) (
    cond (ige x0 128) (
    some (x0, (ine x0 65533), ())) (
    some (x0, false, ())))) (
    cond (ieq x0 95) (
    some (x0, true, ())) (
    cond (ige x0 128) (
    some (x0, (ine x0 65533), ())) (
    some (x0, false, ()))))))))) (
    cond (ige x0 97) (
    cond (ile x0 122) (
    cond (ile x0 122) (
    some (x0, true, ())) (
    cond (ige x0 128) (
    some (x0, (ine x0 65533), ())) (
    some (x0, false, ())))) (
    cond (ige x0 48) (
    cond (ile x0 57) (
    cond (ile x0 57) (
    some (x0, true, ())) (
    cond (ige x0 128) (
    some (x0, (ine x0 65533), ())) (
    some (x0, false, ())))) (
    cond (ieq x0 46) (
    cond (ieq x0 46) (
    some (x0, true, ())) (
    cond (ige x0 128) (
    some (x0, (ine x0 65533), ())) (
    some (x0, false, ())))) (
    cond (ieq x0 45) (
    cond (ieq x0 45) (
    some (x0, true, ())) (
    cond (ige x0 128) (
    some (x0, (ine x0 65533), ())) (
    some (x0, false, ())))) (
    cond (ieq x0 95) (
    some (x0, true, ())) (
    cond (ige x0 128) (
    some (x0, (ine x0 65533), ())) (
    some (x0, false, ()))))))) (
    cond (ieq x0 46) (
    cond (ieq x0 46) (
    some (x0, true, ())) (
    cond (ige x0 128) (
    some (x0, (ine x0 65533), ())) (
    some (x0, false, ())))) (
    cond (ieq x0 45) (
    cond (ieq x0 45) (
    some (x0, true, ())) (
    cond (ige x0 128) (
    some (x0, (ine x0 65533), ())) (
    some (x0, false, ())))) (
    cond (ieq x0 95) (
    some (x0, true, ())) (
    cond (ige x0 128) (
    some (x0, (ine x0 65533), ())) (
    some (x0, false, ())))))))) (
    cond (ige x0 48) (
    cond (ile x0 57) (
    cond (ile x0 57) (
    some (x0, true, ())) (
    cond (ige x0 128) (
    some (x0, (ine x0 65533), ())) (
    some (x0, false, ())))) (
    cond (ieq x0 46) (
    cond (ieq x0 46) (
    some (x0, true, ())) (
    cond (ige x0 128) (
    some (x0, (ine x0 65533), ())) (
    some (x0, false, ())))) (
    cond (ieq x0 45) (
    cond (ieq x0 45) (
    some (x0, true, ())) (
    cond (ige x0 128) (
    some (x0, (ine x0 65533), ())) (
    some (x0, false, ())))) (
    cond (ieq x0 95) (
    some (x0, true, ())) (
    cond (ige x0 128) (
    some (x0, (ine x0 65533), ())) (
    some (x0, false, ()))))))) (
    cond (ieq x0 46) (
    cond (ieq x0 46) (
    some (x0, true, ())) (
    cond (ige x0 128) (
    some (x0, (ine x0 65533), ())) (
    some (x0, false, ())))) (
    cond (ieq x0 45) (
    cond (ieq x0 45) (
    some (x0, true, ())) (
    cond (ige x0 128) (
    some (x0, (ine x0 65533), ())) (
    some (x0, false, ())))) (
    cond (ieq x0 95) (
    some (x0, true, ())) (
    cond (ige x0 128) (
    some (x0, (ine x0 65533), ())) (
    some (x0, false, ()))))))))
def naming_letter (x : (Int × Unit)) : Option (Int × Bool × Unit) := naming_letter.b x
/-- muniment/naming.Fold -/
def naming_Fold.s0b (f16 : (Int × Unit) → Option (Int × Bool × Unit)) (kx : (List Int × Unit) → Option (ByteArray × Int × Int × Unit)) : (List Int × (ByteArray × Nat) × Unit) → ((List Int × (ByteArray × Nat) × Unit) → Option (ByteArray × Int × Int × Unit)) → Option (ByteArray × Int × Int × Unit)
  | (t5, t12, _), κ =>
    cond (decide (t12.2 < t12.1.size)) (
    (f16 (((Utf8.decode t12.1 t12.2).1 : Int), ())).bind fun v19 =>
    cond (!v19.2.1) (
    cond (!v19.2.1) (
    some ((⟨#[]⟩ : ByteArray), (t12.2 : Int), 4, ())) (
    cond (ieq (t5.length : Int) 16) (
    some ((⟨#[]⟩ : ByteArray), (t12.2 : Int), 2, ())) (
    chk (fits 4 (t5.length + 1)) <|
    κ ((t5 ++ [v19.1]), (t12.1, (t12.2 + (Utf8.decode t12.1 t12.2).2)), ())))) (
    cond (ieq (t12.2 : Int) 0) (
    cond (ieq v19.1 46) (
    some ((⟨#[]⟩ : ByteArray), (t12.2 : Int), 4, ())) (
    cond (ieq v19.1 45) (
    some ((⟨#[]⟩ : ByteArray), (t12.2 : Int), 4, ())) (
    cond (ieq (t5.length : Int) 16) (
    some ((⟨#[]⟩ : ByteArray), (t12.2 : Int), 2, ())) (
    chk (fits 4 (t5.length + 1)) <|
    κ ((t5 ++ [v19.1]), (t12.1, (t12.2 + (Utf8.decode t12.1 t12.2).2)), ()))))) (
    cond (ieq (t5.length : Int) 16) (
    some ((⟨#[]⟩ : ByteArray), (t12.2 : Int), 2, ())) (
    chk (fits 4 (t5.length + 1)) <|
    κ ((t5 ++ [v19.1]), (t12.1, (t12.2 + (Utf8.decode t12.1 t12.2).2)), ()))))) (
    kx (t5, ()))
def naming_Fold.s0 (kx : (List Int × Unit) → Option (ByteArray × Int × Int × Unit)) : (List Int × (ByteArray × Nat) × Unit) → ((List Int × (ByteArray × Nat) × Unit) → Option (ByteArray × Int × Int × Unit)) → Option (ByteArray × Int × Int × Unit) := naming_Fold.s0b naming_letter kx
def naming_Fold.n0 : (List Int × (ByteArray × Nat) × Unit) → Nat
  | (t5, t12, _) => t5.length + t12.1.size + 1048576
def naming_Fold.l0 (x : List Int × (ByteArray × Nat) × Unit) (kx : (List Int × Unit) → Option (ByteArray × Int × Int × Unit)) : Option (ByteArray × Int × Int × Unit) := loopN (naming_Fold.n0 x) (naming_Fold.s0 kx) x
def naming_Fold.b (l0 : (List Int × (ByteArray × Nat) × Unit) → ((List Int × Unit) → Option (ByteArray × Int × Int × Unit)) → Option (ByteArray × Int × Int × Unit)) : (ByteArray × Unit) → Option (ByteArray × Int × Int × Unit)
  | (x0, _) =>
    l0 ([], (x0, 0), ()) fun (t5, _) =>
    cond (ieq (t5.length : Int) 0) (
    some ((⟨#[]⟩ : ByteArray), 0, 4, ())) (
    cond (ile ((strOfRunes t5).size : Int) 32) (
    some ((strOfRunes t5), 0, 0, ())) (
    some ((⟨#[]⟩ : ByteArray), 0, 2, ())))
def naming_Fold (x : (ByteArray × Unit)) : Option (ByteArray × Int × Int × Unit) := naming_Fold.b naming_Fold.l0 x
/-- unicode/utf8.DecodeRuneInString -/
def unicode_utf8_DecodeRuneInString (x : (ByteArray × Unit)) : Option (Int × Int × Unit) := some ((((if x.1.size = 0 then ((65533, 0) : Nat × Nat) else Utf8.decode x.1 0).1 : Nat) : Int), (((if x.1.size = 0 then ((65533, 0) : Nat × Nat) else Utf8.decode x.1 0).2 : Nat) : Int), ())
/-- muniment/naming.Classes -/
def naming_Classes.s0b (f17 : (ByteArray × Unit) → Option (Int × Int × Unit)) (kx : (Int × Int × Unit) → Option (Int × Int × Bool × Unit)) : (ByteArray × Int × Int × (ByteArray × Nat) × Unit) → ((ByteArray × Int × Int × (ByteArray × Nat) × Unit) → Option (Int × Int × Bool × Unit)) → Option (Int × Int × Bool × Unit)
  | (t0, t5, t6, t12, _), κ =>
    cond (decide (t12.2 < t12.1.size)) (
    cond (ieq ((Utf8.decode t12.1 t12.2).1 : Int) 65533) (
    chk (leB 0 (t12.2 : Int) && (leB (t12.2 : Int) t0.size && leB t0.size t0.size)) <|
    (f17 ((subStr t0 (t12.2 : Int) t0.size), ())).bind fun v23 =>
    cond (ieq v23.2.1 1) (
    some (0, 0, false, ())) (
    cond (ige ((Utf8.decode t12.1 t12.2).1 : Int) 97) (
    cond (ile ((Utf8.decode t12.1 t12.2).1 : Int) 122) (
    κ (t0, (ior .i64 t5 1), (iadd .i64 t6 1), (t12.1, (t12.2 + (Utf8.decode t12.1 t12.2).2)), ())) (
    cond (ige ((Utf8.decode t12.1 t12.2).1 : Int) 65) (
    cond (ile ((Utf8.decode t12.1 t12.2).1 : Int) 90) (
    κ (t0, (ior .i64 t5 2), (iadd .i64 t6 1), (t12.1, (t12.2 + (Utf8.decode t12.1 t12.2).2)), ())) (
    cond (ige ((Utf8.decode t12.1 t12.2).1 : Int) 48) (
    cond (ile ((Utf8.decode t12.1 t12.2).1 : Int) 57) (
    κ (t0, (ior .i64 t5 4), (iadd .i64 t6 1), (t12.1, (t12.2 + (Utf8.decode t12.1 t12.2).2)), ())) (
    cond (ilt ((Utf8.decode t12.1 t12.2).1 : Int) 128) (
    κ (t0, (ior .i64 t5 8), (iadd .i64 t6 1), (t12.1, (t12.2 + (Utf8.decode t12.1 t12.2).2)), ())) (
    κ (t0, (ior .i64 t5 16), (iadd .i64 t6 1), (t12.1, (t12.2 + (Utf8.decode t12.1 t12.2).2)), ())))) (
    cond (ilt ((Utf8.decode t12.1 t12.2).1 : Int) 128) (
    κ (t0, (ior .i64 t5 8), (iadd .i64 t6 1), (t12.1, (t12.2 + (Utf8.decode t12.1 t12.2).2)), ())) (
    κ (t0, (ior .i64 t5 16), (iadd .i64 t6 1), (t12.1, (t12.2 + (Utf8.decode t12.1 t12.2).2)), ()))))) (
    cond (ige ((Utf8.decode t12.1 t12.2).1 : Int) 48) (
    cond (ile ((Utf8.decode t12.1 t12.2).1 : Int) 57) (
    κ (t0, (ior .i64 t5 4), (iadd .i64 t6 1), (t12.1, (t12.2 + (Utf8.decode t12.1 t12.2).2)), ())) (
    cond (ilt ((Utf8.decode t12.1 t12.2).1 : Int) 128) (
    κ (t0, (ior .i64 t5 8), (iadd .i64 t6 1), (t12.1, (t12.2 + (Utf8.decode t12.1 t12.2).2)), ())) (
    κ (t0, (ior .i64 t5 16), (iadd .i64 t6 1), (t12.1, (t12.2 + (Utf8.decode t12.1 t12.2).2)), ())))) (
    cond (ilt ((Utf8.decode t12.1 t12.2).1 : Int) 128) (
    κ (t0, (ior .i64 t5 8), (iadd .i64 t6 1), (t12.1, (t12.2 + (Utf8.decode t12.1 t12.2).2)), ())) (
    κ (t0, (ior .i64 t5 16), (iadd .i64 t6 1), (t12.1, (t12.2 + (Utf8.decode t12.1 t12.2).2)), ())))))) (
    cond (ige ((Utf8.decode t12.1 t12.2).1 : Int) 65) (
    cond (ile ((Utf8.decode t12.1 t12.2).1 : Int) 90) (
    κ (t0, (ior .i64 t5 2), (iadd .i64 t6 1), (t12.1, (t12.2 + (Utf8.decode t12.1 t12.2).2)), ())) (
    cond (ige ((Utf8.decode t12.1 t12.2).1 : Int) 48) (
    cond (ile ((Utf8.decode t12.1 t12.2).1 : Int) 57) (
    κ (t0, (ior .i64 t5 4), (iadd .i64 t6 1), (t12.1, (t12.2 + (Utf8.decode t12.1 t12.2).2)), ())) (
    cond (ilt ((Utf8.decode t12.1 t12.2).1 : Int) 128) (
    κ (t0, (ior .i64 t5 8), (iadd .i64 t6 1), (t12.1, (t12.2 + (Utf8.decode t12.1 t12.2).2)), ())) (
    κ (t0, (ior .i64 t5 16), (iadd .i64 t6 1), (t12.1, (t12.2 + (Utf8.decode t12.1 t12.2).2)), ())))) (
    cond (ilt ((Utf8.decode t12.1 t12.2).1 : Int) 128) (
    κ (t0, (ior .i64 t5 8), (iadd .i64 t6 1), (t12.1, (t12.2 + (Utf8.decode t12.1 t12.2).2)), ())) (
    κ (t0, (ior .i64 t5 16), (iadd .i64 t6 1), (t12.1, (t12.2 + (Utf8.decode t12.1 t12.2).2)), ()))))) (
    cond (ige ((Utf8.decode t12.1 t12.2).1 : Int) 48) (
    cond (ile ((Utf8.decode t12.1 t12.2).1 : Int) 57) (
    κ (t0, (ior .i64 t5 4), (iadd .i64 t6 1), (t12.1, (t12.2 + (Utf8.decode t12.1 t12.2).2)), ())) (
    cond (ilt ((Utf8.decode t12.1 t12.2).1 : Int) 128) (
    κ (t0, (ior .i64 t5 8), (iadd .i64 t6 1), (t12.1, (t12.2 + (Utf8.decode t12.1 t12.2).2)), ())) (
    κ (t0, (ior .i64 t5 16), (iadd .i64 t6 1), (t12.1, (t12.2 + (Utf8.decode t12.1 t12.2).2)), ())))) (
    cond (ilt ((Utf8.decode t12.1 t12.2).1 : Int) 128) (
    κ (t0, (ior .i64 t5 8), (iadd .i64 t6 1), (t12.1, (t12.2 + (Utf8.decode t12.1 t12.2).2)), ())) (
    κ (t0, (ior .i64 t5 16), (iadd .i64 t6 1), (t12.1, (t12.2 + (Utf8.decode t12.1 t12.2).2)), ()))))))) (
    cond (ige ((Utf8.decode t12.1 t12.2).1 : Int) 97) (
    cond (ile ((Utf8.decode t12.1 t12.2).1 : Int) 122) (
    κ (t0, (ior .i64 t5 1), (iadd .i64 t6 1), (t12.1, (t12.2 + (Utf8.decode t12.1 t12.2).2)), ())) (
    cond (ige ((Utf8.decode t12.1 t12.2).1 : Int) 65) (
    cond (ile ((Utf8.decode t12.1 t12.2).1 : Int) 90) (
    κ (t0, (ior .i64 t5 2), (iadd .i64 t6 1), (t12.1, (t12.2 + (Utf8.decode t12.1 t12.2).2)), ())) (
    cond (ige ((Utf8.decode t12.1 t12.2).1 : Int) 48) (
    cond (ile ((Utf8.decode t12.1 t12.2).1 : Int) 57) (
    κ (t0, (ior .i64 t5 4), (iadd .i64 t6 1), (t12.1, (t12.2 + (Utf8.decode t12.1 t12.2).2)), ())) (
    cond (ilt ((Utf8.decode t12.1 t12.2).1 : Int) 128) (
    κ (t0, (ior .i64 t5 8), (iadd .i64 t6 1), (t12.1, (t12.2 + (Utf8.decode t12.1 t12.2).2)), ())) (
    κ (t0, (ior .i64 t5 16), (iadd .i64 t6 1), (t12.1, (t12.2 + (Utf8.decode t12.1 t12.2).2)), ())))) (
    cond (ilt ((Utf8.decode t12.1 t12.2).1 : Int) 128) (
    κ (t0, (ior .i64 t5 8), (iadd .i64 t6 1), (t12.1, (t12.2 + (Utf8.decode t12.1 t12.2).2)), ())) (
    κ (t0, (ior .i64 t5 16), (iadd .i64 t6 1), (t12.1, (t12.2 + (Utf8.decode t12.1 t12.2).2)), ()))))) (
    cond (ige ((Utf8.decode t12.1 t12.2).1 : Int) 48) (
    cond (ile ((Utf8.decode t12.1 t12.2).1 : Int) 57) (
    κ (t0, (ior .i64 t5 4), (iadd .i64 t6 1), (t12.1, (t12.2 + (Utf8.decode t12.1 t12.2).2)), ())) (
    cond (ilt ((Utf8.decode t12.1 t12.2).1 : Int) 128) (
    κ (t0, (ior .i64 t5 8), (iadd .i64 t6 1), (t12.1, (t12.2 + (Utf8.decode t12.1 t12.2).2)), ())) (
    κ (t0, (ior .i64 t5 16), (iadd .i64 t6 1), (t12.1, (t12.2 + (Utf8.decode t12.1 t12.2).2)), ())))) (
    cond (ilt ((Utf8.decode t12.1 t12.2).1 : Int) 128) (
    κ (t0, (ior .i64 t5 8), (iadd .i64 t6 1), (t12.1, (t12.2 + (Utf8.decode t12.1 t12.2).2)), ())) (
    κ (t0, (ior .i64 t5 16), (iadd .i64 t6 1), (t12.1, (t12.2 + (Utf8.decode t12.1 t12.2).2)), ())))))) (
    cond (ige ((Utf8.decode t12.1 t12.2).1 : Int) 65) (
    cond (ile ((Utf8.decode t12.1 t12.2).1 : Int) 90) (
    κ (t0, (ior .i64 t5 2), (iadd .i64 t6 1), (t12.1, (t12.2 + (Utf8.decode t12.1 t12.2).2)), ())) (
    cond (ige ((Utf8.decode t12.1 t12.2).1 : Int) 48) (
    cond (ile ((Utf8.decode t12.1 t12.2).1 : Int) 57) (
    κ (t0, (ior .i64 t5 4), (iadd .i64 t6 1), (t12.1, (t12.2 + (Utf8.decode t12.1 t12.2).2)), ())) (
    cond (ilt ((Utf8.decode t12.1 t12.2).1 : Int) 128) (
    κ (t0, (ior .i64 t5 8), (iadd .i64 t6 1), (t12.1, (t12.2 + (Utf8.decode t12.1 t12.2).2)), ())) (
    κ (t0, (ior .i64 t5 16), (iadd .i64 t6 1), (t12.1, (t12.2 + (Utf8.decode t12.1 t12.2).2)), ())))) (
    cond (ilt ((Utf8.decode t12.1 t12.2).1 : Int) 128) (
    κ (t0, (ior .i64 t5 8), (iadd .i64 t6 1), (t12.1, (t12.2 + (Utf8.decode t12.1 t12.2).2)), ())) (
    κ (t0, (ior .i64 t5 16), (iadd .i64 t6 1), (t12.1, (t12.2 + (Utf8.decode t12.1 t12.2).2)), ()))))) (
    cond (ige ((Utf8.decode t12.1 t12.2).1 : Int) 48) (
    cond (ile ((Utf8.decode t12.1 t12.2).1 : Int) 57) (
    κ (t0, (ior .i64 t5 4), (iadd .i64 t6 1), (t12.1, (t12.2 + (Utf8.decode t12.1 t12.2).2)), ())) (
    cond (ilt ((Utf8.decode t12.1 t12.2).1 : Int) 128) (
    κ (t0, (ior .i64 t5 8), (iadd .i64 t6 1), (t12.1, (t12.2 + (Utf8.decode t12.1 t12.2).2)), ())) (
    κ (t0, (ior .i64 t5 16), (iadd .i64 t6 1), (t12.1, (t12.2 + (Utf8.decode t12.1 t12.2).2)), ())))) (
    cond (ilt ((Utf8.decode t12.1 t12.2).1 : Int) 128) (
    κ (t0, (ior .i64 t5 8), (iadd .i64 t6 1), (t12.1, (t12.2 + (Utf8.decode t12.1 t12.2).2)), ())) (
    κ (t0, (ior .i64 t5 16), (iadd .i64 t6 1), (t12.1, (t12.2 + (Utf8.decode t12.1 t12.2).2)), ()))))))) (
    kx (t5, t6, ()))
def naming_Classes.s0 (kx : (Int × Int × Unit) → Option (Int × Int × Bool × Unit)) : (ByteArray × Int × Int × (ByteArray × Nat) × Unit) → ((ByteArray × Int × Int × (ByteArray × Nat) × Unit) → Option (Int × Int × Bool × Unit)) → Option (Int × Int × Bool × Unit) := naming_Classes.s0b unicode_utf8_DecodeRuneInString kx
def naming_Classes.n0 : (ByteArray × Int × Int × (ByteArray × Nat) × Unit) → Nat
  | (t0, t5, t6, t12, _) => t0.size + t5.toNat + t6.toNat + t12.1.size + 1048576
def naming_Classes.l0 (x : ByteArray × Int × Int × (ByteArray × Nat) × Unit) (kx : (Int × Int × Unit) → Option (Int × Int × Bool × Unit)) : Option (Int × Int × Bool × Unit) := loopN (naming_Classes.n0 x) (naming_Classes.s0 kx) x
def naming_Classes.b (l0 : (ByteArray × Int × Int × (ByteArray × Nat) × Unit) → ((Int × Int × Unit) → Option (Int × Int × Bool × Unit)) → Option (Int × Int × Bool × Unit)) : (ByteArray × Unit) → Option (Int × Int × Bool × Unit)
  | (x0, _) =>
    l0 (x0, 0, 0, (x0, 0), ()) fun (t5, t6, _) =>
    some (t5, t6, true, ())
def naming_Classes (x : (ByteArray × Unit)) : Option (Int × Int × Bool × Unit) := naming_Classes.b naming_Classes.l0 x
/-- muniment/naming.low -/
def naming_low.s0b (kx : (List Int × Unit) → Option (List Int)) : (List Int × (ByteArray × Nat) × Unit) → ((List Int × (ByteArray × Nat) × Unit) → Option (List Int)) → Option (List Int)
  | (t3, t7, _), κ =>
    cond (decide (t7.2 < t7.1.size)) (
    cond (ige ((Utf8.decode t7.1 t7.2).1 : Int) 65) (
    cond (ile ((Utf8.decode t7.1 t7.2).1 : Int) 90) (
    chk (fits 4 (t3.length + 1)) <|
    κ ((t3 ++ [(iadd .i32 ((Utf8.decode t7.1 t7.2).1 : Int) 32)]), (t7.1, (t7.2 + (Utf8.decode t7.1 t7.2).2)), ())) (
    chk (fits 4 (t3.length + 1)) <|
    κ ((t3 ++ [((Utf8.decode t7.1 t7.2).1 : Int)]), (t7.1, (t7.2 + (Utf8.decode t7.1 t7.2).2)), ()))) (
    chk (fits 4 (t3.length + 1)) <|
    κ ((t3 ++ [((Utf8.decode t7.1 t7.2).1 : Int)]), (t7.1, (t7.2 + (Utf8.decode t7.1 t7.2).2)), ()))) (
    kx (t3, ()))
def naming_low.s0 (kx : (List Int × Unit) → Option (List Int)) : (List Int × (ByteArray × Nat) × Unit) → ((List Int × (ByteArray × Nat) × Unit) → Option (List Int)) → Option (List Int) := naming_low.s0b kx
def naming_low.n0 : (List Int × (ByteArray × Nat) × Unit) → Nat
  | (t3, t7, _) => t3.length + t7.1.size + 1048576
def naming_low.l0 (x : List Int × (ByteArray × Nat) × Unit) (kx : (List Int × Unit) → Option (List Int)) : Option (List Int) := loopN (naming_low.n0 x) (naming_low.s0 kx) x
def naming_low.b (l0 : (List Int × (ByteArray × Nat) × Unit) → ((List Int × Unit) → Option (List Int)) → Option (List Int)) : (ByteArray × Unit) → Option (List Int)
  | (x0, _) =>
    l0 ([], (x0, 0), ()) fun (t3, _) =>
    some t3
def naming_low (x : (ByteArray × Unit)) : Option (List Int) := naming_low.b naming_low.l0 x
/-- muniment/naming.within -/
def naming_within.s0b (kx : Unit → Option Bool) : (List Int × List Int × Int × Unit) → ((List Int × List Int × Int × Unit) → Option Bool) → Option Bool
  | (t5, t6, t7, _), κ =>
    cond (ile (iadd .i64 t7 (t5.length : Int)) (t6.length : Int)) (
    chk (leB 0 t7 && (leB t7 (iadd .i64 t7 (t5.length : Int)) && leB (iadd .i64 t7 (t5.length : Int)) t6.length)) <|
    cond (seq (strOfRunes ((t6.drop t7.toNat).take ((((iadd .i64 t7 (t5.length : Int)) : Int) - t7).toNat))) (strOfRunes t5)) (
    some true) (
    κ (t5, t6, (iadd .i64 t7 1), ()))) (
    kx (()))
def naming_within.s0 (kx : Unit → Option Bool) : (List Int × List Int × Int × Unit) → ((List Int × List Int × Int × Unit) → Option Bool) → Option Bool := naming_within.s0b kx
def naming_within.n0 : (List Int × List Int × Int × Unit) → Nat
  | (t5, t6, t7, _) => t5.length + t6.length + t7.toNat + 1048576
def naming_within.l0 (x : List Int × List Int × Int × Unit) (kx : Unit → Option Bool) : Option Bool := loopN (naming_within.n0 x) (naming_within.s0 kx) x
def naming_within.b (f23 : (ByteArray × Unit) → Option (List Int)) (l0 : (List Int × List Int × Int × Unit) → (Unit → Option Bool) → Option Bool) : (ByteArray × ByteArray × Unit) → Option Bool
  | (x0, x1, _) =>
    (f23 (x0, ())).bind fun v9 =>
    (f23 (x1, ())).bind fun v11 =>
    cond (ilt (v9.length : Int) 3) (
    some false) (
    l0 (v9, v11, 0, ()) fun (_) =>
    some false)
def naming_within (x : (ByteArray × ByteArray × Unit)) : Option Bool := naming_within.b naming_low naming_within.l0 x
/-- muniment/naming.Strong -/
def naming_Strong.s1b (kx : (ByteArray × ByteArray × Int × Unit) → Option Int) : (ByteArray × ByteArray × Int × Int × Unit) → ((ByteArray × ByteArray × Int × Int × Unit) → Option Int) → Option Int
  | (t0, t1, t8, t9, _), κ =>
    cond (igt t9 0) (
    κ (t0, t1, (iadd .i64 t8 (iand .i64 t9 1)), (ishr .i64 t9 1), ())) (
    kx (t0, t1, t8, ()))
def naming_Strong.s1 (kx : (ByteArray × ByteArray × Int × Unit) → Option Int) : (ByteArray × ByteArray × Int × Int × Unit) → ((ByteArray × ByteArray × Int × Int × Unit) → Option Int) → Option Int := naming_Strong.s1b kx
def naming_Strong.n1 : (ByteArray × ByteArray × Int × Int × Unit) → Nat
  | (t0, t1, t8, t9, _) => t0.size + t1.size + t8.toNat + t9.toNat + 1048576
def naming_Strong.l1 (x : ByteArray × ByteArray × Int × Int × Unit) (kx : (ByteArray × ByteArray × Int × Unit) → Option Int) : Option Int := loopN (naming_Strong.n1 x) (naming_Strong.s1 kx) x
def naming_Strong.b (f11 : (ByteArray × Unit) → Option (Int × Int × Bool × Unit)) (f18 : (ByteArray × ByteArray × Unit) → Option Bool) (l1 : (ByteArray × ByteArray × Int × Int × Unit) → ((ByteArray × ByteArray × Int × Unit) → Option Int) → Option Int) : (ByteArray × ByteArray × Unit) → Option Int
  | (x0, x1, _) =>
    (f11 (x0, ())).bind fun v12 =>
    cond (!v12.2.2.1) (
    some 4) (
    cond (igt v12.2.1 32) (
    some 2) (
    cond (ilt v12.2.1 8) (
    some 5) (
    l1 (x0, x1, 0, v12.1, ()) fun (t0, t1, t8, _) =>
    cond (ilt t8 2) (
    some 5) (
    (f18 (t1, t0, ())).bind fun v39 =>
    cond v39 (
    some 5) (
    some 0)))))
def naming_Strong (x : (ByteArray × ByteArray × Unit)) : Option Int := naming_Strong.b naming_Classes naming_within naming_Strong.l1 x
/-- muniment/munimentlaw03.awake -/
def w03_awake.b (f10 : (ByteArray × Unit) → Option (ByteArray × Int × Int × Unit)) (f14 : (ByteArray × ByteArray × Unit) → Option Int) : Unit → Option Bool
  | (_) =>
    (f10 ((⟨#[65, 109, 121, 46, 66]⟩ : ByteArray), ())).bind fun v5 =>
    cond (seq v5.1 (⟨#[97, 109, 121, 46, 98]⟩ : ByteArray)) (
    cond (ieq v5.2.2.1 0) (
    (f14 ((⟨#[112, 97, 115, 115, 119, 111, 114, 100]⟩ : ByteArray), (⟨#[120]⟩ : ByteArray), ())).bind fun v16 =>
    cond (ieq v16 5) (
    (f14 ((⟨#[112, 97, 115, 115, 87, 79, 82, 68]⟩ : ByteArray), (⟨#[120]⟩ : ByteArray), ())).bind fun v20 =>
    some (ieq v20 0)) (
    some false)) (
    some false)) (
    some false)
def w03_awake (x : Unit) : Option Bool := w03_awake.b naming_Fold naming_Strong x
/-- muniment/munimentlaw03.NamingOnce -/
def w03_NamingOnce.s0b (kx : (ByteArray × ByteArray × Int × List Int × Unit) → Option Bool) : (ByteArray × ByteArray × Int × List Int × Int × Unit) → ((ByteArray × ByteArray × Int × List Int × Int × Unit) → Option Bool) → Option Bool
  | (t3, t6, t8, t9, t10, _), κ =>
    cond (ilt t10 (t9.length : Int)) (
    chk (inB t10 t9.length) <|
    cond (ige (t9.getD t10.toNat (0 : Int)) 97) (
    chk (inB t10 t9.length) <|
    cond (ile (t9.getD t10.toNat (0 : Int)) 122) (
    chk (inB t10 t9.length) <|
    chk (inB t10 t9.length) <|
    κ (t3, t6, t8, (t9.set t10.toNat (isub .u8 (t9.getD t10.toNat (0 : Int)) 32)), (iadd .i64 t10 1), ())) (
    κ (t3, t6, t8, t9, (iadd .i64 t10 1), ()))) (
    κ (t3, t6, t8, t9, (iadd .i64 t10 1), ()))) (
    kx (t3, t6, t8, t9, ()))
def w03_NamingOnce.s0 (kx : (ByteArray × ByteArray × Int × List Int × Unit) → Option Bool) : (ByteArray × ByteArray × Int × List Int × Int × Unit) → ((ByteArray × ByteArray × Int × List Int × Int × Unit) → Option Bool) → Option Bool := w03_NamingOnce.s0b kx
def w03_NamingOnce.n0 : (ByteArray × ByteArray × Int × List Int × Int × Unit) → Nat
  | (t3, t6, t8, t9, t10, _) => t3.size + t6.size + t8.toNat + t9.length + t10.toNat + 1048576
def w03_NamingOnce.l0 (x : ByteArray × ByteArray × Int × List Int × Int × Unit) (kx : (ByteArray × ByteArray × Int × List Int × Unit) → Option Bool) : Option Bool := loopN (w03_NamingOnce.n0 x) (w03_NamingOnce.s0 kx) x
def w03_NamingOnce.b (f9 : Unit → Option Bool) (f10 : (ByteArray × Unit) → Option (ByteArray × Int × Int × Unit)) (l0 : (ByteArray × ByteArray × Int × List Int × Int × Unit) → ((ByteArray × ByteArray × Int × List Int × Unit) → Option Bool) → Option Bool) : (ByteArray × Unit) → Option Bool
  | (x0, _) =>
    (f9 (())).bind fun v14 =>
    cond (!v14) (
    some false) (
    (f10 (x0, ())).bind fun v18 =>
    cond (ine v18.2.2.1 0) (
    some (seq v18.1 (⟨#[]⟩ : ByteArray))) (
    (f10 (v18.1, ())).bind fun v28 =>
    chk (decide (v18.1.size < 140737488355328)) <|
    l0 (v18.1, v28.1, v28.2.2.1, (bytesOf v18.1), 0, ()) fun (t3, t6, t8, t9, _) =>
    (f10 ((strOf t9), ())).bind fun v61 =>
    cond (seq t6 t3) (
    cond (ieq t8 0) (
    cond (seq v61.1 t3) (
    cond (ieq v61.2.2.1 0) (
    cond (ige (t3.size : Int) 1) (
    some (ile (t3.size : Int) 32)) (
    some false)) (
    some false)) (
    some false)) (
    some false)) (
    some false)))
def w03_NamingOnce (x : (ByteArray × Unit)) : Option Bool := w03_NamingOnce.b w03_awake naming_Fold w03_NamingOnce.l0 x
/-- muniment/munimentref03.Chars -/
def r03_Chars.s0b (f17 : (ByteArray × Unit) → Option (Int × Int × Unit)) (kx : (List (Int × Int × Bool × Unit) × Unit) → Option (List (Int × Int × Bool × Unit))) : (ByteArray × List (Int × Int × Bool × Unit) × Int × Unit) → ((ByteArray × List (Int × Int × Bool × Unit) × Int × Unit) → Option (List (Int × Int × Bool × Unit))) → Option (List (Int × Int × Bool × Unit))
  | (t0, t3, t4, _), κ =>
    cond (ilt t4 (t0.size : Int)) (
    chk (leB 0 t4 && (leB t4 t0.size && leB t0.size t0.size)) <|
    (f17 ((subStr t0 t4 t0.size), ())).bind fun v15 =>
    cond (ine v15.1 65533) (
    chk (fits 24 (t3.length + 1)) <|
    κ (t0, (t3 ++ [(v15.1, t4, true, ())]), (iadd .i64 t4 v15.2.1), ())) (
    chk (fits 24 (t3.length + 1)) <|
    κ (t0, (t3 ++ [(v15.1, t4, (ieq v15.2.1 3), ())]), (iadd .i64 t4 v15.2.1), ()))) (
    kx (t3, ()))
def r03_Chars.s0 (kx : (List (Int × Int × Bool × Unit) × Unit) → Option (List (Int × Int × Bool × Unit))) : (ByteArray × List (Int × Int × Bool × Unit) × Int × Unit) → ((ByteArray × List (Int × Int × Bool × Unit) × Int × Unit) → Option (List (Int × Int × Bool × Unit))) → Option (List (Int × Int × Bool × Unit)) := r03_Chars.s0b unicode_utf8_DecodeRuneInString kx
def r03_Chars.n0 : (ByteArray × List (Int × Int × Bool × Unit) × Int × Unit) → Nat
  | (t0, t3, t4, _) => t0.size + t3.length + t4.toNat + 1048576
def r03_Chars.l0 (x : ByteArray × List (Int × Int × Bool × Unit) × Int × Unit) (kx : (List (Int × Int × Bool × Unit) × Unit) → Option (List (Int × Int × Bool × Unit))) : Option (List (Int × Int × Bool × Unit)) := loopN (r03_Chars.n0 x) (r03_Chars.s0 kx) x
def r03_Chars.b (l0 : (ByteArray × List (Int × Int × Bool × Unit) × Int × Unit) → ((List (Int × Int × Bool × Unit) × Unit) → Option (List (Int × Int × Bool × Unit))) → Option (List (Int × Int × Bool × Unit))) : (ByteArray × Unit) → Option (List (Int × Int × Bool × Unit))
  | (x0, _) =>
    l0 (x0, [], 0, ()) fun (t3, _) =>
    some t3
def r03_Chars (x : (ByteArray × Unit)) : Option (List (Int × Int × Bool × Unit)) := r03_Chars.b r03_Chars.l0 x
/-- muniment/munimentlaw03.NamingWithin -/
def w03_NamingWithin.b (f9 : Unit → Option Bool) (f10 : (ByteArray × Unit) → Option (ByteArray × Int × Int × Unit)) (f13 : (ByteArray × Unit) → Option (List (Int × Int × Bool × Unit))) (f14 : (ByteArray × ByteArray × Unit) → Option Int) : (ByteArray × ByteArray × ByteArray × Unit) → Option Bool
  | (x0, x1, x2, _) =>
    (f9 (())).bind fun v11 =>
    cond (!v11) (
    some false) (
    (f10 (x1, ())).bind fun v15 =>
    cond (ine v15.2.2.1 0) (
    some true) (
    (f13 (v15.1, ())).bind fun v23 =>
    cond (ilt (v23.length : Int) 3) (
    some true) (
    chk (decide (x0.size + x1.size < 4611686018427387904)) <|
    chk (decide ((x0 ++ x1).size + x2.size < 4611686018427387904)) <|
    (f14 (((x0 ++ x1) ++ x2), v15.1, ())).bind fun v33 =>
    some (ine v33 0))))
def w03_NamingWithin (x : (ByteArray × ByteArray × ByteArray × Unit)) : Option Bool := w03_NamingWithin.b w03_awake naming_Fold r03_Chars naming_Strong x
end Go.Px
