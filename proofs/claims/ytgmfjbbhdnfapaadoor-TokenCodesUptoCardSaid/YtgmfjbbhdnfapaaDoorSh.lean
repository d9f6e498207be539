import Derived.Test.YtgmfjbbhdnfapaaDoorPxA
import Derived.Test.YtgmfjbbhdnfapaaDoorPxC
set_option linter.unusedVariables false
set_option linter.unusedSimpArgs false
namespace Go.Px
open Go
/-- muniment/naming.letter -/
def naming_letter.b : (Int × Unit) → Option (Int × Bool × Unit)
  | (x0, _) =>
    cond (ige x0 65) (
    cond (ile x0 90) (
    some ((isub .i32 (iadd .i32 x0 97) 65), true, ())) (
    cond (ige x0 97) (
    cond (ile x0 122) (
    cond (ile x0 122) (
    some (x0, true, ())) (
    cond (ige x0 128) (
    some (x0, (ine x0 65533), ())) (
    some (x0, false, ())))) (
    cond (ige x0 48) (
    cond (ile x0 57) (
    cond (ile x0 57) (
    some (x0, true, ())) (
    cond (ige x0 128) (
    some (x0, (ine x0 65533), ())) (
    some (x0, false, ())))) (
    cond (ieq x0 46) (
    cond (ieq x0 46) (
    some (x0, true, ())) (
    cond (ige x0 128) (
    some (x0, (ine x0 65533), ())) (
    some (x0, false, ())))) (
    cond (ieq x0 45) (
    cond (ieq x0 45) (
    some (x0, true, ())) (
    cond (ige x0 128) (
    some (x0, (ine x0 65533), ())) (
    some (x0, false, ())))) (
    cond (ieq x0 95) (
    some (x0, true, ())) (
    cond (ige x0 128) (
    some (x0, (ine x0 65533), ())) (
    some (x0, false, ()))))))) (
    cond (ieq x0 46) (
    cond (ieq x0 46) (
    some (x0, true, ())) (
    cond (ige x0 128) (
    some (x0, (ine x0 65533), ())) (
    some (x0, false, ())))) (
    cond (ieq x0 45) (
    cond (ieq x0 45) (
    some (x0, true, ())) (
    cond (ige x0 128) (
    some (x0, (ine x0 65533), ())) (
    some (x0, false, ())))) (
    cond (ieq x0 95) (
    some (x0, true, ())) (
    cond (ige x0 128) (
    some (x0, (ine x0 65533), ())) (
    some (x0, false, ())))))))) (
    cond (ige x0 48) (
    cond (ile x0 57) (
    cond (ile x0 57) (
    some (x0, true, ())) (
    cond (ige x0 128) (
    some (x0, (ine x0 65533), ())) (
    some (x0, false, ())))) (
    cond (ieq x0 46) (
    cond (ieq x0 46) (
    some (x0, true, ())) (
    cond (ige x0 128) (
    some (x0, (ine x0 65533), ())) (
    some (x0, false, ())))) (
    cond (ieq x0 45) (
    cond (ieq x0 45) (
    some (x0, true, ())) (
    cond (ige x0 128) (
    some (x0, (ine x0 65533), ())) (
    some (x0, false, ())))) (
    cond (ieq x0 95) (
    some (x0, true, ())) (
    cond (ige x0 128) (
    some (x0, (ine x0 65533), ())) (
    some (x0, false, ()))))))) (
    cond (ieq x0 46) (
    cond (ieq x0 46) (
    some (x0, true, ())) (
    cond (ige x0 128) (
    some (x0, (ine x0 65533), ())) (
    some (x0, false, ())))) (
    cond (ieq x0 45) (
    cond (ieq x0 45) (
    some (x0, true, ())) (
    cond (ige x0 128) (
    some (x0, (ine x0 65533), ())) (
    some (x0, false, ())))) (
    cond (ieq x0 95) (
    some (x0, true, ())) (
    cond (ige x0 128) (
    some (x0, (ine x0 65533), ())) (
    some (x0, false, ()))))))))) (
    cond (ige x0 97) (
    cond (ile x0 122) (
    cond (ile x0 122) (
    some (x0, true, ())) (
    cond (ige x0 128) (
    some (x0, (ine x0 65533), ())) (
    some (x0, false, ())))) (
    cond (ige x0 48) (
    cond (ile x0 57) (
    cond (ile x0 57) (
    some (x0, true, ())) (
    cond (ige x0 128) (
    some (x0, (ine x0 65533), ())) (
    some (x0, false, ())))) (
    cond (ieq x0 46) (
    cond (ieq x0 46) (
    some (x0, true, ())) (
    cond (ige x0 128) (
    some (x0, (ine x0 65533), ())) (
    some (x0, false, ())))) (
    cond (ieq x0 45) (
    cond (ieq x0 45) (
    some (x0, true, ())) (
    cond (ige x0 128) (
    some (x0, (ine x0 65533), ())) (
    some (x0, false, ())))) (
    cond (ieq x0 95) (
    some (x0, true, ())) (
    cond (ige x0 128) (
    some (x0, (ine x0 65533), ())) (
    some (x0, false, ()))))))) (
    cond (ieq x0 46) (
    cond (ieq x0 46) (
    some (x0, true, ())) (
    cond (ige x0 128) (
    some (x0, (ine x0 65533), ())) (
    some (x0, false, ())))) (
    cond (ieq x0 45) (
    cond (ieq x0 45) (
    some (x0, true, ())) (
    cond (ige x0 128) (
    some (x0, (ine x0 65533), ())) (
    some (x0, false, ())))) (
    cond (ieq x0 95) (
    some (x0, true, ())) (
    cond (ige x0 128) (
    some (x0, (ine x0 65533), ())) (
    some (x0, false, ())))))))) (
    cond (ige x0 48) (
    cond (ile x0 57) (
    cond (ile x0 57) (
    some (x0, true, ())) (
    cond (ige x0 128) (
    some (x0, (ine x0 65533), ())) (
    some (x0, false, ())))) (
    cond (ieq x0 46) (
    cond (ieq x0 46) (
    some (x0, true, ())) (
    cond (ige x0 128) (
    some (x0, (ine x0 65533), ())) (
    some (x0, false, ())))) (
    cond (ieq x0 45) (
    cond (ieq x0 45) (
    some (x0, true, ())) (
    cond (ige x0 128) (
    some (x0, (ine x0 65533), ())) (
    some (x0, false, ())))) (
    cond (ieq x0 95) (
    some (x0, true, ())) (
    cond (ige x0 128) (
    some (x0, (ine x0 65533), ())) (
    some (x0, false, ()))))))) (
    cond (ieq x0 46) (
    cond (ieq x0 46) (
    some (x0, true, ())) (
    cond (ige x0 128) (
    some (x0, (ine x0 65533), ())) (
    some (x0, false, ())))) (
    cond (ieq x0 45) (
    cond (ieq x0 45) (
    some (x0, true, ())) (
    cond (ige x0 128) (
    some (x0, (ine x0 65533), ())) (
    some (x0, false, ())))) (
    cond (ieq x0 95) (
    some (x0, true, ())) (
    cond (ige x0 128) (
    some (x0, (ine x0 65533), ())) (
    some (x0, false, ()))))))))
def naming_letter (x : (Int × Unit)) : Option (Int × Bool × Unit) := naming_letter.b x
/-- muniment/naming.Fold -/
def naming_Fold.s0b (f57 : (Int × Unit) → Option (Int × Bool × Unit)) (kx : (List Int × Unit) → Option (ByteArray × Int × Int × Unit)) : (List Int × (ByteArray × Nat) × Unit) → ((List Int × (ByteArray × Nat) × Unit) → Option (ByteArray × Int × Int × Unit)) → Option (ByteArray × Int × Int × Unit)
  | (t5, t12, _), κ =>
    cond (decide (t12.2 < t12.1.size)) (
    (f57 (((Utf8.decode t12.1 t12.2).1 : Int), ())).bind fun v19 =>
    cond (!v19.2.1) (
    cond (!v19.2.1) (
    some ((⟨#[]⟩ : ByteArray), (t12.2 : Int), 4, ())) (
    cond (ieq (t5.length : Int) 16) (
    some ((⟨#[]⟩ : ByteArray), (t12.2 : Int), 2, ())) (
    chk (fits 4 (t5.length + 1)) <|
    κ ((t5 ++ [v19.1]), (t12.1, (t12.2 + (Utf8.decode t12.1 t12.2).2)), ())))) (
    cond (ieq (t12.2 : Int) 0) (
    cond (ieq v19.1 46) (
    some ((⟨#[]⟩ : ByteArray), (t12.2 : Int), 4, ())) (
    cond (ieq v19.1 45) (
    some ((⟨#[]⟩ : ByteArray), (t12.2 : Int), 4, ())) (
    cond (ieq (t5.length : Int) 16) (
    some ((⟨#[]⟩ : ByteArray), (t12.2 : Int), 2, ())) (
    chk (fits 4 (t5.length + 1)) <|
    κ ((t5 ++ [v19.1]), (t12.1, (t12.2 + (Utf8.decode t12.1 t12.2).2)), ()))))) (
    cond (ieq (t5.length : Int) 16) (
    some ((⟨#[]⟩ : ByteArray), (t12.2 : Int), 2, ())) (
    chk (fits 4 (t5.length + 1)) <|
    κ ((t5 ++ [v19.1]), (t12.1, (t12.2 + (Utf8.decode t12.1 t12.2).2)), ()))))) (
    kx (t5, ()))
def naming_Fold.s0 (kx : (List Int × Unit) → Option (ByteArray × Int × Int × Unit)) : (List Int × (ByteArray × Nat) × Unit) → ((List Int × (ByteArray × Nat) × Unit) → Option (ByteArray × Int × Int × Unit)) → Option (ByteArray × Int × Int × Unit) := naming_Fold.s0b naming_letter kx
def naming_Fold.n0 : (List Int × (ByteArray × Nat) × Unit) → Nat
  | (t5, t12, _) => t5.length + t12.1.size + 1048576
def naming_Fold.l0 (x : List Int × (ByteArray × Nat) × Unit) (kx : (List Int × Unit) → Option (ByteArray × Int × Int × Unit)) : Option (ByteArray × Int × Int × Unit) := loopN (naming_Fold.n0 x) (naming_Fold.s0 kx) x
def naming_Fold.b (l0 : (List Int × (ByteArray × Nat) × Unit) → ((List Int × Unit) → Option (ByteArray × Int × Int × Unit)) → Option (ByteArray × Int × Int × Unit)) : (ByteArray × Unit) → Option (ByteArray × Int × Int × Unit)
  | (x0, _) =>
    l0 ([], (x0, 0), ()) fun (t5, _) =>
    cond (ieq (t5.length : Int) 0) (
    some ((⟨#[]⟩ : ByteArray), 0, 4, ())) (
    cond (ile ((strOfRunes t5).size : Int) 32) (
    some ((strOfRunes t5), 0, 0, ())) (
    some ((⟨#[]⟩ : ByteArray), 0, 2, ())))
def naming_Fold (x : (ByteArray × Unit)) : Option (ByteArray × Int × Int × Unit) := naming_Fold.b naming_Fold.l0 x
/-- muniment/token.Form -/
def token_Form.b (f46 : (ByteArray × Unit) → Option (ByteArray × Int × Int × Unit)) : ((Int × ByteArray × Int × Int × Int × Int × Unit) × Unit) → Option Bool
  | (x0, _) =>
    (f46 (x0.2.1, ())).bind fun v9 =>
    cond (ige x0.1 1) (
    cond (ieq v9.2.2.1 0) (
    cond (seq v9.1 x0.2.1) (
    cond (ige x0.2.2.1 1) (
    cond (ile x0.2.2.1 3) (
    cond (ige x0.2.2.2.2.1 0) (
    cond (igt x0.2.2.2.2.2.1 x0.2.2.2.2.1) (
    some (ile x0.2.2.2.2.2.1 1099511627776)) (
    some false)) (
    some false)) (
    some false)) (
    some false)) (
    some false)) (
    some false)) (
    some false)
def token_Form (x : ((Int × ByteArray × Int × Int × Int × Int × Unit) × Unit)) : Option Bool := token_Form.b naming_Fold x
/-- muniment/octet.Uint -/
def octet_Uint.s0b (kx : ((List Int × Unit) × Unit) → Option (List Int)) : (Int × (List Int × Unit) × Int × Unit) → ((Int × (List Int × Unit) × Int × Unit) → Option (List Int)) → Option (List Int)
  | (t0, t3, t5, _), κ =>
    cond (ilt t5 8) (
    chk (ile 0 (isub .i64 56 (imul .i64 8 t5))) <|
    chk (inB t5 8) <|
    κ (t0, ((t3.1.set t5.toNat (IntKind.wrap .u8 (ishr .u64 t0 (isub .i64 56 (imul .i64 8 t5))))), ()), (iadd .i64 t5 1), ())) (
    kx ((t3.1, ()), ()))
def octet_Uint.s0 (kx : ((List Int × Unit) × Unit) → Option (List Int)) : (Int × (List Int × Unit) × Int × Unit) → ((Int × (List Int × Unit) × Int × Unit) → Option (List Int)) → Option (List Int) := octet_Uint.s0b kx
def octet_Uint.n0 : (Int × (List Int × Unit) × Int × Unit) → Nat
  | (t0, t3, t5, _) => t0.toNat + t5.toNat + 1048576
def octet_Uint.l0 (x : Int × (List Int × Unit) × Int × Unit) (kx : ((List Int × Unit) × Unit) → Option (List Int)) : Option (List Int) := loopN (octet_Uint.n0 x) (octet_Uint.s0 kx) x
def octet_Uint.b (l0 : (Int × (List Int × Unit) × Int × Unit) → (((List Int × Unit) × Unit) → Option (List Int)) → Option (List Int)) : (Int × Unit) → Option (List Int)
  | (x0, _) =>
    l0 (x0, ((List.replicate 8 (0 : Int)), ()), 0, ()) fun (t3, _) =>
    some t3.1
def octet_Uint (x : (Int × Unit)) : Option (List Int) := octet_Uint.b octet_Uint.l0 x
/-- muniment/octet.Int -/
def octet_Int.b (f36 : (Int × Unit) → Option (List Int)) : (Int × Unit) → Option (List Int)
  | (x0, _) =>
    (f36 ((ixor .u64 (IntKind.wrap .u64 x0) 9223372036854775808), ())).bind fun v6 =>
    some v6
def octet_Int (x : (Int × Unit)) : Option (List Int) := octet_Int.b octet_Uint x
/-- muniment/token.Encode -/
def token_Encode.b (f25 : ((Int × ByteArray × Int × Int × Int × Int × Unit) × Unit) → Option Bool) (f36 : (Int × Unit) → Option (List Int)) (f48 : (Int × Unit) → Option (List Int)) : ((Int × ByteArray × Int × Int × Int × Int × Unit) × Unit) → Option (List Int × Int × Unit)
  | (x0, _) =>
    (f25 ((x0.1, x0.2.1, x0.2.2.1, x0.2.2.2.1, x0.2.2.2.2.1, x0.2.2.2.2.2.1, ()), ())).bind fun v6 =>
    cond (!v6) (
    some ([], 3, ())) (
    (f36 (x0.1, ())).bind fun v12 =>
    chk (fits 1 (1 + v12.length)) <|
    chk (fits 1 (([84] ++ v12).length + 1)) <|
    (f36 (x0.2.2.2.1, ())).bind fun v21 =>
    chk (fits 1 ((([84] ++ v12) ++ [x0.2.2.1]).length + v21.length)) <|
    (f48 (x0.2.2.2.2.1, ())).bind fun v26 =>
    chk (fits 1 (((([84] ++ v12) ++ [x0.2.2.1]) ++ v21).length + v26.length)) <|
    (f48 (x0.2.2.2.2.2.1, ())).bind fun v30 =>
    chk (fits 1 ((((([84] ++ v12) ++ [x0.2.2.1]) ++ v21) ++ v26).length + v30.length)) <|
    chk (fits 1 (((((([84] ++ v12) ++ [x0.2.2.1]) ++ v21) ++ v26) ++ v30).length + (bytesOf x0.2.1).length)) <|
    some ((((((([84] ++ v12) ++ [x0.2.2.1]) ++ v21) ++ v26) ++ v30) ++ (bytesOf x0.2.1)), 0, ()))
def token_Encode (x : ((Int × ByteArray × Int × Int × Int × Int × Unit) × Unit)) : Option (List Int × Int × Unit) := token_Encode.b token_Form octet_Uint octet_Int x
/-- muniment/codec.Base -/
def codec_Base.s2b (kx : (List Int × Int × Int × List Int × Int × Int × Unit) → Option ByteArray) : (List Int × Int × Int × List Int × Int × Int × Unit) → ((List Int × Int × Int × List Int × Int × Int × Unit) → Option ByteArray) → Option ByteArray
  | (t3, t4, t5, t8, t9, t10, _), κ =>
    cond (ige t5 6) (
    chk (ile 0 (isub .i64 t5 6)) <|
    chk (inB (iand .i64 (ishr .i64 t4 (isub .i64 t5 6)) 63) (⟨#[65, 66, 67, 68, 69, 70, 71, 72, 73, 74, 75, 76, 77, 78, 79, 80, 81, 82, 83, 84, 85, 86, 87, 88, 89, 90, 97, 98, 99, 100, 101, 102, 103, 104, 105, 106, 107, 108, 109, 110, 111, 112, 113, 114, 115, 116, 117, 118, 119, 120, 121, 122, 48, 49, 50, 51, 52, 53, 54, 55, 56, 57, 45, 95]⟩ : ByteArray).size) <|
    chk (fits 1 (t3.length + 1)) <|
    κ ((t3 ++ [(byteAt (⟨#[65, 66, 67, 68, 69, 70, 71, 72, 73, 74, 75, 76, 77, 78, 79, 80, 81, 82, 83, 84, 85, 86, 87, 88, 89, 90, 97, 98, 99, 100, 101, 102, 103, 104, 105, 106, 107, 108, 109, 110, 111, 112, 113, 114, 115, 116, 117, 118, 119, 120, 121, 122, 48, 49, 50, 51, 52, 53, 54, 55, 56, 57, 45, 95]⟩ : ByteArray) (iand .i64 (ishr .i64 t4 (isub .i64 t5 6)) 63).toNat)]), t4, (isub .i64 t5 6), t8, t9, t10, ())) (
    kx (t3, t4, t5, t8, t9, t10, ()))
def codec_Base.s2 (kx : (List Int × Int × Int × List Int × Int × Int × Unit) → Option ByteArray) : (List Int × Int × Int × List Int × Int × Int × Unit) → ((List Int × Int × Int × List Int × Int × Int × Unit) → Option ByteArray) → Option ByteArray := codec_Base.s2b kx
def codec_Base.n2 : (List Int × Int × Int × List Int × Int × Int × Unit) → Nat
  | (t3, t4, t5, t8, t9, t10, _) => t3.length + t4.toNat + t5.toNat + t8.length + t9.toNat + t10.toNat + 1048576
def codec_Base.l2 (x : List Int × Int × Int × List Int × Int × Int × Unit) (kx : (List Int × Int × Int × List Int × Int × Int × Unit) → Option ByteArray) : Option ByteArray := loopN (codec_Base.n2 x) (codec_Base.s2 kx) x
def codec_Base.s0b (l2 : (List Int × Int × Int × List Int × Int × Int × Unit) → ((List Int × Int × Int × List Int × Int × Int × Unit) → Option ByteArray) → Option ByteArray) (kx : (List Int × Int × Int × Unit) → Option ByteArray) : (List Int × Int × Int × List Int × Int × Int × Unit) → ((List Int × Int × Int × List Int × Int × Int × Unit) → Option ByteArray) → Option ByteArray
  | (t3, t4, t5, t8, t9, t10, _), κ =>
    cond (ilt t10 t9) (
    chk (inB t10 t8.length) <|
    l2 (t3, (ior .i64 (ishl .i64 t4 8) (IntKind.wrap .i64 (t8.getD t10.toNat (0 : Int)))), (iadd .i64 t5 8), t8, t9, t10, ()) fun (t3, t4, t5, t8, t9, t10, _) =>
    chk (ile 0 t5) <|
    κ (t3, (iand .i64 t4 (isub .i64 (ishl .i64 1 t5) 1)), t5, t8, t9, (iadd .i64 t10 1), ())) (
    kx (t3, t4, t5, ()))
def codec_Base.s0 (kx : (List Int × Int × Int × Unit) → Option ByteArray) : (List Int × Int × Int × List Int × Int × Int × Unit) → ((List Int × Int × Int × List Int × Int × Int × Unit) → Option ByteArray) → Option ByteArray := codec_Base.s0b codec_Base.l2 kx
def codec_Base.n0 : (List Int × Int × Int × List Int × Int × Int × Unit) → Nat
  | (t3, t4, t5, t8, t9, t10, _) => t3.length + t4.toNat + t5.toNat + t8.length + t9.toNat + t10.toNat + 1048576
def codec_Base.l0 (x : List Int × Int × Int × List Int × Int × Int × Unit) (kx : (List Int × Int × Int × Unit) → Option ByteArray) : Option ByteArray := loopN (codec_Base.n0 x) (codec_Base.s0 kx) x
def codec_Base.b (l0 : (List Int × Int × Int × List Int × Int × Int × Unit) → ((List Int × Int × Int × Unit) → Option ByteArray) → Option ByteArray) : (List Int × Unit) → Option ByteArray
  | (x0, _) =>
    l0 ([], 0, 0, x0, (x0.length : Int), 0, ()) fun (t3, t4, t5, _) =>
    cond (igt t5 0) (
    chk (ile 0 (isub .i64 6 t5)) <|
    chk (inB (iand .i64 (ishl .i64 t4 (isub .i64 6 t5)) 63) (⟨#[65, 66, 67, 68, 69, 70, 71, 72, 73, 74, 75, 76, 77, 78, 79, 80, 81, 82, 83, 84, 85, 86, 87, 88, 89, 90, 97, 98, 99, 100, 101, 102, 103, 104, 105, 106, 107, 108, 109, 110, 111, 112, 113, 114, 115, 116, 117, 118, 119, 120, 121, 122, 48, 49, 50, 51, 52, 53, 54, 55, 56, 57, 45, 95]⟩ : ByteArray).size) <|
    chk (fits 1 (t3.length + 1)) <|
    some (strOf (t3 ++ [(byteAt (⟨#[65, 66, 67, 68, 69, 70, 71, 72, 73, 74, 75, 76, 77, 78, 79, 80, 81, 82, 83, 84, 85, 86, 87, 88, 89, 90, 97, 98, 99, 100, 101, 102, 103, 104, 105, 106, 107, 108, 109, 110, 111, 112, 113, 114, 115, 116, 117, 118, 119, 120, 121, 122, 48, 49, 50, 51, 52, 53, 54, 55, 56, 57, 45, 95]⟩ : ByteArray) (iand .i64 (ishl .i64 t4 (isub .i64 6 t5)) 63).toNat)]))) (
    some (strOf t3))
def codec_Base (x : (List Int × Unit)) : Option ByteArray := codec_Base.b codec_Base.l0 x
/-- math/bits.RotateLeft32 -/
def math_bits_RotateLeft32.b : (Int × Int × Unit) → Option Int
  | (x0, x1, _) =>
    chk (ile 0 (iand .u64 (IntKind.wrap .u64 x1) 31)) <|
    chk (ile 0 (isub .u64 32 (iand .u64 (IntKind.wrap .u64 x1) 31))) <|
    some (ior .u32 (ishl .u32 x0 (iand .u64 (IntKind.wrap .u64 x1) 31)) (ishr .u32 x0 (isub .u64 32 (iand .u64 (IntKind.wrap .u64 x1) 31))))
def math_bits_RotateLeft32 (x : (Int × Int × Unit)) : Option Int := math_bits_RotateLeft32.b x
/-- muniment/digest.block -/
def digest_block.s0b (kx : ((List Int × Unit) × (List Int × Unit) × Unit) → Option (List Int × Unit)) : ((List Int × Unit) × List Int × (List Int × Unit) × Int × Unit) → (((List Int × Unit) × List Int × (List Int × Unit) × Int × Unit) → Option (List Int × Unit)) → Option (List Int × Unit)
  | (t0, t1, t4, t20, _), κ =>
    cond (ilt t20 16) (
    chk (inB (imul .i64 4 t20) t1.length) <|
    chk (inB (iadd .i64 (imul .i64 4 t20) 1) t1.length) <|
    chk (inB (iadd .i64 (imul .i64 4 t20) 2) t1.length) <|
    chk (inB (iadd .i64 (imul .i64 4 t20) 3) t1.length) <|
    chk (inB t20 64) <|
    κ ((t0.1, ()), t1, ((t4.1.set t20.toNat (ior .u32 (ior .u32 (ior .u32 (ishl .u32 (IntKind.wrap .u32 (t1.getD (imul .i64 4 t20).toNat (0 : Int))) 24) (ishl .u32 (IntKind.wrap .u32 (t1.getD (iadd .i64 (imul .i64 4 t20) 1).toNat (0 : Int))) 16)) (ishl .u32 (IntKind.wrap .u32 (t1.getD (iadd .i64 (imul .i64 4 t20) 2).toNat (0 : Int))) 8)) (IntKind.wrap .u32 (t1.getD (iadd .i64 (imul .i64 4 t20) 3).toNat (0 : Int))))), ()), (iadd .i64 t20 1), ())) (
    kx ((t0.1, ()), (t4.1, ()), ()))
def digest_block.s0 (kx : ((List Int × Unit) × (List Int × Unit) × Unit) → Option (List Int × Unit)) : ((List Int × Unit) × List Int × (List Int × Unit) × Int × Unit) → (((List Int × Unit) × List Int × (List Int × Unit) × Int × Unit) → Option (List Int × Unit)) → Option (List Int × Unit) := digest_block.s0b kx
def digest_block.n0 : ((List Int × Unit) × List Int × (List Int × Unit) × Int × Unit) → Nat
  | (t0, t1, t4, t20, _) => t1.length + t20.toNat + 1048576
def digest_block.l0 (x : (List Int × Unit) × List Int × (List Int × Unit) × Int × Unit) (kx : ((List Int × Unit) × (List Int × Unit) × Unit) → Option (List Int × Unit)) : Option (List Int × Unit) := loopN (digest_block.n0 x) (digest_block.s0 kx) x
def digest_block.s2b (f68 : (Int × Int × Unit) → Option Int) (kx : ((List Int × Unit) × (List Int × Unit) × Unit) → Option (List Int × Unit)) : ((List Int × Unit) × (List Int × Unit) × Int × Unit) → (((List Int × Unit) × (List Int × Unit) × Int × Unit) → Option (List Int × Unit)) → Option (List Int × Unit)
  | (t0, t4, t6, _), κ =>
    cond (ilt t6 64) (
    chk (inB (isub .i64 t6 15) 64) <|
    chk (inB (isub .i64 t6 2) 64) <|
    (f68 ((t4.1.getD (isub .i64 t6 15).toNat (0 : Int)), (-7), ())).bind fun v72 =>
    (f68 ((t4.1.getD (isub .i64 t6 15).toNat (0 : Int)), (-18), ())).bind fun v74 =>
    (f68 ((t4.1.getD (isub .i64 t6 2).toNat (0 : Int)), (-17), ())).bind fun v80 =>
    (f68 ((t4.1.getD (isub .i64 t6 2).toNat (0 : Int)), (-19), ())).bind fun v82 =>
    chk (inB (isub .i64 t6 16) 64) <|
    chk (inB (isub .i64 t6 7) 64) <|
    chk (inB t6 64) <|
    κ ((t0.1, ()), ((t4.1.set t6.toNat (iadd .u32 (iadd .u32 (iadd .u32 (t4.1.getD (isub .i64 t6 16).toNat (0 : Int)) (ixor .u32 (ixor .u32 v72 v74) (ishr .u32 (t4.1.getD (isub .i64 t6 15).toNat (0 : Int)) 3))) (t4.1.getD (isub .i64 t6 7).toNat (0 : Int))) (ixor .u32 (ixor .u32 v80 v82) (ishr .u32 (t4.1.getD (isub .i64 t6 2).toNat (0 : Int)) 10)))), ()), (iadd .i64 t6 1), ())) (
    kx ((t0.1, ()), (t4.1, ()), ()))
def digest_block.s2 (kx : ((List Int × Unit) × (List Int × Unit) × Unit) → Option (List Int × Unit)) : ((List Int × Unit) × (List Int × Unit) × Int × Unit) → (((List Int × Unit) × (List Int × Unit) × Int × Unit) → Option (List Int × Unit)) → Option (List Int × Unit) := digest_block.s2b math_bits_RotateLeft32 kx
def digest_block.n2 : ((List Int × Unit) × (List Int × Unit) × Int × Unit) → Nat
  | (t0, t4, t6, _) => t6.toNat + 1048576
def digest_block.l2 (x : (List Int × Unit) × (List Int × Unit) × Int × Unit) (kx : ((List Int × Unit) × (List Int × Unit) × Unit) → Option (List Int × Unit)) : Option (List Int × Unit) := loopN (digest_block.n2 x) (digest_block.s2 kx) x
def digest_block.s4b (f68 : (Int × Int × Unit) → Option Int) (kx : ((List Int × Unit) × (List Int × Unit) × Unit) → Option (List Int × Unit)) : ((List Int × Unit) × (List Int × Unit) × (List Int × Unit) × Int × Unit) → (((List Int × Unit) × (List Int × Unit) × (List Int × Unit) × Int × Unit) → Option (List Int × Unit)) → Option (List Int × Unit)
  | (t0, t4, t11, t105, _), κ =>
    cond (ilt t105 64) (
    (f68 ((t11.1.getD 4 (0 : Int)), (-6), ())).bind fun v113 =>
    (f68 ((t11.1.getD 4 (0 : Int)), (-11), ())).bind fun v115 =>
    (f68 ((t11.1.getD 4 (0 : Int)), (-25), ())).bind fun v118 =>
    chk (inB t105 64) <|
    chk (inB t105 64) <|
    (f68 ((t11.1.getD 0 (0 : Int)), (-2), ())).bind fun v144 =>
    (f68 ((t11.1.getD 0 (0 : Int)), (-13), ())).bind fun v146 =>
    (f68 ((t11.1.getD 0 (0 : Int)), (-22), ())).bind fun v149 =>
    κ ((t0.1, ()), (t4.1, ()), ((((copied t11.1 1 (min ((t11.1.drop 0).take 7).length 7) ((t11.1.drop 0).take 7)).set 4 (iadd .u32 ((copied t11.1 1 (min ((t11.1.drop 0).take 7).length 7) ((t11.1.drop 0).take 7)).getD 4 (0 : Int)) (iadd .u32 (iadd .u32 (iadd .u32 (iadd .u32 (t11.1.getD 7 (0 : Int)) (ixor .u32 (ixor .u32 v113 v115) v118)) (ixor .u32 (iand .u32 (t11.1.getD 4 (0 : Int)) (t11.1.getD 5 (0 : Int))) (iand .u32 (inot .u32 (t11.1.getD 4 (0 : Int))) (t11.1.getD 6 (0 : Int))))) (gv_dparts.getD t105.toNat (0 : Int))) (t4.1.getD t105.toNat (0 : Int))))).set 0 (iadd .u32 (iadd .u32 (iadd .u32 (iadd .u32 (iadd .u32 (iadd .u32 (t11.1.getD 7 (0 : Int)) (ixor .u32 (ixor .u32 v113 v115) v118)) (ixor .u32 (iand .u32 (t11.1.getD 4 (0 : Int)) (t11.1.getD 5 (0 : Int))) (iand .u32 (inot .u32 (t11.1.getD 4 (0 : Int))) (t11.1.getD 6 (0 : Int))))) (gv_dparts.getD t105.toNat (0 : Int))) (t4.1.getD t105.toNat (0 : Int))) (ixor .u32 (ixor .u32 v144 v146) v149)) (ixor .u32 (ixor .u32 (iand .u32 (t11.1.getD 0 (0 : Int)) (t11.1.getD 1 (0 : Int))) (iand .u32 (t11.1.getD 0 (0 : Int)) (t11.1.getD 2 (0 : Int)))) (iand .u32 (t11.1.getD 1 (0 : Int)) (t11.1.getD 2 (0 : Int)))))), ()), (iadd .i64 t105 1), ())) (
    kx ((t0.1, ()), (t11.1, ()), ()))
def digest_block.s4 (kx : ((List Int × Unit) × (List Int × Unit) × Unit) → Option (List Int × Unit)) : ((List Int × Unit) × (List Int × Unit) × (List Int × Unit) × Int × Unit) → (((List Int × Unit) × (List Int × Unit) × (List Int × Unit) × Int × Unit) → Option (List Int × Unit)) → Option (List Int × Unit) := digest_block.s4b math_bits_RotateLeft32 kx
def digest_block.n4 : ((List Int × Unit) × (List Int × Unit) × (List Int × Unit) × Int × Unit) → Nat
  | (t0, t4, t11, t105, _) => t105.toNat + 1048576
def digest_block.l4 (x : (List Int × Unit) × (List Int × Unit) × (List Int × Unit) × Int × Unit) (kx : ((List Int × Unit) × (List Int × Unit) × Unit) → Option (List Int × Unit)) : Option (List Int × Unit) := loopN (digest_block.n4 x) (digest_block.s4 kx) x
def digest_block.s6b (kx : ((List Int × Unit) × Unit) → Option (List Int × Unit)) : ((List Int × Unit) × (List Int × Unit) × Int × Unit) → (((List Int × Unit) × (List Int × Unit) × Int × Unit) → Option (List Int × Unit)) → Option (List Int × Unit)
  | (t0, t11, t181, _), κ =>
    cond (ilt t181 8) (
    chk (inB t181 8) <|
    chk (inB t181 8) <|
    chk (inB t181 8) <|
    κ (((t0.1.set t181.toNat (iadd .u32 (t0.1.getD t181.toNat (0 : Int)) (t11.1.getD t181.toNat (0 : Int)))), ()), (t11.1, ()), (iadd .i64 t181 1), ())) (
    kx ((t0.1, ()), ()))
def digest_block.s6 (kx : ((List Int × Unit) × Unit) → Option (List Int × Unit)) : ((List Int × Unit) × (List Int × Unit) × Int × Unit) → (((List Int × Unit) × (List Int × Unit) × Int × Unit) → Option (List Int × Unit)) → Option (List Int × Unit) := digest_block.s6b kx
def digest_block.n6 : ((List Int × Unit) × (List Int × Unit) × Int × Unit) → Nat
  | (t0, t11, t181, _) => t181.toNat + 1048576
def digest_block.l6 (x : (List Int × Unit) × (List Int × Unit) × Int × Unit) (kx : ((List Int × Unit) × Unit) → Option (List Int × Unit)) : Option (List Int × Unit) := loopN (digest_block.n6 x) (digest_block.s6 kx) x
def digest_block.b (l0 : ((List Int × Unit) × List Int × (List Int × Unit) × Int × Unit) → (((List Int × Unit) × (List Int × Unit) × Unit) → Option (List Int × Unit)) → Option (List Int × Unit)) (l2 : ((List Int × Unit) × (List Int × Unit) × Int × Unit) → (((List Int × Unit) × (List Int × Unit) × Unit) → Option (List Int × Unit)) → Option (List Int × Unit)) (l4 : ((List Int × Unit) × (List Int × Unit) × (List Int × Unit) × Int × Unit) → (((List Int × Unit) × (List Int × Unit) × Unit) → Option (List Int × Unit)) → Option (List Int × Unit)) (l6 : ((List Int × Unit) × (List Int × Unit) × Int × Unit) → (((List Int × Unit) × Unit) → Option (List Int × Unit)) → Option (List Int × Unit)) : ((List Int × Unit) × List Int × Unit) → Option (List Int × Unit)
  | (x0, x1, _) =>
    l0 ((x0.1, ()), x1, ((List.replicate 64 (0 : Int)), ()), 0, ()) fun (t0, t4, _) =>
    l2 ((t0.1, ()), (t4.1, ()), 16, ()) fun (t0, t4, _) =>
    l4 ((t0.1, ()), (t4.1, ()), (t0.1, ()), 0, ()) fun (t0, t11, _) =>
    l6 ((t0.1, ()), (t11.1, ()), 0, ()) fun (t0, _) =>
    some (t0.1, ())
def digest_block (x : ((List Int × Unit) × List Int × Unit)) : Option (List Int × Unit) := digest_block.b digest_block.l0 digest_block.l2 digest_block.l4 digest_block.l6 x
/-- muniment/digest.Sum -/
def digest_Sum.s0b (kx : (List Int × (List Int × Unit) × List Int × Unit) → Option (List Int)) : (List Int × (List Int × Unit) × List Int × Unit) → ((List Int × (List Int × Unit) × List Int × Unit) → Option (List Int)) → Option (List Int)
  | (t0, t2, t3, _), κ =>
    cond (ine (irem .i64 (t3.length : Int) 64) 56) (
    chk (fits 1 (t3.length + 1)) <|
    κ (t0, (t2.1, ()), (t3 ++ [0]), ())) (
    kx (t0, (t2.1, ()), t3, ()))
def digest_Sum.s0 (kx : (List Int × (List Int × Unit) × List Int × Unit) → Option (List Int)) : (List Int × (List Int × Unit) × List Int × Unit) → ((List Int × (List Int × Unit) × List Int × Unit) → Option (List Int)) → Option (List Int) := digest_Sum.s0b kx
def digest_Sum.n0 : (List Int × (List Int × Unit) × List Int × Unit) → Nat
  | (t0, t2, t3, _) => t0.length + t3.length + 1048576
def digest_Sum.l0 (x : List Int × (List Int × Unit) × List Int × Unit) (kx : (List Int × (List Int × Unit) × List Int × Unit) → Option (List Int)) : Option (List Int) := loopN (digest_Sum.n0 x) (digest_Sum.s0 kx) x
def digest_Sum.s2b (kx : ((List Int × Unit) × List Int × Unit) → Option (List Int)) : ((List Int × Unit) × List Int × Int × Int × Unit) → (((List Int × Unit) × List Int × Int × Int × Unit) → Option (List Int)) → Option (List Int)
  | (t2, t3, t4, t5, _), κ =>
    cond (ige t5 0) (
    chk (ile 0 t5) <|
    chk (fits 1 (t3.length + 1)) <|
    κ ((t2.1, ()), (t3 ++ [(IntKind.wrap .u8 (ishr .u64 t4 t5))]), t4, (isub .i64 t5 8), ())) (
    kx ((t2.1, ()), t3, ()))
def digest_Sum.s2 (kx : ((List Int × Unit) × List Int × Unit) → Option (List Int)) : ((List Int × Unit) × List Int × Int × Int × Unit) → (((List Int × Unit) × List Int × Int × Int × Unit) → Option (List Int)) → Option (List Int) := digest_Sum.s2b kx
def digest_Sum.n2 : ((List Int × Unit) × List Int × Int × Int × Unit) → Nat
  | (t2, t3, t4, t5, _) => t3.length + t4.toNat + t5.toNat + 1048576
def digest_Sum.l2 (x : (List Int × Unit) × List Int × Int × Int × Unit) (kx : ((List Int × Unit) × List Int × Unit) → Option (List Int)) : Option (List Int) := loopN (digest_Sum.n2 x) (digest_Sum.s2 kx) x
def digest_Sum.s4b (f66 : ((List Int × Unit) × List Int × Unit) → Option (List Int × Unit)) (kx : ((List Int × Unit) × (List Int × Unit) × Unit) → Option (List Int)) : ((List Int × Unit) × List Int × (List Int × Unit) × Unit) → (((List Int × Unit) × List Int × (List Int × Unit) × Unit) → Option (List Int)) → Option (List Int)
  | (t2, t3, t6, _), κ =>
    cond (igt (t3.length : Int) 0) (
    chk (leB 0 0 && (leB 0 64 && leB 64 t3.length)) <|
    (f66 ((t6.1, ()), ((t3.drop 0).take 64), ())).bind fun v46 =>
    chk (leB 0 64 && (leB 64 t3.length && leB t3.length t3.length)) <|
    κ ((t2.1, ()), ((t3.drop 64).take (((t3.length : Int) - 64).toNat)), (v46.1, ()), ())) (
    kx ((t2.1, ()), (t6.1, ()), ()))
def digest_Sum.s4 (kx : ((List Int × Unit) × (List Int × Unit) × Unit) → Option (List Int)) : ((List Int × Unit) × List Int × (List Int × Unit) × Unit) → (((List Int × Unit) × List Int × (List Int × Unit) × Unit) → Option (List Int)) → Option (List Int) := digest_Sum.s4b digest_block kx
def digest_Sum.n4 : ((List Int × Unit) × List Int × (List Int × Unit) × Unit) → Nat
  | (t2, t3, t6, _) => t3.length + 1048576
def digest_Sum.l4 (x : (List Int × Unit) × List Int × (List Int × Unit) × Unit) (kx : ((List Int × Unit) × (List Int × Unit) × Unit) → Option (List Int)) : Option (List Int) := loopN (digest_Sum.n4 x) (digest_Sum.s4 kx) x
def digest_Sum.s8b (kx : ((List Int × Unit) × (List Int × Unit) × List Int × Int × Unit) → Option (List Int)) : ((List Int × Unit) × (List Int × Unit) × Int × Int × List Int × Int × Int × Unit) → (((List Int × Unit) × (List Int × Unit) × Int × Int × List Int × Int × Int × Unit) → Option (List Int)) → Option (List Int)
  | (t2, t7, t8, t9, t47, t48, t52, _), κ =>
    cond (ilt t52 4) (
    chk (ile 0 (isub .i64 24 (imul .i64 8 t52))) <|
    chk (inB (iadd .i64 (imul .i64 4 t8) t52) 32) <|
    κ ((t2.1, ()), ((t7.1.set (iadd .i64 (imul .i64 4 t8) t52).toNat (IntKind.wrap .u8 (ishr .u32 t9 (isub .i64 24 (imul .i64 8 t52))))), ()), t8, t9, t47, t48, (iadd .i64 t52 1), ())) (
    kx ((t2.1, ()), (t7.1, ()), t47, t48, ()))
def digest_Sum.s8 (kx : ((List Int × Unit) × (List Int × Unit) × List Int × Int × Unit) → Option (List Int)) : ((List Int × Unit) × (List Int × Unit) × Int × Int × List Int × Int × Int × Unit) → (((List Int × Unit) × (List Int × Unit) × Int × Int × List Int × Int × Int × Unit) → Option (List Int)) → Option (List Int) := digest_Sum.s8b kx
def digest_Sum.n8 : ((List Int × Unit) × (List Int × Unit) × Int × Int × List Int × Int × Int × Unit) → Nat
  | (t2, t7, t8, t9, t47, t48, t52, _) => t8.toNat + t9.toNat + t47.length + t48.toNat + t52.toNat + 1048576
def digest_Sum.l8 (x : (List Int × Unit) × (List Int × Unit) × Int × Int × List Int × Int × Int × Unit) (kx : ((List Int × Unit) × (List Int × Unit) × List Int × Int × Unit) → Option (List Int)) : Option (List Int) := loopN (digest_Sum.n8 x) (digest_Sum.s8 kx) x
def digest_Sum.s6b (l8 : ((List Int × Unit) × (List Int × Unit) × Int × Int × List Int × Int × Int × Unit) → (((List Int × Unit) × (List Int × Unit) × List Int × Int × Unit) → Option (List Int)) → Option (List Int)) (kx : ((List Int × Unit) × (List Int × Unit) × Unit) → Option (List Int)) : ((List Int × Unit) × (List Int × Unit) × List Int × Int × Unit) → (((List Int × Unit) × (List Int × Unit) × List Int × Int × Unit) → Option (List Int)) → Option (List Int)
  | (t2, t7, t47, t48, _), κ =>
    cond (ilt t48 8) (
    chk (inB t48 8) <|
    l8 ((t2.1, ()), (t7.1, ()), t48, (t47.getD t48.toNat (0 : Int)), t47, t48, 0, ()) fun (t2, t7, t47, t48, _) =>
    κ ((t2.1, ()), (t7.1, ()), t47, (iadd .i64 t48 1), ())) (
    kx ((t2.1, ()), (t7.1, ()), ()))
def digest_Sum.s6 (kx : ((List Int × Unit) × (List Int × Unit) × Unit) → Option (List Int)) : ((List Int × Unit) × (List Int × Unit) × List Int × Int × Unit) → (((List Int × Unit) × (List Int × Unit) × List Int × Int × Unit) → Option (List Int)) → Option (List Int) := digest_Sum.s6b digest_Sum.l8 kx
def digest_Sum.n6 : ((List Int × Unit) × (List Int × Unit) × List Int × Int × Unit) → Nat
  | (t2, t7, t47, t48, _) => t47.length + t48.toNat + 1048576
def digest_Sum.l6 (x : (List Int × Unit) × (List Int × Unit) × List Int × Int × Unit) (kx : ((List Int × Unit) × (List Int × Unit) × Unit) → Option (List Int)) : Option (List Int) := loopN (digest_Sum.n6 x) (digest_Sum.s6 kx) x
def digest_Sum.b (l0 : (List Int × (List Int × Unit) × List Int × Unit) → ((List Int × (List Int × Unit) × List Int × Unit) → Option (List Int)) → Option (List Int)) (l2 : ((List Int × Unit) × List Int × Int × Int × Unit) → (((List Int × Unit) × List Int × Unit) → Option (List Int)) → Option (List Int)) (l4 : ((List Int × Unit) × List Int × (List Int × Unit) × Unit) → (((List Int × Unit) × (List Int × Unit) × Unit) → Option (List Int)) → Option (List Int)) (l6 : ((List Int × Unit) × (List Int × Unit) × List Int × Int × Unit) → (((List Int × Unit) × (List Int × Unit) × Unit) → Option (List Int)) → Option (List Int)) : (List Int × Unit) → Option (List Int)
  | (x0, _) =>
    chk (fits 1 (0 + x0.length)) <|
    chk (fits 1 (x0.length + 1)) <|
    l0 (x0, ((List.replicate 32 (0 : Int)), ()), (x0 ++ [128]), ()) fun (t0, t2, t3, _) =>
    l2 ((t2.1, ()), t3, (imul .u64 (IntKind.wrap .u64 (t0.length : Int)) 8), 56, ()) fun (t2, t3, _) =>
    l4 ((t2.1, ()), t3, (gv_dfirst, ()), ()) fun (t2, t6, _) =>
    l6 ((t2.1, ()), ((List.replicate 32 (0 : Int)), ()), t6.1, 0, ()) fun (t2, t7, _) =>
    some t7.1
def digest_Sum (x : (List Int × Unit)) : Option (List Int) := digest_Sum.b digest_Sum.l0 digest_Sum.l2 digest_Sum.l4 digest_Sum.l6 x
/-- muniment/digest.Tag -/
def digest_Tag.s0b (kx : (List Int × (List Int × Unit) × (List Int × Unit) × (List Int × Unit) × Unit) → Option (List Int)) : (List Int × (List Int × Unit) × (List Int × Unit) × (List Int × Unit) × Int × Unit) → ((List Int × (List Int × Unit) × (List Int × Unit) × (List Int × Unit) × Int × Unit) → Option (List Int)) → Option (List Int)
  | (t1, t4, t6, t7, t20, _), κ =>
    cond (ilt t20 64) (
    chk (inB t20 64) <|
    chk (inB t20 64) <|
    chk (inB t20 64) <|
    chk (inB t20 64) <|
    κ (t1, (t4.1, ()), ((t6.1.set t20.toNat (ixor .u8 (t6.1.getD t20.toNat (0 : Int)) 54)), ()), ((t7.1.set t20.toNat (ixor .u8 (t7.1.getD t20.toNat (0 : Int)) 92)), ()), (iadd .i64 t20 1), ())) (
    kx (t1, (t4.1, ()), (t6.1, ()), (t7.1, ()), ()))
def digest_Tag.s0 (kx : (List Int × (List Int × Unit) × (List Int × Unit) × (List Int × Unit) × Unit) → Option (List Int)) : (List Int × (List Int × Unit) × (List Int × Unit) × (List Int × Unit) × Int × Unit) → ((List Int × (List Int × Unit) × (List Int × Unit) × (List Int × Unit) × Int × Unit) → Option (List Int)) → Option (List Int) := digest_Tag.s0b kx
def digest_Tag.n0 : (List Int × (List Int × Unit) × (List Int × Unit) × (List Int × Unit) × Int × Unit) → Nat
  | (t1, t4, t6, t7, t20, _) => t1.length + t20.toNat + 1048576
def digest_Tag.l0 (x : List Int × (List Int × Unit) × (List Int × Unit) × (List Int × Unit) × Int × Unit) (kx : (List Int × (List Int × Unit) × (List Int × Unit) × (List Int × Unit) × Unit) → Option (List Int)) : Option (List Int) := loopN (digest_Tag.n0 x) (digest_Tag.s0 kx) x
def digest_Tag.b (f62 : (List Int × Unit) → Option (List Int)) (l0 : (List Int × (List Int × Unit) × (List Int × Unit) × (List Int × Unit) × Int × Unit) → ((List Int × (List Int × Unit) × (List Int × Unit) × (List Int × Unit) × Unit) → Option (List Int)) → Option (List Int)) : (List Int × List Int × Unit) → Option (List Int)
  | (x0, x1, _) =>
    cond (igt (x0.length : Int) 64) (
    (f62 (x0, ())).bind fun v14 =>
    l0 (x1, ((List.replicate 32 (0 : Int)), ()), ((copied (List.replicate 64 (0 : Int)) 0 (min v14.length 64) v14), ()), ((copied (List.replicate 64 (0 : Int)) 0 (min v14.length 64) v14), ()), 0, ()) fun (t1, t4, t6, t7, _) =>
    cond (decide (t1.length = 0)) (
    (f62 (t6.1, ())).bind fun v37 =>
    cond (decide (v37.length = 0)) (
    (f62 (t7.1, ())).bind fun v41 =>
    some v41) (
    chk (fits 1 ((t7.1.drop 0).length + v37.length)) <|
    (f62 (((t7.1.drop 0) ++ v37), ())).bind fun v41 =>
    some v41)) (
    chk (fits 1 ((t6.1.drop 0).length + t1.length)) <|
    (f62 (((t6.1.drop 0) ++ t1), ())).bind fun v37 =>
    cond (decide (v37.length = 0)) (
    (f62 (t7.1, ())).bind fun v41 =>
    some v41) (
    chk (fits 1 ((t7.1.drop 0).length + v37.length)) <|
    (f62 (((t7.1.drop 0) ++ v37), ())).bind fun v41 =>
    some v41))) (
    l0 (x1, ((List.replicate 32 (0 : Int)), ()), ((copied (List.replicate 64 (0 : Int)) 0 (min x0.length 64) x0), ()), ((copied (List.replicate 64 (0 : Int)) 0 (min x0.length 64) x0), ()), 0, ()) fun (t1, t4, t6, t7, _) =>
    cond (decide (t1.length = 0)) (
    (f62 (t6.1, ())).bind fun v37 =>
    cond (decide (v37.length = 0)) (
    (f62 (t7.1, ())).bind fun v41 =>
    some v41) (
    chk (fits 1 ((t7.1.drop 0).length + v37.length)) <|
    (f62 (((t7.1.drop 0) ++ v37), ())).bind fun v41 =>
    some v41)) (
    chk (fits 1 ((t6.1.drop 0).length + t1.length)) <|
    (f62 (((t6.1.drop 0) ++ t1), ())).bind fun v37 =>
    cond (decide (v37.length = 0)) (
    (f62 (t7.1, ())).bind fun v41 =>
    some v41) (
    chk (fits 1 ((t7.1.drop 0).length + v37.length)) <|
    (f62 (((t7.1.drop 0) ++ v37), ())).bind fun v41 =>
    some v41)))
def digest_Tag (x : (List Int × List Int × Unit)) : Option (List Int) := digest_Tag.b digest_Sum digest_Tag.l0 x
/-- muniment/token.Sign -/
def token_Sign.b (f27 : ((Int × ByteArray × Int × Int × Int × Int × Unit) × Unit) → Option (List Int × Int × Unit)) (f41 : (List Int × Unit) → Option ByteArray) (f53 : (List Int × List Int × Unit) → Option (List Int)) : (List Int × (Int × ByteArray × Int × Int × Int × Int × Unit) × Unit) → Option (ByteArray × Int × Unit)
  | (x0, x1, _) =>
    (f27 ((x1.1, x1.2.1, x1.2.2.1, x1.2.2.2.1, x1.2.2.2.2.1, x1.2.2.2.2.2.1, ()), ())).bind fun v11 =>
    cond (ine v11.2.1 0) (
    some ((⟨#[]⟩ : ByteArray), v11.2.1, ())) (
    (f53 (x0, v11.1, ())).bind fun v19 =>
    chk (fits 1 (v11.1.length + v19.length)) <|
    (f41 ((v11.1 ++ v19), ())).bind fun v23 =>
    some (v23, 0, ()))
def token_Sign (x : (List Int × (Int × ByteArray × Int × Int × Int × Int × Unit) × Unit)) : Option (ByteArray × Int × Unit) := token_Sign.b token_Encode codec_Base digest_Tag x
/-- muniment/octet.ReadUint -/
def octet_ReadUint.s0b (kx : (Int × Int × Unit) → Option (Int × Int × Int × Unit)) : (Int × Int × List Int × Int × Int × Unit) → ((Int × Int × List Int × Int × Int × Unit) → Option (Int × Int × Int × Unit)) → Option (Int × Int × Int × Unit)
  | (t1, t7, t27, t28, t29, _), κ =>
    cond (ilt t29 t28) (
    chk (inB t29 t27.length) <|
    κ (t1, (ior .u64 (ishl .u64 t7 8) (IntKind.wrap .u64 (t27.getD t29.toNat (0 : Int)))), t27, t28, (iadd .i64 t29 1), ())) (
    kx (t1, t7, ()))
def octet_ReadUint.s0 (kx : (Int × Int × Unit) → Option (Int × Int × Int × Unit)) : (Int × Int × List Int × Int × Int × Unit) → ((Int × Int × List Int × Int × Int × Unit) → Option (Int × Int × Int × Unit)) → Option (Int × Int × Int × Unit) := octet_ReadUint.s0b kx
def octet_ReadUint.n0 : (Int × Int × List Int × Int × Int × Unit) → Nat
  | (t1, t7, t27, t28, t29, _) => t1.toNat + t7.toNat + t27.length + t28.toNat + t29.toNat + 1048576
def octet_ReadUint.l0 (x : Int × Int × List Int × Int × Int × Unit) (kx : (Int × Int × Unit) → Option (Int × Int × Int × Unit)) : Option (Int × Int × Int × Unit) := loopN (octet_ReadUint.n0 x) (octet_ReadUint.s0 kx) x
def octet_ReadUint.b (l0 : (Int × Int × List Int × Int × Int × Unit) → ((Int × Int × Unit) → Option (Int × Int × Int × Unit)) → Option (Int × Int × Int × Unit)) : (List Int × Int × Unit) → Option (Int × Int × Int × Unit)
  | (x0, x1, _) =>
    cond (ilt x1 0) (
    some (0, 0, 1, ())) (
    cond (igt x1 (x0.length : Int)) (
    some (0, 0, 1, ())) (
    cond (ilt (isub .i64 (x0.length : Int) x1) 8) (
    some (0, 0, 3, ())) (
    chk (leB 0 x1 && (leB x1 (iadd .i64 x1 8) && leB (iadd .i64 x1 8) x0.length)) <|
    l0 (x1, 0, ((x0.drop x1.toNat).take (((iadd .i64 x1 8) : Int) - x1).toNat), (((x0.drop x1.toNat).take (((iadd .i64 x1 8) : Int) - x1).toNat).length : Int), 0, ()) fun (t1, t7, _) =>
    some (t7, (iadd .i64 t1 8), 0, ()))))
def octet_ReadUint (x : (List Int × Int × Unit)) : Option (Int × Int × Int × Unit) := octet_ReadUint.b octet_ReadUint.l0 x
/-- muniment/octet.ReadInt -/
def octet_ReadInt.b (f43 : (List Int × Int × Unit) → Option (Int × Int × Int × Unit)) : (List Int × Int × Unit) → Option (Int × Int × Int × Unit)
  | (x0, x1, _) =>
    (f43 (x0, x1, ())).bind fun v13 =>
    cond (ine v13.2.2.1 0) (
    some (0, 0, v13.2.2.1, ())) (
    some ((IntKind.wrap .i64 (ixor .u64 v13.1 9223372036854775808)), v13.2.1, 0, ()))
def octet_ReadInt (x : (List Int × Int × Unit)) : Option (Int × Int × Int × Unit) := octet_ReadInt.b octet_ReadUint x
/-- muniment/token.Decode -/
def token_Decode.b (f25 : ((Int × ByteArray × Int × Int × Int × Int × Unit) × Unit) → Option Bool) (f43 : (List Int × Int × Unit) → Option (Int × Int × Int × Unit)) (f49 : (List Int × Int × Unit) → Option (Int × Int × Int × Unit)) : (List Int × Unit) → Option ((Int × ByteArray × Int × Int × Int × Int × Unit) × Int × Unit)
  | (x0, _) =>
    cond (ilt (x0.length : Int) 34) (
    some ((0, ByteArray.empty, 0, 0, 0, 0, ()), 3, ())) (
    chk (inB 0 x0.length) <|
    cond (ine (x0.getD 0 (0 : Int)) 84) (
    some ((0, ByteArray.empty, 0, 0, 0, 0, ()), 3, ())) (
    chk (inB 9 x0.length) <|
    chk (leB 0 34 && (leB 34 x0.length && leB x0.length x0.length)) <|
    (f43 (x0, 1, ())).bind fun v24 =>
    (f43 (x0, 10, ())).bind fun v31 =>
    (f49 (x0, 18, ())).bind fun v38 =>
    (f49 (x0, 26, ())).bind fun v45 =>
    (f25 ((v24.1, (strOf ((x0.drop 34).take ((x0.length : Int) - 34).toNat)), (x0.getD 9 (0 : Int)), v31.1, v38.1, v45.1, ()), ())).bind fun v51 =>
    cond (!v51) (
    some ((0, ByteArray.empty, 0, 0, 0, 0, ()), 3, ())) (
    some ((v24.1, (strOf ((x0.drop 34).take ((x0.length : Int) - 34).toNat)), (x0.getD 9 (0 : Int)), v31.1, v38.1, v45.1, ()), 0, ()))))
def token_Decode (x : (List Int × Unit)) : Option ((Int × ByteArray × Int × Int × Int × Int × Unit) × Int × Unit) := token_Decode.b token_Form octet_ReadUint octet_ReadInt x
/-- muniment/digest.Equal -/
def digest_Equal.s0b (kx : (Int × Unit) → Option Bool) : (List Int × List Int × Int × Int × Int × Unit) → ((List Int × List Int × Int × Int × Int × Unit) → Option Bool) → Option Bool
  | (t0, t1, t5, t13, t14, _), κ =>
    cond (ilt t14 t13) (
    chk (inB t14 t0.length) <|
    chk (inB t14 t1.length) <|
    κ (t0, t1, (ior .u8 t5 (ixor .u8 (t0.getD t14.toNat (0 : Int)) (t1.getD t14.toNat (0 : Int)))), t13, (iadd .i64 t14 1), ())) (
    kx (t5, ()))
def digest_Equal.s0 (kx : (Int × Unit) → Option Bool) : (List Int × List Int × Int × Int × Int × Unit) → ((List Int × List Int × Int × Int × Int × Unit) → Option Bool) → Option Bool := digest_Equal.s0b kx
def digest_Equal.n0 : (List Int × List Int × Int × Int × Int × Unit) → Nat
  | (t0, t1, t5, t13, t14, _) => t0.length + t1.length + t5.toNat + t13.toNat + t14.toNat + 1048576
def digest_Equal.l0 (x : List Int × List Int × Int × Int × Int × Unit) (kx : (Int × Unit) → Option Bool) : Option Bool := loopN (digest_Equal.n0 x) (digest_Equal.s0 kx) x
def digest_Equal.b (l0 : (List Int × List Int × Int × Int × Int × Unit) → ((Int × Unit) → Option Bool) → Option Bool) : (List Int × List Int × Unit) → Option Bool
  | (x0, x1, _) =>
    cond (ine (x0.length : Int) (x1.length : Int)) (
    some false) (
    l0 (x0, x1, 0, (x0.length : Int), 0, ()) fun (t5, _) =>
    some (ieq t5 0))
def digest_Equal (x : (List Int × List Int × Unit)) : Option Bool := digest_Equal.b digest_Equal.l0 x
/-- muniment/codec.ReadBase -/
def codec_ReadBase.s2b (kx : (ByteArray × List Int × Int × Int × Int × Int × Int × Unit) → Option (List Int × Int × Unit)) : (ByteArray × List Int × Int × Int × Int × Int × Int × Int × Unit) → ((ByteArray × List Int × Int × Int × Int × Int × Int × Int × Unit) → Option (List Int × Int × Unit)) → Option (List Int × Int × Unit)
  | (t0, t4, t5, t6, t7, t8, t10, t11, _), κ =>
    cond (ilt t8 64) (
    chk (inB t8 (⟨#[65, 66, 67, 68, 69, 70, 71, 72, 73, 74, 75, 76, 77, 78, 79, 80, 81, 82, 83, 84, 85, 86, 87, 88, 89, 90, 97, 98, 99, 100, 101, 102, 103, 104, 105, 106, 107, 108, 109, 110, 111, 112, 113, 114, 115, 116, 117, 118, 119, 120, 121, 122, 48, 49, 50, 51, 52, 53, 54, 55, 56, 57, 45, 95]⟩ : ByteArray).size) <|
    chk (inB t7 t0.size) <|
    cond (ine (byteAt (⟨#[65, 66, 67, 68, 69, 70, 71, 72, 73, 74, 75, 76, 77, 78, 79, 80, 81, 82, 83, 84, 85, 86, 87, 88, 89, 90, 97, 98, 99, 100, 101, 102, 103, 104, 105, 106, 107, 108, 109, 110, 111, 112, 113, 114, 115, 116, 117, 118, 119, 120, 121, 122, 48, 49, 50, 51, 52, 53, 54, 55, 56, 57, 45, 95]⟩ : ByteArray) t8.toNat) (byteAt t0 t7.toNat)) (
    κ (t0, t4, t5, t6, t7, (iadd .i64 t8 1), t10, t11, ())) (
    kx (t0, t4, t5, t6, t8, t10, t11, ()))) (
    kx (t0, t4, t5, t6, t8, t10, t11, ()))
def codec_ReadBase.s2 (kx : (ByteArray × List Int × Int × Int × Int × Int × Int × Unit) → Option (List Int × Int × Unit)) : (ByteArray × List Int × Int × Int × Int × Int × Int × Int × Unit) → ((ByteArray × List Int × Int × Int × Int × Int × Int × Int × Unit) → Option (List Int × Int × Unit)) → Option (List Int × Int × Unit) := codec_ReadBase.s2b kx
def codec_ReadBase.n2 : (ByteArray × List Int × Int × Int × Int × Int × Int × Int × Unit) → Nat
  | (t0, t4, t5, t6, t7, t8, t10, t11, _) => t0.size + t4.length + t5.toNat + t6.toNat + t7.toNat + t8.toNat + t10.toNat + t11.toNat + 1048576
def codec_ReadBase.l2 (x : ByteArray × List Int × Int × Int × Int × Int × Int × Int × Unit) (kx : (ByteArray × List Int × Int × Int × Int × Int × Int × Unit) → Option (List Int × Int × Unit)) : Option (List Int × Int × Unit) := loopN (codec_ReadBase.n2 x) (codec_ReadBase.s2 kx) x
def codec_ReadBase.s0b (l2 : (ByteArray × List Int × Int × Int × Int × Int × Int × Int × Unit) → ((ByteArray × List Int × Int × Int × Int × Int × Int × Unit) → Option (List Int × Int × Unit)) → Option (List Int × Int × Unit)) (kx : (List Int × Int × Int × Unit) → Option (List Int × Int × Unit)) : (ByteArray × List Int × Int × Int × Int × Int × Unit) → ((ByteArray × List Int × Int × Int × Int × Int × Unit) → Option (List Int × Int × Unit)) → Option (List Int × Int × Unit)
  | (t0, t4, t5, t6, t10, t11, _), κ =>
    cond (ilt t11 t10) (
    l2 (t0, t4, t5, t6, t11, 0, t10, t11, ()) fun (t0, t4, t5, t6, t8, t10, t11, _) =>
    cond (ieq t8 64) (
    some ([], 3, ())) (
    cond (ige (iadd .i64 t6 6) 8) (
    chk (ile 0 (isub .i64 (iadd .i64 t6 6) 8)) <|
    chk (fits 1 (t4.length + 1)) <|
    chk (ile 0 (isub .i64 (iadd .i64 t6 6) 8)) <|
    κ (t0, (t4 ++ [(IntKind.wrap .u8 (ishr .i64 (ior .i64 (ishl .i64 t5 6) t8) (isub .i64 (iadd .i64 t6 6) 8)))]), (iand .i64 (ior .i64 (ishl .i64 t5 6) t8) (isub .i64 (ishl .i64 1 (isub .i64 (iadd .i64 t6 6) 8)) 1)), (isub .i64 (iadd .i64 t6 6) 8), t10, (iadd .i64 t11 1), ())) (
    chk (ile 0 (iadd .i64 t6 6)) <|
    κ (t0, t4, (iand .i64 (ior .i64 (ishl .i64 t5 6) t8) (isub .i64 (ishl .i64 1 (iadd .i64 t6 6)) 1)), (iadd .i64 t6 6), t10, (iadd .i64 t11 1), ())))) (
    kx (t4, t5, t6, ()))
def codec_ReadBase.s0 (kx : (List Int × Int × Int × Unit) → Option (List Int × Int × Unit)) : (ByteArray × List Int × Int × Int × Int × Int × Unit) → ((ByteArray × List Int × Int × Int × Int × Int × Unit) → Option (List Int × Int × Unit)) → Option (List Int × Int × Unit) := codec_ReadBase.s0b codec_ReadBase.l2 kx
def codec_ReadBase.n0 : (ByteArray × List Int × Int × Int × Int × Int × Unit) → Nat
  | (t0, t4, t5, t6, t10, t11, _) => t0.size + t4.length + t5.toNat + t6.toNat + t10.toNat + t11.toNat + 1048576
def codec_ReadBase.l0 (x : ByteArray × List Int × Int × Int × Int × Int × Unit) (kx : (List Int × Int × Int × Unit) → Option (List Int × Int × Unit)) : Option (List Int × Int × Unit) := loopN (codec_ReadBase.n0 x) (codec_ReadBase.s0 kx) x
def codec_ReadBase.b (l0 : (ByteArray × List Int × Int × Int × Int × Int × Unit) → ((List Int × Int × Int × Unit) → Option (List Int × Int × Unit)) → Option (List Int × Int × Unit)) : (ByteArray × Unit) → Option (List Int × Int × Unit)
  | (x0, _) =>
    l0 (x0, [], 0, 0, (x0.size : Int), 0, ()) fun (t4, t5, t6, _) =>
    cond (ige t6 6) (
    some ([], 3, ())) (
    cond (ine t5 0) (
    some ([], 3, ())) (
    some (t4, 0, ())))
def codec_ReadBase (x : (ByteArray × Unit)) : Option (List Int × Int × Unit) := codec_ReadBase.b codec_ReadBase.l0 x
/-- muniment/token.Verify -/
def token_Verify.b (f28 : (List Int × Unit) → Option ((Int × ByteArray × Int × Int × Int × Int × Unit) × Int × Unit)) (f40 : (List Int × List Int × Unit) → Option Bool) (f42 : (ByteArray × Unit) → Option (List Int × Int × Unit)) (f53 : (List Int × List Int × Unit) → Option (List Int)) : (List Int × ByteArray × Int × Unit) → Option ((Int × ByteArray × Int × Int × Int × Int × Unit) × Int × Unit)
  | (x0, x1, x2, _) =>
    (f42 (x1, ())).bind fun v15 =>
    cond (ine v15.2.1 0) (
    some ((0, ByteArray.empty, 0, 0, 0, 0, ()), 3, ())) (
    cond (ilt (v15.1.length : Int) 32) (
    some ((0, ByteArray.empty, 0, 0, 0, 0, ()), 3, ())) (
    chk (leB 0 0 && (leB 0 (isub .i64 (v15.1.length : Int) 32) && leB (isub .i64 (v15.1.length : Int) 32) v15.1.length)) <|
    (f28 (((v15.1.drop 0).take ((((isub .i64 (v15.1.length : Int) 32) : Int) - 0).toNat)), ())).bind fun v33 =>
    cond (ine v33.2.1 0) (
    some ((0, ByteArray.empty, 0, 0, 0, 0, ()), v33.2.1, ())) (
    chk (leB 0 0 && (leB 0 (isub .i64 (v15.1.length : Int) 32) && leB (isub .i64 (v15.1.length : Int) 32) v15.1.length)) <|
    (f53 (x0, ((v15.1.drop 0).take ((((isub .i64 (v15.1.length : Int) 32) : Int) - 0).toNat)), ())).bind fun v44 =>
    chk (leB 0 (isub .i64 (v15.1.length : Int) 32) && (leB (isub .i64 (v15.1.length : Int) 32) v15.1.length && leB v15.1.length v15.1.length)) <|
    (f40 (v44, ((v15.1.drop (isub .i64 (v15.1.length : Int) 32).toNat).take (((v15.1.length : Int) - (isub .i64 (v15.1.length : Int) 32)).toNat)), ())).bind fun v49 =>
    cond (!v49) (
    some ((0, ByteArray.empty, 0, 0, 0, 0, ()), 15, ())) (
    cond (ilt x2 v33.1.2.2.2.2.1) (
    some ((0, ByteArray.empty, 0, 0, 0, 0, ()), 14, ())) (
    cond (ige x2 v33.1.2.2.2.2.2.1) (
    some ((0, ByteArray.empty, 0, 0, 0, 0, ()), 14, ())) (
    some ((v33.1.1, v33.1.2.1, v33.1.2.2.1, v33.1.2.2.2.1, v33.1.2.2.2.2.1, v33.1.2.2.2.2.2.1, ()), 0, ())))))))
def token_Verify (x : (List Int × ByteArray × Int × Unit)) : Option ((Int × ByteArray × Int × Int × Int × Int × Unit) × Int × Unit) := token_Verify.b token_Decode digest_Equal codec_ReadBase digest_Tag x
/-- muniment/munimentlaw19.awake -/
def w19_awake.b (f31 : (List Int × (Int × ByteArray × Int × Int × Int × Int × Unit) × Unit) → Option (ByteArray × Int × Unit)) (f32 : (List Int × ByteArray × Int × Unit) → Option ((Int × ByteArray × Int × Int × Int × Int × Unit) × Int × Unit)) : Unit → Option Bool
  | (_) =>
    (f31 ([107, 101, 121], (1, (⟨#[97]⟩ : ByteArray), 1, 0, 5, 9, ()), ())).bind fun v15 =>
    (f32 ([107, 101, 121], v15.1, 5, ())).bind fun v22 =>
    (f32 ([107, 101, 121], v15.1, 9, ())).bind fun v29 =>
    (f32 ([111, 116, 104, 101, 114], v15.1, 5, ())).bind fun v36 =>
    cond (ieq v15.2.1 0) (
    cond (ieq v22.2.1 0) (
    cond ((ieq v22.1.1 1) && ((seq v22.1.2.1 (⟨#[97]⟩ : ByteArray)) && ((ieq v22.1.2.2.1 1) && ((ieq v22.1.2.2.2.1 0) && ((ieq v22.1.2.2.2.2.1 5) && ((ieq v22.1.2.2.2.2.2.1 9) && true)))))) (
    cond (ieq v29.2.1 14) (
    some (ieq v36.2.1 15)) (
    some false)) (
    some false)) (
    some false)) (
    some false)
def w19_awake (x : Unit) : Option Bool := w19_awake.b token_Sign token_Verify x
/-- unicode/utf8.DecodeRuneInString -/
def unicode_utf8_DecodeRuneInString (x : (ByteArray × Unit)) : Option (Int × Int × Unit) := some ((((if x.1.size = 0 then ((65533, 0) : Nat × Nat) else Utf8.decode x.1 0).1 : Nat) : Int), (((if x.1.size = 0 then ((65533, 0) : Nat × Nat) else Utf8.decode x.1 0).2 : Nat) : Int), ())
/-- muniment/munimentref03.Chars -/
def r03_Chars.s0b (f64 : (ByteArray × Unit) → Option (Int × Int × Unit)) (kx : (List (Int × Int × Bool × Unit) × Unit) → Option (List (Int × Int × Bool × Unit))) : (ByteArray × List (Int × Int × Bool × Unit) × Int × Unit) → ((ByteArray × List (Int × Int × Bool × Unit) × Int × Unit) → Option (List (Int × Int × Bool × Unit))) → Option (List (Int × Int × Bool × Unit))
  | (t0, t3, t4, _), κ =>
    cond (ilt t4 (t0.size : Int)) (
    chk (leB 0 t4 && (leB t4 t0.size && leB t0.size t0.size)) <|
    (f64 ((subStr t0 t4 t0.size), ())).bind fun v15 =>
    cond (ine v15.1 65533) (
    chk (fits 24 (t3.length + 1)) <|
    κ (t0, (t3 ++ [(v15.1, t4, true, ())]), (iadd .i64 t4 v15.2.1), ())) (
    chk (fits 24 (t3.length + 1)) <|
    κ (t0, (t3 ++ [(v15.1, t4, (ieq v15.2.1 3), ())]), (iadd .i64 t4 v15.2.1), ()))) (
    kx (t3, ()))
def r03_Chars.s0 (kx : (List (Int × Int × Bool × Unit) × Unit) → Option (List (Int × Int × Bool × Unit))) : (ByteArray × List (Int × Int × Bool × Unit) × Int × Unit) → ((ByteArray × List (Int × Int × Bool × Unit) × Int × Unit) → Option (List (Int × Int × Bool × Unit))) → Option (List (Int × Int × Bool × Unit)) := r03_Chars.s0b unicode_utf8_DecodeRuneInString kx
def r03_Chars.n0 : (ByteArray × List (Int × Int × Bool × Unit) × Int × Unit) → Nat
  | (t0, t3, t4, _) => t0.size + t3.length + t4.toNat + 1048576
def r03_Chars.l0 (x : ByteArray × List (Int × Int × Bool × Unit) × Int × Unit) (kx : (List (Int × Int × Bool × Unit) × Unit) → Option (List (Int × Int × Bool × Unit))) : Option (List (Int × Int × Bool × Unit)) := loopN (r03_Chars.n0 x) (r03_Chars.s0 kx) x
def r03_Chars.b (l0 : (ByteArray × List (Int × Int × Bool × Unit) × Int × Unit) → ((List (Int × Int × Bool × Unit) × Unit) → Option (List (Int × Int × Bool × Unit))) → Option (List (Int × Int × Bool × Unit))) : (ByteArray × Unit) → Option (List (Int × Int × Bool × Unit))
  | (x0, _) =>
    l0 (x0, [], 0, ()) fun (t3, _) =>
    some t3
def r03_Chars (x : (ByteArray × Unit)) : Option (List (Int × Int × Bool × Unit)) := r03_Chars.b r03_Chars.l0 x
/-- muniment/munimentref03.small -/
def r03_small.b : (Int × Unit) → Option Int
  | (x0, _) =>
    cond (ige x0 65) (
    cond (ile x0 90) (
    some (iadd .i32 x0 32)) (
    some x0)) (
    some x0)
def r03_small (x : (Int × Unit)) : Option Int := r03_small.b x
/-- muniment/munimentref03.named -/
def r03_named.b (f61 : (Int × Unit) → Option Int) : ((Int × Int × Bool × Unit) × Unit) → Option Bool
  | (x0, _) =>
    (f61 (x0.1, ())).bind fun v6 =>
    cond (ige v6 128) (
    some (ine v6 65533)) (
    cond (ige v6 97) (
    cond (ile v6 122) (
    some true) (
    cond (ige v6 48) (
    cond (ile v6 57) (
    some true) (
    cond (ieq v6 46) (
    some true) (
    cond (ieq v6 45) (
    some true) (
    some (ieq v6 95))))) (
    cond (ieq v6 46) (
    some true) (
    cond (ieq v6 45) (
    some true) (
    some (ieq v6 95)))))) (
    cond (ige v6 48) (
    cond (ile v6 57) (
    some true) (
    cond (ieq v6 46) (
    some true) (
    cond (ieq v6 45) (
    some true) (
    some (ieq v6 95))))) (
    cond (ieq v6 46) (
    some true) (
    cond (ieq v6 45) (
    some true) (
    some (ieq v6 95))))))
def r03_named (x : ((Int × Int × Bool × Unit) × Unit)) : Option Bool := r03_named.b r03_small x
/-- unicode/utf8.appendRuneNonASCII -/
def unicode_utf8_appendRuneNonASCII.b : (List Int × Int × Unit) → Option (List Int)
  | (x0, x1, _) =>
    cond (ile (IntKind.wrap .u32 x1) 2047) (
    chk (fits 1 (x0.length + 2)) <|
    some (x0 ++ [(ior .u8 192 (IntKind.wrap .u8 (ishr .i32 x1 6))), (ior .u8 128 (iand .u8 (IntKind.wrap .u8 x1) 63))])) (
    cond (ilt (IntKind.wrap .u32 x1) 55296) (
    cond (ilt (IntKind.wrap .u32 x1) 55296) (
    chk (fits 1 (x0.length + 3)) <|
    some (x0 ++ [(ior .u8 224 (IntKind.wrap .u8 (ishr .i32 x1 12))), (ior .u8 128 (iand .u8 (IntKind.wrap .u8 (ishr .i32 x1 6)) 63)), (ior .u8 128 (iand .u8 (IntKind.wrap .u8 x1) 63))])) (
    cond (igt (IntKind.wrap .u32 x1) 65535) (
    cond (ile (IntKind.wrap .u32 x1) 1114111) (
    chk (fits 1 (x0.length + 4)) <|
    some (x0 ++ [(ior .u8 240 (IntKind.wrap .u8 (ishr .i32 x1 18))), (ior .u8 128 (iand .u8 (IntKind.wrap .u8 (ishr .i32 x1 12)) 63)), (ior .u8 128 (iand .u8 (IntKind.wrap .u8 (ishr .i32 x1 6)) 63)), (ior .u8 128 (iand .u8 (IntKind.wrap .u8 x1) 63))])) (
    chk (fits 1 (x0.length + 3)) <|
    some (x0 ++ [239, 191, 189]))) (
    chk (fits 1 (x0.length + 3)) <|
    some (x0 ++ [239, 191, 189])))) (
    cond (ilt 57343 (IntKind.wrap .u32 x1)) (
    cond (ile (IntKind.wrap .u32 x1) 65535) (
    chk (fits 1 (x0.length + 3)) <|
    some (x0 ++ [(ior .u8 224 (IntKind.wrap .u8 (ishr .i32 x1 12))), (ior .u8 128 (iand .u8 (IntKind.wrap .u8 (ishr .i32 x1 6)) 63)), (ior .u8 128 (iand .u8 (IntKind.wrap .u8 x1) 63))])) (
    cond (igt (IntKind.wrap .u32 x1) 65535) (
    cond (ile (IntKind.wrap .u32 x1) 1114111) (
    chk (fits 1 (x0.length + 4)) <|
    some (x0 ++ [(ior .u8 240 (IntKind.wrap .u8 (ishr .i32 x1 18))), (ior .u8 128 (iand .u8 (IntKind.wrap .u8 (ishr .i32 x1 12)) 63)), (ior .u8 128 (iand .u8 (IntKind.wrap .u8 (ishr .i32 x1 6)) 63)), (ior .u8 128 (iand .u8 (IntKind.wrap .u8 x1) 63))])) (
    chk (fits 1 (x0.length + 3)) <|
    some (x0 ++ [239, 191, 189]))) (
    chk (fits 1 (x0.length + 3)) <|
    some (x0 ++ [239, 191, 189])))) (
    cond (igt (IntKind.wrap .u32 x1) 65535) (
    cond (ile (IntKind.wrap .u32 x1) 1114111) (
    chk (fits 1 (x0.length + 4)) <|
    some (x0 ++ [(ior .u8 240 (IntKind.wrap .u8 (ishr .i32 x1 18))), (ior .u8 128 (iand .u8 (IntKind.wrap .u8 (ishr .i32 x1 12)) 63)), (ior .u8 128 (iand .u8 (IntKind.wrap .u8 (ishr .i32 x1 6)) 63)), (ior .u8 128 (iand .u8 (IntKind.wrap .u8 x1) 63))])) (
    chk (fits 1 (x0.length + 3)) <|
    some (x0 ++ [239, 191, 189]))) (
    chk (fits 1 (x0.length + 3)) <|
    some (x0 ++ [239, 191, 189])))))
def unicode_utf8_appendRuneNonASCII (x : (List Int × Int × Unit)) : Option (List Int) := unicode_utf8_appendRuneNonASCII.b x
/-- unicode/utf8.AppendRune -/
def unicode_utf8_AppendRune.b (f65 : (List Int × Int × Unit) → Option (List Int)) : (List Int × Int × Unit) → Option (List Int)
  | (x0, x1, _) =>
    cond (ile (IntKind.wrap .u32 x1) 127) (
    chk (fits 1 (x0.length + 1)) <|
    some (x0 ++ [(IntKind.wrap .u8 x1)])) (
    (f65 (x0, x1, ())).bind fun v15 =>
    some v15)
def unicode_utf8_AppendRune (x : (List Int × Int × Unit)) : Option (List Int) := unicode_utf8_AppendRune.b unicode_utf8_appendRuneNonASCII x
/-- muniment/munimentref03.Fold -/
def r03_Fold.s0b (f59 : ((Int × Int × Bool × Unit) × Unit) → Option Bool) (f60 : (List Int × Int × Unit) → Option (List Int)) (f61 : (Int × Unit) → Option Int) (kx : (List (Int × Int × Bool × Unit) × List Int × Unit) → Option (ByteArray × Int × Int × Unit)) : (List (Int × Int × Bool × Unit) × List Int × Int × Unit) → ((List (Int × Int × Bool × Unit) × List Int × Int × Unit) → Option (ByteArray × Int × Int × Unit)) → Option (ByteArray × Int × Int × Unit)
  | (t5, t6, t7, _), κ =>
    cond (ilt t7 (t5.length : Int)) (
    chk (inB t7 t5.length) <|
    (f59 (((t5.getD t7.toNat ((0 : Int), (0 : Int), false, ())).1, (t5.getD t7.toNat ((0 : Int), (0 : Int), false, ())).2.1, (t5.getD t7.toNat ((0 : Int), (0 : Int), false, ())).2.2.1, ()), ())).bind fun v20 =>
    cond (!v20) (
    chk (inB t7 t5.length) <|
    some ((⟨#[]⟩ : ByteArray), (t5.getD t7.toNat ((0 : Int), (0 : Int), false, ())).2.1, 4, ())) (
    cond (ieq t7 0) (
    chk (inB t7 t5.length) <|
    cond (ieq ((t5.getD t7.toNat ((0 : Int), (0 : Int), false, ())).1) 46) (
    chk (inB t7 t5.length) <|
    some ((⟨#[]⟩ : ByteArray), (t5.getD t7.toNat ((0 : Int), (0 : Int), false, ())).2.1, 4, ())) (
    chk (inB t7 t5.length) <|
    cond (ieq ((t5.getD t7.toNat ((0 : Int), (0 : Int), false, ())).1) 45) (
    chk (inB t7 t5.length) <|
    some ((⟨#[]⟩ : ByteArray), (t5.getD t7.toNat ((0 : Int), (0 : Int), false, ())).2.1, 4, ())) (
    cond (ieq t7 16) (
    chk (inB t7 t5.length) <|
    some ((⟨#[]⟩ : ByteArray), (t5.getD t7.toNat ((0 : Int), (0 : Int), false, ())).2.1, 2, ())) (
    chk (inB t7 t5.length) <|
    (f61 ((t5.getD t7.toNat ((0 : Int), (0 : Int), false, ())).1, ())).bind fun v60 =>
    (f60 (t6, v60, ())).bind fun v61 =>
    κ (t5, v61, (iadd .i64 t7 1), ()))))) (
    cond (ieq t7 16) (
    chk (inB t7 t5.length) <|
    some ((⟨#[]⟩ : ByteArray), (t5.getD t7.toNat ((0 : Int), (0 : Int), false, ())).2.1, 2, ())) (
    chk (inB t7 t5.length) <|
    (f61 ((t5.getD t7.toNat ((0 : Int), (0 : Int), false, ())).1, ())).bind fun v60 =>
    (f60 (t6, v60, ())).bind fun v61 =>
    κ (t5, v61, (iadd .i64 t7 1), ()))))) (
    kx (t5, t6, ()))
def r03_Fold.s0 (kx : (List (Int × Int × Bool × Unit) × List Int × Unit) → Option (ByteArray × Int × Int × Unit)) : (List (Int × Int × Bool × Unit) × List Int × Int × Unit) → ((List (Int × Int × Bool × Unit) × List Int × Int × Unit) → Option (ByteArray × Int × Int × Unit)) → Option (ByteArray × Int × Int × Unit) := r03_Fold.s0b r03_named unicode_utf8_AppendRune r03_small kx
def r03_Fold.n0 : (List (Int × Int × Bool × Unit) × List Int × Int × Unit) → Nat
  | (t5, t6, t7, _) => t5.length + t6.length + t7.toNat + 1048576
def r03_Fold.l0 (x : List (Int × Int × Bool × Unit) × List Int × Int × Unit) (kx : (List (Int × Int × Bool × Unit) × List Int × Unit) → Option (ByteArray × Int × Int × Unit)) : Option (ByteArray × Int × Int × Unit) := loopN (r03_Fold.n0 x) (r03_Fold.s0 kx) x
def r03_Fold.b (f58 : (ByteArray × Unit) → Option (List (Int × Int × Bool × Unit))) (l0 : (List (Int × Int × Bool × Unit) × List Int × Int × Unit) → ((List (Int × Int × Bool × Unit) × List Int × Unit) → Option (ByteArray × Int × Int × Unit)) → Option (ByteArray × Int × Int × Unit)) : (ByteArray × Unit) → Option (ByteArray × Int × Int × Unit)
  | (x0, _) =>
    (f58 (x0, ())).bind fun v9 =>
    l0 (v9, [], 0, ()) fun (t5, t6, _) =>
    cond (ieq (t5.length : Int) 0) (
    some ((⟨#[]⟩ : ByteArray), 0, 4, ())) (
    cond (igt (t6.length : Int) 32) (
    some ((⟨#[]⟩ : ByteArray), 0, 2, ())) (
    some ((strOf t6), 0, 0, ())))
def r03_Fold (x : (ByteArray × Unit)) : Option (ByteArray × Int × Int × Unit) := r03_Fold.b r03_Chars r03_Fold.l0 x
/-- muniment/munimentref19.Form -/
def r19_Form.b (f47 : (ByteArray × Unit) → Option (ByteArray × Int × Int × Unit)) : ((Int × ByteArray × Int × Int × Int × Int × Unit) × Unit) → Option Bool
  | (x0, _) =>
    (f47 (x0.2.1, ())).bind fun v9 =>
    cond (igt x0.1 0) (
    cond (ieq v9.2.2.1 0) (
    cond (seq v9.1 x0.2.1) (
    cond (ige x0.2.2.1 1) (
    cond (ile x0.2.2.1 3) (
    cond (ige x0.2.2.2.2.1 0) (
    cond (ilt x0.2.2.2.2.1 x0.2.2.2.2.2.1) (
    some (ile x0.2.2.2.2.2.1 1099511627776)) (
    some false)) (
    some false)) (
    some false)) (
    some false)) (
    some false)) (
    some false)) (
    some false)
def r19_Form (x : ((Int × ByteArray × Int × Int × Int × Int × Unit) × Unit)) : Option Bool := r19_Form.b r03_Fold x
/-- muniment/munimentref02.Uint -/
def r02_Uint.s0b (kx : (List Int × Unit) → Option (List Int)) : (Int × List Int × Int × Unit) → ((Int × List Int × Int × Unit) → Option (List Int)) → Option (List Int)
  | (t0, t3, t4, _), κ =>
    cond (ige t4 0) (
    chk (ile 0 (imul .i64 8 t4)) <|
    chk (fits 1 (t3.length + 1)) <|
    κ (t0, (t3 ++ [(IntKind.wrap .u8 (ishr .u64 t0 (imul .i64 8 t4)))]), (isub .i64 t4 1), ())) (
    kx (t3, ()))
def r02_Uint.s0 (kx : (List Int × Unit) → Option (List Int)) : (Int × List Int × Int × Unit) → ((Int × List Int × Int × Unit) → Option (List Int)) → Option (List Int) := r02_Uint.s0b kx
def r02_Uint.n0 : (Int × List Int × Int × Unit) → Nat
  | (t0, t3, t4, _) => t0.toNat + t3.length + t4.toNat + 1048576
def r02_Uint.l0 (x : Int × List Int × Int × Unit) (kx : (List Int × Unit) → Option (List Int)) : Option (List Int) := loopN (r02_Uint.n0 x) (r02_Uint.s0 kx) x
def r02_Uint.b (l0 : (Int × List Int × Int × Unit) → ((List Int × Unit) → Option (List Int)) → Option (List Int)) : (Int × Unit) → Option (List Int)
  | (x0, _) =>
    l0 (x0, [], 7, ()) fun (t3, _) =>
    some t3
def r02_Uint (x : (Int × Unit)) : Option (List Int) := r02_Uint.b r02_Uint.l0 x
/-- muniment/munimentref02.Int -/
def r02_Int.b (f18 : (Int × Unit) → Option (List Int)) : (Int × Unit) → Option (List Int)
  | (x0, _) =>
    (f18 ((iadd .u64 (IntKind.wrap .u64 x0) 9223372036854775808), ())).bind fun v6 =>
    some v6
def r02_Int (x : (Int × Unit)) : Option (List Int) := r02_Int.b r02_Uint x
/-- muniment/munimentref19.Encode -/
def r19_Encode.b (f18 : (Int × Unit) → Option (List Int)) (f50 : (Int × Unit) → Option (List Int)) : ((Int × ByteArray × Int × Int × Int × Int × Unit) × Unit) → Option (List Int)
  | (x0, _) =>
    (f18 (x0.1, ())).bind fun v8 =>
    chk (fits 1 (1 + v8.length)) <|
    chk (fits 1 (([84] ++ v8).length + 1)) <|
    (f18 (x0.2.2.2.1, ())).bind fun v18 =>
    chk (fits 1 ((([84] ++ v8) ++ [x0.2.2.1]).length + v18.length)) <|
    (f50 (x0.2.2.2.2.1, ())).bind fun v23 =>
    chk (fits 1 (((([84] ++ v8) ++ [x0.2.2.1]) ++ v18).length + v23.length)) <|
    (f50 (x0.2.2.2.2.2.1, ())).bind fun v28 =>
    chk (fits 1 ((((([84] ++ v8) ++ [x0.2.2.1]) ++ v18) ++ v23).length + v28.length)) <|
    chk (fits 1 (((((([84] ++ v8) ++ [x0.2.2.1]) ++ v18) ++ v23) ++ v28).length + (bytesOf x0.2.1).length)) <|
    some (((((([84] ++ v8) ++ [x0.2.2.1]) ++ v18) ++ v23) ++ v28) ++ (bytesOf x0.2.1))
def r19_Encode (x : ((Int × ByteArray × Int × Int × Int × Int × Unit) × Unit)) : Option (List Int) := r19_Encode.b r02_Uint r02_Int x
/-- muniment/munimentref02.ReadUint -/
def r02_ReadUint.s0b (kx : (Int × Int × Unit) → Option (Int × Int × Int × Unit)) : (List Int × Int × Int × Int × Unit) → ((List Int × Int × Int × Int × Unit) → Option (Int × Int × Int × Unit)) → Option (Int × Int × Int × Unit)
  | (t0, t1, t7, t8, _), κ =>
    cond (ilt t8 8) (
    chk (inB (iadd .i64 t1 t8) t0.length) <|
    κ (t0, t1, (iadd .u64 (imul .u64 t7 256) (IntKind.wrap .u64 (t0.getD (iadd .i64 t1 t8).toNat (0 : Int)))), (iadd .i64 t8 1), ())) (
    kx (t1, t7, ()))
def r02_ReadUint.s0 (kx : (Int × Int × Unit) → Option (Int × Int × Int × Unit)) : (List Int × Int × Int × Int × Unit) → ((List Int × Int × Int × Int × Unit) → Option (Int × Int × Int × Unit)) → Option (Int × Int × Int × Unit) := r02_ReadUint.s0b kx
def r02_ReadUint.n0 : (List Int × Int × Int × Int × Unit) → Nat
  | (t0, t1, t7, t8, _) => t0.length + t1.toNat + t7.toNat + t8.toNat + 1048576
def r02_ReadUint.l0 (x : List Int × Int × Int × Int × Unit) (kx : (Int × Int × Unit) → Option (Int × Int × Int × Unit)) : Option (Int × Int × Int × Unit) := loopN (r02_ReadUint.n0 x) (r02_ReadUint.s0 kx) x
def r02_ReadUint.b (l0 : (List Int × Int × Int × Int × Unit) → ((Int × Int × Unit) → Option (Int × Int × Int × Unit)) → Option (Int × Int × Int × Unit)) : (List Int × Int × Unit) → Option (Int × Int × Int × Unit)
  | (x0, x1, _) =>
    cond (ilt x1 0) (
    some (0, 0, 1, ())) (
    cond (igt x1 (x0.length : Int)) (
    some (0, 0, 1, ())) (
    cond (ilt (isub .i64 (x0.length : Int) x1) 8) (
    some (0, 0, 3, ())) (
    l0 (x0, x1, 0, 0, ()) fun (t1, t7, _) =>
    some (t7, (iadd .i64 t1 8), 0, ()))))
def r02_ReadUint (x : (List Int × Int × Unit)) : Option (Int × Int × Int × Unit) := r02_ReadUint.b r02_ReadUint.l0 x
/-- muniment/munimentref02.ReadInt -/
def r02_ReadInt.b (f51 : (List Int × Int × Unit) → Option (Int × Int × Int × Unit)) : (List Int × Int × Unit) → Option (Int × Int × Int × Unit)
  | (x0, x1, _) =>
    (f51 (x0, x1, ())).bind fun v13 =>
    cond (ine v13.2.2.1 0) (
    some (0, 0, v13.2.2.1, ())) (
    some ((IntKind.wrap .i64 (isub .u64 v13.1 9223372036854775808)), v13.2.1, 0, ()))
def r02_ReadInt (x : (List Int × Int × Unit)) : Option (Int × Int × Int × Unit) := r02_ReadInt.b r02_ReadUint x
/-- muniment/munimentref19.Decode -/
def r19_Decode.b (f26 : ((Int × ByteArray × Int × Int × Int × Int × Unit) × Unit) → Option Bool) (f29 : ((Int × ByteArray × Int × Int × Int × Int × Unit) × Unit) → Option (List Int)) (f51 : (List Int × Int × Unit) → Option (Int × Int × Int × Unit)) (f52 : (List Int × Int × Unit) → Option (Int × Int × Int × Unit)) : (List Int × Unit) → Option ((Int × ByteArray × Int × Int × Int × Int × Unit) × Bool × Unit)
  | (x0, _) =>
    cond (ilt (x0.length : Int) 34) (
    some ((0, ByteArray.empty, 0, 0, 0, 0, ()), false, ())) (
    chk (inB 9 x0.length) <|
    chk (leB 0 34 && (leB 34 x0.length && leB x0.length x0.length)) <|
    (f51 (x0, 1, ())).bind fun v18 =>
    (f51 (x0, 10, ())).bind fun v25 =>
    (f52 (x0, 18, ())).bind fun v32 =>
    (f52 (x0, 26, ())).bind fun v39 =>
    (f26 ((v18.1, (strOf ((x0.drop 34).take ((x0.length : Int) - 34).toNat)), (x0.getD 9 (0 : Int)), v25.1, v32.1, v39.1, ()), ())).bind fun v45 =>
    cond (!v45) (
    some ((0, ByteArray.empty, 0, 0, 0, 0, ()), false, ())) (
    (f29 ((v18.1, (strOf ((x0.drop 34).take ((x0.length : Int) - 34).toNat)), (x0.getD 9 (0 : Int)), v25.1, v32.1, v39.1, ()), ())).bind fun v49 =>
    cond (sne (strOf v49) (strOf x0)) (
    some ((0, ByteArray.empty, 0, 0, 0, 0, ()), false, ())) (
    some ((v18.1, (strOf ((x0.drop 34).take ((x0.length : Int) - 34).toNat)), (x0.getD 9 (0 : Int)), v25.1, v32.1, v39.1, ()), true, ()))))
def r19_Decode (x : (List Int × Unit)) : Option ((Int × ByteArray × Int × Int × Int × Int × Unit) × Bool × Unit) := r19_Decode.b r19_Form r19_Encode r02_ReadUint r02_ReadInt x
/-- muniment/munimentlaw19.TokenCodes -/
def w19_TokenCodes.b (f24 : Unit → Option Bool) (f25 : ((Int × ByteArray × Int × Int × Int × Int × Unit) × Unit) → Option Bool) (f26 : ((Int × ByteArray × Int × Int × Int × Int × Unit) × Unit) → Option Bool) (f27 : ((Int × ByteArray × Int × Int × Int × Int × Unit) × Unit) → Option (List Int × Int × Unit)) (f28 : (List Int × Unit) → Option ((Int × ByteArray × Int × Int × Int × Int × Unit) × Int × Unit)) (f29 : ((Int × ByteArray × Int × Int × Int × Int × Unit) × Unit) → Option (List Int)) (f30 : (List Int × Unit) → Option ((Int × ByteArray × Int × Int × Int × Int × Unit) × Bool × Unit)) : ((Int × ByteArray × Int × Int × Int × Int × Unit) × List Int × Unit) → Option Bool
  | (x0, x1, _) =>
    (f24 (())).bind fun v13 =>
    cond (!v13) (
    (f24 (())).bind fun v27 =>
    cond v27 (
    some (igt (x1.length : Int) 2000)) (
    some false)) (
    cond (igt (x1.length : Int) 2000) (
    (f24 (())).bind fun v27 =>
    cond v27 (
    some (igt (x1.length : Int) 2000)) (
    some false)) (
    (f25 ((x0.1, x0.2.1, x0.2.2.1, x0.2.2.2.1, x0.2.2.2.2.1, x0.2.2.2.2.2.1, ()), ())).bind fun v22 =>
    (f26 ((x0.1, x0.2.1, x0.2.2.1, x0.2.2.2.1, x0.2.2.2.2.1, x0.2.2.2.2.2.1, ()), ())).bind fun v24 =>
    cond (!(v22 == v24)) (
    (f24 (())).bind fun v27 =>
    cond v27 (
    some (igt (x1.length : Int) 2000)) (
    some false)) (
    (f27 ((x0.1, x0.2.1, x0.2.2.1, x0.2.2.2.1, x0.2.2.2.2.1, x0.2.2.2.2.2.1, ()), ())).bind fun v35 =>
    (f26 ((x0.1, x0.2.1, x0.2.2.1, x0.2.2.2.1, x0.2.2.2.2.1, x0.2.2.2.2.2.1, ()), ())).bind fun v39 =>
    cond v39 (
    (f28 (v35.1, ())).bind fun v42 =>
    cond (ine v35.2.1 0) (
    some false) (
    (f29 ((x0.1, x0.2.1, x0.2.2.1, x0.2.2.2.1, x0.2.2.2.2.1, x0.2.2.2.2.2.1, ()), ())).bind fun v51 =>
    cond (sne (strOf v35.1) (strOf v51)) (
    some false) (
    cond (ine v42.2.1 0) (
    some false) (
    cond (!((ieq v42.1.1 x0.1) && ((seq v42.1.2.1 x0.2.1) && ((ieq v42.1.2.2.1 x0.2.2.1) && ((ieq v42.1.2.2.2.1 x0.2.2.2.1) && ((ieq v42.1.2.2.2.2.1 x0.2.2.2.2.1) && ((ieq v42.1.2.2.2.2.2.1 x0.2.2.2.2.2.1) && true))))))) (
    some false) (
    (f28 (x1, ())).bind fun v73 =>
    (f30 (x1, ())).bind fun v78 =>
    cond ((ieq v73.1.1 v78.1.1) && ((seq v73.1.2.1 v78.1.2.1) && ((ieq v73.1.2.2.1 v78.1.2.2.1) && ((ieq v73.1.2.2.2.1 v78.1.2.2.2.1) && ((ieq v73.1.2.2.2.2.1 v78.1.2.2.2.2.1) && ((ieq v73.1.2.2.2.2.2.1 v78.1.2.2.2.2.2.1) && true)))))) (
    cond (v78.2.1 == (ieq v73.2.1 0)) (
    cond v78.2.1 (
    some true) (
    some (ieq v73.2.1 3))) (
    some false)) (
    some false)))))) (
    cond (ine v35.2.1 3) (
    some false) (
    cond (igt (v35.1.length : Int) 0) (
    some false) (
    (f28 (x1, ())).bind fun v73 =>
    (f30 (x1, ())).bind fun v78 =>
    cond ((ieq v73.1.1 v78.1.1) && ((seq v73.1.2.1 v78.1.2.1) && ((ieq v73.1.2.2.1 v78.1.2.2.1) && ((ieq v73.1.2.2.2.1 v78.1.2.2.2.1) && ((ieq v73.1.2.2.2.2.1 v78.1.2.2.2.2.1) && ((ieq v73.1.2.2.2.2.2.1 v78.1.2.2.2.2.2.1) && true)))))) (
    cond (v78.2.1 == (ieq v73.2.1 0)) (
    cond v78.2.1 (
    some true) (
    some (ieq v73.2.1 3))) (
    some false)) (
    some false)))))))
def w19_TokenCodes (x : ((Int × ByteArray × Int × Int × Int × Int × Unit) × List Int × Unit)) : Option Bool := w19_TokenCodes.b w19_awake token_Form r19_Form token_Encode token_Decode r19_Encode r19_Decode x
/-- muniment/munimentref01.prime -/
def r01_prime.s2b (kx : (Int × Bool × Unit) → Option Int) : (Int × Bool × Int × Unit) → ((Int × Bool × Int × Unit) → Option Int) → Option Int
  | (t0, t3, t4, _), κ =>
    cond (ile (imul .i64 t4 t4) t0) (
    chk (decide (t4 ≠ 0)) <|
    cond (ieq (irem .i64 t0 t4) 0) (
    κ (t0, false, (iadd .i64 t4 1), ())) (
    κ (t0, t3, (iadd .i64 t4 1), ()))) (
    kx (t0, t3, ()))
def r01_prime.s2 (kx : (Int × Bool × Unit) → Option Int) : (Int × Bool × Int × Unit) → ((Int × Bool × Int × Unit) → Option Int) → Option Int := r01_prime.s2b kx
def r01_prime.n2 : (Int × Bool × Int × Unit) → Nat
  | (t0, t3, t4, _) => t0.toNat + t4.toNat + 1048576
def r01_prime.l2 (x : Int × Bool × Int × Unit) (kx : (Int × Bool × Unit) → Option Int) : Option Int := loopN (r01_prime.n2 x) (r01_prime.s2 kx) x
def r01_prime.s0b (l2 : (Int × Bool × Int × Unit) → ((Int × Bool × Unit) → Option Int) → Option Int) (kx : Unit → Option Int) : (Int × Unit) → ((Int × Unit) → Option Int) → Option Int
  | (t0, _), κ =>
    l2 ((iadd .i64 t0 1), (igt (iadd .i64 t0 1) 1), 2, ()) fun (t0, t3, _) =>
    cond t3 (
    some t0) (
    κ (t0, ()))
def r01_prime.s0 (kx : Unit → Option Int) : (Int × Unit) → ((Int × Unit) → Option Int) → Option Int := r01_prime.s0b r01_prime.l2 kx
def r01_prime.n0 : (Int × Unit) → Nat
  | (t0, _) => t0.toNat + 1048576
def r01_prime.l0 (x : Int × Unit) (kx : Unit → Option Int) : Option Int := loopN (r01_prime.n0 x) (r01_prime.s0 kx) x
def r01_prime.b (l0 : (Int × Unit) → (Unit → Option Int) → Option Int) : (Int × Unit) → Option Int
  | (x0, _) =>
    l0 (x0, ()) fun _ =>
    none
def r01_prime (x : (Int × Unit)) : Option Int := r01_prime.b r01_prime.l0 x
/-- muniment/munimentref01.times -/
def r01_times.s2b (kx : ((List Int × Unit) × (List Int × Unit) × (List Int × Unit) × (List Int × Unit) × Int × Unit) → Option (List Int)) : ((List Int × Unit) × (List Int × Unit) × (List Int × Unit) × (List Int × Unit) × Int × Int × Int × Unit) → (((List Int × Unit) × (List Int × Unit) × (List Int × Unit) × (List Int × Unit) × Int × Int × Int × Unit) → Option (List Int)) → Option (List Int)
  | (t2, t3, t4, t5, t6, t7, t8, _), κ =>
    cond (ilt (iadd .i64 t6 t8) 8) (
    chk (inB t6 8) <|
    chk (inB t8 8) <|
    chk (inB (iadd .i64 t6 t8) 8) <|
    chk (inB (iadd .i64 t6 t8) 8) <|
    κ ((t2.1, ()), (t3.1, ()), (t4.1, ()), ((t5.1.set (iadd .i64 t6 t8).toNat (iand .u64 (iadd .u64 (iadd .u64 (imul .u64 (t2.1.getD t6.toNat (0 : Int)) (t3.1.getD t8.toNat (0 : Int))) (t5.1.getD (iadd .i64 t6 t8).toNat (0 : Int))) t7) 4294967295)), ()), t6, (ishr .u64 (iadd .u64 (iadd .u64 (imul .u64 (t2.1.getD t6.toNat (0 : Int)) (t3.1.getD t8.toNat (0 : Int))) (t5.1.getD (iadd .i64 t6 t8).toNat (0 : Int))) t7) 32), (iadd .i64 t8 1), ())) (
    kx ((t2.1, ()), (t3.1, ()), (t4.1, ()), (t5.1, ()), t6, ()))
def r01_times.s2 (kx : ((List Int × Unit) × (List Int × Unit) × (List Int × Unit) × (List Int × Unit) × Int × Unit) → Option (List Int)) : ((List Int × Unit) × (List Int × Unit) × (List Int × Unit) × (List Int × Unit) × Int × Int × Int × Unit) → (((List Int × Unit) × (List Int × Unit) × (List Int × Unit) × (List Int × Unit) × Int × Int × Int × Unit) → Option (List Int)) → Option (List Int) := r01_times.s2b kx
def r01_times.n2 : ((List Int × Unit) × (List Int × Unit) × (List Int × Unit) × (List Int × Unit) × Int × Int × Int × Unit) → Nat
  | (t2, t3, t4, t5, t6, t7, t8, _) => t6.toNat + t7.toNat + t8.toNat + 1048576
def r01_times.l2 (x : (List Int × Unit) × (List Int × Unit) × (List Int × Unit) × (List Int × Unit) × Int × Int × Int × Unit) (kx : ((List Int × Unit) × (List Int × Unit) × (List Int × Unit) × (List Int × Unit) × Int × Unit) → Option (List Int)) : Option (List Int) := loopN (r01_times.n2 x) (r01_times.s2 kx) x
def r01_times.s0b (l2 : ((List Int × Unit) × (List Int × Unit) × (List Int × Unit) × (List Int × Unit) × Int × Int × Int × Unit) → (((List Int × Unit) × (List Int × Unit) × (List Int × Unit) × (List Int × Unit) × Int × Unit) → Option (List Int)) → Option (List Int)) (kx : ((List Int × Unit) × (List Int × Unit) × Unit) → Option (List Int)) : ((List Int × Unit) × (List Int × Unit) × (List Int × Unit) × (List Int × Unit) × Int × Unit) → (((List Int × Unit) × (List Int × Unit) × (List Int × Unit) × (List Int × Unit) × Int × Unit) → Option (List Int)) → Option (List Int)
  | (t2, t3, t4, t5, t6, _), κ =>
    cond (ilt t6 8) (
    l2 ((t2.1, ()), (t3.1, ()), (t4.1, ()), (t5.1, ()), t6, 0, 0, ()) fun (t2, t3, t4, t5, t6, _) =>
    κ ((t2.1, ()), (t3.1, ()), (t4.1, ()), (t5.1, ()), (iadd .i64 t6 1), ())) (
    kx ((t4.1, ()), (t5.1, ()), ()))
def r01_times.s0 (kx : ((List Int × Unit) × (List Int × Unit) × Unit) → Option (List Int)) : ((List Int × Unit) × (List Int × Unit) × (List Int × Unit) × (List Int × Unit) × Int × Unit) → (((List Int × Unit) × (List Int × Unit) × (List Int × Unit) × (List Int × Unit) × Int × Unit) → Option (List Int)) → Option (List Int) := r01_times.s0b r01_times.l2 kx
def r01_times.n0 : ((List Int × Unit) × (List Int × Unit) × (List Int × Unit) × (List Int × Unit) × Int × Unit) → Nat
  | (t2, t3, t4, t5, t6, _) => t6.toNat + 1048576
def r01_times.l0 (x : (List Int × Unit) × (List Int × Unit) × (List Int × Unit) × (List Int × Unit) × Int × Unit) (kx : ((List Int × Unit) × (List Int × Unit) × Unit) → Option (List Int)) : Option (List Int) := loopN (r01_times.n0 x) (r01_times.s0 kx) x
def r01_times.b (l0 : ((List Int × Unit) × (List Int × Unit) × (List Int × Unit) × (List Int × Unit) × Int × Unit) → (((List Int × Unit) × (List Int × Unit) × Unit) → Option (List Int)) → Option (List Int)) : (List Int × List Int × Unit) → Option (List Int)
  | (x0, x1, _) =>
    l0 ((x0, ()), (x1, ()), ((List.replicate 8 (0 : Int)), ()), ((List.replicate 8 (0 : Int)), ()), 0, ()) fun (t4, t5, _) =>
    some t5.1
def r01_times (x : (List Int × List Int × Unit)) : Option (List Int) := r01_times.b r01_times.l0 x
/-- muniment/munimentref01.above -/
def r01_above.s0b (kx : Unit → Option Bool) : ((List Int × Unit) × (List Int × Unit) × Int × Unit) → (((List Int × Unit) × (List Int × Unit) × Int × Unit) → Option Bool) → Option Bool
  | (t2, t3, t5, _), κ =>
    cond (ige t5 0) (
    chk (inB t5 8) <|
    chk (inB t5 8) <|
    cond (ine (t2.1.getD t5.toNat (0 : Int)) (t3.1.getD t5.toNat (0 : Int))) (
    chk (inB t5 8) <|
    chk (inB t5 8) <|
    some (igt (t2.1.getD t5.toNat (0 : Int)) (t3.1.getD t5.toNat (0 : Int)))) (
    κ ((t2.1, ()), (t3.1, ()), (isub .i64 t5 1), ()))) (
    kx (()))
def r01_above.s0 (kx : Unit → Option Bool) : ((List Int × Unit) × (List Int × Unit) × Int × Unit) → (((List Int × Unit) × (List Int × Unit) × Int × Unit) → Option Bool) → Option Bool := r01_above.s0b kx
def r01_above.n0 : ((List Int × Unit) × (List Int × Unit) × Int × Unit) → Nat
  | (t2, t3, t5, _) => t5.toNat + 1048576
def r01_above.l0 (x : (List Int × Unit) × (List Int × Unit) × Int × Unit) (kx : Unit → Option Bool) : Option Bool := loopN (r01_above.n0 x) (r01_above.s0 kx) x
def r01_above.b (l0 : ((List Int × Unit) × (List Int × Unit) × Int × Unit) → (Unit → Option Bool) → Option Bool) : (List Int × List Int × Unit) → Option Bool
  | (x0, x1, _) =>
    l0 ((x0, ()), (x1, ()), 7, ()) fun (_) =>
    some false
def r01_above (x : (List Int × List Int × Unit)) : Option Bool := r01_above.b r01_above.l0 x
/-- muniment/munimentref01.root -/
def r01_root.s2b (f55 : (List Int × List Int × Unit) → Option (List Int)) (kx : (Int × Int × Int × Int × Int × (List Int × Unit) × Unit) → Option Int) : (Int × Int × Int × Int × Int × (List Int × Unit) × (List Int × Unit) × Int × Unit) → ((Int × Int × Int × Int × Int × (List Int × Unit) × (List Int × Unit) × Int × Unit) → Option Int) → Option Int
  | (t0, t1, t5, t6, t7, t8, t9, t10, _), κ =>
    cond (ilt t10 t1) (
    (f55 (t9.1, t8.1, ())).bind fun v33 =>
    κ (t0, t1, t5, t6, t7, (t8.1, ()), (v33, ()), (iadd .i64 t10 1), ())) (
    kx (t0, t1, t5, t6, t7, (t9.1, ()), ()))
def r01_root.s2 (kx : (Int × Int × Int × Int × Int × (List Int × Unit) × Unit) → Option Int) : (Int × Int × Int × Int × Int × (List Int × Unit) × (List Int × Unit) × Int × Unit) → ((Int × Int × Int × Int × Int × (List Int × Unit) × (List Int × Unit) × Int × Unit) → Option Int) → Option Int := r01_root.s2b r01_times kx
def r01_root.n2 : (Int × Int × Int × Int × Int × (List Int × Unit) × (List Int × Unit) × Int × Unit) → Nat
  | (t0, t1, t5, t6, t7, t8, t9, t10, _) => t0.toNat + t1.toNat + t5.toNat + t6.toNat + t7.toNat + t10.toNat + 1048576
def r01_root.l2 (x : Int × Int × Int × Int × Int × (List Int × Unit) × (List Int × Unit) × Int × Unit) (kx : (Int × Int × Int × Int × Int × (List Int × Unit) × Unit) → Option Int) : Option Int := loopN (r01_root.n2 x) (r01_root.s2 kx) x
def r01_root.s0b (f56 : (List Int × List Int × Unit) → Option Bool) (l2 : (Int × Int × Int × Int × Int × (List Int × Unit) × (List Int × Unit) × Int × Unit) → ((Int × Int × Int × Int × Int × (List Int × Unit) × Unit) → Option Int) → Option Int) (kx : (Int × Unit) → Option Int) : (Int × Int × Int × Int × Unit) → ((Int × Int × Int × Int × Unit) → Option Int) → Option Int
  | (t0, t1, t5, t6, _), κ =>
    cond (igt (isub .u64 t6 t5) 1) (
    l2 (t0, t1, t5, t6, (iquo .u64 (iadd .u64 t5 t6) 2), ((((List.replicate 8 (0 : Int)).set 0 (iand .u64 (iquo .u64 (iadd .u64 t5 t6) 2) 4294967295)).set 1 (ishr .u64 (iquo .u64 (iadd .u64 t5 t6) 2) 32)), ()), ((((List.replicate 8 (0 : Int)).set 0 (iand .u64 (iquo .u64 (iadd .u64 t5 t6) 2) 4294967295)).set 1 (ishr .u64 (iquo .u64 (iadd .u64 t5 t6) 2) 32)), ()), 1, ()) fun (t0, t1, t5, t6, t7, t9, _) =>
    chk (inB t1 8) <|
    (f56 (t9.1, ((List.replicate 8 (0 : Int)).set t1.toNat (IntKind.wrap .u64 t0)), ())).bind fun v40 =>
    cond v40 (
    κ (t0, t1, t5, t7, ())) (
    κ (t0, t1, t7, t6, ()))) (
    kx (t5, ()))
def r01_root.s0 (kx : (Int × Unit) → Option Int) : (Int × Int × Int × Int × Unit) → ((Int × Int × Int × Int × Unit) → Option Int) → Option Int := r01_root.s0b r01_above r01_root.l2 kx
def r01_root.n0 : (Int × Int × Int × Int × Unit) → Nat
  | (t0, t1, t5, t6, _) => t0.toNat + t1.toNat + t5.toNat + t6.toNat + 1048576
def r01_root.l0 (x : Int × Int × Int × Int × Unit) (kx : (Int × Unit) → Option Int) : Option Int := loopN (r01_root.n0 x) (r01_root.s0 kx) x
def r01_root.b (l0 : (Int × Int × Int × Int × Unit) → ((Int × Unit) → Option Int) → Option Int) : (Int × Int × Unit) → Option Int
  | (x0, x1, _) =>
    l0 (x0, x1, 0, 274877906944, ()) fun (t5, _) =>
    some (IntKind.wrap .u32 t5)
def r01_root (x : (Int × Int × Unit)) : Option Int := r01_root.b r01_root.l0 x
/-- muniment/munimentref01.Make -/
def r01_Make.s0b (f38 : (Int × Unit) → Option Int) (f39 : (Int × Int × Unit) → Option Int) (kx : ((List Int × List Int × Unit) × (List Int × List Int × Unit) × Unit) → Option (List Int × List Int × Unit)) : ((List Int × List Int × Unit) × (List Int × List Int × Unit) × Int × Int × Unit) → (((List Int × List Int × Unit) × (List Int × List Int × Unit) × Int × Int × Unit) → Option (List Int × List Int × Unit)) → Option (List Int × List Int × Unit)
  | (t0, t1, t2, t3, _), κ =>
    cond (ilt t3 64) (
    (f38 (t2, ())).bind fun v9 =>
    cond (ilt t3 8) (
    (f39 (v9, 2, ())).bind fun v14 =>
    chk (inB t3 8) <|
    (f39 (v9, 3, ())).bind fun v19 =>
    chk (inB t3 64) <|
    κ ((t0.1, t0.2.1, ()), ((t1.1.set t3.toNat v14), (t1.2.1.set t3.toNat v19), ()), v9, (iadd .i64 t3 1), ())) (
    (f39 (v9, 3, ())).bind fun v19 =>
    chk (inB t3 64) <|
    κ ((t0.1, t0.2.1, ()), (t1.1, (t1.2.1.set t3.toNat v19), ()), v9, (iadd .i64 t3 1), ()))) (
    kx ((t0.1, t0.2.1, ()), (t1.1, t1.2.1, ()), ()))
def r01_Make.s0 (kx : ((List Int × List Int × Unit) × (List Int × List Int × Unit) × Unit) → Option (List Int × List Int × Unit)) : ((List Int × List Int × Unit) × (List Int × List Int × Unit) × Int × Int × Unit) → (((List Int × List Int × Unit) × (List Int × List Int × Unit) × Int × Int × Unit) → Option (List Int × List Int × Unit)) → Option (List Int × List Int × Unit) := r01_Make.s0b r01_prime r01_root kx
def r01_Make.n0 : ((List Int × List Int × Unit) × (List Int × List Int × Unit) × Int × Int × Unit) → Nat
  | (t0, t1, t2, t3, _) => t2.toNat + t3.toNat + 1048576
def r01_Make.l0 (x : (List Int × List Int × Unit) × (List Int × List Int × Unit) × Int × Int × Unit) (kx : ((List Int × List Int × Unit) × (List Int × List Int × Unit) × Unit) → Option (List Int × List Int × Unit)) : Option (List Int × List Int × Unit) := loopN (r01_Make.n0 x) (r01_Make.s0 kx) x
def r01_Make.b (l0 : ((List Int × List Int × Unit) × (List Int × List Int × Unit) × Int × Int × Unit) → (((List Int × List Int × Unit) × (List Int × List Int × Unit) × Unit) → Option (List Int × List Int × Unit)) → Option (List Int × List Int × Unit)) : Unit → Option (List Int × List Int × Unit)
  | (_) =>
    l0 (((List.replicate 8 (0 : Int)), (List.replicate 64 (0 : Int)), ()), ((List.replicate 8 (0 : Int)), (List.replicate 64 (0 : Int)), ()), 1, 0, ()) fun (t0, t1, _) =>
    some (t1.1, t1.2.1, ())
def r01_Make (x : Unit) : Option (List Int × List Int × Unit) := r01_Make.b r01_Make.l0 x
/-- muniment/munimentref04.sign -/
def r04_sign.b : (Int × Unit) → Option Int
  | (x0, _) =>
    chk (inB x0 (⟨#[65, 66, 67, 68, 69, 70, 71, 72, 73, 74, 75, 76, 77, 78, 79, 80, 81, 82, 83, 84, 85, 86, 87, 88, 89, 90, 97, 98, 99, 100, 101, 102, 103, 104, 105, 106, 107, 108, 109, 110, 111, 112, 113, 114, 115, 116, 117, 118, 119, 120, 121, 122, 48, 49, 50, 51, 52, 53, 54, 55, 56, 57, 45, 95]⟩ : ByteArray).size) <|
    some (byteAt (⟨#[65, 66, 67, 68, 69, 70, 71, 72, 73, 74, 75, 76, 77, 78, 79, 80, 81, 82, 83, 84, 85, 86, 87, 88, 89, 90, 97, 98, 99, 100, 101, 102, 103, 104, 105, 106, 107, 108, 109, 110, 111, 112, 113, 114, 115, 116, 117, 118, 119, 120, 121, 122, 48, 49, 50, 51, 52, 53, 54, 55, 56, 57, 45, 95]⟩ : ByteArray) x0.toNat)
def r04_sign (x : (Int × Unit)) : Option Int := r04_sign.b x
/-- muniment/munimentref04.Base -/
def r04_Base.s2b (kx : (List Int × List Int × Int × Int × Unit) → Option ByteArray) : (List Int × List Int × Int × Int × Int × Unit) → ((List Int × List Int × Int × Int × Int × Unit) → Option ByteArray) → Option ByteArray
  | (t0, t3, t4, t5, t6, _), κ =>
    cond (ilt t6 (iadd .i64 (imul .i64 t4 6) 6)) (
    cond (ilt t6 (imul .i64 (t0.length : Int) 8)) (
    chk (inB (iquo .i64 t6 8) t0.length) <|
    chk (ile 0 (isub .i64 7 (irem .i64 t6 8))) <|
    κ (t0, t3, t4, (iadd .i64 (imul .i64 t5 2) (iand .i64 (IntKind.wrap .i64 (ishr .u8 (t0.getD (iquo .i64 t6 8).toNat (0 : Int)) (isub .i64 7 (irem .i64 t6 8)))) 1)), (iadd .i64 t6 1), ())) (
    κ (t0, t3, t4, (imul .i64 t5 2), (iadd .i64 t6 1), ()))) (
    kx (t0, t3, t4, t5, ()))
def r04_Base.s2 (kx : (List Int × List Int × Int × Int × Unit) → Option ByteArray) : (List Int × List Int × Int × Int × Int × Unit) → ((List Int × List Int × Int × Int × Int × Unit) → Option ByteArray) → Option ByteArray := r04_Base.s2b kx
def r04_Base.n2 : (List Int × List Int × Int × Int × Int × Unit) → Nat
  | (t0, t3, t4, t5, t6, _) => t0.length + t3.length + t4.toNat + t5.toNat + t6.toNat + 1048576
def r04_Base.l2 (x : List Int × List Int × Int × Int × Int × Unit) (kx : (List Int × List Int × Int × Int × Unit) → Option ByteArray) : Option ByteArray := loopN (r04_Base.n2 x) (r04_Base.s2 kx) x
def r04_Base.s0b (f45 : (Int × Unit) → Option Int) (l2 : (List Int × List Int × Int × Int × Int × Unit) → ((List Int × List Int × Int × Int × Unit) → Option ByteArray) → Option ByteArray) (kx : (List Int × Unit) → Option ByteArray) : (List Int × List Int × Int × Unit) → ((List Int × List Int × Int × Unit) → Option ByteArray) → Option ByteArray
  | (t0, t3, t4, _), κ =>
    cond (ilt (imul .i64 t4 6) (imul .i64 (t0.length : Int) 8)) (
    l2 (t0, t3, t4, 0, (imul .i64 t4 6), ()) fun (t0, t3, t4, t5, _) =>
    (f45 (t5, ())).bind fun v46 =>
    chk (fits 1 (t3.length + 1)) <|
    κ (t0, (t3 ++ [v46]), (iadd .i64 t4 1), ())) (
    kx (t3, ()))
def r04_Base.s0 (kx : (List Int × Unit) → Option ByteArray) : (List Int × List Int × Int × Unit) → ((List Int × List Int × Int × Unit) → Option ByteArray) → Option ByteArray := r04_Base.s0b r04_sign r04_Base.l2 kx
def r04_Base.n0 : (List Int × List Int × Int × Unit) → Nat
  | (t0, t3, t4, _) => t0.length + t3.length + t4.toNat + 1048576
def r04_Base.l0 (x : List Int × List Int × Int × Unit) (kx : (List Int × Unit) → Option ByteArray) : Option ByteArray := loopN (r04_Base.n0 x) (r04_Base.s0 kx) x
def r04_Base.b (l0 : (List Int × List Int × Int × Unit) → ((List Int × Unit) → Option ByteArray) → Option ByteArray) : (List Int × Unit) → Option ByteArray
  | (x0, _) =>
    l0 (x0, [], 0, ()) fun (t3, _) =>
    some (strOf t3)
def r04_Base (x : (List Int × Unit)) : Option ByteArray := r04_Base.b r04_Base.l0 x
/-- muniment/munimentref04.ReadBase -/
def r04_ReadBase.s2b (f45 : (Int × Unit) → Option Int) (kx : (ByteArray × List Int × Int × Int × Unit) → Option (List Int × Int × Unit)) : (ByteArray × List Int × Int × Int × Int × Unit) → ((ByteArray × List Int × Int × Int × Int × Unit) → Option (List Int × Int × Unit)) → Option (List Int × Int × Unit)
  | (t0, t4, t5, t6, t7, _), κ =>
    cond (ilt t7 64) (
    (f45 (t7, ())).bind fun v24 =>
    chk (inB t5 t0.size) <|
    cond (ieq v24 (byteAt t0 t5.toNat)) (
    κ (t0, t4, t5, t7, (iadd .i64 t7 1), ())) (
    κ (t0, t4, t5, t6, (iadd .i64 t7 1), ()))) (
    kx (t0, t4, t5, t6, ()))
def r04_ReadBase.s2 (kx : (ByteArray × List Int × Int × Int × Unit) → Option (List Int × Int × Unit)) : (ByteArray × List Int × Int × Int × Int × Unit) → ((ByteArray × List Int × Int × Int × Int × Unit) → Option (List Int × Int × Unit)) → Option (List Int × Int × Unit) := r04_ReadBase.s2b r04_sign kx
def r04_ReadBase.n2 : (ByteArray × List Int × Int × Int × Int × Unit) → Nat
  | (t0, t4, t5, t6, t7, _) => t0.size + t4.length + t5.toNat + t6.toNat + t7.toNat + 1048576
def r04_ReadBase.l2 (x : ByteArray × List Int × Int × Int × Int × Unit) (kx : (ByteArray × List Int × Int × Int × Unit) → Option (List Int × Int × Unit)) : Option (List Int × Int × Unit) := loopN (r04_ReadBase.n2 x) (r04_ReadBase.s2 kx) x
def r04_ReadBase.s4b (kx : (ByteArray × List Int × Int × Unit) → Option (List Int × Int × Unit)) : (ByteArray × List Int × Int × Int × Int × Unit) → ((ByteArray × List Int × Int × Int × Int × Unit) → Option (List Int × Int × Unit)) → Option (List Int × Int × Unit)
  | (t0, t4, t5, t6, t8, _), κ =>
    cond (ige t8 0) (
    chk (ile 0 t8) <|
    chk (fits 1 (t4.length + 1)) <|
    κ (t0, (t4 ++ [(iand .u8 (IntKind.wrap .u8 (ishr .i64 t6 t8)) 1)]), t5, t6, (isub .i64 t8 1), ())) (
    kx (t0, t4, t5, ()))
def r04_ReadBase.s4 (kx : (ByteArray × List Int × Int × Unit) → Option (List Int × Int × Unit)) : (ByteArray × List Int × Int × Int × Int × Unit) → ((ByteArray × List Int × Int × Int × Int × Unit) → Option (List Int × Int × Unit)) → Option (List Int × Int × Unit) := r04_ReadBase.s4b kx
def r04_ReadBase.n4 : (ByteArray × List Int × Int × Int × Int × Unit) → Nat
  | (t0, t4, t5, t6, t8, _) => t0.size + t4.length + t5.toNat + t6.toNat + t8.toNat + 1048576
def r04_ReadBase.l4 (x : ByteArray × List Int × Int × Int × Int × Unit) (kx : (ByteArray × List Int × Int × Unit) → Option (List Int × Int × Unit)) : Option (List Int × Int × Unit) := loopN (r04_ReadBase.n4 x) (r04_ReadBase.s4 kx) x
def r04_ReadBase.s0b (l2 : (ByteArray × List Int × Int × Int × Int × Unit) → ((ByteArray × List Int × Int × Int × Unit) → Option (List Int × Int × Unit)) → Option (List Int × Int × Unit)) (l4 : (ByteArray × List Int × Int × Int × Int × Unit) → ((ByteArray × List Int × Int × Unit) → Option (List Int × Int × Unit)) → Option (List Int × Int × Unit)) (kx : (ByteArray × List Int × Unit) → Option (List Int × Int × Unit)) : (ByteArray × List Int × Int × Unit) → ((ByteArray × List Int × Int × Unit) → Option (List Int × Int × Unit)) → Option (List Int × Int × Unit)
  | (t0, t4, t5, _), κ =>
    cond (ilt t5 (t0.size : Int)) (
    l2 (t0, t4, t5, (-1), 0, ()) fun (t0, t4, t5, t6, _) =>
    cond (ilt t6 0) (
    some ([], 3, ())) (
    l4 (t0, t4, t5, t6, 5, ()) fun (t0, t4, t5, _) =>
    κ (t0, t4, (iadd .i64 t5 1), ()))) (
    kx (t0, t4, ()))
def r04_ReadBase.s0 (kx : (ByteArray × List Int × Unit) → Option (List Int × Int × Unit)) : (ByteArray × List Int × Int × Unit) → ((ByteArray × List Int × Int × Unit) → Option (List Int × Int × Unit)) → Option (List Int × Int × Unit) := r04_ReadBase.s0b r04_ReadBase.l2 r04_ReadBase.l4 kx
def r04_ReadBase.n0 : (ByteArray × List Int × Int × Unit) → Nat
  | (t0, t4, t5, _) => t0.size + t4.length + t5.toNat + 1048576
def r04_ReadBase.l0 (x : ByteArray × List Int × Int × Unit) (kx : (ByteArray × List Int × Unit) → Option (List Int × Int × Unit)) : Option (List Int × Int × Unit) := loopN (r04_ReadBase.n0 x) (r04_ReadBase.s0 kx) x
def r04_ReadBase.s8b (kx : (ByteArray × List Int × List Int × Int × Int × Unit) → Option (List Int × Int × Unit)) : (ByteArray × List Int × List Int × Int × Int × Int × Unit) → ((ByteArray × List Int × List Int × Int × Int × Int × Unit) → Option (List Int × Int × Unit)) → Option (List Int × Int × Unit)
  | (t0, t4, t9, t10, t11, t12, _), κ =>
    cond (ilt t12 8) (
    chk (inB (iadd .i64 t10 t12) t4.length) <|
    κ (t0, t4, t9, t10, (iadd .u8 (imul .u8 t11 2) (t4.getD (iadd .i64 t10 t12).toNat (0 : Int))), (iadd .i64 t12 1), ())) (
    kx (t0, t4, t9, t10, t11, ()))
def r04_ReadBase.s8 (kx : (ByteArray × List Int × List Int × Int × Int × Unit) → Option (List Int × Int × Unit)) : (ByteArray × List Int × List Int × Int × Int × Int × Unit) → ((ByteArray × List Int × List Int × Int × Int × Int × Unit) → Option (List Int × Int × Unit)) → Option (List Int × Int × Unit) := r04_ReadBase.s8b kx
def r04_ReadBase.n8 : (ByteArray × List Int × List Int × Int × Int × Int × Unit) → Nat
  | (t0, t4, t9, t10, t11, t12, _) => t0.size + t4.length + t9.length + t10.toNat + t11.toNat + t12.toNat + 1048576
def r04_ReadBase.l8 (x : ByteArray × List Int × List Int × Int × Int × Int × Unit) (kx : (ByteArray × List Int × List Int × Int × Int × Unit) → Option (List Int × Int × Unit)) : Option (List Int × Int × Unit) := loopN (r04_ReadBase.n8 x) (r04_ReadBase.s8 kx) x
def r04_ReadBase.s6b (l8 : (ByteArray × List Int × List Int × Int × Int × Int × Unit) → ((ByteArray × List Int × List Int × Int × Int × Unit) → Option (List Int × Int × Unit)) → Option (List Int × Int × Unit)) (kx : (ByteArray × List Int × Unit) → Option (List Int × Int × Unit)) : (ByteArray × List Int × List Int × Int × Unit) → ((ByteArray × List Int × List Int × Int × Unit) → Option (List Int × Int × Unit)) → Option (List Int × Int × Unit)
  | (t0, t4, t9, t10, _), κ =>
    cond (ile (iadd .i64 t10 8) (t4.length : Int)) (
    l8 (t0, t4, t9, t10, 0, 0, ()) fun (t0, t4, t9, t10, t11, _) =>
    chk (fits 1 (t9.length + 1)) <|
    κ (t0, t4, (t9 ++ [t11]), (iadd .i64 t10 8), ())) (
    kx (t0, t9, ()))
def r04_ReadBase.s6 (kx : (ByteArray × List Int × Unit) → Option (List Int × Int × Unit)) : (ByteArray × List Int × List Int × Int × Unit) → ((ByteArray × List Int × List Int × Int × Unit) → Option (List Int × Int × Unit)) → Option (List Int × Int × Unit) := r04_ReadBase.s6b r04_ReadBase.l8 kx
def r04_ReadBase.n6 : (ByteArray × List Int × List Int × Int × Unit) → Nat
  | (t0, t4, t9, t10, _) => t0.size + t4.length + t9.length + t10.toNat + 1048576
def r04_ReadBase.l6 (x : ByteArray × List Int × List Int × Int × Unit) (kx : (ByteArray × List Int × Unit) → Option (List Int × Int × Unit)) : Option (List Int × Int × Unit) := loopN (r04_ReadBase.n6 x) (r04_ReadBase.s6 kx) x
def r04_ReadBase.b (f44 : (List Int × Unit) → Option ByteArray) (l0 : (ByteArray × List Int × Int × Unit) → ((ByteArray × List Int × Unit) → Option (List Int × Int × Unit)) → Option (List Int × Int × Unit)) (l6 : (ByteArray × List Int × List Int × Int × Unit) → ((ByteArray × List Int × Unit) → Option (List Int × Int × Unit)) → Option (List Int × Int × Unit)) : (ByteArray × Unit) → Option (List Int × Int × Unit)
  | (x0, _) =>
    l0 (x0, [], 0, ()) fun (t0, t4, _) =>
    l6 (t0, t4, [], 0, ()) fun (t0, t9, _) =>
    (f44 (t9, ())).bind fun v69 =>
    cond (sne v69 t0) (
    some ([], 3, ())) (
    some (t9, 0, ()))
def r04_ReadBase (x : (ByteArray × Unit)) : Option (List Int × Int × Unit) := r04_ReadBase.b r04_Base r04_ReadBase.l0 r04_ReadBase.l6 x
/-- muniment/munimentref01.turn -/
def r01_turn.b : (Int × Int × Unit) → Option Int
  | (x0, x1, _) =>
    chk (ile 0 x1) <|
    chk (ile 0 (isub .i64 32 x1)) <|
    some (ior .u32 (ishr .u32 x0 x1) (ishl .u32 x0 (isub .i64 32 x1)))
def r01_turn (x : (Int × Int × Unit)) : Option Int := r01_turn.b x
/-- muniment/munimentref01.Sum -/
def r01_Sum.s0b (kx : (List Int × (List Int × List Int × Unit) × (List Int × Unit) × List Int × Unit) → Option (List Int)) : (List Int × (List Int × List Int × Unit) × (List Int × Unit) × List Int × Unit) → ((List Int × (List Int × List Int × Unit) × (List Int × Unit) × List Int × Unit) → Option (List Int)) → Option (List Int)
  | (t1, t2, t4, t5, _), κ =>
    cond (ine (irem .i64 (t5.length : Int) 64) 56) (
    chk (fits 1 (t5.length + 1)) <|
    κ (t1, (t2.1, t2.2.1, ()), (t4.1, ()), (t5 ++ [0]), ())) (
    kx (t1, (t2.1, t2.2.1, ()), (t4.1, ()), t5, ()))
def r01_Sum.s0 (kx : (List Int × (List Int × List Int × Unit) × (List Int × Unit) × List Int × Unit) → Option (List Int)) : (List Int × (List Int × List Int × Unit) × (List Int × Unit) × List Int × Unit) → ((List Int × (List Int × List Int × Unit) × (List Int × Unit) × List Int × Unit) → Option (List Int)) → Option (List Int) := r01_Sum.s0b kx
def r01_Sum.n0 : (List Int × (List Int × List Int × Unit) × (List Int × Unit) × List Int × Unit) → Nat
  | (t1, t2, t4, t5, _) => t1.length + t5.length + 1048576
def r01_Sum.l0 (x : List Int × (List Int × List Int × Unit) × (List Int × Unit) × List Int × Unit) (kx : (List Int × (List Int × List Int × Unit) × (List Int × Unit) × List Int × Unit) → Option (List Int)) : Option (List Int) := loopN (r01_Sum.n0 x) (r01_Sum.s0 kx) x
def r01_Sum.s2b (kx : ((List Int × List Int × Unit) × (List Int × Unit) × List Int × Unit) → Option (List Int)) : ((List Int × List Int × Unit) × (List Int × Unit) × List Int × Int × Int × Unit) → (((List Int × List Int × Unit) × (List Int × Unit) × List Int × Int × Int × Unit) → Option (List Int)) → Option (List Int)
  | (t2, t4, t5, t6, t7, _), κ =>
    cond (ige t7 0) (
    chk (ile 0 (imul .i64 8 t7)) <|
    chk (fits 1 (t5.length + 1)) <|
    κ ((t2.1, t2.2.1, ()), (t4.1, ()), (t5 ++ [(IntKind.wrap .u8 (ishr .u64 t6 (imul .i64 8 t7)))]), t6, (isub .i64 t7 1), ())) (
    kx ((t2.1, t2.2.1, ()), (t4.1, ()), t5, ()))
def r01_Sum.s2 (kx : ((List Int × List Int × Unit) × (List Int × Unit) × List Int × Unit) → Option (List Int)) : ((List Int × List Int × Unit) × (List Int × Unit) × List Int × Int × Int × Unit) → (((List Int × List Int × Unit) × (List Int × Unit) × List Int × Int × Int × Unit) → Option (List Int)) → Option (List Int) := r01_Sum.s2b kx
def r01_Sum.n2 : ((List Int × List Int × Unit) × (List Int × Unit) × List Int × Int × Int × Unit) → Nat
  | (t2, t4, t5, t6, t7, _) => t5.length + t6.toNat + t7.toNat + 1048576
def r01_Sum.l2 (x : (List Int × List Int × Unit) × (List Int × Unit) × List Int × Int × Int × Unit) (kx : ((List Int × List Int × Unit) × (List Int × Unit) × List Int × Unit) → Option (List Int)) : Option (List Int) := loopN (r01_Sum.n2 x) (r01_Sum.s2 kx) x
def r01_Sum.s8b (kx : ((List Int × List Int × Unit) × (List Int × Unit) × List Int × (List Int × Unit) × Int × List Int × Int × Unit) → Option (List Int)) : ((List Int × List Int × Unit) × (List Int × Unit) × List Int × (List Int × Unit) × Int × List Int × Int × Int × Unit) → (((List Int × List Int × Unit) × (List Int × Unit) × List Int × (List Int × Unit) × Int × List Int × Int × Int × Unit) → Option (List Int)) → Option (List Int)
  | (t2, t4, t5, t8, t9, t10, t11, t12, _), κ =>
    cond (ilt t12 4) (
    chk (inB t11 t10.length) <|
    chk (inB (iadd .i64 (iadd .i64 t9 (imul .i64 4 t11)) t12) t5.length) <|
    chk (inB t11 t10.length) <|
    κ ((t2.1, t2.2.1, ()), (t4.1, ()), t5, (t8.1, ()), t9, (t10.set t11.toNat (iadd .u32 (imul .u32 (t10.getD t11.toNat (0 : Int)) 256) (IntKind.wrap .u32 (t5.getD (iadd .i64 (iadd .i64 t9 (imul .i64 4 t11)) t12).toNat (0 : Int))))), t11, (iadd .i64 t12 1), ())) (
    kx ((t2.1, t2.2.1, ()), (t4.1, ()), t5, (t8.1, ()), t9, t10, t11, ()))
def r01_Sum.s8 (kx : ((List Int × List Int × Unit) × (List Int × Unit) × List Int × (List Int × Unit) × Int × List Int × Int × Unit) → Option (List Int)) : ((List Int × List Int × Unit) × (List Int × Unit) × List Int × (List Int × Unit) × Int × List Int × Int × Int × Unit) → (((List Int × List Int × Unit) × (List Int × Unit) × List Int × (List Int × Unit) × Int × List Int × Int × Int × Unit) → Option (List Int)) → Option (List Int) := r01_Sum.s8b kx
def r01_Sum.n8 : ((List Int × List Int × Unit) × (List Int × Unit) × List Int × (List Int × Unit) × Int × List Int × Int × Int × Unit) → Nat
  | (t2, t4, t5, t8, t9, t10, t11, t12, _) => t5.length + t9.toNat + t10.length + t11.toNat + t12.toNat + 1048576
def r01_Sum.l8 (x : (List Int × List Int × Unit) × (List Int × Unit) × List Int × (List Int × Unit) × Int × List Int × Int × Int × Unit) (kx : ((List Int × List Int × Unit) × (List Int × Unit) × List Int × (List Int × Unit) × Int × List Int × Int × Unit) → Option (List Int)) : Option (List Int) := loopN (r01_Sum.n8 x) (r01_Sum.s8 kx) x
def r01_Sum.s6b (l8 : ((List Int × List Int × Unit) × (List Int × Unit) × List Int × (List Int × Unit) × Int × List Int × Int × Int × Unit) → (((List Int × List Int × Unit) × (List Int × Unit) × List Int × (List Int × Unit) × Int × List Int × Int × Unit) → Option (List Int)) → Option (List Int)) (kx : ((List Int × List Int × Unit) × (List Int × Unit) × List Int × (List Int × Unit) × Int × List Int × Unit) → Option (List Int)) : ((List Int × List Int × Unit) × (List Int × Unit) × List Int × (List Int × Unit) × Int × List Int × Int × Unit) → (((List Int × List Int × Unit) × (List Int × Unit) × List Int × (List Int × Unit) × Int × List Int × Int × Unit) → Option (List Int)) → Option (List Int)
  | (t2, t4, t5, t8, t9, t10, t11, _), κ =>
    cond (ilt t11 16) (
    l8 ((t2.1, t2.2.1, ()), (t4.1, ()), t5, (t8.1, ()), t9, t10, t11, 0, ()) fun (t2, t4, t5, t8, t9, t10, t11, _) =>
    κ ((t2.1, t2.2.1, ()), (t4.1, ()), t5, (t8.1, ()), t9, t10, (iadd .i64 t11 1), ())) (
    kx ((t2.1, t2.2.1, ()), (t4.1, ()), t5, (t8.1, ()), t9, t10, ()))
def r01_Sum.s6 (kx : ((List Int × List Int × Unit) × (List Int × Unit) × List Int × (List Int × Unit) × Int × List Int × Unit) → Option (List Int)) : ((List Int × List Int × Unit) × (List Int × Unit) × List Int × (List Int × Unit) × Int × List Int × Int × Unit) → (((List Int × List Int × Unit) × (List Int × Unit) × List Int × (List Int × Unit) × Int × List Int × Int × Unit) → Option (List Int)) → Option (List Int) := r01_Sum.s6b r01_Sum.l8 kx
def r01_Sum.n6 : ((List Int × List Int × Unit) × (List Int × Unit) × List Int × (List Int × Unit) × Int × List Int × Int × Unit) → Nat
  | (t2, t4, t5, t8, t9, t10, t11, _) => t5.length + t9.toNat + t10.length + t11.toNat + 1048576
def r01_Sum.l6 (x : (List Int × List Int × Unit) × (List Int × Unit) × List Int × (List Int × Unit) × Int × List Int × Int × Unit) (kx : ((List Int × List Int × Unit) × (List Int × Unit) × List Int × (List Int × Unit) × Int × List Int × Unit) → Option (List Int)) : Option (List Int) := loopN (r01_Sum.n6 x) (r01_Sum.s6 kx) x
def r01_Sum.s10b (f63 : (Int × Int × Unit) → Option Int) (kx : ((List Int × List Int × Unit) × (List Int × Unit) × List Int × (List Int × Unit) × Int × List Int × Unit) → Option (List Int)) : ((List Int × List Int × Unit) × (List Int × Unit) × List Int × (List Int × Unit) × Int × List Int × Int × Unit) → (((List Int × List Int × Unit) × (List Int × Unit) × List Int × (List Int × Unit) × Int × List Int × Int × Unit) → Option (List Int)) → Option (List Int)
  | (t2, t4, t5, t8, t9, t10, t13, _), κ =>
    cond (ilt t13 64) (
    chk (inB (isub .i64 t13 15) t10.length) <|
    (f63 ((t10.getD (isub .i64 t13 15).toNat (0 : Int)), 7, ())).bind fun v103 =>
    chk (inB (isub .i64 t13 15) t10.length) <|
    (f63 ((t10.getD (isub .i64 t13 15).toNat (0 : Int)), 18, ())).bind fun v109 =>
    chk (inB (isub .i64 t13 15) t10.length) <|
    chk (inB (isub .i64 t13 2) t10.length) <|
    (f63 ((t10.getD (isub .i64 t13 2).toNat (0 : Int)), 17, ())).bind fun v123 =>
    chk (inB (isub .i64 t13 2) t10.length) <|
    (f63 ((t10.getD (isub .i64 t13 2).toNat (0 : Int)), 19, ())).bind fun v129 =>
    chk (inB (isub .i64 t13 2) t10.length) <|
    chk (inB (isub .i64 t13 16) t10.length) <|
    chk (inB (isub .i64 t13 7) t10.length) <|
    chk (inB t13 t10.length) <|
    κ ((t2.1, t2.2.1, ()), (t4.1, ()), t5, (t8.1, ()), t9, (t10.set t13.toNat (iadd .u32 (iadd .u32 (iadd .u32 (t10.getD (isub .i64 t13 16).toNat (0 : Int)) (ixor .u32 (ixor .u32 v103 v109) (ishr .u32 (t10.getD (isub .i64 t13 15).toNat (0 : Int)) 3))) (t10.getD (isub .i64 t13 7).toNat (0 : Int))) (ixor .u32 (ixor .u32 v123 v129) (ishr .u32 (t10.getD (isub .i64 t13 2).toNat (0 : Int)) 10)))), (iadd .i64 t13 1), ())) (
    kx ((t2.1, t2.2.1, ()), (t4.1, ()), t5, (t8.1, ()), t9, t10, ()))
def r01_Sum.s10 (kx : ((List Int × List Int × Unit) × (List Int × Unit) × List Int × (List Int × Unit) × Int × List Int × Unit) → Option (List Int)) : ((List Int × List Int × Unit) × (List Int × Unit) × List Int × (List Int × Unit) × Int × List Int × Int × Unit) → (((List Int × List Int × Unit) × (List Int × Unit) × List Int × (List Int × Unit) × Int × List Int × Int × Unit) → Option (List Int)) → Option (List Int) := r01_Sum.s10b r01_turn kx
def r01_Sum.n10 : ((List Int × List Int × Unit) × (List Int × Unit) × List Int × (List Int × Unit) × Int × List Int × Int × Unit) → Nat
  | (t2, t4, t5, t8, t9, t10, t13, _) => t5.length + t9.toNat + t10.length + t13.toNat + 1048576
def r01_Sum.l10 (x : (List Int × List Int × Unit) × (List Int × Unit) × List Int × (List Int × Unit) × Int × List Int × Int × Unit) (kx : ((List Int × List Int × Unit) × (List Int × Unit) × List Int × (List Int × Unit) × Int × List Int × Unit) → Option (List Int)) : Option (List Int) := loopN (r01_Sum.n10 x) (r01_Sum.s10 kx) x
def r01_Sum.s12b (f63 : (Int × Int × Unit) → Option Int) (kx : ((List Int × List Int × Unit) × (List Int × Unit) × List Int × (List Int × Unit) × Int × Int × Int × Int × Int × Int × Int × Int × Int × Unit) → Option (List Int)) : ((List Int × List Int × Unit) × (List Int × Unit) × List Int × (List Int × Unit) × Int × List Int × Int × Int × Int × Int × Int × Int × Int × Int × Int × Unit) → (((List Int × List Int × Unit) × (List Int × Unit) × List Int × (List Int × Unit) × Int × List Int × Int × Int × Int × Int × Int × Int × Int × Int × Int × Unit) → Option (List Int)) → Option (List Int)
  | (t2, t4, t5, t8, t9, t10, t16, t17, t18, t19, t20, t21, t22, t23, t24, _), κ =>
    cond (ilt t24 64) (
    (f63 (t20, 6, ())).bind fun v178 =>
    (f63 (t20, 11, ())).bind fun v180 =>
    (f63 (t20, 25, ())).bind fun v183 =>
    chk (inB t24 64) <|
    chk (inB t24 t10.length) <|
    (f63 (t16, 2, ())).bind fun v206 =>
    (f63 (t16, 13, ())).bind fun v208 =>
    (f63 (t16, 22, ())).bind fun v211 =>
    κ ((t2.1, t2.2.1, ()), (t4.1, ()), t5, (t8.1, ()), t9, t10, (iadd .u32 (iadd .u32 (iadd .u32 (iadd .u32 (iadd .u32 t23 (ixor .u32 (ixor .u32 v178 v180) v183)) (ior .u32 (iand .u32 t20 t21) (iand .u32 (inot .u32 t20) t22))) (t2.2.1.getD t24.toNat (0 : Int))) (t10.getD t24.toNat (0 : Int))) (iadd .u32 (ixor .u32 (ixor .u32 v206 v208) v211) (ior .u32 (ior .u32 (iand .u32 t16 t17) (iand .u32 t16 t18)) (iand .u32 t17 t18)))), t16, t17, t18, (iadd .u32 t19 (iadd .u32 (iadd .u32 (iadd .u32 (iadd .u32 t23 (ixor .u32 (ixor .u32 v178 v180) v183)) (ior .u32 (iand .u32 t20 t21) (iand .u32 (inot .u32 t20) t22))) (t2.2.1.getD t24.toNat (0 : Int))) (t10.getD t24.toNat (0 : Int)))), t20, t21, t22, (iadd .i64 t24 1), ())) (
    kx ((t2.1, t2.2.1, ()), (t4.1, ()), t5, (t8.1, ()), t9, t16, t17, t18, t19, t20, t21, t22, t23, ()))
def r01_Sum.s12 (kx : ((List Int × List Int × Unit) × (List Int × Unit) × List Int × (List Int × Unit) × Int × Int × Int × Int × Int × Int × Int × Int × Int × Unit) → Option (List Int)) : ((List Int × List Int × Unit) × (List Int × Unit) × List Int × (List Int × Unit) × Int × List Int × Int × Int × Int × Int × Int × Int × Int × Int × Int × Unit) → (((List Int × List Int × Unit) × (List Int × Unit) × List Int × (List Int × Unit) × Int × List Int × Int × Int × Int × Int × Int × Int × Int × Int × Int × Unit) → Option (List Int)) → Option (List Int) := r01_Sum.s12b r01_turn kx
def r01_Sum.n12 : ((List Int × List Int × Unit) × (List Int × Unit) × List Int × (List Int × Unit) × Int × List Int × Int × Int × Int × Int × Int × Int × Int × Int × Int × Unit) → Nat
  | (t2, t4, t5, t8, t9, t10, t16, t17, t18, t19, t20, t21, t22, t23, t24, _) => t5.length + t9.toNat + t10.length + t16.toNat + t17.toNat + t18.toNat + t19.toNat + t20.toNat + t21.toNat + t22.toNat + t23.toNat + t24.toNat + 1048576
def r01_Sum.l12 (x : (List Int × List Int × Unit) × (List Int × Unit) × List Int × (List Int × Unit) × Int × List Int × Int × Int × Int × Int × Int × Int × Int × Int × Int × Unit) (kx : ((List Int × List Int × Unit) × (List Int × Unit) × List Int × (List Int × Unit) × Int × Int × Int × Int × Int × Int × Int × Int × Int × Unit) → Option (List Int)) : Option (List Int) := loopN (r01_Sum.n12 x) (r01_Sum.s12 kx) x
def r01_Sum.s4b (l6 : ((List Int × List Int × Unit) × (List Int × Unit) × List Int × (List Int × Unit) × Int × List Int × Int × Unit) → (((List Int × List Int × Unit) × (List Int × Unit) × List Int × (List Int × Unit) × Int × List Int × Unit) → Option (List Int)) → Option (List Int)) (l10 : ((List Int × List Int × Unit) × (List Int × Unit) × List Int × (List Int × Unit) × Int × List Int × Int × Unit) → (((List Int × List Int × Unit) × (List Int × Unit) × List Int × (List Int × Unit) × Int × List Int × Unit) → Option (List Int)) → Option (List Int)) (l12 : ((List Int × List Int × Unit) × (List Int × Unit) × List Int × (List Int × Unit) × Int × List Int × Int × Int × Int × Int × Int × Int × Int × Int × Int × Unit) → (((List Int × List Int × Unit) × (List Int × Unit) × List Int × (List Int × Unit) × Int × Int × Int × Int × Int × Int × Int × Int × Int × Unit) → Option (List Int)) → Option (List Int)) (kx : ((List Int × Unit) × (List Int × Unit) × Unit) → Option (List Int)) : ((List Int × List Int × Unit) × (List Int × Unit) × List Int × (List Int × Unit) × Int × Unit) → (((List Int × List Int × Unit) × (List Int × Unit) × List Int × (List Int × Unit) × Int × Unit) → Option (List Int)) → Option (List Int)
  | (t2, t4, t5, t8, t9, _), κ =>
    cond (ilt t9 (t5.length : Int)) (
    l6 ((t2.1, t2.2.1, ()), (t4.1, ()), t5, (t8.1, ()), t9, (List.replicate 64 (0 : Int)), 0, ()) fun (t2, t4, t5, t8, t9, t10, _) =>
    l10 ((t2.1, t2.2.1, ()), (t4.1, ()), t5, (t8.1, ()), t9, t10, 16, ()) fun (t2, t4, t5, t8, t9, t10, _) =>
    l12 ((t2.1, t2.2.1, ()), (t4.1, ()), t5, (t8.1, ()), t9, t10, (t8.1.getD 0 (0 : Int)), (t8.1.getD 1 (0 : Int)), (t8.1.getD 2 (0 : Int)), (t8.1.getD 3 (0 : Int)), (t8.1.getD 4 (0 : Int)), (t8.1.getD 5 (0 : Int)), (t8.1.getD 6 (0 : Int)), (t8.1.getD 7 (0 : Int)), 0, ()) fun (t2, t4, t5, t8, t9, t16, t17, t18, t19, t20, t21, t22, t23, _) =>
    κ ((t2.1, t2.2.1, ()), (t4.1, ()), t5, (((((((((t8.1.set 0 (iadd .u32 (t8.1.getD 0 (0 : Int)) t16)).set 1 (iadd .u32 ((t8.1.set 0 (iadd .u32 (t8.1.getD 0 (0 : Int)) t16)).getD 1 (0 : Int)) t17)).set 2 (iadd .u32 (((t8.1.set 0 (iadd .u32 (t8.1.getD 0 (0 : Int)) t16)).set 1 (iadd .u32 ((t8.1.set 0 (iadd .u32 (t8.1.getD 0 (0 : Int)) t16)).getD 1 (0 : Int)) t17)).getD 2 (0 : Int)) t18)).set 3 (iadd .u32 ((((t8.1.set 0 (iadd .u32 (t8.1.getD 0 (0 : Int)) t16)).set 1 (iadd .u32 ((t8.1.set 0 (iadd .u32 (t8.1.getD 0 (0 : Int)) t16)).getD 1 (0 : Int)) t17)).set 2 (iadd .u32 (((t8.1.set 0 (iadd .u32 (t8.1.getD 0 (0 : Int)) t16)).set 1 (iadd .u32 ((t8.1.set 0 (iadd .u32 (t8.1.getD 0 (0 : Int)) t16)).getD 1 (0 : Int)) t17)).getD 2 (0 : Int)) t18)).getD 3 (0 : Int)) t19)).set 4 (iadd .u32 (((((t8.1.set 0 (iadd .u32 (t8.1.getD 0 (0 : Int)) t16)).set 1 (iadd .u32 ((t8.1.set 0 (iadd .u32 (t8.1.getD 0 (0 : Int)) t16)).getD 1 (0 : Int)) t17)).set 2 (iadd .u32 (((t8.1.set 0 (iadd .u32 (t8.1.getD 0 (0 : Int)) t16)).set 1 (iadd .u32 ((t8.1.set 0 (iadd .u32 (t8.1.getD 0 (0 : Int)) t16)).getD 1 (0 : Int)) t17)).getD 2 (0 : Int)) t18)).set 3 (iadd .u32 ((((t8.1.set 0 (iadd .u32 (t8.1.getD 0 (0 : Int)) t16)).set 1 (iadd .u32 ((t8.1.set 0 (iadd .u32 (t8.1.getD 0 (0 : Int)) t16)).getD 1 (0 : Int)) t17)).set 2 (iadd .u32 (((t8.1.set 0 (iadd .u32 (t8.1.getD 0 (0 : Int)) t16)).set 1 (iadd .u32 ((t8.1.set 0 (iadd .u32 (t8.1.getD 0 (0 : Int)) t16)).getD 1 (0 : Int)) t17)).getD 2 (0 : Int)) t18)).getD 3 (0 : Int)) t19)).getD 4 (0 : Int)) t20)).set 5 (iadd .u32 ((((((t8.1.set 0 (iadd .u32 (t8.1.getD 0 (0 : Int)) t16)).set 1 (iadd .u32 ((t8.1.set 0 (iadd .u32 (t8.1.getD 0 (0 : Int)) t16)).getD 1 (0 : Int)) t17)).set 2 (iadd .u32 (((t8.1.set 0 (iadd .u32 (t8.1.getD 0 (0 : Int)) t16)).set 1 (iadd .u32 ((t8.1.set 0 (iadd .u32 (t8.1.getD 0 (0 : Int)) t16)).getD 1 (0 : Int)) t17)).getD 2 (0 : Int)) t18)).set 3 (iadd .u32 ((((t8.1.set 0 (iadd .u32 (t8.1.getD 0 (0 : Int)) t16)).set 1 (iadd .u32 ((t8.1.set 0 (iadd .u32 (t8.1.getD 0 (0 : Int)) t16)).getD 1 (0 : Int)) t17)).set 2 (iadd .u32 (((t8.1.set 0 (iadd .u32 (t8.1.getD 0 (0 : Int)) t16)).set 1 (iadd .u32 ((t8.1.set 0 (iadd .u32 (t8.1.getD 0 (0 : Int)) t16)).getD 1 (0 : Int)) t17)).getD 2 (0 : Int)) t18)).getD 3 (0 : Int)) t19)).set 4 (iadd .u32 (((((t8.1.set 0 (iadd .u32 (t8.1.getD 0 (0 : Int)) t16)).set 1 (iadd .u32 ((t8.1.set 0 (iadd .u32 (t8.1.getD 0 (0 : Int)) t16)).getD 1 (0 : Int)) t17)).set 2 (iadd .u32 (((t8.1.set 0 (iadd .u32 (t8.1.getD 0 (0 : Int)) t16)).set 1 (iadd .u32 ((t8.1.set 0 (iadd .u32 (t8.1.getD 0 (0 : Int)) t16)).getD 1 (0 : Int)) t17)).getD 2 (0 : Int)) t18)).set 3 (iadd .u32 ((((t8.1.set 0 (iadd .u32 (t8.1.getD 0 (0 : Int)) t16)).set 1 (iadd .u32 ((t8.1.set 0 (iadd .u32 (t8.1.getD 0 (0 : Int)) t16)).getD 1 (0 : Int)) t17)).set 2 (iadd .u32 (((t8.1.set 0 (iadd .u32 (t8.1.getD 0 (0 : Int)) t16)).set 1 (iadd .u32 ((t8.1.set 0 (iadd .u32 (t8.1.getD 0 (0 : Int)) t16)).getD 1 (0 : Int)) t17)).getD 2 (0 : Int)) t18)).getD 3 (0 : Int)) t19)).getD 4 (0 : Int)) t20)).getD 5 (0 : Int)) t21)).set 6 (iadd .u32 (((((((t8.1.set 0 (iadd .u32 (t8.1.getD 0 (0 : Int)) t16)).set 1 (iadd .u32 ((t8.1.set 0 (iadd .u32 (t8.1.getD 0 (0 : Int)) t16)).getD 1 (0 : Int)) t17)).set 2 (iadd .u32 (((t8.1.set 0 (iadd .u32 (t8.1.getD 0 (0 : Int)) t16)).set 1 (iadd .u32 ((t8.1.set 0 (iadd .u32 (t8.1.getD 0 (0 : Int)) t16)).getD 1 (0 : Int)) t17)).getD 2 (0 : Int)) t18)).set 3 (iadd .u32 ((((t8.1.set 0 (iadd .u32 (t8.1.getD 0 (0 : Int)) t16)).set 1 (iadd .u32 ((t8.1.set 0 (iadd .u32 (t8.1.getD 0 (0 : Int)) t16)).getD 1 (0 : Int)) t17)).set 2 (iadd .u32 (((t8.1.set 0 (iadd .u32 (t8.1.getD 0 (0 : Int)) t16)).set 1 (iadd .u32 ((t8.1.set 0 (iadd .u32 (t8.1.getD 0 (0 : Int)) t16)).getD 1 (0 : Int)) t17)).getD 2 (0 : Int)) t18)).getD 3 (0 : Int)) t19)).set 4 (iadd .u32 (((((t8.1.set 0 (iadd .u32 (t8.1.getD 0 (0 : Int)) t16)).set 1 (iadd .u32 ((t8.1.set 0 (iadd .u32 (t8.1.getD 0 (0 : Int)) t16)).getD 1 (0 : Int)) t17)).set 2 (iadd .u32 (((t8.1.set 0 (iadd .u32 (t8.1.getD 0 (0 : Int)) t16)).set 1 (iadd .u32 ((t8.1.set 0 (iadd .u32 (t8.1.getD 0 (0 : Int)) t16)).getD 1 (0 : Int)) t17)).getD 2 (0 : Int)) t18)).set 3 (iadd .u32 ((((t8.1.set 0 (iadd .u32 (t8.1.getD 0 (0 : Int)) t16)).set 1 (iadd .u32 ((t8.1.set 0 (iadd .u32 (t8.1.getD 0 (0 : Int)) t16)).getD 1 (0 : Int)) t17)).set 2 (iadd .u32 (((t8.1.set 0 (iadd .u32 (t8.1.getD 0 (0 : Int)) t16)).set 1 (iadd .u32 ((t8.1.set 0 (iadd .u32 (t8.1.getD 0 (0 : Int)) t16)).getD 1 (0 : Int)) t17)).getD 2 (0 : Int)) t18)).getD 3 (0 : Int)) t19)).getD 4 (0 : Int)) t20)).set 5 (iadd .u32 ((((((t8.1.set 0 (iadd .u32 (t8.1.getD 0 (0 : Int)) t16)).set 1 (iadd .u32 ((t8.1.set 0 (iadd .u32 (t8.1.getD 0 (0 : Int)) t16)).getD 1 (0 : Int)) t17)).set 2 (iadd .u32 (((t8.1.set 0 (iadd .u32 (t8.1.getD 0 (0 : Int)) t16)).set 1 (iadd .u32 ((t8.1.set 0 (iadd .u32 (t8.1.getD 0 (0 : Int)) t16)).getD 1 (0 : Int)) t17)).getD 2 (0 : Int)) t18)).set 3 (iadd .u32 ((((t8.1.set 0 (iadd .u32 (t8.1.getD 0 (0 : Int)) t16)).set 1 (iadd .u32 ((t8.1.set 0 (iadd .u32 (t8.1.getD 0 (0 : Int)) t16)).getD 1 (0 : Int)) t17)).set 2 (iadd .u32 (((t8.1.set 0 (iadd .u32 (t8.1.getD 0 (0 : Int)) t16)).set 1 (iadd .u32 ((t8.1.set 0 (iadd .u32 (t8.1.getD 0 (0 : Int)) t16)).getD 1 (0 : Int)) t17)).getD 2 (0 : Int)) t18)).getD 3 (0 : Int)) t19)).set 4 (iadd .u32 (((((t8.1.set 0 (iadd .u32 (t8.1.getD 0 (0 : Int)) t16)).set 1 (iadd .u32 ((t8.1.set 0 (iadd .u32 (t8.1.getD 0 (0 : Int)) t16)).getD 1 (0 : Int)) t17)).set 2 (iadd .u32 (((t8.1.set 0 (iadd .u32 (t8.1.getD 0 (0 : Int)) t16)).set 1 (iadd .u32 ((t8.1.set 0 (iadd .u32 (t8.1.getD 0 (0 : Int)) t16)).getD 1 (0 : Int)) t17)).getD 2 (0 : Int)) t18)).set 3 (iadd .u32 ((((t8.1.set 0 (iadd .u32 (t8.1.getD 0 (0 : Int)) t16)).set 1 (iadd .u32 ((t8.1.set 0 (iadd .u32 (t8.1.getD 0 (0 : Int)) t16)).getD 1 (0 : Int)) t17)).set 2 (iadd .u32 (((t8.1.set 0 (iadd .u32 (t8.1.getD 0 (0 : Int)) t16)).set 1 (iadd .u32 ((t8.1.set 0 (iadd .u32 (t8.1.getD 0 (0 : Int)) t16)).getD 1 (0 : Int)) t17)).getD 2 (0 : Int)) t18)).getD 3 (0 : Int)) t19)).getD 4 (0 : Int)) t20)).getD 5 (0 : Int)) t21)).getD 6 (0 : Int)) t22)).set 7 (iadd .u32 ((((((((t8.1.set 0 (iadd .u32 (t8.1.getD 0 (0 : Int)) t16)).set 1 (iadd .u32 ((t8.1.set 0 (iadd .u32 (t8.1.getD 0 (0 : Int)) t16)).getD 1 (0 : Int)) t17)).set 2 (iadd .u32 (((t8.1.set 0 (iadd .u32 (t8.1.getD 0 (0 : Int)) t16)).set 1 (iadd .u32 ((t8.1.set 0 (iadd .u32 (t8.1.getD 0 (0 : Int)) t16)).getD 1 (0 : Int)) t17)).getD 2 (0 : Int)) t18)).set 3 (iadd .u32 ((((t8.1.set 0 (iadd .u32 (t8.1.getD 0 (0 : Int)) t16)).set 1 (iadd .u32 ((t8.1.set 0 (iadd .u32 (t8.1.getD 0 (0 : Int)) t16)).getD 1 (0 : Int)) t17)).set 2 (iadd .u32 (((t8.1.set 0 (iadd .u32 (t8.1.getD 0 (0 : Int)) t16)).set 1 (iadd .u32 ((t8.1.set 0 (iadd .u32 (t8.1.getD 0 (0 : Int)) t16)).getD 1 (0 : Int)) t17)).getD 2 (0 : Int)) t18)).getD 3 (0 : Int)) t19)).set 4 (iadd .u32 (((((t8.1.set 0 (iadd .u32 (t8.1.getD 0 (0 : Int)) t16)).set 1 (iadd .u32 ((t8.1.set 0 (iadd .u32 (t8.1.getD 0 (0 : Int)) t16)).getD 1 (0 : Int)) t17)).set 2 (iadd .u32 (((t8.1.set 0 (iadd .u32 (t8.1.getD 0 (0 : Int)) t16)).set 1 (iadd .u32 ((t8.1.set 0 (iadd .u32 (t8.1.getD 0 (0 : Int)) t16)).getD 1 (0 : Int)) t17)).getD 2 (0 : Int)) t18)).set 3 (iadd .u32 ((((t8.1.set 0 (iadd .u32 (t8.1.getD 0 (0 : Int)) t16)).set 1 (iadd .u32 ((t8.1.set 0 (iadd .u32 (t8.1.getD 0 (0 : Int)) t16)).getD 1 (0 : Int)) t17)).set 2 (iadd .u32 (((t8.1.set 0 (iadd .u32 (t8.1.getD 0 (0 : Int)) t16)).set 1 (iadd .u32 ((t8.1.set 0 (iadd .u32 (t8.1.getD 0 (0 : Int)) t16)).getD 1 (0 : Int)) t17)).getD 2 (0 : Int)) t18)).getD 3 (0 : Int)) t19)).getD 4 (0 : Int)) t20)).set 5 (iadd .u32 ((((((t8.1.set 0 (iadd .u32 (t8.1.getD 0 (0 : Int)) t16)).set 1 (iadd .u32 ((t8.1.set 0 (iadd .u32 (t8.1.getD 0 (0 : Int)) t16)).getD 1 (0 : Int)) t17)).set 2 (iadd .u32 (((t8.1.set 0 (iadd .u32 (t8.1.getD 0 (0 : Int)) t16)).set 1 (iadd .u32 ((t8.1.set 0 (iadd .u32 (t8.1.getD 0 (0 : Int)) t16)).getD 1 (0 : Int)) t17)).getD 2 (0 : Int)) t18)).set 3 (iadd .u32 ((((t8.1.set 0 (iadd .u32 (t8.1.getD 0 (0 : Int)) t16)).set 1 (iadd .u32 ((t8.1.set 0 (iadd .u32 (t8.1.getD 0 (0 : Int)) t16)).getD 1 (0 : Int)) t17)).set 2 (iadd .u32 (((t8.1.set 0 (iadd .u32 (t8.1.getD 0 (0 : Int)) t16)).set 1 (iadd .u32 ((t8.1.set 0 (iadd .u32 (t8.1.getD 0 (0 : Int)) t16)).getD 1 (0 : Int)) t17)).getD 2 (0 : Int)) t18)).getD 3 (0 : Int)) t19)).set 4 (iadd .u32 (((((t8.1.set 0 (iadd .u32 (t8.1.getD 0 (0 : Int)) t16)).set 1 (iadd .u32 ((t8.1.set 0 (iadd .u32 (t8.1.getD 0 (0 : Int)) t16)).getD 1 (0 : Int)) t17)).set 2 (iadd .u32 (((t8.1.set 0 (iadd .u32 (t8.1.getD 0 (0 : Int)) t16)).set 1 (iadd .u32 ((t8.1.set 0 (iadd .u32 (t8.1.getD 0 (0 : Int)) t16)).getD 1 (0 : Int)) t17)).getD 2 (0 : Int)) t18)).set 3 (iadd .u32 ((((t8.1.set 0 (iadd .u32 (t8.1.getD 0 (0 : Int)) t16)).set 1 (iadd .u32 ((t8.1.set 0 (iadd .u32 (t8.1.getD 0 (0 : Int)) t16)).getD 1 (0 : Int)) t17)).set 2 (iadd .u32 (((t8.1.set 0 (iadd .u32 (t8.1.getD 0 (0 : Int)) t16)).set 1 (iadd .u32 ((t8.1.set 0 (iadd .u32 (t8.1.getD 0 (0 : Int)) t16)).getD 1 (0 : Int)) t17)).getD 2 (0 : Int)) t18)).getD 3 (0 : Int)) t19)).getD 4 (0 : Int)) t20)).getD 5 (0 : Int)) t21)).set 6 (iadd .u32 (((((((t8.1.set 0 (iadd .u32 (t8.1.getD 0 (0 : Int)) t16)).set 1 (iadd .u32 ((t8.1.set 0 (iadd .u32 (t8.1.getD 0 (0 : Int)) t16)).getD 1 (0 : Int)) t17)).set 2 (iadd .u32 (((t8.1.set 0 (iadd .u32 (t8.1.getD 0 (0 : Int)) t16)).set 1 (iadd .u32 ((t8.1.set 0 (iadd .u32 (t8.1.getD 0 (0 : Int)) t16)).getD 1 (0 : Int)) t17)).getD 2 (0 : Int)) t18)).set 3 (iadd .u32 ((((t8.1.set 0 (iadd .u32 (t8.1.getD 0 (0 : Int)) t16)).set 1 (iadd .u32 ((t8.1.set 0 (iadd .u32 (t8.1.getD 0 (0 : Int)) t16)).getD 1 (0 : Int)) t17)).set 2 (iadd .u32 (((t8.1.set 0 (iadd .u32 (t8.1.getD 0 (0 : Int)) t16)).set 1 (iadd .u32 ((t8.1.set 0 (iadd .u32 (t8.1.getD 0 (0 : Int)) t16)).getD 1 (0 : Int)) t17)).getD 2 (0 : Int)) t18)).getD 3 (0 : Int)) t19)).set 4 (iadd .u32 (((((t8.1.set 0 (iadd .u32 (t8.1.getD 0 (0 : Int)) t16)).set 1 (iadd .u32 ((t8.1.set 0 (iadd .u32 (t8.1.getD 0 (0 : Int)) t16)).getD 1 (0 : Int)) t17)).set 2 (iadd .u32 (((t8.1.set 0 (iadd .u32 (t8.1.getD 0 (0 : Int)) t16)).set 1 (iadd .u32 ((t8.1.set 0 (iadd .u32 (t8.1.getD 0 (0 : Int)) t16)).getD 1 (0 : Int)) t17)).getD 2 (0 : Int)) t18)).set 3 (iadd .u32 ((((t8.1.set 0 (iadd .u32 (t8.1.getD 0 (0 : Int)) t16)).set 1 (iadd .u32 ((t8.1.set 0 (iadd .u32 (t8.1.getD 0 (0 : Int)) t16)).getD 1 (0 : Int)) t17)).set 2 (iadd .u32 (((t8.1.set 0 (iadd .u32 (t8.1.getD 0 (0 : Int)) t16)).set 1 (iadd .u32 ((t8.1.set 0 (iadd .u32 (t8.1.getD 0 (0 : Int)) t16)).getD 1 (0 : Int)) t17)).getD 2 (0 : Int)) t18)).getD 3 (0 : Int)) t19)).getD 4 (0 : Int)) t20)).set 5 (iadd .u32 ((((((t8.1.set 0 (iadd .u32 (t8.1.getD 0 (0 : Int)) t16)).set 1 (iadd .u32 ((t8.1.set 0 (iadd .u32 (t8.1.getD 0 (0 : Int)) t16)).getD 1 (0 : Int)) t17)).set 2 (iadd .u32 (((t8.1.set 0 (iadd .u32 (t8.1.getD 0 (0 : Int)) t16)).set 1 (iadd .u32 ((t8.1.set 0 (iadd .u32 (t8.1.getD 0 (0 : Int)) t16)).getD 1 (0 : Int)) t17)).getD 2 (0 : Int)) t18)).set 3 (iadd .u32 ((((t8.1.set 0 (iadd .u32 (t8.1.getD 0 (0 : Int)) t16)).set 1 (iadd .u32 ((t8.1.set 0 (iadd .u32 (t8.1.getD 0 (0 : Int)) t16)).getD 1 (0 : Int)) t17)).set 2 (iadd .u32 (((t8.1.set 0 (iadd .u32 (t8.1.getD 0 (0 : Int)) t16)).set 1 (iadd .u32 ((t8.1.set 0 (iadd .u32 (t8.1.getD 0 (0 : Int)) t16)).getD 1 (0 : Int)) t17)).getD 2 (0 : Int)) t18)).getD 3 (0 : Int)) t19)).set 4 (iadd .u32 (((((t8.1.set 0 (iadd .u32 (t8.1.getD 0 (0 : Int)) t16)).set 1 (iadd .u32 ((t8.1.set 0 (iadd .u32 (t8.1.getD 0 (0 : Int)) t16)).getD 1 (0 : Int)) t17)).set 2 (iadd .u32 (((t8.1.set 0 (iadd .u32 (t8.1.getD 0 (0 : Int)) t16)).set 1 (iadd .u32 ((t8.1.set 0 (iadd .u32 (t8.1.getD 0 (0 : Int)) t16)).getD 1 (0 : Int)) t17)).getD 2 (0 : Int)) t18)).set 3 (iadd .u32 ((((t8.1.set 0 (iadd .u32 (t8.1.getD 0 (0 : Int)) t16)).set 1 (iadd .u32 ((t8.1.set 0 (iadd .u32 (t8.1.getD 0 (0 : Int)) t16)).getD 1 (0 : Int)) t17)).set 2 (iadd .u32 (((t8.1.set 0 (iadd .u32 (t8.1.getD 0 (0 : Int)) t16)).set 1 (iadd .u32 ((t8.1.set 0 (iadd .u32 (t8.1.getD 0 (0 : Int)) t16)).getD 1 (0 : Int)) t17)).getD 2 (0 : Int)) t18)).getD 3 (0 : Int)) t19)).getD 4 (0 : Int)) t20)).getD 5 (0 : Int)) t21)).getD 6 (0 : Int)) t22)).getD 7 (0 : Int)) t23)), ()), (iadd .i64 t9 64), ())) (
    kx ((t4.1, ()), (t8.1, ()), ()))
def r01_Sum.s4 (kx : ((List Int × Unit) × (List Int × Unit) × Unit) → Option (List Int)) : ((List Int × List Int × Unit) × (List Int × Unit) × List Int × (List Int × Unit) × Int × Unit) → (((List Int × List Int × Unit) × (List Int × Unit) × List Int × (List Int × Unit) × Int × Unit) → Option (List Int)) → Option (List Int) := r01_Sum.s4b r01_Sum.l6 r01_Sum.l10 r01_Sum.l12 kx
def r01_Sum.n4 : ((List Int × List Int × Unit) × (List Int × Unit) × List Int × (List Int × Unit) × Int × Unit) → Nat
  | (t2, t4, t5, t8, t9, _) => t5.length + t9.toNat + 1048576
def r01_Sum.l4 (x : (List Int × List Int × Unit) × (List Int × Unit) × List Int × (List Int × Unit) × Int × Unit) (kx : ((List Int × Unit) × (List Int × Unit) × Unit) → Option (List Int)) : Option (List Int) := loopN (r01_Sum.n4 x) (r01_Sum.s4 kx) x
def r01_Sum.s14b (kx : ((List Int × Unit) × (List Int × Unit) × Unit) → Option (List Int)) : ((List Int × Unit) × (List Int × Unit) × (List Int × Unit) × Int × Unit) → (((List Int × Unit) × (List Int × Unit) × (List Int × Unit) × Int × Unit) → Option (List Int)) → Option (List Int)
  | (t4, t8, t27, t28, _), κ =>
    cond (ilt t28 32) (
    chk (inB (iquo .i64 t28 4) 8) <|
    chk (ile 0 (isub .i64 24 (imul .i64 8 (irem .i64 t28 4)))) <|
    chk (inB t28 32) <|
    κ ((t4.1, ()), (t8.1, ()), ((t27.1.set t28.toNat (IntKind.wrap .u8 (ishr .u32 (t8.1.getD (iquo .i64 t28 4).toNat (0 : Int)) (isub .i64 24 (imul .i64 8 (irem .i64 t28 4)))))), ()), (iadd .i64 t28 1), ())) (
    kx ((t4.1, ()), (t27.1, ()), ()))
def r01_Sum.s14 (kx : ((List Int × Unit) × (List Int × Unit) × Unit) → Option (List Int)) : ((List Int × Unit) × (List Int × Unit) × (List Int × Unit) × Int × Unit) → (((List Int × Unit) × (List Int × Unit) × (List Int × Unit) × Int × Unit) → Option (List Int)) → Option (List Int) := r01_Sum.s14b kx
def r01_Sum.n14 : ((List Int × Unit) × (List Int × Unit) × (List Int × Unit) × Int × Unit) → Nat
  | (t4, t8, t27, t28, _) => t28.toNat + 1048576
def r01_Sum.l14 (x : (List Int × Unit) × (List Int × Unit) × (List Int × Unit) × Int × Unit) (kx : ((List Int × Unit) × (List Int × Unit) × Unit) → Option (List Int)) : Option (List Int) := loopN (r01_Sum.n14 x) (r01_Sum.s14 kx) x
def r01_Sum.b (l0 : (List Int × (List Int × List Int × Unit) × (List Int × Unit) × List Int × Unit) → ((List Int × (List Int × List Int × Unit) × (List Int × Unit) × List Int × Unit) → Option (List Int)) → Option (List Int)) (l2 : ((List Int × List Int × Unit) × (List Int × Unit) × List Int × Int × Int × Unit) → (((List Int × List Int × Unit) × (List Int × Unit) × List Int × Unit) → Option (List Int)) → Option (List Int)) (l4 : ((List Int × List Int × Unit) × (List Int × Unit) × List Int × (List Int × Unit) × Int × Unit) → (((List Int × Unit) × (List Int × Unit) × Unit) → Option (List Int)) → Option (List Int)) (l14 : ((List Int × Unit) × (List Int × Unit) × (List Int × Unit) × Int × Unit) → (((List Int × Unit) × (List Int × Unit) × Unit) → Option (List Int)) → Option (List Int)) : ((List Int × List Int × Unit) × List Int × Unit) → Option (List Int)
  | (x0, x1, _) =>
    chk (fits 1 (0 + x1.length)) <|
    chk (fits 1 (x1.length + 1)) <|
    l0 (x1, (x0.1, x0.2.1, ()), ((List.replicate 32 (0 : Int)), ()), (x1 ++ [128]), ()) fun (t1, t2, t4, t5, _) =>
    l2 ((t2.1, t2.2.1, ()), (t4.1, ()), t5, (imul .u64 (IntKind.wrap .u64 (t1.length : Int)) 8), 7, ()) fun (t2, t4, t5, _) =>
    l4 ((t2.1, t2.2.1, ()), (t4.1, ()), t5, (t2.1, ()), 0, ()) fun (t4, t8, _) =>
    l14 ((t4.1, ()), (t8.1, ()), ((List.replicate 32 (0 : Int)), ()), 0, ()) fun (t4, t27, _) =>
    some t27.1
def r01_Sum (x : ((List Int × List Int × Unit) × List Int × Unit)) : Option (List Int) := r01_Sum.b r01_Sum.l0 r01_Sum.l2 r01_Sum.l4 r01_Sum.l14 x
/-- muniment/munimentref01.Tag -/
def r01_Tag.s0b (kx : (List Int × (List Int × List Int × Unit) × (List Int × Unit) × List Int × Unit) → Option (List Int)) : (List Int × (List Int × List Int × Unit) × (List Int × Unit) × List Int × Unit) → ((List Int × (List Int × List Int × Unit) × (List Int × Unit) × List Int × Unit) → Option (List Int)) → Option (List Int)
  | (t2, t3, t6, t7, _), κ =>
    cond (ilt (t7.length : Int) 64) (
    chk (fits 1 (t7.length + 1)) <|
    κ (t2, (t3.1, t3.2.1, ()), (t6.1, ()), (t7 ++ [0]), ())) (
    kx (t2, (t3.1, t3.2.1, ()), (t6.1, ()), t7, ()))
def r01_Tag.s0 (kx : (List Int × (List Int × List Int × Unit) × (List Int × Unit) × List Int × Unit) → Option (List Int)) : (List Int × (List Int × List Int × Unit) × (List Int × Unit) × List Int × Unit) → ((List Int × (List Int × List Int × Unit) × (List Int × Unit) × List Int × Unit) → Option (List Int)) → Option (List Int) := r01_Tag.s0b kx
def r01_Tag.n0 : (List Int × (List Int × List Int × Unit) × (List Int × Unit) × List Int × Unit) → Nat
  | (t2, t3, t6, t7, _) => t2.length + t7.length + 1048576
def r01_Tag.l0 (x : List Int × (List Int × List Int × Unit) × (List Int × Unit) × List Int × Unit) (kx : (List Int × (List Int × List Int × Unit) × (List Int × Unit) × List Int × Unit) → Option (List Int)) : Option (List Int) := loopN (r01_Tag.n0 x) (r01_Tag.s0 kx) x
def r01_Tag.s2b (kx : (List Int × (List Int × List Int × Unit) × (List Int × Unit) × List Int × List Int × Unit) → Option (List Int)) : (List Int × (List Int × List Int × Unit) × (List Int × Unit) × List Int × List Int × List Int × Int × Unit) → ((List Int × (List Int × List Int × Unit) × (List Int × Unit) × List Int × List Int × List Int × Int × Unit) → Option (List Int)) → Option (List Int)
  | (t2, t3, t6, t7, t9, t10, t11, _), κ =>
    cond (ilt t11 64) (
    chk (inB t11 t7.length) <|
    chk (fits 1 (t9.length + 1)) <|
    chk (inB t11 t7.length) <|
    chk (fits 1 (t10.length + 1)) <|
    κ (t2, (t3.1, t3.2.1, ()), (t6.1, ()), t7, (t9 ++ [(ixor .u8 (t7.getD t11.toNat (0 : Int)) 54)]), (t10 ++ [(ixor .u8 (t7.getD t11.toNat (0 : Int)) 92)]), (iadd .i64 t11 1), ())) (
    kx (t2, (t3.1, t3.2.1, ()), (t6.1, ()), t9, t10, ()))
def r01_Tag.s2 (kx : (List Int × (List Int × List Int × Unit) × (List Int × Unit) × List Int × List Int × Unit) → Option (List Int)) : (List Int × (List Int × List Int × Unit) × (List Int × Unit) × List Int × List Int × List Int × Int × Unit) → ((List Int × (List Int × List Int × Unit) × (List Int × Unit) × List Int × List Int × List Int × Int × Unit) → Option (List Int)) → Option (List Int) := r01_Tag.s2b kx
def r01_Tag.n2 : (List Int × (List Int × List Int × Unit) × (List Int × Unit) × List Int × List Int × List Int × Int × Unit) → Nat
  | (t2, t3, t6, t7, t9, t10, t11, _) => t2.length + t7.length + t9.length + t10.length + t11.toNat + 1048576
def r01_Tag.l2 (x : List Int × (List Int × List Int × Unit) × (List Int × Unit) × List Int × List Int × List Int × Int × Unit) (kx : (List Int × (List Int × List Int × Unit) × (List Int × Unit) × List Int × List Int × Unit) → Option (List Int)) : Option (List Int) := loopN (r01_Tag.n2 x) (r01_Tag.s2 kx) x
def r01_Tag.b (f54 : ((List Int × List Int × Unit) × List Int × Unit) → Option (List Int)) (l0 : (List Int × (List Int × List Int × Unit) × (List Int × Unit) × List Int × Unit) → ((List Int × (List Int × List Int × Unit) × (List Int × Unit) × List Int × Unit) → Option (List Int)) → Option (List Int)) (l2 : (List Int × (List Int × List Int × Unit) × (List Int × Unit) × List Int × List Int × List Int × Int × Unit) → ((List Int × (List Int × List Int × Unit) × (List Int × Unit) × List Int × List Int × Unit) → Option (List Int)) → Option (List Int)) : ((List Int × List Int × Unit) × List Int × List Int × Unit) → Option (List Int)
  | (x0, x1, x2, _) =>
    cond (igt (x1.length : Int) 64) (
    (f54 ((x0.1, x0.2.1, ()), x1, ())).bind fun v18 =>
    chk (fits 1 (0 + v18.length)) <|
    l0 (x2, (x0.1, x0.2.1, ()), ((List.replicate 32 (0 : Int)), ()), v18, ()) fun (t2, t3, t6, t7, _) =>
    l2 (t2, (t3.1, t3.2.1, ()), (t6.1, ()), t7, [], [], 0, ()) fun (t2, t3, t6, t9, t10, _) =>
    chk (fits 1 (t9.length + t2.length)) <|
    (f54 ((t3.1, t3.2.1, ()), (t9 ++ t2), ())).bind fun v56 =>
    chk (fits 1 (t10.length + v56.length)) <|
    (f54 ((t3.1, t3.2.1, ()), (t10 ++ v56), ())).bind fun v62 =>
    some v62) (
    chk (fits 1 (0 + x1.length)) <|
    l0 (x2, (x0.1, x0.2.1, ()), ((List.replicate 32 (0 : Int)), ()), x1, ()) fun (t2, t3, t6, t7, _) =>
    l2 (t2, (t3.1, t3.2.1, ()), (t6.1, ()), t7, [], [], 0, ()) fun (t2, t3, t6, t9, t10, _) =>
    chk (fits 1 (t9.length + t2.length)) <|
    (f54 ((t3.1, t3.2.1, ()), (t9 ++ t2), ())).bind fun v56 =>
    chk (fits 1 (t10.length + v56.length)) <|
    (f54 ((t3.1, t3.2.1, ()), (t10 ++ v56), ())).bind fun v62 =>
    some v62)
def r01_Tag (x : ((List Int × List Int × Unit) × List Int × List Int × Unit)) : Option (List Int) := r01_Tag.b r01_Sum r01_Tag.l0 r01_Tag.l2 x
/-- muniment/munimentref19.Verify -/
def r19_Verify.b (f23 : (ByteArray × Unit) → Option (List Int × Int × Unit)) (f30 : (List Int × Unit) → Option ((Int × ByteArray × Int × Int × Int × Int × Unit) × Bool × Unit)) (f37 : ((List Int × List Int × Unit) × List Int × List Int × Unit) → Option (List Int)) : ((List Int × List Int × Unit) × List Int × ByteArray × Int × Unit) → Option ((Int × ByteArray × Int × Int × Int × Int × Unit) × Int × Unit)
  | (x0, x1, x2, x3, _) =>
    (f23 (x2, ())).bind fun v18 =>
    cond (ine v18.2.1 0) (
    some ((0, ByteArray.empty, 0, 0, 0, 0, ()), 3, ())) (
    cond (ilt (v18.1.length : Int) 32) (
    some ((0, ByteArray.empty, 0, 0, 0, 0, ()), 3, ())) (
    chk (leB 0 0 && (leB 0 (isub .i64 (v18.1.length : Int) 32) && leB (isub .i64 (v18.1.length : Int) 32) v18.1.length)) <|
    (f30 (((v18.1.drop 0).take ((((isub .i64 (v18.1.length : Int) 32) : Int) - 0).toNat)), ())).bind fun v36 =>
    cond (!v36.2.1) (
    some ((0, ByteArray.empty, 0, 0, 0, 0, ()), 3, ())) (
    chk (leB 0 0 && (leB 0 (isub .i64 (v18.1.length : Int) 32) && leB (isub .i64 (v18.1.length : Int) 32) v18.1.length)) <|
    (f37 ((x0.1, x0.2.1, ()), x1, ((v18.1.drop 0).take ((((isub .i64 (v18.1.length : Int) 32) : Int) - 0).toNat)), ())).bind fun v47 =>
    chk (leB 0 (isub .i64 (v18.1.length : Int) 32) && (leB (isub .i64 (v18.1.length : Int) 32) v18.1.length && leB v18.1.length v18.1.length)) <|
    cond (sne (strOf v47) (strOf ((v18.1.drop (isub .i64 (v18.1.length : Int) 32).toNat).take (((v18.1.length : Int) - (isub .i64 (v18.1.length : Int) 32)).toNat)))) (
    some ((0, ByteArray.empty, 0, 0, 0, 0, ()), 15, ())) (
    cond (ilt x3 v36.1.2.2.2.2.1) (
    some ((0, ByteArray.empty, 0, 0, 0, 0, ()), 14, ())) (
    cond (ige x3 v36.1.2.2.2.2.2.1) (
    some ((0, ByteArray.empty, 0, 0, 0, 0, ()), 14, ())) (
    some ((v36.1.1, v36.1.2.1, v36.1.2.2.1, v36.1.2.2.2.1, v36.1.2.2.2.2.1, v36.1.2.2.2.2.2.1, ()), 0, ())))))))
def r19_Verify (x : ((List Int × List Int × Unit) × List Int × ByteArray × Int × Unit)) : Option ((Int × ByteArray × Int × Int × Int × Int × Unit) × Int × Unit) := r19_Verify.b r04_ReadBase r19_Decode r01_Tag x
/-- muniment/munimentref19.Sign -/
def r19_Sign.b (f29 : ((Int × ByteArray × Int × Int × Int × Int × Unit) × Unit) → Option (List Int)) (f37 : ((List Int × List Int × Unit) × List Int × List Int × Unit) → Option (List Int)) (f44 : (List Int × Unit) → Option ByteArray) : ((List Int × List Int × Unit) × List Int × (Int × ByteArray × Int × Int × Int × Int × Unit) × Unit) → Option ByteArray
  | (x0, x1, x2, _) =>
    (f29 ((x2.1, x2.2.1, x2.2.2.1, x2.2.2.2.1, x2.2.2.2.2.1, x2.2.2.2.2.2.1, ()), ())).bind fun v10 =>
    (f37 ((x0.1, x0.2.1, ()), x1, v10, ())).bind fun v14 =>
    chk (fits 1 (v10.length + v14.length)) <|
    (f44 ((v10 ++ v14), ())).bind fun v19 =>
    some v19
def r19_Sign (x : ((List Int × List Int × Unit) × List Int × (Int × ByteArray × Int × Int × Int × Int × Unit) × Unit)) : Option ByteArray := r19_Sign.b r19_Encode r01_Tag r04_Base x
/-- muniment/munimentlaw19.TokenSigns -/
def w19_TokenSigns.b (f17 : Unit → Option (List Int × List Int × Unit)) (f24 : Unit → Option Bool) (f26 : ((Int × ByteArray × Int × Int × Int × Int × Unit) × Unit) → Option Bool) (f31 : (List Int × (Int × ByteArray × Int × Int × Int × Int × Unit) × Unit) → Option (ByteArray × Int × Unit)) (f32 : (List Int × ByteArray × Int × Unit) → Option ((Int × ByteArray × Int × Int × Int × Int × Unit) × Int × Unit)) (f33 : ((List Int × List Int × Unit) × List Int × ByteArray × Int × Unit) → Option ((Int × ByteArray × Int × Int × Int × Int × Unit) × Int × Unit)) (f34 : ((List Int × List Int × Unit) × List Int × (Int × ByteArray × Int × Int × Int × Int × Unit) × Unit) → Option ByteArray) : (List Int × (Int × ByteArray × Int × Int × Int × Int × Unit) × Int × Unit) → Option Bool
  | (x0, x1, x2, _) =>
    (f24 (())).bind fun v14 =>
    cond (!v14) (
    (f24 (())).bind fun v21 =>
    some v21) (
    cond (igt (x0.length : Int) 1000) (
    (f24 (())).bind fun v21 =>
    some v21) (
    (f31 (x0, (x1.1, x1.2.1, x1.2.2.1, x1.2.2.2.1, x1.2.2.2.2.1, x1.2.2.2.2.2.1, ()), ())).bind fun v25 =>
    (f26 ((x1.1, x1.2.1, x1.2.2.1, x1.2.2.2.1, x1.2.2.2.2.1, x1.2.2.2.2.2.1, ()), ())).bind fun v29 =>
    cond (!v29) (
    cond (ieq v25.2.1 3) (
    some (seq v25.1 (⟨#[]⟩ : ByteArray))) (
    some false)) (
    (f17 (())).bind fun v37 =>
    (f32 (x0, v25.1, x2, ())).bind fun v42 =>
    (f33 ((v37.1, v37.2.1, ()), x0, v25.1, x2, ())).bind fun v50 =>
    cond (ieq v25.2.1 0) (
    (f34 ((v37.1, v37.2.1, ()), x0, (x1.1, x1.2.1, x1.2.2.1, x1.2.2.2.1, x1.2.2.2.2.1, x1.2.2.2.2.2.1, ()), ())).bind fun v60 =>
    cond (seq v25.1 v60) (
    cond ((ieq v42.1.1 v50.1.1) && ((seq v42.1.2.1 v50.1.2.1) && ((ieq v42.1.2.2.1 v50.1.2.2.1) && ((ieq v42.1.2.2.2.1 v50.1.2.2.2.1) && ((ieq v42.1.2.2.2.2.1 v50.1.2.2.2.2.1) && ((ieq v42.1.2.2.2.2.2.1 v50.1.2.2.2.2.2.1) && true)))))) (
    cond (ieq v42.2.1 v50.2.1) (
    cond (ige x2 x1.2.2.2.2.1) (
    some ((ieq v42.2.1 0) == (ilt x2 x1.2.2.2.2.2.1))) (
    some ((ieq v42.2.1 0) == false))) (
    some false)) (
    some false)) (
    some false)) (
    some false))))
def w19_TokenSigns (x : (List Int × (Int × ByteArray × Int × Int × Int × Int × Unit) × Int × Unit)) : Option Bool := w19_TokenSigns.b r01_Make w19_awake r19_Form token_Sign token_Verify r19_Verify r19_Sign x
/-- muniment/munimentlaw19.TokenVerifies -/
def w19_TokenVerifies.b (f17 : Unit → Option (List Int × List Int × Unit)) (f24 : Unit → Option Bool) (f32 : (List Int × ByteArray × Int × Unit) → Option ((Int × ByteArray × Int × Int × Int × Int × Unit) × Int × Unit)) (f33 : ((List Int × List Int × Unit) × List Int × ByteArray × Int × Unit) → Option ((Int × ByteArray × Int × Int × Int × Int × Unit) × Int × Unit)) : (List Int × ByteArray × Int × Unit) → Option Bool
  | (x0, x1, x2, _) =>
    (f24 (())).bind fun v11 =>
    cond (!v11) (
    (f24 (())).bind fun v23 =>
    some v23) (
    cond (igt (x0.length : Int) 1000) (
    (f24 (())).bind fun v23 =>
    some v23) (
    cond (igt (x1.size : Int) 2000) (
    (f24 (())).bind fun v23 =>
    some v23) (
    (f32 (x0, x1, x2, ())).bind fun v28 =>
    (f17 (())).bind fun v32 =>
    (f33 ((v32.1, v32.2.1, ()), x0, x1, x2, ())).bind fun v36 =>
    cond ((ieq v28.1.1 v36.1.1) && ((seq v28.1.2.1 v36.1.2.1) && ((ieq v28.1.2.2.1 v36.1.2.2.1) && ((ieq v28.1.2.2.2.1 v36.1.2.2.2.1) && ((ieq v28.1.2.2.2.2.1 v36.1.2.2.2.2.1) && ((ieq v28.1.2.2.2.2.2.1 v36.1.2.2.2.2.2.1) && true)))))) (
    some (ieq v28.2.1 v36.2.1)) (
    some false))))
def w19_TokenVerifies (x : (List Int × ByteArray × Int × Unit)) : Option Bool := w19_TokenVerifies.b r01_Make w19_awake token_Verify r19_Verify x
/-- muniment/munimentlaw19.TokenForged -/
def w19_TokenForged.b (f17 : Unit → Option (List Int × List Int × Unit)) (f24 : Unit → Option Bool) (f26 : ((Int × ByteArray × Int × Int × Int × Int × Unit) × Unit) → Option Bool) (f31 : (List Int × (Int × ByteArray × Int × Int × Int × Int × Unit) × Unit) → Option (ByteArray × Int × Unit)) (f32 : (List Int × ByteArray × Int × Unit) → Option ((Int × ByteArray × Int × Int × Int × Int × Unit) × Int × Unit)) (f33 : ((List Int × List Int × Unit) × List Int × ByteArray × Int × Unit) → Option ((Int × ByteArray × Int × Int × Int × Int × Unit) × Int × Unit)) : (List Int × (Int × ByteArray × Int × Int × Int × Int × Unit) × Int × Int × Unit) → Option Bool
  | (x0, x1, x2, x3, _) =>
    (f24 (())).bind fun v17 =>
    cond (!v17) (
    (f24 (())).bind fun v29 =>
    some v29) (
    (f26 ((x1.1, x1.2.1, x1.2.2.1, x1.2.2.2.1, x1.2.2.2.2.1, x1.2.2.2.2.2.1, ()), ())).bind fun v21 =>
    cond (!v21) (
    (f24 (())).bind fun v29 =>
    some v29) (
    cond (igt (x0.length : Int) 200) (
    (f24 (())).bind fun v29 =>
    some v29) (
    (f31 (x0, (x1.1, x1.2.1, x1.2.2.1, x1.2.2.2.1, x1.2.2.2.2.1, x1.2.2.2.2.2.1, ()), ())).bind fun v33 =>
    cond (ine v33.2.1 0) (
    some false) (
    cond (ilt (v33.1.size : Int) 60) (
    some false) (
    chk (decide (v33.1.size < 140737488355328)) <|
    chk (decide (((bytesOf v33.1).length : Int) ≠ 0)) <|
    chk (inB (irem .u8 x3 64) (⟨#[65, 66, 67, 68, 69, 70, 71, 72, 73, 74, 75, 76, 77, 78, 79, 80, 81, 82, 83, 84, 85, 86, 87, 88, 89, 90, 97, 98, 99, 100, 101, 102, 103, 104, 105, 106, 107, 108, 109, 110, 111, 112, 113, 114, 115, 116, 117, 118, 119, 120, 121, 122, 48, 49, 50, 51, 52, 53, 54, 55, 56, 57, 45, 95]⟩ : ByteArray).size) <|
    chk (inB (irem .i64 (IntKind.wrap .i64 x2) ((bytesOf v33.1).length : Int)) (bytesOf v33.1).length) <|
    cond (seq (strOf ((bytesOf v33.1).set (irem .i64 (IntKind.wrap .i64 x2) ((bytesOf v33.1).length : Int)).toNat (byteAt (⟨#[65, 66, 67, 68, 69, 70, 71, 72, 73, 74, 75, 76, 77, 78, 79, 80, 81, 82, 83, 84, 85, 86, 87, 88, 89, 90, 97, 98, 99, 100, 101, 102, 103, 104, 105, 106, 107, 108, 109, 110, 111, 112, 113, 114, 115, 116, 117, 118, 119, 120, 121, 122, 48, 49, 50, 51, 52, 53, 54, 55, 56, 57, 45, 95]⟩ : ByteArray) (irem .u8 x3 64).toNat))) v33.1) (
    some true) (
    (f32 (x0, (strOf ((bytesOf v33.1).set (irem .i64 (IntKind.wrap .i64 x2) ((bytesOf v33.1).length : Int)).toNat (byteAt (⟨#[65, 66, 67, 68, 69, 70, 71, 72, 73, 74, 75, 76, 77, 78, 79, 80, 81, 82, 83, 84, 85, 86, 87, 88, 89, 90, 97, 98, 99, 100, 101, 102, 103, 104, 105, 106, 107, 108, 109, 110, 111, 112, 113, 114, 115, 116, 117, 118, 119, 120, 121, 122, 48, 49, 50, 51, 52, 53, 54, 55, 56, 57, 45, 95]⟩ : ByteArray) (irem .u8 x3 64).toNat))), x1.2.2.2.2.1, ())).bind fun v66 =>
    cond (ine v66.2.1 0) (
    some ((ieq v66.1.1 0) && ((seq v66.1.2.1 ByteArray.empty) && ((ieq v66.1.2.2.1 0) && ((ieq v66.1.2.2.2.1 0) && ((ieq v66.1.2.2.2.2.1 0) && ((ieq v66.1.2.2.2.2.2.1 0) && true))))))) (
    (f17 (())).bind fun v75 =>
    (f33 ((v75.1, v75.2.1, ()), x0, (strOf ((bytesOf v33.1).set (irem .i64 (IntKind.wrap .i64 x2) ((bytesOf v33.1).length : Int)).toNat (byteAt (⟨#[65, 66, 67, 68, 69, 70, 71, 72, 73, 74, 75, 76, 77, 78, 79, 80, 81, 82, 83, 84, 85, 86, 87, 88, 89, 90, 97, 98, 99, 100, 101, 102, 103, 104, 105, 106, 107, 108, 109, 110, 111, 112, 113, 114, 115, 116, 117, 118, 119, 120, 121, 122, 48, 49, 50, 51, 52, 53, 54, 55, 56, 57, 45, 95]⟩ : ByteArray) (irem .u8 x3 64).toNat))), x1.2.2.2.2.1, ())).bind fun v81 =>
    cond (ieq v81.2.1 0) (
    cond ((ieq v66.1.1 v81.1.1) && ((seq v66.1.2.1 v81.1.2.1) && ((ieq v66.1.2.2.1 v81.1.2.2.1) && ((ieq v66.1.2.2.2.1 v81.1.2.2.2.1) && ((ieq v66.1.2.2.2.2.1 v81.1.2.2.2.2.1) && ((ieq v66.1.2.2.2.2.2.1 v81.1.2.2.2.2.2.1) && true)))))) (
    some (!((ieq v66.1.1 x1.1) && ((seq v66.1.2.1 x1.2.1) && ((ieq v66.1.2.2.1 x1.2.2.1) && ((ieq v66.1.2.2.2.1 x1.2.2.2.1) && ((ieq v66.1.2.2.2.2.1 x1.2.2.2.2.1) && ((ieq v66.1.2.2.2.2.2.1 x1.2.2.2.2.2.1) && true)))))))) (
    some false)) (
    some false))))))))
def w19_TokenForged (x : (List Int × (Int × ByteArray × Int × Int × Int × Int × Unit) × Int × Int × Unit)) : Option Bool := w19_TokenForged.b r01_Make w19_awake r19_Form token_Sign token_Verify r19_Verify x
/-- muniment/munimentlaw19.TokenKeys -/
def w19_TokenKeys.b (f17 : Unit → Option (List Int × List Int × Unit)) (f24 : Unit → Option Bool) (f26 : ((Int × ByteArray × Int × Int × Int × Int × Unit) × Unit) → Option Bool) (f31 : (List Int × (Int × ByteArray × Int × Int × Int × Int × Unit) × Unit) → Option (ByteArray × Int × Unit)) (f32 : (List Int × ByteArray × Int × Unit) → Option ((Int × ByteArray × Int × Int × Int × Int × Unit) × Int × Unit)) (f34 : ((List Int × List Int × Unit) × List Int × (Int × ByteArray × Int × Int × Int × Int × Unit) × Unit) → Option ByteArray) : (List Int × List Int × (Int × ByteArray × Int × Int × Int × Int × Unit) × Unit) → Option Bool
  | (x0, x1, x2, _) =>
    (f24 (())).bind fun v13 =>
    cond (!v13) (
    (f24 (())).bind fun v28 =>
    some v28) (
    (f26 ((x2.1, x2.2.1, x2.2.2.1, x2.2.2.2.1, x2.2.2.2.2.1, x2.2.2.2.2.2.1, ()), ())).bind fun v17 =>
    cond (!v17) (
    (f24 (())).bind fun v28 =>
    some v28) (
    cond (igt (iadd .i64 (x0.length : Int) (x1.length : Int)) 500) (
    (f24 (())).bind fun v28 =>
    some v28) (
    (f31 (x0, (x2.1, x2.2.1, x2.2.2.1, x2.2.2.2.1, x2.2.2.2.2.1, x2.2.2.2.2.2.1, ()), ())).bind fun v32 =>
    (f32 (x1, v32.1, x2.2.2.2.2.1, ())).bind fun v40 =>
    (f17 (())).bind fun v43 =>
    (f34 ((v43.1, v43.2.1, ()), x0, (x2.1, x2.2.1, x2.2.2.1, x2.2.2.2.1, x2.2.2.2.2.1, x2.2.2.2.2.2.1, ()), ())).bind fun v47 =>
    (f34 ((v43.1, v43.2.1, ()), x1, (x2.1, x2.2.1, x2.2.2.1, x2.2.2.2.1, x2.2.2.2.2.1, x2.2.2.2.2.2.1, ()), ())).bind fun v51 =>
    cond (ieq v32.2.1 0) (
    cond ((ieq v40.2.1 0) == (seq v47 v51)) (
    cond (seq v47 v51) (
    some true) (
    some (ieq v40.2.1 15))) (
    some false)) (
    some false))))
def w19_TokenKeys (x : (List Int × List Int × (Int × ByteArray × Int × Int × Int × Int × Unit) × Unit)) : Option Bool := w19_TokenKeys.b r01_Make w19_awake r19_Form token_Sign token_Verify r19_Sign x
/-- muniment/munimentlaw19.TokenTold -/
def w19_TokenTold.b (f24 : Unit → Option Bool) (f26 : ((Int × ByteArray × Int × Int × Int × Int × Unit) × Unit) → Option Bool) (f31 : (List Int × (Int × ByteArray × Int × Int × Int × Int × Unit) × Unit) → Option (ByteArray × Int × Unit)) (f32 : (List Int × ByteArray × Int × Unit) → Option ((Int × ByteArray × Int × Int × Int × Int × Unit) × Int × Unit)) : (List Int × (Int × ByteArray × Int × Int × Int × Int × Unit) × (Int × ByteArray × Int × Int × Int × Int × Unit) × Unit) → Option Bool
  | (x0, x1, x2, _) =>
    (f24 (())).bind fun v15 =>
    cond (!v15) (
    (f24 (())).bind fun v32 =>
    some v32) (
    (f26 ((x1.1, x1.2.1, x1.2.2.1, x1.2.2.2.1, x1.2.2.2.2.1, x1.2.2.2.2.2.1, ()), ())).bind fun v19 =>
    cond (!v19) (
    (f24 (())).bind fun v32 =>
    some v32) (
    (f26 ((x2.1, x2.2.1, x2.2.2.1, x2.2.2.2.1, x2.2.2.2.2.1, x2.2.2.2.2.2.1, ()), ())).bind fun v24 =>
    cond (!v24) (
    (f24 (())).bind fun v32 =>
    some v32) (
    cond (igt (x0.length : Int) 200) (
    (f24 (())).bind fun v32 =>
    some v32) (
    (f31 (x0, (x1.1, x1.2.1, x1.2.2.1, x1.2.2.2.1, x1.2.2.2.2.1, x1.2.2.2.2.2.1, ()), ())).bind fun v36 =>
    (f31 (x0, (x2.1, x2.2.1, x2.2.2.1, x2.2.2.2.1, x2.2.2.2.2.1, x2.2.2.2.2.2.1, ()), ())).bind fun v42 =>
    (f32 (x0, v36.1, x1.2.2.2.2.1, ())).bind fun v50 =>
    (f32 (x0, v42.1, x2.2.2.2.2.1, ())).bind fun v58 =>
    cond (ieq v36.2.1 0) (
    cond (ieq v42.2.1 0) (
    cond (ieq v50.2.1 0) (
    cond (ieq v58.2.1 0) (
    cond ((ieq v50.1.1 x1.1) && ((seq v50.1.2.1 x1.2.1) && ((ieq v50.1.2.2.1 x1.2.2.1) && ((ieq v50.1.2.2.2.1 x1.2.2.2.1) && ((ieq v50.1.2.2.2.2.1 x1.2.2.2.2.1) && ((ieq v50.1.2.2.2.2.2.1 x1.2.2.2.2.2.1) && true)))))) (
    cond ((ieq v58.1.1 x2.1) && ((seq v58.1.2.1 x2.2.1) && ((ieq v58.1.2.2.1 x2.2.2.1) && ((ieq v58.1.2.2.2.1 x2.2.2.2.1) && ((ieq v58.1.2.2.2.2.1 x2.2.2.2.2.1) && ((ieq v58.1.2.2.2.2.2.1 x2.2.2.2.2.2.1) && true)))))) (
    some ((seq v36.1 v42.1) == ((ieq x1.1 x2.1) && ((seq x1.2.1 x2.2.1) && ((ieq x1.2.2.1 x2.2.2.1) && ((ieq x1.2.2.2.1 x2.2.2.2.1) && ((ieq x1.2.2.2.2.1 x2.2.2.2.2.1) && ((ieq x1.2.2.2.2.2.1 x2.2.2.2.2.2.1) && true)))))))) (
    some false)) (
    some false)) (
    some false)) (
    some false)) (
    some false)) (
    some false)))))
def w19_TokenTold (x : (List Int × (Int × ByteArray × Int × Int × Int × Int × Unit) × (Int × ByteArray × Int × Int × Int × Int × Unit) × Unit)) : Option Bool := w19_TokenTold.b w19_awake r19_Form token_Sign token_Verify x
end Go.Px
