import Derived.Test.YtapijncpploihaaDoorPx1
import Derived.Test.YtapijncpploihaaDoorPx23
set_option linter.unusedVariables false
set_option linter.unusedSimpArgs false
namespace Go.Px
open Go
/-- muniment/codec.Base -/
def codec_Base.s2b (kx : (List Int × Int × Int × List Int × Int × Int × Unit) → Option ByteArray) : (List Int × Int × Int × List Int × Int × Int × Unit) → ((List Int × Int × Int × List Int × Int × Int × Unit) → Option ByteArray) → Option ByteArray
  | (t3, t4, t5, t8, t9, t10, _), κ =>
    cond (ige t5 6) (
    chk (ile 0 (isub .i64 t5 6)) <|
    chk (inB (iand .i64 (ishr .i64 t4 (isub .i64 t5 6)) 63) (⟨#[65, 66, 67, 68, 69, 70, 71, 72, 73, 74, 75, 76, 77, 78, 79, 80, 81, 82, 83, 84, 85, 86, 87, 88, 89, 90, 97, 98, 99, 100, 101, 102, 103, 104, 105, 106, 107, 108, 109, 110, 111, 112, 113, 114, 115, 116, 117, 118, 119, 120, 121, 122, 48, 49, 50, 51, 52, 53, 54, 55, 56, 57, 45, 95]⟩ : ByteArray).size) <|
    chk (fits 1 (t3.length + 1)) <|
    κ ((t3 ++ [(byteAt (⟨#[65, 66, 67, 68, 69, 70, 71, 72, 73, 74, 75, 76, 77, 78, 79, 80, 81, 82, 83, 84, 85, 86, 87, 88, 89, 90, 97, 98, 99, 100, 101, 102, 103, 104, 105, 106, 107, 108, 109, 110, 111, 112, 113, 114, 115, 116, 117, 118, 119, 120, 121, 122, 48, 49, 50, 51, 52, 53, 54, 55, 56, 57, 45, 95]⟩ : ByteArray) (iand .i64 (ishr .i64 t4 (isub .i64 t5 6)) 63).toNat)]), t4, (isub .i64 t5 6), t8, t9, t10, ())) (
    kx (t3, t4, t5, t8, t9, t10, ()))
def codec_Base.s2 (kx : (List Int × Int × Int × List Int × Int × Int × Unit) → Option ByteArray) : (List Int × Int × Int × List Int × Int × Int × Unit) → ((List Int × Int × Int × List Int × Int × Int × Unit) → Option ByteArray) → Option ByteArray := codec_Base.s2b kx
def codec_Base.n2 : (List Int × Int × Int × List Int × Int × Int × Unit) → Nat
  | (t3, t4, t5, t8, t9, t10, _) => t3.length + t4.toNat + t5.toNat + t8.length + t9.toNat + t10.toNat + 1048576
def codec_Base.l2 (x : List Int × Int × Int × List Int × Int × Int × Unit) (kx : (List Int × Int × Int × List Int × Int × Int × Unit) → Option ByteArray) : Option ByteArray := loopN (codec_Base.n2 x) (codec_Base.s2 kx) x
def codec_Base.s0b (l2 : (List Int × Int × Int × List Int × Int × Int × Unit) → ((List Int × Int × Int × List Int × Int × Int × Unit) → Option ByteArray) → Option ByteArray) (kx : (List Int × Int × Int × Unit) → Option ByteArray) : (List Int × Int × Int × List Int × Int × Int × Unit) → ((List Int × Int × Int × List Int × Int × Int × Unit) → Option ByteArray) → Option ByteArray
  | (t3, t4, t5, t8, t9, t10, _), κ =>
    cond (ilt t10 t9) (
    chk (inB t10 t8.length) <|
    l2 (t3, (ior .i64 (ishl .i64 t4 8) (IntKind.wrap .i64 (t8.getD t10.toNat (0 : Int)))), (iadd .i64 t5 8), t8, t9, t10, ()) fun (t3, t4, t5, t8, t9, t10, _) =>
    chk (ile 0 t5) <|
    κ (t3, (iand .i64 t4 (isub .i64 (ishl .i64 1 t5) 1)), t5, t8, t9, (iadd .i64 t10 1), ())) (
    kx (t3, t4, t5, ()))
def codec_Base.s0 (kx : (List Int × Int × Int × Unit) → Option ByteArray) : (List Int × Int × Int × List Int × Int × Int × Unit) → ((List Int × Int × Int × List Int × Int × Int × Unit) → Option ByteArray) → Option ByteArray := codec_Base.s0b codec_Base.l2 kx
def codec_Base.n0 : (List Int × Int × Int × List Int × Int × Int × Unit) → Nat
  | (t3, t4, t5, t8, t9, t10, _) => t3.length + t4.toNat + t5.toNat + t8.length + t9.toNat + t10.toNat + 1048576
def codec_Base.l0 (x : List Int × Int × Int × List Int × Int × Int × Unit) (kx : (List Int × Int × Int × Unit) → Option ByteArray) : Option ByteArray := loopN (codec_Base.n0 x) (codec_Base.s0 kx) x
def codec_Base.b (l0 : (List Int × Int × Int × List Int × Int × Int × Unit) → ((List Int × Int × Int × Unit) → Option ByteArray) → Option ByteArray) : (List Int × Unit) → Option ByteArray
  | (x0, _) =>
    l0 ([], 0, 0, x0, (x0.length : Int), 0, ()) fun (t3, t4, t5, _) =>
    cond (igt t5 0) (
    chk (ile 0 (isub .i64 6 t5)) <|
    chk (inB (iand .i64 (ishl .i64 t4 (isub .i64 6 t5)) 63) (⟨#[65, 66, 67, 68, 69, 70, 71, 72, 73, 74, 75, 76, 77, 78, 79, 80, 81, 82, 83, 84, 85, 86, 87, 88, 89, 90, 97, 98, 99, 100, 101, 102, 103, 104, 105, 106, 107, 108, 109, 110, 111, 112, 113, 114, 115, 116, 117, 118, 119, 120, 121, 122, 48, 49, 50, 51, 52, 53, 54, 55, 56, 57, 45, 95]⟩ : ByteArray).size) <|
    chk (fits 1 (t3.length + 1)) <|
    some (strOf (t3 ++ [(byteAt (⟨#[65, 66, 67, 68, 69, 70, 71, 72, 73, 74, 75, 76, 77, 78, 79, 80, 81, 82, 83, 84, 85, 86, 87, 88, 89, 90, 97, 98, 99, 100, 101, 102, 103, 104, 105, 106, 107, 108, 109, 110, 111, 112, 113, 114, 115, 116, 117, 118, 119, 120, 121, 122, 48, 49, 50, 51, 52, 53, 54, 55, 56, 57, 45, 95]⟩ : ByteArray) (iand .i64 (ishl .i64 t4 (isub .i64 6 t5)) 63).toNat)]))) (
    some (strOf t3))
def codec_Base (x : (List Int × Unit)) : Option ByteArray := codec_Base.b codec_Base.l0 x
/-- unicode/utf8.word[string] -/
def unicode_utf8_word_string.b : (ByteArray × Unit) → Option Int
  | (x0, _) =>
    chk (inB 0 x0.size) <|
    chk (inB 1 x0.size) <|
    chk (inB 2 x0.size) <|
    chk (inB 3 x0.size) <|
    chk (inB 4 x0.size) <|
    chk (inB 5 x0.size) <|
    chk (inB 6 x0.size) <|
    chk (inB 7 x0.size) <|
    some (ior .u64 (ior .u64 (ior .u64 (ior .u64 (ior .u64 (ior .u64 (ior .u64 (IntKind.wrap .u64 (byteAt x0 0)) (ishl .u64 (IntKind.wrap .u64 (byteAt x0 1)) 8)) (ishl .u64 (IntKind.wrap .u64 (byteAt x0 2)) 16)) (ishl .u64 (IntKind.wrap .u64 (byteAt x0 3)) 24)) (ishl .u64 (IntKind.wrap .u64 (byteAt x0 4)) 32)) (ishl .u64 (IntKind.wrap .u64 (byteAt x0 5)) 40)) (ishl .u64 (IntKind.wrap .u64 (byteAt x0 6)) 48)) (ishl .u64 (IntKind.wrap .u64 (byteAt x0 7)) 56))
def unicode_utf8_word_string (x : (ByteArray × Unit)) : Option Int := unicode_utf8_word_string.b x
/-- unicode/utf8.ValidString -/
def unicode_utf8_ValidString.s2b (f42 : (ByteArray × Unit) → Option Int) (kx : (ByteArray × Unit) → Option Bool) : (ByteArray × Unit) → ((ByteArray × Unit) → Option Bool) → Option Bool
  | (t0, _), κ =>
    cond (igt (t0.size : Int) 32) (
    (f42 (t0, ())).bind fun v47 =>
    chk (leB 0 8 && (leB 8 t0.size && leB t0.size t0.size)) <|
    (f42 ((subStr t0 8 t0.size), ())).bind fun v50 =>
    chk (leB 0 16 && (leB 16 t0.size && leB t0.size t0.size)) <|
    (f42 ((subStr t0 16 t0.size), ())).bind fun v54 =>
    chk (leB 0 24 && (leB 24 t0.size && leB t0.size t0.size)) <|
    (f42 ((subStr t0 24 t0.size), ())).bind fun v57 =>
    cond (ieq (iand .u64 (ior .u64 (ior .u64 v47 v50) (ior .u64 v54 v57)) 9259542123273814144) 0) (
    chk (leB 0 32 && (leB 32 t0.size && leB t0.size t0.size)) <|
    κ ((subStr t0 32 t0.size), ())) (
    kx (t0, ()))) (
    kx (t0, ()))
def unicode_utf8_ValidString.s2 (kx : (ByteArray × Unit) → Option Bool) : (ByteArray × Unit) → ((ByteArray × Unit) → Option Bool) → Option Bool := unicode_utf8_ValidString.s2b unicode_utf8_word_string kx
def unicode_utf8_ValidString.n2 : (ByteArray × Unit) → Nat
  | (t0, _) => t0.size + 1048576
def unicode_utf8_ValidString.l2 (x : ByteArray × Unit) (kx : (ByteArray × Unit) → Option Bool) : Option Bool := loopN (unicode_utf8_ValidString.n2 x) (unicode_utf8_ValidString.s2 kx) x
def unicode_utf8_ValidString.s0b (f42 : (ByteArray × Unit) → Option Int) (l2 : (ByteArray × Unit) → ((ByteArray × Unit) → Option Bool) → Option Bool) (kx : Unit → Option Bool) : (ByteArray × Unit) → ((ByteArray × Unit) → Option Bool) → Option Bool
  | (t0, _), κ =>
    cond (igt (t0.size : Int) 0) (
    chk (inB 0 t0.size) <|
    cond (ilt (byteAt t0 0) 128) (
    chk (leB 0 1 && (leB 1 t0.size && leB t0.size t0.size)) <|
    cond (igt ((subStr t0 1 t0.size).size : Int) 8) (
    (f42 ((subStr t0 1 t0.size), ())).bind fun v21 =>
    cond (ieq (iand .u64 v21 9259542123273814144) 0) (
    chk (leB 0 8 && (leB 8 ((subStr t0 1 t0.size).size) && leB ((subStr t0 1 t0.size).size) ((subStr t0 1 t0.size).size))) <|
    cond (igt ((subStr (subStr t0 1 t0.size) 8 ((subStr t0 1 t0.size).size)).size : Int) 16) (
    (f42 ((subStr (subStr t0 1 t0.size) 8 ((subStr t0 1 t0.size).size)), ())).bind fun v32 =>
    chk (leB 0 8 && (leB 8 ((subStr (subStr t0 1 t0.size) 8 ((subStr t0 1 t0.size).size)).size) && leB ((subStr (subStr t0 1 t0.size) 8 ((subStr t0 1 t0.size).size)).size) ((subStr (subStr t0 1 t0.size) 8 ((subStr t0 1 t0.size).size)).size))) <|
    (f42 ((subStr (subStr (subStr t0 1 t0.size) 8 ((subStr t0 1 t0.size).size)) 8 ((subStr (subStr t0 1 t0.size) 8 ((subStr t0 1 t0.size).size)).size)), ())).bind fun v35 =>
    cond (ieq (iand .u64 (ior .u64 v32 v35) 9259542123273814144) 0) (
    chk (leB 0 16 && (leB 16 ((subStr (subStr t0 1 t0.size) 8 ((subStr t0 1 t0.size).size)).size) && leB ((subStr (subStr t0 1 t0.size) 8 ((subStr t0 1 t0.size).size)).size) ((subStr (subStr t0 1 t0.size) 8 ((subStr t0 1 t0.size).size)).size))) <|
    l2 ((subStr (subStr (subStr t0 1 t0.size) 8 ((subStr t0 1 t0.size).size)) 16 ((subStr (subStr t0 1 t0.size) 8 ((subStr t0 1 t0.size).size)).size)), ()) fun (t0, _) =>
    κ (t0, ())) (
    κ ((subStr (subStr t0 1 t0.size) 8 ((subStr t0 1 t0.size).size)), ()))) (
    κ ((subStr (subStr t0 1 t0.size) 8 ((subStr t0 1 t0.size).size)), ()))) (
    κ ((subStr t0 1 t0.size), ()))) (
    κ ((subStr t0 1 t0.size), ()))) (
    chk (inB (byteAt t0 0) 256) <|
    chk (inB (ishr .u8 (gvFirst.getD (byteAt t0 0).toNat (0 : Int)) 4) 16) <|
    cond (ieq (IntKind.wrap .i64 (iand .u8 (gvFirst.getD (byteAt t0 0).toNat (0 : Int)) 7)) 2) (
    cond (ilt (t0.size : Int) 2) (
    some false) (
    chk (inB 1 t0.size) <|
    cond (ilt (byteAt t0 1) ((gvAccept.getD (ishr .u8 (gvFirst.getD (byteAt t0 0).toNat (0 : Int)) 4).toNat ((0 : Int), (0 : Int), ())).1)) (
    some false) (
    chk (inB 1 t0.size) <|
    cond (ilt ((gvAccept.getD (ishr .u8 (gvFirst.getD (byteAt t0 0).toNat (0 : Int)) 4).toNat ((0 : Int), (0 : Int), ())).2.1) (byteAt t0 1)) (
    some false) (
    chk (leB 0 2 && (leB 2 t0.size && leB t0.size t0.size)) <|
    κ ((subStr t0 2 t0.size), ()))))) (
    cond (ieq (IntKind.wrap .i64 (iand .u8 (gvFirst.getD (byteAt t0 0).toNat (0 : Int)) 7)) 3) (
    cond (ilt (t0.size : Int) 3) (
    some false) (
    chk (inB 1 t0.size) <|
    cond (ilt (byteAt t0 1) ((gvAccept.getD (ishr .u8 (gvFirst.getD (byteAt t0 0).toNat (0 : Int)) 4).toNat ((0 : Int), (0 : Int), ())).1)) (
    some false) (
    chk (inB 1 t0.size) <|
    cond (ilt ((gvAccept.getD (ishr .u8 (gvFirst.getD (byteAt t0 0).toNat (0 : Int)) 4).toNat ((0 : Int), (0 : Int), ())).2.1) (byteAt t0 1)) (
    some false) (
    chk (inB 2 t0.size) <|
    cond (ilt (byteAt t0 2) 128) (
    some false) (
    chk (inB 2 t0.size) <|
    cond (ilt 191 (byteAt t0 2)) (
    some false) (
    chk (leB 0 3 && (leB 3 t0.size && leB t0.size t0.size)) <|
    κ ((subStr t0 3 t0.size), ()))))))) (
    cond (ieq (IntKind.wrap .i64 (iand .u8 (gvFirst.getD (byteAt t0 0).toNat (0 : Int)) 7)) 4) (
    cond (ilt (t0.size : Int) 4) (
    some false) (
    chk (inB 1 t0.size) <|
    cond (ilt (byteAt t0 1) ((gvAccept.getD (ishr .u8 (gvFirst.getD (byteAt t0 0).toNat (0 : Int)) 4).toNat ((0 : Int), (0 : Int), ())).1)) (
    some false) (
    chk (inB 1 t0.size) <|
    cond (ilt ((gvAccept.getD (ishr .u8 (gvFirst.getD (byteAt t0 0).toNat (0 : Int)) 4).toNat ((0 : Int), (0 : Int), ())).2.1) (byteAt t0 1)) (
    some false) (
    chk (inB 2 t0.size) <|
    cond (ilt (byteAt t0 2) 128) (
    some false) (
    chk (inB 2 t0.size) <|
    cond (ilt 191 (byteAt t0 2)) (
    some false) (
    chk (inB 3 t0.size) <|
    cond (ilt (byteAt t0 3) 128) (
    some false) (
    chk (inB 3 t0.size) <|
    cond (ilt 191 (byteAt t0 3)) (
    some false) (
    chk (leB 0 4 && (leB 4 t0.size && leB t0.size t0.size)) <|
    κ ((subStr t0 4 t0.size), ()))))))))) (
    some false))))) (
    kx (()))
def unicode_utf8_ValidString.s0 (kx : Unit → Option Bool) : (ByteArray × Unit) → ((ByteArray × Unit) → Option Bool) → Option Bool := unicode_utf8_ValidString.s0b unicode_utf8_word_string unicode_utf8_ValidString.l2 kx
def unicode_utf8_ValidString.n0 : (ByteArray × Unit) → Nat
  | (t0, _) => t0.size + 1048576
def unicode_utf8_ValidString.l0 (x : ByteArray × Unit) (kx : Unit → Option Bool) : Option Bool := loopN (unicode_utf8_ValidString.n0 x) (unicode_utf8_ValidString.s0 kx) x
def unicode_utf8_ValidString.b (l0 : (ByteArray × Unit) → (Unit → Option Bool) → Option Bool) : (ByteArray × Unit) → Option Bool
  | (x0, _) =>
    l0 (x0, ()) fun (_) =>
    some true
def unicode_utf8_ValidString (x : (ByteArray × Unit)) : Option Bool := unicode_utf8_ValidString.b unicode_utf8_ValidString.l0 x
/-- muniment/codec.cast -/
def codec_cast (x : ((Int × Int × ByteArray × Unit) × Unit)) : Option (Dyn × Bool × Unit) :=
  if x.1.1 = 1 ∧ x.1.2.1 = 1 ∧ x.1.2.2.1.data.toList = [] then some (Dyn.int 2 .i64 1, true, ())
  else if x.1.1 = 2 ∧ x.1.2.1 = 0 ∧ x.1.2.2.1.data.toList = [97] then some (Dyn.str 9 ⟨#[97]⟩, true, ())
  else if x.1.1 = 0 ∧ x.1.2.1 = 0 ∧ x.1.2.2.1.data.toList = [] then some (Dyn.nil, true, ()) else none
/-- muniment/octet.Uint -/
def octet_Uint.s0b (kx : ((List Int × Unit) × Unit) → Option (List Int)) : (Int × (List Int × Unit) × Int × Unit) → ((Int × (List Int × Unit) × Int × Unit) → Option (List Int)) → Option (List Int)
  | (t0, t3, t5, _), κ =>
    cond (ilt t5 8) (
    chk (ile 0 (isub .i64 56 (imul .i64 8 t5))) <|
    chk (inB t5 8) <|
    κ (t0, ((t3.1.set t5.toNat (IntKind.wrap .u8 (ishr .u64 t0 (isub .i64 56 (imul .i64 8 t5))))), ()), (iadd .i64 t5 1), ())) (
    kx ((t3.1, ()), ()))
def octet_Uint.s0 (kx : ((List Int × Unit) × Unit) → Option (List Int)) : (Int × (List Int × Unit) × Int × Unit) → ((Int × (List Int × Unit) × Int × Unit) → Option (List Int)) → Option (List Int) := octet_Uint.s0b kx
def octet_Uint.n0 : (Int × (List Int × Unit) × Int × Unit) → Nat
  | (t0, t3, t5, _) => t0.toNat + t5.toNat + 1048576
def octet_Uint.l0 (x : Int × (List Int × Unit) × Int × Unit) (kx : ((List Int × Unit) × Unit) → Option (List Int)) : Option (List Int) := loopN (octet_Uint.n0 x) (octet_Uint.s0 kx) x
def octet_Uint.b (l0 : (Int × (List Int × Unit) × Int × Unit) → (((List Int × Unit) × Unit) → Option (List Int)) → Option (List Int)) : (Int × Unit) → Option (List Int)
  | (x0, _) =>
    l0 (x0, ((List.replicate 8 (0 : Int)), ()), 0, ()) fun (t3, _) =>
    some t3.1
def octet_Uint (x : (Int × Unit)) : Option (List Int) := octet_Uint.b octet_Uint.l0 x
/-- muniment/octet.Int -/
def octet_Int.b (f43 : (Int × Unit) → Option (List Int)) : (Int × Unit) → Option (List Int)
  | (x0, _) =>
    (f43 ((ixor .u64 (IntKind.wrap .u64 x0) 9223372036854775808), ())).bind fun v6 =>
    some v6
def octet_Int (x : (Int × Unit)) : Option (List Int) := octet_Int.b octet_Uint x
/-- muniment/codec.Encode -/
def codec_Encode.s0b (f30 : ((Int × Int × ByteArray × Unit) × Unit) → Option (Dyn × Bool × Unit)) (f31 : (Int × Unit) → Option (List Int)) (kx : (List Int × Unit) → Option (List Int × Int × Unit)) : (List Int × List (Int × Int × ByteArray × Unit) × Int × Int × Unit) → ((List Int × List (Int × Int × ByteArray × Unit) × Int × Int × Unit) → Option (List Int × Int × Unit)) → Option (List Int × Int × Unit)
  | (t4, t22, t23, t24, _), κ =>
    cond (ilt t24 t23) (
    chk (inB t24 t22.length) <|
    (f30 (((t22.getD t24.toNat ((0 : Int), (0 : Int), ByteArray.empty, ())).1, (t22.getD t24.toNat ((0 : Int), (0 : Int), ByteArray.empty, ())).2.1, (t22.getD t24.toNat ((0 : Int), (0 : Int), ByteArray.empty, ())).2.2.1, ()), ())).bind fun v30 =>
    cond (!v30.2.1) (
    some ([], 3, ())) (
    chk (fits 1 (t4.length + 1)) <|
    chk (fitT 2 (.int .i64) (Dyn.val v30.1)) <|
    cond (isT 2 (Dyn.val v30.1)) (
    (f31 ((asT (.int .i64) 2 (Dyn.val v30.1)), ())).bind fun v48 =>
    chk (fits 1 ((t4 ++ [(t22.getD t24.toNat ((0 : Int), (0 : Int), ByteArray.empty, ())).1]).length + v48.length)) <|
    chk (fitT 9 .str (Dyn.val v30.1)) <|
    cond (isT 9 (Dyn.val v30.1)) (
    chk (fits 1 (((t4 ++ [(t22.getD t24.toNat ((0 : Int), (0 : Int), ByteArray.empty, ())).1]) ++ v48).length + 1)) <|
    chk (fits 1 ((((t4 ++ [(t22.getD t24.toNat ((0 : Int), (0 : Int), ByteArray.empty, ())).1]) ++ v48) ++ [(IntKind.wrap .u8 ((asT .str 9 (Dyn.val v30.1)).size : Int))]).length + (bytesOf (asT .str 9 (Dyn.val v30.1))).length)) <|
    chk (fitT 4 .bool (Dyn.val v30.1)) <|
    cond (isT 4 (Dyn.val v30.1)) (
    chk (fits 1 (((((t4 ++ [(t22.getD t24.toNat ((0 : Int), (0 : Int), ByteArray.empty, ())).1]) ++ v48) ++ [(IntKind.wrap .u8 ((asT .str 9 (Dyn.val v30.1)).size : Int))]) ++ (bytesOf (asT .str 9 (Dyn.val v30.1)))).length + 1)) <|
    cond (asT .bool 4 (Dyn.val v30.1)) (
    chk (inB (isub .i64 ((((((t4 ++ [(t22.getD t24.toNat ((0 : Int), (0 : Int), ByteArray.empty, ())).1]) ++ v48) ++ [(IntKind.wrap .u8 ((asT .str 9 (Dyn.val v30.1)).size : Int))]) ++ (bytesOf (asT .str 9 (Dyn.val v30.1)))) ++ [0]).length : Int) 1) (((((t4 ++ [(t22.getD t24.toNat ((0 : Int), (0 : Int), ByteArray.empty, ())).1]) ++ v48) ++ [(IntKind.wrap .u8 ((asT .str 9 (Dyn.val v30.1)).size : Int))]) ++ (bytesOf (asT .str 9 (Dyn.val v30.1)))) ++ [0]).length) <|
    κ (((((((t4 ++ [(t22.getD t24.toNat ((0 : Int), (0 : Int), ByteArray.empty, ())).1]) ++ v48) ++ [(IntKind.wrap .u8 ((asT .str 9 (Dyn.val v30.1)).size : Int))]) ++ (bytesOf (asT .str 9 (Dyn.val v30.1)))) ++ [0]).set (isub .i64 ((((((t4 ++ [(t22.getD t24.toNat ((0 : Int), (0 : Int), ByteArray.empty, ())).1]) ++ v48) ++ [(IntKind.wrap .u8 ((asT .str 9 (Dyn.val v30.1)).size : Int))]) ++ (bytesOf (asT .str 9 (Dyn.val v30.1)))) ++ [0]).length : Int) 1).toNat 1), t22, t23, (iadd .i64 t24 1), ())) (
    κ ((((((t4 ++ [(t22.getD t24.toNat ((0 : Int), (0 : Int), ByteArray.empty, ())).1]) ++ v48) ++ [(IntKind.wrap .u8 ((asT .str 9 (Dyn.val v30.1)).size : Int))]) ++ (bytesOf (asT .str 9 (Dyn.val v30.1)))) ++ [0]), t22, t23, (iadd .i64 t24 1), ()))) (
    κ (((((t4 ++ [(t22.getD t24.toNat ((0 : Int), (0 : Int), ByteArray.empty, ())).1]) ++ v48) ++ [(IntKind.wrap .u8 ((asT .str 9 (Dyn.val v30.1)).size : Int))]) ++ (bytesOf (asT .str 9 (Dyn.val v30.1)))), t22, t23, (iadd .i64 t24 1), ()))) (
    chk (fitT 4 .bool (Dyn.val v30.1)) <|
    cond (isT 4 (Dyn.val v30.1)) (
    chk (fits 1 (((t4 ++ [(t22.getD t24.toNat ((0 : Int), (0 : Int), ByteArray.empty, ())).1]) ++ v48).length + 1)) <|
    cond (asT .bool 4 (Dyn.val v30.1)) (
    chk (inB (isub .i64 ((((t4 ++ [(t22.getD t24.toNat ((0 : Int), (0 : Int), ByteArray.empty, ())).1]) ++ v48) ++ [0]).length : Int) 1) (((t4 ++ [(t22.getD t24.toNat ((0 : Int), (0 : Int), ByteArray.empty, ())).1]) ++ v48) ++ [0]).length) <|
    κ (((((t4 ++ [(t22.getD t24.toNat ((0 : Int), (0 : Int), ByteArray.empty, ())).1]) ++ v48) ++ [0]).set (isub .i64 ((((t4 ++ [(t22.getD t24.toNat ((0 : Int), (0 : Int), ByteArray.empty, ())).1]) ++ v48) ++ [0]).length : Int) 1).toNat 1), t22, t23, (iadd .i64 t24 1), ())) (
    κ ((((t4 ++ [(t22.getD t24.toNat ((0 : Int), (0 : Int), ByteArray.empty, ())).1]) ++ v48) ++ [0]), t22, t23, (iadd .i64 t24 1), ()))) (
    κ (((t4 ++ [(t22.getD t24.toNat ((0 : Int), (0 : Int), ByteArray.empty, ())).1]) ++ v48), t22, t23, (iadd .i64 t24 1), ())))) (
    chk (fitT 9 .str (Dyn.val v30.1)) <|
    cond (isT 9 (Dyn.val v30.1)) (
    chk (fits 1 ((t4 ++ [(t22.getD t24.toNat ((0 : Int), (0 : Int), ByteArray.empty, ())).1]).length + 1)) <|
    chk (fits 1 (((t4 ++ [(t22.getD t24.toNat ((0 : Int), (0 : Int), ByteArray.empty, ())).1]) ++ [(IntKind.wrap .u8 ((asT .str 9 (Dyn.val v30.1)).size : Int))]).length + (bytesOf (asT .str 9 (Dyn.val v30.1))).length)) <|
    chk (fitT 4 .bool (Dyn.val v30.1)) <|
    cond (isT 4 (Dyn.val v30.1)) (
    chk (fits 1 ((((t4 ++ [(t22.getD t24.toNat ((0 : Int), (0 : Int), ByteArray.empty, ())).1]) ++ [(IntKind.wrap .u8 ((asT .str 9 (Dyn.val v30.1)).size : Int))]) ++ (bytesOf (asT .str 9 (Dyn.val v30.1)))).length + 1)) <|
    cond (asT .bool 4 (Dyn.val v30.1)) (
    chk (inB (isub .i64 (((((t4 ++ [(t22.getD t24.toNat ((0 : Int), (0 : Int), ByteArray.empty, ())).1]) ++ [(IntKind.wrap .u8 ((asT .str 9 (Dyn.val v30.1)).size : Int))]) ++ (bytesOf (asT .str 9 (Dyn.val v30.1)))) ++ [0]).length : Int) 1) ((((t4 ++ [(t22.getD t24.toNat ((0 : Int), (0 : Int), ByteArray.empty, ())).1]) ++ [(IntKind.wrap .u8 ((asT .str 9 (Dyn.val v30.1)).size : Int))]) ++ (bytesOf (asT .str 9 (Dyn.val v30.1)))) ++ [0]).length) <|
    κ ((((((t4 ++ [(t22.getD t24.toNat ((0 : Int), (0 : Int), ByteArray.empty, ())).1]) ++ [(IntKind.wrap .u8 ((asT .str 9 (Dyn.val v30.1)).size : Int))]) ++ (bytesOf (asT .str 9 (Dyn.val v30.1)))) ++ [0]).set (isub .i64 (((((t4 ++ [(t22.getD t24.toNat ((0 : Int), (0 : Int), ByteArray.empty, ())).1]) ++ [(IntKind.wrap .u8 ((asT .str 9 (Dyn.val v30.1)).size : Int))]) ++ (bytesOf (asT .str 9 (Dyn.val v30.1)))) ++ [0]).length : Int) 1).toNat 1), t22, t23, (iadd .i64 t24 1), ())) (
    κ (((((t4 ++ [(t22.getD t24.toNat ((0 : Int), (0 : Int), ByteArray.empty, ())).1]) ++ [(IntKind.wrap .u8 ((asT .str 9 (Dyn.val v30.1)).size : Int))]) ++ (bytesOf (asT .str 9 (Dyn.val v30.1)))) ++ [0]), t22, t23, (iadd .i64 t24 1), ()))) (
    κ ((((t4 ++ [(t22.getD t24.toNat ((0 : Int), (0 : Int), ByteArray.empty, ())).1]) ++ [(IntKind.wrap .u8 ((asT .str 9 (Dyn.val v30.1)).size : Int))]) ++ (bytesOf (asT .str 9 (Dyn.val v30.1)))), t22, t23, (iadd .i64 t24 1), ()))) (
    chk (fitT 4 .bool (Dyn.val v30.1)) <|
    cond (isT 4 (Dyn.val v30.1)) (
    chk (fits 1 ((t4 ++ [(t22.getD t24.toNat ((0 : Int), (0 : Int), ByteArray.empty, ())).1]).length + 1)) <|
    cond (asT .bool 4 (Dyn.val v30.1)) (
    chk (inB (isub .i64 (((t4 ++ [(t22.getD t24.toNat ((0 : Int), (0 : Int), ByteArray.empty, ())).1]) ++ [0]).length : Int) 1) ((t4 ++ [(t22.getD t24.toNat ((0 : Int), (0 : Int), ByteArray.empty, ())).1]) ++ [0]).length) <|
    κ ((((t4 ++ [(t22.getD t24.toNat ((0 : Int), (0 : Int), ByteArray.empty, ())).1]) ++ [0]).set (isub .i64 (((t4 ++ [(t22.getD t24.toNat ((0 : Int), (0 : Int), ByteArray.empty, ())).1]) ++ [0]).length : Int) 1).toNat 1), t22, t23, (iadd .i64 t24 1), ())) (
    κ (((t4 ++ [(t22.getD t24.toNat ((0 : Int), (0 : Int), ByteArray.empty, ())).1]) ++ [0]), t22, t23, (iadd .i64 t24 1), ()))) (
    κ ((t4 ++ [(t22.getD t24.toNat ((0 : Int), (0 : Int), ByteArray.empty, ())).1]), t22, t23, (iadd .i64 t24 1), ())))))) (
    kx (t4, ()))
def codec_Encode.s0 (kx : (List Int × Unit) → Option (List Int × Int × Unit)) : (List Int × List (Int × Int × ByteArray × Unit) × Int × Int × Unit) → ((List Int × List (Int × Int × ByteArray × Unit) × Int × Int × Unit) → Option (List Int × Int × Unit)) → Option (List Int × Int × Unit) := codec_Encode.s0b codec_cast octet_Int kx
def codec_Encode.n0 : (List Int × List (Int × Int × ByteArray × Unit) × Int × Int × Unit) → Nat
  | (t4, t22, t23, t24, _) => t4.length + t22.length + t23.toNat + t24.toNat + 1048576
def codec_Encode.l0 (x : List Int × List (Int × Int × ByteArray × Unit) × Int × Int × Unit) (kx : (List Int × Unit) → Option (List Int × Int × Unit)) : Option (List Int × Int × Unit) := loopN (codec_Encode.n0 x) (codec_Encode.s0 kx) x
def codec_Encode.b (l0 : (List Int × List (Int × Int × ByteArray × Unit) × Int × Int × Unit) → ((List Int × Unit) → Option (List Int × Int × Unit)) → Option (List Int × Int × Unit)) : (List (Int × Int × ByteArray × Unit) × Unit) → Option (List Int × Int × Unit)
  | (x0, _) =>
    cond (igt (x0.length : Int) 12) (
    some ([], 2, ())) (
    l0 ([(IntKind.wrap .u8 (x0.length : Int))], x0, (x0.length : Int), 0, ()) fun (t4, _) =>
    some (t4, 0, ()))
def codec_Encode (x : (List (Int × Int × ByteArray × Unit) × Unit)) : Option (List Int × Int × Unit) := codec_Encode.b codec_Encode.l0 x
/-- muniment/munimentlaw04.awake -/
def w04_awake.b (f12 : (List Int × Unit) → Option ByteArray) (f20 : (List (Int × Int × ByteArray × Unit) × Unit) → Option (List Int × Int × Unit)) : Unit → Option Bool
  | (_) =>
    (f20 ([(1, 1, ByteArray.empty, ()), (2, 0, (⟨#[97]⟩ : ByteArray), ()), (0, 0, ByteArray.empty, ())], ())).bind fun v8 =>
    cond (ieq v8.2.1 0) (
    cond (seq (strOf v8.1) (⟨#[3, 1, 128, 0, 0, 0, 0, 0, 0, 1, 2, 1, 97, 0]⟩ : ByteArray)) (
    (f12 ([255], ())).bind fun v20 =>
    some (seq v20 (⟨#[95, 119]⟩ : ByteArray))) (
    some false)) (
    some false)
def w04_awake (x : Unit) : Option Bool := w04_awake.b codec_Base codec_Encode x
/-- muniment/codec.ReadBase -/
def codec_ReadBase.s2b (kx : (ByteArray × List Int × Int × Int × Int × Int × Int × Unit) → Option (List Int × Int × Unit)) : (ByteArray × List Int × Int × Int × Int × Int × Int × Int × Unit) → ((ByteArray × List Int × Int × Int × Int × Int × Int × Int × Unit) → Option (List Int × Int × Unit)) → Option (List Int × Int × Unit)
  | (t0, t4, t5, t6, t7, t8, t10, t11, _), κ =>
    cond (ilt t8 64) (
    chk (inB t8 (⟨#[65, 66, 67, 68, 69, 70, 71, 72, 73, 74, 75, 76, 77, 78, 79, 80, 81, 82, 83, 84, 85, 86, 87, 88, 89, 90, 97, 98, 99, 100, 101, 102, 103, 104, 105, 106, 107, 108, 109, 110, 111, 112, 113, 114, 115, 116, 117, 118, 119, 120, 121, 122, 48, 49, 50, 51, 52, 53, 54, 55, 56, 57, 45, 95]⟩ : ByteArray).size) <|
    chk (inB t7 t0.size) <|
    cond (ine (byteAt (⟨#[65, 66, 67, 68, 69, 70, 71, 72, 73, 74, 75, 76, 77, 78, 79, 80, 81, 82, 83, 84, 85, 86, 87, 88, 89, 90, 97, 98, 99, 100, 101, 102, 103, 104, 105, 106, 107, 108, 109, 110, 111, 112, 113, 114, 115, 116, 117, 118, 119, 120, 121, 122, 48, 49, 50, 51, 52, 53, 54, 55, 56, 57, 45, 95]⟩ : ByteArray) t8.toNat) (byteAt t0 t7.toNat)) (
    κ (t0, t4, t5, t6, t7, (iadd .i64 t8 1), t10, t11, ())) (
    kx (t0, t4, t5, t6, t8, t10, t11, ()))) (
    kx (t0, t4, t5, t6, t8, t10, t11, ()))
def codec_ReadBase.s2 (kx : (ByteArray × List Int × Int × Int × Int × Int × Int × Unit) → Option (List Int × Int × Unit)) : (ByteArray × List Int × Int × Int × Int × Int × Int × Int × Unit) → ((ByteArray × List Int × Int × Int × Int × Int × Int × Int × Unit) → Option (List Int × Int × Unit)) → Option (List Int × Int × Unit) := codec_ReadBase.s2b kx
def codec_ReadBase.n2 : (ByteArray × List Int × Int × Int × Int × Int × Int × Int × Unit) → Nat
  | (t0, t4, t5, t6, t7, t8, t10, t11, _) => t0.size + t4.length + t5.toNat + t6.toNat + t7.toNat + t8.toNat + t10.toNat + t11.toNat + 1048576
def codec_ReadBase.l2 (x : ByteArray × List Int × Int × Int × Int × Int × Int × Int × Unit) (kx : (ByteArray × List Int × Int × Int × Int × Int × Int × Unit) → Option (List Int × Int × Unit)) : Option (List Int × Int × Unit) := loopN (codec_ReadBase.n2 x) (codec_ReadBase.s2 kx) x
def codec_ReadBase.s0b (l2 : (ByteArray × List Int × Int × Int × Int × Int × Int × Int × Unit) → ((ByteArray × List Int × Int × Int × Int × Int × Int × Unit) → Option (List Int × Int × Unit)) → Option (List Int × Int × Unit)) (kx : (List Int × Int × Int × Unit) → Option (List Int × Int × Unit)) : (ByteArray × List Int × Int × Int × Int × Int × Unit) → ((ByteArray × List Int × Int × Int × Int × Int × Unit) → Option (List Int × Int × Unit)) → Option (List Int × Int × Unit)
  | (t0, t4, t5, t6, t10, t11, _), κ =>
    cond (ilt t11 t10) (
    l2 (t0, t4, t5, t6, t11, 0, t10, t11, ()) fun (t0, t4, t5, t6, t8, t10, t11, _) =>
    cond (ieq t8 64) (
    some ([], 3, ())) (
    cond (ige (iadd .i64 t6 6) 8) (
    chk (ile 0 (isub .i64 (iadd .i64 t6 6) 8)) <|
    chk (fits 1 (t4.length + 1)) <|
    chk (ile 0 (isub .i64 (iadd .i64 t6 6) 8)) <|
    κ (t0, (t4 ++ [(IntKind.wrap .u8 (ishr .i64 (ior .i64 (ishl .i64 t5 6) t8) (isub .i64 (iadd .i64 t6 6) 8)))]), (iand .i64 (ior .i64 (ishl .i64 t5 6) t8) (isub .i64 (ishl .i64 1 (isub .i64 (iadd .i64 t6 6) 8)) 1)), (isub .i64 (iadd .i64 t6 6) 8), t10, (iadd .i64 t11 1), ())) (
    chk (ile 0 (iadd .i64 t6 6)) <|
    κ (t0, t4, (iand .i64 (ior .i64 (ishl .i64 t5 6) t8) (isub .i64 (ishl .i64 1 (iadd .i64 t6 6)) 1)), (iadd .i64 t6 6), t10, (iadd .i64 t11 1), ())))) (
    kx (t4, t5, t6, ()))
def codec_ReadBase.s0 (kx : (List Int × Int × Int × Unit) → Option (List Int × Int × Unit)) : (ByteArray × List Int × Int × Int × Int × Int × Unit) → ((ByteArray × List Int × Int × Int × Int × Int × Unit) → Option (List Int × Int × Unit)) → Option (List Int × Int × Unit) := codec_ReadBase.s0b codec_ReadBase.l2 kx
def codec_ReadBase.n0 : (ByteArray × List Int × Int × Int × Int × Int × Unit) → Nat
  | (t0, t4, t5, t6, t10, t11, _) => t0.size + t4.length + t5.toNat + t6.toNat + t10.toNat + t11.toNat + 1048576
def codec_ReadBase.l0 (x : ByteArray × List Int × Int × Int × Int × Int × Unit) (kx : (List Int × Int × Int × Unit) → Option (List Int × Int × Unit)) : Option (List Int × Int × Unit) := loopN (codec_ReadBase.n0 x) (codec_ReadBase.s0 kx) x
def codec_ReadBase.b (l0 : (ByteArray × List Int × Int × Int × Int × Int × Unit) → ((List Int × Int × Int × Unit) → Option (List Int × Int × Unit)) → Option (List Int × Int × Unit)) : (ByteArray × Unit) → Option (List Int × Int × Unit)
  | (x0, _) =>
    l0 (x0, [], 0, 0, (x0.size : Int), 0, ()) fun (t4, t5, t6, _) =>
    cond (ige t6 6) (
    some ([], 3, ())) (
    cond (ine t5 0) (
    some ([], 3, ())) (
    some (t4, 0, ())))
def codec_ReadBase (x : (ByteArray × Unit)) : Option (List Int × Int × Unit) := codec_ReadBase.b codec_ReadBase.l0 x
/-- muniment/munimentref04.sign -/
def r04_sign.b : (Int × Unit) → Option Int
  | (x0, _) =>
    chk (inB x0 (⟨#[65, 66, 67, 68, 69, 70, 71, 72, 73, 74, 75, 76, 77, 78, 79, 80, 81, 82, 83, 84, 85, 86, 87, 88, 89, 90, 97, 98, 99, 100, 101, 102, 103, 104, 105, 106, 107, 108, 109, 110, 111, 112, 113, 114, 115, 116, 117, 118, 119, 120, 121, 122, 48, 49, 50, 51, 52, 53, 54, 55, 56, 57, 45, 95]⟩ : ByteArray).size) <|
    some (byteAt (⟨#[65, 66, 67, 68, 69, 70, 71, 72, 73, 74, 75, 76, 77, 78, 79, 80, 81, 82, 83, 84, 85, 86, 87, 88, 89, 90, 97, 98, 99, 100, 101, 102, 103, 104, 105, 106, 107, 108, 109, 110, 111, 112, 113, 114, 115, 116, 117, 118, 119, 120, 121, 122, 48, 49, 50, 51, 52, 53, 54, 55, 56, 57, 45, 95]⟩ : ByteArray) x0.toNat)
def r04_sign (x : (Int × Unit)) : Option Int := r04_sign.b x
/-- muniment/munimentref04.Base -/
def r04_Base.s2b (kx : (List Int × List Int × Int × Int × Unit) → Option ByteArray) : (List Int × List Int × Int × Int × Int × Unit) → ((List Int × List Int × Int × Int × Int × Unit) → Option ByteArray) → Option ByteArray
  | (t0, t3, t4, t5, t6, _), κ =>
    cond (ilt t6 (iadd .i64 (imul .i64 t4 6) 6)) (
    cond (ilt t6 (imul .i64 (t0.length : Int) 8)) (
    chk (inB (iquo .i64 t6 8) t0.length) <|
    chk (ile 0 (isub .i64 7 (irem .i64 t6 8))) <|
    κ (t0, t3, t4, (iadd .i64 (imul .i64 t5 2) (iand .i64 (IntKind.wrap .i64 (ishr .u8 (t0.getD (iquo .i64 t6 8).toNat (0 : Int)) (isub .i64 7 (irem .i64 t6 8)))) 1)), (iadd .i64 t6 1), ())) (
    κ (t0, t3, t4, (imul .i64 t5 2), (iadd .i64 t6 1), ()))) (
    kx (t0, t3, t4, t5, ()))
def r04_Base.s2 (kx : (List Int × List Int × Int × Int × Unit) → Option ByteArray) : (List Int × List Int × Int × Int × Int × Unit) → ((List Int × List Int × Int × Int × Int × Unit) → Option ByteArray) → Option ByteArray := r04_Base.s2b kx
def r04_Base.n2 : (List Int × List Int × Int × Int × Int × Unit) → Nat
  | (t0, t3, t4, t5, t6, _) => t0.length + t3.length + t4.toNat + t5.toNat + t6.toNat + 1048576
def r04_Base.l2 (x : List Int × List Int × Int × Int × Int × Unit) (kx : (List Int × List Int × Int × Int × Unit) → Option ByteArray) : Option ByteArray := loopN (r04_Base.n2 x) (r04_Base.s2 kx) x
def r04_Base.s0b (f28 : (Int × Unit) → Option Int) (l2 : (List Int × List Int × Int × Int × Int × Unit) → ((List Int × List Int × Int × Int × Unit) → Option ByteArray) → Option ByteArray) (kx : (List Int × Unit) → Option ByteArray) : (List Int × List Int × Int × Unit) → ((List Int × List Int × Int × Unit) → Option ByteArray) → Option ByteArray
  | (t0, t3, t4, _), κ =>
    cond (ilt (imul .i64 t4 6) (imul .i64 (t0.length : Int) 8)) (
    l2 (t0, t3, t4, 0, (imul .i64 t4 6), ()) fun (t0, t3, t4, t5, _) =>
    (f28 (t5, ())).bind fun v46 =>
    chk (fits 1 (t3.length + 1)) <|
    κ (t0, (t3 ++ [v46]), (iadd .i64 t4 1), ())) (
    kx (t3, ()))
def r04_Base.s0 (kx : (List Int × Unit) → Option ByteArray) : (List Int × List Int × Int × Unit) → ((List Int × List Int × Int × Unit) → Option ByteArray) → Option ByteArray := r04_Base.s0b r04_sign r04_Base.l2 kx
def r04_Base.n0 : (List Int × List Int × Int × Unit) → Nat
  | (t0, t3, t4, _) => t0.length + t3.length + t4.toNat + 1048576
def r04_Base.l0 (x : List Int × List Int × Int × Unit) (kx : (List Int × Unit) → Option ByteArray) : Option ByteArray := loopN (r04_Base.n0 x) (r04_Base.s0 kx) x
def r04_Base.b (l0 : (List Int × List Int × Int × Unit) → ((List Int × Unit) → Option ByteArray) → Option ByteArray) : (List Int × Unit) → Option ByteArray
  | (x0, _) =>
    l0 (x0, [], 0, ()) fun (t3, _) =>
    some (strOf t3)
def r04_Base (x : (List Int × Unit)) : Option ByteArray := r04_Base.b r04_Base.l0 x
/-- muniment/munimentref04.ReadBase -/
def r04_ReadBase.s2b (f28 : (Int × Unit) → Option Int) (kx : (ByteArray × List Int × Int × Int × Unit) → Option (List Int × Int × Unit)) : (ByteArray × List Int × Int × Int × Int × Unit) → ((ByteArray × List Int × Int × Int × Int × Unit) → Option (List Int × Int × Unit)) → Option (List Int × Int × Unit)
  | (t0, t4, t5, t6, t7, _), κ =>
    cond (ilt t7 64) (
    (f28 (t7, ())).bind fun v24 =>
    chk (inB t5 t0.size) <|
    cond (ieq v24 (byteAt t0 t5.toNat)) (
    κ (t0, t4, t5, t7, (iadd .i64 t7 1), ())) (
    κ (t0, t4, t5, t6, (iadd .i64 t7 1), ()))) (
    kx (t0, t4, t5, t6, ()))
def r04_ReadBase.s2 (kx : (ByteArray × List Int × Int × Int × Unit) → Option (List Int × Int × Unit)) : (ByteArray × List Int × Int × Int × Int × Unit) → ((ByteArray × List Int × Int × Int × Int × Unit) → Option (List Int × Int × Unit)) → Option (List Int × Int × Unit) := r04_ReadBase.s2b r04_sign kx
def r04_ReadBase.n2 : (ByteArray × List Int × Int × Int × Int × Unit) → Nat
  | (t0, t4, t5, t6, t7, _) => t0.size + t4.length + t5.toNat + t6.toNat + t7.toNat + 1048576
def r04_ReadBase.l2 (x : ByteArray × List Int × Int × Int × Int × Unit) (kx : (ByteArray × List Int × Int × Int × Unit) → Option (List Int × Int × Unit)) : Option (List Int × Int × Unit) := loopN (r04_ReadBase.n2 x) (r04_ReadBase.s2 kx) x
def r04_ReadBase.s4b (kx : (ByteArray × List Int × Int × Unit) → Option (List Int × Int × Unit)) : (ByteArray × List Int × Int × Int × Int × Unit) → ((ByteArray × List Int × Int × Int × Int × Unit) → Option (List Int × Int × Unit)) → Option (List Int × Int × Unit)
  | (t0, t4, t5, t6, t8, _), κ =>
    cond (ige t8 0) (
    chk (ile 0 t8) <|
    chk (fits 1 (t4.length + 1)) <|
    κ (t0, (t4 ++ [(iand .u8 (IntKind.wrap .u8 (ishr .i64 t6 t8)) 1)]), t5, t6, (isub .i64 t8 1), ())) (
    kx (t0, t4, t5, ()))
def r04_ReadBase.s4 (kx : (ByteArray × List Int × Int × Unit) → Option (List Int × Int × Unit)) : (ByteArray × List Int × Int × Int × Int × Unit) → ((ByteArray × List Int × Int × Int × Int × Unit) → Option (List Int × Int × Unit)) → Option (List Int × Int × Unit) := r04_ReadBase.s4b kx
def r04_ReadBase.n4 : (ByteArray × List Int × Int × Int × Int × Unit) → Nat
  | (t0, t4, t5, t6, t8, _) => t0.size + t4.length + t5.toNat + t6.toNat + t8.toNat + 1048576
def r04_ReadBase.l4 (x : ByteArray × List Int × Int × Int × Int × Unit) (kx : (ByteArray × List Int × Int × Unit) → Option (List Int × Int × Unit)) : Option (List Int × Int × Unit) := loopN (r04_ReadBase.n4 x) (r04_ReadBase.s4 kx) x
def r04_ReadBase.s0b (l2 : (ByteArray × List Int × Int × Int × Int × Unit) → ((ByteArray × List Int × Int × Int × Unit) → Option (List Int × Int × Unit)) → Option (List Int × Int × Unit)) (l4 : (ByteArray × List Int × Int × Int × Int × Unit) → ((ByteArray × List Int × Int × Unit) → Option (List Int × Int × Unit)) → Option (List Int × Int × Unit)) (kx : (ByteArray × List Int × Unit) → Option (List Int × Int × Unit)) : (ByteArray × List Int × Int × Unit) → ((ByteArray × List Int × Int × Unit) → Option (List Int × Int × Unit)) → Option (List Int × Int × Unit)
  | (t0, t4, t5, _), κ =>
    cond (ilt t5 (t0.size : Int)) (
    l2 (t0, t4, t5, (-1), 0, ()) fun (t0, t4, t5, t6, _) =>
    cond (ilt t6 0) (
    some ([], 3, ())) (
    l4 (t0, t4, t5, t6, 5, ()) fun (t0, t4, t5, _) =>
    κ (t0, t4, (iadd .i64 t5 1), ()))) (
    kx (t0, t4, ()))
def r04_ReadBase.s0 (kx : (ByteArray × List Int × Unit) → Option (List Int × Int × Unit)) : (ByteArray × List Int × Int × Unit) → ((ByteArray × List Int × Int × Unit) → Option (List Int × Int × Unit)) → Option (List Int × Int × Unit) := r04_ReadBase.s0b r04_ReadBase.l2 r04_ReadBase.l4 kx
def r04_ReadBase.n0 : (ByteArray × List Int × Int × Unit) → Nat
  | (t0, t4, t5, _) => t0.size + t4.length + t5.toNat + 1048576
def r04_ReadBase.l0 (x : ByteArray × List Int × Int × Unit) (kx : (ByteArray × List Int × Unit) → Option (List Int × Int × Unit)) : Option (List Int × Int × Unit) := loopN (r04_ReadBase.n0 x) (r04_ReadBase.s0 kx) x
def r04_ReadBase.s8b (kx : (ByteArray × List Int × List Int × Int × Int × Unit) → Option (List Int × Int × Unit)) : (ByteArray × List Int × List Int × Int × Int × Int × Unit) → ((ByteArray × List Int × List Int × Int × Int × Int × Unit) → Option (List Int × Int × Unit)) → Option (List Int × Int × Unit)
  | (t0, t4, t9, t10, t11, t12, _), κ =>
    cond (ilt t12 8) (
    chk (inB (iadd .i64 t10 t12) t4.length) <|
    κ (t0, t4, t9, t10, (iadd .u8 (imul .u8 t11 2) (t4.getD (iadd .i64 t10 t12).toNat (0 : Int))), (iadd .i64 t12 1), ())) (
    kx (t0, t4, t9, t10, t11, ()))
def r04_ReadBase.s8 (kx : (ByteArray × List Int × List Int × Int × Int × Unit) → Option (List Int × Int × Unit)) : (ByteArray × List Int × List Int × Int × Int × Int × Unit) → ((ByteArray × List Int × List Int × Int × Int × Int × Unit) → Option (List Int × Int × Unit)) → Option (List Int × Int × Unit) := r04_ReadBase.s8b kx
def r04_ReadBase.n8 : (ByteArray × List Int × List Int × Int × Int × Int × Unit) → Nat
  | (t0, t4, t9, t10, t11, t12, _) => t0.size + t4.length + t9.length + t10.toNat + t11.toNat + t12.toNat + 1048576
def r04_ReadBase.l8 (x : ByteArray × List Int × List Int × Int × Int × Int × Unit) (kx : (ByteArray × List Int × List Int × Int × Int × Unit) → Option (List Int × Int × Unit)) : Option (List Int × Int × Unit) := loopN (r04_ReadBase.n8 x) (r04_ReadBase.s8 kx) x
def r04_ReadBase.s6b (l8 : (ByteArray × List Int × List Int × Int × Int × Int × Unit) → ((ByteArray × List Int × List Int × Int × Int × Unit) → Option (List Int × Int × Unit)) → Option (List Int × Int × Unit)) (kx : (ByteArray × List Int × Unit) → Option (List Int × Int × Unit)) : (ByteArray × List Int × List Int × Int × Unit) → ((ByteArray × List Int × List Int × Int × Unit) → Option (List Int × Int × Unit)) → Option (List Int × Int × Unit)
  | (t0, t4, t9, t10, _), κ =>
    cond (ile (iadd .i64 t10 8) (t4.length : Int)) (
    l8 (t0, t4, t9, t10, 0, 0, ()) fun (t0, t4, t9, t10, t11, _) =>
    chk (fits 1 (t9.length + 1)) <|
    κ (t0, t4, (t9 ++ [t11]), (iadd .i64 t10 8), ())) (
    kx (t0, t9, ()))
def r04_ReadBase.s6 (kx : (ByteArray × List Int × Unit) → Option (List Int × Int × Unit)) : (ByteArray × List Int × List Int × Int × Unit) → ((ByteArray × List Int × List Int × Int × Unit) → Option (List Int × Int × Unit)) → Option (List Int × Int × Unit) := r04_ReadBase.s6b r04_ReadBase.l8 kx
def r04_ReadBase.n6 : (ByteArray × List Int × List Int × Int × Unit) → Nat
  | (t0, t4, t9, t10, _) => t0.size + t4.length + t9.length + t10.toNat + 1048576
def r04_ReadBase.l6 (x : ByteArray × List Int × List Int × Int × Unit) (kx : (ByteArray × List Int × Unit) → Option (List Int × Int × Unit)) : Option (List Int × Int × Unit) := loopN (r04_ReadBase.n6 x) (r04_ReadBase.s6 kx) x
def r04_ReadBase.b (f15 : (List Int × Unit) → Option ByteArray) (l0 : (ByteArray × List Int × Int × Unit) → ((ByteArray × List Int × Unit) → Option (List Int × Int × Unit)) → Option (List Int × Int × Unit)) (l6 : (ByteArray × List Int × List Int × Int × Unit) → ((ByteArray × List Int × Unit) → Option (List Int × Int × Unit)) → Option (List Int × Int × Unit)) : (ByteArray × Unit) → Option (List Int × Int × Unit)
  | (x0, _) =>
    l0 (x0, [], 0, ()) fun (t0, t4, _) =>
    l6 (t0, t4, [], 0, ()) fun (t0, t9, _) =>
    (f15 (t9, ())).bind fun v69 =>
    cond (sne v69 t0) (
    some ([], 3, ())) (
    some (t9, 0, ()))
def r04_ReadBase (x : (ByteArray × Unit)) : Option (List Int × Int × Unit) := r04_ReadBase.b r04_Base r04_ReadBase.l0 r04_ReadBase.l6 x
/-- muniment/munimentlaw04.CodecBases -/
def w04_CodecBases.b (f11 : Unit → Option Bool) (f12 : (List Int × Unit) → Option ByteArray) (f13 : (ByteArray × Unit) → Option (List Int × Int × Unit)) (f14 : (ByteArray × Unit) → Option (List Int × Int × Unit)) (f15 : (List Int × Unit) → Option ByteArray) : (List Int × ByteArray × Unit) → Option Bool
  | (x0, x1, _) =>
    (f11 (())).bind fun v12 =>
    cond (!v12) (
    (f11 (())).bind fun v22 =>
    some v22) (
    cond (igt (iadd .i64 (x0.length : Int) (x1.size : Int)) 5000) (
    (f11 (())).bind fun v22 =>
    some v22) (
    (f12 (x0, ())).bind fun v24 =>
    (f13 (v24, ())).bind fun v27 =>
    (f13 (x1, ())).bind fun v32 =>
    (f14 (x1, ())).bind fun v37 =>
    (f15 (x0, ())).bind fun v42 =>
    cond (seq v24 v42) (
    cond (ieq v27.2.1 0) (
    cond (seq (strOf v27.1) (strOf x0)) (
    cond (seq (strOf v32.1) (strOf v37.1)) (
    some (ieq v32.2.1 v37.2.1)) (
    some false)) (
    some false)) (
    some false)) (
    some false)))
def w04_CodecBases (x : (List Int × ByteArray × Unit)) : Option Bool := w04_CodecBases.b w04_awake codec_Base codec_ReadBase r04_ReadBase r04_Base x
/-- muniment/munimentlaw04.CodecSigns -/
def w04_CodecSigns.b (f11 : Unit → Option Bool) (f12 : (List Int × Unit) → Option ByteArray) (f13 : (ByteArray × Unit) → Option (List Int × Int × Unit)) : (List Int × Int × Int × Unit) → Option Bool
  | (x0, x1, x2, _) =>
    (f11 (())).bind fun v13 =>
    cond (!v13) (
    (f11 (())).bind fun v20 =>
    some v20) (
    cond (igt (x0.length : Int) 3000) (
    (f11 (())).bind fun v20 =>
    some v20) (
    (f12 (x0, ())).bind fun v22 =>
    cond (ine (v22.size : Int) (iquo .i64 (iadd .i64 (imul .i64 (x0.length : Int) 4) 2) 3)) (
    some false) (
    chk (decide (v22.size < 140737488355328)) <|
    cond (igt ((bytesOf v22).length : Int) 0) (
    chk (decide (((bytesOf v22).length : Int) ≠ 0)) <|
    chk (inB (irem .i64 (IntKind.wrap .i64 x1) ((bytesOf v22).length : Int)) (bytesOf v22).length) <|
    (f13 ((strOf ((bytesOf v22).set (irem .i64 (IntKind.wrap .i64 x1) ((bytesOf v22).length : Int)).toNat x2)), ())).bind fun v47 =>
    chk (decide (v22.size + (⟨#[61]⟩ : ByteArray).size < 4611686018427387904)) <|
    (f13 ((v22 ++ (⟨#[61]⟩ : ByteArray)), ())).bind fun v53 =>
    cond (ieq v53.2.1 3) (
    cond (ieq v47.2.1 3) (
    cond (ieq (v47.1.length : Int) 0) (
    some true) (
    cond (ieq v47.2.1 0) (
    (f12 (v47.1, ())).bind fun v71 =>
    some (seq v71 (strOf ((bytesOf v22).set (irem .i64 (IntKind.wrap .i64 x1) ((bytesOf v22).length : Int)).toNat x2)))) (
    some false))) (
    cond (ieq v47.2.1 0) (
    (f12 (v47.1, ())).bind fun v71 =>
    some (seq v71 (strOf ((bytesOf v22).set (irem .i64 (IntKind.wrap .i64 x1) ((bytesOf v22).length : Int)).toNat x2)))) (
    some false))) (
    some false)) (
    (f13 ((strOf (bytesOf v22)), ())).bind fun v47 =>
    chk (decide (v22.size + (⟨#[61]⟩ : ByteArray).size < 4611686018427387904)) <|
    (f13 ((v22 ++ (⟨#[61]⟩ : ByteArray)), ())).bind fun v53 =>
    cond (ieq v53.2.1 3) (
    cond (ieq v47.2.1 3) (
    cond (ieq (v47.1.length : Int) 0) (
    some true) (
    cond (ieq v47.2.1 0) (
    (f12 (v47.1, ())).bind fun v71 =>
    some (seq v71 (strOf (bytesOf v22)))) (
    some false))) (
    cond (ieq v47.2.1 0) (
    (f12 (v47.1, ())).bind fun v71 =>
    some (seq v71 (strOf (bytesOf v22)))) (
    some false))) (
    some false)))))
def w04_CodecSigns (x : (List Int × Int × Int × Unit)) : Option Bool := w04_CodecSigns.b w04_awake codec_Base codec_ReadBase x
end Go.Px
