import Derived.Test.YtapijncpploihaaDoorPxA
import Derived.Test.YtapijncpploihaaDoorPxC
set_option linter.unusedVariables false
set_option linter.unusedSimpArgs false
namespace Go.Px
open Go
/-- muniment/codec.Base -/
def codec_Base.s2b (kx : (List Int × Int × Int × List Int × Int × Int × Unit) → Option ByteArray) : (List Int × Int × Int × List Int × Int × Int × Unit) → ((List Int × Int × Int × List Int × Int × Int × Unit) → Option ByteArray) → Option ByteArray
  | (t3, t4, t5, t8, t9, t10, _), κ =>
    cond (ige t5 6) (
    chk (ile 0 (isub .i64 t5 6)) <|
    chk (inB (iand .i64 (ishr .i64 t4 (isub .i64 t5 6)) 63) (⟨#[65, 66, 67, 68, 69, 70, 71, 72, 73, 74, 75, 76, 77, 78, 79, 80, 81, 82, 83, 84, 85, 86, 87, 88, 89, 90, 97, 98, 99, 100, 101, 102, 103, 104, 105, 106, 107, 108, 109, 110, 111, 112, 113, 114, 115, 116, 117, 118, 119, 120, 121, 122, 48, 49, 50, 51, 52, 53, 54, 55, 56, 57, 45, 95]⟩ : ByteArray).size) <|
    chk (fits 1 (t3.length + 1)) <|
    κ ((t3 ++ [(byteAt (⟨#[65, 66, 67, 68, 69, 70, 71, 72, 73, 74, 75, 76, 77, 78, 79, 80, 81, 82, 83, 84, 85, 86, 87, 88, 89, 90, 97, 98, 99, 100, 101, 102, 103, 104, 105, 106, 107, 108, 109, 110, 111, 112, 113, 114, 115, 116, 117, 118, 119, 120, 121, 122, 48, 49, 50, 51, 52, 53, 54, 55, 56, 57, 45, 95]⟩ : ByteArray) (iand .i64 (ishr .i64 t4 (isub .i64 t5 6)) 63).toNat)]), t4, (isub .i64 t5 6), t8, t9, t10, ())) (
    kx (t3, t4, t5, t8, t9, t10, ()))
def codec_Base.s2 (kx : (List Int × Int × Int × List Int × Int × Int × Unit) → Option ByteArray) : (List Int × Int × Int × List Int × Int × Int × Unit) → ((List Int × Int × Int × List Int × Int × Int × Unit) → Option ByteArray) → Option ByteArray := codec_Base.s2b kx
def codec_Base.n2 : (List Int × Int × Int × List Int × Int × Int × Unit) → Nat
  | (t3, t4, t5, t8, t9, t10, _) => t3.length + t4.toNat + t5.toNat + t8.length + t9.toNat + t10.toNat + 1048576
def codec_Base.l2 (x : List Int × Int × Int × List Int × Int × Int × Unit) (kx : (List Int × Int × Int × List Int × Int × Int × Unit) → Option ByteArray) : Option ByteArray := loopN (codec_Base.n2 x) (codec_Base.s2 kx) x
def codec_Base.s0b (l2 : (List Int × Int × Int × List Int × Int × Int × Unit) → ((List Int × Int × Int × List Int × Int × Int × Unit) → Option ByteArray) → Option ByteArray) (kx : (List Int × Int × Int × Unit) → Option ByteArray) : (List Int × Int × Int × List Int × Int × Int × Unit) → ((List Int × Int × Int × List Int × Int × Int × Unit) → Option ByteArray) → Option ByteArray
  | (t3, t4, t5, t8, t9, t10, _), κ =>
    cond (ilt t10 t9) (
    chk (inB t10 t8.length) <|
    l2 (t3, (ior .i64 (ishl .i64 t4 8) (IntKind.wrap .i64 (t8.getD t10.toNat (0 : Int)))), (iadd .i64 t5 8), t8, t9, t10, ()) fun (t3, t4, t5, t8, t9, t10, _) =>
    chk (ile 0 t5) <|
    κ (t3, (iand .i64 t4 (isub .i64 (ishl .i64 1 t5) 1)), t5, t8, t9, (iadd .i64 t10 1), ())) (
    kx (t3, t4, t5, ()))
def codec_Base.s0 (kx : (List Int × Int × Int × Unit) → Option ByteArray) : (List Int × Int × Int × List Int × Int × Int × Unit) → ((List Int × Int × Int × List Int × Int × Int × Unit) → Option ByteArray) → Option ByteArray := codec_Base.s0b codec_Base.l2 kx
def codec_Base.n0 : (List Int × Int × Int × List Int × Int × Int × Unit) → Nat
  | (t3, t4, t5, t8, t9, t10, _) => t3.length + t4.toNat + t5.toNat + t8.length + t9.toNat + t10.toNat + 1048576
def codec_Base.l0 (x : List Int × Int × Int × List Int × Int × Int × Unit) (kx : (List Int × Int × Int × Unit) → Option ByteArray) : Option ByteArray := loopN (codec_Base.n0 x) (codec_Base.s0 kx) x
def codec_Base.b (l0 : (List Int × Int × Int × List Int × Int × Int × Unit) → ((List Int × Int × Int × Unit) → Option ByteArray) → Option ByteArray) : (List Int × Unit) → Option ByteArray
  | (x0, _) =>
    l0 ([], 0, 0, x0, (x0.length : Int), 0, ()) fun (t3, t4, t5, _) =>
    cond (igt t5 0) (
    chk (ile 0 (isub .i64 6 t5)) <|
    chk (inB (iand .i64 (ishl .i64 t4 (isub .i64 6 t5)) 63) (⟨#[65, 66, 67, 68, 69, 70, 71, 72, 73, 74, 75, 76, 77, 78, 79, 80, 81, 82, 83, 84, 85, 86, 87, 88, 89, 90, 97, 98, 99, 100, 101, 102, 103, 104, 105, 106, 107, 108, 109, 110, 111, 112, 113, 114, 115, 116, 117, 118, 119, 120, 121, 122, 48, 49, 50, 51, 52, 53, 54, 55, 56, 57, 45, 95]⟩ : ByteArray).size) <|
    chk (fits 1 (t3.length + 1)) <|
    some (strOf (t3 ++ [(byteAt (⟨#[65, 66, 67, 68, 69, 70, 71, 72, 73, 74, 75, 76, 77, 78, 79, 80, 81, 82, 83, 84, 85, 86, 87, 88, 89, 90, 97, 98, 99, 100, 101, 102, 103, 104, 105, 106, 107, 108, 109, 110, 111, 112, 113, 114, 115, 116, 117, 118, 119, 120, 121, 122, 48, 49, 50, 51, 52, 53, 54, 55, 56, 57, 45, 95]⟩ : ByteArray) (iand .i64 (ishl .i64 t4 (isub .i64 6 t5)) 63).toNat)]))) (
    some (strOf t3))
def codec_Base (x : (List Int × Unit)) : Option ByteArray := codec_Base.b codec_Base.l0 x
/-- unicode/utf8.word[string] -/
def unicode_utf8_word_string.b : (ByteArray × Unit) → Option Int
  | (x0, _) =>
    chk (inB 0 x0.size) <|
    chk (inB 1 x0.size) <|
    chk (inB 2 x0.size) <|
    chk (inB 3 x0.size) <|
    chk (inB 4 x0.size) <|
    chk (inB 5 x0.size) <|
    chk (inB 6 x0.size) <|
    chk (inB 7 x0.size) <|
    some (ior .u64 (ior .u64 (ior .u64 (ior .u64 (ior .u64 (ior .u64 (ior .u64 (IntKind.wrap .u64 (byteAt x0 0)) (ishl .u64 (IntKind.wrap .u64 (byteAt x0 1)) 8)) (ishl .u64 (IntKind.wrap .u64 (byteAt x0 2)) 16)) (ishl .u64 (IntKind.wrap .u64 (byteAt x0 3)) 24)) (ishl .u64 (IntKind.wrap .u64 (byteAt x0 4)) 32)) (ishl .u64 (IntKind.wrap .u64 (byteAt x0 5)) 40)) (ishl .u64 (IntKind.wrap .u64 (byteAt x0 6)) 48)) (ishl .u64 (IntKind.wrap .u64 (byteAt x0 7)) 56))
def unicode_utf8_word_string (x : (ByteArray × Unit)) : Option Int := unicode_utf8_word_string.b x
/-- unicode/utf8.ValidString -/
def unicode_utf8_ValidString.s2b (f42 : (ByteArray × Unit) → Option Int) (kx : (ByteArray × Unit) → Option Bool) : (ByteArray × Unit) → ((ByteArray × Unit) → Option Bool) → Option Bool
  | (t0, _), κ =>
    cond (igt (t0.size : Int) 32) (
    (f42 (t0, ())).bind fun v47 =>
    chk (leB 0 8 && (leB 8 t0.size && leB t0.size t0.size)) <|
    (f42 ((subStr t0 8 t0.size), ())).bind fun v50 =>
    chk (leB 0 16 && (leB 16 t0.size && leB t0.size t0.size)) <|
    (f42 ((subStr t0 16 t0.size), ())).bind fun v54 =>
    chk (leB 0 24 && (leB 24 t0.size && leB t0.size t0.size)) <|
    (f42 ((subStr t0 24 t0.size), ())).bind fun v57 =>
    cond (ieq (iand .u64 (ior .u64 (ior .u64 v47 v50) (ior .u64 v54 v57)) 9259542123273814144) 0) (
    chk (leB 0 32 && (leB 32 t0.size && leB t0.size t0.size)) <|
    κ ((subStr t0 32 t0.size), ())) (
    kx (t0, ()))) (
    kx (t0, ()))
def unicode_utf8_ValidString.s2 (kx : (ByteArray × Unit) → Option Bool) : (ByteArray × Unit) → ((ByteArray × Unit) → Option Bool) → Option Bool := unicode_utf8_ValidString.s2b unicode_utf8_word_string kx
def unicode_utf8_ValidString.n2 : (ByteArray × Unit) → Nat
  | (t0, _) => t0.size + 1048576
def unicode_utf8_ValidString.l2 (x : ByteArray × Unit) (kx : (ByteArray × Unit) → Option Bool) : Option Bool := loopN (unicode_utf8_ValidString.n2 x) (unicode_utf8_ValidString.s2 kx) x
def unicode_utf8_ValidString.s0b (f42 : (ByteArray × Unit) → Option Int) (l2 : (ByteArray × Unit) → ((ByteArray × Unit) → Option Bool) → Option Bool) (kx : Unit → Option Bool) : (ByteArray × Unit) → ((ByteArray × Unit) → Option Bool) → Option Bool
  | (t0, _), κ =>
    cond (igt (t0.size : Int) 0) (
    chk (inB 0 t0.size) <|
    cond (ilt (byteAt t0 0) 128) (
    chk (leB 0 1 && (leB 1 t0.size && leB t0.size t0.size)) <|
    cond (igt ((subStr t0 1 t0.size).size : Int) 8) (
    (f42 ((subStr t0 1 t0.size), ())).bind fun v21 =>
    cond (ieq (iand .u64 v21 9259542123273814144) 0) (
    chk (leB 0 8 && (leB 8 ((subStr t0 1 t0.size).size) && leB ((subStr t0 1 t0.size).size) ((subStr t0 1 t0.size).size))) <|
    cond (igt ((subStr (subStr t0 1 t0.size) 8 ((subStr t0 1 t0.size).size)).size : Int) 16) (
    (f42 ((subStr (subStr t0 1 t0.size) 8 ((subStr t0 1 t0.size).size)), ())).bind fun v32 =>
    chk (leB 0 8 && (leB 8 ((subStr (subStr t0 1 t0.size) 8 ((subStr t0 1 t0.size).size)).size) && leB ((subStr (subStr t0 1 t0.size) 8 ((subStr t0 1 t0.size).size)).size) ((subStr (subStr t0 1 t0.size) 8 ((subStr t0 1 t0.size).size)).size))) <|
    (f42 ((subStr (subStr (subStr t0 1 t0.size) 8 ((subStr t0 1 t0.size).size)) 8 ((subStr (subStr t0 1 t0.size) 8 ((subStr t0 1 t0.size).size)).size)), ())).bind fun v35 =>
    cond (ieq (iand .u64 (ior .u64 v32 v35) 9259542123273814144) 0) (
    chk (leB 0 16 && (leB 16 ((subStr (subStr t0 1 t0.size) 8 ((subStr t0 1 t0.size).size)).size) && leB ((subStr (subStr t0 1 t0.size) 8 ((subStr t0 1 t0.size).size)).size) ((subStr (subStr t0 1 t0.size) 8 ((subStr t0 1 t0.size).size)).size))) <|
    l2 ((subStr (subStr (subStr t0 1 t0.size) 8 ((subStr t0 1 t0.size).size)) 16 ((subStr (subStr t0 1 t0.size) 8 ((subStr t0 1 t0.size).size)).size)), ()) fun (t0, _) =>
    κ (t0, ())) (
    κ ((subStr (subStr t0 1 t0.size) 8 ((subStr t0 1 t0.size).size)), ()))) (
    κ ((subStr (subStr t0 1 t0.size) 8 ((subStr t0 1 t0.size).size)), ()))) (
    κ ((subStr t0 1 t0.size), ()))) (
    κ ((subStr t0 1 t0.size), ()))) (
    chk (inB (byteAt t0 0) 256) <|
    chk (inB (ishr .u8 (gvFirst.getD (byteAt t0 0).toNat (0 : Int)) 4) 16) <|
    cond (ieq (IntKind.wrap .i64 (iand .u8 (gvFirst.getD (byteAt t0 0).toNat (0 : Int)) 7)) 2) (
    cond (ilt (t0.size : Int) 2) (
    some false) (
    chk (inB 1 t0.size) <|
    cond (ilt (byteAt t0 1) ((gvAccept.getD (ishr .u8 (gvFirst.getD (byteAt t0 0).toNat (0 : Int)) 4).toNat ((0 : Int), (0 : Int), ())).1)) (
    some false) (
    chk (inB 1 t0.size) <|
    cond (ilt ((gvAccept.getD (ishr .u8 (gvFirst.getD (byteAt t0 0).toNat (0 : Int)) 4).toNat ((0 : Int), (0 : Int), ())).2.1) (byteAt t0 1)) (
    some false) (
    chk (leB 0 2 && (leB 2 t0.size && leB t0.size t0.size)) <|
    κ ((subStr t0 2 t0.size), ()))))) (
    cond (ieq (IntKind.wrap .i64 (iand .u8 (gvFirst.getD (byteAt t0 0).toNat (0 : Int)) 7)) 3) (
    cond (ilt (t0.size : Int) 3) (
    some false) (
    chk (inB 1 t0.size) <|
    cond (ilt (byteAt t0 1) ((gvAccept.getD (ishr .u8 (gvFirst.getD (byteAt t0 0).toNat (0 : Int)) 4).toNat ((0 : Int), (0 : Int), ())).1)) (
    some false) (
    chk (inB 1 t0.size) <|
    cond (ilt ((gvAccept.getD (ishr .u8 (gvFirst.getD (byteAt t0 0).toNat (0 : Int)) 4).toNat ((0 : Int), (0 : Int), ())).2.1) (byteAt t0 1)) (
    some false) (
    chk (inB 2 t0.size) <|
    cond (ilt (byteAt t0 2) 128) (
    some false) (
    chk (inB 2 t0.size) <|
    cond (ilt 191 (byteAt t0 2)) (
    some false) (
    chk (leB 0 3 && (leB 3 t0.size && leB t0.size t0.size)) <|
    κ ((subStr t0 3 t0.size), ()))))))) (
    cond (ieq (IntKind.wrap .i64 (iand .u8 (gvFirst.getD (byteAt t0 0).toNat (0 : Int)) 7)) 4) (
    cond (ilt (t0.size : Int) 4) (
    some false) (
    chk (inB 1 t0.size) <|
    cond (ilt (byteAt t0 1) ((gvAccept.getD (ishr .u8 (gvFirst.getD (byteAt t0 0).toNat (0 : Int)) 4).toNat ((0 : Int), (0 : Int), ())).1)) (
    some false) (
    chk (inB 1 t0.size) <|
    cond (ilt ((gvAccept.getD (ishr .u8 (gvFirst.getD (byteAt t0 0).toNat (0 : Int)) 4).toNat ((0 : Int), (0 : Int), ())).2.1) (byteAt t0 1)) (
    some false) (
    chk (inB 2 t0.size) <|
    cond (ilt (byteAt t0 2) 128) (
    some false) (
    chk (inB 2 t0.size) <|
    cond (ilt 191 (byteAt t0 2)) (
    some false) (
    chk (inB 3 t0.size) <|
    cond (ilt (byteAt t0 3) 128) (
    some false) (
    chk (inB 3 t0.size) <|
    cond (ilt 191 (byteAt t0 3)) (
    some false) (
    chk (leB 0 4 && (leB 4 t0.size && leB t0.size t0.size)) <|
    κ ((subStr t0 4 t0.size), ()))))))))) (
    some false))))) (
    kx (()))
def unicode_utf8_ValidString.s0 (kx : Unit → Option Bool) : (ByteArray × Unit) → ((ByteArray × Unit) → Option Bool) → Option Bool := unicode_utf8_ValidString.s0b unicode_utf8_word_string unicode_utf8_ValidString.l2 kx
def unicode_utf8_ValidString.n0 : (ByteArray × Unit) → Nat
  | (t0, _) => t0.size + 1048576
def unicode_utf8_ValidString.l0 (x : ByteArray × Unit) (kx : Unit → Option Bool) : Option Bool := loopN (unicode_utf8_ValidString.n0 x) (unicode_utf8_ValidString.s0 kx) x
def unicode_utf8_ValidString.b (l0 : (ByteArray × Unit) → (Unit → Option Bool) → Option Bool) : (ByteArray × Unit) → Option Bool
  | (x0, _) =>
    l0 (x0, ()) fun (_) =>
    some true
def unicode_utf8_ValidString (x : (ByteArray × Unit)) : Option Bool := unicode_utf8_ValidString.b unicode_utf8_ValidString.l0 x
/-- muniment/codec.cast -/
def codec_cast.b (f29 : (ByteArray × Unit) → Option Bool) : ((Int × Int × ByteArray × Unit) × Unit) → Option (Dyn × Bool × Unit)
  | ((k, n, s, _), _) =>
    if k = 0 then cond (ieq n 0) (cond (seq s (⟨#[]⟩ : ByteArray)) (some (Dyn.nil, true, ())) (some (Dyn.nil, false, ()))) (some (Dyn.nil, false, ()))
    else if k = 1 then cond (seq s (⟨#[]⟩ : ByteArray)) (some (Dyn.int 2 .i64 n, true, ())) (some (Dyn.nil, false, ()))
    else if k = 2 then cond (ieq n 0) (cond (ile (s.size : Int) 60) ((f29 (s, ())).bind fun v => cond v (some (Dyn.str 9 s, true, ())) (some (Dyn.nil, false, ()))) (some (Dyn.nil, false, ()))) (some (Dyn.nil, false, ()))
    else if k = 3 then cond (seq s (⟨#[]⟩ : ByteArray)) (cond (ieq n 0) (some (Dyn.bool 4 (ieq n 1), true, ())) (cond (ieq n 1) (some (Dyn.bool 4 (ieq n 1), true, ())) (some (Dyn.nil, false, ())))) (some (Dyn.nil, false, ()))
    else if 4 ≤ k ∧ k ≤ 255 then some (Dyn.nil, false, ()) else none
def codec_cast (x : ((Int × Int × ByteArray × Unit) × Unit)) : Option (Dyn × Bool × Unit) := codec_cast.b unicode_utf8_ValidString x
/-- muniment/octet.Uint -/
def octet_Uint.s0b (kx : ((List Int × Unit) × Unit) → Option (List Int)) : (Int × (List Int × Unit) × Int × Unit) → ((Int × (List Int × Unit) × Int × Unit) → Option (List Int)) → Option (List Int)
  | (t0, t3, t5, _), κ =>
    cond (ilt t5 8) (
    chk (ile 0 (isub .i64 56 (imul .i64 8 t5))) <|
    chk (inB t5 8) <|
    κ (t0, ((t3.1.set t5.toNat (IntKind.wrap .u8 (ishr .u64 t0 (isub .i64 56 (imul .i64 8 t5))))), ()), (iadd .i64 t5 1), ())) (
    kx ((t3.1, ()), ()))
def octet_Uint.s0 (kx : ((List Int × Unit) × Unit) → Option (List Int)) : (Int × (List Int × Unit) × Int × Unit) → ((Int × (List Int × Unit) × Int × Unit) → Option (List Int)) → Option (List Int) := octet_Uint.s0b kx
def octet_Uint.n0 : (Int × (List Int × Unit) × Int × Unit) → Nat
  | (t0, t3, t5, _) => t0.toNat + t5.toNat + 1048576
def octet_Uint.l0 (x : Int × (List Int × Unit) × Int × Unit) (kx : ((List Int × Unit) × Unit) → Option (List Int)) : Option (List Int) := loopN (octet_Uint.n0 x) (octet_Uint.s0 kx) x
def octet_Uint.b (l0 : (Int × (List Int × Unit) × Int × Unit) → (((List Int × Unit) × Unit) → Option (List Int)) → Option (List Int)) : (Int × Unit) → Option (List Int)
  | (x0, _) =>
    l0 (x0, ((List.replicate 8 (0 : Int)), ()), 0, ()) fun (t3, _) =>
    some t3.1
def octet_Uint (x : (Int × Unit)) : Option (List Int) := octet_Uint.b octet_Uint.l0 x
/-- muniment/octet.Int -/
def octet_Int.b (f43 : (Int × Unit) → Option (List Int)) : (Int × Unit) → Option (List Int)
  | (x0, _) =>
    (f43 ((ixor .u64 (IntKind.wrap .u64 x0) 9223372036854775808), ())).bind fun v6 =>
    some v6
def octet_Int (x : (Int × Unit)) : Option (List Int) := octet_Int.b octet_Uint x
/-- muniment/codec.Encode -/
def codec_Encode.s0b (f30 : ((Int × Int × ByteArray × Unit) × Unit) → Option (Dyn × Bool × Unit)) (f31 : (Int × Unit) → Option (List Int)) (kx : (List Int × Unit) → Option (List Int × Int × Unit)) : (List Int × List (Int × Int × ByteArray × Unit) × Int × Int × Unit) → ((List Int × List (Int × Int × ByteArray × Unit) × Int × Int × Unit) → Option (List Int × Int × Unit)) → Option (List Int × Int × Unit)
  | (t4, t22, t23, t24, _), κ =>
    cond (ilt t24 t23) (
    chk (inB t24 t22.length) <|
    (f30 (((t22.getD t24.toNat ((0 : Int), (0 : Int), ByteArray.empty, ())).1, (t22.getD t24.toNat ((0 : Int), (0 : Int), ByteArray.empty, ())).2.1, (t22.getD t24.toNat ((0 : Int), (0 : Int), ByteArray.empty, ())).2.2.1, ()), ())).bind fun v30 =>
    cond (!v30.2.1) (
    some ([], 3, ())) (
    chk (fits 1 (t4.length + 1)) <|
    chk (fitT 2 (.int .i64) (Dyn.val v30.1)) <|
    cond (isT 2 (Dyn.val v30.1)) (
    (f31 ((asT (.int .i64) 2 (Dyn.val v30.1)), ())).bind fun v48 =>
    chk (fits 1 ((t4 ++ [(t22.getD t24.toNat ((0 : Int), (0 : Int), ByteArray.empty, ())).1]).length + v48.length)) <|
    chk (fitT 9 .str (Dyn.val v30.1)) <|
    cond (isT 9 (Dyn.val v30.1)) (
    chk (fits 1 (((t4 ++ [(t22.getD t24.toNat ((0 : Int), (0 : Int), ByteArray.empty, ())).1]) ++ v48).length + 1)) <|
    chk (fits 1 ((((t4 ++ [(t22.getD t24.toNat ((0 : Int), (0 : Int), ByteArray.empty, ())).1]) ++ v48) ++ [(IntKind.wrap .u8 ((asT .str 9 (Dyn.val v30.1)).size : Int))]).length + (bytesOf (asT .str 9 (Dyn.val v30.1))).length)) <|
    chk (fitT 4 .bool (Dyn.val v30.1)) <|
    cond (isT 4 (Dyn.val v30.1)) (
    chk (fits 1 (((((t4 ++ [(t22.getD t24.toNat ((0 : Int), (0 : Int), ByteArray.empty, ())).1]) ++ v48) ++ [(IntKind.wrap .u8 ((asT .str 9 (Dyn.val v30.1)).size : Int))]) ++ (bytesOf (asT .str 9 (Dyn.val v30.1)))).length + 1)) <|
    cond (asT .bool 4 (Dyn.val v30.1)) (
    chk (inB (isub .i64 ((((((t4 ++ [(t22.getD t24.toNat ((0 : Int), (0 : Int), ByteArray.empty, ())).1]) ++ v48) ++ [(IntKind.wrap .u8 ((asT .str 9 (Dyn.val v30.1)).size : Int))]) ++ (bytesOf (asT .str 9 (Dyn.val v30.1)))) ++ [0]).length : Int) 1) (((((t4 ++ [(t22.getD t24.toNat ((0 : Int), (0 : Int), ByteArray.empty, ())).1]) ++ v48) ++ [(IntKind.wrap .u8 ((asT .str 9 (Dyn.val v30.1)).size : Int))]) ++ (bytesOf (asT .str 9 (Dyn.val v30.1)))) ++ [0]).length) <|
    κ (((((((t4 ++ [(t22.getD t24.toNat ((0 : Int), (0 : Int), ByteArray.empty, ())).1]) ++ v48) ++ [(IntKind.wrap .u8 ((asT .str 9 (Dyn.val v30.1)).size : Int))]) ++ (bytesOf (asT .str 9 (Dyn.val v30.1)))) ++ [0]).set (isub .i64 ((((((t4 ++ [(t22.getD t24.toNat ((0 : Int), (0 : Int), ByteArray.empty, ())).1]) ++ v48) ++ [(IntKind.wrap .u8 ((asT .str 9 (Dyn.val v30.1)).size : Int))]) ++ (bytesOf (asT .str 9 (Dyn.val v30.1)))) ++ [0]).length : Int) 1).toNat 1), t22, t23, (iadd .i64 t24 1), ())) (
    κ ((((((t4 ++ [(t22.getD t24.toNat ((0 : Int), (0 : Int), ByteArray.empty, ())).1]) ++ v48) ++ [(IntKind.wrap .u8 ((asT .str 9 (Dyn.val v30.1)).size : Int))]) ++ (bytesOf (asT .str 9 (Dyn.val v30.1)))) ++ [0]), t22, t23, (iadd .i64 t24 1), ()))) (
    κ (((((t4 ++ [(t22.getD t24.toNat ((0 : Int), (0 : Int), ByteArray.empty, ())).1]) ++ v48) ++ [(IntKind.wrap .u8 ((asT .str 9 (Dyn.val v30.1)).size : Int))]) ++ (bytesOf (asT .str 9 (Dyn.val v30.1)))), t22, t23, (iadd .i64 t24 1), ()))) (
    chk (fitT 4 .bool (Dyn.val v30.1)) <|
    cond (isT 4 (Dyn.val v30.1)) (
    chk (fits 1 (((t4 ++ [(t22.getD t24.toNat ((0 : Int), (0 : Int), ByteArray.empty, ())).1]) ++ v48).length + 1)) <|
    cond (asT .bool 4 (Dyn.val v30.1)) (
    chk (inB (isub .i64 ((((t4 ++ [(t22.getD t24.toNat ((0 : Int), (0 : Int), ByteArray.empty, ())).1]) ++ v48) ++ [0]).length : Int) 1) (((t4 ++ [(t22.getD t24.toNat ((0 : Int), (0 : Int), ByteArray.empty, ())).1]) ++ v48) ++ [0]).length) <|
    κ (((((t4 ++ [(t22.getD t24.toNat ((0 : Int), (0 : Int), ByteArray.empty, ())).1]) ++ v48) ++ [0]).set (isub .i64 ((((t4 ++ [(t22.getD t24.toNat ((0 : Int), (0 : Int), ByteArray.empty, ())).1]) ++ v48) ++ [0]).length : Int) 1).toNat 1), t22, t23, (iadd .i64 t24 1), ())) (
    κ ((((t4 ++ [(t22.getD t24.toNat ((0 : Int), (0 : Int), ByteArray.empty, ())).1]) ++ v48) ++ [0]), t22, t23, (iadd .i64 t24 1), ()))) (
    κ (((t4 ++ [(t22.getD t24.toNat ((0 : Int), (0 : Int), ByteArray.empty, ())).1]) ++ v48), t22, t23, (iadd .i64 t24 1), ())))) (
    chk (fitT 9 .str (Dyn.val v30.1)) <|
    cond (isT 9 (Dyn.val v30.1)) (
    chk (fits 1 ((t4 ++ [(t22.getD t24.toNat ((0 : Int), (0 : Int), ByteArray.empty, ())).1]).length + 1)) <|
    chk (fits 1 (((t4 ++ [(t22.getD t24.toNat ((0 : Int), (0 : Int), ByteArray.empty, ())).1]) ++ [(IntKind.wrap .u8 ((asT .str 9 (Dyn.val v30.1)).size : Int))]).length + (bytesOf (asT .str 9 (Dyn.val v30.1))).length)) <|
    chk (fitT 4 .bool (Dyn.val v30.1)) <|
    cond (isT 4 (Dyn.val v30.1)) (
    chk (fits 1 ((((t4 ++ [(t22.getD t24.toNat ((0 : Int), (0 : Int), ByteArray.empty, ())).1]) ++ [(IntKind.wrap .u8 ((asT .str 9 (Dyn.val v30.1)).size : Int))]) ++ (bytesOf (asT .str 9 (Dyn.val v30.1)))).length + 1)) <|
    cond (asT .bool 4 (Dyn.val v30.1)) (
    chk (inB (isub .i64 (((((t4 ++ [(t22.getD t24.toNat ((0 : Int), (0 : Int), ByteArray.empty, ())).1]) ++ [(IntKind.wrap .u8 ((asT .str 9 (Dyn.val v30.1)).size : Int))]) ++ (bytesOf (asT .str 9 (Dyn.val v30.1)))) ++ [0]).length : Int) 1) ((((t4 ++ [(t22.getD t24.toNat ((0 : Int), (0 : Int), ByteArray.empty, ())).1]) ++ [(IntKind.wrap .u8 ((asT .str 9 (Dyn.val v30.1)).size : Int))]) ++ (bytesOf (asT .str 9 (Dyn.val v30.1)))) ++ [0]).length) <|
    κ ((((((t4 ++ [(t22.getD t24.toNat ((0 : Int), (0 : Int), ByteArray.empty, ())).1]) ++ [(IntKind.wrap .u8 ((asT .str 9 (Dyn.val v30.1)).size : Int))]) ++ (bytesOf (asT .str 9 (Dyn.val v30.1)))) ++ [0]).set (isub .i64 (((((t4 ++ [(t22.getD t24.toNat ((0 : Int), (0 : Int), ByteArray.empty, ())).1]) ++ [(IntKind.wrap .u8 ((asT .str 9 (Dyn.val v30.1)).size : Int))]) ++ (bytesOf (asT .str 9 (Dyn.val v30.1)))) ++ [0]).length : Int) 1).toNat 1), t22, t23, (iadd .i64 t24 1), ())) (
    κ (((((t4 ++ [(t22.getD t24.toNat ((0 : Int), (0 : Int), ByteArray.empty, ())).1]) ++ [(IntKind.wrap .u8 ((asT .str 9 (Dyn.val v30.1)).size : Int))]) ++ (bytesOf (asT .str 9 (Dyn.val v30.1)))) ++ [0]), t22, t23, (iadd .i64 t24 1), ()))) (
    κ ((((t4 ++ [(t22.getD t24.toNat ((0 : Int), (0 : Int), ByteArray.empty, ())).1]) ++ [(IntKind.wrap .u8 ((asT .str 9 (Dyn.val v30.1)).size : Int))]) ++ (bytesOf (asT .str 9 (Dyn.val v30.1)))), t22, t23, (iadd .i64 t24 1), ()))) (
    chk (fitT 4 .bool (Dyn.val v30.1)) <|
    cond (isT 4 (Dyn.val v30.1)) (
    chk (fits 1 ((t4 ++ [(t22.getD t24.toNat ((0 : Int), (0 : Int), ByteArray.empty, ())).1]).length + 1)) <|
    cond (asT .bool 4 (Dyn.val v30.1)) (
    chk (inB (isub .i64 (((t4 ++ [(t22.getD t24.toNat ((0 : Int), (0 : Int), ByteArray.empty, ())).1]) ++ [0]).length : Int) 1) ((t4 ++ [(t22.getD t24.toNat ((0 : Int), (0 : Int), ByteArray.empty, ())).1]) ++ [0]).length) <|
    κ ((((t4 ++ [(t22.getD t24.toNat ((0 : Int), (0 : Int), ByteArray.empty, ())).1]) ++ [0]).set (isub .i64 (((t4 ++ [(t22.getD t24.toNat ((0 : Int), (0 : Int), ByteArray.empty, ())).1]) ++ [0]).length : Int) 1).toNat 1), t22, t23, (iadd .i64 t24 1), ())) (
    κ (((t4 ++ [(t22.getD t24.toNat ((0 : Int), (0 : Int), ByteArray.empty, ())).1]) ++ [0]), t22, t23, (iadd .i64 t24 1), ()))) (
    κ ((t4 ++ [(t22.getD t24.toNat ((0 : Int), (0 : Int), ByteArray.empty, ())).1]), t22, t23, (iadd .i64 t24 1), ())))))) (
    kx (t4, ()))
def codec_Encode.s0 (kx : (List Int × Unit) → Option (List Int × Int × Unit)) : (List Int × List (Int × Int × ByteArray × Unit) × Int × Int × Unit) → ((List Int × List (Int × Int × ByteArray × Unit) × Int × Int × Unit) → Option (List Int × Int × Unit)) → Option (List Int × Int × Unit) := codec_Encode.s0b codec_cast octet_Int kx
def codec_Encode.n0 : (List Int × List (Int × Int × ByteArray × Unit) × Int × Int × Unit) → Nat
  | (t4, t22, t23, t24, _) => t4.length + t22.length + t23.toNat + t24.toNat + 1048576
def codec_Encode.l0 (x : List Int × List (Int × Int × ByteArray × Unit) × Int × Int × Unit) (kx : (List Int × Unit) → Option (List Int × Int × Unit)) : Option (List Int × Int × Unit) := loopN (codec_Encode.n0 x) (codec_Encode.s0 kx) x
def codec_Encode.b (l0 : (List Int × List (Int × Int × ByteArray × Unit) × Int × Int × Unit) → ((List Int × Unit) → Option (List Int × Int × Unit)) → Option (List Int × Int × Unit)) : (List (Int × Int × ByteArray × Unit) × Unit) → Option (List Int × Int × Unit)
  | (x0, _) =>
    cond (igt (x0.length : Int) 12) (
    some ([], 2, ())) (
    l0 ([(IntKind.wrap .u8 (x0.length : Int))], x0, (x0.length : Int), 0, ()) fun (t4, _) =>
    some (t4, 0, ()))
def codec_Encode (x : (List (Int × Int × ByteArray × Unit) × Unit)) : Option (List Int × Int × Unit) := codec_Encode.b codec_Encode.l0 x
/-- muniment/munimentlaw04.awake -/
def w04_awake.b (f12 : (List Int × Unit) → Option ByteArray) (f20 : (List (Int × Int × ByteArray × Unit) × Unit) → Option (List Int × Int × Unit)) : Unit → Option Bool
  | (_) =>
    (f20 ([(1, 1, ByteArray.empty, ()), (2, 0, (⟨#[97]⟩ : ByteArray), ()), (0, 0, ByteArray.empty, ())], ())).bind fun v8 =>
    cond (ieq v8.2.1 0) (
    cond (seq (strOf v8.1) (⟨#[3, 1, 128, 0, 0, 0, 0, 0, 0, 1, 2, 1, 97, 0]⟩ : ByteArray)) (
    (f12 ([255], ())).bind fun v20 =>
    some (seq v20 (⟨#[95, 119]⟩ : ByteArray))) (
    some false)) (
    some false)
def w04_awake (x : Unit) : Option Bool := w04_awake.b codec_Base codec_Encode x
/-- muniment/munimentref04.Form -/
def r04_Form.b (f29 : (ByteArray × Unit) → Option Bool) : ((Int × Int × ByteArray × Unit) × Unit) → Option Bool
  | (x0, _) =>
    cond (ieq x0.1 0) (
    cond (ieq x0.2.1 0) (
    some (ieq (x0.2.2.1.size : Int) 0)) (
    some false)) (
    cond (ieq x0.1 1) (
    some (ieq (x0.2.2.1.size : Int) 0)) (
    cond (ieq x0.1 2) (
    cond (ieq x0.2.1 0) (
    cond (ile (x0.2.2.1.size : Int) 60) (
    (f29 (x0.2.2.1, ())).bind fun v36 =>
    some v36) (
    some false)) (
    some false)) (
    cond (ieq x0.1 3) (
    cond (ieq (x0.2.2.1.size : Int) 0) (
    cond (ige x0.2.1 0) (
    some (ile x0.2.1 1)) (
    some false)) (
    some false)) (
    some false))))
def r04_Form (x : ((Int × Int × ByteArray × Unit) × Unit)) : Option Bool := r04_Form.b unicode_utf8_ValidString x
/-- muniment/octet.Text -/
def octet_Text.s0b (kx : (List Int × Unit) → Option (List Int)) : (ByteArray × List Int × Int × Int × Unit) → ((ByteArray × List Int × Int × Int × Unit) → Option (List Int)) → Option (List Int)
  | (t0, t3, t6, t7, _), κ =>
    cond (ilt t7 t6) (
    chk (inB t7 t0.size) <|
    chk (fits 1 (t3.length + 1)) <|
    chk (inB t7 t0.size) <|
    cond (ieq (byteAt t0 t7.toNat) 0) (
    chk (fits 1 ((t3 ++ [(byteAt t0 t7.toNat)]).length + 1)) <|
    κ (t0, ((t3 ++ [(byteAt t0 t7.toNat)]) ++ [255]), t6, (iadd .i64 t7 1), ())) (
    κ (t0, (t3 ++ [(byteAt t0 t7.toNat)]), t6, (iadd .i64 t7 1), ()))) (
    kx (t3, ()))
def octet_Text.s0 (kx : (List Int × Unit) → Option (List Int)) : (ByteArray × List Int × Int × Int × Unit) → ((ByteArray × List Int × Int × Int × Unit) → Option (List Int)) → Option (List Int) := octet_Text.s0b kx
def octet_Text.n0 : (ByteArray × List Int × Int × Int × Unit) → Nat
  | (t0, t3, t6, t7, _) => t0.size + t3.length + t6.toNat + t7.toNat + 1048576
def octet_Text.l0 (x : ByteArray × List Int × Int × Int × Unit) (kx : (List Int × Unit) → Option (List Int)) : Option (List Int) := loopN (octet_Text.n0 x) (octet_Text.s0 kx) x
def octet_Text.b (l0 : (ByteArray × List Int × Int × Int × Unit) → ((List Int × Unit) → Option (List Int)) → Option (List Int)) : (ByteArray × Unit) → Option (List Int)
  | (x0, _) =>
    l0 (x0, [], (x0.size : Int), 0, ()) fun (t3, _) =>
    chk (fits 1 (t3.length + 2)) <|
    some (t3 ++ [0, 1])
def octet_Text (x : (ByteArray × Unit)) : Option (List Int) := octet_Text.b octet_Text.l0 x
/-- muniment/codec.Key -/
def codec_Key.b (f30 : ((Int × Int × ByteArray × Unit) × Unit) → Option (Dyn × Bool × Unit)) (f31 : (Int × Unit) → Option (List Int)) (f32 : (ByteArray × Unit) → Option (List Int)) : ((Int × Int × ByteArray × Unit) × Unit) → Option (List Int × Int × Unit)
  | (x0, _) =>
    (f30 ((x0.1, x0.2.1, x0.2.2.1, ()), ())).bind fun v12 =>
    cond (!v12.2.1) (
    some ([], 3, ())) (
    chk (fitT 2 (.int .i64) (Dyn.val v12.1)) <|
    cond (isT 2 (Dyn.val v12.1)) (
    (f31 ((asT (.int .i64) 2 (Dyn.val v12.1)), ())).bind fun v26 =>
    chk (fits 1 (1 + v26.length)) <|
    some (([x0.1] ++ v26), 0, ())) (
    chk (fitT 9 .str (Dyn.val v12.1)) <|
    cond (isT 9 (Dyn.val v12.1)) (
    (f32 ((asT .str 9 (Dyn.val v12.1)), ())).bind fun v33 =>
    chk (fits 1 (1 + v33.length)) <|
    some (([x0.1] ++ v33), 0, ())) (
    chk (fitT 4 .bool (Dyn.val v12.1)) <|
    cond (isT 4 (Dyn.val v12.1)) (
    chk (fits 1 (1 + 1)) <|
    some (([x0.1] ++ [(IntKind.wrap .u8 x0.2.1)]), 0, ())) (
    some ([x0.1], 0, ())))))
def codec_Key (x : ((Int × Int × ByteArray × Unit) × Unit)) : Option (List Int × Int × Unit) := codec_Key.b codec_cast octet_Int octet_Text x
/-- muniment/munimentref04.Less -/
def r04_Less.b : ((Int × Int × ByteArray × Unit) × (Int × Int × ByteArray × Unit) × Unit) → Option Bool
  | (x0, x1, _) =>
    cond (ine x0.1 x1.1) (
    some (ilt x0.1 x1.1)) (
    cond (ieq x0.1 2) (
    some (slt x0.2.2.1 x1.2.2.1)) (
    some (ilt x0.2.1 x1.2.1)))
def r04_Less (x : ((Int × Int × ByteArray × Unit) × (Int × Int × ByteArray × Unit) × Unit)) : Option Bool := r04_Less.b x
/-- muniment/codec.Form -/
def codec_Form.b (f30 : ((Int × Int × ByteArray × Unit) × Unit) → Option (Dyn × Bool × Unit)) : ((Int × Int × ByteArray × Unit) × Unit) → Option Bool
  | (x0, _) =>
    (f30 ((x0.1, x0.2.1, x0.2.2.1, ()), ())).bind fun v7 =>
    some v7.2.1
def codec_Form (x : ((Int × Int × ByteArray × Unit) × Unit)) : Option Bool := codec_Form.b codec_cast x
/-- muniment/munimentref02.Uint -/
def r02_Uint.s0b (kx : (List Int × Unit) → Option (List Int)) : (Int × List Int × Int × Unit) → ((Int × List Int × Int × Unit) → Option (List Int)) → Option (List Int)
  | (t0, t3, t4, _), κ =>
    cond (ige t4 0) (
    chk (ile 0 (imul .i64 8 t4)) <|
    chk (fits 1 (t3.length + 1)) <|
    κ (t0, (t3 ++ [(IntKind.wrap .u8 (ishr .u64 t0 (imul .i64 8 t4)))]), (isub .i64 t4 1), ())) (
    kx (t3, ()))
def r02_Uint.s0 (kx : (List Int × Unit) → Option (List Int)) : (Int × List Int × Int × Unit) → ((Int × List Int × Int × Unit) → Option (List Int)) → Option (List Int) := r02_Uint.s0b kx
def r02_Uint.n0 : (Int × List Int × Int × Unit) → Nat
  | (t0, t3, t4, _) => t0.toNat + t3.length + t4.toNat + 1048576
def r02_Uint.l0 (x : Int × List Int × Int × Unit) (kx : (List Int × Unit) → Option (List Int)) : Option (List Int) := loopN (r02_Uint.n0 x) (r02_Uint.s0 kx) x
def r02_Uint.b (l0 : (Int × List Int × Int × Unit) → ((List Int × Unit) → Option (List Int)) → Option (List Int)) : (Int × Unit) → Option (List Int)
  | (x0, _) =>
    l0 (x0, [], 7, ()) fun (t3, _) =>
    some t3
def r02_Uint (x : (Int × Unit)) : Option (List Int) := r02_Uint.b r02_Uint.l0 x
/-- muniment/munimentref02.Int -/
def r02_Int.b (f44 : (Int × Unit) → Option (List Int)) : (Int × Unit) → Option (List Int)
  | (x0, _) =>
    (f44 ((iadd .u64 (IntKind.wrap .u64 x0) 9223372036854775808), ())).bind fun v6 =>
    some v6
def r02_Int (x : (Int × Unit)) : Option (List Int) := r02_Int.b r02_Uint x
/-- muniment/munimentref04.Encode -/
def r04_Encode.s0b (f16 : ((Int × Int × ByteArray × Unit) × Unit) → Option Bool) (f33 : (Int × Unit) → Option (List Int)) (kx : (List Int × Unit) → Option (List Int × Int × Unit)) : (List (Int × Int × ByteArray × Unit) × List Int × Int × Unit) → ((List (Int × Int × ByteArray × Unit) × List Int × Int × Unit) → Option (List Int × Int × Unit)) → Option (List Int × Int × Unit)
  | (t0, t4, t5, _), κ =>
    cond (ilt t5 (t0.length : Int)) (
    chk (inB t5 t0.length) <|
    (f16 (((t0.getD t5.toNat ((0 : Int), (0 : Int), ByteArray.empty, ())).1, (t0.getD t5.toNat ((0 : Int), (0 : Int), ByteArray.empty, ())).2.1, (t0.getD t5.toNat ((0 : Int), (0 : Int), ByteArray.empty, ())).2.2.1, ()), ())).bind fun v25 =>
    cond (!v25) (
    some ([], 3, ())) (
    chk (fits 1 (t4.length + 1)) <|
    cond (ieq ((t0.getD t5.toNat ((0 : Int), (0 : Int), ByteArray.empty, ())).1) 1) (
    (f33 ((t0.getD t5.toNat ((0 : Int), (0 : Int), ByteArray.empty, ())).2.1, ())).bind fun v39 =>
    chk (fits 1 ((t4 ++ [(t0.getD t5.toNat ((0 : Int), (0 : Int), ByteArray.empty, ())).1]).length + v39.length)) <|
    κ (t0, ((t4 ++ [(t0.getD t5.toNat ((0 : Int), (0 : Int), ByteArray.empty, ())).1]) ++ v39), (iadd .i64 t5 1), ())) (
    cond (ieq ((t0.getD t5.toNat ((0 : Int), (0 : Int), ByteArray.empty, ())).1) 2) (
    chk (fits 1 ((t4 ++ [(t0.getD t5.toNat ((0 : Int), (0 : Int), ByteArray.empty, ())).1]).length + 1)) <|
    chk (fits 1 (((t4 ++ [(t0.getD t5.toNat ((0 : Int), (0 : Int), ByteArray.empty, ())).1]) ++ [(IntKind.wrap .u8 (((t0.getD t5.toNat ((0 : Int), (0 : Int), ByteArray.empty, ())).2.2.1).size : Int))]).length + (bytesOf ((t0.getD t5.toNat ((0 : Int), (0 : Int), ByteArray.empty, ())).2.2.1)).length)) <|
    κ (t0, (((t4 ++ [(t0.getD t5.toNat ((0 : Int), (0 : Int), ByteArray.empty, ())).1]) ++ [(IntKind.wrap .u8 (((t0.getD t5.toNat ((0 : Int), (0 : Int), ByteArray.empty, ())).2.2.1).size : Int))]) ++ (bytesOf ((t0.getD t5.toNat ((0 : Int), (0 : Int), ByteArray.empty, ())).2.2.1))), (iadd .i64 t5 1), ())) (
    cond (ieq ((t0.getD t5.toNat ((0 : Int), (0 : Int), ByteArray.empty, ())).1) 3) (
    chk (fits 1 ((t4 ++ [(t0.getD t5.toNat ((0 : Int), (0 : Int), ByteArray.empty, ())).1]).length + 1)) <|
    κ (t0, ((t4 ++ [(t0.getD t5.toNat ((0 : Int), (0 : Int), ByteArray.empty, ())).1]) ++ [(IntKind.wrap .u8 ((t0.getD t5.toNat ((0 : Int), (0 : Int), ByteArray.empty, ())).2.1))]), (iadd .i64 t5 1), ())) (
    κ (t0, (t4 ++ [(t0.getD t5.toNat ((0 : Int), (0 : Int), ByteArray.empty, ())).1]), (iadd .i64 t5 1), ())))))) (
    kx (t4, ()))
def r04_Encode.s0 (kx : (List Int × Unit) → Option (List Int × Int × Unit)) : (List (Int × Int × ByteArray × Unit) × List Int × Int × Unit) → ((List (Int × Int × ByteArray × Unit) × List Int × Int × Unit) → Option (List Int × Int × Unit)) → Option (List Int × Int × Unit) := r04_Encode.s0b r04_Form r02_Int kx
def r04_Encode.n0 : (List (Int × Int × ByteArray × Unit) × List Int × Int × Unit) → Nat
  | (t0, t4, t5, _) => t0.length + t4.length + t5.toNat + 1048576
def r04_Encode.l0 (x : List (Int × Int × ByteArray × Unit) × List Int × Int × Unit) (kx : (List Int × Unit) → Option (List Int × Int × Unit)) : Option (List Int × Int × Unit) := loopN (r04_Encode.n0 x) (r04_Encode.s0 kx) x
def r04_Encode.b (l0 : (List (Int × Int × ByteArray × Unit) × List Int × Int × Unit) → ((List Int × Unit) → Option (List Int × Int × Unit)) → Option (List Int × Int × Unit)) : (List (Int × Int × ByteArray × Unit) × Unit) → Option (List Int × Int × Unit)
  | (x0, _) =>
    cond (igt (x0.length : Int) 12) (
    some ([], 2, ())) (
    l0 (x0, [(IntKind.wrap .u8 (x0.length : Int))], 0, ()) fun (t4, _) =>
    some (t4, 0, ()))
def r04_Encode (x : (List (Int × Int × ByteArray × Unit) × Unit)) : Option (List Int × Int × Unit) := r04_Encode.b r04_Encode.l0 x
/-- muniment/munimentref04.Same -/
def r04_Same.s0b (kx : Unit → Option Bool) : (List (Int × Int × ByteArray × Unit) × List (Int × Int × ByteArray × Unit) × Int × Unit) → ((List (Int × Int × ByteArray × Unit) × List (Int × Int × ByteArray × Unit) × Int × Unit) → Option Bool) → Option Bool
  | (t0, t1, t5, _), κ =>
    cond (ilt t5 (t0.length : Int)) (
    chk (inB t5 t0.length) <|
    chk (inB t5 t1.length) <|
    cond (!((ieq ((t0.getD t5.toNat ((0 : Int), (0 : Int), ByteArray.empty, ())).1) ((t1.getD t5.toNat ((0 : Int), (0 : Int), ByteArray.empty, ())).1)) && ((ieq ((t0.getD t5.toNat ((0 : Int), (0 : Int), ByteArray.empty, ())).2.1) ((t1.getD t5.toNat ((0 : Int), (0 : Int), ByteArray.empty, ())).2.1)) && ((seq ((t0.getD t5.toNat ((0 : Int), (0 : Int), ByteArray.empty, ())).2.2.1) ((t1.getD t5.toNat ((0 : Int), (0 : Int), ByteArray.empty, ())).2.2.1)) && true)))) (
    some false) (
    κ (t0, t1, (iadd .i64 t5 1), ()))) (
    kx (()))
def r04_Same.s0 (kx : Unit → Option Bool) : (List (Int × Int × ByteArray × Unit) × List (Int × Int × ByteArray × Unit) × Int × Unit) → ((List (Int × Int × ByteArray × Unit) × List (Int × Int × ByteArray × Unit) × Int × Unit) → Option Bool) → Option Bool := r04_Same.s0b kx
def r04_Same.n0 : (List (Int × Int × ByteArray × Unit) × List (Int × Int × ByteArray × Unit) × Int × Unit) → Nat
  | (t0, t1, t5, _) => t0.length + t1.length + t5.toNat + 1048576
def r04_Same.l0 (x : List (Int × Int × ByteArray × Unit) × List (Int × Int × ByteArray × Unit) × Int × Unit) (kx : Unit → Option Bool) : Option Bool := loopN (r04_Same.n0 x) (r04_Same.s0 kx) x
def r04_Same.b (l0 : (List (Int × Int × ByteArray × Unit) × List (Int × Int × ByteArray × Unit) × Int × Unit) → (Unit → Option Bool) → Option Bool) : (List (Int × Int × ByteArray × Unit) × List (Int × Int × ByteArray × Unit) × Unit) → Option Bool
  | (x0, x1, _) =>
    cond (ine (x0.length : Int) (x1.length : Int)) (
    some false) (
    l0 (x0, x1, 0, ()) fun (_) =>
    some true)
def r04_Same (x : (List (Int × Int × ByteArray × Unit) × List (Int × Int × ByteArray × Unit) × Unit)) : Option Bool := r04_Same.b r04_Same.l0 x
/-- muniment/munimentref02.ReadUint -/
def r02_ReadUint.s0b (kx : (Int × Int × Unit) → Option (Int × Int × Int × Unit)) : (List Int × Int × Int × Int × Unit) → ((List Int × Int × Int × Int × Unit) → Option (Int × Int × Int × Unit)) → Option (Int × Int × Int × Unit)
  | (t0, t1, t7, t8, _), κ =>
    cond (ilt t8 8) (
    chk (inB (iadd .i64 t1 t8) t0.length) <|
    κ (t0, t1, (iadd .u64 (imul .u64 t7 256) (IntKind.wrap .u64 (t0.getD (iadd .i64 t1 t8).toNat (0 : Int)))), (iadd .i64 t8 1), ())) (
    kx (t1, t7, ()))
def r02_ReadUint.s0 (kx : (Int × Int × Unit) → Option (Int × Int × Int × Unit)) : (List Int × Int × Int × Int × Unit) → ((List Int × Int × Int × Int × Unit) → Option (Int × Int × Int × Unit)) → Option (Int × Int × Int × Unit) := r02_ReadUint.s0b kx
def r02_ReadUint.n0 : (List Int × Int × Int × Int × Unit) → Nat
  | (t0, t1, t7, t8, _) => t0.length + t1.toNat + t7.toNat + t8.toNat + 1048576
def r02_ReadUint.l0 (x : List Int × Int × Int × Int × Unit) (kx : (Int × Int × Unit) → Option (Int × Int × Int × Unit)) : Option (Int × Int × Int × Unit) := loopN (r02_ReadUint.n0 x) (r02_ReadUint.s0 kx) x
def r02_ReadUint.b (l0 : (List Int × Int × Int × Int × Unit) → ((Int × Int × Unit) → Option (Int × Int × Int × Unit)) → Option (Int × Int × Int × Unit)) : (List Int × Int × Unit) → Option (Int × Int × Int × Unit)
  | (x0, x1, _) =>
    cond (ilt x1 0) (
    some (0, 0, 1, ())) (
    cond (igt x1 (x0.length : Int)) (
    some (0, 0, 1, ())) (
    cond (ilt (isub .i64 (x0.length : Int) x1) 8) (
    some (0, 0, 3, ())) (
    l0 (x0, x1, 0, 0, ()) fun (t1, t7, _) =>
    some (t7, (iadd .i64 t1 8), 0, ()))))
def r02_ReadUint (x : (List Int × Int × Unit)) : Option (Int × Int × Int × Unit) := r02_ReadUint.b r02_ReadUint.l0 x
/-- muniment/munimentref02.ReadInt -/
def r02_ReadInt.b (f45 : (List Int × Int × Unit) → Option (Int × Int × Int × Unit)) : (List Int × Int × Unit) → Option (Int × Int × Int × Unit)
  | (x0, x1, _) =>
    (f45 (x0, x1, ())).bind fun v13 =>
    cond (ine v13.2.2.1 0) (
    some (0, 0, v13.2.2.1, ())) (
    some ((IntKind.wrap .i64 (isub .u64 v13.1 9223372036854775808)), v13.2.1, 0, ()))
def r02_ReadInt (x : (List Int × Int × Unit)) : Option (Int × Int × Int × Unit) := r02_ReadInt.b r02_ReadUint x
/-- muniment/munimentref04.Decode -/
def r04_Decode.s0b (f37 : (List Int × Int × Unit) → Option (Int × Int × Int × Unit)) (kx : (List Int × List (Int × Int × ByteArray × Unit) × Unit) → Option (List (Int × Int × ByteArray × Unit) × Int × Unit)) : (List Int × List (Int × Int × ByteArray × Unit) × Int × Int × Unit) → ((List Int × List (Int × Int × ByteArray × Unit) × Int × Int × Unit) → Option (List (Int × Int × ByteArray × Unit) × Int × Unit)) → Option (List (Int × Int × ByteArray × Unit) × Int × Unit)
  | (t0, t4, t5, t6, _), κ =>
    chk (inB 0 t0.length) <|
    cond (ilt t6 (IntKind.wrap .i64 (t0.getD 0 (0 : Int)))) (
    cond (ige t5 (t0.length : Int)) (
    some ([], 3, ())) (
    chk (inB t5 t0.length) <|
    cond (ieq (t0.getD t5.toNat (0 : Int)) 1) (
    cond (ilt (isub .i64 (t0.length : Int) (iadd .i64 t5 1)) 8) (
    some ([], 3, ())) (
    cond (ieq (t0.getD t5.toNat (0 : Int)) 1) (
    (f37 (t0, (iadd .i64 t5 1), ())).bind fun v64 =>
    chk (fits 32 (t4.length + 1)) <|
    κ (t0, (t4 ++ [((t0.getD t5.toNat (0 : Int)), v64.1, ByteArray.empty, ())]), (iadd .i64 (iadd .i64 t5 1) 8), (iadd .i64 t6 1), ())) (
    cond (ieq (t0.getD t5.toNat (0 : Int)) 2) (
    chk (leB 0 (iadd .i64 (iadd .i64 t5 1) 1) && (leB (iadd .i64 (iadd .i64 t5 1) 1) (iadd .i64 (iadd .i64 t5 1) 8) && leB (iadd .i64 (iadd .i64 t5 1) 8) t0.length)) <|
    chk (fits 32 (t4.length + 1)) <|
    κ (t0, (t4 ++ [((t0.getD t5.toNat (0 : Int)), 0, (strOf ((t0.drop (iadd .i64 (iadd .i64 t5 1) 1).toNat).take (((iadd .i64 (iadd .i64 t5 1) 8) : Int) - (iadd .i64 (iadd .i64 t5 1) 1)).toNat)), ())]), (iadd .i64 (iadd .i64 t5 1) 8), (iadd .i64 t6 1), ())) (
    cond (ieq (t0.getD t5.toNat (0 : Int)) 3) (
    chk (inB (iadd .i64 t5 1) t0.length) <|
    chk (fits 32 (t4.length + 1)) <|
    κ (t0, (t4 ++ [((t0.getD t5.toNat (0 : Int)), (IntKind.wrap .i64 (t0.getD (iadd .i64 t5 1).toNat (0 : Int))), ByteArray.empty, ())]), (iadd .i64 (iadd .i64 t5 1) 8), (iadd .i64 t6 1), ())) (
    chk (fits 32 (t4.length + 1)) <|
    κ (t0, (t4 ++ [((t0.getD t5.toNat (0 : Int)), 0, ByteArray.empty, ())]), (iadd .i64 (iadd .i64 t5 1) 8), (iadd .i64 t6 1), ())))))) (
    cond (ieq (t0.getD t5.toNat (0 : Int)) 2) (
    cond (ige (iadd .i64 t5 1) (t0.length : Int)) (
    some ([], 3, ())) (
    chk (inB (iadd .i64 t5 1) t0.length) <|
    cond (ilt (isub .i64 (t0.length : Int) (iadd .i64 t5 1)) (iadd .i64 1 (IntKind.wrap .i64 (t0.getD (iadd .i64 t5 1).toNat (0 : Int))))) (
    some ([], 3, ())) (
    cond (ieq (t0.getD t5.toNat (0 : Int)) 1) (
    (f37 (t0, (iadd .i64 t5 1), ())).bind fun v64 =>
    chk (fits 32 (t4.length + 1)) <|
    κ (t0, (t4 ++ [((t0.getD t5.toNat (0 : Int)), v64.1, ByteArray.empty, ())]), (iadd .i64 (iadd .i64 t5 1) (iadd .i64 1 (IntKind.wrap .i64 (t0.getD (iadd .i64 t5 1).toNat (0 : Int))))), (iadd .i64 t6 1), ())) (
    cond (ieq (t0.getD t5.toNat (0 : Int)) 2) (
    chk (leB 0 (iadd .i64 (iadd .i64 t5 1) 1) && (leB (iadd .i64 (iadd .i64 t5 1) 1) (iadd .i64 (iadd .i64 t5 1) (iadd .i64 1 (IntKind.wrap .i64 (t0.getD (iadd .i64 t5 1).toNat (0 : Int))))) && leB (iadd .i64 (iadd .i64 t5 1) (iadd .i64 1 (IntKind.wrap .i64 (t0.getD (iadd .i64 t5 1).toNat (0 : Int))))) t0.length)) <|
    chk (fits 32 (t4.length + 1)) <|
    κ (t0, (t4 ++ [((t0.getD t5.toNat (0 : Int)), 0, (strOf ((t0.drop (iadd .i64 (iadd .i64 t5 1) 1).toNat).take (((iadd .i64 (iadd .i64 t5 1) (iadd .i64 1 (IntKind.wrap .i64 (t0.getD (iadd .i64 t5 1).toNat (0 : Int))))) : Int) - (iadd .i64 (iadd .i64 t5 1) 1)).toNat)), ())]), (iadd .i64 (iadd .i64 t5 1) (iadd .i64 1 (IntKind.wrap .i64 (t0.getD (iadd .i64 t5 1).toNat (0 : Int))))), (iadd .i64 t6 1), ())) (
    cond (ieq (t0.getD t5.toNat (0 : Int)) 3) (
    chk (inB (iadd .i64 t5 1) t0.length) <|
    chk (fits 32 (t4.length + 1)) <|
    κ (t0, (t4 ++ [((t0.getD t5.toNat (0 : Int)), (IntKind.wrap .i64 (t0.getD (iadd .i64 t5 1).toNat (0 : Int))), ByteArray.empty, ())]), (iadd .i64 (iadd .i64 t5 1) (iadd .i64 1 (IntKind.wrap .i64 (t0.getD (iadd .i64 t5 1).toNat (0 : Int))))), (iadd .i64 t6 1), ())) (
    chk (fits 32 (t4.length + 1)) <|
    κ (t0, (t4 ++ [((t0.getD t5.toNat (0 : Int)), 0, ByteArray.empty, ())]), (iadd .i64 (iadd .i64 t5 1) (iadd .i64 1 (IntKind.wrap .i64 (t0.getD (iadd .i64 t5 1).toNat (0 : Int))))), (iadd .i64 t6 1), ()))))))) (
    cond (ieq (t0.getD t5.toNat (0 : Int)) 3) (
    cond (ilt (isub .i64 (t0.length : Int) (iadd .i64 t5 1)) 1) (
    some ([], 3, ())) (
    cond (ieq (t0.getD t5.toNat (0 : Int)) 1) (
    (f37 (t0, (iadd .i64 t5 1), ())).bind fun v64 =>
    chk (fits 32 (t4.length + 1)) <|
    κ (t0, (t4 ++ [((t0.getD t5.toNat (0 : Int)), v64.1, ByteArray.empty, ())]), (iadd .i64 (iadd .i64 t5 1) 1), (iadd .i64 t6 1), ())) (
    cond (ieq (t0.getD t5.toNat (0 : Int)) 2) (
    chk (leB 0 (iadd .i64 (iadd .i64 t5 1) 1) && (leB (iadd .i64 (iadd .i64 t5 1) 1) (iadd .i64 (iadd .i64 t5 1) 1) && leB (iadd .i64 (iadd .i64 t5 1) 1) t0.length)) <|
    chk (fits 32 (t4.length + 1)) <|
    κ (t0, (t4 ++ [((t0.getD t5.toNat (0 : Int)), 0, (strOf ((t0.drop (iadd .i64 (iadd .i64 t5 1) 1).toNat).take (((iadd .i64 (iadd .i64 t5 1) 1) : Int) - (iadd .i64 (iadd .i64 t5 1) 1)).toNat)), ())]), (iadd .i64 (iadd .i64 t5 1) 1), (iadd .i64 t6 1), ())) (
    cond (ieq (t0.getD t5.toNat (0 : Int)) 3) (
    chk (inB (iadd .i64 t5 1) t0.length) <|
    chk (fits 32 (t4.length + 1)) <|
    κ (t0, (t4 ++ [((t0.getD t5.toNat (0 : Int)), (IntKind.wrap .i64 (t0.getD (iadd .i64 t5 1).toNat (0 : Int))), ByteArray.empty, ())]), (iadd .i64 (iadd .i64 t5 1) 1), (iadd .i64 t6 1), ())) (
    chk (fits 32 (t4.length + 1)) <|
    κ (t0, (t4 ++ [((t0.getD t5.toNat (0 : Int)), 0, ByteArray.empty, ())]), (iadd .i64 (iadd .i64 t5 1) 1), (iadd .i64 t6 1), ())))))) (
    cond (ilt (isub .i64 (t0.length : Int) (iadd .i64 t5 1)) 0) (
    some ([], 3, ())) (
    cond (ieq (t0.getD t5.toNat (0 : Int)) 1) (
    (f37 (t0, (iadd .i64 t5 1), ())).bind fun v64 =>
    chk (fits 32 (t4.length + 1)) <|
    κ (t0, (t4 ++ [((t0.getD t5.toNat (0 : Int)), v64.1, ByteArray.empty, ())]), (iadd .i64 (iadd .i64 t5 1) 0), (iadd .i64 t6 1), ())) (
    cond (ieq (t0.getD t5.toNat (0 : Int)) 2) (
    chk (leB 0 (iadd .i64 (iadd .i64 t5 1) 1) && (leB (iadd .i64 (iadd .i64 t5 1) 1) (iadd .i64 (iadd .i64 t5 1) 0) && leB (iadd .i64 (iadd .i64 t5 1) 0) t0.length)) <|
    chk (fits 32 (t4.length + 1)) <|
    κ (t0, (t4 ++ [((t0.getD t5.toNat (0 : Int)), 0, (strOf ((t0.drop (iadd .i64 (iadd .i64 t5 1) 1).toNat).take (((iadd .i64 (iadd .i64 t5 1) 0) : Int) - (iadd .i64 (iadd .i64 t5 1) 1)).toNat)), ())]), (iadd .i64 (iadd .i64 t5 1) 0), (iadd .i64 t6 1), ())) (
    cond (ieq (t0.getD t5.toNat (0 : Int)) 3) (
    chk (inB (iadd .i64 t5 1) t0.length) <|
    chk (fits 32 (t4.length + 1)) <|
    κ (t0, (t4 ++ [((t0.getD t5.toNat (0 : Int)), (IntKind.wrap .i64 (t0.getD (iadd .i64 t5 1).toNat (0 : Int))), ByteArray.empty, ())]), (iadd .i64 (iadd .i64 t5 1) 0), (iadd .i64 t6 1), ())) (
    chk (fits 32 (t4.length + 1)) <|
    κ (t0, (t4 ++ [((t0.getD t5.toNat (0 : Int)), 0, ByteArray.empty, ())]), (iadd .i64 (iadd .i64 t5 1) 0), (iadd .i64 t6 1), ())))))))))) (
    kx (t0, t4, ()))
def r04_Decode.s0 (kx : (List Int × List (Int × Int × ByteArray × Unit) × Unit) → Option (List (Int × Int × ByteArray × Unit) × Int × Unit)) : (List Int × List (Int × Int × ByteArray × Unit) × Int × Int × Unit) → ((List Int × List (Int × Int × ByteArray × Unit) × Int × Int × Unit) → Option (List (Int × Int × ByteArray × Unit) × Int × Unit)) → Option (List (Int × Int × ByteArray × Unit) × Int × Unit) := r04_Decode.s0b r02_ReadInt kx
def r04_Decode.n0 : (List Int × List (Int × Int × ByteArray × Unit) × Int × Int × Unit) → Nat
  | (t0, t4, t5, t6, _) => t0.length + t4.length + t5.toNat + t6.toNat + 1048576
def r04_Decode.l0 (x : List Int × List (Int × Int × ByteArray × Unit) × Int × Int × Unit) (kx : (List Int × List (Int × Int × ByteArray × Unit) × Unit) → Option (List (Int × Int × ByteArray × Unit) × Int × Unit)) : Option (List (Int × Int × ByteArray × Unit) × Int × Unit) := loopN (r04_Decode.n0 x) (r04_Decode.s0 kx) x
def r04_Decode.b (f21 : (List (Int × Int × ByteArray × Unit) × Unit) → Option (List Int × Int × Unit)) (l0 : (List Int × List (Int × Int × ByteArray × Unit) × Int × Int × Unit) → ((List Int × List (Int × Int × ByteArray × Unit) × Unit) → Option (List (Int × Int × ByteArray × Unit) × Int × Unit)) → Option (List (Int × Int × ByteArray × Unit) × Int × Unit)) : (List Int × Unit) → Option (List (Int × Int × ByteArray × Unit) × Int × Unit)
  | (x0, _) =>
    cond (ieq (x0.length : Int) 0) (
    some ([], 3, ())) (
    l0 (x0, [], 1, 0, ()) fun (t0, t4, _) =>
    (f21 (t4, ())).bind fun v97 =>
    cond (ine v97.2.1 0) (
    some ([], 3, ())) (
    cond (sne (strOf v97.1) (strOf t0)) (
    some ([], 3, ())) (
    some (t4, 0, ()))))
def r04_Decode (x : (List Int × Unit)) : Option (List (Int × Int × ByteArray × Unit) × Int × Unit) := r04_Decode.b r04_Encode r04_Decode.l0 x
/-- muniment/munimentref02.Text -/
def r02_Text.s0b (kx : (List Int × Unit) → Option (List Int)) : (ByteArray × List Int × Int × Unit) → ((ByteArray × List Int × Int × Unit) → Option (List Int)) → Option (List Int)
  | (t0, t3, t4, _), κ =>
    cond (ilt t4 (t0.size : Int)) (
    chk (inB t4 t0.size) <|
    chk (fits 1 (t3.length + 1)) <|
    chk (inB t4 t0.size) <|
    cond (ieq (byteAt t0 t4.toNat) 0) (
    chk (fits 1 ((t3 ++ [(byteAt t0 t4.toNat)]).length + 1)) <|
    κ (t0, ((t3 ++ [(byteAt t0 t4.toNat)]) ++ [255]), (iadd .i64 t4 1), ())) (
    κ (t0, (t3 ++ [(byteAt t0 t4.toNat)]), (iadd .i64 t4 1), ()))) (
    kx (t3, ()))
def r02_Text.s0 (kx : (List Int × Unit) → Option (List Int)) : (ByteArray × List Int × Int × Unit) → ((ByteArray × List Int × Int × Unit) → Option (List Int)) → Option (List Int) := r02_Text.s0b kx
def r02_Text.n0 : (ByteArray × List Int × Int × Unit) → Nat
  | (t0, t3, t4, _) => t0.size + t3.length + t4.toNat + 1048576
def r02_Text.l0 (x : ByteArray × List Int × Int × Unit) (kx : (List Int × Unit) → Option (List Int)) : Option (List Int) := loopN (r02_Text.n0 x) (r02_Text.s0 kx) x
def r02_Text.b (l0 : (ByteArray × List Int × Int × Unit) → ((List Int × Unit) → Option (List Int)) → Option (List Int)) : (ByteArray × Unit) → Option (List Int)
  | (x0, _) =>
    l0 (x0, [], 0, ()) fun (t3, _) =>
    chk (fits 1 (t3.length + 2)) <|
    some (t3 ++ [0, 1])
def r02_Text (x : (ByteArray × Unit)) : Option (List Int) := r02_Text.b r02_Text.l0 x
/-- muniment/munimentref04.Key -/
def r04_Key.b (f33 : (Int × Unit) → Option (List Int)) (f40 : (ByteArray × Unit) → Option (List Int)) : ((Int × Int × ByteArray × Unit) × Unit) → Option (List Int)
  | (x0, _) =>
    cond (ieq x0.1 1) (
    (f33 (x0.2.1, ())).bind fun v14 =>
    chk (fits 1 (1 + v14.length)) <|
    some ([x0.1] ++ v14)) (
    cond (ieq x0.1 2) (
    (f40 (x0.2.2.1, ())).bind fun v21 =>
    chk (fits 1 (1 + v21.length)) <|
    some ([x0.1] ++ v21)) (
    cond (ieq x0.1 3) (
    chk (fits 1 (1 + 1)) <|
    some ([x0.1] ++ [(IntKind.wrap .u8 x0.2.1)])) (
    some [x0.1])))
def r04_Key (x : ((Int × Int × ByteArray × Unit) × Unit)) : Option (List Int) := r04_Key.b r02_Int r02_Text x
/-- muniment/octet.ReadUint -/
def octet_ReadUint.s0b (kx : (Int × Int × Unit) → Option (Int × Int × Int × Unit)) : (Int × Int × List Int × Int × Int × Unit) → ((Int × Int × List Int × Int × Int × Unit) → Option (Int × Int × Int × Unit)) → Option (Int × Int × Int × Unit)
  | (t1, t7, t27, t28, t29, _), κ =>
    cond (ilt t29 t28) (
    chk (inB t29 t27.length) <|
    κ (t1, (ior .u64 (ishl .u64 t7 8) (IntKind.wrap .u64 (t27.getD t29.toNat (0 : Int)))), t27, t28, (iadd .i64 t29 1), ())) (
    kx (t1, t7, ()))
def octet_ReadUint.s0 (kx : (Int × Int × Unit) → Option (Int × Int × Int × Unit)) : (Int × Int × List Int × Int × Int × Unit) → ((Int × Int × List Int × Int × Int × Unit) → Option (Int × Int × Int × Unit)) → Option (Int × Int × Int × Unit) := octet_ReadUint.s0b kx
def octet_ReadUint.n0 : (Int × Int × List Int × Int × Int × Unit) → Nat
  | (t1, t7, t27, t28, t29, _) => t1.toNat + t7.toNat + t27.length + t28.toNat + t29.toNat + 1048576
def octet_ReadUint.l0 (x : Int × Int × List Int × Int × Int × Unit) (kx : (Int × Int × Unit) → Option (Int × Int × Int × Unit)) : Option (Int × Int × Int × Unit) := loopN (octet_ReadUint.n0 x) (octet_ReadUint.s0 kx) x
def octet_ReadUint.b (l0 : (Int × Int × List Int × Int × Int × Unit) → ((Int × Int × Unit) → Option (Int × Int × Int × Unit)) → Option (Int × Int × Int × Unit)) : (List Int × Int × Unit) → Option (Int × Int × Int × Unit)
  | (x0, x1, _) =>
    cond (ilt x1 0) (
    some (0, 0, 1, ())) (
    cond (igt x1 (x0.length : Int)) (
    some (0, 0, 1, ())) (
    cond (ilt (isub .i64 (x0.length : Int) x1) 8) (
    some (0, 0, 3, ())) (
    chk (leB 0 x1 && (leB x1 (iadd .i64 x1 8) && leB (iadd .i64 x1 8) x0.length)) <|
    l0 (x1, 0, ((x0.drop x1.toNat).take (((iadd .i64 x1 8) : Int) - x1).toNat), (((x0.drop x1.toNat).take (((iadd .i64 x1 8) : Int) - x1).toNat).length : Int), 0, ()) fun (t1, t7, _) =>
    some (t7, (iadd .i64 t1 8), 0, ()))))
def octet_ReadUint (x : (List Int × Int × Unit)) : Option (Int × Int × Int × Unit) := octet_ReadUint.b octet_ReadUint.l0 x
/-- muniment/octet.ReadInt -/
def octet_ReadInt.b (f46 : (List Int × Int × Unit) → Option (Int × Int × Int × Unit)) : (List Int × Int × Unit) → Option (Int × Int × Int × Unit)
  | (x0, x1, _) =>
    (f46 (x0, x1, ())).bind fun v13 =>
    cond (ine v13.2.2.1 0) (
    some (0, 0, v13.2.2.1, ())) (
    some ((IntKind.wrap .i64 (ixor .u64 v13.1 9223372036854775808)), v13.2.1, 0, ()))
def octet_ReadInt (x : (List Int × Int × Unit)) : Option (Int × Int × Int × Unit) := octet_ReadInt.b octet_ReadUint x
/-- muniment/octet.ReadText -/
def octet_ReadText.s0b (kx : Unit → Option (ByteArray × Int × Int × Unit)) : (List Int × List Int × Int × Unit) → ((List Int × List Int × Int × Unit) → Option (ByteArray × Int × Int × Unit)) → Option (ByteArray × Int × Int × Unit)
  | (t0, t7, t8, _), κ =>
    cond (ilt t8 (t0.length : Int)) (
    chk (inB t8 t0.length) <|
    cond (ine (t0.getD t8.toNat (0 : Int)) 0) (
    chk (inB t8 t0.length) <|
    chk (fits 1 (t7.length + 1)) <|
    κ (t0, (t7 ++ [(t0.getD t8.toNat (0 : Int))]), (iadd .i64 t8 1), ())) (
    cond (ieq (iadd .i64 t8 1) (t0.length : Int)) (
    kx (())) (
    chk (inB (iadd .i64 t8 1) t0.length) <|
    cond (ieq (t0.getD (iadd .i64 t8 1).toNat (0 : Int)) 1) (
    some ((strOf t7), (iadd .i64 (iadd .i64 t8 1) 1), 0, ())) (
    cond (ieq (t0.getD (iadd .i64 t8 1).toNat (0 : Int)) 255) (
    chk (fits 1 (t7.length + 1)) <|
    κ (t0, (t7 ++ [0]), (iadd .i64 (iadd .i64 t8 1) 1), ())) (
    some ((⟨#[]⟩ : ByteArray), 0, 3, ())))))) (
    kx (()))
def octet_ReadText.s0 (kx : Unit → Option (ByteArray × Int × Int × Unit)) : (List Int × List Int × Int × Unit) → ((List Int × List Int × Int × Unit) → Option (ByteArray × Int × Int × Unit)) → Option (ByteArray × Int × Int × Unit) := octet_ReadText.s0b kx
def octet_ReadText.n0 : (List Int × List Int × Int × Unit) → Nat
  | (t0, t7, t8, _) => t0.length + t7.length + t8.toNat + 1048576
def octet_ReadText.l0 (x : List Int × List Int × Int × Unit) (kx : Unit → Option (ByteArray × Int × Int × Unit)) : Option (ByteArray × Int × Int × Unit) := loopN (octet_ReadText.n0 x) (octet_ReadText.s0 kx) x
def octet_ReadText.b (l0 : (List Int × List Int × Int × Unit) → (Unit → Option (ByteArray × Int × Int × Unit)) → Option (ByteArray × Int × Int × Unit)) : (List Int × Int × Unit) → Option (ByteArray × Int × Int × Unit)
  | (x0, x1, _) =>
    cond (ilt x1 0) (
    some ((⟨#[]⟩ : ByteArray), 0, 1, ())) (
    cond (igt x1 (x0.length : Int)) (
    some ((⟨#[]⟩ : ByteArray), 0, 1, ())) (
    l0 (x0, [], x1, ()) fun (_) =>
    some ((⟨#[]⟩ : ByteArray), 0, 3, ())))
def octet_ReadText (x : (List Int × Int × Unit)) : Option (ByteArray × Int × Int × Unit) := octet_ReadText.b octet_ReadText.l0 x
/-- muniment/munimentref02.ReadText -/
def r02_ReadText.s0b (kx : Unit → Option (ByteArray × Int × Int × Unit)) : (List Int × List Int × Int × Unit) → ((List Int × List Int × Int × Unit) → Option (ByteArray × Int × Int × Unit)) → Option (ByteArray × Int × Int × Unit)
  | (t0, t7, t8, _), κ =>
    cond (ilt t8 (t0.length : Int)) (
    chk (inB t8 t0.length) <|
    cond (ieq (t0.getD t8.toNat (0 : Int)) 0) (
    cond (ige (iadd .i64 t8 1) (t0.length : Int)) (
    some ((⟨#[]⟩ : ByteArray), 0, 3, ())) (
    chk (inB (iadd .i64 t8 1) t0.length) <|
    cond (ieq (t0.getD (iadd .i64 t8 1).toNat (0 : Int)) 1) (
    some ((strOf t7), (iadd .i64 t8 2), 0, ())) (
    chk (inB (iadd .i64 t8 1) t0.length) <|
    cond (ine (t0.getD (iadd .i64 t8 1).toNat (0 : Int)) 255) (
    some ((⟨#[]⟩ : ByteArray), 0, 3, ())) (
    chk (fits 1 (t7.length + 1)) <|
    κ (t0, (t7 ++ [0]), (iadd .i64 (iadd .i64 t8 1) 1), ()))))) (
    chk (inB t8 t0.length) <|
    chk (fits 1 (t7.length + 1)) <|
    κ (t0, (t7 ++ [(t0.getD t8.toNat (0 : Int))]), (iadd .i64 t8 1), ()))) (
    kx (()))
def r02_ReadText.s0 (kx : Unit → Option (ByteArray × Int × Int × Unit)) : (List Int × List Int × Int × Unit) → ((List Int × List Int × Int × Unit) → Option (ByteArray × Int × Int × Unit)) → Option (ByteArray × Int × Int × Unit) := r02_ReadText.s0b kx
def r02_ReadText.n0 : (List Int × List Int × Int × Unit) → Nat
  | (t0, t7, t8, _) => t0.length + t7.length + t8.toNat + 1048576
def r02_ReadText.l0 (x : List Int × List Int × Int × Unit) (kx : Unit → Option (ByteArray × Int × Int × Unit)) : Option (ByteArray × Int × Int × Unit) := loopN (r02_ReadText.n0 x) (r02_ReadText.s0 kx) x
def r02_ReadText.b (l0 : (List Int × List Int × Int × Unit) → (Unit → Option (ByteArray × Int × Int × Unit)) → Option (ByteArray × Int × Int × Unit)) : (List Int × Int × Unit) → Option (ByteArray × Int × Int × Unit)
  | (x0, x1, _) =>
    cond (ilt x1 0) (
    some ((⟨#[]⟩ : ByteArray), 0, 1, ())) (
    cond (igt x1 (x0.length : Int)) (
    some ((⟨#[]⟩ : ByteArray), 0, 1, ())) (
    l0 (x0, [], x1, ()) fun (_) =>
    some ((⟨#[]⟩ : ByteArray), 0, 3, ())))
def r02_ReadText (x : (List Int × Int × Unit)) : Option (ByteArray × Int × Int × Unit) := r02_ReadText.b r02_ReadText.l0 x
end Go.Px
