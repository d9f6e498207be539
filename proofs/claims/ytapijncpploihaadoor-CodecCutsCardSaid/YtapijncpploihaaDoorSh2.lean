import Derived.Test.YtapijncpploihaaDoorSh
import Derived.Test.YtapijncpploihaaDoorDecD
set_option linter.unusedVariables false
set_option linter.unusedSimpArgs false
namespace Go.Px
open Go
/-- muniment/munimentlaw04.CodecEncodes -/
def w04_CodecEncodes.s0b (f16 : ((Int × Int × ByteArray × Unit) × Unit) → Option Bool) (f19 : ((Int × Int × ByteArray × Unit) × Unit) → Option Bool) (kx : (List (Int × Int × ByteArray × Unit) × Unit) → Option Bool) : (List (Int × Int × ByteArray × Unit) × Int × Unit) → ((List (Int × Int × ByteArray × Unit) × Int × Unit) → Option Bool) → Option Bool
  | (t0, t3, _), κ =>
    cond (ilt t3 (t0.length : Int)) (
    cond (ilt t3 30) (
    chk (inB t3 t0.length) <|
    (f19 (((t0.getD t3.toNat ((0 : Int), (0 : Int), ByteArray.empty, ())).1, (t0.getD t3.toNat ((0 : Int), (0 : Int), ByteArray.empty, ())).2.1, (t0.getD t3.toNat ((0 : Int), (0 : Int), ByteArray.empty, ())).2.2.1, ()), ())).bind fun v30 =>
    chk (inB t3 t0.length) <|
    (f16 (((t0.getD t3.toNat ((0 : Int), (0 : Int), ByteArray.empty, ())).1, (t0.getD t3.toNat ((0 : Int), (0 : Int), ByteArray.empty, ())).2.1, (t0.getD t3.toNat ((0 : Int), (0 : Int), ByteArray.empty, ())).2.2.1, ()), ())).bind fun v35 =>
    cond (!(v30 == v35)) (
    some false) (
    κ (t0, (iadd .i64 t3 1), ()))) (
    kx (t0, ()))) (
    kx (t0, ()))
def w04_CodecEncodes.s0 (kx : (List (Int × Int × ByteArray × Unit) × Unit) → Option Bool) : (List (Int × Int × ByteArray × Unit) × Int × Unit) → ((List (Int × Int × ByteArray × Unit) × Int × Unit) → Option Bool) → Option Bool := w04_CodecEncodes.s0b r04_Form codec_Form kx
def w04_CodecEncodes.n0 : (List (Int × Int × ByteArray × Unit) × Int × Unit) → Nat
  | (t0, t3, _) => t0.length + t3.toNat + 1048576
def w04_CodecEncodes.l0 (x : List (Int × Int × ByteArray × Unit) × Int × Unit) (kx : (List (Int × Int × ByteArray × Unit) × Unit) → Option Bool) : Option Bool := loopN (w04_CodecEncodes.n0 x) (w04_CodecEncodes.s0 kx) x
def w04_CodecEncodes.b (f11 : Unit → Option Bool) (f20 : (List (Int × Int × ByteArray × Unit) × Unit) → Option (List Int × Int × Unit)) (f21 : (List (Int × Int × ByteArray × Unit) × Unit) → Option (List Int × Int × Unit)) (f22 : (List Int × Unit) → Option (List (Int × Int × ByteArray × Unit) × Int × Unit)) (f23 : (List (Int × Int × ByteArray × Unit) × List (Int × Int × ByteArray × Unit) × Unit) → Option Bool) (l0 : (List (Int × Int × ByteArray × Unit) × Int × Unit) → ((List (Int × Int × ByteArray × Unit) × Unit) → Option Bool) → Option Bool) : (List (Int × Int × ByteArray × Unit) × Unit) → Option Bool
  | (x0, _) =>
    (f11 (())).bind fun v10 =>
    cond (!v10) (
    some false) (
    l0 (x0, 0, ()) fun (t0, _) =>
    (f20 (t0, ())).bind fun v39 =>
    (f21 (t0, ())).bind fun v44 =>
    cond (sne (strOf v39.1) (strOf v44.1)) (
    some false) (
    cond (ine v39.2.1 v44.2.1) (
    some false) (
    cond (ine v39.2.1 0) (
    some true) (
    (f22 (v39.1, ())).bind fun v61 =>
    cond (ieq v61.2.1 0) (
    (f23 (v61.1, t0, ())).bind fun v69 =>
    some v69) (
    some false)))))
def w04_CodecEncodes (x : (List (Int × Int × ByteArray × Unit) × Unit)) : Option Bool := w04_CodecEncodes.b w04_awake codec_Encode r04_Encode codec_Decode r04_Same w04_CodecEncodes.l0 x
/-- muniment/munimentlaw04.CodecDecodes -/
def w04_CodecDecodes.b (f11 : Unit → Option Bool) (f22 : (List Int × Unit) → Option (List (Int × Int × ByteArray × Unit) × Int × Unit)) (f23 : (List (Int × Int × ByteArray × Unit) × List (Int × Int × ByteArray × Unit) × Unit) → Option Bool) (f24 : (List Int × Unit) → Option (List (Int × Int × ByteArray × Unit) × Int × Unit)) : (List Int × Unit) → Option Bool
  | (x0, _) =>
    (f11 (())).bind fun v7 =>
    cond (!v7) (
    some false) (
    (f22 (x0, ())).bind fun v13 =>
    (f24 (x0, ())).bind fun v18 =>
    (f23 (v13.1, v18.1, ())).bind fun v23 =>
    cond v23 (
    some (ieq v13.2.1 v18.2.1)) (
    some false))
def w04_CodecDecodes (x : (List Int × Unit)) : Option Bool := w04_CodecDecodes.b w04_awake codec_Decode r04_Same r04_Decode x
/-- muniment/munimentlaw04.CodecCuts -/
def w04_CodecCuts.b (f11 : Unit → Option Bool) (f20 : (List (Int × Int × ByteArray × Unit) × Unit) → Option (List Int × Int × Unit)) (f22 : (List Int × Unit) → Option (List (Int × Int × ByteArray × Unit) × Int × Unit)) : (List (Int × Int × ByteArray × Unit) × Int × Int × Unit) → Option Bool
  | (x0, x1, x2, _) =>
    (f11 (())).bind fun v14 =>
    cond (!v14) (
    some false) (
    (f20 (x0, ())).bind fun v18 =>
    cond (ine v18.2.1 0) (
    some true) (
    chk (decide ((v18.1.length : Int) ≠ 0)) <|
    chk (leB 0 0 && (leB 0 (irem .i64 (IntKind.wrap .i64 x1) (v18.1.length : Int)) && leB (irem .i64 (IntKind.wrap .i64 x1) (v18.1.length : Int)) v18.1.length)) <|
    (f22 (((v18.1.drop 0).take ((((irem .i64 (IntKind.wrap .i64 x1) (v18.1.length : Int)) : Int) - 0).toNat)), ())).bind fun v31 =>
    chk (fits 1 (0 + v18.1.length)) <|
    chk (fits 1 (v18.1.length + 1)) <|
    (f22 ((v18.1 ++ [x2]), ())).bind fun v43 =>
    cond (ieq v31.2.1 3) (
    some (ieq v43.2.1 3)) (
    some false)))
def w04_CodecCuts (x : (List (Int × Int × ByteArray × Unit) × Int × Int × Unit)) : Option Bool := w04_CodecCuts.b w04_awake codec_Encode codec_Decode x
end Go.Px
