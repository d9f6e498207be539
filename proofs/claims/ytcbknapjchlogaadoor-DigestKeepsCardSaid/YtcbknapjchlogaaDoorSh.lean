import Derived.Test.YtcbknapjchlogaaDoorPx1
import Derived.Test.YtcbknapjchlogaaDoorPx23
set_option linter.unusedVariables false
set_option linter.unusedSimpArgs false
namespace Go.Px
open Go
/-- math/bits.RotateLeft32 -/
def math_bits_RotateLeft32.b : (Int × Int × Unit) → Option Int
  | (x0, x1, _) =>
    chk (ile 0 (iand .u64 (IntKind.wrap .u64 x1) 31)) <|
    chk (ile 0 (isub .u64 32 (iand .u64 (IntKind.wrap .u64 x1) 31))) <|
    some (ior .u32 (ishl .u32 x0 (iand .u64 (IntKind.wrap .u64 x1) 31)) (ishr .u32 x0 (isub .u64 32 (iand .u64 (IntKind.wrap .u64 x1) 31))))
def math_bits_RotateLeft32 (x : (Int × Int × Unit)) : Option Int := math_bits_RotateLeft32.b x
/-- muniment/digest.block -/
def digest_block.s0b (kx : ((List Int × Unit) × (List Int × Unit) × Unit) → Option (List Int × Unit)) : ((List Int × Unit) × List Int × (List Int × Unit) × Int × Unit) → (((List Int × Unit) × List Int × (List Int × Unit) × Int × Unit) → Option (List Int × Unit)) → Option (List Int × Unit)
  | (t0, t1, t4, t20, _), κ =>
    cond (ilt t20 16) (
    chk (inB (imul .i64 4 t20) t1.length) <|
    chk (inB (iadd .i64 (imul .i64 4 t20) 1) t1.length) <|
    chk (inB (iadd .i64 (imul .i64 4 t20) 2) t1.length) <|
    chk (inB (iadd .i64 (imul .i64 4 t20) 3) t1.length) <|
    chk (inB t20 64) <|
    κ ((t0.1, ()), t1, ((t4.1.set t20.toNat (ior .u32 (ior .u32 (ior .u32 (ishl .u32 (IntKind.wrap .u32 (t1.getD (imul .i64 4 t20).toNat (0 : Int))) 24) (ishl .u32 (IntKind.wrap .u32 (t1.getD (iadd .i64 (imul .i64 4 t20) 1).toNat (0 : Int))) 16)) (ishl .u32 (IntKind.wrap .u32 (t1.getD (iadd .i64 (imul .i64 4 t20) 2).toNat (0 : Int))) 8)) (IntKind.wrap .u32 (t1.getD (iadd .i64 (imul .i64 4 t20) 3).toNat (0 : Int))))), ()), (iadd .i64 t20 1), ())) (
    kx ((t0.1, ()), (t4.1, ()), ()))
def digest_block.s0 (kx : ((List Int × Unit) × (List Int × Unit) × Unit) → Option (List Int × Unit)) : ((List Int × Unit) × List Int × (List Int × Unit) × Int × Unit) → (((List Int × Unit) × List Int × (List Int × Unit) × Int × Unit) → Option (List Int × Unit)) → Option (List Int × Unit) := digest_block.s0b kx
def digest_block.n0 : ((List Int × Unit) × List Int × (List Int × Unit) × Int × Unit) → Nat
  | (t0, t1, t4, t20, _) => t1.length + t20.toNat + 1048576
def digest_block.l0 (x : (List Int × Unit) × List Int × (List Int × Unit) × Int × Unit) (kx : ((List Int × Unit) × (List Int × Unit) × Unit) → Option (List Int × Unit)) : Option (List Int × Unit) := loopN (digest_block.n0 x) (digest_block.s0 kx) x
def digest_block.s2b (f25 : (Int × Int × Unit) → Option Int) (kx : ((List Int × Unit) × (List Int × Unit) × Unit) → Option (List Int × Unit)) : ((List Int × Unit) × (List Int × Unit) × Int × Unit) → (((List Int × Unit) × (List Int × Unit) × Int × Unit) → Option (List Int × Unit)) → Option (List Int × Unit)
  | (t0, t4, t6, _), κ =>
    cond (ilt t6 64) (
    chk (inB (isub .i64 t6 15) 64) <|
    chk (inB (isub .i64 t6 2) 64) <|
    (f25 ((t4.1.getD (isub .i64 t6 15).toNat (0 : Int)), (-7), ())).bind fun v72 =>
    (f25 ((t4.1.getD (isub .i64 t6 15).toNat (0 : Int)), (-18), ())).bind fun v74 =>
    (f25 ((t4.1.getD (isub .i64 t6 2).toNat (0 : Int)), (-17), ())).bind fun v80 =>
    (f25 ((t4.1.getD (isub .i64 t6 2).toNat (0 : Int)), (-19), ())).bind fun v82 =>
    chk (inB (isub .i64 t6 16) 64) <|
    chk (inB (isub .i64 t6 7) 64) <|
    chk (inB t6 64) <|
    κ ((t0.1, ()), ((t4.1.set t6.toNat (iadd .u32 (iadd .u32 (iadd .u32 (t4.1.getD (isub .i64 t6 16).toNat (0 : Int)) (ixor .u32 (ixor .u32 v72 v74) (ishr .u32 (t4.1.getD (isub .i64 t6 15).toNat (0 : Int)) 3))) (t4.1.getD (isub .i64 t6 7).toNat (0 : Int))) (ixor .u32 (ixor .u32 v80 v82) (ishr .u32 (t4.1.getD (isub .i64 t6 2).toNat (0 : Int)) 10)))), ()), (iadd .i64 t6 1), ())) (
    kx ((t0.1, ()), (t4.1, ()), ()))
def digest_block.s2 (kx : ((List Int × Unit) × (List Int × Unit) × Unit) → Option (List Int × Unit)) : ((List Int × Unit) × (List Int × Unit) × Int × Unit) → (((List Int × Unit) × (List Int × Unit) × Int × Unit) → Option (List Int × Unit)) → Option (List Int × Unit) := digest_block.s2b math_bits_RotateLeft32 kx
def digest_block.n2 : ((List Int × Unit) × (List Int × Unit) × Int × Unit) → Nat
  | (t0, t4, t6, _) => t6.toNat + 1048576
def digest_block.l2 (x : (List Int × Unit) × (List Int × Unit) × Int × Unit) (kx : ((List Int × Unit) × (List Int × Unit) × Unit) → Option (List Int × Unit)) : Option (List Int × Unit) := loopN (digest_block.n2 x) (digest_block.s2 kx) x
def digest_block.s4b (f25 : (Int × Int × Unit) → Option Int) (kx : ((List Int × Unit) × (List Int × Unit) × Unit) → Option (List Int × Unit)) : ((List Int × Unit) × (List Int × Unit) × (List Int × Unit) × Int × Unit) → (((List Int × Unit) × (List Int × Unit) × (List Int × Unit) × Int × Unit) → Option (List Int × Unit)) → Option (List Int × Unit)
  | (t0, t4, t11, t105, _), κ =>
    cond (ilt t105 64) (
    (f25 ((t11.1.getD 4 (0 : Int)), (-6), ())).bind fun v113 =>
    (f25 ((t11.1.getD 4 (0 : Int)), (-11), ())).bind fun v115 =>
    (f25 ((t11.1.getD 4 (0 : Int)), (-25), ())).bind fun v118 =>
    chk (inB t105 64) <|
    chk (inB t105 64) <|
    (f25 ((t11.1.getD 0 (0 : Int)), (-2), ())).bind fun v144 =>
    (f25 ((t11.1.getD 0 (0 : Int)), (-13), ())).bind fun v146 =>
    (f25 ((t11.1.getD 0 (0 : Int)), (-22), ())).bind fun v149 =>
    κ ((t0.1, ()), (t4.1, ()), ((((copied t11.1 1 (min ((t11.1.drop 0).take 7).length 7) ((t11.1.drop 0).take 7)).set 4 (iadd .u32 ((copied t11.1 1 (min ((t11.1.drop 0).take 7).length 7) ((t11.1.drop 0).take 7)).getD 4 (0 : Int)) (iadd .u32 (iadd .u32 (iadd .u32 (iadd .u32 (t11.1.getD 7 (0 : Int)) (ixor .u32 (ixor .u32 v113 v115) v118)) (ixor .u32 (iand .u32 (t11.1.getD 4 (0 : Int)) (t11.1.getD 5 (0 : Int))) (iand .u32 (inot .u32 (t11.1.getD 4 (0 : Int))) (t11.1.getD 6 (0 : Int))))) (gv_dparts.getD t105.toNat (0 : Int))) (t4.1.getD t105.toNat (0 : Int))))).set 0 (iadd .u32 (iadd .u32 (iadd .u32 (iadd .u32 (iadd .u32 (iadd .u32 (t11.1.getD 7 (0 : Int)) (ixor .u32 (ixor .u32 v113 v115) v118)) (ixor .u32 (iand .u32 (t11.1.getD 4 (0 : Int)) (t11.1.getD 5 (0 : Int))) (iand .u32 (inot .u32 (t11.1.getD 4 (0 : Int))) (t11.1.getD 6 (0 : Int))))) (gv_dparts.getD t105.toNat (0 : Int))) (t4.1.getD t105.toNat (0 : Int))) (ixor .u32 (ixor .u32 v144 v146) v149)) (ixor .u32 (ixor .u32 (iand .u32 (t11.1.getD 0 (0 : Int)) (t11.1.getD 1 (0 : Int))) (iand .u32 (t11.1.getD 0 (0 : Int)) (t11.1.getD 2 (0 : Int)))) (iand .u32 (t11.1.getD 1 (0 : Int)) (t11.1.getD 2 (0 : Int)))))), ()), (iadd .i64 t105 1), ())) (
    kx ((t0.1, ()), (t11.1, ()), ()))
def digest_block.s4 (kx : ((List Int × Unit) × (List Int × Unit) × Unit) → Option (List Int × Unit)) : ((List Int × Unit) × (List Int × Unit) × (List Int × Unit) × Int × Unit) → (((List Int × Unit) × (List Int × Unit) × (List Int × Unit) × Int × Unit) → Option (List Int × Unit)) → Option (List Int × Unit) := digest_block.s4b math_bits_RotateLeft32 kx
def digest_block.n4 : ((List Int × Unit) × (List Int × Unit) × (List Int × Unit) × Int × Unit) → Nat
  | (t0, t4, t11, t105, _) => t105.toNat + 1048576
def digest_block.l4 (x : (List Int × Unit) × (List Int × Unit) × (List Int × Unit) × Int × Unit) (kx : ((List Int × Unit) × (List Int × Unit) × Unit) → Option (List Int × Unit)) : Option (List Int × Unit) := loopN (digest_block.n4 x) (digest_block.s4 kx) x
def digest_block.s6b (kx : ((List Int × Unit) × Unit) → Option (List Int × Unit)) : ((List Int × Unit) × (List Int × Unit) × Int × Unit) → (((List Int × Unit) × (List Int × Unit) × Int × Unit) → Option (List Int × Unit)) → Option (List Int × Unit)
  | (t0, t11, t181, _), κ =>
    cond (ilt t181 8) (
    chk (inB t181 8) <|
    chk (inB t181 8) <|
    chk (inB t181 8) <|
    κ (((t0.1.set t181.toNat (iadd .u32 (t0.1.getD t181.toNat (0 : Int)) (t11.1.getD t181.toNat (0 : Int)))), ()), (t11.1, ()), (iadd .i64 t181 1), ())) (
    kx ((t0.1, ()), ()))
def digest_block.s6 (kx : ((List Int × Unit) × Unit) → Option (List Int × Unit)) : ((List Int × Unit) × (List Int × Unit) × Int × Unit) → (((List Int × Unit) × (List Int × Unit) × Int × Unit) → Option (List Int × Unit)) → Option (List Int × Unit) := digest_block.s6b kx
def digest_block.n6 : ((List Int × Unit) × (List Int × Unit) × Int × Unit) → Nat
  | (t0, t11, t181, _) => t181.toNat + 1048576
def digest_block.l6 (x : (List Int × Unit) × (List Int × Unit) × Int × Unit) (kx : ((List Int × Unit) × Unit) → Option (List Int × Unit)) : Option (List Int × Unit) := loopN (digest_block.n6 x) (digest_block.s6 kx) x
def digest_block.b (l0 : ((List Int × Unit) × List Int × (List Int × Unit) × Int × Unit) → (((List Int × Unit) × (List Int × Unit) × Unit) → Option (List Int × Unit)) → Option (List Int × Unit)) (l2 : ((List Int × Unit) × (List Int × Unit) × Int × Unit) → (((List Int × Unit) × (List Int × Unit) × Unit) → Option (List Int × Unit)) → Option (List Int × Unit)) (l4 : ((List Int × Unit) × (List Int × Unit) × (List Int × Unit) × Int × Unit) → (((List Int × Unit) × (List Int × Unit) × Unit) → Option (List Int × Unit)) → Option (List Int × Unit)) (l6 : ((List Int × Unit) × (List Int × Unit) × Int × Unit) → (((List Int × Unit) × Unit) → Option (List Int × Unit)) → Option (List Int × Unit)) : ((List Int × Unit) × List Int × Unit) → Option (List Int × Unit)
  | (x0, x1, _) =>
    l0 ((x0.1, ()), x1, ((List.replicate 64 (0 : Int)), ()), 0, ()) fun (t0, t4, _) =>
    l2 ((t0.1, ()), (t4.1, ()), 16, ()) fun (t0, t4, _) =>
    l4 ((t0.1, ()), (t4.1, ()), (t0.1, ()), 0, ()) fun (t0, t11, _) =>
    l6 ((t0.1, ()), (t11.1, ()), 0, ()) fun (t0, _) =>
    some (t0.1, ())
def digest_block (x : ((List Int × Unit) × List Int × Unit)) : Option (List Int × Unit) := digest_block.b digest_block.l0 digest_block.l2 digest_block.l4 digest_block.l6 x
/-- muniment/digest.Sum -/
def digest_Sum.s0b (kx : (List Int × (List Int × Unit) × List Int × Unit) → Option (List Int)) : (List Int × (List Int × Unit) × List Int × Unit) → ((List Int × (List Int × Unit) × List Int × Unit) → Option (List Int)) → Option (List Int)
  | (t0, t2, t3, _), κ =>
    cond (ine (irem .i64 (t3.length : Int) 64) 56) (
    chk (fits 1 (t3.length + 1)) <|
    κ (t0, (t2.1, ()), (t3 ++ [0]), ())) (
    kx (t0, (t2.1, ()), t3, ()))
def digest_Sum.s0 (kx : (List Int × (List Int × Unit) × List Int × Unit) → Option (List Int)) : (List Int × (List Int × Unit) × List Int × Unit) → ((List Int × (List Int × Unit) × List Int × Unit) → Option (List Int)) → Option (List Int) := digest_Sum.s0b kx
def digest_Sum.n0 : (List Int × (List Int × Unit) × List Int × Unit) → Nat
  | (t0, t2, t3, _) => t0.length + t3.length + 1048576
def digest_Sum.l0 (x : List Int × (List Int × Unit) × List Int × Unit) (kx : (List Int × (List Int × Unit) × List Int × Unit) → Option (List Int)) : Option (List Int) := loopN (digest_Sum.n0 x) (digest_Sum.s0 kx) x
def digest_Sum.s2b (kx : ((List Int × Unit) × List Int × Unit) → Option (List Int)) : ((List Int × Unit) × List Int × Int × Int × Unit) → (((List Int × Unit) × List Int × Int × Int × Unit) → Option (List Int)) → Option (List Int)
  | (t2, t3, t4, t5, _), κ =>
    cond (ige t5 0) (
    chk (ile 0 t5) <|
    chk (fits 1 (t3.length + 1)) <|
    κ ((t2.1, ()), (t3 ++ [(IntKind.wrap .u8 (ishr .u64 t4 t5))]), t4, (isub .i64 t5 8), ())) (
    kx ((t2.1, ()), t3, ()))
def digest_Sum.s2 (kx : ((List Int × Unit) × List Int × Unit) → Option (List Int)) : ((List Int × Unit) × List Int × Int × Int × Unit) → (((List Int × Unit) × List Int × Int × Int × Unit) → Option (List Int)) → Option (List Int) := digest_Sum.s2b kx
def digest_Sum.n2 : ((List Int × Unit) × List Int × Int × Int × Unit) → Nat
  | (t2, t3, t4, t5, _) => t3.length + t4.toNat + t5.toNat + 1048576
def digest_Sum.l2 (x : (List Int × Unit) × List Int × Int × Int × Unit) (kx : ((List Int × Unit) × List Int × Unit) → Option (List Int)) : Option (List Int) := loopN (digest_Sum.n2 x) (digest_Sum.s2 kx) x
def digest_Sum.s4b (f21 : ((List Int × Unit) × List Int × Unit) → Option (List Int × Unit)) (kx : ((List Int × Unit) × (List Int × Unit) × Unit) → Option (List Int)) : ((List Int × Unit) × List Int × (List Int × Unit) × Unit) → (((List Int × Unit) × List Int × (List Int × Unit) × Unit) → Option (List Int)) → Option (List Int)
  | (t2, t3, t6, _), κ =>
    cond (igt (t3.length : Int) 0) (
    chk (leB 0 0 && (leB 0 64 && leB 64 t3.length)) <|
    (f21 ((t6.1, ()), ((t3.drop 0).take 64), ())).bind fun v46 =>
    chk (leB 0 64 && (leB 64 t3.length && leB t3.length t3.length)) <|
    κ ((t2.1, ()), ((t3.drop 64).take (((t3.length : Int) - 64).toNat)), (v46.1, ()), ())) (
    kx ((t2.1, ()), (t6.1, ()), ()))
def digest_Sum.s4 (kx : ((List Int × Unit) × (List Int × Unit) × Unit) → Option (List Int)) : ((List Int × Unit) × List Int × (List Int × Unit) × Unit) → (((List Int × Unit) × List Int × (List Int × Unit) × Unit) → Option (List Int)) → Option (List Int) := digest_Sum.s4b digest_block kx
def digest_Sum.n4 : ((List Int × Unit) × List Int × (List Int × Unit) × Unit) → Nat
  | (t2, t3, t6, _) => t3.length + 1048576
def digest_Sum.l4 (x : (List Int × Unit) × List Int × (List Int × Unit) × Unit) (kx : ((List Int × Unit) × (List Int × Unit) × Unit) → Option (List Int)) : Option (List Int) := loopN (digest_Sum.n4 x) (digest_Sum.s4 kx) x
def digest_Sum.s8b (kx : ((List Int × Unit) × (List Int × Unit) × List Int × Int × Unit) → Option (List Int)) : ((List Int × Unit) × (List Int × Unit) × Int × Int × List Int × Int × Int × Unit) → (((List Int × Unit) × (List Int × Unit) × Int × Int × List Int × Int × Int × Unit) → Option (List Int)) → Option (List Int)
  | (t2, t7, t8, t9, t47, t48, t52, _), κ =>
    cond (ilt t52 4) (
    chk (ile 0 (isub .i64 24 (imul .i64 8 t52))) <|
    chk (inB (iadd .i64 (imul .i64 4 t8) t52) 32) <|
    κ ((t2.1, ()), ((t7.1.set (iadd .i64 (imul .i64 4 t8) t52).toNat (IntKind.wrap .u8 (ishr .u32 t9 (isub .i64 24 (imul .i64 8 t52))))), ()), t8, t9, t47, t48, (iadd .i64 t52 1), ())) (
    kx ((t2.1, ()), (t7.1, ()), t47, t48, ()))
def digest_Sum.s8 (kx : ((List Int × Unit) × (List Int × Unit) × List Int × Int × Unit) → Option (List Int)) : ((List Int × Unit) × (List Int × Unit) × Int × Int × List Int × Int × Int × Unit) → (((List Int × Unit) × (List Int × Unit) × Int × Int × List Int × Int × Int × Unit) → Option (List Int)) → Option (List Int) := digest_Sum.s8b kx
def digest_Sum.n8 : ((List Int × Unit) × (List Int × Unit) × Int × Int × List Int × Int × Int × Unit) → Nat
  | (t2, t7, t8, t9, t47, t48, t52, _) => t8.toNat + t9.toNat + t47.length + t48.toNat + t52.toNat + 1048576
def digest_Sum.l8 (x : (List Int × Unit) × (List Int × Unit) × Int × Int × List Int × Int × Int × Unit) (kx : ((List Int × Unit) × (List Int × Unit) × List Int × Int × Unit) → Option (List Int)) : Option (List Int) := loopN (digest_Sum.n8 x) (digest_Sum.s8 kx) x
def digest_Sum.s6b (l8 : ((List Int × Unit) × (List Int × Unit) × Int × Int × List Int × Int × Int × Unit) → (((List Int × Unit) × (List Int × Unit) × List Int × Int × Unit) → Option (List Int)) → Option (List Int)) (kx : ((List Int × Unit) × (List Int × Unit) × Unit) → Option (List Int)) : ((List Int × Unit) × (List Int × Unit) × List Int × Int × Unit) → (((List Int × Unit) × (List Int × Unit) × List Int × Int × Unit) → Option (List Int)) → Option (List Int)
  | (t2, t7, t47, t48, _), κ =>
    cond (ilt t48 8) (
    chk (inB t48 8) <|
    l8 ((t2.1, ()), (t7.1, ()), t48, (t47.getD t48.toNat (0 : Int)), t47, t48, 0, ()) fun (t2, t7, t47, t48, _) =>
    κ ((t2.1, ()), (t7.1, ()), t47, (iadd .i64 t48 1), ())) (
    kx ((t2.1, ()), (t7.1, ()), ()))
def digest_Sum.s6 (kx : ((List Int × Unit) × (List Int × Unit) × Unit) → Option (List Int)) : ((List Int × Unit) × (List Int × Unit) × List Int × Int × Unit) → (((List Int × Unit) × (List Int × Unit) × List Int × Int × Unit) → Option (List Int)) → Option (List Int) := digest_Sum.s6b digest_Sum.l8 kx
def digest_Sum.n6 : ((List Int × Unit) × (List Int × Unit) × List Int × Int × Unit) → Nat
  | (t2, t7, t47, t48, _) => t47.length + t48.toNat + 1048576
def digest_Sum.l6 (x : (List Int × Unit) × (List Int × Unit) × List Int × Int × Unit) (kx : ((List Int × Unit) × (List Int × Unit) × Unit) → Option (List Int)) : Option (List Int) := loopN (digest_Sum.n6 x) (digest_Sum.s6 kx) x
def digest_Sum.b (l0 : (List Int × (List Int × Unit) × List Int × Unit) → ((List Int × (List Int × Unit) × List Int × Unit) → Option (List Int)) → Option (List Int)) (l2 : ((List Int × Unit) × List Int × Int × Int × Unit) → (((List Int × Unit) × List Int × Unit) → Option (List Int)) → Option (List Int)) (l4 : ((List Int × Unit) × List Int × (List Int × Unit) × Unit) → (((List Int × Unit) × (List Int × Unit) × Unit) → Option (List Int)) → Option (List Int)) (l6 : ((List Int × Unit) × (List Int × Unit) × List Int × Int × Unit) → (((List Int × Unit) × (List Int × Unit) × Unit) → Option (List Int)) → Option (List Int)) : (List Int × Unit) → Option (List Int)
  | (x0, _) =>
    chk (fits 1 (0 + x0.length)) <|
    chk (fits 1 (x0.length + 1)) <|
    l0 (x0, ((List.replicate 32 (0 : Int)), ()), (x0 ++ [128]), ()) fun (t0, t2, t3, _) =>
    l2 ((t2.1, ()), t3, (imul .u64 (IntKind.wrap .u64 (t0.length : Int)) 8), 56, ()) fun (t2, t3, _) =>
    l4 ((t2.1, ()), t3, (gv_dfirst, ()), ()) fun (t2, t6, _) =>
    l6 ((t2.1, ()), ((List.replicate 32 (0 : Int)), ()), t6.1, 0, ()) fun (t2, t7, _) =>
    some t7.1
def digest_Sum (x : (List Int × Unit)) : Option (List Int) := digest_Sum.b digest_Sum.l0 digest_Sum.l2 digest_Sum.l4 digest_Sum.l6 x
/-- muniment/digest.Hex -/
def digest_Hex.s0b (kx : (List Int × Unit) → Option ByteArray) : (List Int × List Int × Int × Int × Unit) → ((List Int × List Int × Int × Int × Unit) → Option ByteArray) → Option ByteArray
  | (t3, t6, t7, t8, _), κ =>
    cond (ilt t8 t7) (
    chk (inB t8 t6.length) <|
    chk (inB (ishr .u8 (t6.getD t8.toNat (0 : Int)) 4) (⟨#[48, 49, 50, 51, 52, 53, 54, 55, 56, 57, 97, 98, 99, 100, 101, 102]⟩ : ByteArray).size) <|
    chk (inB (iand .u8 (t6.getD t8.toNat (0 : Int)) 15) (⟨#[48, 49, 50, 51, 52, 53, 54, 55, 56, 57, 97, 98, 99, 100, 101, 102]⟩ : ByteArray).size) <|
    chk (fits 1 (t3.length + 2)) <|
    κ ((t3 ++ [(byteAt (⟨#[48, 49, 50, 51, 52, 53, 54, 55, 56, 57, 97, 98, 99, 100, 101, 102]⟩ : ByteArray) (ishr .u8 (t6.getD t8.toNat (0 : Int)) 4).toNat), (byteAt (⟨#[48, 49, 50, 51, 52, 53, 54, 55, 56, 57, 97, 98, 99, 100, 101, 102]⟩ : ByteArray) (iand .u8 (t6.getD t8.toNat (0 : Int)) 15).toNat)]), t6, t7, (iadd .i64 t8 1), ())) (
    kx (t3, ()))
def digest_Hex.s0 (kx : (List Int × Unit) → Option ByteArray) : (List Int × List Int × Int × Int × Unit) → ((List Int × List Int × Int × Int × Unit) → Option ByteArray) → Option ByteArray := digest_Hex.s0b kx
def digest_Hex.n0 : (List Int × List Int × Int × Int × Unit) → Nat
  | (t3, t6, t7, t8, _) => t3.length + t6.length + t7.toNat + t8.toNat + 1048576
def digest_Hex.l0 (x : List Int × List Int × Int × Int × Unit) (kx : (List Int × Unit) → Option ByteArray) : Option ByteArray := loopN (digest_Hex.n0 x) (digest_Hex.s0 kx) x
def digest_Hex.b (l0 : (List Int × List Int × Int × Int × Unit) → ((List Int × Unit) → Option ByteArray) → Option ByteArray) : (List Int × Unit) → Option ByteArray
  | (x0, _) =>
    l0 ([], x0, (x0.length : Int), 0, ()) fun (t3, _) =>
    some (strOf t3)
def digest_Hex (x : (List Int × Unit)) : Option ByteArray := digest_Hex.b digest_Hex.l0 x
/-- muniment/munimentlaw01.awake -/
def w01_awake.b (f11 : (List Int × Unit) → Option (List Int)) (f14 : (List Int × Unit) → Option ByteArray) : Unit → Option Bool
  | (_) =>
    (f11 ([97, 98, 99], ())).bind fun v4 =>
    (f14 (v4, ())).bind fun v6 =>
    some (seq v6 (⟨#[98, 97, 55, 56, 49, 54, 98, 102, 56, 102, 48, 49, 99, 102, 101, 97, 52, 49, 52, 49, 52, 48, 100, 101, 53, 100, 97, 101, 50, 50, 50, 51, 98, 48, 48, 51, 54, 49, 97, 51, 57, 54, 49, 55, 55, 97, 57, 99, 98, 52, 49, 48, 102, 102, 54, 49, 102, 50, 48, 48, 49, 53, 97, 100]⟩ : ByteArray))
def w01_awake (x : Unit) : Option Bool := w01_awake.b digest_Sum digest_Hex x
/-- muniment/munimentref01.turn -/
def r01_turn.b : (Int × Int × Unit) → Option Int
  | (x0, x1, _) =>
    chk (ile 0 x1) <|
    chk (ile 0 (isub .i64 32 x1)) <|
    some (ior .u32 (ishr .u32 x0 x1) (ishl .u32 x0 (isub .i64 32 x1)))
def r01_turn (x : (Int × Int × Unit)) : Option Int := r01_turn.b x
/-- muniment/munimentref01.Sum -/
def r01_Sum.s0b (kx : (List Int × (List Int × List Int × Unit) × (List Int × Unit) × List Int × Unit) → Option (List Int)) : (List Int × (List Int × List Int × Unit) × (List Int × Unit) × List Int × Unit) → ((List Int × (List Int × List Int × Unit) × (List Int × Unit) × List Int × Unit) → Option (List Int)) → Option (List Int)
  | (t1, t2, t4, t5, _), κ =>
    cond (ine (irem .i64 (t5.length : Int) 64) 56) (
    chk (fits 1 (t5.length + 1)) <|
    κ (t1, (t2.1, t2.2.1, ()), (t4.1, ()), (t5 ++ [0]), ())) (
    kx (t1, (t2.1, t2.2.1, ()), (t4.1, ()), t5, ()))
def r01_Sum.s0 (kx : (List Int × (List Int × List Int × Unit) × (List Int × Unit) × List Int × Unit) → Option (List Int)) : (List Int × (List Int × List Int × Unit) × (List Int × Unit) × List Int × Unit) → ((List Int × (List Int × List Int × Unit) × (List Int × Unit) × List Int × Unit) → Option (List Int)) → Option (List Int) := r01_Sum.s0b kx
def r01_Sum.n0 : (List Int × (List Int × List Int × Unit) × (List Int × Unit) × List Int × Unit) → Nat
  | (t1, t2, t4, t5, _) => t1.length + t5.length + 1048576
def r01_Sum.l0 (x : List Int × (List Int × List Int × Unit) × (List Int × Unit) × List Int × Unit) (kx : (List Int × (List Int × List Int × Unit) × (List Int × Unit) × List Int × Unit) → Option (List Int)) : Option (List Int) := loopN (r01_Sum.n0 x) (r01_Sum.s0 kx) x
def r01_Sum.s2b (kx : ((List Int × List Int × Unit) × (List Int × Unit) × List Int × Unit) → Option (List Int)) : ((List Int × List Int × Unit) × (List Int × Unit) × List Int × Int × Int × Unit) → (((List Int × List Int × Unit) × (List Int × Unit) × List Int × Int × Int × Unit) → Option (List Int)) → Option (List Int)
  | (t2, t4, t5, t6, t7, _), κ =>
    cond (ige t7 0) (
    chk (ile 0 (imul .i64 8 t7)) <|
    chk (fits 1 (t5.length + 1)) <|
    κ ((t2.1, t2.2.1, ()), (t4.1, ()), (t5 ++ [(IntKind.wrap .u8 (ishr .u64 t6 (imul .i64 8 t7)))]), t6, (isub .i64 t7 1), ())) (
    kx ((t2.1, t2.2.1, ()), (t4.1, ()), t5, ()))
def r01_Sum.s2 (kx : ((List Int × List Int × Unit) × (List Int × Unit) × List Int × Unit) → Option (List Int)) : ((List Int × List Int × Unit) × (List Int × Unit) × List Int × Int × Int × Unit) → (((List Int × List Int × Unit) × (List Int × Unit) × List Int × Int × Int × Unit) → Option (List Int)) → Option (List Int) := r01_Sum.s2b kx
def r01_Sum.n2 : ((List Int × List Int × Unit) × (List Int × Unit) × List Int × Int × Int × Unit) → Nat
  | (t2, t4, t5, t6, t7, _) => t5.length + t6.toNat + t7.toNat + 1048576
def r01_Sum.l2 (x : (List Int × List Int × Unit) × (List Int × Unit) × List Int × Int × Int × Unit) (kx : ((List Int × List Int × Unit) × (List Int × Unit) × List Int × Unit) → Option (List Int)) : Option (List Int) := loopN (r01_Sum.n2 x) (r01_Sum.s2 kx) x
def r01_Sum.s8b (kx : ((List Int × List Int × Unit) × (List Int × Unit) × List Int × (List Int × Unit) × Int × List Int × Int × Unit) → Option (List Int)) : ((List Int × List Int × Unit) × (List Int × Unit) × List Int × (List Int × Unit) × Int × List Int × Int × Int × Unit) → (((List Int × List Int × Unit) × (List Int × Unit) × List Int × (List Int × Unit) × Int × List Int × Int × Int × Unit) → Option (List Int)) → Option (List Int)
  | (t2, t4, t5, t8, t9, t10, t11, t12, _), κ =>
    cond (ilt t12 4) (
    chk (inB t11 t10.length) <|
    chk (inB (iadd .i64 (iadd .i64 t9 (imul .i64 4 t11)) t12) t5.length) <|
    chk (inB t11 t10.length) <|
    κ ((t2.1, t2.2.1, ()), (t4.1, ()), t5, (t8.1, ()), t9, (t10.set t11.toNat (iadd .u32 (imul .u32 (t10.getD t11.toNat (0 : Int)) 256) (IntKind.wrap .u32 (t5.getD (iadd .i64 (iadd .i64 t9 (imul .i64 4 t11)) t12).toNat (0 : Int))))), t11, (iadd .i64 t12 1), ())) (
    kx ((t2.1, t2.2.1, ()), (t4.1, ()), t5, (t8.1, ()), t9, t10, t11, ()))
def r01_Sum.s8 (kx : ((List Int × List Int × Unit) × (List Int × Unit) × List Int × (List Int × Unit) × Int × List Int × Int × Unit) → Option (List Int)) : ((List Int × List Int × Unit) × (List Int × Unit) × List Int × (List Int × Unit) × Int × List Int × Int × Int × Unit) → (((List Int × List Int × Unit) × (List Int × Unit) × List Int × (List Int × Unit) × Int × List Int × Int × Int × Unit) → Option (List Int)) → Option (List Int) := r01_Sum.s8b kx
def r01_Sum.n8 : ((List Int × List Int × Unit) × (List Int × Unit) × List Int × (List Int × Unit) × Int × List Int × Int × Int × Unit) → Nat
  | (t2, t4, t5, t8, t9, t10, t11, t12, _) => t5.length + t9.toNat + t10.length + t11.toNat + t12.toNat + 1048576
def r01_Sum.l8 (x : (List Int × List Int × Unit) × (List Int × Unit) × List Int × (List Int × Unit) × Int × List Int × Int × Int × Unit) (kx : ((List Int × List Int × Unit) × (List Int × Unit) × List Int × (List Int × Unit) × Int × List Int × Int × Unit) → Option (List Int)) : Option (List Int) := loopN (r01_Sum.n8 x) (r01_Sum.s8 kx) x
def r01_Sum.s6b (l8 : ((List Int × List Int × Unit) × (List Int × Unit) × List Int × (List Int × Unit) × Int × List Int × Int × Int × Unit) → (((List Int × List Int × Unit) × (List Int × Unit) × List Int × (List Int × Unit) × Int × List Int × Int × Unit) → Option (List Int)) → Option (List Int)) (kx : ((List Int × List Int × Unit) × (List Int × Unit) × List Int × (List Int × Unit) × Int × List Int × Unit) → Option (List Int)) : ((List Int × List Int × Unit) × (List Int × Unit) × List Int × (List Int × Unit) × Int × List Int × Int × Unit) → (((List Int × List Int × Unit) × (List Int × Unit) × List Int × (List Int × Unit) × Int × List Int × Int × Unit) → Option (List Int)) → Option (List Int)
  | (t2, t4, t5, t8, t9, t10, t11, _), κ =>
    cond (ilt t11 16) (
    l8 ((t2.1, t2.2.1, ()), (t4.1, ()), t5, (t8.1, ()), t9, t10, t11, 0, ()) fun (t2, t4, t5, t8, t9, t10, t11, _) =>
    κ ((t2.1, t2.2.1, ()), (t4.1, ()), t5, (t8.1, ()), t9, t10, (iadd .i64 t11 1), ())) (
    kx ((t2.1, t2.2.1, ()), (t4.1, ()), t5, (t8.1, ()), t9, t10, ()))
def r01_Sum.s6 (kx : ((List Int × List Int × Unit) × (List Int × Unit) × List Int × (List Int × Unit) × Int × List Int × Unit) → Option (List Int)) : ((List Int × List Int × Unit) × (List Int × Unit) × List Int × (List Int × Unit) × Int × List Int × Int × Unit) → (((List Int × List Int × Unit) × (List Int × Unit) × List Int × (List Int × Unit) × Int × List Int × Int × Unit) → Option (List Int)) → Option (List Int) := r01_Sum.s6b r01_Sum.l8 kx
def r01_Sum.n6 : ((List Int × List Int × Unit) × (List Int × Unit) × List Int × (List Int × Unit) × Int × List Int × Int × Unit) → Nat
  | (t2, t4, t5, t8, t9, t10, t11, _) => t5.length + t9.toNat + t10.length + t11.toNat + 1048576
def r01_Sum.l6 (x : (List Int × List Int × Unit) × (List Int × Unit) × List Int × (List Int × Unit) × Int × List Int × Int × Unit) (kx : ((List Int × List Int × Unit) × (List Int × Unit) × List Int × (List Int × Unit) × Int × List Int × Unit) → Option (List Int)) : Option (List Int) := loopN (r01_Sum.n6 x) (r01_Sum.s6 kx) x
def r01_Sum.s10b (f22 : (Int × Int × Unit) → Option Int) (kx : ((List Int × List Int × Unit) × (List Int × Unit) × List Int × (List Int × Unit) × Int × List Int × Unit) → Option (List Int)) : ((List Int × List Int × Unit) × (List Int × Unit) × List Int × (List Int × Unit) × Int × List Int × Int × Unit) → (((List Int × List Int × Unit) × (List Int × Unit) × List Int × (List Int × Unit) × Int × List Int × Int × Unit) → Option (List Int)) → Option (List Int)
  | (t2, t4, t5, t8, t9, t10, t13, _), κ =>
    cond (ilt t13 64) (
    chk (inB (isub .i64 t13 15) t10.length) <|
    (f22 ((t10.getD (isub .i64 t13 15).toNat (0 : Int)), 7, ())).bind fun v103 =>
    chk (inB (isub .i64 t13 15) t10.length) <|
    (f22 ((t10.getD (isub .i64 t13 15).toNat (0 : Int)), 18, ())).bind fun v109 =>
    chk (inB (isub .i64 t13 15) t10.length) <|
    chk (inB (isub .i64 t13 2) t10.length) <|
    (f22 ((t10.getD (isub .i64 t13 2).toNat (0 : Int)), 17, ())).bind fun v123 =>
    chk (inB (isub .i64 t13 2) t10.length) <|
    (f22 ((t10.getD (isub .i64 t13 2).toNat (0 : Int)), 19, ())).bind fun v129 =>
    chk (inB (isub .i64 t13 2) t10.length) <|
    chk (inB (isub .i64 t13 16) t10.length) <|
    chk (inB (isub .i64 t13 7) t10.length) <|
    chk (inB t13 t10.length) <|
    κ ((t2.1, t2.2.1, ()), (t4.1, ()), t5, (t8.1, ()), t9, (t10.set t13.toNat (iadd .u32 (iadd .u32 (iadd .u32 (t10.getD (isub .i64 t13 16).toNat (0 : Int)) (ixor .u32 (ixor .u32 v103 v109) (ishr .u32 (t10.getD (isub .i64 t13 15).toNat (0 : Int)) 3))) (t10.getD (isub .i64 t13 7).toNat (0 : Int))) (ixor .u32 (ixor .u32 v123 v129) (ishr .u32 (t10.getD (isub .i64 t13 2).toNat (0 : Int)) 10)))), (iadd .i64 t13 1), ())) (
    kx ((t2.1, t2.2.1, ()), (t4.1, ()), t5, (t8.1, ()), t9, t10, ()))
def r01_Sum.s10 (kx : ((List Int × List Int × Unit) × (List Int × Unit) × List Int × (List Int × Unit) × Int × List Int × Unit) → Option (List Int)) : ((List Int × List Int × Unit) × (List Int × Unit) × List Int × (List Int × Unit) × Int × List Int × Int × Unit) → (((List Int × List Int × Unit) × (List Int × Unit) × List Int × (List Int × Unit) × Int × List Int × Int × Unit) → Option (List Int)) → Option (List Int) := r01_Sum.s10b r01_turn kx
def r01_Sum.n10 : ((List Int × List Int × Unit) × (List Int × Unit) × List Int × (List Int × Unit) × Int × List Int × Int × Unit) → Nat
  | (t2, t4, t5, t8, t9, t10, t13, _) => t5.length + t9.toNat + t10.length + t13.toNat + 1048576
def r01_Sum.l10 (x : (List Int × List Int × Unit) × (List Int × Unit) × List Int × (List Int × Unit) × Int × List Int × Int × Unit) (kx : ((List Int × List Int × Unit) × (List Int × Unit) × List Int × (List Int × Unit) × Int × List Int × Unit) → Option (List Int)) : Option (List Int) := loopN (r01_Sum.n10 x) (r01_Sum.s10 kx) x
def r01_Sum.s12b (f22 : (Int × Int × Unit) → Option Int) (kx : ((List Int × List Int × Unit) × (List Int × Unit) × List Int × (List Int × Unit) × Int × Int × Int × Int × Int × Int × Int × Int × Int × Unit) → Option (List Int)) : ((List Int × List Int × Unit) × (List Int × Unit) × List Int × (List Int × Unit) × Int × List Int × Int × Int × Int × Int × Int × Int × Int × Int × Int × Unit) → (((List Int × List Int × Unit) × (List Int × Unit) × List Int × (List Int × Unit) × Int × List Int × Int × Int × Int × Int × Int × Int × Int × Int × Int × Unit) → Option (List Int)) → Option (List Int)
  | (t2, t4, t5, t8, t9, t10, t16, t17, t18, t19, t20, t21, t22, t23, t24, _), κ =>
    cond (ilt t24 64) (
    (f22 (t20, 6, ())).bind fun v178 =>
    (f22 (t20, 11, ())).bind fun v180 =>
    (f22 (t20, 25, ())).bind fun v183 =>
    chk (inB t24 64) <|
    chk (inB t24 t10.length) <|
    (f22 (t16, 2, ())).bind fun v206 =>
    (f22 (t16, 13, ())).bind fun v208 =>
    (f22 (t16, 22, ())).bind fun v211 =>
    κ ((t2.1, t2.2.1, ()), (t4.1, ()), t5, (t8.1, ()), t9, t10, (iadd .u32 (iadd .u32 (iadd .u32 (iadd .u32 (iadd .u32 t23 (ixor .u32 (ixor .u32 v178 v180) v183)) (ior .u32 (iand .u32 t20 t21) (iand .u32 (inot .u32 t20) t22))) (t2.2.1.getD t24.toNat (0 : Int))) (t10.getD t24.toNat (0 : Int))) (iadd .u32 (ixor .u32 (ixor .u32 v206 v208) v211) (ior .u32 (ior .u32 (iand .u32 t16 t17) (iand .u32 t16 t18)) (iand .u32 t17 t18)))), t16, t17, t18, (iadd .u32 t19 (iadd .u32 (iadd .u32 (iadd .u32 (iadd .u32 t23 (ixor .u32 (ixor .u32 v178 v180) v183)) (ior .u32 (iand .u32 t20 t21) (iand .u32 (inot .u32 t20) t22))) (t2.2.1.getD t24.toNat (0 : Int))) (t10.getD t24.toNat (0 : Int)))), t20, t21, t22, (iadd .i64 t24 1), ())) (
    kx ((t2.1, t2.2.1, ()), (t4.1, ()), t5, (t8.1, ()), t9, t16, t17, t18, t19, t20, t21, t22, t23, ()))
def r01_Sum.s12 (kx : ((List Int × List Int × Unit) × (List Int × Unit) × List Int × (List Int × Unit) × Int × Int × Int × Int × Int × Int × Int × Int × Int × Unit) → Option (List Int)) : ((List Int × List Int × Unit) × (List Int × Unit) × List Int × (List Int × Unit) × Int × List Int × Int × Int × Int × Int × Int × Int × Int × Int × Int × Unit) → (((List Int × List Int × Unit) × (List Int × Unit) × List Int × (List Int × Unit) × Int × List Int × Int × Int × Int × Int × Int × Int × Int × Int × Int × Unit) → Option (List Int)) → Option (List Int) := r01_Sum.s12b r01_turn kx
def r01_Sum.n12 : ((List Int × List Int × Unit) × (List Int × Unit) × List Int × (List Int × Unit) × Int × List Int × Int × Int × Int × Int × Int × Int × Int × Int × Int × Unit) → Nat
  | (t2, t4, t5, t8, t9, t10, t16, t17, t18, t19, t20, t21, t22, t23, t24, _) => t5.length + t9.toNat + t10.length + t16.toNat + t17.toNat + t18.toNat + t19.toNat + t20.toNat + t21.toNat + t22.toNat + t23.toNat + t24.toNat + 1048576
def r01_Sum.l12 (x : (List Int × List Int × Unit) × (List Int × Unit) × List Int × (List Int × Unit) × Int × List Int × Int × Int × Int × Int × Int × Int × Int × Int × Int × Unit) (kx : ((List Int × List Int × Unit) × (List Int × Unit) × List Int × (List Int × Unit) × Int × Int × Int × Int × Int × Int × Int × Int × Int × Unit) → Option (List Int)) : Option (List Int) := loopN (r01_Sum.n12 x) (r01_Sum.s12 kx) x
def r01_Sum.s4b (l6 : ((List Int × List Int × Unit) × (List Int × Unit) × List Int × (List Int × Unit) × Int × List Int × Int × Unit) → (((List Int × List Int × Unit) × (List Int × Unit) × List Int × (List Int × Unit) × Int × List Int × Unit) → Option (List Int)) → Option (List Int)) (l10 : ((List Int × List Int × Unit) × (List Int × Unit) × List Int × (List Int × Unit) × Int × List Int × Int × Unit) → (((List Int × List Int × Unit) × (List Int × Unit) × List Int × (List Int × Unit) × Int × List Int × Unit) → Option (List Int)) → Option (List Int)) (l12 : ((List Int × List Int × Unit) × (List Int × Unit) × List Int × (List Int × Unit) × Int × List Int × Int × Int × Int × Int × Int × Int × Int × Int × Int × Unit) → (((List Int × List Int × Unit) × (List Int × Unit) × List Int × (List Int × Unit) × Int × Int × Int × Int × Int × Int × Int × Int × Int × Unit) → Option (List Int)) → Option (List Int)) (kx : ((List Int × Unit) × (List Int × Unit) × Unit) → Option (List Int)) : ((List Int × List Int × Unit) × (List Int × Unit) × List Int × (List Int × Unit) × Int × Unit) → (((List Int × List Int × Unit) × (List Int × Unit) × List Int × (List Int × Unit) × Int × Unit) → Option (List Int)) → Option (List Int)
  | (t2, t4, t5, t8, t9, _), κ =>
    cond (ilt t9 (t5.length : Int)) (
    l6 ((t2.1, t2.2.1, ()), (t4.1, ()), t5, (t8.1, ()), t9, (List.replicate 64 (0 : Int)), 0, ()) fun (t2, t4, t5, t8, t9, t10, _) =>
    l10 ((t2.1, t2.2.1, ()), (t4.1, ()), t5, (t8.1, ()), t9, t10, 16, ()) fun (t2, t4, t5, t8, t9, t10, _) =>
    l12 ((t2.1, t2.2.1, ()), (t4.1, ()), t5, (t8.1, ()), t9, t10, (t8.1.getD 0 (0 : Int)), (t8.1.getD 1 (0 : Int)), (t8.1.getD 2 (0 : Int)), (t8.1.getD 3 (0 : Int)), (t8.1.getD 4 (0 : Int)), (t8.1.getD 5 (0 : Int)), (t8.1.getD 6 (0 : Int)), (t8.1.getD 7 (0 : Int)), 0, ()) fun (t2, t4, t5, t8, t9, t16, t17, t18, t19, t20, t21, t22, t23, _) =>
    κ ((t2.1, t2.2.1, ()), (t4.1, ()), t5, (((((((((t8.1.set 0 (iadd .u32 (t8.1.getD 0 (0 : Int)) t16)).set 1 (iadd .u32 ((t8.1.set 0 (iadd .u32 (t8.1.getD 0 (0 : Int)) t16)).getD 1 (0 : Int)) t17)).set 2 (iadd .u32 (((t8.1.set 0 (iadd .u32 (t8.1.getD 0 (0 : Int)) t16)).set 1 (iadd .u32 ((t8.1.set 0 (iadd .u32 (t8.1.getD 0 (0 : Int)) t16)).getD 1 (0 : Int)) t17)).getD 2 (0 : Int)) t18)).set 3 (iadd .u32 ((((t8.1.set 0 (iadd .u32 (t8.1.getD 0 (0 : Int)) t16)).set 1 (iadd .u32 ((t8.1.set 0 (iadd .u32 (t8.1.getD 0 (0 : Int)) t16)).getD 1 (0 : Int)) t17)).set 2 (iadd .u32 (((t8.1.set 0 (iadd .u32 (t8.1.getD 0 (0 : Int)) t16)).set 1 (iadd .u32 ((t8.1.set 0 (iadd .u32 (t8.1.getD 0 (0 : Int)) t16)).getD 1 (0 : Int)) t17)).getD 2 (0 : Int)) t18)).getD 3 (0 : Int)) t19)).set 4 (iadd .u32 (((((t8.1.set 0 (iadd .u32 (t8.1.getD 0 (0 : Int)) t16)).set 1 (iadd .u32 ((t8.1.set 0 (iadd .u32 (t8.1.getD 0 (0 : Int)) t16)).getD 1 (0 : Int)) t17)).set 2 (iadd .u32 (((t8.1.set 0 (iadd .u32 (t8.1.getD 0 (0 : Int)) t16)).set 1 (iadd .u32 ((t8.1.set 0 (iadd .u32 (t8.1.getD 0 (0 : Int)) t16)).getD 1 (0 : Int)) t17)).getD 2 (0 : Int)) t18)).set 3 (iadd .u32 ((((t8.1.set 0 (iadd .u32 (t8.1.getD 0 (0 : Int)) t16)).set 1 (iadd .u32 ((t8.1.set 0 (iadd .u32 (t8.1.getD 0 (0 : Int)) t16)).getD 1 (0 : Int)) t17)).set 2 (iadd .u32 (((t8.1.set 0 (iadd .u32 (t8.1.getD 0 (0 : Int)) t16)).set 1 (iadd .u32 ((t8.1.set 0 (iadd .u32 (t8.1.getD 0 (0 : Int)) t16)).getD 1 (0 : Int)) t17)).getD 2 (0 : Int)) t18)).getD 3 (0 : Int)) t19)).getD 4 (0 : Int)) t20)).set 5 (iadd .u32 ((((((t8.1.set 0 (iadd .u32 (t8.1.getD 0 (0 : Int)) t16)).set 1 (iadd .u32 ((t8.1.set 0 (iadd .u32 (t8.1.getD 0 (0 : Int)) t16)).getD 1 (0 : Int)) t17)).set 2 (iadd .u32 (((t8.1.set 0 (iadd .u32 (t8.1.getD 0 (0 : Int)) t16)).set 1 (iadd .u32 ((t8.1.set 0 (iadd .u32 (t8.1.getD 0 (0 : Int)) t16)).getD 1 (0 : Int)) t17)).getD 2 (0 : Int)) t18)).set 3 (iadd .u32 ((((t8.1.set 0 (iadd .u32 (t8.1.getD 0 (0 : Int)) t16)).set 1 (iadd .u32 ((t8.1.set 0 (iadd .u32 (t8.1.getD 0 (0 : Int)) t16)).getD 1 (0 : Int)) t17)).set 2 (iadd .u32 (((t8.1.set 0 (iadd .u32 (t8.1.getD 0 (0 : Int)) t16)).set 1 (iadd .u32 ((t8.1.set 0 (iadd .u32 (t8.1.getD 0 (0 : Int)) t16)).getD 1 (0 : Int)) t17)).getD 2 (0 : Int)) t18)).getD 3 (0 : Int)) t19)).set 4 (iadd .u32 (((((t8.1.set 0 (iadd .u32 (t8.1.getD 0 (0 : Int)) t16)).set 1 (iadd .u32 ((t8.1.set 0 (iadd .u32 (t8.1.getD 0 (0 : Int)) t16)).getD 1 (0 : Int)) t17)).set 2 (iadd .u32 (((t8.1.set 0 (iadd .u32 (t8.1.getD 0 (0 : Int)) t16)).set 1 (iadd .u32 ((t8.1.set 0 (iadd .u32 (t8.1.getD 0 (0 : Int)) t16)).getD 1 (0 : Int)) t17)).getD 2 (0 : Int)) t18)).set 3 (iadd .u32 ((((t8.1.set 0 (iadd .u32 (t8.1.getD 0 (0 : Int)) t16)).set 1 (iadd .u32 ((t8.1.set 0 (iadd .u32 (t8.1.getD 0 (0 : Int)) t16)).getD 1 (0 : Int)) t17)).set 2 (iadd .u32 (((t8.1.set 0 (iadd .u32 (t8.1.getD 0 (0 : Int)) t16)).set 1 (iadd .u32 ((t8.1.set 0 (iadd .u32 (t8.1.getD 0 (0 : Int)) t16)).getD 1 (0 : Int)) t17)).getD 2 (0 : Int)) t18)).getD 3 (0 : Int)) t19)).getD 4 (0 : Int)) t20)).getD 5 (0 : Int)) t21)).set 6 (iadd .u32 (((((((t8.1.set 0 (iadd .u32 (t8.1.getD 0 (0 : Int)) t16)).set 1 (iadd .u32 ((t8.1.set 0 (iadd .u32 (t8.1.getD 0 (0 : Int)) t16)).getD 1 (0 : Int)) t17)).set 2 (iadd .u32 (((t8.1.set 0 (iadd .u32 (t8.1.getD 0 (0 : Int)) t16)).set 1 (iadd .u32 ((t8.1.set 0 (iadd .u32 (t8.1.getD 0 (0 : Int)) t16)).getD 1 (0 : Int)) t17)).getD 2 (0 : Int)) t18)).set 3 (iadd .u32 ((((t8.1.set 0 (iadd .u32 (t8.1.getD 0 (0 : Int)) t16)).set 1 (iadd .u32 ((t8.1.set 0 (iadd .u32 (t8.1.getD 0 (0 : Int)) t16)).getD 1 (0 : Int)) t17)).set 2 (iadd .u32 (((t8.1.set 0 (iadd .u32 (t8.1.getD 0 (0 : Int)) t16)).set 1 (iadd .u32 ((t8.1.set 0 (iadd .u32 (t8.1.getD 0 (0 : Int)) t16)).getD 1 (0 : Int)) t17)).getD 2 (0 : Int)) t18)).getD 3 (0 : Int)) t19)).set 4 (iadd .u32 (((((t8.1.set 0 (iadd .u32 (t8.1.getD 0 (0 : Int)) t16)).set 1 (iadd .u32 ((t8.1.set 0 (iadd .u32 (t8.1.getD 0 (0 : Int)) t16)).getD 1 (0 : Int)) t17)).set 2 (iadd .u32 (((t8.1.set 0 (iadd .u32 (t8.1.getD 0 (0 : Int)) t16)).set 1 (iadd .u32 ((t8.1.set 0 (iadd .u32 (t8.1.getD 0 (0 : Int)) t16)).getD 1 (0 : Int)) t17)).getD 2 (0 : Int)) t18)).set 3 (iadd .u32 ((((t8.1.set 0 (iadd .u32 (t8.1.getD 0 (0 : Int)) t16)).set 1 (iadd .u32 ((t8.1.set 0 (iadd .u32 (t8.1.getD 0 (0 : Int)) t16)).getD 1 (0 : Int)) t17)).set 2 (iadd .u32 (((t8.1.set 0 (iadd .u32 (t8.1.getD 0 (0 : Int)) t16)).set 1 (iadd .u32 ((t8.1.set 0 (iadd .u32 (t8.1.getD 0 (0 : Int)) t16)).getD 1 (0 : Int)) t17)).getD 2 (0 : Int)) t18)).getD 3 (0 : Int)) t19)).getD 4 (0 : Int)) t20)).set 5 (iadd .u32 ((((((t8.1.set 0 (iadd .u32 (t8.1.getD 0 (0 : Int)) t16)).set 1 (iadd .u32 ((t8.1.set 0 (iadd .u32 (t8.1.getD 0 (0 : Int)) t16)).getD 1 (0 : Int)) t17)).set 2 (iadd .u32 (((t8.1.set 0 (iadd .u32 (t8.1.getD 0 (0 : Int)) t16)).set 1 (iadd .u32 ((t8.1.set 0 (iadd .u32 (t8.1.getD 0 (0 : Int)) t16)).getD 1 (0 : Int)) t17)).getD 2 (0 : Int)) t18)).set 3 (iadd .u32 ((((t8.1.set 0 (iadd .u32 (t8.1.getD 0 (0 : Int)) t16)).set 1 (iadd .u32 ((t8.1.set 0 (iadd .u32 (t8.1.getD 0 (0 : Int)) t16)).getD 1 (0 : Int)) t17)).set 2 (iadd .u32 (((t8.1.set 0 (iadd .u32 (t8.1.getD 0 (0 : Int)) t16)).set 1 (iadd .u32 ((t8.1.set 0 (iadd .u32 (t8.1.getD 0 (0 : Int)) t16)).getD 1 (0 : Int)) t17)).getD 2 (0 : Int)) t18)).getD 3 (0 : Int)) t19)).set 4 (iadd .u32 (((((t8.1.set 0 (iadd .u32 (t8.1.getD 0 (0 : Int)) t16)).set 1 (iadd .u32 ((t8.1.set 0 (iadd .u32 (t8.1.getD 0 (0 : Int)) t16)).getD 1 (0 : Int)) t17)).set 2 (iadd .u32 (((t8.1.set 0 (iadd .u32 (t8.1.getD 0 (0 : Int)) t16)).set 1 (iadd .u32 ((t8.1.set 0 (iadd .u32 (t8.1.getD 0 (0 : Int)) t16)).getD 1 (0 : Int)) t17)).getD 2 (0 : Int)) t18)).set 3 (iadd .u32 ((((t8.1.set 0 (iadd .u32 (t8.1.getD 0 (0 : Int)) t16)).set 1 (iadd .u32 ((t8.1.set 0 (iadd .u32 (t8.1.getD 0 (0 : Int)) t16)).getD 1 (0 : Int)) t17)).set 2 (iadd .u32 (((t8.1.set 0 (iadd .u32 (t8.1.getD 0 (0 : Int)) t16)).set 1 (iadd .u32 ((t8.1.set 0 (iadd .u32 (t8.1.getD 0 (0 : Int)) t16)).getD 1 (0 : Int)) t17)).getD 2 (0 : Int)) t18)).getD 3 (0 : Int)) t19)).getD 4 (0 : Int)) t20)).getD 5 (0 : Int)) t21)).getD 6 (0 : Int)) t22)).set 7 (iadd .u32 ((((((((t8.1.set 0 (iadd .u32 (t8.1.getD 0 (0 : Int)) t16)).set 1 (iadd .u32 ((t8.1.set 0 (iadd .u32 (t8.1.getD 0 (0 : Int)) t16)).getD 1 (0 : Int)) t17)).set 2 (iadd .u32 (((t8.1.set 0 (iadd .u32 (t8.1.getD 0 (0 : Int)) t16)).set 1 (iadd .u32 ((t8.1.set 0 (iadd .u32 (t8.1.getD 0 (0 : Int)) t16)).getD 1 (0 : Int)) t17)).getD 2 (0 : Int)) t18)).set 3 (iadd .u32 ((((t8.1.set 0 (iadd .u32 (t8.1.getD 0 (0 : Int)) t16)).set 1 (iadd .u32 ((t8.1.set 0 (iadd .u32 (t8.1.getD 0 (0 : Int)) t16)).getD 1 (0 : Int)) t17)).set 2 (iadd .u32 (((t8.1.set 0 (iadd .u32 (t8.1.getD 0 (0 : Int)) t16)).set 1 (iadd .u32 ((t8.1.set 0 (iadd .u32 (t8.1.getD 0 (0 : Int)) t16)).getD 1 (0 : Int)) t17)).getD 2 (0 : Int)) t18)).getD 3 (0 : Int)) t19)).set 4 (iadd .u32 (((((t8.1.set 0 (iadd .u32 (t8.1.getD 0 (0 : Int)) t16)).set 1 (iadd .u32 ((t8.1.set 0 (iadd .u32 (t8.1.getD 0 (0 : Int)) t16)).getD 1 (0 : Int)) t17)).set 2 (iadd .u32 (((t8.1.set 0 (iadd .u32 (t8.1.getD 0 (0 : Int)) t16)).set 1 (iadd .u32 ((t8.1.set 0 (iadd .u32 (t8.1.getD 0 (0 : Int)) t16)).getD 1 (0 : Int)) t17)).getD 2 (0 : Int)) t18)).set 3 (iadd .u32 ((((t8.1.set 0 (iadd .u32 (t8.1.getD 0 (0 : Int)) t16)).set 1 (iadd .u32 ((t8.1.set 0 (iadd .u32 (t8.1.getD 0 (0 : Int)) t16)).getD 1 (0 : Int)) t17)).set 2 (iadd .u32 (((t8.1.set 0 (iadd .u32 (t8.1.getD 0 (0 : Int)) t16)).set 1 (iadd .u32 ((t8.1.set 0 (iadd .u32 (t8.1.getD 0 (0 : Int)) t16)).getD 1 (0 : Int)) t17)).getD 2 (0 : Int)) t18)).getD 3 (0 : Int)) t19)).getD 4 (0 : Int)) t20)).set 5 (iadd .u32 ((((((t8.1.set 0 (iadd .u32 (t8.1.getD 0 (0 : Int)) t16)).set 1 (iadd .u32 ((t8.1.set 0 (iadd .u32 (t8.1.getD 0 (0 : Int)) t16)).getD 1 (0 : Int)) t17)).set 2 (iadd .u32 (((t8.1.set 0 (iadd .u32 (t8.1.getD 0 (0 : Int)) t16)).set 1 (iadd .u32 ((t8.1.set 0 (iadd .u32 (t8.1.getD 0 (0 : Int)) t16)).getD 1 (0 : Int)) t17)).getD 2 (0 : Int)) t18)).set 3 (iadd .u32 ((((t8.1.set 0 (iadd .u32 (t8.1.getD 0 (0 : Int)) t16)).set 1 (iadd .u32 ((t8.1.set 0 (iadd .u32 (t8.1.getD 0 (0 : Int)) t16)).getD 1 (0 : Int)) t17)).set 2 (iadd .u32 (((t8.1.set 0 (iadd .u32 (t8.1.getD 0 (0 : Int)) t16)).set 1 (iadd .u32 ((t8.1.set 0 (iadd .u32 (t8.1.getD 0 (0 : Int)) t16)).getD 1 (0 : Int)) t17)).getD 2 (0 : Int)) t18)).getD 3 (0 : Int)) t19)).set 4 (iadd .u32 (((((t8.1.set 0 (iadd .u32 (t8.1.getD 0 (0 : Int)) t16)).set 1 (iadd .u32 ((t8.1.set 0 (iadd .u32 (t8.1.getD 0 (0 : Int)) t16)).getD 1 (0 : Int)) t17)).set 2 (iadd .u32 (((t8.1.set 0 (iadd .u32 (t8.1.getD 0 (0 : Int)) t16)).set 1 (iadd .u32 ((t8.1.set 0 (iadd .u32 (t8.1.getD 0 (0 : Int)) t16)).getD 1 (0 : Int)) t17)).getD 2 (0 : Int)) t18)).set 3 (iadd .u32 ((((t8.1.set 0 (iadd .u32 (t8.1.getD 0 (0 : Int)) t16)).set 1 (iadd .u32 ((t8.1.set 0 (iadd .u32 (t8.1.getD 0 (0 : Int)) t16)).getD 1 (0 : Int)) t17)).set 2 (iadd .u32 (((t8.1.set 0 (iadd .u32 (t8.1.getD 0 (0 : Int)) t16)).set 1 (iadd .u32 ((t8.1.set 0 (iadd .u32 (t8.1.getD 0 (0 : Int)) t16)).getD 1 (0 : Int)) t17)).getD 2 (0 : Int)) t18)).getD 3 (0 : Int)) t19)).getD 4 (0 : Int)) t20)).getD 5 (0 : Int)) t21)).set 6 (iadd .u32 (((((((t8.1.set 0 (iadd .u32 (t8.1.getD 0 (0 : Int)) t16)).set 1 (iadd .u32 ((t8.1.set 0 (iadd .u32 (t8.1.getD 0 (0 : Int)) t16)).getD 1 (0 : Int)) t17)).set 2 (iadd .u32 (((t8.1.set 0 (iadd .u32 (t8.1.getD 0 (0 : Int)) t16)).set 1 (iadd .u32 ((t8.1.set 0 (iadd .u32 (t8.1.getD 0 (0 : Int)) t16)).getD 1 (0 : Int)) t17)).getD 2 (0 : Int)) t18)).set 3 (iadd .u32 ((((t8.1.set 0 (iadd .u32 (t8.1.getD 0 (0 : Int)) t16)).set 1 (iadd .u32 ((t8.1.set 0 (iadd .u32 (t8.1.getD 0 (0 : Int)) t16)).getD 1 (0 : Int)) t17)).set 2 (iadd .u32 (((t8.1.set 0 (iadd .u32 (t8.1.getD 0 (0 : Int)) t16)).set 1 (iadd .u32 ((t8.1.set 0 (iadd .u32 (t8.1.getD 0 (0 : Int)) t16)).getD 1 (0 : Int)) t17)).getD 2 (0 : Int)) t18)).getD 3 (0 : Int)) t19)).set 4 (iadd .u32 (((((t8.1.set 0 (iadd .u32 (t8.1.getD 0 (0 : Int)) t16)).set 1 (iadd .u32 ((t8.1.set 0 (iadd .u32 (t8.1.getD 0 (0 : Int)) t16)).getD 1 (0 : Int)) t17)).set 2 (iadd .u32 (((t8.1.set 0 (iadd .u32 (t8.1.getD 0 (0 : Int)) t16)).set 1 (iadd .u32 ((t8.1.set 0 (iadd .u32 (t8.1.getD 0 (0 : Int)) t16)).getD 1 (0 : Int)) t17)).getD 2 (0 : Int)) t18)).set 3 (iadd .u32 ((((t8.1.set 0 (iadd .u32 (t8.1.getD 0 (0 : Int)) t16)).set 1 (iadd .u32 ((t8.1.set 0 (iadd .u32 (t8.1.getD 0 (0 : Int)) t16)).getD 1 (0 : Int)) t17)).set 2 (iadd .u32 (((t8.1.set 0 (iadd .u32 (t8.1.getD 0 (0 : Int)) t16)).set 1 (iadd .u32 ((t8.1.set 0 (iadd .u32 (t8.1.getD 0 (0 : Int)) t16)).getD 1 (0 : Int)) t17)).getD 2 (0 : Int)) t18)).getD 3 (0 : Int)) t19)).getD 4 (0 : Int)) t20)).set 5 (iadd .u32 ((((((t8.1.set 0 (iadd .u32 (t8.1.getD 0 (0 : Int)) t16)).set 1 (iadd .u32 ((t8.1.set 0 (iadd .u32 (t8.1.getD 0 (0 : Int)) t16)).getD 1 (0 : Int)) t17)).set 2 (iadd .u32 (((t8.1.set 0 (iadd .u32 (t8.1.getD 0 (0 : Int)) t16)).set 1 (iadd .u32 ((t8.1.set 0 (iadd .u32 (t8.1.getD 0 (0 : Int)) t16)).getD 1 (0 : Int)) t17)).getD 2 (0 : Int)) t18)).set 3 (iadd .u32 ((((t8.1.set 0 (iadd .u32 (t8.1.getD 0 (0 : Int)) t16)).set 1 (iadd .u32 ((t8.1.set 0 (iadd .u32 (t8.1.getD 0 (0 : Int)) t16)).getD 1 (0 : Int)) t17)).set 2 (iadd .u32 (((t8.1.set 0 (iadd .u32 (t8.1.getD 0 (0 : Int)) t16)).set 1 (iadd .u32 ((t8.1.set 0 (iadd .u32 (t8.1.getD 0 (0 : Int)) t16)).getD 1 (0 : Int)) t17)).getD 2 (0 : Int)) t18)).getD 3 (0 : Int)) t19)).set 4 (iadd .u32 (((((t8.1.set 0 (iadd .u32 (t8.1.getD 0 (0 : Int)) t16)).set 1 (iadd .u32 ((t8.1.set 0 (iadd .u32 (t8.1.getD 0 (0 : Int)) t16)).getD 1 (0 : Int)) t17)).set 2 (iadd .u32 (((t8.1.set 0 (iadd .u32 (t8.1.getD 0 (0 : Int)) t16)).set 1 (iadd .u32 ((t8.1.set 0 (iadd .u32 (t8.1.getD 0 (0 : Int)) t16)).getD 1 (0 : Int)) t17)).getD 2 (0 : Int)) t18)).set 3 (iadd .u32 ((((t8.1.set 0 (iadd .u32 (t8.1.getD 0 (0 : Int)) t16)).set 1 (iadd .u32 ((t8.1.set 0 (iadd .u32 (t8.1.getD 0 (0 : Int)) t16)).getD 1 (0 : Int)) t17)).set 2 (iadd .u32 (((t8.1.set 0 (iadd .u32 (t8.1.getD 0 (0 : Int)) t16)).set 1 (iadd .u32 ((t8.1.set 0 (iadd .u32 (t8.1.getD 0 (0 : Int)) t16)).getD 1 (0 : Int)) t17)).getD 2 (0 : Int)) t18)).getD 3 (0 : Int)) t19)).getD 4 (0 : Int)) t20)).getD 5 (0 : Int)) t21)).getD 6 (0 : Int)) t22)).getD 7 (0 : Int)) t23)), ()), (iadd .i64 t9 64), ())) (
    kx ((t4.1, ()), (t8.1, ()), ()))
def r01_Sum.s4 (kx : ((List Int × Unit) × (List Int × Unit) × Unit) → Option (List Int)) : ((List Int × List Int × Unit) × (List Int × Unit) × List Int × (List Int × Unit) × Int × Unit) → (((List Int × List Int × Unit) × (List Int × Unit) × List Int × (List Int × Unit) × Int × Unit) → Option (List Int)) → Option (List Int) := r01_Sum.s4b r01_Sum.l6 r01_Sum.l10 r01_Sum.l12 kx
def r01_Sum.n4 : ((List Int × List Int × Unit) × (List Int × Unit) × List Int × (List Int × Unit) × Int × Unit) → Nat
  | (t2, t4, t5, t8, t9, _) => t5.length + t9.toNat + 1048576
def r01_Sum.l4 (x : (List Int × List Int × Unit) × (List Int × Unit) × List Int × (List Int × Unit) × Int × Unit) (kx : ((List Int × Unit) × (List Int × Unit) × Unit) → Option (List Int)) : Option (List Int) := loopN (r01_Sum.n4 x) (r01_Sum.s4 kx) x
def r01_Sum.s14b (kx : ((List Int × Unit) × (List Int × Unit) × Unit) → Option (List Int)) : ((List Int × Unit) × (List Int × Unit) × (List Int × Unit) × Int × Unit) → (((List Int × Unit) × (List Int × Unit) × (List Int × Unit) × Int × Unit) → Option (List Int)) → Option (List Int)
  | (t4, t8, t27, t28, _), κ =>
    cond (ilt t28 32) (
    chk (inB (iquo .i64 t28 4) 8) <|
    chk (ile 0 (isub .i64 24 (imul .i64 8 (irem .i64 t28 4)))) <|
    chk (inB t28 32) <|
    κ ((t4.1, ()), (t8.1, ()), ((t27.1.set t28.toNat (IntKind.wrap .u8 (ishr .u32 (t8.1.getD (iquo .i64 t28 4).toNat (0 : Int)) (isub .i64 24 (imul .i64 8 (irem .i64 t28 4)))))), ()), (iadd .i64 t28 1), ())) (
    kx ((t4.1, ()), (t27.1, ()), ()))
def r01_Sum.s14 (kx : ((List Int × Unit) × (List Int × Unit) × Unit) → Option (List Int)) : ((List Int × Unit) × (List Int × Unit) × (List Int × Unit) × Int × Unit) → (((List Int × Unit) × (List Int × Unit) × (List Int × Unit) × Int × Unit) → Option (List Int)) → Option (List Int) := r01_Sum.s14b kx
def r01_Sum.n14 : ((List Int × Unit) × (List Int × Unit) × (List Int × Unit) × Int × Unit) → Nat
  | (t4, t8, t27, t28, _) => t28.toNat + 1048576
def r01_Sum.l14 (x : (List Int × Unit) × (List Int × Unit) × (List Int × Unit) × Int × Unit) (kx : ((List Int × Unit) × (List Int × Unit) × Unit) → Option (List Int)) : Option (List Int) := loopN (r01_Sum.n14 x) (r01_Sum.s14 kx) x
def r01_Sum.b (l0 : (List Int × (List Int × List Int × Unit) × (List Int × Unit) × List Int × Unit) → ((List Int × (List Int × List Int × Unit) × (List Int × Unit) × List Int × Unit) → Option (List Int)) → Option (List Int)) (l2 : ((List Int × List Int × Unit) × (List Int × Unit) × List Int × Int × Int × Unit) → (((List Int × List Int × Unit) × (List Int × Unit) × List Int × Unit) → Option (List Int)) → Option (List Int)) (l4 : ((List Int × List Int × Unit) × (List Int × Unit) × List Int × (List Int × Unit) × Int × Unit) → (((List Int × Unit) × (List Int × Unit) × Unit) → Option (List Int)) → Option (List Int)) (l14 : ((List Int × Unit) × (List Int × Unit) × (List Int × Unit) × Int × Unit) → (((List Int × Unit) × (List Int × Unit) × Unit) → Option (List Int)) → Option (List Int)) : ((List Int × List Int × Unit) × List Int × Unit) → Option (List Int)
  | (x0, x1, _) =>
    chk (fits 1 (0 + x1.length)) <|
    chk (fits 1 (x1.length + 1)) <|
    l0 (x1, (x0.1, x0.2.1, ()), ((List.replicate 32 (0 : Int)), ()), (x1 ++ [128]), ()) fun (t1, t2, t4, t5, _) =>
    l2 ((t2.1, t2.2.1, ()), (t4.1, ()), t5, (imul .u64 (IntKind.wrap .u64 (t1.length : Int)) 8), 7, ()) fun (t2, t4, t5, _) =>
    l4 ((t2.1, t2.2.1, ()), (t4.1, ()), t5, (t2.1, ()), 0, ()) fun (t4, t8, _) =>
    l14 ((t4.1, ()), (t8.1, ()), ((List.replicate 32 (0 : Int)), ()), 0, ()) fun (t4, t27, _) =>
    some t27.1
def r01_Sum (x : ((List Int × List Int × Unit) × List Int × Unit)) : Option (List Int) := r01_Sum.b r01_Sum.l0 r01_Sum.l2 r01_Sum.l4 r01_Sum.l14 x
/-- muniment/munimentref01.prime -/
def r01_prime.s2b (kx : (Int × Bool × Unit) → Option Int) : (Int × Bool × Int × Unit) → ((Int × Bool × Int × Unit) → Option Int) → Option Int
  | (t0, t3, t4, _), κ =>
    cond (ile (imul .i64 t4 t4) t0) (
    chk (decide (t4 ≠ 0)) <|
    cond (ieq (irem .i64 t0 t4) 0) (
    κ (t0, false, (iadd .i64 t4 1), ())) (
    κ (t0, t3, (iadd .i64 t4 1), ()))) (
    kx (t0, t3, ()))
def r01_prime.s2 (kx : (Int × Bool × Unit) → Option Int) : (Int × Bool × Int × Unit) → ((Int × Bool × Int × Unit) → Option Int) → Option Int := r01_prime.s2b kx
def r01_prime.n2 : (Int × Bool × Int × Unit) → Nat
  | (t0, t3, t4, _) => t0.toNat + t4.toNat + 1048576
def r01_prime.l2 (x : Int × Bool × Int × Unit) (kx : (Int × Bool × Unit) → Option Int) : Option Int := loopN (r01_prime.n2 x) (r01_prime.s2 kx) x
def r01_prime.s0b (l2 : (Int × Bool × Int × Unit) → ((Int × Bool × Unit) → Option Int) → Option Int) (kx : Unit → Option Int) : (Int × Unit) → ((Int × Unit) → Option Int) → Option Int
  | (t0, _), κ =>
    l2 ((iadd .i64 t0 1), (igt (iadd .i64 t0 1) 1), 2, ()) fun (t0, t3, _) =>
    cond t3 (
    some t0) (
    κ (t0, ()))
def r01_prime.s0 (kx : Unit → Option Int) : (Int × Unit) → ((Int × Unit) → Option Int) → Option Int := r01_prime.s0b r01_prime.l2 kx
def r01_prime.n0 : (Int × Unit) → Nat
  | (t0, _) => t0.toNat + 1048576
def r01_prime.l0 (x : Int × Unit) (kx : Unit → Option Int) : Option Int := loopN (r01_prime.n0 x) (r01_prime.s0 kx) x
def r01_prime.b (l0 : (Int × Unit) → (Unit → Option Int) → Option Int) : (Int × Unit) → Option Int
  | (x0, _) =>
    l0 (x0, ()) fun _ =>
    none
def r01_prime (x : (Int × Unit)) : Option Int := r01_prime.b r01_prime.l0 x
/-- muniment/munimentref01.times -/
def r01_times.s2b (kx : ((List Int × Unit) × (List Int × Unit) × (List Int × Unit) × (List Int × Unit) × Int × Unit) → Option (List Int)) : ((List Int × Unit) × (List Int × Unit) × (List Int × Unit) × (List Int × Unit) × Int × Int × Int × Unit) → (((List Int × Unit) × (List Int × Unit) × (List Int × Unit) × (List Int × Unit) × Int × Int × Int × Unit) → Option (List Int)) → Option (List Int)
  | (t2, t3, t4, t5, t6, t7, t8, _), κ =>
    cond (ilt (iadd .i64 t6 t8) 8) (
    chk (inB t6 8) <|
    chk (inB t8 8) <|
    chk (inB (iadd .i64 t6 t8) 8) <|
    chk (inB (iadd .i64 t6 t8) 8) <|
    κ ((t2.1, ()), (t3.1, ()), (t4.1, ()), ((t5.1.set (iadd .i64 t6 t8).toNat (iand .u64 (iadd .u64 (iadd .u64 (imul .u64 (t2.1.getD t6.toNat (0 : Int)) (t3.1.getD t8.toNat (0 : Int))) (t5.1.getD (iadd .i64 t6 t8).toNat (0 : Int))) t7) 4294967295)), ()), t6, (ishr .u64 (iadd .u64 (iadd .u64 (imul .u64 (t2.1.getD t6.toNat (0 : Int)) (t3.1.getD t8.toNat (0 : Int))) (t5.1.getD (iadd .i64 t6 t8).toNat (0 : Int))) t7) 32), (iadd .i64 t8 1), ())) (
    kx ((t2.1, ()), (t3.1, ()), (t4.1, ()), (t5.1, ()), t6, ()))
def r01_times.s2 (kx : ((List Int × Unit) × (List Int × Unit) × (List Int × Unit) × (List Int × Unit) × Int × Unit) → Option (List Int)) : ((List Int × Unit) × (List Int × Unit) × (List Int × Unit) × (List Int × Unit) × Int × Int × Int × Unit) → (((List Int × Unit) × (List Int × Unit) × (List Int × Unit) × (List Int × Unit) × Int × Int × Int × Unit) → Option (List Int)) → Option (List Int) := r01_times.s2b kx
def r01_times.n2 : ((List Int × Unit) × (List Int × Unit) × (List Int × Unit) × (List Int × Unit) × Int × Int × Int × Unit) → Nat
  | (t2, t3, t4, t5, t6, t7, t8, _) => t6.toNat + t7.toNat + t8.toNat + 1048576
def r01_times.l2 (x : (List Int × Unit) × (List Int × Unit) × (List Int × Unit) × (List Int × Unit) × Int × Int × Int × Unit) (kx : ((List Int × Unit) × (List Int × Unit) × (List Int × Unit) × (List Int × Unit) × Int × Unit) → Option (List Int)) : Option (List Int) := loopN (r01_times.n2 x) (r01_times.s2 kx) x
def r01_times.s0b (l2 : ((List Int × Unit) × (List Int × Unit) × (List Int × Unit) × (List Int × Unit) × Int × Int × Int × Unit) → (((List Int × Unit) × (List Int × Unit) × (List Int × Unit) × (List Int × Unit) × Int × Unit) → Option (List Int)) → Option (List Int)) (kx : ((List Int × Unit) × (List Int × Unit) × Unit) → Option (List Int)) : ((List Int × Unit) × (List Int × Unit) × (List Int × Unit) × (List Int × Unit) × Int × Unit) → (((List Int × Unit) × (List Int × Unit) × (List Int × Unit) × (List Int × Unit) × Int × Unit) → Option (List Int)) → Option (List Int)
  | (t2, t3, t4, t5, t6, _), κ =>
    cond (ilt t6 8) (
    l2 ((t2.1, ()), (t3.1, ()), (t4.1, ()), (t5.1, ()), t6, 0, 0, ()) fun (t2, t3, t4, t5, t6, _) =>
    κ ((t2.1, ()), (t3.1, ()), (t4.1, ()), (t5.1, ()), (iadd .i64 t6 1), ())) (
    kx ((t4.1, ()), (t5.1, ()), ()))
def r01_times.s0 (kx : ((List Int × Unit) × (List Int × Unit) × Unit) → Option (List Int)) : ((List Int × Unit) × (List Int × Unit) × (List Int × Unit) × (List Int × Unit) × Int × Unit) → (((List Int × Unit) × (List Int × Unit) × (List Int × Unit) × (List Int × Unit) × Int × Unit) → Option (List Int)) → Option (List Int) := r01_times.s0b r01_times.l2 kx
def r01_times.n0 : ((List Int × Unit) × (List Int × Unit) × (List Int × Unit) × (List Int × Unit) × Int × Unit) → Nat
  | (t2, t3, t4, t5, t6, _) => t6.toNat + 1048576
def r01_times.l0 (x : (List Int × Unit) × (List Int × Unit) × (List Int × Unit) × (List Int × Unit) × Int × Unit) (kx : ((List Int × Unit) × (List Int × Unit) × Unit) → Option (List Int)) : Option (List Int) := loopN (r01_times.n0 x) (r01_times.s0 kx) x
def r01_times.b (l0 : ((List Int × Unit) × (List Int × Unit) × (List Int × Unit) × (List Int × Unit) × Int × Unit) → (((List Int × Unit) × (List Int × Unit) × Unit) → Option (List Int)) → Option (List Int)) : (List Int × List Int × Unit) → Option (List Int)
  | (x0, x1, _) =>
    l0 ((x0, ()), (x1, ()), ((List.replicate 8 (0 : Int)), ()), ((List.replicate 8 (0 : Int)), ()), 0, ()) fun (t4, t5, _) =>
    some t5.1
def r01_times (x : (List Int × List Int × Unit)) : Option (List Int) := r01_times.b r01_times.l0 x
/-- muniment/munimentref01.above -/
def r01_above.s0b (kx : Unit → Option Bool) : ((List Int × Unit) × (List Int × Unit) × Int × Unit) → (((List Int × Unit) × (List Int × Unit) × Int × Unit) → Option Bool) → Option Bool
  | (t2, t3, t5, _), κ =>
    cond (ige t5 0) (
    chk (inB t5 8) <|
    chk (inB t5 8) <|
    cond (ine (t2.1.getD t5.toNat (0 : Int)) (t3.1.getD t5.toNat (0 : Int))) (
    chk (inB t5 8) <|
    chk (inB t5 8) <|
    some (igt (t2.1.getD t5.toNat (0 : Int)) (t3.1.getD t5.toNat (0 : Int)))) (
    κ ((t2.1, ()), (t3.1, ()), (isub .i64 t5 1), ()))) (
    kx (()))
def r01_above.s0 (kx : Unit → Option Bool) : ((List Int × Unit) × (List Int × Unit) × Int × Unit) → (((List Int × Unit) × (List Int × Unit) × Int × Unit) → Option Bool) → Option Bool := r01_above.s0b kx
def r01_above.n0 : ((List Int × Unit) × (List Int × Unit) × Int × Unit) → Nat
  | (t2, t3, t5, _) => t5.toNat + 1048576
def r01_above.l0 (x : (List Int × Unit) × (List Int × Unit) × Int × Unit) (kx : Unit → Option Bool) : Option Bool := loopN (r01_above.n0 x) (r01_above.s0 kx) x
def r01_above.b (l0 : ((List Int × Unit) × (List Int × Unit) × Int × Unit) → (Unit → Option Bool) → Option Bool) : (List Int × List Int × Unit) → Option Bool
  | (x0, x1, _) =>
    l0 ((x0, ()), (x1, ()), 7, ()) fun (_) =>
    some false
def r01_above (x : (List Int × List Int × Unit)) : Option Bool := r01_above.b r01_above.l0 x
/-- muniment/munimentref01.root -/
def r01_root.s2b (f26 : (List Int × List Int × Unit) → Option (List Int)) (kx : (Int × Int × Int × Int × Int × (List Int × Unit) × Unit) → Option Int) : (Int × Int × Int × Int × Int × (List Int × Unit) × (List Int × Unit) × Int × Unit) → ((Int × Int × Int × Int × Int × (List Int × Unit) × (List Int × Unit) × Int × Unit) → Option Int) → Option Int
  | (t0, t1, t5, t6, t7, t8, t9, t10, _), κ =>
    cond (ilt t10 t1) (
    (f26 (t9.1, t8.1, ())).bind fun v33 =>
    κ (t0, t1, t5, t6, t7, (t8.1, ()), (v33, ()), (iadd .i64 t10 1), ())) (
    kx (t0, t1, t5, t6, t7, (t9.1, ()), ()))
def r01_root.s2 (kx : (Int × Int × Int × Int × Int × (List Int × Unit) × Unit) → Option Int) : (Int × Int × Int × Int × Int × (List Int × Unit) × (List Int × Unit) × Int × Unit) → ((Int × Int × Int × Int × Int × (List Int × Unit) × (List Int × Unit) × Int × Unit) → Option Int) → Option Int := r01_root.s2b r01_times kx
def r01_root.n2 : (Int × Int × Int × Int × Int × (List Int × Unit) × (List Int × Unit) × Int × Unit) → Nat
  | (t0, t1, t5, t6, t7, t8, t9, t10, _) => t0.toNat + t1.toNat + t5.toNat + t6.toNat + t7.toNat + t10.toNat + 1048576
def r01_root.l2 (x : Int × Int × Int × Int × Int × (List Int × Unit) × (List Int × Unit) × Int × Unit) (kx : (Int × Int × Int × Int × Int × (List Int × Unit) × Unit) → Option Int) : Option Int := loopN (r01_root.n2 x) (r01_root.s2 kx) x
def r01_root.s0b (f27 : (List Int × List Int × Unit) → Option Bool) (l2 : (Int × Int × Int × Int × Int × (List Int × Unit) × (List Int × Unit) × Int × Unit) → ((Int × Int × Int × Int × Int × (List Int × Unit) × Unit) → Option Int) → Option Int) (kx : (Int × Unit) → Option Int) : (Int × Int × Int × Int × Unit) → ((Int × Int × Int × Int × Unit) → Option Int) → Option Int
  | (t0, t1, t5, t6, _), κ =>
    cond (igt (isub .u64 t6 t5) 1) (
    l2 (t0, t1, t5, t6, (iquo .u64 (iadd .u64 t5 t6) 2), ((((List.replicate 8 (0 : Int)).set 0 (iand .u64 (iquo .u64 (iadd .u64 t5 t6) 2) 4294967295)).set 1 (ishr .u64 (iquo .u64 (iadd .u64 t5 t6) 2) 32)), ()), ((((List.replicate 8 (0 : Int)).set 0 (iand .u64 (iquo .u64 (iadd .u64 t5 t6) 2) 4294967295)).set 1 (ishr .u64 (iquo .u64 (iadd .u64 t5 t6) 2) 32)), ()), 1, ()) fun (t0, t1, t5, t6, t7, t9, _) =>
    chk (inB t1 8) <|
    (f27 (t9.1, ((List.replicate 8 (0 : Int)).set t1.toNat (IntKind.wrap .u64 t0)), ())).bind fun v40 =>
    cond v40 (
    κ (t0, t1, t5, t7, ())) (
    κ (t0, t1, t7, t6, ()))) (
    kx (t5, ()))
def r01_root.s0 (kx : (Int × Unit) → Option Int) : (Int × Int × Int × Int × Unit) → ((Int × Int × Int × Int × Unit) → Option Int) → Option Int := r01_root.s0b r01_above r01_root.l2 kx
def r01_root.n0 : (Int × Int × Int × Int × Unit) → Nat
  | (t0, t1, t5, t6, _) => t0.toNat + t1.toNat + t5.toNat + t6.toNat + 1048576
def r01_root.l0 (x : Int × Int × Int × Int × Unit) (kx : (Int × Unit) → Option Int) : Option Int := loopN (r01_root.n0 x) (r01_root.s0 kx) x
def r01_root.b (l0 : (Int × Int × Int × Int × Unit) → ((Int × Unit) → Option Int) → Option Int) : (Int × Int × Unit) → Option Int
  | (x0, x1, _) =>
    l0 (x0, x1, 0, 274877906944, ()) fun (t5, _) =>
    some (IntKind.wrap .u32 t5)
def r01_root (x : (Int × Int × Unit)) : Option Int := r01_root.b r01_root.l0 x
/-- muniment/munimentref01.Make -/
def r01_Make.s0b (f23 : (Int × Unit) → Option Int) (f24 : (Int × Int × Unit) → Option Int) (kx : ((List Int × List Int × Unit) × (List Int × List Int × Unit) × Unit) → Option (List Int × List Int × Unit)) : ((List Int × List Int × Unit) × (List Int × List Int × Unit) × Int × Int × Unit) → (((List Int × List Int × Unit) × (List Int × List Int × Unit) × Int × Int × Unit) → Option (List Int × List Int × Unit)) → Option (List Int × List Int × Unit)
  | (t0, t1, t2, t3, _), κ =>
    cond (ilt t3 64) (
    (f23 (t2, ())).bind fun v9 =>
    cond (ilt t3 8) (
    (f24 (v9, 2, ())).bind fun v14 =>
    chk (inB t3 8) <|
    (f24 (v9, 3, ())).bind fun v19 =>
    chk (inB t3 64) <|
    κ ((t0.1, t0.2.1, ()), ((t1.1.set t3.toNat v14), (t1.2.1.set t3.toNat v19), ()), v9, (iadd .i64 t3 1), ())) (
    (f24 (v9, 3, ())).bind fun v19 =>
    chk (inB t3 64) <|
    κ ((t0.1, t0.2.1, ()), (t1.1, (t1.2.1.set t3.toNat v19), ()), v9, (iadd .i64 t3 1), ()))) (
    kx ((t0.1, t0.2.1, ()), (t1.1, t1.2.1, ()), ()))
def r01_Make.s0 (kx : ((List Int × List Int × Unit) × (List Int × List Int × Unit) × Unit) → Option (List Int × List Int × Unit)) : ((List Int × List Int × Unit) × (List Int × List Int × Unit) × Int × Int × Unit) → (((List Int × List Int × Unit) × (List Int × List Int × Unit) × Int × Int × Unit) → Option (List Int × List Int × Unit)) → Option (List Int × List Int × Unit) := r01_Make.s0b r01_prime r01_root kx
def r01_Make.n0 : ((List Int × List Int × Unit) × (List Int × List Int × Unit) × Int × Int × Unit) → Nat
  | (t0, t1, t2, t3, _) => t2.toNat + t3.toNat + 1048576
def r01_Make.l0 (x : (List Int × List Int × Unit) × (List Int × List Int × Unit) × Int × Int × Unit) (kx : ((List Int × List Int × Unit) × (List Int × List Int × Unit) × Unit) → Option (List Int × List Int × Unit)) : Option (List Int × List Int × Unit) := loopN (r01_Make.n0 x) (r01_Make.s0 kx) x
def r01_Make.b (l0 : ((List Int × List Int × Unit) × (List Int × List Int × Unit) × Int × Int × Unit) → (((List Int × List Int × Unit) × (List Int × List Int × Unit) × Unit) → Option (List Int × List Int × Unit)) → Option (List Int × List Int × Unit)) : Unit → Option (List Int × List Int × Unit)
  | (_) =>
    l0 (((List.replicate 8 (0 : Int)), (List.replicate 64 (0 : Int)), ()), ((List.replicate 8 (0 : Int)), (List.replicate 64 (0 : Int)), ()), 1, 0, ()) fun (t0, t1, _) =>
    some (t1.1, t1.2.1, ())
def r01_Make (x : Unit) : Option (List Int × List Int × Unit) := r01_Make.b r01_Make.l0 x
/-- muniment/munimentlaw01.DigestSums -/
def w01_DigestSums.b (f10 : Unit → Option Bool) (f11 : (List Int × Unit) → Option (List Int)) (f12 : ((List Int × List Int × Unit) × List Int × Unit) → Option (List Int)) (f13 : Unit → Option (List Int × List Int × Unit)) : (List Int × Unit) → Option Bool
  | (x0, _) =>
    (f10 (())).bind fun v4 =>
    cond (!v4) (
    (f10 (())).bind fun v11 =>
    some v11) (
    cond (igt (x0.length : Int) 100000) (
    (f10 (())).bind fun v11 =>
    some v11) (
    chk (fits 1 (0 + x0.length)) <|
    (f11 (x0, ())).bind fun v16 =>
    (f13 (())).bind fun v17 =>
    (f12 ((v17.1, v17.2.1, ()), x0, ())).bind fun v19 =>
    cond (leq v16 v19) (
    some (seq (strOf x0) (strOf x0))) (
    some false)))
def w01_DigestSums (x : (List Int × Unit)) : Option Bool := w01_DigestSums.b w01_awake digest_Sum r01_Sum r01_Make x
/-- muniment/munimentref01.Hex -/
def r01_Hex.s0b (kx : (List Int × Unit) → Option ByteArray) : (List Int × List Int × Int × Unit) → ((List Int × List Int × Int × Unit) → Option ByteArray) → Option ByteArray
  | (t0, t3, t4, _), κ =>
    cond (ilt t4 (t0.length : Int)) (
    chk (inB t4 t0.length) <|
    chk (inB (iquo .u8 (t0.getD t4.toNat (0 : Int)) 16) (⟨#[48, 49, 50, 51, 52, 53, 54, 55, 56, 57, 97, 98, 99, 100, 101, 102]⟩ : ByteArray).size) <|
    chk (inB t4 t0.length) <|
    chk (inB (irem .u8 (t0.getD t4.toNat (0 : Int)) 16) (⟨#[48, 49, 50, 51, 52, 53, 54, 55, 56, 57, 97, 98, 99, 100, 101, 102]⟩ : ByteArray).size) <|
    chk (fits 1 (t3.length + 2)) <|
    κ (t0, (t3 ++ [(byteAt (⟨#[48, 49, 50, 51, 52, 53, 54, 55, 56, 57, 97, 98, 99, 100, 101, 102]⟩ : ByteArray) (iquo .u8 (t0.getD t4.toNat (0 : Int)) 16).toNat), (byteAt (⟨#[48, 49, 50, 51, 52, 53, 54, 55, 56, 57, 97, 98, 99, 100, 101, 102]⟩ : ByteArray) (irem .u8 (t0.getD t4.toNat (0 : Int)) 16).toNat)]), (iadd .i64 t4 1), ())) (
    kx (t3, ()))
def r01_Hex.s0 (kx : (List Int × Unit) → Option ByteArray) : (List Int × List Int × Int × Unit) → ((List Int × List Int × Int × Unit) → Option ByteArray) → Option ByteArray := r01_Hex.s0b kx
def r01_Hex.n0 : (List Int × List Int × Int × Unit) → Nat
  | (t0, t3, t4, _) => t0.length + t3.length + t4.toNat + 1048576
def r01_Hex.l0 (x : List Int × List Int × Int × Unit) (kx : (List Int × Unit) → Option ByteArray) : Option ByteArray := loopN (r01_Hex.n0 x) (r01_Hex.s0 kx) x
def r01_Hex.b (l0 : (List Int × List Int × Int × Unit) → ((List Int × Unit) → Option ByteArray) → Option ByteArray) : (List Int × Unit) → Option ByteArray
  | (x0, _) =>
    l0 (x0, [], 0, ()) fun (t3, _) =>
    some (strOf t3)
def r01_Hex (x : (List Int × Unit)) : Option ByteArray := r01_Hex.b r01_Hex.l0 x
/-- muniment/digest.Equal -/
def digest_Equal.s0b (kx : (Int × Unit) → Option Bool) : (List Int × List Int × Int × Int × Int × Unit) → ((List Int × List Int × Int × Int × Int × Unit) → Option Bool) → Option Bool
  | (t0, t1, t5, t13, t14, _), κ =>
    cond (ilt t14 t13) (
    chk (inB t14 t0.length) <|
    chk (inB t14 t1.length) <|
    κ (t0, t1, (ior .u8 t5 (ixor .u8 (t0.getD t14.toNat (0 : Int)) (t1.getD t14.toNat (0 : Int)))), t13, (iadd .i64 t14 1), ())) (
    kx (t5, ()))
def digest_Equal.s0 (kx : (Int × Unit) → Option Bool) : (List Int × List Int × Int × Int × Int × Unit) → ((List Int × List Int × Int × Int × Int × Unit) → Option Bool) → Option Bool := digest_Equal.s0b kx
def digest_Equal.n0 : (List Int × List Int × Int × Int × Int × Unit) → Nat
  | (t0, t1, t5, t13, t14, _) => t0.length + t1.length + t5.toNat + t13.toNat + t14.toNat + 1048576
def digest_Equal.l0 (x : List Int × List Int × Int × Int × Int × Unit) (kx : (Int × Unit) → Option Bool) : Option Bool := loopN (digest_Equal.n0 x) (digest_Equal.s0 kx) x
def digest_Equal.b (l0 : (List Int × List Int × Int × Int × Int × Unit) → ((Int × Unit) → Option Bool) → Option Bool) : (List Int × List Int × Unit) → Option Bool
  | (x0, x1, _) =>
    cond (ine (x0.length : Int) (x1.length : Int)) (
    some false) (
    l0 (x0, x1, 0, (x0.length : Int), 0, ()) fun (t5, _) =>
    some (ieq t5 0))
def digest_Equal (x : (List Int × List Int × Unit)) : Option Bool := digest_Equal.b digest_Equal.l0 x
/-- muniment/munimentlaw01.DigestHex -/
def w01_DigestHex.b (f10 : Unit → Option Bool) (f14 : (List Int × Unit) → Option ByteArray) (f15 : (List Int × Unit) → Option ByteArray) (f16 : (List Int × List Int × Unit) → Option Bool) : (List Int × List Int × Unit) → Option Bool
  | (x0, x1, _) =>
    (f10 (())).bind fun v5 =>
    cond v5 (
    (f14 (x0, ())).bind fun v8 =>
    (f15 (x0, ())).bind fun v10 =>
    cond (seq v8 v10) (
    (f16 (x0, x1, ())).bind fun v16 =>
    cond (v16 == (seq (strOf x0) (strOf x1))) (
    (f16 (x0, x0, ())).bind fun v27 =>
    some v27) (
    some false)) (
    some false)) (
    some false)
def w01_DigestHex (x : (List Int × List Int × Unit)) : Option Bool := w01_DigestHex.b w01_awake digest_Hex r01_Hex digest_Equal x
/-- muniment/digest.Tag -/
def digest_Tag.s0b (kx : (List Int × (List Int × Unit) × (List Int × Unit) × (List Int × Unit) × Unit) → Option (List Int)) : (List Int × (List Int × Unit) × (List Int × Unit) × (List Int × Unit) × Int × Unit) → ((List Int × (List Int × Unit) × (List Int × Unit) × (List Int × Unit) × Int × Unit) → Option (List Int)) → Option (List Int)
  | (t1, t4, t6, t7, t20, _), κ =>
    cond (ilt t20 64) (
    chk (inB t20 64) <|
    chk (inB t20 64) <|
    chk (inB t20 64) <|
    chk (inB t20 64) <|
    κ (t1, (t4.1, ()), ((t6.1.set t20.toNat (ixor .u8 (t6.1.getD t20.toNat (0 : Int)) 54)), ()), ((t7.1.set t20.toNat (ixor .u8 (t7.1.getD t20.toNat (0 : Int)) 92)), ()), (iadd .i64 t20 1), ())) (
    kx (t1, (t4.1, ()), (t6.1, ()), (t7.1, ()), ()))
def digest_Tag.s0 (kx : (List Int × (List Int × Unit) × (List Int × Unit) × (List Int × Unit) × Unit) → Option (List Int)) : (List Int × (List Int × Unit) × (List Int × Unit) × (List Int × Unit) × Int × Unit) → ((List Int × (List Int × Unit) × (List Int × Unit) × (List Int × Unit) × Int × Unit) → Option (List Int)) → Option (List Int) := digest_Tag.s0b kx
def digest_Tag.n0 : (List Int × (List Int × Unit) × (List Int × Unit) × (List Int × Unit) × Int × Unit) → Nat
  | (t1, t4, t6, t7, t20, _) => t1.length + t20.toNat + 1048576
def digest_Tag.l0 (x : List Int × (List Int × Unit) × (List Int × Unit) × (List Int × Unit) × Int × Unit) (kx : (List Int × (List Int × Unit) × (List Int × Unit) × (List Int × Unit) × Unit) → Option (List Int)) : Option (List Int) := loopN (digest_Tag.n0 x) (digest_Tag.s0 kx) x
def digest_Tag.b (f11 : (List Int × Unit) → Option (List Int)) (l0 : (List Int × (List Int × Unit) × (List Int × Unit) × (List Int × Unit) × Int × Unit) → ((List Int × (List Int × Unit) × (List Int × Unit) × (List Int × Unit) × Unit) → Option (List Int)) → Option (List Int)) : (List Int × List Int × Unit) → Option (List Int)
  | (x0, x1, _) =>
    cond (igt (x0.length : Int) 64) (
    (f11 (x0, ())).bind fun v14 =>
    l0 (x1, ((List.replicate 32 (0 : Int)), ()), ((copied (List.replicate 64 (0 : Int)) 0 (min v14.length 64) v14), ()), ((copied (List.replicate 64 (0 : Int)) 0 (min v14.length 64) v14), ()), 0, ()) fun (t1, t4, t6, t7, _) =>
    cond (decide (t1.length = 0)) (
    (f11 (t6.1, ())).bind fun v37 =>
    cond (decide (v37.length = 0)) (
    (f11 (t7.1, ())).bind fun v41 =>
    some v41) (
    chk (fits 1 ((t7.1.drop 0).length + v37.length)) <|
    (f11 (((t7.1.drop 0) ++ v37), ())).bind fun v41 =>
    some v41)) (
    chk (fits 1 ((t6.1.drop 0).length + t1.length)) <|
    (f11 (((t6.1.drop 0) ++ t1), ())).bind fun v37 =>
    cond (decide (v37.length = 0)) (
    (f11 (t7.1, ())).bind fun v41 =>
    some v41) (
    chk (fits 1 ((t7.1.drop 0).length + v37.length)) <|
    (f11 (((t7.1.drop 0) ++ v37), ())).bind fun v41 =>
    some v41))) (
    l0 (x1, ((List.replicate 32 (0 : Int)), ()), ((copied (List.replicate 64 (0 : Int)) 0 (min x0.length 64) x0), ()), ((copied (List.replicate 64 (0 : Int)) 0 (min x0.length 64) x0), ()), 0, ()) fun (t1, t4, t6, t7, _) =>
    cond (decide (t1.length = 0)) (
    (f11 (t6.1, ())).bind fun v37 =>
    cond (decide (v37.length = 0)) (
    (f11 (t7.1, ())).bind fun v41 =>
    some v41) (
    chk (fits 1 ((t7.1.drop 0).length + v37.length)) <|
    (f11 (((t7.1.drop 0) ++ v37), ())).bind fun v41 =>
    some v41)) (
    chk (fits 1 ((t6.1.drop 0).length + t1.length)) <|
    (f11 (((t6.1.drop 0) ++ t1), ())).bind fun v37 =>
    cond (decide (v37.length = 0)) (
    (f11 (t7.1, ())).bind fun v41 =>
    some v41) (
    chk (fits 1 ((t7.1.drop 0).length + v37.length)) <|
    (f11 (((t7.1.drop 0) ++ v37), ())).bind fun v41 =>
    some v41)))
def digest_Tag (x : (List Int × List Int × Unit)) : Option (List Int) := digest_Tag.b digest_Sum digest_Tag.l0 x
/-- muniment/munimentref01.Tag -/
def r01_Tag.s0b (kx : (List Int × (List Int × List Int × Unit) × (List Int × Unit) × List Int × Unit) → Option (List Int)) : (List Int × (List Int × List Int × Unit) × (List Int × Unit) × List Int × Unit) → ((List Int × (List Int × List Int × Unit) × (List Int × Unit) × List Int × Unit) → Option (List Int)) → Option (List Int)
  | (t2, t3, t6, t7, _), κ =>
    cond (ilt (t7.length : Int) 64) (
    chk (fits 1 (t7.length + 1)) <|
    κ (t2, (t3.1, t3.2.1, ()), (t6.1, ()), (t7 ++ [0]), ())) (
    kx (t2, (t3.1, t3.2.1, ()), (t6.1, ()), t7, ()))
def r01_Tag.s0 (kx : (List Int × (List Int × List Int × Unit) × (List Int × Unit) × List Int × Unit) → Option (List Int)) : (List Int × (List Int × List Int × Unit) × (List Int × Unit) × List Int × Unit) → ((List Int × (List Int × List Int × Unit) × (List Int × Unit) × List Int × Unit) → Option (List Int)) → Option (List Int) := r01_Tag.s0b kx
def r01_Tag.n0 : (List Int × (List Int × List Int × Unit) × (List Int × Unit) × List Int × Unit) → Nat
  | (t2, t3, t6, t7, _) => t2.length + t7.length + 1048576
def r01_Tag.l0 (x : List Int × (List Int × List Int × Unit) × (List Int × Unit) × List Int × Unit) (kx : (List Int × (List Int × List Int × Unit) × (List Int × Unit) × List Int × Unit) → Option (List Int)) : Option (List Int) := loopN (r01_Tag.n0 x) (r01_Tag.s0 kx) x
def r01_Tag.s2b (kx : (List Int × (List Int × List Int × Unit) × (List Int × Unit) × List Int × List Int × Unit) → Option (List Int)) : (List Int × (List Int × List Int × Unit) × (List Int × Unit) × List Int × List Int × List Int × Int × Unit) → ((List Int × (List Int × List Int × Unit) × (List Int × Unit) × List Int × List Int × List Int × Int × Unit) → Option (List Int)) → Option (List Int)
  | (t2, t3, t6, t7, t9, t10, t11, _), κ =>
    cond (ilt t11 64) (
    chk (inB t11 t7.length) <|
    chk (fits 1 (t9.length + 1)) <|
    chk (inB t11 t7.length) <|
    chk (fits 1 (t10.length + 1)) <|
    κ (t2, (t3.1, t3.2.1, ()), (t6.1, ()), t7, (t9 ++ [(ixor .u8 (t7.getD t11.toNat (0 : Int)) 54)]), (t10 ++ [(ixor .u8 (t7.getD t11.toNat (0 : Int)) 92)]), (iadd .i64 t11 1), ())) (
    kx (t2, (t3.1, t3.2.1, ()), (t6.1, ()), t9, t10, ()))
def r01_Tag.s2 (kx : (List Int × (List Int × List Int × Unit) × (List Int × Unit) × List Int × List Int × Unit) → Option (List Int)) : (List Int × (List Int × List Int × Unit) × (List Int × Unit) × List Int × List Int × List Int × Int × Unit) → ((List Int × (List Int × List Int × Unit) × (List Int × Unit) × List Int × List Int × List Int × Int × Unit) → Option (List Int)) → Option (List Int) := r01_Tag.s2b kx
def r01_Tag.n2 : (List Int × (List Int × List Int × Unit) × (List Int × Unit) × List Int × List Int × List Int × Int × Unit) → Nat
  | (t2, t3, t6, t7, t9, t10, t11, _) => t2.length + t7.length + t9.length + t10.length + t11.toNat + 1048576
def r01_Tag.l2 (x : List Int × (List Int × List Int × Unit) × (List Int × Unit) × List Int × List Int × List Int × Int × Unit) (kx : (List Int × (List Int × List Int × Unit) × (List Int × Unit) × List Int × List Int × Unit) → Option (List Int)) : Option (List Int) := loopN (r01_Tag.n2 x) (r01_Tag.s2 kx) x
def r01_Tag.b (f12 : ((List Int × List Int × Unit) × List Int × Unit) → Option (List Int)) (l0 : (List Int × (List Int × List Int × Unit) × (List Int × Unit) × List Int × Unit) → ((List Int × (List Int × List Int × Unit) × (List Int × Unit) × List Int × Unit) → Option (List Int)) → Option (List Int)) (l2 : (List Int × (List Int × List Int × Unit) × (List Int × Unit) × List Int × List Int × List Int × Int × Unit) → ((List Int × (List Int × List Int × Unit) × (List Int × Unit) × List Int × List Int × Unit) → Option (List Int)) → Option (List Int)) : ((List Int × List Int × Unit) × List Int × List Int × Unit) → Option (List Int)
  | (x0, x1, x2, _) =>
    cond (igt (x1.length : Int) 64) (
    (f12 ((x0.1, x0.2.1, ()), x1, ())).bind fun v18 =>
    chk (fits 1 (0 + v18.length)) <|
    l0 (x2, (x0.1, x0.2.1, ()), ((List.replicate 32 (0 : Int)), ()), v18, ()) fun (t2, t3, t6, t7, _) =>
    l2 (t2, (t3.1, t3.2.1, ()), (t6.1, ()), t7, [], [], 0, ()) fun (t2, t3, t6, t9, t10, _) =>
    chk (fits 1 (t9.length + t2.length)) <|
    (f12 ((t3.1, t3.2.1, ()), (t9 ++ t2), ())).bind fun v56 =>
    chk (fits 1 (t10.length + v56.length)) <|
    (f12 ((t3.1, t3.2.1, ()), (t10 ++ v56), ())).bind fun v62 =>
    some v62) (
    chk (fits 1 (0 + x1.length)) <|
    l0 (x2, (x0.1, x0.2.1, ()), ((List.replicate 32 (0 : Int)), ()), x1, ()) fun (t2, t3, t6, t7, _) =>
    l2 (t2, (t3.1, t3.2.1, ()), (t6.1, ()), t7, [], [], 0, ()) fun (t2, t3, t6, t9, t10, _) =>
    chk (fits 1 (t9.length + t2.length)) <|
    (f12 ((t3.1, t3.2.1, ()), (t9 ++ t2), ())).bind fun v56 =>
    chk (fits 1 (t10.length + v56.length)) <|
    (f12 ((t3.1, t3.2.1, ()), (t10 ++ v56), ())).bind fun v62 =>
    some v62)
def r01_Tag (x : ((List Int × List Int × Unit) × List Int × List Int × Unit)) : Option (List Int) := r01_Tag.b r01_Sum r01_Tag.l0 r01_Tag.l2 x
/-- muniment/munimentlaw01.DigestTags -/
def w01_DigestTags.b (f10 : Unit → Option Bool) (f13 : Unit → Option (List Int × List Int × Unit)) (f17 : (List Int × List Int × Unit) → Option (List Int)) (f18 : ((List Int × List Int × Unit) × List Int × List Int × Unit) → Option (List Int)) : (List Int × List Int × Unit) → Option Bool
  | (x0, x1, _) =>
    (f10 (())).bind fun v5 =>
    cond (!v5) (
    (f10 (())).bind fun v15 =>
    some v15) (
    cond (igt (iadd .i64 (x0.length : Int) (x1.length : Int)) 100000) (
    (f10 (())).bind fun v15 =>
    some v15) (
    (f17 (x0, x1, ())).bind fun v18 =>
    (f13 (())).bind fun v19 =>
    (f18 ((v19.1, v19.2.1, ()), x0, x1, ())).bind fun v22 =>
    some (leq v18 v22)))
def w01_DigestTags (x : (List Int × List Int × Unit)) : Option Bool := w01_DigestTags.b w01_awake r01_Make digest_Tag r01_Tag x
/-- muniment/munimentlaw01.DigestKeys -/
def w01_DigestKeys.s0b (kx : (List Int × (List Int × Unit) × List Int × Unit) → Option Bool) : (List Int × Int × (List Int × Unit) × List Int × Int × Unit) → ((List Int × Int × (List Int × Unit) × List Int × Int × Unit) → Option Bool) → Option Bool
  | (t1, t2, t7, t9, t10, _), κ =>
    cond (ilt t10 (IntKind.wrap .i64 t2)) (
    cond (ilt (t9.length : Int) 64) (
    chk (fits 1 (t9.length + 1)) <|
    κ (t1, t2, (t7.1, ()), (t9 ++ [0]), (iadd .i64 t10 1), ())) (
    kx (t1, (t7.1, ()), t9, ()))) (
    kx (t1, (t7.1, ()), t9, ()))
def w01_DigestKeys.s0 (kx : (List Int × (List Int × Unit) × List Int × Unit) → Option Bool) : (List Int × Int × (List Int × Unit) × List Int × Int × Unit) → ((List Int × Int × (List Int × Unit) × List Int × Int × Unit) → Option Bool) → Option Bool := w01_DigestKeys.s0b kx
def w01_DigestKeys.n0 : (List Int × Int × (List Int × Unit) × List Int × Int × Unit) → Nat
  | (t1, t2, t7, t9, t10, _) => t1.length + t2.toNat + t9.length + t10.toNat + 1048576
def w01_DigestKeys.l0 (x : List Int × Int × (List Int × Unit) × List Int × Int × Unit) (kx : (List Int × (List Int × Unit) × List Int × Unit) → Option Bool) : Option Bool := loopN (w01_DigestKeys.n0 x) (w01_DigestKeys.s0 kx) x
def w01_DigestKeys.b (f10 : Unit → Option Bool) (f11 : (List Int × Unit) → Option (List Int)) (f17 : (List Int × List Int × Unit) → Option (List Int)) (l0 : (List Int × Int × (List Int × Unit) × List Int × Int × Unit) → ((List Int × (List Int × Unit) × List Int × Unit) → Option Bool) → Option Bool) : (List Int × List Int × Int × Unit) → Option Bool
  | (x0, x1, x2, _) =>
    (f10 (())).bind fun v11 =>
    cond (!v11) (
    (f10 (())).bind fun v21 =>
    some v21) (
    cond (igt (iadd .i64 (x0.length : Int) (x1.length : Int)) 5000) (
    (f10 (())).bind fun v21 =>
    some v21) (
    (f17 (x0, x1, ())).bind fun v24 =>
    cond (igt (x0.length : Int) 64) (
    (f11 (x0, ())).bind fun v29 =>
    (f17 (v29, x1, ())).bind fun v32 =>
    some (leq v32 v24)) (
    chk (fits 1 (0 + x0.length)) <|
    l0 (x1, x2, (v24, ()), x0, 0, ()) fun (t1, t7, t9, _) =>
    (f17 (t9, t1, ())).bind fun v54 =>
    some (leq v54 t7.1))))
def w01_DigestKeys (x : (List Int × List Int × Int × Unit)) : Option Bool := w01_DigestKeys.b w01_awake digest_Sum digest_Tag w01_DigestKeys.l0 x
/-- muniment/digest.Stretch -/
def digest_Stretch.s2b (kx : (List Int × (List Int × Unit) × (List Int × Unit) × (List Int × Unit) × Int × Int × Unit) → Option (List Int × Int × Unit)) : (List Int × (List Int × Unit) × (List Int × Unit) × (List Int × Unit) × Int × Int × Int × Unit) → ((List Int × (List Int × Unit) × (List Int × Unit) × (List Int × Unit) × Int × Int × Int × Unit) → Option (List Int × Int × Unit)) → Option (List Int × Int × Unit)
  | (t0, t6, t8, t9, t26, t27, t32, _), κ =>
    cond (ilt t32 32) (
    chk (inB t32 32) <|
    chk (inB t32 32) <|
    chk (inB t32 32) <|
    κ (t0, (t6.1, ()), (t8.1, ()), ((t9.1.set t32.toNat (ixor .u8 (t9.1.getD t32.toNat (0 : Int)) (t8.1.getD t32.toNat (0 : Int)))), ()), t26, t27, (iadd .i64 t32 1), ())) (
    kx (t0, (t6.1, ()), (t8.1, ()), (t9.1, ()), t26, t27, ()))
def digest_Stretch.s2 (kx : (List Int × (List Int × Unit) × (List Int × Unit) × (List Int × Unit) × Int × Int × Unit) → Option (List Int × Int × Unit)) : (List Int × (List Int × Unit) × (List Int × Unit) × (List Int × Unit) × Int × Int × Int × Unit) → ((List Int × (List Int × Unit) × (List Int × Unit) × (List Int × Unit) × Int × Int × Int × Unit) → Option (List Int × Int × Unit)) → Option (List Int × Int × Unit) := digest_Stretch.s2b kx
def digest_Stretch.n2 : (List Int × (List Int × Unit) × (List Int × Unit) × (List Int × Unit) × Int × Int × Int × Unit) → Nat
  | (t0, t6, t8, t9, t26, t27, t32, _) => t0.length + t26.toNat + t27.toNat + t32.toNat + 1048576
def digest_Stretch.l2 (x : List Int × (List Int × Unit) × (List Int × Unit) × (List Int × Unit) × Int × Int × Int × Unit) (kx : (List Int × (List Int × Unit) × (List Int × Unit) × (List Int × Unit) × Int × Int × Unit) → Option (List Int × Int × Unit)) : Option (List Int × Int × Unit) := loopN (digest_Stretch.n2 x) (digest_Stretch.s2 kx) x
def digest_Stretch.s0b (f17 : (List Int × List Int × Unit) → Option (List Int)) (l2 : (List Int × (List Int × Unit) × (List Int × Unit) × (List Int × Unit) × Int × Int × Int × Unit) → ((List Int × (List Int × Unit) × (List Int × Unit) × (List Int × Unit) × Int × Int × Unit) → Option (List Int × Int × Unit)) → Option (List Int × Int × Unit)) (kx : ((List Int × Unit) × (List Int × Unit) × Unit) → Option (List Int × Int × Unit)) : (List Int × (List Int × Unit) × (List Int × Unit) × (List Int × Unit) × Int × Int × Unit) → ((List Int × (List Int × Unit) × (List Int × Unit) × (List Int × Unit) × Int × Int × Unit) → Option (List Int × Int × Unit)) → Option (List Int × Int × Unit)
  | (t0, t6, t8, t9, t26, t27, _), κ =>
    cond (ilt t27 t26) (
    (f17 (t0, t8.1, ())).bind fun v31 =>
    l2 (t0, (t6.1, ()), (v31, ()), (t9.1, ()), t26, t27, 0, ()) fun (t0, t6, t8, t9, t26, t27, _) =>
    κ (t0, (t6.1, ()), (t8.1, ()), (t9.1, ()), t26, (iadd .i64 t27 1), ())) (
    kx ((t6.1, ()), (t9.1, ()), ()))
def digest_Stretch.s0 (kx : ((List Int × Unit) × (List Int × Unit) × Unit) → Option (List Int × Int × Unit)) : (List Int × (List Int × Unit) × (List Int × Unit) × (List Int × Unit) × Int × Int × Unit) → ((List Int × (List Int × Unit) × (List Int × Unit) × (List Int × Unit) × Int × Int × Unit) → Option (List Int × Int × Unit)) → Option (List Int × Int × Unit) := digest_Stretch.s0b digest_Tag digest_Stretch.l2 kx
def digest_Stretch.n0 : (List Int × (List Int × Unit) × (List Int × Unit) × (List Int × Unit) × Int × Int × Unit) → Nat
  | (t0, t6, t8, t9, t26, t27, _) => t0.length + t26.toNat + t27.toNat + 1048576
def digest_Stretch.l0 (x : List Int × (List Int × Unit) × (List Int × Unit) × (List Int × Unit) × Int × Int × Unit) (kx : ((List Int × Unit) × (List Int × Unit) × Unit) → Option (List Int × Int × Unit)) : Option (List Int × Int × Unit) := loopN (digest_Stretch.n0 x) (digest_Stretch.s0 kx) x
def digest_Stretch.b (f17 : (List Int × List Int × Unit) → Option (List Int)) (l0 : (List Int × (List Int × Unit) × (List Int × Unit) × (List Int × Unit) × Int × Int × Unit) → (((List Int × Unit) × (List Int × Unit) × Unit) → Option (List Int × Int × Unit)) → Option (List Int × Int × Unit)) : (List Int × List Int × Int × Unit) → Option (List Int × Int × Unit)
  | (x0, x1, x2, _) =>
    cond (ilt x2 1) (
    some ((List.replicate 32 (0 : Int)), 1, ())) (
    cond (igt x2 64) (
    some ((List.replicate 32 (0 : Int)), 1, ())) (
    chk (fits 1 (0 + x1.length)) <|
    chk (fits 1 (x1.length + 4)) <|
    (f17 (x0, (x1 ++ [0, 0, 0, 1]), ())).bind fun v23 =>
    l0 (x0, ((List.replicate 32 (0 : Int)), ()), (v23, ()), (v23, ()), (isub .i64 x2 1), 0, ()) fun (t6, t9, _) =>
    some (t9.1, 0, ())))
def digest_Stretch (x : (List Int × List Int × Int × Unit)) : Option (List Int × Int × Unit) := digest_Stretch.b digest_Tag digest_Stretch.l0 x
/-- muniment/munimentref01.Stretch -/
def r01_Stretch.s2b (kx : (List Int × Int × (List Int × List Int × Unit) × (List Int × Unit) × (List Int × Unit) × (List Int × Unit) × Int × Unit) → Option (List Int)) : (List Int × Int × (List Int × List Int × Unit) × (List Int × Unit) × (List Int × Unit) × (List Int × Unit) × Int × Int × Unit) → ((List Int × Int × (List Int × List Int × Unit) × (List Int × Unit) × (List Int × Unit) × (List Int × Unit) × Int × Int × Unit) → Option (List Int)) → Option (List Int)
  | (t1, t3, t4, t8, t10, t11, t12, t13, _), κ =>
    cond (ilt t13 32) (
    chk (inB t13 32) <|
    chk (inB t13 32) <|
    chk (inB t13 32) <|
    κ (t1, t3, (t4.1, t4.2.1, ()), (t8.1, ()), (t10.1, ()), ((t11.1.set t13.toNat (ixor .u8 (t11.1.getD t13.toNat (0 : Int)) (t10.1.getD t13.toNat (0 : Int)))), ()), t12, (iadd .i64 t13 1), ())) (
    kx (t1, t3, (t4.1, t4.2.1, ()), (t8.1, ()), (t10.1, ()), (t11.1, ()), t12, ()))
def r01_Stretch.s2 (kx : (List Int × Int × (List Int × List Int × Unit) × (List Int × Unit) × (List Int × Unit) × (List Int × Unit) × Int × Unit) → Option (List Int)) : (List Int × Int × (List Int × List Int × Unit) × (List Int × Unit) × (List Int × Unit) × (List Int × Unit) × Int × Int × Unit) → ((List Int × Int × (List Int × List Int × Unit) × (List Int × Unit) × (List Int × Unit) × (List Int × Unit) × Int × Int × Unit) → Option (List Int)) → Option (List Int) := r01_Stretch.s2b kx
def r01_Stretch.n2 : (List Int × Int × (List Int × List Int × Unit) × (List Int × Unit) × (List Int × Unit) × (List Int × Unit) × Int × Int × Unit) → Nat
  | (t1, t3, t4, t8, t10, t11, t12, t13, _) => t1.length + t3.toNat + t12.toNat + t13.toNat + 1048576
def r01_Stretch.l2 (x : List Int × Int × (List Int × List Int × Unit) × (List Int × Unit) × (List Int × Unit) × (List Int × Unit) × Int × Int × Unit) (kx : (List Int × Int × (List Int × List Int × Unit) × (List Int × Unit) × (List Int × Unit) × (List Int × Unit) × Int × Unit) → Option (List Int)) : Option (List Int) := loopN (r01_Stretch.n2 x) (r01_Stretch.s2 kx) x
def r01_Stretch.s0b (f18 : ((List Int × List Int × Unit) × List Int × List Int × Unit) → Option (List Int)) (l2 : (List Int × Int × (List Int × List Int × Unit) × (List Int × Unit) × (List Int × Unit) × (List Int × Unit) × Int × Int × Unit) → ((List Int × Int × (List Int × List Int × Unit) × (List Int × Unit) × (List Int × Unit) × (List Int × Unit) × Int × Unit) → Option (List Int)) → Option (List Int)) (kx : ((List Int × Unit) × (List Int × Unit) × Unit) → Option (List Int)) : (List Int × Int × (List Int × List Int × Unit) × (List Int × Unit) × (List Int × Unit) × (List Int × Unit) × Int × Unit) → ((List Int × Int × (List Int × List Int × Unit) × (List Int × Unit) × (List Int × Unit) × (List Int × Unit) × Int × Unit) → Option (List Int)) → Option (List Int)
  | (t1, t3, t4, t8, t10, t11, t12, _), κ =>
    cond (ilt t12 t3) (
    (f18 ((t4.1, t4.2.1, ()), t1, t10.1, ())).bind fun v33 =>
    l2 (t1, t3, (t4.1, t4.2.1, ()), (t8.1, ()), (v33, ()), (t11.1, ()), t12, 0, ()) fun (t1, t3, t4, t8, t10, t11, t12, _) =>
    κ (t1, t3, (t4.1, t4.2.1, ()), (t8.1, ()), (t10.1, ()), (t11.1, ()), (iadd .i64 t12 1), ())) (
    kx ((t8.1, ()), (t11.1, ()), ()))
def r01_Stretch.s0 (kx : ((List Int × Unit) × (List Int × Unit) × Unit) → Option (List Int)) : (List Int × Int × (List Int × List Int × Unit) × (List Int × Unit) × (List Int × Unit) × (List Int × Unit) × Int × Unit) → ((List Int × Int × (List Int × List Int × Unit) × (List Int × Unit) × (List Int × Unit) × (List Int × Unit) × Int × Unit) → Option (List Int)) → Option (List Int) := r01_Stretch.s0b r01_Tag r01_Stretch.l2 kx
def r01_Stretch.n0 : (List Int × Int × (List Int × List Int × Unit) × (List Int × Unit) × (List Int × Unit) × (List Int × Unit) × Int × Unit) → Nat
  | (t1, t3, t4, t8, t10, t11, t12, _) => t1.length + t3.toNat + t12.toNat + 1048576
def r01_Stretch.l0 (x : List Int × Int × (List Int × List Int × Unit) × (List Int × Unit) × (List Int × Unit) × (List Int × Unit) × Int × Unit) (kx : ((List Int × Unit) × (List Int × Unit) × Unit) → Option (List Int)) : Option (List Int) := loopN (r01_Stretch.n0 x) (r01_Stretch.s0 kx) x
def r01_Stretch.b (f18 : ((List Int × List Int × Unit) × List Int × List Int × Unit) → Option (List Int)) (l0 : (List Int × Int × (List Int × List Int × Unit) × (List Int × Unit) × (List Int × Unit) × (List Int × Unit) × Int × Unit) → (((List Int × Unit) × (List Int × Unit) × Unit) → Option (List Int)) → Option (List Int)) : ((List Int × List Int × Unit) × List Int × List Int × Int × Unit) → Option (List Int)
  | (x0, x1, x2, x3, _) =>
    chk (fits 1 (0 + x2.length)) <|
    chk (fits 1 (x2.length + 4)) <|
    (f18 ((x0.1, x0.2.1, ()), x1, (x2 ++ [0, 0, 0, 1]), ())).bind fun v23 =>
    l0 (x1, x3, (x0.1, x0.2.1, ()), ((List.replicate 32 (0 : Int)), ()), (v23, ()), (v23, ()), 1, ()) fun (t8, t11, _) =>
    some t11.1
def r01_Stretch (x : ((List Int × List Int × Unit) × List Int × List Int × Int × Unit)) : Option (List Int) := r01_Stretch.b r01_Tag r01_Stretch.l0 x
/-- muniment/munimentlaw01.DigestStretches -/
def w01_DigestStretches.b (f10 : Unit → Option Bool) (f13 : Unit → Option (List Int × List Int × Unit)) (f19 : (List Int × List Int × Int × Unit) → Option (List Int × Int × Unit)) (f20 : ((List Int × List Int × Unit) × List Int × List Int × Int × Unit) → Option (List Int)) : (List Int × List Int × Int × Unit) → Option Bool
  | (x0, x1, x2, _) =>
    (f10 (())).bind fun v9 =>
    cond (!v9) (
    (f10 (())).bind fun v21 =>
    cond v21 (
    some true) (
    some false)) (
    cond (igt (iadd .i64 (x0.length : Int) (x1.length : Int)) 2000) (
    (f10 (())).bind fun v21 =>
    cond v21 (
    some true) (
    some false)) (
    (f19 (x0, x1, x2, ())).bind fun v28 =>
    cond (ilt x2 1) (
    cond (ieq v28.2.1 1) (
    some (leq v28.1 (List.replicate 32 (0 : Int)))) (
    some false)) (
    cond (igt x2 64) (
    cond (ieq v28.2.1 1) (
    some (leq v28.1 (List.replicate 32 (0 : Int)))) (
    some false)) (
    cond (ieq v28.2.1 0) (
    (f13 (())).bind fun v48 =>
    (f20 ((v48.1, v48.2.1, ()), x0, x1, x2, ())).bind fun v52 =>
    some (leq v28.1 v52)) (
    some false)))))
def w01_DigestStretches (x : (List Int × List Int × Int × Unit)) : Option Bool := w01_DigestStretches.b w01_awake r01_Make digest_Stretch r01_Stretch x
/-- muniment/munimentlaw01.DigestFirst -/
def w01_DigestFirst.s2b (kx : (List Int × List Int × Int × (List Int × Unit) × (List Int × Unit) × Int × Unit) → Option Bool) : (List Int × List Int × Int × (List Int × Unit) × (List Int × Unit) × Int × Int × Unit) → ((List Int × List Int × Int × (List Int × Unit) × (List Int × Unit) × Int × Int × Unit) → Option Bool) → Option Bool
  | (t0, t1, t2, t8, t9, t10, t13, _), κ =>
    cond (ilt t13 32) (
    chk (inB t13 32) <|
    chk (inB t13 32) <|
    chk (inB t13 32) <|
    κ (t0, t1, t2, (t8.1, ()), ((t9.1.set t13.toNat (ixor .u8 (t9.1.getD t13.toNat (0 : Int)) (t8.1.getD t13.toNat (0 : Int)))), ()), t10, (iadd .i64 t13 1), ())) (
    kx (t0, t1, t2, (t8.1, ()), (t9.1, ()), t10, ()))
def w01_DigestFirst.s2 (kx : (List Int × List Int × Int × (List Int × Unit) × (List Int × Unit) × Int × Unit) → Option Bool) : (List Int × List Int × Int × (List Int × Unit) × (List Int × Unit) × Int × Int × Unit) → ((List Int × List Int × Int × (List Int × Unit) × (List Int × Unit) × Int × Int × Unit) → Option Bool) → Option Bool := w01_DigestFirst.s2b kx
def w01_DigestFirst.n2 : (List Int × List Int × Int × (List Int × Unit) × (List Int × Unit) × Int × Int × Unit) → Nat
  | (t0, t1, t2, t8, t9, t10, t13, _) => t0.length + t1.length + t2.toNat + t10.toNat + t13.toNat + 1048576
def w01_DigestFirst.l2 (x : List Int × List Int × Int × (List Int × Unit) × (List Int × Unit) × Int × Int × Unit) (kx : (List Int × List Int × Int × (List Int × Unit) × (List Int × Unit) × Int × Unit) → Option Bool) : Option Bool := loopN (w01_DigestFirst.n2 x) (w01_DigestFirst.s2 kx) x
def w01_DigestFirst.s0b (f17 : (List Int × List Int × Unit) → Option (List Int)) (f19 : (List Int × List Int × Int × Unit) → Option (List Int × Int × Unit)) (l2 : (List Int × List Int × Int × (List Int × Unit) × (List Int × Unit) × Int × Int × Unit) → ((List Int × List Int × Int × (List Int × Unit) × (List Int × Unit) × Int × Unit) → Option Bool) → Option Bool) (kx : Unit → Option Bool) : (List Int × List Int × Int × (List Int × Unit) × (List Int × Unit) × Int × Unit) → ((List Int × List Int × Int × (List Int × Unit) × (List Int × Unit) × Int × Unit) → Option Bool) → Option Bool
  | (t0, t1, t2, t8, t9, t10, _), κ =>
    cond (ile t10 (iadd .i64 1 (irem .i64 (IntKind.wrap .i64 t2) 8))) (
    (f19 (t0, t1, t10, ())).bind fun v47 =>
    cond (ine v47.2.1 0) (
    some false) (
    cond (!(leq v47.1 t9.1)) (
    some false) (
    (f17 (t0, t8.1, ())).bind fun v59 =>
    l2 (t0, t1, t2, (v59, ()), (t9.1, ()), t10, 0, ()) fun (t0, t1, t2, t8, t9, t10, _) =>
    κ (t0, t1, t2, (t8.1, ()), (t9.1, ()), (iadd .i64 t10 1), ())))) (
    kx (()))
def w01_DigestFirst.s0 (kx : Unit → Option Bool) : (List Int × List Int × Int × (List Int × Unit) × (List Int × Unit) × Int × Unit) → ((List Int × List Int × Int × (List Int × Unit) × (List Int × Unit) × Int × Unit) → Option Bool) → Option Bool := w01_DigestFirst.s0b digest_Tag digest_Stretch w01_DigestFirst.l2 kx
def w01_DigestFirst.n0 : (List Int × List Int × Int × (List Int × Unit) × (List Int × Unit) × Int × Unit) → Nat
  | (t0, t1, t2, t8, t9, t10, _) => t0.length + t1.length + t2.toNat + t10.toNat + 1048576
def w01_DigestFirst.l0 (x : List Int × List Int × Int × (List Int × Unit) × (List Int × Unit) × Int × Unit) (kx : Unit → Option Bool) : Option Bool := loopN (w01_DigestFirst.n0 x) (w01_DigestFirst.s0 kx) x
def w01_DigestFirst.b (f10 : Unit → Option Bool) (f17 : (List Int × List Int × Unit) → Option (List Int)) (l0 : (List Int × List Int × Int × (List Int × Unit) × (List Int × Unit) × Int × Unit) → (Unit → Option Bool) → Option Bool) : (List Int × List Int × Int × Unit) → Option Bool
  | (x0, x1, x2, _) =>
    (f10 (())).bind fun v14 =>
    cond (!v14) (
    (f10 (())).bind fun v24 =>
    some v24) (
    cond (igt (iadd .i64 (x0.length : Int) (x1.length : Int)) 2000) (
    (f10 (())).bind fun v24 =>
    some v24) (
    chk (fits 1 (0 + x1.length)) <|
    chk (fits 1 (x1.length + 4)) <|
    (f17 (x0, (x1 ++ [0, 0, 0, 1]), ())).bind fun v33 =>
    l0 (x0, x1, x2, (v33, ()), (v33, ()), 1, ()) fun (_) =>
    some true))
def w01_DigestFirst (x : (List Int × List Int × Int × Unit)) : Option Bool := w01_DigestFirst.b w01_awake digest_Tag w01_DigestFirst.l0 x
/-- muniment/munimentlaw01.DigestKeeps -/
def w01_DigestKeeps.s0b (kx : (List Int × List Int × Unit) → Option Bool) : (List Int × List Int × List Int × List Int × Int × Unit) → ((List Int × List Int × List Int × List Int × Int × Unit) → Option Bool) → Option Bool
  | (t0, t1, t5, t6, t7, _), κ =>
    cond (ilt t7 (iadd .i64 (t0.length : Int) 40)) (
    chk (inB t7 t5.length) <|
    cond (ine (t5.getD t7.toNat (0 : Int)) 0) (
    some false) (
    κ (t0, t1, t5, t6, (iadd .i64 t7 1), ()))) (
    kx (t1, t6, ()))
def w01_DigestKeeps.s0 (kx : (List Int × List Int × Unit) → Option Bool) : (List Int × List Int × List Int × List Int × Int × Unit) → ((List Int × List Int × List Int × List Int × Int × Unit) → Option Bool) → Option Bool := w01_DigestKeeps.s0b kx
def w01_DigestKeeps.n0 : (List Int × List Int × List Int × List Int × Int × Unit) → Nat
  | (t0, t1, t5, t6, t7, _) => t0.length + t1.length + t5.length + t6.length + t7.toNat + 1048576
def w01_DigestKeeps.l0 (x : List Int × List Int × List Int × List Int × Int × Unit) (kx : (List Int × List Int × Unit) → Option Bool) : Option Bool := loopN (w01_DigestKeeps.n0 x) (w01_DigestKeeps.s0 kx) x
def w01_DigestKeeps.s2b (kx : Unit → Option Bool) : (List Int × List Int × Int × Unit) → ((List Int × List Int × Int × Unit) → Option Bool) → Option Bool
  | (t1, t6, t8, _), κ =>
    cond (ilt t8 (iadd .i64 (t1.length : Int) 40)) (
    chk (inB t8 t6.length) <|
    cond (ine (t6.getD t8.toNat (0 : Int)) 0) (
    some false) (
    κ (t1, t6, (iadd .i64 t8 1), ()))) (
    kx (()))
def w01_DigestKeeps.s2 (kx : Unit → Option Bool) : (List Int × List Int × Int × Unit) → ((List Int × List Int × Int × Unit) → Option Bool) → Option Bool := w01_DigestKeeps.s2b kx
def w01_DigestKeeps.n2 : (List Int × List Int × Int × Unit) → Nat
  | (t1, t6, t8, _) => t1.length + t6.length + t8.toNat + 1048576
def w01_DigestKeeps.l2 (x : List Int × List Int × Int × Unit) (kx : Unit → Option Bool) : Option Bool := loopN (w01_DigestKeeps.n2 x) (w01_DigestKeeps.s2 kx) x
def w01_DigestKeeps.b (f10 : Unit → Option Bool) (f11 : (List Int × Unit) → Option (List Int)) (f14 : (List Int × Unit) → Option ByteArray) (f17 : (List Int × List Int × Unit) → Option (List Int)) (f19 : (List Int × List Int × Int × Unit) → Option (List Int × Int × Unit)) (l0 : (List Int × List Int × List Int × List Int × Int × Unit) → ((List Int × List Int × Unit) → Option Bool) → Option Bool) (l2 : (List Int × List Int × Int × Unit) → (Unit → Option Bool) → Option Bool) : (List Int × List Int × Unit) → Option Bool
  | (x0, x1, _) =>
    (f10 (())).bind fun v9 =>
    cond (!v9) (
    (f10 (())).bind fun v19 =>
    some v19) (
    cond (igt (iadd .i64 (x0.length : Int) (x1.length : Int)) 3000) (
    (f10 (())).bind fun v19 =>
    some v19) (
    cond (leB (iadd .i64 (x0.length : Int) 40) (x0.length : Int)) (
    chk (leB 0 (x0.length : Int) && (leB (x0.length : Int) (iadd .i64 (x0.length : Int) 40) && (leB (iadd .i64 (x0.length : Int) 40) (x0.length : Int) && decide ((x0.length : Int).toNat * 1 < 140737488355328)))) <|
    cond (leB (iadd .i64 (x1.length : Int) 40) (x1.length : Int)) (
    chk (leB 0 (x1.length : Int) && (leB (x1.length : Int) (iadd .i64 (x1.length : Int) 40) && (leB (iadd .i64 (x1.length : Int) 40) (x1.length : Int) && decide ((x1.length : Int).toNat * 1 < 140737488355328)))) <|
    (f11 ((copied (List.replicate (x1.length : Int).toNat (0 : Int)) 0 (min x1.length (List.replicate (x1.length : Int).toNat (0 : Int)).length) x1), ())).bind fun v39 =>
    (f17 ((copied (List.replicate (x0.length : Int).toNat (0 : Int)) 0 (min x0.length (List.replicate (x0.length : Int).toNat (0 : Int)).length) x0), (copied (List.replicate (x1.length : Int).toNat (0 : Int)) 0 (min x1.length (List.replicate (x1.length : Int).toNat (0 : Int)).length) x1), ())).bind fun v42 =>
    (f19 ((copied (List.replicate (x0.length : Int).toNat (0 : Int)) 0 (min x0.length (List.replicate (x0.length : Int).toNat (0 : Int)).length) x0), (copied (List.replicate (x1.length : Int).toNat (0 : Int)) 0 (min x1.length (List.replicate (x1.length : Int).toNat (0 : Int)).length) x1), 2, ())).bind fun v45 =>
    (f14 ((copied (List.replicate (x1.length : Int).toNat (0 : Int)) 0 (min x1.length (List.replicate (x1.length : Int).toNat (0 : Int)).length) x1), ())).bind fun v47 =>
    cond (sne (strOf (copied (List.replicate (x0.length : Int).toNat (0 : Int)) 0 (min x0.length (List.replicate (x0.length : Int).toNat (0 : Int)).length) x0)) (strOf x0)) (
    some false) (
    cond (sne (strOf (copied (List.replicate (x1.length : Int).toNat (0 : Int)) 0 (min x1.length (List.replicate (x1.length : Int).toNat (0 : Int)).length) x1)) (strOf x1)) (
    some false) (
    chk (leB 0 0 && (leB 0 (iadd .i64 (x0.length : Int) 40) && leB (iadd .i64 (x0.length : Int) 40) ((copied (List.replicate (x0.length : Int).toNat (0 : Int)) 0 (min x0.length (List.replicate (x0.length : Int).toNat (0 : Int)).length) x0).length))) <|
    chk (leB 0 0 && (leB 0 (iadd .i64 (x1.length : Int) 40) && leB (iadd .i64 (x1.length : Int) 40) ((copied (List.replicate (x1.length : Int).toNat (0 : Int)) 0 (min x1.length (List.replicate (x1.length : Int).toNat (0 : Int)).length) x1).length))) <|
    l0 (x0, x1, (((copied (List.replicate (x0.length : Int).toNat (0 : Int)) 0 (min x0.length (List.replicate (x0.length : Int).toNat (0 : Int)).length) x0).drop 0).take ((((iadd .i64 (x0.length : Int) 40) : Int) - 0).toNat)), (((copied (List.replicate (x1.length : Int).toNat (0 : Int)) 0 (min x1.length (List.replicate (x1.length : Int).toNat (0 : Int)).length) x1).drop 0).take ((((iadd .i64 (x1.length : Int) 40) : Int) - 0).toNat)), (x0.length : Int), ()) fun (t1, t6, _) =>
    l2 (t1, t6, (t1.length : Int), ()) fun (_) =>
    some true))) (
    chk (leB 0 (x1.length : Int) && decide ((iadd .i64 (x1.length : Int) 40).toNat * 1 < 140737488355328)) <|
    (f11 (((copied (List.replicate (iadd .i64 (x1.length : Int) 40).toNat (0 : Int)) 0 (min x1.length ((x1.length : Int).toNat)) x1).take ((x1.length : Int).toNat)), ())).bind fun v39 =>
    (f17 ((copied (List.replicate (x0.length : Int).toNat (0 : Int)) 0 (min x0.length (List.replicate (x0.length : Int).toNat (0 : Int)).length) x0), ((copied (List.replicate (iadd .i64 (x1.length : Int) 40).toNat (0 : Int)) 0 (min x1.length ((x1.length : Int).toNat)) x1).take ((x1.length : Int).toNat)), ())).bind fun v42 =>
    (f19 ((copied (List.replicate (x0.length : Int).toNat (0 : Int)) 0 (min x0.length (List.replicate (x0.length : Int).toNat (0 : Int)).length) x0), ((copied (List.replicate (iadd .i64 (x1.length : Int) 40).toNat (0 : Int)) 0 (min x1.length ((x1.length : Int).toNat)) x1).take ((x1.length : Int).toNat)), 2, ())).bind fun v45 =>
    (f14 (((copied (List.replicate (iadd .i64 (x1.length : Int) 40).toNat (0 : Int)) 0 (min x1.length ((x1.length : Int).toNat)) x1).take ((x1.length : Int).toNat)), ())).bind fun v47 =>
    cond (sne (strOf (copied (List.replicate (x0.length : Int).toNat (0 : Int)) 0 (min x0.length (List.replicate (x0.length : Int).toNat (0 : Int)).length) x0)) (strOf x0)) (
    some false) (
    cond (sne (strOf ((copied (List.replicate (iadd .i64 (x1.length : Int) 40).toNat (0 : Int)) 0 (min x1.length ((x1.length : Int).toNat)) x1).take ((x1.length : Int).toNat))) (strOf x1)) (
    some false) (
    chk (leB 0 0 && (leB 0 (iadd .i64 (x0.length : Int) 40) && leB (iadd .i64 (x0.length : Int) 40) ((copied (List.replicate (x0.length : Int).toNat (0 : Int)) 0 (min x0.length (List.replicate (x0.length : Int).toNat (0 : Int)).length) x0).length))) <|
    chk (leB 0 0 && (leB 0 (iadd .i64 (x1.length : Int) 40) && leB (iadd .i64 (x1.length : Int) 40) ((copied (List.replicate (iadd .i64 (x1.length : Int) 40).toNat (0 : Int)) 0 (min x1.length ((x1.length : Int).toNat)) x1).length))) <|
    l0 (x0, x1, (((copied (List.replicate (x0.length : Int).toNat (0 : Int)) 0 (min x0.length (List.replicate (x0.length : Int).toNat (0 : Int)).length) x0).drop 0).take ((((iadd .i64 (x0.length : Int) 40) : Int) - 0).toNat)), (((copied (List.replicate (iadd .i64 (x1.length : Int) 40).toNat (0 : Int)) 0 (min x1.length ((x1.length : Int).toNat)) x1).drop 0).take ((((iadd .i64 (x1.length : Int) 40) : Int) - 0).toNat)), (x0.length : Int), ()) fun (t1, t6, _) =>
    l2 (t1, t6, (t1.length : Int), ()) fun (_) =>
    some true)))) (
    chk (leB 0 (x0.length : Int) && decide ((iadd .i64 (x0.length : Int) 40).toNat * 1 < 140737488355328)) <|
    cond (leB (iadd .i64 (x1.length : Int) 40) (x1.length : Int)) (
    chk (leB 0 (x1.length : Int) && (leB (x1.length : Int) (iadd .i64 (x1.length : Int) 40) && (leB (iadd .i64 (x1.length : Int) 40) (x1.length : Int) && decide ((x1.length : Int).toNat * 1 < 140737488355328)))) <|
    (f11 ((copied (List.replicate (x1.length : Int).toNat (0 : Int)) 0 (min x1.length (List.replicate (x1.length : Int).toNat (0 : Int)).length) x1), ())).bind fun v39 =>
    (f17 (((copied (List.replicate (iadd .i64 (x0.length : Int) 40).toNat (0 : Int)) 0 (min x0.length ((x0.length : Int).toNat)) x0).take ((x0.length : Int).toNat)), (copied (List.replicate (x1.length : Int).toNat (0 : Int)) 0 (min x1.length (List.replicate (x1.length : Int).toNat (0 : Int)).length) x1), ())).bind fun v42 =>
    (f19 (((copied (List.replicate (iadd .i64 (x0.length : Int) 40).toNat (0 : Int)) 0 (min x0.length ((x0.length : Int).toNat)) x0).take ((x0.length : Int).toNat)), (copied (List.replicate (x1.length : Int).toNat (0 : Int)) 0 (min x1.length (List.replicate (x1.length : Int).toNat (0 : Int)).length) x1), 2, ())).bind fun v45 =>
    (f14 ((copied (List.replicate (x1.length : Int).toNat (0 : Int)) 0 (min x1.length (List.replicate (x1.length : Int).toNat (0 : Int)).length) x1), ())).bind fun v47 =>
    cond (sne (strOf ((copied (List.replicate (iadd .i64 (x0.length : Int) 40).toNat (0 : Int)) 0 (min x0.length ((x0.length : Int).toNat)) x0).take ((x0.length : Int).toNat))) (strOf x0)) (
    some false) (
    cond (sne (strOf (copied (List.replicate (x1.length : Int).toNat (0 : Int)) 0 (min x1.length (List.replicate (x1.length : Int).toNat (0 : Int)).length) x1)) (strOf x1)) (
    some false) (
    chk (leB 0 0 && (leB 0 (iadd .i64 (x0.length : Int) 40) && leB (iadd .i64 (x0.length : Int) 40) ((copied (List.replicate (iadd .i64 (x0.length : Int) 40).toNat (0 : Int)) 0 (min x0.length ((x0.length : Int).toNat)) x0).length))) <|
    chk (leB 0 0 && (leB 0 (iadd .i64 (x1.length : Int) 40) && leB (iadd .i64 (x1.length : Int) 40) ((copied (List.replicate (x1.length : Int).toNat (0 : Int)) 0 (min x1.length (List.replicate (x1.length : Int).toNat (0 : Int)).length) x1).length))) <|
    l0 (x0, x1, (((copied (List.replicate (iadd .i64 (x0.length : Int) 40).toNat (0 : Int)) 0 (min x0.length ((x0.length : Int).toNat)) x0).drop 0).take ((((iadd .i64 (x0.length : Int) 40) : Int) - 0).toNat)), (((copied (List.replicate (x1.length : Int).toNat (0 : Int)) 0 (min x1.length (List.replicate (x1.length : Int).toNat (0 : Int)).length) x1).drop 0).take ((((iadd .i64 (x1.length : Int) 40) : Int) - 0).toNat)), (x0.length : Int), ()) fun (t1, t6, _) =>
    l2 (t1, t6, (t1.length : Int), ()) fun (_) =>
    some true))) (
    chk (leB 0 (x1.length : Int) && decide ((iadd .i64 (x1.length : Int) 40).toNat * 1 < 140737488355328)) <|
    (f11 (((copied (List.replicate (iadd .i64 (x1.length : Int) 40).toNat (0 : Int)) 0 (min x1.length ((x1.length : Int).toNat)) x1).take ((x1.length : Int).toNat)), ())).bind fun v39 =>
    (f17 (((copied (List.replicate (iadd .i64 (x0.length : Int) 40).toNat (0 : Int)) 0 (min x0.length ((x0.length : Int).toNat)) x0).take ((x0.length : Int).toNat)), ((copied (List.replicate (iadd .i64 (x1.length : Int) 40).toNat (0 : Int)) 0 (min x1.length ((x1.length : Int).toNat)) x1).take ((x1.length : Int).toNat)), ())).bind fun v42 =>
    (f19 (((copied (List.replicate (iadd .i64 (x0.length : Int) 40).toNat (0 : Int)) 0 (min x0.length ((x0.length : Int).toNat)) x0).take ((x0.length : Int).toNat)), ((copied (List.replicate (iadd .i64 (x1.length : Int) 40).toNat (0 : Int)) 0 (min x1.length ((x1.length : Int).toNat)) x1).take ((x1.length : Int).toNat)), 2, ())).bind fun v45 =>
    (f14 (((copied (List.replicate (iadd .i64 (x1.length : Int) 40).toNat (0 : Int)) 0 (min x1.length ((x1.length : Int).toNat)) x1).take ((x1.length : Int).toNat)), ())).bind fun v47 =>
    cond (sne (strOf ((copied (List.replicate (iadd .i64 (x0.length : Int) 40).toNat (0 : Int)) 0 (min x0.length ((x0.length : Int).toNat)) x0).take ((x0.length : Int).toNat))) (strOf x0)) (
    some false) (
    cond (sne (strOf ((copied (List.replicate (iadd .i64 (x1.length : Int) 40).toNat (0 : Int)) 0 (min x1.length ((x1.length : Int).toNat)) x1).take ((x1.length : Int).toNat))) (strOf x1)) (
    some false) (
    chk (leB 0 0 && (leB 0 (iadd .i64 (x0.length : Int) 40) && leB (iadd .i64 (x0.length : Int) 40) ((copied (List.replicate (iadd .i64 (x0.length : Int) 40).toNat (0 : Int)) 0 (min x0.length ((x0.length : Int).toNat)) x0).length))) <|
    chk (leB 0 0 && (leB 0 (iadd .i64 (x1.length : Int) 40) && leB (iadd .i64 (x1.length : Int) 40) ((copied (List.replicate (iadd .i64 (x1.length : Int) 40).toNat (0 : Int)) 0 (min x1.length ((x1.length : Int).toNat)) x1).length))) <|
    l0 (x0, x1, (((copied (List.replicate (iadd .i64 (x0.length : Int) 40).toNat (0 : Int)) 0 (min x0.length ((x0.length : Int).toNat)) x0).drop 0).take ((((iadd .i64 (x0.length : Int) 40) : Int) - 0).toNat)), (((copied (List.replicate (iadd .i64 (x1.length : Int) 40).toNat (0 : Int)) 0 (min x1.length ((x1.length : Int).toNat)) x1).drop 0).take ((((iadd .i64 (x1.length : Int) 40) : Int) - 0).toNat)), (x0.length : Int), ()) fun (t1, t6, _) =>
    l2 (t1, t6, (t1.length : Int), ()) fun (_) =>
    some true))))))
def w01_DigestKeeps (x : (List Int × List Int × Unit)) : Option Bool := w01_DigestKeeps.b w01_awake digest_Sum digest_Hex digest_Tag digest_Stretch w01_DigestKeeps.l0 w01_DigestKeeps.l2 x
end Go.Px
