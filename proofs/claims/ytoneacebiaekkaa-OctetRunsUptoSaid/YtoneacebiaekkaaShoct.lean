import Derived.Test.YtoneacebiaekkaaPx1
set_option linter.unusedVariables false
set_option linter.unusedSimpArgs false
namespace Go.Px
open Go
/-- muniment/octet.Above -/
def octet_Above.s0b (kx : (List Int × Int × Unit) → Option (List Int × Bool × Unit)) : (List Int × Int × Unit) → ((List Int × Int × Unit) → Option (List Int × Bool × Unit)) → Option (List Int × Bool × Unit)
  | (t0, t4, _), κ =>
    cond (igt t4 0) (
    chk (inB (isub .i64 t4 1) t0.length) <|
    cond (ieq (t0.getD (isub .i64 t4 1).toNat (0 : Int)) 255) (
    κ (t0, (isub .i64 t4 1), ())) (
    kx (t0, t4, ()))) (
    kx (t0, t4, ()))
def octet_Above.s0 (kx : (List Int × Int × Unit) → Option (List Int × Bool × Unit)) : (List Int × Int × Unit) → ((List Int × Int × Unit) → Option (List Int × Bool × Unit)) → Option (List Int × Bool × Unit) := octet_Above.s0b kx
def octet_Above.n0 : (List Int × Int × Unit) → Nat
  | (t0, t4, _) => t0.length + t4.toNat + 1048576
def octet_Above.l0 (x : List Int × Int × Unit) (kx : (List Int × Int × Unit) → Option (List Int × Bool × Unit)) : Option (List Int × Bool × Unit) := loopN (octet_Above.n0 x) (octet_Above.s0 kx) x
def octet_Above.b (l0 : (List Int × Int × Unit) → ((List Int × Int × Unit) → Option (List Int × Bool × Unit)) → Option (List Int × Bool × Unit)) : (List Int × Unit) → Option (List Int × Bool × Unit)
  | (x0, _) =>
    l0 (x0, (x0.length : Int), ()) fun (t0, t4, _) =>
    cond (ieq t4 0) (
    some ([], false, ())) (
    chk (leB 0 0 && (leB 0 t4 && leB t4 t0.length)) <|
    chk (fits 1 (0 + ((t0.drop 0).take (t4 - 0).toNat).length)) <|
    chk (inB (isub .i64 t4 1) ((t0.drop 0).take (t4 - 0).toNat).length) <|
    chk (inB (isub .i64 t4 1) ((t0.drop 0).take (t4 - 0).toNat).length) <|
    some ((((t0.drop 0).take (t4 - 0).toNat).set (isub .i64 t4 1).toNat (iadd .u8 (((t0.drop 0).take (t4 - 0).toNat).getD (isub .i64 t4 1).toNat (0 : Int)) 1)), true, ()))
def octet_Above (x : (List Int × Unit)) : Option (List Int × Bool × Unit) := octet_Above.b octet_Above.l0 x
/-- muniment/octet.Sum -/
def octet_Sum.s2b (kx : (Int × List Int × Int × Int × Unit) → Option Int) : (Int × List Int × Int × Int × Int × Unit) → ((Int × List Int × Int × Int × Int × Unit) → Option Int) → Option Int
  | (t3, t6, t7, t8, t16, _), κ =>
    cond (ilt t16 8) (
    κ ((ixor .u32 (ishr .u32 t3 1) (iand .u32 3988292384 (isub .u32 0 (iand .u32 t3 1)))), t6, t7, t8, (iadd .i64 t16 1), ())) (
    kx (t3, t6, t7, t8, ()))
def octet_Sum.s2 (kx : (Int × List Int × Int × Int × Unit) → Option Int) : (Int × List Int × Int × Int × Int × Unit) → ((Int × List Int × Int × Int × Int × Unit) → Option Int) → Option Int := octet_Sum.s2b kx
def octet_Sum.n2 : (Int × List Int × Int × Int × Int × Unit) → Nat
  | (t3, t6, t7, t8, t16, _) => t3.toNat + t6.length + t7.toNat + t8.toNat + t16.toNat + 1048576
def octet_Sum.l2 (x : Int × List Int × Int × Int × Int × Unit) (kx : (Int × List Int × Int × Int × Unit) → Option Int) : Option Int := loopN (octet_Sum.n2 x) (octet_Sum.s2 kx) x
def octet_Sum.s0b (l2 : (Int × List Int × Int × Int × Int × Unit) → ((Int × List Int × Int × Int × Unit) → Option Int) → Option Int) (kx : (Int × Unit) → Option Int) : (Int × List Int × Int × Int × Unit) → ((Int × List Int × Int × Int × Unit) → Option Int) → Option Int
  | (t3, t6, t7, t8, _), κ =>
    cond (ilt t8 t7) (
    chk (inB t8 t6.length) <|
    l2 ((ixor .u32 t3 (IntKind.wrap .u32 (t6.getD t8.toNat (0 : Int)))), t6, t7, t8, 0, ()) fun (t3, t6, t7, t8, _) =>
    κ (t3, t6, t7, (iadd .i64 t8 1), ())) (
    kx (t3, ()))
def octet_Sum.s0 (kx : (Int × Unit) → Option Int) : (Int × List Int × Int × Int × Unit) → ((Int × List Int × Int × Int × Unit) → Option Int) → Option Int := octet_Sum.s0b octet_Sum.l2 kx
def octet_Sum.n0 : (Int × List Int × Int × Int × Unit) → Nat
  | (t3, t6, t7, t8, _) => t3.toNat + t6.length + t7.toNat + t8.toNat + 1048576
def octet_Sum.l0 (x : Int × List Int × Int × Int × Unit) (kx : (Int × Unit) → Option Int) : Option Int := loopN (octet_Sum.n0 x) (octet_Sum.s0 kx) x
def octet_Sum.b (l0 : (Int × List Int × Int × Int × Unit) → ((Int × Unit) → Option Int) → Option Int) : (List Int × Unit) → Option Int
  | (x0, _) =>
    l0 (4294967295, x0, (x0.length : Int), 0, ()) fun (t3, _) =>
    some (inot .u32 t3)
def octet_Sum (x : (List Int × Unit)) : Option Int := octet_Sum.b octet_Sum.l0 x
/-- muniment/octet.Text -/
def octet_Text.s0b (kx : (List Int × Unit) → Option (List Int)) : (ByteArray × List Int × Int × Int × Unit) → ((ByteArray × List Int × Int × Int × Unit) → Option (List Int)) → Option (List Int)
  | (t0, t3, t6, t7, _), κ =>
    cond (ilt t7 t6) (
    chk (inB t7 t0.size) <|
    chk (fits 1 (t3.length + 1)) <|
    chk (inB t7 t0.size) <|
    cond (ieq (byteAt t0 t7.toNat) 0) (
    chk (fits 1 ((t3 ++ [(byteAt t0 t7.toNat)]).length + 1)) <|
    κ (t0, ((t3 ++ [(byteAt t0 t7.toNat)]) ++ [255]), t6, (iadd .i64 t7 1), ())) (
    κ (t0, (t3 ++ [(byteAt t0 t7.toNat)]), t6, (iadd .i64 t7 1), ()))) (
    kx (t3, ()))
def octet_Text.s0 (kx : (List Int × Unit) → Option (List Int)) : (ByteArray × List Int × Int × Int × Unit) → ((ByteArray × List Int × Int × Int × Unit) → Option (List Int)) → Option (List Int) := octet_Text.s0b kx
def octet_Text.n0 : (ByteArray × List Int × Int × Int × Unit) → Nat
  | (t0, t3, t6, t7, _) => t0.size + t3.length + t6.toNat + t7.toNat + 1048576
def octet_Text.l0 (x : ByteArray × List Int × Int × Int × Unit) (kx : (List Int × Unit) → Option (List Int)) : Option (List Int) := loopN (octet_Text.n0 x) (octet_Text.s0 kx) x
def octet_Text.b (l0 : (ByteArray × List Int × Int × Int × Unit) → ((List Int × Unit) → Option (List Int)) → Option (List Int)) : (ByteArray × Unit) → Option (List Int)
  | (x0, _) =>
    l0 (x0, [], (x0.size : Int), 0, ()) fun (t3, _) =>
    chk (fits 1 (t3.length + 2)) <|
    some (t3 ++ [0, 1])
def octet_Text (x : (ByteArray × Unit)) : Option (List Int) := octet_Text.b octet_Text.l0 x
/-- muniment/munimentlaw02.awake -/
def w02_awake.b (f12 : (List Int × Unit) → Option (List Int × Bool × Unit)) (f14 : (List Int × Unit) → Option Int) (f16 : (ByteArray × Unit) → Option (List Int)) : Unit → Option Bool
  | (_) =>
    (f12 ([97, 255], ())).bind fun v6 =>
    cond v6.2.1 (
    cond (seq (strOf v6.1) (⟨#[98]⟩ : ByteArray)) (
    (f16 ((⟨#[97]⟩ : ByteArray), ())).bind fun v16 =>
    cond (seq (strOf v16) (⟨#[97, 0, 1]⟩ : ByteArray)) (
    (f14 ([49, 50, 51, 52, 53, 54, 55, 56, 57], ())).bind fun v23 =>
    some (ieq v23 3421780262)) (
    some false)) (
    some false)) (
    some false)
def w02_awake (x : Unit) : Option Bool := w02_awake.b octet_Above octet_Sum octet_Text x
/-- muniment/munimentref02.Above -/
def r02_Above.s0b (kx : Unit → Option (List Int)) : (List Int × Int × Unit) → ((List Int × Int × Unit) → Option (List Int)) → Option (List Int)
  | (t0, t3, _), κ =>
    cond (igt t3 0) (
    chk (inB (isub .i64 t3 1) t0.length) <|
    cond (ilt (t0.getD (isub .i64 t3 1).toNat (0 : Int)) 255) (
    chk (leB 0 0 && (leB 0 t3 && leB t3 t0.length)) <|
    chk (fits 1 (0 + ((t0.drop 0).take (t3 - 0).toNat).length)) <|
    chk (inB (isub .i64 t3 1) ((t0.drop 0).take (t3 - 0).toNat).length) <|
    chk (inB (isub .i64 t3 1) ((t0.drop 0).take (t3 - 0).toNat).length) <|
    some (((t0.drop 0).take (t3 - 0).toNat).set (isub .i64 t3 1).toNat (iadd .u8 (((t0.drop 0).take (t3 - 0).toNat).getD (isub .i64 t3 1).toNat (0 : Int)) 1))) (
    κ (t0, (isub .i64 t3 1), ()))) (
    kx (()))
def r02_Above.s0 (kx : Unit → Option (List Int)) : (List Int × Int × Unit) → ((List Int × Int × Unit) → Option (List Int)) → Option (List Int) := r02_Above.s0b kx
def r02_Above.n0 : (List Int × Int × Unit) → Nat
  | (t0, t3, _) => t0.length + t3.toNat + 1048576
def r02_Above.l0 (x : List Int × Int × Unit) (kx : Unit → Option (List Int)) : Option (List Int) := loopN (r02_Above.n0 x) (r02_Above.s0 kx) x
def r02_Above.b (l0 : (List Int × Int × Unit) → (Unit → Option (List Int)) → Option (List Int)) : (List Int × Unit) → Option (List Int)
  | (x0, _) =>
    l0 (x0, (x0.length : Int), ()) fun (_) =>
    some []
def r02_Above (x : (List Int × Unit)) : Option (List Int) := r02_Above.b r02_Above.l0 x
/-- muniment/munimentlaw02.OctetAbove -/
def w02_OctetAbove.b (f11 : Unit → Option Bool) (f12 : (List Int × Unit) → Option (List Int × Bool × Unit)) (f13 : (List Int × Unit) → Option (List Int)) : (List Int × List Int × List Int × Unit) → Option Bool
  | (x0, x1, x2, _) =>
    (f11 (())).bind fun v11 =>
    cond (!v11) (
    some false) (
    (f12 (x0, ())).bind fun v15 =>
    (f13 (x0, ())).bind fun v19 =>
    cond (!(v15.2.1 == (igt (v19.length : Int) 0))) (
    some false) (
    cond (sne (strOf v15.1) (strOf v19)) (
    some false) (
    cond (ige (x2.length : Int) (x0.length : Int)) (
    chk (leB 0 0 && (leB 0 (x0.length : Int) && leB (x0.length : Int) x2.length)) <|
    cond (!v15.2.1) (
    cond (seq (strOf ((x2.drop 0).take ((x0.length : Int) - 0).toNat)) (strOf x0)) (
    some true) (
    some (slt (strOf x2) (strOf x0)))) (
    chk (decide ((strOf x0).size + (strOf x1).size < 4611686018427387904)) <|
    cond (slt ((strOf x0) ++ (strOf x1)) (strOf v15.1)) (
    cond (seq (strOf ((x2.drop 0).take ((x0.length : Int) - 0).toNat)) (strOf x0)) (
    cond (!(seq (strOf ((x2.drop 0).take ((x0.length : Int) - 0).toNat)) (strOf x0))) (
    some true) (
    some (slt (strOf x2) (strOf v15.1)))) (
    cond (slt (strOf x2) (strOf x0)) (
    cond (!(seq (strOf ((x2.drop 0).take ((x0.length : Int) - 0).toNat)) (strOf x0))) (
    some true) (
    some (slt (strOf x2) (strOf v15.1)))) (
    cond (sge (strOf x2) (strOf v15.1)) (
    cond (!(seq (strOf ((x2.drop 0).take ((x0.length : Int) - 0).toNat)) (strOf x0))) (
    some true) (
    some (slt (strOf x2) (strOf v15.1)))) (
    some false)))) (
    some false))) (
    cond (!v15.2.1) (
    some (slt (strOf x2) (strOf x0))) (
    chk (decide ((strOf x0).size + (strOf x1).size < 4611686018427387904)) <|
    cond (slt ((strOf x0) ++ (strOf x1)) (strOf v15.1)) (
    cond (slt (strOf x2) (strOf x0)) (
    some true) (
    cond (sge (strOf x2) (strOf v15.1)) (
    some true) (
    some false))) (
    some false))))))
def w02_OctetAbove (x : (List Int × List Int × List Int × Unit)) : Option Bool := w02_OctetAbove.b w02_awake octet_Above r02_Above x
/-- muniment/munimentref02.Sum -/
def r02_Sum.s2b (kx : (List Int × Int × Int × Unit) → Option Int) : (List Int × Int × Int × Int × Unit) → ((List Int × Int × Int × Int × Unit) → Option Int) → Option Int
  | (t0, t3, t4, t5, _), κ =>
    cond (ilt t5 8) (
    chk (inB t4 t0.length) <|
    chk (ile 0 t5) <|
    cond (ieq (ixor .u32 (iand .u32 t3 1) (iand .u32 (IntKind.wrap .u32 (ishr .u8 (t0.getD t4.toNat (0 : Int)) t5)) 1)) 1) (
    κ (t0, (ixor .u32 (ishr .u32 t3 1) 3988292384), t4, (iadd .i64 t5 1), ())) (
    κ (t0, (ishr .u32 t3 1), t4, (iadd .i64 t5 1), ()))) (
    kx (t0, t3, t4, ()))
def r02_Sum.s2 (kx : (List Int × Int × Int × Unit) → Option Int) : (List Int × Int × Int × Int × Unit) → ((List Int × Int × Int × Int × Unit) → Option Int) → Option Int := r02_Sum.s2b kx
def r02_Sum.n2 : (List Int × Int × Int × Int × Unit) → Nat
  | (t0, t3, t4, t5, _) => t0.length + t3.toNat + t4.toNat + t5.toNat + 1048576
def r02_Sum.l2 (x : List Int × Int × Int × Int × Unit) (kx : (List Int × Int × Int × Unit) → Option Int) : Option Int := loopN (r02_Sum.n2 x) (r02_Sum.s2 kx) x
def r02_Sum.s0b (l2 : (List Int × Int × Int × Int × Unit) → ((List Int × Int × Int × Unit) → Option Int) → Option Int) (kx : (Int × Unit) → Option Int) : (List Int × Int × Int × Unit) → ((List Int × Int × Int × Unit) → Option Int) → Option Int
  | (t0, t3, t4, _), κ =>
    cond (ilt t4 (t0.length : Int)) (
    l2 (t0, t3, t4, 0, ()) fun (t0, t3, t4, _) =>
    κ (t0, t3, (iadd .i64 t4 1), ())) (
    kx (t3, ()))
def r02_Sum.s0 (kx : (Int × Unit) → Option Int) : (List Int × Int × Int × Unit) → ((List Int × Int × Int × Unit) → Option Int) → Option Int := r02_Sum.s0b r02_Sum.l2 kx
def r02_Sum.n0 : (List Int × Int × Int × Unit) → Nat
  | (t0, t3, t4, _) => t0.length + t3.toNat + t4.toNat + 1048576
def r02_Sum.l0 (x : List Int × Int × Int × Unit) (kx : (Int × Unit) → Option Int) : Option Int := loopN (r02_Sum.n0 x) (r02_Sum.s0 kx) x
def r02_Sum.b (l0 : (List Int × Int × Int × Unit) → ((Int × Unit) → Option Int) → Option Int) : (List Int × Unit) → Option Int
  | (x0, _) =>
    l0 (x0, 4294967295, 0, ()) fun (t3, _) =>
    some (isub .u32 4294967295 t3)
def r02_Sum (x : (List Int × Unit)) : Option Int := r02_Sum.b r02_Sum.l0 x
/-- muniment/munimentlaw02.OctetSums -/
def w02_OctetSums.b (f11 : Unit → Option Bool) (f14 : (List Int × Unit) → Option Int) (f15 : (List Int × Unit) → Option Int) : (List Int × Int × Int × Unit) → Option Bool
  | (x0, x1, x2, _) =>
    (f11 (())).bind fun v9 =>
    cond (!v9) (
    some false) (
    (f14 (x0, ())).bind fun v13 =>
    (f15 (x0, ())).bind fun v15 =>
    cond (ine v13 v15) (
    some false) (
    cond (ieq (x0.length : Int) 0) (
    some true) (
    chk (fits 1 (0 + x0.length)) <|
    chk (decide ((x0.length : Int) ≠ 0)) <|
    chk (inB (irem .i64 (IntKind.wrap .i64 x1) (x0.length : Int)) x0.length) <|
    chk (ile 0 (irem .u8 x2 8)) <|
    chk (inB (irem .i64 (IntKind.wrap .i64 x1) (x0.length : Int)) x0.length) <|
    (f14 ((x0.set (irem .i64 (IntKind.wrap .i64 x1) (x0.length : Int)).toNat (ixor .u8 (x0.getD (irem .i64 (IntKind.wrap .i64 x1) (x0.length : Int)).toNat (0 : Int)) (ishl .u8 1 (irem .u8 x2 8)))), ())).bind fun v41 =>
    (f14 (x0, ())).bind fun v43 =>
    some (ine v41 v43))))
def w02_OctetSums (x : (List Int × Int × Int × Unit)) : Option Bool := w02_OctetSums.b w02_awake octet_Sum r02_Sum x
/-- muniment/munimentlaw02.OctetLists -/
def w02_OctetLists.s0b (f16 : (ByteArray × Unit) → Option (List Int)) (kx : (List ByteArray × List ByteArray × List Int × List Int × Unit) → Option Bool) : (List ByteArray × List ByteArray × List Int × List Int × Int × Unit) → ((List ByteArray × List ByteArray × List Int × List Int × Int × Unit) → Option Bool) → Option Bool
  | (t0, t1, t5, t6, t7, _), κ =>
    cond (ilt t7 (t0.length : Int)) (
    chk (inB t7 t0.length) <|
    (f16 ((t0.getD t7.toNat ByteArray.empty), ())).bind fun v33 =>
    chk (fits 1 (t5.length + v33.length)) <|
    κ (t0, t1, (t5 ++ v33), t6, (iadd .i64 t7 1), ())) (
    kx (t0, t1, t5, t6, ()))
def w02_OctetLists.s0 (kx : (List ByteArray × List ByteArray × List Int × List Int × Unit) → Option Bool) : (List ByteArray × List ByteArray × List Int × List Int × Int × Unit) → ((List ByteArray × List ByteArray × List Int × List Int × Int × Unit) → Option Bool) → Option Bool := w02_OctetLists.s0b octet_Text kx
def w02_OctetLists.n0 : (List ByteArray × List ByteArray × List Int × List Int × Int × Unit) → Nat
  | (t0, t1, t5, t6, t7, _) => t0.length + t1.length + t5.length + t6.length + t7.toNat + 1048576
def w02_OctetLists.l0 (x : List ByteArray × List ByteArray × List Int × List Int × Int × Unit) (kx : (List ByteArray × List ByteArray × List Int × List Int × Unit) → Option Bool) : Option Bool := loopN (w02_OctetLists.n0 x) (w02_OctetLists.s0 kx) x
def w02_OctetLists.s2b (f16 : (ByteArray × Unit) → Option (List Int)) (kx : (List ByteArray × List ByteArray × List Int × List Int × Unit) → Option Bool) : (List ByteArray × List ByteArray × List Int × List Int × Int × Unit) → ((List ByteArray × List ByteArray × List Int × List Int × Int × Unit) → Option Bool) → Option Bool
  | (t0, t1, t5, t6, t8, _), κ =>
    cond (ilt t8 (t1.length : Int)) (
    chk (inB t8 t1.length) <|
    (f16 ((t1.getD t8.toNat ByteArray.empty), ())).bind fun v46 =>
    chk (fits 1 (t6.length + v46.length)) <|
    κ (t0, t1, t5, (t6 ++ v46), (iadd .i64 t8 1), ())) (
    kx (t0, t1, t5, t6, ()))
def w02_OctetLists.s2 (kx : (List ByteArray × List ByteArray × List Int × List Int × Unit) → Option Bool) : (List ByteArray × List ByteArray × List Int × List Int × Int × Unit) → ((List ByteArray × List ByteArray × List Int × List Int × Int × Unit) → Option Bool) → Option Bool := w02_OctetLists.s2b octet_Text kx
def w02_OctetLists.n2 : (List ByteArray × List ByteArray × List Int × List Int × Int × Unit) → Nat
  | (t0, t1, t5, t6, t8, _) => t0.length + t1.length + t5.length + t6.length + t8.toNat + 1048576
def w02_OctetLists.l2 (x : List ByteArray × List ByteArray × List Int × List Int × Int × Unit) (kx : (List ByteArray × List ByteArray × List Int × List Int × Unit) → Option Bool) : Option Bool := loopN (w02_OctetLists.n2 x) (w02_OctetLists.s2 kx) x
def w02_OctetLists.s4b (kx : (List ByteArray × List ByteArray × List Int × List Int × Int × Unit) → Option Bool) : (List ByteArray × List ByteArray × List Int × List Int × Int × Unit) → ((List ByteArray × List ByteArray × List Int × List Int × Int × Unit) → Option Bool) → Option Bool
  | (t0, t1, t5, t6, t9, _), κ =>
    cond (ilt t9 (t0.length : Int)) (
    cond (ilt t9 (t1.length : Int)) (
    chk (inB t9 t0.length) <|
    chk (inB t9 t1.length) <|
    cond (seq (t0.getD t9.toNat ByteArray.empty) (t1.getD t9.toNat ByteArray.empty)) (
    κ (t0, t1, t5, t6, (iadd .i64 t9 1), ())) (
    kx (t0, t1, t5, t6, t9, ()))) (
    kx (t0, t1, t5, t6, t9, ()))) (
    kx (t0, t1, t5, t6, t9, ()))
def w02_OctetLists.s4 (kx : (List ByteArray × List ByteArray × List Int × List Int × Int × Unit) → Option Bool) : (List ByteArray × List ByteArray × List Int × List Int × Int × Unit) → ((List ByteArray × List ByteArray × List Int × List Int × Int × Unit) → Option Bool) → Option Bool := w02_OctetLists.s4b kx
def w02_OctetLists.n4 : (List ByteArray × List ByteArray × List Int × List Int × Int × Unit) → Nat
  | (t0, t1, t5, t6, t9, _) => t0.length + t1.length + t5.length + t6.length + t9.toNat + 1048576
def w02_OctetLists.l4 (x : List ByteArray × List ByteArray × List Int × List Int × Int × Unit) (kx : (List ByteArray × List ByteArray × List Int × List Int × Int × Unit) → Option Bool) : Option Bool := loopN (w02_OctetLists.n4 x) (w02_OctetLists.s4 kx) x
def w02_OctetLists.b (f11 : Unit → Option Bool) (l0 : (List ByteArray × List ByteArray × List Int × List Int × Int × Unit) → ((List ByteArray × List ByteArray × List Int × List Int × Unit) → Option Bool) → Option Bool) (l2 : (List ByteArray × List ByteArray × List Int × List Int × Int × Unit) → ((List ByteArray × List ByteArray × List Int × List Int × Unit) → Option Bool) → Option Bool) (l4 : (List ByteArray × List ByteArray × List Int × List Int × Int × Unit) → ((List ByteArray × List ByteArray × List Int × List Int × Int × Unit) → Option Bool) → Option Bool) : (List ByteArray × List ByteArray × Unit) → Option Bool
  | (x0, x1, _) =>
    (f11 (())).bind fun v11 =>
    cond (!v11) (
    (f11 (())).bind fun v21 =>
    some v21) (
    cond (igt (iadd .i64 (x0.length : Int) (x1.length : Int)) 100) (
    (f11 (())).bind fun v21 =>
    some v21) (
    l0 (x0, x1, [], [], 0, ()) fun (t0, t1, t5, t6, _) =>
    l2 (t0, t1, t5, t6, 0, ()) fun (t0, t1, t5, t6, _) =>
    l4 (t0, t1, t5, t6, 0, ()) fun (t0, t1, t5, t6, t9, _) =>
    cond (ilt t9 (t1.length : Int)) (
    cond (ieq t9 (t0.length : Int)) (
    some (true == (slt (strOf t5) (strOf t6)))) (
    chk (inB t9 t0.length) <|
    chk (inB t9 t1.length) <|
    some ((slt (t0.getD t9.toNat ByteArray.empty) (t1.getD t9.toNat ByteArray.empty)) == (slt (strOf t5) (strOf t6))))) (
    some (false == (slt (strOf t5) (strOf t6))))))
def w02_OctetLists (x : (List ByteArray × List ByteArray × Unit)) : Option Bool := w02_OctetLists.b w02_awake w02_OctetLists.l0 w02_OctetLists.l2 w02_OctetLists.l4 x
/-- muniment/octet.Uint -/
def octet_Uint.s0b (kx : ((List Int × Unit) × Unit) → Option (List Int)) : (Int × (List Int × Unit) × Int × Unit) → ((Int × (List Int × Unit) × Int × Unit) → Option (List Int)) → Option (List Int)
  | (t0, t3, t5, _), κ =>
    cond (ilt t5 8) (
    chk (ile 0 (isub .i64 56 (imul .i64 8 t5))) <|
    chk (inB t5 8) <|
    κ (t0, ((t3.1.set t5.toNat (IntKind.wrap .u8 (ishr .u64 t0 (isub .i64 56 (imul .i64 8 t5))))), ()), (iadd .i64 t5 1), ())) (
    kx ((t3.1, ()), ()))
def octet_Uint.s0 (kx : ((List Int × Unit) × Unit) → Option (List Int)) : (Int × (List Int × Unit) × Int × Unit) → ((Int × (List Int × Unit) × Int × Unit) → Option (List Int)) → Option (List Int) := octet_Uint.s0b kx
def octet_Uint.n0 : (Int × (List Int × Unit) × Int × Unit) → Nat
  | (t0, t3, t5, _) => t0.toNat + t5.toNat + 1048576
def octet_Uint.l0 (x : Int × (List Int × Unit) × Int × Unit) (kx : ((List Int × Unit) × Unit) → Option (List Int)) : Option (List Int) := loopN (octet_Uint.n0 x) (octet_Uint.s0 kx) x
def octet_Uint.b (l0 : (Int × (List Int × Unit) × Int × Unit) → (((List Int × Unit) × Unit) → Option (List Int)) → Option (List Int)) : (Int × Unit) → Option (List Int)
  | (x0, _) =>
    l0 (x0, ((List.replicate 8 (0 : Int)), ()), 0, ()) fun (t3, _) =>
    some t3.1
def octet_Uint (x : (Int × Unit)) : Option (List Int) := octet_Uint.b octet_Uint.l0 x
/-- muniment/octet.Int -/
def octet_Int.b (f21 : (Int × Unit) → Option (List Int)) : (Int × Unit) → Option (List Int)
  | (x0, _) =>
    (f21 ((ixor .u64 (IntKind.wrap .u64 x0) 9223372036854775808), ())).bind fun v6 =>
    some v6
def octet_Int (x : (Int × Unit)) : Option (List Int) := octet_Int.b octet_Uint x
/-- muniment/munimentlaw02.OctetStands -/
def w02_OctetStands.b (f11 : Unit → Option Bool) (f16 : (ByteArray × Unit) → Option (List Int)) (f17 : (Int × Unit) → Option (List Int)) : (Int × Int × ByteArray × ByteArray × List Int × List Int × Unit) → Option Bool
  | (x0, x1, x2, x3, x4, x5, _) =>
    (f11 (())).bind fun v15 =>
    cond (!v15) (
    some false) (
    (f16 (x2, ())).bind fun v19 =>
    chk (fits 1 (0 + v19.length)) <|
    chk (fits 1 (v19.length + x4.length)) <|
    (f16 (x3, ())).bind fun v26 =>
    chk (fits 1 (0 + v26.length)) <|
    chk (fits 1 (v26.length + x5.length)) <|
    (f17 (x0, ())).bind fun v35 =>
    (f17 (x1, ())).bind fun v38 =>
    cond ((ilt x0 x1) == (slt (strOf v35) (strOf v38))) (
    cond (seq x2 x3) (
    some true) (
    some ((slt x2 x3) == (slt (strOf (v19 ++ x4)) (strOf (v26 ++ x5)))))) (
    some false))
def w02_OctetStands (x : (Int × Int × ByteArray × ByteArray × List Int × List Int × Unit)) : Option Bool := w02_OctetStands.b w02_awake octet_Text octet_Int x
/-- muniment/octet.ReadText -/
def octet_ReadText.s0b (kx : Unit → Option (ByteArray × Int × Int × Unit)) : (List Int × List Int × Int × Unit) → ((List Int × List Int × Int × Unit) → Option (ByteArray × Int × Int × Unit)) → Option (ByteArray × Int × Int × Unit)
  | (t0, t7, t8, _), κ =>
    cond (ilt t8 (t0.length : Int)) (
    chk (inB t8 t0.length) <|
    cond (ine (t0.getD t8.toNat (0 : Int)) 0) (
    chk (inB t8 t0.length) <|
    chk (fits 1 (t7.length + 1)) <|
    κ (t0, (t7 ++ [(t0.getD t8.toNat (0 : Int))]), (iadd .i64 t8 1), ())) (
    cond (ieq (iadd .i64 t8 1) (t0.length : Int)) (
    kx (())) (
    chk (inB (iadd .i64 t8 1) t0.length) <|
    cond (ieq (t0.getD (iadd .i64 t8 1).toNat (0 : Int)) 1) (
    some ((strOf t7), (iadd .i64 (iadd .i64 t8 1) 1), 0, ())) (
    cond (ieq (t0.getD (iadd .i64 t8 1).toNat (0 : Int)) 255) (
    chk (fits 1 (t7.length + 1)) <|
    κ (t0, (t7 ++ [0]), (iadd .i64 (iadd .i64 t8 1) 1), ())) (
    some ((⟨#[]⟩ : ByteArray), 0, 3, ())))))) (
    kx (()))
def octet_ReadText.s0 (kx : Unit → Option (ByteArray × Int × Int × Unit)) : (List Int × List Int × Int × Unit) → ((List Int × List Int × Int × Unit) → Option (ByteArray × Int × Int × Unit)) → Option (ByteArray × Int × Int × Unit) := octet_ReadText.s0b kx
def octet_ReadText.n0 : (List Int × List Int × Int × Unit) → Nat
  | (t0, t7, t8, _) => t0.length + t7.length + t8.toNat + 1048576
def octet_ReadText.l0 (x : List Int × List Int × Int × Unit) (kx : Unit → Option (ByteArray × Int × Int × Unit)) : Option (ByteArray × Int × Int × Unit) := loopN (octet_ReadText.n0 x) (octet_ReadText.s0 kx) x
def octet_ReadText.b (l0 : (List Int × List Int × Int × Unit) → (Unit → Option (ByteArray × Int × Int × Unit)) → Option (ByteArray × Int × Int × Unit)) : (List Int × Int × Unit) → Option (ByteArray × Int × Int × Unit)
  | (x0, x1, _) =>
    cond (ilt x1 0) (
    some ((⟨#[]⟩ : ByteArray), 0, 1, ())) (
    cond (igt x1 (x0.length : Int)) (
    some ((⟨#[]⟩ : ByteArray), 0, 1, ())) (
    l0 (x0, [], x1, ()) fun (_) =>
    some ((⟨#[]⟩ : ByteArray), 0, 3, ())))
def octet_ReadText (x : (List Int × Int × Unit)) : Option (ByteArray × Int × Int × Unit) := octet_ReadText.b octet_ReadText.l0 x
/-- muniment/munimentref02.Text -/
def r02_Text.s0b (kx : (List Int × Unit) → Option (List Int)) : (ByteArray × List Int × Int × Unit) → ((ByteArray × List Int × Int × Unit) → Option (List Int)) → Option (List Int)
  | (t0, t3, t4, _), κ =>
    cond (ilt t4 (t0.size : Int)) (
    chk (inB t4 t0.size) <|
    chk (fits 1 (t3.length + 1)) <|
    chk (inB t4 t0.size) <|
    cond (ieq (byteAt t0 t4.toNat) 0) (
    chk (fits 1 ((t3 ++ [(byteAt t0 t4.toNat)]).length + 1)) <|
    κ (t0, ((t3 ++ [(byteAt t0 t4.toNat)]) ++ [255]), (iadd .i64 t4 1), ())) (
    κ (t0, (t3 ++ [(byteAt t0 t4.toNat)]), (iadd .i64 t4 1), ()))) (
    kx (t3, ()))
def r02_Text.s0 (kx : (List Int × Unit) → Option (List Int)) : (ByteArray × List Int × Int × Unit) → ((ByteArray × List Int × Int × Unit) → Option (List Int)) → Option (List Int) := r02_Text.s0b kx
def r02_Text.n0 : (ByteArray × List Int × Int × Unit) → Nat
  | (t0, t3, t4, _) => t0.size + t3.length + t4.toNat + 1048576
def r02_Text.l0 (x : ByteArray × List Int × Int × Unit) (kx : (List Int × Unit) → Option (List Int)) : Option (List Int) := loopN (r02_Text.n0 x) (r02_Text.s0 kx) x
def r02_Text.b (l0 : (ByteArray × List Int × Int × Unit) → ((List Int × Unit) → Option (List Int)) → Option (List Int)) : (ByteArray × Unit) → Option (List Int)
  | (x0, _) =>
    l0 (x0, [], 0, ()) fun (t3, _) =>
    chk (fits 1 (t3.length + 2)) <|
    some (t3 ++ [0, 1])
def r02_Text (x : (ByteArray × Unit)) : Option (List Int) := r02_Text.b r02_Text.l0 x
/-- muniment/munimentlaw02.OctetTexts -/
def w02_OctetTexts.b (f11 : Unit → Option Bool) (f16 : (ByteArray × Unit) → Option (List Int)) (f18 : (List Int × Int × Unit) → Option (ByteArray × Int × Int × Unit)) (f19 : (ByteArray × Unit) → Option (List Int)) : (List Int × ByteArray × List Int × Unit) → Option Bool
  | (x0, x1, x2, _) =>
    (f11 (())).bind fun v12 =>
    cond (!v12) (
    some false) (
    chk (fits 1 (0 + x0.length)) <|
    (f16 (x1, ())).bind fun v19 =>
    chk (fits 1 (x0.length + v19.length)) <|
    chk (fits 1 ((x0 ++ v19).length + x2.length)) <|
    (f18 (((x0 ++ v19) ++ x2), (x0.length : Int), ())).bind fun v30 =>
    cond (seq v30.1 x1) (
    cond (ieq v30.2.1 ((x0 ++ v19).length : Int)) (
    cond (ieq v30.2.2.1 0) (
    (f16 (x1, ())).bind fun v48 =>
    (f19 (x1, ())).bind fun v51 =>
    some (seq (strOf v48) (strOf v51))) (
    some false)) (
    some false)) (
    some false))
def w02_OctetTexts (x : (List Int × ByteArray × List Int × Unit)) : Option Bool := w02_OctetTexts.b w02_awake octet_Text octet_ReadText r02_Text x
/-- muniment/octet.ReadUint -/
def octet_ReadUint.s0b (kx : (Int × Int × Unit) → Option (Int × Int × Int × Unit)) : (Int × Int × List Int × Int × Int × Unit) → ((Int × Int × List Int × Int × Int × Unit) → Option (Int × Int × Int × Unit)) → Option (Int × Int × Int × Unit)
  | (t1, t7, t27, t28, t29, _), κ =>
    cond (ilt t29 t28) (
    chk (inB t29 t27.length) <|
    κ (t1, (ior .u64 (ishl .u64 t7 8) (IntKind.wrap .u64 (t27.getD t29.toNat (0 : Int)))), t27, t28, (iadd .i64 t29 1), ())) (
    kx (t1, t7, ()))
def octet_ReadUint.s0 (kx : (Int × Int × Unit) → Option (Int × Int × Int × Unit)) : (Int × Int × List Int × Int × Int × Unit) → ((Int × Int × List Int × Int × Int × Unit) → Option (Int × Int × Int × Unit)) → Option (Int × Int × Int × Unit) := octet_ReadUint.s0b kx
def octet_ReadUint.n0 : (Int × Int × List Int × Int × Int × Unit) → Nat
  | (t1, t7, t27, t28, t29, _) => t1.toNat + t7.toNat + t27.length + t28.toNat + t29.toNat + 1048576
def octet_ReadUint.l0 (x : Int × Int × List Int × Int × Int × Unit) (kx : (Int × Int × Unit) → Option (Int × Int × Int × Unit)) : Option (Int × Int × Int × Unit) := loopN (octet_ReadUint.n0 x) (octet_ReadUint.s0 kx) x
def octet_ReadUint.b (l0 : (Int × Int × List Int × Int × Int × Unit) → ((Int × Int × Unit) → Option (Int × Int × Int × Unit)) → Option (Int × Int × Int × Unit)) : (List Int × Int × Unit) → Option (Int × Int × Int × Unit)
  | (x0, x1, _) =>
    cond (ilt x1 0) (
    some (0, 0, 1, ())) (
    cond (igt x1 (x0.length : Int)) (
    some (0, 0, 1, ())) (
    cond (ilt (isub .i64 (x0.length : Int) x1) 8) (
    some (0, 0, 3, ())) (
    chk (leB 0 x1 && (leB x1 (iadd .i64 x1 8) && leB (iadd .i64 x1 8) x0.length)) <|
    l0 (x1, 0, ((x0.drop x1.toNat).take ((iadd .i64 x1 8) - x1).toNat), (((x0.drop x1.toNat).take ((iadd .i64 x1 8) - x1).toNat).length : Int), 0, ()) fun (t1, t7, _) =>
    some (t7, (iadd .i64 t1 8), 0, ()))))
def octet_ReadUint (x : (List Int × Int × Unit)) : Option (Int × Int × Int × Unit) := octet_ReadUint.b octet_ReadUint.l0 x
/-- muniment/octet.ReadInt -/
def octet_ReadInt.b (f20 : (List Int × Int × Unit) → Option (Int × Int × Int × Unit)) : (List Int × Int × Unit) → Option (Int × Int × Int × Unit)
  | (x0, x1, _) =>
    (f20 (x0, x1, ())).bind fun v13 =>
    cond (ine v13.2.2.1 0) (
    some (0, 0, v13.2.2.1, ())) (
    some ((IntKind.wrap .i64 (ixor .u64 v13.1 9223372036854775808)), v13.2.1, 0, ()))
def octet_ReadInt (x : (List Int × Int × Unit)) : Option (Int × Int × Int × Unit) := octet_ReadInt.b octet_ReadUint x
/-- muniment/munimentref02.Uint -/
def r02_Uint.s0b (kx : (List Int × Unit) → Option (List Int)) : (Int × List Int × Int × Unit) → ((Int × List Int × Int × Unit) → Option (List Int)) → Option (List Int)
  | (t0, t3, t4, _), κ =>
    cond (ige t4 0) (
    chk (ile 0 (imul .i64 8 t4)) <|
    chk (fits 1 (t3.length + 1)) <|
    κ (t0, (t3 ++ [(IntKind.wrap .u8 (ishr .u64 t0 (imul .i64 8 t4)))]), (isub .i64 t4 1), ())) (
    kx (t3, ()))
def r02_Uint.s0 (kx : (List Int × Unit) → Option (List Int)) : (Int × List Int × Int × Unit) → ((Int × List Int × Int × Unit) → Option (List Int)) → Option (List Int) := r02_Uint.s0b kx
def r02_Uint.n0 : (Int × List Int × Int × Unit) → Nat
  | (t0, t3, t4, _) => t0.toNat + t3.length + t4.toNat + 1048576
def r02_Uint.l0 (x : Int × List Int × Int × Unit) (kx : (List Int × Unit) → Option (List Int)) : Option (List Int) := loopN (r02_Uint.n0 x) (r02_Uint.s0 kx) x
def r02_Uint.b (l0 : (Int × List Int × Int × Unit) → ((List Int × Unit) → Option (List Int)) → Option (List Int)) : (Int × Unit) → Option (List Int)
  | (x0, _) =>
    l0 (x0, [], 7, ()) fun (t3, _) =>
    some t3
def r02_Uint (x : (Int × Unit)) : Option (List Int) := r02_Uint.b r02_Uint.l0 x
/-- muniment/munimentref02.Int -/
def r02_Int.b (f23 : (Int × Unit) → Option (List Int)) : (Int × Unit) → Option (List Int)
  | (x0, _) =>
    (f23 ((iadd .u64 (IntKind.wrap .u64 x0) 9223372036854775808), ())).bind fun v6 =>
    some v6
def r02_Int (x : (Int × Unit)) : Option (List Int) := r02_Int.b r02_Uint x
/-- muniment/munimentlaw02.OctetNumbers -/
def w02_OctetNumbers.b (f11 : Unit → Option Bool) (f17 : (Int × Unit) → Option (List Int)) (f20 : (List Int × Int × Unit) → Option (Int × Int × Int × Unit)) (f21 : (Int × Unit) → Option (List Int)) (f22 : (List Int × Int × Unit) → Option (Int × Int × Int × Unit)) (f23 : (Int × Unit) → Option (List Int)) (f24 : (Int × Unit) → Option (List Int)) : (Int × Int × Unit) → Option Bool
  | (x0, x1, _) =>
    (f11 (())).bind fun v11 =>
    cond (!v11) (
    some false) (
    (f21 (x0, ())).bind fun v15 =>
    (f20 (v15, 0, ())).bind fun v16 =>
    (f17 (x1, ())).bind fun v22 =>
    (f22 (v22, 0, ())).bind fun v23 =>
    (f21 (x0, ())).bind fun v28 =>
    (f23 (x0, ())).bind fun v31 =>
    cond (seq (strOf v28) (strOf v31)) (
    (f17 (x1, ())).bind fun v36 =>
    (f24 (x1, ())).bind fun v39 =>
    cond (seq (strOf v36) (strOf v39)) (
    cond (ieq v16.1 x0) (
    cond (ieq v23.1 x1) (
    cond (ieq v16.2.1 8) (
    cond (ieq v23.2.1 8) (
    cond (ieq v16.2.2.1 0) (
    some (ieq v23.2.2.1 0)) (
    some false)) (
    some false)) (
    some false)) (
    some false)) (
    some false)) (
    some false)) (
    some false))
def w02_OctetNumbers (x : (Int × Int × Unit)) : Option Bool := w02_OctetNumbers.b w02_awake octet_Int octet_ReadUint octet_Uint octet_ReadInt r02_Uint r02_Int x
/-- muniment/munimentref02.ReadUint -/
def r02_ReadUint.s0b (kx : (Int × Int × Unit) → Option (Int × Int × Int × Unit)) : (List Int × Int × Int × Int × Unit) → ((List Int × Int × Int × Int × Unit) → Option (Int × Int × Int × Unit)) → Option (Int × Int × Int × Unit)
  | (t0, t1, t7, t8, _), κ =>
    cond (ilt t8 8) (
    chk (inB (iadd .i64 t1 t8) t0.length) <|
    κ (t0, t1, (iadd .u64 (imul .u64 t7 256) (IntKind.wrap .u64 (t0.getD (iadd .i64 t1 t8).toNat (0 : Int)))), (iadd .i64 t8 1), ())) (
    kx (t1, t7, ()))
def r02_ReadUint.s0 (kx : (Int × Int × Unit) → Option (Int × Int × Int × Unit)) : (List Int × Int × Int × Int × Unit) → ((List Int × Int × Int × Int × Unit) → Option (Int × Int × Int × Unit)) → Option (Int × Int × Int × Unit) := r02_ReadUint.s0b kx
def r02_ReadUint.n0 : (List Int × Int × Int × Int × Unit) → Nat
  | (t0, t1, t7, t8, _) => t0.length + t1.toNat + t7.toNat + t8.toNat + 1048576
def r02_ReadUint.l0 (x : List Int × Int × Int × Int × Unit) (kx : (Int × Int × Unit) → Option (Int × Int × Int × Unit)) : Option (Int × Int × Int × Unit) := loopN (r02_ReadUint.n0 x) (r02_ReadUint.s0 kx) x
def r02_ReadUint.b (l0 : (List Int × Int × Int × Int × Unit) → ((Int × Int × Unit) → Option (Int × Int × Int × Unit)) → Option (Int × Int × Int × Unit)) : (List Int × Int × Unit) → Option (Int × Int × Int × Unit)
  | (x0, x1, _) =>
    cond (ilt x1 0) (
    some (0, 0, 1, ())) (
    cond (igt x1 (x0.length : Int)) (
    some (0, 0, 1, ())) (
    cond (ilt (isub .i64 (x0.length : Int) x1) 8) (
    some (0, 0, 3, ())) (
    l0 (x0, x1, 0, 0, ()) fun (t1, t7, _) =>
    some (t7, (iadd .i64 t1 8), 0, ()))))
def r02_ReadUint (x : (List Int × Int × Unit)) : Option (Int × Int × Int × Unit) := r02_ReadUint.b r02_ReadUint.l0 x
/-- muniment/munimentref02.ReadInt -/
def r02_ReadInt.b (f25 : (List Int × Int × Unit) → Option (Int × Int × Int × Unit)) : (List Int × Int × Unit) → Option (Int × Int × Int × Unit)
  | (x0, x1, _) =>
    (f25 (x0, x1, ())).bind fun v13 =>
    cond (ine v13.2.2.1 0) (
    some (0, 0, v13.2.2.1, ())) (
    some ((IntKind.wrap .i64 (isub .u64 v13.1 9223372036854775808)), v13.2.1, 0, ()))
def r02_ReadInt (x : (List Int × Int × Unit)) : Option (Int × Int × Int × Unit) := r02_ReadInt.b r02_ReadUint x
/-- muniment/munimentref02.ReadText -/
def r02_ReadText.s0b (kx : Unit → Option (ByteArray × Int × Int × Unit)) : (List Int × List Int × Int × Unit) → ((List Int × List Int × Int × Unit) → Option (ByteArray × Int × Int × Unit)) → Option (ByteArray × Int × Int × Unit)
  | (t0, t7, t8, _), κ =>
    cond (ilt t8 (t0.length : Int)) (
    chk (inB t8 t0.length) <|
    cond (ieq (t0.getD t8.toNat (0 : Int)) 0) (
    cond (ige (iadd .i64 t8 1) (t0.length : Int)) (
    some ((⟨#[]⟩ : ByteArray), 0, 3, ())) (
    chk (inB (iadd .i64 t8 1) t0.length) <|
    cond (ieq (t0.getD (iadd .i64 t8 1).toNat (0 : Int)) 1) (
    some ((strOf t7), (iadd .i64 t8 2), 0, ())) (
    chk (inB (iadd .i64 t8 1) t0.length) <|
    cond (ine (t0.getD (iadd .i64 t8 1).toNat (0 : Int)) 255) (
    some ((⟨#[]⟩ : ByteArray), 0, 3, ())) (
    chk (fits 1 (t7.length + 1)) <|
    κ (t0, (t7 ++ [0]), (iadd .i64 (iadd .i64 t8 1) 1), ()))))) (
    chk (inB t8 t0.length) <|
    chk (fits 1 (t7.length + 1)) <|
    κ (t0, (t7 ++ [(t0.getD t8.toNat (0 : Int))]), (iadd .i64 t8 1), ()))) (
    kx (()))
def r02_ReadText.s0 (kx : Unit → Option (ByteArray × Int × Int × Unit)) : (List Int × List Int × Int × Unit) → ((List Int × List Int × Int × Unit) → Option (ByteArray × Int × Int × Unit)) → Option (ByteArray × Int × Int × Unit) := r02_ReadText.s0b kx
def r02_ReadText.n0 : (List Int × List Int × Int × Unit) → Nat
  | (t0, t7, t8, _) => t0.length + t7.length + t8.toNat + 1048576
def r02_ReadText.l0 (x : List Int × List Int × Int × Unit) (kx : Unit → Option (ByteArray × Int × Int × Unit)) : Option (ByteArray × Int × Int × Unit) := loopN (r02_ReadText.n0 x) (r02_ReadText.s0 kx) x
def r02_ReadText.b (l0 : (List Int × List Int × Int × Unit) → (Unit → Option (ByteArray × Int × Int × Unit)) → Option (ByteArray × Int × Int × Unit)) : (List Int × Int × Unit) → Option (ByteArray × Int × Int × Unit)
  | (x0, x1, _) =>
    cond (ilt x1 0) (
    some ((⟨#[]⟩ : ByteArray), 0, 1, ())) (
    cond (igt x1 (x0.length : Int)) (
    some ((⟨#[]⟩ : ByteArray), 0, 1, ())) (
    l0 (x0, [], x1, ()) fun (_) =>
    some ((⟨#[]⟩ : ByteArray), 0, 3, ())))
def r02_ReadText (x : (List Int × Int × Unit)) : Option (ByteArray × Int × Int × Unit) := r02_ReadText.b r02_ReadText.l0 x
/-- muniment/munimentlaw02.OctetReads -/
def w02_OctetReads.b (f11 : Unit → Option Bool) (f18 : (List Int × Int × Unit) → Option (ByteArray × Int × Int × Unit)) (f20 : (List Int × Int × Unit) → Option (Int × Int × Int × Unit)) (f22 : (List Int × Int × Unit) → Option (Int × Int × Int × Unit)) (f25 : (List Int × Int × Unit) → Option (Int × Int × Int × Unit)) (f26 : (List Int × Int × Unit) → Option (Int × Int × Int × Unit)) (f27 : (List Int × Int × Unit) → Option (ByteArray × Int × Int × Unit)) : (List Int × Int × Unit) → Option Bool
  | (x0, x1, _) =>
    (f11 (())).bind fun v23 =>
    cond (!v23) (
    some false) (
    (f20 (x0, x1, ())).bind fun v32 =>
    (f25 (x0, x1, ())).bind fun v39 =>
    (f22 (x0, x1, ())).bind fun v46 =>
    (f26 (x0, x1, ())).bind fun v53 =>
    (f18 (x0, x1, ())).bind fun v60 =>
    (f27 (x0, x1, ())).bind fun v67 =>
    cond (ieq v32.1 v39.1) (
    cond (ieq v32.2.1 v39.2.1) (
    cond (ieq v32.2.2.1 v39.2.2.1) (
    cond (ieq v46.1 v53.1) (
    cond (ieq v46.2.1 v53.2.1) (
    cond (ieq v46.2.2.1 v53.2.2.1) (
    cond (seq v60.1 v67.1) (
    cond (ieq v60.2.1 v67.2.1) (
    some (ieq v60.2.2.1 v67.2.2.1)) (
    some false)) (
    some false)) (
    some false)) (
    some false)) (
    some false)) (
    some false)) (
    some false)) (
    some false))
def w02_OctetReads (x : (List Int × Int × Unit)) : Option Bool := w02_OctetReads.b w02_awake octet_ReadText octet_ReadUint octet_ReadInt r02_ReadUint r02_ReadInt r02_ReadText x
/-- muniment/munimentlaw02.OctetRuns -/
def w02_OctetRuns.s0b (f16 : (ByteArray × Unit) → Option (List Int)) (f17 : (Int × Unit) → Option (List Int)) (kx : (List ByteArray × List Int × List Int × Unit) → Option Bool) : (List ByteArray × List Int × List Int × Int × Unit) → ((List ByteArray × List Int × List Int × Int × Unit) → Option Bool) → Option Bool
  | (t0, t1, t5, t6, _), κ =>
    cond (ilt t6 (t0.length : Int)) (
    chk (inB t6 t0.length) <|
    (f16 ((t0.getD t6.toNat ByteArray.empty), ())).bind fun v37 =>
    chk (fits 1 (t5.length + v37.length)) <|
    cond (ilt t6 (t1.length : Int)) (
    chk (inB t6 t1.length) <|
    (f17 ((t1.getD t6.toNat (0 : Int)), ())).bind fun v48 =>
    chk (fits 1 ((t5 ++ v37).length + v48.length)) <|
    κ (t0, t1, ((t5 ++ v37) ++ v48), (iadd .i64 t6 1), ())) (
    κ (t0, t1, (t5 ++ v37), (iadd .i64 t6 1), ()))) (
    kx (t0, t1, t5, ()))
def w02_OctetRuns.s0 (kx : (List ByteArray × List Int × List Int × Unit) → Option Bool) : (List ByteArray × List Int × List Int × Int × Unit) → ((List ByteArray × List Int × List Int × Int × Unit) → Option Bool) → Option Bool := w02_OctetRuns.s0b octet_Text octet_Int kx
def w02_OctetRuns.n0 : (List ByteArray × List Int × List Int × Int × Unit) → Nat
  | (t0, t1, t5, t6, _) => t0.length + t1.length + t5.length + t6.toNat + 1048576
def w02_OctetRuns.l0 (x : List ByteArray × List Int × List Int × Int × Unit) (kx : (List ByteArray × List Int × List Int × Unit) → Option Bool) : Option Bool := loopN (w02_OctetRuns.n0 x) (w02_OctetRuns.s0 kx) x
def w02_OctetRuns.s2b (f18 : (List Int × Int × Unit) → Option (ByteArray × Int × Int × Unit)) (f22 : (List Int × Int × Unit) → Option (Int × Int × Int × Unit)) (kx : (List Int × Int × Unit) → Option Bool) : (List ByteArray × List Int × List Int × Int × Int × Unit) → ((List ByteArray × List Int × List Int × Int × Int × Unit) → Option Bool) → Option Bool
  | (t0, t1, t5, t7, t8, _), κ =>
    cond (ilt t8 (t0.length : Int)) (
    (f18 (t5, t7, ())).bind fun v59 =>
    cond (ine v59.2.2.1 0) (
    some false) (
    chk (inB t8 t0.length) <|
    cond (sne v59.1 (t0.getD t8.toNat ByteArray.empty)) (
    some false) (
    cond (ilt t8 (t1.length : Int)) (
    (f22 (t5, v59.2.1, ())).bind fun v81 =>
    cond (ine v81.2.2.1 0) (
    some false) (
    chk (inB t8 t1.length) <|
    cond (ine v81.1 (t1.getD t8.toNat (0 : Int))) (
    some false) (
    κ (t0, t1, t5, v81.2.1, (iadd .i64 t8 1), ())))) (
    κ (t0, t1, t5, v59.2.1, (iadd .i64 t8 1), ()))))) (
    kx (t5, t7, ()))
def w02_OctetRuns.s2 (kx : (List Int × Int × Unit) → Option Bool) : (List ByteArray × List Int × List Int × Int × Int × Unit) → ((List ByteArray × List Int × List Int × Int × Int × Unit) → Option Bool) → Option Bool := w02_OctetRuns.s2b octet_ReadText octet_ReadInt kx
def w02_OctetRuns.n2 : (List ByteArray × List Int × List Int × Int × Int × Unit) → Nat
  | (t0, t1, t5, t7, t8, _) => t0.length + t1.length + t5.length + t7.toNat + t8.toNat + 1048576
def w02_OctetRuns.l2 (x : List ByteArray × List Int × List Int × Int × Int × Unit) (kx : (List Int × Int × Unit) → Option Bool) : Option Bool := loopN (w02_OctetRuns.n2 x) (w02_OctetRuns.s2 kx) x
def w02_OctetRuns.b (f11 : Unit → Option Bool) (l0 : (List ByteArray × List Int × List Int × Int × Unit) → ((List ByteArray × List Int × List Int × Unit) → Option Bool) → Option Bool) (l2 : (List ByteArray × List Int × List Int × Int × Int × Unit) → ((List Int × Int × Unit) → Option Bool) → Option Bool) : (List ByteArray × List Int × Unit) → Option Bool
  | (x0, x1, _) =>
    (f11 (())).bind fun v15 =>
    cond (!v15) (
    (f11 (())).bind fun v25 =>
    some v25) (
    cond (igt (iadd .i64 (x0.length : Int) (x1.length : Int)) 200) (
    (f11 (())).bind fun v25 =>
    some v25) (
    l0 (x0, x1, [], 0, ()) fun (t0, t1, t5, _) =>
    l2 (t0, t1, t5, 0, 0, ()) fun (t5, t7, _) =>
    some (ieq t7 (t5.length : Int))))
def w02_OctetRuns (x : (List ByteArray × List Int × Unit)) : Option Bool := w02_OctetRuns.b w02_awake w02_OctetRuns.l0 w02_OctetRuns.l2 x
end Go.Px
