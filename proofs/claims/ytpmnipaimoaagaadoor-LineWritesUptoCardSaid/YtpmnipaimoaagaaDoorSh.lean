import Derived.Test.YtpmnipaimoaagaaDoorPxA
import Derived.Test.YtpmnipaimoaagaaDoorPxC
import Derived.Test.YtpmnipaimoaagaaDoorQG
set_option linter.unusedVariables false
set_option linter.unusedSimpArgs false
namespace Go.Px
open Go
/-- muniment/line.quoted -/
def line_quoted (x : (ByteArray × Int × Unit)) : Option (ByteArray × Int × Bool × Unit) := Quo.conQuoted x
/-- unicode/utf8.DecodeRuneInString -/
def unicode_utf8_DecodeRuneInString (x : (ByteArray × Unit)) : Option (Int × Int × Unit) := some ((((if x.1.size = 0 then ((65533, 0) : Nat × Nat) else Utf8.decode x.1 0).1 : Nat) : Int), (((if x.1.size = 0 then ((65533, 0) : Nat × Nat) else Utf8.decode x.1 0).2 : Nat) : Int), ())
/-- muniment/line.wrong -/
def line_wrong.b (f30 : (ByteArray × Unit) → Option (Int × Int × Unit)) : (ByteArray × Int × Int × Unit) → Option Bool
  | (x0, x1, x2, _) =>
    chk (leB 0 x1 && (leB x1 x0.size && leB x0.size x0.size)) <|
    (f30 ((subStr x0 x1 x0.size), ())).bind fun v13 =>
    cond (ieq x2 65533) (
    some (ieq v13.2.1 1)) (
    some false)
def line_wrong (x : (ByteArray × Int × Int × Unit)) : Option Bool := line_wrong.b unicode_utf8_DecodeRuneInString x
/-- muniment/line.bare -/
def line_bare.s0b (f26 : (ByteArray × Int × Int × Unit) → Option Bool) (kx : (ByteArray × Int × Unit) → Option (ByteArray × Int × Bool × Unit)) : (ByteArray × Int × (ByteArray × Nat) × Unit) → ((ByteArray × Int × (ByteArray × Nat) × Unit) → Option (ByteArray × Int × Bool × Unit)) → Option (ByteArray × Int × Bool × Unit)
  | (t0, t1, t12, _), κ =>
    cond (decide (t12.2 < t12.1.size)) (
    cond (ieq ((Utf8.decode t12.1 t12.2).1 : Int) 32) (
    chk (leB 0 t1 && (leB t1 (iadd .i64 t1 (t12.2 : Int)) && leB (iadd .i64 t1 (t12.2 : Int)) t0.size)) <|
    some ((subStr t0 t1 (iadd .i64 t1 (t12.2 : Int))), (iadd .i64 t1 (t12.2 : Int)), true, ())) (
    cond (ilt ((Utf8.decode t12.1 t12.2).1 : Int) 32) (
    cond (ilt ((Utf8.decode t12.1 t12.2).1 : Int) 32) (
    some ((⟨#[]⟩ : ByteArray), (iadd .i64 t1 (t12.2 : Int)), false, ())) (
    κ (t0, t1, (t12.1, (t12.2 + (Utf8.decode t12.1 t12.2).2)), ()))) (
    cond (ieq ((Utf8.decode t12.1 t12.2).1 : Int) 34) (
    cond (ieq ((Utf8.decode t12.1 t12.2).1 : Int) 34) (
    some ((⟨#[]⟩ : ByteArray), (iadd .i64 t1 (t12.2 : Int)), false, ())) (
    κ (t0, t1, (t12.1, (t12.2 + (Utf8.decode t12.1 t12.2).2)), ()))) (
    cond (ieq ((Utf8.decode t12.1 t12.2).1 : Int) 92) (
    cond (ieq ((Utf8.decode t12.1 t12.2).1 : Int) 92) (
    some ((⟨#[]⟩ : ByteArray), (iadd .i64 t1 (t12.2 : Int)), false, ())) (
    κ (t0, t1, (t12.1, (t12.2 + (Utf8.decode t12.1 t12.2).2)), ()))) (
    cond (ieq ((Utf8.decode t12.1 t12.2).1 : Int) 127) (
    cond (ieq ((Utf8.decode t12.1 t12.2).1 : Int) 127) (
    some ((⟨#[]⟩ : ByteArray), (iadd .i64 t1 (t12.2 : Int)), false, ())) (
    κ (t0, t1, (t12.1, (t12.2 + (Utf8.decode t12.1 t12.2).2)), ()))) (
    (f26 (t0, (iadd .i64 t1 (t12.2 : Int)), ((Utf8.decode t12.1 t12.2).1 : Int), ())).bind fun v43 =>
    cond v43 (
    some ((⟨#[]⟩ : ByteArray), (iadd .i64 t1 (t12.2 : Int)), false, ())) (
    κ (t0, t1, (t12.1, (t12.2 + (Utf8.decode t12.1 t12.2).2)), ())))))))) (
    kx (t0, t1, ()))
def line_bare.s0 (kx : (ByteArray × Int × Unit) → Option (ByteArray × Int × Bool × Unit)) : (ByteArray × Int × (ByteArray × Nat) × Unit) → ((ByteArray × Int × (ByteArray × Nat) × Unit) → Option (ByteArray × Int × Bool × Unit)) → Option (ByteArray × Int × Bool × Unit) := line_bare.s0b line_wrong kx
def line_bare.n0 : (ByteArray × Int × (ByteArray × Nat) × Unit) → Nat
  | (t0, t1, t12, _) => t0.size + t1.toNat + t12.1.size + 1048576
def line_bare.l0 (x : ByteArray × Int × (ByteArray × Nat) × Unit) (kx : (ByteArray × Int × Unit) → Option (ByteArray × Int × Bool × Unit)) : Option (ByteArray × Int × Bool × Unit) := loopN (line_bare.n0 x) (line_bare.s0 kx) x
def line_bare.b (l0 : (ByteArray × Int × (ByteArray × Nat) × Unit) → ((ByteArray × Int × Unit) → Option (ByteArray × Int × Bool × Unit)) → Option (ByteArray × Int × Bool × Unit)) : (ByteArray × Int × Unit) → Option (ByteArray × Int × Bool × Unit)
  | (x0, x1, _) =>
    chk (leB 0 x1 && (leB x1 x0.size && leB x0.size x0.size)) <|
    l0 (x0, x1, ((subStr x0 x1 x0.size), 0), ()) fun (t0, t1, _) =>
    chk (leB 0 t1 && (leB t1 t0.size && leB t0.size t0.size)) <|
    some ((subStr t0 t1 t0.size), (t0.size : Int), true, ())
def line_bare (x : (ByteArray × Int × Unit)) : Option (ByteArray × Int × Bool × Unit) := line_bare.b line_bare.l0 x
/-- muniment/line.Words -/
def line_Words.s2b (kx : (ByteArray × List ByteArray × Int × Unit) → Option (List ByteArray × Int × Int × Unit)) : (ByteArray × List ByteArray × Int × Unit) → ((ByteArray × List ByteArray × Int × Unit) → Option (List ByteArray × Int × Int × Unit)) → Option (List ByteArray × Int × Int × Unit)
  | (t0, t5, t6, _), κ =>
    cond (ilt t6 (t0.size : Int)) (
    chk (inB t6 t0.size) <|
    cond (ieq (byteAt t0 t6.toNat) 32) (
    κ (t0, t5, (iadd .i64 t6 1), ())) (
    kx (t0, t5, t6, ()))) (
    kx (t0, t5, t6, ()))
def line_Words.s2 (kx : (ByteArray × List ByteArray × Int × Unit) → Option (List ByteArray × Int × Int × Unit)) : (ByteArray × List ByteArray × Int × Unit) → ((ByteArray × List ByteArray × Int × Unit) → Option (List ByteArray × Int × Int × Unit)) → Option (List ByteArray × Int × Int × Unit) := line_Words.s2b kx
def line_Words.n2 : (ByteArray × List ByteArray × Int × Unit) → Nat
  | (t0, t5, t6, _) => t0.size + t5.length + t6.toNat + 1048576
def line_Words.l2 (x : ByteArray × List ByteArray × Int × Unit) (kx : (ByteArray × List ByteArray × Int × Unit) → Option (List ByteArray × Int × Int × Unit)) : Option (List ByteArray × Int × Int × Unit) := loopN (line_Words.n2 x) (line_Words.s2 kx) x
def line_Words.s0b (f20 : (ByteArray × Int × Unit) → Option (ByteArray × Int × Bool × Unit)) (f21 : (ByteArray × Int × Unit) → Option (ByteArray × Int × Bool × Unit)) (l2 : (ByteArray × List ByteArray × Int × Unit) → ((ByteArray × List ByteArray × Int × Unit) → Option (List ByteArray × Int × Int × Unit)) → Option (List ByteArray × Int × Int × Unit)) (kx : Unit → Option (List ByteArray × Int × Int × Unit)) : (ByteArray × List ByteArray × Int × Unit) → ((ByteArray × List ByteArray × Int × Unit) → Option (List ByteArray × Int × Int × Unit)) → Option (List ByteArray × Int × Int × Unit)
  | (t0, t5, t6, _), κ =>
    l2 (t0, t5, t6, ()) fun (t0, t5, t6, _) =>
    cond (ieq t6 (t0.size : Int)) (
    some (t5, 0, 0, ())) (
    chk (inB t6 t0.size) <|
    cond (ieq (byteAt t0 t6.toNat) 34) (
    (f20 (t0, (iadd .i64 t6 1), ())).bind fun v37 =>
    cond (!v37.2.2.1) (
    some ([], v37.2.1, 4, ())) (
    chk (fits 16 (t5.length + 1)) <|
    κ (t0, (t5 ++ [v37.1]), v37.2.1, ()))) (
    (f21 (t0, t6, ())).bind fun v44 =>
    cond (!v44.2.2.1) (
    some ([], v44.2.1, 4, ())) (
    chk (fits 16 (t5.length + 1)) <|
    κ (t0, (t5 ++ [v44.1]), v44.2.1, ()))))
def line_Words.s0 (kx : Unit → Option (List ByteArray × Int × Int × Unit)) : (ByteArray × List ByteArray × Int × Unit) → ((ByteArray × List ByteArray × Int × Unit) → Option (List ByteArray × Int × Int × Unit)) → Option (List ByteArray × Int × Int × Unit) := line_Words.s0b line_quoted line_bare line_Words.l2 kx
def line_Words.n0 : (ByteArray × List ByteArray × Int × Unit) → Nat
  | (t0, t5, t6, _) => t0.size + t5.length + t6.toNat + 1048576
def line_Words.l0 (x : ByteArray × List ByteArray × Int × Unit) (kx : Unit → Option (List ByteArray × Int × Int × Unit)) : Option (List ByteArray × Int × Int × Unit) := loopN (line_Words.n0 x) (line_Words.s0 kx) x
def line_Words.b (l0 : (ByteArray × List ByteArray × Int × Unit) → (Unit → Option (List ByteArray × Int × Int × Unit)) → Option (List ByteArray × Int × Int × Unit)) : (ByteArray × Unit) → Option (List ByteArray × Int × Int × Unit)
  | (x0, _) =>
    cond (igt (x0.size : Int) 300) (
    some ([], 0, 2, ())) (
    l0 (x0, [], 0, ()) fun _ =>
    none)
def line_Words (x : (ByteArray × Unit)) : Option (List ByteArray × Int × Int × Unit) := line_Words.b line_Words.l0 x
/-- muniment/munimentlaw05.awake -/
def w05_awake.b (f13 : (ByteArray × Unit) → Option (List ByteArray × Int × Int × Unit)) : Unit → Option Bool
  | (_) =>
    (f13 ((⟨#[97, 32, 34, 98, 32, 99, 34, 32, 34, 100, 92, 34, 101, 34]⟩ : ByteArray), ())).bind fun v5 =>
    cond (ieq v5.2.2.1 0) (
    cond (ieq (v5.1.length : Int) 3) (
    chk (inB 1 v5.1.length) <|
    cond (seq (v5.1.getD 1 ByteArray.empty) (⟨#[98, 32, 99]⟩ : ByteArray)) (
    chk (inB 2 v5.1.length) <|
    some (seq (v5.1.getD 2 ByteArray.empty) (⟨#[100, 34, 101]⟩ : ByteArray))) (
    some false)) (
    some false)) (
    some false)
def w05_awake (x : Unit) : Option Bool := w05_awake.b line_Words x
/-- muniment/munimentref03.Chars -/
def r03_Chars.s0b (f30 : (ByteArray × Unit) → Option (Int × Int × Unit)) (kx : (List (Int × Int × Bool × Unit) × Unit) → Option (List (Int × Int × Bool × Unit))) : (ByteArray × List (Int × Int × Bool × Unit) × Int × Unit) → ((ByteArray × List (Int × Int × Bool × Unit) × Int × Unit) → Option (List (Int × Int × Bool × Unit))) → Option (List (Int × Int × Bool × Unit))
  | (t0, t3, t4, _), κ =>
    cond (ilt t4 (t0.size : Int)) (
    chk (leB 0 t4 && (leB t4 t0.size && leB t0.size t0.size)) <|
    (f30 ((subStr t0 t4 t0.size), ())).bind fun v15 =>
    cond (ine v15.1 65533) (
    chk (fits 24 (t3.length + 1)) <|
    κ (t0, (t3 ++ [(v15.1, t4, true, ())]), (iadd .i64 t4 v15.2.1), ())) (
    chk (fits 24 (t3.length + 1)) <|
    κ (t0, (t3 ++ [(v15.1, t4, (ieq v15.2.1 3), ())]), (iadd .i64 t4 v15.2.1), ()))) (
    kx (t3, ()))
def r03_Chars.s0 (kx : (List (Int × Int × Bool × Unit) × Unit) → Option (List (Int × Int × Bool × Unit))) : (ByteArray × List (Int × Int × Bool × Unit) × Int × Unit) → ((ByteArray × List (Int × Int × Bool × Unit) × Int × Unit) → Option (List (Int × Int × Bool × Unit))) → Option (List (Int × Int × Bool × Unit)) := r03_Chars.s0b unicode_utf8_DecodeRuneInString kx
def r03_Chars.n0 : (ByteArray × List (Int × Int × Bool × Unit) × Int × Unit) → Nat
  | (t0, t3, t4, _) => t0.size + t3.length + t4.toNat + 1048576
def r03_Chars.l0 (x : ByteArray × List (Int × Int × Bool × Unit) × Int × Unit) (kx : (List (Int × Int × Bool × Unit) × Unit) → Option (List (Int × Int × Bool × Unit))) : Option (List (Int × Int × Bool × Unit)) := loopN (r03_Chars.n0 x) (r03_Chars.s0 kx) x
def r03_Chars.b (l0 : (ByteArray × List (Int × Int × Bool × Unit) × Int × Unit) → ((List (Int × Int × Bool × Unit) × Unit) → Option (List (Int × Int × Bool × Unit))) → Option (List (Int × Int × Bool × Unit))) : (ByteArray × Unit) → Option (List (Int × Int × Bool × Unit))
  | (x0, _) =>
    l0 (x0, [], 0, ()) fun (t3, _) =>
    some t3
def r03_Chars (x : (ByteArray × Unit)) : Option (List (Int × Int × Bool × Unit)) := r03_Chars.b r03_Chars.l0 x
/-- muniment/munimentref05.plain -/
def r05_plain.b : ((Int × Int × Bool × Unit) × Unit) → Option Bool
  | (x0, _) =>
    cond x0.2.2.1 (
    cond (ige x0.1 32) (
    some (ine x0.1 127)) (
    some false)) (
    some false)
def r05_plain (x : ((Int × Int × Bool × Unit) × Unit)) : Option Bool := r05_plain.b x
/-- muniment/munimentref05.Words -/
def r05_Words.s0b (f23 : ((Int × Int × Bool × Unit) × Unit) → Option Bool) (kx : (ByteArray × List ByteArray × ByteArray × Int × Unit) → Option (List ByteArray × Int × Int × Unit)) : (ByteArray × List (Int × Int × Bool × Unit) × List ByteArray × ByteArray × Int × Int × Unit) → ((ByteArray × List (Int × Int × Bool × Unit) × List ByteArray × ByteArray × Int × Int × Unit) → Option (List ByteArray × Int × Int × Unit)) → Option (List ByteArray × Int × Int × Unit)
  | (t0, t5, t6, t7, t8, t9, _), κ =>
    cond (ilt t9 (t5.length : Int)) (
    chk (inB t9 t5.length) <|
    cond (ilt (iadd .i64 t9 1) (t5.length : Int)) (
    chk (inB (iadd .i64 t9 1) t5.length) <|
    chk (leB 0 ((t5.getD t9.toNat ((0 : Int), (0 : Int), false, ())).2.1) && (leB ((t5.getD t9.toNat ((0 : Int), (0 : Int), false, ())).2.1) ((t5.getD (iadd .i64 t9 1).toNat ((0 : Int), (0 : Int), false, ())).2.1) && leB ((t5.getD (iadd .i64 t9 1).toNat ((0 : Int), (0 : Int), false, ())).2.1) t0.size)) <|
    (f23 (((t5.getD t9.toNat ((0 : Int), (0 : Int), false, ())).1, (t5.getD t9.toNat ((0 : Int), (0 : Int), false, ())).2.1, (t5.getD t9.toNat ((0 : Int), (0 : Int), false, ())).2.2.1, ()), ())).bind fun v49 =>
    cond (ieq t8 0) (
    cond (ieq ((t5.getD t9.toNat ((0 : Int), (0 : Int), false, ())).1) 32) (
    cond ((t5.getD t9.toNat ((0 : Int), (0 : Int), false, ())).2.2.1) (
    κ (t0, t5, t6, t7, t8, (iadd .i64 t9 1), ())) (
    cond (ieq ((t5.getD t9.toNat ((0 : Int), (0 : Int), false, ())).1) 34) (
    cond (!v49) (
    some ([], (t5.getD t9.toNat ((0 : Int), (0 : Int), false, ())).2.1, 4, ())) (
    cond (ieq ((t5.getD t9.toNat ((0 : Int), (0 : Int), false, ())).1) 92) (
    some ([], (t5.getD t9.toNat ((0 : Int), (0 : Int), false, ())).2.1, 4, ())) (
    chk (decide (t7.size + (⟨#[]⟩ : ByteArray).size < 4611686018427387904)) <|
    κ (t0, t5, t6, (t7 ++ (⟨#[]⟩ : ByteArray)), 2, (iadd .i64 t9 1), ())))) (
    cond (!v49) (
    some ([], (t5.getD t9.toNat ((0 : Int), (0 : Int), false, ())).2.1, 4, ())) (
    cond (ieq ((t5.getD t9.toNat ((0 : Int), (0 : Int), false, ())).1) 92) (
    some ([], (t5.getD t9.toNat ((0 : Int), (0 : Int), false, ())).2.1, 4, ())) (
    chk (decide (t7.size + (subStr t0 ((t5.getD t9.toNat ((0 : Int), (0 : Int), false, ())).2.1) ((t5.getD (iadd .i64 t9 1).toNat ((0 : Int), (0 : Int), false, ())).2.1)).size < 4611686018427387904)) <|
    κ (t0, t5, t6, (t7 ++ (subStr t0 ((t5.getD t9.toNat ((0 : Int), (0 : Int), false, ())).2.1) ((t5.getD (iadd .i64 t9 1).toNat ((0 : Int), (0 : Int), false, ())).2.1))), 1, (iadd .i64 t9 1), ())))))) (
    cond (ieq ((t5.getD t9.toNat ((0 : Int), (0 : Int), false, ())).1) 34) (
    cond (!v49) (
    some ([], (t5.getD t9.toNat ((0 : Int), (0 : Int), false, ())).2.1, 4, ())) (
    cond (ieq ((t5.getD t9.toNat ((0 : Int), (0 : Int), false, ())).1) 92) (
    some ([], (t5.getD t9.toNat ((0 : Int), (0 : Int), false, ())).2.1, 4, ())) (
    chk (decide (t7.size + (⟨#[]⟩ : ByteArray).size < 4611686018427387904)) <|
    κ (t0, t5, t6, (t7 ++ (⟨#[]⟩ : ByteArray)), 2, (iadd .i64 t9 1), ())))) (
    cond (!v49) (
    some ([], (t5.getD t9.toNat ((0 : Int), (0 : Int), false, ())).2.1, 4, ())) (
    cond (ieq ((t5.getD t9.toNat ((0 : Int), (0 : Int), false, ())).1) 92) (
    some ([], (t5.getD t9.toNat ((0 : Int), (0 : Int), false, ())).2.1, 4, ())) (
    chk (decide (t7.size + (subStr t0 ((t5.getD t9.toNat ((0 : Int), (0 : Int), false, ())).2.1) ((t5.getD (iadd .i64 t9 1).toNat ((0 : Int), (0 : Int), false, ())).2.1)).size < 4611686018427387904)) <|
    κ (t0, t5, t6, (t7 ++ (subStr t0 ((t5.getD t9.toNat ((0 : Int), (0 : Int), false, ())).2.1) ((t5.getD (iadd .i64 t9 1).toNat ((0 : Int), (0 : Int), false, ())).2.1))), 1, (iadd .i64 t9 1), ())))))) (
    cond (ieq t8 1) (
    cond (ieq ((t5.getD t9.toNat ((0 : Int), (0 : Int), false, ())).1) 32) (
    chk (fits 16 (t6.length + 1)) <|
    κ (t0, t5, (t6 ++ [t7]), (⟨#[]⟩ : ByteArray), 0, (iadd .i64 t9 1), ())) (
    cond (!v49) (
    some ([], (t5.getD t9.toNat ((0 : Int), (0 : Int), false, ())).2.1, 4, ())) (
    cond (ieq ((t5.getD t9.toNat ((0 : Int), (0 : Int), false, ())).1) 34) (
    some ([], (t5.getD t9.toNat ((0 : Int), (0 : Int), false, ())).2.1, 4, ())) (
    cond (ieq ((t5.getD t9.toNat ((0 : Int), (0 : Int), false, ())).1) 92) (
    some ([], (t5.getD t9.toNat ((0 : Int), (0 : Int), false, ())).2.1, 4, ())) (
    chk (decide (t7.size + (subStr t0 ((t5.getD t9.toNat ((0 : Int), (0 : Int), false, ())).2.1) ((t5.getD (iadd .i64 t9 1).toNat ((0 : Int), (0 : Int), false, ())).2.1)).size < 4611686018427387904)) <|
    κ (t0, t5, t6, (t7 ++ (subStr t0 ((t5.getD t9.toNat ((0 : Int), (0 : Int), false, ())).2.1) ((t5.getD (iadd .i64 t9 1).toNat ((0 : Int), (0 : Int), false, ())).2.1))), t8, (iadd .i64 t9 1), ())))))) (
    cond (ieq t8 2) (
    cond (ieq ((t5.getD t9.toNat ((0 : Int), (0 : Int), false, ())).1) 92) (
    cond (ieq ((t5.getD t9.toNat ((0 : Int), (0 : Int), false, ())).1) 34) (
    cond (!v49) (
    some ([], (t5.getD t9.toNat ((0 : Int), (0 : Int), false, ())).2.1, 4, ())) (
    chk (decide (t7.size + (⟨#[]⟩ : ByteArray).size < 4611686018427387904)) <|
    κ (t0, t5, t6, (t7 ++ (⟨#[]⟩ : ByteArray)), 4, (iadd .i64 t9 1), ()))) (
    cond (!v49) (
    some ([], (t5.getD t9.toNat ((0 : Int), (0 : Int), false, ())).2.1, 4, ())) (
    chk (decide (t7.size + (⟨#[]⟩ : ByteArray).size < 4611686018427387904)) <|
    κ (t0, t5, t6, (t7 ++ (⟨#[]⟩ : ByteArray)), 3, (iadd .i64 t9 1), ())))) (
    cond (ieq ((t5.getD t9.toNat ((0 : Int), (0 : Int), false, ())).1) 34) (
    cond (!v49) (
    some ([], (t5.getD t9.toNat ((0 : Int), (0 : Int), false, ())).2.1, 4, ())) (
    chk (decide (t7.size + (⟨#[]⟩ : ByteArray).size < 4611686018427387904)) <|
    κ (t0, t5, t6, (t7 ++ (⟨#[]⟩ : ByteArray)), 4, (iadd .i64 t9 1), ()))) (
    cond (!v49) (
    some ([], (t5.getD t9.toNat ((0 : Int), (0 : Int), false, ())).2.1, 4, ())) (
    chk (decide (t7.size + (subStr t0 ((t5.getD t9.toNat ((0 : Int), (0 : Int), false, ())).2.1) ((t5.getD (iadd .i64 t9 1).toNat ((0 : Int), (0 : Int), false, ())).2.1)).size < 4611686018427387904)) <|
    κ (t0, t5, t6, (t7 ++ (subStr t0 ((t5.getD t9.toNat ((0 : Int), (0 : Int), false, ())).2.1) ((t5.getD (iadd .i64 t9 1).toNat ((0 : Int), (0 : Int), false, ())).2.1))), t8, (iadd .i64 t9 1), ()))))) (
    cond (ieq t8 3) (
    cond (ine ((t5.getD t9.toNat ((0 : Int), (0 : Int), false, ())).1) 34) (
    cond (ine ((t5.getD t9.toNat ((0 : Int), (0 : Int), false, ())).1) 92) (
    some ([], (t5.getD t9.toNat ((0 : Int), (0 : Int), false, ())).2.1, 4, ())) (
    chk (decide (t7.size + (subStr t0 ((t5.getD t9.toNat ((0 : Int), (0 : Int), false, ())).2.1) ((t5.getD (iadd .i64 t9 1).toNat ((0 : Int), (0 : Int), false, ())).2.1)).size < 4611686018427387904)) <|
    κ (t0, t5, t6, (t7 ++ (subStr t0 ((t5.getD t9.toNat ((0 : Int), (0 : Int), false, ())).2.1) ((t5.getD (iadd .i64 t9 1).toNat ((0 : Int), (0 : Int), false, ())).2.1))), 2, (iadd .i64 t9 1), ()))) (
    chk (decide (t7.size + (subStr t0 ((t5.getD t9.toNat ((0 : Int), (0 : Int), false, ())).2.1) ((t5.getD (iadd .i64 t9 1).toNat ((0 : Int), (0 : Int), false, ())).2.1)).size < 4611686018427387904)) <|
    κ (t0, t5, t6, (t7 ++ (subStr t0 ((t5.getD t9.toNat ((0 : Int), (0 : Int), false, ())).2.1) ((t5.getD (iadd .i64 t9 1).toNat ((0 : Int), (0 : Int), false, ())).2.1))), 2, (iadd .i64 t9 1), ()))) (
    cond (ieq t8 4) (
    chk (fits 16 (t6.length + 1)) <|
    cond (ine ((t5.getD t9.toNat ((0 : Int), (0 : Int), false, ())).1) 32) (
    some ([], (t5.getD t9.toNat ((0 : Int), (0 : Int), false, ())).2.1, 4, ())) (
    chk (decide ((⟨#[]⟩ : ByteArray).size + (⟨#[]⟩ : ByteArray).size < 4611686018427387904)) <|
    κ (t0, t5, (t6 ++ [t7]), ((⟨#[]⟩ : ByteArray) ++ (⟨#[]⟩ : ByteArray)), 0, (iadd .i64 t9 1), ()))) (
    cond (!v49) (
    some ([], (t5.getD t9.toNat ((0 : Int), (0 : Int), false, ())).2.1, 4, ())) (
    chk (decide (t7.size + (subStr t0 ((t5.getD t9.toNat ((0 : Int), (0 : Int), false, ())).2.1) ((t5.getD (iadd .i64 t9 1).toNat ((0 : Int), (0 : Int), false, ())).2.1)).size < 4611686018427387904)) <|
    κ (t0, t5, t6, (t7 ++ (subStr t0 ((t5.getD t9.toNat ((0 : Int), (0 : Int), false, ())).2.1) ((t5.getD (iadd .i64 t9 1).toNat ((0 : Int), (0 : Int), false, ())).2.1))), t8, (iadd .i64 t9 1), ())))))))) (
    chk (leB 0 ((t5.getD t9.toNat ((0 : Int), (0 : Int), false, ())).2.1) && (leB ((t5.getD t9.toNat ((0 : Int), (0 : Int), false, ())).2.1) (t0.size : Int) && leB (t0.size : Int) t0.size)) <|
    (f23 (((t5.getD t9.toNat ((0 : Int), (0 : Int), false, ())).1, (t5.getD t9.toNat ((0 : Int), (0 : Int), false, ())).2.1, (t5.getD t9.toNat ((0 : Int), (0 : Int), false, ())).2.2.1, ()), ())).bind fun v49 =>
    cond (ieq t8 0) (
    cond (ieq ((t5.getD t9.toNat ((0 : Int), (0 : Int), false, ())).1) 32) (
    cond ((t5.getD t9.toNat ((0 : Int), (0 : Int), false, ())).2.2.1) (
    κ (t0, t5, t6, t7, t8, (iadd .i64 t9 1), ())) (
    cond (ieq ((t5.getD t9.toNat ((0 : Int), (0 : Int), false, ())).1) 34) (
    cond (!v49) (
    some ([], (t5.getD t9.toNat ((0 : Int), (0 : Int), false, ())).2.1, 4, ())) (
    cond (ieq ((t5.getD t9.toNat ((0 : Int), (0 : Int), false, ())).1) 92) (
    some ([], (t5.getD t9.toNat ((0 : Int), (0 : Int), false, ())).2.1, 4, ())) (
    chk (decide (t7.size + (⟨#[]⟩ : ByteArray).size < 4611686018427387904)) <|
    κ (t0, t5, t6, (t7 ++ (⟨#[]⟩ : ByteArray)), 2, (iadd .i64 t9 1), ())))) (
    cond (!v49) (
    some ([], (t5.getD t9.toNat ((0 : Int), (0 : Int), false, ())).2.1, 4, ())) (
    cond (ieq ((t5.getD t9.toNat ((0 : Int), (0 : Int), false, ())).1) 92) (
    some ([], (t5.getD t9.toNat ((0 : Int), (0 : Int), false, ())).2.1, 4, ())) (
    chk (decide (t7.size + (subStr t0 ((t5.getD t9.toNat ((0 : Int), (0 : Int), false, ())).2.1) (t0.size : Int)).size < 4611686018427387904)) <|
    κ (t0, t5, t6, (t7 ++ (subStr t0 ((t5.getD t9.toNat ((0 : Int), (0 : Int), false, ())).2.1) (t0.size : Int))), 1, (iadd .i64 t9 1), ())))))) (
    cond (ieq ((t5.getD t9.toNat ((0 : Int), (0 : Int), false, ())).1) 34) (
    cond (!v49) (
    some ([], (t5.getD t9.toNat ((0 : Int), (0 : Int), false, ())).2.1, 4, ())) (
    cond (ieq ((t5.getD t9.toNat ((0 : Int), (0 : Int), false, ())).1) 92) (
    some ([], (t5.getD t9.toNat ((0 : Int), (0 : Int), false, ())).2.1, 4, ())) (
    chk (decide (t7.size + (⟨#[]⟩ : ByteArray).size < 4611686018427387904)) <|
    κ (t0, t5, t6, (t7 ++ (⟨#[]⟩ : ByteArray)), 2, (iadd .i64 t9 1), ())))) (
    cond (!v49) (
    some ([], (t5.getD t9.toNat ((0 : Int), (0 : Int), false, ())).2.1, 4, ())) (
    cond (ieq ((t5.getD t9.toNat ((0 : Int), (0 : Int), false, ())).1) 92) (
    some ([], (t5.getD t9.toNat ((0 : Int), (0 : Int), false, ())).2.1, 4, ())) (
    chk (decide (t7.size + (subStr t0 ((t5.getD t9.toNat ((0 : Int), (0 : Int), false, ())).2.1) (t0.size : Int)).size < 4611686018427387904)) <|
    κ (t0, t5, t6, (t7 ++ (subStr t0 ((t5.getD t9.toNat ((0 : Int), (0 : Int), false, ())).2.1) (t0.size : Int))), 1, (iadd .i64 t9 1), ())))))) (
    cond (ieq t8 1) (
    cond (ieq ((t5.getD t9.toNat ((0 : Int), (0 : Int), false, ())).1) 32) (
    chk (fits 16 (t6.length + 1)) <|
    κ (t0, t5, (t6 ++ [t7]), (⟨#[]⟩ : ByteArray), 0, (iadd .i64 t9 1), ())) (
    cond (!v49) (
    some ([], (t5.getD t9.toNat ((0 : Int), (0 : Int), false, ())).2.1, 4, ())) (
    cond (ieq ((t5.getD t9.toNat ((0 : Int), (0 : Int), false, ())).1) 34) (
    some ([], (t5.getD t9.toNat ((0 : Int), (0 : Int), false, ())).2.1, 4, ())) (
    cond (ieq ((t5.getD t9.toNat ((0 : Int), (0 : Int), false, ())).1) 92) (
    some ([], (t5.getD t9.toNat ((0 : Int), (0 : Int), false, ())).2.1, 4, ())) (
    chk (decide (t7.size + (subStr t0 ((t5.getD t9.toNat ((0 : Int), (0 : Int), false, ())).2.1) (t0.size : Int)).size < 4611686018427387904)) <|
    κ (t0, t5, t6, (t7 ++ (subStr t0 ((t5.getD t9.toNat ((0 : Int), (0 : Int), false, ())).2.1) (t0.size : Int))), t8, (iadd .i64 t9 1), ())))))) (
    cond (ieq t8 2) (
    cond (ieq ((t5.getD t9.toNat ((0 : Int), (0 : Int), false, ())).1) 92) (
    cond (ieq ((t5.getD t9.toNat ((0 : Int), (0 : Int), false, ())).1) 34) (
    cond (!v49) (
    some ([], (t5.getD t9.toNat ((0 : Int), (0 : Int), false, ())).2.1, 4, ())) (
    chk (decide (t7.size + (⟨#[]⟩ : ByteArray).size < 4611686018427387904)) <|
    κ (t0, t5, t6, (t7 ++ (⟨#[]⟩ : ByteArray)), 4, (iadd .i64 t9 1), ()))) (
    cond (!v49) (
    some ([], (t5.getD t9.toNat ((0 : Int), (0 : Int), false, ())).2.1, 4, ())) (
    chk (decide (t7.size + (⟨#[]⟩ : ByteArray).size < 4611686018427387904)) <|
    κ (t0, t5, t6, (t7 ++ (⟨#[]⟩ : ByteArray)), 3, (iadd .i64 t9 1), ())))) (
    cond (ieq ((t5.getD t9.toNat ((0 : Int), (0 : Int), false, ())).1) 34) (
    cond (!v49) (
    some ([], (t5.getD t9.toNat ((0 : Int), (0 : Int), false, ())).2.1, 4, ())) (
    chk (decide (t7.size + (⟨#[]⟩ : ByteArray).size < 4611686018427387904)) <|
    κ (t0, t5, t6, (t7 ++ (⟨#[]⟩ : ByteArray)), 4, (iadd .i64 t9 1), ()))) (
    cond (!v49) (
    some ([], (t5.getD t9.toNat ((0 : Int), (0 : Int), false, ())).2.1, 4, ())) (
    chk (decide (t7.size + (subStr t0 ((t5.getD t9.toNat ((0 : Int), (0 : Int), false, ())).2.1) (t0.size : Int)).size < 4611686018427387904)) <|
    κ (t0, t5, t6, (t7 ++ (subStr t0 ((t5.getD t9.toNat ((0 : Int), (0 : Int), false, ())).2.1) (t0.size : Int))), t8, (iadd .i64 t9 1), ()))))) (
    cond (ieq t8 3) (
    cond (ine ((t5.getD t9.toNat ((0 : Int), (0 : Int), false, ())).1) 34) (
    cond (ine ((t5.getD t9.toNat ((0 : Int), (0 : Int), false, ())).1) 92) (
    some ([], (t5.getD t9.toNat ((0 : Int), (0 : Int), false, ())).2.1, 4, ())) (
    chk (decide (t7.size + (subStr t0 ((t5.getD t9.toNat ((0 : Int), (0 : Int), false, ())).2.1) (t0.size : Int)).size < 4611686018427387904)) <|
    κ (t0, t5, t6, (t7 ++ (subStr t0 ((t5.getD t9.toNat ((0 : Int), (0 : Int), false, ())).2.1) (t0.size : Int))), 2, (iadd .i64 t9 1), ()))) (
    chk (decide (t7.size + (subStr t0 ((t5.getD t9.toNat ((0 : Int), (0 : Int), false, ())).2.1) (t0.size : Int)).size < 4611686018427387904)) <|
    κ (t0, t5, t6, (t7 ++ (subStr t0 ((t5.getD t9.toNat ((0 : Int), (0 : Int), false, ())).2.1) (t0.size : Int))), 2, (iadd .i64 t9 1), ()))) (
    cond (ieq t8 4) (
    chk (fits 16 (t6.length + 1)) <|
    cond (ine ((t5.getD t9.toNat ((0 : Int), (0 : Int), false, ())).1) 32) (
    some ([], (t5.getD t9.toNat ((0 : Int), (0 : Int), false, ())).2.1, 4, ())) (
    chk (decide ((⟨#[]⟩ : ByteArray).size + (⟨#[]⟩ : ByteArray).size < 4611686018427387904)) <|
    κ (t0, t5, (t6 ++ [t7]), ((⟨#[]⟩ : ByteArray) ++ (⟨#[]⟩ : ByteArray)), 0, (iadd .i64 t9 1), ()))) (
    cond (!v49) (
    some ([], (t5.getD t9.toNat ((0 : Int), (0 : Int), false, ())).2.1, 4, ())) (
    chk (decide (t7.size + (subStr t0 ((t5.getD t9.toNat ((0 : Int), (0 : Int), false, ())).2.1) (t0.size : Int)).size < 4611686018427387904)) <|
    κ (t0, t5, t6, (t7 ++ (subStr t0 ((t5.getD t9.toNat ((0 : Int), (0 : Int), false, ())).2.1) (t0.size : Int))), t8, (iadd .i64 t9 1), ()))))))))) (
    kx (t0, t6, t7, t8, ()))
def r05_Words.s0 (kx : (ByteArray × List ByteArray × ByteArray × Int × Unit) → Option (List ByteArray × Int × Int × Unit)) : (ByteArray × List (Int × Int × Bool × Unit) × List ByteArray × ByteArray × Int × Int × Unit) → ((ByteArray × List (Int × Int × Bool × Unit) × List ByteArray × ByteArray × Int × Int × Unit) → Option (List ByteArray × Int × Int × Unit)) → Option (List ByteArray × Int × Int × Unit) := r05_Words.s0b r05_plain kx
def r05_Words.n0 : (ByteArray × List (Int × Int × Bool × Unit) × List ByteArray × ByteArray × Int × Int × Unit) → Nat
  | (t0, t5, t6, t7, t8, t9, _) => t0.size + t5.length + t6.length + t7.size + t8.toNat + t9.toNat + 1048576
def r05_Words.l0 (x : ByteArray × List (Int × Int × Bool × Unit) × List ByteArray × ByteArray × Int × Int × Unit) (kx : (ByteArray × List ByteArray × ByteArray × Int × Unit) → Option (List ByteArray × Int × Int × Unit)) : Option (List ByteArray × Int × Int × Unit) := loopN (r05_Words.n0 x) (r05_Words.s0 kx) x
def r05_Words.b (f22 : (ByteArray × Unit) → Option (List (Int × Int × Bool × Unit))) (l0 : (ByteArray × List (Int × Int × Bool × Unit) × List ByteArray × ByteArray × Int × Int × Unit) → ((ByteArray × List ByteArray × ByteArray × Int × Unit) → Option (List ByteArray × Int × Int × Unit)) → Option (List ByteArray × Int × Int × Unit)) : (ByteArray × Unit) → Option (List ByteArray × Int × Int × Unit)
  | (x0, _) =>
    cond (igt (x0.size : Int) 300) (
    some ([], 0, 2, ())) (
    (f22 (x0, ())).bind fun v19 =>
    l0 (x0, v19, [], (⟨#[]⟩ : ByteArray), 0, 0, ()) fun (t0, t6, t7, t8, _) =>
    cond (ieq t8 2) (
    some ([], (t0.size : Int), 4, ())) (
    cond (ieq t8 3) (
    some ([], (t0.size : Int), 4, ())) (
    cond (ine t8 0) (
    chk (fits 16 (t6.length + 1)) <|
    some ((t6 ++ [t7]), 0, 0, ())) (
    some (t6, 0, 0, ())))))
def r05_Words (x : (ByteArray × Unit)) : Option (List ByteArray × Int × Int × Unit) := r05_Words.b r03_Chars r05_Words.l0 x
/-- muniment/munimentref05.Same -/
def r05_Same.s0b (kx : Unit → Option Bool) : ((Int × ((Option Addr × Nat) × List ByteArray) × Unit) × (Int × ((Option Addr × Nat) × List ByteArray) × Unit) × Int × Unit) → (((Int × ((Option Addr × Nat) × List ByteArray) × Unit) × (Int × ((Option Addr × Nat) × List ByteArray) × Unit) × Int × Unit) → Option Bool) → Option Bool
  | (t2, t3, t5, _), κ =>
    cond (ilt t5 (t2.2.1.2.length : Int)) (
    chk (inB t5 t2.2.1.2.length) <|
    chk (inB t5 t3.2.1.2.length) <|
    cond (sne (t2.2.1.2.getD t5.toNat ByteArray.empty) (t3.2.1.2.getD t5.toNat ByteArray.empty)) (
    some false) (
    κ ((t2.1, (t2.2.1.1, t2.2.1.2), ()), (t3.1, (t3.2.1.1, t3.2.1.2), ()), (iadd .i64 t5 1), ()))) (
    kx (()))
def r05_Same.s0 (kx : Unit → Option Bool) : ((Int × ((Option Addr × Nat) × List ByteArray) × Unit) × (Int × ((Option Addr × Nat) × List ByteArray) × Unit) × Int × Unit) → (((Int × ((Option Addr × Nat) × List ByteArray) × Unit) × (Int × ((Option Addr × Nat) × List ByteArray) × Unit) × Int × Unit) → Option Bool) → Option Bool := r05_Same.s0b kx
def r05_Same.n0 : ((Int × ((Option Addr × Nat) × List ByteArray) × Unit) × (Int × ((Option Addr × Nat) × List ByteArray) × Unit) × Int × Unit) → Nat
  | (t2, t3, t5, _) => t5.toNat + 1048576
def r05_Same.l0 (x : (Int × ((Option Addr × Nat) × List ByteArray) × Unit) × (Int × ((Option Addr × Nat) × List ByteArray) × Unit) × Int × Unit) (kx : Unit → Option Bool) : Option Bool := loopN (r05_Same.n0 x) (r05_Same.s0 kx) x
def r05_Same.b (l0 : ((Int × ((Option Addr × Nat) × List ByteArray) × Unit) × (Int × ((Option Addr × Nat) × List ByteArray) × Unit) × Int × Unit) → (Unit → Option Bool) → Option Bool) : ((Int × ((Option Addr × Nat) × List ByteArray) × Unit) × (Int × ((Option Addr × Nat) × List ByteArray) × Unit) × Unit) → Option Bool
  | (x0, x1, _) =>
    cond (ine x0.1 x1.1) (
    some false) (
    cond (ine (x0.2.1.2.length : Int) (x1.2.1.2.length : Int)) (
    some false) (
    l0 ((x0.1, (x0.2.1.1, x0.2.1.2), ()), (x1.1, (x1.2.1.1, x1.2.1.2), ()), 0, ()) fun (_) =>
    some true))
def r05_Same (x : ((Int × ((Option Addr × Nat) × List ByteArray) × Unit) × (Int × ((Option Addr × Nat) × List ByteArray) × Unit) × Unit)) : Option Bool := r05_Same.b r05_Same.l0 x
/-- muniment/munimentref05.verb -/
def r05_verb.s0b (kx : Unit → Option (Int × Int × Unit)) : (ByteArray × List ByteArray × List Int × Int × Unit) → ((ByteArray × List ByteArray × List Int × Int × Unit) → Option (Int × Int × Unit)) → Option (Int × Int × Unit)
  | (t0, t4, t5, t6, _), κ =>
    cond (ilt t6 11) (
    chk (inB t6 t4.length) <|
    cond (seq (t4.getD t6.toNat ByteArray.empty) t0) (
    chk (inB t6 t5.length) <|
    some ((IntKind.wrap .u8 (iadd .i64 t6 1)), (t5.getD t6.toNat (0 : Int)), ())) (
    κ (t0, t4, t5, (iadd .i64 t6 1), ()))) (
    kx (()))
def r05_verb.s0 (kx : Unit → Option (Int × Int × Unit)) : (ByteArray × List ByteArray × List Int × Int × Unit) → ((ByteArray × List ByteArray × List Int × Int × Unit) → Option (Int × Int × Unit)) → Option (Int × Int × Unit) := r05_verb.s0b kx
def r05_verb.n0 : (ByteArray × List ByteArray × List Int × Int × Unit) → Nat
  | (t0, t4, t5, t6, _) => t0.size + t4.length + t5.length + t6.toNat + 1048576
def r05_verb.l0 (x : ByteArray × List ByteArray × List Int × Int × Unit) (kx : Unit → Option (Int × Int × Unit)) : Option (Int × Int × Unit) := loopN (r05_verb.n0 x) (r05_verb.s0 kx) x
def r05_verb.b (l0 : (ByteArray × List ByteArray × List Int × Int × Unit) → (Unit → Option (Int × Int × Unit)) → Option (Int × Int × Unit)) : (ByteArray × Unit) → Option (Int × Int × Unit)
  | (x0, _) =>
    l0 (x0, [(⟨#[99, 114, 101, 97, 116, 101]⟩ : ByteArray), (⟨#[100, 114, 111, 112]⟩ : ByteArray), (⟨#[108, 111, 103, 105, 110]⟩ : ByteArray), (⟨#[99, 104, 101, 99, 107]⟩ : ByteArray), (⟨#[114, 101, 118, 111, 107, 101]⟩ : ByteArray), (⟨#[112, 97, 115, 115]⟩ : ByteArray), (⟨#[114, 111, 108, 101]⟩ : ByteArray), (⟨#[117, 110, 108, 111, 99, 107]⟩ : ByteArray), (⟨#[119, 104, 111]⟩ : ByteArray), (⟨#[108, 105, 115, 116]⟩ : ByteArray), (⟨#[97, 117, 100, 105, 116]⟩ : ByteArray)], [4, 2, 2, 1, 1, 3, 3, 2, 2, 1, 2], 0, ()) fun (_) =>
    some (0, 0, ())
def r05_verb (x : (ByteArray × Unit)) : Option (Int × Int × Unit) := r05_verb.b r05_verb.l0 x
/-- muniment/munimentref05.word -/
def r05_word.s0b (kx : (ByteArray × Bool × ByteArray × Unit) → Option ByteArray) : (ByteArray × Bool × ByteArray × Int × Unit) → ((ByteArray × Bool × ByteArray × Int × Unit) → Option ByteArray) → Option ByteArray
  | (t0, t3, t4, t5, _), κ =>
    cond (ilt t5 (t0.size : Int)) (
    chk (inB t5 t0.size) <|
    cond (ieq (byteAt t0 t5.toNat) 32) (
    chk (inB t5 t0.size) <|
    cond (ieq (byteAt t0 t5.toNat) 34) (
    chk (decide (t4.size + (⟨#[92]⟩ : ByteArray).size < 4611686018427387904)) <|
    chk (leB 0 t5 && (leB t5 (iadd .i64 t5 1) && leB (iadd .i64 t5 1) t0.size)) <|
    chk (decide ((t4 ++ (⟨#[92]⟩ : ByteArray)).size + (subStr t0 t5 (iadd .i64 t5 1)).size < 4611686018427387904)) <|
    κ (t0, false, ((t4 ++ (⟨#[92]⟩ : ByteArray)) ++ (subStr t0 t5 (iadd .i64 t5 1))), (iadd .i64 t5 1), ())) (
    chk (inB t5 t0.size) <|
    cond (ieq (byteAt t0 t5.toNat) 92) (
    chk (decide (t4.size + (⟨#[92]⟩ : ByteArray).size < 4611686018427387904)) <|
    chk (leB 0 t5 && (leB t5 (iadd .i64 t5 1) && leB (iadd .i64 t5 1) t0.size)) <|
    chk (decide ((t4 ++ (⟨#[92]⟩ : ByteArray)).size + (subStr t0 t5 (iadd .i64 t5 1)).size < 4611686018427387904)) <|
    κ (t0, false, ((t4 ++ (⟨#[92]⟩ : ByteArray)) ++ (subStr t0 t5 (iadd .i64 t5 1))), (iadd .i64 t5 1), ())) (
    chk (leB 0 t5 && (leB t5 (iadd .i64 t5 1) && leB (iadd .i64 t5 1) t0.size)) <|
    chk (decide (t4.size + (subStr t0 t5 (iadd .i64 t5 1)).size < 4611686018427387904)) <|
    κ (t0, false, (t4 ++ (subStr t0 t5 (iadd .i64 t5 1))), (iadd .i64 t5 1), ())))) (
    chk (inB t5 t0.size) <|
    cond (ieq (byteAt t0 t5.toNat) 34) (
    chk (inB t5 t0.size) <|
    cond (ieq (byteAt t0 t5.toNat) 34) (
    chk (decide (t4.size + (⟨#[92]⟩ : ByteArray).size < 4611686018427387904)) <|
    chk (leB 0 t5 && (leB t5 (iadd .i64 t5 1) && leB (iadd .i64 t5 1) t0.size)) <|
    chk (decide ((t4 ++ (⟨#[92]⟩ : ByteArray)).size + (subStr t0 t5 (iadd .i64 t5 1)).size < 4611686018427387904)) <|
    κ (t0, false, ((t4 ++ (⟨#[92]⟩ : ByteArray)) ++ (subStr t0 t5 (iadd .i64 t5 1))), (iadd .i64 t5 1), ())) (
    chk (inB t5 t0.size) <|
    cond (ieq (byteAt t0 t5.toNat) 92) (
    chk (decide (t4.size + (⟨#[92]⟩ : ByteArray).size < 4611686018427387904)) <|
    chk (leB 0 t5 && (leB t5 (iadd .i64 t5 1) && leB (iadd .i64 t5 1) t0.size)) <|
    chk (decide ((t4 ++ (⟨#[92]⟩ : ByteArray)).size + (subStr t0 t5 (iadd .i64 t5 1)).size < 4611686018427387904)) <|
    κ (t0, false, ((t4 ++ (⟨#[92]⟩ : ByteArray)) ++ (subStr t0 t5 (iadd .i64 t5 1))), (iadd .i64 t5 1), ())) (
    chk (leB 0 t5 && (leB t5 (iadd .i64 t5 1) && leB (iadd .i64 t5 1) t0.size)) <|
    chk (decide (t4.size + (subStr t0 t5 (iadd .i64 t5 1)).size < 4611686018427387904)) <|
    κ (t0, false, (t4 ++ (subStr t0 t5 (iadd .i64 t5 1))), (iadd .i64 t5 1), ())))) (
    chk (inB t5 t0.size) <|
    cond (ieq (byteAt t0 t5.toNat) 92) (
    chk (inB t5 t0.size) <|
    cond (ieq (byteAt t0 t5.toNat) 34) (
    chk (decide (t4.size + (⟨#[92]⟩ : ByteArray).size < 4611686018427387904)) <|
    chk (leB 0 t5 && (leB t5 (iadd .i64 t5 1) && leB (iadd .i64 t5 1) t0.size)) <|
    chk (decide ((t4 ++ (⟨#[92]⟩ : ByteArray)).size + (subStr t0 t5 (iadd .i64 t5 1)).size < 4611686018427387904)) <|
    κ (t0, false, ((t4 ++ (⟨#[92]⟩ : ByteArray)) ++ (subStr t0 t5 (iadd .i64 t5 1))), (iadd .i64 t5 1), ())) (
    chk (inB t5 t0.size) <|
    cond (ieq (byteAt t0 t5.toNat) 92) (
    chk (decide (t4.size + (⟨#[92]⟩ : ByteArray).size < 4611686018427387904)) <|
    chk (leB 0 t5 && (leB t5 (iadd .i64 t5 1) && leB (iadd .i64 t5 1) t0.size)) <|
    chk (decide ((t4 ++ (⟨#[92]⟩ : ByteArray)).size + (subStr t0 t5 (iadd .i64 t5 1)).size < 4611686018427387904)) <|
    κ (t0, false, ((t4 ++ (⟨#[92]⟩ : ByteArray)) ++ (subStr t0 t5 (iadd .i64 t5 1))), (iadd .i64 t5 1), ())) (
    chk (leB 0 t5 && (leB t5 (iadd .i64 t5 1) && leB (iadd .i64 t5 1) t0.size)) <|
    chk (decide (t4.size + (subStr t0 t5 (iadd .i64 t5 1)).size < 4611686018427387904)) <|
    κ (t0, false, (t4 ++ (subStr t0 t5 (iadd .i64 t5 1))), (iadd .i64 t5 1), ())))) (
    chk (inB t5 t0.size) <|
    cond (ieq (byteAt t0 t5.toNat) 34) (
    chk (decide (t4.size + (⟨#[92]⟩ : ByteArray).size < 4611686018427387904)) <|
    chk (leB 0 t5 && (leB t5 (iadd .i64 t5 1) && leB (iadd .i64 t5 1) t0.size)) <|
    chk (decide ((t4 ++ (⟨#[92]⟩ : ByteArray)).size + (subStr t0 t5 (iadd .i64 t5 1)).size < 4611686018427387904)) <|
    κ (t0, t3, ((t4 ++ (⟨#[92]⟩ : ByteArray)) ++ (subStr t0 t5 (iadd .i64 t5 1))), (iadd .i64 t5 1), ())) (
    chk (inB t5 t0.size) <|
    cond (ieq (byteAt t0 t5.toNat) 92) (
    chk (decide (t4.size + (⟨#[92]⟩ : ByteArray).size < 4611686018427387904)) <|
    chk (leB 0 t5 && (leB t5 (iadd .i64 t5 1) && leB (iadd .i64 t5 1) t0.size)) <|
    chk (decide ((t4 ++ (⟨#[92]⟩ : ByteArray)).size + (subStr t0 t5 (iadd .i64 t5 1)).size < 4611686018427387904)) <|
    κ (t0, t3, ((t4 ++ (⟨#[92]⟩ : ByteArray)) ++ (subStr t0 t5 (iadd .i64 t5 1))), (iadd .i64 t5 1), ())) (
    chk (leB 0 t5 && (leB t5 (iadd .i64 t5 1) && leB (iadd .i64 t5 1) t0.size)) <|
    chk (decide (t4.size + (subStr t0 t5 (iadd .i64 t5 1)).size < 4611686018427387904)) <|
    κ (t0, t3, (t4 ++ (subStr t0 t5 (iadd .i64 t5 1))), (iadd .i64 t5 1), ()))))))) (
    kx (t0, t3, t4, ()))
def r05_word.s0 (kx : (ByteArray × Bool × ByteArray × Unit) → Option ByteArray) : (ByteArray × Bool × ByteArray × Int × Unit) → ((ByteArray × Bool × ByteArray × Int × Unit) → Option ByteArray) → Option ByteArray := r05_word.s0b kx
def r05_word.n0 : (ByteArray × Bool × ByteArray × Int × Unit) → Nat
  | (t0, t3, t4, t5, _) => t0.size + t4.size + t5.toNat + 1048576
def r05_word.l0 (x : ByteArray × Bool × ByteArray × Int × Unit) (kx : (ByteArray × Bool × ByteArray × Unit) → Option ByteArray) : Option ByteArray := loopN (r05_word.n0 x) (r05_word.s0 kx) x
def r05_word.b (l0 : (ByteArray × Bool × ByteArray × Int × Unit) → ((ByteArray × Bool × ByteArray × Unit) → Option ByteArray) → Option ByteArray) : (ByteArray × Unit) → Option ByteArray
  | (x0, _) =>
    l0 (x0, (sne x0 (⟨#[]⟩ : ByteArray)), (⟨#[34]⟩ : ByteArray), 0, ()) fun (t0, t3, t4, _) =>
    cond t3 (
    some t0) (
    chk (decide (t4.size + (⟨#[34]⟩ : ByteArray).size < 4611686018427387904)) <|
    some (t4 ++ (⟨#[34]⟩ : ByteArray)))
def r05_word (x : (ByteArray × Unit)) : Option ByteArray := r05_word.b r05_word.l0 x
/-- muniment/munimentref05.Write -/
def r05_Write.s2b (f23 : ((Int × Int × Bool × Unit) × Unit) → Option Bool) (kx : ((Int × ((Option Addr × Nat) × List ByteArray) × Unit) × ByteArray × Int × Int × Unit) → Option (ByteArray × Int × Unit)) : ((Int × ((Option Addr × Nat) × List ByteArray) × Unit) × ByteArray × Int × Int × List (Int × Int × Bool × Unit) × Int × Unit) → (((Int × ((Option Addr × Nat) × List ByteArray) × Unit) × ByteArray × Int × Int × List (Int × Int × Bool × Unit) × Int × Unit) → Option (ByteArray × Int × Unit)) → Option (ByteArray × Int × Unit)
  | (t1, t4, t7, t8, t9, t10, _), κ =>
    cond (ilt t10 (t9.length : Int)) (
    chk (inB t10 t9.length) <|
    (f23 (((t9.getD t10.toNat ((0 : Int), (0 : Int), false, ())).1, (t9.getD t10.toNat ((0 : Int), (0 : Int), false, ())).2.1, (t9.getD t10.toNat ((0 : Int), (0 : Int), false, ())).2.2.1, ()), ())).bind fun v58 =>
    cond (!v58) (
    some ((⟨#[]⟩ : ByteArray), 3, ())) (
    κ ((t1.1, (t1.2.1.1, t1.2.1.2), ()), t4, t7, t8, t9, (iadd .i64 t10 1), ()))) (
    kx ((t1.1, (t1.2.1.1, t1.2.1.2), ()), t4, t7, t8, ()))
def r05_Write.s2 (kx : ((Int × ((Option Addr × Nat) × List ByteArray) × Unit) × ByteArray × Int × Int × Unit) → Option (ByteArray × Int × Unit)) : ((Int × ((Option Addr × Nat) × List ByteArray) × Unit) × ByteArray × Int × Int × List (Int × Int × Bool × Unit) × Int × Unit) → (((Int × ((Option Addr × Nat) × List ByteArray) × Unit) × ByteArray × Int × Int × List (Int × Int × Bool × Unit) × Int × Unit) → Option (ByteArray × Int × Unit)) → Option (ByteArray × Int × Unit) := r05_Write.s2b r05_plain kx
def r05_Write.n2 : ((Int × ((Option Addr × Nat) × List ByteArray) × Unit) × ByteArray × Int × Int × List (Int × Int × Bool × Unit) × Int × Unit) → Nat
  | (t1, t4, t7, t8, t9, t10, _) => t4.size + t7.toNat + t8.toNat + t9.length + t10.toNat + 1048576
def r05_Write.l2 (x : (Int × ((Option Addr × Nat) × List ByteArray) × Unit) × ByteArray × Int × Int × List (Int × Int × Bool × Unit) × Int × Unit) (kx : ((Int × ((Option Addr × Nat) × List ByteArray) × Unit) × ByteArray × Int × Int × Unit) → Option (ByteArray × Int × Unit)) : Option (ByteArray × Int × Unit) := loopN (r05_Write.n2 x) (r05_Write.s2 kx) x
def r05_Write.s0b (f22 : (ByteArray × Unit) → Option (List (Int × Int × Bool × Unit))) (l2 : ((Int × ((Option Addr × Nat) × List ByteArray) × Unit) × ByteArray × Int × Int × List (Int × Int × Bool × Unit) × Int × Unit) → (((Int × ((Option Addr × Nat) × List ByteArray) × Unit) × ByteArray × Int × Int × Unit) → Option (ByteArray × Int × Unit)) → Option (ByteArray × Int × Unit)) (kx : ((Int × ((Option Addr × Nat) × List ByteArray) × Unit) × ByteArray × Int × Unit) → Option (ByteArray × Int × Unit)) : ((Int × ((Option Addr × Nat) × List ByteArray) × Unit) × ByteArray × Int × Int × Unit) → (((Int × ((Option Addr × Nat) × List ByteArray) × Unit) × ByteArray × Int × Int × Unit) → Option (ByteArray × Int × Unit)) → Option (ByteArray × Int × Unit)
  | (t1, t4, t7, t8, _), κ =>
    cond (ilt t8 t7) (
    chk (inB t8 t1.2.1.2.length) <|
    (f22 ((t1.2.1.2.getD t8.toNat ByteArray.empty), ())).bind fun v47 =>
    l2 ((t1.1, (t1.2.1.1, t1.2.1.2), ()), t4, t7, t8, v47, 0, ()) fun (t1, t4, t7, t8, _) =>
    κ ((t1.1, (t1.2.1.1, t1.2.1.2), ()), t4, t7, (iadd .i64 t8 1), ())) (
    kx ((t1.1, (t1.2.1.1, t1.2.1.2), ()), t4, t7, ()))
def r05_Write.s0 (kx : ((Int × ((Option Addr × Nat) × List ByteArray) × Unit) × ByteArray × Int × Unit) → Option (ByteArray × Int × Unit)) : ((Int × ((Option Addr × Nat) × List ByteArray) × Unit) × ByteArray × Int × Int × Unit) → (((Int × ((Option Addr × Nat) × List ByteArray) × Unit) × ByteArray × Int × Int × Unit) → Option (ByteArray × Int × Unit)) → Option (ByteArray × Int × Unit) := r05_Write.s0b r03_Chars r05_Write.l2 kx
def r05_Write.n0 : ((Int × ((Option Addr × Nat) × List ByteArray) × Unit) × ByteArray × Int × Int × Unit) → Nat
  | (t1, t4, t7, t8, _) => t4.size + t7.toNat + t8.toNat + 1048576
def r05_Write.l0 (x : (Int × ((Option Addr × Nat) × List ByteArray) × Unit) × ByteArray × Int × Int × Unit) (kx : ((Int × ((Option Addr × Nat) × List ByteArray) × Unit) × ByteArray × Int × Unit) → Option (ByteArray × Int × Unit)) : Option (ByteArray × Int × Unit) := loopN (r05_Write.n0 x) (r05_Write.s0 kx) x
def r05_Write.s4b (f25 : (ByteArray × Unit) → Option ByteArray) (kx : (ByteArray × Unit) → Option (ByteArray × Int × Unit)) : ((Int × ((Option Addr × Nat) × List ByteArray) × Unit) × ByteArray × Int × Int × Unit) → (((Int × ((Option Addr × Nat) × List ByteArray) × Unit) × ByteArray × Int × Int × Unit) → Option (ByteArray × Int × Unit)) → Option (ByteArray × Int × Unit)
  | (t1, t4, t7, t11, _), κ =>
    cond (ilt t11 t7) (
    chk (inB t11 t1.2.1.2.length) <|
    cond (igt ((t1.2.1.2.getD t11.toNat ByteArray.empty).size : Int) 300) (
    some ((⟨#[]⟩ : ByteArray), 2, ())) (
    chk (inB t11 t1.2.1.2.length) <|
    (f25 ((t1.2.1.2.getD t11.toNat ByteArray.empty), ())).bind fun v78 =>
    chk (decide ((⟨#[32]⟩ : ByteArray).size + v78.size < 4611686018427387904)) <|
    chk (decide (t4.size + ((⟨#[32]⟩ : ByteArray) ++ v78).size < 4611686018427387904)) <|
    κ ((t1.1, (t1.2.1.1, t1.2.1.2), ()), (t4 ++ ((⟨#[32]⟩ : ByteArray) ++ v78)), t7, (iadd .i64 t11 1), ()))) (
    kx (t4, ()))
def r05_Write.s4 (kx : (ByteArray × Unit) → Option (ByteArray × Int × Unit)) : ((Int × ((Option Addr × Nat) × List ByteArray) × Unit) × ByteArray × Int × Int × Unit) → (((Int × ((Option Addr × Nat) × List ByteArray) × Unit) × ByteArray × Int × Int × Unit) → Option (ByteArray × Int × Unit)) → Option (ByteArray × Int × Unit) := r05_Write.s4b r05_word kx
def r05_Write.n4 : ((Int × ((Option Addr × Nat) × List ByteArray) × Unit) × ByteArray × Int × Int × Unit) → Nat
  | (t1, t4, t7, t11, _) => t4.size + t7.toNat + t11.toNat + 1048576
def r05_Write.l4 (x : (Int × ((Option Addr × Nat) × List ByteArray) × Unit) × ByteArray × Int × Int × Unit) (kx : (ByteArray × Unit) → Option (ByteArray × Int × Unit)) : Option (ByteArray × Int × Unit) := loopN (r05_Write.n4 x) (r05_Write.s4 kx) x
def r05_Write.b (f24 : (ByteArray × Unit) → Option (Int × Int × Unit)) (l0 : ((Int × ((Option Addr × Nat) × List ByteArray) × Unit) × ByteArray × Int × Int × Unit) → (((Int × ((Option Addr × Nat) × List ByteArray) × Unit) × ByteArray × Int × Unit) → Option (ByteArray × Int × Unit)) → Option (ByteArray × Int × Unit)) (l4 : ((Int × ((Option Addr × Nat) × List ByteArray) × Unit) × ByteArray × Int × Int × Unit) → ((ByteArray × Unit) → Option (ByteArray × Int × Unit)) → Option (ByteArray × Int × Unit)) : ((Int × ((Option Addr × Nat) × List ByteArray) × Unit) × Unit) → Option (ByteArray × Int × Unit)
  | (x0, _) =>
    cond (ilt x0.1 1) (
    some ((⟨#[]⟩ : ByteArray), 3, ())) (
    cond (igt x0.1 11) (
    some ((⟨#[]⟩ : ByteArray), 3, ())) (
    chk (inB (isub .u8 x0.1 1) 11) <|
    (f24 (([(⟨#[99, 114, 101, 97, 116, 101]⟩ : ByteArray), (⟨#[100, 114, 111, 112]⟩ : ByteArray), (⟨#[108, 111, 103, 105, 110]⟩ : ByteArray), (⟨#[99, 104, 101, 99, 107]⟩ : ByteArray), (⟨#[114, 101, 118, 111, 107, 101]⟩ : ByteArray), (⟨#[112, 97, 115, 115]⟩ : ByteArray), (⟨#[114, 111, 108, 101]⟩ : ByteArray), (⟨#[117, 110, 108, 111, 99, 107]⟩ : ByteArray), (⟨#[119, 104, 111]⟩ : ByteArray), (⟨#[108, 105, 115, 116]⟩ : ByteArray), (⟨#[97, 117, 100, 105, 116]⟩ : ByteArray)].getD (isub .u8 x0.1 1).toNat ByteArray.empty), ())).bind fun v29 =>
    cond (ine v29.2.1 (x0.2.1.2.length : Int)) (
    some ((⟨#[]⟩ : ByteArray), 3, ())) (
    l0 ((x0.1, (x0.2.1.1, x0.2.1.2), ()), ([(⟨#[99, 114, 101, 97, 116, 101]⟩ : ByteArray), (⟨#[100, 114, 111, 112]⟩ : ByteArray), (⟨#[108, 111, 103, 105, 110]⟩ : ByteArray), (⟨#[99, 104, 101, 99, 107]⟩ : ByteArray), (⟨#[114, 101, 118, 111, 107, 101]⟩ : ByteArray), (⟨#[112, 97, 115, 115]⟩ : ByteArray), (⟨#[114, 111, 108, 101]⟩ : ByteArray), (⟨#[117, 110, 108, 111, 99, 107]⟩ : ByteArray), (⟨#[119, 104, 111]⟩ : ByteArray), (⟨#[108, 105, 115, 116]⟩ : ByteArray), (⟨#[97, 117, 100, 105, 116]⟩ : ByteArray)].getD (isub .u8 x0.1 1).toNat ByteArray.empty), v29.2.1, 0, ()) fun (t1, t4, t7, _) =>
    l4 ((t1.1, (t1.2.1.1, t1.2.1.2), ()), t4, t7, 0, ()) fun (t4, _) =>
    cond (igt (t4.size : Int) 300) (
    some ((⟨#[]⟩ : ByteArray), 2, ())) (
    some (t4, 0, ())))))
def r05_Write (x : ((Int × ((Option Addr × Nat) × List ByteArray) × Unit) × Unit)) : Option (ByteArray × Int × Unit) := r05_Write.b r05_verb r05_Write.l0 r05_Write.l4 x
/-- muniment/line.fine -/
def line_fine.s0b (f26 : (ByteArray × Int × Int × Unit) → Option Bool) (kx : Unit → Option Bool) : (ByteArray × (ByteArray × Nat) × Unit) → ((ByteArray × (ByteArray × Nat) × Unit) → Option Bool) → Option Bool
  | (t0, t6, _), κ =>
    cond (decide (t6.2 < t6.1.size)) (
    cond (ilt ((Utf8.decode t6.1 t6.2).1 : Int) 32) (
    some false) (
    cond (ieq ((Utf8.decode t6.1 t6.2).1 : Int) 127) (
    some false) (
    (f26 (t0, (t6.2 : Int), ((Utf8.decode t6.1 t6.2).1 : Int), ())).bind fun v21 =>
    cond v21 (
    some false) (
    κ (t0, (t6.1, (t6.2 + (Utf8.decode t6.1 t6.2).2)), ()))))) (
    kx (()))
def line_fine.s0 (kx : Unit → Option Bool) : (ByteArray × (ByteArray × Nat) × Unit) → ((ByteArray × (ByteArray × Nat) × Unit) → Option Bool) → Option Bool := line_fine.s0b line_wrong kx
def line_fine.n0 : (ByteArray × (ByteArray × Nat) × Unit) → Nat
  | (t0, t6, _) => t0.size + t6.1.size + 1048576
def line_fine.l0 (x : ByteArray × (ByteArray × Nat) × Unit) (kx : Unit → Option Bool) : Option Bool := loopN (line_fine.n0 x) (line_fine.s0 kx) x
def line_fine.b (l0 : (ByteArray × (ByteArray × Nat) × Unit) → (Unit → Option Bool) → Option Bool) : (ByteArray × Unit) → Option Bool
  | (x0, _) =>
    l0 (x0, (x0, 0), ()) fun (_) =>
    some true
def line_fine (x : (ByteArray × Unit)) : Option Bool := line_fine.b line_fine.l0 x
/-- muniment/line.plain -/
def line_plain.b (f21 : (ByteArray × Int × Unit) → Option (ByteArray × Int × Bool × Unit)) : (ByteArray × Unit) → Option Bool
  | (x0, _) =>
    (f21 (x0, 0, ())).bind fun v8 =>
    cond v8.2.2.1 (
    cond (sne v8.1 (⟨#[]⟩ : ByteArray)) (
    cond (ieq v8.2.1 (x0.size : Int)) (
    some (seq v8.1 x0)) (
    some false)) (
    some false)) (
    some false)
def line_plain (x : (ByteArray × Unit)) : Option Bool := line_plain.b line_bare x
end Go.Px
