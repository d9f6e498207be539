import Derived.Test.YtpmnipaimoaagaaDoorPx1
import Derived.Test.YtpmnipaimoaagaaDoorPx23
import Derived.Test.YtpmnipaimoaagaaDoorQG
set_option linter.unusedVariables false
set_option linter.unusedSimpArgs false
namespace Go.Px
open Go
/-- muniment/line.quoted -/
def line_quoted (x : (ByteArray × Int × Unit)) : Option (ByteArray × Int × Bool × Unit) := Quo.conQuoted x
/-- unicode/utf8.DecodeRuneInString -/
def unicode_utf8_DecodeRuneInString (x : (ByteArray × Unit)) : Option (Int × Int × Unit) := some ((((if x.1.size = 0 then ((65533, 0) : Nat × Nat) else Utf8.decode x.1 0).1 : Nat) : Int), (((if x.1.size = 0 then ((65533, 0) : Nat × Nat) else Utf8.decode x.1 0).2 : Nat) : Int), ())
/-- muniment/line.wrong -/
def line_wrong.b (f30 : (ByteArray × Unit) → Option (Int × Int × Unit)) : (ByteArray × Int × Int × Unit) → Option Bool
  | (x0, x1, x2, _) =>
    chk (leB 0 x1 && (leB x1 x0.size && leB x0.size x0.size)) <|
    (f30 ((subStr x0 x1 x0.size), ())).bind fun v13 =>
    cond (ieq x2 65533) (
    some (ieq v13.2.1 1)) (
    some false)
def line_wrong (x : (ByteArray × Int × Int × Unit)) : Option Bool := line_wrong.b unicode_utf8_DecodeRuneInString x
/-- muniment/line.bare -/
def line_bare.s0b (f26 : (ByteArray × Int × Int × Unit) → Option Bool) (kx : (ByteArray × Int × Unit) → Option (ByteArray × Int × Bool × Unit)) : (ByteArray × Int × (ByteArray × Nat) × Unit) → ((ByteArray × Int × (ByteArray × Nat) × Unit) → Option (ByteArray × Int × Bool × Unit)) → Option (ByteArray × Int × Bool × Unit)
  | (t0, t1, t12, _), κ =>
    cond (decide (t12.2 < t12.1.size)) (
    cond (ieq ((Utf8.decode t12.1 t12.2).1 : Int) 32) (
    chk (leB 0 t1 && (leB t1 (iadd .i64 t1 (t12.2 : Int)) && leB (iadd .i64 t1 (t12.2 : Int)) t0.size)) <|
    some ((subStr t0 t1 (iadd .i64 t1 (t12.2 : Int))), (iadd .i64 t1 (t12.2 : Int)), true, ())) (
    cond (ilt ((Utf8.decode t12.1 t12.2).1 : Int) 32) (
    cond (ilt ((Utf8.decode t12.1 t12.2).1 : Int) 32) (
    some ((⟨#[]⟩ : ByteArray), (iadd .i64 t1 (t12.2 : Int)), false, ())) (
    κ (t0, t1, (t12.1, (t12.2 + (Utf8.decode t12.1 t12.2).2)), ()))) (
    cond (ieq ((Utf8.decode t12.1 t12.2).1 : Int) 34) (
    cond (ieq ((Utf8.decode t12.1 t12.2).1 : Int) 34) (
    some ((⟨#[]⟩ : ByteArray), (iadd .i64 t1 (t12.2 : Int)), false, ())) (
    κ (t0, t1, (t12.1, (t12.2 + (Utf8.decode t12.1 t12.2).2)), ()))) (
    cond (ieq ((Utf8.decode t12.1 t12.2).1 : Int) 92) (
    cond (ieq ((Utf8.decode t12.1 t12.2).1 : Int) 92) (
    some ((⟨#[]⟩ : ByteArray), (iadd .i64 t1 (t12.2 : Int)), false, ())) (
    κ (t0, t1, (t12.1, (t12.2 + (Utf8.decode t12.1 t12.2).2)), ()))) (
    cond (ieq ((Utf8.decode t12.1 t12.2).1 : Int) 127) (
    cond (ieq ((Utf8.decode t12.1 t12.2).1 : Int) 127) (
    some ((⟨#[]⟩ : ByteArray), (iadd .i64 t1 (t12.2 : Int)), false, ())) (
    κ (t0, t1, (t12.1, (t12.2 + (Utf8.decode t12.1 t12.2).2)), ()))) (
    (f26 (t0, (iadd .i64 t1 (t12.2 : Int)), ((Utf8.decode t12.1 t12.2).1 : Int), ())).bind fun v43 =>
    cond v43 (
    some ((⟨#[]⟩ : ByteArray), (iadd .i64 t1 (t12.2 : Int)), false, ())) (
    κ (t0, t1, (t12.1, (t12.2 + (Utf8.decode t12.1 t12.2).2)), ())))))))) (
    kx (t0, t1, ()))
def line_bare.s0 (kx : (ByteArray × Int × Unit) → Option (ByteArray × Int × Bool × Unit)) : (ByteArray × Int × (ByteArray × Nat) × Unit) → ((ByteArray × Int × (ByteArray × Nat) × Unit) → Option (ByteArray × Int × Bool × Unit)) → Option (ByteArray × Int × Bool × Unit) := line_bare.s0b line_wrong kx
def line_bare.n0 : (ByteArray × Int × (ByteArray × Nat) × Unit) → Nat
  | (t0, t1, t12, _) => t0.size + t1.toNat + t12.1.size + 1048576
def line_bare.l0 (x : ByteArray × Int × (ByteArray × Nat) × Unit) (kx : (ByteArray × Int × Unit) → Option (ByteArray × Int × Bool × Unit)) : Option (ByteArray × Int × Bool × Unit) := loopN (line_bare.n0 x) (line_bare.s0 kx) x
def line_bare.b (l0 : (ByteArray × Int × (ByteArray × Nat) × Unit) → ((ByteArray × Int × Unit) → Option (ByteArray × Int × Bool × Unit)) → Option (ByteArray × Int × Bool × Unit)) : (ByteArray × Int × Unit) → Option (ByteArray × Int × Bool × Unit)
  | (x0, x1, _) =>
    chk (leB 0 x1 && (leB x1 x0.size && leB x0.size x0.size)) <|
    l0 (x0, x1, ((subStr x0 x1 x0.size), 0), ()) fun (t0, t1, _) =>
    chk (leB 0 t1 && (leB t1 t0.size && leB t0.size t0.size)) <|
    some ((subStr t0 t1 t0.size), (t0.size : Int), true, ())
def line_bare (x : (ByteArray × Int × Unit)) : Option (ByteArray × Int × Bool × Unit) := line_bare.b line_bare.l0 x
/-- muniment/line.Words -/
def line_Words.s2b (kx : (ByteArray × List ByteArray × Int × Unit) → Option (List ByteArray × Int × Int × Unit)) : (ByteArray × List ByteArray × Int × Unit) → ((ByteArray × List ByteArray × Int × Unit) → Option (List ByteArray × Int × Int × Unit)) → Option (List ByteArray × Int × Int × Unit)
  | (t0, t5, t6, _), κ =>
    cond (ilt t6 (t0.size : Int)) (
    chk (inB t6 t0.size) <|
    cond (ieq (byteAt t0 t6.toNat) 32) (
    κ (t0, t5, (iadd .i64 t6 1), ())) (
    kx (t0, t5, t6, ()))) (
    kx (t0, t5, t6, ()))
def line_Words.s2 (kx : (ByteArray × List ByteArray × Int × Unit) → Option (List ByteArray × Int × Int × Unit)) : (ByteArray × List ByteArray × Int × Unit) → ((ByteArray × List ByteArray × Int × Unit) → Option (List ByteArray × Int × Int × Unit)) → Option (List ByteArray × Int × Int × Unit) := line_Words.s2b kx
def line_Words.n2 : (ByteArray × List ByteArray × Int × Unit) → Nat
  | (t0, t5, t6, _) => t0.size + t5.length + t6.toNat + 1048576
def line_Words.l2 (x : ByteArray × List ByteArray × Int × Unit) (kx : (ByteArray × List ByteArray × Int × Unit) → Option (List ByteArray × Int × Int × Unit)) : Option (List ByteArray × Int × Int × Unit) := loopN (line_Words.n2 x) (line_Words.s2 kx) x
def line_Words.s0b (f20 : (ByteArray × Int × Unit) → Option (ByteArray × Int × Bool × Unit)) (f21 : (ByteArray × Int × Unit) → Option (ByteArray × Int × Bool × Unit)) (l2 : (ByteArray × List ByteArray × Int × Unit) → ((ByteArray × List ByteArray × Int × Unit) → Option (List ByteArray × Int × Int × Unit)) → Option (List ByteArray × Int × Int × Unit)) (kx : Unit → Option (List ByteArray × Int × Int × Unit)) : (ByteArray × List ByteArray × Int × Unit) → ((ByteArray × List ByteArray × Int × Unit) → Option (List ByteArray × Int × Int × Unit)) → Option (List ByteArray × Int × Int × Unit)
  | (t0, t5, t6, _), κ =>
    l2 (t0, t5, t6, ()) fun (t0, t5, t6, _) =>
    cond (ieq t6 (t0.size : Int)) (
    some (t5, 0, 0, ())) (
    chk (inB t6 t0.size) <|
    cond (ieq (byteAt t0 t6.toNat) 34) (
    (f20 (t0, (iadd .i64 t6 1), ())).bind fun v37 =>
    cond (!v37.2.2.1) (
    some ([], v37.2.1, 4, ())) (
    chk (fits 16 (t5.length + 1)) <|
    κ (t0, (t5 ++ [v37.1]), v37.2.1, ()))) (
    (f21 (t0, t6, ())).bind fun v44 =>
    cond (!v44.2.2.1) (
    some ([], v44.2.1, 4, ())) (
    chk (fits 16 (t5.length + 1)) <|
    κ (t0, (t5 ++ [v44.1]), v44.2.1, ()))))
def line_Words.s0 (kx : Unit → Option (List ByteArray × Int × Int × Unit)) : (ByteArray × List ByteArray × Int × Unit) → ((ByteArray × List ByteArray × Int × Unit) → Option (List ByteArray × Int × Int × Unit)) → Option (List ByteArray × Int × Int × Unit) := line_Words.s0b line_quoted line_bare line_Words.l2 kx
def line_Words.n0 : (ByteArray × List ByteArray × Int × Unit) → Nat
  | (t0, t5, t6, _) => t0.size + t5.length + t6.toNat + 1048576
def line_Words.l0 (x : ByteArray × List ByteArray × Int × Unit) (kx : Unit → Option (List ByteArray × Int × Int × Unit)) : Option (List ByteArray × Int × Int × Unit) := loopN (line_Words.n0 x) (line_Words.s0 kx) x
def line_Words.b (l0 : (ByteArray × List ByteArray × Int × Unit) → (Unit → Option (List ByteArray × Int × Int × Unit)) → Option (List ByteArray × Int × Int × Unit)) : (ByteArray × Unit) → Option (List ByteArray × Int × Int × Unit)
  | (x0, _) =>
    cond (igt (x0.size : Int) 300) (
    some ([], 0, 2, ())) (
    l0 (x0, [], 0, ()) fun _ =>
    none)
def line_Words (x : (ByteArray × Unit)) : Option (List ByteArray × Int × Int × Unit) := line_Words.b line_Words.l0 x
/-- muniment/munimentlaw05.awake -/
def w05_awake.b (f13 : (ByteArray × Unit) → Option (List ByteArray × Int × Int × Unit)) : Unit → Option Bool
  | (_) =>
    (f13 ((⟨#[97, 32, 34, 98, 32, 99, 34, 32, 34, 100, 92, 34, 101, 34]⟩ : ByteArray), ())).bind fun v5 =>
    cond (ieq v5.2.2.1 0) (
    cond (ieq (v5.1.length : Int) 3) (
    chk (inB 1 v5.1.length) <|
    cond (seq (v5.1.getD 1 ByteArray.empty) (⟨#[98, 32, 99]⟩ : ByteArray)) (
    chk (inB 2 v5.1.length) <|
    some (seq (v5.1.getD 2 ByteArray.empty) (⟨#[100, 34, 101]⟩ : ByteArray))) (
    some false)) (
    some false)) (
    some false)
def w05_awake (x : Unit) : Option Bool := w05_awake.b line_Words x
/-- muniment/munimentref03.Chars -/
def r03_Chars.s0b (f30 : (ByteArray × Unit) → Option (Int × Int × Unit)) (kx : (List (Int × Int × Bool × Unit) × Unit) → Option (List (Int × Int × Bool × Unit))) : (ByteArray × List (Int × Int × Bool × Unit) × Int × Unit) → ((ByteArray × List (Int × Int × Bool × Unit) × Int × Unit) → Option (List (Int × Int × Bool × Unit))) → Option (List (Int × Int × Bool × Unit))
  | (t0, t3, t4, _), κ =>
    cond (ilt t4 (t0.size : Int)) (
    chk (leB 0 t4 && (leB t4 t0.size && leB t0.size t0.size)) <|
    (f30 ((subStr t0 t4 t0.size), ())).bind fun v15 =>
    cond (ine v15.1 65533) (
    chk (fits 24 (t3.length + 1)) <|
    κ (t0, (t3 ++ [(v15.1, t4, true, ())]), (iadd .i64 t4 v15.2.1), ())) (
    chk (fits 24 (t3.length + 1)) <|
    κ (t0, (t3 ++ [(v15.1, t4, (ieq v15.2.1 3), ())]), (iadd .i64 t4 v15.2.1), ()))) (
    kx (t3, ()))
def r03_Chars.s0 (kx : (List (Int × Int × Bool × Unit) × Unit) → Option (List (Int × Int × Bool × Unit))) : (ByteArray × List (Int × Int × Bool × Unit) × Int × Unit) → ((ByteArray × List (Int × Int × Bool × Unit) × Int × Unit) → Option (List (Int × Int × Bool × Unit))) → Option (List (Int × Int × Bool × Unit)) := r03_Chars.s0b unicode_utf8_DecodeRuneInString kx
def r03_Chars.n0 : (ByteArray × List (Int × Int × Bool × Unit) × Int × Unit) → Nat
  | (t0, t3, t4, _) => t0.size + t3.length + t4.toNat + 1048576
def r03_Chars.l0 (x : ByteArray × List (Int × Int × Bool × Unit) × Int × Unit) (kx : (List (Int × Int × Bool × Unit) × Unit) → Option (List (Int × Int × Bool × Unit))) : Option (List (Int × Int × Bool × Unit)) := loopN (r03_Chars.n0 x) (r03_Chars.s0 kx) x
def r03_Chars.b (l0 : (ByteArray × List (Int × Int × Bool × Unit) × Int × Unit) → ((List (Int × Int × Bool × Unit) × Unit) → Option (List (Int × Int × Bool × Unit))) → Option (List (Int × Int × Bool × Unit))) : (ByteArray × Unit) → Option (List (Int × Int × Bool × Unit))
  | (x0, _) =>
    l0 (x0, [], 0, ()) fun (t3, _) =>
    some t3
def r03_Chars (x : (ByteArray × Unit)) : Option (List (Int × Int × Bool × Unit)) := r03_Chars.b r03_Chars.l0 x
/-- muniment/munimentref05.plain -/
def r05_plain.b : ((Int × Int × Bool × Unit) × Unit) → Option Bool
  | (x0, _) =>
    cond x0.2.2.1 (
    cond (ige x0.1 32) (
    some (ine x0.1 127)) (
    some false)) (
    some false)
def r05_plain (x : ((Int × Int × Bool × Unit) × Unit)) : Option Bool := r05_plain.b x
/-- muniment/munimentref05.Words -/
def r05_Words.s0b (f23 : ((Int × Int × Bool × Unit) × Unit) → Option Bool) (kx : (ByteArray × List ByteArray × ByteArray × Int × Unit) → Option (List ByteArray × Int × Int × Unit)) : (ByteArray × List (Int × Int × Bool × Unit) × List ByteArray × ByteArray × Int × Int × Unit) → ((ByteArray × List (Int × Int × Bool × Unit) × List ByteArray × ByteArray × Int × Int × Unit) → Option (List ByteArray × Int × Int × Unit)) → Option (List ByteArray × Int × Int × Unit)
  | (t0, t5, t6, t7, t8, t9, _), κ =>
    cond (ilt t9 (t5.length : Int)) (
    chk (inB t9 t5.length) <|
    cond (ilt (iadd .i64 t9 1) (t5.length : Int)) (
    chk (inB (iadd .i64 t9 1) t5.length) <|
    chk (leB 0 ((t5.getD t9.toNat ((0 : Int), (0 : Int), false, ())).2.1) && (leB ((t5.getD t9.toNat ((0 : Int), (0 : Int), false, ())).2.1) ((t5.getD (iadd .i64 t9 1).toNat ((0 : Int), (0 : Int), false, ())).2.1) && leB ((t5.getD (iadd .i64 t9 1).toNat ((0 : Int), (0 : Int), false, ())).2.1) t0.size)) <|
    (f23 (((t5.getD t9.toNat ((0 : Int), (0 : Int), false, ())).1, (t5.getD t9.toNat ((0 : Int), (0 : Int), false, ())).2.1, (t5.getD t9.toNat ((0 : Int), (0 : Int), false, ())).2.2.1, ()), ())).bind fun v49 =>
    cond (ieq t8 0) (
    cond (ieq ((t5.getD t9.toNat ((0 : Int), (0 : Int), false, ())).1) 32) (
    cond ((t5.getD t9.toNat ((0 : Int), (0 : Int), false, ())).2.2.1) (
    κ (t0, t5, t6, t7, t8, (iadd .i64 t9 1), ())) (
    cond (ieq ((t5.getD t9.toNat ((0 : Int), (0 : Int), false, ())).1) 34) (
    cond (!v49) (
    some ([], (t5.getD t9.toNat ((0 : Int), (0 : Int), false, ())).2.1, 4, ())) (
    cond (ieq ((t5.getD t9.toNat ((0 : Int), (0 : Int), false, ())).1) 92) (
    some ([], (t5.getD t9.toNat ((0 : Int), (0 : Int), false, ())).2.1, 4, ())) (
    chk (decide (t7.size + (⟨#[]⟩ : ByteArray).size < 4611686018427387904)) <|
    κ (t0, t5, t6, (t7 ++ (⟨#[]⟩ : ByteArray)), 2, (iadd .i64 t9 1), ())))) (
    cond (!v49) (
    some ([], (t5.getD t9.toNat ((0 : Int), (0 : Int), false, ())).2.1, 4, ())) (
    cond (ieq ((t5.getD t9.toNat ((0 : Int), (0 : Int), false, ())).1) 92) (
    some ([], (t5.getD t9.toNat ((0 : Int), (0 : Int), false, ())).2.1, 4, ())) (
    chk (decide (t7.size + (subStr t0 ((t5.getD t9.toNat ((0 : Int), (0 : Int), false, ())).2.1) ((t5.getD (iadd .i64 t9 1).toNat ((0 : Int), (0 : Int), false, ())).2.1)).size < 4611686018427387904)) <|
    κ (t0, t5, t6, (t7 ++ (subStr t0 ((t5.getD t9.toNat ((0 : Int), (0 : Int), false, ())).2.1) ((t5.getD (iadd .i64 t9 1).toNat ((0 : Int), (0 : Int), false, ())).2.1))), 1, (iadd .i64 t9 1), ())))))) (
    cond (ieq ((t5.getD t9.toNat ((0 : Int), (0 : Int), false, ())).1) 34) (
    cond (!v49) (
    some ([], (t5.getD t9.toNat ((0 : Int), (0 : Int), false, ())).2.1, 4, ())) (
    cond (ieq ((t5.getD t9.toNat ((0 : Int), (0 : Int), false, ())).1) 92) (
    some ([], (t5.getD t9.toNat ((0 : Int), (0 : Int), false, ())).2.1, 4, ())) (
    chk (decide (t7.size + (⟨#[]⟩ : ByteArray).size < 4611686018427387904)) <|
    κ (t0, t5, t6, (t7 ++ (⟨#[]⟩ : ByteArray)), 2, (iadd .i64 t9 1), ())))) (
    cond (!v49) (
    some ([], (t5.getD t9.toNat ((0 : Int), (0 : Int), false, ())).2.1, 4, ())) (
    cond (ieq ((t5.getD t9.toNat ((0 : Int), (0 : Int), false, ())).1) 92) (
    some ([], (t5.getD t9.toNat ((0 : Int), (0 : Int), false, ())).2.1, 4, ())) (
    chk (decide (t7.size + (subStr t0 ((t5.getD t9.toNat ((0 : Int), (0 : Int), false, ())).2.1) ((t5.getD (iadd .i64 t9 1).toNat ((0 : Int), (0 : Int), false, ())).2.1)).size < 4611686018427387904)) <|
    κ (t0, t5, t6, (t7 ++ (subStr t0 ((t5.getD t9.toNat ((0 : Int), (0 : Int), false, ())).2.1) ((t5.getD (iadd .i64 t9 1).toNat ((0 : Int), (0 : Int), false, ())).2.1))), 1, (iadd .i64 t9 1), ())))))) (
    cond (ieq t8 1) (
    cond (ieq ((t5.getD t9.toNat ((0 : Int), (0 : Int), false, ())).1) 32) (
    chk (fits 16 (t6.length + 1)) <|
    κ (t0, t5, (t6 ++ [t7]), (⟨#[]⟩ : ByteArray), 0, (iadd .i64 t9 1), ())) (
    cond (!v49) (
    some ([], (t5.getD t9.toNat ((0 : Int), (0 : Int), false, ())).2.1, 4, ())) (
    cond (ieq ((t5.getD t9.toNat ((0 : Int), (0 : Int), false, ())).1) 34) (
    some ([], (t5.getD t9.toNat ((0 : Int), (0 : Int), false, ())).2.1, 4, ())) (
    cond (ieq ((t5.getD t9.toNat ((0 : Int), (0 : Int), false, ())).1) 92) (
    some ([], (t5.getD t9.toNat ((0 : Int), (0 : Int), false, ())).2.1, 4, ())) (
    chk (decide (t7.size + (subStr t0 ((t5.getD t9.toNat ((0 : Int), (0 : Int), false, ())).2.1) ((t5.getD (iadd .i64 t9 1).toNat ((0 : Int), (0 : Int), false, ())).2.1)).size < 4611686018427387904)) <|
    κ (t0, t5, t6, (t7 ++ (subStr t0 ((t5.getD t9.toNat ((0 : Int), (0 : Int), false, ())).2.1) ((t5.getD (iadd .i64 t9 1).toNat ((0 : Int), (0 : Int), false, ())).2.1))), t8, (iadd .i64 t9 1), ())))))) (
    cond (ieq t8 2) (
    cond (ieq ((t5.getD t9.toNat ((0 : Int), (0 : Int), false, ())).1) 92) (
    cond (ieq ((t5.getD t9.toNat ((0 : Int), (0 : Int), false, ())).1) 34) (
    cond (!v49) (
    some ([], (t5.getD t9.toNat ((0 : Int), (0 : Int), false, ())).2.1, 4, ())) (
    chk (decide (t7.size + (⟨#[]⟩ : ByteArray).size < 4611686018427387904)) <|
    κ (t0, t5, t6, (t7 ++ (⟨#[]⟩ : ByteArray)), 4, (iadd .i64 t9 1), ()))) (
    cond (!v49) (
    some ([], (t5.getD t9.toNat ((0 : Int), (0 : Int), false, ())).2.1, 4, ())) (
    chk (decide (t7.size + (⟨#[]⟩ : ByteArray).size < 4611686018427387904)) <|
    κ (t0, t5, t6, (t7 ++ (⟨#[]⟩ : ByteArray)), 3, (iadd .i64 t9 1), ())))) (
    cond (ieq ((t5.getD t9.toNat ((0 : Int), (0 : Int), false, ())).1) 34) (
    cond (!v49) (
    some ([], (t5.getD t9.toNat ((0 : Int), (0 : Int), false, ())).2.1, 4, ())) (
    chk (decide (t7.size + (⟨#[]⟩ : ByteArray).size < 4611686018427387904)) <|
    κ (t0, t5, t6, (t7 ++ (⟨#[]⟩ : ByteArray)), 4, (iadd .i64 t9 1), ()))) (
    cond (!v49) (
    some ([], (t5.getD t9.toNat ((0 : Int), (0 : Int), false, ())).2.1, 4, ())) (
    chk (decide (t7.size + (subStr t0 ((t5.getD t9.toNat ((0 : Int), (0 : Int), false, ())).2.1) ((t5.getD (iadd .i64 t9 1).toNat ((0 : Int), (0 : Int), false, ())).2.1)).size < 4611686018427387904)) <|
    κ (t0, t5, t6, (t7 ++ (subStr t0 ((t5.getD t9.toNat ((0 : Int), (0 : Int), false, ())).2.1) ((t5.getD (iadd .i64 t9 1).toNat ((0 : Int), (0 : Int), false, ())).2.1))), t8, (iadd .i64 t9 1), ()))))) (
    cond (ieq t8 3) (
    cond (ine ((t5.getD t9.toNat ((0 : Int), (0 : Int), false, ())).1) 34) (
    cond (ine ((t5.getD t9.toNat ((0 : Int), (0 : Int), false, ())).1) 92) (
    some ([], (t5.getD t9.toNat ((0 : Int), (0 : Int), false, ())).2.1, 4, ())) (
    chk (decide (t7.size + (subStr t0 ((t5.getD t9.toNat ((0 : Int), (0 : Int), false, ())).2.1) ((t5.getD (iadd .i64 t9 1).toNat ((0 : Int), (0 : Int), false, ())).2.1)).size < 4611686018427387904)) <|
    κ (t0, t5, t6, (t7 ++ (subStr t0 ((t5.getD t9.toNat ((0 : Int), (0 : Int), false, ())).2.1) ((t5.getD (iadd .i64 t9 1).toNat ((0 : Int), (0 : Int), false, ())).2.1))), 2, (iadd .i64 t9 1), ()))) (
    chk (decide (t7.size + (subStr t0 ((t5.getD t9.toNat ((0 : Int), (0 : Int), false, ())).2.1) ((t5.getD (iadd .i64 t9 1).toNat ((0 : Int), (0 : Int), false, ())).2.1)).size < 4611686018427387904)) <|
    κ (t0, t5, t6, (t7 ++ (subStr t0 ((t5.getD t9.toNat ((0 : Int), (0 : Int), false, ())).2.1) ((t5.getD (iadd .i64 t9 1).toNat ((0 : Int), (0 : Int), false, ())).2.1))), 2, (iadd .i64 t9 1), ()))) (
    cond (ieq t8 4) (
    chk (fits 16 (t6.length + 1)) <|
    cond (ine ((t5.getD t9.toNat ((0 : Int), (0 : Int), false, ())).1) 32) (
    some ([], (t5.getD t9.toNat ((0 : Int), (0 : Int), false, ())).2.1, 4, ())) (
    chk (decide ((⟨#[]⟩ : ByteArray).size + (⟨#[]⟩ : ByteArray).size < 4611686018427387904)) <|
    κ (t0, t5, (t6 ++ [t7]), ((⟨#[]⟩ : ByteArray) ++ (⟨#[]⟩ : ByteArray)), 0, (iadd .i64 t9 1), ()))) (
    cond (!v49) (
    some ([], (t5.getD t9.toNat ((0 : Int), (0 : Int), false, ())).2.1, 4, ())) (
    chk (decide (t7.size + (subStr t0 ((t5.getD t9.toNat ((0 : Int), (0 : Int), false, ())).2.1) ((t5.getD (iadd .i64 t9 1).toNat ((0 : Int), (0 : Int), false, ())).2.1)).size < 4611686018427387904)) <|
    κ (t0, t5, t6, (t7 ++ (subStr t0 ((t5.getD t9.toNat ((0 : Int), (0 : Int), false, ())).2.1) ((t5.getD (iadd .i64 t9 1).toNat ((0 : Int), (0 : Int), false, ())).2.1))), t8, (iadd .i64 t9 1), ())))))))) (
    chk (leB 0 ((t5.getD t9.toNat ((0 : Int), (0 : Int), false, ())).2.1) && (leB ((t5.getD t9.toNat ((0 : Int), (0 : Int), false, ())).2.1) (t0.size : Int) && leB (t0.size : Int) t0.size)) <|
    (f23 (((t5.getD t9.toNat ((0 : Int), (0 : Int), false, ())).1, (t5.getD t9.toNat ((0 : Int), (0 : Int), false, ())).2.1, (t5.getD t9.toNat ((0 : Int), (0 : Int), false, ())).2.2.1, ()), ())).bind fun v49 =>
    cond (ieq t8 0) (
    cond (ieq ((t5.getD t9.toNat ((0 : Int), (0 : Int), false, ())).1) 32) (
    cond ((t5.getD t9.toNat ((0 : Int), (0 : Int), false, ())).2.2.1) (
    κ (t0, t5, t6, t7, t8, (iadd .i64 t9 1), ())) (
    cond (ieq ((t5.getD t9.toNat ((0 : Int), (0 : Int), false, ())).1) 34) (
    cond (!v49) (
    some ([], (t5.getD t9.toNat ((0 : Int), (0 : Int), false, ())).2.1, 4, ())) (
    cond (ieq ((t5.getD t9.toNat ((0 : Int), (0 : Int), false, ())).1) 92) (
    some ([], (t5.getD t9.toNat ((0 : Int), (0 : Int), false, ())).2.1, 4, ())) (
    chk (decide (t7.size + (⟨#[]⟩ : ByteArray).size < 4611686018427387904)) <|
    κ (t0, t5, t6, (t7 ++ (⟨#[]⟩ : ByteArray)), 2, (iadd .i64 t9 1), ())))) (
    cond (!v49) (
    some ([], (t5.getD t9.toNat ((0 : Int), (0 : Int), false, ())).2.1, 4, ())) (
    cond (ieq ((t5.getD t9.toNat ((0 : Int), (0 : Int), false, ())).1) 92) (
    some ([], (t5.getD t9.toNat ((0 : Int), (0 : Int), false, ())).2.1, 4, ())) (
    chk (decide (t7.size + (subStr t0 ((t5.getD t9.toNat ((0 : Int), (0 : Int), false, ())).2.1) (t0.size : Int)).size < 4611686018427387904)) <|
    κ (t0, t5, t6, (t7 ++ (subStr t0 ((t5.getD t9.toNat ((0 : Int), (0 : Int), false, ())).2.1) (t0.size : Int))), 1, (iadd .i64 t9 1), ())))))) (
    cond (ieq ((t5.getD t9.toNat ((0 : Int), (0 : Int), false, ())).1) 34) (
    cond (!v49) (
    some ([], (t5.getD t9.toNat ((0 : Int), (0 : Int), false, ())).2.1, 4, ())) (
    cond (ieq ((t5.getD t9.toNat ((0 : Int), (0 : Int), false, ())).1) 92) (
    some ([], (t5.getD t9.toNat ((0 : Int), (0 : Int), false, ())).2.1, 4, ())) (
    chk (decide (t7.size + (⟨#[]⟩ : ByteArray).size < 4611686018427387904)) <|
    κ (t0, t5, t6, (t7 ++ (⟨#[]⟩ : ByteArray)), 2, (iadd .i64 t9 1), ())))) (
    cond (!v49) (
    some ([], (t5.getD t9.toNat ((0 : Int), (0 : Int), false, ())).2.1, 4, ())) (
    cond (ieq ((t5.getD t9.toNat ((0 : Int), (0 : Int), false, ())).1) 92) (
    some ([], (t5.getD t9.toNat ((0 : Int), (0 : Int), false, ())).2.1, 4, ())) (
    chk (decide (t7.size + (subStr t0 ((t5.getD t9.toNat ((0 : Int), (0 : Int), false, ())).2.1) (t0.size : Int)).size < 4611686018427387904)) <|
    κ (t0, t5, t6, (t7 ++ (subStr t0 ((t5.getD t9.toNat ((0 : Int), (0 : Int), false, ())).2.1) (t0.size : Int))), 1, (iadd .i64 t9 1), ())))))) (
    cond (ieq t8 1) (
    cond (ieq ((t5.getD t9.toNat ((0 : Int), (0 : Int), false, ())).1) 32) (
    chk (fits 16 (t6.length + 1)) <|
    κ (t0, t5, (t6 ++ [t7]), (⟨#[]⟩ : ByteArray), 0, (iadd .i64 t9 1), ())) (
    cond (!v49) (
    some ([], (t5.getD t9.toNat ((0 : Int), (0 : Int), false, ())).2.1, 4, ())) (
    cond (ieq ((t5.getD t9.toNat ((0 : Int), (0 : Int), false, ())).1) 34) (
    some ([], (t5.getD t9.toNat ((0 : Int), (0 : Int), false, ())).2.1, 4, ())) (
    cond (ieq ((t5.getD t9.toNat ((0 : Int), (0 : Int), false, ())).1) 92) (
    some ([], (t5.getD t9.toNat ((0 : Int), (0 : Int), false, ())).2.1, 4, ())) (
    chk (decide (t7.size + (subStr t0 ((t5.getD t9.toNat ((0 : Int), (0 : Int), false, ())).2.1) (t0.size : Int)).size < 4611686018427387904)) <|
    κ (t0, t5, t6, (t7 ++ (subStr t0 ((t5.getD t9.toNat ((0 : Int), (0 : Int), false, ())).2.1) (t0.size : Int))), t8, (iadd .i64 t9 1), ())))))) (
    cond (ieq t8 2) (
    cond (ieq ((t5.getD t9.toNat ((0 : Int), (0 : Int), false, ())).1) 92) (
    cond (ieq ((t5.getD t9.toNat ((0 : Int), (0 : Int), false, ())).1) 34) (
    cond (!v49) (
    some ([], (t5.getD t9.toNat ((0 : Int), (0 : Int), false, ())).2.1, 4, ())) (
    chk (decide (t7.size + (⟨#[]⟩ : ByteArray).size < 4611686018427387904)) <|
    κ (t0, t5, t6, (t7 ++ (⟨#[]⟩ : ByteArray)), 4, (iadd .i64 t9 1), ()))) (
    cond (!v49) (
    some ([], (t5.getD t9.toNat ((0 : Int), (0 : Int), false, ())).2.1, 4, ())) (
    chk (decide (t7.size + (⟨#[]⟩ : ByteArray).size < 4611686018427387904)) <|
    κ (t0, t5, t6, (t7 ++ (⟨#[]⟩ : ByteArray)), 3, (iadd .i64 t9 1), ())))) (
    cond (ieq ((t5.getD t9.toNat ((0 : Int), (0 : Int), false, ())).1) 34) (
    cond (!v49) (
    some ([], (t5.getD t9.toNat ((0 : Int), (0 : Int), false, ())).2.1, 4, ())) (
    chk (decide (t7.size + (⟨#[]⟩ : ByteArray).size < 4611686018427387904)) <|
    κ (t0, t5, t6, (t7 ++ (⟨#[]⟩ : ByteArray)), 4, (iadd .i64 t9 1), ()))) (
    cond (!v49) (
    some ([], (t5.getD t9.toNat ((0 : Int), (0 : Int), false, ())).2.1, 4, ())) (
    chk (decide (t7.size + (subStr t0 ((t5.getD t9.toNat ((0 : Int), (0 : Int), false, ())).2.1) (t0.size : Int)).size < 4611686018427387904)) <|
    κ (t0, t5, t6, (t7 ++ (subStr t0 ((t5.getD t9.toNat ((0 : Int), (0 : Int), false, ())).2.1) (t0.size : Int))), t8, (iadd .i64 t9 1), ()))))) (
    cond (ieq t8 3) (
    cond (ine ((t5.getD t9.toNat ((0 : Int), (0 : Int), false, ())).1) 34) (
    cond (ine ((t5.getD t9.toNat ((0 : Int), (0 : Int), false, ())).1) 92) (
    some ([], (t5.getD t9.toNat ((0 : Int), (0 : Int), false, ())).2.1, 4, ())) (
    chk (decide (t7.size + (subStr t0 ((t5.getD t9.toNat ((0 : Int), (0 : Int), false, ())).2.1) (t0.size : Int)).size < 4611686018427387904)) <|
    κ (t0, t5, t6, (t7 ++ (subStr t0 ((t5.getD t9.toNat ((0 : Int), (0 : Int), false, ())).2.1) (t0.size : Int))), 2, (iadd .i64 t9 1), ()))) (
    chk (decide (t7.size + (subStr t0 ((t5.getD t9.toNat ((0 : Int), (0 : Int), false, ())).2.1) (t0.size : Int)).size < 4611686018427387904)) <|
    κ (t0, t5, t6, (t7 ++ (subStr t0 ((t5.getD t9.toNat ((0 : Int), (0 : Int), false, ())).2.1) (t0.size : Int))), 2, (iadd .i64 t9 1), ()))) (
    cond (ieq t8 4) (
    chk (fits 16 (t6.length + 1)) <|
    cond (ine ((t5.getD t9.toNat ((0 : Int), (0 : Int), false, ())).1) 32) (
    some ([], (t5.getD t9.toNat ((0 : Int), (0 : Int), false, ())).2.1, 4, ())) (
    chk (decide ((⟨#[]⟩ : ByteArray).size + (⟨#[]⟩ : ByteArray).size < 4611686018427387904)) <|
    κ (t0, t5, (t6 ++ [t7]), ((⟨#[]⟩ : ByteArray) ++ (⟨#[]⟩ : ByteArray)), 0, (iadd .i64 t9 1), ()))) (
    cond (!v49) (
    some ([], (t5.getD t9.toNat ((0 : Int), (0 : Int), false, ())).2.1, 4, ())) (
    chk (decide (t7.size + (subStr t0 ((t5.getD t9.toNat ((0 : Int), (0 : Int), false, ())).2.1) (t0.size : Int)).size < 4611686018427387904)) <|
    κ (t0, t5, t6, (t7 ++ (subStr t0 ((t5.getD t9.toNat ((0 : Int), (0 : Int), false, ())).2.1) (t0.size : Int))), t8, (iadd .i64 t9 1), ()))))))))) (
    kx (t0, t6, t7, t8, ()))
def r05_Words.s0 (kx : (ByteArray × List ByteArray × ByteArray × Int × Unit) → Option (List ByteArray × Int × Int × Unit)) : (ByteArray × List (Int × Int × Bool × Unit) × List ByteArray × ByteArray × Int × Int × Unit) → ((ByteArray × List (Int × Int × Bool × Unit) × List ByteArray × ByteArray × Int × Int × Unit) → Option (List ByteArray × Int × Int × Unit)) → Option (List ByteArray × Int × Int × Unit) := r05_Words.s0b r05_plain kx
def r05_Words.n0 : (ByteArray × List (Int × Int × Bool × Unit) × List ByteArray × ByteArray × Int × Int × Unit) → Nat
  | (t0, t5, t6, t7, t8, t9, _) => t0.size + t5.length + t6.length + t7.size + t8.toNat + t9.toNat + 1048576
def r05_Words.l0 (x : ByteArray × List (Int × Int × Bool × Unit) × List ByteArray × ByteArray × Int × Int × Unit) (kx : (ByteArray × List ByteArray × ByteArray × Int × Unit) → Option (List ByteArray × Int × Int × Unit)) : Option (List ByteArray × Int × Int × Unit) := loopN (r05_Words.n0 x) (r05_Words.s0 kx) x
def r05_Words.b (f22 : (ByteArray × Unit) → Option (List (Int × Int × Bool × Unit))) (l0 : (ByteArray × List (Int × Int × Bool × Unit) × List ByteArray × ByteArray × Int × Int × Unit) → ((ByteArray × List ByteArray × ByteArray × Int × Unit) → Option (List ByteArray × Int × Int × Unit)) → Option (List ByteArray × Int × Int × Unit)) : (ByteArray × Unit) → Option (List ByteArray × Int × Int × Unit)
  | (x0, _) =>
    cond (igt (x0.size : Int) 300) (
    some ([], 0, 2, ())) (
    (f22 (x0, ())).bind fun v19 =>
    l0 (x0, v19, [], (⟨#[]⟩ : ByteArray), 0, 0, ()) fun (t0, t6, t7, t8, _) =>
    cond (ieq t8 2) (
    some ([], (t0.size : Int), 4, ())) (
    cond (ieq t8 3) (
    some ([], (t0.size : Int), 4, ())) (
    cond (ine t8 0) (
    chk (fits 16 (t6.length + 1)) <|
    some ((t6 ++ [t7]), 0, 0, ())) (
    some (t6, 0, 0, ())))))
def r05_Words (x : (ByteArray × Unit)) : Option (List ByteArray × Int × Int × Unit) := r05_Words.b r03_Chars r05_Words.l0 x
/-- muniment/munimentlaw05.LineWords -/
def w05_LineWords.s0b (kx : Unit → Option Bool) : (List ByteArray × List ByteArray × Int × Unit) → ((List ByteArray × List ByteArray × Int × Unit) → Option Bool) → Option Bool
  | (t3, t6, t9, _), κ =>
    cond (ilt t9 (t3.length : Int)) (
    chk (inB t9 t3.length) <|
    chk (inB t9 t6.length) <|
    cond (sne (t3.getD t9.toNat ByteArray.empty) (t6.getD t9.toNat ByteArray.empty)) (
    some false) (
    κ (t3, t6, (iadd .i64 t9 1), ()))) (
    kx (()))
def w05_LineWords.s0 (kx : Unit → Option Bool) : (List ByteArray × List ByteArray × Int × Unit) → ((List ByteArray × List ByteArray × Int × Unit) → Option Bool) → Option Bool := w05_LineWords.s0b kx
def w05_LineWords.n0 : (List ByteArray × List ByteArray × Int × Unit) → Nat
  | (t3, t6, t9, _) => t3.length + t6.length + t9.toNat + 1048576
def w05_LineWords.l0 (x : List ByteArray × List ByteArray × Int × Unit) (kx : Unit → Option Bool) : Option Bool := loopN (w05_LineWords.n0 x) (w05_LineWords.s0 kx) x
def w05_LineWords.b (f9 : Unit → Option Bool) (f13 : (ByteArray × Unit) → Option (List ByteArray × Int × Int × Unit)) (f14 : (ByteArray × Unit) → Option (List ByteArray × Int × Int × Unit)) (l0 : (List ByteArray × List ByteArray × Int × Unit) → (Unit → Option Bool) → Option Bool) : (ByteArray × Unit) → Option Bool
  | (x0, _) =>
    (f9 (())).bind fun v10 =>
    cond (!v10) (
    some false) (
    (f13 (x0, ())).bind fun v16 =>
    (f14 (x0, ())).bind fun v22 =>
    cond (ine (v16.1.length : Int) (v22.1.length : Int)) (
    some false) (
    cond (ine v16.2.1 v22.2.1) (
    some false) (
    cond (ine v16.2.2.1 v22.2.2.1) (
    some false) (
    l0 (v16.1, v22.1, 0, ()) fun (_) =>
    some true))))
def w05_LineWords (x : (ByteArray × Unit)) : Option Bool := w05_LineWords.b w05_awake line_Words r05_Words w05_LineWords.l0 x
/-- muniment/munimentlaw05.LineJoins -/
def w05_LineJoins.s0b (kx : Unit → Option Bool) : (List ByteArray × List ByteArray × List ByteArray × Int × Unit) → ((List ByteArray × List ByteArray × List ByteArray × Int × Unit) → Option Bool) → Option Bool
  | (t5, t8, t11, t14, _), κ =>
    cond (ilt t14 (t11.length : Int)) (
    cond (ilt t14 (t5.length : Int)) (
    chk (inB t14 t11.length) <|
    chk (inB t14 t5.length) <|
    cond (sne (t11.getD t14.toNat ByteArray.empty) (t5.getD t14.toNat ByteArray.empty)) (
    some false) (
    cond (ige t14 (t5.length : Int)) (
    chk (inB t14 t11.length) <|
    chk (inB (isub .i64 t14 (t5.length : Int)) t8.length) <|
    cond (sne (t11.getD t14.toNat ByteArray.empty) (t8.getD (isub .i64 t14 (t5.length : Int)).toNat ByteArray.empty)) (
    some false) (
    κ (t5, t8, t11, (iadd .i64 t14 1), ()))) (
    κ (t5, t8, t11, (iadd .i64 t14 1), ())))) (
    cond (ige t14 (t5.length : Int)) (
    chk (inB t14 t11.length) <|
    chk (inB (isub .i64 t14 (t5.length : Int)) t8.length) <|
    cond (sne (t11.getD t14.toNat ByteArray.empty) (t8.getD (isub .i64 t14 (t5.length : Int)).toNat ByteArray.empty)) (
    some false) (
    κ (t5, t8, t11, (iadd .i64 t14 1), ()))) (
    κ (t5, t8, t11, (iadd .i64 t14 1), ())))) (
    kx (()))
def w05_LineJoins.s0 (kx : Unit → Option Bool) : (List ByteArray × List ByteArray × List ByteArray × Int × Unit) → ((List ByteArray × List ByteArray × List ByteArray × Int × Unit) → Option Bool) → Option Bool := w05_LineJoins.s0b kx
def w05_LineJoins.n0 : (List ByteArray × List ByteArray × List ByteArray × Int × Unit) → Nat
  | (t5, t8, t11, t14, _) => t5.length + t8.length + t11.length + t14.toNat + 1048576
def w05_LineJoins.l0 (x : List ByteArray × List ByteArray × List ByteArray × Int × Unit) (kx : Unit → Option Bool) : Option Bool := loopN (w05_LineJoins.n0 x) (w05_LineJoins.s0 kx) x
def w05_LineJoins.b (f9 : Unit → Option Bool) (f13 : (ByteArray × Unit) → Option (List ByteArray × Int × Int × Unit)) (l0 : (List ByteArray × List ByteArray × List ByteArray × Int × Unit) → (Unit → Option Bool) → Option Bool) : (ByteArray × ByteArray × Unit) → Option Bool
  | (x0, x1, _) =>
    (f9 (())).bind fun v15 =>
    cond (!v15) (
    (f9 (())).bind fun v25 =>
    some v25) (
    cond (igt (iadd .i64 (x0.size : Int) (x1.size : Int)) 299) (
    (f9 (())).bind fun v25 =>
    some v25) (
    (f13 (x0, ())).bind fun v28 =>
    (f13 (x1, ())).bind fun v34 =>
    chk (decide (x0.size + (⟨#[32]⟩ : ByteArray).size < 4611686018427387904)) <|
    chk (decide ((x0 ++ (⟨#[32]⟩ : ByteArray)).size + x1.size < 4611686018427387904)) <|
    (f13 (((x0 ++ (⟨#[32]⟩ : ByteArray)) ++ x1), ())).bind fun v43 =>
    cond (ine v28.2.2.1 0) (
    cond (ine v28.2.2.1 0) (
    some true) (
    some (ine v43.2.2.1 0))) (
    cond (ine v34.2.2.1 0) (
    cond (ine v28.2.2.1 0) (
    some true) (
    some (ine v43.2.2.1 0))) (
    cond (ine v43.2.2.1 0) (
    some false) (
    cond (ine (v43.1.length : Int) (iadd .i64 (v28.1.length : Int) (v34.1.length : Int))) (
    some false) (
    l0 (v28.1, v34.1, v43.1, 0, ()) fun (_) =>
    some true))))))
def w05_LineJoins (x : (ByteArray × ByteArray × Unit)) : Option Bool := w05_LineJoins.b w05_awake line_Words w05_LineJoins.l0 x
end Go.Px
