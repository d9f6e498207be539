/- OctetNumbers: any number as bytes, and back. -/
import Derived.Test.YtoneacebiaekkaaPuOctUintW
import Derived.Test.YtoneacebiaekkaaPuOctAwake
set_option linter.unusedVariables false
set_option linter.unusedSimpArgs false
namespace Go.Px
open Go Go.Px.Pu
theorem pure_OctetNumbers (x0 : Int) (w0 : (Lit.int .u64 x0).wf = true) (x1 : Int) (w1 : (Lit.int .i64 x1).wf = true) : w02_OctetNumbers (x0, x1, ()) = some true := by
  simp [Lit.wf, IntKind.min, IntKind.max, IntKind.signed, IntKind.bits] at w0
  have h1 := i64_wf w1
  have hu : 0 ≤ x0 ∧ x0 < 256 ^ 8 := ⟨w0.1, by omega⟩
  have l0 := digs_len 8 x0
  have l1 : (intB x1).length = 8 := digs_len 8 _
  unfold w02_OctetNumbers
  simp only [w02_OctetNumbers.b, w02_awake_eq, Option.bind_some, Bool.not_true, cond_false, octet_Uint_eq, r02_Uint_eq, octet_Int_eq h1, r02_Int_eq h1]
  have r0 : readU (digs 8 x0) 0 = (x0, 8, 0, ()) := readU_at (digs 8 x0) [] [] x0 (by simp) hu
  have r1 : readI (intB x1) 0 = (x1, 8, 0, ()) := readI_at (intB x1) [] [] x1 (by simp) h1
  rw [octet_ReadUint_eq (by omega) (digs_bys 8 x0) 0, octet_ReadInt_eq (p := intB x1) (by omega) (digs_bys 8 _) 0, r0, r1]
  simp only [Option.bind_some]
  rw [cond_t (seq_self _), cond_t (seq_self _), cond_t (ieq_iff.2 rfl), cond_t (ieq_iff.2 rfl), cond_t (ieq_iff.2 rfl), cond_t (ieq_iff.2 rfl), cond_t (ieq_iff.2 rfl)]
  rfl
end Go.Px
