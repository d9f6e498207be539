/- OctetTexts: any text as bytes, and back, whatever stands about it. -/
import Derived.Test.YtoneacebiaekkaaPuOctText
import Derived.Test.YtoneacebiaekkaaPuOctAwake
set_option linter.unusedVariables false
set_option linter.unusedSimpArgs false
namespace Go.Px
open Go Go.Px.Pu
theorem pure_OctetTexts (x0 : List Int) (y0 : x0.length * 1 ≤ 140737488351232) (w0 : ∀ n ∈ x0, (Lit.int .u8 n).wf = true) (x1 : ByteArray) (w1 : x1.size ≤ 140737488351232) (x2 : List Int) (y2 : x2.length * 1 ≤ 140737488351232) (w2 : ∀ n ∈ x2, (Lit.int .u8 n).wf = true) (hb : x0.length + x1.size + x2.length ≤ 1048576) : w02_OctetTexts (x0, x1, x2, ()) = some true := by
  have hs : 2 * x1.size + 2 ≤ 140737488351232 := by omega
  have hl := textB_len x1
  unfold w02_OctetTexts
  simp only [w02_OctetTexts.b, w02_awake_eq, Option.bind_some, Bool.not_true, cond_false, octet_Text_eq hs, r02_Text_eq hs]
  rw [chk_true (fits_iff.2 (by omega)), chk_true (fits_iff.2 (by omega)), chk_true (fits_iff.2 (by simp; omega)), octet_ReadText_eq (by simp; omega), readText_at _ x0 x2 x1 (by simp)]
  simp only [Option.bind_some]
  rw [cond_t (by rw [seq_bytes]; exact decide_eq_true rfl), cond_t (ieq_iff.2 rfl), cond_t (ieq_iff.2 rfl), seq_self]
end Go.Px
