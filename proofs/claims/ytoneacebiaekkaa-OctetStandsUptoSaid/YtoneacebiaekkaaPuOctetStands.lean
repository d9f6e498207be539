/- OctetStands: numbers and texts as bytes stand as they do, whatever comes behind texts. -/
import Derived.Test.YtoneacebiaekkaaPuOctText
import Derived.Test.YtoneacebiaekkaaPuOctUintW
import Derived.Test.YtoneacebiaekkaaPuOctAwake
set_option linter.unusedVariables false
set_option linter.unusedSimpArgs false
namespace Go.Px
open Go Go.Px.Pu
theorem pure_OctetStands (x0 : Int) (w0 : (Lit.int .i64 x0).wf = true) (x1 : Int) (w1 : (Lit.int .i64 x1).wf = true) (x2 : ByteArray) (w2 : x2.size ≤ 140737488351232) (x3 : ByteArray) (w3 : x3.size ≤ 140737488351232) (x4 : List Int) (y4 : x4.length * 1 ≤ 140737488351232) (w4 : ∀ n ∈ x4, (Lit.int .u8 n).wf = true) (x5 : List Int) (y5 : x5.length * 1 ≤ 140737488351232) (w5 : ∀ n ∈ x5, (Lit.int .u8 n).wf = true) (hb : x2.size + x3.size + x4.length + x5.length ≤ 1048576) : w02_OctetStands (x0, x1, x2, x3, x4, x5, ()) = some true := by
  have h0 := i64_wf w0
  have h1 := i64_wf w1
  have b4 : bys x4 := fun n hn => byte_wf (w4 n hn)
  have b5 : bys x5 := fun n hn => byte_wf (w5 n hn)
  have l2 := textB_len x2
  have l3 := textB_len x3
  unfold w02_OctetStands
  simp only [w02_OctetStands.b, w02_awake_eq, Option.bind_some, Bool.not_true, cond_false, octet_Text_eq (s := x2) (by omega), octet_Text_eq (s := x3) (by omega), octet_Int_eq h0, octet_Int_eq h1]
  rw [chk_true (fits_iff.2 (by omega)), chk_true (fits_iff.2 (by omega)), chk_true (fits_iff.2 (by omega)), chk_true (fits_iff.2 (by omega))]
  rw [slt_str (a := intB x0) (b := intB x1) (digs_bys 8 _) (digs_bys 8 _), int_less h0 h1]
  rw [cond_t (by simp [ilt])]
  by_cases h : x2 = x3
  · rw [cond_t (by rw [seq_bytes]; exact decide_eq_true h)]
  · rw [cond_f (by rw [seq_bytes]; exact decide_eq_false h), slt_str (bys_app.2 ⟨textB_bys _, b4⟩) (bys_app.2 ⟨textB_bys _, b5⟩), text_less h]
    simp
end Go.Px
