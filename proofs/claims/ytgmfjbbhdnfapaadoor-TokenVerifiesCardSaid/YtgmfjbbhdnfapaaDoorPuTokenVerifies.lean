/- TokenVerifies: any text by any key. -/
import Derived.Test.YtgmfjbbhdnfapaaDoorPuTokW
set_option linter.unusedVariables false
set_option linter.unusedSimpArgs false
namespace Go.Px.Pu
open Go Go.Px
theorem verifies_main (key : List Int) (s : ByteArray) (now : Int) (T : List Int × List Int × Unit) (f17 : Unit → Option (List Int × List Int × Unit)) (f24 : Unit → Option Bool) (f32 : (List Int × ByteArray × Int × Unit) → Option (Cl × Int × Unit)) (f33 : ((List Int × List Int × Unit) × List Int × ByteArray × Int × Unit) → Option (Cl × Int × Unit))
    (h24 : f24 () = some true) (h17 : f17 () = some T) (h : key.length ≤ 1000 → s.size ≤ 2000 → ∃ R : VR, f32 (key, s, now, ()) = some R ∧ f33 (T, key, s, now, ()) = some R) : w19_TokenVerifies.b f17 f24 f32 f33 (key, s, now, ()) = some true := by
  simp only [w19_TokenVerifies.b, h24, Option.bind_some, Bool.not_true, cond_false]
  by_cases h1 : key.length ≤ 1000
  · rw [cond_f (igt_f.2 (by omega))]
    by_cases h2 : s.size ≤ 2000
    · rw [cond_f (igt_f.2 (by omega))]
      obtain ⟨R, e1, e2⟩ := h h1 h2
      rw [e1]
      simp only [Option.bind_some]
      rw [h17]
      simp only [Option.bind_some]
      rw [show f33 ((T.1, T.2.1, ()), key, s, now, ()) = some R from e2]
      simp only [Option.bind_some]
      show cond (sameC R.1 R.1) _ _ = _
      rw [sameC_self, cond_true, ieq_iff.2 rfl]
    · rw [cond_t (igt_iff.2 (by omega))]
  · rw [cond_t (igt_iff.2 (by omega))]
theorem _root_.Go.Px.pure_TokenVerifies (x0 : List Int) (y0 : x0.length * 1 ≤ 140737488351232) (w0 : ∀ n ∈ x0, (Lit.int .u8 n).wf = true) (x1 : ByteArray) (w1 : x1.size ≤ 140737488351232) (x2 : Int) (w2 : (Lit.int .i64 x2).wf = true) : w19_TokenVerifies (x0, x1, x2, ()) = some true :=
  verifies_main x0 x1 x2 (gv_dfirst, gv_dparts, ()) r01_Make w19_awake token_Verify r19_Verify tok_awake make_eq fun h1 h2 => by
    rcases verify_both x0 (by omega) (fun n hn => byte_wf (w0 n hn)) x1 (by omega) x2 with ⟨e1, e2⟩ | ⟨l, _, _, _, _, e1, e2⟩
    · exact ⟨_, e1, e2⟩
    · exact ⟨_, e1, e2⟩
end Go.Px.Pu
