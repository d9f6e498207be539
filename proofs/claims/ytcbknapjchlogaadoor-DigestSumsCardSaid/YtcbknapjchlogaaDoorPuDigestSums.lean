/- The plain law of DigestSums. -/
import Derived.Test.YtcbknapjchlogaaDoorPuDigAwake
set_option linter.unusedVariables false
set_option linter.unusedSimpArgs false
namespace Go.Px.Pu
open Go Go.Px
theorem main_DigestSums (f10 f11 f12 f13) (h10 : f10 () = some true) (h11 : ∀ x : List Int, x.length ≤ 100000 → f11 (x, ()) = some (sha x)) (h12 : ∀ x : List Int, x.length ≤ 100000 → (∀ n ∈ x, byte n) → f12 ((gv_dfirst, gv_dparts, ()), x, ()) = some (sha x)) (h13 : f13 () = some (gv_dfirst, gv_dparts, ()))
    (x0 : List Int) (w0 : ∀ n ∈ x0, byte n) : w01_DigestSums.b f10 f11 f12 f13 (x0, ()) = some true := by
  simp only [w01_DigestSums.b, h10, Option.bind_some, Bool.not_true, cond_false]
  by_cases h : x0.length ≤ 100000
  · rw [cond_f (igt_f.2 (by omega)), chk_true (fits_iff.2 (by omega)), h11 _ h]
    simp only [Option.bind_some, h13]
    rw [h12 _ h w0]
    simp only [Option.bind_some]
    rw [cond_t (leq_self _), seq_self]
  · rw [cond_t (igt_iff.2 (by omega))]
theorem _root_.Go.Px.pure_DigestSums (x0 : List Int) (y0 : x0.length * 1 ≤ 140737488351232) (w0 : ∀ n ∈ x0, (Lit.int .u8 n).wf = true) : w01_DigestSums (x0, ()) = some true :=
  main_DigestSums _ _ _ _ dig_awake (fun x hx => sum_eq x (by omega)) (fun x hx hb => rsum_eq x (by omega) hb) make_eq x0 (bytes_wf w0)
end Go.Px.Pu
