/- The plain law of DigestTags. -/
import Derived.Test.YtcbknapjchlogaaDoorPuDigAwake
set_option linter.unusedVariables false
set_option linter.unusedSimpArgs false
namespace Go.Px.Pu
open Go Go.Px
theorem main_DigestTags (f10 f13 f17 f18) (h10 : f10 () = some true) (h13 : f13 () = some (gv_dfirst, gv_dparts, ())) (h17 : ∀ k p : List Int, k.length ≤ 100000 → p.length ≤ 100000 → f17 (k, p, ()) = some (tag k p))
    (h18 : ∀ k p : List Int, k.length ≤ 100000 → p.length ≤ 100000 → (∀ n ∈ k, byte n) → (∀ n ∈ p, byte n) → f18 ((gv_dfirst, gv_dparts, ()), k, p, ()) = some (tag k p))
    (x0 x1 : List Int) (y0 : x0.length * 1 ≤ 140737488351232) (y1 : x1.length * 1 ≤ 140737488351232) (w0 : ∀ n ∈ x0, byte n) (w1 : ∀ n ∈ x1, byte n) : w01_DigestTags.b f10 f13 f17 f18 (x0, x1, ()) = some true := by
  have e : iadd .i64 (x0.length : Int) (x1.length : Int) = ((x0.length + x1.length : Nat) : Int) := by rw [iadd64 (by omega)]; omega
  simp only [w01_DigestTags.b, h10, Option.bind_some, Bool.not_true, cond_false, e]
  by_cases h : x0.length + x1.length ≤ 100000
  · rw [cond_f (igt_f.2 (by omega)), h17 _ _ (by omega) (by omega)]
    simp only [Option.bind_some, h13]
    rw [h18 _ _ (by omega) (by omega) w0 w1]
    simp only [Option.bind_some]
    rw [leq_self]
  · rw [cond_t (igt_iff.2 (by omega))]
theorem _root_.Go.Px.pure_DigestTags (x0 : List Int) (y0 : x0.length * 1 ≤ 140737488351232) (w0 : ∀ n ∈ x0, (Lit.int .u8 n).wf = true) (x1 : List Int) (y1 : x1.length * 1 ≤ 140737488351232) (w1 : ∀ n ∈ x1, (Lit.int .u8 n).wf = true) : w01_DigestTags (x0, x1, ()) = some true :=
  main_DigestTags _ _ _ _ dig_awake make_eq (fun k p hk hp => tag_eq k p (by omega) (by omega)) (fun k p hk hp bk bp => rtag_eq k p (by omega) (by omega) bk bp) x0 x1 y0 y1 (bytes_wf w0) (bytes_wf w1)
end Go.Px.Pu
