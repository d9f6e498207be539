/- The plain law of DigestStretches. -/
import Derived.Test.YtcbknapjchlogaaDoorPuDigAwake
set_option linter.unusedVariables false
set_option linter.unusedSimpArgs false
namespace Go.Px.Pu
open Go Go.Px
theorem main_DigestStretches (f10 f13 f19 f20) (h10 : f10 () = some true) (h13 : f13 () = some (gv_dfirst, gv_dparts, ()))
    (h19 : ∀ k p : List Int, k.length ≤ 2000 → p.length ≤ 2000 → ∀ n : Int, f19 (k, p, n, ()) = if 1 ≤ n ∧ n ≤ 64 then some (stretch k p n.toNat, 0, ()) else some (List.replicate 32 0, 1, ()))
    (h20 : ∀ k p : List Int, k.length ≤ 2000 → p.length ≤ 2000 → (∀ n ∈ k, byte n) → (∀ n ∈ p, byte n) → ∀ n : Int, 1 ≤ n → n ≤ 64 → f20 ((gv_dfirst, gv_dparts, ()), k, p, n, ()) = some (stretch k p n.toNat))
    (x0 x1 : List Int) (y0 : x0.length * 1 ≤ 140737488351232) (y1 : x1.length * 1 ≤ 140737488351232) (w0 : ∀ n ∈ x0, byte n) (w1 : ∀ n ∈ x1, byte n) (x2 : Int) : w01_DigestStretches.b f10 f13 f19 f20 (x0, x1, x2, ()) = some true := by
  have e : iadd .i64 (x0.length : Int) (x1.length : Int) = ((x0.length + x1.length : Nat) : Int) := by rw [iadd64 (by omega)]; omega
  simp only [w01_DigestStretches.b, h10, Option.bind_some, Bool.not_true, cond_false, cond_true, e]
  by_cases h : x0.length + x1.length ≤ 2000
  · rw [cond_f (igt_f.2 (by omega)), h19 _ _ (by omega) (by omega)]
    by_cases h1 : x2 < 1
    · rw [if_neg (by omega)]
      simp only [Option.bind_some]
      rw [cond_t (ilt_iff.2 h1), cond_t (ieq_iff.2 rfl), leq_self]
    · by_cases h2 : 64 < x2
      · rw [if_neg (by omega)]
        simp only [Option.bind_some]
        rw [cond_f (ilt_f.2 (by omega)), cond_t (igt_iff.2 h2), cond_t (ieq_iff.2 rfl), leq_self]
      · rw [if_pos (by omega)]
        simp only [Option.bind_some]
        rw [cond_f (ilt_f.2 (by omega)), cond_f (igt_f.2 (by omega)), cond_t (ieq_iff.2 rfl), h13]
        simp only [Option.bind_some]
        rw [h20 _ _ (by omega) (by omega) w0 w1 _ (by omega) (by omega)]
        simp only [Option.bind_some]
        rw [leq_self]
  · rw [cond_t (igt_iff.2 (by omega))]
theorem _root_.Go.Px.pure_DigestStretches (x0 : List Int) (y0 : x0.length * 1 ≤ 140737488351232) (w0 : ∀ n ∈ x0, (Lit.int .u8 n).wf = true) (x1 : List Int) (y1 : x1.length * 1 ≤ 140737488351232) (w1 : ∀ n ∈ x1, (Lit.int .u8 n).wf = true) (x2 : Int) (w2 : (Lit.int .i64 x2).wf = true) : w01_DigestStretches (x0, x1, x2, ()) = some true :=
  main_DigestStretches _ _ _ _ dig_awake make_eq (fun k p hk hp n => stretch_eq k p (by omega) (by omega) n) (fun k p hk hp bk bp n h1 h2 => rstretch_eq k p (by omega) (by omega) bk bp n h1 h2) x0 x1 y0 y1 (bytes_wf w0) (bytes_wf w1) x2
end Go.Px.Pu
