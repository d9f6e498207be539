/- The plain law of PassMakes. -/
import Derived.Test.YtgmfjbbhdnfapaaDoorPuPas
set_option linter.unusedVariables false
set_option linter.unusedSimpArgs false
namespace Go.Px.Pu
open Go Go.Px
theorem main_PassMakes (f14 f15 f16 f17 f18) (h14 : f14 () = some true) (h17 : f17 () = some (gv_dfirst, gv_dparts, ()))
    (h15 : ∀ p : ByteArray, p.size ≤ 2000 → ∀ salt n : Int, f15 (p, salt, n, ()) = if 1 ≤ n ∧ n ≤ 64 then some ((salt, n, strD p salt n, ()), 0, ()) else some ((0, 0, List.replicate 32 0, ()), 1, ()))
    (h16 : ∀ k p : List Int, k.length ≤ 2000 → p.length ≤ 2000 → (∀ n ∈ k, byte n) → (∀ n ∈ p, byte n) → ∀ n : Int, 1 ≤ n → n ≤ 64 → f16 ((gv_dfirst, gv_dparts, ()), k, p, n, ()) = some (stretch k p n.toNat))
    (h18 : ∀ u : Int, f18 (u, ()) = some (digs 8 u)) (x0 : ByteArray) (x1 x2 : Int) : w18_PassMakes.b f14 f15 f16 f17 f18 (x0, x1, x2, ()) = some true := by
  simp only [w18_PassMakes.b, h14, Option.bind_some, Bool.not_true, cond_false, cond_true]
  by_cases h : x0.size ≤ 1000
  · rw [cond_f (igt_f.2 (by omega)), h15 _ (by omega)]
    by_cases h1 : x2 < 1
    · rw [if_neg (by omega)]
      simp only [Option.bind_some]
      rw [cond_t (ilt_iff.2 h1), cond_t (ieq_iff.2 rfl), leq_self]
      rfl
    · by_cases h2 : 64 < x2
      · rw [if_neg (by omega)]
        simp only [Option.bind_some]
        rw [cond_f (ilt_f.2 (by omega)), cond_t (igt_iff.2 h2), cond_t (ieq_iff.2 rfl), leq_self]
        rfl
      · rw [if_pos (by omega)]
        simp only [Option.bind_some]
        rw [cond_f (ilt_f.2 (by omega)), cond_f (igt_f.2 (by omega)), cond_t (ieq_iff.2 rfl), cond_t (ieq_iff.2 rfl), cond_t (ieq_iff.2 rfl), h17]
        simp only [Option.bind_some]
        rw [chk_true (by simp; omega), h18]
        simp only [Option.bind_some]
        rw [h16 _ _ (by rw [bytesOf_len]; omega) (by rw [digs8_len]; omega) (str_bs _) (digs8_byte _) _ (by omega) (by omega)]
        simp only [Option.bind_some]
        unfold strD
        rw [leq_self]
  · rw [cond_t (igt_iff.2 (by omega))]
theorem _root_.Go.Px.pure_PassMakes (x0 : ByteArray) (w0 : x0.size ≤ 140737488351232) (x1 : Int) (w1 : (Lit.int .u64 x1).wf = true) (x2 : Int) (w2 : (Lit.int .i64 x2).wf = true) : w18_PassMakes (x0, x1, x2, ()) = some true :=
  main_PassMakes _ _ _ _ _ pas_awake make_eq (fun p hp salt n => make_pass p hp salt n) (fun k p hk hp bk bp n h1 h2 => rstretch_eq k p (by omega) (by omega) bk bp n h1 h2) r02_Uint_eq x0 x1 x2
end Go.Px.Pu
