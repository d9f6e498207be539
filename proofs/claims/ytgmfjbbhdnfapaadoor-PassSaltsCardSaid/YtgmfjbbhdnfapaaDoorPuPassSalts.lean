/- The plain law of PassSalts. -/
import Derived.Test.YtgmfjbbhdnfapaaDoorPuPas
set_option linter.unusedVariables false
set_option linter.unusedSimpArgs false
namespace Go.Px.Pu
open Go Go.Px
theorem main_PassSalts (f14 f15 f16 f17 f18) (h14 : f14 () = some true) (h17 : f17 () = some (gv_dfirst, gv_dparts, ()))
    (h15 : ∀ p : ByteArray, p.size ≤ 2000 → ∀ salt n : Int, f15 (p, salt, n, ()) = if 1 ≤ n ∧ n ≤ 64 then some ((salt, n, strD p salt n, ()), 0, ()) else some ((0, 0, List.replicate 32 0, ()), 1, ()))
    (h16 : ∀ k p : List Int, k.length ≤ 2000 → p.length ≤ 2000 → (∀ n ∈ k, byte n) → (∀ n ∈ p, byte n) → ∀ n : Int, 1 ≤ n → n ≤ 64 → f16 ((gv_dfirst, gv_dparts, ()), k, p, n, ()) = some (stretch k p n.toNat))
    (h18 : ∀ u : Int, f18 (u, ()) = some (digs 8 u)) (x0 : ByteArray) (x1 x2 x3 : Int) (h3 : 0 ≤ x3 ∧ x3 ≤ 255) : w18_PassSalts.b f14 f15 f16 f17 f18 (x0, x1, x2, x3, ()) = some true := by
  have e : iadd .i64 1 (irem .i64 (IntKind.wrap .i64 x3) 8) = 1 + x3 % 8 := by
    obtain ⟨n, rfl⟩ : ∃ n : Nat, x3 = (n : Int) := ⟨x3.toNat, by omega⟩
    have h8 : IntKind.wrap .i64 (n : Int) = (n : Int) := by simp [IntKind.wrap, IntKind.signed, IntKind.bits]; omega
    rw [h8, show irem .i64 (n : Int) 8 = ((n % 8 : Nat) : Int) from irem64 n 8, iadd64 (by omega)]
    omega
  simp only [w18_PassSalts.b, h14, Option.bind_some, Bool.not_true, cond_false, cond_true, e]
  by_cases h : x0.size ≤ 60
  · rw [cond_f (igt_f.2 (by omega))]
    by_cases h1 : x1 = x2
    · rw [cond_t (ieq_iff.2 h1)]
    · rw [cond_f (ieq_f.2 h1), h15 _ (by omega), if_pos (by omega)]
      simp only [Option.bind_some]
      rw [h15 _ (by omega), if_pos (by omega)]
      simp only [Option.bind_some]
      rw [h17]
      simp only [Option.bind_some]
      rw [chk_true (by simp; omega), h18]
      simp only [Option.bind_some]
      rw [h16 _ _ (by rw [bytesOf_len]; omega) (by rw [digs8_len]; omega) (str_bs _) (digs8_byte _) _ (by omega) (by omega)]
      simp only [Option.bind_some]
      rw [chk_true (by simp; omega), h18]
      simp only [Option.bind_some]
      rw [h16 _ _ (by rw [bytesOf_len]; omega) (by rw [digs8_len]; omega) (str_bs _) (digs8_byte _) _ (by omega) (by omega)]
      simp only [Option.bind_some]
      rw [cond_t (ieq_iff.2 rfl), cond_t (ieq_iff.2 rfl)]
      unfold strD
      simp
  · rw [cond_t (igt_iff.2 (by omega))]
theorem _root_.Go.Px.pure_PassSalts (x0 : ByteArray) (w0 : x0.size ≤ 140737488351232) (x1 : Int) (w1 : (Lit.int .u64 x1).wf = true) (x2 : Int) (w2 : (Lit.int .u64 x2).wf = true) (x3 : Int) (w3 : (Lit.int .u8 x3).wf = true) : w18_PassSalts (x0, x1, x2, x3, ()) = some true :=
  main_PassSalts _ _ _ _ _ pas_awake make_eq (fun p hp salt n => make_pass p hp salt n) (fun k p hk hp bk bp n h1 h2 => rstretch_eq k p (by omega) (by omega) bk bp n h1 h2) r02_Uint_eq x0 x1 x2 x3 (by have := byte_wf w3; unfold byte at this; exact this)
end Go.Px.Pu
