/- The plain law of PassRounds. -/
import Derived.Test.YtgmfjbbhdnfapaaDoorPuPassText
set_option linter.unusedVariables false
set_option linter.unusedSimpArgs false
namespace Go.Px.Pu
open Go Go.Px
theorem main_PassRounds (f14 f15 f19 f20 f21) (h14 : f14 () = some true)
    (h15 : ∀ p : ByteArray, p.size ≤ 2000 → ∀ salt n : Int, 1 ≤ n → n ≤ 64 → f15 (p, salt, n, ()) = some ((salt, n, strD p salt n, ()), 0, ()))
    (h19 : ∀ (p : ByteArray), p.size ≤ 2000 → ∀ (salt n r : Int) (d : List Int), (∀ n ∈ d, byte n) → f19 ((salt, n, d, ()), p, r, ()) = some (if 1 ≤ n ∧ n ≤ 64 ∧ leq (strD p salt n) d = true then (true, ilt n r, ()) else (false, false, ())))
    (h20 : ∀ (s n : Int) (d : List Int), 1 ≤ n → n ≤ 64 → d.length = 32 → (∀ x ∈ d, byte x) → f20 ((s, n, d, ()), ()) = some (secT s n d, 0, ()))
    (h21 : ∀ (s n : Int) (d : List Int), 0 ≤ s ∧ s < 18446744073709551616 → 1 ≤ n → n ≤ 64 → d.length = 32 → (∀ x ∈ d, byte x) → f21 (secT s n d, ()) = some ((s, n, d, ()), 0, ()))
    (x0 : ByteArray) (x1 x2 x3 : Int) (hx1 : 0 ≤ x1 ∧ x1 < 18446744073709551616) (hx2 : 0 ≤ x2 ∧ x2 ≤ 255) (hx3 : 0 ≤ x3 ∧ x3 ≤ 255) : w18_PassRounds.b f14 f15 f19 f20 f21 (x0, x1, x2, x3, ()) = some true := by
  have e (k : Nat) (hk : 0 < k) (x : Int) (hx : 0 ≤ x ∧ x ≤ 255) : irem .i64 (IntKind.wrap .i64 x) (k : Int) = x % (k : Int) := by
    obtain ⟨n, rfl⟩ : ∃ n : Nat, x = (n : Int) := ⟨x.toNat, by omega⟩
    have h8 : IntKind.wrap .i64 (n : Int) = (n : Int) := by simp [IntKind.wrap, IntKind.signed, IntKind.bits]; omega
    rw [h8, irem64 n k]
    simp
  have e12 : irem .i64 (IntKind.wrap .i64 x2) 12 = x2 % 12 := e 12 (by decide) x2 hx2
  have e20 : irem .i64 (IntKind.wrap .i64 x3) 20 = x3 % 20 := e 20 (by decide) x3 hx3
  have e1 : iadd .i64 1 (x2 % 12) = 1 + x2 % 12 := iadd64 (by omega)
  have e2 : iadd .i64 (1 + x2 % 12) 1 = 1 + x2 % 12 + 1 := iadd64 (by omega)
  simp only [w18_PassRounds.b, h14, Option.bind_some, Bool.not_true, cond_false, e12, e20, e1, e2]
  by_cases h : x0.size ≤ 200
  · rw [cond_f (igt_f.2 (by omega)), h15 _ (by omega) _ _ (by omega) (by omega)]
    have hb : ∀ n ∈ strD x0 x1 (1 + x2 % 12), byte n := stretch_bytes _ _ _
    have hl : (strD x0 x1 (1 + x2 % 12)).length = 32 := stretch_len _ _ _
    simp only [Option.bind_some]
    rw [h19 _ (by omega) _ _ _ _ hb, if_pos ⟨by omega, by omega, leq_self _⟩, h20 _ _ _ (by omega) (by omega) hl hb]
    simp only [Option.bind_some]
    rw [h21 _ _ _ hx1 (by omega) (by omega) hl hb]
    simp only [Option.bind_some]
    rw [h19 _ (by omega) _ _ _ _ hb, if_pos ⟨by omega, by omega, leq_self _⟩, h19 _ (by omega) _ _ _ _ hb, h15 _ (by omega) _ _ (by omega) (by omega)]
    simp only [Option.bind_some]
    rw [cond_t (ieq_iff.2 rfl), cond_t (ieq_iff.2 rfl), cond_t (ieq_iff.2 rfl), cond_t (ieq_iff.2 rfl), cond_t rfl, cond_t (by simp), cond_t (by
      rw [leq_self, ieq_iff.2 rfl, ieq_iff.2 rfl]; rfl), cond_t rfl]
    cases hq : leq (strD x0 x1 (1 + x2 % 12 + 1)) (strD x0 x1 (1 + x2 % 12)) with
    | true => rw [if_pos ⟨by omega, by omega, rfl⟩]; rfl
    | false => rw [if_neg (by simp)]; rfl
  · rw [cond_t (igt_iff.2 (by omega))]
theorem _root_.Go.Px.pure_PassRounds (x0 : ByteArray) (w0 : x0.size ≤ 140737488351232) (x1 : Int) (w1 : (Lit.int .u64 x1).wf = true) (x2 : Int) (w2 : (Lit.int .u8 x2).wf = true) (x3 : Int) (w3 : (Lit.int .u8 x3).wf = true) : w18_PassRounds (x0, x1, x2, x3, ()) = some true :=
  main_PassRounds _ _ _ _ _ pas_awake (fun p hp salt n h1 h2 => by rw [make_pass p hp salt n, if_pos ⟨h1, h2⟩]) (fun p hp salt n r d hd => check_pass p hp salt n r d hd) write_pass read_pass x0 x1 x2 x3
    (by simp [Lit.wf, IntKind.min, IntKind.max, IntKind.signed, IntKind.bits] at w1; omega) (by have := byte_wf w2; unfold byte at this; exact this) (by have := byte_wf w3; unfold byte at this; exact this)
end Go.Px.Pu
