/- Decoding, of the head of a text. -/
import Derived.Test.YtpmnipaimoaagaaDoorPuNamDec
set_option linter.unusedVariables false
set_option linter.unusedSimpArgs false
namespace Go.Px.Pu
open Go Go.Px
theorem decodeN_cut {n m b0 b1 b2 b3 c1 c2 c3 : Nat} (hn : 0 < n) (hm : n ≤ m) (h1 : 1 < n → c1 = b1) (h2 : 2 < n → c2 = b2) (h3 : 3 < n → c3 = b3) (h : Lib.decodeN m b0 b1 b2 b3 ≠ (65533, 1)) (hw : (Lib.decodeN m b0 b1 b2 b3).2 ≤ n) : Lib.decodeN n b0 c1 c2 c3 = Lib.decodeN m b0 b1 b2 b3 := by
  by_cases g1 : 1 < n
  · obtain rfl := h1 g1
    have e1 : 1 < m := by omega
    by_cases g2 : 2 < n
    · obtain rfl := h2 g2
      have e2 : 2 < m := by omega
      by_cases g3 : 3 < n
      · obtain rfl := h3 g3
        have e3 : 3 < m := by omega
        simp only [Lib.decodeN, g1, g2, g3, e1, e2, e3]
      · simp only [Lib.decodeN, g1, g2, g3, e1, e2, true_and, false_and, and_false, if_false] at h hw ⊢
        repeat' split at hw
        all_goals first
          | (exfalso; simp only at hw; omega)
          | simp_all
    · simp only [Lib.decodeN, g1, g2, e1, true_and, false_and, and_false, if_false] at h hw ⊢
      repeat' split at hw
      all_goals first
        | (exfalso; simp only at hw; omega)
        | simp_all
  · simp only [Lib.decodeN, g1, false_and, and_false, if_false] at h hw ⊢
    repeat' split at hw
    all_goals first
      | (exfalso; simp only at hw; omega)
      | simp_all
theorem dec_pre (a b : ByteArray) (p : Nat) (hp : p < a.size) (h : Utf8.decode (a ++ b) p ≠ (65533, 1)) (hw : p + (Utf8.decode (a ++ b) p).2 ≤ a.size) : Utf8.decode a p = Utf8.decode (a ++ b) p := by
  have hsz : (a ++ b).size = a.size + b.size := by simp
  rw [Lib.decode_at (a ++ b)] at h hw
  rw [Lib.decode_at (a ++ b), Lib.decode_at a]
  have g : ∀ k, p + k < a.size → ((a ++ b).get! (p + k)).toNat = (a.get! (p + k)).toNat := fun k hk => by rw [get_app, if_pos hk]
  have g0 := g 0 (by omega)
  simp only [Nat.add_zero] at g0
  rw [g0] at h hw ⊢
  exact decodeN_cut (by omega) (by omega) (fun h1 => (g 1 (by omega)).symm) (fun h1 => (g 2 (by omega)).symm) (fun h1 => (g 3 (by omega)).symm) h (by omega)
theorem decodeN_cont (n b0 b1 b2 b3 : Nat) (h : Lib.decodeN n b0 b1 b2 b3 ≠ (65533, 1)) : b0 / 64 ≠ 2 ∧ (1 < (Lib.decodeN n b0 b1 b2 b3).2 → b1 / 64 = 2) ∧ (2 < (Lib.decodeN n b0 b1 b2 b3).2 → b2 / 64 = 2) ∧ (3 < (Lib.decodeN n b0 b1 b2 b3).2 → b3 / 64 = 2) := by
  revert h
  simp only [Lib.decodeN]
  repeat' split
  all_goals first
    | (intro h; exact absurd rfl h)
    | (intro _; dsimp only; refine ⟨by omega, fun _ => by omega, fun _ => by omega, fun _ => by omega⟩)
theorem dec_cut (a x : ByteArray) (p : Nat) (hp : p < a.size) (hx : 0 < x.size) (h : Utf8.decode (a ++ x) p ≠ (65533, 1)) (h0 : Utf8.decode x 0 ≠ (65533, 1)) : p + (Utf8.decode (a ++ x) p).2 ≤ a.size := by
  have h1 := Lib.decode_at x 0
  rw [h1] at h0
  have c0 := (decodeN_cont _ _ _ _ _ h0).1
  have g : (a ++ x).get! a.size = x.get! 0 := by rw [get_app, if_neg (by omega), Nat.sub_self]
  have h2 := Lib.decode_at (a ++ x) p
  rw [h2] at h ⊢
  obtain ⟨_, d1, d2, d3⟩ := decodeN_cont _ _ _ _ _ h
  refine Nat.le_of_not_lt fun hlt => ?_
  have hw4 : (Lib.decodeN ((a ++ x).size - p) ((a ++ x).get! p).toNat ((a ++ x).get! (p + 1)).toNat ((a ++ x).get! (p + 2)).toNat ((a ++ x).get! (p + 3)).toNat).2 ≤ 4 := by
    simp only [Lib.decodeN]
    repeat' split
    all_goals simp
  have hc : p + 1 = a.size ∨ p + 2 = a.size ∨ p + 3 = a.size := by omega
  rcases hc with e | e | e
  · exact c0 (by rw [← g, ← e]; exact d1 (by omega))
  · exact c0 (by rw [← g, ← e]; exact d2 (by omega))
  · exact c0 (by rw [← g, ← e]; exact d3 (by omega))
end Go.Px.Pu
