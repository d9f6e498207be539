/- What stands ahead of a place, decoded by itself. -/
import Derived.Test.YtjpgncjabhiooaaDoorPuNamingOnce
import Derived.Test.YtjpgncjabhiooaaDoorPuNamChars
set_option linter.unusedVariables false
set_option linter.unusedSimpArgs false
namespace Go.Px.Pu
open Go Go.Px
theorem decodeN_cut {n m b0 b1 b2 b3 c1 c2 c3 : Nat} (hn : 0 < n) (hm : n ≤ m) (h1 : 1 < n → c1 = b1) (h2 : 2 < n → c2 = b2) (h3 : 3 < n → c3 = b3) (h : Lib.decodeN m b0 b1 b2 b3 ≠ (65533, 1)) (hw : (Lib.decodeN m b0 b1 b2 b3).2 ≤ n) : Lib.decodeN n b0 c1 c2 c3 = Lib.decodeN m b0 b1 b2 b3 := by
  by_cases g1 : 1 < n
  · obtain rfl := h1 g1
    have e1 : 1 < m := by omega
    by_cases g2 : 2 < n
    · obtain rfl := h2 g2
      have e2 : 2 < m := by omega
      by_cases g3 : 3 < n
      · obtain rfl := h3 g3
        have e3 : 3 < m := by omega
        simp only [Lib.decodeN, g1, g2, g3, e1, e2, e3]
      · simp only [Lib.decodeN, g1, g2, g3, e1, e2, true_and, false_and, and_false, if_false] at h hw ⊢
        repeat' split at hw
        all_goals first
          | (exfalso; simp only at hw; omega)
          | simp_all
    · simp only [Lib.decodeN, g1, g2, e1, true_and, false_and, and_false, if_false] at h hw ⊢
      repeat' split at hw
      all_goals first
        | (exfalso; simp only at hw; omega)
        | simp_all
  · simp only [Lib.decodeN, g1, false_and, and_false, if_false] at h hw ⊢
    repeat' split at hw
    all_goals first
      | (exfalso; simp only at hw; omega)
      | simp_all
theorem dec_pre (a b : ByteArray) (p : Nat) (hp : p < a.size) (h : Utf8.decode (a ++ b) p ≠ (65533, 1)) (hw : p + (Utf8.decode (a ++ b) p).2 ≤ a.size) : Utf8.decode a p = Utf8.decode (a ++ b) p := by
  have hsz : (a ++ b).size = a.size + b.size := by simp
  rw [Lib.decode_at (a ++ b)] at h hw
  rw [Lib.decode_at (a ++ b), Lib.decode_at a]
  have g : ∀ k, p + k < a.size → ((a ++ b).get! (p + k)).toNat = (a.get! (p + k)).toNat := fun k hk => by rw [get_app, if_pos hk]
  have g0 := g 0 (by omega)
  simp only [Nat.add_zero] at g0
  rw [g0] at h hw ⊢
  exact decodeN_cut (by omega) (by omega) (fun h1 => (g 1 (by omega)).symm) (fun h1 => (g 2 (by omega)).symm) (fun h1 => (g 3 (by omega)).symm) h (by omega)
/-- a text of characters has as many of them -/
theorem chars_runes : (b a : List Int) → (∀ r ∈ a ++ b, rune r) → ∀ k, (strOfRunes (a ++ b)).size - (strOfRunes a).size ≤ k → (charsL k (strOfRunes (a ++ b)) (strOfRunes a).size).length = b.length
  | [], a, _, k, _ => by rw [List.append_nil, charsL_end _ _ _ (Nat.le_refl _)]; rfl
  | r :: b, a, h1, k, hk => by
    have hr := h1 r (by simp)
    have hs := enc_size hr
    have hsz : (strOfRunes (a ++ r :: b)).size = (strOfRunes a).size + ((Utf8.encode r).size + (strOfRunes b).size) := by rw [runes_app, runes_cons, size_app, size_app]
    cases k with
    | zero => omega
    | succ k =>
      have hd := dec_runes a r b hr
      have e : a ++ r :: b = (a ++ [r]) ++ b := by simp
      have e2 : (strOfRunes a).size + (Utf8.encode r).size = (strOfRunes (a ++ [r])).size := by
        rw [runes_app, runes_cons, size_app, size_app]; simp [strOfRunes]
      simp only [charsL]
      rw [if_pos (by omega), hd]
      dsimp only
      rw [List.length_cons, e2, e, chars_runes b (a ++ [r]) (by rw [← e]; exact h1) k (by rw [← e, ← e2]; omega)]
      rfl
end Go.Px.Pu
namespace Go.Px.Pu
open Go Go.Px
theorem lett_err : (lett 65533).2 = false := by decide +kernel
theorem foldG_ge : (k : Nat) → (s : ByteArray) → (p : Nat) → (t : List Int) → ∀ q e, foldG k s p t = .bad q e → p ≤ q ∧ q < s.size
  | 0, _, _, _, _, _, h => by cases h
  | k + 1, s, p, t, q, e, h => by
    simp only [foldG] at h
    split at h
    · rename_i hlt
      split at h
      · cases h; exact ⟨Nat.le_refl _, hlt⟩
      · split at h
        · cases h; exact ⟨Nat.le_refl _, hlt⟩
        · have := foldG_ge k s _ _ q e h
          omega
    · cases h
theorem foldG_pre (a b : ByteArray) : (k : Nat) → (p : Nat) → (t : List Int) → ∀ e, foldG k (a ++ b) p t = .bad a.size e → ∀ j, a.size - p ≤ j → ∃ t', foldG j a p t = .ok t' ∧ (t ≠ [] ∨ p < a.size → t' ≠ [])
  | 0, _, _, _, h, _, _ => by cases h
  | k + 1, p, t, e, h, j, hj => by
    obtain ⟨hpq, _⟩ := foldG_ge _ _ _ _ _ _ h
    by_cases hp : p = a.size
    · exact ⟨t, foldG_end _ _ _ _ (by omega), fun g => by rcases g with g | g; exact g; omega⟩
    · have hlt : p < a.size := by omega
      have hsz : (a ++ b).size = a.size + b.size := by simp
      simp only [foldG] at h
      rw [if_pos (by omega)] at h
      split at h
      · cases h; omega
      · rename_i hb
        split at h
        · cases h; omega
        · rename_i h16
          have hge := foldG_ge _ _ _ _ _ _ h
          have hw := dec_w (a ++ b) p
          have hne : Utf8.decode (a ++ b) p ≠ (65533, 1) := fun e => by
            apply hb
            rw [e]
            show (!(lett 65533).2 || _) = true
            rw [lett_err]; rfl
          have hd := dec_pre a b p hlt hne hge.1
          cases j with
          | zero => omega
          | succ j =>
            obtain ⟨t', g1, g2⟩ := foldG_pre a b k _ _ e h j (by omega)
            refine ⟨t', ?_, fun _ => g2 (.inl (by simp))⟩
            simp only [foldG]
            rw [if_pos hlt, hd, if_neg hb, if_neg h16]
            exact g1
end Go.Px.Pu
