/- How many words there are; a text that is too long. -/
import Derived.Test.YtpmnipaimoaagaaDoorPuLinLine
set_option linter.unusedVariables false
set_option linter.unusedSimpArgs false
namespace Go.Px.Pu
open Go Go.Px
theorem wordsR_len (s : ByteArray) : (wordsR s).1.length ≤ 301 := by
  unfold wordsR
  split
  · rename_i hs
    have key : ∀ (k p st : Nat) (out : List ByteArray) (w : ByteArray), out.length ≤ p → p ≤ s.size → w.size ≤ p → (wS k s p st out w).1.length ≤ s.size + 1 := by
      intro k
      induction k with
      | zero =>
        intro p st out w h1 h2 h3
        simp only [wS, endW, errW]
        split
        · simp
        · split <;> simp <;> omega
      | succ k ih =>
        intro p st out w h1 h2 h3
        simp only [wS]
        split
        · rename_i hp
          have hle := dec_le s p hp
          cases hst : stepW s p st out w with
          | none => simp [errW]
          | some x =>
            obtain ⟨st', out', w'⟩ := x
            obtain ⟨_, g2, g3⟩ := stepW_small hst hp h3 h1
            exact ih _ _ _ _ g3 hle g2
        · simp only [endW, errW]
          split
          · simp
          · split <;> simp <;> omega
    have := key s.size 0 0 [] ⟨#[]⟩ (by simp) (by omega) (Nat.le_refl _)
    unfold wF; omega
  · simp
theorem ref_big (s : ByteArray) (f22 : (ByteArray × Unit) → Option (List Chr)) (l0 : RS → ((ByteArray × List ByteArray × ByteArray × Int × Unit) → Option WL) → Option WL) (hs : 300 < s.size) : r05_Words.b f22 l0 (s, ()) = some (wordsR s) := by
  simp only [r05_Words.b]
  rw [cond_t (igt_iff.2 (by omega))]
  unfold wordsR
  rw [if_neg (by omega)]
end Go.Px.Pu
