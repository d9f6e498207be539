/- LineWords: the words of any text, or the place at fault. -/
import Derived.Test.YtpmnipaimoaagaaDoorPuLinLine
import Derived.Test.YtpmnipaimoaagaaDoorPuLinAwake
set_option linter.unusedVariables false
set_option linter.unusedSimpArgs false
namespace Go.Px
open Go Go.Px.Pu
theorem sne_self (a : ByteArray) : sne a a = false := by unfold sne; simp
theorem lw_go (l : List ByteArray) (hl : l.length ≤ 1000000000) (kx : Unit → Option Bool) (hk : kx () = some true) : ∀ (k n i : Nat), l.length - i ≤ k → k < n → loopN n (w05_LineWords.s0 kx) (l, l, (i : Int), ()) = some true
  | k, 0, i, _, hn => absurd hn (Nat.not_lt_zero _)
  | k, n + 1, i, hk', hn => by
    simp only [loopN]
    show w05_LineWords.s0b kx _ _ = _
    simp only [w05_LineWords.s0b, sne_self, cond_false]
    by_cases hi : i < l.length
    · have hi1 : iadd .i64 (i : Int) 1 = ((i + 1 : Nat) : Int) := by rw [iadd64 (by omega)]; rfl
      rw [cond_t (ilt_iff.2 (by omega)), chk_true (by simp [inB]; omega), chk_true (by simp [inB]; omega), hi1]
      cases k with
      | zero => omega
      | succ k => exact lw_go l hl kx hk k n (i + 1) (by omega) (by omega)
    · rw [cond_f (ilt_f.2 (by omega))]
      exact hk
theorem words_len (s : ByteArray) : (wordsR s).1.length ≤ 301 := by
  unfold wordsR
  split
  · rename_i hs
    have key : ∀ (k p st : Nat) (out : List ByteArray) (w : ByteArray), out.length ≤ p → p ≤ s.size → w.size ≤ p → (wS k s p st out w).1.length ≤ s.size + 1 := by
      intro k
      induction k with
      | zero =>
        intro p st out w h1 h2 h3
        simp only [wS, endW, errW]
        split
        · simp
        · split <;> simp <;> omega
      | succ k ih =>
        intro p st out w h1 h2 h3
        simp only [wS]
        split
        · rename_i hp
          have hle := dec_le s p hp
          cases hst : stepW s p st out w with
          | none => simp [errW]
          | some x =>
            obtain ⟨st', out', w'⟩ := x
            obtain ⟨_, g2, g3⟩ := stepW_small hst hp h3 h1
            exact ih _ _ _ _ g3 hle g2
        · simp only [endW, errW]
          split
          · simp
          · split <;> simp <;> omega
    have := key s.size 0 0 [] ⟨#[]⟩ (by simp) (by omega) (Nat.le_refl _)
    unfold wF; omega
  · simp
theorem ref_main' (s : ByteArray) (f22 : (ByteArray × Unit) → Option (List Chr)) (l0 : RS → ((ByteArray × List ByteArray × ByteArray × Int × Unit) → Option WL) → Option WL) (hs : 300 < s.size) : r05_Words.b f22 l0 (s, ()) = some (wordsR s) := by
  simp only [r05_Words.b]
  rw [cond_t (igt_iff.2 (by omega))]
  unfold wordsR
  rw [if_neg (by omega)]
theorem words_main (s : ByteArray) (f9 : Unit → Option Bool) (f13 f14 : (ByteArray × Unit) → Option WL) (l0 : (List ByteArray × List ByteArray × Int × Unit) → (Unit → Option Bool) → Option Bool)
    (h9 : f9 () = some true) (h13 : f13 (s, ()) = some (wordsR s)) (h14 : f14 (s, ()) = some (wordsR s)) (hl0 : ∀ kx, kx () = some true → l0 ((wordsR s).1, (wordsR s).1, 0, ()) kx = some true) : w05_LineWords.b f9 f13 f14 l0 (s, ()) = some true := by
  simp only [w05_LineWords.b, h9, h13, h14, Option.bind_some, Bool.not_true, cond_false]
  rw [cond_f (ine_f.2 rfl), cond_f (ine_f.2 rfl), cond_f (ine_f.2 rfl)]
  exact hl0 _ rfl
theorem pure_LineWords (x0 : ByteArray) (w0 : x0.size ≤ 140737488351232) : w05_LineWords (x0, ()) = some true := by
  show w05_LineWords.b w05_awake line_Words r05_Words w05_LineWords.l0 (x0, ()) = some true
  refine words_main _ _ _ _ _ w05_awake_eq (line_Words_eq x0) ?_ ?_
  · by_cases hs : x0.size ≤ 1000000000000
    · exact r05_Words_eq hs
    · unfold r05_Words
      exact ref_main' x0 _ _ (by omega)
  · intro kx hk
    have hl := words_len x0
    unfold w05_LineWords.l0
    exact lw_go _ (by omega) kx hk (wordsR x0).1.length _ 0 (by omega) (by simp only [w05_LineWords.n0]; omega)
end Go.Px
