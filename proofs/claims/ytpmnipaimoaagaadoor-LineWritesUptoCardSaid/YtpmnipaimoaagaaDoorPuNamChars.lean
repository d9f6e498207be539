/- The reference's list of a text's characters. -/
import Derived.Test.YtpmnipaimoaagaaDoorSh
import Derived.Test.YtpmnipaimoaagaaDoorPuNamDec
set_option linter.unusedVariables false
set_option linter.unusedSimpArgs false
namespace Go.Px.Pu
open Go Go.Px
abbrev Chr := Int × Int × Bool × Unit
def chr (s : ByteArray) (p : Nat) : Chr := (((Utf8.decode s p).1 : Int), (p : Int), decide ((Utf8.decode s p).1 ≠ 65533 ∨ (Utf8.decode s p).2 = 3), ())
def charsL : Nat → ByteArray → Nat → List Chr
  | 0, _, _ => []
  | k + 1, s, p => if p < s.size then chr s p :: charsL k s (p + (Utf8.decode s p).2) else []
theorem charsL_end (k : Nat) (s : ByteArray) (p : Nat) (h : s.size ≤ p) : charsL k s p = [] := by
  cases k with
  | zero => rfl
  | succ k => simp only [charsL]; rw [if_neg (by omega)]
theorem charsL_fuel : (k j : Nat) → (s : ByteArray) → (p : Nat) → s.size - p ≤ k → s.size - p ≤ j → charsL k s p = charsL j s p
  | 0, j, s, p, h, _ => by rw [charsL_end 0 s p (by omega), charsL_end j s p (by omega)]
  | k + 1, 0, s, p, _, h => by rw [charsL_end 0 s p (by omega), charsL_end (k + 1) s p (by omega)]
  | k + 1, j + 1, s, p, h1, h2 => by
    simp only [charsL]
    split
    · have := dec_w s p
      rw [charsL_fuel k j s _ (by omega) (by omega)]
    · rfl
theorem charsL_len : (k : Nat) → (s : ByteArray) → (p : Nat) → (charsL k s p).length ≤ s.size - p
  | 0, _, _ => Nat.zero_le _
  | k + 1, s, p => by
    simp only [charsL]
    split
    · have := dec_w s p
      have := charsL_len k s (p + (Utf8.decode s p).2)
      simp; omega
    · exact Nat.zero_le _
theorem chars_b (l0 : (ByteArray × List Chr × Int × Unit) → ((List Chr × Unit) → Option (List Chr)) → Option (List Chr)) (s : ByteArray) (R : Option (List Chr)) (h : l0 (s, [], 0, ()) (fun x => some x.1) = R) : r03_Chars.b l0 (s, ()) = R := h
theorem chars_l0 {s : ByteArray} (hs : s.size ≤ 1000000000000) : r03_Chars.l0 (s, [], 0, ()) (fun x => some x.1) = some (charsL s.size s 0) := by
  unfold r03_Chars.l0
  have key := loopN_eq (step := r03_Chars.s0 fun x => some x.1) (fun x => some (x.2.1 ++ charsL s.size s x.2.2.1.toNat))
    (fun x => x.1 = s ∧ ∃ p : Nat, x.2.2.1 = p ∧ p ≤ s.size ∧ x.2.1.length ≤ p) (fun x => s.size - x.2.2.1.toNat) ?_
  · have := key (r03_Chars.n0 (s, [], 0, ())) (s, [], 0, ()) ⟨rfl, 0, rfl, by simp, by simp⟩ (by simp only [r03_Chars.n0]; omega)
    rw [this]; rfl
  · rintro ⟨s', t, i, _⟩ ⟨h0, p, h1, h2, h3⟩ κ hκ
    simp only at h0 h1 h2 h3 hκ; subst h0 h1
    simp only [r03_Chars.s0, r03_Chars.s0b]
    by_cases hlt : p < s'.size
    · have hw := dec_w s' p
      have hle := dec_le s' p hlt
      have hd : unicode_utf8_DecodeRuneInString (subStr s' (p : Int) (s'.size : Int), ()) = some (((Utf8.decode s' p).1 : Int), ((Utf8.decode s' p).2 : Int), ()) := by
        have hne : (subStr s' (p : Int) (s'.size : Int)).size ≠ 0 := by simp [subStr]; omega
        simp only [unicode_utf8_DecodeRuneInString, if_neg hne, dec_sub s' p (by omega)]
      have ha : iadd .i64 (p : Int) ((Utf8.decode s' p).2 : Int) = ((p + (Utf8.decode s' p).2 : Nat) : Int) := by rw [iadd64 (by omega)]; simp
      have hst : charsL s'.size s' p = chr s' p :: charsL s'.size s' (p + (Utf8.decode s' p).2) := by
        rw [charsL_fuel s'.size (s'.size - p - 1 + 1) s' p (by omega) (by omega)]
        simp only [charsL]
        rw [if_pos hlt, charsL_fuel (s'.size - p - 1) s'.size s' _ (by omega) (by omega)]
      rw [cond_t (ilt_iff.2 (by omega)), chk_true (by simp [leB]; omega), hd]
      simp only [Option.bind_some, ha, Int.toNat_natCast]
      have go : ∀ c : Chr, c = chr s' p → κ (s', t ++ [c], ((p + (Utf8.decode s' p).2 : Nat) : Int), ()) = some (t ++ charsL s'.size s' p) := fun c hc => by
        rw [hκ _ ⟨rfl, _, rfl, hle, by simp; omega⟩ (by simp only [Int.toNat_natCast]; omega)]
        simp only [Int.toNat_natCast]
        rw [hst, hc]; simp
      by_cases hr : (Utf8.decode s' p).1 = 65533
      · rw [cond_f (ine_f.2 (by omega)), chk_true (fits_iff.2 (by omega))]
        refine go _ ?_
        unfold chr
        have : ieq ((Utf8.decode s' p).2 : Int) 3 = decide ((Utf8.decode s' p).1 ≠ 65533 ∨ (Utf8.decode s' p).2 = 3) := by
          rw [Bool.eq_iff_iff, ieq_iff, decide_eq_true_eq]; omega
        rw [this]
      · rw [cond_t (ine_iff.2 (by omega)), chk_true (fits_iff.2 (by omega))]
        refine go _ ?_
        unfold chr
        have : decide ((Utf8.decode s' p).1 ≠ 65533 ∨ (Utf8.decode s' p).2 = 3) = true := decide_eq_true (.inl hr)
        rw [this]
    · rw [cond_f (ilt_f.2 (by omega))]
      simp only [Int.toNat_natCast]
      rw [charsL_end _ _ _ (by omega), List.append_nil]
theorem r03_Chars_eq {s : ByteArray} (hs : s.size ≤ 1000000000000) : r03_Chars (s, ()) = some (charsL s.size s 0) := by
  show r03_Chars.b r03_Chars.l0 (s, ()) = _
  exact chars_b _ s _ (chars_l0 hs)
end Go.Px.Pu
