/- line.bare: a word without quotes. -/
import Derived.Test.YtpmnipaimoaagaaDoorSh
import Derived.Test.YtpmnipaimoaagaaDoorPuNamDec
set_option linter.unusedVariables false
set_option linter.unusedSimpArgs false
namespace Go.Px.Pu
open Go Go.Px
abbrev WR := ByteArray × Int × Bool × Unit
theorem sub_split (s : ByteArray) (a : Nat) (h : a ≤ s.size) : s = s.extract 0 a ++ subStr s (a : Int) (s.size : Int) := by
  have : subStr s (a : Int) (s.size : Int) = s.extract a s.size := by simp [subStr]
  rw [this]
  apply ByteArray.ext
  simp only [ByteArray.data_append, ByteArray.data_extract]
  apply Array.toList_inj.1
  simp only [Array.toList_append, Array.toList_extract, List.extract_eq_take_drop, Nat.sub_zero, List.drop_zero]
  have hs : s.data.toList.length = s.size := by rw [Array.length_toList]; rfl
  rw [List.take_of_length_le (l := s.data.toList.drop a) (by rw [List.length_drop, hs]; omega), List.take_append_drop]
theorem dec_sub' (s : ByteArray) (a q : Nat) (h : a ≤ s.size) : Utf8.decode (subStr s (a : Int) (s.size : Int)) q = Utf8.decode s (a + q) := by
  have e := dec_app_ge (s.extract 0 a) (subStr s (a : Int) (s.size : Int)) q
  rw [← sub_split s a h] at e
  have hz : (s.extract 0 a).size = a := by simp; omega
  rw [hz] at e
  exact e.symm
theorem sub_sz (s : ByteArray) (a : Nat) : (subStr s (a : Int) (s.size : Int)).size = s.size - a := by simp [subStr]
/-- does no character stand there -/
def wrongB (s : ByteArray) (p : Nat) : Bool := decide ((Utf8.decode s p).1 = 65533 ∧ (Utf8.decode s p).2 = 1)
theorem wrong_eq {s : ByteArray} {p : Nat} (h : p < s.size) : line_wrong (s, (p : Int), ((Utf8.decode s p).1 : Int), ()) = some (wrongB s p) := by
  unfold line_wrong
  simp only [line_wrong.b, unicode_utf8_DecodeRuneInString]
  rw [chk_true (by simp [leB]; omega)]
  simp only [Option.bind_some]
  have hs := sub_sz s p
  rw [if_neg (by omega), dec_sub s p (by omega)]
  unfold wrongB
  by_cases h1 : (Utf8.decode s p).1 = 65533
  · rw [cond_t (ieq_iff.2 (by omega))]
    congr 1
    rw [Bool.eq_iff_iff, ieq_iff, decide_eq_true_eq]
    omega
  · rw [cond_f (ieq_f.2 (by omega))]
    simp [h1]
/-- a character that can't stand in a bare word -/
def badB (s : ByteArray) (p : Nat) : Bool := decide ((Utf8.decode s p).1 < 32) || (decide ((Utf8.decode s p).1 = 34) || (decide ((Utf8.decode s p).1 = 92) || (decide ((Utf8.decode s p).1 = 127) || wrongB s p)))
def bareG : Nat → ByteArray → Nat → Nat → WR
  | 0, s, a, _ => (subStr s (a : Int) (s.size : Int), (s.size : Int), true, ())
  | k + 1, s, a, p => if p < s.size then
      (if (Utf8.decode s p).1 = 32 then (subStr s (a : Int) (p : Int), (p : Int), true, ()) else if badB s p = true then (⟨#[]⟩, (p : Int), false, ()) else bareG k s a (p + (Utf8.decode s p).2))
    else (subStr s (a : Int) (s.size : Int), (s.size : Int), true, ())
theorem bareG_end (k : Nat) (s : ByteArray) (a p : Nat) (h : s.size ≤ p) : bareG k s a p = (subStr s (a : Int) (s.size : Int), (s.size : Int), true, ()) := by
  cases k with
  | zero => rfl
  | succ k => simp only [bareG]; rw [if_neg (by omega)]
theorem bare_go (s : ByteArray) (hs : s.size ≤ 1000000000) (a : Nat) (ha : a ≤ s.size) (kx : (ByteArray × Int × Unit) → Option WR) (hkx : kx (s, (a : Int), ()) = some (subStr s (a : Int) (s.size : Int), (s.size : Int), true, ())) :
    ∀ (k n q : Nat), s.size - (a + q) ≤ k → k < n → loopN n (line_bare.s0b line_wrong kx) (s, (a : Int), (subStr s (a : Int) (s.size : Int), q), ()) = some (bareG k s a (a + q))
  | k, 0, q, _, hn => absurd hn (Nat.not_lt_zero _)
  | 0, n + 1, q, hk, hn => by
    simp only [loopN, line_bare.s0b, sub_sz]
    rw [cond_f (decide_eq_false (by omega)), hkx, bareG_end _ _ _ _ (by omega)]
  | k + 1, n + 1, q, hk, hn => by
    simp only [loopN, line_bare.s0b, sub_sz, dec_sub' s a q ha]
    have hadd : q ≤ s.size → iadd .i64 (a : Int) (q : Int) = ((a + q : Nat) : Int) := fun h => by rw [iadd64 (by omega)]; rfl
    by_cases hq : a + q < s.size
    · have hw := dec_w s (a + q)
      have ih := bare_go s hs a ha kx hkx k n (q + (Utf8.decode s (a + q)).2) (by omega) (by omega)
      rw [← Nat.add_assoc] at ih
      rw [cond_t (decide_eq_true (by omega)), hadd (by omega), wrong_eq hq]
      simp only [bareG]
      rw [if_pos hq]
      by_cases h32 : (Utf8.decode s (a + q)).1 = 32
      · rw [cond_t (ieq_iff.2 (by omega)), if_pos h32, chk_true (by simp [leB]; omega)]
      rw [cond_f (ieq_f.2 (by omega)), if_neg h32]
      unfold badB
      by_cases h1 : (Utf8.decode s (a + q)).1 < 32
      · rw [cond_t (ilt_iff.2 (by omega)), cond_t (ilt_iff.2 (by omega)), decide_eq_true h1]; rfl
      rw [cond_f (ilt_f.2 (by omega)), decide_eq_false h1, Bool.false_or]
      by_cases h2 : (Utf8.decode s (a + q)).1 = 34
      · rw [cond_t (ieq_iff.2 (by omega)), cond_t (ieq_iff.2 (by omega)), decide_eq_true h2]; rfl
      rw [cond_f (ieq_f.2 (by omega)), decide_eq_false h2, Bool.false_or]
      by_cases h3 : (Utf8.decode s (a + q)).1 = 92
      · rw [cond_t (ieq_iff.2 (by omega)), cond_t (ieq_iff.2 (by omega)), decide_eq_true h3]; rfl
      rw [cond_f (ieq_f.2 (by omega)), decide_eq_false h3, Bool.false_or]
      by_cases h4 : (Utf8.decode s (a + q)).1 = 127
      · rw [cond_t (ieq_iff.2 (by omega)), cond_t (ieq_iff.2 (by omega)), decide_eq_true h4]; rfl
      rw [cond_f (ieq_f.2 (by omega)), decide_eq_false h4, Bool.false_or]
      simp only [Option.bind_some]
      cases wrongB s (a + q) with
      | true => rfl
      | false => rw [cond_false, if_neg (by decide)]; exact ih
    · rw [cond_f (decide_eq_false (by omega)), hkx, bareG_end _ _ _ _ (by omega)]
theorem bare_main (s : ByteArray) (a : Nat) (ha : a ≤ s.size) (l0 : (ByteArray × Int × (ByteArray × Nat) × Unit) → ((ByteArray × Int × Unit) → Option WR) → Option WR) (R : WR)
    (h : ∀ kx : (ByteArray × Int × Unit) → Option WR, kx (s, (a : Int), ()) = some (subStr s (a : Int) (s.size : Int), (s.size : Int), true, ()) → l0 (s, (a : Int), (subStr s (a : Int) (s.size : Int), 0), ()) kx = some R) : line_bare.b l0 (s, (a : Int), ()) = some R := by
  simp only [line_bare.b]
  have hc : (leB 0 (a : Int) && (leB (a : Int) s.size && leB s.size s.size)) = true := by simp [leB]; omega
  rw [chk_true hc]
  refine h _ ?_
  dsimp only
  rw [chk_true hc]
theorem line_bare_eq {s : ByteArray} (hs : s.size ≤ 1000000000) {a : Nat} (ha : a ≤ s.size) : line_bare (s, (a : Int), ()) = some (bareG s.size s a a) :=
  bare_main s a ha line_bare.l0 _ fun kx hkx => by
    have := bare_go s hs a ha kx hkx s.size (line_bare.n0 (s, (a : Int), (subStr s (a : Int) (s.size : Int), 0), ())) 0 (by omega) (by simp only [line_bare.n0]; omega)
    exact this
end Go.Px.Pu
