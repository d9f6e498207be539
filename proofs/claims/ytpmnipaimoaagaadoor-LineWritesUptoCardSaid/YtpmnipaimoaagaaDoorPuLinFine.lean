/- line.fine and line.plain; a text's characters, one behind the other. -/
import Derived.Test.YtpmnipaimoaagaaDoorPuLinSame
import Derived.Test.YtpmnipaimoaagaaDoorPuRepl
import Derived.Test.YtpmnipaimoaagaaDoorPuDecPre
set_option linter.unusedVariables false
set_option linter.unusedSimpArgs false
namespace Go.Px.Pu
open Go Go.Px
/-- can each character stand in a word -/
def fineG : Nat → ByteArray → Nat → Bool
  | 0, _, _ => true
  | k + 1, s, p => if p < s.size then plainB s p && fineG k s (p + (Utf8.decode s p).2) else true
theorem fineG_end (k : Nat) (s : ByteArray) (p : Nat) (h : s.size ≤ p) : fineG k s p = true := by
  cases k with
  | zero => rfl
  | succ k => simp only [fineG]; rw [if_neg (by omega)]
theorem fineG_fuel : (k j : Nat) → (s : ByteArray) → (p : Nat) → s.size - p ≤ k → s.size - p ≤ j → fineG k s p = fineG j s p
  | 0, j, s, p, h, _ => by rw [fineG_end 0 s p (by omega), fineG_end j s p (by omega)]
  | k + 1, 0, s, p, _, h => by rw [fineG_end 0 s p (by omega), fineG_end (k + 1) s p (by omega)]
  | k + 1, j + 1, s, p, h1, h2 => by
    simp only [fineG]
    split
    · have := dec_w s p
      rw [fineG_fuel k j s _ (by omega) (by omega)]
    · rfl
def fineB (a : ByteArray) : Bool := fineG a.size a 0
theorem fine_go (s : ByteArray) (kx : Unit → Option Bool) (hk : kx () = some true) : ∀ (k n p : Nat), s.size - p ≤ k → k < n → p ≤ s.size → loopN n (line_fine.s0b line_wrong kx) (s, (s, p), ()) = some (fineG k s p)
  | k, 0, p, _, hn, _ => absurd hn (Nat.not_lt_zero _)
  | k, n + 1, p, hk', hn, hps => by
    simp only [loopN, line_fine.s0b]
    by_cases hp : p < s.size
    · have hwd := dec_w s p
      have hle := dec_le s p hp
      cases k with
      | zero => omega
      | succ k =>
      have ih := fine_go s kx hk k n (p + (Utf8.decode s p).2) (by omega) (by omega) hle
      simp only [fineG]
      rw [if_pos hp, cond_t (decide_eq_true hp)]
      unfold plainB
      by_cases h1 : 32 ≤ (Utf8.decode s p).1
      · rw [cond_f (ilt_f.2 (by omega)), decide_eq_true h1, Bool.true_and]
        by_cases h2 : (Utf8.decode s p).1 = 127
        · rw [cond_t (ieq_iff.2 (by omega)), decide_eq_false (by omega)]; rfl
        · rw [cond_f (ieq_f.2 (by omega)), decide_eq_true h2, Bool.true_and, wrong_eq hp]
          simp only [Option.bind_some]
          cases wrongB s p with
          | true => rfl
          | false => rw [cond_false, ih]; rfl
      · rw [cond_t (ilt_iff.2 (by omega)), decide_eq_false h1]; rfl
    · rw [cond_f (decide_eq_false hp), hk, fineG_end _ _ _ (by omega)]
theorem fine_main (s : ByteArray) (l0 : (ByteArray × (ByteArray × Nat) × Unit) → (Unit → Option Bool) → Option Bool) (R : Option Bool) (h : ∀ kx, kx () = some true → l0 (s, (s, 0), ()) kx = R) : line_fine.b l0 (s, ()) = R := h _ rfl
theorem line_fine_eq (s : ByteArray) : line_fine (s, ()) = some (fineB s) :=
  fine_main s line_fine.l0 _ fun kx hk => by
    unfold line_fine.l0
    exact fine_go s kx hk s.size (line_fine.n0 (s, (s, 0), ())) 0 (by omega) (by simp only [line_fine.n0]; omega) (by omega)
/-- can it stand without quotes -/
def plainW (a : ByteArray) : Bool := (bareG a.size a 0 0).2.2.1 && (sne (bareG a.size a 0 0).1 ⟨#[]⟩ && (decide ((bareG a.size a 0 0).2.1 = (a.size : Int)) && seq (bareG a.size a 0 0).1 a))
theorem plain_main (a : ByteArray) (f21 : (ByteArray × Int × Unit) → Option WR) (R : WR) (h : f21 (a, 0, ()) = some R) : line_plain.b f21 (a, ()) = some (R.2.2.1 && (sne R.1 ⟨#[]⟩ && (decide (R.2.1 = (a.size : Int)) && seq R.1 a))) := by
  simp only [line_plain.b, h, Option.bind_some]
  cases R.2.2.1 with
  | false => rfl
  | true =>
    rw [cond_true, Bool.true_and]
    cases sne R.1 ⟨#[]⟩ with
    | false => rfl
    | true =>
      rw [cond_true, Bool.true_and]
      by_cases hs : R.2.1 = (a.size : Int)
      · rw [cond_t (ieq_iff.2 hs), decide_eq_true hs, Bool.true_and]
      · rw [cond_f (ieq_f.2 hs), decide_eq_false hs, Bool.false_and]
theorem line_plain_eq {a : ByteArray} (hs : a.size ≤ 1000000000) : line_plain (a, ()) = some (plainW a) :=
  plain_main a line_bare _ (line_bare_eq hs (Nat.zero_le _))
theorem seq_eq_iff {a b : ByteArray} : seq a b = true ↔ a = b := by
  have h := sne_iff (a := a) (b := b)
  unfold sne at h
  unfold seq
  cases hh : a.toList == b.toList with
  | true => rw [hh] at h; exact ⟨fun _ => h.1 rfl, fun _ => rfl⟩
  | false => rw [hh] at h; exact ⟨(fun e => by cases e), (fun e => by have := h.2 e; cases this)⟩
/-- a word without quotes is read as it stands -/
theorem plain_words {a : ByteArray} (h : plainW a = true) (out : List ByteArray) : wF a 0 0 out ⟨#[]⟩ = (out ++ [a], 0, 0, ()) := by
  unfold plainW at h
  simp only [Bool.and_eq_true, decide_eq_true_eq] at h
  obtain ⟨h1, h2, h3, h4⟩ := h
  have h4 := seq_eq_iff.1 h4
  have hne : 0 < a.size := by
    rcases Nat.eq_zero_or_pos a.size with h0 | h0
    · exfalso
      rw [h4] at h2
      have ha : a = ⟨#[]⟩ := by
        apply ByteArray.ext
        exact Array.eq_empty_of_size_eq_zero h0
      rw [ha, sne_iff.2 rfl] at h2
      cases h2
    · exact h0
  have h32 : (Utf8.decode a 0).1 ≠ 32 := by
    intro e
    have : bareG a.size a 0 0 = (subStr a ((0 : Nat) : Int) ((0 : Nat) : Int), ((0 : Nat) : Int), true, ()) := by
      obtain ⟨k, hk⟩ : ∃ k, a.size = k + 1 := ⟨a.size - 1, by omega⟩
      rw [hk]
      simp only [bareG]
      rw [if_pos hne, if_pos e]
    rw [this, sub_self, sne_iff.2 rfl] at h2
    cases h2
  have h34 : (Utf8.decode a 0).1 ≠ 34 := by
    intro e
    have : bareG a.size a 0 0 = (⟨#[]⟩, ((0 : Nat) : Int), false, ()) := by
      obtain ⟨k, hk⟩ : ∃ k, a.size = k + 1 := ⟨a.size - 1, by omega⟩
      rw [hk]
      simp only [bareG]
      rw [if_pos hne, if_neg h32, if_pos (by unfold badB; rw [e]; rfl)]
    rw [this] at h1
    cases h1
  rw [bare_is a 0 hne out h32 h34]
  unfold goOn
  rw [if_pos h1, h3, h4, Int.toNat_natCast, wF_end _ _ _ _ _ (Nat.le_refl _)]
  rfl
end Go.Px.Pu
