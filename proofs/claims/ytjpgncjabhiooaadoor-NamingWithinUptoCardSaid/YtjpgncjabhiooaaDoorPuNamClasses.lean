/- naming.Classes as a plain walk over the characters. -/
import Derived.Test.YtjpgncjabhiooaaDoorPuNamScan
import Derived.Test.YtjpgncjabhiooaaDoorPuNamDec
set_option linter.unusedVariables false
set_option linter.unusedSimpArgs false
namespace Go.Px.Pu
open Go Go.Px

def kindV (r : Int) : BitVec 64 := BitVec.ofInt 64 (kindOf r)
theorem kindB_cases (a b c d e f g : Bool) : kindB a b c d e f g = 1 ∨ kindB a b c d e f g = 2 ∨ kindB a b c d e f g = 4 ∨ kindB a b c d e f g = 8 ∨ kindB a b c d e f g = 16 := by
  cases a <;> cases b <;> cases c <;> cases d <;> cases e <;> cases f <;> cases g <;> simp [kindB]
theorem kind_toInt (r : Int) : kindOf r = (kindV r).toInt := by
  unfold kindV
  rcases kindB_cases (ige r 97) (ile r 122) (ige r 65) (ile r 90) (ige r 48) (ile r 57) (ilt r 128) with h | h | h | h | h <;> (unfold kindOf; rw [h]; rfl)
theorem ior64 (x y : BitVec 64) : ior .i64 x.toInt y.toInt = (x ||| y).toInt := by
  have e : ∀ z : BitVec 64, IntKind.wrap .i64 (z.toNat : Int) = z.toInt := fun z => by
    have := z.isLt
    unfold IntKind.wrap
    rw [BitVec.toInt_eq_toNat_cond]
    simp only [IntKind.bits, IntKind.signed]
    simp
    split <;> split <;> omega
  unfold ior
  have e1 : BitVec.ofInt IntKind.i64.bits x.toInt = x := BitVec.ofInt_toInt
  have e2 : BitVec.ofInt IntKind.i64.bits y.toInt = y := BitVec.ofInt_toInt
  rw [e1, e2]; exact e _
def bad (s : ByteArray) (p : Nat) : Bool := decide (Utf8.decode s p = (65533, 1))
def scan : Nat → ByteArray → Nat → BitVec 64 → Int → Option (BitVec 64 × Int)
  | 0, _, _, c, n => some (c, n)
  | k + 1, s, p, c, n => if p < s.size then (if Utf8.decode s p = (65533, 1) then none else scan k s (p + (Utf8.decode s p).2) (c ||| kindV (Utf8.decode s p).1) (n + 1)) else some (c, n)
theorem scan_end (k : Nat) (s : ByteArray) (p : Nat) (c : BitVec 64) (n : Int) (h : s.size ≤ p) : scan k s p c n = some (c, n) := by
  cases k with
  | zero => rfl
  | succ k => simp only [scan]; rw [if_neg (by omega)]
/-- more rounds than characters: no matter -/
theorem scan_fuel : (k j : Nat) → (s : ByteArray) → (p : Nat) → (c : BitVec 64) → (n : Int) → s.size - p ≤ k → s.size - p ≤ j → scan k s p c n = scan j s p c n
  | 0, j, s, p, c, n, h, _ => by rw [scan_end 0 s p c n (by omega), scan_end j s p c n (by omega)]
  | k + 1, 0, s, p, c, n, _, h => by rw [scan_end 0 s p c n (by omega), scan_end (k + 1) s p c n (by omega)]
  | k + 1, j + 1, s, p, c, n, h1, h2 => by
    simp only [scan]
    split
    · split
      · rfl
      · have := dec_w s p
        exact scan_fuel k j s _ _ _ (by omega) (by omega)
    · rfl
def resC : Option (BitVec 64 × Int) → Int × Int × Bool × Unit
  | some (c, n) => (c.toInt, n, true, ())
  | none => (0, 0, false, ())
theorem classes_b (l0 : (ByteArray × Int × Int × (ByteArray × Nat) × Unit) → ((Int × Int × Unit) → Option (Int × Int × Bool × Unit)) → Option (Int × Int × Bool × Unit)) (s : ByteArray) (R : Option (Int × Int × Bool × Unit)) (h : l0 (s, 0, 0, (s, 0), ()) (fun x => some (x.1, x.2.1, true, ())) = R) : naming_Classes.b l0 (s, ()) = R := h
theorem classes_l0 {s : ByteArray} (hs : s.size ≤ 1000000000000000000) : naming_Classes.l0 (s, 0, 0, (s, 0), ()) (fun x => some (x.1, x.2.1, true, ())) = some (resC (scan s.size s 0 0#64 0)) := by
  unfold naming_Classes.l0
  have key := loopN_eq (step := naming_Classes.s0 fun x => some (x.1, x.2.1, true, ())) (fun x => some (resC (scan s.size s x.2.2.2.1.2 (BitVec.ofInt 64 x.2.1) x.2.2.1)))
    (fun x => x.1 = s ∧ x.2.2.2.1.1 = s ∧ x.2.2.2.1.2 ≤ s.size ∧ 0 ≤ x.2.2.1 ∧ x.2.2.1 ≤ x.2.2.2.1.2 ∧ ∃ c : BitVec 64, x.2.1 = c.toInt) (fun x => s.size - x.2.2.2.1.2) ?_
  · have := key (naming_Classes.n0 (s, 0, 0, (s, 0), ())) (s, 0, 0, (s, 0), ()) ⟨rfl, rfl, by simp, by simp, by simp, 0#64, rfl⟩ (by simp only [naming_Classes.n0]; omega)
    rw [this]; rfl
  · rintro ⟨t0, c, n, ⟨s', p⟩, _⟩ ⟨h0, h1, h2, h3, h4, c', h5⟩ κ hκ
    simp only at h0 h1 h2 h3 h4 h5 hκ; subst h0 h1 h5
    simp only [naming_Classes.s0]
    rw [step_eq]
    by_cases hlt : p < s'.size
    · have hw := dec_w s' p
      have hle := dec_le s' p hlt
      have hst : scan s'.size s' p c' n = if Utf8.decode s' p = (65533, 1) then none else scan s'.size s' (p + (Utf8.decode s' p).2) (c' ||| kindV (Utf8.decode s' p).1) (n + 1) := by
        rw [scan_fuel s'.size (s'.size - p - 1 + 1) s' p c' n (by omega) (by omega)]
        simp only [scan]
        rw [if_pos hlt]
        split
        · rfl
        · exact scan_fuel _ _ _ _ _ _ (by omega) (by omega)
      have ha : iadd .i64 n 1 = n + 1 := iadd64 (by omega)
      have go : Utf8.decode s' p ≠ (65533, 1) → κ (s', ior .i64 c'.toInt (kindOf (Utf8.decode s' p).1), iadd .i64 n 1, (s', p + (Utf8.decode s' p).2), ()) = some (resC (scan s'.size s' p (BitVec.ofInt 64 c'.toInt) n)) := fun hne => by
        rw [kind_toInt, ior64, ha, hκ _ ⟨rfl, rfl, hle, by simp only; omega, by simp only; omega, _, rfl⟩ (by simp only; omega)]
        rw [BitVec.ofInt_toInt, BitVec.ofInt_toInt, hst, if_neg hne]
      rw [cond_t (decide_eq_true hlt)]
      by_cases hr : (Utf8.decode s' p).1 = 65533
      · rw [cond_t (ieq_iff.2 (by omega)), chk_true (by simp [leB]; omega)]
        have hd : unicode_utf8_DecodeRuneInString (subStr s' (p : Int) (s'.size : Int), ()) = some (((Utf8.decode s' p).1 : Int), ((Utf8.decode s' p).2 : Int), ()) := by
          have hne : (subStr s' (p : Int) (s'.size : Int)).size ≠ 0 := by simp [subStr]; omega
          simp only [unicode_utf8_DecodeRuneInString, if_neg hne, dec_sub s' p (by omega)]
        rw [hd]
        simp only [Option.bind_some]
        by_cases hw1 : (Utf8.decode s' p).2 = 1
        · have he : Utf8.decode s' p = (65533, 1) := Prod.ext hr hw1
          rw [cond_t (ieq_iff.2 (by omega)), BitVec.ofInt_toInt, hst, if_pos he]; rfl
        · rw [cond_f (ieq_f.2 (by omega))]
          exact go fun e => hw1 (by rw [e])
      · rw [cond_f (ieq_f.2 (by omega))]
        exact go fun e => hr (by rw [e])
    · rw [cond_f (decide_eq_false hlt), BitVec.ofInt_toInt, scan_end _ _ _ _ _ (by omega)]; rfl

theorem naming_Classes_eq {s : ByteArray} (hs : s.size ≤ 1000000000000000000) : naming_Classes (s, ()) = some (resC (scan s.size s 0 0#64 0)) := by
  show naming_Classes.b naming_Classes.l0 (s, ()) = _
  exact classes_b _ s _ (classes_l0 hs)

/-! ### two texts -/
theorem scan_app (a b : ByteArray) : (k : Nat) → (p : Nat) → (c c' : BitVec 64) → (n n' : Int) → p ≤ a.size → a.size - p ≤ k → scan k a p c n = some (c', n') → scan (a ++ b).size (a ++ b) p c n = scan (a ++ b).size (a ++ b) a.size c' n'
  | 0, p, c, c', n, n', hp, hk, h => by
    have : p = a.size := by omega
    subst this
    cases h; rfl
  | k + 1, p, c, c', n, n', hp, hk, h => by
    simp only [scan] at h
    by_cases hlt : p < a.size
    · rw [if_pos hlt] at h
      split at h
      · cases h
      · rename_i hne
        have hw := dec_w a p
        have hle := dec_le a p hlt
        have hsz : (a ++ b).size = a.size + b.size := by simp
        rw [← scan_app a b k _ _ c' _ n' hle (by omega) h]
        rw [scan_fuel (a ++ b).size ((a ++ b).size - p - 1 + 1) (a ++ b) p c n (by omega) (by omega)]
        simp only [scan]
        rw [if_pos (by omega), dec_app_lt a b p hlt hne, if_neg hne]
        exact scan_fuel _ _ _ _ _ _ (by omega) (by omega)
    · rw [if_neg hlt] at h
      have : p = a.size := by omega
      subst this
      cases h; rfl
theorem scan_off (a b : ByteArray) : (k : Nat) → (q : Nat) → (c : BitVec 64) → (n : Int) → scan k (a ++ b) (a.size + q) c n = scan k b q c n
  | 0, _, _, _ => rfl
  | k + 1, q, c, n => by
    have hsz : (a ++ b).size = a.size + b.size := by simp
    simp only [scan, dec_app_ge]
    by_cases h : q < b.size
    · rw [if_pos h, if_pos (by omega)]
      split
      · rfl
      · rw [Nat.add_assoc]; exact scan_off a b k _ _ _
    · rw [if_neg h, if_neg (by omega)]
theorem scan_acc (b : ByteArray) : (k : Nat) → (q : Nat) → (x c : BitVec 64) → (m n : Int) → scan k b q (x ||| c) (m + n) = (scan k b q c n).map fun y => (x ||| y.1, m + y.2)
  | 0, _, _, _, _, _ => rfl
  | k + 1, q, x, c, m, n => by
    simp only [scan]
    split
    · split
      · rfl
      · rw [BitVec.or_assoc, Int.add_assoc]; exact scan_acc b k _ _ _ _ _
    · rfl
end Go.Px.Pu
