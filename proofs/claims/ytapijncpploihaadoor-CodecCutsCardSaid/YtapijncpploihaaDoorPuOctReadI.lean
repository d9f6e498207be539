/- Signed numbers read. -/
import Derived.Test.YtapijncpploihaaDoorPuOctUint
set_option linter.unusedVariables false
set_option linter.unusedSimpArgs false
namespace Go.Px.Pu
open Go Go.Px
theorem xor_top (n : Nat) (h : n < 18446744073709551616) : n ^^^ 9223372036854775808 = (n + 9223372036854775808) % 18446744073709551616 := by
  rcases Nat.lt_or_ge n 9223372036854775808 with h1 | h1
  · have h2 : 9223372036854775808 + n = 9223372036854775808 ||| n := by
      have := Nat.shiftLeft_add_eq_or_of_lt (b := n) (i := 63) (by omega) 1
      simpa [Nat.shiftLeft_eq] using this
    have h3 : n ^^^ 9223372036854775808 = 9223372036854775808 ||| n := by
      apply Nat.eq_of_testBit_eq
      intro i
      rw [Nat.testBit_xor, Nat.testBit_or, show (9223372036854775808 : Nat) = 2 ^ 63 by decide, Nat.testBit_two_pow]
      by_cases hi : 63 = i
      · subst hi
        have : n.testBit 63 = false := Nat.testBit_lt_two_pow (by omega)
        simp [this]
      · simp [hi]
    rw [h3, ← h2]; omega
  · obtain ⟨m, rfl⟩ : ∃ m, n = 9223372036854775808 + m := ⟨n - 9223372036854775808, by omega⟩
    have h2 : 9223372036854775808 + m = 9223372036854775808 ||| m := by
      have := Nat.shiftLeft_add_eq_or_of_lt (b := m) (i := 63) (by omega) 1
      simpa [Nat.shiftLeft_eq] using this
    have h3 : (9223372036854775808 + m) ^^^ 9223372036854775808 = m := by
      rw [h2]
      apply Nat.eq_of_testBit_eq
      intro i
      rw [Nat.testBit_xor, Nat.testBit_or, show (9223372036854775808 : Nat) = 2 ^ 63 by decide, Nat.testBit_two_pow]
      by_cases hi : 63 = i
      · subst hi
        have : m.testBit 63 = false := Nat.testBit_lt_two_pow (by omega)
        simp [this]
      · simp [hi]
    rw [h3]; omega
theorem ixor_top {u : Int} (h0 : 0 ≤ u) (h1 : u < 18446744073709551616) : ixor .u64 u 9223372036854775808 = (u + 9223372036854775808) % 18446744073709551616 := by
  unfold ixor
  have e : (BitVec.ofInt IntKind.u64.bits u ^^^ BitVec.ofInt IntKind.u64.bits 9223372036854775808).toNat = ((u + 9223372036854775808) % 18446744073709551616).toNat := by
    rw [BitVec.toNat_xor, ofInt_toNat _ _ h0 (by simp [IntKind.bits]; omega), ofInt_toNat _ _ (by omega) (by simp [IntKind.bits])]
    have := xor_top u.toNat (by omega)
    rw [show (9223372036854775808 : Int).toNat = 9223372036854775808 by rfl, this]
    omega
  rw [e, Int.toNat_of_nonneg (by omega)]
  exact IntWalk.u64_in _ ⟨by omega, by omega⟩
theorem isub_top {u : Int} (h0 : 0 ≤ u) (h1 : u < 18446744073709551616) : isub .u64 u 9223372036854775808 = (u + 9223372036854775808) % 18446744073709551616 := by
  unfold isub
  simp [IntKind.wrap, IntKind.signed, IntKind.bits]
  omega
theorem be_aux : (l : List Int) → (u : Int) → (k : Nat) → (∀ n ∈ l, byte n) → 0 ≤ u → u < 256 ^ k → 0 ≤ l.foldl beF u ∧ l.foldl beF u < 256 ^ (k + l.length)
  | [], u, k, _, h0, h1 => ⟨h0, by simpa using h1⟩
  | b :: r, u, k, hb, h0, h1 => by
    obtain ⟨g1, g2⟩ := byte_pow h0 (hb b (by simp)) h1
    have := be_aux r (beF u b) (k + 1) (fun n hn => hb n (by simp [hn])) g1 g2
    simp only [List.foldl_cons, List.length_cons]
    rw [show k + (r.length + 1) = k + 1 + r.length by omega]
    exact this
theorem be_range {l : List Int} (hb : ∀ n ∈ l, byte n) (hl : l.length ≤ 8) : 0 ≤ be l ∧ be l < 18446744073709551616 := by
  obtain ⟨h1, h2⟩ := be_aux l 0 0 hb (Int.le_refl 0) (by decide)
  exact ⟨h1, Int.lt_of_lt_of_le h2 (pow_le8 (by omega))⟩
/-- a signed number read at a place -/
def readI (p : List Int) (i : Int) : Int × Int × Int × Unit :=
  let x := readU p i
  if x.2.2.1 ≠ 0 then (0, 0, x.2.2.1, ()) else (IntKind.wrap .i64 ((x.1 + 9223372036854775808) % 18446744073709551616), x.2.1, 0, ())
theorem readU_range {p : List Int} (hb : ∀ n ∈ p, byte n) (i : Int) : 0 ≤ (readU p i).1 ∧ (readU p i).1 < 18446744073709551616 := by
  unfold readU
  split
  · decide
  · split
    · decide
    · split
      · decide
      · exact be_range (fun n hn => hb n (List.mem_of_mem_drop (List.mem_of_mem_take hn))) (by simp; omega)
section
variable {p : List Int} (hp : p.length ≤ 140737488351232) (hb : ∀ n ∈ p, byte n)
include hp hb
theorem octet_ReadInt_eq (i : Int) : octet_ReadInt (p, i, ()) = some (readI p i) := by
  unfold octet_ReadInt
  simp only [octet_ReadInt.b, octet_ReadUint_eq hp hb i, Option.bind_some, readI]
  obtain ⟨h0, h1⟩ := readU_range hb i
  by_cases h : (readU p i).2.2.1 = 0
  · rw [cond_f (ine_f.2 h), if_neg (by simp [h]), ixor_top h0 h1]
  · rw [cond_t (ine_iff.2 h), if_pos h]
theorem r02_ReadInt_eq (i : Int) : r02_ReadInt (p, i, ()) = some (readI p i) := by
  unfold r02_ReadInt
  simp only [r02_ReadInt.b, r02_ReadUint_eq hp hb i, Option.bind_some, readI]
  obtain ⟨h0, h1⟩ := readU_range hb i
  by_cases h : (readU p i).2.2.1 = 0
  · rw [cond_f (ine_f.2 h), if_neg (by simp [h]), isub_top h0 h1]
  · rw [cond_t (ine_iff.2 h), if_pos h]
end
end Go.Px.Pu
