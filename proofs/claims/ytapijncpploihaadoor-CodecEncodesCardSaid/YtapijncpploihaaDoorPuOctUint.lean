/- Numbers read. -/
import Derived.Test.YtapijncpploihaaDoorSh
import Derived.Test.YtapijncpploihaaDoorPuDrop
set_option linter.unusedVariables false
set_option linter.unusedSimpArgs false
namespace Go.Px.Pu
open Go Go.Px

/-- bytes as a number, the highest first -/
def beF (u b : Int) : Int := u * 256 + b
def be (l : List Int) : Int := l.foldl beF 0
theorem ofInt_toNat (n : Nat) (x : Int) (h0 : 0 ≤ x) (h1 : x < 2 ^ n) : (BitVec.ofInt n x).toNat = x.toNat := by
  rw [BitVec.toNat_ofInt]
  congr 1
  exact Int.emod_eq_of_lt h0 (by exact_mod_cast h1)
theorem ior_byte {a b : Int} (ha : 0 ≤ a) (hb : byte b) (h : a * 256 + b < 18446744073709551616) : ior .u64 (ishl .u64 a 8) (IntKind.wrap .u64 b) = a * 256 + b := by
  obtain ⟨b0, b1⟩ := hb
  have e1 : ishl .u64 a 8 = a * 256 := by
    unfold ishl
    rw [show (2 : Int) ^ (min (8 : Int).toNat IntKind.u64.bits) = 256 by decide]
    exact IntWalk.u64_in _ ⟨by omega, by omega⟩
  have e2 : IntKind.wrap .u64 b = b := IntWalk.u64_in _ ⟨by omega, by omega⟩
  rw [e1, e2]
  unfold ior
  have e3 : (BitVec.ofInt IntKind.u64.bits (a * 256) ||| BitVec.ofInt IntKind.u64.bits b).toNat = (a * 256 + b).toNat := by
    rw [BitVec.toNat_or, ofInt_toNat _ _ (by omega) (by simp [IntKind.bits]; omega), ofInt_toNat _ _ (by omega) (by simp [IntKind.bits]; omega)]
    have := Nat.shiftLeft_add_eq_or_of_lt (b := b.toNat) (i := 8) (by omega) a.toNat
    rw [show (a * 256).toNat = a.toNat <<< 8 by rw [Nat.shiftLeft_eq]; omega, ← this, Nat.shiftLeft_eq]
    omega
  rw [e3, Int.toNat_of_nonneg (by omega)]
  exact IntWalk.u64_in _ ⟨by omega, by omega⟩
theorem iadd_byte {a b : Int} (ha : 0 ≤ a) (hb : byte b) (h : a * 256 + b < 18446744073709551616) : iadd .u64 (imul .u64 a 256) (IntKind.wrap .u64 b) = a * 256 + b := by
  obtain ⟨b0, b1⟩ := hb
  have e1 : imul .u64 a 256 = a * 256 := IntWalk.u64_in _ ⟨by omega, by omega⟩
  have e2 : IntKind.wrap .u64 b = b := IntWalk.u64_in _ ⟨by omega, by omega⟩
  rw [e1, e2]
  exact IntWalk.u64_in _ ⟨by omega, by omega⟩
theorem byte_pow {a b : Int} {k : Nat} (ha : 0 ≤ a) (hb : byte b) (h : a < 256 ^ k) : 0 ≤ a * 256 + b ∧ a * 256 + b < 256 ^ (k + 1) := by
  obtain ⟨b0, b1⟩ := hb
  rw [Int.pow_succ]
  omega
theorem pow_le8 {k : Nat} (h : k ≤ 8) : (256 : Int) ^ k ≤ 18446744073709551616 := by
  have : (256 : Nat) ^ k ≤ 256 ^ 8 := Nat.pow_le_pow_right (by decide) h
  have h2 : ((256 ^ k : Nat) : Int) ≤ ((256 ^ 8 : Nat) : Int) := by exact_mod_cast this
  have h3 : ((256 ^ k : Nat) : Int) = (256 : Int) ^ k := by simp
  rw [h3] at h2
  exact h2
theorem readUint_l0 (kx : Int × Int × Unit → Option (Int × Int × Int × Unit)) (at' : Int) (q : List Int) (hq : q.length = 8) (hb : ∀ n ∈ q, byte n) :
    octet_ReadUint.l0 (at', 0, q, (q.length : Int), 0, ()) kx = kx (at', be q, ()) := by
  unfold octet_ReadUint.l0
  have key := loopN_eq (step := octet_ReadUint.s0 kx) (fun x => kx (x.1, (x.2.2.1.drop x.2.2.2.2.1.toNat).foldl beF x.2.1, ()))
    (fun x => x.2.2.1 = q ∧ x.2.2.2.1 = 8 ∧ ∃ k : Nat, x.2.2.2.2.1 = k ∧ k ≤ 8 ∧ 0 ≤ x.2.1 ∧ x.2.1 < 256 ^ k) (fun x => 8 - x.2.2.2.2.1.toNat) ?_
  · exact key _ (at', 0, q, (q.length : Int), 0, ()) ⟨rfl, by simp [hq], 0, rfl, by omega, by simp, by simp⟩ (by simp only [octet_ReadUint.n0]; omega)
  · rintro ⟨a, u, q', n, i, _⟩ ⟨h0, hn, k, h1, h2, h3, h4⟩ κ hκ
    simp only at h0 hn h1 h2 h3 h4 hκ; subst h0 h1 hn
    simp only [octet_ReadUint.s0, octet_ReadUint.s0b]
    by_cases hlt : k < 8
    · rw [cond_t (ilt_iff.2 (by omega)), chk_true (inB_iff.2 (by omega))]
      have hlt' : k < q'.length := by omega
      have hd := drop_cons hlt'
      simp only [Int.toNat_natCast] at hκ ⊢
      rw [hd]
      have hby : byte (q'.getD k 0) := hb _ (getD_mem hlt')
      obtain ⟨g1, g2⟩ := byte_pow h3 hby h4
      have h8 := pow_le8 (k := k + 1) (by omega)
      rw [ior_byte h3 hby (by omega), iadd64 (by omega), hκ _ ⟨rfl, rfl, k + 1, by simp, by omega, g1, g2⟩ (by simp; omega)]
      rw [show ((k : Int) + 1).toNat = k + 1 by omega]
      rfl
    · rw [cond_f (ilt_f.2 (by omega))]
      simp only [Int.toNat_natCast]
      rw [List.drop_eq_nil_of_le (by omega)]
      rfl
theorem rreadUint_l0 (kx : Int × Int × Unit → Option (Int × Int × Int × Unit)) (p : List Int) (a : Nat) (ha : a + 8 ≤ p.length) (hl : p.length ≤ 140737488351232) (hb : ∀ n ∈ p, byte n) :
    r02_ReadUint.l0 (p, (a : Int), 0, 0, ()) kx = kx ((a : Int), be ((p.drop a).take 8), ()) := by
  unfold r02_ReadUint.l0
  have key := loopN_eq (step := r02_ReadUint.s0 kx) (fun x => kx (x.2.1, (((p.drop a).take 8).drop x.2.2.2.1.toNat).foldl beF x.2.2.1, ()))
    (fun x => x.1 = p ∧ x.2.1 = a ∧ ∃ k : Nat, x.2.2.2.1 = k ∧ k ≤ 8 ∧ 0 ≤ x.2.2.1 ∧ x.2.2.1 < 256 ^ k) (fun x => 8 - x.2.2.2.1.toNat) ?_
  · exact key _ (p, (a : Int), 0, 0, ()) ⟨rfl, rfl, 0, rfl, by omega, by simp, by simp⟩ (by simp only [r02_ReadUint.n0]; omega)
  · rintro ⟨p', a', u, i, _⟩ ⟨h0, hn, k, h1, h2, h3, h4⟩ κ hκ
    simp only at h0 hn h1 h2 h3 h4 hκ; subst h0 h1 hn
    simp only [r02_ReadUint.s0, r02_ReadUint.s0b]
    by_cases hlt : k < 8
    · have hak : iadd .i64 (a : Int) (k : Int) = ((a + k : Nat) : Int) := by rw [iadd64 (by omega)]; simp
      rw [cond_t (ilt_iff.2 (by omega)), hak, chk_true (inB_iff.2 (by omega))]
      have hql : ((p'.drop a).take 8).length = 8 := by simp; omega
      have hlt' : k < ((p'.drop a).take 8).length := by omega
      have hd := drop_cons hlt'
      have hg : ((p'.drop a).take 8).getD k 0 = p'.getD (a + k) 0 := by
        rw [List.getD_eq_getElem?_getD, List.getD_eq_getElem?_getD, List.getElem?_take_of_lt hlt, List.getElem?_drop]
      rw [hg] at hd
      simp only [Int.toNat_natCast] at hκ ⊢
      rw [hd]
      have hby : byte (p'.getD (a + k) 0) := hb _ (getD_mem (by omega))
      obtain ⟨g1, g2⟩ := byte_pow h3 hby h4
      have h8 := pow_le8 (k := k + 1) (by omega)
      rw [iadd_byte h3 hby (by omega), iadd64 (by omega), hκ _ ⟨rfl, rfl, k + 1, by simp, by omega, g1, g2⟩ (by simp; omega)]
      rw [show ((k : Int) + 1).toNat = k + 1 by omega]
      rfl
    · rw [cond_f (ilt_f.2 (by omega))]
      simp only [Int.toNat_natCast]
      rw [List.drop_eq_nil_of_le (by simp; omega)]
      rfl
/-- a number read at a place -/
def readU (p : List Int) (i : Int) : Int × Int × Int × Unit :=
  if i < 0 then (0, 0, 1, ()) else if (p.length : Int) < i then (0, 0, 1, ()) else if (p.length : Int) - i < 8 then (0, 0, 3, ()) else (be ((p.drop i.toNat).take 8), i + 8, 0, ())
section
variable {p : List Int} (hp : p.length ≤ 140737488351232) (hb : ∀ n ∈ p, byte n)
include hp hb
theorem octet_ReadUint_eq (i : Int) : octet_ReadUint (p, i, ()) = some (readU p i) := by
  unfold octet_ReadUint readU
  simp only [octet_ReadUint.b]
  by_cases h1 : i < 0
  · rw [cond_t (ilt_iff.2 h1), if_pos h1]
  · rw [cond_f (ilt_f.2 (by omega)), if_neg h1]
    by_cases h2 : (p.length : Int) < i
    · rw [cond_t (igt_iff.2 h2), if_pos h2]
    · rw [cond_f (igt_f.2 (by omega)), if_neg h2, isub64 (by omega)]
      by_cases h3 : (p.length : Int) - i < 8
      · rw [cond_t (ilt_iff.2 h3), if_pos h3]
      · rw [cond_f (ilt_f.2 (by omega)), if_neg h3, iadd64 (by omega), chk_true (by simp [leB]; omega)]
        rw [show (i + 8 - i).toNat = 8 by omega]
        rw [readUint_l0 _ i ((p.drop i.toNat).take 8) (by simp; omega) (fun n hn => hb n (List.mem_of_mem_drop (List.mem_of_mem_take hn)))]
        simp only []
        rw [iadd64 (by omega)]
theorem r02_ReadUint_eq (i : Int) : r02_ReadUint (p, i, ()) = some (readU p i) := by
  unfold r02_ReadUint readU
  simp only [r02_ReadUint.b]
  by_cases h1 : i < 0
  · rw [cond_t (ilt_iff.2 h1), if_pos h1]
  · rw [cond_f (ilt_f.2 (by omega)), if_neg h1]
    by_cases h2 : (p.length : Int) < i
    · rw [cond_t (igt_iff.2 h2), if_pos h2]
    · rw [cond_f (igt_f.2 (by omega)), if_neg h2, isub64 (by omega)]
      by_cases h3 : (p.length : Int) - i < 8
      · rw [cond_t (ilt_iff.2 h3), if_pos h3]
      · rw [cond_f (ilt_f.2 (by omega)), if_neg h3]
        obtain ⟨a, rfl⟩ : ∃ a : Nat, i = a := ⟨i.toNat, by omega⟩
        rw [rreadUint_l0 _ p a (by omega) hp hb]
        simp only [Int.toNat_natCast]
        rw [iadd64 (by omega)]
end
end Go.Px.Pu
