/- digest.Equal: are two lists of bytes the same? -/
import Derived.Test.YtgmfjbbhdnfapaaDoorPuShaA
import Derived.Test.YtgmfjbbhdnfapaaDoorSh
set_option linter.unusedVariables false
set_option linter.unusedSimpArgs false
namespace Go.Px.Pu
open Go Go.Px

def orX : List Int → List Int → Nat → Int
  | a, b, 0 => 0
  | a, b, i + 1 => ior .u8 (orX a b i) (ixor .u8 (a.getD i 0) (b.getD i 0))
theorem b8 {n : Int} (h : byte n) : n = ((BitVec.ofInt 8 n).toNat : Int) := bv_of h.1 (by show n < 256; have := h.2; omega)
theorem xor8_zero {a b : Int} (ha : byte a) (hb : byte b) : ixor .u8 a b = 0 ↔ a = b := by
  rw [b8 ha, b8 hb]
  generalize BitVec.ofInt 8 a = x
  generalize BitVec.ofInt 8 b = y
  have this : ixor .u8 ((x.toNat : Nat) : Int) ((y.toNat : Nat) : Int) = (((x ^^^ y : BitVec 8).toNat : Nat) : Int) := ixorB (k := .u8) rfl x y
  rw [this, show ((x.toNat : Nat) : Int) = ((y.toNat : Nat) : Int) ↔ x = y from toNat_inj]
  constructor
  · intro h
    have h0 : (x ^^^ y).toNat = 0 := by omega
    have h1 : x ^^^ y = 0#8 := BitVec.eq_of_toNat_eq (by rw [h0]; rfl)
    have h2 : x ^^^ y ^^^ y = y := by rw [h1]; simp
    rw [BitVec.xor_assoc, BitVec.xor_self, BitVec.xor_zero] at h2
    exact h2
  · intro h
    subst h
    rw [BitVec.xor_self]; rfl
theorem or8_zero {a b : Int} (ha : byte a) (hb : byte b) : ior .u8 a b = 0 ↔ a = 0 ∧ b = 0 := by
  rw [b8 ha, b8 hb]
  generalize BitVec.ofInt 8 a = x
  generalize BitVec.ofInt 8 b = y
  have this : ior .u8 ((x.toNat : Nat) : Int) ((y.toNat : Nat) : Int) = (((x ||| y : BitVec 8).toNat : Nat) : Int) := iorB (k := .u8) rfl x y
  rw [this]
  have hor : (x ||| y).toNat = x.toNat ||| y.toNat := BitVec.toNat_or x y
  have : (x.toNat ||| y.toNat = 0) ↔ (x.toNat = 0 ∧ y.toNat = 0) := Nat.or_eq_zero_iff
  rw [hor]
  omega
theorem xor8_byte (a b : Int) : byte (ixor .u8 a b) := by
  unfold ixor
  rw [wrapU (k := .u8) rfl]
  show 0 ≤ _ % (256 : Int) ∧ _ % (256 : Int) ≤ 255
  omega
theorem or8_byte (a b : Int) : byte (ior .u8 a b) := by
  unfold ior
  rw [wrapU (k := .u8) rfl]
  show 0 ≤ _ % (256 : Int) ∧ _ % (256 : Int) ≤ 255
  omega
theorem getD_byte {l : List Int} (h : ∀ n ∈ l, byte n) (i : Nat) : byte (l.getD i 0) := by
  by_cases hi : i < l.length
  · exact h _ (getD_mem hi)
  · rw [List.getD_eq_getElem?_getD, List.getElem?_eq_none (by omega)]; exact ⟨by decide, by decide⟩
theorem orX_byte (a b : List Int) : ∀ i, byte (orX a b i)
  | 0 => ⟨by simp [orX], by simp [orX]⟩
  | i + 1 => or8_byte _ _
theorem orX_zero (a b : List Int) (ha : ∀ n ∈ a, byte n) (hb : ∀ n ∈ b, byte n) : ∀ i, orX a b i = 0 ↔ ∀ j, j < i → a.getD j 0 = b.getD j 0
  | 0 => by simp [orX]
  | i + 1 => by
    show ior .u8 (orX a b i) _ = 0 ↔ _
    rw [or8_zero (orX_byte a b i) (xor8_byte _ _), orX_zero a b ha hb i, xor8_zero (getD_byte ha i) (getD_byte hb i)]
    constructor
    · rintro ⟨h1, h2⟩ j hj
      by_cases hji : j = i
      · rw [hji]; exact h2
      · exact h1 j (by omega)
    · intro h
      exact ⟨fun j hj => h j (by omega), h i (by omega)⟩
theorem eqL_l0 (a b : List Int) (hl : a.length = b.length) (hs : a.length ≤ 140737488355328) (kx) (m : Nat) (hm : a.length < m) : loopN m (digest_Equal.s0b kx) (a, b, 0, (a.length : Int), 0, ()) = kx (orX a b a.length, ()) := by
  refine traj (fun i => (a, b, orX a b i, (a.length : Int), (i : Int), ())) _ a.length (fun i hi κ => ?_) (fun κ => ?_) m hm
  · have e4 : iadd .i64 (i : Int) 1 = ((i + 1 : Nat) : Int) := by rw [iadd64 (by omega)]; omega
    simp only [digest_Equal.s0b, e4, Int.toNat_natCast]
    rw [cond_t (ilt_iff.2 (by omega)), chk_true (inB_iff.2 (by omega)), chk_true (inB_iff.2 (by omega))]
    rfl
  · simp only [digest_Equal.s0b]
    rw [cond_f (ilt_f.2 (by omega))]
theorem equal_main (l0) (h0 : ∀ (a b : List Int), a.length = b.length → a.length ≤ 140737488355328 → ∀ kx, l0 (a, b, 0, (a.length : Int), 0, ()) kx = kx (orX a b a.length, ()))
    (a b : List Int) (ha : ∀ n ∈ a, byte n) (hb : ∀ n ∈ b, byte n) (hs : a.length ≤ 140737488355328) : digest_Equal.b l0 (a, b, ()) = some (leq a b) := by
  simp only [digest_Equal.b]
  by_cases hl : a.length = b.length
  · rw [cond_f (ine_f.2 (by omega)), h0 a b hl hs]
    dsimp only
    congr 1
    rw [Bool.eq_iff_iff, ieq_iff, orX_zero a b ha hb]
    show _ ↔ (a == b) = true
    rw [beq_iff_eq]
    constructor
    · intro h
      apply List.ext_getElem hl
      intro i h1 h2
      have := h i h1
      rw [List.getD_eq_getElem?_getD, List.getElem?_eq_getElem h1, List.getD_eq_getElem?_getD, List.getElem?_eq_getElem h2] at this
      exact this
    · intro h j hj
      rw [h]
  · rw [cond_t (ine_iff.2 (by omega))]
    have : leq a b = false := by
      unfold leq
      rw [Bool.eq_false_iff]
      intro h
      exact hl (by rw [eq_of_beq h])
    rw [this]
theorem equal_eq (a b : List Int) (ha : ∀ n ∈ a, byte n) (hb : ∀ n ∈ b, byte n) (hs : a.length ≤ 140737488355328) : digest_Equal (a, b, ()) = some (leq a b) :=
  equal_main _ (fun a b hl hs kx => by
    have := eqL_l0 a b hl hs kx (digest_Equal.n0 (a, b, 0, (a.length : Int), 0, ())) (by show a.length < _ + _ + _ + _ + _ + 1048576; omega)
    unfold digest_Equal.l0 digest_Equal.s0
    exact this) a b ha hb hs
end Go.Px.Pu
