/- utf8.AppendRune: a character's bytes behind others. -/
import Derived.Test.YtgmfjbbhdnfapaaDoorSh
import Derived.Test.YtgmfjbbhdnfapaaDoorPuNamNames
set_option linter.unusedVariables false
set_option linter.unusedSimpArgs false
namespace Go.Px.Pu
open Go Go.Px
theorem ar63 : ∀ i : Fin 256, ior .u8 128 (iand .u8 (i.val : Int) 63) = ((128 + i.val % 64 : Nat) : Int) := by decide +kernel
theorem ar192 : ∀ i : Fin 32, ior .u8 192 (i.val : Int) = ((192 + i.val : Nat) : Int) := by decide +kernel
theorem ar224 : ∀ i : Fin 16, ior .u8 224 (i.val : Int) = ((224 + i.val : Nat) : Int) := by decide +kernel
theorem ar240 : ∀ i : Fin 8, ior .u8 240 (i.val : Int) = ((240 + i.val : Nat) : Int) := by decide +kernel
theorem sh32 (c k : Nat) (hk : k ≤ 32) : ishr .i32 (c : Int) (k : Int) = ((c / 2 ^ k : Nat) : Int) := by
  unfold ishr
  rw [Int.toNat_natCast, show min k IntKind.i32.bits = k from Nat.min_eq_left hk, Int.fdiv_eq_ediv_of_nonneg _ (Int.le_of_lt (Int.pow_pos (by decide)))]
  push_cast; rfl
theorem w8n (c : Nat) : IntKind.wrap .u8 (c : Int) = ((c % 256 : Nat) : Int) := by
  simp [IntKind.wrap, IntKind.signed, IntKind.bits]
theorem tail63 (c : Nat) : ior .u8 128 (iand .u8 (IntKind.wrap .u8 (c : Int)) 63) = ((128 + c % 64 : Nat) : Int) := by
  rw [w8n]
  have := ar63 ⟨c % 256, Nat.mod_lt _ (by decide)⟩
  simp only at this
  rw [this]; congr 2; omega
theorem head192 (c : Nat) (h : c < 32) : ior .u8 192 (IntKind.wrap .u8 (c : Int)) = ((192 + c : Nat) : Int) := by
  rw [w8n, Nat.mod_eq_of_lt (by omega)]; exact ar192 ⟨c, h⟩
theorem head224 (c : Nat) (h : c < 16) : ior .u8 224 (IntKind.wrap .u8 (c : Int)) = ((224 + c : Nat) : Int) := by
  rw [w8n, Nat.mod_eq_of_lt (by omega)]; exact ar224 ⟨c, h⟩
theorem head240 (c : Nat) (h : c < 8) : ior .u8 240 (IntKind.wrap .u8 (c : Int)) = ((240 + c : Nat) : Int) := by
  rw [w8n, Nat.mod_eq_of_lt (by omega)]; exact ar240 ⟨c, h⟩
def encU (c : Nat) : List Int := if c < 0x80 then [(c : Int)]
      else if c < 0x800 then [((0xC0 + c / 64 : Nat) : Int), ((0x80 + c % 64 : Nat) : Int)]
      else if c < 0x10000 then [((0xE0 + c / 4096 : Nat) : Int), ((0x80 + c / 64 % 64 : Nat) : Int), ((0x80 + c % 64 : Nat) : Int)]
      else [((0xF0 + c / 262144 : Nat) : Int), ((0x80 + c / 4096 % 64 : Nat) : Int), ((0x80 + c / 64 % 64 : Nat) : Int), ((0x80 + c % 64 : Nat) : Int)]
theorem enc_bytes {c : Nat} (hv : c < 55296 ∨ (57344 ≤ c ∧ c ≤ 1114111)) : bytesOf (Utf8.encode (c : Int)) = encU c := by
  have hval : Utf8.valid (c : Int) = true := by
    simp only [Utf8.valid, Bool.or_eq_true, Bool.and_eq_true, decide_eq_true_eq]; omega
  have he : Utf8.encode (c : Int) = if c < 0x80 then ⟨#[UInt8.ofNat c]⟩
      else if c < 0x800 then ⟨#[UInt8.ofNat (0xC0 + c / 64), UInt8.ofNat (0x80 + c % 64)]⟩
      else if c < 0x10000 then ⟨#[UInt8.ofNat (0xE0 + c / 4096), UInt8.ofNat (0x80 + c / 64 % 64), UInt8.ofNat (0x80 + c % 64)]⟩
      else ⟨#[UInt8.ofNat (0xF0 + c / 262144), UInt8.ofNat (0x80 + c / 4096 % 64), UInt8.ofNat (0x80 + c / 64 % 64), UInt8.ofNat (0x80 + c % 64)]⟩ := by
    unfold Utf8.encode
    simp only [hval, if_true, Int.toNat_natCast]
  rw [he]
  unfold encU
  have u (n : Nat) (h : n < 256) : (((UInt8.ofNat n).toNat : Nat) : Int) = (n : Int) := by rw [u8n h]
  split
  · simp only [bytesOf, List.map_cons, List.map_nil]; rw [u _ (by omega)]
  split
  · simp only [bytesOf, List.map_cons, List.map_nil]; rw [u _ (by omega), u _ (by omega)]
  split
  · simp only [bytesOf, List.map_cons, List.map_nil]; rw [u _ (by omega), u _ (by omega), u _ (by omega)]
  · simp only [bytesOf, List.map_cons, List.map_nil]; rw [u _ (by omega), u _ (by omega), u _ (by omega), u _ (by omega)]
theorem nonascii_eq {c : Nat} (hv : c < 55296 ∨ (57344 ≤ c ∧ c ≤ 1114111)) (h7 : 128 ≤ c) (t : List Int) (ht : t.length ≤ 1000000000) : unicode_utf8_appendRuneNonASCII (t, (c : Int), ()) = some (t ++ encU c) := by
  have hw : IntKind.wrap .u32 (c : Int) = (c : Int) := by simp [IntKind.wrap, IntKind.signed, IntKind.bits]; omega
  unfold unicode_utf8_appendRuneNonASCII encU
  simp only [unicode_utf8_appendRuneNonASCII.b, hw]
  have s6 := sh32 c 6 (by omega)
  have s12 := sh32 c 12 (by omega)
  have s18 := sh32 c 18 (by omega)
  have e6 : (2 : Nat) ^ 6 = 64 := by decide
  have e12 : (2 : Nat) ^ 12 = 4096 := by decide
  have e18 : (2 : Nat) ^ 18 = 262144 := by decide
  rw [e6] at s6; rw [e12] at s12; rw [e18] at s18
  have c6 : ((6 : Nat) : Int) = 6 := rfl
  have c12 : ((12 : Nat) : Int) = 12 := rfl
  have c18 : ((18 : Nat) : Int) = 18 := rfl
  rw [c6] at s6; rw [c12] at s12; rw [c18] at s18
  rw [s6, s12, s18, if_neg (by omega)]
  by_cases h2 : c < 0x800
  · rw [cond_t (ile_iff.2 (by omega)), if_pos h2, chk_true (fits_iff.2 (by omega)), head192 _ (by omega), tail63]
  rw [cond_f (ile_f.2 (by omega)), if_neg h2]
  by_cases h3 : c < 0x10000
  · rw [if_pos h3]
    by_cases h4 : c < 55296
    · rw [cond_t (ilt_iff.2 (by omega)), cond_t (ilt_iff.2 (by omega)), chk_true (fits_iff.2 (by omega)), head224 _ (by omega), tail63, tail63]
    · rw [cond_f (ilt_f.2 (by omega)), cond_t (ilt_iff.2 (by omega)), cond_t (ile_iff.2 (by omega)), chk_true (fits_iff.2 (by omega)), head224 _ (by omega), tail63, tail63]
  · rw [if_neg h3, cond_f (ilt_f.2 (by omega)), cond_t (ilt_iff.2 (by omega)), cond_f (ile_f.2 (by omega)), cond_t (igt_iff.2 (by omega)), cond_t (ile_iff.2 (by omega)), chk_true (fits_iff.2 (by omega)), head240 _ (by omega), tail63, tail63, tail63]
theorem append_eq {r : Int} (hr : rune r) (t : List Int) (ht : t.length ≤ 1000000000) : unicode_utf8_AppendRune (t, r, ()) = some (t ++ bytesOf (Utf8.encode r)) := by
  obtain ⟨c, rfl, hv⟩ := hr
  have hw : IntKind.wrap .u32 (c : Int) = (c : Int) := by simp [IntKind.wrap, IntKind.signed, IntKind.bits]; omega
  rw [enc_bytes hv]
  unfold unicode_utf8_AppendRune
  simp only [unicode_utf8_AppendRune.b, hw]
  by_cases h : c < 128
  · rw [cond_t (ile_iff.2 (by omega)), chk_true (fits_iff.2 (by omega)), w8n, Nat.mod_eq_of_lt (by omega)]
    unfold encU; rw [if_pos h]
  · rw [cond_f (ile_f.2 (by omega)), nonascii_eq hv (by omega) t ht]; rfl
end Go.Px.Pu
