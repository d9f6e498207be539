/- A character written and read again. -/
import Derived.Test.YtgmfjbbhdnfapaaDoorPuNamDec
set_option linter.unusedVariables false
set_option linter.unusedSimpArgs false
namespace Go.Px.Pu
open Go Go.Px
theorem u8n {n : Nat} (h : n < 256) : (UInt8.ofNat n).toNat = n := by simp; omega
theorem dec_enc {c : Nat} (hv : c < 55296 ∨ (57344 ≤ c ∧ c ≤ 1114111)) : Utf8.decode (Utf8.encode (c : Int)) 0 = (c, (Utf8.encode (c : Int)).size) := by
  have hval : Utf8.valid (c : Int) = true := by
    simp only [Utf8.valid, Bool.or_eq_true, Bool.and_eq_true, decide_eq_true_eq]; omega
  have he : Utf8.encode (c : Int) = if c < 0x80 then ⟨#[UInt8.ofNat c]⟩
      else if c < 0x800 then ⟨#[UInt8.ofNat (0xC0 + c / 64), UInt8.ofNat (0x80 + c % 64)]⟩
      else if c < 0x10000 then ⟨#[UInt8.ofNat (0xE0 + c / 4096), UInt8.ofNat (0x80 + c / 64 % 64), UInt8.ofNat (0x80 + c % 64)]⟩
      else ⟨#[UInt8.ofNat (0xF0 + c / 262144), UInt8.ofNat (0x80 + c / 4096 % 64), UInt8.ofNat (0x80 + c / 64 % 64), UInt8.ofNat (0x80 + c % 64)]⟩ := by
    unfold Utf8.encode
    simp only [hval, if_true, Int.toNat_natCast]
  rw [he, Lib.decode_at]
  split
  · rename_i h
    simp only [get_list, List.getElem?_cons_zero, Option.getD_some, Nat.zero_add]
    rw [u8n (by omega)]
    simp only [Lib.decodeN]
    rw [if_pos (by omega)]; rfl
  · split
    · rename_i h1 h2
      simp only [get_list, List.getElem?_cons_zero, List.getElem?_cons_succ, Option.getD_some, Nat.zero_add]
      rw [u8n (n := 0xC0 + c / 64) (by omega), u8n (n := 0x80 + c % 64) (by omega)]
      have e : (⟨#[UInt8.ofNat (0xC0 + c / 64), UInt8.ofNat (0x80 + c % 64)]⟩ : ByteArray).size = 2 := rfl
      rw [e]
      simp only [Lib.decodeN]
      rw [if_neg (by omega), if_pos (by omega), if_pos (by omega)]
      exact Prod.ext (by simp only; omega) rfl
    · split
      · rename_i h1 h2 h3
        simp only [get_list, List.getElem?_cons_zero, List.getElem?_cons_succ, Option.getD_some, Nat.zero_add]
        rw [u8n (n := 0xE0 + c / 4096) (by omega), u8n (n := 0x80 + c / 64 % 64) (by omega), u8n (n := 0x80 + c % 64) (by omega)]
        have e : (⟨#[UInt8.ofNat (0xE0 + c / 4096), UInt8.ofNat (0x80 + c / 64 % 64), UInt8.ofNat (0x80 + c % 64)]⟩ : ByteArray).size = 3 := rfl
        rw [e]
        simp only [Lib.decodeN]
        rw [if_neg (by omega), if_neg (by omega), if_pos (by omega), if_pos (by omega)]
        exact Prod.ext (by simp only; omega) rfl
      · rename_i h1 h2 h3
        simp only [get_list, List.getElem?_cons_zero, List.getElem?_cons_succ, Option.getD_some, Nat.zero_add]
        rw [u8n (n := 0xF0 + c / 262144) (by omega), u8n (n := 0x80 + c / 4096 % 64) (by omega), u8n (n := 0x80 + c / 64 % 64) (by omega), u8n (n := 0x80 + c % 64) (by omega)]
        have e : (⟨#[UInt8.ofNat (0xF0 + c / 262144), UInt8.ofNat (0x80 + c / 4096 % 64), UInt8.ofNat (0x80 + c / 64 % 64), UInt8.ofNat (0x80 + c % 64)]⟩ : ByteArray).size = 4 := rfl
        rw [e]
        simp only [Lib.decodeN]
        rw [if_neg (by omega), if_neg (by omega), if_neg (by omega), if_pos (by omega), if_pos (by omega)]
        exact Prod.ext (by simp only; omega) rfl
end Go.Px.Pu
