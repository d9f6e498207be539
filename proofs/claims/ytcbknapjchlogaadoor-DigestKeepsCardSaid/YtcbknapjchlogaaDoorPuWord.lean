/- Numbers without sign as words of bits. -/
import Derived.Test.YtcbknapjchlogaaDoorPuBase
set_option linter.unusedVariables false
set_option linter.unusedSimpArgs false
namespace Go.Px.Pu
open Go Go.Px

section
variable {k : IntKind} (hk : k.signed = false)
include hk
theorem wrapU (n : Int) : k.wrap n = n % 2 ^ k.bits := by simp [IntKind.wrap, hk]
theorem wrapB (n : Int) : k.wrap n = ((BitVec.ofInt k.bits n).toNat : Int) := by
  rw [wrapU hk, BitVec.toNat_ofInt]
  have h : (0 : Int) ≤ n % 2 ^ k.bits := Int.emod_nonneg _ (by have : (2 : Int) ^ k.bits > 0 := Int.pow_pos (by decide); omega)
  push_cast
  omega
theorem wrapT (x : BitVec k.bits) : k.wrap (x.toNat : Int) = (x.toNat : Int) := by
  rw [wrapB hk]; congr 2
  apply BitVec.eq_of_toNat_eq
  have := x.isLt
  rw [BitVec.toNat_ofInt]
  have h2 : ((x.toNat : Int) % ((2 ^ k.bits : Nat) : Int)) = x.toNat := Int.emod_eq_of_lt (by omega) (by exact_mod_cast this)
  rw [h2]; rfl
end
theorem ofB {k : IntKind} (x : BitVec k.bits) : BitVec.ofInt k.bits (x.toNat : Int) = x := by
  apply BitVec.eq_of_toNat_eq
  have := x.isLt
  rw [BitVec.toNat_ofInt]
  have h2 : ((x.toNat : Int) % ((2 ^ k.bits : Nat) : Int)) = x.toNat := Int.emod_eq_of_lt (by omega) (by exact_mod_cast this)
  rw [h2]; rfl
section
variable {k : IntKind} (hk : k.signed = false)
include hk
theorem ixorB (x y : BitVec k.bits) : ixor k (x.toNat : Int) (y.toNat : Int) = ((x ^^^ y).toNat : Int) := by
  unfold ixor; rw [ofB, ofB, wrapT hk]
theorem iandB (x y : BitVec k.bits) : iand k (x.toNat : Int) (y.toNat : Int) = ((x &&& y).toNat : Int) := by
  unfold iand; rw [ofB, ofB, wrapT hk]
theorem iorB (x y : BitVec k.bits) : ior k (x.toNat : Int) (y.toNat : Int) = ((x ||| y).toNat : Int) := by
  unfold ior; rw [ofB, ofB, wrapT hk]
theorem iandnB (x y : BitVec k.bits) : iandn k (x.toNat : Int) (y.toNat : Int) = ((x &&& ~~~ y).toNat : Int) := by
  unfold iandn; rw [ofB, ofB, wrapT hk]
theorem iaddB (x y : BitVec k.bits) : iadd k (x.toNat : Int) (y.toNat : Int) = ((x + y).toNat : Int) := by
  unfold iadd; rw [wrapB hk, BitVec.ofInt_add, ofB, ofB]
theorem isubB (x y : BitVec k.bits) : isub k (x.toNat : Int) (y.toNat : Int) = ((x - y).toNat : Int) := by
  unfold isub; rw [wrapB hk, Int.sub_eq_add_neg, BitVec.ofInt_add, BitVec.ofInt_neg, ofB, ofB, BitVec.sub_eq_add_neg]
theorem inotB (x : BitVec k.bits) : inot k (x.toNat : Int) = ((~~~ x).toNat : Int) := by
  unfold inot
  rw [hk]
  simp only [Bool.false_eq_true, if_false]
  have e : k.max = ((BitVec.allOnes k.bits).toNat : Int) := by
    cases k <;> first
      | (cases hk; done)
      | decide
  rw [e, ixorB hk, BitVec.allOnes_xor]
end
theorem ishrB {k : IntKind} (x : BitVec k.bits) (n : Nat) (hn : n ≤ k.bits) : ishr k (x.toNat : Int) (n : Int) = ((x >>> n).toNat : Int) := by
  unfold ishr
  rw [Int.toNat_natCast, Nat.min_eq_left hn, BitVec.toNat_ushiftRight, Nat.shiftRight_eq_div_pow, Int.fdiv_eq_ediv_of_nonneg _ (Int.le_of_lt (Int.pow_pos (by decide)))]
  push_cast
  rfl
section
variable {k : IntKind} (hk : k.signed = false)
include hk
theorem ishlB (x : BitVec k.bits) (n : Nat) (hn : n ≤ k.bits) : ishl k (x.toNat : Int) (n : Int) = ((x <<< n).toNat : Int) := by
  unfold ishl
  rw [Int.toNat_natCast, Nat.min_eq_left hn, wrapU hk, BitVec.toNat_shiftLeft, Nat.shiftLeft_eq]
  push_cast
  rfl
end
/-! ### 32 bits -/
theorem ixor32 (x y : BitVec 32) : ixor .u32 (x.toNat : Int) (y.toNat : Int) = ((x ^^^ y).toNat : Int) := ixorB (k := .u32) rfl x y
theorem iand32 (x y : BitVec 32) : iand .u32 (x.toNat : Int) (y.toNat : Int) = ((x &&& y).toNat : Int) := iandB (k := .u32) rfl x y
theorem ior32 (x y : BitVec 32) : ior .u32 (x.toNat : Int) (y.toNat : Int) = ((x ||| y).toNat : Int) := iorB (k := .u32) rfl x y
theorem iandn32 (x y : BitVec 32) : iandn .u32 (x.toNat : Int) (y.toNat : Int) = ((x &&& ~~~ y).toNat : Int) := iandnB (k := .u32) rfl x y
theorem iadd32 (x y : BitVec 32) : iadd .u32 (x.toNat : Int) (y.toNat : Int) = ((x + y).toNat : Int) := iaddB (k := .u32) rfl x y
theorem isub32 (x y : BitVec 32) : isub .u32 (x.toNat : Int) (y.toNat : Int) = ((x - y).toNat : Int) := isubB (k := .u32) rfl x y
theorem inot32 (x : BitVec 32) : inot .u32 (x.toNat : Int) = ((~~~ x).toNat : Int) := inotB (k := .u32) rfl x
theorem ishr32 (x : BitVec 32) (n : Nat) (hn : n ≤ 32) : ishr .u32 (x.toNat : Int) (n : Int) = ((x >>> n).toNat : Int) := ishrB (k := .u32) x n hn
theorem ishl32 (x : BitVec 32) (n : Nat) (hn : n ≤ 32) : ishl .u32 (x.toNat : Int) (n : Int) = ((x <<< n).toNat : Int) := ishlB (k := .u32) rfl x n hn
theorem wrap32 (n : Int) : IntKind.wrap .u32 n = ((BitVec.ofInt 32 n).toNat : Int) := wrapB (k := .u32) rfl n
theorem ofB32 (x : BitVec 32) : BitVec.ofInt 32 (x.toNat : Int) = x := ofB (k := .u32) x
theorem bv_of {w : Nat} {n : Int} (h0 : 0 ≤ n) (h1 : n < 2 ^ w) : n = ((BitVec.ofInt w n).toNat : Int) := by
  rw [BitVec.toNat_ofInt]
  have h2 : n % ((2 ^ w : Nat) : Int) = n := Int.emod_eq_of_lt h0 (by exact_mod_cast h1)
  rw [h2]; omega
theorem toNat_inj {w : Nat} {x y : BitVec w} : ((x.toNat : Int) = (y.toNat : Int)) ↔ x = y := by
  constructor
  · intro h; exact BitVec.eq_of_toNat_eq (by omega)
  · intro h; rw [h]
end Go.Px.Pu
