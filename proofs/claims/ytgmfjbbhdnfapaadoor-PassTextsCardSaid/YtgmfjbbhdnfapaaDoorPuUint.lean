/- Numbers as eight bytes: what octet.Uint and the reference's Uint answer. -/
import Derived.Test.YtgmfjbbhdnfapaaDoorSh
import Derived.Test.YtgmfjbbhdnfapaaDoorPuWord
import Derived.KernelRfl
set_option linter.unusedVariables false
set_option linter.unusedSimpArgs false
namespace Go.Px.Pu
open Go Go.Px

/-- the digits to the base 256 -/
def digs : Nat → Int → List Int
  | 0, _ => []
  | k + 1, u => digs k (u / 256) ++ [u % 256]
theorem digs_len : (k : Nat) → (u : Int) → (digs k u).length = k
  | 0, _ => rfl
  | k + 1, u => by simp [digs, digs_len k]
theorem digs8 (u : Int) : digs 8 u = [u / 72057594037927936 % 256, u / 281474976710656 % 256, u / 1099511627776 % 256, u / 4294967296 % 256, u / 16777216 % 256, u / 65536 % 256, u / 256 % 256, u % 256] := by
  simp only [digs, List.nil_append, List.cons_append]
  rw [Int.ediv_ediv_of_nonneg (by omega : (0 : Int) ≤ 256)]
  simp [Int.ediv_ediv_of_nonneg]
theorem dig_word {u : Int} (k : Nat) (hk : k ≤ 64) : IntKind.wrap .u8 (ishr .u64 u (k : Int)) = u / 2 ^ k % 256 := by
  have e : ishr .u64 u (k : Int) = u / 2 ^ k := by
    unfold ishr
    rw [Int.toNat_natCast, show min k IntKind.u64.bits = k from Nat.min_eq_left hk, Int.fdiv_eq_ediv_of_nonneg _ (Int.le_of_lt (Int.pow_pos (by decide)))]
  rw [e]
  simp [IntKind.wrap, IntKind.signed, IntKind.bits]
theorem uint_loop (kx : (List Int × Unit) × Unit → Option (List Int)) (n : Nat) (u : Int) : loopN (n + 9) (octet_Uint.s0 kx) (u, ((List.replicate 8 (0 : Int)), ()), 0, ()) = kx (([IntKind.wrap .u8 (ishr .u64 u 56), IntKind.wrap .u8 (ishr .u64 u 48), IntKind.wrap .u8 (ishr .u64 u 40), IntKind.wrap .u8 (ishr .u64 u 32), IntKind.wrap .u8 (ishr .u64 u 24), IntKind.wrap .u8 (ishr .u64 u 16), IntKind.wrap .u8 (ishr .u64 u 8), IntKind.wrap .u8 (ishr .u64 u 0)], ()), ()) := by kernel_rfl
theorem ruint_loop (kx : List Int × Unit → Option (List Int)) (n : Nat) (u : Int) : loopN (n + 9) (r02_Uint.s0 kx) (u, [], 7, ()) = kx ([IntKind.wrap .u8 (ishr .u64 u 56), IntKind.wrap .u8 (ishr .u64 u 48), IntKind.wrap .u8 (ishr .u64 u 40), IntKind.wrap .u8 (ishr .u64 u 32), IntKind.wrap .u8 (ishr .u64 u 24), IntKind.wrap .u8 (ishr .u64 u 16), IntKind.wrap .u8 (ishr .u64 u 8), IntKind.wrap .u8 (ishr .u64 u 0)], ()) := by kernel_rfl
theorem nine {n : Nat} (h : 9 ≤ n) : ∃ m, n = m + 9 := ⟨n - 9, (Nat.sub_add_cancel h).symm⟩
theorem uint_l0 (kx : (List Int × Unit) × Unit → Option (List Int)) (u : Int) : octet_Uint.l0 (u, ((List.replicate 8 (0 : Int)), ()), 0, ()) kx = kx (([IntKind.wrap .u8 (ishr .u64 u 56), IntKind.wrap .u8 (ishr .u64 u 48), IntKind.wrap .u8 (ishr .u64 u 40), IntKind.wrap .u8 (ishr .u64 u 32), IntKind.wrap .u8 (ishr .u64 u 24), IntKind.wrap .u8 (ishr .u64 u 16), IntKind.wrap .u8 (ishr .u64 u 8), IntKind.wrap .u8 (ishr .u64 u 0)], ()), ()) := by
  unfold octet_Uint.l0
  obtain ⟨m, e⟩ : ∃ m, octet_Uint.n0 (u, ((List.replicate 8 (0 : Int)), ()), 0, ()) = m + 9 := nine (by simp only [octet_Uint.n0]; omega)
  rw [e]
  exact uint_loop kx m u
theorem ruint_l0 (kx : List Int × Unit → Option (List Int)) (u : Int) : r02_Uint.l0 (u, [], 7, ()) kx = kx ([IntKind.wrap .u8 (ishr .u64 u 56), IntKind.wrap .u8 (ishr .u64 u 48), IntKind.wrap .u8 (ishr .u64 u 40), IntKind.wrap .u8 (ishr .u64 u 32), IntKind.wrap .u8 (ishr .u64 u 24), IntKind.wrap .u8 (ishr .u64 u 16), IntKind.wrap .u8 (ishr .u64 u 8), IntKind.wrap .u8 (ishr .u64 u 0)], ()) := by
  unfold r02_Uint.l0
  obtain ⟨m, e⟩ : ∃ m, r02_Uint.n0 (u, [], 7, ()) = m + 9 := nine (by simp only [r02_Uint.n0]; omega)
  rw [e]
  exact ruint_loop kx m u
theorem octet_Uint_raw (u : Int) : octet_Uint (u, ()) = some [IntKind.wrap .u8 (ishr .u64 u 56), IntKind.wrap .u8 (ishr .u64 u 48), IntKind.wrap .u8 (ishr .u64 u 40), IntKind.wrap .u8 (ishr .u64 u 32), IntKind.wrap .u8 (ishr .u64 u 24), IntKind.wrap .u8 (ishr .u64 u 16), IntKind.wrap .u8 (ishr .u64 u 8), IntKind.wrap .u8 (ishr .u64 u 0)] := by
  unfold octet_Uint
  simp only [octet_Uint.b]
  rw [uint_l0]
theorem r02_Uint_b (l0 : (Int × List Int × Int × Unit) → ((List Int × Unit) → Option (List Int)) → Option (List Int)) (u : Int) (L : List Int) (h : l0 (u, [], 7, ()) (fun x => some x.1) = some L) : r02_Uint.b l0 (u, ()) = some L := h
theorem r02_Uint_raw (u : Int) : r02_Uint (u, ()) = some [IntKind.wrap .u8 (ishr .u64 u 56), IntKind.wrap .u8 (ishr .u64 u 48), IntKind.wrap .u8 (ishr .u64 u 40), IntKind.wrap .u8 (ishr .u64 u 32), IntKind.wrap .u8 (ishr .u64 u 24), IntKind.wrap .u8 (ishr .u64 u 16), IntKind.wrap .u8 (ishr .u64 u 8), IntKind.wrap .u8 (ishr .u64 u 0)] := r02_Uint_b r02_Uint.l0 u _ (ruint_l0 _ u)
theorem raw_digs (u : Int) : [IntKind.wrap .u8 (ishr .u64 u 56), IntKind.wrap .u8 (ishr .u64 u 48), IntKind.wrap .u8 (ishr .u64 u 40), IntKind.wrap .u8 (ishr .u64 u 32), IntKind.wrap .u8 (ishr .u64 u 24), IntKind.wrap .u8 (ishr .u64 u 16), IntKind.wrap .u8 (ishr .u64 u 8), IntKind.wrap .u8 (ishr .u64 u 0)] = digs 8 u := by
  have h (k : Nat) (hk : k ≤ 64) := dig_word (u := u) k hk
  rw [digs8, show IntKind.wrap .u8 (ishr .u64 u 56) = _ from h 56 (by omega), show IntKind.wrap .u8 (ishr .u64 u 48) = _ from h 48 (by omega), show IntKind.wrap .u8 (ishr .u64 u 40) = _ from h 40 (by omega), show IntKind.wrap .u8 (ishr .u64 u 32) = _ from h 32 (by omega), show IntKind.wrap .u8 (ishr .u64 u 24) = _ from h 24 (by omega), show IntKind.wrap .u8 (ishr .u64 u 16) = _ from h 16 (by omega), show IntKind.wrap .u8 (ishr .u64 u 8) = _ from h 8 (by omega), show IntKind.wrap .u8 (ishr .u64 u 0) = _ from h 0 (by omega)]
  simp
theorem octet_Uint_eq (u : Int) : octet_Uint (u, ()) = some (digs 8 u) := by rw [octet_Uint_raw, raw_digs]
theorem r02_Uint_eq (u : Int) : r02_Uint (u, ()) = some (digs 8 u) := by rw [r02_Uint_raw, raw_digs]

theorem digs8_byte (u : Int) : ∀ n ∈ digs 8 u, byte n := fun n hn => by
  rw [digs8] at hn
  simp only [List.mem_cons, List.not_mem_nil, or_false] at hn
  unfold byte
  rcases hn with rfl | rfl | rfl | rfl | rfl | rfl | rfl | rfl <;> omega
theorem digs8_len (u : Int) : (digs 8 u).length = 8 := by rw [digs8]; rfl
end Go.Px.Pu
