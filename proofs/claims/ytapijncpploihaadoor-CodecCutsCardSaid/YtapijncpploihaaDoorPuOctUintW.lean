/- Numbers written: eight bytes, the highest first. -/
import Derived.Test.YtapijncpploihaaDoorPuOctUint
import Derived.Test.YtapijncpploihaaDoorPuOctReadI
import Derived.Test.YtapijncpploihaaDoorPuLex
import Derived.KernelRfl
set_option linter.unusedVariables false
set_option linter.unusedSimpArgs false
namespace Go.Px.Pu
open Go Go.Px

/-- the digits to the base 256 -/
def digs : Nat → Int → List Int
  | 0, _ => []
  | k + 1, u => digs k (u / 256) ++ [u % 256]
theorem digs_len : (k : Nat) → (u : Int) → (digs k u).length = k
  | 0, _ => rfl
  | k + 1, u => by simp [digs, digs_len k]
theorem digs_bys : (k : Nat) → (u : Int) → bys (digs k u)
  | 0, _ => bys_nil
  | k + 1, u => bys_app.2 ⟨digs_bys k _, bys_cons.2 ⟨⟨by omega, by omega⟩, bys_nil⟩⟩
theorem be_snoc (l : List Int) (n : Int) : be (l ++ [n]) = be l * 256 + n := by simp [be, beF]
theorem be_digs : (k : Nat) → (u : Int) → 0 ≤ u → u < 256 ^ k → be (digs k u) = u
  | 0, u, h0, h1 => by
    have : u = 0 := by simp at h1; omega
    subst this; rfl
  | k + 1, u, h0, h1 => by
    rw [digs, be_snoc, be_digs k (u / 256) (by omega) (by
      rw [Int.pow_succ] at h1
      exact Int.ediv_lt_of_lt_mul (by omega) h1)]
    omega
theorem digs8 (u : Int) : digs 8 u = [u / 72057594037927936 % 256, u / 281474976710656 % 256, u / 1099511627776 % 256, u / 4294967296 % 256, u / 16777216 % 256, u / 65536 % 256, u / 256 % 256, u % 256] := by
  simp only [digs, List.nil_append, List.cons_append]
  rw [Int.ediv_ediv_of_nonneg (by omega : (0 : Int) ≤ 256)]
  simp [Int.ediv_ediv_of_nonneg]
theorem dig_word {u : Int} (k : Nat) (hk : k ≤ 64) : IntKind.wrap .u8 (ishr .u64 u (k : Int)) = u / 2 ^ k % 256 := by
  have e : ishr .u64 u (k : Int) = u / 2 ^ k := by
    unfold ishr
    rw [Int.toNat_natCast, show min k IntKind.u64.bits = k from Nat.min_eq_left hk, Int.fdiv_eq_ediv_of_nonneg _ (Int.le_of_lt (Int.pow_pos (by decide)))]
  rw [e]
  simp [IntKind.wrap, IntKind.signed, IntKind.bits]
theorem uint_loop (kx : (List Int × Unit) × Unit → Option (List Int)) (n : Nat) (u : Int) : loopN (n + 9) (octet_Uint.s0 kx) (u, ((List.replicate 8 (0 : Int)), ()), 0, ()) = kx (([IntKind.wrap .u8 (ishr .u64 u 56), IntKind.wrap .u8 (ishr .u64 u 48), IntKind.wrap .u8 (ishr .u64 u 40), IntKind.wrap .u8 (ishr .u64 u 32), IntKind.wrap .u8 (ishr .u64 u 24), IntKind.wrap .u8 (ishr .u64 u 16), IntKind.wrap .u8 (ishr .u64 u 8), IntKind.wrap .u8 (ishr .u64 u 0)], ()), ()) := by kernel_rfl
theorem ruint_loop (kx : List Int × Unit → Option (List Int)) (n : Nat) (u : Int) : loopN (n + 9) (r02_Uint.s0 kx) (u, [], 7, ()) = kx ([IntKind.wrap .u8 (ishr .u64 u 56), IntKind.wrap .u8 (ishr .u64 u 48), IntKind.wrap .u8 (ishr .u64 u 40), IntKind.wrap .u8 (ishr .u64 u 32), IntKind.wrap .u8 (ishr .u64 u 24), IntKind.wrap .u8 (ishr .u64 u 16), IntKind.wrap .u8 (ishr .u64 u 8), IntKind.wrap .u8 (ishr .u64 u 0)], ()) := by kernel_rfl
theorem nine {n : Nat} (h : 9 ≤ n) : ∃ m, n = m + 9 := ⟨n - 9, (Nat.sub_add_cancel h).symm⟩
theorem uint_l0 (kx : (List Int × Unit) × Unit → Option (List Int)) (u : Int) : octet_Uint.l0 (u, ((List.replicate 8 (0 : Int)), ()), 0, ()) kx = kx (([IntKind.wrap .u8 (ishr .u64 u 56), IntKind.wrap .u8 (ishr .u64 u 48), IntKind.wrap .u8 (ishr .u64 u 40), IntKind.wrap .u8 (ishr .u64 u 32), IntKind.wrap .u8 (ishr .u64 u 24), IntKind.wrap .u8 (ishr .u64 u 16), IntKind.wrap .u8 (ishr .u64 u 8), IntKind.wrap .u8 (ishr .u64 u 0)], ()), ()) := by
  unfold octet_Uint.l0
  obtain ⟨m, e⟩ : ∃ m, octet_Uint.n0 (u, ((List.replicate 8 (0 : Int)), ()), 0, ()) = m + 9 := nine (by simp only [octet_Uint.n0]; omega)
  rw [e]
  exact uint_loop kx m u
theorem ruint_l0 (kx : List Int × Unit → Option (List Int)) (u : Int) : r02_Uint.l0 (u, [], 7, ()) kx = kx ([IntKind.wrap .u8 (ishr .u64 u 56), IntKind.wrap .u8 (ishr .u64 u 48), IntKind.wrap .u8 (ishr .u64 u 40), IntKind.wrap .u8 (ishr .u64 u 32), IntKind.wrap .u8 (ishr .u64 u 24), IntKind.wrap .u8 (ishr .u64 u 16), IntKind.wrap .u8 (ishr .u64 u 8), IntKind.wrap .u8 (ishr .u64 u 0)], ()) := by
  unfold r02_Uint.l0
  obtain ⟨m, e⟩ : ∃ m, r02_Uint.n0 (u, [], 7, ()) = m + 9 := nine (by simp only [r02_Uint.n0]; omega)
  rw [e]
  exact ruint_loop kx m u
theorem octet_Uint_raw (u : Int) : octet_Uint (u, ()) = some [IntKind.wrap .u8 (ishr .u64 u 56), IntKind.wrap .u8 (ishr .u64 u 48), IntKind.wrap .u8 (ishr .u64 u 40), IntKind.wrap .u8 (ishr .u64 u 32), IntKind.wrap .u8 (ishr .u64 u 24), IntKind.wrap .u8 (ishr .u64 u 16), IntKind.wrap .u8 (ishr .u64 u 8), IntKind.wrap .u8 (ishr .u64 u 0)] := by
  unfold octet_Uint
  simp only [octet_Uint.b]
  rw [uint_l0]
theorem r02_Uint_b (l0 : (Int × List Int × Int × Unit) → ((List Int × Unit) → Option (List Int)) → Option (List Int)) (u : Int) (L : List Int) (h : l0 (u, [], 7, ()) (fun x => some x.1) = some L) : r02_Uint.b l0 (u, ()) = some L := h
theorem r02_Uint_raw (u : Int) : r02_Uint (u, ()) = some [IntKind.wrap .u8 (ishr .u64 u 56), IntKind.wrap .u8 (ishr .u64 u 48), IntKind.wrap .u8 (ishr .u64 u 40), IntKind.wrap .u8 (ishr .u64 u 32), IntKind.wrap .u8 (ishr .u64 u 24), IntKind.wrap .u8 (ishr .u64 u 16), IntKind.wrap .u8 (ishr .u64 u 8), IntKind.wrap .u8 (ishr .u64 u 0)] := r02_Uint_b r02_Uint.l0 u _ (ruint_l0 _ u)
theorem raw_digs (u : Int) : [IntKind.wrap .u8 (ishr .u64 u 56), IntKind.wrap .u8 (ishr .u64 u 48), IntKind.wrap .u8 (ishr .u64 u 40), IntKind.wrap .u8 (ishr .u64 u 32), IntKind.wrap .u8 (ishr .u64 u 24), IntKind.wrap .u8 (ishr .u64 u 16), IntKind.wrap .u8 (ishr .u64 u 8), IntKind.wrap .u8 (ishr .u64 u 0)] = digs 8 u := by
  have h (k : Nat) (hk : k ≤ 64) := dig_word (u := u) k hk
  rw [digs8, show IntKind.wrap .u8 (ishr .u64 u 56) = _ from h 56 (by omega), show IntKind.wrap .u8 (ishr .u64 u 48) = _ from h 48 (by omega), show IntKind.wrap .u8 (ishr .u64 u 40) = _ from h 40 (by omega), show IntKind.wrap .u8 (ishr .u64 u 32) = _ from h 32 (by omega), show IntKind.wrap .u8 (ishr .u64 u 24) = _ from h 24 (by omega), show IntKind.wrap .u8 (ishr .u64 u 16) = _ from h 16 (by omega), show IntKind.wrap .u8 (ishr .u64 u 8) = _ from h 8 (by omega), show IntKind.wrap .u8 (ishr .u64 u 0) = _ from h 0 (by omega)]
  simp
theorem octet_Uint_eq (u : Int) : octet_Uint (u, ()) = some (digs 8 u) := by rw [octet_Uint_raw, raw_digs]
theorem r02_Uint_eq (u : Int) : r02_Uint (u, ()) = some (digs 8 u) := by rw [r02_Uint_raw, raw_digs]
/-- a signed number, moved -/
def lift (n : Int) : Int := n + 9223372036854775808
def intB (n : Int) : List Int := digs 8 (lift n)
theorem lift_mod {n : Int} (h : -9223372036854775808 ≤ n ∧ n ≤ 9223372036854775807) : (IntKind.wrap .u64 n + 9223372036854775808) % 18446744073709551616 = lift n := by
  simp only [lift, IntKind.wrap, IntKind.signed, IntKind.bits]
  simp
  omega
theorem octet_Int_eq {n : Int} (h : -9223372036854775808 ≤ n ∧ n ≤ 9223372036854775807) : octet_Int (n, ()) = some (intB n) := by
  have hw : 0 ≤ IntKind.wrap .u64 n ∧ IntKind.wrap .u64 n < 18446744073709551616 := by
    simp [IntKind.wrap, IntKind.signed, IntKind.bits]; omega
  unfold octet_Int
  simp only [octet_Int.b]
  rw [ixor_top hw.1 hw.2, lift_mod h, octet_Uint_eq]; rfl
theorem r02_Int_eq {n : Int} (h : -9223372036854775808 ≤ n ∧ n ≤ 9223372036854775807) : r02_Int (n, ()) = some (intB n) := by
  unfold r02_Int
  simp only [r02_Int.b]
  have e : iadd .u64 (IntKind.wrap .u64 n) 9223372036854775808 = lift n := by
    unfold iadd
    rw [← lift_mod h]
    simp [IntKind.wrap, IntKind.signed, IntKind.bits]
  rw [e, r02_Uint_eq]; rfl
theorem lift_range {n : Int} (h : -9223372036854775808 ≤ n ∧ n ≤ 9223372036854775807) : 0 ≤ lift n ∧ lift n < 256 ^ 8 := by
  unfold lift; constructor <;> omega
theorem readU_at (p a z : List Int) (u : Int) (h : p = a ++ (digs 8 u ++ z)) (hu : 0 ≤ u ∧ u < 256 ^ 8) : readU p (a.length : Int) = (u, (a.length : Int) + 8, 0, ()) := by
  have hl := digs_len 8 u
  unfold readU
  rw [if_neg (by omega), if_neg (by rw [h]; simp; omega), if_neg (by rw [h]; simp; omega), Int.toNat_natCast, h, List.drop_left]
  have e : (digs 8 u ++ z).take 8 = digs 8 u := by
    rw [List.take_append_of_le_length (by omega), List.take_of_length_le (by omega)]
  rw [e, be_digs 8 u hu.1 hu.2]
theorem readI_at (p a z : List Int) (n : Int) (h : p = a ++ (intB n ++ z)) (hn : -9223372036854775808 ≤ n ∧ n ≤ 9223372036854775807) : readI p (a.length : Int) = (n, (a.length : Int) + 8, 0, ()) := by
  unfold readI
  rw [readU_at p a z (lift n) h (lift_range hn)]
  simp only []
  rw [if_neg (by simp)]
  have e : IntKind.wrap .i64 ((lift n + 9223372036854775808) % 18446744073709551616) = n := by
    simp only [lift, IntKind.wrap, IntKind.signed, IntKind.bits]
    simp
    split <;> omega
  rw [e]
/-- numbers stand as their digits -/
theorem be_less : (a b : List Int) → bys a → bys b → a.length = b.length → ∀ u v : Int, u < v → a.foldl beF u < b.foldl beF v
  | [], [], _, _, _, u, v, h => h
  | [], _ :: _, _, _, h, _, _, _ => by simp at h
  | _ :: _, [], _, _, h, _, _, _ => by simp at h
  | x :: a, y :: b, ha, hb, hl, u, v, h => by
    obtain ⟨hx, ha2⟩ := bys_cons.1 ha
    obtain ⟨hy, hb2⟩ := bys_cons.1 hb
    exact be_less a b ha2 hb2 (by simpa using hl) _ _ (by
      unfold beF; have := hx.2; have := hx.1; have := hy.1; omega)
theorem digs_less : (a b : List Int) → bys a → bys b → a.length = b.length → ∀ u : Int, lless a b = true ↔ a.foldl beF u < b.foldl beF u
  | [], [], _, _, _, u => by simp [lless]
  | [], _ :: _, _, _, h, _ => by simp at h
  | _ :: _, [], _, _, h, _ => by simp at h
  | x :: a, y :: b, ha, hb, hl, u => by
    obtain ⟨hx, ha2⟩ := bys_cons.1 ha
    obtain ⟨hy, hb2⟩ := bys_cons.1 hb
    have hl2 : a.length = b.length := by simpa using hl
    simp only [lless, List.foldl_cons, Bool.or_eq_true, decide_eq_true_eq, Bool.and_eq_true, beq_iff_eq]
    by_cases h1 : x < y
    · have := be_less a b ha2 hb2 hl2 (beF u x) (beF u y) (by unfold beF; omega)
      exact ⟨fun _ => this, fun _ => .inl h1⟩
    · by_cases h2 : x = y
      · subst h2
        have ih := digs_less a b ha2 hb2 hl2 (beF u x)
        exact ⟨fun h => ih.1 (h.resolve_left h1).2, fun h => .inr ⟨rfl, ih.2 h⟩⟩
      · have := be_less b a hb2 ha2 hl2.symm (beF u y) (beF u x) (by unfold beF; omega)
        exact ⟨fun h => absurd (h.resolve_left h1).1 h2, fun h => absurd (Int.lt_trans h this) (Int.lt_irrefl _)⟩
theorem int_less {m n : Int} (hm : -9223372036854775808 ≤ m ∧ m ≤ 9223372036854775807) (hn : -9223372036854775808 ≤ n ∧ n ≤ 9223372036854775807) : lless (intB m) (intB n) = decide (m < n) := by
  have e1 : (digs 8 (lift m)).foldl beF 0 = lift m := be_digs 8 _ (lift_range hm).1 (lift_range hm).2
  have e2 : (digs 8 (lift n)).foldl beF 0 = lift n := be_digs 8 _ (lift_range hn).1 (lift_range hn).2
  have h := digs_less (digs 8 (lift m)) (digs 8 (lift n)) (digs_bys 8 _) (digs_bys 8 _) (by rw [digs_len, digs_len]) 0
  rw [e1, e2] at h
  rw [Bool.eq_iff_iff, decide_eq_true_eq]
  refine h.trans ?_
  unfold lift; omega
end Go.Px.Pu
