/- The reference's tables: products by parts, roots by halving. -/
import Derived.Test.YtgmfjbbhdnfapaaDoorPuShaS
set_option linter.unusedVariables false
set_option linter.unusedSimpArgs false
namespace Go.Px.Pu
open Go Go.Px

def vl : List Int → Int
  | [] => 0
  | d :: r => d + (4294967296 : Int) * vl r
def dig (l : List Int) : Prop := ∀ d ∈ l, 0 ≤ d ∧ d < (4294967296 : Int)
theorem vl_set : ∀ (l : List Int) (k : Nat) (y : Int), k < l.length → vl (l.set k y) = vl l + (y - l.getD k 0) * (4294967296 : Int) ^ k
  | d :: r, 0, y, _ => by simp [vl]; omega
  | d :: r, k + 1, y, h => by
    have ih := vl_set r k y (by simpa using h)
    simp only [List.set_cons_succ, vl, ih, List.getD_cons_succ, Int.pow_succ, Int.mul_add]
    have e : (4294967296 : Int) * ((y - r.getD k 0) * (4294967296 : Int) ^ k) = (y - r.getD k 0) * ((4294967296 : Int) ^ k * (4294967296 : Int)) := by ac_rfl
    rw [e, Int.add_assoc]
theorem vl_take : ∀ (l : List Int) (k : Nat), k < l.length → vl (l.take (k + 1)) = vl (l.take k) + l.getD k 0 * (4294967296 : Int) ^ k
  | d :: r, 0, _ => by simp [vl]
  | d :: r, k + 1, h => by
    have ih := vl_take r k (by simpa using h)
    simp only [List.take_succ_cons, vl, ih, List.getD_cons_succ, Int.pow_succ, Int.mul_add]
    have e : (4294967296 : Int) * (r.getD k 0 * (4294967296 : Int) ^ k) = r.getD k 0 * ((4294967296 : Int) ^ k * (4294967296 : Int)) := by ac_rfl
    rw [e, Int.add_assoc]
theorem vl_nonneg : ∀ (l : List Int), dig l → 0 ≤ vl l
  | [], _ => Int.le_refl _
  | d :: r, h => by
    have h1 := h d (by simp)
    have ih := vl_nonneg r (fun x hx => h x (by simp [hx]))
    show 0 ≤ d + (4294967296 : Int) * vl r
    have : 0 ≤ (4294967296 : Int) * vl r := Int.mul_nonneg (by decide) ih
    omega
theorem vl_lt : ∀ (l : List Int), dig l → vl l < (4294967296 : Int) ^ l.length
  | [], _ => by decide
  | d :: r, h => by
    have h1 := h d (by simp)
    have ih := vl_lt r (fun x hx => h x (by simp [hx]))
    show d + (4294967296 : Int) * vl r < (4294967296 : Int) ^ (r.length + 1)
    rw [Int.pow_succ, Int.mul_comm]
    generalize (4294967296 : Int) ^ r.length = P at ih
    have : (vl r + 1) * (4294967296 : Int) ≤ P * (4294967296 : Int) := Int.mul_le_mul_of_nonneg_right (by omega) (by decide)
    have e : (vl r + 1) * (4294967296 : Int) = vl r * (4294967296 : Int) + (4294967296 : Int) := by rw [Int.add_mul, Int.one_mul]
    omega
theorem vl_drop (l : List Int) (k : Nat) (h : k ≤ l.length) : vl l = vl (l.take k) + (4294967296 : Int) ^ k * vl (l.drop k) := by
  induction k generalizing l with
  | zero => simp [vl]
  | succ k ih =>
    cases l with
    | nil => simp at h
    | cons d r =>
      have := ih r (by simpa using h)
      simp only [List.take_succ_cons, List.drop_succ_cons, vl]
      rw [this, Int.mul_add, Int.pow_succ, ← Int.mul_assoc, Int.mul_comm (4294967296 : Int) ((4294967296 : Int) ^ k), Int.add_assoc]
theorem dig_getD {l : List Int} (h : dig l) (k : Nat) : 0 ≤ l.getD k 0 ∧ l.getD k 0 < (4294967296 : Int) := by
  by_cases hk : k < l.length
  · exact h _ (getD_mem hk)
  · rw [List.getD_eq_getElem?_getD, List.getElem?_eq_none (by omega)]; exact ⟨Int.le_refl _, by decide⟩
theorem dig_set {l : List Int} (h : dig l) (k : Nat) (y : Int) (hy : 0 ≤ y ∧ y < (4294967296 : Int)) : dig (l.set k y) := fun d hd => by
  rcases List.mem_or_eq_of_mem_set hd with hd | hd
  · exact h d hd
  · rw [hd]; exact hy
/-! ### one row of the product -/
def inn (x : Int) (b c : List Int) (i : Nat) : Nat → List Int × Int
  | 0 => (c, 0)
  | j + 1 =>
    let s := inn x b c i j
    let v := x * b.getD j 0 + s.1.getD (i + j) 0 + s.2
    (s.1.set (i + j) (v % (4294967296 : Int)), v / (4294967296 : Int))
theorem inn_len (x : Int) (b c : List Int) (i : Nat) : ∀ j, (inn x b c i j).1.length = c.length
  | 0 => rfl
  | j + 1 => by simp [inn, inn_len x b c i j]
theorem prod_lt (x y : Int) (hx : 0 ≤ x ∧ x < (4294967296 : Int)) (hy : 0 ≤ y ∧ y < (4294967296 : Int)) : 0 ≤ x * y ∧ x * y ≤ 18446744065119617025 := by
  refine ⟨Int.mul_nonneg hx.1 hy.1, ?_⟩
  have h1 : x * y ≤ 4294967295 * y := Int.mul_le_mul_of_nonneg_right (by omega) hy.1
  have h2 : (4294967295 : Int) * y ≤ 4294967295 * 4294967295 := Int.mul_le_mul_of_nonneg_left (by omega) (by decide)
  omega
theorem inn_ok (x : Int) (b c : List Int) (i : Nat) (hx : 0 ≤ x ∧ x < (4294967296 : Int)) (hb : dig b) (hc : dig c) (hbl : b.length = 8) (hcl : c.length = 8) : ∀ j, i + j ≤ 8 →
    dig (inn x b c i j).1 ∧ (0 ≤ (inn x b c i j).2 ∧ (inn x b c i j).2 < (4294967296 : Int)) ∧ vl (inn x b c i j).1 + (inn x b c i j).2 * (4294967296 : Int) ^ (i + j) = vl c + x * vl (b.take j) * (4294967296 : Int) ^ i
  | 0, _ => ⟨hc, ⟨Int.le_refl _, (by decide : (0 : Int) < 4294967296)⟩, by simp [inn, vl]⟩
  | j + 1, hj => by
    obtain ⟨h1, h2, h3⟩ := inn_ok x b c i hx hb hc hbl hcl j (by omega)
    have hl := inn_len x b c i j
    have hbj := dig_getD hb j
    have hcj := dig_getD h1 (i + j)
    have hp := prod_lt x (b.getD j 0) hx hbj
    simp only [inn]
    generalize hv : x * b.getD j 0 + (inn x b c i j).1.getD (i + j) 0 + (inn x b c i j).2 = v
    have hv0 : 0 ≤ v := by omega
    have hv1 : v < (4294967296 : Int) * (4294967296 : Int) := by show v < 4294967296 * 4294967296; omega
    refine ⟨dig_set h1 _ _ ⟨Int.emod_nonneg _ (by decide), Int.emod_lt_of_pos _ (by decide)⟩, ⟨Int.ediv_nonneg hv0 (by decide), Int.ediv_lt_of_lt_mul (by decide) hv1⟩, ?_⟩
    rw [vl_set _ _ _ (by rw [hl]; omega), vl_take b j (by omega), Int.mul_add, Int.add_mul, ← Int.add_assoc, ← h3]
    have e1 : x * (b.getD j 0 * (4294967296 : Int) ^ j) * (4294967296 : Int) ^ i = x * b.getD j 0 * (4294967296 : Int) ^ (i + j) := by
      rw [Int.pow_add, Int.mul_comm ((4294967296 : Int) ^ i), ← Int.mul_assoc, ← Int.mul_assoc]
    have e2 : v / (4294967296 : Int) * (4294967296 : Int) ^ (i + (j + 1)) = v / (4294967296 : Int) * (4294967296 : Int) * (4294967296 : Int) ^ (i + j) := by
      rw [← Nat.add_assoc, Int.pow_succ, Int.mul_comm ((4294967296 : Int) ^ (i + j)), ← Int.mul_assoc]
    rw [e1, e2]
    have hd : v % (4294967296 : Int) = v - v / (4294967296 : Int) * (4294967296 : Int) := by have := Int.emod_add_mul_ediv v (4294967296 : Int); rw [Int.mul_comm] at this; omega
    rw [hd]
    generalize (4294967296 : Int) ^ (i + j) = P
    rw [← hv]
    generalize x * b.getD j 0 = t
    generalize (inn x b c i j).1.getD (i + j) 0 = u
    generalize (inn x b c i j).2 = o
    generalize vl (inn x b c i j).1 = A
    generalize (t + u + o) / (4294967296 : Int) * (4294967296 : Int) = D
    rw [Int.sub_mul, Int.sub_mul, Int.add_mul, Int.add_mul]
    omega
def outr (a b : List Int) : Nat → List Int
  | 0 => List.replicate 8 0
  | i + 1 => (inn (a.getD i 0) b (outr a b i) i (8 - i)).1
theorem outr_ok (a b : List Int) (ha : dig a) (hb : dig b) (hal : a.length = 8) (hbl : b.length = 8) : ∀ i, i ≤ 8 → dig (outr a b i) ∧ (outr a b i).length = 8 ∧ ∃ q : Int, vl (outr a b i) + q * (4294967296 : Int) ^ 8 = vl (a.take i) * vl b
  | 0, _ => ⟨fun d hd => by rw [List.eq_of_mem_replicate hd]; exact ⟨Int.le_refl _, by decide⟩, by simp [outr], 0, by simp [outr, vl]⟩
  | i + 1, hi => by
    obtain ⟨h1, h2, q, h3⟩ := outr_ok a b ha hb hal hbl i (by omega)
    obtain ⟨k1, k2, k3⟩ := inn_ok (a.getD i 0) b (outr a b i) i (dig_getD ha i) hb h1 hbl h2 (8 - i) (by omega)
    refine ⟨k1, by show (inn _ _ _ _ _).1.length = 8; rw [inn_len, h2], q + (inn (a.getD i 0) b (outr a b i) i (8 - i)).2 + a.getD i 0 * vl (b.drop (8 - i)), ?_⟩
    show vl (inn (a.getD i 0) b (outr a b i) i (8 - i)).1 + _ = _
    rw [show i + (8 - i) = 8 by omega] at k3
    rw [vl_take a i (by omega), Int.add_mul (vl (a.take i)), ← h3]
    have hbd := vl_drop b (8 - i) (by omega)
    have e : a.getD i 0 * (4294967296 : Int) ^ i * vl b = a.getD i 0 * vl (b.take (8 - i)) * (4294967296 : Int) ^ i + a.getD i 0 * vl (b.drop (8 - i)) * (4294967296 : Int) ^ 8 := by
      rw [hbd, Int.mul_add]
      have e8 : (4294967296 : Int) ^ 8 = (4294967296 : Int) ^ i * (4294967296 : Int) ^ (8 - i) := by rw [← Int.pow_add]; congr 1; omega
      rw [e8]
      generalize (4294967296 : Int) ^ i = P
      generalize (4294967296 : Int) ^ (8 - i) = R
      generalize a.getD i 0 = x
      generalize vl (b.take (8 - i)) = y
      generalize vl (b.drop (8 - i)) = w
      have f1 : x * P * y = x * y * P := by rw [Int.mul_assoc, Int.mul_comm P, ← Int.mul_assoc]
      have f2 : x * P * (R * w) = x * w * (P * R) := by rw [Int.mul_assoc, Int.mul_assoc, ← Int.mul_assoc P, Int.mul_comm (P * R)]
      rw [f1, f2]
    rw [e]
    generalize (4294967296 : Int) ^ 8 = Q at *
    rw [Int.add_mul, Int.add_mul]
    generalize a.getD i 0 * vl (b.take (8 - i)) * (4294967296 : Int) ^ i = s at *
    generalize a.getD i 0 * vl (b.drop (8 - i)) * Q = t at *
    omega
/-! ### the program of it -/
theorem u64_in (n : Int) (h : 0 ≤ n) (h' : n < 18446744073709551616) : IntKind.wrap .u64 n = n := by
  rw [wrapU (k := .u64) rfl]; show n % 18446744073709551616 = n; omega
theorem u64_and (n : Int) (h : 0 ≤ n) (h' : n < 18446744073709551616) : iand .u64 n 4294967295 = n % (4294967296 : Int) := by
  have hb := bv_of (w := 64) h (by show n < 18446744073709551616; exact h')
  rw [hb]
  generalize BitVec.ofInt 64 n = x
  have := iandB (k := .u64) rfl x (4294967295#64)
  have this : iand .u64 (x.toNat : Int) 4294967295 = ((x &&& 4294967295#64).toNat : Int) := this
  rw [this]
  show (((x &&& 4294967295#64).toNat : Nat) : Int) = _
  rw [BitVec.toNat_and]
  have e : x.toNat &&& (4294967295#64).toNat = x.toNat % 2 ^ 32 := Nat.and_two_pow_sub_one_eq_mod x.toNat 32
  rw [e]
  show ((x.toNat % 4294967296 : Nat) : Int) = (x.toNat : Int) % 4294967296
  omega
theorem u64_shr32 (n : Int) (h : 0 ≤ n) : ishr .u64 n 32 = n / (4294967296 : Int) := by
  unfold ishr
  rw [Int.fdiv_eq_ediv_of_nonneg _ (by decide)]
  rfl
theorem times_l2 (a b y c : List Int) (i : Nat) (hi : i < 8) (ha : dig a) (hb : dig b) (hc : dig c) (hbl : b.length = 8) (hcl : c.length = 8) (kx) :
    r01_times.l2 ((a, ()), (b, ()), (y, ()), (c, ()), (i : Int), 0, 0, ()) kx = kx ((a, ()), (b, ()), (y, ()), ((inn (a.getD i 0) b c i (8 - i)).1, ()), (i : Int), ()) := by
  refine traj (fun j => ((a, ()), (b, ()), (y, ()), ((inn (a.getD i 0) b c i j).1, ()), (i : Int), (inn (a.getD i 0) b c i j).2, (j : Int), ())) _ (8 - i) (fun j hj κ => ?_) (fun κ => ?_) _ (by show _ < _ + _ + _ + 1048576; omega)
  · show r01_times.s2b kx _ κ = _
    have e1 : iadd .i64 (i : Int) (j : Int) = ((i + j : Nat) : Int) := by rw [iadd64 (by omega)]; omega
    have e2 : iadd .i64 (j : Int) 1 = ((j + 1 : Nat) : Int) := by rw [iadd64 (by omega)]; omega
    obtain ⟨h1, h2, _⟩ := inn_ok (a.getD i 0) b c i (dig_getD ha i) hb hc hbl hcl j (by omega)
    have hp := prod_lt (a.getD i 0) (b.getD j 0) (dig_getD ha i) (dig_getD hb j)
    have hcj := dig_getD h1 (i + j)
    simp only [r01_times.s2b, e1, e2, Int.toNat_natCast]
    rw [cond_t (ilt_iff.2 (by omega)), chk_true (inB_iff.2 (by omega)), chk_true (inB_iff.2 (by omega)), chk_true (inB_iff.2 (by omega)), chk_true (inB_iff.2 (by omega))]
    unfold iadd imul
    rw [u64_in (a.getD i 0 * b.getD j 0) hp.1 (by omega), u64_in (a.getD i 0 * b.getD j 0 + (inn (a.getD i 0) b c i j).1.getD (i + j) 0) (by omega) (by omega),
      u64_in (a.getD i 0 * b.getD j 0 + (inn (a.getD i 0) b c i j).1.getD (i + j) 0 + (inn (a.getD i 0) b c i j).2) (by omega) (by omega), u64_and _ (by omega) (by omega), u64_shr32 _ (by omega)]
    rfl
  · show r01_times.s2b kx _ κ = _
    have e1 : iadd .i64 (i : Int) ((8 - i : Nat) : Int) = 8 := by rw [iadd64 (by omega)]; omega
    simp only [r01_times.s2b, e1]
    rw [cond_f (ilt_f.2 (by omega))]
theorem times_eq (a b : List Int) (ha : dig a) (hb : dig b) (hal : a.length = 8) (hbl : b.length = 8) : r01_times (a, b, ()) = some (outr a b 8) := by
  have h0 : ∀ y : List Int, ∀ kx, r01_times.l0 ((a, ()), (b, ()), (y, ()), (List.replicate 8 (0 : Int), ()), 0, ()) kx = kx ((y, ()), (outr a b 8, ()), ()) := fun y kx => by
    refine traj (fun i => ((a, ()), (b, ()), (y, ()), (outr a b i, ()), (i : Int), ())) _ 8 (fun i hi κ => ?_) (fun κ => ?_) _ (by show 8 < _ + 1048576; omega)
    · show r01_times.s0b r01_times.l2 kx _ κ = _
      obtain ⟨h1, h2, _⟩ := outr_ok a b ha hb hal hbl i (by omega)
      have e2 : iadd .i64 (i : Int) 1 = ((i + 1 : Nat) : Int) := by rw [iadd64 (by omega)]; omega
      simp only [r01_times.s0b]
      rw [cond_t (ilt_iff.2 (by omega)), times_l2 a b y _ i hi ha hb h1 hbl h2]
      dsimp only
      rw [e2]; rfl
    · show r01_times.s0b r01_times.l2 kx _ κ = _
      simp only [r01_times.s0b]
      rw [cond_f (ilt_f.2 (by omega))]
  show r01_times.b r01_times.l0 (a, b, ()) = _
  generalize r01_times.l0 = l0 at h0
  simp only [r01_times.b]
  rw [h0]
end Go.Px.Pu
