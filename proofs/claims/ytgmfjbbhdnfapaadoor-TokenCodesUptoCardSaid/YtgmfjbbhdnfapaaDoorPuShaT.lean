/- The reference's tables are the program's. -/
import Derived.Test.YtgmfjbbhdnfapaaDoorPuShaM
set_option linter.unusedVariables false
set_option linter.unusedSimpArgs false
namespace Go.Px.Pu
open Go Go.Px

theorem above_go (a b : List Int) (ha : dig a) (hb : dig b) (hal : a.length = 8) (hbl : b.length = 8) : ∀ n, n ≤ 8 → ∀ m, n < m → loopN m (r01_above.s0b fun _ => some false) ((a, ()), (b, ()), (n : Int) - 1, ()) = some (decide (vl (a.take n) > vl (b.take n)))
  | 0, _, m, hm => by
    cases m with
    | zero => omega
    | succ m =>
      show r01_above.s0b _ _ _ = _
      simp only [r01_above.s0b]
      rw [cond_f (ige_f.2 (by omega))]
      simp [vl]
  | n + 1, hn, m, hm => by
    cases m with
    | zero => omega
    | succ m =>
      have ih := above_go a b ha hb hal hbl n (by omega) m (by omega)
      show r01_above.s0b _ _ _ = _
      have e1 : (((n + 1 : Nat) : Int) - 1) = (n : Int) := by omega
      have e2 : isub .i64 (n : Int) 1 = (n : Int) - 1 := by rw [isub64 (by omega)]
      simp only [r01_above.s0b, e1, e2, Int.toNat_natCast]
      rw [cond_t (ige_iff.2 (by omega)), chk_true (inB_iff.2 (by omega)), chk_true (inB_iff.2 (by omega))]
      rw [vl_take a n (by omega), vl_take b n (by omega)]
      have la : vl (a.take n) < 4294967296 ^ n := by have := vl_lt (a.take n) (fun d hd => ha d (List.mem_of_mem_take hd)); rwa [List.length_take, Nat.min_eq_left (by omega)] at this
      have lb : vl (b.take n) < 4294967296 ^ n := by have := vl_lt (b.take n) (fun d hd => hb d (List.mem_of_mem_take hd)); rwa [List.length_take, Nat.min_eq_left (by omega)] at this
      have na := vl_nonneg (a.take n) (fun d hd => ha d (List.mem_of_mem_take hd))
      have nb := vl_nonneg (b.take n) (fun d hd => hb d (List.mem_of_mem_take hd))
      by_cases hd : a.getD n 0 = b.getD n 0
      · rw [cond_f (ine_f.2 hd), ih, hd]
        congr 1
        apply decide_eq_decide.2
        omega
      · rw [cond_t (ine_iff.2 hd), chk_true (inB_iff.2 (by omega)), chk_true (inB_iff.2 (by omega))]
        congr 1
        unfold igt
        apply decide_eq_decide.2
        generalize a.getD n 0 = x at *
        generalize b.getD n 0 = y at *
        generalize (4294967296 : Int) ^ n = P at *
        have hP : 0 < P := by omega
        constructor
        · intro h
          have h1 : (y + 1) * P ≤ x * P := Int.mul_le_mul_of_nonneg_right (by omega) (by omega)
          rw [Int.add_mul, Int.one_mul] at h1
          omega
        · intro h
          rcases Int.lt_or_gt_of_ne hd with h2 | h2
          · exfalso
            have h1 : (x + 1) * P ≤ y * P := Int.mul_le_mul_of_nonneg_right (by omega) (by omega)
            rw [Int.add_mul, Int.one_mul] at h1
            omega
          · exact h2
theorem above_eq (a b : List Int) (ha : dig a) (hb : dig b) (hal : a.length = 8) (hbl : b.length = 8) : r01_above (a, b, ()) = some (decide (vl a > vl b)) := by
  have h := above_go a b ha hb hal hbl 8 (Nat.le_refl _) (r01_above.n0 ((a, ()), (b, ()), 7, ())) (by show 8 < _ + 1048576; omega)
  rw [List.take_of_length_le (by omega), List.take_of_length_le (by omega), show (((8 : Nat) : Int) - 1) = 7 from rfl] at h
  show r01_above.l0 ((a, ()), (b, ()), 7, ()) (fun _ => some false) = _
  unfold r01_above.l0 r01_above.s0
  exact h
/-! ### powers -/
def powL (x : List Int) : Nat → List Int
  | 0 => x
  | k + 1 => outr (powL x k) x 8
theorem outr_val (a b : List Int) (ha : dig a) (hb : dig b) (hal : a.length = 8) (hbl : b.length = 8) (hlt : vl a * vl b < 4294967296 ^ 8) : vl (outr a b 8) = vl a * vl b := by
  obtain ⟨h1, h2, q, h3⟩ := outr_ok a b ha hb hal hbl 8 (Nat.le_refl _)
  rw [List.take_of_length_le (by omega)] at h3
  have h4 := vl_lt _ h1
  have h5 := vl_nonneg _ h1
  have h6 := Int.mul_nonneg (vl_nonneg a ha) (vl_nonneg b hb)
  rw [h2] at h4
  generalize vl a * vl b = p at *
  generalize vl (outr a b 8) = r at *
  have e : (4294967296 : Int) ^ 8 = 115792089237316195423570985008687907853269984665640564039457584007913129639936 := by decide
  rw [e] at *
  omega
theorem powL_ok (x : List Int) (hx : dig x) (hl : x.length = 8) (hv : vl x < 274877906944) : ∀ k, k ≤ 2 → dig (powL x k) ∧ (powL x k).length = 8 ∧ vl (powL x k) = vl x ^ (k + 1)
  | 0, _ => ⟨hx, hl, by simp [powL, Int.pow_succ]⟩
  | k + 1, hk => by
    obtain ⟨h1, h2, h3⟩ := powL_ok x hx hl hv k (by omega)
    obtain ⟨g1, g2, _⟩ := outr_ok (powL x k) x h1 hx h2 hl 8 (Nat.le_refl _)
    have hv0 := vl_nonneg x hx
    refine ⟨g1, g2, ?_⟩
    show vl (outr (powL x k) x 8) = _
    rw [outr_val _ _ h1 hx h2 hl, h3, ← Int.pow_succ]
    rw [h3, ← Int.pow_succ]
    have hb : vl x ^ (k + 1 + 1) ≤ 274877906944 ^ (k + 1 + 1) := by
      have : ∀ n : Nat, 0 ≤ vl x ^ n ∧ vl x ^ n ≤ 274877906944 ^ n := fun n => by
        induction n with
        | zero => simp
        | succ n ih =>
          rw [Int.pow_succ, Int.pow_succ]
          exact ⟨Int.mul_nonneg ih.1 hv0, Int.le_trans (Int.mul_le_mul_of_nonneg_left (by omega) ih.1) (Int.mul_le_mul_of_nonneg_right ih.2 (by decide))⟩
      exact (this _).2
    have hc : k = 0 ∨ k = 1 := by omega
    rcases hc with rfl | rfl
    · refine Int.lt_of_le_of_lt hb (by decide)
    · refine Int.lt_of_le_of_lt hb (by decide)
def bisN (n p : Nat) : Nat → Nat → Nat → Nat
  | 0, lo, _ => lo
  | f + 1, lo, hi => if 1 < hi - lo then (if n * 4294967296 ^ p < ((lo + hi) / 2) ^ p then bisN n p f lo ((lo + hi) / 2) else bisN n p f ((lo + hi) / 2) hi) else lo
theorem root_l2 (n p lo hi m : Int) (x : List Int) (hx : dig x) (hl : x.length = 8) (hv : vl x < 274877906944) (P : Nat) (hP : p = P) (hP2 : P = 2 ∨ P = 3) (kx) :
    r01_root.l2 (n, p, lo, hi, m, (x, ()), (x, ()), 1, ()) kx = kx (n, p, lo, hi, m, (powL x (P - 1), ()), ()) := by
  subst hP
  refine traj (fun i => (n, (P : Int), lo, hi, m, (x, ()), (powL x i, ()), ((i + 1 : Nat) : Int), ())) _ (P - 1) (fun i hi' κ => ?_) (fun κ => ?_) _ (by show _ < _ + _ + _ + _ + _ + _ + 1048576; omega)
  · show r01_root.s2b r01_times kx _ κ = _
    obtain ⟨h1, h2, _⟩ := powL_ok x hx hl hv i (by omega)
    have e2 : iadd .i64 ((i + 1 : Nat) : Int) 1 = ((i + 1 + 1 : Nat) : Int) := by rw [iadd64 (by omega)]; omega
    simp only [r01_root.s2b]
    rw [cond_t (ilt_iff.2 (by omega)), times_eq _ _ h1 hx h2 hl]
    simp only [Option.bind_some, e2]
    rfl
  · show r01_root.s2b r01_times kx _ κ = _
    simp only [r01_root.s2b]
    rw [cond_f (ilt_f.2 (by omega))]
theorem root_go (n : Nat) (hn : n < 400) (P : Nat) (hP : P = 2 ∨ P = 3) (kx) : ∀ f lo hi : Nat, lo ≤ hi → hi ≤ 274877906944 → hi - lo ≤ 2 ^ f → ∀ m, f < m → loopN m (r01_root.s0b r01_above r01_root.l2 kx) ((n : Int), (P : Int), (lo : Int), (hi : Int), ()) = kx (((bisN n P f lo hi : Nat) : Int), ())
  | f, lo, hi, h0, h1, h2, m, hm => by
    cases m with
    | zero => omega
    | succ m =>
      show r01_root.s0b r01_above r01_root.l2 kx _ _ = _
      have e1 : isub .u64 (hi : Int) (lo : Int) = ((hi - lo : Nat) : Int) := by unfold isub; rw [u64_in _ (by omega) (by omega)]; omega
      have e2 : iadd .u64 (lo : Int) (hi : Int) = ((lo + hi : Nat) : Int) := by unfold iadd; rw [u64_in _ (by omega) (by omega)]; omega
      have e3 : iquo .u64 ((lo + hi : Nat) : Int) 2 = (((lo + hi) / 2 : Nat) : Int) := by
        unfold iquo
        rw [show (((lo + hi : Nat) : Int)).tdiv 2 = (((lo + hi) / 2 : Nat) : Int) from rfl, u64_in _ (by omega) (by omega)]
      simp only [r01_root.s0b, e1, e2, e3]
      cases f with
      | zero =>
        rw [cond_f (igt_f.2 (by simp at h2; omega))]
        rfl
      | succ f =>
        simp only [bisN]
        by_cases hc : 1 < hi - lo
        · rw [cond_t (igt_iff.2 (by omega)), if_pos hc]
          generalize hmid : (lo + hi) / 2 = md
          have hmd : lo < md ∧ md < hi := by omega
          have hx1 : iand .u64 (md : Int) 4294967295 = (md : Int) % 4294967296 := u64_and _ (by omega) (by omega)
          have hx2 : ishr .u64 (md : Int) 32 = (md : Int) / 4294967296 := u64_shr32 _ (by omega)
          rw [hx1, hx2]
          have hxl : ((List.replicate 8 (0 : Int)).set 0 ((md : Int) % 4294967296)).set 1 ((md : Int) / 4294967296) = [(md : Int) % 4294967296, (md : Int) / 4294967296, 0, 0, 0, 0, 0, 0] := rfl
          rw [hxl]
          have hdx : dig [(md : Int) % 4294967296, (md : Int) / 4294967296, 0, 0, 0, 0, 0, 0] := fun d hd => by
            simp only [List.mem_cons, List.not_mem_nil, or_false] at hd
            rcases hd with rfl | rfl | rfl | rfl | rfl | rfl | rfl | rfl <;> omega
          have hvx : vl [(md : Int) % 4294967296, (md : Int) / 4294967296, 0, 0, 0, 0, 0, 0] = (md : Int) := by
            simp only [vl]; omega
          rw [root_l2 _ _ _ _ _ _ hdx rfl (by rw [hvx]; omega) P rfl hP]
          dsimp only
          obtain ⟨g1, g2, g3⟩ := powL_ok _ hdx rfl (by rw [hvx]; omega) (P - 1) (by omega)
          rw [hvx, show P - 1 + 1 = P by omega] at g3
          rw [chk_true (inB_iff.2 (by omega)), Int.toNat_natCast]
          have hwn : IntKind.wrap .u64 (n : Int) = (n : Int) := u64_in _ (by omega) (by omega)
          rw [hwn]
          have hw : dig ((List.replicate 8 (0 : Int)).set P (n : Int)) ∧ vl ((List.replicate 8 (0 : Int)).set P (n : Int)) = (n : Int) * 4294967296 ^ P := by
            rcases hP with rfl | rfl
            · refine ⟨fun d hd => ?_, ?_⟩
              · have hd : d ∈ [0, 0, (n : Int), 0, 0, 0, 0, 0] := hd
                simp only [List.mem_cons, List.not_mem_nil, or_false] at hd
                rcases hd with rfl | rfl | rfl | rfl | rfl | rfl | rfl | rfl <;> omega
              · show vl [0, 0, (n : Int), 0, 0, 0, 0, 0] = _
                simp only [vl]; omega
            · refine ⟨fun d hd => ?_, ?_⟩
              · have hd : d ∈ [0, 0, 0, (n : Int), 0, 0, 0, 0] := hd
                simp only [List.mem_cons, List.not_mem_nil, or_false] at hd
                rcases hd with rfl | rfl | rfl | rfl | rfl | rfl | rfl | rfl <;> omega
              · show vl [0, 0, 0, (n : Int), 0, 0, 0, 0] = _
                simp only [vl]; omega
          rw [above_eq _ _ g1 hw.1 g2 (by simp), g3, hw.2]
          simp only [Option.bind_some]
          have hpow : (decide ((md : Int) ^ P > (n : Int) * 4294967296 ^ P)) = decide (n * 4294967296 ^ P < md ^ P) := by
            apply decide_eq_decide.2
            have q1 : ((md ^ P : Nat) : Int) = (md : Int) ^ P := Int.natCast_pow md P
            have q2 : ((n * 4294967296 ^ P : Nat) : Int) = (n : Int) * 4294967296 ^ P := by rw [Int.natCast_mul, Int.natCast_pow]; rfl
            rw [← q1, ← q2]
            exact Int.ofNat_lt
          rw [hpow]
          by_cases hab : n * 4294967296 ^ P < md ^ P
          · rw [decide_eq_true hab, if_pos hab]
            simp only [cond_true]
            exact root_go n hn P hP kx f lo md (by omega) (by omega) (by rw [Nat.pow_succ] at h2; omega) m (by omega)
          · rw [decide_eq_false hab, if_neg hab]
            simp only [cond_false]
            exact root_go n hn P hP kx f md hi (by omega) (by omega) (by rw [Nat.pow_succ] at h2; omega) m (by omega)
        · rw [cond_f (igt_f.2 (by omega)), if_neg hc]
theorem root_eq (n : Nat) (hn : n < 400) (P : Nat) (hP : P = 2 ∨ P = 3) : r01_root ((n : Int), (P : Int), ()) = some (((bisN n P 38 0 274877906944 % 4294967296 : Nat) : Int)) := by
  have h := fun kx => root_go n hn P hP kx 38 0 274877906944 (by omega) (by omega) (by omega) (r01_root.n0 ((n : Int), (P : Int), 0, 274877906944, ())) (by show 38 < _ + _ + _ + _ + 1048576; omega)
  have h0 : ∀ kx, r01_root.l0 ((n : Int), (P : Int), 0, 274877906944, ()) kx = kx (((bisN n P 38 0 274877906944 : Nat) : Int), ()) := h
  show r01_root.b r01_root.l0 _ = _
  generalize r01_root.l0 = l0 at h0
  simp only [r01_root.b]
  rw [h0]
  dsimp only
  rw [wrapU (k := .u32) rfl]
  show some ((_ : Int) % 4294967296) = _
  congr 1
/-! ### the tables -/
def prs : List Nat := [1, 2, 3, 5, 7, 11, 13, 17, 19, 23, 29, 31, 37, 41, 43, 47, 53, 59, 61, 67, 71, 73, 79, 83, 89, 97, 101, 103, 107, 109, 113, 127, 131, 137, 139, 149, 151, 157, 163, 167, 173, 179, 181, 191, 193, 197, 199, 211, 223, 227, 229, 233, 239, 241, 251, 257, 263, 269, 271, 277, 281, 283, 293, 307, 311]
theorem prs_lt : ∀ i : Fin 65, prs.getD i.val 0 < 400 := by decide
theorem prs_next : ∀ i : Fin 64, r01_prime ((prs.getD i.val 0 : Nat), ()) = some ((prs.getD (i.val + 1) 0 : Nat) : Int) := by decide +kernel
theorem root2_ok : ∀ i : Fin 8, ((bisN (prs.getD (i.val + 1) 0) 2 38 0 274877906944 % 4294967296 : Nat) : Int) = gv_dfirst.getD i.val 0 := by decide +kernel
theorem root3_ok : ∀ i : Fin 64, ((bisN (prs.getD (i.val + 1) 0) 3 38 0 274877906944 % 4294967296 : Nat) : Int) = gv_dparts.getD i.val 0 := by decide +kernel
end Go.Px.Pu
