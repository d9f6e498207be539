/- What is above all that begin with some bytes. -/
import Derived.Test.YtoneacebiaekkaaShoct
import Derived.Test.YtoneacebiaekkaaPuOctRead
import Derived.Test.YtoneacebiaekkaaPuLex
set_option linter.unusedVariables false
set_option linter.unusedSimpArgs false
namespace Go.Px.Pu
open Go Go.Px

/-- the place behind the last byte that isn't the greatest -/
def topN (p : List Int) : Nat → Nat
  | 0 => 0
  | n + 1 => if p.getD n 0 = 255 then topN p n else n + 1
theorem topN_le (p : List Int) : (n : Nat) → topN p n ≤ n
  | 0 => Nat.le_refl _
  | n + 1 => by
    unfold topN; split
    · have := topN_le p n; omega
    · omega
/-- the last byte that isn't the greatest, one more -/
def upAt (p : List Int) (n : Nat) : List Int := (p.take n).set (n - 1) (p.getD (n - 1) 0 + 1)
def aboveR (p : List Int) : List Int × Bool × Unit := if topN p p.length = 0 then ([], false, ()) else (upAt p (topN p p.length), true, ())
theorem topN_ne (p : List Int) : (n : Nat) → topN p n ≠ 0 → p.getD (topN p n - 1) 0 ≠ 255
  | 0, h => absurd rfl h
  | n + 1, h => by
    unfold topN at h ⊢
    split
    · rename_i e; rw [if_pos e] at h; exact topN_ne p n h
    · rename_i e; exact e
section
variable {p : List Int} (hp : p.length ≤ 140737488351232) (hb : bys p)
include hp
theorem above_l0 (kx : List Int × Int × Unit → Option (List Int × Bool × Unit)) : octet_Above.l0 (p, (p.length : Int), ()) kx = kx (p, (topN p p.length : Int), ()) := by
  unfold octet_Above.l0
  have key := loopN_eq (step := octet_Above.s0 kx) (fun x => kx (p, (topN p x.2.1.toNat : Int), ()))
    (fun x => x.1 = p ∧ ∃ k : Nat, x.2.1 = k ∧ k ≤ p.length) (fun x => x.2.1.toNat) ?_
  · exact key _ (p, (p.length : Int), ()) ⟨rfl, p.length, rfl, Nat.le_refl _⟩ (by simp only [octet_Above.n0]; omega)
  · rintro ⟨q, i, _⟩ ⟨h0, k, h1, h2⟩ κ hκ
    simp only at h0 h1 h2 hκ; subst h0 h1
    simp only [octet_Above.s0, octet_Above.s0b]
    cases k with
    | zero => rw [cond_f (igt_f.2 (by omega))]; rfl
    | succ k =>
      have e : isub .i64 ((k + 1 : Nat) : Int) 1 = (k : Int) := by rw [isub64 (by omega)]; omega
      rw [cond_t (igt_iff.2 (by omega)), e, chk_true (inB_iff.2 (by omega))]
      simp only [Int.toNat_natCast]
      by_cases h : q.getD k 0 = 255
      · rw [cond_t (ieq_iff.2 h), hκ _ ⟨rfl, k, rfl, by omega⟩ (by simp only [Int.toNat_natCast]; omega)]
        simp only [Int.toNat_natCast, topN, if_pos h]
      · rw [cond_f (ieq_f.2 h)]
        simp only [topN, if_neg h]
include hb
theorem up_eq {n : Nat} (h0 : n ≠ 0) (hn : n ≤ p.length) (h : p.getD (n - 1) 0 ≠ 255) : ((p.drop 0).take (((n : Int) - 0).toNat)).set (isub .i64 (n : Int) 1).toNat (iadd .u8 (((p.drop 0).take (((n : Int) - 0).toNat)).getD (isub .i64 (n : Int) 1).toNat (0 : Int)) 1) = upAt p n := by
  have e : isub .i64 (n : Int) 1 = ((n - 1 : Nat) : Int) := by
    rw [isub64 (by omega)]
    omega
  have e2 : ((n : Int) - 0).toNat = n := by omega
  rw [e, e2, List.drop_zero, Int.toNat_natCast]
  have e3 : (p.take n).getD (n - 1) 0 = p.getD (n - 1) 0 := by
    rw [List.getD_eq_getElem?_getD, List.getD_eq_getElem?_getD, List.getElem?_take_of_lt (by omega)]
  rw [e3]
  have hby : byte (p.getD (n - 1) 0) := hb _ (getD_mem (by omega))
  have e4 : iadd .u8 (p.getD (n - 1) 0) 1 = p.getD (n - 1) 0 + 1 := IntWalk.u8_in _ ⟨by have := hby.1; omega, by have := hby.2; omega⟩
  rw [e4]; rfl
theorem octet_Above_eq : octet_Above (p, ()) = some (aboveR p) := by
  unfold octet_Above
  simp only [octet_Above.b]
  rw [above_l0 hp]
  simp only []
  have hle := topN_le p p.length
  unfold aboveR
  by_cases h0 : topN p p.length = 0
  · rw [cond_t (ieq_iff.2 (by omega)), if_pos h0]
  · rw [cond_f (ieq_f.2 (by omega)), if_neg h0]
    have e : isub .i64 (topN p p.length : Int) 1 = ((topN p p.length - 1 : Nat) : Int) := by rw [isub64 (by omega)]; omega
    have hlen : ((p.drop 0).take ((topN p p.length : Int) - 0).toNat).length = topN p p.length := by simp; omega
    rw [chk_true (by simp [leB]; omega), chk_true (fits_iff.2 (by omega)), chk_true (inB_iff.2 (by omega)), chk_true (inB_iff.2 (by omega)), up_eq hp hb h0 hle (topN_ne p _ h0)]
theorem rabove_l0 (kx : Unit → Option (List Int)) (hk : kx () = some []) : r02_Above.l0 (p, (p.length : Int), ()) kx = some (aboveR p).1 := by
  unfold r02_Above.l0
  have key := loopN_eq (step := r02_Above.s0 kx) (fun x => some (if topN p x.2.1.toNat = 0 then [] else upAt p (topN p x.2.1.toNat)))
    (fun x => x.1 = p ∧ ∃ k : Nat, x.2.1 = k ∧ k ≤ p.length) (fun x => x.2.1.toNat) ?_
  · have := key (r02_Above.n0 (p, (p.length : Int), ())) (p, (p.length : Int), ()) ⟨rfl, p.length, rfl, Nat.le_refl _⟩ (by simp only [r02_Above.n0]; omega)
    rw [this]
    simp only [Int.toNat_natCast, aboveR]
    split <;> rfl
  · rintro ⟨q, i, _⟩ ⟨h0, k, h1, h2⟩ κ hκ
    simp only at h0 h1 h2 hκ; subst h0 h1
    simp only [r02_Above.s0, r02_Above.s0b]
    cases k with
    | zero => rw [cond_f (igt_f.2 (by omega)), hk]; rfl
    | succ k =>
      have e : isub .i64 ((k + 1 : Nat) : Int) 1 = (k : Int) := by rw [isub64 (by omega)]; omega
      have hby : byte (q.getD k 0) := hb _ (getD_mem (by omega))
      rw [cond_t (igt_iff.2 (by omega))]
      rw [chk_true (show inB (isub .i64 ((k + 1 : Nat) : Int) 1) q.length = true by rw [e]; exact inB_iff.2 (by omega))]
      have eg : q.getD (isub .i64 ((k + 1 : Nat) : Int) 1).toNat 0 = q.getD k 0 := by rw [e]; rfl
      by_cases h : q.getD k 0 = 255
      · rw [cond_f (ilt_f.2 (by rw [eg]; omega)), hκ _ ⟨rfl, k, by simp only; exact e, by omega⟩ (by simp only [e]; omega)]
        simp only [e, Int.toNat_natCast, topN, if_pos h]
      · have hlen : ((q.drop 0).take (((k + 1 : Nat) : Int) - 0).toNat).length = k + 1 := by simp; omega
        rw [cond_t (ilt_iff.2 (by rw [eg]; have := hby.2; omega)), chk_true (by simp [leB]; omega), chk_true (fits_iff.2 (by omega)), chk_true (inB_iff.2 (by omega)), chk_true (inB_iff.2 (by omega)), up_eq hp hb (by omega) h2 (by simpa using h)]
        simp only [Int.toNat_natCast, topN, if_neg h]
        rw [if_neg (by omega)]
theorem r02_Above_eq : r02_Above (p, ()) = some (aboveR p).1 := by
  unfold r02_Above
  simp only [r02_Above.b]
  exact rabove_l0 hp hb _ rfl
end

/-! ### how it stands -/
/-- all bytes from a place on are the greatest -/
theorem topN_tail (p : List Int) : (n : Nat) → n ≤ p.length → ∀ j, topN p n ≤ j → j < n → p.getD j 0 = 255
  | 0, _, j, _, h => absurd h (Nat.not_lt_zero _)
  | n + 1, hn, j, h1, h2 => by
    unfold topN at h1
    split at h1
    · rename_i e
      by_cases hj : j = n
      · rw [hj]; exact e
      · exact topN_tail p n (by omega) j h1 (by omega)
    · omega
theorem tail_rep (p : List Int) (n : Nat) (h : ∀ j, n ≤ j → j < p.length → p.getD j 0 = 255) : p.drop n = List.replicate (p.length - n) 255 := by
  apply List.ext_getElem?
  intro i
  rw [List.getElem?_drop, List.getElem?_replicate]
  by_cases hi : i < p.length - n
  · rw [if_pos hi, List.getElem?_eq_getElem (by omega)]
    have := h (n + i) (by omega) (by omega)
    rw [List.getD_eq_getElem?_getD, List.getElem?_eq_getElem (by omega)] at this
    simpa using this
  · rw [if_neg hi, List.getElem?_eq_none (by omega)]
/-- p is some bytes, one that isn't the greatest, and the greatest ones; or the greatest ones alone -/
theorem above_form (p : List Int) (hb : bys p) : (∃ m, p = List.replicate m 255 ∧ aboveR p = ([], false, ())) ∨ ∃ i c m, p = i ++ c :: List.replicate m 255 ∧ byte c ∧ c < 255 ∧ aboveR p = (i ++ [c + 1], true, ()) := by
  have hle := topN_le p p.length
  have ht := tail_rep p (topN p p.length) (topN_tail p p.length (Nat.le_refl _))
  unfold aboveR
  by_cases h0 : topN p p.length = 0
  · left
    rw [h0, List.drop_zero] at ht
    exact ⟨_, ht, by rw [if_pos h0]⟩
  · right
    have hlt : topN p p.length - 1 < p.length := by omega
    have hc : byte (p.getD (topN p p.length - 1) 0) := hb _ (getD_mem hlt)
    have hne := topN_ne p _ h0
    have hd := drop_cons hlt
    rw [show topN p p.length - 1 + 1 = topN p p.length by omega, ht] at hd
    refine ⟨p.take (topN p p.length - 1), p.getD (topN p p.length - 1) 0, p.length - topN p p.length, ?_, hc, by have := hc.2; omega, ?_⟩
    · conv => lhs; rw [← List.take_append_drop (topN p p.length - 1) p]
      rw [hd]
    · rw [if_neg h0]
      unfold upAt
      have e : (p.take (topN p p.length)).set (topN p p.length - 1) (p.getD (topN p p.length - 1) 0 + 1) = p.take (topN p p.length - 1) ++ [p.getD (topN p p.length - 1) 0 + 1] := by
        rw [List.set_eq_take_append_cons_drop, if_pos (by simp; omega), List.take_take, List.drop_eq_nil_of_le (by simp; omega), Nat.min_eq_left (by omega)]
      rw [e]
theorem low_pre (i : List Int) (c : Int) (r s : List Int) : lless (i ++ c :: r) (i ++ [c + 1]) = true := by
  rw [lless_app]; simp [lless]; omega
/-- at least the greatest bytes: it begins with them -/
theorem rep_pre : (m : Nat) → (o : List Int) → bys o → lless o (List.replicate m 255) = false → ∃ z, o = List.replicate m 255 ++ z
  | 0, o, _, _ => ⟨o, rfl⟩
  | m + 1, [], _, h => by simp [List.replicate_succ, lless] at h
  | m + 1, a :: o, hb, h => by
    obtain ⟨ha, ho⟩ := bys_cons.1 hb
    simp only [List.replicate_succ, lless, Bool.or_eq_false_iff, decide_eq_false_iff_not, Bool.and_eq_false_iff, beq_eq_false_iff_ne] at h
    have e : a = 255 := by have := ha.2; omega
    subst e
    obtain ⟨z, hz⟩ := rep_pre m o ho (by
      rcases h.2 with h' | h'
      · exact absurd rfl h'
      · exact h')
    exact ⟨z, by rw [hz]; rfl⟩
/-- between p and what is above it: it begins with p -/
theorem mid_pre : (i : List Int) → (c : Int) → (m : Nat) → (o : List Int) → bys o → lless o (i ++ c :: List.replicate m 255) = false → lless o (i ++ [c + 1]) = true → ∃ z, o = (i ++ c :: List.replicate m 255) ++ z
  | [], c, m, [], _, h1, _ => by simp [lless] at h1
  | [], c, m, a :: o, hb, h1, h2 => by
    obtain ⟨ha, ho⟩ := bys_cons.1 hb
    simp only [List.nil_append, lless, Bool.or_eq_false_iff, decide_eq_false_iff_not, Bool.and_eq_false_iff, beq_eq_false_iff_ne, Bool.or_eq_true, decide_eq_true_eq, Bool.and_eq_true, beq_iff_eq] at h1 h2
    have e : a = c := by
      rcases h2 with h2 | h2
      · omega
      · cases o <;> simp [lless] at h2
    subst e
    obtain ⟨z, hz⟩ := rep_pre m o ho (by
      rcases h1.2 with h' | h'
      · exact absurd rfl h'
      · exact h')
    exact ⟨z, by rw [hz]; rfl⟩
  | b :: i, c, m, [], _, h1, _ => by simp [lless] at h1
  | b :: i, c, m, a :: o, hb, h1, h2 => by
    obtain ⟨ha, ho⟩ := bys_cons.1 hb
    simp only [List.cons_append, lless, Bool.or_eq_false_iff, decide_eq_false_iff_not, Bool.and_eq_false_iff, beq_eq_false_iff_ne, Bool.or_eq_true, decide_eq_true_eq, Bool.and_eq_true, beq_iff_eq] at h1 h2
    have e : a = b := by
      rcases h2 with h2 | h2
      · exact absurd h2 h1.1
      · exact h2.1
    subst e
    obtain ⟨z, hz⟩ := mid_pre i c m o ho (by
      rcases h1.2 with h' | h'
      · exact absurd rfl h'
      · exact h') (by
      rcases h2 with h2 | h2
      · omega
      · exact h2.2)
    exact ⟨z, by rw [hz]; rfl⟩
end Go.Px.Pu
