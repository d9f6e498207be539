/- What the two parsers say of words is one. -/
import Derived.Test.YtpmnipaimoaagaaDoorLwP
import Derived.Test.YtpmnipaimoaagaaDoorPuLinLine
import Derived.Test.YtpmnipaimoaagaaDoorPuLinAwake
import Derived.Test.YtpmnipaimoaagaaDoorPuLinSame
set_option linter.unusedVariables false
set_option linter.unusedSimpArgs false
namespace Go.Px.LinC
open Go Go.Px Go.Px.Pu
theorem formAt_verb (k : Nat) (hk : k < 11) : (formAt k).2.1 = (k : Int) + 1 := by
  have h : k = 0 ∨ k = 1 ∨ k = 2 ∨ k = 3 ∨ k = 4 ∨ k = 5 ∨ k = 6 ∨ k = 7 ∨ k = 8 ∨ k = 9 ∨ k = 10 := by omega
  rcases h with rfl | rfl | rfl | rfl | rfl | rfl | rfl | rfl | rfl | rfl | rfl
  all_goals rfl
theorem formAt_args (k : Nat) (hk : k < 11) : 1 ≤ (formAt k).2.2 ∧ (formAt k).2.2 ≤ 4 := by
  have h : k = 0 ∨ k = 1 ∨ k = 2 ∨ k = 3 ∨ k = 4 ∨ k = 5 ∨ k = 6 ∨ k = 7 ∨ k = 8 ∨ k = 9 ∨ k = 10 := by omega
  rcases h with rfl | rfl | rfl | rfl | rfl | rfl | rfl | rfl | rfl | rfl | rfl
  all_goals decide
theorem findF_lt (x : ByteArray) : ∀ (n k j : Nat), findF x n k = some j → k ≤ j ∧ j < k + n
  | 0, k, j, h => by cases h
  | n + 1, k, j, h => by
    simp only [findF] at h
    split at h
    · cases h; omega
    · have := findF_lt x n (k + 1) j h; omega
def verbV (x : ByteArray) : Int × Int := match findF x 11 0 with
  | none => (0, 0)
  | some k => ((formAt k).2.1, (formAt k).2.2)
def verbW : List ByteArray := [(⟨#[99, 114, 101, 97, 116, 101]⟩ : ByteArray), (⟨#[100, 114, 111, 112]⟩ : ByteArray), (⟨#[108, 111, 103, 105, 110]⟩ : ByteArray), (⟨#[99, 104, 101, 99, 107]⟩ : ByteArray), (⟨#[114, 101, 118, 111, 107, 101]⟩ : ByteArray), (⟨#[112, 97, 115, 115]⟩ : ByteArray), (⟨#[114, 111, 108, 101]⟩ : ByteArray), (⟨#[117, 110, 108, 111, 99, 107]⟩ : ByteArray), (⟨#[119, 104, 111]⟩ : ByteArray), (⟨#[108, 105, 115, 116]⟩ : ByteArray), (⟨#[97, 117, 100, 105, 116]⟩ : ByteArray)]
def verbA : List Int := [4, 2, 2, 1, 1, 3, 3, 2, 2, 1, 2]
theorem verb_tab (k : Nat) (hk : k < 11) : verbW.getD k ByteArray.empty = (formAt k).1 ∧ verbA.getD k 0 = (formAt k).2.2 ∧ IntKind.wrap .u8 ((k : Int) + 1) = (formAt k).2.1 := by
  have h : k = 0 ∨ k = 1 ∨ k = 2 ∨ k = 3 ∨ k = 4 ∨ k = 5 ∨ k = 6 ∨ k = 7 ∨ k = 8 ∨ k = 9 ∨ k = 10 := by omega
  rcases h with rfl | rfl | rfl | rfl | rfl | rfl | rfl | rfl | rfl | rfl | rfl
  all_goals exact ⟨rfl, rfl, rfl⟩
theorem verb_go (x : ByteArray) (kx : Unit → Option (Int × Int × Unit)) (hkx : kx () = some (0, 0, ())) : ∀ (m k n : Nat), m + k = 11 → m < n →
    loopN n (r05_verb.s0 kx) (x, verbW, verbA, (k : Int), ()) = some (match findF x m k with | none => (0, 0, ()) | some j => ((formAt j).2.1, (formAt j).2.2, ()))
  | m, k, 0, _, hn => absurd hn (Nat.not_lt_zero _)
  | 0, k, n + 1, hk, hn => by
    simp only [loopN]
    show r05_verb.s0b kx _ _ = _
    simp only [r05_verb.s0b]
    rw [cond_f (ilt_f.2 (by omega)), hkx]
    rfl
  | m + 1, k, n + 1, hk, hn => by
    simp only [loopN]
    show r05_verb.s0b kx _ _ = _
    simp only [r05_verb.s0b, Int.toNat_natCast]
    obtain ⟨t1, t2, t3⟩ := verb_tab k (by omega)
    have hi1 : iadd .i64 (k : Int) 1 = ((k + 1 : Nat) : Int) := by rw [iadd64 (by omega)]; rfl
    have hw : IntKind.wrap .u8 ((k + 1 : Nat) : Int) = (formAt k).2.1 := by rw [← t3]; rfl
    rw [cond_t (ilt_iff.2 (by omega)), chk_true (by simp [inB, verbW]; omega), t1, hi1, hw, t2]
    simp only [findF]
    cases hm : seq (formAt k).1 x with
    | true =>
      have hm' : ((formAt k).1.toList == x.toList) = true := hm
      rw [hm', if_pos rfl, cond_true, chk_true (by simp [inB, verbA]; omega)]
    | false =>
      have hm' : ((formAt k).1.toList == x.toList) = false := hm
      rw [hm', if_neg (by decide), cond_false]
      exact verb_go x kx hkx m (k + 1) n (by omega) (by omega)
theorem verb_main (x : ByteArray) (l0 : (ByteArray × List ByteArray × List Int × Int × Unit) → (Unit → Option (Int × Int × Unit)) → Option (Int × Int × Unit)) (R : Option (Int × Int × Unit)) (h : ∀ kx, kx () = some (0, 0, ()) → l0 (x, verbW, verbA, 0, ()) kx = R) : r05_verb.b l0 (x, ()) = R := h _ rfl
theorem r05_verb_eq (x : ByteArray) : r05_verb (x, ()) = some ((verbV x).1, (verbV x).2, ()) := by
  refine verb_main x r05_verb.l0 _ fun kx hkx => ?_
  unfold r05_verb.l0
  have := verb_go x kx hkx 11 0 (r05_verb.n0 (x, verbW, verbA, 0, ())) rfl (by simp only [r05_verb.n0]; omega)
  rw [show ((0 : Nat) : Int) = 0 from rfl] at this
  rw [this]
  unfold verbV
  cases findF x 11 0 <;> rfl
theorem parse_eq (y : List ByteArray × Int × Int × Unit) : rParse y verbV = lParse y := by
  unfold rParse lParse
  split
  · rfl
  · cases y.1 with
    | nil => rfl
    | cons x l =>
      dsimp only
      unfold verbV
      cases hf : findF x 11 0 with
      | none => rfl
      | some k =>
        have hk := findF_lt x 11 0 k hf
        have h1 := formAt_verb k (by omega)
        dsimp only
        rw [if_neg (by omega)]
theorem lParse_len (y : List ByteArray × Int × Int × Unit) : (lParse y).2.1.length ≤ y.1.length := by
  unfold lParse
  split
  · exact Nat.zero_le _
  · cases y.1 with
    | nil => exact Nat.zero_le _
    | cons x l =>
      dsimp only
      cases findF x 11 0 with
      | none => exact Nat.zero_le _
      | some k =>
        dsimp only
        split
        · exact Nat.zero_le _
        · simp
end Go.Px.LinC
