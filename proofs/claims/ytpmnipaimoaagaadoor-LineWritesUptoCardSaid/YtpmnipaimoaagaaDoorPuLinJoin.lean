/- The words of two texts with a blank between. -/
import Derived.Test.YtpmnipaimoaagaaDoorPuLinLen
set_option linter.unusedVariables false
set_option linter.unusedSimpArgs false
namespace Go.Px.Pu
open Go Go.Px
theorem here_list (s : ByteArray) (p : Nat) : (here s p).data.toList = (s.data.toList.drop p).take (Utf8.decode s p).2 := by
  unfold here
  simp only [ByteArray.data_extract, Array.toList_extract, List.extract_eq_take_drop]
  congr 1; omega
theorem ba_ext {a b : ByteArray} (h : a.data.toList = b.data.toList) : a = b := ByteArray.ext (Array.toList_inj.1 h)
theorem app_list (a b : ByteArray) : (a ++ b).data.toList = a.data.toList ++ b.data.toList := by rw [ByteArray.data_append, Array.toList_append]
theorem ba_len (s : ByteArray) : s.data.toList.length = s.size := by rw [Array.length_toList]; rfl
theorem plain_dec {s x : ByteArray} {p q : Nat} (h : Utf8.decode x q = Utf8.decode s p) : plainB x q = plainB s p := by
  unfold plainB wrongB; rw [h]
theorem step_dec {s x : ByteArray} {p q : Nat} (h : Utf8.decode x q = Utf8.decode s p) (hh : here x q = here s p) (st : Nat) (out : List ByteArray) (w : ByteArray) : stepW x q st out w = stepW s p st out w := by
  unfold stepW
  rw [h, hh, plain_dec h]
theorem here_lt (a c : ByteArray) (p : Nat) (hp : p < a.size) (h : Utf8.decode (a ++ c) p = Utf8.decode a p) : here (a ++ c) p = here a p := by
  apply ba_ext
  have hle := dec_le a p hp
  rw [here_list, here_list, h, app_list, List.drop_append_of_le_length (by rw [ba_len]; omega), List.take_append_of_le_length (by rw [List.length_drop, ba_len]; omega)]
theorem here_ge (y b : ByteArray) (q : Nat) : here (y ++ b) (y.size + q) = here b q := by
  apply ba_ext
  rw [here_list, here_list, dec_app_ge, app_list, ← List.drop_drop, List.drop_append_of_le_length (by rw [ba_len]; omega), show y.data.toList.drop y.size = [] from List.drop_of_length_le (by rw [ba_len]; omega), List.nil_append]
theorem step_wrong {s : ByteArray} {p : Nat} (h : Utf8.decode s p = (65533, 1)) (st : Nat) (out : List ByteArray) (w : ByteArray) : stepW s p st out w = none := by
  have hw : wrongB s p = true := by unfold wrongB; rw [h]; rfl
  have hpl : plainB s p = false := by unfold plainB; rw [hw, h]; rfl
  unfold stepW
  rw [hpl, h]
  split <;> simp
/-- a text that is well stands ahead of a blank -/
theorem joins_pre (a c : ByteArray) (hc : c.data.toList.head? = some 32) : ∀ (k p st : Nat) (out : List ByteArray) (w : ByteArray), a.size - p ≤ k → p ≤ a.size → (st = 0 → w = ⟨#[]⟩) → (wF a p st out w).2.2.1 = 0 →
    wF (a ++ c) p st out w = wF (a ++ c) (a.size + 1) 0 (wF a p st out w).1 ⟨#[]⟩
  | k, p, st, out, w, hk, hp, hst, hok => by
    have hsz : (a ++ c).size = a.size + c.size := by simp
    have hc1 : 0 < c.size := by
      rw [← ba_len]
      cases hcl : c.data.toList with
      | nil => rw [hcl] at hc; cases hc
      | cons x r => simp
    by_cases hlt : p < a.size
    · rw [wF_step _ _ _ _ _ hlt] at hok ⊢
      rw [wF_step (a ++ c) _ _ _ _ (by omega)]
      by_cases hw : Utf8.decode a p = (65533, 1)
      · rw [step_wrong hw] at hok
        cases hok
      · have hd := dec_app_lt a c p hlt hw
        have hwd := dec_w a p
        have hle := dec_le a p hlt
        rw [step_dec hd (here_lt a c p hlt hd), hd]
        cases hs : stepW a p st out w with
        | none => rw [hs] at hok; cases hok
        | some x =>
          obtain ⟨st', out', w'⟩ := x
          rw [hs] at hok
          cases k with
          | zero => omega
          | succ k =>
            refine joins_pre a c hc k _ st' out' w' (by omega) hle ?_ hok
            intro h0
            subst h0
            unfold stepW at hs
            dsimp only at hs
            split at hs
            all_goals (repeat' split at hs)
            all_goals first
              | (cases hs; done)
              | (cases hs; first | rfl | exact hst rfl)
    · have hpe : p = a.size := by omega
      subst hpe
      have hd : (Utf8.decode (a ++ c) a.size) = (32, 1) := by
        have hlt' : a.size < (a ++ c).size := by omega
        have hb : ((a ++ c)[a.size]'hlt').toNat = 32 := by
          have e1 : (a ++ c).data.toList[a.size]? = some 32 := by
            rw [app_list, List.getElem?_append_right (by rw [ba_len]; omega), ba_len, Nat.sub_self, ← List.head?_eq_getElem?]
            exact hc
          have e2 : (a ++ c).data.toList[a.size]? = some ((a ++ c)[a.size]'hlt') := by
            rw [List.getElem?_eq_getElem (by rw [ba_len]; exact hlt')]
            simp only [Array.getElem_toList]
            rfl
          rw [e1] at e2
          rw [← Option.some.inj e2]; rfl
        have := byte_dec hlt' (by omega)
        rw [this, hb]
      rw [wF_end a _ _ _ _ (Nat.le_refl _)] at hok ⊢
      rw [wF_step (a ++ c) _ _ _ _ (by omega), hd]
      unfold endW at hok ⊢
      unfold stepW
      rw [hd]
      by_cases h23 : st = 2 ∨ st = 3
      · rw [if_pos h23] at hok; cases hok
      · rw [if_neg h23]
        by_cases h0 : st = 0
        · subst h0
          rw [if_pos rfl, hst rfl]
          simp
        · rw [if_neg h0]
          match st, h23, h0 with
          | 1, _, _ => simp
          | st + 4, _, _ => simp
/-- what stands behind, gathered behind others -/
theorem joins_post (y b : ByteArray) (L : List ByteArray) : ∀ (k q st : Nat) (out : List ByteArray) (w : ByteArray), b.size - q ≤ k → q ≤ b.size →
    ((wF b q st out w).2.2.1 = 0 → wF (y ++ b) (y.size + q) st (L ++ out) w = (L ++ (wF b q st out w).1, 0, 0, ())) ∧ ((wF b q st out w).2.2.1 ≠ 0 → (wF (y ++ b) (y.size + q) st (L ++ out) w).2.2.1 ≠ 0)
  | k, q, st, out, w, hk, hq => by
    have hsz : (y ++ b).size = y.size + b.size := by simp
    by_cases hlt : q < b.size
    · rw [wF_step b _ _ _ _ hlt, wF_step (y ++ b) _ _ _ _ (by omega)]
      have hd := dec_app_ge y b q
      have hwd := dec_w b q
      have hle := dec_le b q hlt
      rw [step_dec hd (here_ge y b q), hd]
      have hs2 : stepW b q st (L ++ out) w = (stepW b q st out w).map fun x => (x.1, L ++ x.2.1, x.2.2) := by
        unfold stepW
        dsimp only
        split
        all_goals (repeat' split)
        all_goals simp
      rw [hs2]
      cases hs : stepW b q st out w with
      | none => exact ⟨fun h => absurd h (by simp [errW]), fun _ => by simp [errW]⟩
      | some x =>
        obtain ⟨st', out', w'⟩ := x
        cases k with
        | zero => omega
        | succ k =>
          have := joins_post y b L k (q + (Utf8.decode b q).2) st' out' w' (by omega) hle
          rw [← Nat.add_assoc] at this
          exact this
    · rw [wF_end b _ _ _ _ (by omega), wF_end (y ++ b) _ _ _ _ (by omega)]
      unfold endW errW
      by_cases h23 : st = 2 ∨ st = 3
      · rw [if_pos h23, if_pos h23]
        exact ⟨fun h => absurd h (by simp), fun _ => by simp⟩
      · rw [if_neg h23, if_neg h23]
        by_cases h0 : st = 0
        · rw [if_pos h0, if_pos h0]
          exact ⟨fun _ => rfl, fun h => absurd rfl h⟩
        · rw [if_neg h0, if_neg h0]
          exact ⟨fun _ => by simp, fun h => absurd rfl h⟩
end Go.Px.Pu
