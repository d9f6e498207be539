/- LineJoins: the words of two lines with a blank between are those of both. -/
import Derived.Test.YtpmnipaimoaagaaDoorPuLineWords
set_option linter.unusedVariables false
set_option linter.unusedSimpArgs false
namespace Go.Px
open Go Go.Px.Pu
theorem here_list (s : ByteArray) (p : Nat) : (here s p).data.toList = (s.data.toList.drop p).take (Utf8.decode s p).2 := by
  unfold here
  simp only [ByteArray.data_extract, Array.toList_extract, List.extract_eq_take_drop]
  congr 1; omega
theorem ba_ext {a b : ByteArray} (h : a.data.toList = b.data.toList) : a = b := ByteArray.ext (Array.toList_inj.1 h)
theorem app_list (a b : ByteArray) : (a ++ b).data.toList = a.data.toList ++ b.data.toList := by rw [ByteArray.data_append, Array.toList_append]
theorem ba_len (s : ByteArray) : s.data.toList.length = s.size := by rw [Array.length_toList]; rfl
theorem plain_dec {s x : ByteArray} {p q : Nat} (h : Utf8.decode x q = Utf8.decode s p) : plainB x q = plainB s p := by
  unfold plainB wrongB; rw [h]
theorem step_dec {s x : ByteArray} {p q : Nat} (h : Utf8.decode x q = Utf8.decode s p) (hh : here x q = here s p) (st : Nat) (out : List ByteArray) (w : ByteArray) : stepW x q st out w = stepW s p st out w := by
  unfold stepW
  rw [h, hh, plain_dec h]
theorem here_lt (a c : ByteArray) (p : Nat) (hp : p < a.size) (h : Utf8.decode (a ++ c) p = Utf8.decode a p) : here (a ++ c) p = here a p := by
  apply ba_ext
  have hle := dec_le a p hp
  rw [here_list, here_list, h, app_list, List.drop_append_of_le_length (by rw [ba_len]; omega), List.take_append_of_le_length (by rw [List.length_drop, ba_len]; omega)]
theorem here_ge (y b : ByteArray) (q : Nat) : here (y ++ b) (y.size + q) = here b q := by
  apply ba_ext
  rw [here_list, here_list, dec_app_ge, app_list, ← List.drop_drop, List.drop_append_of_le_length (by rw [ba_len]; omega), show y.data.toList.drop y.size = [] from List.drop_of_length_le (by rw [ba_len]; omega), List.nil_append]
theorem step_wrong {s : ByteArray} {p : Nat} (h : Utf8.decode s p = (65533, 1)) (st : Nat) (out : List ByteArray) (w : ByteArray) : stepW s p st out w = none := by
  have hw : wrongB s p = true := by unfold wrongB; rw [h]; rfl
  have hpl : plainB s p = false := by unfold plainB; rw [hw, h]; rfl
  unfold stepW
  rw [hpl, h]
  split <;> simp
/-- a text that is well stands ahead of a blank -/
theorem joins_pre (a c : ByteArray) (hc : c.data.toList.head? = some 32) : ∀ (k p st : Nat) (out : List ByteArray) (w : ByteArray), a.size - p ≤ k → p ≤ a.size → (st = 0 → w = ⟨#[]⟩) → (wF a p st out w).2.2.1 = 0 →
    wF (a ++ c) p st out w = wF (a ++ c) (a.size + 1) 0 (wF a p st out w).1 ⟨#[]⟩
  | k, p, st, out, w, hk, hp, hst, hok => by
    have hsz : (a ++ c).size = a.size + c.size := by simp
    have hc1 : 0 < c.size := by
      rw [← ba_len]
      cases hcl : c.data.toList with
      | nil => rw [hcl] at hc; cases hc
      | cons x r => simp
    by_cases hlt : p < a.size
    · rw [wF_step _ _ _ _ _ hlt] at hok ⊢
      rw [wF_step (a ++ c) _ _ _ _ (by omega)]
      by_cases hw : Utf8.decode a p = (65533, 1)
      · rw [step_wrong hw] at hok
        cases hok
      · have hd := dec_app_lt a c p hlt hw
        have hwd := dec_w a p
        have hle := dec_le a p hlt
        rw [step_dec hd (here_lt a c p hlt hd), hd]
        cases hs : stepW a p st out w with
        | none => rw [hs] at hok; cases hok
        | some x =>
          obtain ⟨st', out', w'⟩ := x
          rw [hs] at hok
          cases k with
          | zero => omega
          | succ k =>
            refine joins_pre a c hc k _ st' out' w' (by omega) hle ?_ hok
            intro h0
            subst h0
            unfold stepW at hs
            dsimp only at hs
            split at hs
            all_goals (repeat' split at hs)
            all_goals first
              | (cases hs; done)
              | (cases hs; first | rfl | exact hst rfl)
    · have hpe : p = a.size := by omega
      subst hpe
      have hd : (Utf8.decode (a ++ c) a.size) = (32, 1) := by
        have hlt' : a.size < (a ++ c).size := by omega
        have hb : ((a ++ c)[a.size]'hlt').toNat = 32 := by
          have e1 : (a ++ c).data.toList[a.size]? = some 32 := by
            rw [app_list, List.getElem?_append_right (by rw [ba_len]; omega), ba_len, Nat.sub_self, ← List.head?_eq_getElem?]
            exact hc
          have e2 : (a ++ c).data.toList[a.size]? = some ((a ++ c)[a.size]'hlt') := by
            rw [List.getElem?_eq_getElem (by rw [ba_len]; exact hlt')]
            simp only [Array.getElem_toList]
            rfl
          rw [e1] at e2
          rw [← Option.some.inj e2]; rfl
        have := byte_dec hlt' (by omega)
        rw [this, hb]
      rw [wF_end a _ _ _ _ (Nat.le_refl _)] at hok ⊢
      rw [wF_step (a ++ c) _ _ _ _ (by omega), hd]
      unfold endW at hok ⊢
      unfold stepW
      rw [hd]
      by_cases h23 : st = 2 ∨ st = 3
      · rw [if_pos h23] at hok; cases hok
      · rw [if_neg h23]
        by_cases h0 : st = 0
        · subst h0
          rw [if_pos rfl, hst rfl]
          simp
        · rw [if_neg h0]
          match st, h23, h0 with
          | 1, _, _ => simp
          | st + 4, _, _ => simp
/-- what stands behind, gathered behind others -/
theorem joins_post (y b : ByteArray) (L : List ByteArray) : ∀ (k q st : Nat) (out : List ByteArray) (w : ByteArray), b.size - q ≤ k → q ≤ b.size →
    ((wF b q st out w).2.2.1 = 0 → wF (y ++ b) (y.size + q) st (L ++ out) w = (L ++ (wF b q st out w).1, 0, 0, ())) ∧ ((wF b q st out w).2.2.1 ≠ 0 → (wF (y ++ b) (y.size + q) st (L ++ out) w).2.2.1 ≠ 0)
  | k, q, st, out, w, hk, hq => by
    have hsz : (y ++ b).size = y.size + b.size := by simp
    by_cases hlt : q < b.size
    · rw [wF_step b _ _ _ _ hlt, wF_step (y ++ b) _ _ _ _ (by omega)]
      have hd := dec_app_ge y b q
      have hwd := dec_w b q
      have hle := dec_le b q hlt
      rw [step_dec hd (here_ge y b q), hd]
      have hs2 : stepW b q st (L ++ out) w = (stepW b q st out w).map fun x => (x.1, L ++ x.2.1, x.2.2) := by
        unfold stepW
        dsimp only
        split
        all_goals (repeat' split)
        all_goals simp
      rw [hs2]
      cases hs : stepW b q st out w with
      | none => exact ⟨fun h => absurd h (by simp [errW]), fun _ => by simp [errW]⟩
      | some x =>
        obtain ⟨st', out', w'⟩ := x
        cases k with
        | zero => omega
        | succ k =>
          have := joins_post y b L k (q + (Utf8.decode b q).2) st' out' w' (by omega) hle
          rw [← Nat.add_assoc] at this
          exact this
    · rw [wF_end b _ _ _ _ (by omega), wF_end (y ++ b) _ _ _ _ (by omega)]
      unfold endW errW
      by_cases h23 : st = 2 ∨ st = 3
      · rw [if_pos h23, if_pos h23]
        exact ⟨fun h => absurd h (by simp), fun _ => by simp⟩
      · rw [if_neg h23, if_neg h23]
        by_cases h0 : st = 0
        · rw [if_pos h0, if_pos h0]
          exact ⟨fun _ => rfl, fun h => absurd rfl h⟩
        · rw [if_neg h0, if_neg h0]
          exact ⟨fun _ => by simp, fun h => absurd rfl h⟩
theorem lj_go (l m : List ByteArray) (hl : l.length ≤ 1000000) (hm : m.length ≤ 1000000) (kx : Unit → Option Bool) (hk : kx () = some true) : ∀ (k n i : Nat), (l ++ m).length - i ≤ k → k < n → loopN n (w05_LineJoins.s0 kx) (l, m, l ++ m, (i : Int), ()) = some true
  | k, 0, i, _, hn => absurd hn (Nat.not_lt_zero _)
  | k, n + 1, i, hk', hn => by
    simp only [loopN]
    show w05_LineJoins.s0b kx _ _ = _
    have hlen : (l ++ m).length = l.length + m.length := by simp
    simp only [w05_LineJoins.s0b, Int.toNat_natCast]
    by_cases hi : i < (l ++ m).length
    · have hi1 : iadd .i64 (i : Int) 1 = ((i + 1 : Nat) : Int) := by rw [iadd64 (by omega)]; rfl
      rw [cond_t (ilt_iff.2 (by omega)), hi1]
      cases k with
      | zero => omega
      | succ k =>
      have ih := lj_go l m hl hm kx hk k n (i + 1) (by omega) (by omega)
      have hb : chk (inB (i : Int) (l ++ m).length) (loopN n (w05_LineJoins.s0 kx) (l, m, l ++ m, ((i + 1 : Nat) : Int), ())) = some true := by rw [chk_true (by simp [inB]; omega)]; exact ih
      by_cases hil : i < l.length
      · have hg : (l ++ m).getD i ByteArray.empty = l.getD i ByteArray.empty := by
          rw [List.getD_eq_getElem?_getD, List.getD_eq_getElem?_getD, List.getElem?_append_left hil]
        rw [cond_t (ilt_iff.2 (by omega)), chk_true (by simp [inB]; omega), chk_true (by simp [inB]; omega), hg, sne_self, cond_false, cond_f (ige_f.2 (by omega))]
        exact ih
      · have hs : isub .i64 (i : Int) (l.length : Int) = ((i - l.length : Nat) : Int) := by rw [isub64 (by omega)]; omega
        have hg : (l ++ m).getD i ByteArray.empty = m.getD (i - l.length) ByteArray.empty := by
          rw [List.getD_eq_getElem?_getD, List.getD_eq_getElem?_getD, List.getElem?_append_right (by omega)]
        rw [cond_f (ilt_f.2 (by omega)), cond_t (ige_iff.2 (by omega)), hs, chk_true (by simp [inB]; omega), chk_true (by simp [inB]; omega), Int.toNat_natCast, hg, sne_self, cond_false]
        exact ih
    · rw [cond_f (ilt_f.2 (by omega))]
      exact hk
theorem joins_main (a b : ByteArray) (f9 : Unit → Option Bool) (f13 : (ByteArray × Unit) → Option WL) (l0 : (List ByteArray × List ByteArray × List ByteArray × Int × Unit) → (Unit → Option Bool) → Option Bool) (hsz : a.size + b.size < 4000000000000000)
    (h9 : f9 () = some true) (h13 : ∀ s, f13 (s, ()) = some (wordsR s)) (hl0 : ∀ (l m : List ByteArray) kx, l.length ≤ 1000000 → m.length ≤ 1000000 → kx () = some true → l0 (l, m, l ++ m, 0, ()) kx = some true) : w05_LineJoins.b f9 f13 l0 (a, b, ()) = some true := by
  simp only [w05_LineJoins.b, h9, h13, Option.bind_some, Bool.not_true, cond_false]
  have hadd : iadd .i64 (a.size : Int) (b.size : Int) = ((a.size + b.size : Nat) : Int) := by rw [iadd64 (by omega)]; rfl
  rw [hadd]
  by_cases h3 : a.size + b.size ≤ 299
  · have h1 : (⟨#[32]⟩ : ByteArray).size = 1 := rfl
    have hz1 : (a ++ (⟨#[32]⟩ : ByteArray)).size = a.size + 1 := by simp [h1]
    rw [cond_f (igt_f.2 (by omega)), chk_true (decide_eq_true (by omega)), chk_true (decide_eq_true (by omega))]
    have la := words_len a
    have lb := words_len b
    have hA : wordsR a = wF a 0 0 [] ⟨#[]⟩ := by unfold wordsR; rw [if_pos (by omega)]
    have hB : wordsR b = wF b 0 0 [] ⟨#[]⟩ := by unfold wordsR; rw [if_pos (by omega)]
    have hz2 : ((a ++ (⟨#[32]⟩ : ByteArray)) ++ b).size = a.size + 1 + b.size := by simp [h1]
    have hN : wordsR ((a ++ (⟨#[32]⟩ : ByteArray)) ++ b) = wF ((a ++ (⟨#[32]⟩ : ByteArray)) ++ b) 0 0 [] ⟨#[]⟩ := by unfold wordsR; rw [if_pos (by omega)]
    have eN : (a ++ (⟨#[32]⟩ : ByteArray)) ++ b = a ++ ((⟨#[32]⟩ : ByteArray) ++ b) := ByteArray.append_assoc
    by_cases ea : (wordsR a).2.2.1 = 0
    · rw [cond_f (ine_f.2 ea)]
      have e1 := joins_pre a ((⟨#[32]⟩ : ByteArray) ++ b) (by rw [app_list]; rfl) a.size 0 0 [] ⟨#[]⟩ (by omega) (by omega) (fun _ => rfl) (by rw [← hA]; exact ea)
      rw [← eN, ← hN, ← hA] at e1
      have e2 := joins_post (a ++ (⟨#[32]⟩ : ByteArray)) b (wordsR a).1 b.size 0 0 [] ⟨#[]⟩ (by omega) (by omega)
      rw [hz1, Nat.add_zero, List.append_nil, ← e1, ← hB] at e2
      by_cases eb : (wordsR b).2.2.1 = 0
      · have e3 := e2.1 eb
        rw [cond_f (ine_f.2 eb), e3, cond_f (ine_f.2 rfl)]
        have hadd2 : iadd .i64 ((wordsR a).1.length : Int) ((wordsR b).1.length : Int) = (((wordsR a).1 ++ (wordsR b).1).length : Int) := by rw [iadd64 (by omega)]; simp
        rw [cond_f (ine_f.2 hadd2.symm)]
        exact hl0 _ _ _ (by omega) (by omega) rfl
      · rw [cond_t (ine_iff.2 eb), cond_f (ine_f.2 ea), ine_iff.2 (e2.2 eb)]
    · rw [cond_t (ine_iff.2 ea), cond_t (ine_iff.2 ea)]
  · rw [cond_t (igt_iff.2 (by omega))]
theorem pure_LineJoins (x0 : ByteArray) (w0 : x0.size ≤ 140737488351232) (x1 : ByteArray) (w1 : x1.size ≤ 140737488351232) : w05_LineJoins (x0, x1, ()) = some true := by
  show w05_LineJoins.b w05_awake line_Words w05_LineJoins.l0 (x0, x1, ()) = some true
  refine joins_main x0 x1 _ _ _ (by omega) w05_awake_eq line_Words_eq ?_
  intro l m kx hl hm hk
  unfold w05_LineJoins.l0
  have := lj_go l m hl hm kx hk (l ++ m).length (w05_LineJoins.n0 (l, m, l ++ m, 0, ())) 0 (by omega) (by simp only [w05_LineJoins.n0]; omega)
  exact this
end Go.Px
