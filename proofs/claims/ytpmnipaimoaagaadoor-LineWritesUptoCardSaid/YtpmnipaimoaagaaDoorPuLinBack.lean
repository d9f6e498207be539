/- What is read is written, and read again it is the same. -/
import Derived.Test.YtpmnipaimoaagaaDoorPuLinEsc
import Derived.Test.YtpmnipaimoaagaaDoorPuLinJoin
import Derived.Test.YtpmnipaimoaagaaDoorPuLinParse
import Derived.Test.YtpmnipaimoaagaaDoorWri
set_option linter.unusedVariables false
set_option linter.unusedSimpArgs false
namespace Go.Px.LinC
open Go Go.Px Go.Px.Pu
/-! ### words are well made -/
theorem fineG_app (x y : ByteArray) (hy : fineB y = true) : ∀ (k p : Nat), p ≤ x.size → fineG k x p = true → x.size - p ≤ k → fineG (k + y.size) (x ++ y) p = true
  | k, p, hp, hf, hk => by
    by_cases hlt : p < x.size
    · cases k with
      | zero => omega
      | succ k =>
        have hwd := dec_w x p
        have hle := dec_le x p hlt
        simp only [fineG] at hf
        rw [if_pos hlt] at hf
        simp only [Bool.and_eq_true] at hf
        have hd := dec_app_lt x y p hlt (plain_valid hf.1)
        rw [show k + 1 + y.size = (k + y.size) + 1 by omega]
        simp only [fineG]
        rw [ByteArray.size_append, if_pos (by omega), plain_of_dec hd, hf.1, hd, Bool.true_and]
        exact fineG_app x y hy k _ hle hf.2 (by omega)
    · have hpe : p = x.size := by omega
      subst hpe
      have shift : ∀ (j p : Nat), fineG j (x ++ y) (x.size + p) = fineG j y p := by
        intro j
        induction j with
        | zero => intro p; rfl
        | succ j ih =>
          intro p
          simp only [fineG]
          have hd := dec_app_ge x y p
          rw [hd, plain_of_dec hd, ByteArray.size_append, Nat.add_assoc, ih (p + (Utf8.decode y p).2)]
          by_cases hp : p < y.size
          · rw [if_pos (by omega), if_pos hp]
          · rw [if_neg (by omega), if_neg hp]
      have := shift (k + y.size) 0
      rw [Nat.add_zero] at this
      rw [this, fineG_fuel (k + y.size) y.size y 0 (by omega) (by omega)]
      exact hy
theorem fine_app {x y : ByteArray} (hx : fineB x = true) (hy : fineB y = true) : fineB (x ++ y) = true := by
  have := fineG_app x y hy x.size 0 (by omega) hx (by omega)
  unfold fineB
  rw [ByteArray.size_append]
  exact this
theorem fine_here {s : ByteArray} {p : Nat} (hp : p < s.size) (h : plainB s p = true) : fineB (here s p) = true := by
  have hl : s.data.toList.length = s.size := by rw [Array.length_toList]; rfl
  have hv := plain_valid h
  have hne : s.data.toList.drop p ≠ [] := fun e => by have := congrArg List.length e; rw [List.length_drop, hl] at this; simp at this; omega
  have hd : Utf8.decode (mk (s.data.toList.drop p)) 0 = Utf8.decode s p := by
    have := dec_app_ge (mk (s.data.toList.take p)) (mk (s.data.toList.drop p)) 0
    rw [← mk_app, List.take_append_drop, mk_list, mk_size, List.length_take, Nat.min_eq_left (by omega), Nat.add_zero] at this
    exact this.symm
  have hh : here s p = mk ((s.data.toList.drop p).take (Utf8.decode (mk (s.data.toList.drop p)) 0).2) := by
    apply ByteArray.ext
    apply Array.toList_inj.1
    rw [here_list, hd]; unfold mk; simp
  have hdh := dec_head (s.data.toList.drop p) hne (by rw [hd]; exact hv)
  rw [← hh] at hdh
  have hw := dec_w s p
  have hsz : (here s p).size = (Utf8.decode s p).2 := by
    have := dec_le s p hp
    simp [here]; omega
  unfold fineB
  rw [hsz]
  obtain ⟨k, hk⟩ : ∃ k, (Utf8.decode s p).2 = k + 1 := ⟨(Utf8.decode s p).2 - 1, by omega⟩
  rw [hk]
  simp only [fineG]
  rw [if_pos (by omega), plain_of_dec (hdh.trans hd), h, Bool.true_and, fineG_end _ _ _ (by rw [hdh, hd, hsz]; omega)]
theorem words_fine (s : ByteArray) : ∀ (k p st : Nat) (out : List ByteArray) (w : ByteArray), p ≤ s.size → w.size ≤ p → out.length ≤ p → fineB w = true → (∀ x ∈ out, fineB x = true ∧ x.size ≤ s.size) → ∀ x ∈ (wS k s p st out w).1, fineB x = true ∧ x.size ≤ s.size
  | k, p, st, out, w, hp, hw, ho, hf, hall => by
    have hend : ∀ x ∈ (endW s st out w).1, fineB x = true ∧ x.size ≤ s.size := by
      intro x hx
      unfold endW errW at hx
      split at hx
      · cases hx
      · split at hx
        · exact hall x hx
        · rcases List.mem_append.1 hx with hx | hx
          · exact hall x hx
          · simp only [List.mem_cons, List.not_mem_nil, or_false] at hx
            subst hx; exact ⟨hf, by omega⟩
    cases k with
    | zero => exact hend
    | succ k =>
      simp only [wS]
      split
      · rename_i hlt
        cases hst : stepW s p st out w with
        | none => intro x hx; cases hx
        | some y =>
          obtain ⟨st', out', w'⟩ := y
          obtain ⟨_, g2, g3⟩ := stepW_small hst hlt hw ho
          have hle := dec_le s p hlt
          have hmt : fineB (⟨#[]⟩ : ByteArray) = true := rfl
          have hkey : fineB w' = true ∧ ∀ x ∈ out', fineB x = true ∧ x.size ≤ s.size := by
            have hin : ∀ x ∈ out ++ [w], fineB x = true ∧ x.size ≤ s.size := fun x hx => by
              rcases List.mem_append.1 hx with hx | hx
              · exact hall x hx
              · simp only [List.mem_cons, List.not_mem_nil, or_false] at hx
                subst hx; exact ⟨hf, by omega⟩
            have hpf : plainB s p = true → fineB (w ++ here s p) = true := fun h => fine_app hf (fine_here hlt h)
            unfold stepW at hst
            dsimp only at hst
            split at hst
            · split at hst
              · cases hst; exact ⟨hf, hall⟩
              · split at hst
                · cases hst
                · rename_i hn
                  split at hst
                  · cases hst; exact ⟨hf, hall⟩
                  · cases hst; exact ⟨hpf (by cases h : plainB s p with | true => rfl | false => exact absurd (.inl h) hn), hall⟩
            · split at hst
              · cases hst; exact ⟨hmt, hin⟩
              · split at hst
                · cases hst
                · rename_i hn
                  cases hst; exact ⟨hpf (by cases h : plainB s p with | true => rfl | false => exact absurd (.inl h) hn), hall⟩
            · split at hst
              · cases hst
              · rename_i hn
                split at hst
                · cases hst; exact ⟨hf, hall⟩
                · split at hst
                  · cases hst; exact ⟨hf, hall⟩
                  · cases hst; exact ⟨hpf (by cases h : plainB s p with | true => rfl | false => exact absurd h hn), hall⟩
            · split at hst
              · rename_i h34
                cases hst
                refine ⟨hpf ?_, hall⟩
                rcases h34 with h | h
                · exact plain_34 h
                · exact plain_92 h
              · cases hst
            · split at hst
              · cases hst; exact ⟨hmt, hin⟩
              · cases hst
          exact words_fine s k _ st' out' w' hle g2 g3 hkey.1 hkey.2
      · exact hend
theorem wordsR_fine (s : ByteArray) : ∀ x ∈ (wordsR s).1, fineB x = true ∧ x.size ≤ 300 := by
  unfold wordsR
  split
  · rename_i hs
    intro x hx
    have := words_fine s s.size 0 0 [] ⟨#[]⟩ (by omega) (Nat.le_refl _) (by simp) rfl (fun x hx => by cases hx) x hx
    exact ⟨this.1, by omega⟩
  · intro x hx; cases hx
/-! ### a line that is written -/
def encW (a : ByteArray) : ByteArray := if plainW a = true then a else ((⟨#[34]⟩ : ByteArray) ++ escB a) ++ (⟨#[34]⟩ : ByteArray)
theorem enc_words (a : ByteArray) (h : fineB a = true) (out : List ByteArray) : wF (encW a) 0 0 out ⟨#[]⟩ = (out ++ [a], 0, 0, ()) := by
  unfold encW
  split
  · rename_i hp; exact plain_words hp out
  · exact quote_words a h out
theorem words_snoc {s y a : ByteArray} {W : List ByteArray} (h : wF s 0 0 [] ⟨#[]⟩ = (W, 0, 0, ())) (hy : ∀ out, wF y 0 0 out ⟨#[]⟩ = (out ++ [a], 0, 0, ())) : wF (s ++ ((⟨#[32]⟩ : ByteArray) ++ y)) 0 0 [] ⟨#[]⟩ = (W ++ [a], 0, 0, ()) := by
  have e1 := joins_pre s ((⟨#[32]⟩ : ByteArray) ++ y) (by rw [app_list]; rfl) s.size 0 0 [] ⟨#[]⟩ (by omega) (by omega) (fun _ => rfl) (by rw [h])
  rw [h] at e1
  have hz1 : (s ++ (⟨#[32]⟩ : ByteArray)).size = s.size + 1 := by rw [ByteArray.size_append]; rfl
  have e2 := (joins_post (s ++ (⟨#[32]⟩ : ByteArray)) y W y.size 0 0 [] ⟨#[]⟩ (by omega) (by omega)).1 (by rw [hy])
  rw [hz1, Nat.add_zero, List.append_nil, hy] at e2
  rw [e1, ← ByteArray.append_assoc]
  exact e2
def lineT : List ByteArray → ByteArray → ByteArray
  | [], s => s
  | a :: r, s => lineT r (s ++ ((⟨#[32]⟩ : ByteArray) ++ encW a))
theorem writeL_eq : ∀ (l : List ByteArray) (s : ByteArray), (∀ a ∈ l, fineB a = true) → writeL fineB plainW l s = if (lineT l s).size > 300 then (ByteArray.empty, 2) else (lineT l s, 0)
  | [], s, _ => rfl
  | a :: r, s, h => by
    have ih := fun s => writeL_eq r s (fun x hx => h x (List.mem_cons_of_mem _ hx))
    have key : writeL fineB plainW (a :: r) s = writeL fineB plainW r (s ++ ((⟨#[32]⟩ : ByteArray) ++ encW a)) := by
      simp only [writeL]
      rw [if_neg (by rw [h a (List.mem_cons_self)]; decide)]
      unfold encW
      by_cases hp : plainW a = true
      · rw [if_pos hp, if_pos hp]
      · rw [if_neg hp, if_neg hp]
        have e : ((⟨#[32, 34]⟩ : ByteArray) ++ escB a) ++ (⟨#[34]⟩ : ByteArray) = (⟨#[32]⟩ : ByteArray) ++ (((⟨#[34]⟩ : ByteArray) ++ escB a) ++ (⟨#[34]⟩ : ByteArray)) := by
          apply ByteArray.ext
          apply Array.toList_inj.1
          simp
        rw [e]
    rw [key]
    exact ih _
theorem lineT_words : ∀ (l : List ByteArray) (s : ByteArray) (W : List ByteArray), (∀ a ∈ l, fineB a = true) → wF s 0 0 [] ⟨#[]⟩ = (W, 0, 0, ()) → wF (lineT l s) 0 0 [] ⟨#[]⟩ = (W ++ l, 0, 0, ())
  | [], s, W, _, h => by rw [List.append_nil]; exact h
  | a :: r, s, W, hf, h => by
    have := lineT_words r (s ++ ((⟨#[32]⟩ : ByteArray) ++ encW a)) (W ++ [a]) (fun x hx => hf x (List.mem_cons_of_mem _ hx)) (words_snoc h (enc_words a (hf a (List.mem_cons_self))))
    rw [List.append_assoc] at this
    exact this
theorem form_words (k : Nat) (hk : k < 11) : wF (formAt k).1 0 0 [] ⟨#[]⟩ = ([(formAt k).1], 0, 0, ()) := by
  have hp : plainW (formAt k).1 = true := by
    have h : k = 0 ∨ k = 1 ∨ k = 2 ∨ k = 3 ∨ k = 4 ∨ k = 5 ∨ k = 6 ∨ k = 7 ∨ k = 8 ∨ k = 9 ∨ k = 10 := by omega
    rcases h with rfl | rfl | rfl | rfl | rfl | rfl | rfl | rfl | rfl | rfl | rfl
    all_goals decide +kernel
  have := plain_words hp []
  simpa using this
theorem findF_form (k : Nat) (hk : k < 11) : findF (formAt k).1 11 0 = some k := by
  have h : k = 0 ∨ k = 1 ∨ k = 2 ∨ k = 3 ∨ k = 4 ∨ k = 5 ∨ k = 6 ∨ k = 7 ∨ k = 8 ∨ k = 9 ∨ k = 10 := by omega
  rcases h with rfl | rfl | rfl | rfl | rfl | rfl | rfl | rfl | rfl | rfl | rfl
  all_goals decide +kernel
theorem writeF_form (fi pl : ByteArray → Bool) (l : List ByteArray) (j : Nat) (hj : j < 11) (hl : (formAt j).2.2 = (l.length : Int)) : ∀ (n k : Nat), n + k = 11 → k ≤ j → writeF fi pl (formAt j).2.1 l n k = writeL fi pl l (formAt j).1
  | 0, k, h, hk => by omega
  | n + 1, k, h, hk => by
    simp only [writeF]
    by_cases hkj : k = j
    · subst hkj
      rw [if_neg (by rintro (e | e); exact e rfl; exact e hl)]
    · rw [if_pos (.inl (by rw [formAt_verb k (by omega), formAt_verb j hj]; omega))]
      exact writeF_form fi pl l j hj hl n (k + 1) (by omega) (by omega)
/-- a request that was read is written; that is read again -/
theorem back_write (s : ByteArray) (hok : (lParse (wordsR s)).2.2.2 = 0) : ∃ T : ByteArray, writeF fineB plainW (lParse (wordsR s)).1 (lParse (wordsR s)).2.1 11 0 = (if T.size > 300 then (ByteArray.empty, 2) else (T, 0)) ∧
    (T.size ≤ 300 → lParse (wordsR T) = ((lParse (wordsR s)).1, (lParse (wordsR s)).2.1, 0, 0)) := by
  have hfine := wordsR_fine s
  generalize wordsR s = y at hok hfine
  obtain ⟨W, at', er, _⟩ := y
  unfold lParse at hok ⊢
  by_cases he : er ≠ 0
  · rw [if_pos he] at hok
    exact absurd hok he
  · simp only [if_neg he] at hok ⊢
    cases W with
    | nil => exact absurd hok (by decide)
    | cons x l =>
      dsimp only at hok ⊢
      cases hf : findF x 11 0 with
      | none => rw [hf] at hok; exact absurd hok (show ¬ (6 : Int) = 0 by decide)
      | some k =>
        rw [hf] at hok
        dsimp only at hok ⊢
        by_cases hn : (l.length : Int) ≠ (formAt k).2.2
        · rw [if_pos hn] at hok; exact absurd hok (by decide)
        · simp only [if_neg hn]
          have hn : (l.length : Int) = (formAt k).2.2 := by simpa using hn
          have hk := findF_lt x 11 0 k hf
          have hlf : ∀ a ∈ l, fineB a = true := fun a ha => (hfine a (List.mem_cons_of_mem _ ha)).1
          refine ⟨lineT l (formAt k).1, ?_, fun hT => ?_⟩
          · rw [writeF_form fineB plainW l k (by omega) hn.symm 11 0 rfl (by omega), writeL_eq l _ hlf]
          · have hw := lineT_words l (formAt k).1 [(formAt k).1] hlf (form_words k (by omega))
            have hR : wordsR (lineT l (formAt k).1) = ((formAt k).1 :: l, 0, 0, ()) := by
              unfold wordsR
              rw [if_pos hT, hw]; rfl
            rw [hR]
            simp only [ne_eq, not_true_eq_false, if_false, findF_form k (by omega)]
            rw [if_neg (by simpa using hn)]
end Go.Px.LinC
