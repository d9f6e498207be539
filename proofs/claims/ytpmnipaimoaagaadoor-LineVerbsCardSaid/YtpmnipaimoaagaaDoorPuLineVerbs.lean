/- LineVerbs: each verb with any words: it has as many as it needs, or is refused. -/
import Derived.Test.YtpmnipaimoaagaaDoorPuLineBack
import Derived.Test.YtpmnipaimoaagaaDoorLwV
set_option linter.unusedVariables false
set_option linter.unusedSimpArgs false
namespace Go.Px.LinC
open Go Go.Px Go.Px.Pu Go.RowKit Go.Proofs
theorem sV_words (k : Nat) (hk : k < 11) (x : ByteArray) (hx : x = ⟨#[120]⟩) : ∀ m, wF (sV k m) 0 0 [] ⟨#[]⟩ = ((formAt k).1 :: List.replicate m x, 0, 0, ())
  | 0 => form_words k hk
  | m + 1 => by
    have hp : plainW x = true := by subst hx; decide +kernel
    have := words_snoc (y := x) (a := x) (sV_words k hk x hx m) (fun out => plain_words hp out)
    rw [List.replicate_succ', ← List.cons_append, ← this]
    congr 1
    subst hx
    rfl
theorem sV_lineT (k : Nat) (x : ByteArray) (hx : x = ⟨#[120]⟩) : ∀ m j, lineT (List.replicate m x) (sV k j) = sV k (j + m)
  | 0, j => rfl
  | m + 1, j => by
    have hp : plainW x = true := by subst hx; decide +kernel
    rw [List.replicate_succ]
    show lineT (List.replicate m x) (sV k j ++ ((⟨#[32]⟩ : ByteArray) ++ encW x)) = _
    have : sV k j ++ ((⟨#[32]⟩ : ByteArray) ++ encW x) = sV k (j + 1) := by
      unfold encW
      rw [if_pos hp]; subst hx; rfl
    rw [this, sV_lineT k x hx m (j + 1)]
    congr 1; omega
theorem writeF_none (fi pl : ByteArray → Bool) (l : List ByteArray) (k : Nat) (hk : k < 11) (hl : (l.length : Int) ≠ (formAt k).2.2) : ∀ (n j : Nat), n + j = 11 → writeF fi pl ((k : Int) + 1) l n j = (ByteArray.empty, 3)
  | 0, j, h => rfl
  | n + 1, j, h => by
    simp only [writeF]
    rw [if_pos ?_]
    · exact writeF_none fi pl l k hk hl n (j + 1) (by omega)
    · by_cases hj : j = k
      · subst hj; exact .inr (fun e => hl e.symm)
      · exact .inl (by rw [formAt_verb j (by omega)]; omega)
theorem pure_LineVerbs (x0 : Int) (w0 : (Lit.int .u8 x0).wf = true) (x1 : Int) (w1 : (Lit.int .u8 x1).wf = true) (W : World) (hG : GW W) (hF : Forms W) (mx : ∃ m, W.cell? ⟨3, 0, none⟩ = some (.int .i64 m)) : Calls Tryd.prog 4 #[.int .u8 x0, .int .u8 x1] W fun e w' => e = .returned (.bool true) ∧ Below W.heap.size W w' := by
  have h0 : 0 ≤ x0 ∧ x0 ≤ 255 := byte_wf w0
  have h1 : 0 ≤ x1 ∧ x1 ≤ 255 := byte_wf w1
  have hE : Env5 W W := ⟨hG, hF, mx, size_of_cell mx, Below.refl _ _⟩
  refine law_verbs x0 x1 ⟨h0.1, by omega⟩ ⟨h1.1, by omega⟩ w05_awake_eq ⟨#[120]⟩ rfl fineB plainW (fun a _ => line_fine_eq a) (fun a ha => line_plain_eq (by omega)) same_true ?_ ?_ W hE
  · intro k m hk hm
    have hl := wordsR_len (sV k m)
    refine ⟨wordsR (sV k m), line_Words_eq _, by omega, ?_⟩
    have hs : (sV k m).size ≤ 300 := by
      have := sV_size k m
      have := formAt_size k hk
      omega
    have hR : wordsR (sV k m) = ((formAt k).1 :: List.replicate m (⟨#[120]⟩ : ByteArray), 0, 0, ()) := by
      unfold wordsR
      rw [if_pos hs, sV_words k hk _ rfl m]
    rw [hR]
    unfold lParse
    simp only [ne_eq, not_true_eq_false, if_false, findF_form k hk, List.length_replicate]
    by_cases hn : (m : Int) = (formAt k).2.2
    · rw [if_neg (by simpa using hn), if_pos hn, formAt_verb k hk]
    · rw [if_pos hn, if_neg hn]
  · intro k m hk hm
    by_cases hn : (m : Int) = (formAt k).2.2
    · rw [if_pos hn]
      have h2 := writeF_form fineB plainW (List.replicate m (⟨#[120]⟩ : ByteArray)) k hk (by rw [List.length_replicate]; exact hn.symm) 11 0 rfl (by omega)
      rw [formAt_verb k hk] at h2
      have hs := sV_lineT k ⟨#[120]⟩ rfl m 0
      have hs3 : (lineT (List.replicate m (⟨#[120]⟩ : ByteArray)) (formAt k).1) = sV k m := by
        rw [Nat.zero_add] at hs; exact hs
      have hsz : (sV k m).size ≤ 300 := by
        have := sV_size k m
        have := formAt_size k hk
        omega
      rw [h2, writeL_eq _ _ (fun a ha => by rw [(List.mem_replicate.1 ha).2]; decide +kernel), hs3, if_neg (by omega)]
    · rw [if_neg hn]
      exact writeF_none fineB plainW _ k hk (by rw [List.length_replicate]; exact hn) 11 0 rfl
end Go.Px.LinC
