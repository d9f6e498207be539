/- LineWrites: the line of any request, and back. -/
import Derived.Test.YtpmnipaimoaagaaDoorPuLinWrite
import Derived.Test.YtpmnipaimoaagaaDoorPuLineBack
import Derived.Test.YtpmnipaimoaagaaDoorLwW
set_option linter.unusedVariables false
set_option linter.unusedSimpArgs false
namespace Go.Px.LinC
open Go Go.Px Go.Px.Pu Go.RowKit Go.Proofs
theorem sum_le : ∀ (l : List ByteArray) (a : ByteArray), a ∈ l → a.size ≤ (l.map ByteArray.size).sum
  | x :: l, a, h => by
    simp only [List.map_cons, List.sum_cons]
    rcases List.mem_cons.1 h with rfl | h
    · omega
    · have := sum_le l a h; omega
theorem pure_LineWrites (n : Int) (wn : (Lit.int .u8 n).wf = true) (l : List ByteArray) (a : Option Addr) (cap : Nat) (hb : l.length + (l.map ByteArray.size).sum ≤ 1048576) (W : World) (hG : GW W) (hF : Forms W) (mx : ∃ m, W.cell? ⟨3, 0, none⟩ = some (.int .i64 m)) (hs : StrSl W l (.slice a l.length cap)) :
    Calls Tryd.prog 8 #[.agg #[.int .u8 n, .slice a l.length cap]] W fun e w' => e = .returned (.bool true) ∧ Below W.heap.size W w' := by
  have hn : 0 ≤ n ∧ n ≤ 255 := byte_wf wn
  have hE : Env5 W W := ⟨hG, hF, mx, size_of_cell mx, Below.refl _ _⟩
  have hsz : ∀ x ∈ l, x.size ≤ 1048576 := fun x hx => by have := sum_le l x hx; omega
  by_cases h50 : 50 < l.length
  · exact law_writes_long n l a cap h50 w05_awake_eq W hE
  · refine law_writes n l a cap (by omega) 1048576 hsz (by omega) w05_awake_eq fineB plainW (fun a _ => line_fine_eq a) (fun a ha => line_plain_eq (by omega)) same_true _ _ rfl (r05_Write_eq (n, ((a, cap), l), ()) hn (fun x hx => by have := hsz x hx; omega)) (fun hg => ?_) W hE hs
    have key : ∀ (T : ByteArray) (g : Int), writeF fineB plainW n l 11 0 = (T, g) → g = 0 → lParse (wordsR T) = (n, l, 0, 0) := by
      intro T g hw hg
      subst hg
      by_cases hk : ∃ k : Nat, k < 11 ∧ (formAt k).2.1 = n ∧ (formAt k).2.2 = (l.length : Int)
      · obtain ⟨k, hk11, hkn, hkl⟩ := hk
        have hwf := writeF_form fineB plainW l k hk11 hkl 11 0 rfl (by omega)
        rw [hkn, hw] at hwf
        cases hgood : goodL l with
        | false =>
          rw [writeL_bad l _ hgood] at hwf
          exact absurd (Prod.mk.inj hwf).2 (by decide)
        | true =>
          have hall : ∀ a ∈ l, fineB a = true := fun a ha => by unfold goodL at hgood; exact List.all_eq_true.1 hgood a ha
          rw [writeL_eq l _ hall] at hwf
          by_cases h300 : (lineT l (formAt k).1).size > 300
          · rw [if_pos h300] at hwf
            exact absurd (Prod.mk.inj hwf).2 (by decide)
          · rw [if_neg h300] at hwf
            obtain ⟨rfl, _⟩ := Prod.mk.inj hwf
            have hww := lineT_words l (formAt k).1 [(formAt k).1] hall (form_words k hk11)
            have hR : wordsR (lineT l (formAt k).1) = ((formAt k).1 :: l, 0, 0, ()) := by
              unfold wordsR
              rw [if_pos (by omega), hww]; rfl
            rw [hR]
            unfold lParse
            simp only [ne_eq, not_true_eq_false, if_false, findF_form k hk11]
            rw [if_neg (by simpa using hkl.symm), hkn]
      · rw [writeF_miss fineB plainW n l (fun j hj => by
          by_cases h1 : (formAt j).2.1 = n
          · exact .inr (fun h2 => hk ⟨j, hj, h1, h2⟩)
          · exact .inl h1) 11 0 rfl] at hw
        exact absurd (Prod.mk.inj hw).2 (by decide)
    have hlen := wordsR_len (writeF fineB plainW n l 11 0).1
    exact ⟨wordsR (writeF fineB plainW n l 11 0).1, line_Words_eq _, by omega, key _ _ rfl hg⟩
end Go.Px.LinC
