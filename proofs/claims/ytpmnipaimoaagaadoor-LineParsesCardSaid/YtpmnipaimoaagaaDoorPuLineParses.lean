/- LineParses: the request of any text, or why there is none. -/
import Derived.Test.YtpmnipaimoaagaaDoorPuLinParse
import Derived.Test.YtpmnipaimoaagaaDoorPuLinLen
set_option linter.unusedVariables false
set_option linter.unusedSimpArgs false
namespace Go.Px.LinC
open Go Go.Px Go.Px.Pu Go.RowKit Go.Proofs
theorem r05_Words_all (s : ByteArray) : r05_Words (s, ()) = some (wordsR s) := by
  by_cases hs : s.size ≤ 1000000000000
  · exact r05_Words_eq hs
  · unfold r05_Words
    exact ref_big s _ _ (by omega)
theorem pure_LineParses (x0 : ByteArray) (_ : x0.size ≤ 140737488351232) (W : World) (hG : GW W) (hF : Forms W) : Calls Tryd.prog 7 #[.string x0] W fun e w' => e = .returned (.bool true) ∧ Below W.heap.size W w' := by
  have hl := wordsR_len x0
  have hl2 := lParse_len (wordsR x0)
  exact law_parses x0 (wordsR x0) (wordsR x0) (line_Words_eq x0) (r05_Words_all x0) (by omega) (by omega) w05_awake_eq verbV r05_verb_eq (parse_eq _)
    (fun v a c a' c' l hl => by rw [r05_Same_eq _ _ (by show l.length ≤ 100000; omega)]; simp) (by omega) W hG hF
end Go.Px.LinC
