/- LineBack: what is read is written, if it isn't too long; read again it is the same; and blanks about it change nothing but places. -/
import Derived.Test.YtpmnipaimoaagaaDoorPuLinBlank
import Derived.Test.YtpmnipaimoaagaaDoorLwB
set_option linter.unusedVariables false
set_option linter.unusedSimpArgs false
namespace Go.Px.LinC
open Go Go.Px Go.Px.Pu Go.RowKit Go.Proofs
theorem wordsR_pos (s : ByteArray) : 0 ≤ (wordsR s).2.1 ∧ (wordsR s).2.1 ≤ 1000000 := by
  unfold wordsR
  split
  · rename_i hs
    have hend : ∀ st out w, 0 ≤ (endW s st out w).2.1 ∧ (endW s st out w).2.1 ≤ s.size := by
      intro st out w
      unfold endW errW
      split
      · simp
      · split <;> simp
    have key : ∀ (k p st : Nat) (out : List ByteArray) (w : ByteArray), p ≤ s.size → 0 ≤ (wS k s p st out w).2.1 ∧ (wS k s p st out w).2.1 ≤ s.size := by
      intro k
      induction k with
      | zero => intro p st out w _; exact hend st out w
      | succ k ih =>
        intro p st out w hp
        simp only [wS]
        split
        · rename_i hlt
          cases stepW s p st out w with
          | none => simp only [errW]; omega
          | some x => exact ih _ _ _ _ (dec_le s p hlt)
        · exact hend st out w
    have := key s.size 0 0 [] ⟨#[]⟩ (by omega)
    unfold wF; omega
  · simp
theorem lParse_pos (y : List ByteArray × Int × Int × Unit) (h : 0 ≤ y.2.1 ∧ y.2.1 ≤ 1000000) : 0 ≤ (lParse y).2.2.1 ∧ (lParse y).2.2.1 ≤ 1000000 := by
  unfold lParse
  split
  · exact h
  · cases y.1 with
    | nil => exact ⟨by decide, by decide⟩
    | cons x l =>
      dsimp only
      cases findF x 11 0 with
      | none => exact ⟨(show (0 : Int) ≤ 0 by decide), (show (0 : Int) ≤ 1000000 by decide)⟩
      | some k =>
        dsimp only
        split
        · exact ⟨(show (0 : Int) ≤ 0 by decide), (show (0 : Int) ≤ 1000000 by decide)⟩
        · exact ⟨(show (0 : Int) ≤ 0 by decide), (show (0 : Int) ≤ 1000000 by decide)⟩
theorem lParse_mem (y : List ByteArray × Int × Int × Unit) : ∀ a ∈ (lParse y).2.1, a ∈ y.1 := by
  unfold lParse
  split
  · intro a ha; cases ha
  · cases y.1 with
    | nil => intro a ha; cases ha
    | cons x l =>
      dsimp only
      cases findF x 11 0 with
      | none => intro a ha; cases ha
      | some k =>
        dsimp only
        split
        · intro a ha; cases ha
        · intro a ha; exact List.mem_cons_of_mem _ ha
theorem size_of_cell {w : World} (h : ∃ m, w.cell? ⟨3, 0, none⟩ = some (.int .i64 m)) : 4 ≤ w.heap.size := by
  obtain ⟨m, h⟩ := h
  obtain ⟨cur, e, fr, hb⟩ := heap_of_cell (b := 3) h
  exact (Array.getElem?_eq_some_iff.1 hb).1
theorem same_true (v : Int) (a : Option Addr) (c : Nat) (a' : Option Addr) (c' : Nat) (l : List ByteArray) (hl : l.length ≤ 1000) : r05_Same ((v, ((a, c), l), ()), (v, ((a', c'), l), ()), ()) = some true := by
  rw [r05_Same_eq _ _ (by show l.length ≤ 100000; omega)]; simp
set_option maxHeartbeats 1000000 in
set_option maxRecDepth 100000 in
theorem law_back_long (s : ByteArray) (hs : 290 < s.size) (haw : w05_awake () = some true) (w : World) (hE : Env5 w w) : Calls Tryd.prog 3 #[.string s] w fun e w' => e = .returned (.bool true) ∧ Below w.heap.size w w' := by
  go_enter Tryd.func3, Tryd.ntmps3
  go_wp2_with (go_at_call 9; refine (awake_call haw _ hE.G).mono ?_)
  rintro e w1 ⟨rfl, b1⟩
  have E1 := hE.keep b1
  have hs' : (290 : Int) < (s.size : Int) := by omega
  go_wp2_with (go_at_call 9; refine (awake_call haw _ E1.G).mono ?_)
  rintro e w2 ⟨rfl, b2⟩
  have E2 := E1.keep b2
  go_wp2
  go_ret
  exact ⟨rfl, E2.low⟩
theorem pure_LineBack (x0 : ByteArray) (_ : x0.size ≤ 140737488351232) (W : World) (hG : GW W) (hF : Forms W) (mx : ∃ m, W.cell? ⟨3, 0, none⟩ = some (.int .i64 m)) : Calls Tryd.prog 3 #[.string x0] W fun e w' => e = .returned (.bool true) ∧ Below W.heap.size W w' := by
  have hE : Env5 W W := ⟨hG, hF, mx, size_of_cell mx, Below.refl _ _⟩
  by_cases hs : x0.size ≤ 290
  · have hl := wordsR_len x0
    have hl2 := lParse_len (wordsR x0)
    obtain ⟨p1, p2, p3, p4⟩ := blank_parse x0 hs
    have hfine := wordsR_fine x0
    have hmem := lParse_mem (wordsR x0)
    have hpos := lParse_pos (wordsR x0) (wordsR_pos x0)
    have hlz := wordsR_len (blankX x0)
    obtain ⟨T, g, hTg, hback⟩ : ∃ (T : ByteArray) (g : Int), ((lParse (wordsR x0)).2.2.2 = 0 → writeF fineB plainW (lParse (wordsR x0)).1 (lParse (wordsR x0)).2.1 11 0 = (T, g)) ∧
        ((lParse (wordsR x0)).2.2.2 = 0 → (g = 0 → lParse (wordsR T) = ((lParse (wordsR x0)).1, (lParse (wordsR x0)).2.1, 0, 0)) ∧ (g ≠ 0 → g = 2)) := by
      by_cases h0 : (lParse (wordsR x0)).2.2.2 = 0
      · obtain ⟨T, h1, h2⟩ := back_write x0 h0
        by_cases hT : T.size > 300
        · rw [if_pos hT] at h1
          exact ⟨_, _, fun _ => h1, fun _ => ⟨fun e => absurd e (by decide), fun _ => rfl⟩⟩
        · rw [if_neg hT] at h1
          exact ⟨_, _, fun _ => h1, fun _ => ⟨fun _ => h2 (by omega), fun e => absurd rfl e⟩⟩
      · exact ⟨ByteArray.empty, 0, fun e => absurd e h0, fun e => absurd e h0⟩
    refine law_back x0 hs (wordsR x0) (wordsR (blankX x0)) (line_Words_eq x0) (line_Words_eq (blankX x0)) (by omega) (by omega) w05_awake_eq (lParse (wordsR x0)).1 (lParse (wordsR x0)).2.1 (lParse (wordsR x0)).2.2.1 (lParse (wordsR x0)).2.2.2 (lParse (wordsR (blankX x0))).2.2.1 T g rfl
      (Prod.ext p1 (Prod.ext p2 (Prod.ext rfl p3))) same_true fineB plainW (fun a _ => line_fine_eq a) (fun a ha => line_plain_eq (by omega)) (fun a ha => by have := (hfine a (hmem a ha)).2; omega) hTg ⟨fun _ => p4, by omega, fun h0 hg => ⟨wordsR T, line_Words_eq T, by have := wordsR_len T; omega, (hback h0).1 hg⟩, fun h0 hg => (hback h0).2 hg, hpos⟩ W hE
  · exact law_back_long x0 (by omega) w05_awake_eq W hE
end Go.Px.LinC
