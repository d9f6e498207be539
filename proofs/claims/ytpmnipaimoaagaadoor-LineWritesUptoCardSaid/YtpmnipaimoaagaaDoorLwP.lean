/- LineParses: what the law hands back. -/
import Derived.Test.YtpmnipaimoaagaaDoorPar3
set_option linter.unusedVariables false
set_option linter.unusedSimpArgs false
namespace Go.Px.LinC
open Go Go.RowKit Go.Proofs Go.Px

set_option maxHeartbeats 8000000 in
set_option maxRecDepth 1000000 in
theorem law_parses (s : ByteArray) (y z : List ByteArray × Int × Int × Unit) (hy : line_Words (s, ()) = some y) (hz : r05_Words (s, ()) = some z) (hyl : y.1.length ≤ 1000) (hzl : z.1.length ≤ 1000) (haw : w05_awake () = some true)
    (vb : ByteArray → Int × Int) (hvb : ∀ x, r05_verb (x, ()) = some ((vb x).1, (vb x).2, ())) (heq : rParse z vb = lParse y)
    (hsame : ∀ v a c a' c' l, l.length ≤ 1000 → r05_Same ((v, ((a, c), l), ()), (v, ((a', c'), l), ()), ()) = some true) (hl : (lParse y).2.1.length ≤ 1000)
    (w : World) (hG : GW w) (hF : Forms w) : Calls Tryd.prog 7 #[.string s] w fun e w' => e = .returned (.bool true) ∧ Below w.heap.size w w' := by
  go_enter Tryd.func7, Tryd.ntmps7
  go_wp2_with (go_at_call 9; refine (awake_call haw _ hG).mono ?_)
  rintro e w1 ⟨rfl, b1⟩
  have hG1 := gw_keep hG b1
  have hF1 := hF.keep b1
  go_wp2_with (go_at_call 10; refine (lparse s y hy hyl _ hG1 hF1).mono ?_)
  rintro e w2 ⟨⟨a1, c1, rfl, h1⟩, b2⟩
  have hG2 := gw_keep hG1 b2
  generalize hlp : lParse y = lp at *
  obtain ⟨v, l, at', er⟩ := lp
  simp only at h1 hl
  have hG3 := gw_keep hG2 (alloc_below w2 (.cells #[.int .u8 v, .slice a1 l.length c1] 25))
  go_wp2_with (go_at_call 15; refine (rparse s z hz hzl vb hvb _ hG3).mono ?_)
  rintro e w3 ⟨⟨a2, c2, rfl, h2⟩, b3⟩
  rw [heq] at h2 ⊢
  simp only at h2 ⊢
  have hsz : w2.heap.size < w3.heap.size := by have := b3.size; simp at this; omega
  have hcb : w3.heap[w2.heap.size]? = some (.cells #[.int .u8 v, .slice a1 l.length c1] 25 (0, 0)) := by
    rw [b3.block w2.heap.size (by simp)]
    show (w2.heap.push _)[w2.heap.size]? = _
    simp
  have k0 : w3.cell? ⟨w2.heap.size, 0, none⟩ = some (.int .u8 v) := by rw [Lib.cell_of_heap hcb]; rfl
  have k1 : w3.cell? ⟨w2.heap.size, 1, none⟩ = some (.slice a1 l.length c1) := by rw [Lib.cell_of_heap hcb]; rfl
  have hG4 := gw_keep (gw_keep hG3 b3) (alloc_below w3 (.cells #[.int .u8 v, .slice a2 l.length c2] 25))
  have h1' := ((h1.keep (alloc_below w2 (.cells #[.int .u8 v, .slice a1 l.length c1] 25))).keep b3).keep (alloc_below w3 (.cells #[.int .u8 v, .slice a2 l.length c2] 25))
  have h2' := h2.keep (alloc_below w3 (.cells #[.int .u8 v, .slice a2 l.length c2] 25))
  go_wp2_with (go_at_call 11; refine (same_call (hsame v a1 c1 a2 c2 l hl) _ hG4 h1' h2').mono ?_)
  rintro e w4 ⟨rfl, b4⟩
  go_wp2
  go_ret
  have s1 := b1.size
  have s2 := b2.size
  have a1' := alloc_below w2 (.cells #[.int .u8 v, .slice a1 l.length c1] 25)
  have a2' := alloc_below w3 (.cells #[.int .u8 v, .slice a2 l.length c2] 25)
  have s3 := a1'.size
  have s4 := b3.size
  have s5 := a2'.size
  exact ⟨by simp, b1.trans ((b2.mono s1).trans ((a1'.mono (by omega)).trans ((b3.mono (by omega)).trans ((a2'.mono (by omega)).trans (b4.mono (by omega))))))⟩
end Go.Px.LinC
