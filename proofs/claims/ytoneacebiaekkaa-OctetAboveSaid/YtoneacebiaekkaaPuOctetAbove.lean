/- OctetAbove: what is above all that begin with some bytes, and nothing is between. -/
import Derived.Test.YtoneacebiaekkaaPuOctAbove
import Derived.Test.YtoneacebiaekkaaPuOctAwake
set_option linter.unusedVariables false
set_option linter.unusedSimpArgs false
namespace Go.Px.Pu
open Go Go.Px
theorem take_pre (o : List Int) (p : List Int) (h : p.length ≤ o.length) : (o.drop 0).take ((p.length : Int) - 0).toNat = p ↔ ∃ z, o = p ++ z := by
  rw [List.drop_zero, show ((p.length : Int) - 0).toNat = p.length by omega]
  constructor
  · intro e
    refine ⟨o.drop p.length, ?_⟩
    conv => lhs; rw [← List.take_append_drop p.length o]
    rw [e]
  · rintro ⟨z, rfl⟩; simp
end Go.Px.Pu
namespace Go.Px
open Go Go.Px.Pu
theorem pure_OctetAbove (x0 : List Int) (y0 : x0.length * 1 ≤ 140737488351232) (w0 : ∀ n ∈ x0, (Lit.int .u8 n).wf = true) (x1 : List Int) (y1 : x1.length * 1 ≤ 140737488351232) (w1 : ∀ n ∈ x1, (Lit.int .u8 n).wf = true) (x2 : List Int) (y2 : x2.length * 1 ≤ 140737488351232) (w2 : ∀ n ∈ x2, (Lit.int .u8 n).wf = true) : w02_OctetAbove (x0, x1, x2, ()) = some true := by
  have hp : x0.length ≤ 140737488351232 := by omega
  have hb : bys x0 := fun n hn => byte_wf (w0 n hn)
  have hb1 : bys x1 := fun n hn => byte_wf (w1 n hn)
  have hb2 : bys x2 := fun n hn => byte_wf (w2 n hn)
  unfold w02_OctetAbove
  simp only [w02_OctetAbove.b, w02_awake_eq, Option.bind_some, Bool.not_true, cond_false, octet_Above_eq hp hb, r02_Above_eq hp hb]
  have hpre : ∀ z, x2 = x0 ++ z → x0.length ≤ x2.length := fun z h => by rw [h]; simp
  have hq : bys (aboveR x0).1 := by
    rcases above_form x0 hb with ⟨m, h1, h2⟩ | ⟨i, c, m, h1, hc, hc2, h2⟩
    · rw [h2]; exact bys_nil
    · rw [h2]
      rw [h1] at hb
      exact bys_app.2 ⟨(bys_app.1 hb).1, bys_cons.2 ⟨⟨by have := hc.1; omega, by omega⟩, bys_nil⟩⟩
  have hsz : decide ((strOf x0).size + (strOf x1).size < 4611686018427387904) = true := by
    rw [strOf_size, strOf_size]; exact decide_eq_true (by omega)
  have htk : bys ((x2.drop 0).take ((x0.length : Int) - 0).toNat) := fun n hn => hb2 n (List.mem_of_mem_drop (List.mem_of_mem_take hn))
  rw [sne_seq, seq_str hq hq]
  simp only [strOf_app, slt_str hb2 hb, slt_str hb2 hq, slt_str (bys_app.2 ⟨hb, hb1⟩) hq, seq_str htk hb, sge_slt, hsz]
  rcases above_form x0 hb with ⟨m, h1, h2⟩ | ⟨i, c, m, h1, hc, hc2, h2⟩
  · rw [h2]
    simp only [List.length_nil]
    rw [cond_f (by simp [igt])]
    simp only [decide_true, Bool.not_true, cond_false, Bool.not_false, cond_true]
    by_cases hl : x0.length ≤ x2.length
    · rw [cond_t (ige_iff.2 (by omega)), chk_true (by simp [leB]; omega)]
      by_cases hz : ∃ z, x2 = x0 ++ z
      · rw [cond_t (decide_eq_true ((take_pre x2 x0 hl).2 hz))]
      · rw [cond_f (decide_eq_false fun e => hz ((take_pre x2 x0 hl).1 e))]
        cases hs : lless x2 x0 with
        | true => rfl
        | false =>
          rw [h1] at hs hz
          exact absurd (rep_pre m x2 hb2 hs) hz
    · rw [cond_f (ige_f.2 (by omega))]
      cases hs : lless x2 x0 with
      | true => rfl
      | false =>
        rw [h1] at hs
        obtain ⟨z, hz⟩ := rep_pre m x2 hb2 hs
        rw [← h1] at hz
        exact absurd (hpre z hz) hl
  · rw [h2]
    simp only [List.length_append, List.length_cons, List.length_nil]
    rw [cond_f (by simp [igt] <;> omega)]
    simp only [decide_true, Bool.not_true, cond_false, chk_true]
    have hlow : ∀ s, lless (x0 ++ s) (i ++ [c + 1]) = true := fun s => by
      rw [h1, List.append_assoc]; exact low_pre i c _ s
    have hmid : lless x2 x0 = false → lless x2 (i ++ [c + 1]) = true → ∃ z, x2 = x0 ++ z := fun e1 e2 => by
      rw [h1] at e1 ⊢; exact mid_pre i c m x2 hb2 e1 e2
    rw [hlow x1]
    simp only [cond_true]
    by_cases hl : x0.length ≤ x2.length
    · rw [cond_t (ige_iff.2 (by omega)), chk_true (by simp [leB]; omega)]
      by_cases hz : ∃ z, x2 = x0 ++ z
      · rw [decide_eq_true ((take_pre x2 x0 hl).2 hz)]
        obtain ⟨z, hz⟩ := hz
        rw [hz, hlow z]; rfl
      · rw [decide_eq_false fun e => hz ((take_pre x2 x0 hl).1 e)]
        cases hs : lless x2 x0 with
        | true => rfl
        | false =>
          cases hs2 : lless x2 (i ++ [c + 1]) with
          | false => rfl
          | true => exact absurd (hmid hs hs2) hz
    · rw [cond_f (ige_f.2 (by omega))]
      cases hs : lless x2 x0 with
      | true => rfl
      | false =>
        cases hs2 : lless x2 (i ++ [c + 1]) with
        | false => rfl
        | true =>
          obtain ⟨z, hz⟩ := hmid hs hs2
          exact absurd (hpre z hz) hl
end Go.Px
