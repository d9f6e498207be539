/- line.quoted: its contract. -/
import Derived.Test.YtpmnipaimoaagaaDoorQuoW
set_option linter.unusedVariables false
set_option linter.unusedSimpArgs false
namespace Go.Px.Quo
open Go Go.RowKit Go.Proofs
/-- its contract -/
theorem quoted_ok {G : Nat → Option (List Seg)} (hG1 : G 1 = some [.arr (.sc (.int .u8)) 256 gvFirst]) (hG2 : G 2 = some [.arr (.strc [.int .u8, .int .u8]) 16 gvAccept]) :
    FunOk Tryd.prog G 20 (mkFun [.sc .str, .sc (.int .i64)] (.tup [.sc .str, .sc (.int .i64), .sc .bool]) conQuoted) := by
  refine con_ok (pa := [.sc .str, .sc (.int .i64)]) (pr := .tup [.sc .str, .sc (.int .i64), .sc .bool]) conQuoted fun x y hy w vs hG hsz ha => ?_
  obtain ⟨s, i, _⟩ := x
  obtain ⟨v0, hv0, hr0⟩ := ha 0 (.raw (.string s)) rfl
  obtain ⟨v1, hv1, hr1⟩ := ha 1 (.raw (.int .i64 i)) rfl
  have hr0 : v0 = .string s := hr0
  have hr1 : v1 = .int .i64 i := hr1
  subst hr0 hr1
  have hvs : vs = #[.string s, .int .i64 i] := by
    apply Array.ext_getElem?
    intro i
    match i with
    | 0 => rw [hv0]; rfl
    | 1 => rw [hv1]; rfl
    | i + 2 => rw [Array.getElem?_eq_none (by rw [hsz]; exact Nat.le_add_left 2 i), Array.getElem?_eq_none (by simp)]
  subst hvs
  unfold conQuoted at hy
  split at hy
  · rename_i hc
    obtain ⟨h1, h2, h3⟩ := hc
    have h1 : 0 ≤ i := h1
    have h2 : i.toNat ≤ s.size := h2
    have h3 : s.size ≤ 35184372088832 := h3
    obtain ⟨a, rfl⟩ : ∃ a : Nat, i = (a : Int) := ⟨Int.toNat i, (Int.toNat_of_nonneg h1).symm⟩
    cases hy
    have hg : 3 ≤ w.heap.size := (hG 2 _ hG2).1.1
    refine (quoted s a w (globU8_tabs hG1 hG2 hG) hg (by simpa using h2) h3).mono ?_
    rintro e w' ⟨rfl, hb⟩
    refine ⟨_, rfl, hb, fun _ => none, (fun _ _ _ h => by cases h), (fun _ _ _ _ _ h => by cases h), (fun _ _ => rfl), _, rfl, rfl, fun j d hd => ?_⟩
    match j with
    | 0 => cases hd; exact ⟨_, rfl, rfl⟩
    | 1 => cases hd; exact ⟨_, rfl, rfl⟩
    | 2 => cases hd; exact ⟨_, rfl, rfl⟩
    | j + 3 => cases hd
  · cases hy
end Go.Px.Quo
