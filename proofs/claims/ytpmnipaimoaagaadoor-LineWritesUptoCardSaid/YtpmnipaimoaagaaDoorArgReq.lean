/- A row's argument that is a request. -/
import Derived.Test.YtpmnipaimoaagaaDoorLinC
import Derived.Test.YtpmnipaimoaagaaDoorPxC
import Derived.ChangeSame
set_option linter.unusedVariables false
set_option linter.unusedSimpArgs false
namespace Go.Px.LinC
open Go Go.RowKit Go.Proofs Go.Px
theorem under25 : ∃ f0 f1, Tryd.prog.underlying 25 = some (.struct #[f0, f1]) ∧ f0.type = 5 ∧ f0.offset = 0 ∧ f1.type = 23 ∧ f1.offset = 1 := ⟨_, _, Tryd.underlying25, rfl, rfl, rfl, rfl⟩
theorem arg_req {H : Type} {enc : TypeId × Value → H} {W : World} {base b0 : Nat} {held : Bool} {r : Reach} {v : Value} {d : DataW H} {ps : List MemPlace}
    (hv : Value.okWide Tryd.prog W r b0 25 v) (h : DataW.Trod enc Tryd.prog W base (fun _ => true) held 25 v d ps) :
    ∃ (n : Int) (l : List ByteArray) (a : Option Addr) (cap : Nat) (e : DataW H), v = .agg #[.int .u8 n, .slice a l.length cap] ∧ (Lit.int .u8 n).wf = true ∧ StrSl W l (.slice a l.length cap) ∧ d = .agg [.lit (.int .u8 n), e] ∧ (l = [] ∨ ∃ sp, e = .slice (ChangeShapes.strs l) sp) := by
  obtain ⟨f0, f1, hu, t0, o0, t1, o1⟩ := under25
  simp only [Value.okWide, hu] at hv
  obtain ⟨cs, rfl, hcs, _⟩ := hv
  obtain ⟨fuel, hf⟩ := h
  have e : (Value.agg cs).cells.toList = cs.toList := by simp [Value.cells]
  rw [e] at hf
  obtain ⟨y0, y1, q, hx, hlen, h0, h1⟩ := ChangeShapes.trod_struct2 hu hf
  have hc5 : Tryd.prog.cellsOf 5 = 1 := by kernel_rfl
  have hc23 : Tryd.prog.cellsOf 23 = 1 := by kernel_rfl
  have hc25 : Tryd.prog.cellsOf 25 = 2 := by kernel_rfl
  rw [t0, o0, hc5, List.drop_zero] at h0
  rw [t1, o1, hc23] at h1
  rw [hc25] at hlen
  obtain ⟨x, y, hxy⟩ : ∃ x y, cs = #[x, y] := by
    obtain ⟨l⟩ := cs
    match l, hlen with
    | [x, y], _ => exact ⟨x, y, rfl⟩
  subst hxy
  obtain ⟨n, g0, g1, g2⟩ := DataW.trod_int Tryd.underlying5 h0
  simp only [List.take_succ_cons, List.take_zero, List.cons.injEq, and_true] at g0
  subst g0
  have h1' : DataW.trod enc Tryd.prog W base (fun _ => true) held q 23 [y] = some y1 := h1
  obtain ⟨hx1, _⟩ := Prod.mk.inj hx
  rw [g1] at hx1
  rcases ChangeShapes.open_strings Tryd.underlying23 Tryd.underlying9 (by kernel_rfl) h1' with ⟨hcs, hy⟩ | ⟨x, len, cap, zs, hcs, _, hl, _, hz, hy, hcell, _⟩
  · simp only [List.cons.injEq, and_true] at hcs
    subst hcs
    exact ⟨n, [], none, 0, _, rfl, g2, StrSl.nil W, hx1, .inl rfl⟩
  · simp only [List.cons.injEq, and_true] at hcs
    subst hcs
    have hz' : zs.length = cap := by simpa using hz
    have hlen2 : (zs.take len).length = len := by simp; omega
    have hro : RoRep W (· < W.heap.size) (.sc .str) (zs.take len) (.slice (some x) len cap) := ro_of_cells (t := .str) (by simp; omega) hl (fun i hi => by
      rw [hcell i (by omega)]
      show _ = some (Value.string ((zs.take len).getD i ByteArray.empty))
      rw [List.getD_eq_getElem?_getD, List.getD_eq_getElem?_getD, List.getElem?_take_of_lt hi])
    refine ⟨n, zs.take len, some x, cap, y1.1, by rw [hlen2], g2, by rw [hlen2]; exact hro, hx1, .inr ⟨ChangeShapes.strs (zs.drop len), by rw [hy]⟩⟩
end Go.Px.LinC
