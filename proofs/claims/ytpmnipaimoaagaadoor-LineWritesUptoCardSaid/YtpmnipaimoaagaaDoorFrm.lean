/- The forms of requests, read out of a row's condition. -/
import Derived.Test.YtpmnipaimoaagaaDoorPar2
import Derived.Lib.LaidU8T
import Derived.OpenShut
import Derived.ChangeArms
set_option linter.unusedVariables false
set_option linter.unusedSimpArgs false
namespace Go.Px.LinC
open Go Go.RowKit Go.Proofs Go.Px

theorem form_cells {H : Type} {enc : TypeId × Value → H} {w : World} {base : Nat} {spare : Nat → Bool} {held : Bool} {fuel : Nat} {cs : List Value} {l : List UInt8} {a b : Int} {p : List MemPlace} {fs : Array Field} (hu : Tryd.prog.underlying 46 = some (.struct fs))
    (h0 : fs[0]? = some ⟨ "word", 9, 0, false, "", "muniment/line", 0⟩) (h1 : fs[1]? = some ⟨ "verb", 5, 1, false, "", "muniment/line", 16⟩) (h2 : fs[2]? = some ⟨ "args", 3, 2, false, "", "muniment/line", 24⟩)
    (h : DataW.trod enc Tryd.prog w base spare held fuel 46 cs = some (.agg [.lit (.string l), .lit (.int .u8 a), .lit (.int .i64 b)], p)) : cs = [.string ⟨l.toArray⟩, .int .u8 a, .int .i64 b] := by
  obtain ⟨xs, m, _, hx, hl, hxl, hf⟩ := DataW.trod_struct hu h
  have hl3 : cs.length = 3 := hl.trans (by kernel_rfl)
  have e : xs.map (·.1) = [.lit (.string l), .lit (.int .u8 a), .lit (.int .i64 b)] := by
    have := congrArg Prod.fst hx
    simp only [DataW.agg.injEq] at this
    exact this.symm
  have g : ∀ (i : Nat) d, ([.lit (.string l), .lit (.int .u8 a), .lit (.int .i64 b)] : List (DataW H))[i]? = some d → ∃ q, xs[i]? = some (d, q) := fun i d hd => by
    rw [← e, List.getElem?_map] at hd
    cases hy : xs[i]? with
    | none => rw [hy] at hd; cases hd
    | some y => rw [hy] at hd; simp only [Option.map_some, Option.some.injEq] at hd; exact ⟨y.2, by rw [← hd]⟩
  obtain ⟨q0, g0⟩ := g 0 _ rfl
  obtain ⟨q1, g1⟩ := g 1 _ rfl
  obtain ⟨q2, g2⟩ := g 2 _ rfl
  have k0 := hf 0 _ h0
  have k1 := hf 1 _ h1
  have k2 := hf 2 _ h2
  rw [g0] at k0; rw [g1] at k1; rw [g2] at k2
  obtain ⟨s, c0, d0, _⟩ := DataW.trod_string Tryd.underlying9 k0
  obtain ⟨a', c1, d1, _⟩ := DataW.trod_int Tryd.underlying5 k1
  obtain ⟨b', c2, d2, _⟩ := DataW.trod_int Tryd.underlying3 k2
  have s0 : Tryd.prog.cellsOf 9 = 1 := by kernel_rfl
  have s1 : Tryd.prog.cellsOf 5 = 1 := by kernel_rfl
  have s2 : Tryd.prog.cellsOf 3 = 1 := by kernel_rfl
  match cs, hl3 with
  | [x, y, z], _ =>
    simp only [s0, s1, s2] at c0 c1 c2
    simp at c0 c1 c2 d0 d1 d2
    subst c0 c1 c2
    obtain ⟨rfl, rfl⟩ := d1
    obtain ⟨rfl, rfl⟩ := d2
    obtain ⟨rfl, rfl⟩ := d0
    rfl
theorem forms_of_reads {W : World} {d : DataW Unit} (h : Lib.VarReads Tryd.prog W "muniment/line.forms" d) (hd : d = .agg (formsT.map fun f => .agg [.lit (.string f.1.data.toList), .lit (.int .u8 f.2.1), .lit (.int .i64 f.2.2)])) : Forms W := by
  subst hd
  obtain ⟨g, t, cs, fuel, p, hg, ht, hv, hr⟩ := h
  have hg0 : Tryd.prog.globalNamed "muniment/line.forms" = some 0 := by kernel_rfl
  obtain rfl := Option.some.inj (hg0.symm.trans hg)
  have ht0 : (Tryd.prog.globals[0]?).map (·.type) = some 47 := by kernel_rfl
  obtain rfl := Option.some.inj (ht0.symm.trans ht)
  unfold World.var? at hv
  rw [hg0] at hv
  simp only [Option.bind_some] at hv
  split at hv
  · rename_i cs' e fr hb
    cases hv
    obtain ⟨xs, m, _, hx, hl, hxl, hf⟩ := DataW.trod_array tok47.und hr
    have hc46 : Tryd.prog.cellsOf 46 = 3 := by kernel_rfl
    have hl33 : cs.toList.length = 33 := hl.trans (by kernel_rfl)
    have ex : xs.map (·.1) = formsT.map fun f => .agg [.lit (.string f.1.data.toList), .lit (.int .u8 f.2.1), .lit (.int .i64 f.2.2)] := by
      have := congrArg Prod.fst hx
      simp only [DataW.agg.injEq] at this
      exact this.symm
    obtain ⟨fs, hfs, f0, f1, f2⟩ : ∃ fs, Tryd.prog.underlying 46 = some (.struct fs) ∧ fs[0]? = some ⟨ "word", 9, 0, false, "", "muniment/line", 0⟩ ∧ fs[1]? = some ⟨ "verb", 5, 1, false, "", "muniment/line", 16⟩ ∧ fs[2]? = some ⟨ "args", 3, 2, false, "", "muniment/line", 24⟩ := ⟨_, Tryd.underlying46, rfl, rfl, rfl⟩
    have each : ∀ i, i < 11 → (cs.toList.drop (i * 3)).take 3 = formC (formAt i) := fun i hi => by
      have h1 := hf i hi
      rw [hc46] at h1
      have hi2 : i < xs.length := by omega
      rw [List.getElem?_eq_getElem hi2] at h1
      have h2 : (xs.map (·.1))[i]? = some (xs[i]).1 := by rw [List.getElem?_map, List.getElem?_eq_getElem hi2]; rfl
      rw [ex, List.getElem?_map] at h2
      have h3 : formsT[i]? = some (formAt i) := by
        have hl11 : formsT.length = 11 := rfl
        unfold formAt
        rw [List.getD_eq_getElem?_getD, List.getElem?_eq_getElem (by omega)]; rfl
      rw [h3] at h2
      simp only [Option.map_some, Option.some.injEq] at h2
      have h4 : xs[i] = ((.agg [.lit (.string (formAt i).1.data.toList), .lit (.int .u8 (formAt i).2.1), .lit (.int .i64 (formAt i).2.2)] : DataW Unit), (xs[i]).2) := by rw [h2]
      rw [h4] at h1
      have := form_cells hfs f0 f1 f2 h1
      rw [this]
      unfold formC
      rw [Array.toArray_toList]
    refine ⟨(Array.getElem?_eq_some_iff.1 hb).1, cs, e, fr, hb, fun j x hj => ?_⟩
    have hj33 : j < 33 := by
      have : formsV.length = 33 := rfl
      have := (List.getElem?_eq_some_iff.1 hj).1
      omega
    have hq : j / 3 < 11 := by omega
    have hv : formsV[j]? = (formC (formAt (j / 3)))[j % 3]? := by
      have hd : j = 0 ∨ j = 1 ∨ j = 2 ∨ j = 3 ∨ j = 4 ∨ j = 5 ∨ j = 6 ∨ j = 7 ∨ j = 8 ∨ j = 9 ∨ j = 10 ∨ j = 11 ∨ j = 12 ∨ j = 13 ∨ j = 14 ∨ j = 15 ∨ j = 16 ∨ j = 17 ∨ j = 18 ∨ j = 19 ∨ j = 20 ∨ j = 21 ∨ j = 22 ∨ j = 23 ∨ j = 24 ∨ j = 25 ∨ j = 26 ∨ j = 27 ∨ j = 28 ∨ j = 29 ∨ j = 30 ∨ j = 31 ∨ j = 32 := by omega
      clear hj each
      rcases hd with rfl | rfl | rfl | rfl | rfl | rfl | rfl | rfl | rfl | rfl | rfl | rfl | rfl | rfl | rfl | rfl | rfl | rfl | rfl | rfl | rfl | rfl | rfl | rfl | rfl | rfl | rfl | rfl | rfl | rfl | rfl | rfl | rfl
      all_goals rfl
    rw [hv, ← each (j / 3) hq, List.getElem?_take_of_lt (Nat.mod_lt _ (by decide)), List.getElem?_drop, show j / 3 * 3 + j % 3 = j by omega] at hj
    rw [Nat.zero_add, ← hj, Array.getElem?_toList]
  · cases hv
end Go.Px.LinC
