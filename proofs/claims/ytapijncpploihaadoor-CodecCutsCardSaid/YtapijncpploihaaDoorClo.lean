/- codec.Decode's deferred closure. -/
import Derived.Test.YtapijncpploihaaDoorVal
set_option linter.unusedVariables false
set_option linter.unusedSimpArgs false
namespace Go.Px.CodC
open Go Go.RowKit Go.Proofs Go.Px Go.Px.Pu
theorem clo_panicking (p q : Addr) (x y : Value) (w : World) (hp : w.cell? p = some x) (fp : w.frozen? p = false) (hq : w.cell? q = some y) (fq : w.frozen? q = false) (hne : p.block ≠ q.block) :
    CallsD Tryd.prog 34 #[.pointer (some p), .pointer (some q)] (.panicking chain) w fun e u' w' =>
      e = .returned (.tuple #[]) ∧ u' = .panicking [{ v := .iface 67 (.agg #[]), recovered := true }] ∧ w' = (w.setCell p (.slice none 0 0)).setCell q (.int .i64 3) := by
  refine callsD_of_wpS Tryd.func34 rfl fun c₀ cs hu => ?_
  unfold chain at hu
  apply wpS_seq
  apply wpS_region
  simp [wpOpsS, go_sem, recoverD, hu, Tryd.ntmps34, Exit.thenS]
  refine wpS_of_wp ?_
  change Code.wp Tryd.prog _ _ { tmps := #[.pointer (some p), .pointer (some q), .iface 67 (.agg #[]), .iface 67 (.agg #[]), undef, undef, undef, undef], defers := [] } w
  have hq' : (w.setCell p (.slice none 0 0)).cell? q = some y := by
    obtain ⟨b, o, sp⟩ := q
    simp only at hne
    simp only [World.cell?, World.setCell, Array.getElem?_modify, if_neg hne] at hq ⊢
    exact hq
  have fq' : (w.setCell p (.slice none 0 0)).frozen? q = false := by
    obtain ⟨b, o, sp⟩ := q
    simp only at hne
    simp only [World.frozen?, World.setCell, Array.getElem?_modify, if_neg hne] at fq ⊢
    exact fq
  have hte : ∀ w : World, (Instr.typeAssert (.iface 67 (.agg #[])) 20 67 false).run Tryd.prog w = .ok (.agg #[]) w := fun w => rfl
  go_wp2
  simp [bodyPostS, results, Tryd.results34]
theorem clo_idle (p q : Addr) (w : World) :
    CallsD Tryd.prog 34 #[.pointer (some p), .pointer (some q)] .returning w fun e u' w' => e = .returned (.tuple #[]) ∧ u' = .returning ∧ w' = w := by
  refine callsD_of_wpS Tryd.func34 rfl fun c₀ cs hu => ?_
  apply wpS_seq
  apply wpS_region
  simp [wpOpsS, go_sem, recoverD, hu, Tryd.ntmps34, Exit.thenS]
  refine wpS_of_wp ?_
  change Code.wp Tryd.prog _ _ { tmps := #[.pointer (some p), .pointer (some q), .nilIface, .nilIface, undef, undef, undef, undef], defers := [] } w
  go_wp2
  cases c₀
  simp_all [bodyPostS, results, Tryd.results34]
end Go.Px.CodC
