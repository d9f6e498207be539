/- Claims handed to a law. -/
import Derived.Test.YtgmfjbbhdnfapaaDoorPuTokW
import Derived.Test.YtgmfjbbhdnfapaaDoorPxC
set_option linter.unusedVariables false
set_option linter.unusedSimpArgs false
namespace Go.Px.Pu
open Go Go.Px
theorem okC_of {x : Cl} (w : spWf [.one (.int .u64), .one .str, .one (.int .u8), .one (.int .u64), .one (.int .i64), .one (.int .i64)] x) : okC x := by
  have u : ∀ {n : Int}, (Lit.int .u64 n).wf = true → u64r n := fun {n} h => by
    simp [Lit.wf, IntKind.min, IntKind.max, IntKind.signed, IntKind.bits] at h
    exact ⟨h.1, by omega⟩
  obtain ⟨a1, _, a3, a4, a5, a6, _⟩ := w
  exact ⟨u a1, byte_wf a3, u a4, i64_wf a5, i64_wf a6⟩
end Go.Px.Pu
