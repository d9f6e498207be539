/- The plain law of CodecBases. -/
import Derived.Test.YtapijncpploihaaDoorPuCodAwake
import Derived.Test.YtapijncpploihaaDoorPuB64w
set_option linter.unusedVariables false
set_option linter.unusedSimpArgs false
namespace Go.Px.Pu
open Go Go.Px
theorem main_CodecBases (f11 f12 f13 f14 f15) (h11 : f11 () = some true) (x0 : List Int) (x1 : ByteArray) (y0 : x0.length ≤ 140737488351232) (y1 : x1.size ≤ 140737488351232) (t : ByteArray) (h12 : x0.length ≤ 5000 → f12 (x0, ()) = some t) (h15 : x0.length ≤ 5000 → f15 (x0, ()) = some t) (h13 : x0.length ≤ 5000 → f13 (t, ()) = some (x0, 0, ()))
    (h : x1.size ≤ 5000 → ∃ l e, f13 (x1, ()) = some (l, e, ()) ∧ f14 (x1, ()) = some (l, e, ())) : w04_CodecBases.b f11 f12 f13 f14 f15 (x0, x1, ()) = some true := by
  have e : iadd .i64 (x0.length : Int) (x1.size : Int) = ((x0.length + x1.size : Nat) : Int) := by rw [iadd64 (by omega)]; omega
  simp only [w04_CodecBases.b, h11, Option.bind_some, Bool.not_true, cond_false, e]
  by_cases hs : x0.length + x1.size ≤ 5000
  · obtain ⟨l, er, g1, g2⟩ := h (by omega)
    rw [cond_f (igt_f.2 (by omega)), h12 (by omega)]
    simp only [Option.bind_some]
    rw [h13 (by omega), g1]
    simp only [Option.bind_some]
    rw [g2, h15 (by omega)]
    simp only [Option.bind_some]
    rw [cond_t (seq_self _), cond_t (ieq_iff.2 rfl), cond_t (seq_self _), cond_t (seq_self _), ieq_iff.2 rfl]
  · rw [cond_t (igt_iff.2 (by omega))]
theorem _root_.Go.Px.pure_CodecBases (x0 : List Int) (y0 : x0.length * 1 ≤ 140737488351232) (w0 : ∀ n ∈ x0, (Lit.int .u8 n).wf = true) (x1 : ByteArray) (w1 : x1.size ≤ 140737488351232) : w04_CodecBases (x0, x1, ()) = some true := by
  have hb : ∀ n ∈ x0, byte n := fun n hn => byte_wf (w0 n hn)
  exact main_CodecBases _ _ _ _ _ cod_awake x0 x1 (by omega) w1 _ (fun h => base_eq x0 (by omega) hb) (fun h => rbase_eq x0 (by omega) hb) (fun h => read_back x0 (by omega) hb) (fun h => by
    rcases rread_eq x1 (by omega) with ⟨h1, h2⟩ | ⟨l, _, _, h1, h2, _⟩
    · exact ⟨_, _, h1, h2⟩
    · exact ⟨_, _, h1, h2⟩)
end Go.Px.Pu
