/- CodecDecodes: the values of any bytes. -/
import Derived.Test.YtapijncpploihaaDoorSh2
import Derived.Test.YtapijncpploihaaDoorDecD
import Derived.Test.YtapijncpploihaaDoorPuCodAwake
set_option linter.unusedVariables false
set_option linter.unusedSimpArgs false
namespace Go.Px.Pu
open Go Go.Px
theorem decO_len {P : List Int} (hb : bys P) : (decO P).1.length ≤ 12 := by
  unfold decO
  cases h : decV P with
  | none => simp
  | some l => exact (enc_dec hb h).2.1
theorem decodes_main (f11 f22 f23 f24) (x0 : List Int) (y : DO) (h11 : f11 () = some true) (h22 : f22 (x0, ()) = some y) (h24 : f24 (x0, ()) = some y) (h23 : f23 (y.1, y.1, ()) = some true) : w04_CodecDecodes.b f11 f22 f23 f24 (x0, ()) = some true := by
  simp only [w04_CodecDecodes.b]
  rw [h11]
  simp only [Option.bind_some, Bool.not_true]
  rw [cond_f rfl, h22]
  simp only [Option.bind_some]
  rw [h24]
  simp only [Option.bind_some]
  rw [h23]
  simp only [Option.bind_some]
  rw [cond_t rfl, ieq_iff.2 rfl]
theorem _root_.Go.Px.pure_CodecDecodes (x0 : List Int) (y0 : x0.length * 1 ≤ 140737488351232) (w0 : ∀ n ∈ x0, (Lit.int .u8 n).wf = true) : w04_CodecDecodes (x0, ()) = some true := by
  have hb : bys x0 := fun n hn => byte_wf (w0 n hn)
  have hl := decO_len hb
  exact decodes_main _ _ _ _ x0 (decO x0) cod_awake (codec_Decode_eq hb (by omega)) (r04_Decode_eq x0 hb (by omega)) (r04_Same_refl _ (by omega))
end Go.Px.Pu
