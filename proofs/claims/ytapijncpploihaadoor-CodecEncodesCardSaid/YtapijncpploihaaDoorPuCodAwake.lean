/- What the laws of folder 04 are awake to. -/
import Derived.Test.YtapijncpploihaaDoorSh
import Derived.Test.YtapijncpploihaaDoorPuBase
import Derived.KernelRfl
set_option linter.unusedVariables false
set_option linter.unusedSimpArgs false
namespace Go.Px.Pu
open Go Go.Px
theorem aw_enc : codec_Encode ([(1, 1, ByteArray.empty, ()), (2, 0, (⟨#[97]⟩ : ByteArray), ()), (0, 0, ByteArray.empty, ())], ()) = some ([3, 1, 128, 0, 0, 0, 0, 0, 0, 1, 2, 1, 97, 0], 0, ()) := by kernel_rfl
theorem aw_base : codec_Base ([255], ()) = some (⟨#[95, 119]⟩ : ByteArray) := by kernel_rfl
theorem cod_main (f12 f20) (h20 : f20 ([(1, 1, ByteArray.empty, ()), (2, 0, (⟨#[97]⟩ : ByteArray), ()), (0, 0, ByteArray.empty, ())], ()) = some ([3, 1, 128, 0, 0, 0, 0, 0, 0, 1, 2, 1, 97, 0], 0, ())) (h12 : f12 ([255], ()) = some (⟨#[95, 119]⟩ : ByteArray)) : w04_awake.b f12 f20 () = some true := by
  simp only [w04_awake.b]
  rw [h20]
  simp only [Option.bind_some]
  rw [h12]
  kernel_rfl
theorem cod_awake : w04_awake () = some true := cod_main _ _ aw_enc aw_base
end Go.Px.Pu
