/- codec.Decode: what it hands back, on any bytes. -/
import Derived.Test.YtapijncpploihaaDoorPuCodDec
set_option linter.unusedVariables false
set_option linter.unusedSimpArgs false
namespace Go.Px
open Go Go.Px.Pu
def isByte (n : Int) : Bool := decide (0 ≤ n) && decide (n ≤ 255)
def codec_Decode (x : List Int × Unit) : Option (List Val × Int × Unit) := if x.1.all isByte = true ∧ x.1.length ≤ 140737488351232 then some (decO x.1) else none
theorem bys_all {P : List Int} : P.all isByte = true ↔ bys P := by
  rw [List.all_eq_true]
  constructor
  · intro h n hn
    have := h n hn
    simpa [isByte, byte] using this
  · intro h n hn
    have := h n hn
    simpa [isByte, byte] using this
theorem codec_Decode_eq {P : List Int} (hb : bys P) (hl : P.length ≤ 140737488351232) : codec_Decode (P, ()) = some (decO P) := if_pos ⟨bys_all.2 hb, hl⟩
end Go.Px
