/- The document's example. -/
import Derived.Test.YtcbknapjchlogaaDoorPuShaX
set_option linter.unusedVariables false
set_option linter.unusedSimpArgs false
namespace Go.Px.Pu
open Go Go.Px
theorem awake_hex : digest_Hex ([186, 120, 22, 191, 143, 1, 207, 234, 65, 65, 64, 222, 93, 174, 34, 35, 176, 3, 97, 163, 150, 23, 122, 156, 180, 16, 255, 97, 242, 0, 21, 173], ()) = some ⟨#[98, 97, 55, 56, 49, 54, 98, 102, 56, 102, 48, 49, 99, 102, 101, 97, 52, 49, 52, 49, 52, 48, 100, 101, 53, 100, 97, 101, 50, 50, 50, 51, 98, 48, 48, 51, 54, 49, 97, 51, 57, 54, 49, 55, 55, 97, 57, 99, 98, 52, 49, 48, 102, 102, 54, 49, 102, 50, 48, 48, 49, 53, 97, 100]⟩ := by kernel_rfl
theorem dig_awake : w01_awake () = some true := by
  have h1 := sum_eq [97, 98, 99] (by simp)
  rw [sha_abc] at h1
  show w01_awake.b digest_Sum digest_Hex () = some true
  simp only [w01_awake.b]
  rw [h1]
  simp only [Option.bind_some]
  rw [awake_hex]
  simp only [Option.bind_some]
  rw [seq_self]
theorem bytes_wf {l : List Int} (h : ∀ n ∈ l, (Lit.int .u8 n).wf = true) : ∀ n ∈ l, byte n := fun n hn => byte_wf (h n hn)
theorem leq_self (a : List Int) : leq a a = true := by simp [leq]
end Go.Px.Pu
