/- What the laws of folder 19 are awake to. -/
import Derived.Test.YtgmfjbbhdnfapaaDoorPuTokS
import Derived.Test.YtgmfjbbhdnfapaaDoorPuTokA
set_option linter.unusedVariables false
set_option linter.unusedSimpArgs false
namespace Go.Px.Pu
open Go Go.Px
def c0 : Cl := (1, (⟨#[97]⟩ : ByteArray), 1, 0, 5, 9, ())
theorem c0_ok : okC c0 := ⟨⟨by decide, by decide⟩, ⟨by decide, by decide⟩, ⟨by decide, by decide⟩, ⟨by decide, by decide⟩, ⟨by decide, by decide⟩⟩
theorem tok_main (s : ByteArray) (f31 : (List Int × Cl × Unit) → Option (ByteArray × Int × Unit)) (f32 : (List Int × ByteArray × Int × Unit) → Option (Cl × Int × Unit)) (h31 : f31 ([107, 101, 121], c0, ()) = some (s, 0, ())) (h1 : f32 ([107, 101, 121], s, 5, ()) = some (c0, 0, ()))
    (h2 : f32 ([107, 101, 121], s, 9, ()) = some (zeroC, 14, ())) (h3 : f32 ([111, 116, 104, 101, 114], s, 5, ()) = some (zeroC, 15, ())) : w19_awake.b f31 f32 () = some true := by
  simp only [w19_awake.b]
  rw [show f31 ([107, 101, 121], (1, (⟨#[97]⟩ : ByteArray), 1, 0, 5, 9, ()), ()) = some (s, 0, ()) from h31]
  simp only [Option.bind_some]
  rw [h1]
  simp only [Option.bind_some]
  rw [h2]
  simp only [Option.bind_some]
  rw [h3]
  simp only [Option.bind_some]
  have hs : sameC c0 c0 = true := sameC_self c0
  rw [cond_t (ieq_iff.2 rfl), cond_t (ieq_iff.2 rfl)]
  show cond (sameC c0 c0) _ _ = _
  rw [hs]; rfl
theorem key_bys : bys [107, 101, 121] := fun n hn => by
  simp only [List.mem_cons, List.not_mem_nil, or_false] at hn
  unfold byte; omega
theorem oth_bys : bys [111, 116, 104, 101, 114] := fun n hn => by
  simp only [List.mem_cons, List.not_mem_nil, or_false] at hn
  unfold byte; omega
theorem tok_awake : w19_awake () = some true := by
  have hf : formC c0 = true := tk_form
  have hs := token_Sign_eq (key := [107, 101, 121]) (by decide) c0_ok (show c0.2.1.size ≤ 800000 by decide)
  rw [if_pos hf] at hs
  have v1 := (verify_text (key := [107, 101, 121]) (by decide) key_bys [107, 101, 121] c0_ok hf 5).1
  have v2 := (verify_text (key := [107, 101, 121]) (by decide) key_bys [107, 101, 121] c0_ok hf 9).1
  have v3 := (verify_text (key := [111, 116, 104, 101, 114]) (by decide) oth_bys [107, 101, 121] c0_ok hf 5).1
  rw [leq_refl, verV_in (by decide) (by decide)] at v1
  rw [leq_refl, verV_late (by decide) (by decide)] at v2
  have hn : leq (tag [111, 116, 104, 101, 114] (encT c0)) (tag [107, 101, 121] (encT c0)) = false := by
    cases h : leq (tag [111, 116, 104, 101, 114] (encT c0)) (tag [107, 101, 121] (encT c0)) with
    | false => rfl
    | true => exact absurd (leq_iff.1 h) tk_ne
  rw [hn, verV_ne] at v3
  exact tok_main (textT [107, 101, 121] c0) token_Sign token_Verify hs v1 v2 v3
end Go.Px.Pu
