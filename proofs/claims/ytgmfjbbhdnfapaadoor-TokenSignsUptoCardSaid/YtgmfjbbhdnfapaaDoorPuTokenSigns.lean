/- TokenSigns: the text of any claims by any key, and what is verified of it at any tick. -/
import Derived.Test.YtgmfjbbhdnfapaaDoorPuTokO
set_option linter.unusedVariables false
set_option linter.unusedSimpArgs false
namespace Go.Px.Pu
open Go Go.Px
theorem signs_main (key : List Int) (c : Cl) (now : Int) (v : Bool) (s : ByteArray) (T : List Int × List Int × Unit) (f17 : Unit → Option (List Int × List Int × Unit)) (f24 : Unit → Option Bool) (f26 : (Cl × Unit) → Option Bool) (f31 : (List Int × Cl × Unit) → Option (ByteArray × Int × Unit)) (f32 : (List Int × ByteArray × Int × Unit) → Option (Cl × Int × Unit)) (f33 : ((List Int × List Int × Unit) × List Int × ByteArray × Int × Unit) → Option (Cl × Int × Unit)) (f34 : ((List Int × List Int × Unit) × List Int × Cl × Unit) → Option ByteArray)
    (h24 : f24 () = some true) (h17 : f17 () = some T) (h26 : key.length ≤ 1000 → f26 (c, ()) = some v) (h31 : key.length ≤ 1000 → f31 (key, c, ()) = some (if v = true then (s, 0, ()) else ((⟨#[]⟩ : ByteArray), 3, ())))
    (h32 : key.length ≤ 1000 → v = true → f32 (key, s, now, ()) = some (verV true c true now)) (h33 : key.length ≤ 1000 → v = true → f33 (T, key, s, now, ()) = some (verV true c true now)) (h34 : key.length ≤ 1000 → v = true → f34 (T, key, c, ()) = some s) :
    w19_TokenSigns.b f17 f24 f26 f31 f32 f33 f34 (key, c, now, ()) = some true := by
  simp only [w19_TokenSigns.b, h24, Option.bind_some, Bool.not_true, cond_false]
  by_cases h1 : key.length ≤ 1000
  · rw [cond_f (igt_f.2 (by omega))]
    rw [show f31 (key, (c.1, c.2.1, c.2.2.1, c.2.2.2.1, c.2.2.2.2.1, c.2.2.2.2.2.1, ()), ()) = some (if v = true then (s, 0, ()) else ((⟨#[]⟩ : ByteArray), 3, ())) from h31 h1]
    simp only [Option.bind_some]
    rw [show f26 ((c.1, c.2.1, c.2.2.1, c.2.2.2.1, c.2.2.2.2.1, c.2.2.2.2.2.1, ()), ()) = some v from h26 h1]
    simp only [Option.bind_some]
    cases v with
    | false =>
      rw [Bool.not_false, cond_true, if_neg (by decide), cond_t (ieq_iff.2 rfl), seq_self]
    | true =>
      rw [Bool.not_true, cond_false, h17, if_pos rfl]
      simp only [Option.bind_some]
      rw [h32 h1 rfl]
      simp only [Option.bind_some]
      rw [show f33 ((T.1, T.2.1, ()), key, s, now, ()) = some (verV true c true now) from h33 h1 rfl]
      simp only [Option.bind_some]
      rw [cond_t (ieq_iff.2 rfl), show f34 ((T.1, T.2.1, ()), key, (c.1, c.2.1, c.2.2.1, c.2.2.2.1, c.2.2.2.2.1, c.2.2.2.2.2.1, ()), ()) = some s from h34 h1 rfl]
      simp only [Option.bind_some]
      rw [cond_t (seq_self _)]
      show cond (sameC (verV true c true now).1 (verV true c true now).1) _ _ = _
      have hv := verV_ok c now
      generalize verV true c true now = R at hv ⊢
      rw [sameC_self, cond_true, cond_t (ieq_iff.2 rfl)]
      by_cases g1 : c.2.2.2.2.1 ≤ now
      · rw [cond_t (ige_iff.2 g1)]
        by_cases g2 : now < c.2.2.2.2.2.1
        · rw [ieq_iff.2 (hv.2 ⟨g1, g2⟩), ilt_iff.2 g2]; rfl
        · rw [ieq_f.2 (fun e => g2 (hv.1 e).2), ilt_f.2 (by omega)]; rfl
      · rw [cond_f (ige_f.2 (by omega)), ieq_f.2 (fun e => g1 (hv.1 e).1)]; rfl
  · rw [cond_t (igt_iff.2 (by omega))]
theorem _root_.Go.Px.pure_TokenSigns (x0 : List Int) (y0 : x0.length * 1 ≤ 140737488351232) (w0 : ∀ n ∈ x0, (Lit.int .u8 n).wf = true) (x1 : spα [.one (.int .u64), .one .str, .one (.int .u8), .one (.int .u64), .one (.int .i64), .one (.int .i64)]) (w1 : spWf [.one (.int .u64), .one .str, .one (.int .u8), .one (.int .u64), .one (.int .i64), .one (.int .i64)] x1) (x2 : Int) (w2 : (Lit.int .i64 x2).wf = true) (hb : x0.length + x1.2.1.size ≤ 1048576) : w19_TokenSigns (x0, x1, x2, ()) = some true := by
  have ok := okC_of w1
  have bk : bys x0 := fun n hn => byte_wf (w0 n hn)
  by_cases hsz : x1.2.1.size ≤ 800000
  · refine signs_main x0 x1 x2 (formC x1) (textT x0 x1) (gv_dfirst, gv_dparts, ()) r01_Make w19_awake r19_Form token_Sign token_Verify r19_Verify r19_Sign tok_awake make_eq (fun _ => r19_Form_eq x1 (by omega)) (fun h => token_Sign_eq (by omega) ok hsz) (fun h hf => ?_) (fun h hf => ?_) (fun h hf => r19_Sign_eq (by omega) bk ok hsz)
    · have := (verify_text (key := x0) (by omega) bk x0 ok hf x2).1
      rwa [leq_refl] at this
    · have := (verify_text (key := x0) (by omega) bk x0 ok hf x2).2
      rwa [leq_refl] at this
  · have hf : formC x1 = false := by
      cases h : formC x1 with
      | false => rfl
      | true => have := (form_p h).size; omega
    have hs := token_Encode_eq ok
    rw [hf] at hs
    refine signs_main x0 x1 x2 (formC x1) (textT x0 x1) (gv_dfirst, gv_dparts, ()) r01_Make w19_awake r19_Form token_Sign token_Verify r19_Verify r19_Sign tok_awake make_eq (fun _ => r19_Form_eq x1 (by omega)) (fun h => ?_) (fun h hf' => by rw [hf] at hf'; cases hf') (fun h hf' => by rw [hf] at hf'; cases hf') (fun h hf' => by rw [hf] at hf'; cases hf')
    exact tSign_main x0 x1 (formC x1) [] [] (textT x0 x1) (by simp) token_Encode codec_Base digest_Tag (by rw [hf, if_neg (by decide)]; exact hs) (fun h => by rw [hf] at h; cases h) (fun h => by rw [hf] at h; cases h)
end Go.Px.Pu
