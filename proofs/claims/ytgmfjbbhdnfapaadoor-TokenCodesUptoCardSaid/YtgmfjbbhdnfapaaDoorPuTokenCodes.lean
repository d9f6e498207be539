/- TokenCodes: any claims as bytes, and back; any bytes as claims. -/
import Derived.Test.YtgmfjbbhdnfapaaDoorPuTokO
set_option linter.unusedVariables false
set_option linter.unusedSimpArgs false
namespace Go.Px.Pu
open Go Go.Px
theorem codes_tail (d : Bool) (c : Cl) : (cond (sameC (if d = true then c else zeroC) (if d = true then c else zeroC)) (cond (d == (ieq (if d = true then (0 : Int) else 3) 0)) (cond d (some true) (some (ieq (if d = true then (0 : Int) else 3) 3))) (some false)) (some false)) = some true := by
  rw [sameC_self]
  cases d <;> rfl
theorem codes_main (c : Cl) (p : List Int) (v dp : Bool) (x : Cl) (f24 : Unit → Option Bool) (f25 f26 : (Cl × Unit) → Option Bool) (f27 : (Cl × Unit) → Option (List Int × Int × Unit)) (f28 : (List Int × Unit) → Option (Cl × Int × Unit)) (f29 : (Cl × Unit) → Option (List Int)) (f30 : (List Int × Unit) → Option (Cl × Bool × Unit))
    (h24 : f24 () = some true) (h25 : f25 (c, ()) = some v) (h26 : f26 (c, ()) = some v) (h27 : f27 (c, ()) = some (if v = true then (encT c, 0, ()) else ([], 3, ()))) (h28 : v = true → f28 (encT c, ()) = some (c, 0, ())) (h29 : v = true → f29 (c, ()) = some (encT c))
    (h28p : p.length ≤ 2000 → f28 (p, ()) = some ((if dp = true then x else zeroC), (if dp = true then 0 else 3), ())) (h30p : p.length ≤ 2000 → f30 (p, ()) = some ((if dp = true then x else zeroC), dp, ())) :
    w19_TokenCodes.b f24 f25 f26 f27 f28 f29 f30 (c, p, ()) = some true := by
  have eta : ∀ {β : Type} (f : (Cl × Unit) → β), f ((c.1, c.2.1, c.2.2.1, c.2.2.2.1, c.2.2.2.2.1, c.2.2.2.2.2.1, ()), ()) = f (c, ()) := fun f => rfl
  simp only [w19_TokenCodes.b, h24, Option.bind_some, Bool.not_true, cond_false, cond_true]
  by_cases h1 : p.length ≤ 2000
  · rw [cond_f (igt_f.2 (by omega)), eta f25, h25]
    simp only [Option.bind_some]
    rw [eta f26, h26]
    simp only [Option.bind_some]
    rw [show (!(v == v)) = false by simp, cond_false, eta f27, h27]
    simp only [Option.bind_some]
    cases v with
    | false =>
      rw [cond_false, if_neg (by decide), cond_f (ine_f.2 rfl), cond_f (igt_f.2 (by simp)), h28p h1]
      simp only [Option.bind_some]
      rw [h30p h1]
      simp only [Option.bind_some]
      exact codes_tail dp x
    | true =>
      rw [cond_true, if_pos rfl, h28 rfl]
      simp only [Option.bind_some]
      rw [cond_f (ine_f.2 rfl), eta f29, h29 rfl]
      simp only [Option.bind_some]
      rw [cond_f (by rw [sne_seq, seq_self]; rfl), cond_f (ine_f.2 rfl)]
      show cond (!(sameC c c)) _ _ = _
      rw [sameC_self, Bool.not_true, cond_false, h28p h1]
      simp only [Option.bind_some]
      rw [h30p h1]
      simp only [Option.bind_some]
      exact codes_tail dp x
  · rw [cond_t (igt_iff.2 (by omega)), igt_iff.2 (by omega)]
theorem _root_.Go.Px.pure_TokenCodes (x0 : spα [.one (.int .u64), .one .str, .one (.int .u8), .one (.int .u64), .one (.int .i64), .one (.int .i64)]) (w0 : spWf [.one (.int .u64), .one .str, .one (.int .u8), .one (.int .u64), .one (.int .i64), .one (.int .i64)] x0) (x1 : List Int) (y1 : x1.length * 1 ≤ 140737488351232) (w1 : ∀ n ∈ x1, (Lit.int .u8 n).wf = true) (hb : x0.2.1.size + x1.length ≤ 1048576) : w19_TokenCodes (x0, x1, ()) = some true := by
  have ok := okC_of w0
  have bp : bys x1 := fun n hn => byte_wf (w1 n hn)
  refine codes_main x0 x1 (formC x0) (decT x1) (decC x1) w19_awake token_Form r19_Form token_Encode token_Decode r19_Encode r19_Decode tok_awake (token_Form_eq x0) (r19_Form_eq x0 (by omega)) (token_Encode_eq ok) (fun hf => ?_) (fun _ => r19_Encode_eq ok (by omega)) (fun h => ?_) (fun h => ?_)
  · have hs := (form_p hf).size
    have := token_Decode_eq (p := encT x0) (by rw [encT_len]; omega) (encT_bys ok)
    rw [decT_enc ok hf, if_pos rfl, dec_encT ok] at this
    exact this
  · rw [token_Decode_eq (by omega) bp]
    cases decT x1 <;> rfl
  · rw [r19_Decode_eq (by omega) bp]
    cases decT x1 <;> rfl
end Go.Px.Pu
