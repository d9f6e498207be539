/- TokenKeys: what was signed by one key is taken by another one only if that makes the same tag. -/
import Derived.Test.YtgmfjbbhdnfapaaDoorPuTokO
set_option linter.unusedVariables false
set_option linter.unusedSimpArgs false
namespace Go.Px.Pu
open Go Go.Px
theorem keys_main (a b : List Int) (ha : a.length ≤ 140737488351232) (hb : b.length ≤ 140737488351232) (c : Cl) (v same : Bool) (s s' : ByteArray) (T : List Int × List Int × Unit) (f17 : Unit → Option (List Int × List Int × Unit)) (f24 : Unit → Option Bool) (f26 : (Cl × Unit) → Option Bool) (f31 : (List Int × Cl × Unit) → Option (ByteArray × Int × Unit)) (f32 : (List Int × ByteArray × Int × Unit) → Option (Cl × Int × Unit)) (f34 : ((List Int × List Int × Unit) × List Int × Cl × Unit) → Option ByteArray)
    (h24 : f24 () = some true) (h17 : f17 () = some T) (h26 : f26 (c, ()) = some v) (h31 : v = true → a.length + b.length ≤ 500 → f31 (a, c, ()) = some (s, 0, ()))
    (h32 : v = true → a.length + b.length ≤ 500 → f32 (b, s, c.2.2.2.2.1, ()) = some (if same = true then (c, 0, ()) else (zeroC, 15, ()))) (h34 : v = true → a.length + b.length ≤ 500 → f34 (T, a, c, ()) = some s) (h34' : v = true → a.length + b.length ≤ 500 → f34 (T, b, c, ()) = some s') (hs : v = true → a.length + b.length ≤ 500 → seq s s' = same) :
    w19_TokenKeys.b f17 f24 f26 f31 f32 f34 (a, b, c, ()) = some true := by
  simp only [w19_TokenKeys.b, h24, Option.bind_some, Bool.not_true, cond_false]
  rw [show f26 ((c.1, c.2.1, c.2.2.1, c.2.2.2.1, c.2.2.2.2.1, c.2.2.2.2.2.1, ()), ()) = some v from h26]
  simp only [Option.bind_some]
  cases v with
  | false => rfl
  | true =>
    rw [Bool.not_true, cond_false, iadd64 (by omega)]
    by_cases h1 : a.length + b.length ≤ 500
    · rw [cond_f (igt_f.2 (by omega)), show f31 (a, (c.1, c.2.1, c.2.2.1, c.2.2.2.1, c.2.2.2.2.1, c.2.2.2.2.2.1, ()), ()) = some (s, 0, ()) from h31 rfl h1]
      simp only [Option.bind_some]
      rw [h32 rfl h1]
      simp only [Option.bind_some]
      rw [h17]
      simp only [Option.bind_some]
      rw [show f34 ((T.1, T.2.1, ()), a, (c.1, c.2.1, c.2.2.1, c.2.2.2.1, c.2.2.2.2.1, c.2.2.2.2.2.1, ()), ()) = some s from h34 rfl h1]
      simp only [Option.bind_some]
      rw [show f34 ((T.1, T.2.1, ()), b, (c.1, c.2.1, c.2.2.1, c.2.2.2.1, c.2.2.2.2.1, c.2.2.2.2.2.1, ()), ()) = some s' from h34' rfl h1]
      simp only [Option.bind_some]
      rw [cond_t (ieq_iff.2 rfl), hs rfl h1]
      cases same <;> rfl
    · rw [cond_t (igt_iff.2 (by omega))]
theorem sig_inj {a b : List Int} {c : Cl} (h : okC c) (hs : c.2.1.size ≤ 800000) : seq (textT a c) (textT b c) = leq (tag b (encT c)) (tag a (encT c)) := by
  rw [seq_bytes, Bool.eq_iff_iff, decide_eq_true_eq, leq_iff]
  constructor
  · intro e
    have := base_inj (sigT_bys h a) (sigT_bys h b) (by rw [sigT_len]; omega) (by rw [sigT_len]; omega) e
    unfold sigT at this
    exact (List.append_cancel_left this).symm
  · intro e
    unfold textT sigT; rw [e]
theorem _root_.Go.Px.pure_TokenKeys (x0 : List Int) (y0 : x0.length * 1 ≤ 140737488351232) (w0 : ∀ n ∈ x0, (Lit.int .u8 n).wf = true) (x1 : List Int) (y1 : x1.length * 1 ≤ 140737488351232) (w1 : ∀ n ∈ x1, (Lit.int .u8 n).wf = true) (x2 : spα [.one (.int .u64), .one .str, .one (.int .u8), .one (.int .u64), .one (.int .i64), .one (.int .i64)]) (w2 : spWf [.one (.int .u64), .one .str, .one (.int .u8), .one (.int .u64), .one (.int .i64), .one (.int .i64)] x2) (hb : x0.length + x1.length + x2.2.1.size ≤ 1048576) : w19_TokenKeys (x0, x1, x2, ()) = some true := by
  have ok := okC_of w2
  have b0 : bys x0 := fun n hn => byte_wf (w0 n hn)
  have b1 : bys x1 := fun n hn => byte_wf (w1 n hn)
  refine keys_main x0 x1 (by omega) (by omega) x2 (formC x2) (leq (tag x1 (encT x2)) (tag x0 (encT x2))) (textT x0 x2) (textT x1 x2) (gv_dfirst, gv_dparts, ()) r01_Make w19_awake r19_Form token_Sign token_Verify r19_Sign tok_awake make_eq (r19_Form_eq x2 (by omega)) (fun hf h => ?_) (fun hf h => ?_) (fun hf h => ?_) (fun hf h => ?_) (fun hf h => ?_)
  · have hs := (form_p hf).size
    have := token_Sign_eq (key := x0) (by omega) ok (by omega)
    rwa [if_pos hf] at this
  · have hp := form_p hf
    have := (verify_text (key := x1) (by omega) b1 x0 ok hf x2.2.2.2.2.1).1
    rw [this]
    cases hl : leq (tag x1 (encT x2)) (tag x0 (encT x2)) with
    | true => rw [if_pos rfl, verV_in (Int.le_refl _) hp.lt]
    | false => rw [if_neg (by decide), verV_ne]
  · have hs := (form_p hf).size
    exact r19_Sign_eq (by omega) b0 ok (by omega)
  · have hs := (form_p hf).size
    exact r19_Sign_eq (by omega) b1 ok (by omega)
  · have hs := (form_p hf).size
    exact sig_inj ok (by omega)
end Go.Px.Pu
