/- TokenTold: two claims that are unlike have unlike texts, by any key, and each is read as it is. -/
import Derived.Test.YtgmfjbbhdnfapaaDoorPuTokO
set_option linter.unusedVariables false
set_option linter.unusedSimpArgs false
namespace Go.Px.Pu
open Go Go.Px
theorem told_main (key : List Int) (a b : Cl) (v u : Bool) (s t : ByteArray) (f24 : Unit → Option Bool) (f26 : (Cl × Unit) → Option Bool) (f31 : (List Int × Cl × Unit) → Option (ByteArray × Int × Unit)) (f32 : (List Int × ByteArray × Int × Unit) → Option (Cl × Int × Unit))
    (h24 : f24 () = some true) (ha : f26 (a, ()) = some v) (hb : f26 (b, ()) = some u) (h1 : v = true → u = true → key.length ≤ 200 → f31 (key, a, ()) = some (s, 0, ())) (h2 : v = true → u = true → key.length ≤ 200 → f31 (key, b, ()) = some (t, 0, ()))
    (h3 : v = true → u = true → key.length ≤ 200 → f32 (key, s, a.2.2.2.2.1, ()) = some (a, 0, ())) (h4 : v = true → u = true → key.length ≤ 200 → f32 (key, t, b.2.2.2.2.1, ()) = some (b, 0, ())) (hs : v = true → u = true → seq s t = sameC a b) :
    w19_TokenTold.b f24 f26 f31 f32 (key, a, b, ()) = some true := by
  simp only [w19_TokenTold.b, h24, Option.bind_some, Bool.not_true, cond_false]
  rw [show f26 ((a.1, a.2.1, a.2.2.1, a.2.2.2.1, a.2.2.2.2.1, a.2.2.2.2.2.1, ()), ()) = some v from ha]
  simp only [Option.bind_some]
  cases v with
  | false => rfl
  | true =>
    rw [Bool.not_true, cond_false, show f26 ((b.1, b.2.1, b.2.2.1, b.2.2.2.1, b.2.2.2.2.1, b.2.2.2.2.2.1, ()), ()) = some u from hb]
    simp only [Option.bind_some]
    cases u with
    | false => rfl
    | true =>
      rw [Bool.not_true, cond_false]
      by_cases hk : key.length ≤ 200
      · rw [cond_f (igt_f.2 (by omega)), show f31 (key, (a.1, a.2.1, a.2.2.1, a.2.2.2.1, a.2.2.2.2.1, a.2.2.2.2.2.1, ()), ()) = some (s, 0, ()) from h1 rfl rfl hk]
        simp only [Option.bind_some]
        rw [show f31 (key, (b.1, b.2.1, b.2.2.1, b.2.2.2.1, b.2.2.2.2.1, b.2.2.2.2.2.1, ()), ()) = some (t, 0, ()) from h2 rfl rfl hk]
        simp only [Option.bind_some]
        rw [h3 rfl rfl hk]
        simp only [Option.bind_some]
        rw [h4 rfl rfl hk]
        simp only [Option.bind_some]
        rw [cond_t (ieq_iff.2 rfl), cond_t (ieq_iff.2 rfl), cond_t (ieq_iff.2 rfl), cond_t (ieq_iff.2 rfl)]
        show cond (sameC a a) (cond (sameC b b) (some (seq s t == sameC a b)) (some false)) (some false) = _
        rw [sameC_self, sameC_self, hs rfl rfl, cond_true, cond_true]
        cases sameC a b <;> rfl
      · rw [cond_t (igt_iff.2 (by omega))]
theorem told_same {key : List Int} {a b : Cl} (ha : okC a) (hb : okC b) (sa : a.2.1.size ≤ 800000) (sb : b.2.1.size ≤ 800000) : seq (textT key a) (textT key b) = sameC a b := by
  rw [seq_bytes, Bool.eq_iff_iff, decide_eq_true_eq, sameC_iff]
  constructor
  · intro e
    have := base_inj (sigT_bys ha key) (sigT_bys hb key) (by rw [sigT_len]; omega) (by rw [sigT_len]; omega) e
    have h1 := (hd_sig key a).1
    rw [this, (hd_sig key b).1] at h1
    rw [← dec_encT ha, ← h1, dec_encT hb]
  · intro e; rw [e]
theorem _root_.Go.Px.pure_TokenTold (x0 : List Int) (y0 : x0.length * 1 ≤ 140737488351232) (w0 : ∀ n ∈ x0, (Lit.int .u8 n).wf = true) (x1 : spα [.one (.int .u64), .one .str, .one (.int .u8), .one (.int .u64), .one (.int .i64), .one (.int .i64)]) (w1 : spWf [.one (.int .u64), .one .str, .one (.int .u8), .one (.int .u64), .one (.int .i64), .one (.int .i64)] x1) (x2 : spα [.one (.int .u64), .one .str, .one (.int .u8), .one (.int .u64), .one (.int .i64), .one (.int .i64)]) (w2 : spWf [.one (.int .u64), .one .str, .one (.int .u8), .one (.int .u64), .one (.int .i64), .one (.int .i64)] x2) (hb : x0.length + x1.2.1.size + x2.2.1.size ≤ 1048576) : w19_TokenTold (x0, x1, x2, ()) = some true := by
  have ok1 := okC_of w1
  have ok2 := okC_of w2
  have b0 : bys x0 := fun n hn => byte_wf (w0 n hn)
  have sg : ∀ {c : Cl}, okC c → formC c = true → x0.length ≤ 200 → token_Sign (x0, c, ()) = some (textT x0 c, 0, ()) := fun {c} ok hf h => by
    have hs := (form_p hf).size
    have := token_Sign_eq (key := x0) (by omega) ok (by omega)
    rwa [if_pos hf] at this
  have vf : ∀ {c : Cl}, okC c → formC c = true → x0.length ≤ 200 → token_Verify (x0, textT x0 c, c.2.2.2.2.1, ()) = some (c, 0, ()) := fun {c} ok hf h => by
    have := (verify_text (key := x0) (by omega) b0 x0 ok hf c.2.2.2.2.1).1
    rwa [leq_refl, verV_in (Int.le_refl _) (form_p hf).lt] at this
  exact told_main x0 x1 x2 (formC x1) (formC x2) (textT x0 x1) (textT x0 x2) w19_awake r19_Form token_Sign token_Verify tok_awake (r19_Form_eq x1 (by omega)) (r19_Form_eq x2 (by omega)) (fun h1 _ hk => sg ok1 h1 hk) (fun _ h2 hk => sg ok2 h2 hk) (fun h1 _ hk => vf ok1 h1 hk) (fun _ h2 hk => vf ok2 h2 hk) (fun h1 h2 => by
    have s1 := (form_p h1).size
    have s2 := (form_p h2).size
    exact told_same ok1 ok2 (by omega) (by omega))
end Go.Px.Pu
