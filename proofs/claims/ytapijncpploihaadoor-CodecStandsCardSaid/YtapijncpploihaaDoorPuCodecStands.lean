/- CodecStands: values as keys stand as they do, whatever comes behind them. -/
import Derived.Test.YtapijncpploihaaDoorPuCodKey
import Derived.Test.YtapijncpploihaaDoorPuCodAwake
import Derived.Test.YtapijncpploihaaDoorPx24
set_option linter.unusedVariables false
set_option linter.unusedSimpArgs false
namespace Go.Px
open Go Go.Px.Pu
theorem Stands_main (k n : Int) (s : ByteArray) (k' n' : Int) (s' : ByteArray) (hk : byte k) (hk' : byte k') (hn : Pu.i64 n) (hn' : Pu.i64 n') (x2 x3 : List Int) (l2 : x2.length ≤ 140737488351232) (l3 : x3.length ≤ 140737488351232) (b2 : bys x2) (b3 : bys x3)
    (f11 : Unit → Option Bool) (f16 : ((Int × Int × ByteArray × Unit) × Unit) → Option Bool) (f17 : ((Int × Int × ByteArray × Unit) × Unit) → Option (List Int × Int × Unit)) (f18 : ((Int × Int × ByteArray × Unit) × (Int × Int × ByteArray × Unit) × Unit) → Option Bool)
    (h11 : f11 () = some true) (h16 : ∀ k n s, f16 ((k, n, s, ()), ()) = some (formR k n s)) (h17 : ∀ k n s, byte k → Pu.i64 n → f17 ((k, n, s, ()), ()) = some (if formR k n s = true then (keyB k n s, 0, ()) else ([], 3, ())))
    (h18 : ∀ k n s k' n' s', f18 ((k, n, s, ()), (k', n', s', ()), ()) = some (lessV k n s k' n' s')) : w04_CodecStands.b f11 f16 f17 f18 ((k, n, s, ()), (k', n', s', ()), x2, x3, ()) = some true := by
  simp only [w04_CodecStands.b, h11, Option.bind_some, Bool.not_true, cond_false]
  rw [h16, h16]
  simp only [Option.bind_some]
  cases h : formR k n s with
  | false => rfl
  | true =>
    cases h' : formR k' n' s' with
    | false => rfl
    | true =>
      rw [Bool.not_true, cond_false, cond_false]
      by_cases he : k = k' ∧ n = n' ∧ s = s'
      · obtain ⟨rfl, rfl, rfl⟩ := he
        rw [cond_t (by rw [seq_self, ieq_iff.2 rfl, ieq_iff.2 rfl]; rfl)]
      · rw [cond_f (by
          rw [seq_bytes]
          cases hb : (ieq k k' && (ieq n n' && (decide (s = s') && true))) with
          | false => rfl
          | true =>
            simp only [Bool.and_eq_true, ieq_iff, decide_eq_true_eq] at hb
            exact absurd ⟨hb.1, hb.2.1, hb.2.2.1⟩ he)]
        rw [h17 k n s hk hn, h17 k' n' s' hk' hn', if_pos h, if_pos h']
        simp only [Option.bind_some]
        have q := keyB_len h
        have q' := keyB_len h'
        rw [chk_true (fits_iff.2 (by omega)), chk_true (fits_iff.2 (by omega)), chk_true (fits_iff.2 (by omega)), chk_true (fits_iff.2 (by omega)), cond_t (ieq_iff.2 rfl), cond_t (ieq_iff.2 rfl), h18]
        simp only [Option.bind_some]
        rw [slt_str (bys_app.2 ⟨keyB_bys h, b2⟩) (bys_app.2 ⟨keyB_bys h', b3⟩), key_less hn hn' h h' he]
        simp
theorem pure_CodecStands (x0 : spα [.one (.int .u8), .one (.int .i64), .one .str]) (w0 : spWf [.one (.int .u8), .one (.int .i64), .one .str] x0) (x1 : spα [.one (.int .u8), .one (.int .i64), .one .str]) (w1 : spWf [.one (.int .u8), .one (.int .i64), .one .str] x1) (x2 : List Int) (y2 : x2.length * 1 ≤ 140737488351232) (w2 : ∀ n ∈ x2, (Lit.int .u8 n).wf = true) (x3 : List Int) (y3 : x3.length * 1 ≤ 140737488351232) (w3 : ∀ n ∈ x3, (Lit.int .u8 n).wf = true) : w04_CodecStands (x0, x1, x2, x3, ()) = some true := by
  obtain ⟨k, n, s, _⟩ := x0
  obtain ⟨k', n', s', _⟩ := x1
  obtain ⟨a1, a2, _⟩ := w0
  obtain ⟨b1, b2, _⟩ := w1
  exact Stands_main k n s k' n' s' (byte_wf a1) (byte_wf b1) (i64_wf a2) (i64_wf b2) x2 x3 (by omega) (by omega) (fun n hn => byte_wf (w2 n hn)) (fun n hn => byte_wf (w3 n hn))
    w04_awake r04_Form codec_Key r04_Less cod_awake r04_Form_eq (fun k n s h1 h2 => codec_Key_eq h1 h2 s) r04_Less_eq
end Go.Px
