/- CodecKeys: any value as a key, and back, whatever stands about it; any bytes as a key. -/
import Derived.Test.YtapijncpploihaaDoorPuCodRead
import Derived.Test.YtapijncpploihaaDoorPuCodAwake
import Derived.Test.YtapijncpploihaaDoorPx24
set_option linter.unusedVariables false
set_option linter.unusedSimpArgs false
namespace Go.Px
open Go Go.Px.Pu
theorem same_val (a : KR) : (cond ((ieq a.1.1 a.1.1) && ((ieq a.1.2.1 a.1.2.1) && ((seq a.1.2.2.1 a.1.2.2.1) && true))) (cond (ieq a.2.1 a.2.1) (some (ieq a.2.2.1 a.2.2.1)) (some false)) (some false)) = some true := by
  rw [seq_self, ieq_iff.2 rfl, ieq_iff.2 rfl, ieq_iff.2 rfl, ieq_iff.2 rfl]; rfl
theorem Keys_main (k n : Int) (s : ByteArray) (hk : byte k) (hn : Pu.i64 n) (x1 x2 : List Int) (x3 : Int) (hl : x1.length + x2.length ≤ 1048576) (b1 : bys x1) (b2 : bys x2)
    (f11 : Unit → Option Bool) (f16 : ((Int × Int × ByteArray × Unit) × Unit) → Option Bool) (f17 : ((Int × Int × ByteArray × Unit) × Unit) → Option (List Int × Int × Unit)) (f25 : (List Int × Int × Unit) → Option ((Int × Int × ByteArray × Unit) × Int × Int × Unit)) (f26 : ((Int × Int × ByteArray × Unit) × Unit) → Option (List Int)) (f27 : (List Int × Int × Unit) → Option ((Int × Int × ByteArray × Unit) × Int × Int × Unit))
    (h11 : f11 () = some true) (h16 : ∀ k n s, f16 ((k, n, s, ()), ()) = some (formR k n s)) (h17 : f17 ((k, n, s, ()), ()) = some (if formR k n s = true then (keyB k n s, 0, ()) else ([], 3, ())))
    (h25 : ∀ p : List Int, p.length ≤ 140737488351232 → bys p → ∀ i, f25 (p, i, ()) = some (readKey p i)) (h26 : formR k n s = true → f26 ((k, n, s, ()), ()) = some (keyB k n s)) (h27 : ∀ p : List Int, p.length ≤ 140737488351232 → bys p → ∀ i, f27 (p, i, ()) = some (readKey p i)) :
    w04_CodecKeys.b f11 f16 f17 f25 f26 f27 ((k, n, s, ()), x1, x2, x3, ()) = some true := by
  simp only [w04_CodecKeys.b, h11, Option.bind_some, Bool.not_true, cond_false]
  rw [h17, h16]
  simp only [Option.bind_some]
  have e25 := h25 x2 (by omega) b2 x3
  have e27 := h27 x2 (by omega) b2 x3
  cases h : formR k n s with
  | false =>
    rw [Bool.not_false, cond_true, if_neg (by decide), cond_f (ine_f.2 rfl), cond_f (igt_f.2 (by simp)), e25, e27]
    simp only [Option.bind_some]
    exact same_val _
  | true =>
    have q := keyB_len h
    have qb := keyB_bys h
    rw [Bool.not_true, cond_false, if_pos rfl]
    simp only []
    rw [chk_true (fits_iff.2 (by omega)), chk_true (fits_iff.2 (by omega)), chk_true (fits_iff.2 (by simp; omega)), h25 _ (by simp; omega) (bys_app.2 ⟨bys_app.2 ⟨b1, qb⟩, b2⟩), readKey_at _ x1 x2 hn h (List.append_assoc _ _ _)]
    simp only [Option.bind_some]
    rw [cond_f (ine_f.2 rfl), h26 h]
    simp only [Option.bind_some]
    rw [cond_f (by rw [sne_seq, seq_self]; rfl), cond_f (ine_f.2 rfl), cond_f (by rw [seq_self, ieq_iff.2 rfl, ieq_iff.2 rfl]; rfl), cond_f (ine_f.2 rfl), e25, e27]
    simp only [Option.bind_some]
    exact same_val _
theorem pure_CodecKeys (x0 : spα [.one (.int .u8), .one (.int .i64), .one .str]) (w0 : spWf [.one (.int .u8), .one (.int .i64), .one .str] x0) (x1 : List Int) (y1 : x1.length * 1 ≤ 140737488351232) (w1 : ∀ n ∈ x1, (Lit.int .u8 n).wf = true) (x2 : List Int) (y2 : x2.length * 1 ≤ 140737488351232) (w2 : ∀ n ∈ x2, (Lit.int .u8 n).wf = true) (x3 : Int) (w3 : (Lit.int .i64 x3).wf = true) (hb : x1.length + x2.length ≤ 1048576) : w04_CodecKeys (x0, x1, x2, x3, ()) = some true := by
  obtain ⟨k, n, s, _⟩ := x0
  obtain ⟨a1, a2, _⟩ := w0
  exact Keys_main k n s (byte_wf a1) (i64_wf a2) x1 x2 x3 hb (fun n hn => byte_wf (w1 n hn)) (fun n hn => byte_wf (w2 n hn))
    w04_awake r04_Form codec_Key codec_ReadKey r04_Key r04_ReadKey cod_awake r04_Form_eq (codec_Key_eq (byte_wf a1) (i64_wf a2) s) (fun p h1 h2 => codec_ReadKey_eq h1 h2) (fun h => r04_Key_eq (i64_wf a2) h) (fun p h1 h2 => r04_ReadKey_eq h1 h2)
end Go.Px
