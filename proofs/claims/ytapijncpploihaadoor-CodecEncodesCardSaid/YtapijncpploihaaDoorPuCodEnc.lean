/- codec.Encode, and the reference's Encode, Decode, Same. -/
import Derived.Test.YtapijncpploihaaDoorPuCodVals
set_option linter.unusedVariables false
set_option linter.unusedSimpArgs false
namespace Go.Px.Pu
open Go Go.Px
abbrev EO := List Int × Int × Unit
def encE (l : List Val) : EO := if 12 < l.length then ([], 2, ()) else if l.all okV = true then (encB l, 0, ()) else ([], 3, ())
def okL (l : List Val) : Prop := ∀ v ∈ l, byte v.1 ∧ i64 v.2.1
theorem encOne_len {v : Val} (h : okV v = true) : (encOne v).length ≤ 62 := by
  obtain ⟨k, n, s, ⟨⟩⟩ := v
  unfold okV at h
  dsimp only at h
  unfold encOne
  dsimp only
  rcases form_k h with rfl | rfl | rfl | rfl
  · simp
  · simp [intB_len]
  · have := (form2 h).2.1
    have hl := bytesOf_len s
    rw [if_neg (by decide), if_pos rfl]
    simp only [List.length_cons, hl]; omega
  · simp
theorem wrap_size {s : ByteArray} (h : s.size ≤ 60) : IntKind.wrap .u8 (s.size : Int) = (s.size : Int) := IntWalk.u8_in _ (by omega)
theorem enc0 (n : Int) (s : ByteArray) : encOne (0, n, s, ()) = [0] := by simp [encOne]
theorem enc1 (n : Int) (s : ByteArray) : encOne (1, n, s, ()) = [1] ++ intB n := by simp [encOne]
theorem enc2 (n : Int) (s : ByteArray) : encOne (2, n, s, ()) = [2] ++ ([(s.size : Int)] ++ bytesOf s) := by simp [encOne]
theorem enc3 (n : Int) (s : ByteArray) : encOne (3, n, s, ()) = [3] ++ [n] := by simp [encOne]
abbrev RS4 := List Val × List Int × Int × Unit
theorem rEnc_step (l : List Val) (acc : List Int) (i : Nat) (hi : i < l.length) (v : Val) (hv : l.getD i ((0 : Int), (0 : Int), ByteArray.empty, ()) = v) (hl : l.length ≤ 12) (ha : acc.length ≤ 100000)
    (f16 : (Val × Unit) → Option Bool) (h16 : f16 ((v.1, v.2.1, v.2.2.1, ()), ()) = some (okV v)) (f33 : (Int × Unit) → Option (List Int)) (h33 : f33 (v.2.1, ()) = some (intB v.2.1)) (kx : (List Int × Unit) → Option EO) (κ : RS4 → Option EO) :
    r04_Encode.s0b f16 f33 kx (l, acc, (i : Int), ()) κ = if okV v = true then κ (l, acc ++ encOne v, ((i + 1 : Nat) : Int), ()) else some ([], 3, ()) := by
  have hi1 : iadd .i64 (i : Int) 1 = ((i + 1 : Nat) : Int) := by rw [iadd64 (by omega)]; rfl
  obtain ⟨k, n, s, ⟨⟩⟩ := v
  simp only [r04_Encode.s0b, Int.toNat_natCast, hv, hi1]
  rw [cond_t (ilt_iff.2 (by omega)), chk_true (inB_iff.2 (by omega)), h16]
  simp only [Option.bind_some]
  cases ho : okV (k, n, s, ()) with
  | false => rfl
  | true =>
    unfold okV at ho
    dsimp only at ho h33
    rw [if_pos rfl, Bool.not_true, cond_f rfl, chk_true (fits_iff.2 (by omega))]
    rcases form_k ho with rfl | rfl | rfl | rfl
    · rw [cond_f (ieq_f.2 (by decide)), cond_f (ieq_f.2 (by decide)), cond_f (ieq_f.2 (by decide)), enc0]
    · rw [cond_t (ieq_iff.2 rfl), h33]
      simp only [Option.bind_some]
      rw [chk_true (fits_iff.2 (by simp [intB_len]; omega)), enc1, List.append_assoc]
    · have h2 := form2 ho
      have hb := bytesOf_len s
      rw [cond_f (ieq_f.2 (by decide)), cond_t (ieq_iff.2 rfl), chk_true (fits_iff.2 (by simp; omega)), chk_true (fits_iff.2 (by simp [hb]; omega)), wrap_size h2.2.1, enc2, List.append_assoc, List.append_assoc]
    · have h3 := form3 ho
      rw [cond_f (ieq_f.2 (by decide)), cond_f (ieq_f.2 (by decide)), cond_t (ieq_iff.2 rfl), chk_true (fits_iff.2 (by simp; omega)), wrap01 h3.2, enc3, List.append_assoc]
abbrev CS4 := List Int × List Val × Int × Int × Unit
theorem set_last (l : List Int) (x y : Int) (n : Nat) (hn : n = l.length) : (l ++ [x]).set n y = l ++ [y] := by
  subst hn; simp
theorem cEnc_step (l : List Val) (acc : List Int) (i : Nat) (hi : i < l.length) (v : Val) (hv : l.getD i ((0 : Int), (0 : Int), ByteArray.empty, ()) = v) (hl : l.length ≤ 12) (ha : acc.length ≤ 100000)
    (f30 : (Val × Unit) → Option (Dyn × Bool × Unit)) (h30 : f30 ((v.1, v.2.1, v.2.2.1, ()), ()) = some (castR v.1 v.2.1 v.2.2.1, okV v, ())) (f31 : (Int × Unit) → Option (List Int)) (h31 : f31 (v.2.1, ()) = some (intB v.2.1)) (kx : (List Int × Unit) → Option EO) (κ : CS4 → Option EO) :
    codec_Encode.s0b f30 f31 kx (acc, l, (l.length : Int), (i : Int), ()) κ = if okV v = true then κ (acc ++ encOne v, l, (l.length : Int), ((i + 1 : Nat) : Int), ()) else some ([], 3, ()) := by
  have hi1 : iadd .i64 (i : Int) 1 = ((i + 1 : Nat) : Int) := by rw [iadd64 (by omega)]; rfl
  obtain ⟨k, n, s, ⟨⟩⟩ := v
  simp only [codec_Encode.s0b, Int.toNat_natCast, hv, hi1]
  rw [cond_t (ilt_iff.2 (by omega)), chk_true (inB_iff.2 (by omega)), h30]
  simp only [Option.bind_some]
  cases ho : okV (k, n, s, ()) with
  | false => rfl
  | true =>
    unfold okV at ho
    dsimp only at ho h31
    rw [if_pos rfl, Bool.not_true, cond_f rfl, chk_true (fits_iff.2 (by omega))]
    rcases form_k ho with rfl | rfl | rfl | rfl
    · rw [castR0 ho, fit_n, chk_true rfl, is_n, cond_f rfl, fit_n, chk_true rfl, is_n, cond_f rfl, fit_n, chk_true rfl, is_n, cond_f rfl, enc0]
    · rw [castR1 ho, fit_i, chk_true rfl, is_i, cond_t rfl, as_i, h31]
      simp only [Option.bind_some]
      have e1 : fitT 9 .str (Dyn.val (.int 2 .i64 n)) = true := rfl
      have e2 : isT 9 (Dyn.val (.int 2 .i64 n)) = false := rfl
      have e3 : fitT 4 .bool (Dyn.val (.int 2 .i64 n)) = true := rfl
      have e4 : isT 4 (Dyn.val (.int 2 .i64 n)) = false := rfl
      rw [chk_true (fits_iff.2 (by simp [intB_len]; omega)), chk_true e1, cond_f e2, chk_true e3, cond_f e4, enc1, List.append_assoc]
    · have h2 := form2 ho
      have hb := bytesOf_len s
      have e3 : fitT 4 .bool (Dyn.val (.str 9 s)) = true := rfl
      have e4 : isT 4 (Dyn.val (.str 9 s)) = false := rfl
      rw [castR2 ho, fit_si, chk_true rfl, is_si, cond_f rfl, fit_s, chk_true rfl, is_s, cond_t rfl, as_s, chk_true (fits_iff.2 (by simp; omega)), chk_true (fits_iff.2 (by simp [hb]; omega)), chk_true e3, cond_f e4, wrap_size h2.2.1, enc2, List.append_assoc, List.append_assoc]
    · have h3 := form3 ho
      have e5 : asT .bool 4 (Dyn.val (.bool 4 (ieq n 1))) = ieq n 1 := rfl
      rw [castR3 ho, fit_bi, chk_true rfl, is_bi, cond_f rfl, fit_bs, chk_true rfl, is_bs, cond_f rfl, fit_b, chk_true rfl, is_b, cond_t rfl, chk_true (fits_iff.2 (by simp; omega)), e5, enc3]
      have hlen : (((acc ++ [(3 : Int)]) ++ [(0 : Int)]).length : Int) = (acc.length : Int) + 2 := by simp
      have hs1 : isub .i64 (((acc ++ [(3 : Int)]) ++ [(0 : Int)]).length : Int) 1 = (acc.length : Int) + 1 := by rw [hlen, isub64 (by omega)]; omega
      rcases h3.2 with rfl | rfl
      · rw [cond_f (by decide), List.append_assoc]
      · rw [cond_t (by decide), hs1, chk_true (inB_iff.2 (by rw [hlen]; omega))]
        rw [set_last (acc ++ [3]) 0 1 _ (by simp), List.append_assoc]
theorem rEnc_go (l : List Val) (hl : l.length ≤ 12) (hok : okL l) (f16 : (Val × Unit) → Option Bool) (h16 : ∀ v ∈ l, f16 ((v.1, v.2.1, v.2.2.1, ()), ()) = some (okV v)) (f33 : (Int × Unit) → Option (List Int)) (h33 : ∀ v ∈ l, f33 (v.2.1, ()) = some (intB v.2.1)) (kx : (List Int × Unit) → Option EO) (hkx : ∀ a, kx (a, ()) = some (a, 0, ())) :
    ∀ (k n i : Nat) (acc : List Int), l.length - i = k → k < n → i ≤ l.length → acc.length ≤ 1 + 62 * i → loopN n (r04_Encode.s0b f16 f33 kx) (l, acc, (i : Int), ()) = some (if (l.drop i).all okV = true then (acc ++ (l.drop i).flatMap encOne, 0, ()) else ([], 3, ()))
  | k, 0, i, acc, _, hn, _, _ => absurd hn (Nat.not_lt_zero _)
  | k, n + 1, i, acc, hk, hn, hi, ha => by
    simp only [loopN]
    by_cases hlt : i < l.length
    · cases k with
      | zero => omega
      | succ k =>
        have hx : l.getD i ((0 : Int), (0 : Int), ByteArray.empty, ()) = l[i] := by rw [List.getD_eq_getElem?_getD, List.getElem?_eq_getElem hlt]; rfl
        have hm := List.getElem_mem hlt
        rw [rEnc_step l acc i hlt l[i] hx hl (by omega) f16 (h16 _ hm) f33 (h33 _ hm) kx _, List.drop_eq_getElem_cons hlt]
        simp only [List.all_cons, List.flatMap_cons]
        cases ho : okV l[i] with
        | false => rw [if_neg (by decide), Bool.false_and, if_neg (by decide)]
        | true =>
          have hlen := encOne_len ho
          rw [if_pos rfl, Bool.true_and, rEnc_go l hl hok f16 h16 f33 h33 kx hkx k n (i + 1) _ (by omega) (by omega) (by omega) (by rw [List.length_append]; omega), List.append_assoc]
    · have hi2 : i = l.length := by omega
      subst hi2
      simp only [r04_Encode.s0b]
      rw [cond_f (ilt_f.2 (by omega)), hkx, List.drop_length]
      simp
theorem cEnc_go (l : List Val) (hl : l.length ≤ 12) (hok : okL l) (f30 : (Val × Unit) → Option (Dyn × Bool × Unit)) (h30 : ∀ v ∈ l, f30 ((v.1, v.2.1, v.2.2.1, ()), ()) = some (castR v.1 v.2.1 v.2.2.1, okV v, ())) (f31 : (Int × Unit) → Option (List Int)) (h31 : ∀ v ∈ l, f31 (v.2.1, ()) = some (intB v.2.1)) (kx : (List Int × Unit) → Option EO) (hkx : ∀ a, kx (a, ()) = some (a, 0, ())) :
    ∀ (k n i : Nat) (acc : List Int), l.length - i = k → k < n → i ≤ l.length → acc.length ≤ 1 + 62 * i → loopN n (codec_Encode.s0b f30 f31 kx) (acc, l, (l.length : Int), (i : Int), ()) = some (if (l.drop i).all okV = true then (acc ++ (l.drop i).flatMap encOne, 0, ()) else ([], 3, ()))
  | k, 0, i, acc, _, hn, _, _ => absurd hn (Nat.not_lt_zero _)
  | k, n + 1, i, acc, hk, hn, hi, ha => by
    simp only [loopN]
    by_cases hlt : i < l.length
    · cases k with
      | zero => omega
      | succ k =>
        have hx : l.getD i ((0 : Int), (0 : Int), ByteArray.empty, ()) = l[i] := by rw [List.getD_eq_getElem?_getD, List.getElem?_eq_getElem hlt]; rfl
        have hm := List.getElem_mem hlt
        rw [cEnc_step l acc i hlt l[i] hx hl (by omega) f30 (h30 _ hm) f31 (h31 _ hm) kx _, List.drop_eq_getElem_cons hlt]
        simp only [List.all_cons, List.flatMap_cons]
        cases ho : okV l[i] with
        | false => rw [if_neg (by decide), Bool.false_and, if_neg (by decide)]
        | true =>
          have hlen := encOne_len ho
          rw [if_pos rfl, Bool.true_and, cEnc_go l hl hok f30 h30 f31 h31 kx hkx k n (i + 1) _ (by omega) (by omega) (by omega) (by rw [List.length_append]; omega), List.append_assoc]
    · have hi2 : i = l.length := by omega
      subst hi2
      simp only [codec_Encode.s0b]
      rw [cond_f (ilt_f.2 (by omega)), hkx, List.drop_length]
      simp
theorem wrap_len {l : List Val} (h : l.length ≤ 12) : IntKind.wrap .u8 (l.length : Int) = (l.length : Int) := IntWalk.u8_in _ (by omega)
theorem rEnc_main (l : List Val) (l0 : RS4 → ((List Int × Unit) → Option EO) → Option EO)
    (h : l.length ≤ 12 → ∀ kx, (∀ a, kx (a, ()) = some (a, 0, ())) → l0 (l, [(l.length : Int)], 0, ()) kx = some (if l.all okV = true then ([(l.length : Int)] ++ l.flatMap encOne, 0, ()) else ([], 3, ()))) : r04_Encode.b l0 (l, ()) = some (encE l) := by
  simp only [r04_Encode.b]
  unfold encE
  by_cases h12 : 12 < l.length
  · rw [cond_t (igt_iff.2 (by omega)), if_pos h12]
  · rw [cond_f (igt_f.2 (by omega)), if_neg h12, wrap_len (by omega), h (by omega) _ (fun a => rfl)]
    rfl
theorem cEnc_main (l : List Val) (l0 : CS4 → ((List Int × Unit) → Option EO) → Option EO)
    (h : l.length ≤ 12 → ∀ kx, (∀ a, kx (a, ()) = some (a, 0, ())) → l0 ([(l.length : Int)], l, (l.length : Int), 0, ()) kx = some (if l.all okV = true then ([(l.length : Int)] ++ l.flatMap encOne, 0, ()) else ([], 3, ()))) : codec_Encode.b l0 (l, ()) = some (encE l) := by
  simp only [codec_Encode.b]
  unfold encE
  by_cases h12 : 12 < l.length
  · rw [cond_t (igt_iff.2 (by omega)), if_pos h12]
  · rw [cond_f (igt_f.2 (by omega)), if_neg h12, wrap_len (by omega), h (by omega) _ (fun a => rfl)]
    rfl
theorem r04_Encode_eq (l : List Val) (hok : okL l) : r04_Encode (l, ()) = some (encE l) :=
  rEnc_main l r04_Encode.l0 fun hl kx hkx => by
    have hn : l.length < r04_Encode.n0 (l, [(l.length : Int)], 0, ()) := by simp only [r04_Encode.n0]; omega
    unfold r04_Encode.l0
    generalize r04_Encode.n0 (l, [(l.length : Int)], 0, ()) = n at hn
    exact rEnc_go l hl hok r04_Form (fun v _ => r04_Form_eq v.1 v.2.1 v.2.2.1) r02_Int (fun v hv => r02_Int_eq (hok v hv).2) kx hkx l.length n 0 _ rfl hn (by omega) (by simp)
theorem codec_Encode_eq (l : List Val) (hok : okL l) : codec_Encode (l, ()) = some (encE l) :=
  cEnc_main l codec_Encode.l0 fun hl kx hkx => by
    have hn : l.length < codec_Encode.n0 ([(l.length : Int)], l, (l.length : Int), 0, ()) := by simp only [codec_Encode.n0]; omega
    unfold codec_Encode.l0
    generalize codec_Encode.n0 ([(l.length : Int)], l, (l.length : Int), 0, ()) = n at hn
    exact cEnc_go l hl hok codec_cast (fun v hv => cast_eq (hok v hv).1 v.2.1 v.2.2.1) octet_Int (fun v hv => octet_Int_eq (hok v hv).2) kx hkx l.length n 0 _ rfl hn (by omega) (by simp)
end Go.Px.Pu
