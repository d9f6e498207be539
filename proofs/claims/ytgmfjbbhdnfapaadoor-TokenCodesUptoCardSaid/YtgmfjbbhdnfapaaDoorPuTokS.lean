/- Claims as texts with a tag: Sign and Verify, the program's and the reference's. -/
import Derived.Test.YtgmfjbbhdnfapaaDoorPuTok
import Derived.Test.YtgmfjbbhdnfapaaDoorPuShaV
import Derived.Test.YtgmfjbbhdnfapaaDoorPuB64w
import Derived.Test.YtgmfjbbhdnfapaaDoorPuEqual
set_option linter.unusedVariables false
set_option linter.unusedSimpArgs false
namespace Go.Px.Pu
open Go Go.Px
def baseT (l : List Int) : ByteArray := strOf ((encF (encL l)).map ch)
def sigT (key : List Int) (c : Cl) : List Int := encT c ++ tag key (encT c)
def textT (key : List Int) (c : Cl) : ByteArray := baseT (sigT key c)
theorem sigT_len (key : List Int) (c : Cl) : (sigT key c).length = 66 + c.2.1.size := by
  unfold sigT
  rw [List.length_append, encT_len, tag_len]; omega
theorem sigT_bys {c : Cl} (h : okC c) (key : List Int) : ∀ n ∈ sigT key c, byte n := bys_app.2 ⟨encT_bys h, tag_byte _ _⟩
theorem tSign_main (key : List Int) (c : Cl) (v : Bool) (e t : List Int) (b : ByteArray) (hl : e.length + t.length ≤ 1000000) (f27 : (Cl × Unit) → Option (List Int × Int × Unit)) (f41 : (List Int × Unit) → Option ByteArray) (f53 : (List Int × List Int × Unit) → Option (List Int))
    (h27 : f27 (c, ()) = some (if v = true then (e, 0, ()) else ([], 3, ()))) (h53 : v = true → f53 (key, e, ()) = some t) (h41 : v = true → f41 (e ++ t, ()) = some b) : token_Sign.b f27 f41 f53 (key, c, ()) = some (if v = true then (b, 0, ()) else ((⟨#[]⟩ : ByteArray), 3, ())) := by
  simp only [token_Sign.b]
  rw [show f27 ((c.1, c.2.1, c.2.2.1, c.2.2.2.1, c.2.2.2.2.1, c.2.2.2.2.2.1, ()), ()) = some (if v = true then (e, 0, ()) else ([], 3, ())) from h27]
  simp only [Option.bind_some]
  cases v with
  | false => rw [if_neg (by decide), if_neg (by decide), cond_t (ine_iff.2 (by decide))]
  | true =>
    rw [if_pos rfl, if_pos rfl, cond_f (ine_f.2 rfl), h53 rfl]
    simp only [Option.bind_some]
    rw [chk_true (fits_iff.2 (by omega)), h41 rfl]; rfl
theorem token_Sign_eq {key : List Int} (hk : key.length ≤ 900000) {c : Cl} (h : okC c) (hs : c.2.1.size ≤ 800000) : token_Sign (key, c, ()) = some (if formC c = true then (textT key c, 0, ()) else ((⟨#[]⟩ : ByteArray), 3, ())) :=
  tSign_main key c (formC c) (encT c) (tag key (encT c)) (textT key c) (by rw [encT_len, tag_len]; omega) token_Encode codec_Base digest_Tag (token_Encode_eq h) (fun _ => tag_eq key _ hk (by rw [encT_len]; omega)) (fun hf => base_eq (sigT key c) (by rw [sigT_len]; omega) (sigT_bys h key))
theorem rSign_main (T : List Int × List Int × Unit) (key : List Int) (c : Cl) (e t : List Int) (b : ByteArray) (hl : e.length + t.length ≤ 1000000) (f29 : (Cl × Unit) → Option (List Int)) (f37 : ((List Int × List Int × Unit) × List Int × List Int × Unit) → Option (List Int)) (f44 : (List Int × Unit) → Option ByteArray)
    (h29 : f29 (c, ()) = some e) (h37 : f37 (T, key, e, ()) = some t) (h44 : f44 (e ++ t, ()) = some b) : r19_Sign.b f29 f37 f44 (T, key, c, ()) = some b := by
  simp only [r19_Sign.b]
  rw [show f29 ((c.1, c.2.1, c.2.2.1, c.2.2.2.1, c.2.2.2.2.1, c.2.2.2.2.2.1, ()), ()) = some e from h29]
  simp only [Option.bind_some]
  rw [show f37 ((T.1, T.2.1, ()), key, e, ()) = some t from h37]
  simp only [Option.bind_some]
  rw [chk_true (fits_iff.2 (by omega)), h44]; rfl
theorem r19_Sign_eq {key : List Int} (hk : key.length ≤ 900000) (bk : ∀ n ∈ key, byte n) {c : Cl} (h : okC c) (hs : c.2.1.size ≤ 800000) : r19_Sign ((gv_dfirst, gv_dparts, ()), key, c, ()) = some (textT key c) :=
  rSign_main _ key c (encT c) (tag key (encT c)) (textT key c) (by rw [encT_len, tag_len]; omega) r19_Encode r01_Tag r04_Base (r19_Encode_eq h (by omega)) (rtag_eq key _ hk (by rw [encT_len]; omega) bk (encT_bys h)) (rbase_eq (sigT key c) (by rw [sigT_len]; omega) (sigT_bys h key))
/-! ### verified -/
abbrev VR := Cl × Int × Unit
def verV (v : Bool) (c : Cl) (same : Bool) (now : Int) : VR :=
  if v = false then (zeroC, 3, ()) else if same = false then (zeroC, 15, ()) else if now < c.2.2.2.2.1 then (zeroC, 14, ()) else if c.2.2.2.2.2.1 ≤ now then (zeroC, 14, ()) else (c, 0, ())
def hdL (l : List Int) : List Int := l.take (l.length - 32)
def tlL (l : List Int) : List Int := l.drop (l.length - 32)
def verL (key l : List Int) (now : Int) : VR := if l.length < 32 then (zeroC, 3, ()) else verV (decT (hdL l)) (decC (hdL l)) (leq (tag key (hdL l)) (tlL l)) now
theorem ver_tail (c : Cl) (same : Bool) (now : Int) : (cond (!same) (some (zeroC, 15, ())) (cond (ilt now c.2.2.2.2.1) (some (zeroC, 14, ())) (cond (ige now c.2.2.2.2.2.1) (some (zeroC, 14, ())) (some ((c.1, c.2.1, c.2.2.1, c.2.2.2.1, c.2.2.2.2.1, c.2.2.2.2.2.1, ()), 0, ())))) : Option VR) = some (verV true c same now) := by
  unfold verV
  rw [if_neg (by decide)]
  cases same with
  | false => rfl
  | true =>
    rw [Bool.not_true, cond_false, if_neg (by decide)]
    by_cases h1 : now < c.2.2.2.2.1
    · rw [cond_t (ilt_iff.2 h1), if_pos h1]
    · rw [cond_f (ilt_f.2 (by omega)), if_neg h1]
      by_cases h2 : c.2.2.2.2.2.1 ≤ now
      · rw [cond_t (ige_iff.2 h2), if_pos h2]
      · rw [cond_f (ige_f.2 (by omega)), if_neg h2]
theorem hd_take {l : List Int} (h : 32 ≤ l.length) (hl : l.length ≤ 1000000) : (l.drop 0).take ((((isub .i64 (l.length : Int) 32) : Int) - 0).toNat) = hdL l := by
  rw [isub64 (by omega), List.drop_zero, show ((l.length : Int) - 32 - 0).toNat = l.length - 32 by omega]; rfl
theorem tl_drop {l : List Int} (h : 32 ≤ l.length) (hl : l.length ≤ 1000000) : (l.drop (isub .i64 (l.length : Int) 32).toNat).take (((l.length : Int) - (isub .i64 (l.length : Int) 32)).toNat) = tlL l := by
  rw [isub64 (by omega), show ((l.length : Int) - 32).toNat = l.length - 32 by omega]
  exact List.take_of_length_le (by simp; omega)
theorem tVerify_main (key : List Int) (s : ByteArray) (now : Int) (l : List Int) (hl : l.length ≤ 1000000) (v same : Bool) (c : Cl) (t : List Int) (f28 : (List Int × Unit) → Option (Cl × Int × Unit)) (f40 : (List Int × List Int × Unit) → Option Bool) (f42 : (ByteArray × Unit) → Option (List Int × Int × Unit)) (f53 : (List Int × List Int × Unit) → Option (List Int))
    (h42 : f42 (s, ()) = some (l, 0, ())) (h28 : f28 (hdL l, ()) = some (if v = true then (c, 0, ()) else (zeroC, 3, ()))) (h53 : f53 (key, hdL l, ()) = some t) (h40 : f40 (t, tlL l, ()) = some same) :
    token_Verify.b f28 f40 f42 f53 (key, s, now, ()) = some (if l.length < 32 then (zeroC, 3, ()) else verV v c same now) := by
  simp only [token_Verify.b, h42, Option.bind_some]
  rw [cond_f (ine_f.2 rfl)]
  by_cases h : l.length < 32
  · rw [cond_t (ilt_iff.2 (by omega)), if_pos h]; rfl
  · have hc : ∀ {α : Type} (k : Option α), chk (leB 0 0 && (leB 0 (isub .i64 (l.length : Int) 32) && leB (isub .i64 (l.length : Int) 32) l.length)) k = k := fun k => chk_true (by rw [isub64 (by omega)]; simp [leB]; omega)
    have hc2 : ∀ {α : Type} (k : Option α), chk (leB 0 (isub .i64 (l.length : Int) 32) && (leB (isub .i64 (l.length : Int) 32) l.length && leB l.length l.length)) k = k := fun k => chk_true (by rw [isub64 (by omega)]; simp [leB]; omega)
    rw [cond_f (ilt_f.2 (by omega)), if_neg h, hc, hd_take (by omega) hl, h28]
    simp only [Option.bind_some]
    cases v with
    | false => rw [if_neg (by decide), cond_t (ine_iff.2 (by decide))]; rfl
    | true =>
      rw [if_pos rfl, cond_f (ine_f.2 rfl), hc, h53]
      simp only [Option.bind_some]
      rw [hc2, tl_drop (by omega) hl, h40]
      exact ver_tail c same now
theorem rVerify_main (T : List Int × List Int × Unit) (key : List Int) (s : ByteArray) (now : Int) (l : List Int) (hl : l.length ≤ 1000000) (v same : Bool) (c : Cl) (t : List Int) (f23 : (ByteArray × Unit) → Option (List Int × Int × Unit)) (f30 : (List Int × Unit) → Option (Cl × Bool × Unit)) (f37 : ((List Int × List Int × Unit) × List Int × List Int × Unit) → Option (List Int))
    (h23 : f23 (s, ()) = some (l, 0, ())) (h30 : f30 (hdL l, ()) = some (if v = true then (c, true, ()) else (zeroC, false, ()))) (h37 : f37 (T, key, hdL l, ()) = some t) (hs : seq (strOf t) (strOf (tlL l)) = same) :
    r19_Verify.b f23 f30 f37 (T, key, s, now, ()) = some (if l.length < 32 then (zeroC, 3, ()) else verV v c same now) := by
  simp only [r19_Verify.b, h23, Option.bind_some]
  rw [cond_f (ine_f.2 rfl)]
  by_cases h : l.length < 32
  · rw [cond_t (ilt_iff.2 (by omega)), if_pos h]; rfl
  · have hc : ∀ {α : Type} (k : Option α), chk (leB 0 0 && (leB 0 (isub .i64 (l.length : Int) 32) && leB (isub .i64 (l.length : Int) 32) l.length)) k = k := fun k => chk_true (by rw [isub64 (by omega)]; simp [leB]; omega)
    have hc2 : ∀ {α : Type} (k : Option α), chk (leB 0 (isub .i64 (l.length : Int) 32) && (leB (isub .i64 (l.length : Int) 32) l.length && leB l.length l.length)) k = k := fun k => chk_true (by rw [isub64 (by omega)]; simp [leB]; omega)
    rw [cond_f (ilt_f.2 (by omega)), if_neg h, hc, hd_take (by omega) hl, h30]
    simp only [Option.bind_some]
    cases v with
    | false => rw [if_neg (by decide), Bool.not_false, cond_true]; rfl
    | true =>
      rw [if_pos rfl, Bool.not_true, cond_false, hc, show f37 ((T.1, T.2.1, ()), key, hdL l, ()) = some t from h37]
      simp only [Option.bind_some]
      rw [hc2, tl_drop (by omega) hl, sne_seq, hs]
      exact ver_tail c same now
theorem tVerify_bad (key : List Int) (s : ByteArray) (now : Int) (f28 f40 f42 f53) (h42 : f42 (s, ()) = some ([], 3, ())) : token_Verify.b f28 f40 f42 f53 (key, s, now, ()) = some (zeroC, 3, ()) := by
  simp only [token_Verify.b, h42, Option.bind_some]
  rw [cond_t (ine_iff.2 (by decide))]; rfl
theorem rVerify_bad (T : List Int × List Int × Unit) (key : List Int) (s : ByteArray) (now : Int) (f23 f30 f37) (h23 : f23 (s, ()) = some ([], 3, ())) : r19_Verify.b f23 f30 f37 (T, key, s, now, ()) = some (zeroC, 3, ()) := by
  simp only [r19_Verify.b, h23, Option.bind_some]
  rw [cond_t (ine_iff.2 (by decide))]; rfl
theorem hdL_bys {l : List Int} (h : bys l) : bys (hdL l) := fun n hn => h n (List.mem_of_mem_take hn)
theorem tlL_bys {l : List Int} (h : bys l) : bys (tlL l) := fun n hn => h n (List.mem_of_mem_drop hn)
theorem hdL_len (l : List Int) : (hdL l).length ≤ l.length := by unfold hdL; simp
theorem leq_seq {a b : List Int} (ha : bys a) (hb : bys b) : seq (strOf a) (strOf b) = leq a b := by
  rw [seq_str ha hb, leq, Bool.eq_iff_iff, decide_eq_true_eq, beq_iff_eq]
/-- both read a text alike, and answer alike -/
theorem verify_both (key : List Int) (hk : key.length ≤ 900000) (bk : bys key) (s : ByteArray) (hs : s.size ≤ 100000) (now : Int) :
    (token_Verify (key, s, now, ()) = some (zeroC, 3, ()) ∧ r19_Verify ((gv_dfirst, gv_dparts, ()), key, s, now, ()) = some (zeroC, 3, ())) ∨
    ∃ l : List Int, bys l ∧ l.length ≤ 100000 ∧ codec_ReadBase (s, ()) = some (l, 0, ()) ∧ baseT l = s ∧ token_Verify (key, s, now, ()) = some (verL key l now) ∧ r19_Verify ((gv_dfirst, gv_dparts, ()), key, s, now, ()) = some (verL key l now) := by
  rcases rread_eq s hs with ⟨h1, h2⟩ | ⟨l, hb, hl, h1, h2, h3⟩
  · exact .inl ⟨tVerify_bad key s now token_Decode digest_Equal codec_ReadBase digest_Tag h1, rVerify_bad _ key s now r04_ReadBase r19_Decode r01_Tag h2⟩
  · have g := hdL_len l
    refine .inr ⟨l, hb, hl, h1, h3, ?_, ?_⟩
    · exact tVerify_main key s now l (by omega) (decT (hdL l)) _ (decC (hdL l)) (tag key (hdL l)) token_Decode digest_Equal codec_ReadBase digest_Tag h1 (token_Decode_eq (by omega) (hdL_bys hb)) (tag_eq key _ hk (by omega)) (equal_eq _ _ (tag_byte _ _) (tlL_bys hb) (by rw [tag_len]; omega))
    · exact rVerify_main _ key s now l (by omega) (decT (hdL l)) _ (decC (hdL l)) (tag key (hdL l)) r04_ReadBase r19_Decode r01_Tag h2 (r19_Decode_eq (by omega) (hdL_bys hb)) (rtag_eq key _ hk (by omega) bk (hdL_bys hb)) (leq_seq (tag_byte _ _) (tlL_bys hb))
theorem hd_sig (key : List Int) (c : Cl) : hdL (sigT key c) = encT c ∧ tlL (sigT key c) = tag key (encT c) := by
  have hl : (sigT key c).length - 32 = (encT c).length := by unfold sigT; rw [List.length_append, tag_len]; omega
  unfold hdL tlL
  rw [hl]
  exact ⟨List.take_left .., List.drop_left ..⟩
theorem textT_size {key : List Int} {c : Cl} (h : okC c) : (textT key c).size = (8 * (66 + c.2.1.size) + 5) / 6 := by
  unfold textT baseT
  rw [strOf_size, List.length_map, encF_grp _ (sigT_bys h key), List.length_map, List.length_range, sigT_len]
/-- what was signed by one key, by another -/
theorem verL_sig (key key' : List Int) {c : Cl} (h : okC c) (hf : formC c = true) (now : Int) : verL key (sigT key' c) now = verV true c (leq (tag key (encT c)) (tag key' (encT c))) now := by
  obtain ⟨e1, e2⟩ := hd_sig key' c
  unfold verL
  rw [if_neg (by rw [sigT_len]; omega), e1, e2, decT_enc h hf, dec_encT h]
theorem verify_text {key : List Int} (hk : key.length ≤ 900000) (bk : bys key) (key' : List Int) {c : Cl} (h : okC c) (hf : formC c = true) (now : Int) :
    token_Verify (key, textT key' c, now, ()) = some (verV true c (leq (tag key (encT c)) (tag key' (encT c))) now) ∧ r19_Verify ((gv_dfirst, gv_dparts, ()), key, textT key' c, now, ()) = some (verV true c (leq (tag key (encT c)) (tag key' (encT c))) now) := by
  have hs := (form_p hf).size
  have hsz := textT_size (key := key') h
  have hr : codec_ReadBase (textT key' c, ()) = some (sigT key' c, 0, ()) := read_back (sigT key' c) (by rw [sigT_len]; omega) (sigT_bys h key')
  rw [← verL_sig key key' h hf]
  rcases rread_eq (textT key' c) (by omega) with ⟨h1, _⟩ | ⟨l, hb, hl, h1, h2, h3⟩
  · rw [hr] at h1; cases h1
  · rw [hr] at h1
    cases h1
    have g := hdL_len (sigT key' c)
    constructor
    · exact tVerify_main key _ now _ (by omega) (decT (hdL _)) _ (decC (hdL _)) (tag key (hdL _)) token_Decode digest_Equal codec_ReadBase digest_Tag hr (token_Decode_eq (by omega) (hdL_bys hb)) (tag_eq key _ hk (by omega)) (equal_eq _ _ (tag_byte _ _) (tlL_bys hb) (by rw [tag_len]; omega))
    · exact rVerify_main _ key _ now _ (by omega) (decT (hdL _)) _ (decC (hdL _)) (tag key (hdL _)) r04_ReadBase r19_Decode r01_Tag h2 (r19_Decode_eq (by omega) (hdL_bys hb)) (rtag_eq key _ hk (by omega) bk (hdL_bys hb)) (leq_seq (tag_byte _ _) (tlL_bys hb))
/-- claims alike -/
def sameC (a b : Cl) : Bool := (ieq a.1 b.1) && ((seq a.2.1 b.2.1) && ((ieq a.2.2.1 b.2.2.1) && ((ieq a.2.2.2.1 b.2.2.2.1) && ((ieq a.2.2.2.2.1 b.2.2.2.2.1) && ((ieq a.2.2.2.2.2.1 b.2.2.2.2.2.1) && true)))))
theorem sameC_iff (a b : Cl) : sameC a b = true ↔ a = b := by
  obtain ⟨a1, a2, a3, a4, a5, a6, _⟩ := a
  obtain ⟨b1, b2, b3, b4, b5, b6, _⟩ := b
  simp only [sameC, Bool.and_eq_true, Bool.and_true, ieq_iff, seq_bytes, decide_eq_true_eq, Prod.mk.injEq, and_true]
theorem sameC_self (a : Cl) : sameC a a = true := (sameC_iff a a).2 rfl
theorem verV_ok (c : Cl) (now : Int) : (verV true c true now).2.1 = 0 ↔ c.2.2.2.2.1 ≤ now ∧ now < c.2.2.2.2.2.1 := by
  unfold verV
  rw [if_neg (by decide), if_neg (by decide)]
  by_cases h1 : now < c.2.2.2.2.1
  · rw [if_pos h1]; simp; omega
  · rw [if_neg h1]
    by_cases h2 : c.2.2.2.2.2.1 ≤ now
    · rw [if_pos h2]; simp; omega
    · rw [if_neg h2]; simp; omega
theorem verV_in {c : Cl} {now : Int} (h1 : c.2.2.2.2.1 ≤ now) (h2 : now < c.2.2.2.2.2.1) : verV true c true now = (c, 0, ()) := by
  unfold verV
  rw [if_neg (by decide), if_neg (by decide), if_neg (by omega), if_neg (by omega)]
theorem verV_ne (c : Cl) (now : Int) : verV true c false now = (zeroC, 15, ()) := rfl
theorem verV_late {c : Cl} {now : Int} (h1 : ¬ now < c.2.2.2.2.1) (h2 : c.2.2.2.2.2.1 ≤ now) : verV true c true now = (zeroC, 14, ()) := by
  unfold verV
  rw [if_neg (by decide), if_neg (by decide), if_neg h1, if_pos h2]
theorem leq_refl (a : List Int) : leq a a = true := by simp [leq]
theorem leq_iff {a b : List Int} : leq a b = true ↔ a = b := by simp [leq]
/-- only one text for claims and a tag -/
theorem base_inj {l m : List Int} (hl : bys l) (hm : bys m) (h1 : l.length ≤ 1000000) (h2 : m.length ≤ 1000000) (h : baseT l = baseT m) : l = m := by
  have e1 : codec_ReadBase (baseT l, ()) = some (l, 0, ()) := read_back l h1 hl
  have e2 : codec_ReadBase (baseT m, ()) = some (m, 0, ()) := read_back m h2 hm
  rw [h, e2] at e1
  cases e1; rfl
end Go.Px.Pu
