/- Claims: Form, Encode, Decode, the program's and the reference's. -/
import Derived.Test.YtgmfjbbhdnfapaaDoorPuNamRef
import Derived.Test.YtgmfjbbhdnfapaaDoorPuOctUintW
set_option linter.unusedVariables false
set_option linter.unusedSimpArgs false
namespace Go.Px.Pu
open Go Go.Px
abbrev Cl := Int × ByteArray × Int × Int × Int × Int × Unit
def i64r (n : Int) : Prop := -9223372036854775808 ≤ n ∧ n ≤ 9223372036854775807
def u64r (n : Int) : Prop := 0 ≤ n ∧ n < 256 ^ 8
def zeroC : Cl := (0, ByteArray.empty, 0, 0, 0, 0, ())
structure okC (c : Cl) : Prop where
  id : u64r c.1
  role : byte c.2.2.1
  stamp : u64r c.2.2.2.1
  iss : i64r c.2.2.2.2.1
  unt : i64r c.2.2.2.2.2.1
def fr (s : ByteArray) : FT := resF (foldG s.size s 0 [])
def formV (R : FT) (c : Cl) : Bool := ige c.1 1 && (ieq R.2.2.1 0 && (seq R.1 c.2.1 && (ige c.2.2.1 1 && (ile c.2.2.1 3 && (ige c.2.2.2.2.1 0 && (igt c.2.2.2.2.2.1 c.2.2.2.2.1 && ile c.2.2.2.2.2.1 1099511627776))))))
def formC (c : Cl) : Bool := formV (fr c.2.1) c
theorem cnd (a b : Bool) : cond a (some b) (some false) = some (a && b) := by cases a <;> rfl
theorem tForm_main (c : Cl) (R : FT) (f46 : (ByteArray × Unit) → Option FT) (h : f46 (c.2.1, ()) = some R) : token_Form.b f46 (c, ()) = some (formV R c) := by
  simp only [token_Form.b, h, Option.bind_some, cnd, formV]
theorem rForm_main' (c : Cl) (R : FT) (f47 : (ByteArray × Unit) → Option FT) (h : f47 (c.2.1, ()) = some R) : r19_Form.b f47 (c, ()) = some (formV R c) := by
  have e : igt c.1 0 = ige c.1 1 := by rw [Bool.eq_iff_iff, igt_iff, ige_iff]; omega
  have e2 : ilt c.2.2.2.2.1 c.2.2.2.2.2.1 = igt c.2.2.2.2.2.1 c.2.2.2.2.1 := by rw [Bool.eq_iff_iff, ilt_iff, igt_iff]
  simp only [r19_Form.b, h, Option.bind_some, cnd, formV, e, e2]
theorem token_Form_eq (c : Cl) : token_Form (c, ()) = some (formC c) := tForm_main c _ naming_Fold (naming_Fold_eq c.2.1)
theorem r19_Form_eq (c : Cl) (h : c.2.1.size ≤ 1000000000) : r19_Form (c, ()) = some (formC c) := rForm_main' c _ r03_Fold (r03_Fold_eq h)
theorem foldG_err : (k : Nat) → (s : ByteArray) → (p : Nat) → (t : List Int) → ∀ q e, foldG k s p t = .bad q e → e ≠ 0
  | 0, s, p, t, q, e, h => by cases h
  | k + 1, s, p, t, q, e, h => by
    simp only [foldG] at h
    split at h
    · split at h
      · cases h; decide
      · split at h
        · cases h; decide
        · exact foldG_err k s _ _ q e h
    · cases h
theorem fr_size (s : ByteArray) (h : (fr s).2.2.1 = 0) : (fr s).1.size ≤ 32 := by
  unfold fr at h ⊢
  cases hg : foldG s.size s 0 [] with
  | bad q e =>
    rw [hg] at h
    exact absurd h (foldG_err _ _ _ _ q e hg)
  | ok t =>
    rw [hg] at h
    simp only [resF] at h ⊢
    unfold finF at h ⊢
    split
    · decide
    · split
      · assumption
      · decide
structure formP (c : Cl) : Prop where
  size : c.2.1.size ≤ 32
  lt : c.2.2.2.2.1 < c.2.2.2.2.2.1
theorem form_p {c : Cl} (h : formC c = true) : formP c := by
  unfold formC formV at h
  simp only [Bool.and_eq_true, ieq_iff, igt_iff] at h
  obtain ⟨_, h1, h2, _, _, _, h3, _⟩ := h
  have := fr_size c.2.1 h1
  rw [seq_bytes, decide_eq_true_eq] at h2
  exact ⟨by rw [← h2]; exact this, h3⟩
def encT (c : Cl) : List Int := (((((([84] ++ digs 8 c.1) ++ [c.2.2.1]) ++ digs 8 c.2.2.2.1) ++ intB c.2.2.2.2.1) ++ intB c.2.2.2.2.2.1) ++ bytesOf c.2.1)
theorem intB_l (n : Int) : (intB n).length = 8 := digs_len 8 _
theorem encT_len (c : Cl) : (encT c).length = 34 + c.2.1.size := by
  unfold encT
  simp only [List.length_append, List.length_cons, List.length_nil, digs_len, intB_l, bytesOf_len]
theorem encT_bys {c : Cl} (h : okC c) : bys (encT c) := by
  unfold encT
  have h84 : byte 84 := ⟨by decide, by decide⟩
  exact bys_app.2 ⟨bys_app.2 ⟨bys_app.2 ⟨bys_app.2 ⟨bys_app.2 ⟨bys_app.2 ⟨bys_cons.2 ⟨h84, bys_nil⟩, digs_bys 8 _⟩, bys_cons.2 ⟨h.role, bys_nil⟩⟩, digs_bys 8 _⟩, digs_bys 8 _⟩, digs_bys 8 _⟩, bys_of _⟩
theorem encode_chks (c : Cl) (hs : c.2.1.size ≤ 1000000000) {α : Type} (k : Option α) :
    (chk (fits 1 (1 + (digs 8 c.1).length)) <| chk (fits 1 (([84] ++ digs 8 c.1).length + 1)) <| chk (fits 1 ((([84] ++ digs 8 c.1) ++ [c.2.2.1]).length + (digs 8 c.2.2.2.1).length)) <|
      chk (fits 1 (((([84] ++ digs 8 c.1) ++ [c.2.2.1]) ++ digs 8 c.2.2.2.1).length + (intB c.2.2.2.2.1).length)) <| chk (fits 1 ((((([84] ++ digs 8 c.1) ++ [c.2.2.1]) ++ digs 8 c.2.2.2.1) ++ intB c.2.2.2.2.1).length + (intB c.2.2.2.2.2.1).length)) <|
      chk (fits 1 (((((([84] ++ digs 8 c.1) ++ [c.2.2.1]) ++ digs 8 c.2.2.2.1) ++ intB c.2.2.2.2.1) ++ intB c.2.2.2.2.2.1).length + (bytesOf c.2.1).length)) k) = k := by
  simp only [List.length_append, List.length_cons, List.length_nil, digs_len, intB_l, bytesOf_len]
  rw [chk_true (fits_iff.2 (by omega)), chk_true (fits_iff.2 (by omega)), chk_true (fits_iff.2 (by omega)), chk_true (fits_iff.2 (by omega)), chk_true (fits_iff.2 (by omega)), chk_true (fits_iff.2 (by omega))]
theorem tEncode_main (c : Cl) (v : Bool) (hv : v = true → c.2.1.size ≤ 1000000000) (f25 : (Cl × Unit) → Option Bool) (f36 f48 : (Int × Unit) → Option (List Int)) (h25 : f25 (c, ()) = some v) (h36 : ∀ u, f36 (u, ()) = some (digs 8 u)) (h1 : f48 (c.2.2.2.2.1, ()) = some (intB c.2.2.2.2.1)) (h2 : f48 (c.2.2.2.2.2.1, ()) = some (intB c.2.2.2.2.2.1)) :
    token_Encode.b f25 f36 f48 (c, ()) = some (if v = true then (encT c, 0, ()) else ([], 3, ())) := by
  simp only [token_Encode.b]
  rw [show f25 ((c.1, c.2.1, c.2.2.1, c.2.2.2.1, c.2.2.2.2.1, c.2.2.2.2.2.1, ()), ()) = some v from h25]
  simp only [Option.bind_some]
  cases v with
  | false => rfl
  | true =>
    rw [Bool.not_true, cond_false, h36, h36, h1, h2, if_pos rfl]
    simp only [Option.bind_some]
    exact encode_chks c (hv rfl) _
theorem token_Encode_eq {c : Cl} (h : okC c) : token_Encode (c, ()) = some (if formC c = true then (encT c, 0, ()) else ([], 3, ())) :=
  tEncode_main c (formC c) (fun hf => by have := (form_p hf).size; omega) token_Form octet_Uint octet_Int (token_Form_eq c) octet_Uint_eq (octet_Int_eq h.iss) (octet_Int_eq h.unt)
theorem rEncode_main (c : Cl) (hs : c.2.1.size ≤ 1000000000) (f36 f48 : (Int × Unit) → Option (List Int)) (h36 : ∀ u, f36 (u, ()) = some (digs 8 u)) (h1 : f48 (c.2.2.2.2.1, ()) = some (intB c.2.2.2.2.1)) (h2 : f48 (c.2.2.2.2.2.1, ()) = some (intB c.2.2.2.2.2.1)) :
    r19_Encode.b f36 f48 (c, ()) = some (encT c) := by
  simp only [r19_Encode.b, h36, h1, h2, Option.bind_some]
  exact encode_chks c hs _
theorem r19_Encode_eq {c : Cl} (h : okC c) (hs : c.2.1.size ≤ 1000000000) : r19_Encode (c, ()) = some (encT c) := rEncode_main c hs r02_Uint r02_Int r02_Uint_eq (r02_Int_eq h.iss) (r02_Int_eq h.unt)
/-! ### back -/
def decC (p : List Int) : Cl := ((readU p 1).1, strOf (p.drop 34), p.getD 9 0, (readU p 10).1, (readI p 18).1, (readI p 26).1, ())
theorem digs_be : (k : Nat) → (l : List Int) → l.length = k → bys l → digs k (be l) = l
  | 0, l, hl, _ => by rw [List.length_eq_zero_iff.1 hl]; rfl
  | k + 1, l, hl, hb => by
    have hne : l ≠ [] := fun e => by rw [e] at hl; cases hl
    have e := List.dropLast_concat_getLast hne
    have hb' : bys (l.dropLast ++ [l.getLast hne]) := by rw [e]; exact hb
    obtain ⟨b1, b2⟩ := bys_app.1 hb'
    have b3 := (bys_cons.1 b2).1
    rw [← e, be_snoc, digs]
    have e1 : (be l.dropLast * 256 + l.getLast hne) / 256 = be l.dropLast := by have := b3.1; have := b3.2; omega
    have e2 : (be l.dropLast * 256 + l.getLast hne) % 256 = l.getLast hne := by have := b3.1; have := b3.2; omega
    rw [e1, e2, digs_be k l.dropLast (by simp [hl]) b1]
theorem readU_val {p : List Int} {i : Nat} (h : i + 8 ≤ p.length) : (readU p (i : Int)).1 = be ((p.drop i).take 8) := by
  unfold readU
  rw [if_neg (by omega), if_neg (by omega), if_neg (by omega), Int.toNat_natCast]
theorem readU_ok {p : List Int} {i : Nat} (h : i + 8 ≤ p.length) : (readU p (i : Int)).2.2.1 = 0 := by
  unfold readU
  rw [if_neg (by omega), if_neg (by omega), if_neg (by omega)]
theorem readI_val {p : List Int} {i : Nat} (h : i + 8 ≤ p.length) : (readI p (i : Int)).1 = IntKind.wrap .i64 ((be ((p.drop i).take 8) + 9223372036854775808) % 18446744073709551616) := by
  unfold readI
  simp only
  rw [if_neg (by rw [readU_ok h]; decide), readU_val h]
theorem sub8 {p : List Int} (hb : bys p) (i : Nat) (h : i + 8 ≤ p.length) : ((p.drop i).take 8).length = 8 ∧ bys ((p.drop i).take 8) :=
  ⟨by simp; omega, fun n hn => hb n (List.mem_of_mem_drop (List.mem_of_mem_take hn))⟩
theorem i64_back {u : Int} (h0 : 0 ≤ u) (h1 : u < 18446744073709551616) : i64r (IntKind.wrap .i64 ((u + 9223372036854775808) % 18446744073709551616)) ∧ lift (IntKind.wrap .i64 ((u + 9223372036854775808) % 18446744073709551616)) = u := by
  simp only [lift, i64r, IntKind.wrap, IntKind.signed, IntKind.bits]
  simp
  split <;> omega
theorem decC_ok {p : List Int} (hb : bys p) (h : 34 ≤ p.length) : okC (decC p) := by
  have u : ∀ i : Nat, i + 8 ≤ p.length → 0 ≤ be ((p.drop i).take 8) ∧ be ((p.drop i).take 8) < 18446744073709551616 := fun i hi => be_range (sub8 hb i hi).2 (by rw [(sub8 hb i hi).1]; omega)
  refine ⟨?_, hb _ (getD_mem (by omega)), ?_, ?_, ?_⟩
  · have := u 1 (by omega); rw [← readU_val (p := p) (i := 1) (by omega)] at this; exact ⟨this.1, Int.lt_of_lt_of_le this.2 (by decide)⟩
  · have := u 10 (by omega); rw [← readU_val (p := p) (i := 10) (by omega)] at this; exact ⟨this.1, Int.lt_of_lt_of_le this.2 (by decide)⟩
  · have e := readI_val (p := p) (i := 18) (by omega)
    show i64r (readI p (18 : Nat)).1
    rw [e]; exact (i64_back (u 18 (by omega)).1 (u 18 (by omega)).2).1
  · have e := readI_val (p := p) (i := 26) (by omega)
    show i64r (readI p (26 : Nat)).1
    rw [e]; exact (i64_back (u 26 (by omega)).1 (u 26 (by omega)).2).1
theorem enc_dec {p : List Int} (hb : bys p) (h : 34 ≤ p.length) (h84 : p.getD 0 0 = 84) : encT (decC p) = p := by
  have u : ∀ i : Nat, i + 8 ≤ p.length → 0 ≤ be ((p.drop i).take 8) ∧ be ((p.drop i).take 8) < 18446744073709551616 := fun i hi => be_range (sub8 hb i hi).2 (by rw [(sub8 hb i hi).1]; omega)
  have e1 : digs 8 (decC p).1 = (p.drop 1).take 8 := by
    show digs 8 (readU p (1 : Nat)).1 = _
    rw [readU_val (by omega)]; exact digs_be 8 _ (sub8 hb 1 (by omega)).1 (sub8 hb 1 (by omega)).2
  have e2 : digs 8 (decC p).2.2.2.1 = (p.drop 10).take 8 := by
    show digs 8 (readU p (10 : Nat)).1 = _
    rw [readU_val (by omega)]; exact digs_be 8 _ (sub8 hb 10 (by omega)).1 (sub8 hb 10 (by omega)).2
  have e3 : intB (decC p).2.2.2.2.1 = (p.drop 18).take 8 := by
    show digs 8 (lift (readI p (18 : Nat)).1) = _
    rw [readI_val (by omega), (i64_back (u 18 (by omega)).1 (u 18 (by omega)).2).2]; exact digs_be 8 _ (sub8 hb 18 (by omega)).1 (sub8 hb 18 (by omega)).2
  have e4 : intB (decC p).2.2.2.2.2.1 = (p.drop 26).take 8 := by
    show digs 8 (lift (readI p (26 : Nat)).1) = _
    rw [readI_val (by omega), (i64_back (u 26 (by omega)).1 (u 26 (by omega)).2).2]; exact digs_be 8 _ (sub8 hb 26 (by omega)).1 (sub8 hb 26 (by omega)).2
  have e5 : bytesOf (decC p).2.1 = p.drop 34 := bytes_str fun n hn => hb n (List.mem_of_mem_drop hn)
  have e6 : (decC p).2.2.1 = p.getD 9 0 := rfl
  have d : ∀ i, (p.drop i).take 8 ++ p.drop (i + 8) = p.drop i := fun i => by
    have := List.take_append_drop 8 (p.drop i)
    rwa [List.drop_drop] at this
  unfold encT
  rw [e1, e2, e3, e4, e5, e6]
  simp only [List.append_assoc]
  rw [d 26, d 18, d 10]
  have c9 : [p.getD 9 0] ++ p.drop 10 = p.drop 9 := (drop_cons (l := p) (k := 9) (by omega)).symm
  have c0 : [84] ++ p.drop 1 = p := by
    have := drop_cons (l := p) (k := 0) (by omega)
    rw [h84, List.drop_zero] at this
    exact this.symm
  rw [c9, d 1, c0]
theorem dec_encT {c : Cl} (h : okC c) : decC (encT c) = c := by
  obtain ⟨id, name, role, stamp, iss, unt, _⟩ := c
  have l8 := digs_len 8
  have a1 := readU_at (encT (id, name, role, stamp, iss, unt, ())) [84] (([role] ++ digs 8 stamp ++ intB iss ++ intB unt ++ bytesOf name)) id (by simp [encT]) h.id
  have a2 := readU_at (encT (id, name, role, stamp, iss, unt, ())) ([84] ++ digs 8 id ++ [role]) ((intB iss ++ intB unt ++ bytesOf name)) stamp (by simp [encT]) h.stamp
  have a3 := readI_at (encT (id, name, role, stamp, iss, unt, ())) ([84] ++ digs 8 id ++ [role] ++ digs 8 stamp) ((intB unt ++ bytesOf name)) iss (by simp [encT]) h.iss
  have a4 := readI_at (encT (id, name, role, stamp, iss, unt, ())) ([84] ++ digs 8 id ++ [role] ++ digs 8 stamp ++ intB iss) (bytesOf name) unt (by simp [encT]) h.unt
  simp only [List.length_append, List.length_cons, List.length_nil, l8, intB_l] at a1 a2 a3 a4
  have r9 : (encT (id, name, role, stamp, iss, unt, ())).getD 9 0 = role := by
    have e : encT (id, name, role, stamp, iss, unt, ()) = ([84] ++ digs 8 id) ++ role :: (digs 8 stamp ++ intB iss ++ intB unt ++ bytesOf name) := by simp [encT]
    have hl : ([84] ++ digs 8 id).length = 9 := by simp [l8]
    rw [e, List.getD_eq_getElem?_getD, ← hl, List.getElem?_append_right (Nat.le_refl _), Nat.sub_self]; rfl
  have r34 : (encT (id, name, role, stamp, iss, unt, ())).drop 34 = bytesOf name := by
    have hl : ([84] ++ digs 8 id ++ [role] ++ digs 8 stamp ++ intB iss ++ intB unt).length = 34 := by simp [l8, intB_l]
    show (([84] ++ digs 8 id ++ [role] ++ digs 8 stamp ++ intB iss ++ intB unt) ++ bytesOf name).drop 34 = _
    rw [← hl, List.drop_left]
  unfold decC
  rw [r9, r34, str_bytes]
  rw [show (1 : Int) = ((0 + 1 : Nat) : Int) from rfl, show (10 : Int) = ((0 + 1 + 8 + (0 + 1) : Nat) : Int) from rfl, show (18 : Int) = ((0 + 1 + 8 + (0 + 1) + 8 : Nat) : Int) from rfl, show (26 : Int) = ((0 + 1 + 8 + (0 + 1) + 8 + 8 : Nat) : Int) from rfl, a1, a2, a3, a4]
theorem encT_84 (c : Cl) : (encT c).getD 0 0 = 84 := by unfold encT; rfl
def decT (p : List Int) : Bool := decide (34 ≤ p.length) && (decide (p.getD 0 0 = 84) && formC (decC p))
theorem drop_all (p : List Int) (h : 34 ≤ p.length) : (p.drop 34).take ((p.length : Int) - 34).toNat = p.drop 34 := List.take_of_length_le (by simp; omega)
theorem tDecode_main (p : List Int) (hp : p.length ≤ 140737488351232) (v : Bool) (f25 : (Cl × Unit) → Option Bool) (f43 f49 : (List Int × Int × Unit) → Option (Int × Int × Int × Unit)) (h25 : f25 (decC p, ()) = some v) (h43 : ∀ i, f43 (p, i, ()) = some (readU p i)) (h49 : ∀ i, f49 (p, i, ()) = some (readI p i)) :
    token_Decode.b f25 f43 f49 (p, ()) = some (if (decide (34 ≤ p.length) && (decide (p.getD 0 0 = 84) && v)) = true then (decC p, 0, ()) else (zeroC, 3, ())) := by
  simp only [token_Decode.b]
  by_cases h : 34 ≤ p.length
  · rw [cond_f (ilt_f.2 (by omega)), chk_true (inB_iff.2 (by omega)), decide_eq_true h, Bool.true_and]
    by_cases h8 : p.getD 0 0 = 84
    · rw [cond_f (ine_f.2 h8), decide_eq_true h8, Bool.true_and, chk_true (inB_iff.2 (by omega)), chk_true (by simp [leB]; omega), h43, h43, h49, h49]
      simp only [Option.bind_some]
      rw [drop_all p h, show f25 (((readU p 1).1, strOf (p.drop 34), p.getD 9 0, (readU p 10).1, (readI p 18).1, (readI p 26).1, ()), ()) = some v from h25]
      cases v <;> rfl
    · rw [cond_t (ine_iff.2 h8), decide_eq_false h8]; rfl
  · rw [cond_t (ilt_iff.2 (by omega)), decide_eq_false h]; rfl
theorem token_Decode_eq {p : List Int} (hp : p.length ≤ 140737488351232) (hb : bys p) : token_Decode (p, ()) = some (if decT p = true then (decC p, 0, ()) else (zeroC, 3, ())) :=
  tDecode_main p hp (formC (decC p)) token_Form octet_ReadUint octet_ReadInt (token_Form_eq _) (octet_ReadUint_eq hp hb) (octet_ReadInt_eq hp hb)
theorem rDecode_main (p : List Int) (hb : bys p) (v : Bool) (f26 : (Cl × Unit) → Option Bool) (f29 : (Cl × Unit) → Option (List Int)) (f51 f52 : (List Int × Int × Unit) → Option (Int × Int × Int × Unit)) (h26 : f26 (decC p, ()) = some v) (h29 : f29 (decC p, ()) = some (encT (decC p))) (h51 : ∀ i, f51 (p, i, ()) = some (readU p i)) (h52 : ∀ i, f52 (p, i, ()) = some (readI p i)) :
    r19_Decode.b f26 f29 f51 f52 (p, ()) = some (if (decide (34 ≤ p.length) && (decide (p.getD 0 0 = 84) && v)) = true then (decC p, true, ()) else (zeroC, false, ())) := by
  simp only [r19_Decode.b]
  by_cases h : 34 ≤ p.length
  · rw [cond_f (ilt_f.2 (by omega)), chk_true (inB_iff.2 (by omega)), chk_true (by simp [leB]; omega), decide_eq_true h, Bool.true_and, h51, h51, h52, h52]
    simp only [Option.bind_some]
    rw [drop_all p h, show f26 (((readU p 1).1, strOf (p.drop 34), p.getD 9 0, (readU p 10).1, (readI p 18).1, (readI p 26).1, ()), ()) = some v from h26,
      show f29 (((readU p 1).1, strOf (p.drop 34), p.getD 9 0, (readU p 10).1, (readI p 18).1, (readI p 26).1, ()), ()) = some (encT (decC p)) from h29]
    simp only [Option.bind_some]
    cases v with
    | false => rw [Bool.and_false]; rfl
    | true =>
      rw [Bool.and_true, Bool.not_true, cond_false, sne_seq, seq_str (encT_bys (decC_ok hb h)) hb]
      by_cases h8 : p.getD 0 0 = 84
      · rw [enc_dec hb h h8, decide_eq_true (rfl : p = p), decide_eq_true h8]; rfl
      · rw [decide_eq_false (fun e => h8 (by rw [← e]; exact encT_84 _)), decide_eq_false h8]; rfl
  · rw [cond_t (ilt_iff.2 (by omega)), decide_eq_false h]; rfl
theorem r19_Decode_eq {p : List Int} (hp : p.length ≤ 1000000) (hb : bys p) : r19_Decode (p, ()) = some (if decT p = true then (decC p, true, ()) else (zeroC, false, ())) := by
  by_cases h : 34 ≤ p.length
  · have hsz : (decC p).2.1.size ≤ 1000000000 := by
      show (strOf (p.drop 34)).size ≤ _
      rw [strOf_size]; simp; omega
    exact rDecode_main p hb (formC (decC p)) r19_Form r19_Encode r02_ReadUint r02_ReadInt (r19_Form_eq _ hsz) (r19_Encode_eq (decC_ok hb h) hsz) (r02_ReadUint_eq (by omega) hb) (r02_ReadInt_eq (by omega) hb)
  · unfold decT
    rw [decide_eq_false h]
    unfold r19_Decode
    simp only [r19_Decode.b]
    rw [cond_t (ilt_iff.2 (by omega))]; rfl
theorem decT_enc {c : Cl} (h : okC c) (hf : formC c = true) : decT (encT c) = true := by
  unfold decT
  rw [dec_encT h, hf, encT_84, encT_len, decide_eq_true (by omega)]; rfl
end Go.Px.Pu
