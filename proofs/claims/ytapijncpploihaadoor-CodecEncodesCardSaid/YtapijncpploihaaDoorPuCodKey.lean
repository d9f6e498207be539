/- Values as keys: what codec.cast, Form, Key and the reference's Form, Key, Less answer. -/
import Derived.Test.YtapijncpploihaaDoorPuCodValid
import Derived.Test.YtapijncpploihaaDoorPuOctUintW
import Derived.Test.YtapijncpploihaaDoorPuOctText
set_option linter.unusedVariables false
set_option linter.unusedSimpArgs false
namespace Go.Px.Pu
open Go Go.Px

abbrev Val := Int × Int × ByteArray × Unit
/-- is a text of UTF-8 -/
def vs (s : ByteArray) : Bool := (unicode_utf8_ValidString (s, ())).getD false
theorem valid_eq (s : ByteArray) : unicode_utf8_ValidString (s, ()) = some (vs s) := by
  obtain ⟨r, h⟩ := valid_some s
  unfold vs; rw [h]; rfl
def i64 (n : Int) : Prop := -9223372036854775808 ≤ n ∧ n ≤ 9223372036854775807
/-- is it a value -/
def formV (k n : Int) (s : ByteArray) (v : Bool) : Bool :=
  if k = 0 then decide (n = 0) && decide (s.size = 0) else if k = 1 then decide (s.size = 0) else if k = 2 then decide (n = 0) && (decide (s.size ≤ 60) && v)
  else if k = 3 then decide (s.size = 0) && (decide (0 ≤ n) && decide (n ≤ 1)) else false
def formR (k n : Int) (s : ByteArray) : Bool := formV k n s (vs s)
theorem seq_nil (s : ByteArray) : seq s (⟨#[]⟩ : ByteArray) = decide (s.size = 0) := by
  rw [seq_bytes, Bool.eq_iff_iff, decide_eq_true_eq, decide_eq_true_eq]
  constructor
  · intro h; rw [h]; rfl
  · intro h
    apply ByteArray.ext
    exact Array.eq_empty_of_size_eq_zero h
theorem szi (s : ByteArray) : ieq (s.size : Int) 0 = decide (s.size = 0) := by
  rw [Bool.eq_iff_iff, ieq_iff, decide_eq_true_eq]; omega
theorem rForm_main (k n : Int) (s : ByteArray) (f29 : (ByteArray × Unit) → Option Bool) (v : Bool) (h29 : f29 (s, ()) = some v) : r04_Form.b f29 ((k, n, s, ()), ()) = some (formV k n s v) := by
  unfold formV
  simp only [r04_Form.b, h29, Option.bind_some, szi]
  by_cases h0 : k = 0
  · rw [cond_t (ieq_iff.2 h0), if_pos h0]
    by_cases h : n = 0
    · rw [cond_t (ieq_iff.2 h)]; simp [h]
    · rw [cond_f (ieq_f.2 h)]; simp [h]
  rw [cond_f (ieq_f.2 h0), if_neg h0]
  by_cases h1 : k = 1
  · rw [cond_t (ieq_iff.2 h1), if_pos h1]
  rw [cond_f (ieq_f.2 h1), if_neg h1]
  by_cases h2 : k = 2
  · rw [cond_t (ieq_iff.2 h2), if_pos h2]
    by_cases h : n = 0
    · rw [cond_t (ieq_iff.2 h)]
      by_cases h6 : s.size ≤ 60
      · rw [cond_t (ile_iff.2 (by omega))]; simp [h, h6]
      · rw [cond_f (ile_f.2 (by omega))]; simp [h6]
    · rw [cond_f (ieq_f.2 h)]; simp [h]
  rw [cond_f (ieq_f.2 h2), if_neg h2]
  by_cases h3 : k = 3
  · rw [cond_t (ieq_iff.2 h3), if_pos h3]
    by_cases h : s.size = 0
    · rw [cond_t (by simpa using h)]
      by_cases h6 : 0 ≤ n
      · rw [cond_t (ige_iff.2 h6)]; simp [h, h6, ile]
      · rw [cond_f (ige_f.2 (by omega))]; simp [h6]
    · rw [cond_f (by simpa using h)]; simp [h]
  rw [cond_f (ieq_f.2 h3), if_neg h3]
theorem r04_Form_eq (k n : Int) (s : ByteArray) : r04_Form ((k, n, s, ()), ()) = some (formR k n s) := rForm_main k n s unicode_utf8_ValidString (vs s) (valid_eq s)
def castV (k n : Int) (s : ByteArray) (v : Bool) : Dyn :=
  if formV k n s v = false then .nil else if k = 1 then .int 2 .i64 n else if k = 2 then .str 9 s else if k = 3 then .bool 4 (ieq n 1) else .nil
theorem cast_main {k : Int} (hk : byte k) (n : Int) (s : ByteArray) (f29 : (ByteArray × Unit) → Option Bool) (v : Bool) (h29 : f29 (s, ()) = some v) : codec_cast.b f29 ((k, n, s, ()), ()) = some (castV k n s v, formV k n s v, ()) := by
  obtain ⟨k0, k1⟩ := hk
  unfold castV formV
  simp only [codec_cast.b, h29, Option.bind_some, seq_nil]
  by_cases h0 : k = 0
  · subst h0
    simp only [if_true]
    by_cases h : n = 0
    · rw [cond_t (ieq_iff.2 h)]
      by_cases h6 : s.size = 0 <;> simp [h, h6]
    · rw [cond_f (ieq_f.2 h)]; simp [h]
  by_cases h1 : k = 1
  · subst h1
    by_cases h6 : s.size = 0 <;> simp [h6]
  by_cases h2 : k = 2
  · subst h2
    simp only [if_neg h0, if_neg h1, if_true]
    by_cases h : n = 0
    · rw [cond_t (ieq_iff.2 h)]
      by_cases h6 : s.size ≤ 60
      · rw [cond_t (ile_iff.2 (by omega))]
        cases v <;> simp [h, h6]
      · rw [cond_f (ile_f.2 (by omega))]; simp [h6]
    · rw [cond_f (ieq_f.2 h)]; simp [h]
  by_cases h3 : k = 3
  · subst h3
    simp only [if_neg h0, if_neg h1, if_neg h2, if_true]
    by_cases h6 : s.size = 0
    · by_cases h : n = 0
      · rw [cond_t (ieq_iff.2 h)]; simp [h, h6]
      · rw [cond_f (ieq_f.2 h)]
        by_cases h7 : n = 1
        · rw [cond_t (ieq_iff.2 h7)]; simp [h7, h6]
        · rw [cond_f (ieq_f.2 h7)]
          have : ¬ (0 ≤ n ∧ n ≤ 1) := by omega
          simp [h6]
          by_cases h8 : 0 ≤ n
          · have h9 : ¬ n ≤ 1 := by omega
            have h9' : 1 < n := by omega
            simp [h8, h9, h9']
          · simp [h8]
    · simp [h6]
  · have h4 : 4 ≤ k := by omega
    simp [h0, h1, h2, h3, h4, k1]
def castR (k n : Int) (s : ByteArray) : Dyn := castV k n s (vs s)
theorem cast_eq {k : Int} (hk : byte k) (n : Int) (s : ByteArray) : codec_cast ((k, n, s, ()), ()) = some (castR k n s, formR k n s, ()) := cast_main hk n s unicode_utf8_ValidString (vs s) (valid_eq s)
theorem codec_Form_eq {k : Int} (hk : byte k) (n : Int) (s : ByteArray) : codec_Form ((k, n, s, ()), ()) = some (formR k n s) := by
  unfold codec_Form
  simp only [codec_Form.b, cast_eq hk, Option.bind_some]
/-- a value's bytes as a key -/
def keyB (k n : Int) (s : ByteArray) : List Int := if k = 1 then k :: intB n else if k = 2 then k :: textB s else if k = 3 then [k, n] else [k]
theorem form3 {n : Int} {s : ByteArray} (h : formR 3 n s = true) : s.size = 0 ∧ (n = 0 ∨ n = 1) := by
  unfold formR formV at h
  rw [if_neg (by decide), if_neg (by decide), if_neg (by decide), if_pos rfl] at h
  simp only [Bool.and_eq_true, decide_eq_true_eq] at h
  omega
theorem form2 {n : Int} {s : ByteArray} (h : formR 2 n s = true) : n = 0 ∧ s.size ≤ 60 ∧ vs s = true := by
  unfold formR formV at h
  rw [if_neg (by decide), if_neg (by decide), if_pos rfl] at h
  simpa only [Bool.and_eq_true, decide_eq_true_eq] using h
theorem form1 {n : Int} {s : ByteArray} (h : formR 1 n s = true) : s.size = 0 := by
  unfold formR formV at h
  rw [if_neg (by decide), if_pos rfl] at h
  simpa only [decide_eq_true_eq] using h
theorem form0 {n : Int} {s : ByteArray} (h : formR 0 n s = true) : n = 0 ∧ s.size = 0 := by
  unfold formR formV at h
  rw [if_pos rfl] at h
  simpa only [Bool.and_eq_true, decide_eq_true_eq] using h
theorem form_k {k n : Int} {s : ByteArray} (h : formR k n s = true) : k = 0 ∨ k = 1 ∨ k = 2 ∨ k = 3 := by
  unfold formR formV at h
  by_cases h0 : k = 0
  · exact .inl h0
  by_cases h1 : k = 1
  · exact .inr (.inl h1)
  by_cases h2 : k = 2
  · exact .inr (.inr (.inl h2))
  by_cases h3 : k = 3
  · exact .inr (.inr (.inr h3))
  · simp [h0, h1, h2, h3] at h
theorem intB_len (n : Int) : (intB n).length = 8 := digs_len 8 _
theorem keyB_bys {k n : Int} {s : ByteArray} (h : formR k n s = true) : bys (keyB k n s) := by
  have b1 : ∀ z : Int, z = 0 ∨ z = 1 ∨ z = 2 ∨ z = 3 → byte z := fun z hz => by unfold byte; omega
  have hk := b1 k (form_k h)
  unfold keyB
  split
  · exact bys_cons.2 ⟨hk, digs_bys 8 _⟩
  split
  · exact bys_cons.2 ⟨hk, textB_bys s⟩
  split
  · rename_i h3; subst h3
    exact bys_cons.2 ⟨hk, bys_cons.2 ⟨b1 n (by have := (form3 h).2; omega), bys_nil⟩⟩
  · exact bys_cons.2 ⟨hk, bys_nil⟩
theorem keyB_len {k n : Int} {s : ByteArray} (h : formR k n s = true) : (keyB k n s).length ≤ 123 := by
  unfold keyB
  split
  · simp [intB_len]
  split
  · rename_i h2; subst h2
    have := textB_len s
    have := (form2 h).2.1
    simp; omega
  split <;> simp
theorem wrap01 {n : Int} (h : n = 0 ∨ n = 1) : IntKind.wrap .u8 n = n := by
  rcases h with rfl | rfl <;> decide
theorem fit_i (n : Int) : fitT 2 (.int .i64) (Dyn.val (.int 2 .i64 n)) = true := rfl
theorem is_i (n : Int) : isT 2 (Dyn.val (.int 2 .i64 n)) = true := rfl
theorem as_i (n : Int) : asT (.int .i64) 2 (Dyn.val (.int 2 .i64 n)) = n := rfl
theorem fit_si (s : ByteArray) : fitT 2 (.int .i64) (Dyn.val (.str 9 s)) = true := rfl
theorem is_si (s : ByteArray) : isT 2 (Dyn.val (.str 9 s)) = false := rfl
theorem fit_s (s : ByteArray) : fitT 9 .str (Dyn.val (.str 9 s)) = true := rfl
theorem is_s (s : ByteArray) : isT 9 (Dyn.val (.str 9 s)) = true := rfl
theorem as_s (s : ByteArray) : asT .str 9 (Dyn.val (.str 9 s)) = s := rfl
theorem fit_bi (b : Bool) : fitT 2 (.int .i64) (Dyn.val (.bool 4 b)) = true := rfl
theorem is_bi (b : Bool) : isT 2 (Dyn.val (.bool 4 b)) = false := rfl
theorem fit_bs (b : Bool) : fitT 9 .str (Dyn.val (.bool 4 b)) = true := rfl
theorem is_bs (b : Bool) : isT 9 (Dyn.val (.bool 4 b)) = false := rfl
theorem fit_b (b : Bool) : fitT 4 .bool (Dyn.val (.bool 4 b)) = true := rfl
theorem is_b (b : Bool) : isT 4 (Dyn.val (.bool 4 b)) = true := rfl
theorem fit_ni : fitT 2 (.int .i64) (Dyn.val .nil) = true := rfl
theorem is_n (T : TypeId) : isT T (Dyn.val .nil) = false := rfl
theorem fit_n (T : TypeId) (τ : T0) : fitT T τ (Dyn.val .nil) = true := rfl
theorem key0 (n : Int) (s : ByteArray) : keyB 0 n s = [0] := by simp [keyB]
theorem key1 (n : Int) (s : ByteArray) : keyB 1 n s = [1] ++ intB n := by simp [keyB]
theorem key2 (n : Int) (s : ByteArray) : keyB 2 n s = [2] ++ textB s := by simp [keyB]
theorem key3 (n : Int) (s : ByteArray) : keyB 3 n s = [3] ++ [n] := by simp [keyB]
theorem castR0 {n : Int} {s : ByteArray} (h : formR 0 n s = true) : castR 0 n s = .nil := by unfold castR castV; rw [if_neg (by rw [show formV _ n s (vs s) = true from h]; decide)]; simp
theorem castR1 {n : Int} {s : ByteArray} (h : formR 1 n s = true) : castR 1 n s = .int 2 .i64 n := by unfold castR castV; rw [if_neg (by rw [show formV _ n s (vs s) = true from h]; decide)]; simp
theorem castR2 {n : Int} {s : ByteArray} (h : formR 2 n s = true) : castR 2 n s = .str 9 s := by unfold castR castV; rw [if_neg (by rw [show formV _ n s (vs s) = true from h]; decide)]; simp
theorem castR3 {n : Int} {s : ByteArray} (h : formR 3 n s = true) : castR 3 n s = .bool 4 (ieq n 1) := by unfold castR castV; rw [if_neg (by rw [show formV _ n s (vs s) = true from h]; decide)]; simp
theorem Key_main {k : Int} {n : Int} {s : ByteArray} (f30 : ((Int × Int × ByteArray × Unit) × Unit) → Option (Dyn × Bool × Unit)) (f31 : (Int × Unit) → Option (List Int)) (f32 : (ByteArray × Unit) → Option (List Int))
    (h30 : f30 ((k, n, s, ()), ()) = some (castR k n s, formR k n s, ())) (h31 : f31 (n, ()) = some (intB n)) (h32 : s.size ≤ 60 → f32 (s, ()) = some (textB s)) :
    codec_Key.b f30 f31 f32 ((k, n, s, ()), ()) = some (if formR k n s = true then (keyB k n s, 0, ()) else ([], 3, ())) := by
  simp only [codec_Key.b]
  rw [h30]
  simp only [Option.bind_some]
  cases hf : formR k n s with
  | false => rw [Bool.not_false, cond_t rfl, if_neg (by decide)]
  | true =>
    rw [Bool.not_true, cond_f rfl, if_pos rfl]
    rcases form_k hf with rfl | rfl | rfl | rfl
    · rw [castR0 hf, fit_n, chk_true rfl, is_n, cond_f rfl, fit_n, chk_true rfl, is_n, cond_f rfl, fit_n, chk_true rfl, is_n, cond_f rfl, key0]
    · rw [castR1 hf, fit_i, chk_true rfl, is_i, cond_t rfl, as_i, h31, key1]
      simp only [Option.bind_some]
      rw [chk_true (fits_iff.2 (by rw [intB_len]; omega))]
    · have h2 := form2 hf
      have hl := textB_len s
      rw [castR2 hf, fit_si, chk_true rfl, is_si, cond_f rfl, fit_s, chk_true rfl, is_s, cond_t rfl, as_s, h32 h2.2.1, key2]
      simp only [Option.bind_some]
      rw [chk_true (fits_iff.2 (by omega))]
    · have h3 := form3 hf
      rw [castR3 hf, fit_bi, chk_true rfl, is_bi, cond_f rfl, fit_bs, chk_true rfl, is_bs, cond_f rfl, fit_b, chk_true rfl, is_b, cond_t rfl, chk_true (fits_iff.2 (by omega)), wrap01 h3.2, key3]
theorem codec_Key_eq {k : Int} (hk : byte k) {n : Int} (hn : i64 n) (s : ByteArray) : codec_Key ((k, n, s, ()), ()) = some (if formR k n s = true then (keyB k n s, 0, ()) else ([], 3, ())) :=
  Key_main codec_cast octet_Int octet_Text (cast_eq hk n s) (octet_Int_eq hn) fun h => octet_Text_eq (by omega)
theorem rKey_main {k : Int} {n : Int} {s : ByteArray} (f33 : (Int × Unit) → Option (List Int)) (f40 : (ByteArray × Unit) → Option (List Int))
    (h31 : f33 (n, ()) = some (intB n)) (h32 : s.size ≤ 60 → f40 (s, ()) = some (textB s)) (hf : formR k n s = true) : r04_Key.b f33 f40 ((k, n, s, ()), ()) = some (keyB k n s) := by
  simp only [r04_Key.b]
  rcases form_k hf with rfl | rfl | rfl | rfl
  · rw [cond_f (ieq_f.2 (by decide)), cond_f (ieq_f.2 (by decide)), cond_f (ieq_f.2 (by decide)), key0]
  · rw [cond_t (ieq_iff.2 rfl), h31, key1]
    simp only [Option.bind_some]
    rw [chk_true (fits_iff.2 (by rw [intB_len]; omega))]
  · have h2 := form2 hf
    have hl := textB_len s
    rw [cond_f (ieq_f.2 (by decide)), cond_t (ieq_iff.2 rfl), h32 h2.2.1, key2]
    simp only [Option.bind_some]
    rw [chk_true (fits_iff.2 (by omega))]
  · have h3 := form3 hf
    rw [cond_f (ieq_f.2 (by decide)), cond_f (ieq_f.2 (by decide)), cond_t (ieq_iff.2 rfl), chk_true (fits_iff.2 (by omega)), wrap01 h3.2, key3]
theorem r04_Key_eq {k n : Int} (hn : i64 n) {s : ByteArray} (hf : formR k n s = true) : r04_Key ((k, n, s, ()), ()) = some (keyB k n s) :=
  rKey_main r02_Int r02_Text (r02_Int_eq hn) (fun h => r02_Text_eq (by omega)) hf
/-- does a value stand ahead of another -/
def lessV (k n : Int) (s : ByteArray) (k' n' : Int) (s' : ByteArray) : Bool := if k ≠ k' then decide (k < k') else if k = 2 then slt s s' else decide (n < n')
theorem r04_Less_eq (k n : Int) (s : ByteArray) (k' n' : Int) (s' : ByteArray) : r04_Less ((k, n, s, ()), (k', n', s', ()), ()) = some (lessV k n s k' n' s') := by
  unfold r04_Less lessV
  simp only [r04_Less.b]
  by_cases h : k = k'
  · rw [cond_f (ine_f.2 h), if_neg (by simpa using h)]
    by_cases h2 : k = 2
    · rw [cond_t (ieq_iff.2 h2), if_pos h2]
    · rw [cond_f (ieq_f.2 h2), if_neg h2]; rfl
  · rw [cond_t (ine_iff.2 h), if_pos h]; rfl
theorem lless_len : (a b x y : List Int) → a.length = b.length → a ≠ b → lless (a ++ x) (b ++ y) = lless a b
  | [], [], _, _, _, h => absurd rfl h
  | c :: a, d :: b, x, y, hl, h => by
    show (decide (c < d) || (c == d && lless (a ++ x) (b ++ y))) = (decide (c < d) || (c == d && lless a b))
    by_cases hc : c = d
    · subst hc
      rw [lless_len a b x y (by simpa using hl) fun e => h (by rw [e])]
    · have hb : (c == d) = false := beq_eq_false_iff_ne.2 hc
      rw [hb, Bool.false_and, Bool.false_and]
theorem intB_inj {m n : Int} (hm : i64 m) (hn : i64 n) (h : intB m = intB n) : m = n := by
  have e1 : be (digs 8 (lift m)) = lift m := be_digs 8 _ (lift_range hm).1 (lift_range hm).2
  have e2 : be (digs 8 (lift n)) = lift n := be_digs 8 _ (lift_range hn).1 (lift_range hn).2
  have h : digs 8 (lift m) = digs 8 (lift n) := h
  rw [h] at e1
  have : lift m = lift n := e1.symm.trans e2
  unfold lift at this; omega
theorem size0 {s : ByteArray} (h : s.size = 0) : s = ByteArray.empty := by
  apply ByteArray.ext
  exact Array.eq_empty_of_size_eq_zero h
/-- keys stand as their values, whatever stands behind -/
theorem key_less {k n : Int} {s : ByteArray} {k' n' : Int} {s' : ByteArray} (hn : i64 n) (hn' : i64 n') (h : formR k n s = true) (h' : formR k' n' s' = true) (hne : ¬ (k = k' ∧ n = n' ∧ s = s')) (x y : List Int) :
    lless (keyB k n s ++ x) (keyB k' n' s' ++ y) = lessV k n s k' n' s' := by
  unfold lessV
  by_cases hk : k = k'
  · subst hk
    rw [if_neg (by simp)]
    rcases form_k h with rfl | rfl | rfl | rfl
    · exfalso
      have f1 := form0 h
      have f2 := form0 h'
      exact hne ⟨rfl, by rw [f1.1, f2.1], by rw [size0 f1.2, size0 f2.2]⟩
    · have f1 := form1 h
      have f2 := form1 h'
      have hnn : n ≠ n' := fun e => hne ⟨rfl, e, by rw [size0 f1, size0 f2]⟩
      rw [if_neg (by decide)]
      rw [key1, key1, List.append_assoc, List.append_assoc, lless_app, lless_len _ _ _ _ (by rw [intB_len, intB_len]) (fun e => hnn (intB_inj hn hn' e)), int_less hn hn']
    · have f1 := form2 h
      have f2 := form2 h'
      rw [if_pos rfl]
      have hss : s ≠ s' := fun e => hne ⟨rfl, by rw [f1.1, f2.1], e⟩
      rw [key2, key2, List.append_assoc, List.append_assoc, lless_app, text_less hss]
    · have f1 := form3 h
      have f2 := form3 h'
      have hnn : n ≠ n' := fun e => hne ⟨rfl, e, by rw [size0 f1.1, size0 f2.1]⟩
      rw [if_neg (by decide)]
      rw [key3, key3, List.append_assoc, List.append_assoc, lless_app]
      show (decide (n < n') || (n == n' && lless ([] ++ x) ([] ++ y))) = decide (n < n')
      have hb : (n == n') = false := beq_eq_false_iff_ne.2 hnn
      rw [hb, Bool.false_and, Bool.or_false]
  · rw [if_pos hk]
    have e : ∀ (k n : Int) (s : ByteArray) (x : List Int), ∃ r, keyB k n s ++ x = k :: r := fun k n s x => by
      unfold keyB
      split
      · exact ⟨_, rfl⟩
      split
      · exact ⟨_, rfl⟩
      split
      · exact ⟨_, rfl⟩
      · exact ⟨_, rfl⟩
    obtain ⟨r, e1⟩ := e k n s x
    obtain ⟨r', e2⟩ := e k' n' s' y
    rw [e1, e2]
    simp [lless, hk]
end Go.Px.Pu
