/- Texts as bytes. -/
import Derived.Test.YtapijncpploihaaDoorSh
import Derived.Test.YtapijncpploihaaDoorPuOctRead
import Derived.Test.YtapijncpploihaaDoorPuLex
set_option linter.unusedVariables false
set_option linter.unusedSimpArgs false
namespace Go.Px.Pu
open Go Go.Px

def enc : List Int → List Int
  | [] => []
  | b :: r => if b = 0 then 0 :: 255 :: enc r else b :: enc r
def textB (s : ByteArray) : List Int := enc (bytesOf s) ++ [0, 1]
theorem enc_len : (l : List Int) → (enc l).length ≤ 2 * l.length
  | [] => Nat.le_refl _
  | b :: r => by
    have := enc_len r
    unfold enc; split <;> simp <;> omega
theorem enc_bys : (l : List Int) → bys l → bys (enc l)
  | [], _ => bys_nil
  | b :: r, h => by
    obtain ⟨h1, h2⟩ := bys_cons.1 h
    have := enc_bys r h2
    unfold enc; split
    · exact bys_cons.2 ⟨⟨by omega, by omega⟩, bys_cons.2 ⟨⟨by omega, by omega⟩, this⟩⟩
    · exact bys_cons.2 ⟨h1, this⟩
theorem textB_bys (s : ByteArray) : bys (textB s) := bys_app.2 ⟨enc_bys _ (bys_of s), bys_cons.2 ⟨⟨by omega, by omega⟩, bys_cons.2 ⟨⟨by omega, by omega⟩, bys_nil⟩⟩⟩
theorem textB_len (s : ByteArray) : (textB s).length ≤ 2 * s.size + 2 := by
  have := enc_len (bytesOf s)
  rw [bytesOf_len] at this
  simp [textB]; omega
section
variable {s : ByteArray} (hs : 2 * s.size + 2 ≤ 140737488351232)
include hs
theorem text_l0 (kx : List Int × Unit → Option (List Int)) : octet_Text.l0 (s, [], (s.size : Int), 0, ()) kx = kx (enc (bytesOf s), ()) := by
  unfold octet_Text.l0
  have key := loopN_eq (step := octet_Text.s0 kx) (fun x => kx (x.2.1 ++ enc ((bytesOf s).drop x.2.2.2.1.toNat), ()))
    (fun x => x.1 = s ∧ x.2.2.1 = s.size ∧ ∃ k : Nat, x.2.2.2.1 = k ∧ k ≤ s.size ∧ x.2.1.length ≤ 2 * k) (fun x => s.size - x.2.2.2.1.toNat) ?_
  · have := key (octet_Text.n0 (s, [], (s.size : Int), 0, ())) (s, [], (s.size : Int), 0, ()) ⟨rfl, rfl, 0, rfl, by omega, by simp⟩ (by simp only [octet_Text.n0]; omega)
    rw [this]; rfl
  · rintro ⟨s', t, n, i, _⟩ ⟨h0, hn, k, h1, h2, h3⟩ κ hκ
    simp only at h0 hn h1 h2 h3 hκ; subst h0 hn h1
    simp only [octet_Text.s0, octet_Text.s0b]
    by_cases hlt : k < s'.size
    · have hin : inB (k : Int) s'.size = true := inB_iff.2 (by omega)
      have hd : (bytesOf s').drop k = (bytesOf s').getD k 0 :: (bytesOf s').drop (k + 1) := drop_cons (by rw [bytesOf_len]; exact hlt)
      have ha : iadd .i64 (k : Int) 1 = ((k + 1 : Nat) : Int) := by rw [iadd64 (by omega)]; rfl
      rw [cond_t (ilt_iff.2 (by omega)), chk_true hin, chk_true (fits_iff.2 (by omega)), chk_true hin]
      simp only [Int.toNat_natCast, byteAt_get, ha] at hκ ⊢
      rw [hd]
      by_cases hb : (bytesOf s').getD k 0 = 0
      · rw [cond_t (ieq_iff.2 hb), chk_true (fits_iff.2 (by simp; omega)), hκ _ ⟨rfl, rfl, k + 1, rfl, by omega, by simp; omega⟩ (by simp; omega)]
        simp only [Int.toNat_natCast, enc, if_pos hb]
        rw [hb]; simp
      · rw [cond_f (ieq_f.2 hb), hκ _ ⟨rfl, rfl, k + 1, rfl, by omega, by simp; omega⟩ (by simp; omega)]
        simp only [Int.toNat_natCast, enc, if_neg hb]
        simp
    · rw [cond_f (ilt_f.2 (by omega))]
      simp only [Int.toNat_natCast]
      rw [List.drop_eq_nil_of_le (by rw [bytesOf_len]; omega)]
      simp [enc]
theorem octet_Text_eq : octet_Text (s, ()) = some (textB s) := by
  unfold octet_Text
  simp only [octet_Text.b]
  rw [text_l0 hs]
  have := enc_len (bytesOf s)
  rw [bytesOf_len] at this
  simp only []
  rw [chk_true (fits_iff.2 (by omega))]; rfl
theorem rtext_l0 (kx : List Int × Unit → Option (List Int)) : r02_Text.l0 (s, [], 0, ()) kx = kx (enc (bytesOf s), ()) := by
  unfold r02_Text.l0
  have key := loopN_eq (step := r02_Text.s0 kx) (fun x => kx (x.2.1 ++ enc ((bytesOf s).drop x.2.2.1.toNat), ()))
    (fun x => x.1 = s ∧ ∃ k : Nat, x.2.2.1 = k ∧ k ≤ s.size ∧ x.2.1.length ≤ 2 * k) (fun x => s.size - x.2.2.1.toNat) ?_
  · have := key (r02_Text.n0 (s, [], 0, ())) (s, [], 0, ()) ⟨rfl, 0, rfl, by omega, by simp⟩ (by simp only [r02_Text.n0]; omega)
    rw [this]; rfl
  · rintro ⟨s', t, i, _⟩ ⟨h0, k, h1, h2, h3⟩ κ hκ
    simp only at h0 h1 h2 h3 hκ; subst h0 h1
    simp only [r02_Text.s0, r02_Text.s0b]
    by_cases hlt : k < s'.size
    · have hin : inB (k : Int) s'.size = true := inB_iff.2 (by omega)
      have hd : (bytesOf s').drop k = (bytesOf s').getD k 0 :: (bytesOf s').drop (k + 1) := drop_cons (by rw [bytesOf_len]; exact hlt)
      have ha : iadd .i64 (k : Int) 1 = ((k + 1 : Nat) : Int) := by rw [iadd64 (by omega)]; rfl
      rw [cond_t (ilt_iff.2 (by omega)), chk_true hin, chk_true (fits_iff.2 (by omega)), chk_true hin]
      simp only [Int.toNat_natCast, byteAt_get, ha] at hκ ⊢
      rw [hd]
      by_cases hb : (bytesOf s').getD k 0 = 0
      · rw [cond_t (ieq_iff.2 hb), chk_true (fits_iff.2 (by simp; omega)), hκ _ ⟨rfl, k + 1, rfl, by omega, by simp; omega⟩ (by simp; omega)]
        simp only [Int.toNat_natCast, enc, if_pos hb]
        rw [hb]; simp
      · rw [cond_f (ieq_f.2 hb), hκ _ ⟨rfl, k + 1, rfl, by omega, by simp; omega⟩ (by simp; omega)]
        simp only [Int.toNat_natCast, enc, if_neg hb]
        simp
    · rw [cond_f (ilt_f.2 (by omega))]
      simp only [Int.toNat_natCast]
      rw [List.drop_eq_nil_of_le (by rw [bytesOf_len]; omega)]
      simp [enc]
theorem r02_Text_eq : r02_Text (s, ()) = some (textB s) := by
  unfold r02_Text
  simp only [r02_Text.b]
  rw [rtext_l0 hs]
  have := enc_len (bytesOf s)
  rw [bytesOf_len] at this
  simp only []
  rw [chk_true (fits_iff.2 (by omega))]; rfl
end
/-- a text is read again, whatever stands behind it -/
theorem readT_enc : (l : List Int) → (t : List Int) → (i : Int) → (z : List Int) → readT t i (enc l ++ 0 :: 1 :: z) = (strOf (t ++ l), i + (enc l).length + 2, 0, ())
  | [], t, i, z => by
    unfold enc readT
    simp
  | b :: r, t, i, z => by
    by_cases hb : b = 0
    · subst hb
      have e := readT_enc r (t ++ [0]) (i + 2) z
      simp only [enc, if_true, List.cons_append]
      unfold readT
      simp only [if_true]
      rw [if_neg (by decide), e]
      simp
      omega
    · have e := readT_enc r (t ++ [b]) (i + 1) z
      simp only [enc, if_neg hb, List.cons_append]
      unfold readT
      rw [if_neg hb, e]
      simp
      omega
theorem readText_at (p a z : List Int) (s : ByteArray) (h : p = a ++ (textB s ++ z)) : readText p (a.length : Int) = (s, ((a ++ textB s).length : Int), 0, ()) := by
  unfold readText
  rw [if_neg (by omega), if_neg (by rw [h]; simp; omega), Int.toNat_natCast, h, List.drop_left]
  unfold textB
  rw [List.append_assoc]
  have := readT_enc (bytesOf s) [] (a.length : Int) z
  simp only [List.cons_append, List.nil_append] at this ⊢
  rw [this, str_bytes]
  simp
  omega
/-- texts stand as their bytes -/
theorem enc_less : (a b : List Int) → bys a → bys b → a ≠ b → ∀ x y, lless (enc a ++ 0 :: 1 :: x) (enc b ++ 0 :: 1 :: y) = lless a b
  | [], [], _, _, h, _, _ => absurd rfl h
  | [], c :: b, _, hb, _, x, y => by
    obtain ⟨hc, _⟩ := bys_cons.1 hb
    by_cases h0 : c = 0
    · subst h0; simp [enc, lless]
    · simp [enc, if_neg h0, lless]
      left; have := hc.1; omega
  | c :: a, [], ha, _, _, x, y => by
    obtain ⟨hc, _⟩ := bys_cons.1 ha
    by_cases h0 : c = 0
    · subst h0; simp [enc, lless]
    · simp [enc, if_neg h0, lless]
      have := hc.1
      constructor
      · omega
      · intro h; exact absurd h h0
  | c :: a, d :: b, ha, hb, hne, x, y => by
    obtain ⟨hc, ha2⟩ := bys_cons.1 ha
    obtain ⟨hd, hb2⟩ := bys_cons.1 hb
    by_cases hcd : c = d
    · subst hcd
      have ih := enc_less a b ha2 hb2 (fun e => hne (by rw [e])) x y
      by_cases h0 : c = 0
      · subst h0; simp [enc, lless, ih]
      · simp [enc, if_neg h0, lless, ih]
    · have hr : lless (c :: a) (d :: b) = decide (c < d) := by simp [lless, hcd]
      rw [hr]
      by_cases h0 : c = 0
      · subst h0
        have hd0 : d ≠ 0 := fun e => hcd e.symm
        simp only [enc, if_true, if_neg hd0, List.cons_append, lless]
        simp [hcd]
      · by_cases h1 : d = 0
        · subst h1
          simp only [enc, if_true, if_neg h0, List.cons_append, lless]
          simp [hcd]
        · simp only [enc, if_neg h0, if_neg h1, List.cons_append, lless]
          simp [hcd]
theorem text_less {s t : ByteArray} (h : s ≠ t) (x y : List Int) : lless (textB s ++ x) (textB t ++ y) = slt s t := by
  unfold textB
  rw [List.append_assoc, List.append_assoc, slt_bytes]
  exact enc_less _ _ (bys_of s) (bys_of t) (fun e => h (by rw [← str_bytes s, e, str_bytes])) x y
end Go.Px.Pu
