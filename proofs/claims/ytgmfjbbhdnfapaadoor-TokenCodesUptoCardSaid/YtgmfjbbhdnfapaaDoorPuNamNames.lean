/- Names: what is kept of a text, and that it is kept as it is. -/
import Derived.Test.YtgmfjbbhdnfapaaDoorPuNamFold
import Derived.Test.YtgmfjbbhdnfapaaDoorPuNamEnc
set_option linter.unusedVariables false
set_option linter.unusedSimpArgs false
namespace Go.Px.Pu
open Go Go.Px

def rune (r : Int) : Prop := ∃ c : Nat, r = c ∧ (c < 55296 ∨ (57344 ≤ c ∧ c ≤ 1114111))
theorem dec_rune (s : ByteArray) (p : Nat) : rune ((Utf8.decode s p).1 : Int) := by
  refine ⟨_, rfl, ?_⟩
  rw [Lib.decode_at]
  unfold Lib.decodeN
  repeat' split
  all_goals (simp only; omega)
theorem foldl_app (l : List Int) : ∀ s : ByteArray, l.foldl (fun s n => s ++ Utf8.encode n) s = s ++ strOfRunes l := by
  induction l with
  | nil => intro s; simp [strOfRunes]
  | cons a l ih =>
    intro s
    simp only [strOfRunes, List.foldl_cons] at ih ⊢
    rw [ih, ih (ByteArray.empty ++ Utf8.encode a)]
    simp [ByteArray.append_assoc]
theorem runes_cons (a : Int) (l : List Int) : strOfRunes (a :: l) = Utf8.encode a ++ strOfRunes l := by
  have := foldl_app l (ByteArray.empty ++ Utf8.encode a)
  simp only [strOfRunes, List.foldl_cons] at this ⊢
  rw [this]; simp
theorem runes_app (a b : List Int) : strOfRunes (a ++ b) = strOfRunes a ++ strOfRunes b := by
  unfold strOfRunes
  rw [List.foldl_append, foldl_app]; rfl
theorem enc_err : (Utf8.encode ((65533 : Nat) : Int)).size = 3 := by decide +kernel
theorem dec_enc_ne {c : Nat} (hv : c < 55296 ∨ (57344 ≤ c ∧ c ≤ 1114111)) : Utf8.decode (Utf8.encode (c : Int)) 0 ≠ (65533, 1) := fun e => by
  have e0 := dec_enc hv
  rw [e0] at e
  obtain ⟨h1, h2⟩ := Prod.mk.inj e
  have h3 : (Utf8.encode (c : Int)).size = 3 := by rw [h1]; exact enc_err
  omega
theorem enc_pos {c : Nat} (hv : c < 55296 ∨ (57344 ≤ c ∧ c ≤ 1114111)) : 0 < (Utf8.encode (c : Int)).size := by
  have := dec_w (Utf8.encode (c : Int)) 0
  rw [dec_enc hv] at this
  dsimp only at this
  omega
theorem dec_runes (a : List Int) (r : Int) (b : List Int) (h : rune r) : Utf8.decode (strOfRunes (a ++ r :: b)) (strOfRunes a).size = (r.toNat, (Utf8.encode r).size) := by
  obtain ⟨c, rfl, hv⟩ := h
  rw [runes_app, runes_cons]
  have := dec_app_ge (strOfRunes a) (Utf8.encode (c : Int) ++ strOfRunes b) 0
  rw [Nat.add_zero] at this
  rw [this, dec_app_lt _ _ 0 (enc_pos hv) (dec_enc_ne hv), dec_enc hv, Int.toNat_natCast]
/-- a character that is kept as it is -/
def kept (l : Int) : Prop := rune l ∧ lett l = (l, true)
theorem lett_up {r : Int} (h1 : 65 ≤ r) (h2 : r ≤ 90) : lett r = (r + 32, true) := by
  have e : isub .i32 (iadd .i32 r 97) 65 = r + 32 := by
    have e1 : iadd .i32 r 97 = r + 97 := IntWalk.i32_in _ ⟨by omega, by omega⟩
    rw [e1]
    have : isub .i32 (r + 97) 65 = r + 97 - 65 := IntWalk.i32_in _ ⟨by omega, by omega⟩
    rw [this]; omega
  unfold lett lettB
  rw [ige_iff.2 h1, ile_iff.2 h2, e]; rfl
theorem lett_other {r : Int} (h : ¬ (65 ≤ r ∧ r ≤ 90)) : (lett r).1 = r := by
  unfold lett lettB
  have : (ige r 65 && ile r 90) = false := by
    by_cases g : 65 ≤ r
    · rw [ile_f.2 (by omega), Bool.and_false]
    · rw [ige_f.2 (by omega), Bool.false_and]
  rw [this]
  simp only [cond_false]
  cases ((ige r 97 && ile r 122) || (ige r 48 && ile r 57) || ieq r 46 || ieq r 45 || ieq r 95) <;> rfl
theorem lett_low {r : Int} (h1 : 97 ≤ r) (h2 : r ≤ 122) : lett r = (r, true) := by
  have e := lett_other (r := r) (by omega)
  unfold lett lettB at e ⊢
  rw [ige_iff.2 h1, ile_iff.2 h2] at e ⊢
  have : (ige r 65 && ile r 90) = false := by rw [ile_f.2 (by omega)]; simp
  rw [this]; rfl
theorem lett_kept {r : Int} (hr : rune r) (h : (lett r).2 = true) : kept (lett r).1 := by
  by_cases hu : 65 ≤ r ∧ r ≤ 90
  · rw [lett_up hu.1 hu.2]
    show kept (r + 32)
    exact ⟨⟨(r + 32).toNat, by omega, by omega⟩, lett_low (by omega) (by omega)⟩
  · have e := lett_other hu
    rw [e]
    exact ⟨hr, Prod.ext e h⟩
/-- the walk over the characters -/
inductive FR where
  | bad (p : Nat) (e : Int)
  | ok (t : List Int)
def foldG : Nat → ByteArray → Nat → List Int → FR
  | 0, _, _, t => .ok t
  | k + 1, s, p, t => if p < s.size then
      (if (!(lett (Utf8.decode s p).1).2 || (ieq (p : Int) 0 && (ieq (lett (Utf8.decode s p).1).1 46 || ieq (lett (Utf8.decode s p).1).1 45))) = true then .bad p 4
        else if t.length = 16 then .bad p 2 else foldG k s (p + (Utf8.decode s p).2) (t ++ [(lett (Utf8.decode s p).1).1]))
      else .ok t
theorem foldG_end (k : Nat) (s : ByteArray) (p : Nat) (t : List Int) (h : s.size ≤ p) : foldG k s p t = .ok t := by
  cases k with
  | zero => rfl
  | succ k => simp only [foldG]; rw [if_neg (by omega)]
theorem foldG_fuel : (k j : Nat) → (s : ByteArray) → (p : Nat) → (t : List Int) → s.size - p ≤ k → s.size - p ≤ j → foldG k s p t = foldG j s p t
  | 0, j, s, p, t, h, _ => by rw [foldG_end 0 s p t (by omega), foldG_end j s p t (by omega)]
  | k + 1, 0, s, p, t, _, h => by rw [foldG_end 0 s p t (by omega), foldG_end (k + 1) s p t (by omega)]
  | k + 1, j + 1, s, p, t, h1, h2 => by
    simp only [foldG]
    split
    · split
      · rfl
      · split
        · rfl
        · have := dec_w s p
          exact foldG_fuel k j s _ _ (by omega) (by omega)
    · rfl
def finF (t : List Int) : ByteArray × Int × Int × Unit := if t.length = 0 then (⟨#[]⟩, 0, 4, ()) else if (strOfRunes t).size ≤ 32 then (strOfRunes t, 0, 0, ()) else (⟨#[]⟩, 0, 2, ())
def resF : FR → ByteArray × Int × Int × Unit
  | .bad p e => (⟨#[]⟩, (p : Int), e, ())
  | .ok t => finF t
def kF (x : List Int × Unit) : Option (ByteArray × Int × Int × Unit) := cond (ieq (x.1.length : Int) 0) (some ((⟨#[]⟩ : ByteArray), 0, 4, ())) (cond (ile ((strOfRunes x.1).size : Int) 32) (some ((strOfRunes x.1), 0, 0, ())) (some ((⟨#[]⟩ : ByteArray), 0, 2, ())))
theorem kF_eq (t : List Int) : kF (t, ()) = some (finF t) := by
  unfold kF finF
  by_cases h : t.length = 0
  · rw [cond_t (ieq_iff.2 (by simp only; omega)), if_pos h]
  · rw [cond_f (ieq_f.2 (by simp only; omega)), if_neg h]
    by_cases h2 : (strOfRunes t).size ≤ 32
    · rw [cond_t (ile_iff.2 (by simp only; omega)), if_pos h2]
    · rw [cond_f (ile_f.2 (by simp only; omega)), if_neg h2]
theorem fold_b (l0 : (List Int × (ByteArray × Nat) × Unit) → ((List Int × Unit) → Option (ByteArray × Int × Int × Unit)) → Option (ByteArray × Int × Int × Unit)) (s : ByteArray) (R : Option (ByteArray × Int × Int × Unit)) (h : l0 ([], (s, 0), ()) kF = R) : naming_Fold.b l0 (s, ()) = R := h
theorem fold_l0 (s : ByteArray) : naming_Fold.l0 ([], (s, 0), ()) kF = some (resF (foldG s.size s 0 [])) := by
  unfold naming_Fold.l0
  have key := loopN_eq (step := naming_Fold.s0 kF) (fun x => some (resF (foldG s.size s x.2.1.2 x.1)))
    (fun x => x.2.1.1 = s ∧ x.2.1.2 ≤ s.size ∧ x.1.length ≤ 16) (fun x => s.size - x.2.1.2) ?_
  · exact key (naming_Fold.n0 ([], (s, 0), ())) ([], (s, 0), ()) ⟨rfl, by simp, by simp⟩ (by simp only [naming_Fold.n0]; omega)
  · rintro ⟨t, ⟨s', p⟩, _⟩ ⟨h0, h1, h2⟩ κ hκ
    simp only at h0 h1 h2 hκ; subst h0
    simp only [naming_Fold.s0]
    rw [fold_step _ naming_letter_eq]
    by_cases hlt : p < s'.size
    · have hw := dec_w s' p
      have hle := dec_le s' p hlt
      rw [cond_t (decide_eq_true hlt), foldG_fuel s'.size (s'.size - p - 1 + 1) s' p t (by omega) (by omega)]
      simp only [foldG]
      rw [if_pos hlt]
      split
      · rename_i hb; rw [cond_t hb]; rfl
      · rename_i hb
        rw [cond_f (by simpa using hb)]
        split
        · rename_i h16; rw [cond_t (ieq_iff.2 (by omega))]; rfl
        · rename_i h16
          rw [cond_f (ieq_f.2 (by omega)), chk_true (fits_iff.2 (by omega)), hκ _ ⟨rfl, hle, by simp; omega⟩ (show s'.size - (p + (Utf8.decode s' p).2) < s'.size - p by omega)]
          dsimp only
          rw [foldG_fuel s'.size (s'.size - p - 1) s' (p + (Utf8.decode s' p).2) _ (by omega) (by omega)]
    · rw [cond_f (decide_eq_false hlt), kF_eq, foldG_end _ _ _ _ (by omega)]; rfl
theorem naming_Fold_eq (s : ByteArray) : naming_Fold (s, ()) = some (resF (foldG s.size s 0 [])) := by
  show naming_Fold.b naming_Fold.l0 (s, ()) = _
  exact fold_b _ s _ (fold_l0 s)

/-! ### what is kept -/
theorem foldG_kept : (k : Nat) → (s : ByteArray) → (p : Nat) → (t t' : List Int) → (∀ l ∈ t, kept l) → t.length ≤ 16 → (t = [] → p = 0) → (∀ l, t.head? = some l → l ≠ 46 ∧ l ≠ 45) → foldG k s p t = .ok t' → (∀ l ∈ t', kept l) ∧ t'.length ≤ 16 ∧ ∀ l, t'.head? = some l → l ≠ 46 ∧ l ≠ 45
  | 0, s, p, t, t', h1, h2, _, h4, h => by cases h; exact ⟨h1, h2, h4⟩
  | k + 1, s, p, t, t', h1, h2, h3, h4, h => by
    simp only [foldG] at h
    split at h
    · split at h
      · cases h
      · rename_i hb
        split at h
        · cases h
        · have hb : (!(lett (Utf8.decode s p).1).2 || (ieq (p : Int) 0 && (ieq (lett (Utf8.decode s p).1).1 46 || ieq (lett (Utf8.decode s p).1).1 45))) = false := by simpa using hb
          rw [Bool.or_eq_false_iff] at hb
          have hk := lett_kept (dec_rune s p) (by simpa using hb.1)
          have hw := dec_w s p
          refine foldG_kept k s _ _ t' (fun l hl => ?_) (by simp; omega) (fun e => by simp at e) (fun l hl => ?_) h
          · rcases List.mem_append.1 hl with hl | hl
            · exact h1 l hl
            · rw [List.mem_singleton.1 hl]; exact hk
          · cases ht : t with
            | cons a r => rw [ht] at hl; exact h4 l (by rw [ht]; simpa using hl)
            | nil =>
              rw [ht] at hl
              simp at hl
              subst hl
              by_cases hp : p = 0
              · have hb2 := hb.2
                rw [ieq_iff.2 (by omega), Bool.true_and, Bool.or_eq_false_iff] at hb2
                exact ⟨ieq_f.1 hb2.1, ieq_f.1 hb2.2⟩
              · exact absurd (h3 ht) hp
    · cases h; exact ⟨h1, h2, h4⟩
end Go.Px.Pu
