/- Texts and numbers read: the program's way and the reference's. -/
import Derived.Test.YtapijncpploihaaDoorSh
import Derived.Test.YtapijncpploihaaDoorPuBase
import Derived.Test.YtapijncpploihaaDoorPuDrop
set_option linter.unusedVariables false
set_option linter.unusedSimpArgs false
namespace Go.Px.Pu
open Go Go.Px

/-- what is read of a text from a place on -/
def readT (s : List Int) (i : Int) : List Int → ByteArray × Int × Int × Unit
  | [] => (⟨#[]⟩, 0, 3, ())
  | b :: r => if b = 0 then (match r with
      | [] => (⟨#[]⟩, 0, 3, ())
      | c :: r' => if c = 1 then (strOf s, i + 2, 0, ()) else if c = 255 then readT (s ++ [0]) (i + 2) r' else (⟨#[]⟩, 0, 3, ()))
    else readT (s ++ [b]) (i + 1) r
section
variable {p : List Int} (hp : p.length ≤ 140737488351232)
include hp
theorem readText_l0 (kx : Unit → Option (ByteArray × Int × Int × Unit)) (hk : kx () = some (⟨#[]⟩, 0, 3, ())) (s : List Int) (k : Nat) (hs : s.length ≤ k) (hk' : k ≤ p.length) :
    octet_ReadText.l0 (p, s, (k : Int), ()) kx = some (readT s k (p.drop k)) := by
  unfold octet_ReadText.l0
  have key := loopN_eq (step := octet_ReadText.s0 kx) (fun x => some (readT x.2.1 x.2.2.1 (p.drop x.2.2.1.toNat)))
    (fun x => x.1 = p ∧ ∃ k : Nat, x.2.2.1 = k ∧ x.2.1.length ≤ k ∧ k ≤ p.length) (fun x => p.length - x.2.2.1.toNat) ?_
  · exact key _ (p, s, (k : Int), ()) ⟨rfl, k, rfl, hs, hk'⟩ (by simp [octet_ReadText.n0]; omega)
  · rintro ⟨p', s, i, _⟩ ⟨h0, k, h1, h2, h3⟩ κ hκ
    simp only at h0 h1 h2 h3 hκ; subst h0 h1
    simp only [octet_ReadText.s0, octet_ReadText.s0b]
    by_cases hlt : k < p'.length
    · rw [cond_t (ilt_iff.2 (by omega)), chk_true (inB_iff.2 (by omega))]
      have hd := drop_cons hlt
      simp only [Int.toNat_natCast] at hκ ⊢
      rw [hd]
      by_cases hb : p'.getD k 0 = 0
      · rw [cond_f (ine_f.2 hb)]
        have ha : iadd .i64 (k : Int) 1 = ((k + 1 : Nat) : Int) := by rw [iadd64 (by omega)]; rfl
        rw [ha]
        by_cases hl2 : k + 1 = p'.length
        · rw [cond_t (ieq_iff.2 (by omega)), hk]
          unfold readT; rw [if_pos hb, List.drop_eq_nil_of_le (by omega)]
        · have hlt2 : k + 1 < p'.length := by omega
          rw [cond_f (ieq_f.2 (by omega)), chk_true (inB_iff.2 (by omega))]
          have hd2 := drop_cons hlt2
          rw [hd2]
          have ha2 : iadd .i64 ((k + 1 : Nat) : Int) 1 = ((k + 2 : Nat) : Int) := by rw [iadd64 (by omega)]; rfl
          rw [ha2]
          simp only [Int.toNat_natCast]
          by_cases h1 : p'.getD (k + 1) 0 = 1
          · rw [cond_t (ieq_iff.2 h1)]
            unfold readT; simp only [hb, h1, if_true]; rfl
          · rw [cond_f (ieq_f.2 h1)]
            by_cases h5 : p'.getD (k + 1) 0 = 255
            · rw [cond_t (ieq_iff.2 h5), chk_true (fits_iff.2 (by omega)), hκ _ ⟨rfl, k + 2, rfl, by simp; omega, by omega⟩ (by simp; omega)]
              conv => rhs; unfold readT
              simp only [hb, h5, if_true]
              simp
              rw [show ((k : Int) + 2).toNat = k + 1 + 1 by omega]
            · rw [cond_f (ieq_f.2 h5)]
              unfold readT; simp only [hb, h1, h5, if_true, if_false]
      · rw [cond_t (ine_iff.2 hb), chk_true (inB_iff.2 (by omega)), chk_true (fits_iff.2 (by omega))]
        have ha : iadd .i64 (k : Int) 1 = ((k + 1 : Nat) : Int) := by rw [iadd64 (by omega)]; rfl
        rw [ha, hκ _ ⟨rfl, k + 1, rfl, by simp; omega, by omega⟩ (by simp; omega)]
        conv => rhs; unfold readT
        rw [if_neg hb]
        simp
    · rw [cond_f (ilt_f.2 (by omega)), hk]
      simp only [Int.toNat_natCast]
      rw [List.drop_eq_nil_of_le (by omega)]; rfl
theorem rreadText_l0 (kx : Unit → Option (ByteArray × Int × Int × Unit)) (hk : kx () = some (⟨#[]⟩, 0, 3, ())) (s : List Int) (k : Nat) (hs : s.length ≤ k) (hk' : k ≤ p.length) :
    r02_ReadText.l0 (p, s, (k : Int), ()) kx = some (readT s k (p.drop k)) := by
  unfold r02_ReadText.l0
  have key := loopN_eq (step := r02_ReadText.s0 kx) (fun x => some (readT x.2.1 x.2.2.1 (p.drop x.2.2.1.toNat)))
    (fun x => x.1 = p ∧ ∃ k : Nat, x.2.2.1 = k ∧ x.2.1.length ≤ k ∧ k ≤ p.length) (fun x => p.length - x.2.2.1.toNat) ?_
  · exact key _ (p, s, (k : Int), ()) ⟨rfl, k, rfl, hs, hk'⟩ (by simp [r02_ReadText.n0]; omega)
  · rintro ⟨p', s, i, _⟩ ⟨h0, k, h1, h2, h3⟩ κ hκ
    simp only at h0 h1 h2 h3 hκ; subst h0 h1
    simp only [r02_ReadText.s0, r02_ReadText.s0b]
    by_cases hlt : k < p'.length
    · rw [cond_t (ilt_iff.2 (by omega)), chk_true (inB_iff.2 (by omega))]
      have hd := drop_cons hlt
      simp only [Int.toNat_natCast] at hκ ⊢
      rw [hd]
      by_cases hb : p'.getD k 0 = 0
      · rw [cond_t (ieq_iff.2 hb)]
        have ha : iadd .i64 (k : Int) 1 = ((k + 1 : Nat) : Int) := by rw [iadd64 (by omega)]; rfl
        have ha' : iadd .i64 (k : Int) 2 = (k : Int) + 2 := by rw [iadd64 (by omega)]
        rw [ha, ha']
        by_cases hl2 : k + 1 = p'.length
        · rw [cond_t (ige_iff.2 (by omega))]
          unfold readT; rw [if_pos hb, List.drop_eq_nil_of_le (by omega)]
        · have hlt2 : k + 1 < p'.length := by omega
          rw [cond_f (ige_f.2 (by omega)), chk_true (inB_iff.2 (by omega))]
          have hd2 := drop_cons hlt2
          rw [hd2]
          have ha2 : iadd .i64 ((k + 1 : Nat) : Int) 1 = ((k + 2 : Nat) : Int) := by rw [iadd64 (by omega)]; rfl
          rw [ha2]
          simp only [Int.toNat_natCast]
          by_cases h1 : p'.getD (k + 1) 0 = 1
          · rw [cond_t (ieq_iff.2 h1)]
            unfold readT; simp only [hb, h1, if_true]
          · rw [cond_f (ieq_f.2 h1), chk_true (inB_iff.2 (by omega))]
            by_cases h5 : p'.getD (k + 1) 0 = 255
            · rw [cond_f (ine_f.2 h5), chk_true (fits_iff.2 (by omega)), hκ _ ⟨rfl, k + 2, rfl, by simp; omega, by omega⟩ (by simp; omega)]
              conv => rhs; unfold readT
              simp only [hb, h5, if_true]
              simp
              rw [show ((k : Int) + 2).toNat = k + 1 + 1 by omega]
            · rw [cond_t (ine_iff.2 h5)]
              unfold readT; simp only [hb, h1, h5, if_true, if_false]
      · rw [cond_f (ieq_f.2 hb), chk_true (inB_iff.2 (by omega)), chk_true (fits_iff.2 (by omega))]
        have ha : iadd .i64 (k : Int) 1 = ((k + 1 : Nat) : Int) := by rw [iadd64 (by omega)]; rfl
        rw [ha, hκ _ ⟨rfl, k + 1, rfl, by simp; omega, by omega⟩ (by simp; omega)]
        conv => rhs; unfold readT
        rw [if_neg hb]
        simp
    · rw [cond_f (ilt_f.2 (by omega)), hk]
      simp only [Int.toNat_natCast]
      rw [List.drop_eq_nil_of_le (by omega)]; rfl
/-- a text read at a place -/
def readText (p : List Int) (i : Int) : ByteArray × Int × Int × Unit :=
  if i < 0 then (⟨#[]⟩, 0, 1, ()) else if (p.length : Int) < i then (⟨#[]⟩, 0, 1, ()) else readT [] i (p.drop i.toNat)
theorem octet_ReadText_eq (i : Int) : octet_ReadText (p, i, ()) = some (readText p i) := by
  unfold octet_ReadText readText
  simp only [octet_ReadText.b]
  by_cases h1 : i < 0
  · rw [cond_t (ilt_iff.2 h1), if_pos h1]
  · rw [cond_f (ilt_f.2 (by omega)), if_neg h1]
    by_cases h2 : (p.length : Int) < i
    · rw [cond_t (igt_iff.2 h2), if_pos h2]
    · rw [cond_f (igt_f.2 (by omega)), if_neg h2]
      obtain ⟨k, rfl⟩ : ∃ k : Nat, i = k := ⟨i.toNat, by omega⟩
      exact readText_l0 hp _ rfl [] k (Nat.zero_le _) (by omega)
theorem r02_ReadText_eq (i : Int) : r02_ReadText (p, i, ()) = some (readText p i) := by
  unfold r02_ReadText readText
  simp only [r02_ReadText.b]
  by_cases h1 : i < 0
  · rw [cond_t (ilt_iff.2 h1), if_pos h1]
  · rw [cond_f (ilt_f.2 (by omega)), if_neg h1]
    by_cases h2 : (p.length : Int) < i
    · rw [cond_t (igt_iff.2 h2), if_pos h2]
    · rw [cond_f (igt_f.2 (by omega)), if_neg h2]
      obtain ⟨k, rfl⟩ : ∃ k : Nat, i = k := ⟨i.toNat, by omega⟩
      exact rreadText_l0 hp _ rfl [] k (Nat.zero_le _) (by omega)
end
end Go.Px.Pu
