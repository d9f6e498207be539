/- NamingPlaces: what stands ahead of the first fault of a text is a name, or nothing. -/
import Derived.Test.YtjpgncjabhiooaaDoorPuNamPre
set_option linter.unusedVariables false
set_option linter.unusedSimpArgs false
namespace Go.Px
open Go Go.Px.Pu
theorem places_main {s : ByteArray} (f9 : Unit → Option Bool) (f10 : (ByteArray × Unit) → Option (ByteArray × Int × Int × Unit)) (f13 : (ByteArray × Unit) → Option (List (Int × Int × Bool × Unit))) (hf : f9 () = some true) {n : ByteArray} {at' e : Int} (h : f10 (s, ()) = some (n, at', e, ()))
    (hc : at' = 0 ∨ ∃ p : Nat, at' = p ∧ 0 < p ∧ p < s.size ∧ e ≠ 0 ∧ ∃ m x g, f10 (subStr s 0 (p : Int), ()) = some (m, x, g, ()) ∧ ((g = 0 ∧ ∃ l, f13 (m, ()) = some l ∧ l.length ≤ 16) ∨ g = 2)) : w03_NamingPlaces.b f9 f10 f13 (s, ()) = some true := by
  simp only [w03_NamingPlaces.b, hf, h, Option.bind_some, Bool.not_true, cond_false]
  rcases hc with rfl | ⟨p, rfl, h1, h2, h3, m, x, g, h4, h5⟩
  · by_cases he : e = 0
    · subst he; rfl
    · rw [cond_f (ieq_f.2 he), cond_t (ieq_iff.2 rfl), cond_t (ine_iff.2 he)]
  · have hlt : ilt (p : Int) (s.size : Int) = true := ilt_iff.2 (by omega)
    rw [cond_f (ieq_f.2 h3), cond_f (ieq_f.2 (by omega)), chk_true (by simp [leB]; omega), h4]
    simp only [Option.bind_some]
    rcases h5 with ⟨rfl, l, h6, h7⟩ | rfl
    · rw [cond_t (ieq_iff.2 rfl), cond_f (ine_f.2 rfl), h6]
      simp only [Option.bind_some]
      rw [cond_t (ile_iff.2 (by omega)), hlt]
    · rw [cond_f (ieq_f.2 (by omega)), cond_t (ieq_iff.2 rfl), cond_t (ine_iff.2 (by omega)), hlt]
theorem pure_NamingPlaces (x0 : ByteArray) (w0 : x0.size ≤ 140737488351232) : w03_NamingPlaces (x0, ()) = some true := by
  show w03_NamingPlaces.b w03_awake naming_Fold r03_Chars (x0, ()) = some true
  cases hG : foldG x0.size x0 0 [] with
  | ok t =>
    have h := naming_Fold_eq x0
    rw [hG] at h
    simp only [resF, finF] at h
    split at h
    · exact places_main _ _ _ w03_awake_eq h (.inl rfl)
    · split at h
      · exact places_main _ _ _ w03_awake_eq h (.inl rfl)
      · exact places_main _ _ _ w03_awake_eq h (.inl rfl)
  | bad p e =>
    have h := naming_Fold_eq x0
    rw [hG] at h
    refine places_main _ _ _ w03_awake_eq h ?_
    by_cases hp : p = 0
    · exact .inl (by rw [hp]; rfl)
    · right
      obtain ⟨_, hlt⟩ := foldG_ge _ _ _ _ _ _ hG
      have he : e ≠ 0 := by rcases foldG_bad _ _ _ _ _ _ hG with h | h <;> omega
      have hs : subStr x0 0 (p : Int) = x0.extract 0 p := by simp [subStr]
      have hx : x0 = x0.extract 0 p ++ x0.extract p x0.size := by
        apply ByteArray.ext
        simp
      have hz : (x0.extract 0 p).size = p := by simp; omega
      have hG2 := hG
      rw [hx] at hG2
      have hG3 : foldG (x0.extract 0 p ++ x0.extract p x0.size).size (x0.extract 0 p ++ x0.extract p x0.size) 0 [] = .bad (x0.extract 0 p).size e := by rw [hz]; exact hG2
      obtain ⟨t', g1, g2⟩ := foldG_pre _ _ _ _ _ _ hG3 (x0.extract 0 p).size (by omega)
      obtain ⟨hk, hlen, _⟩ := foldG_kept _ _ _ _ _ (fun l hl => by cases hl) (by simp) (fun _ => rfl) (fun l hl => by cases hl) g1
      have ht : t' ≠ [] := g2 (.inr (by omega))
      refine ⟨p, rfl, by omega, hlt, he, ?_⟩
      rw [hs, naming_Fold_eq, g1]
      simp only [resF, finF]
      have h0 : t'.length ≠ 0 := fun e => ht (List.eq_nil_of_length_eq_zero e)
      rw [if_neg h0]
      split
      · rename_i h32
        refine ⟨_, _, _, rfl, .inl ⟨rfl, _, r03_Chars_eq (by omega), ?_⟩⟩
        have := chars_runes t' [] (fun r hr => (hk r (by simpa using hr)).1) (strOfRunes t').size (by simp)
        simp only [List.nil_append] at this
        have e0 : (strOfRunes []).size = 0 := rfl
        rw [e0] at this
        rw [this]; exact hlen
      · exact ⟨_, _, _, rfl, .inr rfl⟩
end Go.Px
