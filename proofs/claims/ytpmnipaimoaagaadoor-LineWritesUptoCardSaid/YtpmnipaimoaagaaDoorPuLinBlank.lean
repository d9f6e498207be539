/- Blanks about a line change nothing but places. -/
import Derived.Test.YtpmnipaimoaagaaDoorPuLinBack
set_option linter.unusedVariables false
set_option linter.unusedSimpArgs false
namespace Go.Px.LinC
open Go Go.Px Go.Px.Pu
abbrev sp1 : ByteArray := ⟨#[32]⟩
abbrev sp2 : ByteArray := ⟨#[32, 32]⟩
theorem dec_sp1 : Utf8.decode sp1 0 = (32, 1) := dec_ascii_mk 32 (by decide)
theorem dec_behind (s : ByteArray) (p : Nat) (hp : p < s.size) : Utf8.decode (s ++ sp1) p = Utf8.decode s p := by
  by_cases h : Utf8.decode s p = (65533, 1)
  · by_cases h2 : Utf8.decode (s ++ sp1) p = (65533, 1)
    · rw [h, h2]
    · have hc := dec_cut s sp1 p hp (by decide) h2 (by rw [dec_sp1]; decide)
      exact (dec_pre s sp1 p hp h2 hc).symm
  · exact dec_app_lt s sp1 p hp h
def blankX (s : ByteArray) : ByteArray := (sp2 ++ s) ++ sp1
theorem blankX_size (s : ByteArray) : (blankX s).size = s.size + 3 := by
  unfold blankX
  rw [ByteArray.size_append, ByteArray.size_append]
  show 2 + s.size + 1 = _
  omega
theorem blank_dec (s : ByteArray) (p : Nat) (hp : p < s.size) : Utf8.decode (blankX s) (2 + p) = Utf8.decode s p ∧ here (blankX s) (2 + p) = here s p := by
  have e : blankX s = sp2 ++ (s ++ sp1) := ByteArray.append_assoc
  have h1 := dec_app_ge sp2 (s ++ sp1) p
  have h2 := here_ge sp2 (s ++ sp1) p
  have hz : sp2.size = 2 := rfl
  rw [hz] at h1 h2
  rw [e, h1, h2, dec_behind s p hp]
  exact ⟨rfl, here_lt s sp1 p hp (dec_behind s p hp)⟩
theorem blank_end (s : ByteArray) : Utf8.decode (blankX s) (2 + s.size) = (32, 1) := by
  have h1 := dec_app_ge (sp2 ++ s) sp1 0
  have hz : (sp2 ++ s).size = 2 + s.size := by rw [ByteArray.size_append]; rfl
  rw [hz, Nat.add_zero] at h1
  unfold blankX
  rw [h1, dec_sp1]
theorem blank_walk (s : ByteArray) : ∀ (k p st : Nat) (out : List ByteArray) (w : ByteArray), s.size - p ≤ k → p ≤ s.size →
    ((wF s p st out w).2.2.1 = 0 → wF (blankX s) (2 + p) st out w = ((wF s p st out w).1, 0, 0, ()) ∧ (wF s p st out w).2.1 = 0) ∧
    ((wF s p st out w).2.2.1 ≠ 0 → ∃ q r : Int, wF s p st out w = ([], q, 4, ()) ∧ wF (blankX s) (2 + p) st out w = ([], r, 4, ()) ∧ (r = q + 2 ∨ r = (s.size : Int) + 3))
  | k, p, st, out, w, hk, hp => by
    have hsz := blankX_size s
    by_cases hlt : p < s.size
    · obtain ⟨hd, hh⟩ := blank_dec s p hlt
      have hwd := dec_w s p
      have hle := dec_le s p hlt
      rw [wF_step s _ _ _ _ hlt, wF_step (blankX s) _ _ _ _ (by omega), step_dec hd hh, hd]
      cases hs : stepW s p st out w with
      | none => exact ⟨fun h => absurd h (by simp [errW]), fun _ => ⟨(p : Int), ((2 + p : Nat) : Int), rfl, rfl, .inl (by omega)⟩⟩
      | some x =>
        obtain ⟨st', out', w'⟩ := x
        cases k with
        | zero => omega
        | succ k =>
          have := blank_walk s k (p + (Utf8.decode s p).2) st' out' w' (by omega) hle
          rw [← Nat.add_assoc] at this
          exact this
    · have hpe : p = s.size := by omega
      subst hpe
      have hd := blank_end s
      have hend : ∀ st out w, wF (blankX s) (2 + s.size + 1) st out w = endW (blankX s) st out w := fun st out w => wF_end _ _ _ _ _ (by omega)
      rw [wF_end s _ _ _ _ (Nat.le_refl _), wF_step (blankX s) _ _ _ _ (by omega), hd]
      have hpl : plainB (blankX s) (2 + s.size) = true := by
        have : wrongB (blankX s) (2 + s.size) = false := by unfold wrongB; rw [hd]; rfl
        unfold plainB; rw [this, hd]; rfl
      match st with
      | 0 =>
        have hst : stepW (blankX s) (2 + s.size) 0 out w = some (0, out, w) := by simp only [stepW]; rw [hd, if_pos rfl]
        rw [hst]; dsimp only; rw [hend]
        exact ⟨fun _ => ⟨rfl, rfl⟩, fun h => absurd rfl h⟩
      | 1 =>
        have hst : stepW (blankX s) (2 + s.size) 1 out w = some (0, out ++ [w], ⟨#[]⟩) := by simp only [stepW]; rw [hd, if_pos rfl]
        rw [hst]; dsimp only; rw [hend]
        exact ⟨fun _ => ⟨rfl, rfl⟩, fun h => absurd rfl h⟩
      | 2 =>
        have hst : stepW (blankX s) (2 + s.size) 2 out w = some (2, out, w ++ here (blankX s) (2 + s.size)) := by
          simp only [stepW]
          rw [if_neg (by rw [hpl]; decide), hd, if_neg (by decide), if_neg (by decide)]
        rw [hst]; dsimp only; rw [hend]
        exact ⟨fun h => absurd h (by simp [endW, errW]), fun _ => ⟨(s.size : Int), ((blankX s).size : Int), rfl, rfl, .inr (by rw [hsz]; omega)⟩⟩
      | 3 =>
        have hst : stepW (blankX s) (2 + s.size) 3 out w = none := by
          simp only [stepW]
          rw [hd, if_neg (by decide)]
        rw [hst]
        exact ⟨fun h => absurd h (by simp [endW, errW]), fun _ => ⟨(s.size : Int), ((2 + s.size : Nat) : Int), rfl, rfl, .inl (by omega)⟩⟩
      | st + 4 =>
        have hst : stepW (blankX s) (2 + s.size) (st + 4) out w = some (0, out ++ [w], ⟨#[]⟩) := by simp only [stepW]; rw [hd, if_pos rfl]
        have he : endW s (st + 4) out w = (out ++ [w], 0, 0, ()) := by
          unfold endW
          rw [if_neg (by omega), if_neg (by omega)]
        rw [hst, he]; dsimp only; rw [hend]
        exact ⟨fun _ => ⟨rfl, rfl⟩, fun h => absurd rfl h⟩
theorem blank_head (s : ByteArray) : wF (blankX s) 0 0 [] ⟨#[]⟩ = wF (blankX s) (2 + 0) 0 [] ⟨#[]⟩ := by
  have hsz := blankX_size s
  have e : blankX s = sp1 ++ (sp1 ++ (s ++ sp1)) := by
    unfold blankX
    apply ByteArray.ext
    apply Array.toList_inj.1
    simp
  have h0 : Utf8.decode (blankX s) 0 = (32, 1) := by
    rw [e, dec_app_lt sp1 _ 0 (by decide) (by rw [dec_sp1]; decide), dec_sp1]
  have h1 : Utf8.decode (blankX s) 1 = (32, 1) := by
    have := dec_app_ge sp1 (sp1 ++ (s ++ sp1)) 0
    rw [show sp1.size + 0 = 1 from rfl] at this
    rw [e, this, dec_app_lt sp1 _ 0 (by decide) (by rw [dec_sp1]; decide), dec_sp1]
  rw [wF_step _ _ _ _ _ (by omega), h0]
  have s0 : stepW (blankX s) 0 0 [] ⟨#[]⟩ = some (0, [], ⟨#[]⟩) := by simp only [stepW]; rw [h0, if_pos rfl]
  rw [s0]; dsimp only
  rw [wF_step _ _ _ _ _ (by omega), h1]
  have s1 : stepW (blankX s) (0 + 1) 0 [] ⟨#[]⟩ = some (0, [], ⟨#[]⟩) := by simp only [stepW]; rw [h1, if_pos rfl]
  rw [s1]
  rfl
/-- the request of a line with blanks about it -/
theorem blank_parse (s : ByteArray) (hs : s.size ≤ 290) : (lParse (wordsR (blankX s))).1 = (lParse (wordsR s)).1 ∧ (lParse (wordsR (blankX s))).2.1 = (lParse (wordsR s)).2.1 ∧ (lParse (wordsR (blankX s))).2.2.2 = (lParse (wordsR s)).2.2.2 ∧
    ((lParse (wordsR s)).2.2.1 > 0 → (lParse (wordsR (blankX s))).2.2.1 = (lParse (wordsR s)).2.2.1 + 2 ∨ (lParse (wordsR (blankX s))).2.2.1 = (s.size : Int) + 3) := by
  have hsz := blankX_size s
  have e1 : wordsR s = wF s 0 0 [] ⟨#[]⟩ := by unfold wordsR; rw [if_pos (by omega)]
  have e2 : wordsR (blankX s) = wF (blankX s) (2 + 0) 0 [] ⟨#[]⟩ := by unfold wordsR; rw [if_pos (by omega), blank_head]
  obtain ⟨g1, g2⟩ := blank_walk s s.size 0 0 [] ⟨#[]⟩ (by omega) (by omega)
  rw [← e1, ← e2] at g1 g2
  by_cases h : (wordsR s).2.2.1 = 0
  · obtain ⟨k1, k2⟩ := g1 h
    have : wordsR (blankX s) = wordsR s := by
      rw [k1]
      exact Prod.ext rfl (Prod.ext k2.symm (Prod.ext h.symm rfl))
    rw [this]
    refine ⟨rfl, rfl, rfl, fun hp => ?_⟩
    exfalso
    unfold lParse at hp
    rw [if_neg (by simpa using h)] at hp
    cases hW : (wordsR s).1 with
    | nil => rw [hW] at hp; exact absurd hp (by decide)
    | cons x l =>
      rw [hW] at hp
      dsimp only at hp
      cases hf : findF x 11 0 with
      | none => rw [hf] at hp; exact absurd hp (show ¬ (0 : Int) > 0 by decide)
      | some k =>
        rw [hf] at hp
        dsimp only at hp
        split at hp
        · exact absurd hp (show ¬ (0 : Int) > 0 by decide)
        · exact absurd hp (show ¬ (0 : Int) > 0 by decide)
  · obtain ⟨q, r, k1, k2, k3⟩ := g2 h
    rw [k1, k2]
    exact ⟨rfl, rfl, rfl, fun _ => k3⟩
end Go.Px.LinC
