/- NamingWithin: a name of three characters or more within a password makes it weak, great or small letters. -/
import Derived.Test.YtjpgncjabhiooaaDoorPuNamLow
import Derived.Test.YtjpgncjabhiooaaDoorPuNamAwake
set_option linter.unusedVariables false
set_option linter.unusedSimpArgs false
namespace Go.Px
open Go Go.Px.Pu
theorem within_main (a s b : ByteArray) (hsz : a.size + s.size + b.size ≤ 1048576) (f9 : Unit → Option Bool) (f10 : (ByteArray × Unit) → Option (ByteArray × Int × Int × Unit)) (f13 : (ByteArray × Unit) → Option (List (Int × Int × Bool × Unit))) (f14 : (ByteArray × ByteArray × Unit) → Option Int)
    (h9 : f9 () = some true) (n : ByteArray) (q e : Int) (h10 : f10 (s, ()) = some (n, q, e, ())) (cs : List Chr) (h13 : e = 0 → f13 (n, ()) = some cs) (h14 : e = 0 → 3 ≤ cs.length → weak (f14 ((a ++ s) ++ b, n, ()))) : w03_NamingWithin.b f9 f10 f13 f14 (a, s, b, ()) = some true := by
  simp only [w03_NamingWithin.b, h9, h10, Option.bind_some, Bool.not_true, cond_false]
  by_cases he : e = 0
  · rw [cond_f (ine_f.2 he), h13 he]
    simp only [Option.bind_some]
    by_cases h3 : 3 ≤ cs.length
    · obtain ⟨v, hv, e14⟩ := h14 he h3
      rw [cond_f (ilt_f.2 (by omega)), chk_true (decide_eq_true (by omega)), chk_true (decide_eq_true (by rw [size_app]; omega)), e14]
      simp only [Option.bind_some]
      rw [ine_iff.2 hv]
    · rw [cond_t (ilt_iff.2 (by omega))]
  · rw [cond_t (ine_iff.2 he)]
theorem pure_NamingWithin (x0 : ByteArray) (w0 : x0.size ≤ 140737488351232) (x1 : ByteArray) (w1 : x1.size ≤ 140737488351232) (x2 : ByteArray) (w2 : x2.size ≤ 140737488351232) (hb : x0.size + x1.size + x2.size ≤ 1048576) : w03_NamingWithin (x0, x1, x2, ()) = some true := by
  have hf := naming_Fold_eq x1
  cases hg : foldG x1.size x1 0 [] with
  | bad q e =>
    have he := foldG_bad _ _ _ _ q e hg
    rw [hg] at hf
    exact within_main x0 x1 x2 hb w03_awake naming_Fold r03_Chars naming_Strong w03_awake_eq _ _ e hf [] (fun h => by omega) (fun h => by omega)
  | ok t =>
    rw [hg] at hf
    obtain ⟨hk, h16, _⟩ := foldG_kept x1.size x1 0 [] t (fun l h => by cases h) (by simp) (fun _ => rfl) (fun l h => by cases h) hg
    have hrun : ∀ r ∈ [] ++ t, rune r := fun r hr => (hk r (by simpa using hr)).1
    by_cases h0 : t.length = 0
    · have e : finF t = (⟨#[]⟩, 0, 4, ()) := by unfold finF; rw [if_pos h0]
      rw [show resF (.ok t) = finF t from rfl, e] at hf
      exact within_main x0 x1 x2 hb w03_awake naming_Fold r03_Chars naming_Strong w03_awake_eq _ _ 4 hf [] (fun h => by omega) (fun h => by omega)
    by_cases h32 : (strOfRunes t).size ≤ 32
    · have e : finF t = (strOfRunes t, 0, 0, ()) := by unfold finF; rw [if_neg h0, if_pos h32]
      rw [show resF (.ok t) = finF t from rfl, e] at hf
      have hz : (strOfRunes []).size = 0 := rfl
      refine within_main x0 x1 x2 hb w03_awake naming_Fold r03_Chars naming_Strong w03_awake_eq _ _ 0 hf (charsL (strOfRunes t).size (strOfRunes t) 0) (fun _ => r03_Chars_eq (by omega)) (fun _ h3 => ?_)
      have hc := chars_runes t [] hrun (strOfRunes t).size (by rw [List.nil_append]; omega)
      rw [List.nil_append, hz] at hc
      rw [hc] at h3
      have hlow := low_runes t [] (fun r hr => hk r (by simpa using hr)) (strOfRunes t).size (by rw [List.nil_append]; omega)
      rw [List.nil_append, hz] at hlow
      rw [ByteArray.append_assoc]
      have hs3 : (x0 ++ (x1 ++ x2)).size = x0.size + (x1.size + x2.size) := by simp
      refine strong_weak (by omega) fun hsc => ?_
      obtain ⟨v, rest, e1, e2⟩ := low_name x0 x1 x2 x1.size 0 [] t (Nat.zero_le _) (by omega) hg
      rw [List.nil_append] at e1
      subst e1
      rw [Nat.add_zero] at e2
      have hx1 : 0 < x1.size := by
        refine Nat.pos_of_ne_zero fun hx => ?_
        rw [foldG_end _ _ _ _ (by omega)] at hg
        cases hg; simp at h0
      have hd0 : Utf8.decode (x1 ++ x2) 0 ≠ (65533, 1) := by
        have hv : Utf8.decode x1 0 ≠ (65533, 1) := by
          rw [foldG_fuel x1.size (x1.size - 1 + 1) x1 0 [] (by omega) (by omega)] at hg
          simp only [foldG] at hg
          rw [if_pos hx1] at hg
          split at hg
          · cases hg
          · rename_i hb'
            refine lett_valid ?_
            cases hl : (lett ((Utf8.decode x1 0).1 : Int)).2 with
            | true => rfl
            | false => rw [hl] at hb'; exact absurd rfl hb'
        rw [dec_app_lt x1 x2 0 hx1 hv]; exact hv
      obtain ⟨u, hu⟩ := low_ahead x0 (x1 ++ x2) (by rw [size_app]; omega) hd0 x0.size (x0 ++ (x1 ++ x2)).size 0 _ _ (Nat.zero_le _) (by omega) (by omega) hsc
      refine within_eq (by omega) (by omega) u rest (by rw [hlow]; exact h3) ?_
      rw [hlow, hu, e2]
    · have e : finF t = (⟨#[]⟩, 0, 2, ()) := by unfold finF; rw [if_neg h0, if_neg h32]
      rw [show resF (.ok t) = finF t from rfl, e] at hf
      exact within_main x0 x1 x2 hb w03_awake naming_Fold r03_Chars naming_Strong w03_awake_eq _ _ 2 hf [] (fun h => by omega) (fun h => by omega)
end Go.Px
