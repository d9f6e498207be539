/- The reference's Fold answers as the walk over the characters. -/
import Derived.Test.YtgmfjbbhdnfapaaDoorPuNamAppend
import Derived.Test.YtgmfjbbhdnfapaaDoorPuNamChars
import Derived.Test.YtgmfjbbhdnfapaaDoorPuLex
set_option linter.unusedVariables false
set_option linter.unusedSimpArgs false
namespace Go.Px.Pu
open Go Go.Px
theorem bytesApp (a b : ByteArray) : bytesOf (a ++ b) = bytesOf a ++ bytesOf b := by
  unfold bytesOf; simp
def sm (r : Int) : Int := cond (ige r 65) (cond (ile r 90) (iadd .i32 r 32) r) r
theorem small_eq (r : Int) : r03_small (r, ()) = some (sm r) := by
  unfold r03_small sm
  simp only [r03_small.b]
  cases ige r 65 <;> cases ile r 90 <;> rfl
theorem sm_lett (r : Int) : sm r = (lett r).1 := by
  unfold sm
  by_cases h1 : 65 ≤ r
  · rw [cond_t (ige_iff.2 h1)]
    by_cases h2 : r ≤ 90
    · rw [cond_t (ile_iff.2 h2), lett_up h1 h2]
      exact IntWalk.i32_in _ ⟨by omega, by omega⟩
    · rw [cond_f (ile_f.2 (by omega)), lett_other (by omega)]
  · rw [cond_f (ige_f.2 (by omega)), lett_other (by omega)]
def nmB (b10 b11 b3 b4 b5 b6 b7 b8 b9 : Bool) : Option Bool :=
    cond b10 (
    some b11) (
    cond b3 (
    cond b4 (
    some true) (
    cond b5 (
    cond b6 (
    some true) (
    cond b7 (
    some true) (
    cond b8 (
    some true) (
    some b9)))) (
    cond b7 (
    some true) (
    cond b8 (
    some true) (
    some b9))))) (
    cond b5 (
    cond b6 (
    some true) (
    cond b7 (
    some true) (
    cond b8 (
    some true) (
    some b9)))) (
    cond b7 (
    some true) (
    cond b8 (
    some true) (
    some b9)))))
theorem nmB_eq (b10 b11 b3 b4 b5 b6 b7 b8 b9 : Bool) (r u : Int) (h : b10 = true → b4 = false ∧ b6 = false ∧ b7 = false ∧ b8 = false ∧ b9 = false) : nmB b10 b11 b3 b4 b5 b6 b7 b8 b9 = some (cond ((b3 && b4) || (b5 && b6) || b7 || b8 || b9) (r, true) (r, b10 && b11)).2 := by
  cases b10 with
  | true =>
    obtain ⟨rfl, rfl, rfl, rfl, rfl⟩ := h rfl
    cases b3 <;> cases b5 <;> rfl
  | false => cases b3 <;> cases b4 <;> cases b5 <;> cases b6 <;> cases b7 <;> cases b8 <;> cases b9 <;> rfl
theorem named_main (r a : Int) (b : Bool) (f21 : (Int × Unit) → Option Int) (h21 : f21 (r, ()) = some (sm r)) : r03_named.b f21 ((r, a, b, ()), ()) = some (lett r).2 := by
  simp only [r03_named.b, h21, Option.bind_some]
  show nmB (ige (sm r) 128) (ine (sm r) 65533) (ige (sm r) 97) (ile (sm r) 122) (ige (sm r) 48) (ile (sm r) 57) (ieq (sm r) 46) (ieq (sm r) 45) (ieq (sm r) 95) = _
  rw [nmB_eq _ _ _ _ _ _ _ _ _ r r (fun h => by
    have h := ige_iff.1 h
    exact ⟨ile_f.2 (by omega), ile_f.2 (by omega), ieq_f.2 (by omega), ieq_f.2 (by omega), ieq_f.2 (by omega)⟩)]
  by_cases hu : 65 ≤ r ∧ r ≤ 90
  · rw [sm_lett, lett_up hu.1 hu.2]
    simp only
    rw [ige_iff.2 (show (97 : Int) ≤ r + 32 by omega), ile_iff.2 (show r + 32 ≤ 122 by omega)]; rfl
  · have e : sm r = r := by rw [sm_lett, lett_other hu]
    rw [e]
    unfold lett lettB
    have hf : (ige r 65 && ile r 90) = false := by
      cases h1 : ige r 65 with
      | false => rfl
      | true =>
        have := ige_iff.1 h1
        rw [Bool.true_and]; exact ile_f.2 (by omega)
    rw [hf, cond_false]
theorem named_eq (r a : Int) (b : Bool) : r03_named ((r, a, b, ()), ()) = some (lett r).2 := named_main r a b r03_small (small_eq r)
theorem lett_dot (r z : Int) (hz : z = 46 ∨ z = 45) : ieq (lett r).1 z = ieq r z := by
  by_cases hu : 65 ≤ r ∧ r ≤ 90
  · rw [lett_up hu.1 hu.2, ieq_f.2 (show r + 32 ≠ z by omega), ieq_f.2 (show r ≠ z by omega)]
  · rw [lett_other hu]
theorem runes_len : (t : List Int) → (∀ r ∈ t, rune r) → (bytesOf (strOfRunes t)).length ≤ 4 * t.length
  | [], _ => by decide
  | a :: t, h => by
    have ih := runes_len t fun r hr => h r (by simp [hr])
    obtain ⟨c, rfl, hv⟩ := h a (by simp)
    rw [runes_cons, bytesApp, enc_bytes hv, List.length_append]
    have : (encU c).length ≤ 4 := by unfold encU; split <;> (try split) <;> (try split) <;> simp
    simp; omega
abbrev FT := ByteArray × Int × Int × Unit
/-- one character -/
theorem rfold_step (f19 : ((Int × Int × Bool × Unit) × Unit) → Option Bool) (f20 : (List Int × Int × Unit) → Option (List Int)) (f21 : (Int × Unit) → Option Int) (kx : (List (Int × Int × Bool × Unit) × List Int × Unit) → Option FT) (κ : (List (Int × Int × Bool × Unit) × List Int × Int × Unit) → Option FT)
    (cs : List Chr) (o o' : List Int) (i : Nat) (hi : i < cs.length) (hl : cs.length ≤ 1000000000000) (r a : Int) (b : Bool) (hc : cs.getD i ((0 : Int), (0 : Int), false, ()) = (r, a, b, ()))
    (h19 : f19 ((r, a, b, ()), ()) = some (lett r).2) (h21 : f21 (r, ()) = some (lett r).1) (h20 : (lett r).2 = true → i < 16 → f20 (o, (lett r).1, ()) = some o') (h16 : i ≤ 16) :
    r03_Fold.s0b f19 f20 f21 kx (cs, o, (i : Int), ()) κ = (if (!(lett r).2 || (ieq (i : Int) 0 && (ieq r 46 || ieq r 45))) = true then some (⟨#[]⟩, a, 4, ()) else if i = 16 then some (⟨#[]⟩, a, 2, ()) else κ (cs, o', ((i + 1 : Nat) : Int), ())) := by
  simp only [r03_Fold.s0b]
  have hin : inB (i : Int) cs.length = true := inB_iff.2 (by omega)
  have ha : iadd .i64 (i : Int) 1 = ((i + 1 : Nat) : Int) := by rw [iadd64 (by omega)]; rfl
  rw [cond_t (ilt_iff.2 (by omega))]
  simp only [hin, chk_true, Int.toNat_natCast, hc, h19, h21, Option.bind_some, ha]
  cases hL : (lett r).2 with
  | false => rfl
  | true =>
    simp only [Bool.not_true, cond_false, Bool.false_or]
    by_cases h0 : i = 0
    · subst h0
      rw [cond_t (show ieq ((0 : Nat) : Int) 0 = true by decide), h20 hL (by omega)]
      simp only [Option.bind_some]
      rw [show ieq ((0 : Nat) : Int) 0 = true by decide, Bool.true_and]
      cases h1 : ieq r 46 with
      | true => rfl
      | false =>
        cases h2 : ieq r 45 with
        | true => rfl
        | false =>
          rw [cond_f rfl, cond_f rfl, cond_f (ieq_f.2 (by decide)), if_neg (by decide), if_neg (by decide)]
    · have e0 : ieq (i : Int) 0 = false := ieq_f.2 (by omega)
      rw [cond_f e0, e0, Bool.false_and, if_neg (by decide)]
      by_cases h6 : i = 16
      · rw [cond_t (ieq_iff.2 (by omega)), if_pos h6]
      · rw [cond_f (ieq_f.2 (by omega)), if_neg h6, h20 hL (by omega)]; rfl
theorem rfold_go (s : ByteArray) (cs : List Chr) (hcs : cs.length ≤ 1000000000000) (kx : (List (Int × Int × Bool × Unit) × List Int × Unit) → Option FT)
    (hkx : ∀ t : List Int, t.length = cs.length → (∀ r ∈ t, rune r) → kx (cs, bytesOf (strOfRunes t), ()) = some (finF t)) :
    ∀ (k n p i : Nat) (t : List Int), cs.drop i = charsL k s p → t.length = i → i ≤ 16 → i ≤ cs.length → (∀ r ∈ t, rune r) → s.size - p ≤ k → cs.length < n + i → (i = 0 ↔ p = 0) → loopN n (r03_Fold.s0 kx) (cs, bytesOf (strOfRunes t), (i : Int), ()) = some (resF (foldG k s p t))
  | k, 0, _, _, _, _, _, _, hil, _, _, hn, _ => by omega
  | 0, n + 1, p, i, t, hd, ht, h16, hil, hr, hk, hn, h0 => by
    have hlen : cs.length ≤ i := List.drop_eq_nil_iff.1 hd
    simp only [loopN, r03_Fold.s0]
    simp only [r03_Fold.s0b]
    rw [cond_f (ilt_f.2 (by omega)), hkx t (by omega) hr]; rfl
  | k + 1, n + 1, p, i, t, hd, ht, h16, hil, hr, hk, hn, h0 => by
    simp only [loopN, r03_Fold.s0]
    simp only [charsL] at hd
    by_cases hp : p < s.size
    · rw [if_pos hp] at hd
      have hi : i < cs.length := by
        refine Nat.lt_of_not_le fun h => ?_
        rw [List.drop_eq_nil_of_le h] at hd; cases hd
      have hdd := List.drop_eq_getElem_cons hi
      rw [hd] at hdd
      injection hdd with e1 e2
      have hc : cs.getD i ((0 : Int), (0 : Int), false, ()) = chr s p := by rw [List.getD_eq_getElem?_getD, List.getElem?_eq_getElem hi, e1]; rfl
      have hrn := dec_rune s p
      have hw := dec_w s p
      rw [rfold_step r03_named unicode_utf8_AppendRune r03_small kx _ cs _ (bytesOf (strOfRunes (t ++ [(lett ((Utf8.decode s p).1 : Int)).1]))) i hi hcs _ _ _ hc (named_eq _ _ _) (by rw [small_eq, sm_lett]) (fun hl hi16 => by
        have hlen := runes_len t hr
        rw [append_eq (lett_kept hrn hl).1 _ (by omega), runes_app, bytesApp, runes_cons]
        have e : strOfRunes [] = ByteArray.empty := rfl
        rw [e, ByteArray.append_empty]) h16]
      simp only [foldG]
      rw [if_pos hp, lett_dot _ 46 (.inl rfl), lett_dot _ 45 (.inr rfl)]
      have e0 : ieq (i : Int) 0 = ieq (p : Int) 0 := by
        rw [Bool.eq_iff_iff, ieq_iff, ieq_iff]; omega
      rw [e0]
      split
      · rfl
      · rename_i hb
        rw [ht]
        split
        · rfl
        · have hl : (lett ((Utf8.decode s p).1 : Int)).2 = true := by
            cases hl : (lett ((Utf8.decode s p).1 : Int)).2 with
            | true => rfl
            | false => rw [hl] at hb; exact absurd rfl hb
          exact rfold_go s cs hcs kx hkx k n _ (i + 1) _ e2.symm (by simp [ht]) (by omega) (by omega) (fun r hm => by
            rcases List.mem_append.1 hm with hm | hm
            · exact hr r hm
            · rw [List.mem_singleton] at hm; rw [hm]; exact (lett_kept hrn hl).1) (by omega) (by omega) (by omega)
    · rw [if_neg hp] at hd
      have hlen : cs.length ≤ i := List.drop_eq_nil_iff.1 hd
      simp only [r03_Fold.s0b]
      rw [cond_f (ilt_f.2 (by omega)), hkx t (by omega) hr, foldG_end _ _ _ _ (by omega)]; rfl
theorem rfold_main (s : ByteArray) (hs : s.size ≤ 1000000000) (f13 : (ByteArray × Unit) → Option (List (Int × Int × Bool × Unit))) (h13 : f13 (s, ()) = some (charsL s.size s 0)) : r03_Fold.b f13 r03_Fold.l0 (s, ()) = some (resF (foldG s.size s 0 [])) := by
  simp only [r03_Fold.b, h13, Option.bind_some]
  have hl := charsL_len s.size s 0
  unfold r03_Fold.l0
  refine rfold_go s (charsL s.size s 0) (by omega) _ (fun t ht hr => ?_) s.size _ 0 0 [] rfl rfl (by omega) (by omega) (fun r h => by cases h) (by omega) (by simp only [r03_Fold.n0]; omega) (Iff.rfl)
  dsimp only
  unfold finF
  by_cases h0 : t.length = 0
  · rw [cond_t (ieq_iff.2 (by omega)), if_pos h0]
  · rw [cond_f (ieq_f.2 (by omega)), if_neg h0, bytesOf_len]
    by_cases h32 : (strOfRunes t).size ≤ 32
    · rw [cond_f (igt_f.2 (by omega)), if_pos h32, str_bytes]
    · rw [cond_t (igt_iff.2 (by omega)), if_neg h32]
theorem r03_Fold_eq {s : ByteArray} (hs : s.size ≤ 1000000000) : r03_Fold (s, ()) = some (resF (foldG s.size s 0 [])) := rfold_main s hs r03_Chars (r03_Chars_eq (by omega))
end Go.Px.Pu
