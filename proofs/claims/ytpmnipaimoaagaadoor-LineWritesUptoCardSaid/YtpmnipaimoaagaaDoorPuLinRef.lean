/- The reference's words: its loop is the walk over positions. -/
import Derived.Test.YtpmnipaimoaagaaDoorPuLinW
set_option linter.unusedVariables false
set_option linter.unusedSimpArgs false
namespace Go.Px.Pu
open Go Go.Px
theorem dec_fffd {s : ByteArray} {p : Nat} (h : (Utf8.decode s p).1 = 65533) : (Utf8.decode s p).2 = 1 ∨ (Utf8.decode s p).2 = 3 := by
  rw [Lib.decode_at] at h ⊢
  have k0 := (s.get! p).toNat_lt
  have k1 := (s.get! (p + 1)).toNat_lt
  have k2 := (s.get! (p + 2)).toNat_lt
  have k3 := (s.get! (p + 3)).toNat_lt
  rcases Lib.decodeN_shape (s.size - p) (s.get! p).toNat (s.get! (p + 1)).toNat (s.get! (p + 2)).toNat (s.get! (p + 3)).toNat with ⟨c, e⟩ | ⟨c1, c2, c3, cv, e⟩ | ⟨c1, c2, c3, c4, cv, cs, e⟩ | ⟨c1, c2, c3, c4, c5, cv, cw, e⟩ | e
  · rw [e] at h ⊢; dsimp only at h ⊢; omega
  · rw [e] at h ⊢; dsimp only at h ⊢; omega
  · rw [e]; exact .inr rfl
  · rw [e] at h; dsimp only at h; omega
  · rw [e]; exact .inl rfl
theorem ok_eq (s : ByteArray) (p : Nat) : decide ((Utf8.decode s p).1 ≠ 65533 ∨ (Utf8.decode s p).2 = 3) = !wrongB s p := by
  have := dec_fffd (s := s) (p := p)
  unfold wrongB
  rw [Bool.eq_iff_iff]
  simp only [Bool.not_eq_true', decide_eq_true_eq, decide_eq_false_iff_not]
  omega
theorem plain_eq (s : ByteArray) (p : Nat) : r05_plain (chr s p, ()) = some (plainB s p) := by
  unfold r05_plain chr plainB
  simp only [r05_plain.b, ok_eq]
  cases wrongB s p with
  | true => simp
  | false =>
    simp only [Bool.not_false, cond_true, Bool.and_true]
    by_cases h : 32 ≤ (Utf8.decode s p).1
    · rw [cond_t (ige_iff.2 (by omega)), decide_eq_true h, Bool.true_and]
      congr 1
      rw [Bool.eq_iff_iff, ine_iff, decide_eq_true_eq]; omega
    · rw [cond_f (ige_f.2 (by omega)), decide_eq_false h, Bool.false_and]
abbrev RS := ByteArray × List (Int × Int × Bool × Unit) × List ByteArray × ByteArray × Int × Int × Unit
theorem app_nil (w : ByteArray) : w ++ (⟨#[]⟩ : ByteArray) = w := by
  apply ByteArray.ext; simp
set_option maxHeartbeats 4000000 in
theorem ref_step (s : ByteArray) (hs : s.size ≤ 300) (l pre : List Chr) (p i : Nat) (out : List ByteArray) (w : ByteArray) (st : Nat) (hst : st ≤ 4) (kx : (ByteArray × List ByteArray × ByteArray × Int × Unit) → Option WL) (κ : RS → Option WL)
    (hp : p < s.size) (hl : l = pre ++ charsL s.size s p) (hi : pre.length = i) (hip : i ≤ p) (hw : w.size ≤ p) (ho : out.length ≤ p) :
    r05_Words.s0b r05_plain kx (s, l, out, w, (st : Int), (i : Int), ()) κ = match stepW s p st out w with
      | none => some (errW p)
      | some (st', out', w') => κ (s, l, out', w', (st' : Int), ((i + 1 : Nat) : Int), ()) := by
  have hle := dec_le s p hp
  have hwd := dec_w s p
  have hc : charsL s.size s p = chr s p :: charsL s.size s (p + (Utf8.decode s p).2) := by
    rw [charsL_fuel s.size (s.size - p - 1 + 1) s p (by omega) (by omega)]
    simp only [charsL]
    rw [if_pos hp, charsL_fuel (s.size - p - 1) s.size s _ (by omega) (by omega)]
  have hlen : l.length = i + 1 + (charsL s.size s (p + (Utf8.decode s p).2)).length := by rw [hl, hc]; simp [hi]; omega
  have hcl := charsL_len s.size s (p + (Utf8.decode s p).2)
  have hg : l.getD i ((0 : Int), (0 : Int), false, ()) = chr s p := by
    rw [hl, hc, List.getD_eq_getElem?_getD, List.getElem?_append_right (by omega), hi, Nat.sub_self]; rfl
  have hi1 : iadd .i64 (i : Int) 1 = ((i + 1 : Nat) : Int) := by rw [iadd64 (by omega)]; rfl
  have hsub : subStr s (p : Int) ((p + (Utf8.decode s p).2 : Nat) : Int) = here s p := by unfold subStr here; simp only [Int.toNat_natCast]
  have hhs : (here s p).size ≤ s.size := by simp [here]; omega
  have k1 : decide (w.size + (here s p).size < 4611686018427387904) = true := decide_eq_true (by omega)
  have k2 : decide (w.size + (⟨#[]⟩ : ByteArray).size < 4611686018427387904) = true := decide_eq_true (by have : (⟨#[]⟩ : ByteArray).size = 0 := rfl; omega)
  have k3 : decide ((⟨#[]⟩ : ByteArray).size + (⟨#[]⟩ : ByteArray).size < 4611686018427387904) = true := by decide
  have k4 : fits 16 (out.length + 1) = true := fits_iff.2 (by omega)
  simp only [r05_Words.s0b, Int.toNat_natCast, hg]
  rw [cond_t (ilt_iff.2 (by omega)), chk_true (by simp [inB]; omega)]
  have e1 : (chr s p).1 = ((Utf8.decode s p).1 : Int) := rfl
  have e2 : (chr s p).2.1 = (p : Int) := rfl
  have e3 : (chr s p).2.2.1 = !wrongB s p := ok_eq s p
  have e4 : r05_plain ((((Utf8.decode s p).1 : Int), (p : Int), !wrongB s p, ()), ()) = some (plainB s p) := by have h := plain_eq s p; unfold chr at h; rw [ok_eq] at h; exact h
  simp only [e1, e2, e3, hi1, Int.toNat_natCast, e4, Option.bind_some]
  have hw32 : (Utf8.decode s p).1 = 32 → wrongB s p = false := fun h => by unfold wrongB; rw [h]; rfl
  have z0 : ieq (st : Int) 0 = decide (st = 0) := by rw [Bool.eq_iff_iff, ieq_iff, decide_eq_true_eq]; omega
  have z1 : ieq (st : Int) 1 = decide (st = 1) := by rw [Bool.eq_iff_iff, ieq_iff, decide_eq_true_eq]; omega
  have z2 : ieq (st : Int) 2 = decide (st = 2) := by rw [Bool.eq_iff_iff, ieq_iff, decide_eq_true_eq]; omega
  have z3 : ieq (st : Int) 3 = decide (st = 3) := by rw [Bool.eq_iff_iff, ieq_iff, decide_eq_true_eq]; omega
  have z4 : ieq (st : Int) 4 = decide (st = 4) := by rw [Bool.eq_iff_iff, ieq_iff, decide_eq_true_eq]; omega
  have y32 : ieq ((Utf8.decode s p).1 : Int) 32 = decide ((Utf8.decode s p).1 = 32) := by rw [Bool.eq_iff_iff, ieq_iff, decide_eq_true_eq]; omega
  have y34 : ieq ((Utf8.decode s p).1 : Int) 34 = decide ((Utf8.decode s p).1 = 34) := by rw [Bool.eq_iff_iff, ieq_iff, decide_eq_true_eq]; omega
  have y92 : ieq ((Utf8.decode s p).1 : Int) 92 = decide ((Utf8.decode s p).1 = 92) := by rw [Bool.eq_iff_iff, ieq_iff, decide_eq_true_eq]; omega
  have n32 : ine ((Utf8.decode s p).1 : Int) 32 = !decide ((Utf8.decode s p).1 = 32) := by rw [← y32]; rfl
  have n34 : ine ((Utf8.decode s p).1 : Int) 34 = !decide ((Utf8.decode s p).1 = 34) := by rw [← y34]; rfl
  have n92 : ine ((Utf8.decode s p).1 : Int) 92 = !decide ((Utf8.decode s p).1 = 92) := by rw [← y92]; rfl
  have hcl4 : ((Utf8.decode s p).1 = 32 ∧ wrongB s p = false) ∨ (Utf8.decode s p).1 = 34 ∨ (Utf8.decode s p).1 = 92 ∨ ((Utf8.decode s p).1 ≠ 32 ∧ (Utf8.decode s p).1 ≠ 34 ∧ (Utf8.decode s p).1 ≠ 92) := by
    by_cases h : (Utf8.decode s p).1 = 32
    · exact .inl ⟨h, hw32 h⟩
    · omega
  have hst5 : st = 0 ∨ st = 1 ∨ st = 2 ∨ st = 3 ∨ st = 4 := by omega
  simp only [z0, z1, z2, z3, z4, y32, y34, y92, n32, n34, n92]
  -- the two ends are one
  by_cases hn : p + (Utf8.decode s p).2 < s.size
  · have hc2 : charsL s.size s (p + (Utf8.decode s p).2) = chr s (p + (Utf8.decode s p).2) :: charsL s.size s (p + (Utf8.decode s p).2 + (Utf8.decode s (p + (Utf8.decode s p).2)).2) := by
      rw [charsL_fuel s.size (s.size - (p + (Utf8.decode s p).2) - 1 + 1) s _ (by omega) (by omega)]
      simp only [charsL]
      have := dec_w s (p + (Utf8.decode s p).2)
      rw [if_pos hn, charsL_fuel (s.size - (p + (Utf8.decode s p).2) - 1) s.size s _ (by omega) (by omega)]
    have hlen2 : i + 1 < l.length := by rw [hlen, hc2]; simp
    have hg2 : l.getD (i + 1) ((0 : Int), (0 : Int), false, ()) = chr s (p + (Utf8.decode s p).2) := by
      rw [hl, hc, hc2, List.getD_eq_getElem?_getD, List.getElem?_append_right (by omega), show i + 1 - pre.length = 1 by omega]; rfl
    rw [cond_t (ilt_iff.2 (by omega)), chk_true (by simp [inB]; omega)]
    simp only [hg2]
    have e5 : (chr s (p + (Utf8.decode s p).2)).2.1 = ((p + (Utf8.decode s p).2 : Nat) : Int) := rfl
    simp only [e5, hsub, k1, k2, k3, k4, chk, cond_true, app_nil]
    rw [show (leB 0 (p : Int) && (leB (p : Int) ((p + (Utf8.decode s p).2 : Nat) : Int) && leB ((p + (Utf8.decode s p).2 : Nat) : Int) (s.size : Int))) = true by simp [leB]; omega]
    clear hc hc2 hg hg2 hl hcl hlen hlen2 e1 e2 e3 e4 e5 z0 z1 z2 z3 z4 y32 y34 y92 n32 n34 n92 hw32
    simp only [cond_true]
    rcases hst5 with rfl | rfl | rfl | rfl | rfl
    · rcases hcl4 with ⟨h, h'⟩ | h | h | ⟨h, h', h''⟩ <;> cases hpl : plainB s p <;> simp [stepW, errW, *]
    · rcases hcl4 with ⟨h, h'⟩ | h | h | ⟨h, h', h''⟩ <;> cases hpl : plainB s p <;> simp [stepW, errW, *]
    · rcases hcl4 with ⟨h, h'⟩ | h | h | ⟨h, h', h''⟩ <;> cases hpl : plainB s p <;> simp [stepW, errW, *]
    · rcases hcl4 with ⟨h, h'⟩ | h | h | ⟨h, h', h''⟩ <;> cases hpl : plainB s p <;> simp [stepW, errW, *]
    · rcases hcl4 with ⟨h, h'⟩ | h | h | ⟨h, h', h''⟩ <;> cases hpl : plainB s p <;> simp [stepW, errW, *]
  · have hend : p + (Utf8.decode s p).2 = s.size := by omega
    have hnil : charsL s.size s (p + (Utf8.decode s p).2) = [] := charsL_end _ _ _ (by omega)
    have hlen2 : ¬ i + 1 < l.length := by rw [hlen, hnil]; simp
    rw [cond_f (ilt_f.2 (by omega))]
    rw [hend] at hsub
    simp only [hsub, k1, k2, k3, k4, chk, cond_true, app_nil]
    rw [show (leB 0 (p : Int) && (leB (p : Int) (s.size : Int) && leB (s.size : Int) (s.size : Int))) = true by simp [leB]; omega]
    clear hc hg hl hcl hlen hlen2 e1 e2 e3 e4 z0 z1 z2 z3 z4 y32 y34 y92 n32 n34 n92 hw32 hnil hn
    simp only [cond_true]
    rcases hst5 with rfl | rfl | rfl | rfl | rfl
    · rcases hcl4 with ⟨h, h'⟩ | h | h | ⟨h, h', h''⟩ <;> cases hpl : plainB s p <;> simp [stepW, errW, *]
    · rcases hcl4 with ⟨h, h'⟩ | h | h | ⟨h, h', h''⟩ <;> cases hpl : plainB s p <;> simp [stepW, errW, *]
    · rcases hcl4 with ⟨h, h'⟩ | h | h | ⟨h, h', h''⟩ <;> cases hpl : plainB s p <;> simp [stepW, errW, *]
    · rcases hcl4 with ⟨h, h'⟩ | h | h | ⟨h, h', h''⟩ <;> cases hpl : plainB s p <;> simp [stepW, errW, *]
    · rcases hcl4 with ⟨h, h'⟩ | h | h | ⟨h, h', h''⟩ <;> cases hpl : plainB s p <;> simp [stepW, errW, *]
/-- what a step gathers stays small -/
theorem stepW_small {s : ByteArray} {p st : Nat} {out : List ByteArray} {w : ByteArray} {st' : Nat} {out' : List ByteArray} {w' : ByteArray} (h : stepW s p st out w = some (st', out', w')) (hp : p < s.size) (hw : w.size ≤ p) (ho : out.length ≤ p) :
    st' ≤ 4 ∧ w'.size ≤ p + (Utf8.decode s p).2 ∧ out'.length ≤ p + (Utf8.decode s p).2 := by
  have hwd := dec_w s p
  have hle := dec_le s p hp
  have hh : (here s p).size = (Utf8.decode s p).2 := by simp [here]; omega
  have h0 : (⟨#[]⟩ : ByteArray).size = 0 := rfl
  unfold stepW at h
  dsimp only at h
  split at h
  all_goals (repeat' split at h)
  all_goals first
    | (cases h; done)
    | (cases h; refine ⟨by omega, ?_, ?_⟩ <;> first | omega | (simp only [List.length_append, List.length_singleton, ByteArray.size_append, hh, h0]; omega))
theorem ref_go (s : ByteArray) (hs : s.size ≤ 300) (l : List Chr) (kx : (ByteArray × List ByteArray × ByteArray × Int × Unit) → Option WL) (hkx : ∀ out w (st : Nat), st ≤ 4 → out.length ≤ s.size → kx (s, out, w, (st : Int), ()) = some (endW s st out w)) :
    ∀ (k n p i : Nat) (pre : List Chr) (out : List ByteArray) (w : ByteArray) (st : Nat), st ≤ 4 → s.size - p ≤ k → k < n → p ≤ s.size → l = pre ++ charsL s.size s p → pre.length = i → i ≤ p → w.size ≤ p → out.length ≤ p →
      loopN n (r05_Words.s0 kx) (s, l, out, w, (st : Int), (i : Int), ()) = some (wF s p st out w)
  | k, 0, p, i, pre, out, w, st, _, _, hn, _, _, _, _, _, _ => absurd hn (Nat.not_lt_zero _)
  | k, n + 1, p, i, pre, out, w, st, hst, hk, hn, hps, hl, hi, hip, hw, ho => by
    by_cases hp : p < s.size
    · simp only [loopN]
      show r05_Words.s0b r05_plain kx _ _ = _
      rw [ref_step s hs l pre p i out w st hst kx _ hp hl hi hip hw ho, wF_step s p st out w hp]
      cases hst' : stepW s p st out w with
      | none => rfl
      | some x =>
        obtain ⟨st', out', w'⟩ := x
        obtain ⟨g1, g2, g3⟩ := stepW_small hst' hp hw ho
        have hwd := dec_w s p
        have hle := dec_le s p hp
        have hc : charsL s.size s p = chr s p :: charsL s.size s (p + (Utf8.decode s p).2) := by
          rw [charsL_fuel s.size (s.size - p - 1 + 1) s p (by omega) (by omega)]
          simp only [charsL]
          rw [if_pos hp, charsL_fuel (s.size - p - 1) s.size s _ (by omega) (by omega)]
        cases k with
        | zero => omega
        | succ k =>
          exact ref_go s hs l kx hkx k n (p + (Utf8.decode s p).2) (i + 1) (pre ++ [chr s p]) out' w' st' g1 (by omega) (by omega) hle (by rw [hl, hc]; simp) (by simp [hi]) (by omega) g2 g3
    · have hnil : charsL s.size s p = [] := charsL_end _ _ _ (by omega)
      simp only [loopN]
      show r05_Words.s0b r05_plain kx _ _ = _
      simp only [r05_Words.s0b]
      rw [cond_f (ilt_f.2 (by rw [hl, hnil]; simp; omega)), hkx _ _ _ hst (by omega), wF_end _ _ _ _ _ (by omega)]
theorem ref_main (s : ByteArray) (f22 : (ByteArray × Unit) → Option (List Chr)) (l0 : RS → ((ByteArray × List ByteArray × ByteArray × Int × Unit) → Option WL) → Option WL) (h22 : f22 (s, ()) = some (charsL s.size s 0)) (R : WL)
    (h : s.size ≤ 300 → ∀ kx : (ByteArray × List ByteArray × ByteArray × Int × Unit) → Option WL, (∀ out w (st : Nat), st ≤ 4 → out.length ≤ s.size → kx (s, out, w, (st : Int), ()) = some (endW s st out w)) → l0 (s, charsL s.size s 0, [], ⟨#[]⟩, 0, 0, ()) kx = some R)
    (hR : s.size ≤ 300 → R = wF s 0 0 [] ⟨#[]⟩) (hR' : 300 < s.size → R = ([], 0, 2, ())) : r05_Words.b f22 l0 (s, ()) = some R := by
  simp only [r05_Words.b]
  by_cases hs : s.size ≤ 300
  · rw [cond_f (igt_f.2 (by omega)), h22]
    simp only [Option.bind_some]
    refine h hs _ fun out w st hst ho => ?_
    have hst5 : st = 0 ∨ st = 1 ∨ st = 2 ∨ st = 3 ∨ st = 4 := by omega
    rcases hst5 with rfl | rfl | rfl | rfl | rfl
    · rfl
    · have k4 : fits 16 (out.length + 1) = true := fits_iff.2 (by omega)
      simp only [k4, chk, cond_true]; rfl
    · rfl
    · rfl
    · have k4 : fits 16 (out.length + 1) = true := fits_iff.2 (by omega)
      simp only [k4, chk, cond_true]; rfl
  · rw [cond_t (igt_iff.2 (by omega)), hR' (by omega)]
/-- the words of a text, by the reference's states -/
def wordsR (s : ByteArray) : WL := if s.size ≤ 300 then wF s 0 0 [] ⟨#[]⟩ else ([], 0, 2, ())
theorem r05_Words_eq {s : ByteArray} (hs : s.size ≤ 1000000000000) : r05_Words (s, ()) = some (wordsR s) :=
  ref_main s r03_Chars r05_Words.l0 (r03_Chars_eq hs) _ (fun h3 kx hkx => by
    unfold r05_Words.l0
    have := ref_go s h3 (charsL s.size s 0) kx hkx s.size (r05_Words.n0 (s, charsL s.size s 0, [], ⟨#[]⟩, 0, 0, ())) 0 0 [] [] ⟨#[]⟩ 0 (by omega) (by omega) (by simp only [r05_Words.n0]; omega) (by omega) rfl rfl (by omega) (Nat.le_refl _) (by simp)
    unfold wordsR; rw [if_pos h3]
    exact this) (fun h3 => by unfold wordsR; rw [if_pos h3]) (fun h3 => by unfold wordsR; rw [if_neg (by omega)])
end Go.Px.Pu
