/- line.Words: its loop is the same walk. -/
import Derived.Test.YtpmnipaimoaagaaDoorPuLinQuo
set_option linter.unusedVariables false
set_option linter.unusedSimpArgs false
namespace Go.Px.Pu
open Go Go.Px
theorem byteAt_eq {s : ByteArray} {p : Nat} (hp : p < s.size) : byteAt s p = (((s[p]'hp).toNat : Nat) : Int) := by
  unfold byteAt
  have hl : s.data.toList.length = s.size := by rw [Array.length_toList]; rfl
  rw [List.getElem?_eq_getElem (by omega)]
  simp only [Option.getD_some, Array.getElem_toList]
  rfl
theorem byteAt_dec {s : ByteArray} {p c : Nat} (hp : p < s.size) (hc : c < 128) : byteAt s p = (c : Int) ↔ (Utf8.decode s p).1 = c := by
  rw [byteAt_eq hp, byte_of hp hc]; omega
theorem sub_here {s : ByteArray} {a p : Nat} (hap : a ≤ p) (hp : p < s.size) : subStr s (a : Int) (p : Int) ++ here s p = subStr s (a : Int) ((p + (Utf8.decode s p).2 : Nat) : Int) := by
  have hle := dec_le s p hp
  apply ByteArray.ext
  apply Array.toList_inj.1
  unfold here subStr
  simp only [ByteArray.data_append, ByteArray.data_extract, Array.toList_append, Array.toList_extract, List.extract_eq_take_drop, Int.toNat_natCast]
  have hl : s.data.toList.length = s.size := by rw [Array.length_toList]; rfl
  have e1 : s.data.toList.drop p = (s.data.toList.drop a).drop (p - a) := by rw [List.drop_drop]; congr 1; omega
  rw [e1, show p + (Utf8.decode s p).2 - a = (p - a) + (p + (Utf8.decode s p).2 - p) by omega, List.take_add]
theorem sub_self (s : ByteArray) (a : Nat) : subStr s (a : Int) (a : Int) = ⟨#[]⟩ := by
  unfold subStr
  apply ByteArray.ext
  simp
theorem bare_walk (s : ByteArray) (a : Nat) (out : List ByteArray) : ∀ (k p : Nat), s.size - p ≤ k → a ≤ p → p ≤ s.size →
    wF s p 1 out (subStr s (a : Int) (p : Int)) = goOn s out ((bareG k s a p).1, (bareG k s a p).2.1, (bareG k s a p).2.2.1)
  | 0, p, h, hap, hps => by
    have : p = s.size := by omega
    subst this
    rw [wF_end _ _ _ _ _ (by omega)]
    unfold bareG goOn
    rw [if_pos rfl]
    dsimp only
    rw [Int.toNat_natCast, wF_end _ _ _ _ _ (by omega)]
    rfl
  | k + 1, p, h, hap, hps => by
    by_cases hp : p < s.size
    · have hwd := dec_w s p
      have hle := dec_le s p hp
      have ih := bare_walk s a out k (p + (Utf8.decode s p).2) (by omega) (by omega) hle
      rw [wF_step _ _ _ _ _ hp]
      simp only [bareG, stepW]
      rw [if_pos hp]
      by_cases h32 : (Utf8.decode s p).1 = 32
      · rw [if_pos h32, if_pos h32]
        unfold goOn
        rw [if_pos rfl]
        dsimp only
        rw [Int.toNat_natCast, wF_step _ _ _ _ _ hp]
        simp only [stepW]
        rw [if_pos h32]
      · rw [if_neg h32, if_neg h32]
        have hb : badB s p = true ↔ (plainB s p = false ∨ (Utf8.decode s p).1 = 34 ∨ (Utf8.decode s p).1 = 92) := by
          unfold badB plainB
          simp only [Bool.or_eq_true, decide_eq_true_eq, Bool.and_eq_false_iff, decide_eq_false_iff_not, Bool.not_eq_false', Nat.not_le]
          cases hw : wrongB s p with
          | true => simp
          | false => simp only [Bool.false_eq_true, or_false, decide_eq_false_iff_not]; omega
        by_cases hbad : badB s p = true
        · rw [if_pos (hb.1 hbad), if_pos hbad]
          rfl
        · rw [if_neg (fun e => hbad (hb.2 e)), if_neg hbad]
          dsimp only
          rw [sub_here hap hp]
          exact ih
    · have : p = s.size := by omega
      subst this
      rw [wF_end _ _ _ _ _ (by omega)]
      simp only [bareG]
      rw [if_neg hp]
      unfold goOn
      rw [if_pos rfl]
      dsimp only
      rw [Int.toNat_natCast, wF_end _ _ _ _ _ (by omega)]
      rfl
theorem bare_is (s : ByteArray) (p : Nat) (hp : p < s.size) (out : List ByteArray) (h32 : (Utf8.decode s p).1 ≠ 32) (h34 : (Utf8.decode s p).1 ≠ 34) :
    wF s p 0 out ⟨#[]⟩ = goOn s out ((bareG s.size s p p).1, (bareG s.size s p p).2.1, (bareG s.size s p p).2.2.1) := by
  rw [← bare_walk s p out s.size p (by omega) (Nat.le_refl _) (by omega), sub_self, wF_step _ _ _ _ _ hp, wF_step _ _ _ _ _ hp]
  have : stepW s p 0 out ⟨#[]⟩ = stepW s p 1 out ⟨#[]⟩ := by
    simp only [stepW]
    rw [if_neg h32, if_neg h32]
    by_cases hc : plainB s p = false ∨ (Utf8.decode s p).1 = 92
    · rw [if_pos hc, if_pos (by rcases hc with h | h; exact .inl h; exact .inr (.inr h))]
    · rw [if_neg hc, if_neg h34, if_neg]
      rintro (h | h | h)
      · exact hc (.inl h)
      · exact h34 h
      · exact hc (.inr h)
  rw [this]
/-- where the word ends -/
theorem bareG_at (s : ByteArray) (a : Nat) : ∀ (k p : Nat), p ≤ s.size → ∃ j : Nat, (bareG k s a p).2.1 = (j : Int) ∧ j ≤ s.size ∧ p ≤ j
  | 0, p, h => ⟨s.size, rfl, Nat.le_refl _, h⟩
  | k + 1, p, h => by
    simp only [bareG]
    split
    · rename_i hp
      split
      · exact ⟨p, rfl, h, Nat.le_refl _⟩
      · split
        · exact ⟨p, rfl, h, Nat.le_refl _⟩
        · have hwd := dec_w s p
          obtain ⟨j, h1, h2, h3⟩ := bareG_at s a k (p + (Utf8.decode s p).2) (dec_le s p hp)
          exact ⟨j, h1, h2, by omega⟩
    · exact ⟨s.size, rfl, Nat.le_refl _, h⟩
theorem bareG_on (s : ByteArray) (a p : Nat) (hp : p < s.size) (h32 : (Utf8.decode s p).1 ≠ 32) (hok : (bareG s.size s a p).2.2.1 = true) : ∃ j : Nat, (bareG s.size s a p).2.1 = (j : Int) ∧ j ≤ s.size ∧ p < j := by
  obtain ⟨k, hk⟩ : ∃ k, s.size = k + 1 := ⟨s.size - 1, by omega⟩
  rw [hk] at hok ⊢
  simp only [bareG] at hok ⊢
  rw [if_pos hp, if_neg h32] at hok ⊢
  split at hok
  · cases hok
  · rename_i hb
    rw [if_neg hb]
    have hwd := dec_w s p
    obtain ⟨j, h1, h2, h3⟩ := bareG_at s a k (p + (Utf8.decode s p).2) (dec_le s p hp)
    exact ⟨j, h1, by omega, by omega⟩
theorem qG_at (s : ByteArray) (a : Nat) (ha : a ≤ s.size) : ∀ (f pos : Nat) (op : Bool) (acc : List UInt8), (Quo.qG s a f pos op acc).2.2 = true → ∃ j : Nat, (Quo.qG s a f pos op acc).2.1 = (j : Int) ∧ j ≤ s.size ∧ a < j
  | 0, pos, op, acc, h => by cases h
  | f + 1, pos, op, acc, h => by
    have hes : (s.extract a s.size).size = s.size - a := by simp
    simp only [Quo.qG] at h ⊢
    split at h
    · rename_i hp
      rw [hes] at hp
      rw [if_pos (by rw [hes]; exact hp)]
      split at h
      · cases h
      · rename_i hb
        rw [if_neg hb]
        split at h
        · rename_i hc
          rw [if_pos hc]
          exact qG_at s a ha f _ _ _ h
        · rename_i hc
          rw [if_neg hc]
          split at h
          · rename_i hd
            rw [if_pos hd]
            split at h
            · rename_i he
              rw [dif_pos he]
              split at h
              · cases h
              · rename_i hf
                rw [if_neg hf]
                exact ⟨_, rfl, by omega, by omega⟩
            · rename_i he
              rw [dif_neg he]
              exact ⟨_, rfl, by omega, by omega⟩
          · rename_i hd
            rw [if_neg hd]
            exact qG_at s a ha f _ _ _ h
    · cases h
abbrev LS := ByteArray × List ByteArray × Int × Unit
theorem skip_go (s : ByteArray) (hs : s.size ≤ 300) (out : List ByteArray) (kx : LS → Option WL) : ∀ (k n p : Nat), s.size - p ≤ k → k < n → p ≤ s.size →
    ∃ j : Nat, p ≤ j ∧ j ≤ s.size ∧ (∀ h : j < s.size, (Utf8.decode s j).1 ≠ 32) ∧ wF s p 0 out ⟨#[]⟩ = wF s j 0 out ⟨#[]⟩ ∧ loopN n (line_Words.s2 kx) (s, out, (p : Int), ()) = kx (s, out, (j : Int), ())
  | k, 0, p, _, hn, _ => absurd hn (Nat.not_lt_zero _)
  | k, n + 1, p, hk, hn, hps => by
    by_cases hp : p < s.size
    · by_cases h32 : (Utf8.decode s p).1 = 32
      · have hn1 := width_ascii hp (by omega)
        cases k with
        | zero => omega
        | succ k =>
        obtain ⟨j, g1, g2, g3, g4, g5⟩ := skip_go s hs out kx k n (p + 1) (by omega) (by omega) (by omega)
        refine ⟨j, by omega, g2, g3, ?_, ?_⟩
        · rw [wF_step _ _ _ _ _ hp]
          simp only [stepW]
          rw [if_pos h32, hn1]
          exact g4
        · simp only [loopN]
          show line_Words.s2b kx _ _ = _
          simp only [line_Words.s2b, Int.toNat_natCast]
          have hi1 : iadd .i64 (p : Int) 1 = ((p + 1 : Nat) : Int) := by rw [iadd64 (by omega)]; rfl
          rw [cond_t (ilt_iff.2 (by omega)), chk_true (by simp [inB]; omega), cond_t (ieq_iff.2 (show byteAt s p = 32 from (byteAt_dec hp (c := 32) (by omega)).2 h32)), hi1]
          exact g5
      · refine ⟨p, Nat.le_refl _, hps, fun _ => h32, rfl, ?_⟩
        simp only [loopN]
        show line_Words.s2b kx _ _ = _
        simp only [line_Words.s2b, Int.toNat_natCast]
        rw [cond_t (ilt_iff.2 (by omega)), chk_true (by simp [inB]; omega), cond_f (ieq_f.2 (show ¬ byteAt s p = 32 from fun e => h32 ((byteAt_dec hp (c := 32) (by omega)).1 e)))]
    · refine ⟨p, Nat.le_refl _, hps, fun h => absurd h hp, rfl, ?_⟩
      simp only [loopN]
      show line_Words.s2b kx _ _ = _
      simp only [line_Words.s2b]
      rw [cond_f (ilt_f.2 (by omega))]
theorem line_go (s : ByteArray) (hs : s.size ≤ 300) (kx : Unit → Option WL) (f20 f21 : (ByteArray × Int × Unit) → Option (ByteArray × Int × Bool × Unit)) (l2 : LS → (LS → Option WL) → Option WL)
    (h20 : ∀ a : Nat, a ≤ s.size → f20 (s, (a : Int), ()) = some ((Quo.quotedG s a).1, (Quo.quotedG s a).2.1, (Quo.quotedG s a).2.2, ()))
    (h21 : ∀ a : Nat, a ≤ s.size → f21 (s, (a : Int), ()) = some (bareG s.size s a a))
    (hl2 : ∀ (out : List ByteArray) (p : Nat) (kx : LS → Option WL), p ≤ s.size → out.length ≤ p → ∃ j : Nat, p ≤ j ∧ j ≤ s.size ∧ (∀ h : j < s.size, (Utf8.decode s j).1 ≠ 32) ∧ wF s p 0 out ⟨#[]⟩ = wF s j 0 out ⟨#[]⟩ ∧ l2 (s, out, (p : Int), ()) kx = kx (s, out, (j : Int), ())) :
    ∀ (k n p : Nat) (out : List ByteArray), s.size - p ≤ k → k < n → p ≤ s.size → out.length ≤ p → loopN n (line_Words.s0b f20 f21 l2 kx) (s, out, (p : Int), ()) = some (wF s p 0 out ⟨#[]⟩)
  | k, 0, p, out, _, hn, _, _ => absurd hn (Nat.not_lt_zero _)
  | k, n + 1, p, out, hk, hn, hps, ho => by
    simp only [loopN, line_Words.s0b]
    obtain ⟨j, g1, g2, g3, g4, g5⟩ := hl2 out p _ hps ho
    rw [g5, g4]
    dsimp only
    by_cases hj : j < s.size
    · have k4 : fits 16 (out.length + 1) = true := fits_iff.2 (by omega)
      rw [cond_f (ieq_f.2 (by omega)), chk_true (by simp [inB]; omega), Int.toNat_natCast, k4]
      have h32 := g3 hj
      by_cases h34 : (Utf8.decode s j).1 = 34
      · have hi1 : iadd .i64 (j : Int) 1 = ((j + 1 : Nat) : Int) := by rw [iadd64 (by omega)]; rfl
        have hn1 := width_ascii hj (by omega)
        rw [cond_t (ieq_iff.2 (show byteAt s j = 34 from (byteAt_dec hj (c := 34) (by omega)).2 h34)), hi1, h20 (j + 1) (by omega)]
        simp only [Option.bind_some]
        have hw : wF s j 0 out ⟨#[]⟩ = goOn s out (Quo.quotedG s (j + 1)) := by
          rw [wF_step _ _ _ _ _ hj]
          simp only [stepW]
          rw [if_neg (by omega), if_neg (by rw [plain_34 h34]; simp; omega), if_pos h34, hn1]
          exact quoted_is s (j + 1) (by omega) (by omega) (by omega) out
        rw [hw]
        unfold goOn
        cases hok : (Quo.quotedG s (j + 1)).2.2 with
        | false => simp
        | true =>
          obtain ⟨i, e1, e2, e3⟩ := qG_at s (j + 1) (by omega) s.size 0 false [] hok
          have e1 : (Quo.quotedG s (j + 1)).2.1 = (i : Int) := e1
          rw [e1]
          simp only [Bool.not_true, cond_false, if_true, Int.toNat_natCast, chk, cond_true]
          cases k with
          | zero => omega
          | succ k => exact line_go s hs kx f20 f21 l2 h20 h21 hl2 k n i _ (by omega) (by omega) e2 (by simp; omega)
      · rw [cond_f (ieq_f.2 (show ¬ byteAt s j = 34 from fun e => h34 ((byteAt_dec hj (c := 34) (by omega)).1 e))), h21 j (by omega)]
        simp only [Option.bind_some]
        rw [bare_is s j hj out h32 h34]
        unfold goOn
        cases hok : (bareG s.size s j j).2.2.1 with
        | false => simp
        | true =>
          obtain ⟨i, e1, e2, e3⟩ := bareG_on s j j hj h32 hok
          rw [e1]
          simp only [Bool.not_true, cond_false, if_true, Int.toNat_natCast, chk, cond_true]
          cases k with
          | zero => omega
          | succ k => exact line_go s hs kx f20 f21 l2 h20 h21 hl2 k n i _ (by omega) (by omega) e2 (by simp; omega)
    · have : j = s.size := by omega
      subst this
      rw [cond_t (ieq_iff.2 rfl), wF_end _ _ _ _ _ (by omega)]
      rfl
theorem line_main (s : ByteArray) (l0 : LS → (Unit → Option WL) → Option WL) (h : s.size ≤ 300 → ∀ kx, l0 (s, [], 0, ()) kx = some (wF s 0 0 [] ⟨#[]⟩)) : line_Words.b l0 (s, ()) = some (wordsR s) := by
  simp only [line_Words.b]
  unfold wordsR
  by_cases hs : s.size ≤ 300
  · rw [cond_f (igt_f.2 (by omega)), if_pos hs, h hs]
  · rw [cond_t (igt_iff.2 (by omega)), if_neg hs]
theorem line_Words_eq (s : ByteArray) : line_Words (s, ()) = some (wordsR s) :=
  line_main s line_Words.l0 fun hs kx => by
    unfold line_Words.l0
    have := line_go s hs kx line_quoted line_bare line_Words.l2 (fun a ha => by
        show Quo.conQuoted _ = _
        unfold Quo.conQuoted
        rw [if_pos ⟨show (0 : Int) ≤ (a : Int) by omega, show (a : Int).toNat ≤ s.size by omega, show s.size ≤ 35184372088832 by omega⟩]; simp only [Int.toNat_natCast]) (fun a ha => line_bare_eq (by omega) ha)
      (fun out p kx hp ho => skip_go s hs out kx s.size (line_Words.n2 (s, out, (p : Int), ())) p (by omega) (by simp only [line_Words.n2]; omega) hp)
      s.size (line_Words.n0 (s, [], 0, ())) 0 [] (by omega) (by simp only [line_Words.n0]; omega) (by omega) (by simp)
    exact this
end Go.Px.Pu
