/- line.quoted, as a walk over the states. -/
import Derived.Test.YtpmnipaimoaagaaDoorPuLinRef
set_option linter.unusedVariables false
set_option linter.unusedSimpArgs false
namespace Go.Px.Pu
open Go Go.Px
/-- what a character's bytes are: its own encoding -/
theorem enc_list (s : ByteArray) (p : Nat) (l : List UInt8) (hl : l = s.data.toList.drop p) (hp : p < s.size) (hd : Utf8.decode ⟨l.toArray⟩ 0 = Utf8.decode s p) (hw : wrongB s p = false) : Lib.encodeRune ((Utf8.decode s p).1 : Int) = l.take (Utf8.decode s p).2 := by
  have hne : l ≠ [] := by
    intro h0
    have hs : s.data.toList.length = s.size := by rw [Array.length_toList]; rfl
    have : l.length = s.size - p := by rw [hl, List.length_drop, hs]
    rw [h0] at this
    simp only [List.length_nil] at this
    omega
  have hdl : Lib.decodeL l = Utf8.decode s p := hd
  have e := Lib.encode_decode l hne
  rw [hdl] at e
  refine e ?_
  rintro ⟨h1, h2⟩
  unfold wrongB at hw
  rw [decide_eq_true ⟨h1, h2⟩] at hw
  cases hw
theorem sub_list (s : ByteArray) (p : Nat) : (subStr s (p : Int) (s.size : Int)).data.toList = s.data.toList.drop p := by
  unfold subStr
  simp only [ByteArray.data_extract, Array.toList_extract, List.extract_eq_take_drop, Int.toNat_natCast]
  have hs : s.data.toList.length = s.size := by rw [Array.length_toList]; rfl
  exact List.take_of_length_le (by rw [List.length_drop, hs]; omega)
theorem ba_of (s : ByteArray) : (⟨s.data.toList.toArray⟩ : ByteArray) = s := by
  apply ByteArray.ext; simp
theorem here_enc {s : ByteArray} {p : Nat} (hp : p < s.size) (hw : wrongB s p = false) : here s p = ⟨(Lib.encodeRune ((Utf8.decode s p).1 : Int)).toArray⟩ := by
  have hd := dec_sub s p (by omega)
  rw [← ba_of (subStr s (p : Int) (s.size : Int)), sub_list] at hd
  rw [enc_list s p _ rfl hp hd hw]
  apply ByteArray.ext
  apply Array.toList_inj.1
  unfold here
  simp only [ByteArray.data_extract, Array.toList_extract, List.extract_eq_take_drop]
  congr 1
  omega
theorem sub_nat (s : ByteArray) (a : Nat) : s.extract a s.size = subStr s (a : Int) (s.size : Int) := by simp [subStr]
theorem qwrong_eq {s : ByteArray} {p : Nat} (hp : p < s.size) : Quo.wrongB s p ((Utf8.decode s p).1 : Int) = wrongB s p := by
  unfold Quo.wrongB wrongB
  rw [sub_nat, if_neg (by rw [sub_sz]; omega), dec_sub s p (by omega), Bool.eq_iff_iff]
  simp only [Bool.and_eq_true, beq_iff_eq, decide_eq_true_eq]
  omega
theorem byte_dec {s : ByteArray} {p : Nat} (hp : p < s.size) (h : ((s[p]'hp).toNat : Nat) < 128) : Utf8.decode s p = ((s[p]'hp).toNat, 1) := decode_ascii s p hp h
theorem byte_of {s : ByteArray} {p c : Nat} (hp : p < s.size) (hc : c < 128) : (Utf8.decode s p).1 = c ↔ (s[p]'hp).toNat = c := by
  by_cases h : (s[p]'hp).toNat < 128
  · rw [byte_dec hp h]
  · have := (decode_high s p hp (by omega)).1
    constructor
    · intro e; omega
    · intro e; omega
theorem plain_34 {s : ByteArray} {p : Nat} (h : (Utf8.decode s p).1 = 34) : plainB s p = true := by
  have : wrongB s p = false := by unfold wrongB; rw [h]; rfl
  unfold plainB; rw [this, h]; rfl
theorem plain_92 {s : ByteArray} {p : Nat} (h : (Utf8.decode s p).1 = 92) : plainB s p = true := by
  have : wrongB s p = false := by unfold wrongB; rw [h]; rfl
  unfold plainB; rw [this, h]; rfl
theorem width_ascii {s : ByteArray} {p : Nat} (hp : p < s.size) (h : (Utf8.decode s p).1 < 128) : (Utf8.decode s p).2 = 1 := by
  by_cases hb : (s[p]'hp).toNat < 128
  · rw [byte_dec hp hb]
  · have := (decode_high s p hp (by omega)).1
    omega
/-- the word in quotes, then on -/
def goOn (s : ByteArray) (out : List ByteArray) (x : ByteArray × Int × Bool) : WL := if x.2.2 = true then wF s x.2.1.toNat 0 (out ++ [x.1]) ⟨#[]⟩ else ([], x.2.1, 4, ())
theorem ba_mk (l : List UInt8) (m : List UInt8) : (⟨l.toArray⟩ : ByteArray) ++ (⟨m.toArray⟩ : ByteArray) = ⟨(l ++ m).toArray⟩ := by
  apply ByteArray.ext; simp
theorem quoted_walk (s : ByteArray) (a : Nat) (ha : a ≤ s.size) (out : List ByteArray) : ∀ (f pos : Nat) (op : Bool) (acc : List UInt8), s.size - (a + pos) < f → a + pos ≤ s.size →
    wF s (a + pos) (if op = true then 3 else 2) out ⟨acc.toArray⟩ = goOn s out (Quo.qG s a f pos op acc)
  | 0, pos, op, acc, h, _ => absurd h (Nat.not_lt_zero _)
  | f + 1, pos, op, acc, h, hle => by
    have hes : (s.extract a s.size).size = s.size - a := by simp
    have hdd : Utf8.decode (s.extract a s.size) pos = Utf8.decode s (a + pos) := by rw [sub_nat, dec_sub' s a pos ha]
    simp only [Quo.qG, hes, hdd]
    by_cases hp : a + pos < s.size
    · rw [if_pos (show pos < s.size - a by omega), wF_step _ _ _ _ _ hp, qwrong_eq hp]
      have hwd := dec_w s (a + pos)
      have hdl := dec_le s (a + pos) hp
      have ih := fun op acc => quoted_walk s a ha out f (pos + (Utf8.decode s (a + pos)).2) op acc (by omega) (by omega)
      have hadd : a + (pos + (Utf8.decode s (a + pos)).2) = a + pos + (Utf8.decode s (a + pos)).2 := by omega
      by_cases hpl : plainB s (a + pos) = true
      · have hpl' := hpl
        unfold plainB at hpl'
        simp only [Bool.and_eq_true, Bool.not_eq_true', decide_eq_true_eq] at hpl'
        obtain ⟨g1, g2, g3⟩ := hpl'
        have hh := here_enc hp g3
        cases op with
        | true =>
          simp only [stepW, if_true, true_and, false_and, Bool.true_eq_false, if_false]
          by_cases h34 : (Utf8.decode s (a + pos)).1 = 34 ∨ (Utf8.decode s (a + pos)).1 = 92
          · rw [if_pos h34, if_neg (by rw [g3]; simp only [Bool.false_eq_true, false_or]; omega)]
            have := ih false (acc ++ Lib.encodeRune ((Utf8.decode s (a + pos)).1 : Int))
            rw [hadd, if_neg (by decide)] at this
            rw [← this, hh, ba_mk]
          · rw [if_neg h34, if_pos (.inr (.inr (.inr ⟨by omega, by omega⟩)))]
            rfl
        | false =>
          simp only [stepW, if_true, true_and, false_and, or_false, Bool.false_eq_true, if_false]
          rw [if_neg (show ¬ plainB s (a + pos) = false by rw [hpl]; decide)]
          by_cases h34 : (Utf8.decode s (a + pos)).1 = 34
          · have hn1 := width_ascii hp (by omega)
            rw [if_pos h34, if_neg (by rw [g3]; simp only [Bool.false_eq_true, or_false]; omega), if_neg (by omega), if_pos (show ((Utf8.decode s (a + pos)).1 : Int) = 34 by omega)]
            dsimp only
            rw [hn1]
            by_cases hq : a + pos + 1 < s.size
            · rw [dif_pos hq, wF_step _ _ _ _ _ hq]
              simp only [stepW]
              have hb := byte_of hq (c := 32) (by omega)
              by_cases h32 : (Utf8.decode s (a + pos + 1)).1 = 32
              · rw [if_pos h32, if_neg (by have := hb.1 h32; omega)]
                unfold goOn
                rw [if_pos rfl]
                dsimp only
                rw [Int.toNat_natCast, wF_step _ _ _ _ _ hq]
                simp only [stepW]
                rw [if_pos h32]
              · rw [if_neg h32, if_pos (by intro e; exact h32 (hb.2 (by omega)))]
                rfl
            · rw [dif_neg hq, wF_end _ _ _ _ _ (by omega)]
              unfold goOn
              rw [if_pos rfl]
              dsimp only
              rw [Int.toNat_natCast, wF_end _ _ _ _ _ (by omega)]
              rfl
          · have hok : ¬ (((Utf8.decode s (a + pos)).1 : Int) < 32 ∨ ((Utf8.decode s (a + pos)).1 : Int) = 127 ∨ wrongB s (a + pos) = true) := by rw [g3]; simp only [Bool.false_eq_true, or_false]; omega
            rw [if_neg h34, if_neg hok]
            by_cases h92 : (Utf8.decode s (a + pos)).1 = 92
            · rw [if_pos h92, if_pos (show ((Utf8.decode s (a + pos)).1 : Int) = 92 by omega)]
              have := ih true acc
              rw [hadd, if_pos rfl] at this
              exact this
            · rw [if_neg h92, if_neg (show ¬ ((Utf8.decode s (a + pos)).1 : Int) = 92 by omega), if_neg (show ¬ ((Utf8.decode s (a + pos)).1 : Int) = 34 by omega)]
              have := ih false (acc ++ Lib.encodeRune ((Utf8.decode s (a + pos)).1 : Int))
              rw [hadd, if_neg (by decide)] at this
              rw [← this, hh, ba_mk]
      · have hbad : (((Utf8.decode s (a + pos)).1 : Int) < 32 ∨ ((Utf8.decode s (a + pos)).1 : Int) = 127 ∨ wrongB s (a + pos) = true ∨ (op = true ∧ ((Utf8.decode s (a + pos)).1 : Int) ≠ 34 ∧ ((Utf8.decode s (a + pos)).1 : Int) ≠ 92)) := by
          unfold plainB at hpl
          simp only [Bool.and_eq_true, Bool.not_eq_true', decide_eq_true_eq, not_and, Bool.not_eq_false] at hpl
          by_cases k1 : 32 ≤ (Utf8.decode s (a + pos)).1
          · by_cases k2 : (Utf8.decode s (a + pos)).1 = 127
            · exact .inr (.inl (by omega))
            · exact .inr (.inr (.inl (hpl k1 k2)))
          · exact .inl (by omega)
        rw [if_pos hbad]
        have e : stepW s (a + pos) (if op = true then 3 else 2) out ⟨acc.toArray⟩ = none := by
          cases op with
          | true =>
            simp only [if_true, stepW]
            rw [if_neg]
            rintro (e | e)
            · exact hpl (plain_34 e)
            · exact hpl (plain_92 e)
          | false =>
            rw [if_neg (by decide)]
            simp only [stepW]
            rw [if_pos (by simpa using hpl)]
        rw [e]
        rfl
    · rw [if_neg (show ¬ pos < s.size - a by omega), wF_end _ _ _ _ _ (by omega)]
      have : a + pos = s.size := by omega
      cases op <;> rfl
theorem quoted_is (s : ByteArray) (a : Nat) (ha : a ≤ s.size) (h0 : 0 < s.size) (ha0 : 0 < a) (out : List ByteArray) : wF s a 2 out ⟨#[]⟩ = goOn s out (Quo.quotedG s a) := by
  have := quoted_walk s a ha out s.size 0 false [] (by omega) (by omega)
  rw [if_neg (by decide)] at this
  exact this
end Go.Px.Pu
