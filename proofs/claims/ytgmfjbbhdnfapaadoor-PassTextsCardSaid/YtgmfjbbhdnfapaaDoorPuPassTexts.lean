/- The plain law of PassTexts. -/
import Derived.Test.YtgmfjbbhdnfapaaDoorPuPassText
import Derived.Test.YtgmfjbbhdnfapaaDoorPuB64w
import Derived.Test.YtgmfjbbhdnfapaaDoorPx24
set_option linter.unusedVariables false
set_option linter.unusedSimpArgs false
namespace Go.Px.Pu
open Go Go.Px

theorem digs_be : (k : Nat) → (q : List Int) → q.length = k → (∀ x ∈ q, byte x) → digs k (be q) = q
  | 0, q, hq, _ => by rw [List.eq_nil_of_length_eq_zero hq]; rfl
  | k + 1, q, hq, hb => by
    have hne : q ≠ [] := fun h => by rw [h] at hq; cases hq
    have e := List.dropLast_concat_getLast hne
    have hy := hb _ (List.getLast_mem hne)
    have hd : ∀ x ∈ q.dropLast, byte x := fun x hx => hb x (List.dropLast_subset q hx)
    generalize q.getLast hne = b at e hy
    rw [← e, be_snoc]
    unfold byte at hy
    show digs k ((be q.dropLast * 256 + b) / 256) ++ [(be q.dropLast * 256 + b) % 256] = _
    rw [show (be q.dropLast * 256 + b) / 256 = be q.dropLast by omega, show (be q.dropLast * 256 + b) % 256 = b by omega, digs_be k q.dropLast (by simp; omega) hd]
def zeroS : Int × Int × List Int × Unit := (0, 0, List.replicate 32 0, ())
/-- what pass.Read answers -/
def readA (l : List Int) : (Int × Int × List Int × Unit) × Int × Unit :=
  if l.length ≠ 41 then (zeroS, 3, ()) else if l.getD 8 0 < 1 ∨ 64 < l.getD 8 0 then (zeroS, 3, ()) else ((be (l.take 8), l.getD 8 0, (l.drop 9).take 32, ()), 0, ())
theorem pass_Read_bad (f42 f43) (t : ByteArray) (h42 : f42 (t, ()) = some ([], 3, ())) : pass_Read.b f42 f43 (t, ()) = some (zeroS, 3, ()) := by
  simp only [pass_Read.b]
  rw [h42]
  simp only [Option.bind_some]
  rw [cond_t (ine_iff.2 (by decide))]
  rfl
theorem pass_Read_len (f42 f43) (t : ByteArray) (l : List Int) (hl : l.length ≠ 41) (h42 : f42 (t, ()) = some (l, 0, ())) : pass_Read.b f42 f43 (t, ()) = some (zeroS, 3, ()) := by
  simp only [pass_Read.b]
  rw [h42]
  simp only [Option.bind_some]
  rw [cond_f (ine_f.2 rfl), cond_t (ine_iff.2 (by omega))]
  rfl
theorem pass_Read_eq (t : ByteArray) (l : List Int) (hb : ∀ x ∈ l, byte x) (hl : l.length ≤ 100000) (h42 : codec_ReadBase (t, ()) = some (l, 0, ())) : pass_Read (t, ()) = some (readA l) := by
  unfold readA
  by_cases h : l.length = 41
  · rw [if_neg (fun hh => hh h)]
    have := read_pass_main codec_ReadBase octet_ReadUint t l h h42 (be (l.take 8)) (by
      rw [octet_ReadUint_eq (by omega) hb 0]
      unfold readU
      rw [if_neg (by omega), if_neg (by omega), if_neg (by omega)]
      rfl) hb
    refine Eq.trans this ?_
    split <;> rfl
  · rw [if_pos h]
    exact pass_Read_len codec_ReadBase octet_ReadUint t l h h42
theorem text_main (f18 f44) (h18 : ∀ u : Int, f18 (u, ()) = some (digs 8 u)) (h44 : ∀ l : List Int, l.length ≤ 100000 → (∀ n ∈ l, byte n) → f44 (l, ()) = some (strOf ((encF (encL l)).map ch)))
    (s n : Int) (d : List Int) (h1 : 1 ≤ n) (h2 : n ≤ 64) (hl : d.length = 32) (hd : ∀ x ∈ d, byte x) : w18_text.b f18 f44 ((s, n, d, ()), ()) = some (secT s n d) := by
  simp only [w18_text.b]
  have hw : IntKind.wrap .u8 n = n := by simp [IntKind.wrap, IntKind.signed, IntKind.bits]; omega
  have hL := secL_len (s := s) (n := n) hl
  rw [h18]
  simp only [Option.bind_some]
  rw [hw, chk_true (fits64 (by rw [digs8_len]; omega)), chk_true (fits64 (by simp [digs8_len, hl])), show digs 8 s ++ [n] ++ d = secL s n d from rfl, h44 _ (by omega) (secL_byte h1 h2 hd)]
  rfl
theorem text_eq (s n : Int) (d : List Int) (h1 : 1 ≤ n) (h2 : n ≤ 64) (hl : d.length = 32) (hd : ∀ x ∈ d, byte x) : w18_text ((s, n, d, ()), ()) = some (secT s n d) :=
  text_main _ _ r02_Uint_eq (fun l hl hb => rbase_eq l (by omega) hb) s n d h1 h2 hl hd
theorem secL_parts (l : List Int) (hl : l.length = 41) (hb : ∀ x ∈ l, byte x) : secL (be (l.take 8)) (l.getD 8 0) ((l.drop 9).take 32) = l := by
  unfold secL
  rw [digs_be 8 (l.take 8) (by simp; omega) (fun x hx => hb x (List.mem_of_mem_take hx)), List.take_of_length_le (l := l.drop 9) (by simp; omega)]
  have e : l.take 8 ++ [l.getD 8 0] = l.take 9 := by
    rw [show l.take 9 = l.take 8 ++ [l[8]] from List.take_succ_eq_append_getElem (by omega), List.getD_eq_getElem?_getD, List.getElem?_eq_getElem (by omega)]; rfl
  rw [e, List.take_append_drop]
abbrev FR := (ByteArray × Unit) → Option ((Int × Int × List Int × Unit) × Int × Unit)
def zeroOk (f22 : ((Int × Int × List Int × Unit) × Unit) → Option ByteArray) (f21 : FR) (f23 : (ByteArray × Unit) → Option (List Int × Int × Unit)) (x1 : ByteArray) : Option Bool :=
    (f21 (x1, ())).bind fun v64 =>
    (f23 (x1, ())).bind fun v69 =>
    cond (ine v69.2.1 0) (
    cond (ieq v64.2.1 3) (
    some ((ieq v64.1.1 0) && ((ieq v64.1.2.1 0) && ((leq v64.1.2.2.1 (List.replicate 32 (0 : Int))) && true)))) (
    some false)) (
    cond (ine (v69.1.length : Int) 41) (
    cond (ieq v64.2.1 3) (
    some ((ieq v64.1.1 0) && ((ieq v64.1.2.1 0) && ((leq v64.1.2.2.1 (List.replicate 32 (0 : Int))) && true)))) (
    some false)) (
    chk (inB 8 v69.1.length) <|
    cond (ilt (v69.1.getD 8 (0 : Int)) 1) (
    cond (ieq v64.2.1 3) (
    some ((ieq v64.1.1 0) && ((ieq v64.1.2.1 0) && ((leq v64.1.2.2.1 (List.replicate 32 (0 : Int))) && true)))) (
    some false)) (
    chk (inB 8 v69.1.length) <|
    cond (igt (v69.1.getD 8 (0 : Int)) 64) (
    cond (ieq v64.2.1 3) (
    some ((ieq v64.1.1 0) && ((ieq v64.1.2.1 0) && ((leq v64.1.2.2.1 (List.replicate 32 (0 : Int))) && true)))) (
    some false)) (
    cond (ieq v64.2.1 0) (
    (f22 ((v64.1.1, v64.1.2.1, v64.1.2.2.1, ()), ())).bind fun v102 =>
    some (seq v102 x1)) (
    some false)))))
theorem tail_zero (f22 f21 f23 x1) (h21 : f21 (x1, ()) = some (zeroS, 3, ())) (l : List Int) (e : Int) (h23 : f23 (x1, ()) = some (l, e, ())) (h : e ≠ 0 ∨ l.length ≠ 41 ∨ (l.length = 41 ∧ (l.getD 8 0 < 1 ∨ 64 < l.getD 8 0))) : zeroOk f22 f21 f23 x1 = some true := by
  unfold zeroOk
  rw [h21, h23]
  simp only [Option.bind_some]
  have fin : (cond (ieq 3 3) (some ((ieq zeroS.1 0) && ((ieq zeroS.2.1 0) && ((leq zeroS.2.2.1 (List.replicate 32 (0 : Int))) && true)))) (some false)) = some true := by
    show some ((leq (List.replicate 32 (0 : Int)) (List.replicate 32 (0 : Int))) && true) = some true
    rw [leq_self]; rfl
  by_cases he : e = 0
  · subst he
    rw [cond_f (ine_f.2 rfl)]
    by_cases hl : l.length = 41
    · have h3 : l.getD 8 0 < 1 ∨ 64 < l.getD 8 0 := by
        rcases h with h | h | h
        · exact absurd rfl h
        · exact absurd hl h
        · exact h.2
      rw [cond_f (ine_f.2 (by omega)), chk_true (inB_iff.2 (by omega))]
      by_cases h4 : l.getD 8 0 < 1
      · rw [cond_t (ilt_iff.2 h4)]; exact fin
      · rw [cond_f (ilt_f.2 (by omega)), chk_true (inB_iff.2 (by omega)), cond_t (igt_iff.2 (by omega))]; exact fin
    · rw [cond_t (ine_iff.2 (by omega))]; exact fin
  · rw [cond_t (ine_iff.2 he)]; exact fin
theorem tail_good (f22 f21 f23 x1) (l : List Int) (hl : l.length = 41) (h1 : 1 ≤ l.getD 8 0) (h2 : l.getD 8 0 ≤ 64) (s n : Int) (d : List Int) (h21 : f21 (x1, ()) = some ((s, n, d, ()), 0, ())) (h23 : f23 (x1, ()) = some (l, 0, ())) (h22 : f22 ((s, n, d, ()), ()) = some x1) : zeroOk f22 f21 f23 x1 = some true := by
  unfold zeroOk
  rw [h21, h23]
  simp only [Option.bind_some]
  rw [cond_f (ine_f.2 rfl), cond_f (ine_f.2 (by omega)), chk_true (inB_iff.2 (by omega)), cond_f (ilt_f.2 (by omega)), chk_true (inB_iff.2 (by omega)), cond_f (igt_f.2 (by omega)), cond_t (ieq_iff.2 rfl), h22]
  simp only [Option.bind_some]
  rw [seq_self]
theorem tail_all (x1 : ByteArray) (hx1 : x1.size ≤ 100000) : zeroOk w18_text pass_Read r04_ReadBase x1 = some true := by
  rcases rread_eq x1 hx1 with ⟨h1, h2⟩ | ⟨l, hb, hl, h1, h2, h3⟩
  · exact tail_zero _ _ _ x1 (pass_Read_bad codec_ReadBase octet_ReadUint x1 h1) [] 3 h2 (.inl (by decide))
  · have hr := pass_Read_eq x1 l hb hl h1
    unfold readA at hr
    by_cases h41 : l.length = 41
    · rw [if_neg (fun hh => hh h41)] at hr
      by_cases h8 : l.getD 8 0 < 1 ∨ 64 < l.getD 8 0
      · rw [if_pos h8] at hr
        exact tail_zero _ _ _ x1 hr l 0 h2 (.inr (.inr ⟨h41, h8⟩))
      · rw [if_neg h8] at hr
        refine tail_good _ _ _ x1 l h41 (by omega) (by omega) _ _ _ hr h2 ?_
        rw [text_eq _ _ _ (by omega) (by omega) (by simp; omega) (fun x hx => hb x (List.mem_of_mem_drop (List.mem_of_mem_take hx)))]
        unfold secT
        rw [secL_parts l h41 hb, h3]
    · rw [if_pos h41] at hr
      exact tail_zero _ _ _ x1 hr l 0 h2 (.inr (.inl h41))
theorem main_PassTexts (f14 f20 f21 f22 f23) (h14 : f14 () = some true) (x1 : ByteArray) (s n : Int) (d : List Int) (ht : x1.size ≤ 2000 → zeroOk f22 f21 f23 x1 = some true)
    (h20 : 1 ≤ n → n ≤ 64 → f20 ((s, n, d, ()), ()) = some (secT s n d, 0, ())) (h20b : n < 1 ∨ 64 < n → f20 ((s, n, d, ()), ()) = some (⟨#[]⟩, 3, ()))
    (h21 : 1 ≤ n → n ≤ 64 → f21 (secT s n d, ()) = some ((s, n, d, ()), 0, ())) (h22 : 1 ≤ n → n ≤ 64 → f22 ((s, n, d, ()), ()) = some (secT s n d)) :
    w18_PassTexts.b f14 f20 f21 f22 f23 ((s, n, d, ()), x1, ()) = some true := by
  simp only [w18_PassTexts.b, h14, Option.bind_some, Bool.not_true, cond_false]
  by_cases h : x1.size ≤ 2000
  · have ht := ht h
    unfold zeroOk at ht
    rw [cond_f (igt_f.2 (by omega))]
    have hse : sne (⟨#[]⟩ : ByteArray) (⟨#[]⟩ : ByteArray) = false := by rw [sne_seq, seq_self]; rfl
    by_cases h1 : n < 1
    · rw [h20b (.inl h1)]
      simp only [Option.bind_some]
      rw [cond_t (ilt_iff.2 h1), cond_f (ine_f.2 rfl), cond_f hse]
      exact ht
    · by_cases h2 : 64 < n
      · rw [h20b (.inr h2)]
        simp only [Option.bind_some]
        rw [cond_f (ilt_f.2 (by omega)), cond_t (igt_iff.2 h2), cond_f (ine_f.2 rfl), cond_f hse]
        exact ht
      · rw [h20 (by omega) (by omega)]
        simp only [Option.bind_some]
        rw [cond_f (ilt_f.2 (by omega)), cond_f (igt_f.2 (by omega)), h21 (by omega) (by omega)]
        simp only [Option.bind_some]
        rw [cond_f (ine_f.2 rfl), h22 (by omega) (by omega)]
        simp only [Option.bind_some]
        rw [cond_f (by rw [sne_seq, seq_self]; rfl), cond_f (ine_f.2 rfl), cond_f (by rw [leq_self, ieq_iff.2 rfl, ieq_iff.2 rfl]; rfl)]
        exact ht
  · rw [cond_t (igt_iff.2 (by omega))]
theorem write_bad_main (f36 f41) (s n : Int) (d : List Int) (h : n < 1 ∨ 64 < n) : pass_Write.b f36 f41 ((s, n, d, ()), ()) = some (⟨#[]⟩, 3, ()) := by
  simp only [pass_Write.b]
  by_cases h1 : n < 1
  · rw [cond_t (ilt_iff.2 h1)]
  · rw [cond_f (ilt_f.2 (by omega)), cond_t (igt_iff.2 (by omega))]
theorem _root_.Go.Px.pure_PassTexts (x0 : spα [.one (.int .u64), .one (.int .i64), .arr (.sc (.int .u8)) 32]) (w0 : spWf [.one (.int .u64), .one (.int .i64), .arr (.sc (.int .u8)) 32] x0) (x1 : ByteArray) (w1 : x1.size ≤ 140737488351232) : w18_PassTexts (x0, x1, ()) = some true := by
  obtain ⟨s, n, d, u⟩ := x0
  have hd : ∀ x ∈ d, byte x := fun y hy => byte_wf (w0.2.2.1.2 y hy)
  have hl : d.length = 32 := w0.2.2.1.1
  have hs0 : (Lit.int .u64 s).wf = true := w0.1
  simp [Lit.wf, IntKind.min, IntKind.max, IntKind.signed, IntKind.bits] at hs0
  exact main_PassTexts _ _ _ _ _ pas_awake x1 s n d (fun h => tail_all x1 (by omega)) (fun h1 h2 => write_pass s n d h1 h2 hl hd) (fun h => write_bad_main octet_Uint codec_Base s n d h) (fun h1 h2 => read_pass s n d ⟨hs0.1, by omega⟩ h1 h2 hl hd) (fun h1 h2 => text_eq s n d h1 h2 hl hd)
end Go.Px.Pu
