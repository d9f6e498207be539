/- r05.word: a word as it stands in a line; line.plain by bytes. -/
import Derived.Test.YtpmnipaimoaagaaDoorPuLinEsc
import Derived.Test.YtpmnipaimoaagaaDoorPuLinBack
set_option linter.unusedVariables false
set_option linter.unusedSimpArgs false
namespace Go.Px.LinC
open Go Go.Px Go.Px.Pu
def okC (c : UInt8) : Bool := c != 32 && (c != 34 && c != 92)
def escC (c : UInt8) : List UInt8 := if c = 34 ∨ c = 92 then [92, c] else [c]
theorem escL_cons (c : UInt8) (l : List UInt8) : escL (c :: l) = escC c ++ escL l := by
  have h : escL [c] = escC c := by
    unfold escL escC replB
    by_cases h92 : c = 92
    · subst h92; rfl
    · by_cases h34 : c = 34
      · subst h34; rfl
      · simp [h92, h34]
  rw [← h, ← escL_app]; rfl
theorem subStr_one (a : ByteArray) (i : Nat) (hi : i < a.size) (c : UInt8) (hc : a.data.toList[i]? = some c) : subStr a (i : Int) ((i + 1 : Nat) : Int) = mk [c] := by
  unfold subStr mk
  apply ByteArray.ext
  apply Array.toList_inj.1
  have hl : a.data.toList.length = a.size := by rw [Array.length_toList]; rfl
  rw [Int.toNat_natCast, Int.toNat_natCast]
  simp only [ByteArray.data_extract, Array.toList_extract, List.extract_eq_take_drop, Nat.add_sub_cancel_left]
  have hlt : i < a.data.toList.length := by omega
  rw [List.drop_eq_getElem_cons hlt]
  rw [List.getElem?_eq_getElem hlt] at hc
  rw [Option.some.inj hc]; simp
abbrev WS := ByteArray × Bool × ByteArray × Int × Unit
theorem word_step (a : ByteArray) (ha : a.size ≤ 300) (kx : (ByteArray × Bool × ByteArray × Unit) → Option ByteArray) (κ : WS → Option ByteArray) (B : Bool) (q : ByteArray) (i : Nat) (hi : i < a.size) (hq : q.size ≤ 1000000) (c : UInt8) (hc : a.data.toList[i]? = some c) :
    r05_word.s0b kx (a, B, q, (i : Int), ()) κ = κ (a, B && okC c, q ++ mk (escC c), ((i + 1 : Nat) : Int), ()) := by
  have hb : byteAt a i = (c.toNat : Int) := by unfold byteAt; rw [hc]; rfl
  have hi1 : iadd .i64 (i : Int) 1 = ((i + 1 : Nat) : Int) := by rw [iadd64 (by omega)]; rfl
  have hs := subStr_one a i hi c hc
  have hin : inB (i : Int) a.size = true := Go.Px.Pu.inB_iff.2 (by omega)
  have hle : (leB 0 (i : Int) && (leB (i : Int) ((i + 1 : Nat) : Int) && leB ((i + 1 : Nat) : Int) a.size)) = true := by simp [leB]; omega
  have z1 : (mk [c]).size = 1 := rfl
  have z2 : (⟨#[92]⟩ : ByteArray).size = 1 := rfl
  have e1 : decide (q.size + (⟨#[92]⟩ : ByteArray).size < 4611686018427387904) = true := decide_eq_true (by rw [z2]; omega)
  have e2 : decide ((q ++ (⟨#[92]⟩ : ByteArray)).size + (mk [c]).size < 4611686018427387904) = true := decide_eq_true (by rw [ByteArray.size_append, z1, z2]; omega)
  have e3 : decide (q.size + (mk [c]).size < 4611686018427387904) = true := decide_eq_true (by rw [z1]; omega)
  have q2 : (q ++ (⟨#[92]⟩ : ByteArray)) ++ mk [c] = q ++ mk [92, c] := by
    rw [ByteArray.append_assoc]
    rw [show ([92, c] : List UInt8) = [92] ++ [c] from rfl, mk_app]; rfl
  have hcc : c.toNat < 256 := c.toNat_lt
  have hne : ∀ d : UInt8, c = d ↔ (c.toNat : Int) = (d.toNat : Int) := fun d => ⟨fun e => by rw [e], fun e => UInt8.toNat_inj.1 (by omega)⟩
  simp only [r05_word.s0b, Int.toNat_natCast, hi1, hs, hb, hin, hle, e1, e2, e3, chk, cond_true, q2]
  rw [cond_t (ilt_iff.2 (by omega))]
  by_cases h32 : c = 32
  · subst h32
    simp [ieq, okC, escC]
  · have k32 : ieq (c.toNat : Int) 32 = false := ieq_f.2 (fun e => h32 ((hne 32).2 e))
    by_cases h34 : c = 34
    · subst h34
      simp [ieq, okC, escC]
    · have k34 : ieq (c.toNat : Int) 34 = false := ieq_f.2 (fun e => h34 ((hne 34).2 e))
      by_cases h92 : c = 92
      · subst h92
        simp [ieq, okC, escC]
      · have k92 : ieq (c.toNat : Int) 92 = false := ieq_f.2 (fun e => h92 ((hne 92).2 e))
        have hok : okC c = true := by simp [okC, h32, h34, h92]
        rw [hok, Bool.and_true]
        simp [k32, k34, k92, escC, h34, h92]
def barL (l : List UInt8) : Bool := l.all okC
theorem escC_len (c : UInt8) : (escC c).length ≤ 2 := by unfold escC; split <;> simp
theorem word_go (a : ByteArray) (ha : a.size ≤ 300) (kx : (ByteArray × Bool × ByteArray × Unit) → Option ByteArray) : ∀ (k n i : Nat) (B : Bool) (q : ByteArray), a.size - i = k → k < n → i ≤ a.size → q.size ≤ 1 + 2 * i →
    loopN n (r05_word.s0 kx) (a, B, q, (i : Int), ()) = kx (a, B && barL (a.data.toList.drop i), q ++ mk (escL (a.data.toList.drop i)), ())
  | k, 0, i, B, q, _, hn, _, _ => absurd hn (Nat.not_lt_zero _)
  | 0, n + 1, i, B, q, hk, hn, hi, hq => by
    simp only [loopN]
    show r05_word.s0b kx _ _ = _
    have hl : a.data.toList.length = a.size := by rw [Array.length_toList]; rfl
    have hd : a.data.toList.drop i = [] := List.drop_eq_nil_of_le (by omega)
    simp only [r05_word.s0b]
    rw [cond_f (ilt_f.2 (by omega)), hd]
    have : q ++ mk (escL []) = q := app_nil q
    rw [this]; simp [barL]
  | k + 1, n + 1, i, B, q, hk, hn, hi, hq => by
    simp only [loopN]
    show r05_word.s0b kx _ _ = _
    have hl : a.data.toList.length = a.size := by rw [Array.length_toList]; rfl
    have hlt : i < a.data.toList.length := by omega
    rw [word_step a ha kx _ B q i (by omega) (by omega) _ (List.getElem?_eq_getElem hlt)]
    have hq2 : (q ++ mk (escC a.data.toList[i])).size ≤ 1 + 2 * (i + 1) := by
      have := escC_len a.data.toList[i]
      rw [ByteArray.size_append, mk_size]; omega
    rw [word_go a ha kx k n (i + 1) _ _ (by omega) (by omega) (by omega) hq2, List.drop_eq_getElem_cons hlt, escL_cons, mk_app, ByteArray.append_assoc]
    simp [barL, Bool.and_assoc]
/-- as it stands in a line -/
def wordW (a : ByteArray) : ByteArray := if (sne a ⟨#[]⟩ && barL a.data.toList) = true then a else ((⟨#[34]⟩ : ByteArray) ++ escB a) ++ (⟨#[34]⟩ : ByteArray)
theorem escL_len (l : List UInt8) : (escL l).length ≤ 2 * l.length := by
  induction l with
  | nil => exact Nat.le_refl _
  | cons c l ih =>
    have := escC_len c
    rw [escL_cons, List.length_append, List.length_cons]; omega
theorem word_main (a : ByteArray) (ha : a.size ≤ 300) (l0 : WS → ((ByteArray × Bool × ByteArray × Unit) → Option ByteArray) → Option ByteArray)
    (h : ∀ kx : (ByteArray × Bool × ByteArray × Unit) → Option ByteArray, l0 (a, sne a ⟨#[]⟩, ⟨#[34]⟩, 0, ()) kx = kx (a, sne a ⟨#[]⟩ && barL a.data.toList, (⟨#[34]⟩ : ByteArray) ++ mk (escL a.data.toList), ())) : r05_word.b l0 (a, ()) = some (wordW a) := by
  simp only [r05_word.b]
  rw [h]
  have hl : a.data.toList.length = a.size := by rw [Array.length_toList]; rfl
  have he := escL_len a.data.toList
  have z1 : (⟨#[34]⟩ : ByteArray).size = 1 := rfl
  have hk : decide (((⟨#[34]⟩ : ByteArray) ++ mk (escL a.data.toList)).size + (⟨#[34]⟩ : ByteArray).size < 4611686018427387904) = true := decide_eq_true (by rw [ByteArray.size_append, mk_size, z1]; omega)
  unfold wordW
  cases hc : sne a ⟨#[]⟩ && barL a.data.toList with
  | true => rw [if_pos rfl]; rfl
  | false =>
    rw [if_neg (by decide)]
    show chk _ _ = _
    rw [chk_true hk]; rfl
theorem r05_word_eq (a : ByteArray) (ha : a.size ≤ 300) : r05_word (a, ()) = some (wordW a) :=
  word_main a ha r05_word.l0 fun kx => by
    unfold r05_word.l0
    have := word_go a ha kx a.size (r05_word.n0 (a, sne a ⟨#[]⟩, ⟨#[34]⟩, 0, ())) 0 (sne a ⟨#[]⟩) ⟨#[34]⟩ (by omega) (by simp only [r05_word.n0]; omega) (by omega) (Nat.le_refl 1)
    rw [List.drop_zero] at this
    exact this
/-! ### line.plain by bytes -/
theorem sub_all (a : ByteArray) : subStr a ((0 : Nat) : Int) (a.size : Int) = a := by
  have := sub_split a 0 (by omega)
  have h0 : a.extract 0 0 = ⟨#[]⟩ := by
    apply ByteArray.ext
    simp
  rw [h0] at this
  have e : (⟨#[]⟩ : ByteArray) ++ subStr a ((0 : Nat) : Int) (a.size : Int) = subStr a ((0 : Nat) : Int) (a.size : Int) := by
    apply ByteArray.ext
    apply Array.toList_inj.1
    simp
  rw [e] at this
  exact this.symm
theorem okC_iff (c : UInt8) : okC c = true ↔ c.toNat ≠ 32 ∧ c.toNat ≠ 34 ∧ c.toNat ≠ 92 := by
  have h : ∀ d : UInt8, (c = d) ↔ c.toNat = d.toNat := fun d => ⟨fun e => by rw [e], fun e => UInt8.toNat_inj.1 e⟩
  unfold okC
  simp only [Bool.and_eq_true, bne_iff_ne, ne_eq, h]
  rfl
theorem bare_bytes : ∀ (k j : Nat) (pre rest : List UInt8), rest.length ≤ k → rest.length ≤ j → fineB (mk rest) = true →
    if barL rest = true then bareG j (mk (pre ++ rest)) 0 pre.length = (subStr (mk (pre ++ rest)) ((0 : Nat) : Int) (((mk (pre ++ rest)).size : Nat) : Int), (((mk (pre ++ rest)).size : Nat) : Int), true, ())
    else ((bareG j (mk (pre ++ rest)) 0 pre.length).2.2.1 = false ∨ (bareG j (mk (pre ++ rest)) 0 pre.length).2.1 ≠ (((mk (pre ++ rest)).size : Nat) : Int))
  | k, j, pre, [], hk, hj, hf => by
    rw [if_pos (show barL [] = true from rfl), List.append_nil]
    exact bareG_end _ _ _ _ (by rw [mk_size]; omega)
  | 0, j, pre, c :: rest, hk, hj, hf => by simp at hk
  | k + 1, 0, pre, c :: rest, hk, hj, hf => by simp at hj
  | k + 1, j + 1, pre, c :: rest, hk, hj, hf => by
    simp only [List.length_cons] at hk hj
    obtain ⟨hpl, hfr⟩ := fine_rest (c :: rest) (by simp) hf
    have hv := plain_valid hpl
    have hd := dec_app_ge (mk pre) (mk (c :: rest)) 0
    rw [mk_size, Nat.add_zero, ← mk_app] at hd
    have hb := dec_bytes (c :: rest) (by simp) hv
    have hw := dec_w (mk (c :: rest)) 0
    have hle := dec_le (mk (c :: rest)) 0 (by rw [mk_size]; simp)
    rw [mk_size, Nat.zero_add] at hle
    have hsz : (mk (pre ++ c :: rest)).size = pre.length + (rest.length + 1) := by rw [mk_size]; simp
    have hspl : pre ++ c :: rest = (pre ++ (c :: rest).take (Utf8.decode (mk (c :: rest)) 0).2) ++ (c :: rest).drop (Utf8.decode (mk (c :: rest)) 0).2 := by rw [List.append_assoc, List.take_append_drop]
    have hbar : barL (c :: rest) = (barL ((c :: rest).take (Utf8.decode (mk (c :: rest)) 0).2) && barL ((c :: rest).drop (Utf8.decode (mk (c :: rest)) 0).2)) := by
      unfold barL
      rw [← List.all_append, List.take_append_drop]
    have hpl2 : plainB (mk (pre ++ c :: rest)) pre.length = true := by rw [plain_of_dec hd]; exact hpl
    have hcode : (Utf8.decode (mk (c :: rest)) 0).1 = 32 ∨ (Utf8.decode (mk (c :: rest)) 0).1 = 34 ∨ (Utf8.decode (mk (c :: rest)) 0).1 = 92 ↔ barL ((c :: rest).take (Utf8.decode (mk (c :: rest)) 0).2) = false := by
      rcases hb with ⟨b1, b2, b3⟩ | ⟨b1, b2⟩
      · rw [b1]
        have b3 : c.toNat = (Utf8.decode (mk (c :: rest)) 0).1 := b3
        have h := okC_iff c
        rw [← b3]
        simp only [List.take_succ_cons, List.take_zero, barL, List.all_cons, List.all_nil, Bool.and_true]
        cases hk : okC c with
        | true => rw [hk] at h; have := h.1 rfl; simp; omega
        | false =>
          rw [hk] at h
          simp only [iff_true]
          by_cases hh : c.toNat ≠ 32 ∧ c.toNat ≠ 34 ∧ c.toNat ≠ 92
          · have := h.2 hh; cases this
          · omega
      · have : barL ((c :: rest).take (Utf8.decode (mk (c :: rest)) 0).2) = true := by
          unfold barL
          rw [List.all_eq_true]
          intro x hx
          have := b2 x hx
          exact (okC_iff x).2 (by omega)
        rw [this]
        simp; omega
    have hplain := hpl
    unfold plainB at hplain
    simp only [Bool.and_eq_true, decide_eq_true_eq, Bool.not_eq_true'] at hplain
    have hbg : bareG (j + 1) (mk (pre ++ c :: rest)) 0 pre.length = if (Utf8.decode (mk (c :: rest)) 0).1 = 32 then (subStr (mk (pre ++ c :: rest)) ((0 : Nat) : Int) (pre.length : Int), (pre.length : Int), true, ()) else if badB (mk (pre ++ c :: rest)) pre.length = true then (⟨#[]⟩, (pre.length : Int), false, ()) else bareG j (mk (pre ++ c :: rest)) 0 (pre.length + (Utf8.decode (mk (c :: rest)) 0).2) := by
      simp only [bareG]
      rw [if_pos (by rw [hsz]; omega), hd]
    rw [hbg]
    by_cases h32 : (Utf8.decode (mk (c :: rest)) 0).1 = 32
    · have := hcode.1 (.inl h32)
      rw [hbar, this, Bool.false_and, if_neg (by decide), if_pos h32]
      refine .inr ?_
      dsimp only
      rw [hsz]; omega
    · rw [if_neg h32]
      have hbad : badB (mk (pre ++ c :: rest)) pre.length = (decide ((Utf8.decode (mk (c :: rest)) 0).1 = 34) || decide ((Utf8.decode (mk (c :: rest)) 0).1 = 92)) := by
        unfold badB
        have hwr : wrongB (mk (pre ++ c :: rest)) pre.length = wrongB (mk (c :: rest)) 0 := by unfold wrongB; rw [hd]
        rw [hd, hwr, hplain.2.2, decide_eq_false (show ¬ (Utf8.decode (mk (c :: rest)) 0).1 < 32 by omega), decide_eq_false hplain.2.1]
        simp
      rw [hbad]
      by_cases h34 : (Utf8.decode (mk (c :: rest)) 0).1 = 34 ∨ (Utf8.decode (mk (c :: rest)) 0).1 = 92
      · have := hcode.1 (.inr h34)
        rw [hbar, this, Bool.false_and, if_neg (by decide), if_pos (by simpa using h34)]
        exact .inl rfl
      · have hok : barL ((c :: rest).take (Utf8.decode (mk (c :: rest)) 0).2) = true := by
          cases hh : barL ((c :: rest).take (Utf8.decode (mk (c :: rest)) 0).2) with
          | true => rfl
          | false => rcases hcode.2 hh with e | e; exact absurd e h32; exact absurd e h34
        have h34' : ¬ (decide ((Utf8.decode (mk (c :: rest)) 0).1 = 34) || decide ((Utf8.decode (mk (c :: rest)) 0).1 = 92)) = true := by simpa using h34
        rw [hbar, hok, Bool.true_and, if_neg h34']
        have ih := bare_bytes k j (pre ++ (c :: rest).take (Utf8.decode (mk (c :: rest)) 0).2) ((c :: rest).drop (Utf8.decode (mk (c :: rest)) 0).2) (by rw [List.length_drop, List.length_cons]; omega) (by rw [List.length_drop, List.length_cons]; omega) hfr
        rw [← hspl] at ih
        have hlen : (pre ++ (c :: rest).take (Utf8.decode (mk (c :: rest)) 0).2).length = pre.length + (Utf8.decode (mk (c :: rest)) 0).2 := by
          rw [List.length_append, List.length_take, Nat.min_eq_left (by simpa using hle)]
        rw [hlen] at ih
        exact ih
theorem plain_bytes (a : ByteArray) (h : fineB a = true) : plainW a = (sne a ⟨#[]⟩ && barL a.data.toList) := by
  have hl : a.data.toList.length = a.size := by rw [Array.length_toList]; rfl
  have key := bare_bytes a.size a.size [] a.data.toList (by omega) (by omega) (by rw [mk_list]; exact h)
  rw [List.nil_append, mk_list, List.length_nil, sub_all] at key
  unfold plainW
  by_cases hb : barL a.data.toList = true
  · rw [if_pos hb] at key
    rw [key, hb]
    simp only [decide_true, seq_self, Bool.and_true, Bool.true_and]
  · rw [if_neg hb] at key
    have hb' : barL a.data.toList = false := by simpa using hb
    rw [hb', Bool.and_false]
    rcases key with e | e
    · rw [e, Bool.false_and]
    · rw [decide_eq_false e]; simp
theorem wordW_eq (a : ByteArray) (h : fineB a = true) : wordW a = encW a := by
  unfold wordW encW
  rw [plain_bytes a h]
end Go.Px.LinC
