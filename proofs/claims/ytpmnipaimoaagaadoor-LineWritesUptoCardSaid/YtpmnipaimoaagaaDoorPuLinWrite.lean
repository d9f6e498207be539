/- r05.Write: what line.Write says. -/
import Derived.Test.YtpmnipaimoaagaaDoorPuLinWord
set_option linter.unusedVariables false
set_option linter.unusedSimpArgs false
namespace Go.Px.LinC
open Go Go.Px Go.Px.Pu
abbrev RQ := Int × ((Option Addr × Nat) × List ByteArray) × Unit
abbrev WO := ByteArray × Int × Unit
def w3 : WO := (⟨#[]⟩, 3, ())
def w2 : WO := (⟨#[]⟩, 2, ())
/-! ### are all characters fine -/
theorem chars_fine (s : ByteArray) : ∀ (k p : Nat), fineG k s p = true ∧ (∀ c ∈ charsL k s p, ∃ q, c = chr s q ∧ plainB s q = true) ∨ fineG k s p = false
  | 0, p => .inl ⟨rfl, fun c hc => by simp [charsL] at hc⟩
  | k + 1, p => by
    simp only [fineG, charsL]
    by_cases hp : p < s.size
    · rw [if_pos hp, if_pos hp]
      cases hpl : plainB s p with
      | false => exact .inr rfl
      | true =>
        rw [Bool.true_and]
        rcases chars_fine s k (p + (Utf8.decode s p).2) with ⟨h1, h2⟩ | h
        · refine .inl ⟨h1, fun c hc => ?_⟩
          rcases List.mem_cons.1 hc with rfl | hc
          · exact ⟨p, rfl, hpl⟩
          · exact h2 c hc
        · exact .inr h
    · rw [if_neg hp, if_neg hp]
      exact .inl ⟨rfl, fun c hc => by cases hc⟩
/-- the inner loop: from a character on -/
theorem fine_l2 (s : ByteArray) (q : RQ) (t4 : ByteArray) (t7 t8 : Int) (L : List Chr) (kx : (RQ × ByteArray × Int × Int × Unit) → Option WO) (R : WO) (hkx : kx (q, t4, t7, t8, ()) = some R) (hL : L.length ≤ 1000000000000) :
    ∀ (k n p i : Nat), s.size - p ≤ k → L.length - i < n → i ≤ L.length → L.drop i = charsL k s p → loopN n (r05_Write.s2 kx) (q, t4, t7, t8, L, (i : Int), ()) = some (if fineG k s p = true then R else w3)
  | k, 0, p, i, _, hn, _, _ => absurd hn (Nat.not_lt_zero _)
  | k, n + 1, p, i, hk, hn, hi, hd => by
    simp only [loopN]
    show r05_Write.s2b r05_plain kx _ _ = _
    simp only [r05_Write.s2b]
    by_cases hp : p < s.size
    · cases k with
      | zero => omega
      | succ k =>
        have hw := dec_w s p
        have hle := dec_le s p hp
        have hc : charsL (k + 1) s p = chr s p :: charsL k s (p + (Utf8.decode s p).2) := by simp only [charsL]; rw [if_pos hp]
        rw [hc] at hd
        have hlt : i < L.length := by
          rcases Nat.lt_or_ge i L.length with h | h
          · exact h
          · rw [List.drop_eq_nil_of_le h] at hd; cases hd
        rw [List.drop_eq_getElem_cons hlt] at hd
        have hx : L.getD i ((0 : Int), (0 : Int), false, ()) = chr s p := by
          rw [List.getD_eq_getElem?_getD, List.getElem?_eq_getElem hlt]
          exact (List.cons.inj hd).1
        have hi1 : iadd .i64 (i : Int) 1 = ((i + 1 : Nat) : Int) := by rw [iadd64 (by omega)]; rfl
        rw [cond_t (ilt_iff.2 (by omega)), chk_true (Go.Px.Pu.inB_iff.2 (by omega)), Int.toNat_natCast, hx]
        have hp2 := plain_eq s p
        show (r05_plain (chr s p, ())).bind _ = _
        rw [hp2]
        have hfs : fineG (k + 1) s p = (plainB s p && fineG k s (p + (Utf8.decode s p).2)) := by simp only [fineG]; rw [if_pos hp]
        rw [hfs]
        simp only [Option.bind_some]
        cases hpl : plainB s p with
        | false => rfl
        | true =>
          rw [Bool.true_and, hi1]
          exact fine_l2 s q t4 t7 t8 L kx R hkx hL k n _ (i + 1) (by omega) (by omega) (by omega) (List.cons.inj hd).2
    · have hc : charsL k s p = [] := charsL_end k s p (by omega)
      rw [hc] at hd
      have hl : L.length ≤ i := by
        rcases Nat.lt_or_ge i L.length with h | h
        · rw [List.drop_eq_getElem_cons h] at hd; cases hd
        · exact h
      rw [cond_f (ilt_f.2 (by omega)), fineG_end k s p (by omega), if_pos rfl]
      exact hkx
def goodL (l : List ByteArray) : Bool := l.all fineB
theorem fine_l2x (x : ByteArray) (hx : x.size ≤ 1000000000) (q : RQ) (t4 : ByteArray) (t7 t8 : Int) (K : (RQ × ByteArray × Int × Int × Unit) → Option WO) (R : WO) (hK : K (q, t4, t7, t8, ()) = some R) : r05_Write.l2 (q, t4, t7, t8, charsL x.size x 0, 0, ()) K = some (if fineB x = true then R else w3) := by
  have hlen := charsL_len x.size x 0
  have hn : (charsL x.size x 0).length - 0 < r05_Write.n2 (q, t4, t7, t8, charsL x.size x 0, 0, ()) := by
    simp only [r05_Write.n2]
    omega
  unfold r05_Write.l2
  generalize r05_Write.n2 (q, t4, t7, t8, charsL x.size x 0, 0, ()) = n at hn
  exact fine_l2 x q t4 t7 t8 (charsL x.size x 0) K R hK (by omega) x.size n 0 0 (by omega) hn (by omega) rfl
theorem fine_l0 (q : RQ) (hq : ∀ a ∈ q.2.1.2, a.size ≤ 1000000000) (hql : q.2.1.2.length ≤ 1000) (t4 : ByteArray) (kx : (RQ × ByteArray × Int × Unit) → Option WO) (R : WO) (hkx : kx (q, t4, (q.2.1.2.length : Int), ()) = some R)
    (f22 : (ByteArray × Unit) → Option (List Chr)) (h22 : ∀ x, x.size ≤ 1000000000 → f22 (x, ()) = some (charsL x.size x 0))
    (l2 : (RQ × ByteArray × Int × Int × List Chr × Int × Unit) → ((RQ × ByteArray × Int × Int × Unit) → Option WO) → Option WO)
    (h2 : ∀ x, x.size ≤ 1000000000 → ∀ q t4 t7 t8 K R, K (q, t4, t7, t8, ()) = some R → l2 (q, t4, t7, t8, charsL x.size x 0, 0, ()) K = some (if fineB x = true then R else w3)) :
    ∀ (k n i : Nat), q.2.1.2.length - i = k → k < n → i ≤ q.2.1.2.length → loopN n (r05_Write.s0b f22 l2 kx) (q, t4, (q.2.1.2.length : Int), (i : Int), ()) = some (if goodL (q.2.1.2.drop i) = true then R else w3)
  | k, 0, i, _, hn, _ => absurd hn (Nat.not_lt_zero _)
  | k, n + 1, i, hk, hn, hi => by
    simp only [loopN, r05_Write.s0b]
    by_cases hlt : i < q.2.1.2.length
    · cases k with
      | zero => omega
      | succ k =>
        have hx : q.2.1.2.getD i ByteArray.empty = q.2.1.2[i] := by rw [List.getD_eq_getElem?_getD, List.getElem?_eq_getElem hlt]; rfl
        have hsz := hq q.2.1.2[i] (List.getElem_mem hlt)
        have hi1 : iadd .i64 (i : Int) 1 = ((i + 1 : Nat) : Int) := by rw [iadd64 (by omega)]; rfl
        rw [cond_t (ilt_iff.2 (by omega)), chk_true (Go.Px.Pu.inB_iff.2 (by omega)), Int.toNat_natCast, hx, h22 _ hsz]
        simp only [Option.bind_some]
        rw [List.drop_eq_getElem_cons hlt]
        generalize q.2.1.2[i] = x at hsz
        have ih := fine_l0 q hq hql t4 kx R hkx f22 h22 l2 h2 k n (i + 1) (by omega) (by omega) (by omega)
        have hg : goodL (x :: q.2.1.2.drop (i + 1)) = (fineB x && goodL (q.2.1.2.drop (i + 1))) := rfl
        refine (h2 x hsz q t4 _ _ _ _ (by rw [hi1]; exact ih)).trans ?_
        rw [hg]
        cases fineB x with
        | true => rw [if_pos rfl, Bool.true_and]
        | false => rw [if_neg (by decide), Bool.false_and, if_neg (by decide)]
    · have hi2 : i = q.2.1.2.length := by omega
      subst hi2
      rw [cond_f (ilt_f.2 (by omega)), List.drop_length]
      exact hkx
theorem enc_size (a : ByteArray) (ha : a.size ≤ 300) : a.size ≤ (wordW a).size ∧ (wordW a).size ≤ 2 * a.size + 2 := by
  have hl : a.data.toList.length = a.size := by rw [Array.length_toList]; rfl
  have he := escL_len a.data.toList
  have hge : ∀ l : List UInt8, l.length ≤ (escL l).length := by
    intro l
    induction l with
    | nil => exact Nat.zero_le _
    | cons c l ih =>
      rw [escL_cons, List.length_append, List.length_cons]
      have : 1 ≤ (escC c).length := by unfold escC; split <;> simp
      omega
  have h2 := hge a.data.toList
  have z1 : (⟨#[34]⟩ : ByteArray).size = 1 := rfl
  have hz : (escB a).size = (escL a.data.toList).length := by
    show (mk (escL a.data.toList)).size = _
    rw [mk_size]
  unfold wordW
  split
  · omega
  · rw [ByteArray.size_append, ByteArray.size_append, z1, hz]; omega
/-- words behind a line's head -/
def longL : List ByteArray → ByteArray → Option ByteArray
  | [], s => some s
  | a :: r, s => if a.size > 300 then none else longL r (s ++ ((⟨#[32]⟩ : ByteArray) ++ wordW a))
theorem long_l4 (q : RQ) (hql : q.2.1.2.length ≤ 1000) (kx : (ByteArray × Unit) → Option WO) (K : ByteArray → WO) (hkx : ∀ s, kx (s, ()) = some (K s)) (f25 : (ByteArray × Unit) → Option ByteArray) (h25 : ∀ a, a.size ≤ 300 → f25 (a, ()) = some (wordW a)) :
    ∀ (k n i : Nat) (s : ByteArray), q.2.1.2.length - i = k → k < n → i ≤ q.2.1.2.length → s.size ≤ 10 + 1000 * i → loopN n (r05_Write.s4b f25 kx) (q, s, (q.2.1.2.length : Int), (i : Int), ()) = some (match longL (q.2.1.2.drop i) s with | some s => K s | none => w2)
  | k, 0, i, s, _, hn, _, _ => absurd hn (Nat.not_lt_zero _)
  | k, n + 1, i, s, hk, hn, hi, hs => by
    simp only [loopN, r05_Write.s4b]
    by_cases hlt : i < q.2.1.2.length
    · cases k with
      | zero => omega
      | succ k =>
        have hx : q.2.1.2.getD i ByteArray.empty = q.2.1.2[i] := by rw [List.getD_eq_getElem?_getD, List.getElem?_eq_getElem hlt]; rfl
        have hi1 : iadd .i64 (i : Int) 1 = ((i + 1 : Nat) : Int) := by rw [iadd64 (by omega)]; rfl
        rw [cond_t (ilt_iff.2 (by omega)), chk_true (Go.Px.Pu.inB_iff.2 (by omega)), Int.toNat_natCast, hx, List.drop_eq_getElem_cons hlt]
        generalize q.2.1.2[i] = x
        simp only [longL]
        by_cases h300 : x.size > 300
        · rw [cond_t (igt_iff.2 (by omega)), if_pos h300]; rfl
        · have hsz := enc_size x (by omega)
          have z1 : (⟨#[32]⟩ : ByteArray).size = 1 := rfl
          have hsum : ((⟨#[32]⟩ : ByteArray) ++ wordW x).size = 1 + (wordW x).size := by rw [ByteArray.size_append, z1]
          rw [cond_f (igt_f.2 (by omega)), if_neg h300, chk_true (Go.Px.Pu.inB_iff.2 (by omega)), h25 x (by omega)]
          simp only [Option.bind_some]
          rw [chk_true (decide_eq_true (by rw [z1]; omega)), chk_true (decide_eq_true (by rw [hsum]; omega)), hi1]
          exact long_l4 q hql kx K hkx f25 h25 k n (i + 1) _ (by omega) (by omega) (by omega) (by rw [ByteArray.size_append, hsum]; omega)
    · have hi2 : i = q.2.1.2.length := by omega
      subst hi2
      rw [cond_f (ilt_f.2 (by omega)), List.drop_length]
      exact hkx s
theorem lineT_size : ∀ (l : List ByteArray) (s : ByteArray), s.size ≤ (lineT l s).size
  | [], s => Nat.le_refl _
  | a :: r, s => by
    have := lineT_size r (s ++ ((⟨#[32]⟩ : ByteArray) ++ encW a))
    have h2 : s.size ≤ (s ++ ((⟨#[32]⟩ : ByteArray) ++ encW a)).size := by rw [ByteArray.size_append]; omega
    exact Nat.le_trans h2 this
theorem encW_ge (a : ByteArray) : a.size ≤ (encW a).size := by
  have hge : ∀ l : List UInt8, l.length ≤ (escL l).length := by
    intro l
    induction l with
    | nil => exact Nat.zero_le _
    | cons c l ih =>
      rw [escL_cons, List.length_append, List.length_cons]
      have : 1 ≤ (escC c).length := by unfold escC; split <;> simp
      omega
  have hl : a.data.toList.length = a.size := by rw [Array.length_toList]; rfl
  have h2 := hge a.data.toList
  have hz : (escB a).size = (escL a.data.toList).length := by
    show (mk (escL a.data.toList)).size = _
    rw [mk_size]
  unfold encW
  split
  · exact Nat.le_refl _
  · rw [ByteArray.size_append, ByteArray.size_append, hz]; omega
theorem long_line : ∀ (l : List ByteArray) (s : ByteArray), goodL l = true → longL l s = some (lineT l s) ∨ (longL l s = none ∧ (lineT l s).size > 300)
  | [], s, _ => .inl rfl
  | a :: r, s, h => by
    have hg : goodL (a :: r) = (fineB a && goodL r) := rfl
    rw [hg, Bool.and_eq_true] at h
    simp only [longL, lineT]
    by_cases h300 : a.size > 300
    · rw [if_pos h300]
      refine .inr ⟨rfl, ?_⟩
      have h1 := lineT_size r (s ++ ((⟨#[32]⟩ : ByteArray) ++ encW a))
      have h2 := encW_ge a
      rw [ByteArray.size_append, ByteArray.size_append] at h1
      omega
    · rw [if_neg h300, wordW_eq a h.1]
      exact long_line r _ h.2
theorem writeL_bad : ∀ (l : List ByteArray) (s : ByteArray), goodL l = false → writeL fineB plainW l s = (ByteArray.empty, 3)
  | [], s, h => by cases h
  | a :: r, s, h => by
    have hg : goodL (a :: r) = (fineB a && goodL r) := rfl
    simp only [writeL]
    cases ha : fineB a with
    | false => rfl
    | true =>
      rw [hg, ha, Bool.true_and] at h
      rw [if_neg (by decide)]
      split
      · exact writeL_bad r _ h
      · exact writeL_bad r _ h
theorem writeF_miss (fi pl : ByteArray → Bool) (v : Int) (l : List ByteArray) (h : ∀ j, j < 11 → (formAt j).2.1 ≠ v ∨ (formAt j).2.2 ≠ (l.length : Int)) : ∀ (n j : Nat), n + j = 11 → writeF fi pl v l n j = (ByteArray.empty, 3)
  | 0, j, _ => rfl
  | n + 1, j, hj => by
    simp only [writeF]
    rw [if_pos (h j (by omega))]
    exact writeF_miss fi pl v l h n (j + 1) (by omega)
/-- the verdict, a line's head in hand -/
def endG (l : List ByteArray) (s : ByteArray) : WO := if goodL l = true then (match longL l s with | some s => (if s.size > 300 then w2 else (s, 0, ())) | none => w2) else w3
theorem endG_eq (l : List ByteArray) (s : ByteArray) : endG l s = ((writeL fineB plainW l s).1, (writeL fineB plainW l s).2, ()) := by
  unfold endG
  cases h : goodL l with
  | false => rw [if_neg (by decide), writeL_bad l s h]; rfl
  | true =>
    rw [if_pos rfl, writeL_eq l s (fun a ha => by unfold goodL at h; exact List.all_eq_true.1 h a ha)]
    rcases long_line l s h with e | ⟨e, h3⟩
    · rw [e]
      dsimp only
      split <;> rfl
    · rw [e, if_pos h3]; rfl
theorem write_main (q : RQ) (f24 : (ByteArray × Unit) → Option (Int × Int × Unit)) (h24 : ∀ x, f24 (x, ()) = some ((verbV x).1, (verbV x).2, ()))
    (l0 : (RQ × ByteArray × Int × Int × Unit) → ((RQ × ByteArray × Int × Unit) → Option WO) → Option WO)
    (l4 : (RQ × ByteArray × Int × Int × Unit) → ((ByteArray × Unit) → Option WO) → Option WO)
    (h0 : q.2.1.2.length ≤ 1000 → ∀ s kx R, kx (q, s, (q.2.1.2.length : Int), ()) = some R → l0 (q, s, (q.2.1.2.length : Int), 0, ()) kx = some (if goodL q.2.1.2 = true then R else w3))
    (h4 : q.2.1.2.length ≤ 1000 → ∀ (s : ByteArray) (kx : (ByteArray × Unit) → Option WO) (K : ByteArray → WO), s.size ≤ 10 → (∀ s, kx (s, ()) = some (K s)) → l4 (q, s, (q.2.1.2.length : Int), 0, ()) kx = some (match longL q.2.1.2 s with | some s => K s | none => w2))
    (hv : 0 ≤ q.1 ∧ q.1 ≤ 255) : r05_Write.b f24 l0 l4 (q, ()) = some ((writeF fineB plainW q.1 q.2.1.2 11 0).1, (writeF fineB plainW q.1 q.2.1.2 11 0).2, ()) := by
  simp only [r05_Write.b]
  by_cases h1 : q.1 < 1
  · rw [cond_t (ilt_iff.2 h1), writeF_miss fineB plainW q.1 q.2.1.2 (fun j hj => .inl (by rw [formAt_verb j hj]; omega)) 11 0 rfl]
    rfl
  · rw [cond_f (ilt_f.2 (by omega))]
    by_cases h11 : 11 < q.1
    · rw [cond_t (igt_iff.2 h11), writeF_miss fineB plainW q.1 q.2.1.2 (fun j hj => .inl (by rw [formAt_verb j hj]; omega)) 11 0 rfl]
      rfl
    · rw [cond_f (igt_f.2 (by omega))]
      obtain ⟨k, hk, hk11⟩ : ∃ k : Nat, q.1 = (k : Int) + 1 ∧ k < 11 := ⟨(q.1 - 1).toNat, by omega, by omega⟩
      have hs1 : isub .u8 q.1 1 = (k : Int) := by
        rw [hk]
        unfold isub
        rw [show (k : Int) + 1 - 1 = (k : Int) by omega]
        exact IntWalk.u8_in _ (by omega)
      rw [hs1, chk_true (Go.Px.Pu.inB_iff.2 (by omega)), Int.toNat_natCast]
      have ht := (verb_tab k hk11).1
      rw [show ([(⟨#[99, 114, 101, 97, 116, 101]⟩ : ByteArray), (⟨#[100, 114, 111, 112]⟩ : ByteArray), (⟨#[108, 111, 103, 105, 110]⟩ : ByteArray), (⟨#[99, 104, 101, 99, 107]⟩ : ByteArray), (⟨#[114, 101, 118, 111, 107, 101]⟩ : ByteArray), (⟨#[112, 97, 115, 115]⟩ : ByteArray), (⟨#[114, 111, 108, 101]⟩ : ByteArray), (⟨#[117, 110, 108, 111, 99, 107]⟩ : ByteArray), (⟨#[119, 104, 111]⟩ : ByteArray), (⟨#[108, 105, 115, 116]⟩ : ByteArray), (⟨#[97, 117, 100, 105, 116]⟩ : ByteArray)].getD k ByteArray.empty) = (formAt k).1 from ht, h24]
      simp only [Option.bind_some]
      have hvv : verbV (formAt k).1 = ((formAt k).2.1, (formAt k).2.2) := by unfold verbV; rw [findF_form k hk11]
      rw [hvv]
      dsimp only
      have hfa := formAt_args' k hk11
      by_cases hn : (formAt k).2.2 = (q.2.1.2.length : Int)
      · rw [cond_f (ine_f.2 hn), hn]
        have hwf := writeF_form fineB plainW q.2.1.2 k hk11 hn 11 0 rfl (by omega)
        rw [formAt_verb k hk11, ← hk] at hwf
        rw [hwf, ← endG_eq]
        have hfs := formAt_size k hk11
        refine (h0 (by omega) _ _ _ (h4 (by omega) _ _ (fun s => if s.size > 300 then w2 else (s, 0, ())) (show (formAt k).1.size ≤ 10 by omega) fun s => ?_)).trans ?_
        · show cond (igt (s.size : Int) 300) _ _ = _
          by_cases h : s.size > 300
          · rw [cond_t (igt_iff.2 (by omega)), if_pos h]; rfl
          · rw [cond_f (igt_f.2 (by omega)), if_neg h]
        · rfl
      · rw [cond_t (ine_iff.2 hn), writeF_miss fineB plainW q.1 q.2.1.2 (fun j hj => ?_) 11 0 rfl]
        · rfl
        · by_cases hj2 : j = k
          · subst hj2; exact .inr hn
          · exact .inl (by rw [formAt_verb j hj]; omega)
theorem fine_l0x (q : RQ) (hq : ∀ a ∈ q.2.1.2, a.size ≤ 1000000000) (hql : q.2.1.2.length ≤ 1000) (t4 : ByteArray) (kx : (RQ × ByteArray × Int × Unit) → Option WO) (R : WO) (hkx : kx (q, t4, (q.2.1.2.length : Int), ()) = some R) : r05_Write.l0 (q, t4, (q.2.1.2.length : Int), 0, ()) kx = some (if goodL q.2.1.2 = true then R else w3) := by
  have hn : q.2.1.2.length < r05_Write.n0 (q, t4, (q.2.1.2.length : Int), 0, ()) := by
    simp only [r05_Write.n0]
    omega
  unfold r05_Write.l0
  generalize r05_Write.n0 (q, t4, (q.2.1.2.length : Int), 0, ()) = n at hn
  have := fine_l0 q hq hql t4 kx R hkx r03_Chars (fun x hx => r03_Chars_eq (by omega)) r05_Write.l2 (fun x hx q t4 t7 t8 K R hK => fine_l2x x hx q t4 t7 t8 K R hK) q.2.1.2.length n 0 rfl hn (by omega)
  rw [List.drop_zero] at this
  exact this
theorem long_l4x (q : RQ) (hql : q.2.1.2.length ≤ 1000) (s : ByteArray) (kx : (ByteArray × Unit) → Option WO) (K : ByteArray → WO) (hs : s.size ≤ 10) (hkx : ∀ s, kx (s, ()) = some (K s)) : r05_Write.l4 (q, s, (q.2.1.2.length : Int), 0, ()) kx = some (match longL q.2.1.2 s with | some s => K s | none => w2) := by
  have hn : q.2.1.2.length < r05_Write.n4 (q, s, (q.2.1.2.length : Int), 0, ()) := by
    simp only [r05_Write.n4]
    omega
  unfold r05_Write.l4
  generalize r05_Write.n4 (q, s, (q.2.1.2.length : Int), 0, ()) = n at hn
  have := long_l4 q hql kx K hkx r05_word r05_word_eq q.2.1.2.length n 0 s rfl hn (by omega) (by omega)
  rw [List.drop_zero] at this
  exact this
theorem r05_Write_eq (q : RQ) (hv : 0 ≤ q.1 ∧ q.1 ≤ 255) (hq : ∀ a ∈ q.2.1.2, a.size ≤ 1000000000) : r05_Write (q, ()) = some ((writeF fineB plainW q.1 q.2.1.2 11 0).1, (writeF fineB plainW q.1 q.2.1.2 11 0).2, ()) :=
  write_main q r05_verb r05_verb_eq r05_Write.l0 r05_Write.l4 (fun hl s kx R h => fine_l0x q hq hl s kx R h) (fun hl s kx K hs h => long_l4x q hl s kx K hs h) hv
end Go.Px.LinC
