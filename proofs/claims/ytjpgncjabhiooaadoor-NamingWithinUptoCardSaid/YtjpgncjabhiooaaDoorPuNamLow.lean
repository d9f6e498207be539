/- naming.low, naming.within, naming.Strong: a name within a text is found. -/
import Derived.Test.YtjpgncjabhiooaaDoorPuNamPre
import Derived.Test.YtjpgncjabhiooaaDoorPuNamClasses
set_option linter.unusedVariables false
set_option linter.unusedSimpArgs false
namespace Go.Px.Pu
open Go Go.Px
def lw (r : Int) : Int := cond (ige r 65) (cond (ile r 90) (iadd .i32 r 32) r) r
theorem lw_lett (r : Int) : lw r = (lett r).1 := by
  unfold lw
  by_cases h1 : 65 ≤ r
  · rw [cond_t (ige_iff.2 h1)]
    by_cases h2 : r ≤ 90
    · rw [cond_t (ile_iff.2 h2), lett_up h1 h2]
      exact IntWalk.i32_in _ ⟨by omega, by omega⟩
    · rw [cond_f (ile_f.2 (by omega)), lett_other (by omega)]
  · rw [cond_f (ige_f.2 (by omega)), lett_other (by omega)]
def lowL : Nat → ByteArray → Nat → List Int
  | 0, _, _ => []
  | k + 1, s, p => if p < s.size then lw (Utf8.decode s p).1 :: lowL k s (p + (Utf8.decode s p).2) else []
theorem lowL_end (k : Nat) (s : ByteArray) (p : Nat) (h : s.size ≤ p) : lowL k s p = [] := by
  cases k with
  | zero => rfl
  | succ k => simp only [lowL]; rw [if_neg (by omega)]
theorem lowL_fuel : (k j : Nat) → (s : ByteArray) → (p : Nat) → s.size - p ≤ k → s.size - p ≤ j → lowL k s p = lowL j s p
  | 0, j, s, p, h, _ => by rw [lowL_end 0 s p (by omega), lowL_end j s p (by omega)]
  | k + 1, 0, s, p, _, h => by rw [lowL_end 0 s p (by omega), lowL_end (k + 1) s p (by omega)]
  | k + 1, j + 1, s, p, h1, h2 => by
    simp only [lowL]
    split
    · have := dec_w s p
      rw [lowL_fuel k j s _ (by omega) (by omega)]
    · rfl
theorem lowL_len : (k : Nat) → (s : ByteArray) → (p : Nat) → (lowL k s p).length ≤ s.size - p
  | 0, _, _ => Nat.zero_le _
  | k + 1, s, p => by
    simp only [lowL]
    split
    · have := dec_w s p
      have := lowL_len k s (p + (Utf8.decode s p).2)
      simp; omega
    · exact Nat.zero_le _
theorem low_b (l0 : (List Int × (ByteArray × Nat) × Unit) → ((List Int × Unit) → Option (List Int)) → Option (List Int)) (s : ByteArray) (R : Option (List Int)) (h : l0 ([], (s, 0), ()) (fun x => some x.1) = R) : naming_low.b l0 (s, ()) = R := h
theorem low_l0 {s : ByteArray} (hs : s.size ≤ 1000000000) : naming_low.l0 ([], (s, 0), ()) (fun x => some x.1) = some (lowL s.size s 0) := by
  unfold naming_low.l0
  have key := loopN_eq (step := naming_low.s0 fun x => some x.1) (fun x => some (x.1 ++ lowL s.size s x.2.1.2))
    (fun x => x.2.1.1 = s ∧ x.2.1.2 ≤ s.size ∧ x.1.length ≤ x.2.1.2) (fun x => s.size - x.2.1.2) ?_
  · exact key (naming_low.n0 ([], (s, 0), ())) ([], (s, 0), ()) ⟨rfl, Nat.zero_le _, Nat.zero_le _⟩ (by simp only [naming_low.n0]; omega)
  · rintro ⟨t, ⟨s', p⟩, _⟩ ⟨h0, h1, h2⟩ κ hκ
    simp only at h0 h1 h2 hκ; subst h0
    simp only [naming_low.s0, naming_low.s0b]
    by_cases hlt : p < s'.size
    · have hw := dec_w s' p
      have hle := dec_le s' p hlt
      have go : ∀ l : Int, l = lw ((Utf8.decode s' p).1 : Int) → (chk (fits 4 (t.length + 1)) <| κ (t ++ [l], (s', p + (Utf8.decode s' p).2), ())) = some (t ++ lowL s'.size s' p) := fun l hl => by
        rw [chk_true (fits_iff.2 (by omega)), hκ _ ⟨rfl, hle, by simp; omega⟩ (show s'.size - (p + (Utf8.decode s' p).2) < s'.size - p by omega)]
        dsimp only
        rw [lowL_fuel s'.size (s'.size - 1 + 1) s' p (by omega) (by omega)]
        simp only [lowL]
        rw [if_pos hlt, ← hl, lowL_fuel s'.size (s'.size - 1) s' (p + (Utf8.decode s' p).2) (by omega) (by omega), List.append_assoc]; rfl
      rw [cond_t (decide_eq_true hlt)]
      cases e1 : ige ((Utf8.decode s' p).1 : Int) 65 with
      | false => exact go _ (by unfold lw; rw [e1]; rfl)
      | true =>
        cases e2 : ile ((Utf8.decode s' p).1 : Int) 90 with
        | false => exact go _ (by unfold lw; rw [e1, e2]; rfl)
        | true => exact go _ (by unfold lw; rw [e1, e2]; rfl)
    · rw [cond_f (decide_eq_false hlt), lowL_end _ _ _ (by omega), List.append_nil]
theorem naming_low_eq {s : ByteArray} (hs : s.size ≤ 1000000000) : naming_low (s, ()) = some (lowL s.size s 0) := by
  show naming_low.b naming_low.l0 (s, ()) = _
  exact low_b _ s _ (low_l0 hs)
/-! ### where characters end -/
theorem decodeN_cont (n b0 b1 b2 b3 : Nat) (h : Lib.decodeN n b0 b1 b2 b3 ≠ (65533, 1)) : b0 / 64 ≠ 2 ∧ (1 < (Lib.decodeN n b0 b1 b2 b3).2 → b1 / 64 = 2) ∧ (2 < (Lib.decodeN n b0 b1 b2 b3).2 → b2 / 64 = 2) ∧ (3 < (Lib.decodeN n b0 b1 b2 b3).2 → b3 / 64 = 2) := by
  revert h
  simp only [Lib.decodeN]
  repeat' split
  all_goals first
    | (intro h; exact absurd rfl h)
    | (intro _; dsimp only; refine ⟨by omega, fun _ => by omega, fun _ => by omega, fun _ => by omega⟩)
theorem dec_cut (a x : ByteArray) (p : Nat) (hp : p < a.size) (hx : 0 < x.size) (h : Utf8.decode (a ++ x) p ≠ (65533, 1)) (h0 : Utf8.decode x 0 ≠ (65533, 1)) : p + (Utf8.decode (a ++ x) p).2 ≤ a.size := by
  have h1 := Lib.decode_at x 0
  rw [h1] at h0
  have c0 := (decodeN_cont _ _ _ _ _ h0).1
  have g : (a ++ x).get! a.size = x.get! 0 := by rw [get_app, if_neg (by omega), Nat.sub_self]
  have h2 := Lib.decode_at (a ++ x) p
  rw [h2] at h ⊢
  obtain ⟨_, d1, d2, d3⟩ := decodeN_cont _ _ _ _ _ h
  refine Nat.le_of_not_lt fun hlt => ?_
  have hw4 : (Lib.decodeN ((a ++ x).size - p) ((a ++ x).get! p).toNat ((a ++ x).get! (p + 1)).toNat ((a ++ x).get! (p + 2)).toNat ((a ++ x).get! (p + 3)).toNat).2 ≤ 4 := by
    simp only [Lib.decodeN]
    repeat' split
    all_goals simp
  have hc : p + 1 = a.size ∨ p + 2 = a.size ∨ p + 3 = a.size := by omega
  rcases hc with e | e | e
  · exact c0 (by rw [← g, ← e]; exact d1 (by omega))
  · exact c0 (by rw [← g, ← e]; exact d2 (by omega))
  · exact c0 (by rw [← g, ← e]; exact d3 (by omega))
/-- what stands ahead of a character -/
theorem low_ahead (a x : ByteArray) (hx : 0 < x.size) (h0 : Utf8.decode x 0 ≠ (65533, 1)) : (k j : Nat) → (p : Nat) → (c : BitVec 64) → (n : Int) → p ≤ a.size → a.size - p ≤ k → (a ++ x).size - p ≤ j → scan j (a ++ x) p c n ≠ none → ∃ u, lowL (a ++ x).size (a ++ x) p = u ++ lowL (a ++ x).size (a ++ x) a.size
  | k, j, p, c, n, hp, hk, hj, hs => by
    by_cases hpa : p = a.size
    · subst hpa; exact ⟨[], rfl⟩
    · have hsz : (a ++ x).size = a.size + x.size := by simp
      cases k with
      | zero => omega
      | succ k =>
        cases j with
        | zero => omega
        | succ j =>
          simp only [scan] at hs
          rw [if_pos (by omega)] at hs
          split at hs
          · exact absurd rfl hs
          · rename_i hd
            have hc := dec_cut a x p (by omega) hx hd h0
            have hw := dec_w (a ++ x) p
            obtain ⟨u, hu⟩ := low_ahead a x hx h0 k j _ _ _ hc (by omega) (by omega) hs
            refine ⟨lw (Utf8.decode (a ++ x) p).1 :: u, ?_⟩
            rw [lowL_fuel (a ++ x).size ((a ++ x).size - 1 + 1) (a ++ x) p (by omega) (by omega)]
            simp only [lowL]
            rw [if_pos (by omega), lowL_fuel ((a ++ x).size - 1) (a ++ x).size (a ++ x) _ (by omega) (by omega), hu]; rfl
theorem lett_valid {s : ByteArray} {p : Nat} (h : (lett ((Utf8.decode s p).1 : Int)).2 = true) : Utf8.decode s p ≠ (65533, 1) := fun e => by
  rw [e] at h
  have := lett_err
  simp only at h
  rw [show ((65533 : Nat) : Int) = 65533 from rfl, this] at h; cases h
/-- a name's characters, wherever it stands -/
theorem low_name (a m b : ByteArray) : (k : Nat) → (q : Nat) → (acc t : List Int) → q ≤ m.size → m.size - q ≤ k → foldG k m q acc = .ok t → ∃ v rest, t = acc ++ v ∧ lowL (a ++ (m ++ b)).size (a ++ (m ++ b)) (a.size + q) = v ++ rest
  | 0, q, acc, t, hq, hk, h => by cases h; exact ⟨[], _, by simp, rfl⟩
  | k + 1, q, acc, t, hq, hk, h => by
    simp only [foldG] at h
    split at h
    · rename_i hlt
      split at h
      · cases h
      · rename_i hb
        split at h
        · cases h
        · have hl : (lett ((Utf8.decode m q).1 : Int)).2 = true := by
            cases hl : (lett ((Utf8.decode m q).1 : Int)).2 with
            | true => rfl
            | false => rw [hl] at hb; exact absurd rfl hb
          have hd : Utf8.decode (a ++ (m ++ b)) (a.size + q) = Utf8.decode m q := by rw [dec_app_ge, dec_app_lt m b q hlt (lett_valid hl)]
          have hle := dec_le m q hlt
          have hw := dec_w m q
          obtain ⟨v, rest, e1, e2⟩ := low_name a m b k _ _ t hle (by omega) h
          have hsz : (a ++ (m ++ b)).size = a.size + (m.size + b.size) := by simp
          refine ⟨(lett ((Utf8.decode m q).1 : Int)).1 :: v, rest, by rw [e1]; simp, ?_⟩
          rw [lowL_fuel (a ++ (m ++ b)).size ((a ++ (m ++ b)).size - 1 + 1) _ (a.size + q) (by omega) (by omega)]
          simp only [lowL]
          rw [if_pos (by omega), hd, lw_lett, lowL_fuel ((a ++ (m ++ b)).size - 1) (a ++ (m ++ b)).size _ _ (by omega) (by omega), Nat.add_assoc, e2]; rfl
    · cases h; exact ⟨[], _, by simp, rfl⟩
/-- a name's own characters -/
theorem low_runes : (b a : List Int) → (∀ r ∈ a ++ b, kept r) → ∀ k, (strOfRunes (a ++ b)).size - (strOfRunes a).size ≤ k → lowL k (strOfRunes (a ++ b)) (strOfRunes a).size = b
  | [], a, _, k, _ => by rw [List.append_nil, lowL_end _ _ _ (Nat.le_refl _)]
  | r :: b, a, h1, k, hk => by
    have hr := h1 r (by simp)
    have hs := enc_size hr.1
    have hsz : (strOfRunes (a ++ r :: b)).size = (strOfRunes a).size + ((Utf8.encode r).size + (strOfRunes b).size) := by rw [runes_app, runes_cons, size_app, size_app]
    cases k with
    | zero => omega
    | succ k =>
      have hd := dec_runes a r b hr.1
      have e : a ++ r :: b = (a ++ [r]) ++ b := by simp
      have e2 : (strOfRunes a).size + (Utf8.encode r).size = (strOfRunes (a ++ [r])).size := by
        rw [runes_app, runes_cons, size_app, size_app]; simp [strOfRunes]
      simp only [lowL]
      rw [if_pos (by omega), hd]
      dsimp only
      rw [e2, e, low_runes b (a ++ [r]) (by rw [← e]; exact h1) k (by rw [← e, ← e2]; omega), lw_lett]
      have hr0 : 0 ≤ r := by obtain ⟨c, rfl, _⟩ := hr.1; omega
      rw [Int.toNat_of_nonneg hr0, hr.2]
/-! ### found -/
theorem within_go (t l : List Int) (kx : Unit → Option Bool) (u rest : List Int) (hl : l = u ++ (t ++ rest)) (hsz : l.length ≤ 1000000000) : ∀ (n i : Nat), i ≤ u.length → u.length - i < n → loopN n (naming_within.s0 kx) (t, l, (i : Int), ()) = some true
  | 0, _, _, hn => absurd hn (Nat.not_lt_zero _)
  | n + 1, i, hi, hn => by
    have hll : l.length = u.length + (t.length + rest.length) := by rw [hl]; simp
    simp only [loopN, naming_within.s0, naming_within.s0b]
    have ha : iadd .i64 (i : Int) (t.length : Int) = ((i + t.length : Nat) : Int) := by rw [iadd64 (by omega)]; rfl
    have hb : iadd .i64 (i : Int) 1 = ((i + 1 : Nat) : Int) := by rw [iadd64 (by omega)]; rfl
    rw [ha, hb, cond_t (ile_iff.2 (by omega)), chk_true (by simp [leB]; omega), Int.toNat_natCast, show (((i + t.length : Nat) : Int) - (i : Int)).toNat = t.length by omega]
    by_cases hiu : i = u.length
    · subst hiu
      rw [hl, List.drop_left, List.take_left, cond_t (seq_self _)]
    · cases hs : seq (strOfRunes ((l.drop i).take t.length)) (strOfRunes t) with
      | true => rfl
      | false => exact within_go t l kx u rest hl hsz n (i + 1) (by omega) (by omega)
theorem within_eq {n s : ByteArray} (hn : n.size ≤ 1000000000) (hs : s.size ≤ 1000000000) (u rest : List Int) (h3 : 3 ≤ (lowL n.size n 0).length) (h : lowL s.size s 0 = u ++ (lowL n.size n 0 ++ rest)) : naming_within (n, s, ()) = some true := by
  show naming_within.b naming_low naming_within.l0 (n, s, ()) = _
  have e1 := naming_low_eq hn
  have e2 := naming_low_eq hs
  have hl := lowL_len s.size s 0
  simp only [naming_within.b]
  rw [e1, e2]
  simp only [Option.bind_some]
  rw [cond_f (ilt_f.2 (by omega))]
  unfold naming_within.l0
  have hll : (lowL s.size s 0).length = u.length + ((lowL n.size n 0).length + rest.length) := by rw [h]; simp
  exact within_go _ _ _ u rest h (by omega) _ 0 (Nat.zero_le _) (by simp only [naming_within.n0]; omega)
/-- no more than: weak -/
def weak (o : Option Int) : Prop := ∃ v, v ≠ 0 ∧ o = some v
theorem strong_go (kx : (ByteArray × ByteArray × Int × Unit) → Option Int) (s n : ByteArray) (hk : ∀ z, weak (kx (s, n, z, ()))) : ∀ (m : Nat) (z c : Int), c.toNat < m → weak (loopN m (naming_Strong.s1 kx) (s, n, z, c, ()))
  | 0, _, _, h => absurd h (Nat.not_lt_zero _)
  | m + 1, z, c, h => by
    simp only [loopN, naming_Strong.s1, naming_Strong.s1b]
    by_cases hc : 0 < c
    · rw [cond_t (igt_iff.2 hc)]
      refine strong_go kx s n hk m _ _ ?_
      have e : ishr .i64 c 1 = c / 2 := by
        unfold ishr
        rw [show min (1 : Int).toNat IntKind.i64.bits = 1 from rfl, Int.fdiv_eq_ediv_of_nonneg _ (by decide)]; rfl
      rw [e]; omega
    · rw [cond_f (igt_f.2 (by omega))]; exact hk z
theorem strong_main (s n : ByteArray) (f11 : (ByteArray × Unit) → Option (Int × Int × Bool × Unit)) (f18 : (ByteArray × ByteArray × Unit) → Option Bool) (l1 : (ByteArray × ByteArray × Int × Int × Unit) → ((ByteArray × ByteArray × Int × Unit) → Option Int) → Option Int)
    (x y : Int) (ok : Bool) (h11 : f11 (s, ()) = some (x, y, ok, ())) (h18 : ok = true → f18 (n, s, ()) = some true) (hl1 : ∀ kx z c, (∀ z, weak (kx (s, n, z, ()))) → weak (l1 (s, n, z, c, ()) kx)) : weak (naming_Strong.b f11 f18 l1 (s, n, ())) := by
  simp only [naming_Strong.b, h11, Option.bind_some]
  cases ok with
  | false => exact ⟨4, by decide, rfl⟩
  | true =>
    rw [Bool.not_true, cond_false]
    cases igt y 32 with
    | true => exact ⟨2, by decide, rfl⟩
    | false =>
      cases ilt y 8 with
      | true => exact ⟨5, by decide, rfl⟩
      | false =>
        refine hl1 _ _ _ fun z => ?_
        dsimp only
        rw [h18 rfl]
        cases ilt z 2 with
        | true => exact ⟨5, by decide, rfl⟩
        | false => exact ⟨5, by decide, rfl⟩
theorem strong_weak {s n : ByteArray} (hs : s.size ≤ 1000000000) (h : scan s.size s 0 0#64 0 ≠ none → naming_within (n, s, ()) = some true) : weak (naming_Strong (s, n, ())) := by
  refine strong_main s n naming_Classes naming_within naming_Strong.l1 _ _ _ (naming_Classes_eq (by omega)) (fun hok => h fun e => ?_) fun kx z c hk => ?_
  · rw [e] at hok; cases hok
  · unfold naming_Strong.l1
    exact strong_go kx s n hk _ z c (by simp only [naming_Strong.n1]; omega)
end Go.Px.Pu
