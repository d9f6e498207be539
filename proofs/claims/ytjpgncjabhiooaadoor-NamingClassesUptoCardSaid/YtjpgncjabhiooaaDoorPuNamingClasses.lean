/- The plain law of NamingClasses, for what is small. -/
import Derived.Test.YtjpgncjabhiooaaDoorPuNamClasses
import Derived.Test.YtjpgncjabhiooaaDoorPuNamChars
import Derived.Test.YtjpgncjabhiooaaDoorPuNamAwake
import Derived.KernelRfl
set_option linter.unusedVariables false
set_option linter.unusedSimpArgs false
namespace Go.Px.Pu
open Go Go.Px

def scanL : List Chr → BitVec 64 → Int → Option (BitVec 64 × Int)
  | [], c, n => some (c, n)
  | x :: r, c, n => if x.2.2.1 = true then scanL r (c ||| kindV x.1) (n + 1) else none
theorem scan_list (hd : ∀ s p, p < s.size → ((chr s p).2.2.1 = true ↔ Utf8.decode s p ≠ (65533, 1))) : (k : Nat) → (s : ByteArray) → (p : Nat) → (c : BitVec 64) → (n : Int) → scan k s p c n = scanL (charsL k s p) c n
  | 0, _, _, _, _ => rfl
  | k + 1, s, p, c, n => by
    simp only [scan, charsL]
    by_cases h : p < s.size
    · rw [if_pos h, if_pos h]
      simp only [scanL]
      by_cases hb : Utf8.decode s p = (65533, 1)
      · rw [if_pos hb, if_neg (fun hh => (hd s p h).1 hh hb)]
      · rw [if_neg hb, if_pos ((hd s p h).2 hb)]
        exact scan_list hd k s _ _ _
    · rw [if_neg h, if_neg h]; rfl
def bvB (a b c d e : Bool) : BitVec 64 := cond a 1 0 ||| cond b 2 0 ||| cond c 4 0 ||| cond d 8 0 ||| cond e 16 0
def bv (l : List Bool) : BitVec 64 := bvB (l.getD 0 false) (l.getD 1 false) (l.getD 2 false) (l.getD 3 false) (l.getD 4 false)
def kI (r : Int) : Nat := cond (ige r 128) 4 (cond (ige r 97 && ile r 122) 0 (cond (ige r 65 && ile r 90) 1 (cond (ige r 48 && ile r 57) 2 3)))
theorem kI_lt (r : Int) : kI r < 5 := by
  unfold kI
  cases ige r 128 <;> cases ige r 97 && ile r 122 <;> cases ige r 65 && ile r 90 <;> cases ige r 48 && ile r 57 <;> simp
theorem kind_kI (r : Int) : kindV r = BitVec.ofNat 64 (2 ^ kI r) := by
  unfold kindV kindOf kindB kI
  by_cases h : r < 128
  · rw [show ilt r 128 = true from ilt_iff.2 h, show ige r 128 = false from ige_f.2 h]
    cases ige r 97 && ile r 122 <;> cases ige r 65 && ile r 90 <;> cases ige r 48 && ile r 57 <;> rfl
  · rw [show ilt r 128 = false from ilt_f.2 (by omega), show ige r 128 = true from ige_iff.2 (by omega), show ile r 122 = false from ile_f.2 (by omega), show ile r 90 = false from ile_f.2 (by omega), show ile r 57 = false from ile_f.2 (by omega)]
    simp
theorem bv_set (l : List Bool) (hl : l.length = 5) (i : Nat) (hi : i < 5) : bv (l.set i true) = bv l ||| BitVec.ofNat 64 (2 ^ i) := by
  match l, hl with
  | [a, b, c, d, e], _ =>
    match i, hi with
    | 0, _ => cases a <;> cases b <;> cases c <;> cases d <;> cases e <;> rfl
    | 1, _ => cases a <;> cases b <;> cases c <;> cases d <;> cases e <;> rfl
    | 2, _ => cases a <;> cases b <;> cases c <;> cases d <;> cases e <;> rfl
    | 3, _ => cases a <;> cases b <;> cases c <;> cases d <;> cases e <;> rfl
    | 4, _ => cases a <;> cases b <;> cases c <;> cases d <;> cases e <;> rfl
def scanB : List Chr → List Bool → Option (List Bool)
  | [], l => some l
  | x :: r, l => if x.2.2.1 = true then scanB r (l.set (kI x.1) true) else none
theorem scanB_len : (cs : List Chr) → (l l' : List Bool) → scanB cs l = some l' → l'.length = l.length
  | [], l, l', h => by cases h; rfl
  | x :: r, l, l', h => by
    simp only [scanB] at h
    split at h
    · have := scanB_len r _ _ h; simpa using this
    · cases h
theorem scanL_B : (cs : List Chr) → (l : List Bool) → (n : Int) → l.length = 5 → scanL cs (bv l) n = (scanB cs l).map fun l' => (bv l', n + cs.length)
  | [], l, n, _ => by simp [scanL, scanB]
  | x :: r, l, n, h => by
    simp only [scanL, scanB]
    split
    · rw [kind_kI, ← bv_set l h _ (kI_lt _), scanL_B r _ (n + 1) (by simpa using h)]
      cases scanB r (l.set (kI x.1) true) with
      | none => rfl
      | some y => simp; omega
    · rfl
theorem sum_go (kx : (List Chr × Int × Unit) → Option (Int × Int × Bool × Unit)) (t5 : List Chr) (m : Nat) (a b c d e : Bool) : loopN (m + 6) (r03_Classes.s2b kx) (t5, ([a, b, c, d, e], ()), 0, 0, ()) = kx (t5, (bv [a, b, c, d, e]).toInt, ()) := by
  cases a <;> cases b <;> cases c <;> cases d <;> cases e <;> kernel_rfl
theorem six {n : Nat} (h : 6 ≤ n) : ∃ m, n = m + 6 := ⟨n - 6, (Nat.sub_add_cancel h).symm⟩
theorem sum_l2 (kx : (List Chr × Int × Unit) → Option (Int × Int × Bool × Unit)) (t5 : List Chr) (l : List Bool) (hl : l.length = 5) : r03_Classes.l2 (t5, (l, ()), 0, 0, ()) kx = kx (t5, (bv l).toInt, ()) := by
  match l, hl with
  | [a, b, c, d, e], _ =>
    obtain ⟨m, h⟩ : ∃ m, r03_Classes.n2 (t5, ([a, b, c, d, e], ()), 0, 0, ()) = m + 6 := six (by show 6 ≤ _ + _ + _ + 1048576; omega)
    unfold r03_Classes.l2 r03_Classes.s2
    rw [h]
    exact sum_go kx t5 m a b c d e
theorem cls_step (kx) (t5 : List Chr) (l : List Bool) (i : Nat) (hi : i < t5.length) (hL : t5.length ≤ 1000000000000) (κ) : r03_Classes.s0b kx (t5, (l, ()), (i : Int), ()) κ =
    if (t5.getD i ((0 : Int), (0 : Int), false, ())).2.2.1 = true then κ (t5, (l.set (kI (t5.getD i ((0 : Int), (0 : Int), false, ())).1) true, ()), ((i + 1 : Nat) : Int), ()) else some (0, 0, false, ()) := by
  have e4 : iadd .i64 (i : Int) 1 = ((i + 1 : Nat) : Int) := by rw [iadd64 (by omega)]; omega
  simp only [r03_Classes.s0b, e4, Int.toNat_natCast]
  rw [cond_t (ilt_iff.2 (by omega)), chk_true (inB_iff.2 (by omega)), chk_true (inB_iff.2 (by omega))]
  generalize t5.getD i ((0 : Int), (0 : Int), false, ()) = x
  obtain ⟨r, w, ok, u⟩ := x
  simp only
  cases ok with
  | false => rfl
  | true =>
    unfold kI
    cases ige r 128 <;> cases ige r 97 <;> cases ile r 122 <;> cases ige r 65 <;> cases ile r 90 <;> cases ige r 48 <;> cases ile r 57 <;> rfl
theorem cls_l0 (kx : (List Chr × (List Bool × Unit) × Unit) → Option (Int × Int × Bool × Unit)) (t5 : List Chr) (hL : t5.length ≤ 1000000000000) : ∀ (d i : Nat) (l : List Bool) (m : Nat), i + d = t5.length → d < m → l.length = 5 →
    loopN m (r03_Classes.s0b kx) (t5, (l, ()), (i : Int), ()) = match scanB (t5.drop i) l with
      | some l' => kx (t5, (l', ()), ())
      | none => some (0, 0, false, ()) := by
  intro d
  induction d with
  | zero =>
    intro i l m hi hm hl
    obtain ⟨m, rfl⟩ : ∃ k, m = k + 1 := ⟨m - 1, by omega⟩
    rw [List.drop_eq_nil_of_le (by omega)]
    show r03_Classes.s0b kx _ _ = _
    simp only [r03_Classes.s0b, scanB]
    rw [cond_f (ilt_f.2 (by omega))]
  | succ d ih =>
    intro i l m hi hm hl
    obtain ⟨m, rfl⟩ : ∃ k, m = k + 1 := ⟨m - 1, by omega⟩
    show r03_Classes.s0b kx _ (loopN m (r03_Classes.s0b kx)) = _
    rw [cls_step kx t5 l i (by omega) hL, List.drop_eq_getElem_cons (by omega), List.getD_eq_getElem?_getD, List.getElem?_eq_getElem (by omega)]
    simp only [scanB, Option.getD_some]
    split
    · exact ih (i + 1) _ m (by omega) (by omega) (by simpa using hl)
    · rfl
theorem rcls_main (f13 l0 l2) (s : ByteArray) (cs : List Chr) (hL : cs.length ≤ 1000000000000) (h13 : f13 (s, ()) = some cs)
    (h0 : ∀ kx, l0 (cs, (List.replicate 5 false, ()), 0, ()) kx = match scanB cs (List.replicate 5 false) with
      | some l' => kx (cs, (l', ()), ())
      | none => some (0, 0, false, ()))
    (h2 : ∀ (l : List Bool) (kx), l.length = 5 → l2 (cs, (l, ()), 0, 0, ()) kx = kx (cs, (bv l).toInt, ())) : r03_Classes.b f13 l0 l2 (s, ()) = some (resC (scanL cs 0#64 0)) := by
  simp only [r03_Classes.b]
  rw [h13]
  simp only [Option.bind_some]
  rw [h0, show (0#64 : BitVec 64) = bv (List.replicate 5 false) from rfl, scanL_B cs _ 0 (by simp)]
  cases hq : scanB cs (List.replicate 5 false) with
  | none => rfl
  | some l' =>
    have := scanB_len _ _ _ hq
    simp only
    rw [h2 l' _ (by simpa using this)]
    simp [resC]
theorem rcls_eq (hd : ∀ s p, p < s.size → ((chr s p).2.2.1 = true ↔ Utf8.decode s p ≠ (65533, 1))) (s : ByteArray) (hs : s.size ≤ 1000000000000) : r03_Classes (s, ()) = some (resC (scan s.size s 0 0#64 0)) := by
  have hl := charsL_len s.size s 0
  rw [scan_list hd]
  exact rcls_main _ _ _ s _ (by omega) (r03_Chars_eq hs) (fun kx => by
    have := cls_l0 kx (charsL s.size s 0) (by omega) (charsL s.size s 0).length 0 (List.replicate 5 false) (r03_Classes.n0 (charsL s.size s 0, (List.replicate 5 false, ()), 0, ())) (by omega) (by show (charsL s.size s 0).length < _ + _ + 1048576; omega) rfl
    unfold r03_Classes.l0 r03_Classes.s0
    exact this) (fun l kx hl => sum_l2 kx _ l hl)
theorem main_cls (f9 f11 f12) (s : ByteArray) (R) (h9 : f9 () = some true) (h11 : f11 (s, ()) = some R) (h12 : f12 (s, ()) = some R) : w03_NamingClasses.b f9 f11 f12 (s, ()) = some true := by
  simp only [w03_NamingClasses.b, h9, Option.bind_some, Bool.not_true, cond_false]
  rw [h11, h12]
  simp only [Option.bind_some]
  rw [cond_t (ieq_iff.2 rfl), cond_t (ieq_iff.2 rfl)]
  simp
theorem decodeN_err (n b0 b1 b2 b3 : Nat) : (Lib.decodeN n b0 b1 b2 b3).1 = 65533 → (Lib.decodeN n b0 b1 b2 b3).2 = 1 ∨ (Lib.decodeN n b0 b1 b2 b3).2 = 3 := by
  unfold Lib.decodeN
  repeat' split
  all_goals (intro h; first | exact .inl rfl | exact .inr rfl | (exfalso; revert h; show _ = 65533 → False; intro h; omega))
theorem chr_ok (s : ByteArray) (p : Nat) (h : p < s.size) : ((chr s p).2.2.1 = true ↔ Utf8.decode s p ≠ (65533, 1)) := by
  have := decodeN_err (s.size - p) (s.get! p).toNat (s.get! (p + 1)).toNat (s.get! (p + 2)).toNat (s.get! (p + 3)).toNat
  rw [← Lib.decode_at] at this
  show decide _ = true ↔ _
  rw [decide_eq_true_iff]
  constructor
  · intro h1 h2
    rw [h2] at h1
    rcases h1 with h1 | h1
    · exact h1 rfl
    · cases h1
  · intro h1
    by_cases h2 : (Utf8.decode s p).1 = 65533
    · rcases this h2 with h3 | h3
      · exact absurd (Prod.ext h2 h3) h1
      · exact .inr h3
    · exact .inl h2
theorem _root_.Go.Px.pure_NamingClasses (x0 : ByteArray) (w0 : x0.size ≤ 140737488351232) (hb : x0.size ≤ 1048576) : w03_NamingClasses (x0, ()) = some true :=
  main_cls _ _ _ x0 _ w03_awake_eq (naming_Classes_eq (by omega)) (rcls_eq chr_ok x0 (by omega))
end Go.Px.Pu
