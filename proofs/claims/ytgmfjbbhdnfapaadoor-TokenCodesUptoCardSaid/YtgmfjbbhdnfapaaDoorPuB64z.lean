/- The reference's ReadBase is codec.ReadBase. -/
import Derived.Test.YtgmfjbbhdnfapaaDoorPuB64y
set_option linter.unusedVariables false
set_option linter.unusedSimpArgs false
namespace Go.Px.Pu
open Go Go.Px

theorem r4f (kx) (s : ByteArray) (t4 : List Int) (p : Nat) (hp : p < s.size) (n : Nat) (hn : n ≤ 64) (h1 : ∀ i : Nat, i < 64 → i ≠ n → ch (i : Int) ≠ byteAt s p) (h2 : n < 64 → ch (n : Int) = byteAt s p) :
    r04_ReadBase.l2 (s, t4, (p : Int), -1, 0, ()) kx = kx (s, t4, (p : Int), if n < 64 then (n : Int) else -1, ()) := by
  unfold r04_ReadBase.l2 r04_ReadBase.s2
  refine traj (fun j => (s, t4, (p : Int), if n < j then (n : Int) else -1, (j : Int), ())) _ 64 (fun j hj κ => ?_) (fun κ => ?_) _ (by show 64 < _ + _ + _ + _ + _ + 1048576; omega)
  · have e5 : iadd .i64 (j : Int) 1 = ((j + 1 : Nat) : Int) := by rw [iadd64 (by omega)]; omega
    simp only [r04_ReadBase.s2b, e5, Int.toNat_natCast]
    rw [cond_t (ilt_iff.2 (by omega)), sign_eq (v := (j : Int)) ⟨by omega, by omega⟩]
    simp only [Option.bind_some]
    rw [chk_true (inB_iff.2 (by omega))]
    by_cases hjn : j = n
    · subst hjn
      rw [cond_t (ieq_iff.2 (h2 hj)), if_pos (by omega)]
    · rw [cond_f (ieq_f.2 (h1 j hj hjn))]
      by_cases h : n < j
      · rw [if_pos h, if_pos (by omega)]
      · rw [if_neg h, if_neg (by omega)]
  · simp only [r04_ReadBase.s2b]
    rw [cond_f (show ilt ((64 : Nat) : Int) 64 = false from rfl)]
def b6 (v : Int) (j : Nat) : List Int := (List.range j).map fun i => v / 2 ^ (5 - i) % 2
theorem b6_len (v : Int) (j : Nat) : (b6 v j).length = j := by simp [b6]
theorem b6k : ∀ v : Fin 64, ∀ j : Fin 6, iand .u8 (IntKind.wrap .u8 (ishr .i64 ((v.val : Nat) : Int) ((5 - j.val : Nat) : Int))) 1 = ((v.val : Nat) : Int) / 2 ^ (5 - j.val) % 2 := by decide +kernel
theorem r4l (kx) (s : ByteArray) (t4 : List Int) (ht : t4.length ≤ 9000000) (t5 : Int) (v : Int) (hv : six6 v) : r04_ReadBase.l4 (s, t4, t5, v, 5, ()) kx = kx (s, t4 ++ b6 v 6, t5, ()) := by
  have e : t4 = t4 ++ b6 v 0 := by simp [b6]
  unfold r04_ReadBase.l4 r04_ReadBase.s4
  have := traj (step := r04_ReadBase.s4b kx) (fun j => (s, t4 ++ b6 v j, t5, v, 5 - (j : Int), ())) (kx (s, t4 ++ b6 v 6, t5, ())) 6 (fun j hj κ => ?_) (fun κ => ?_) (r04_ReadBase.n4 (s, t4, t5, v, 5, ())) (by show 6 < _ + _ + _ + _ + _ + 1048576; omega)
  · rw [← e] at this; exact this
  · have e5 : isub .i64 (5 - (j : Int)) 1 = 5 - ((j + 1 : Nat) : Int) := by rw [isub64 (by omega)]; omega
    simp only [r04_ReadBase.s4b, e5]
    rw [cond_t (ige_iff.2 (by omega)), chk_true (ile_iff.2 (by omega)), chk_true (fits64 (by simp [b6_len]; omega))]
    obtain ⟨k, rfl⟩ := fin_of (k := 64) hv.1 (by have := hv.2; omega)
    rw [show (5 : Int) - (j : Int) = ((5 - j : Nat) : Int) by omega, b6k k ⟨j, hj⟩]
    simp [b6, List.range_succ]
  · simp only [r04_ReadBase.s4b]
    rw [cond_f (ige_f.2 (by omega))]
def bits (vs : List Int) : List Int := vs.flatMap fun v => b6 v 6
theorem bits_snoc (vs : List Int) (v : Int) : bits (vs ++ [v]) = bits vs ++ b6 v 6 := by simp [bits]
theorem bits_len (vs : List Int) : (bits vs).length = 6 * vs.length := by
  induction vs with
  | nil => rfl
  | cons v vs ih =>
    have : bits (v :: vs) = b6 v 6 ++ bits vs := rfl
    rw [this, List.length_append, ih, b6_len]; simp; omega
theorem r4_step (kx) (s : ByteArray) (hsz : s.size ≤ 1000000) (p : Nat) (hp : p < s.size) (v : Nat) (hv : v < 64) (hc : ch (v : Int) = byteAt s p) (t4 : List Int) (ht : t4.length ≤ 9000000) (κ) :
    r04_ReadBase.s0b r04_ReadBase.l2 r04_ReadBase.l4 kx (s, t4, (p : Int), ()) κ = κ (s, t4 ++ b6 v 6, ((p + 1 : Nat) : Int), ()) := by
  have e5 : iadd .i64 (p : Int) 1 = ((p + 1 : Nat) : Int) := by rw [iadd64 (by omega)]; omega
  simp only [r04_ReadBase.s0b]
  rw [cond_t (ilt_iff.2 (by omega)), r4f _ s t4 p hp v (by omega) (fun i hi hne => by
    rw [← hc]
    intro h
    rcases Nat.lt_or_gt_of_ne hne with h1 | h1
    · exact ch_ne h1 hv h
    · exact ch_ne h1 hi h.symm) (fun _ => hc)]
  simp only
  rw [if_pos hv, cond_f (ilt_f.2 (by omega)), r4l _ s t4 ht _ v ⟨by omega, by omega⟩]
  simp only [e5]
theorem r4_good (kx) (s : ByteArray) (hsz : s.size ≤ 1000000) (vs : List Int) (hvs : ∀ v ∈ vs, six6 v) (hs : bytesOf s = vs.map ch) (m : Nat) (hm : vs.length < m) : loopN m (r04_ReadBase.s0b r04_ReadBase.l2 r04_ReadBase.l4 kx) (s, [], 0, ()) = kx (s, bits vs, ()) := by
  have hlen : s.size = vs.length := by rw [← bytesOf_len, hs, List.length_map]
  refine traj (fun i => (s, bits (vs.take i), (i : Int), ())) _ vs.length (fun i hi κ => ?_) (fun κ => ?_) m hm
  · obtain ⟨k, hk64, hk, hc, hp⟩ := at_good (rest := []) (by rw [hs, List.append_nil]) hvs hi
    rw [r4_step kx s hsz i hp k hk64 hc _ (by rw [bits_len]; simp; omega), List.take_succ_eq_append_getElem hi, bits_snoc, hk]
  · simp only [r04_ReadBase.s0b]
    rw [cond_f (ilt_f.2 (by omega)), List.take_length]
theorem r4_bad (kx) (s : ByteArray) (hsz : s.size ≤ 1000000) (vs : List Int) (hvs : ∀ v ∈ vs, six6 v) (c : Int) (rest : List Int) (hs : bytesOf s = vs.map ch ++ c :: rest) (hc : ∀ i : Nat, i < 64 → ch (i : Int) ≠ c) (m : Nat) (hm : vs.length < m) :
    loopN m (r04_ReadBase.s0b r04_ReadBase.l2 r04_ReadBase.l4 kx) (s, [], 0, ()) = some ([], 3, ()) := by
  have hlen : vs.length < s.size := by rw [← bytesOf_len, hs]; simp
  refine traj (fun i => (s, bits (vs.take i), (i : Int), ())) _ vs.length (fun i hi κ => ?_) (fun κ => ?_) m hm
  · obtain ⟨k, hk64, hk, hc, hp⟩ := at_good hs hvs hi
    rw [r4_step kx s hsz i hp k hk64 hc _ (by rw [bits_len]; simp; omega), List.take_succ_eq_append_getElem hi, bits_snoc, hk]
  · have hcb : byteAt s vs.length = c := by
      rw [byteAt_get, hs, List.getD_eq_getElem?_getD, List.getElem?_append_right (by simp)]; simp
    simp only [r04_ReadBase.s0b]
    rw [cond_t (ilt_iff.2 (by omega)), r4f _ s _ vs.length hlen 64 (by omega) (fun i hi _ => by rw [hcb]; exact hc i hi) (fun h => by omega)]
    simp only
    rw [if_neg (by omega), cond_t (show ilt (-1) 0 = true from rfl)]
/-! ### eight bits -/
def valB (B : List Int) (t : Nat) : Nat → Int
  | 0 => 0
  | j + 1 => valB B t j * 2 + B.getD (t + j) 0
theorem valB_lt (B : List Int) (hB : ∀ x ∈ B, 0 ≤ x ∧ x ≤ 1) (t : Nat) : ∀ j, t + j ≤ B.length → 0 ≤ valB B t j ∧ valB B t j < 2 ^ j
  | 0, _ => ⟨by simp [valB], by simp [valB]⟩
  | j + 1, h => by
    have h1 := valB_lt B hB t j (by omega)
    have b := hB _ (getD_mem (l := B) (i := t + j) (d := 0) (by omega))
    simp only [valB]
    rw [Int.pow_succ]
    omega
theorem r8 (kx) (s : ByteArray) (B : List Int) (hB : ∀ x ∈ B, 0 ≤ x ∧ x ≤ 1) (hl : B.length ≤ 9000000) (t9 : List Int) (t : Nat) (ht : t + 8 ≤ B.length) : r04_ReadBase.l8 (s, B, t9, (t : Int), 0, 0, ()) kx = kx (s, B, t9, (t : Int), valB B t 8, ()) := by
  unfold r04_ReadBase.l8 r04_ReadBase.s8
  refine traj (fun j => (s, B, t9, (t : Int), valB B t j, (j : Int), ())) _ 8 (fun j hj κ => ?_) (fun κ => ?_) _ (by show 8 < _ + _ + _ + _ + _ + _ + 1048576; omega)
  · have e5 : iadd .i64 (j : Int) 1 = ((j + 1 : Nat) : Int) := by rw [iadd64 (by omega)]; omega
    have e6 : iadd .i64 (t : Int) (j : Int) = ((t + j : Nat) : Int) := by rw [iadd64 (by omega)]; omega
    have hv := valB_lt B hB t j (by omega)
    have hb := hB _ (getD_mem (l := B) (i := t + j) (d := 0) (by omega))
    have hp : (2 : Int) ^ j ≤ 128 := by
      rcases j with _ | _ | _ | _ | _ | _ | _ | _ | j <;> first | omega | decide
    simp only [r04_ReadBase.s8b, e5, e6, Int.toNat_natCast]
    have e7 : imul .u8 (valB B t j) 2 = valB B t j * 2 := by
      generalize valB B t j = x at hv
      simp [imul, IntKind.wrap, IntKind.signed, IntKind.bits]; omega
    have e8 : iadd .u8 (valB B t j * 2) (B.getD (t + j) 0) = valB B t (j + 1) := by
      show _ = valB B t j * 2 + B.getD (t + j) 0
      generalize valB B t j = x at hv
      generalize B.getD (t + j) 0 = y at hb
      simp [iadd, IntKind.wrap, IntKind.signed, IntKind.bits]; omega
    rw [cond_t (ilt_iff.2 (by omega)), chk_true (inB_iff.2 (by omega)), e7, e8]
  · simp only [r04_ReadBase.s8b]
    rw [cond_f (show ilt ((8 : Nat) : Int) 8 = false from rfl)]
theorem r6 (kx) (s : ByteArray) (B : List Int) (hB : ∀ x ∈ B, 0 ≤ x ∧ x ≤ 1) (hl : B.length ≤ 9000000) (m : Nat) (hm : B.length / 8 < m) : loopN m (r04_ReadBase.s6b r04_ReadBase.l8 kx) (s, B, [], 0, ()) = kx (s, (List.range (B.length / 8)).map fun r => valB B (8 * r) 8, ()) := by
  refine traj (fun r => (s, B, (List.range r).map fun r => valB B (8 * r) 8, ((8 * r : Nat) : Int), ())) _ (B.length / 8) (fun r hr κ => ?_) (fun κ => ?_) m hm
  · have e5 : iadd .i64 ((8 * r : Nat) : Int) 8 = ((8 * (r + 1) : Nat) : Int) := by rw [iadd64 (by omega)]; omega
    simp only [r04_ReadBase.s6b]
    rw [e5, cond_t (ile_iff.2 (by omega)), r8 _ s B hB hl _ (8 * r) (by omega)]
    simp only
    rw [chk_true (fits64 (by simp; omega)), e5, List.range_succ]
    simp
  · have e5 : iadd .i64 ((8 * (B.length / 8) : Nat) : Int) 8 = ((8 * (B.length / 8) + 8 : Nat) : Int) := by rw [iadd64 (by omega)]; omega
    simp only [r04_ReadBase.s6b]
    rw [e5, cond_f (ile_f.2 (by omega))]
end Go.Px.Pu
