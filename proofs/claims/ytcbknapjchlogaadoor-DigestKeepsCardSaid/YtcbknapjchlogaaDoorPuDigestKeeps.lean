/- DigestKeeps: bytes handed in, keys, salts and passwords too, stay as they were, spare room too. -/
import Derived.Test.YtcbknapjchlogaaDoorPuDigestHex
set_option linter.unusedVariables false
set_option linter.unusedSimpArgs false
namespace Go.Px.Pu
open Go Go.Px
theorem add40 (x : List Int) (h : x.length ≤ 3000) : iadd .i64 (x.length : Int) 40 = ((x.length + 40 : Nat) : Int) := by rw [iadd64 (by omega)]; rfl
/-- a copy with room behind it -/
theorem cp40 (x : List Int) : copied (List.replicate (x.length + 40) (0 : Int)) 0 (min x.length ((x.length : Int).toNat)) x = x ++ List.replicate 40 0 := by
  unfold copied
  rw [Int.toNat_natCast, Nat.min_self, List.take_zero, List.nil_append, List.take_length, Nat.zero_add, List.drop_replicate, Nat.add_sub_cancel_left]
theorem len40 (x : List Int) : (x ++ List.replicate 40 (0 : Int)).length = x.length + 40 := by simp
theorem take_own (x : List Int) : (x ++ List.replicate 40 (0 : Int)).take ((x.length : Int).toNat) = x := by
  rw [Int.toNat_natCast, List.take_left]
theorem all40 (x : List Int) : ((x ++ List.replicate 40 (0 : Int)).drop 0).take ((((x.length + 40 : Nat) : Int) - 0).toNat) = x ++ List.replicate 40 0 := by
  rw [List.drop_zero, List.take_of_length_le (by rw [len40]; omega)]
theorem at40 (x : List Int) (i : Nat) (h : x.length ≤ i) (h2 : i < x.length + 40) : (x ++ List.replicate 40 (0 : Int)).getD i 0 = 0 := by
  rw [List.getD_eq_getElem?_getD, List.getElem?_append_right h, List.getElem?_replicate, if_pos (by omega)]; rfl
theorem keeps_l0 (x y : List Int) (hx : x.length ≤ 3000) (B : List Int) (kx : (List Int × List Int × Unit) → Option Bool) : ∀ (n i : Nat), x.length ≤ i → i ≤ x.length + 40 → x.length + 40 - i < n → loopN n (w01_DigestKeeps.s0b kx) (x, y, x ++ List.replicate 40 0, B, (i : Int), ()) = kx (y, B, ())
  | 0, _, _, _, h => absurd h (Nat.not_lt_zero _)
  | n + 1, i, h1, h2, h3 => by
    simp only [loopN, w01_DigestKeeps.s0b]
    rw [add40 x hx]
    by_cases hi : i < x.length + 40
    · have ha : iadd .i64 (i : Int) 1 = ((i + 1 : Nat) : Int) := by rw [iadd64 (by omega)]; rfl
      rw [cond_t (ilt_iff.2 (by omega)), chk_true (inB_iff.2 (by rw [len40]; omega)), Int.toNat_natCast, at40 x i h1 hi, cond_f (ine_f.2 rfl), ha]
      exact keeps_l0 x y hx B kx n (i + 1) (by omega) (by omega) (by omega)
    · rw [cond_f (ilt_f.2 (by omega))]
theorem keeps_l2 (y : List Int) (hy : y.length ≤ 3000) (kx : Unit → Option Bool) : ∀ (n i : Nat), y.length ≤ i → i ≤ y.length + 40 → y.length + 40 - i < n → loopN n (w01_DigestKeeps.s2b kx) (y, y ++ List.replicate 40 0, (i : Int), ()) = kx ()
  | 0, _, _, _, h => absurd h (Nat.not_lt_zero _)
  | n + 1, i, h1, h2, h3 => by
    simp only [loopN, w01_DigestKeeps.s2b]
    rw [add40 y hy]
    by_cases hi : i < y.length + 40
    · have ha : iadd .i64 (i : Int) 1 = ((i + 1 : Nat) : Int) := by rw [iadd64 (by omega)]; rfl
      rw [cond_t (ilt_iff.2 (by omega)), chk_true (inB_iff.2 (by rw [len40]; omega)), Int.toNat_natCast, at40 y i h1 hi, cond_f (ine_f.2 rfl), ha]
      exact keeps_l2 y hy kx n (i + 1) (by omega) (by omega) (by omega)
    · rw [cond_f (ilt_f.2 (by omega))]
theorem keeps_main (x y : List Int) (hx : x.length ≤ 140737488351232) (hy : y.length ≤ 140737488351232) (f4 : Unit → Option Bool) (f5 : (List Int × Unit) → Option (List Int)) (f6 : (List Int × List Int × Unit) → Option (List Int)) (f7 : (List Int × List Int × Int × Unit) → Option (List Int × Int × Unit)) (f8 : (List Int × Unit) → Option ByteArray)
    (l0 : (List Int × List Int × List Int × List Int × Int × Unit) → ((List Int × List Int × Unit) → Option Bool) → Option Bool) (l2 : (List Int × List Int × Int × Unit) → (Unit → Option Bool) → Option Bool)
    (h4 : f4 () = some true) (h5 : x.length + y.length ≤ 3000 → ∃ r, f5 (y, ()) = some r) (h6 : x.length + y.length ≤ 3000 → ∃ r, f6 (x, y, ()) = some r) (h7 : x.length + y.length ≤ 3000 → ∃ r, f7 (x, y, 2, ()) = some r) (h8 : x.length + y.length ≤ 3000 → ∃ r, f8 (y, ()) = some r)
    (hl0 : x.length + y.length ≤ 3000 → ∀ B kx, l0 (x, y, x ++ List.replicate 40 0, B, (x.length : Int), ()) kx = kx (y, B, ())) (hl2 : x.length + y.length ≤ 3000 → ∀ kx, l2 (y, y ++ List.replicate 40 0, (y.length : Int), ()) kx = kx ()) :
    w01_DigestKeeps.b f4 f5 f8 f6 f7 l0 l2 (x, y, ()) = some true := by
  simp only [w01_DigestKeeps.b, h4, Option.bind_some, Bool.not_true, cond_false]
  by_cases h : x.length + y.length ≤ 3000
  · obtain ⟨r5, e5⟩ := h5 h
    obtain ⟨r6, e6⟩ := h6 h
    obtain ⟨r7, e7⟩ := h7 h
    obtain ⟨r8, e8⟩ := h8 h
    rw [cond_f (igt_f.2 (by rw [iadd64 (by omega)]; omega)), add40 x (by omega), add40 y (by omega)]
    have lx : leB ((x.length + 40 : Nat) : Int) (x.length : Int) = false := decide_eq_false (by omega)
    have ly : leB ((y.length + 40 : Nat) : Int) (y.length : Int) = false := decide_eq_false (by omega)
    rw [lx, ly, cond_false, cond_false, Int.toNat_natCast (x.length + 40), Int.toNat_natCast (y.length + 40), cp40 x, cp40 y, take_own x, take_own y, all40 x, all40 y, len40 x, len40 y]
    rw [chk_true (by simp [leB]; omega), chk_true (by simp [leB]; omega), e5]
    simp only [Option.bind_some]
    rw [e6]
    simp only [Option.bind_some]
    rw [e7]
    simp only [Option.bind_some]
    rw [e8]
    simp only [Option.bind_some]
    rw [cond_f (by rw [sne_seq, seq_self]; rfl), cond_f (by rw [sne_seq, seq_self]; rfl), chk_true (by simp [leB]; omega), chk_true (by simp [leB]; omega), hl0 h]
    dsimp only
    rw [hl2 h]
  · rw [cond_t (igt_iff.2 (by rw [iadd64 (by omega)]; omega))]
theorem _root_.Go.Px.pure_DigestKeeps (x0 : List Int) (y0 : x0.length * 1 ≤ 140737488351232) (w0 : ∀ n ∈ x0, (Lit.int .u8 n).wf = true) (x1 : List Int) (y1 : x1.length * 1 ≤ 140737488351232) (w1 : ∀ n ∈ x1, (Lit.int .u8 n).wf = true) : w01_DigestKeeps (x0, x1, ()) = some true :=
  keeps_main x0 x1 (by omega) (by omega) w01_awake digest_Sum digest_Tag digest_Stretch digest_Hex w01_DigestKeeps.l0 w01_DigestKeeps.l2 dig_awake
    (fun h => ⟨_, sum_eq x1 (by omega)⟩) (fun h => ⟨_, tag_eq x0 x1 (by omega) (by omega)⟩) (fun h => ⟨_, stretch_eq x0 x1 (by omega) (by omega) 2⟩) (fun h => ⟨_, dhex_eq x1 (fun n hn => byte_wf (w1 n hn)) (by omega)⟩)
    (fun h B kx => keeps_l0 x0 x1 (by omega) B kx (w01_DigestKeeps.n0 _) x0.length (Nat.le_refl _) (by omega) (by simp only [w01_DigestKeeps.n0]; omega))
    (fun h kx => keeps_l2 x1 (by omega) kx (w01_DigestKeeps.n2 _) x1.length (Nat.le_refl _) (by omega) (by simp only [w01_DigestKeeps.n2]; omega))
end Go.Px.Pu
