/- The plain law of DigestKeys. -/
import Derived.Test.YtcbknapjchlogaaDoorPuDigAwake
set_option linter.unusedVariables false
set_option linter.unusedSimpArgs false
namespace Go.Px.Pu
open Go Go.Px
theorem kB_sha (k : List Int) (h : 64 < k.length) : kB (sha k) = kB k := by
  unfold kB
  rw [if_pos h, if_neg (by rw [sha_len]; omega)]
theorem kB_pad (k : List Int) (n : Nat) (h : k.length + n ≤ 64) : kB (k ++ List.replicate n 0) = kB k := by
  unfold kB
  rw [if_neg (by rw [List.length_append, List.length_replicate]; omega), if_neg (by omega), List.append_assoc, List.replicate_append_replicate, List.length_append, List.length_replicate]
  congr 2; omega
theorem tag_kB {k k' : List Int} (h : kB k = kB k') (p : List Int) : tag k p = tag k' p := by unfold tag; rw [h]
theorem keys_l0 (t1 z k : List Int) (m : Nat) (hm : m ≤ 255) (hk : k.length ≤ 64) (kx) : ∃ n, k.length + n ≤ 64 ∧ w01_DigestKeys.l0 (t1, (m : Int), (z, ()), k, 0, ()) kx = kx (t1, (z, ()), k ++ List.replicate n 0, ()) := by
  refine ⟨min m (64 - k.length), by omega, ?_⟩
  suffices h : w01_DigestKeys.l0 (t1, (m : Int), (z, ()), k ++ List.replicate 0 0, ((0 : Nat) : Int), ()) kx = kx (t1, (z, ()), k ++ List.replicate (min m (64 - k.length)) 0, ()) by rw [List.replicate_zero, List.append_nil] at h; exact h
  have hw : IntKind.wrap .i64 (m : Int) = (m : Int) := IntWalk.i64_in _ (by omega)
  refine traj (fun i => (t1, (m : Int), (z, ()), k ++ List.replicate i (0 : Int), (i : Int), ())) _ (min m (64 - k.length)) (fun i hi κ => ?_) (fun κ => ?_) _ (by show _ < _ + _ + _ + _ + 1048576; omega)
  · show w01_DigestKeys.s0b kx _ κ = _
    have hl : (k ++ List.replicate i (0 : Int)).length = k.length + i := by simp
    have e4 : iadd .i64 (i : Int) 1 = ((i + 1 : Nat) : Int) := by rw [iadd64 (by omega)]; omega
    simp only [w01_DigestKeys.s0b, hw, hl, e4]
    rw [cond_t (ilt_iff.2 (by omega)), cond_t (ilt_iff.2 (by omega)), chk_true (fits_iff.2 (by omega)), List.append_assoc, show [(0 : Int)] = List.replicate 1 0 from rfl, List.replicate_append_replicate]
  · show w01_DigestKeys.s0b kx _ κ = _
    have hl : (k ++ List.replicate (min m (64 - k.length)) (0 : Int)).length = k.length + min m (64 - k.length) := by simp
    simp only [w01_DigestKeys.s0b, hw, hl]
    by_cases h : m ≤ 64 - k.length
    · rw [cond_f (ilt_f.2 (by omega))]
    · rw [cond_t (ilt_iff.2 (by omega)), cond_f (ilt_f.2 (by omega))]
theorem main_DigestKeys (f10 f11 f17 l0) (h10 : f10 () = some true) (h11 : ∀ x : List Int, x.length ≤ 100000 → f11 (x, ()) = some (sha x)) (h17 : ∀ k p : List Int, k.length ≤ 100000 → p.length ≤ 100000 → f17 (k, p, ()) = some (tag k p))
    (h0 : ∀ (t1 z k : List Int) (m : Nat), m ≤ 255 → k.length ≤ 64 → ∀ kx, ∃ n, k.length + n ≤ 64 ∧ l0 (t1, (m : Int), (z, ()), k, 0, ()) kx = kx (t1, (z, ()), k ++ List.replicate n 0, ()))
    (x0 x1 : List Int) (y0 : x0.length * 1 ≤ 140737488351232) (y1 : x1.length * 1 ≤ 140737488351232) (x2 : Int) (w2 : byte x2) : w01_DigestKeys.b f10 f11 f17 l0 (x0, x1, x2, ()) = some true := by
  have e : iadd .i64 (x0.length : Int) (x1.length : Int) = ((x0.length + x1.length : Nat) : Int) := by rw [iadd64 (by omega)]; omega
  simp only [w01_DigestKeys.b, h10, Option.bind_some, Bool.not_true, cond_false, e]
  by_cases h : x0.length + x1.length ≤ 5000
  · rw [cond_f (igt_f.2 (by omega)), h17 _ _ (by omega) (by omega)]
    simp only [Option.bind_some]
    by_cases h64 : 64 < x0.length
    · rw [cond_t (igt_iff.2 (by omega)), h11 _ (by omega)]
      simp only [Option.bind_some]
      rw [h17 _ _ (by rw [sha_len]; omega) (by omega)]
      simp only [Option.bind_some]
      rw [tag_kB (kB_sha x0 h64), leq_self]
    · rw [cond_f (igt_f.2 (by omega)), chk_true (fits_iff.2 (by omega))]
      obtain ⟨w2a, w2b⟩ := w2
      obtain ⟨n, hn, hl⟩ := h0 x1 (tag x0 x1) x0 x2.toNat (by omega) (by omega) (fun x => (f17 (x.2.2.1, x.1, ())).bind fun v54 => some (leq v54 x.2.1.1))
      rw [Int.toNat_of_nonneg w2a] at hl
      refine Eq.trans hl ?_
      dsimp only
      rw [h17 _ _ (by rw [List.length_append, List.length_replicate]; omega) (by omega)]
      simp only [Option.bind_some]
      rw [tag_kB (kB_pad x0 n hn), leq_self]
  · rw [cond_t (igt_iff.2 (by omega))]
theorem _root_.Go.Px.pure_DigestKeys (x0 : List Int) (y0 : x0.length * 1 ≤ 140737488351232) (w0 : ∀ n ∈ x0, (Lit.int .u8 n).wf = true) (x1 : List Int) (y1 : x1.length * 1 ≤ 140737488351232) (w1 : ∀ n ∈ x1, (Lit.int .u8 n).wf = true) (x2 : Int) (w2 : (Lit.int .u8 x2).wf = true) : w01_DigestKeys (x0, x1, x2, ()) = some true :=
  main_DigestKeys _ _ _ _ dig_awake (fun x hx => sum_eq x (by omega)) (fun k p hk hp => tag_eq k p (by omega) (by omega)) (fun t1 z k m hm hk kx => keys_l0 t1 z k m hm hk kx) x0 x1 y0 y1 x2 (byte_wf w2)
end Go.Px.Pu
