/- The plain law of DigestFirst. -/
import Derived.Test.YtcbknapjchlogaaDoorPuDigAwake
set_option linter.unusedVariables false
set_option linter.unusedSimpArgs false
namespace Go.Px.Pu
open Go Go.Px
theorem fst_l2 (t0 t1 u o : List Int) (ho : o.length = 32) (hu : u.length = 32) (a b : Int) (kx) : w01_DigestFirst.l2 (t0, t1, a, (u, ()), (o, ()), b, 0, ()) kx = kx (t0, t1, a, (u, ()), (xL o u, ()), b, ()) := by
  suffices h : w01_DigestFirst.l2 (t0, t1, a, (u, ()), (xP o u 0, ()), b, ((0 : Nat) : Int), ()) kx = kx (t0, t1, a, (u, ()), (xL o u, ()), b, ()) by rw [xP_zero] at h; exact h
  refine traj (fun i => (t0, t1, a, (u, ()), (xP o u i, ()), b, (i : Int), ())) _ 32 (fun i hi κ => ?_) (fun κ => ?_) _ (by show 32 < _ + _ + _ + _ + _ + 1048576; omega)
  · show w01_DigestFirst.s2b kx _ κ = _
    have e4 : iadd .i64 (i : Int) 1 = ((i + 1 : Nat) : Int) := by rw [iadd64 (by omega)]; omega
    simp only [w01_DigestFirst.s2b, e4, Int.toNat_natCast]
    rw [cond_t (ilt_iff.2 (by omega)), chk_true (inB_iff.2 (by omega)), chk_true (inB_iff.2 (by omega)), chk_true (inB_iff.2 (by omega)), xP_step o u ho hu i hi]
  · show w01_DigestFirst.s2b kx _ κ = _
    simp only [w01_DigestFirst.s2b]
    rw [cond_f (ilt_f.2 (by omega)), xP_end o u ho hu]
theorem fst_l0 (f17 f19) (l2) (pass salt : List Int) (r : Nat) (hr : r ≤ 255) (h17 : ∀ u : List Int, u.length = 32 → f17 (pass, u, ()) = some (tag pass u))
    (h19 : ∀ n : Int, f19 (pass, salt, n, ()) = if 1 ≤ n ∧ n ≤ 64 then some (stretch pass salt n.toNat, 0, ()) else some (List.replicate 32 0, 1, ()))
    (h2 : ∀ t0 t1 u o : List Int, o.length = 32 → u.length = 32 → ∀ (a b : Int) kx, l2 (t0, t1, a, (u, ()), (o, ()), b, 0, ()) kx = kx (t0, t1, a, (u, ()), (xL o u, ()), b, ())) (kx) (m : Nat) (hm : 9 < m) :
    loopN m (w01_DigestFirst.s0b f17 f19 l2 kx) (pass, salt, (r : Int), (first1 pass salt, ()), (first1 pass salt, ()), 1, ()) = kx () := by
  have hw : IntKind.wrap .i64 (r : Int) = (r : Int) := IntWalk.i64_in _ (by omega)
  have hq := irem64 r 8
  simp only [show ((8 : Nat) : Int) = 8 from rfl] at hq
  have e1 : iadd .i64 1 ((r % 8 : Nat) : Int) = ((1 + r % 8 : Nat) : Int) := by rw [iadd64 (by omega)]; omega
  refine traj (fun i => (pass, salt, (r : Int), ((sIt pass (first1 pass salt) i).1, ()), ((sIt pass (first1 pass salt) i).2, ()), ((i + 1 : Nat) : Int), ())) _ (1 + r % 8) (fun i hi κ => ?_) (fun κ => ?_) m (by omega)
  · obtain ⟨g1, g2⟩ := sIt_len pass (first1 pass salt) (tag_len _ _) i
    have e4 : iadd .i64 ((i + 1 : Nat) : Int) 1 = ((i + 1 + 1 : Nat) : Int) := by rw [iadd64 (by omega)]; omega
    simp only [w01_DigestFirst.s0b, hw, hq, e1]
    rw [cond_t (ile_iff.2 (by omega)), h19, if_pos (by omega)]
    simp only [Option.bind_some]
    rw [cond_f (ine_f.2 rfl)]
    have hs : stretch pass salt (((i + 1 : Nat) : Int)).toNat = (sIt pass (first1 pass salt) i).2 := rfl
    rw [hs, cond_f (by rw [leq_self]; rfl), h17 _ g1]
    simp only [Option.bind_some]
    rw [h2 _ _ _ _ g2 (tag_len _ _)]
    dsimp only
    rw [e4]; rfl
  · simp only [w01_DigestFirst.s0b, hw, hq, e1]
    rw [cond_f (ile_f.2 (by omega))]
theorem main_DigestFirst (f10 f17 l0) (h10 : f10 () = some true) (h17 : ∀ k p : List Int, k.length ≤ 100000 → p.length ≤ 100000 → f17 (k, p, ()) = some (tag k p))
    (h0 : ∀ (pass salt : List Int) (r : Nat), pass.length ≤ 2000 → salt.length ≤ 2000 → r ≤ 255 → ∀ kx, l0 (pass, salt, (r : Int), (first1 pass salt, ()), (first1 pass salt, ()), 1, ()) kx = kx ())
    (x0 x1 : List Int) (y0 : x0.length * 1 ≤ 140737488351232) (y1 : x1.length * 1 ≤ 140737488351232) (x2 : Int) (w2 : byte x2) : w01_DigestFirst.b f10 f17 l0 (x0, x1, x2, ()) = some true := by
  have e : iadd .i64 (x0.length : Int) (x1.length : Int) = ((x0.length + x1.length : Nat) : Int) := by rw [iadd64 (by omega)]; omega
  simp only [w01_DigestFirst.b, h10, Option.bind_some, Bool.not_true, cond_false, e]
  by_cases h : x0.length + x1.length ≤ 2000
  · rw [cond_f (igt_f.2 (by omega)), chk_true (fits_iff.2 (by omega)), chk_true (fits_iff.2 (by omega)), h17 _ _ (by omega) (by rw [List.length_append]; simp; omega)]
    simp only [Option.bind_some]
    obtain ⟨w2a, w2b⟩ := w2
    have := h0 x0 x1 x2.toNat (by omega) (by omega) (by omega) (fun _ => some true)
    rw [Int.toNat_of_nonneg w2a] at this
    exact this
  · rw [cond_t (igt_iff.2 (by omega))]
theorem _root_.Go.Px.pure_DigestFirst (x0 : List Int) (y0 : x0.length * 1 ≤ 140737488351232) (w0 : ∀ n ∈ x0, (Lit.int .u8 n).wf = true) (x1 : List Int) (y1 : x1.length * 1 ≤ 140737488351232) (w1 : ∀ n ∈ x1, (Lit.int .u8 n).wf = true) (x2 : Int) (w2 : (Lit.int .u8 x2).wf = true) : w01_DigestFirst (x0, x1, x2, ()) = some true :=
  main_DigestFirst _ _ _ dig_awake (fun k p hk hp => tag_eq k p (by omega) (by omega)) (fun pass salt r hp hs hr kx => by
    have := fst_l0 digest_Tag digest_Stretch w01_DigestFirst.l2 pass salt r hr (fun u hu => tag_eq pass u (by omega) (by omega)) (fun n => stretch_eq pass salt (by omega) (by omega) n) (fun t0 t1 u o ho hu a b kx => fst_l2 t0 t1 u o ho hu a b kx) kx
      (w01_DigestFirst.n0 (pass, salt, (r : Int), (first1 pass salt, ()), (first1 pass salt, ()), 1, ())) (by show 9 < _ + _ + _ + _ + 1048576; omega)
    unfold w01_DigestFirst.l0 w01_DigestFirst.s0
    exact this) x0 x1 y0 y1 x2 (byte_wf w2)
end Go.Px.Pu
