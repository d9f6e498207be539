/- Stretched passwords. -/
import Derived.Test.YtcbknapjchlogaaDoorPuShaV
set_option linter.unusedVariables false
set_option linter.unusedSimpArgs false
namespace Go.Px.Pu
open Go Go.Px

def xL (o u : List Int) : List Int := List.zipWith (ixor .u8) o u
def xP (o u : List Int) (i : Nat) : List Int := (xL o u).take i ++ o.drop i
theorem xL_len (o u : List Int) (ho : o.length = 32) (hu : u.length = 32) : (xL o u).length = 32 := by simp [xL, ho, hu]
theorem xP_step (o u : List Int) (ho : o.length = 32) (hu : u.length = 32) (i : Nat) (hi : i < 32) : (xP o u i).set i (ixor .u8 ((xP o u i).getD i 0) (u.getD i 0)) = xP o u (i + 1) := by
  have hl := xL_len o u ho hu
  have hA : ((xL o u).take i).length = i := by rw [List.length_take]; omega
  have hd : o.drop i = o[i]'(by omega) :: o.drop (i + 1) := List.drop_eq_getElem_cons (by omega)
  have ht : (xL o u).take (i + 1) = (xL o u).take i ++ [ixor .u8 (o[i]'(by omega)) (u[i]'(by omega))] := by
    rw [List.take_succ_eq_append_getElem (by omega)]
    congr 2
    simp [xL]
  unfold xP
  rw [ht, hd, List.set_append_right _ _ (by omega), List.getD_eq_getElem?_getD, List.getElem?_append_right (by omega), hA, Nat.sub_self, List.append_assoc, List.getD_eq_getElem?_getD, List.getElem?_eq_getElem (show i < u.length by omega)]
  rfl
theorem xP_zero (o u : List Int) : xP o u 0 = o := by simp [xP]
theorem xP_end (o u : List Int) (ho : o.length = 32) (hu : u.length = 32) : xP o u 32 = xL o u := by
  unfold xP
  rw [List.take_of_length_le (by rw [xL_len o u ho hu]; omega), List.drop_of_length_le (by omega), List.append_nil]
def sIt (key u0 : List Int) : Nat → List Int × List Int
  | 0 => (u0, u0)
  | n + 1 => (tag key (sIt key u0 n).1, xL (sIt key u0 n).2 (tag key (sIt key u0 n).1))
theorem sIt_len (key u0 : List Int) (h : u0.length = 32) : ∀ n, (sIt key u0 n).1.length = 32 ∧ (sIt key u0 n).2.length = 32
  | 0 => ⟨h, h⟩
  | n + 1 => ⟨tag_len _ _, xL_len _ _ (sIt_len key u0 h n).2 (tag_len _ _)⟩
theorem sIt_byte (key u0 : List Int) (h : ∀ n ∈ u0, byte n) : ∀ n, ∀ x ∈ (sIt key u0 n).1, byte x
  | 0 => h
  | n + 1 => tag_byte _ _
def first1 (pass salt : List Int) : List Int := tag pass (salt ++ [0, 0, 0, 1])
def stretch (pass salt : List Int) (n : Nat) : List Int := (sIt pass (first1 pass salt) (n - 1)).2
theorem str_l2 (t0 z u o : List Int) (ho : o.length = 32) (hu : u.length = 32) (a b : Int) (kx) : digest_Stretch.l2 (t0, (z, ()), (u, ()), (o, ()), a, b, 0, ()) kx = kx (t0, (z, ()), (u, ()), (xL o u, ()), a, b, ()) := by
  suffices h : digest_Stretch.l2 (t0, (z, ()), (u, ()), (xP o u 0, ()), a, b, ((0 : Nat) : Int), ()) kx = kx (t0, (z, ()), (u, ()), (xL o u, ()), a, b, ()) by rw [xP_zero] at h; exact h
  refine traj (fun i => (t0, (z, ()), (u, ()), (xP o u i, ()), a, b, (i : Int), ())) _ 32 (fun i hi κ => ?_) (fun κ => ?_) _ (by show 32 < _ + _ + _ + _ + 1048576; omega)
  · show digest_Stretch.s2b kx _ κ = _
    have e4 : iadd .i64 (i : Int) 1 = ((i + 1 : Nat) : Int) := by rw [iadd64 (by omega)]; omega
    simp only [digest_Stretch.s2b, e4, Int.toNat_natCast]
    rw [cond_t (ilt_iff.2 (by omega)), chk_true (inB_iff.2 (by omega)), chk_true (inB_iff.2 (by omega)), chk_true (inB_iff.2 (by omega)), xP_step o u ho hu i hi]
  · show digest_Stretch.s2b kx _ κ = _
    simp only [digest_Stretch.s2b]
    rw [cond_f (ilt_f.2 (by omega)), xP_end o u ho hu]
theorem str_l0 (f) (pass : List Int) (hf : ∀ u : List Int, u.length = 32 → f (pass, u, ()) = some (tag pass u)) (l2)
    (h2 : ∀ t0 z u o : List Int, o.length = 32 → u.length = 32 → ∀ (a b : Int) kx, l2 (t0, (z, ()), (u, ()), (o, ()), a, b, 0, ()) kx = kx (t0, (z, ()), (u, ()), (xL o u, ()), a, b, ()))
    (z u0 : List Int) (hu0 : u0.length = 32) (n : Nat) (hn : n ≤ 64) (kx) (m : Nat) (hm : n < m) : loopN m (digest_Stretch.s0b f l2 kx) (pass, (z, ()), (u0, ()), (u0, ()), (n : Int), 0, ()) = kx ((z, ()), ((sIt pass u0 n).2, ()), ()) := by
  refine traj (fun i => (pass, (z, ()), ((sIt pass u0 i).1, ()), ((sIt pass u0 i).2, ()), (n : Int), (i : Int), ())) _ n (fun i hi κ => ?_) (fun κ => ?_) m hm
  · have e4 : iadd .i64 (i : Int) 1 = ((i + 1 : Nat) : Int) := by rw [iadd64 (by omega)]; omega
    obtain ⟨g1, g2⟩ := sIt_len pass u0 hu0 i
    simp only [digest_Stretch.s0b]
    rw [cond_t (ilt_iff.2 (by omega)), hf _ g1]
    simp only [Option.bind_some]
    rw [h2 _ _ _ _ g2 (tag_len _ _)]
    dsimp only
    rw [e4]; rfl
  · simp only [digest_Stretch.s0b]
    rw [cond_f (ilt_f.2 (by omega))]
theorem str_main (f) (l0) (pass salt : List Int) (hs : salt.length ≤ 800000) (hf : ∀ u : List Int, u.length ≤ 900000 → f (pass, u, ()) = some (tag pass u))
    (h0 : ∀ (z u0 : List Int), u0.length = 32 → ∀ n : Nat, n ≤ 64 → ∀ kx, l0 (pass, (z, ()), (u0, ()), (u0, ()), (n : Int), 0, ()) kx = kx ((z, ()), ((sIt pass u0 n).2, ()), ())) (n : Int) :
    digest_Stretch.b f l0 (pass, salt, n, ()) = if 1 ≤ n ∧ n ≤ 64 then some (stretch pass salt n.toNat, 0, ()) else some (List.replicate 32 0, 1, ()) := by
  simp only [digest_Stretch.b]
  by_cases h1 : n < 1
  · rw [cond_t (ilt_iff.2 h1), if_neg (by omega)]
  · rw [cond_f (ilt_f.2 (by omega))]
    by_cases h2 : 64 < n
    · rw [cond_t (igt_iff.2 h2), if_neg (by omega)]
    · rw [cond_f (igt_f.2 (by omega)), if_pos (by omega), chk_true (fits_iff.2 (by omega)), chk_true (fits_iff.2 (by omega)), hf _ (by rw [List.length_append]; simp; omega)]
      simp only [Option.bind_some]
      have e : isub .i64 n 1 = ((n.toNat - 1 : Nat) : Int) := by rw [isub64 (by omega)]; omega
      rw [e, h0 _ _ (tag_len _ _) _ (by omega)]
      rfl
theorem stretch_eq (pass salt : List Int) (hp : pass.length ≤ 800000) (hs : salt.length ≤ 800000) (n : Int) : digest_Stretch (pass, salt, n, ()) = if 1 ≤ n ∧ n ≤ 64 then some (stretch pass salt n.toNat, 0, ()) else some (List.replicate 32 0, 1, ()) :=
  str_main _ _ pass salt hs (fun u hu => tag_eq pass u (by omega) hu) (fun z u0 hu0 n hn kx => by
    have := str_l0 digest_Tag pass (fun u hu => tag_eq pass u (by omega) (by omega)) digest_Stretch.l2 (fun t0 z u o ho hu a b kx => str_l2 t0 z u o ho hu a b kx) z u0 hu0 n hn kx (digest_Stretch.n0 (pass, (z, ()), (u0, ()), (u0, ()), (n : Int), 0, ())) (by show n < _ + _ + _ + 1048576; omega)
    unfold digest_Stretch.l0 digest_Stretch.s0
    exact this) n
/-! ### the reference's -/
theorem rstr_l2 (t1 H K z u o : List Int) (ho : o.length = 32) (hu : u.length = 32) (a b : Int) (kx) : r01_Stretch.l2 (t1, a, (H, K, ()), (z, ()), (u, ()), (o, ()), b, 0, ()) kx = kx (t1, a, (H, K, ()), (z, ()), (u, ()), (xL o u, ()), b, ()) := by
  suffices h : r01_Stretch.l2 (t1, a, (H, K, ()), (z, ()), (u, ()), (xP o u 0, ()), b, ((0 : Nat) : Int), ()) kx = kx (t1, a, (H, K, ()), (z, ()), (u, ()), (xL o u, ()), b, ()) by rw [xP_zero] at h; exact h
  refine traj (fun i => (t1, a, (H, K, ()), (z, ()), (u, ()), (xP o u i, ()), b, (i : Int), ())) _ 32 (fun i hi κ => ?_) (fun κ => ?_) _ (by show 32 < _ + _ + _ + _ + 1048576; omega)
  · show r01_Stretch.s2b kx _ κ = _
    have e4 : iadd .i64 (i : Int) 1 = ((i + 1 : Nat) : Int) := by rw [iadd64 (by omega)]; omega
    simp only [r01_Stretch.s2b, e4, Int.toNat_natCast]
    rw [cond_t (ilt_iff.2 (by omega)), chk_true (inB_iff.2 (by omega)), chk_true (inB_iff.2 (by omega)), chk_true (inB_iff.2 (by omega)), xP_step o u ho hu i hi]
  · show r01_Stretch.s2b kx _ κ = _
    simp only [r01_Stretch.s2b]
    rw [cond_f (ilt_f.2 (by omega)), xP_end o u ho hu]
theorem rstr_l0 (f) (H K pass : List Int) (hf : ∀ u : List Int, u.length = 32 → (∀ n ∈ u, byte n) → f ((H, K, ()), pass, u, ()) = some (tag pass u)) (l2)
    (h2 : ∀ t1 H K z u o : List Int, o.length = 32 → u.length = 32 → ∀ (a b : Int) kx, l2 (t1, a, (H, K, ()), (z, ()), (u, ()), (o, ()), b, 0, ()) kx = kx (t1, a, (H, K, ()), (z, ()), (u, ()), (xL o u, ()), b, ()))
    (z u0 : List Int) (hu0 : u0.length = 32) (hb : ∀ n ∈ u0, byte n) (n : Nat) (hn : n ≤ 64) (kx) (m : Nat) (hm : n < m) : loopN m (r01_Stretch.s0b f l2 kx) (pass, ((n + 1 : Nat) : Int), (H, K, ()), (z, ()), (u0, ()), (u0, ()), 1, ()) = kx ((z, ()), ((sIt pass u0 n).2, ()), ()) := by
  refine traj (fun i => (pass, ((n + 1 : Nat) : Int), (H, K, ()), (z, ()), ((sIt pass u0 i).1, ()), ((sIt pass u0 i).2, ()), ((i + 1 : Nat) : Int), ())) _ n (fun i hi κ => ?_) (fun κ => ?_) m hm
  · have e4 : iadd .i64 ((i + 1 : Nat) : Int) 1 = ((i + 1 + 1 : Nat) : Int) := by rw [iadd64 (by omega)]; omega
    obtain ⟨g1, g2⟩ := sIt_len pass u0 hu0 i
    simp only [r01_Stretch.s0b]
    rw [cond_t (ilt_iff.2 (by omega)), hf _ g1 (sIt_byte pass u0 hb i)]
    simp only [Option.bind_some]
    rw [h2 _ _ _ _ _ _ g2 (tag_len _ _)]
    dsimp only
    rw [e4]; rfl
  · simp only [r01_Stretch.s0b]
    rw [cond_f (ilt_f.2 (by omega))]
theorem rstr_main (f) (l0) (H K pass salt : List Int) (hs : salt.length ≤ 800000) (bs : ∀ n ∈ salt, byte n) (hf : ∀ u : List Int, u.length ≤ 900000 → (∀ n ∈ u, byte n) → f ((H, K, ()), pass, u, ()) = some (tag pass u))
    (h0 : ∀ (z u0 : List Int), u0.length = 32 → (∀ n ∈ u0, byte n) → ∀ n : Nat, n ≤ 64 → ∀ kx, l0 (pass, ((n + 1 : Nat) : Int), (H, K, ()), (z, ()), (u0, ()), (u0, ()), 1, ()) kx = kx ((z, ()), ((sIt pass u0 n).2, ()), ())) (n : Int) (h1 : 1 ≤ n) (h2 : n ≤ 64) :
    r01_Stretch.b f l0 ((H, K, ()), pass, salt, n, ()) = some (stretch pass salt n.toNat) := by
  have hb : ∀ x ∈ salt ++ [0, 0, 0, 1], byte x := fun x hx => by
    rcases List.mem_append.1 hx with hx | hx
    · exact bs x hx
    · simp only [List.mem_cons, List.not_mem_nil, or_false] at hx
      unfold byte
      rcases hx with rfl | rfl | rfl | rfl <;> omega
  simp only [r01_Stretch.b]
  rw [chk_true (fits_iff.2 (by omega)), chk_true (fits_iff.2 (by omega)), hf _ (by rw [List.length_append]; simp; omega) hb]
  simp only [Option.bind_some]
  have e : n = ((n.toNat - 1 + 1 : Nat) : Int) := by omega
  rw [show (pass, n, (H, K, ()), (List.replicate 32 (0 : Int), ()), (tag pass (salt ++ [0, 0, 0, 1]), ()), (tag pass (salt ++ [0, 0, 0, 1]), ()), (1 : Int), ()) = (pass, ((n.toNat - 1 + 1 : Nat) : Int), (H, K, ()), (List.replicate 32 (0 : Int), ()), (tag pass (salt ++ [0, 0, 0, 1]), ()), (tag pass (salt ++ [0, 0, 0, 1]), ()), (1 : Int), ()) by rw [← e]]
  rw [h0 _ _ (tag_len _ _) (tag_byte _ _) _ (by omega)]
  rfl
theorem rstretch_eq (pass salt : List Int) (hp : pass.length ≤ 800000) (hs : salt.length ≤ 800000) (bp : ∀ n ∈ pass, byte n) (bs : ∀ n ∈ salt, byte n) (n : Int) (h1 : 1 ≤ n) (h2 : n ≤ 64) :
    r01_Stretch ((gv_dfirst, gv_dparts, ()), pass, salt, n, ()) = some (stretch pass salt n.toNat) :=
  rstr_main _ _ _ _ pass salt hs bs (fun u hu hb => rtag_eq pass u (by omega) hu bp hb) (fun z u0 hu0 hb n hn kx => by
    have := rstr_l0 r01_Tag gv_dfirst gv_dparts pass (fun u hu hb => rtag_eq pass u (by omega) (by omega) bp hb) r01_Stretch.l2 (fun t1 H K z u o ho hu a b kx => rstr_l2 t1 H K z u o ho hu a b kx) z u0 hu0 hb n hn kx (r01_Stretch.n0 (pass, ((n + 1 : Nat) : Int), (gv_dfirst, gv_dparts, ()), (z, ()), (u0, ()), (u0, ()), 1, ())) (by show n < _ + _ + _ + 1048576; omega)
    unfold r01_Stretch.l0 r01_Stretch.s0
    exact this) n h1 h2
end Go.Px.Pu
