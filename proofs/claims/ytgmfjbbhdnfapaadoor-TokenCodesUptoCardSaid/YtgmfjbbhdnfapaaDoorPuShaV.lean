/- The tables; tags; stretched passwords. -/
import Derived.Test.YtgmfjbbhdnfapaaDoorPuShaT
set_option linter.unusedVariables false
set_option linter.unusedSimpArgs false
namespace Go.Px.Pu
open Go Go.Px

theorem set_grow2 (l : List Int) (n i : Nat) (x : Int) (h : i < n) (hl : n = l.length) (hx : l.getD i 0 = x) : (l.take i ++ List.replicate (n - i) (0 : Int)).set i x = l.take (i + 1) ++ List.replicate (n - (i + 1)) 0 := by
  subst hl
  rw [show l.length - i = (l.length - (i + 1)) + 1 by omega, set_grow _ _ _ _ _ (by rw [List.length_take]; omega), List.take_succ_eq_append_getElem h]
  rw [← hx, List.getD_eq_getElem?_getD, List.getElem?_eq_getElem h]; rfl
theorem make_l0 (z1 z2 : List Int) (kx) : r01_Make.l0 ((z1, z2, ()), (List.replicate 8 (0 : Int), List.replicate 64 (0 : Int), ()), 1, 0, ()) kx = kx ((z1, z2, ()), (gv_dfirst, gv_dparts, ()), ()) := by
  have e1 : List.replicate 8 (0 : Int) = gv_dfirst.take 0 ++ List.replicate (8 - 0) 0 := rfl
  have e2 : List.replicate 64 (0 : Int) = gv_dparts.take 0 ++ List.replicate (64 - 0) 0 := by simp
  rw [e1, e2]
  refine traj (fun i => ((z1, z2, ()), (gv_dfirst.take i ++ List.replicate (8 - i) (0 : Int), gv_dparts.take i ++ List.replicate (64 - i) (0 : Int), ()), ((prs.getD i 0 : Nat) : Int), (i : Int), ())) _ 64 (fun i hi κ => ?_) (fun κ => ?_) _ (by show 64 < _ + _ + 1048576; omega)
  · show r01_Make.s0b r01_prime r01_root kx _ κ = _
    have hp := prs_next ⟨i, hi⟩
    have hlt : prs.getD (i + 1) 0 < 400 := prs_lt ⟨i + 1, by omega⟩
    have h3 := root_eq _ hlt 3 (.inr rfl)
    have r3 := root3_ok ⟨i, hi⟩
    have e4 : iadd .i64 (i : Int) 1 = ((i + 1 : Nat) : Int) := by rw [iadd64 (by omega)]; omega
    have h3 : r01_root (((prs.getD (i + 1) 0 : Nat) : Int), 3, ()) = some (gv_dparts.getD i 0) := by rw [← r3]; exact h3
    simp only [r01_Make.s0b, e4, Int.toNat_natCast]
    rw [cond_t (ilt_iff.2 (by omega)), hp]
    simp only [Option.bind_some]
    have s3 := set_grow2 gv_dparts 64 i _ hi rfl rfl
    by_cases h8 : i < 8
    · have h2 := root_eq _ hlt 2 (.inl rfl)
      have r2 := root2_ok ⟨i, h8⟩
      have h2 : r01_root (((prs.getD (i + 1) 0 : Nat) : Int), 2, ()) = some (gv_dfirst.getD i 0) := by rw [← r2]; exact h2
      have s2 := set_grow2 gv_dfirst 8 i _ h8 rfl rfl
      rw [cond_t (ilt_iff.2 (by omega)), h2]
      simp only [Option.bind_some]
      rw [chk_true (inB_iff.2 (by omega)), h3]
      simp only [Option.bind_some]
      rw [chk_true (inB_iff.2 (by omega)), s2, s3]
    · rw [cond_f (ilt_f.2 (by omega)), h3]
      simp only [Option.bind_some]
      rw [chk_true (inB_iff.2 (by omega)), s3]
      have f1 : gv_dfirst.take i = gv_dfirst.take (i + 1) := by rw [List.take_of_length_le (by show 8 ≤ i; omega), List.take_of_length_le (by show 8 ≤ i + 1; omega)]
      rw [f1, show 8 - i = 8 - (i + 1) by omega]
  · show r01_Make.s0b r01_prime r01_root kx _ κ = _
    simp only [r01_Make.s0b]
    rw [cond_f (ilt_f.2 (by omega)), List.take_of_length_le (by show 8 ≤ 64; omega), List.take_of_length_le (by show 64 ≤ 64; omega)]
    simp
theorem make_eq : r01_Make () = some (gv_dfirst, gv_dparts, ()) := by
  have h := make_l0
  show r01_Make.b r01_Make.l0 () = _
  generalize r01_Make.l0 = l0 at h
  simp only [r01_Make.b]
  rw [h]

/-! ### tags -/
theorem sha_len (x : List Int) : (sha x).length = 32 := by
  unfold sha
  obtain ⟨a, b, c, d, e, f, g, h⟩ := blocksW ((padded x).length / 64) iv (padded x)
  rfl
theorem outB_byte (w : W) : ∀ n ∈ outB w, byte n := fun n hn => by
  simp only [outB, List.map_cons, List.map_nil, List.mem_cons, List.not_mem_nil, or_false] at hn
  unfold byte
  rcases hn with rfl | rfl | rfl | rfl <;> omega
theorem sha_byte (x : List Int) : ∀ n ∈ sha x, byte n := fun n hn => by
  obtain ⟨w, _, hw⟩ := List.mem_flatMap.1 hn
  exact outB_byte w n hw
theorem xor_byte (a b : Int) : byte (ixor .u8 a b) := by
  unfold ixor
  rw [wrapU (k := .u8) rfl]
  show 0 ≤ _ % (256 : Int) ∧ _ % (256 : Int) ≤ 255
  omega
def kB (key : List Int) : List Int := (if 64 < key.length then sha key else key) ++ List.replicate (64 - (if 64 < key.length then sha key else key).length) 0
theorem kB_len (key : List Int) : (kB key).length = 64 := by
  unfold kB
  split
  · rw [List.length_append, List.length_replicate, sha_len]
  · rw [List.length_append, List.length_replicate]; omega
theorem kB_byte (key : List Int) (h : ∀ n ∈ key, byte n) : ∀ n ∈ kB key, byte n := fun n hn => by
  unfold kB at hn
  rcases List.mem_append.1 hn with hn | hn
  · split at hn
    · exact sha_byte _ n hn
    · exact h n hn
  · rw [List.eq_of_mem_replicate hn]; exact ⟨by omega, by omega⟩
def x54 (l : List Int) : List Int := l.map fun a => ixor .u8 a 54
def x92 (l : List Int) : List Int := l.map fun a => ixor .u8 a 92
def tag (key p : List Int) : List Int := sha (x92 (kB key) ++ sha (x54 (kB key) ++ p))
theorem x54_byte (l : List Int) : ∀ n ∈ x54 l, byte n := fun n hn => by
  obtain ⟨a, _, rfl⟩ := List.mem_map.1 hn; exact xor_byte _ _
theorem x92_byte (l : List Int) : ∀ n ∈ x92 l, byte n := fun n hn => by
  obtain ⟨a, _, rfl⟩ := List.mem_map.1 hn; exact xor_byte _ _
theorem x54_len (l : List Int) : (x54 l).length = l.length := by simp [x54]
theorem x92_len (l : List Int) : (x92 l).length = l.length := by simp [x92]
theorem tag_len (key p : List Int) : (tag key p).length = 32 := sha_len _
theorem tag_byte (key p : List Int) : ∀ n ∈ tag key p, byte n := sha_byte _
theorem x54_snoc (l : List Int) (a : Int) : x54 (l ++ [a]) = x54 l ++ [ixor .u8 a 54] := by simp [x54]
theorem x92_snoc (l : List Int) (a : Int) : x92 (l ++ [a]) = x92 l ++ [ixor .u8 a 92] := by simp [x92]
theorem tag_l0 (p z k : List Int) (hk : k.length = 64) (kx) : digest_Tag.l0 (p, (z, ()), (k, ()), (k, ()), 0, ()) kx = kx (p, (z, ()), (x54 k, ()), (x92 k, ()), ()) := by
  have e1 : k = x54 (k.take 0) ++ k.drop 0 := by simp [x54]
  have e2 : k = x92 (k.take 0) ++ k.drop 0 := by simp [x92]
  suffices h : digest_Tag.l0 (p, (z, ()), (x54 (k.take 0) ++ k.drop 0, ()), (x92 (k.take 0) ++ k.drop 0, ()), ((0 : Nat) : Int), ()) kx = kx (p, (z, ()), (x54 k, ()), (x92 k, ()), ()) by rw [← e1, ← e2] at h; exact h
  refine traj (fun i => (p, (z, ()), (x54 (k.take i) ++ k.drop i, ()), (x92 (k.take i) ++ k.drop i, ()), (i : Int), ())) _ 64 (fun i hi κ => ?_) (fun κ => ?_) _ (by show 64 < _ + _ + 1048576; omega)
  · show digest_Tag.s0b kx _ κ = _
    have e4 : iadd .i64 (i : Int) 1 = ((i + 1 : Nat) : Int) := by rw [iadd64 (by omega)]; omega
    simp only [digest_Tag.s0b, e4, Int.toNat_natCast]
    rw [cond_t (ilt_iff.2 (by omega)), chk_true (inB_iff.2 (by omega)), chk_true (inB_iff.2 (by omega)), chk_true (inB_iff.2 (by omega)), chk_true (inB_iff.2 (by omega))]
    have hd : k.drop i = k[i]'(by omega) :: k.drop (i + 1) := List.drop_eq_getElem_cons (by omega)
    have ht : k.take (i + 1) = k.take i ++ [k[i]'(by omega)] := List.take_succ_eq_append_getElem (by omega)
    have g54 : (x54 (k.take i)).length = i := by rw [x54_len, List.length_take]; omega
    have g92 : (x92 (k.take i)).length = i := by rw [x92_len, List.length_take]; omega
    have key : ∀ (A : List Int) (f : Int → Int), A.length = i → (A ++ k.drop i).set i (f ((A ++ k.drop i).getD i 0)) = (A ++ [f (k[i]'(by omega))]) ++ k.drop (i + 1) := fun A f hA => by
      rw [hd, List.set_append_right _ _ (by omega), List.getD_eq_getElem?_getD, List.getElem?_append_right (by omega), hA, Nat.sub_self, List.append_assoc]
      rfl
    rw [key _ (fun a => ixor .u8 a 54) g54, key _ (fun a => ixor .u8 a 92) g92, ht, x54_snoc, x92_snoc]
  · show digest_Tag.s0b kx _ κ = _
    simp only [digest_Tag.s0b]
    rw [cond_f (ilt_f.2 (by omega)), List.take_of_length_le (by omega), List.drop_of_length_le (by omega)]
    simp
theorem copied_zero (v : List Int) (h : v.length ≤ 64) : copied (List.replicate 64 (0 : Int)) 0 (min v.length 64) v = v ++ List.replicate (64 - v.length) 0 := by
  unfold copied
  rw [Nat.min_eq_left h, List.take_zero, List.take_of_length_le (Nat.le_refl _), List.nil_append, Nat.zero_add, List.drop_replicate]
theorem tag_main (l0) (h0 : ∀ p z k : List Int, k.length = 64 → ∀ kx, l0 (p, (z, ()), (k, ()), (k, ()), 0, ()) kx = kx (p, (z, ()), (x54 k, ()), (x92 k, ()), ()))
    (f) (hf : ∀ x : List Int, x.length ≤ 1000000 → f (x, ()) = some (sha x)) (key p : List Int) (hk : key.length ≤ 900000) (hp : p.length ≤ 900000) : digest_Tag.b f l0 (key, p, ()) = some (tag key p) := by
  have fin : ∀ k : List Int, k.length = 64 → (cond (decide (p.length = 0)) (
    (f ((x54 k, ()).1, ())).bind fun v37 =>
    cond (decide (v37.length = 0)) (
    (f ((x92 k, ()).1, ())).bind fun v41 =>
    some v41) (
    chk (fits 1 (((x92 k, ()).1.drop 0).length + v37.length)) <|
    (f ((((x92 k, ()).1.drop 0) ++ v37), ())).bind fun v41 =>
    some v41)) (
    chk (fits 1 (((x54 k, ()).1.drop 0).length + p.length)) <|
    (f ((((x54 k, ()).1.drop 0) ++ p), ())).bind fun v37 =>
    cond (decide (v37.length = 0)) (
    (f ((x92 k, ()).1, ())).bind fun v41 =>
    some v41) (
    chk (fits 1 (((x92 k, ()).1.drop 0).length + v37.length)) <|
    (f ((((x92 k, ()).1.drop 0) ++ v37), ())).bind fun v41 =>
    some v41)) : Option (List Int)) = some (sha (x92 k ++ sha (x54 k ++ p))) := fun k hk64 => by
    have l54 := x54_len k
    have l92 := x92_len k
    dsimp only
    simp only [List.drop_zero]
    by_cases h : p.length = 0
    · have hp0 : p = [] := List.eq_nil_of_length_eq_zero h
      subst hp0
      rw [cond_t (by simp), hf _ (by omega)]
      simp only [Option.bind_some]
      rw [cond_f (by simp [sha_len]), chk_true (fits_iff.2 (by rw [sha_len]; omega)), hf _ (by rw [List.length_append, sha_len]; omega)]
      simp
    · rw [cond_f (by simp; intro e; exact h (by simp [e])), chk_true (fits_iff.2 (by omega)), hf _ (by rw [List.length_append]; omega)]
      simp only [Option.bind_some]
      rw [cond_f (by simp [sha_len]), chk_true (fits_iff.2 (by rw [sha_len]; omega)), hf _ (by rw [List.length_append, sha_len]; omega)]
      simp
  simp only [digest_Tag.b]
  by_cases h64 : 64 < key.length
  · have hkb : kB key = copied (List.replicate 64 (0 : Int)) 0 (min (sha key).length 64) (sha key) := by
      rw [copied_zero _ (by rw [sha_len]; omega)]; unfold kB; rw [if_pos h64]
    rw [cond_t (igt_iff.2 (by omega)), hf _ (by omega)]
    simp only [Option.bind_some]
    rw [← hkb, h0 _ _ _ (kB_len key)]
    exact fin _ (kB_len key)
  · have hkb : kB key = copied (List.replicate 64 (0 : Int)) 0 (min key.length 64) key := by
      rw [copied_zero _ (by omega)]; unfold kB; rw [if_neg h64]
    rw [cond_f (igt_f.2 (by omega)), ← hkb, h0 _ _ _ (kB_len key)]
    exact fin _ (kB_len key)
theorem tag_eq (key p : List Int) (hk : key.length ≤ 900000) (hp : p.length ≤ 900000) : digest_Tag (key, p, ()) = some (tag key p) :=
  tag_main _ (fun p z k hk kx => tag_l0 p z k hk kx) _ (fun x hx => sum_eq x hx) key p hk hp
/-! ### the reference's -/
theorem rtag_l0 (p z H K k : List Int) (hk : k.length ≤ 64) (kx) : r01_Tag.l0 (p, (H, K, ()), (z, ()), k, ()) kx = kx (p, (H, K, ()), (z, ()), k ++ List.replicate (64 - k.length) 0, ()) := by
  suffices h : r01_Tag.l0 (p, (H, K, ()), (z, ()), k ++ List.replicate 0 0, ()) kx = kx (p, (H, K, ()), (z, ()), k ++ List.replicate (64 - k.length) 0, ()) by rw [List.replicate_zero, List.append_nil] at h; exact h
  refine traj (fun i => (p, (H, K, ()), (z, ()), k ++ List.replicate i (0 : Int), ())) _ (64 - k.length) (fun i hi κ => ?_) (fun κ => ?_) _ (by show _ < _ + _ + 1048576; omega)
  · show r01_Tag.s0b kx _ κ = _
    have hl : (k ++ List.replicate i (0 : Int)).length = k.length + i := by simp
    simp only [r01_Tag.s0b, hl]
    rw [cond_t (ilt_iff.2 (by omega)), chk_true (fits_iff.2 (by omega)), List.append_assoc, show [(0 : Int)] = List.replicate 1 0 from rfl, List.replicate_append_replicate]
  · show r01_Tag.s0b kx _ κ = _
    have hl : (k ++ List.replicate (64 - k.length) (0 : Int)).length = 64 := by simp; omega
    simp only [r01_Tag.s0b, hl]
    rw [cond_f (ilt_f.2 (by omega))]
theorem rtag_l2 (p z H K k : List Int) (hk : k.length = 64) (kx) : r01_Tag.l2 (p, (H, K, ()), (z, ()), k, [], [], 0, ()) kx = kx (p, (H, K, ()), (z, ()), x54 k, x92 k, ()) := by
  refine traj (fun i => (p, (H, K, ()), (z, ()), k, x54 (k.take i), x92 (k.take i), (i : Int), ())) _ 64 (fun i hi κ => ?_) (fun κ => ?_) _ (by show 64 < _ + _ + _ + _ + _ + 1048576; omega)
  · show r01_Tag.s2b kx _ κ = _
    have e4 : iadd .i64 (i : Int) 1 = ((i + 1 : Nat) : Int) := by rw [iadd64 (by omega)]; omega
    have ht : k.take (i + 1) = k.take i ++ [k.getD i 0] := by
      rw [List.take_succ_eq_append_getElem (by omega), List.getD_eq_getElem?_getD, List.getElem?_eq_getElem (by omega)]; rfl
    simp only [r01_Tag.s2b, e4, Int.toNat_natCast, x54_len, x92_len, List.length_take, hk]
    rw [cond_t (ilt_iff.2 (by omega)), chk_true (inB_iff.2 (by omega)), chk_true (fits_iff.2 (by omega)), chk_true (inB_iff.2 (by omega)), chk_true (fits_iff.2 (by omega)), ht]
    simp [x54, x92]
  · show r01_Tag.s2b kx _ κ = _
    simp only [r01_Tag.s2b]
    rw [cond_f (ilt_f.2 (by omega)), List.take_of_length_le (by omega)]
theorem rtag_main (l0 l2) (h0 : ∀ p z H K k : List Int, k.length ≤ 64 → ∀ kx, l0 (p, (H, K, ()), (z, ()), k, ()) kx = kx (p, (H, K, ()), (z, ()), k ++ List.replicate (64 - k.length) 0, ()))
    (h2 : ∀ p z H K k : List Int, k.length = 64 → ∀ kx, l2 (p, (H, K, ()), (z, ()), k, [], [], 0, ()) kx = kx (p, (H, K, ()), (z, ()), x54 k, x92 k, ()))
    (f) (hf : ∀ x : List Int, x.length ≤ 1000000 → (∀ n ∈ x, byte n) → f ((gv_dfirst, gv_dparts, ()), x, ()) = some (sha x)) (key p : List Int) (hk : key.length ≤ 900000) (hp : p.length ≤ 900000) (bk : ∀ n ∈ key, byte n) (bp : ∀ n ∈ p, byte n) :
    r01_Tag.b f l0 l2 ((gv_dfirst, gv_dparts, ()), key, p, ()) = some (tag key p) := by
  have b54 := x54_byte (kB key)
  have b92 := x92_byte (kB key)
  have l54 := x54_len (kB key)
  have l92 := x92_len (kB key)
  have lk := kB_len key
  have hb1 : ∀ n ∈ x54 (kB key) ++ p, byte n := fun n hn => (List.mem_append.1 hn).elim (b54 n) (bp n)
  have hb2 : ∀ n ∈ x92 (kB key) ++ sha (x54 (kB key) ++ p), byte n := fun n hn => (List.mem_append.1 hn).elim (b92 n) (sha_byte _ n)
  simp only [r01_Tag.b]
  by_cases h64 : 64 < key.length
  · have hkb : kB key = sha key ++ List.replicate (64 - (sha key).length) 0 := by unfold kB; rw [if_pos h64]
    rw [cond_t (igt_iff.2 (by omega)), hf _ (by omega) bk]
    simp only [Option.bind_some]
    rw [chk_true (fits_iff.2 (by rw [sha_len]; omega)), h0 _ _ _ _ _ (by rw [sha_len]; omega)]
    dsimp only
    rw [← hkb, h2 _ _ _ _ _ lk]
    dsimp only
    rw [chk_true (fits_iff.2 (by omega)), hf _ (by rw [List.length_append]; omega) hb1]
    simp only [Option.bind_some]
    rw [chk_true (fits_iff.2 (by rw [sha_len]; omega)), hf _ (by rw [List.length_append, sha_len]; omega) hb2]
    rfl
  · have hkb : kB key = key ++ List.replicate (64 - key.length) 0 := by unfold kB; rw [if_neg h64]
    rw [cond_f (igt_f.2 (by omega)), chk_true (fits_iff.2 (by omega)), h0 _ _ _ _ _ (by omega)]
    dsimp only
    rw [← hkb, h2 _ _ _ _ _ lk]
    dsimp only
    rw [chk_true (fits_iff.2 (by omega)), hf _ (by rw [List.length_append]; omega) hb1]
    simp only [Option.bind_some]
    rw [chk_true (fits_iff.2 (by rw [sha_len]; omega)), hf _ (by rw [List.length_append, sha_len]; omega) hb2]
    rfl
theorem rtag_eq (key p : List Int) (hk : key.length ≤ 900000) (hp : p.length ≤ 900000) (bk : ∀ n ∈ key, byte n) (bp : ∀ n ∈ p, byte n) : r01_Tag ((gv_dfirst, gv_dparts, ()), key, p, ()) = some (tag key p) :=
  rtag_main _ _ (fun p z H K k hk kx => rtag_l0 p z H K k hk kx) (fun p z H K k hk kx => rtag_l2 p z H K k hk kx) _ (fun x hx hb => rsum_eq x hx hb) key p hk hp bk bp
end Go.Px.Pu
