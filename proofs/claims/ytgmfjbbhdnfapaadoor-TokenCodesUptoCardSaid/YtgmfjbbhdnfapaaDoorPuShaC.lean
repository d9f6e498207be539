/- digest.Sum is SHA-256. -/
import Derived.Test.YtgmfjbbhdnfapaaDoorPuShaB
set_option linter.unusedVariables false
set_option linter.unusedSimpArgs false
namespace Go.Px.Pu
open Go Go.Px

theorem irem64 (a b : Nat) : irem .i64 (a : Int) (b : Int) = ((a % b : Nat) : Int) := by
  unfold irem; rw [Int.tmod_eq_emod_of_nonneg (by omega)]; rfl
theorem pad_l0 (x z : List Int) (hx : x.length ≤ 1000000) (kx) : digest_Sum.l0 (x, (z, ()), x ++ [128], ()) kx = kx (x, (z, ()), x ++ [128] ++ List.replicate (padN x.length) 0, ()) := by
  have e : x ++ [128] = x ++ [128] ++ List.replicate 0 (0 : Int) := by simp
  have hp : padN x.length < 64 := Nat.mod_lt _ (by omega)
  rw [e]
  refine traj (fun i => (x, (z, ()), x ++ [128] ++ List.replicate i 0, ())) _ (padN x.length) (fun i hi κ => ?_) (fun κ => ?_) _ (by show _ < _ + _ + 1048576; omega)
  · show digest_Sum.s0b kx _ κ = _
    have hl : (x ++ [128] ++ List.replicate i (0 : Int)).length = x.length + 1 + i := by simp; omega
    simp only [digest_Sum.s0b, hl]
    have := irem64 (x.length + 1 + i) 64
    simp only [show ((64 : Nat) : Int) = 64 from rfl] at this
    rw [this, cond_t (ine_iff.2 (by unfold padN at hi; omega)), chk_true (fits_iff.2 (by omega))]
    rw [List.append_assoc _ (List.replicate i 0), show [(0 : Int)] = List.replicate 1 0 from rfl, List.replicate_append_replicate]
  · show digest_Sum.s0b kx _ κ = _
    have hl : (x ++ [128] ++ List.replicate (padN x.length) (0 : Int)).length = x.length + 1 + padN x.length := by simp; omega
    simp only [digest_Sum.s0b, hl]
    have := irem64 (x.length + 1 + padN x.length) 64
    simp only [show ((64 : Nat) : Int) = 64 from rfl] at this
    rw [this, cond_f (ine_f.2 (by unfold padN; omega))]
    simp
theorem u8_shr (n up : Nat) (hu : up ≤ 56) : IntKind.wrap .u8 (ishr .u64 (n : Int) (up : Int)) = ((n / 2 ^ up % 256 : Nat) : Int) := by
  unfold ishr
  rw [Int.toNat_natCast, Nat.min_eq_left (by show up ≤ 64; omega), Int.fdiv_eq_ediv_of_nonneg _ (Int.le_of_lt (Int.pow_pos (by decide)))]
  rw [wrapU (k := .u8) rfl, show (2 : Int) ^ up = ((2 ^ up : Nat) : Int) from (Int.natCast_pow 2 up).symm, ← Int.natCast_ediv]
  generalize n / 2 ^ up = m
  show (m : Int) % 256 = ((m % 256 : Nat) : Int)
  omega
theorem len_l2 (x z q : List Int) (hx : x.length ≤ 1000000) (hq : q.length ≤ 2000000) (kx) : digest_Sum.l2 ((z, ()), q, ((x.length * 8 : Nat) : Int), 56, ()) kx = kx ((z, ()), q ++ lenB x.length, ()) := by
  have e : q = q ++ (lenB x.length).take 0 := by simp
  have hlen : (lenB x.length).length = 8 := rfl
  suffices h : digest_Sum.l2 ((z, ()), q ++ (lenB x.length).take 0, ((x.length * 8 : Nat) : Int), 56 - 8 * ((0 : Nat) : Int), ()) kx = kx ((z, ()), q ++ lenB x.length, ()) by rw [← e] at h; exact h
  refine traj (fun i => ((z, ()), q ++ (lenB x.length).take i, ((x.length * 8 : Nat) : Int), 56 - 8 * (i : Int), ())) _ 8 (fun i hi κ => ?_) (fun κ => ?_) _ (by show 8 < _ + _ + _ + 1048576; omega)
  · show digest_Sum.s2b kx _ κ = _
    have hl : (q ++ (lenB x.length).take i).length = q.length + i := by simp [hlen]; omega
    have e1 : isub .i64 (56 - 8 * (i : Int)) 8 = 56 - 8 * ((i + 1 : Nat) : Int) := by rw [isub64 (by omega)]; omega
    simp only [digest_Sum.s2b, hl, e1]
    rw [cond_t (ige_iff.2 (by omega)), chk_true (ile_iff.2 (by omega)), chk_true (fits_iff.2 (by omega))]
    have e2 : (56 - 8 * (i : Int)) = ((56 - 8 * i : Nat) : Int) := by omega
    rw [e2, u8_shr _ _ (by omega), List.append_assoc]
    have e3 : (lenB x.length).take (i + 1) = (lenB x.length).take i ++ [((x.length * 8 / 2 ^ (56 - 8 * i) % 256 : Nat) : Int)] := by
      rw [List.take_succ_eq_append_getElem (by rw [hlen]; exact hi)]
      congr 2
      have hc : i = 0 ∨ i = 1 ∨ i = 2 ∨ i = 3 ∨ i = 4 ∨ i = 5 ∨ i = 6 ∨ i = 7 := by omega
      rcases hc with rfl | rfl | rfl | rfl | rfl | rfl | rfl | rfl <;> rfl
    rw [e3]
  · show digest_Sum.s2b kx _ κ = _
    simp only [digest_Sum.s2b]
    rw [cond_f (ige_f.2 (by omega)), List.take_of_length_le (by rw [hlen]; omega)]
theorem blocksW_succ : ∀ (n : Nat) (v : V8) (q : List Int), blocksW (n + 1) v q = blockW (blocksW n v q) ((q.drop (64 * n)).take 64)
  | 0, v, q => by simp [blocksW]
  | n + 1, v, q => by
    show blocksW (n + 1) (blockW v (q.take 64)) (q.drop 64) = _
    rw [blocksW_succ n, List.drop_drop]
    show blockW (blocksW n _ _) _ = blockW (blocksW n _ _) _
    rw [show 64 + 64 * n = 64 * (n + 1) by omega]
theorem blk_loop (z q : List Int) (m : Nat) (hq : q.length = 64 * m) (hm : m ≤ 1000000) (v : V8) (kx) : digest_Sum.l4 ((z, ()), q, (tI v.list, ()), ()) kx = kx ((z, ()), (tI (blocksW m v q).list, ()), ()) := by
  have e : q = q.drop (64 * 0) := by simp
  suffices h : digest_Sum.l4 ((z, ()), q.drop (64 * 0), (tI (blocksW 0 v q).list, ()), ()) kx = kx ((z, ()), (tI (blocksW m v q).list, ()), ()) by rw [← e] at h; exact h
  refine traj (fun i => ((z, ()), q.drop (64 * i), (tI (blocksW i v q).list, ()), ())) _ m (fun i hi κ => ?_) (fun κ => ?_) _ (by show m < _ + 1048576; omega)
  · show digest_Sum.s4b digest_block kx _ κ = _
    have hl : (q.drop (64 * i)).length = 64 * (m - i) := by rw [List.length_drop, hq]; omega
    simp only [digest_Sum.s4b, hl]
    rw [cond_t (igt_iff.2 (by omega)), chk_true (by simp only [Bool.and_eq_true, leB_iff]; omega)]
    rw [List.drop_zero, block_eq _ _ (by rw [List.length_take, hl]; omega)]
    simp only [Option.bind_some]
    rw [chk_true (by simp only [Bool.and_eq_true, leB_iff]; omega), blocksW_succ, List.drop_drop, List.take_of_length_le (by rw [List.length_drop, hq]; omega), show 64 * i + 64 = 64 * (i + 1) by omega]
  · show digest_Sum.s4b digest_block kx _ κ = _
    have hl : (q.drop (64 * m)).length = 0 := by rw [List.length_drop, hq]; omega
    simp only [digest_Sum.s4b, hl]
    rw [cond_f (igt_f.2 (by omega))]
def oB (h : Int) : List Int := [IntKind.wrap .u8 (ishr .u32 h 24), IntKind.wrap .u8 (ishr .u32 h 16), IntKind.wrap .u8 (ishr .u32 h 8), IntKind.wrap .u8 (ishr .u32 h 0)]
theorem oB_at (w : Int) (k : Nat) (hk : k < 4) : (oB w).take (k + 1) = (oB w).take k ++ [IntKind.wrap .u8 (ishr .u32 w (isub .i64 24 (imul .i64 8 (k : Int))))] := by
  have hc : k = 0 ∨ k = 1 ∨ k = 2 ∨ k = 3 := by omega
  rcases hc with rfl | rfl | rfl | rfl <;> rfl
theorem out_l8 (z pre l : List Int) (i : Nat) (hi : i < 8) (hp : pre.length = 4 * i) (w : Int) (kx) :
    digest_Sum.l8 ((z, ()), (pre ++ List.replicate (32 - 4 * i) (0 : Int), ()), (i : Int), w, l, (i : Int), 0, ()) kx = kx ((z, ()), (pre ++ oB w ++ List.replicate (32 - 4 * (i + 1)) (0 : Int), ()), l, (i : Int), ()) := by
  suffices h : digest_Sum.l8 ((z, ()), (pre ++ (oB w).take 0 ++ List.replicate (32 - 4 * i - 0) (0 : Int), ()), (i : Int), w, l, (i : Int), ((0 : Nat) : Int), ()) kx = kx ((z, ()), (pre ++ oB w ++ List.replicate (32 - 4 * (i + 1)) (0 : Int), ()), l, (i : Int), ()) by
    rw [List.take_zero, List.append_nil] at h; exact h
  refine traj (fun k => ((z, ()), (pre ++ (oB w).take k ++ List.replicate (32 - 4 * i - k) (0 : Int), ()), (i : Int), w, l, (i : Int), (k : Int), ())) _ 4 (fun k hk κ => ?_) (fun κ => ?_) _ (by show 4 < _ + _ + _ + _ + _ + 1048576; omega)
  · show digest_Sum.s8b kx _ κ = _
    have e0 : imul .i64 4 (i : Int) = ((4 * i : Nat) : Int) := by rw [imul64 (by omega)]; omega
    have e1 : iadd .i64 ((4 * i : Nat) : Int) (k : Int) = ((4 * i + k : Nat) : Int) := by rw [iadd64 (by omega)]; omega
    have e2 : iadd .i64 (k : Int) 1 = ((k + 1 : Nat) : Int) := by rw [iadd64 (by omega)]; omega
    have e3 : isub .i64 24 (imul .i64 8 (k : Int)) = ((24 - 8 * k : Nat) : Int) := by rw [imul64 (by omega), isub64 (by omega)]; omega
    have e4 := oB_at w k hk
    simp only [digest_Sum.s8b, e0, e1, e2, e3] at e4 ⊢
    rw [cond_t (ilt_iff.2 (by omega)), chk_true (ile_iff.2 (by omega)), chk_true (inB_iff.2 (by omega))]
    rw [Int.toNat_natCast, show 32 - 4 * i - k = (32 - 4 * i - (k + 1)) + 1 by omega, set_grow _ _ _ _ _ (by simp [hp, oB]; omega), e4, List.append_assoc pre]
  · show digest_Sum.s8b kx _ κ = _
    simp only [digest_Sum.s8b]
    rw [cond_f (ilt_f.2 (by omega)), List.take_of_length_le (by simp [oB]), show 32 - 4 * i - 4 = 32 - 4 * (i + 1) by omega]
theorem out_l6 (z ws : List Int) (hw : ws.length = 8) (l8) (h8 : ∀ (z pre l : List Int) (i : Nat), i < 8 → pre.length = 4 * i → ∀ (w : Int) kx,
    l8 ((z, ()), (pre ++ List.replicate (32 - 4 * i) (0 : Int), ()), (i : Int), w, l, (i : Int), 0, ()) kx = kx ((z, ()), (pre ++ oB w ++ List.replicate (32 - 4 * (i + 1)) (0 : Int), ()), l, (i : Int), ())) (kx) (m : Nat) (hm : 8 < m) :
    loopN m (digest_Sum.s6b l8 kx) ((z, ()), (List.replicate 32 (0 : Int), ()), ws, 0, ()) = kx ((z, ()), (ws.flatMap oB, ()), ()) := by
  have hlen : ∀ i, i ≤ 8 → ((ws.take i).flatMap oB).length = 4 * i := fun i hi => by
    have : ∀ l : List Int, (l.flatMap oB).length = 4 * l.length := fun l => by
      induction l with
      | nil => rfl
      | cons a l ih => simp [List.flatMap_cons, oB, ih]; omega
    rw [this, List.length_take, hw, Nat.min_eq_left hi]
  have e : (List.replicate 32 (0 : Int)) = (ws.take 0).flatMap oB ++ List.replicate (32 - 4 * 0) 0 := by simp
  rw [e]
  refine traj (fun i => ((z, ()), ((ws.take i).flatMap oB ++ List.replicate (32 - 4 * i) (0 : Int), ()), ws, (i : Int), ())) _ 8 (fun i hi κ => ?_) (fun κ => ?_) m hm
  · have e2 : iadd .i64 (i : Int) 1 = ((i + 1 : Nat) : Int) := by rw [iadd64 (by omega)]; omega
    simp only [digest_Sum.s6b]
    rw [cond_t (ilt_iff.2 (by omega)), chk_true (inB_iff.2 (by omega)), h8 _ _ _ i hi (hlen i (by omega))]
    dsimp only
    rw [e2, Int.toNat_natCast]
    have : (ws.take (i + 1)).flatMap oB = (ws.take i).flatMap oB ++ oB (ws.getD i 0) := by
      rw [List.take_succ_eq_append_getElem (by omega), List.flatMap_append, List.getD_eq_getElem?_getD, List.getElem?_eq_getElem (by omega)]
      simp [List.flatMap_cons]
    rw [this]
  · simp only [digest_Sum.s6b]
    rw [cond_f (ilt_f.2 (by omega)), List.take_of_length_le (by omega)]
    simp
theorem oB_eq (x : W) : oB (wI x) = outB x := by
  have key : ∀ s : Nat, s ≤ 32 → IntKind.wrap .u8 (ishr .u32 (wI x) (s : Int)) = ((x.toNat / 2 ^ s % 256 : Nat) : Int) := fun s hs => by
    rw [wshr x s hs, wrapU (k := .u8) rfl]
    show ((x >>> s).toNat : Int) % 256 = _
    rw [BitVec.toNat_ushiftRight, Nat.shiftRight_eq_div_pow]
    generalize x.toNat / 2 ^ s = m
    omega
  have k24 := key 24 (by omega)
  have k16 := key 16 (by omega)
  have k8 := key 8 (by omega)
  have k0 := key 0 (by omega)
  show [_, _, _, _] = [_, _, _, _]
  simp only [show ((24 : Nat) : Int) = 24 from rfl] at k24
  simp only [show ((16 : Nat) : Int) = 16 from rfl] at k16
  simp only [show ((8 : Nat) : Int) = 8 from rfl] at k8
  simp only [show ((0 : Nat) : Int) = 0 from rfl] at k0
  rw [k24, k16, k8, k0]
theorem out_eq (z : List Int) (v : V8) (kx) : digest_Sum.l6 ((z, ()), (List.replicate 32 (0 : Int), ()), tI v.list, 0, ()) kx = kx ((z, ()), (v.list.flatMap outB, ()), ()) := by
  have h := out_l6 z (tI v.list) (by rw [tI_length]; rfl) digest_Sum.l8 (fun z pre l i hi hp w kx => out_l8 z pre l i hi hp w kx) kx (digest_Sum.n6 ((z, ()), (List.replicate 32 (0 : Int), ()), tI v.list, 0, ())) (by show 8 < _ + _ + 1048576; omega)
  have e : (tI v.list).flatMap oB = v.list.flatMap outB := by
    rw [tI, List.flatMap_map, show (fun x => oB (wI x)) = outB from funext oB_eq]
  rw [e] at h
  unfold digest_Sum.l6 digest_Sum.s6
  exact h
theorem padded_len (p : List Int) : (padded p).length = 64 * ((padded p).length / 64) := by
  have : (padded p).length = p.length + 1 + padN p.length + 8 := by simp [padded, lenB]; omega
  rw [this]; unfold padN; omega
theorem iv_eq : gv_dfirst = tI iv.list := by decide +kernel
theorem sum_main (l0 l2 l4 l6) (x : List Int) (hx : x.length ≤ 1000000)
    (h0 : ∀ x z : List Int, x.length ≤ 1000000 → ∀ kx, l0 (x, (z, ()), x ++ [128], ()) kx = kx (x, (z, ()), x ++ [128] ++ List.replicate (padN x.length) 0, ()))
    (h2 : ∀ x z q : List Int, x.length ≤ 1000000 → q.length ≤ 2000000 → ∀ kx, l2 ((z, ()), q, ((x.length * 8 : Nat) : Int), 56, ()) kx = kx ((z, ()), q ++ lenB x.length, ()))
    (h4 : ∀ (z q : List Int) (m : Nat), q.length = 64 * m → m ≤ 1000000 → ∀ (v : V8) kx, l4 ((z, ()), q, (tI v.list, ()), ()) kx = kx ((z, ()), (tI (blocksW m v q).list, ()), ()))
    (h6 : ∀ (z : List Int) (v : V8) kx, l6 ((z, ()), (List.replicate 32 (0 : Int), ()), tI v.list, 0, ()) kx = kx ((z, ()), (v.list.flatMap outB, ()), ())) :
    digest_Sum.b l0 l2 l4 l6 (x, ()) = some (sha x) := by
  have hp : padN x.length < 64 := Nat.mod_lt _ (by omega)
  have hpl : (padded x).length = x.length + 1 + padN x.length + 8 := by simp [padded, lenB]; omega
  simp only [digest_Sum.b]
  rw [chk_true (fits_iff.2 (by omega)), chk_true (fits_iff.2 (by omega)), h0 x _ hx]
  dsimp only
  have e1 : imul .u64 (IntKind.wrap .u64 (x.length : Int)) 8 = ((x.length * 8 : Nat) : Int) := by
    unfold imul
    rw [wrapU (k := .u64) rfl, wrapU (k := .u64) rfl]
    show ((x.length : Int) % 18446744073709551616 * 8) % 18446744073709551616 = _
    omega
  rw [e1, h2 x _ _ hx (by simp; omega)]
  dsimp only
  rw [show x ++ [128] ++ List.replicate (padN x.length) 0 ++ lenB x.length = padded x from rfl, iv_eq, h4 _ _ ((padded x).length / 64) (padded_len x) (by omega)]
  dsimp only
  rw [h6]
  rfl
theorem sum_eq (x : List Int) (hx : x.length ≤ 1000000) : digest_Sum (x, ()) = some (sha x) :=
  sum_main _ _ _ _ x hx (fun x z hx kx => pad_l0 x z hx kx) (fun x z q hx hq kx => len_l2 x z q hx hq kx) (fun z q m hq hm v kx => blk_loop z q m hq hm v kx) (fun z v kx => out_eq z v kx)
end Go.Px.Pu
