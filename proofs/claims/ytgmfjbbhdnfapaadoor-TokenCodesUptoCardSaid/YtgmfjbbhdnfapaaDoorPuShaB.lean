/- digest.block is the block of SHA-256. -/
import Derived.Test.YtgmfjbbhdnfapaaDoorPuShaA
import Derived.Test.YtgmfjbbhdnfapaaDoorSh
set_option linter.unusedVariables false
set_option linter.unusedSimpArgs false
namespace Go.Px.Pu
open Go Go.Px

theorem rot_go (x : W) (n k : Nat) (h : k + n = 32) (he : math_bits_RotateLeft32 (wI x, (-(n : Int)), ()) = some (ior .u32 (ishl .u32 (wI x) (k : Int)) (ishr .u32 (wI x) (n : Int)))) : math_bits_RotateLeft32 (wI x, (-(n : Int)), ()) = some (wI (rotr x n)) := by
  rw [he, rotL x n k h]
theorem rot7 (x : W) : math_bits_RotateLeft32 (wI x, (-7), ()) = some (wI (rotr x 7)) := rot_go x 7 25 rfl (by kernel_rfl)
theorem rot18 (x : W) : math_bits_RotateLeft32 (wI x, (-18), ()) = some (wI (rotr x 18)) := rot_go x 18 14 rfl (by kernel_rfl)
theorem rot17 (x : W) : math_bits_RotateLeft32 (wI x, (-17), ()) = some (wI (rotr x 17)) := rot_go x 17 15 rfl (by kernel_rfl)
theorem rot19 (x : W) : math_bits_RotateLeft32 (wI x, (-19), ()) = some (wI (rotr x 19)) := rot_go x 19 13 rfl (by kernel_rfl)
theorem rot6 (x : W) : math_bits_RotateLeft32 (wI x, (-6), ()) = some (wI (rotr x 6)) := rot_go x 6 26 rfl (by kernel_rfl)
theorem rot11 (x : W) : math_bits_RotateLeft32 (wI x, (-11), ()) = some (wI (rotr x 11)) := rot_go x 11 21 rfl (by kernel_rfl)
theorem rot25 (x : W) : math_bits_RotateLeft32 (wI x, (-25), ()) = some (wI (rotr x 25)) := rot_go x 25 7 rfl (by kernel_rfl)
theorem rot2 (x : W) : math_bits_RotateLeft32 (wI x, (-2), ()) = some (wI (rotr x 2)) := rot_go x 2 30 rfl (by kernel_rfl)
theorem rot13 (x : W) : math_bits_RotateLeft32 (wI x, (-13), ()) = some (wI (rotr x 13)) := rot_go x 13 19 rfl (by kernel_rfl)
theorem rot22 (x : W) : math_bits_RotateLeft32 (wI x, (-22), ()) = some (wI (rotr x 22)) := rot_go x 22 10 rfl (by kernel_rfl)

/-! ### the first sixteen words -/
theorem blk_l0 (h : List Int) (p : List Int) (hp : p.length = 64) (kx) : digest_block.l0 ((h, ()), p, (List.replicate 64 (0 : Int), ()), 0, ()) kx = kx ((h, ()), (tI (words p ++ List.replicate 48 0), ()), ()) := by
  have e : List.replicate 64 (0 : Int) = tI ((words p).take 0 ++ List.replicate (64 - 0) 0) := by rw [List.take_zero, List.nil_append, tI_zero]
  rw [e]
  refine traj (fun i => ((h, ()), p, (tI ((words p).take i ++ List.replicate (64 - i) 0), ()), (i : Int), ())) _ 16 (fun i hi κ => ?_) (fun κ => ?_) _ (by show 16 < _ + _ + 1048576; omega)
  · have e0 : imul .i64 4 (i : Int) = ((4 * i : Nat) : Int) := by rw [imul64 (by omega)]; omega
    have e1 : iadd .i64 ((4 * i : Nat) : Int) 1 = ((4 * i + 1 : Nat) : Int) := by rw [iadd64 (by omega)]; omega
    have e2 : iadd .i64 ((4 * i : Nat) : Int) 2 = ((4 * i + 2 : Nat) : Int) := by rw [iadd64 (by omega)]; omega
    have e3 : iadd .i64 ((4 * i : Nat) : Int) 3 = ((4 * i + 3 : Nat) : Int) := by rw [iadd64 (by omega)]; omega
    have e4 : iadd .i64 (i : Int) 1 = ((i + 1 : Nat) : Int) := by rw [iadd64 (by omega)]; omega
    show digest_block.s0b kx _ κ = _
    simp only [digest_block.s0b, e0, e1, e2, e3, e4]
    rw [cond_t (ilt_iff.2 (by omega)), chk_true (inB_iff.2 (by omega)), chk_true (inB_iff.2 (by omega)), chk_true (inB_iff.2 (by omega)), chk_true (inB_iff.2 (by omega)), chk_true (inB_iff.2 (by omega))]
    have key : ∀ (a b c d : Int), ior .u32 (ior .u32 (ior .u32 (ishl .u32 (IntKind.wrap .u32 a) 24) (ishl .u32 (IntKind.wrap .u32 b) 16)) (ishl .u32 (IntKind.wrap .u32 c) 8)) (IntKind.wrap .u32 d) =
        wI (BitVec.ofInt 32 a <<< 24 ||| BitVec.ofInt 32 b <<< 16 ||| BitVec.ofInt 32 c <<< 8 ||| BitVec.ofInt 32 d) := fun a b c d => by
      have z1 := wshl (BitVec.ofInt 32 a) 24 (by omega)
      have z2 := wshl (BitVec.ofInt 32 b) 16 (by omega)
      have z3 := wshl (BitVec.ofInt 32 c) 8 (by omega)
      rw [wwrap, wwrap, wwrap, wwrap]
      rw [show ((24 : Nat) : Int) = 24 from rfl] at z1
      rw [show ((16 : Nat) : Int) = 16 from rfl] at z2
      rw [show ((8 : Nat) : Int) = 8 from rfl] at z3
      rw [z1, z2, z3, wor, wor, wor]
    rw [key]
    simp only [Int.toNat_natCast]
    rw [tI_set, show 64 - i = (64 - (i + 1)) + 1 by omega, set_grow _ _ _ _ _ (by simp [words_length]; omega), words_take p i hi]
    rfl
  · show digest_block.s0b kx _ κ = _
    simp only [digest_block.s0b]
    rw [cond_f (ilt_f.2 (by omega))]
    rw [List.take_of_length_le (by rw [words_length]; omega)]

/-! ### the other words -/
theorem blk_l2 (h : List Int) (l : List W) (hl : l.length = 16) (kx) : digest_block.l2 ((h, ()), (tI (l ++ List.replicate 48 0), ()), 16, ()) kx = kx ((h, ()), (tI (sched 48 l), ()), ()) := by
  refine traj (fun i => ((h, ()), (tI (sched i l ++ List.replicate (48 - i) 0), ()), ((16 + i : Nat) : Int), ())) _ 48 (fun i hi κ => ?_) (fun κ => ?_) _ (by simp [digest_block.n2])
  · have e15 : isub .i64 ((16 + i : Nat) : Int) 15 = ((i + 1 : Nat) : Int) := by rw [isub64 (by omega)]; omega
    have e2 : isub .i64 ((16 + i : Nat) : Int) 2 = ((i + 14 : Nat) : Int) := by rw [isub64 (by omega)]; omega
    have e16 : isub .i64 ((16 + i : Nat) : Int) 16 = ((i : Nat) : Int) := by rw [isub64 (by omega)]; omega
    have e7 : isub .i64 ((16 + i : Nat) : Int) 7 = ((i + 9 : Nat) : Int) := by rw [isub64 (by omega)]; omega
    have e4 : iadd .i64 ((16 + i : Nat) : Int) 1 = ((16 + (i + 1) : Nat) : Int) := by rw [iadd64 (by omega)]; omega
    have hlen := sched_length i l
    rw [hl] at hlen
    show digest_block.s2b math_bits_RotateLeft32 kx _ κ = _
    simp only [digest_block.s2b, e15, e2, e16, e7, e4, Int.toNat_natCast, tI_getD]
    rw [getD_app _ _ _ _ (by omega), getD_app _ _ _ _ (by omega), getD_app _ _ _ _ (by omega), getD_app _ _ _ _ (by omega)]
    rw [cond_t (ilt_iff.2 (by omega)), chk_true (inB_iff.2 (by omega)), chk_true (inB_iff.2 (by omega)), rot7, rot18, rot17, rot19]
    simp only [Option.bind_some]
    rw [chk_true (inB_iff.2 (by omega)), chk_true (inB_iff.2 (by omega)), chk_true (inB_iff.2 (by omega))]
    have z3 := fun x => wshr x 3 (by omega)
    have z10 := fun x => wshr x 10 (by omega)
    simp only [show ((3 : Nat) : Int) = 3 from rfl] at z3
    simp only [show ((10 : Nat) : Int) = 10 from rfl] at z10
    simp only [z3, z10, wxor, wadd, tI_set]
    rw [show 48 - i = (48 - (i + 1)) + 1 by omega, set_grow _ _ _ _ _ hlen, sched_succ]
    have hw : wNext (sched i l) = (sched i l).getD i 0 + (rotr ((sched i l).getD (i + 1) 0) 7 ^^^ rotr ((sched i l).getD (i + 1) 0) 18 ^^^ (sched i l).getD (i + 1) 0 >>> 3) + (sched i l).getD (i + 9) 0 + (rotr ((sched i l).getD (i + 14) 0) 17 ^^^ rotr ((sched i l).getD (i + 14) 0) 19 ^^^ (sched i l).getD (i + 14) 0 >>> 10) := by
      unfold wNext sg0 sg1
      rw [hlen, show 16 + i - 16 = i by omega, show 16 + i - 15 = i + 1 by omega, show 16 + i - 7 = i + 9 by omega, show 16 + i - 2 = i + 14 by omega]
    rw [hw]
  · show digest_block.s2b math_bits_RotateLeft32 kx _ κ = _
    simp only [digest_block.s2b]
    rw [cond_f (ilt_f.2 (by omega))]
    simp

/-! ### the rounds -/
theorem kW_length : kW.length = 64 := by simp [kW, gv_dparts]
theorem kW_getD (i : Nat) (h : i < 64) : gv_dparts.getD i (0 : Int) = wI (kW.getD i 0) := by
  have : ∀ i : Fin 64, gv_dparts.getD i.val (0 : Int) = wI (kW.getD i.val 0) := by decide +kernel
  exact this ⟨i, h⟩
theorem zip_take {l : List W} (hl : l.length = 64) (i : Nat) (h : i < 64) : (kW.zip l).take (i + 1) = (kW.zip l).take i ++ [(kW.getD i 0, l.getD i 0)] := by
  have hz : i < (kW.zip l).length := by rw [List.length_zip, kW_length, hl]; omega
  rw [List.take_succ_eq_append_getElem hz]
  congr 2
  have h1 : i < kW.length := by rw [kW_length]; exact h
  have h2 : i < l.length := by omega
  rw [List.getElem_zip, List.getD_eq_getElem?_getD, List.getD_eq_getElem?_getD, List.getElem?_eq_getElem h1, List.getElem?_eq_getElem h2]
  rfl
theorem blk_rnd (h : List Int) (ws : List W) (i : Nat) (hi : i < 64) (v : V8) (kx κ) :
    digest_block.s4b math_bits_RotateLeft32 kx ((h, ()), (tI ws, ()), (tI v.list, ()), (i : Int), ()) κ = κ ((h, ()), (tI ws, ()), (tI (rnd (kW.getD i 0) (ws.getD i 0) v).list, ()), ((i + 1 : Nat) : Int), ()) := by
  obtain ⟨a, b, c, d, e, f, g, z⟩ := v
  have e4 : iadd .i64 (i : Int) 1 = ((i + 1 : Nat) : Int) := by rw [iadd64 (by omega)]; omega
  have g0 : (tI (V8.list (a, b, c, d, e, f, g, z))).getD 0 (0 : Int) = wI a := rfl
  have g1 : (tI (V8.list (a, b, c, d, e, f, g, z))).getD 1 (0 : Int) = wI b := rfl
  have g2 : (tI (V8.list (a, b, c, d, e, f, g, z))).getD 2 (0 : Int) = wI c := rfl
  have g4 : (tI (V8.list (a, b, c, d, e, f, g, z))).getD 4 (0 : Int) = wI e := rfl
  have g5 : (tI (V8.list (a, b, c, d, e, f, g, z))).getD 5 (0 : Int) = wI f := rfl
  have g6 : (tI (V8.list (a, b, c, d, e, f, g, z))).getD 6 (0 : Int) = wI g := rfl
  have g7 : (tI (V8.list (a, b, c, d, e, f, g, z))).getD 7 (0 : Int) = wI z := rfl
  have hc : copied (tI (V8.list (a, b, c, d, e, f, g, z))) 1 (min (((tI (V8.list (a, b, c, d, e, f, g, z))).drop 0).take 7).length 7) (((tI (V8.list (a, b, c, d, e, f, g, z))).drop 0).take 7) = [wI a, wI a, wI b, wI c, wI d, wI e, wI f, wI g] := rfl
  have gc : ([wI a, wI a, wI b, wI c, wI d, wI e, wI f, wI g] : List Int).getD 4 (0 : Int) = wI d := rfl
  simp only [digest_block.s4b, g0, g1, g2, g4, g5, g6, g7, hc, gc, e4]
  rw [cond_t (ilt_iff.2 (by omega)), rot6, rot11, rot25]
  simp only [Option.bind_some]
  rw [chk_true (inB_iff.2 (by omega)), chk_true (inB_iff.2 (by omega)), rot2, rot13, rot22]
  simp only [Option.bind_some, Int.toNat_natCast]
  rw [kW_getD i hi, tI_getD]
  simp only [wxor, wand, wnot, wadd]
  rfl
theorem blk_l4 (h : List Int) (ws : List W) (hw : ws.length = 64) (v : V8) (kx) : digest_block.l4 ((h, ()), (tI ws, ()), (tI v.list, ()), 0, ()) kx = kx ((h, ()), (tI (rounds (kW.zip ws) v).list, ()), ()) := by
  refine traj (fun i => ((h, ()), (tI ws, ()), (tI (rounds ((kW.zip ws).take i) v).list, ()), (i : Int), ())) _ 64 (fun i hi κ => ?_) (fun κ => ?_) _ (by simp [digest_block.n4])
  · show digest_block.s4b math_bits_RotateLeft32 kx _ κ = _
    rw [blk_rnd h ws i hi, zip_take hw i hi, rounds_append]
    rfl
  · show digest_block.s4b math_bits_RotateLeft32 kx _ κ = _
    simp only [digest_block.s4b]
    rw [cond_f (ilt_f.2 (by omega))]
    rw [List.take_of_length_le (by rw [List.length_zip, kW_length, hw]; omega)]
theorem blk_l6 (a b c d e f g h a' b' c' d' e' f' g' h' : Int) (kx) : digest_block.l6 (([a, b, c, d, e, f, g, h], ()), ([a', b', c', d', e', f', g', h'], ()), 0, ()) kx = kx (([iadd .u32 a a', iadd .u32 b b', iadd .u32 c c', iadd .u32 d d', iadd .u32 e e', iadd .u32 f f', iadd .u32 g g', iadd .u32 h h'], ()), ()) := by
  kernel_rfl
theorem block_main (l0 l2 l4 l6) (h0 : ∀ h p, p.length = 64 → ∀ kx, l0 ((h, ()), p, (List.replicate 64 (0 : Int), ()), 0, ()) kx = kx ((h, ()), (tI (words p ++ List.replicate 48 0), ()), ()))
    (h2 : ∀ h l, l.length = 16 → ∀ kx, l2 ((h, ()), (tI (l ++ List.replicate 48 0), ()), 16, ()) kx = kx ((h, ()), (tI (sched 48 l), ()), ()))
    (h4 : ∀ h ws, ws.length = 64 → ∀ v : V8, ∀ kx, l4 ((h, ()), (tI ws, ()), (tI v.list, ()), 0, ()) kx = kx ((h, ()), (tI (rounds (kW.zip ws) v).list, ()), ()))
    (h6 : ∀ v u : V8, ∀ kx, l6 ((tI v.list, ()), (tI u.list, ()), 0, ()) kx = kx ((tI (v.add u).list, ()), ()))
    (v : V8) (p : List Int) (hp : p.length = 64) : digest_block.b l0 l2 l4 l6 ((tI v.list, ()), p, ()) = some (tI (blockW v p).list, ()) := by
  simp only [digest_block.b]
  rw [h0 _ p hp]
  dsimp only
  rw [h2 _ _ (words_length p)]
  dsimp only
  rw [h4 _ _ (by rw [sched_length, words_length])]
  dsimp only
  rw [h6]
  unfold blockW
  dsimp only
theorem block_eq (v : V8) (p : List Int) (hp : p.length = 64) : digest_block ((tI v.list, ()), p, ()) = some (tI (blockW v p).list, ()) :=
  block_main _ _ _ _ (fun h p hp kx => blk_l0 h p hp kx) (fun h l hl kx => blk_l2 h l hl kx) (fun h ws hw v kx => blk_l4 h ws hw v kx)
    (fun v u kx => by
      obtain ⟨a, b, c, d, e, f, g, z⟩ := v
      obtain ⟨a', b', c', d', e', f', g', z'⟩ := u
      have := blk_l6 (wI a) (wI b) (wI c) (wI d) (wI e) (wI f) (wI g) (wI z) (wI a') (wI b') (wI c') (wI d') (wI e') (wI f') (wI g') (wI z') kx
      simp only [wadd] at this
      exact this) v p hp
end Go.Px.Pu
