/- The reference's Sum is SHA-256: its blocks, its bytes. -/
import Derived.Test.YtgmfjbbhdnfapaaDoorPuShaR
set_option linter.unusedVariables false
set_option linter.unusedSimpArgs false
namespace Go.Px.Pu
open Go Go.Px

section
variable (tH z : List Int)
theorem r_blk (q : List Int) (i m : Nat) (hi : i < m) (hm : m ≤ 60000) (hq : q.length = 64 * m) (hb : ∀ n ∈ q, byte n) (v : V8) (kx κ) :
    r01_Sum.s4b r01_Sum.l6 r01_Sum.l10 r01_Sum.l12 kx ((tH, gv_dparts, ()), (z, ()), q, (tI v.list, ()), ((64 * i : Nat) : Int), ()) κ =
      κ ((tH, gv_dparts, ()), (z, ()), q, (tI (blockW v ((q.drop (64 * i)).take 64)).list, ()), ((64 * (i + 1) : Nat) : Int), ()) := by
  have hpl : ((q.drop (64 * i)).take 64).length = 64 := by rw [List.length_take, List.length_drop, hq]; omega
  have hp : ∀ j, j < 64 → q.getD (64 * i + j) (0 : Int) = ((q.drop (64 * i)).take 64).getD j 0 := fun j hj => by
    simp only [List.getD_eq_getElem?_getD, List.getElem?_take_of_lt hj, List.getElem?_drop]
  have hbp : ∀ n ∈ (q.drop (64 * i)).take 64, byte n := fun n hn => hb n (List.mem_of_mem_drop (List.mem_of_mem_take hn))
  generalize hP : (q.drop (64 * i)).take 64 = p at *
  have e64 : iadd .i64 ((64 * i : Nat) : Int) 64 = ((64 * (i + 1) : Nat) : Int) := by rw [iadd64 (by omega)]; omega
  simp only [r01_Sum.s4b]
  rw [cond_t (ilt_iff.2 (by omega)), rw_l6 tH gv_dparts z q p _ (64 * i) (by omega) hp hpl hbp (by omega)]
  dsimp only
  rw [rw_l10 tH gv_dparts z q _ _ _ (words_length p)]
  dsimp only
  unfold blockW
  have hws : (sched 48 (words p)).length = 64 := by rw [sched_length, words_length]
  have h12 := fun k => rw_l12 tH z q (tI v.list) ((64 * i : Nat) : Int) (sched 48 (words p)) hws v k
  generalize rounds (kW.zip (sched 48 (words p))) v = u at h12 ⊢
  obtain ⟨a, b, c, d, e, f, g, h⟩ := v
  obtain ⟨a', b', c', d', e', f', g', h'⟩ := u
  simp only [vS, vX] at h12
  have g0 : (tI (V8.list (a, b, c, d, e, f, g, h))).getD 0 (0 : Int) = wI a := rfl
  have g1 : (tI (V8.list (a, b, c, d, e, f, g, h))).getD 1 (0 : Int) = wI b := rfl
  have g2 : (tI (V8.list (a, b, c, d, e, f, g, h))).getD 2 (0 : Int) = wI c := rfl
  have g3 : (tI (V8.list (a, b, c, d, e, f, g, h))).getD 3 (0 : Int) = wI d := rfl
  have g4 : (tI (V8.list (a, b, c, d, e, f, g, h))).getD 4 (0 : Int) = wI e := rfl
  have g5 : (tI (V8.list (a, b, c, d, e, f, g, h))).getD 5 (0 : Int) = wI f := rfl
  have g6 : (tI (V8.list (a, b, c, d, e, f, g, h))).getD 6 (0 : Int) = wI g := rfl
  have g7 : (tI (V8.list (a, b, c, d, e, f, g, h))).getD 7 (0 : Int) = wI h := rfl
  rw [g0, g1, g2, g3, g4, g5, g6, g7]
  rw [h12]
  dsimp only
  rw [e64]
  refine congrArg κ ?_
  refine congrArg (fun t => (((tH, gv_dparts, ()), (z, ()), q, (t, ()), ((64 * (i + 1) : Nat) : Int), ()) : (List Int × List Int × Unit) × (List Int × Unit) × List Int × (List Int × Unit) × Int × Unit)) ?_
  show [iadd .u32 (wI a) (wI a'), iadd .u32 (wI b) (wI b'), iadd .u32 (wI c) (wI c'), iadd .u32 (wI d) (wI d'), iadd .u32 (wI e) (wI e'), iadd .u32 (wI f) (wI f'), iadd .u32 (wI g) (wI g'), iadd .u32 (wI h) (wI h')] = _
  simp only [wadd]
  rfl
theorem r_loop (q : List Int) (m : Nat) (hq : q.length = 64 * m) (hm : m ≤ 60000) (hb : ∀ n ∈ q, byte n) (v : V8) (kx) : r01_Sum.l4 ((tH, gv_dparts, ()), (z, ()), q, (tI v.list, ()), 0, ()) kx = kx ((z, ()), (tI (blocksW m v q).list, ()), ()) := by
  suffices h : r01_Sum.l4 ((tH, gv_dparts, ()), (z, ()), q, (tI (blocksW 0 v q).list, ()), ((64 * 0 : Nat) : Int), ()) kx = kx ((z, ()), (tI (blocksW m v q).list, ()), ()) by exact h
  refine traj (fun i => ((tH, gv_dparts, ()), (z, ()), q, (tI (blocksW i v q).list, ()), ((64 * i : Nat) : Int), ())) _ m (fun i hi κ => ?_) (fun κ => ?_) _ (by show m < _ + _ + 1048576; omega)
  · show r01_Sum.s4b r01_Sum.l6 r01_Sum.l10 r01_Sum.l12 kx _ κ = _
    rw [r_blk tH z q i m hi hm hq hb, blocksW_succ]
  · show r01_Sum.s4b r01_Sum.l6 r01_Sum.l10 r01_Sum.l12 kx _ κ = _
    simp only [r01_Sum.s4b]
    rw [cond_f (ilt_f.2 (by omega))]
theorem flat_at4 : ∀ (ws : List Int) (i : Nat), i < 4 * ws.length → (ws.flatMap oB)[i]? = some (IntKind.wrap .u8 (ishr .u32 (ws.getD (i / 4) 0) ((24 - 8 * (i % 4) : Nat) : Int)))
  | [], i, h => by simp at h
  | w :: ws, i, h => by
    by_cases hi : i < 4
    · have hc : i = 0 ∨ i = 1 ∨ i = 2 ∨ i = 3 := by omega
      rcases hc with rfl | rfl | rfl | rfl <;> rfl
    · rw [List.flatMap_cons, List.getElem?_append_right (by simp [oB]; omega)]
      have := flat_at4 ws (i - 4) (by simp at h; omega)
      rw [show (oB w).length = 4 from rfl, this, show i / 4 = (i - 4) / 4 + 1 by omega, show (i - 4) % 4 = i % 4 by omega]
      rfl
theorem r_out (v : V8) (kx) : r01_Sum.l14 ((z, ()), (tI v.list, ()), (List.replicate 32 (0 : Int), ()), 0, ()) kx = kx ((z, ()), (v.list.flatMap outB, ()), ()) := by
  have e : (tI v.list).flatMap oB = v.list.flatMap outB := by
    rw [tI, List.flatMap_map, show (fun x => oB (wI x)) = outB from funext oB_eq]
  rw [← e]
  have hwl : (tI v.list).length = 8 := by rw [tI_length]; rfl
  generalize tI v.list = ws at *
  have hlen : (ws.flatMap oB).length = 32 := by
    have : ∀ l : List Int, (l.flatMap oB).length = 4 * l.length := fun l => by
      induction l with
      | nil => rfl
      | cons a l ih => simp [List.flatMap_cons, oB, ih]; omega
    rw [this, hwl]
  have e0 : (List.replicate 32 (0 : Int)) = (ws.flatMap oB).take 0 ++ List.replicate (32 - 0) 0 := by simp
  rw [e0]
  refine traj (fun i => ((z, ()), (ws, ()), ((ws.flatMap oB).take i ++ List.replicate (32 - i) (0 : Int), ()), (i : Int), ())) _ 32 (fun i hi κ => ?_) (fun κ => ?_) _ (by show 32 < _ + 1048576; omega)
  · show r01_Sum.s14b kx _ κ = _
    have q1 : iquo .i64 (i : Int) 4 = ((i / 4 : Nat) : Int) := by
      unfold iquo
      rw [show ((i : Int)).tdiv 4 = ((i / 4 : Nat) : Int) from rfl]
      exact IntWalk.i64_in _ (by omega)
    have q2 := irem64 i 4
    simp only [show ((4 : Nat) : Int) = 4 from rfl] at q2
    have q3 : isub .i64 24 (imul .i64 8 ((i % 4 : Nat) : Int)) = ((24 - 8 * (i % 4) : Nat) : Int) := by rw [imul64 (by omega), isub64 (by omega)]; omega
    have e4 : iadd .i64 (i : Int) 1 = ((i + 1 : Nat) : Int) := by rw [iadd64 (by omega)]; omega
    simp only [r01_Sum.s14b, q1, q2, q3, e4, Int.toNat_natCast]
    rw [cond_t (ilt_iff.2 (by omega)), chk_true (inB_iff.2 (by omega)), chk_true (ile_iff.2 (by omega)), chk_true (inB_iff.2 (by omega))]
    have hf := flat_at4 ws i (by omega)
    rw [show 32 - i = (32 - (i + 1)) + 1 by omega, set_grow _ _ _ _ _ (by rw [List.length_take, hlen]; omega), List.take_succ_eq_append_getElem (by omega)]
    rw [List.getElem?_eq_getElem (by omega)] at hf
    rw [Option.some.inj hf]
  · show r01_Sum.s14b kx _ κ = _
    simp only [r01_Sum.s14b]
    rw [cond_f (ilt_f.2 (by omega)), List.take_of_length_le (by omega)]
    simp
end
theorem lenB_byte (n : Nat) : ∀ x ∈ lenB n, byte x := fun x hx => by
  simp only [lenB, List.map_cons, List.map_nil, List.mem_cons, List.not_mem_nil, or_false] at hx
  unfold byte
  rcases hx with rfl | rfl | rfl | rfl | rfl | rfl | rfl | rfl <;> omega
theorem padded_byte (p : List Int) (hb : ∀ n ∈ p, byte n) : ∀ n ∈ padded p, byte n := fun n hn => by
  simp only [padded, List.mem_append, List.mem_singleton, List.mem_replicate] at hn
  rcases hn with ((hn | rfl) | ⟨_, rfl⟩) | hn
  · exact hb n hn
  · exact ⟨by omega, by omega⟩
  · exact ⟨by omega, by omega⟩
  · exact lenB_byte _ n hn
theorem rsum_main (l0 l2 l4 l14) (x : List Int) (hx : x.length ≤ 1000000) (hb : ∀ n ∈ x, byte n)
    (h0 : ∀ tH tK z x : List Int, x.length ≤ 1000000 → ∀ kx, l0 (x, (tH, tK, ()), (z, ()), x ++ [128], ()) kx = kx (x, (tH, tK, ()), (z, ()), x ++ [128] ++ List.replicate (padN x.length) 0, ()))
    (h2 : ∀ tH tK z x q : List Int, x.length ≤ 1000000 → q.length ≤ 2000000 → ∀ kx, l2 ((tH, tK, ()), (z, ()), q, ((x.length * 8 : Nat) : Int), 7, ()) kx = kx ((tH, tK, ()), (z, ()), q ++ lenB x.length, ()))
    (h4 : ∀ (tH z q : List Int) (m : Nat), q.length = 64 * m → m ≤ 60000 → (∀ n ∈ q, byte n) → ∀ (v : V8) kx, l4 ((tH, gv_dparts, ()), (z, ()), q, (tI v.list, ()), 0, ()) kx = kx ((z, ()), (tI (blocksW m v q).list, ()), ()))
    (h6 : ∀ (z : List Int) (v : V8) kx, l14 ((z, ()), (tI v.list, ()), (List.replicate 32 (0 : Int), ()), 0, ()) kx = kx ((z, ()), (v.list.flatMap outB, ()), ())) :
    r01_Sum.b l0 l2 l4 l14 ((gv_dfirst, gv_dparts, ()), x, ()) = some (sha x) := by
  have hp : padN x.length < 64 := Nat.mod_lt _ (by omega)
  have hpl : (padded x).length = x.length + 1 + padN x.length + 8 := by simp [padded, lenB]; omega
  simp only [r01_Sum.b]
  rw [chk_true (fits_iff.2 (by omega)), chk_true (fits_iff.2 (by omega)), h0 _ _ _ x hx]
  dsimp only
  have e1 : imul .u64 (IntKind.wrap .u64 (x.length : Int)) 8 = ((x.length * 8 : Nat) : Int) := by
    unfold imul
    rw [wrapU (k := .u64) rfl, wrapU (k := .u64) rfl]
    show ((x.length : Int) % 18446744073709551616 * 8) % 18446744073709551616 = _
    omega
  rw [e1, h2 _ _ _ x _ hx (by simp; omega)]
  dsimp only
  rw [show x ++ [128] ++ List.replicate (padN x.length) 0 ++ lenB x.length = padded x from rfl, iv_eq, h4 _ _ _ ((padded x).length / 64) (padded_len x) (by omega) (padded_byte x hb)]
  dsimp only
  rw [h6]
  rfl
theorem rsum_eq (x : List Int) (hx : x.length ≤ 1000000) (hb : ∀ n ∈ x, byte n) : r01_Sum ((gv_dfirst, gv_dparts, ()), x, ()) = some (sha x) :=
  rsum_main _ _ _ _ x hx hb (fun tH tK z x hx kx => rpad_l0 tH tK z x hx kx) (fun tH tK z x q hx hq kx => rlen_l2 tH tK z x q hx hq kx) (fun tH z q m hq hm hb v kx => r_loop tH z q m hq hm hb v kx) (fun z v kx => r_out z v kx)
end Go.Px.Pu
