/- The reference's Sum is SHA-256. -/
import Derived.Test.YtgmfjbbhdnfapaaDoorPuShaC
set_option linter.unusedVariables false
set_option linter.unusedSimpArgs false
namespace Go.Px.Pu
open Go Go.Px

theorem turn_go (x : W) (n k : Nat) (h : k + n = 32) (he : r01_turn (wI x, (n : Int), ()) = some (ior .u32 (ishr .u32 (wI x) (n : Int)) (ishl .u32 (wI x) (k : Int)))) : r01_turn (wI x, (n : Int), ()) = some (wI (rotr x n)) := by
  rw [he, rotR x n k h]
theorem turn7 (x : W) : r01_turn (wI x, 7, ()) = some (wI (rotr x 7)) := turn_go x 7 25 rfl (by kernel_rfl)
theorem turn18 (x : W) : r01_turn (wI x, 18, ()) = some (wI (rotr x 18)) := turn_go x 18 14 rfl (by kernel_rfl)
theorem turn17 (x : W) : r01_turn (wI x, 17, ()) = some (wI (rotr x 17)) := turn_go x 17 15 rfl (by kernel_rfl)
theorem turn19 (x : W) : r01_turn (wI x, 19, ()) = some (wI (rotr x 19)) := turn_go x 19 13 rfl (by kernel_rfl)
theorem turn6 (x : W) : r01_turn (wI x, 6, ()) = some (wI (rotr x 6)) := turn_go x 6 26 rfl (by kernel_rfl)
theorem turn11 (x : W) : r01_turn (wI x, 11, ()) = some (wI (rotr x 11)) := turn_go x 11 21 rfl (by kernel_rfl)
theorem turn25 (x : W) : r01_turn (wI x, 25, ()) = some (wI (rotr x 25)) := turn_go x 25 7 rfl (by kernel_rfl)
theorem turn2 (x : W) : r01_turn (wI x, 2, ()) = some (wI (rotr x 2)) := turn_go x 2 30 rfl (by kernel_rfl)
theorem turn13 (x : W) : r01_turn (wI x, 13, ()) = some (wI (rotr x 13)) := turn_go x 13 19 rfl (by kernel_rfl)
theorem turn22 (x : W) : r01_turn (wI x, 22, ()) = some (wI (rotr x 22)) := turn_go x 22 10 rfl (by kernel_rfl)
theorem ch_or (e f g : W) : (e &&& f) ||| (~~~ e &&& g) = chW e f g := by
  unfold chW
  apply BitVec.eq_of_getLsbD_eq
  intro i hi
  simp only [BitVec.getLsbD_or, BitVec.getLsbD_xor, BitVec.getLsbD_and, BitVec.getLsbD_not]
  cases e.getLsbD i <;> cases f.getLsbD i <;> cases g.getLsbD i <;> simp
theorem maj_or (a b c : W) : (a &&& b) ||| (a &&& c) ||| (b &&& c) = majW a b c := by
  unfold majW
  apply BitVec.eq_of_getLsbD_eq
  intro i hi
  simp only [BitVec.getLsbD_or, BitVec.getLsbD_xor, BitVec.getLsbD_and]
  cases a.getLsbD i <;> cases b.getLsbD i <;> cases c.getLsbD i <;> rfl

section
variable (tH tK z : List Int)
theorem rpad_l0 (x : List Int) (hx : x.length ≤ 1000000) (kx) : r01_Sum.l0 (x, (tH, tK, ()), (z, ()), x ++ [128], ()) kx = kx (x, (tH, tK, ()), (z, ()), x ++ [128] ++ List.replicate (padN x.length) 0, ()) := by
  have e : x ++ [128] = x ++ [128] ++ List.replicate 0 (0 : Int) := by simp
  have hp : padN x.length < 64 := Nat.mod_lt _ (by omega)
  rw [e]
  refine traj (fun i => (x, (tH, tK, ()), (z, ()), x ++ [128] ++ List.replicate i 0, ())) _ (padN x.length) (fun i hi κ => ?_) (fun κ => ?_) _ (by show _ < _ + _ + 1048576; omega)
  · show r01_Sum.s0b kx _ κ = _
    have hl : (x ++ [128] ++ List.replicate i (0 : Int)).length = x.length + 1 + i := by simp; omega
    simp only [r01_Sum.s0b, hl]
    have := irem64 (x.length + 1 + i) 64
    simp only [show ((64 : Nat) : Int) = 64 from rfl] at this
    rw [this, cond_t (ine_iff.2 (by unfold padN at hi; omega)), chk_true (fits_iff.2 (by omega))]
    rw [List.append_assoc _ (List.replicate i 0), show [(0 : Int)] = List.replicate 1 0 from rfl, List.replicate_append_replicate]
  · show r01_Sum.s0b kx _ κ = _
    have hl : (x ++ [128] ++ List.replicate (padN x.length) (0 : Int)).length = x.length + 1 + padN x.length := by simp; omega
    simp only [r01_Sum.s0b, hl]
    have := irem64 (x.length + 1 + padN x.length) 64
    simp only [show ((64 : Nat) : Int) = 64 from rfl] at this
    rw [this, cond_f (ine_f.2 (by unfold padN; omega))]
    simp
theorem rlen_l2 (x q : List Int) (hx : x.length ≤ 1000000) (hq : q.length ≤ 2000000) (kx) : r01_Sum.l2 ((tH, tK, ()), (z, ()), q, ((x.length * 8 : Nat) : Int), 7, ()) kx = kx ((tH, tK, ()), (z, ()), q ++ lenB x.length, ()) := by
  have e : q = q ++ (lenB x.length).take 0 := by simp
  have hlen : (lenB x.length).length = 8 := rfl
  suffices h : r01_Sum.l2 ((tH, tK, ()), (z, ()), q ++ (lenB x.length).take 0, ((x.length * 8 : Nat) : Int), 7 - ((0 : Nat) : Int), ()) kx = kx ((tH, tK, ()), (z, ()), q ++ lenB x.length, ()) by rw [← e] at h; exact h
  refine traj (fun i => ((tH, tK, ()), (z, ()), q ++ (lenB x.length).take i, ((x.length * 8 : Nat) : Int), 7 - (i : Int), ())) _ 8 (fun i hi κ => ?_) (fun κ => ?_) _ (by show 8 < _ + _ + _ + 1048576; omega)
  · show r01_Sum.s2b kx _ κ = _
    have hl : (q ++ (lenB x.length).take i).length = q.length + i := by simp [hlen]; omega
    have e1 : isub .i64 (7 - (i : Int)) 1 = 7 - ((i + 1 : Nat) : Int) := by rw [isub64 (by omega)]; omega
    have e2 : imul .i64 8 (7 - (i : Int)) = ((56 - 8 * i : Nat) : Int) := by rw [imul64 (by omega)]; omega
    simp only [r01_Sum.s2b, hl, e1, e2]
    rw [cond_t (ige_iff.2 (by omega)), chk_true (ile_iff.2 (by omega)), chk_true (fits_iff.2 (by omega))]
    rw [u8_shr _ _ (by omega), List.append_assoc]
    have e3 : (lenB x.length).take (i + 1) = (lenB x.length).take i ++ [((x.length * 8 / 2 ^ (56 - 8 * i) % 256 : Nat) : Int)] := by
      rw [List.take_succ_eq_append_getElem (by rw [hlen]; exact hi)]
      congr 2
      have hc : i = 0 ∨ i = 1 ∨ i = 2 ∨ i = 3 ∨ i = 4 ∨ i = 5 ∨ i = 6 ∨ i = 7 := by omega
      rcases hc with rfl | rfl | rfl | rfl | rfl | rfl | rfl | rfl <;> rfl
    rw [e3]
  · show r01_Sum.s2b kx _ κ = _
    simp only [r01_Sum.s2b]
    rw [cond_f (ige_f.2 (by omega)), List.take_of_length_le (by rw [hlen]; omega)]
/-! ### a word out of four bytes -/
def acc4 (p : List Int) (i : Nat) : Nat → Int
  | 0 => 0
  | k + 1 => iadd .u32 (imul .u32 (acc4 p i k) 256) (IntKind.wrap .u32 (p.getD (4 * i + k) 0))
theorem or4 (a b c d : Nat) (ha : a < 256) (hb : b < 256) (hc : c < 256) (hd : d < 256) : (a <<< 24 ||| b <<< 16 ||| c <<< 8 ||| d) = a * 16777216 + b * 65536 + c * 256 + d := by
  have h1 : c <<< 8 + d = c <<< 8 ||| d := Nat.shiftLeft_add_eq_or_of_lt (i := 8) (by omega) c
  have h2 : b <<< 16 + (c <<< 8 + d) = b <<< 16 ||| (c <<< 8 + d) := Nat.shiftLeft_add_eq_or_of_lt (i := 16) (by rw [Nat.shiftLeft_eq]; omega) b
  have h3 : a <<< 24 + (b <<< 16 + (c <<< 8 + d)) = a <<< 24 ||| (b <<< 16 + (c <<< 8 + d)) := Nat.shiftLeft_add_eq_or_of_lt (i := 24) (by rw [Nat.shiftLeft_eq, Nat.shiftLeft_eq]; omega) a
  rw [Nat.or_assoc, Nat.or_assoc, ← h1, ← h2, ← h3]
  simp only [Nat.shiftLeft_eq]
  omega
theorem acc4_eq (p : List Int) (hb : ∀ n ∈ p, byte n) (i : Nat) (hi : 4 * i + 3 < p.length) : acc4 p i 4 = wI (word p i) := by
  have hB : ∀ j, j < p.length → byte (p.getD j 0) := fun j hj => hb _ (getD_mem hj)
  have b0 := hB (4 * i) (by omega)
  have b1 := hB (4 * i + 1) (by omega)
  have b2 := hB (4 * i + 2) (by omega)
  have b3 := hB (4 * i + 3) (by omega)
  simp only [acc4, Nat.add_zero]
  unfold word
  generalize p.getD (4 * i) 0 = a at *
  generalize p.getD (4 * i + 1) 0 = b at *
  generalize p.getD (4 * i + 2) 0 = c at *
  generalize p.getD (4 * i + 3) 0 = d at *
  obtain ⟨a0, a1⟩ := b0
  obtain ⟨b0, b1⟩ := b1
  obtain ⟨c0, c1⟩ := b2
  obtain ⟨d0, d1⟩ := b3
  have hw : ∀ n : Int, 0 ≤ n → n < 4294967296 → IntKind.wrap .u32 n = n := fun n h0 h1 => by
    rw [wrapU (k := .u32) rfl]; show n % 4294967296 = n; omega
  have hn : ∀ n : Int, 0 ≤ n → n < 4294967296 → (BitVec.ofInt 32 n).toNat = n.toNat := fun n h0 h1 => by
    rw [BitVec.toNat_ofInt]
    congr 1
    show n % 4294967296 = n; omega
  unfold iadd imul
  rw [hw a a0 (by omega), hw b b0 (by omega), hw c c0 (by omega), hw d d0 (by omega)]
  rw [hw (0 * 256) (by omega) (by omega), hw (0 * 256 + a) (by omega) (by omega), hw ((0 * 256 + a) * 256) (by omega) (by omega), hw ((0 * 256 + a) * 256 + b) (by omega) (by omega), hw (((0 * 256 + a) * 256 + b) * 256) (by omega) (by omega),
    hw (((0 * 256 + a) * 256 + b) * 256 + c) (by omega) (by omega), hw ((((0 * 256 + a) * 256 + b) * 256 + c) * 256) (by omega) (by omega), hw ((((0 * 256 + a) * 256 + b) * 256 + c) * 256 + d) (by omega) (by omega)]
  unfold wI
  simp only [BitVec.toNat_or, BitVec.toNat_shiftLeft]
  rw [hn a a0 (by omega), hn b b0 (by omega), hn c c0 (by omega), hn d d0 (by omega)]
  have m1 : a.toNat <<< 24 % 2 ^ 32 = a.toNat <<< 24 := Nat.mod_eq_of_lt (by rw [Nat.shiftLeft_eq]; omega)
  have m2 : b.toNat <<< 16 % 2 ^ 32 = b.toNat <<< 16 := Nat.mod_eq_of_lt (by rw [Nat.shiftLeft_eq]; omega)
  have m3 : c.toNat <<< 8 % 2 ^ 32 = c.toNat <<< 8 := Nat.mod_eq_of_lt (by rw [Nat.shiftLeft_eq]; omega)
  rw [m1, m2, m3, or4 _ _ _ _ (by omega) (by omega) (by omega) (by omega)]
  omega
theorem getD_set (l : List Int) (i : Nat) (x : Int) (h : i < l.length) : (l.set i x).getD i (0 : Int) = x := by
  rw [List.getD_eq_getElem?_getD, List.getElem?_set_self h]; rfl
theorem rw_l8 (q p : List Int) (v : List Int) (at' : Nat) (hat : at' ≤ 4000000) (hp : ∀ j, j < 64 → q.getD (at' + j) (0 : Int) = p.getD j 0) (hq : at' + 64 ≤ q.length) (A : List Int) (hA : A.length = 64) (i : Nat) (hi : i < 16) (hz : A.getD i (0 : Int) = 0) (kx) :
    r01_Sum.l8 ((tH, tK, ()), (z, ()), q, (v, ()), (at' : Int), A, (i : Int), 0, ()) kx = kx ((tH, tK, ()), (z, ()), q, (v, ()), (at' : Int), A.set i (acc4 p i 4), (i : Int), ()) := by
  have hA0 : A = A.set i (acc4 p i 0) := by
    apply List.ext_getElem?
    intro j
    by_cases hj : j = i
    · subst hj
      rw [List.getElem?_set_self (by omega), List.getElem?_eq_getElem (by omega)]
      rw [List.getD_eq_getElem?_getD, List.getElem?_eq_getElem (by omega)] at hz
      show some A[j] = some 0
      rw [← hz]; rfl
    · rw [List.getElem?_set_ne (Ne.symm hj)]
  suffices h : r01_Sum.l8 ((tH, tK, ()), (z, ()), q, (v, ()), (at' : Int), A.set i (acc4 p i 0), (i : Int), ((0 : Nat) : Int), ()) kx = kx ((tH, tK, ()), (z, ()), q, (v, ()), (at' : Int), A.set i (acc4 p i 4), (i : Int), ()) by rw [← hA0] at h; exact h
  refine traj (fun k => ((tH, tK, ()), (z, ()), q, (v, ()), (at' : Int), A.set i (acc4 p i k), (i : Int), (k : Int), ())) _ 4 (fun k hk κ => ?_) (fun κ => ?_) _ (by show 4 < _ + _ + _ + _ + _ + 1048576; omega)
  · show r01_Sum.s8b kx _ κ = _
    have e0 : imul .i64 4 (i : Int) = ((4 * i : Nat) : Int) := by rw [imul64 (by omega)]; omega
    have e1 : iadd .i64 (at' : Int) ((4 * i : Nat) : Int) = ((at' + 4 * i : Nat) : Int) := by rw [iadd64 (by omega)]; omega
    have e2 : iadd .i64 ((at' + 4 * i : Nat) : Int) (k : Int) = ((at' + (4 * i + k) : Nat) : Int) := by rw [iadd64 (by omega)]; omega
    have e3 : iadd .i64 (k : Int) 1 = ((k + 1 : Nat) : Int) := by rw [iadd64 (by omega)]; omega
    simp only [r01_Sum.s8b, e0, e1, e2, e3, List.length_set, hA, Int.toNat_natCast]
    rw [cond_t (ilt_iff.2 (by omega)), chk_true (inB_iff.2 (by omega)), chk_true (inB_iff.2 (by omega)), chk_true (inB_iff.2 (by omega)), getD_set _ _ _ (by omega), List.set_set, hp _ (by omega)]
    rfl
  · show r01_Sum.s8b kx _ κ = _
    simp only [r01_Sum.s8b]
    rw [cond_f (ilt_f.2 (by omega))]
theorem rw_l6 (q p : List Int) (v : List Int) (at' : Nat) (hat : at' ≤ 4000000) (hp : ∀ j, j < 64 → q.getD (at' + j) (0 : Int) = p.getD j 0) (hpl : p.length = 64) (hb : ∀ n ∈ p, byte n) (hq : at' + 64 ≤ q.length) (kx) :
    r01_Sum.l6 ((tH, tK, ()), (z, ()), q, (v, ()), (at' : Int), List.replicate 64 (0 : Int), 0, ()) kx = kx ((tH, tK, ()), (z, ()), q, (v, ()), (at' : Int), tI (words p ++ List.replicate 48 0), ()) := by
  have e : List.replicate 64 (0 : Int) = tI ((words p).take 0 ++ List.replicate (64 - 0) 0) := by rw [List.take_zero, List.nil_append, tI_zero]
  rw [e]
  refine traj (fun i => ((tH, tK, ()), (z, ()), q, (v, ()), (at' : Int), tI ((words p).take i ++ List.replicate (64 - i) 0), (i : Int), ())) _ 16 (fun i hi κ => ?_) (fun κ => ?_) _ (by show 16 < _ + _ + _ + _ + 1048576; omega)
  · show r01_Sum.s6b r01_Sum.l8 kx _ κ = _
    have e4 : iadd .i64 (i : Int) 1 = ((i + 1 : Nat) : Int) := by rw [iadd64 (by omega)]; omega
    simp only [r01_Sum.s6b]
    rw [cond_t (ilt_iff.2 (by omega)), rw_l8 tH tK z q p v at' hat hp hq _ (by rw [tI_length]; simp [words_length]; omega) i hi (by
      rw [tI_getD, List.getD_eq_getElem?_getD, List.getElem?_append_right (by simp [words_length]; omega)]
      rw [List.getElem?_replicate]
      split <;> rfl)]
    dsimp only
    rw [e4, acc4_eq p hb i (by omega), tI_set, show 64 - i = (64 - (i + 1)) + 1 by omega, set_grow _ _ _ _ _ (by simp [words_length]; omega), words_take p i hi]
  · show r01_Sum.s6b r01_Sum.l8 kx _ κ = _
    simp only [r01_Sum.s6b]
    rw [cond_f (ilt_f.2 (by omega)), List.take_of_length_le (by rw [words_length]; omega)]
theorem rw_l10 (q : List Int) (v : List Int) (a : Int) (l : List W) (hl : l.length = 16) (kx) : r01_Sum.l10 ((tH, tK, ()), (z, ()), q, (v, ()), a, tI (l ++ List.replicate 48 0), 16, ()) kx = kx ((tH, tK, ()), (z, ()), q, (v, ()), a, tI (sched 48 l), ()) := by
  refine traj (fun i => ((tH, tK, ()), (z, ()), q, (v, ()), a, tI (sched i l ++ List.replicate (48 - i) 0), ((16 + i : Nat) : Int), ())) _ 48 (fun i hi κ => ?_) (fun κ => ?_) _ (by show 48 < _ + _ + _ + _ + 1048576; omega)
  · have e15 : isub .i64 ((16 + i : Nat) : Int) 15 = ((i + 1 : Nat) : Int) := by rw [isub64 (by omega)]; omega
    have e2 : isub .i64 ((16 + i : Nat) : Int) 2 = ((i + 14 : Nat) : Int) := by rw [isub64 (by omega)]; omega
    have e16 : isub .i64 ((16 + i : Nat) : Int) 16 = ((i : Nat) : Int) := by rw [isub64 (by omega)]; omega
    have e7 : isub .i64 ((16 + i : Nat) : Int) 7 = ((i + 9 : Nat) : Int) := by rw [isub64 (by omega)]; omega
    have e4 : iadd .i64 ((16 + i : Nat) : Int) 1 = ((16 + (i + 1) : Nat) : Int) := by rw [iadd64 (by omega)]; omega
    have hlen := sched_length i l
    rw [hl] at hlen
    have hL : (tI (sched i l ++ List.replicate (48 - i) 0)).length = 64 := by rw [tI_length]; simp [hlen]; omega
    show r01_Sum.s10b r01_turn kx _ κ = _
    simp only [r01_Sum.s10b, e15, e2, e16, e7, e4, Int.toNat_natCast, tI_getD, hL]
    rw [getD_app _ _ _ _ (by omega), getD_app _ _ _ _ (by omega), getD_app _ _ _ _ (by omega), getD_app _ _ _ _ (by omega)]
    have i1 : inB ((i + 1 : Nat) : Int) ((64 : Nat) : Int) = true := inB_iff.2 (by omega)
    have i2 : inB ((i + 14 : Nat) : Int) ((64 : Nat) : Int) = true := inB_iff.2 (by omega)
    have i3 : inB ((i : Nat) : Int) ((64 : Nat) : Int) = true := inB_iff.2 (by omega)
    have i4 : inB ((i + 9 : Nat) : Int) ((64 : Nat) : Int) = true := inB_iff.2 (by omega)
    have i5 : inB ((16 + i : Nat) : Int) ((64 : Nat) : Int) = true := inB_iff.2 (by omega)
    rw [cond_t (ilt_iff.2 (by omega)), turn7, turn18, turn17, turn19]
    simp only [Option.bind_some, i1, i2, i3, i4, i5, chk, cond_true]
    have z3 := fun x => wshr x 3 (by omega)
    have z10 := fun x => wshr x 10 (by omega)
    simp only [show ((3 : Nat) : Int) = 3 from rfl] at z3
    simp only [show ((10 : Nat) : Int) = 10 from rfl] at z10
    simp only [z3, z10, wxor, wadd, tI_set]
    rw [show 48 - i = (48 - (i + 1)) + 1 by omega, set_grow _ _ _ _ _ hlen, sched_succ]
    have hw : wNext (sched i l) = (sched i l).getD i 0 + (rotr ((sched i l).getD (i + 1) 0) 7 ^^^ rotr ((sched i l).getD (i + 1) 0) 18 ^^^ (sched i l).getD (i + 1) 0 >>> 3) + (sched i l).getD (i + 9) 0 + (rotr ((sched i l).getD (i + 14) 0) 17 ^^^ rotr ((sched i l).getD (i + 14) 0) 19 ^^^ (sched i l).getD (i + 14) 0 >>> 10) := by
      unfold wNext sg0 sg1
      rw [hlen, show 16 + i - 16 = i by omega, show 16 + i - 15 = i + 1 by omega, show 16 + i - 7 = i + 9 by omega, show 16 + i - 2 = i + 14 by omega]
    rw [hw]
  · show r01_Sum.s10b r01_turn kx _ κ = _
    simp only [r01_Sum.s10b]
    rw [cond_f (ilt_f.2 (by omega))]
    simp
abbrev SS := (List Int × List Int × Unit) × (List Int × Unit) × List Int × (List Int × Unit) × Int × List Int × Int × Int × Int × Int × Int × Int × Int × Int × Int × Unit
abbrev SX := (List Int × List Int × Unit) × (List Int × Unit) × List Int × (List Int × Unit) × Int × Int × Int × Int × Int × Int × Int × Int × Int × Unit
def vS (q : List Int) (v : List Int) (a' : Int) (ws : List Int) (j : Int) : V8 → SS
  | (a, b, c, d, e, f, g, h) => (((tH, gv_dparts, ()), (z, ()), q, (v, ()), a', ws, wI a, wI b, wI c, wI d, wI e, wI f, wI g, wI h, j, ()) : (List Int × List Int × Unit) × (List Int × Unit) × List Int × (List Int × Unit) × Int × List Int × Int × Int × Int × Int × Int × Int × Int × Int × Int × Unit)
def vX (q : List Int) (v : List Int) (a' : Int) : V8 → SX
  | (a, b, c, d, e, f, g, h) => (((tH, gv_dparts, ()), (z, ()), q, (v, ()), a', wI a, wI b, wI c, wI d, wI e, wI f, wI g, wI h, ()) : (List Int × List Int × Unit) × (List Int × Unit) × List Int × (List Int × Unit) × Int × Int × Int × Int × Int × Int × Int × Int × Int × Unit)
theorem r_rnd (q v : List Int) (a' : Int) (ws : List W) (hw : ws.length = 64) (i : Nat) (hi : i < 64) (u : V8) (kx κ) :
    r01_Sum.s12b r01_turn kx (vS tH z q v a' (tI ws) (i : Int) u) κ = κ (vS tH z q v a' (tI ws) ((i + 1 : Nat) : Int) (rnd (kW.getD i 0) (ws.getD i 0) u)) := by
  obtain ⟨a, b, c, d, e, f, g, h⟩ := u
  have e4 : iadd .i64 (i : Int) 1 = ((i + 1 : Nat) : Int) := by rw [iadd64 (by omega)]; omega
  simp only [vS, r01_Sum.s12b, e4, tI_length, hw]
  rw [cond_t (ilt_iff.2 (by omega)), turn6, turn11, turn25]
  simp only [Option.bind_some]
  rw [chk_true (inB_iff.2 (by omega)), chk_true (inB_iff.2 (by omega)), turn2, turn13, turn22]
  simp only [Option.bind_some, Int.toNat_natCast]
  rw [kW_getD i hi, tI_getD]
  simp only [wxor, wand, wor, wnot, wadd, ch_or, maj_or]
  have ht : ∀ x y s k m : W, (x + y + s + k + m : W) = x + y + s + k + m := fun _ _ _ _ _ => rfl
  have hadd : ∀ x y m : W, x + (y + m) = x + y + m := fun x y m => (BitVec.add_assoc x y m).symm
  simp only [rnd, bs0, bs1, hadd]
theorem rw_l12 (q v : List Int) (a' : Int) (ws : List W) (hw : ws.length = 64) (u : V8) (kx) : r01_Sum.l12 (vS tH z q v a' (tI ws) 0 u) kx = kx (vX tH z q v a' (rounds (kW.zip ws) u)) := by
  refine traj (fun i => vS tH z q v a' (tI ws) (i : Int) (rounds ((kW.zip ws).take i) u)) _ 64 (fun i hi κ => ?_) (fun κ => ?_) _ (by
    obtain ⟨a, b, c, d, e, f, g, h⟩ := u
    show 64 < _ + _ + _ + _ + _ + _ + _ + _ + _ + _ + _ + _ + 1048576; omega)
  · show r01_Sum.s12b r01_turn kx _ κ = _
    rw [r_rnd tH z q v a' ws hw i hi, zip_take hw i hi, rounds_append]
    rfl
  · show r01_Sum.s12b r01_turn kx _ κ = _
    rw [List.take_of_length_le (by rw [List.length_zip, kW_length, hw]; omega)]
    generalize rounds (kW.zip ws) u = y
    obtain ⟨a, b, c, d, e, f, g, h⟩ := y
    simp only [vS, vX, r01_Sum.s12b]
    rw [cond_f (ilt_f.2 (by omega))]
end
end Go.Px.Pu
