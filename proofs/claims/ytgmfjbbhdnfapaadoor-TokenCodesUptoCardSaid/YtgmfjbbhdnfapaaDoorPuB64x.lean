/- The reference's Base: six bits, one by one. -/
import Derived.Test.YtgmfjbbhdnfapaaDoorPuB64r
set_option linter.unusedVariables false
set_option linter.unusedSimpArgs false
namespace Go.Px.Pu
open Go Go.Px

def bit8 (l : List Int) (i : Nat) : Int := if i < 8 * l.length then l.getD (i / 8) 0 / 2 ^ (7 - i % 8) % 2 else 0
def accB (l : List Int) (g : Nat) : Nat → Int
  | 0 => 0
  | j + 1 => accB l g j * 2 + bit8 l (6 * g + j)
theorem bit8_01 (l : List Int) (i : Nat) : 0 ≤ bit8 l i ∧ bit8 l i ≤ 1 := by
  unfold bit8
  split <;> omega
theorem accB_lt (l : List Int) (g : Nat) : ∀ j, 0 ≤ accB l g j ∧ accB l g j < 2 ^ j
  | 0 => ⟨by simp [accB], by simp [accB]⟩
  | j + 1 => by
    have h := accB_lt l g j
    have b := bit8_01 l (6 * g + j)
    simp only [accB]
    rw [Int.pow_succ]
    omega
theorem irem64c (a b : Nat) : irem .i64 (a : Int) (b : Int) = ((a % b : Nat) : Int) := by
  unfold irem; rw [Int.tmod_eq_emod_of_nonneg (by omega)]; rfl
theorem iquo64 (a b : Nat) (h : a ≤ 9000000000000000000) : iquo .i64 (a : Int) (b : Int) = ((a / b : Nat) : Int) := by
  have e : Int.tdiv (a : Int) (b : Int) = ((a / b : Nat) : Int) := rfl
  have h2 : a / b ≤ a := Nat.div_le_self a b
  unfold iquo
  rw [e]
  generalize a / b = d at h2
  exact IntWalk.i64_in _ ⟨by omega, by omega⟩
theorem bitk : ∀ b : Fin 256, ∀ k : Fin 8, iand .i64 (IntKind.wrap .i64 (ishr .u8 ((b.val : Nat) : Int) ((k.val : Nat) : Int))) 1 = ((b.val : Nat) : Int) / 2 ^ k.val % 2 := by decide +kernel
theorem sign_eq {v : Int} (h : six6 v) : r04_sign (v, ()) = some (ch v) := by
  show (chk (inB v A64.size) <| some (byteAt A64 v.toNat)) = _
  rw [chk_true (ch_in h)]; rfl
theorem rb_l2 (kx) (l : List Int) (hb : ∀ n ∈ l, byte n) (hl : l.length ≤ 1000000) (t3 : List Int) (g : Nat) (hg : g ≤ 2000000) : r04_Base.l2 (l, t3, (g : Int), 0, imul .i64 (g : Int) 6, ()) kx = kx (l, t3, (g : Int), accB l g 6, ()) := by
  have e0 : imul .i64 (g : Int) 6 = ((6 * g : Nat) : Int) := by rw [imul64 (by omega)]; omega
  have e1 : imul .i64 (l.length : Int) 8 = ((8 * l.length : Nat) : Int) := by rw [imul64 (by omega)]; omega
  have e2 : iadd .i64 ((6 * g : Nat) : Int) 6 = ((6 * g + 6 : Nat) : Int) := by rw [iadd64 (by omega)]; omega
  rw [e0]
  unfold r04_Base.l2 r04_Base.s2
  refine traj (fun j => (l, t3, (g : Int), accB l g j, ((6 * g + j : Nat) : Int), ())) _ 6 (fun j hj κ => ?_) (fun κ => ?_) _ (by show 6 < _ + _ + _ + _ + _ + 1048576; omega)
  · have hacc := accB_lt l g j
    have hp : (2 : Int) ^ j ≤ 64 := by
      have : j ≤ 5 := by omega
      rcases j with _ | _ | _ | _ | _ | _ | j <;> first | omega | decide
    have e5 : iadd .i64 ((6 * g + j : Nat) : Int) 1 = ((6 * g + (j + 1) : Nat) : Int) := by rw [iadd64 (by omega)]; omega
    have e6 : imul .i64 (accB l g j) 2 = accB l g j * 2 := imul64 (by omega)
    simp only [r04_Base.s2b, e0, e1, e2, e5, e6]
    rw [cond_t (ilt_iff.2 (by omega))]
    by_cases hi : 6 * g + j < 8 * l.length
    · have q1 : iquo .i64 ((6 * g + j : Nat) : Int) 8 = (((6 * g + j) / 8 : Nat) : Int) := iquo64 _ 8 (by omega)
      have q2 : irem .i64 ((6 * g + j : Nat) : Int) 8 = (((6 * g + j) % 8 : Nat) : Int) := irem64c _ 8
      have q3 : isub .i64 7 (((6 * g + j) % 8 : Nat) : Int) = ((7 - (6 * g + j) % 8 : Nat) : Int) := by rw [isub64 (by omega)]; omega
      have hy : byte (l.getD ((6 * g + j) / 8) 0) := hb _ (getD_mem (by omega))
      rw [cond_t (ilt_iff.2 (by omega)), q1, q2, q3, chk_true (inB_iff.2 (by omega)), chk_true (by simp [ile]), Int.toNat_natCast]
      have hbit : iand .i64 (IntKind.wrap .i64 (ishr .u8 (l.getD ((6 * g + j) / 8) 0) ((7 - (6 * g + j) % 8 : Nat) : Int))) 1 = bit8 l (6 * g + j) := by
        unfold bit8
        rw [if_pos hi]
        obtain ⟨b, hb⟩ := fin_of (k := 256) hy.1 (by have := hy.2; omega)
        rw [← hb]
        exact bitk b ⟨7 - (6 * g + j) % 8, by omega⟩
      have b01 := bit8_01 l (6 * g + j)
      rw [hbit, iadd64 (by omega)]
      rfl
    · have hz : bit8 l (6 * g + j) = 0 := by unfold bit8; rw [if_neg hi]
      rw [cond_f (ilt_f.2 (by omega))]
      show κ _ = κ (l, t3, (g : Int), accB l g j * 2 + bit8 l (6 * g + j), _, ())
      rw [hz, Int.add_zero]
  · simp only [r04_Base.s2b, e0, e2]
    rw [cond_f (ilt_f.2 (by omega))]
def grp (l : List Int) (g : Nat) : Int := accB l g 6
theorem grp_six (l : List Int) (g : Nat) : six6 (grp l g) := by have := accB_lt l g 6; unfold six6 grp; omega
theorem rb_l0 (kx) (l : List Int) (hb : ∀ n ∈ l, byte n) (hl : l.length ≤ 1000000) (m : Nat) (hm : (8 * l.length + 5) / 6 < m) : loopN m (r04_Base.s0b r04_sign r04_Base.l2 kx) (l, [], 0, ()) = kx (((List.range ((8 * l.length + 5) / 6)).map (grp l)).map ch, ()) := by
  have e1 : imul .i64 (l.length : Int) 8 = ((8 * l.length : Nat) : Int) := by rw [imul64 (by omega)]; omega
  refine traj (fun g => (l, ((List.range g).map (grp l)).map ch, (g : Int), ())) _ ((8 * l.length + 5) / 6) (fun g hg κ => ?_) (fun κ => ?_) m hm
  · have e0 : imul .i64 (g : Int) 6 = ((6 * g : Nat) : Int) := by rw [imul64 (by omega)]; omega
    have e5 : iadd .i64 (g : Int) 1 = ((g + 1 : Nat) : Int) := by rw [iadd64 (by omega)]; omega
    simp only [r04_Base.s0b]
    rw [rb_l2 _ l hb hl _ g (by omega), e0, e1, cond_t (ilt_iff.2 (by omega))]
    simp only
    rw [show accB l g 6 = grp l g from rfl, sign_eq (grp_six l g)]
    simp only [Option.bind_some]
    rw [chk_true (fits64 (by simp; omega)), e5, List.range_succ]
    simp
  · have e0 : imul .i64 ((((8 * l.length + 5) / 6 : Nat)) : Int) 6 = ((6 * ((8 * l.length + 5) / 6) : Nat) : Int) := by rw [imul64 (by omega)]; omega
    simp only [r04_Base.s0b]
    rw [e0, e1, cond_f (ilt_f.2 (by omega))]
theorem rb_main (l0) (l : List Int) (L : List Int) (h0 : ∀ kx, l0 (l, [], 0, ()) kx = kx (L, ())) : r04_Base.b l0 (l, ()) = some (strOf L) := by
  simp only [r04_Base.b, h0]
theorem rbase_raw (l : List Int) (hb : ∀ n ∈ l, byte n) (hl : l.length ≤ 1000000) : r04_Base (l, ()) = some (strOf (((List.range ((8 * l.length + 5) / 6)).map (grp l)).map ch)) :=
  rb_main r04_Base.l0 l _ fun kx => by
    have := rb_l0 kx l hb hl (r04_Base.n0 (l, [], 0, ())) (by show (8 * l.length + 5) / 6 < _ + _ + _ + 1048576; omega)
    unfold r04_Base.l0 r04_Base.s0
    exact this
/-! ### the same groups -/
theorem bit_at (l : List Int) (k j : Nat) (hk : k < l.length) (hj : j < 8) (i : Nat) (hi : i = 8 * k + j) : bit8 l i = l.getD k 0 / 2 ^ (7 - j) % 2 := by
  subst hi
  unfold bit8
  rw [if_pos (by omega), show (8 * k + j) / 8 = k by omega, show (8 * k + j) % 8 = j by omega]
theorem bit_out (l : List Int) (i : Nat) (hi : 8 * l.length ≤ i) : bit8 l i = 0 := by unfold bit8; rw [if_neg (by omega)]
def encP (l : List Int) (k : Nat) (s : List Int × Int × Int) : Prop := s.1 = (List.range (8 * k / 6)).map (grp l) ∧ s.2.1 = accB l (8 * k / 6) (8 * k % 6) ∧ s.2.2 = ((8 * k % 6 : Nat) : Int)
theorem encP_step (l : List Int) (hb : ∀ n ∈ l, byte n) (k : Nat) (hk : k < l.length) (s : List Int × Int × Int) (h : encP l k s) : encP l (k + 1) (encS s (l.getD k 0)) := by
  have hy : byte (l.getD k 0) := hb _ (getD_mem hk)
  have B (j : Nat) (hj : j < 8) (i : Nat) (hi : i = 8 * k + j) := bit_at l k j hk hj i hi
  generalize l.getD k 0 = c at hy B
  unfold byte at hy
  obtain ⟨o, a, n⟩ := s
  obtain ⟨h1, h2, h3⟩ := h
  simp only at h1 h2 h3
  have h3k : k % 3 = 0 ∨ k % 3 = 1 ∨ k % 3 = 2 := by omega
  rcases h3k with r | r | r
  · obtain ⟨q, rfl⟩ : ∃ q, k = 3 * q := ⟨k / 3, by omega⟩
    rw [show 8 * (3 * q) / 6 = 4 * q by omega] at h1 h2
    rw [show 8 * (3 * q) % 6 = 0 by omega] at h2 h3
    have g : grp l (4 * q) = c / 4 := by
      unfold grp
      simp only [accB]
      rw [B 0 (by omega) _ (by omega), B 1 (by omega) _ (by omega), B 2 (by omega) _ (by omega), B 3 (by omega) _ (by omega), B 4 (by omega) _ (by omega), B 5 (by omega) _ (by omega)]
      omega
    have a2 : accB l (4 * q + 1) 2 = c % 4 := by
      simp only [accB]
      rw [B 6 (by omega) _ (by omega), B 7 (by omega) _ (by omega)]
      omega
    unfold encP
    rw [show 8 * (3 * q + 1) / 6 = 4 * q + 1 by omega, show 8 * (3 * q + 1) % 6 = 2 by omega, a2, List.range_succ, List.map_append, ← h1]
    subst h3
    refine ⟨?_, rfl, rfl⟩
    simp [encS, g]
  · obtain ⟨q, rfl⟩ : ∃ q, k = 3 * q + 1 := ⟨k / 3, by omega⟩
    rw [show 8 * (3 * q + 1) / 6 = 4 * q + 1 by omega] at h1 h2
    rw [show 8 * (3 * q + 1) % 6 = 2 by omega] at h2 h3
    have ge : grp l (4 * q + 1) = ((((accB l (4 * q + 1) 2 * 2 + bit8 l (6 * (4 * q + 1) + 2)) * 2 + bit8 l (6 * (4 * q + 1) + 3)) * 2 + bit8 l (6 * (4 * q + 1) + 4)) * 2 + bit8 l (6 * (4 * q + 1) + 5)) := rfl
    have g : grp l (4 * q + 1) = a * 16 + c / 16 := by
      rw [ge, ← h2]
      rw [B 0 (by omega) _ (by omega), B 1 (by omega) _ (by omega), B 2 (by omega) _ (by omega), B 3 (by omega) _ (by omega)]
      omega
    have a2 : accB l (4 * q + 2) 4 = c % 16 := by
      simp only [accB]
      rw [B 4 (by omega) _ (by omega), B 5 (by omega) _ (by omega), B 6 (by omega) _ (by omega), B 7 (by omega) _ (by omega)]
      omega
    unfold encP
    rw [show 8 * (3 * q + 1 + 1) / 6 = 4 * q + 2 by omega, show 8 * (3 * q + 1 + 1) % 6 = 4 by omega, a2, show 4 * q + 2 = (4 * q + 1) + 1 by omega, List.range_succ, List.map_append, ← h1]
    subst h3
    refine ⟨?_, rfl, rfl⟩
    simp [encS, g]
  · obtain ⟨q, rfl⟩ : ∃ q, k = 3 * q + 2 := ⟨k / 3, by omega⟩
    rw [show 8 * (3 * q + 2) / 6 = 4 * q + 2 by omega] at h1 h2
    rw [show 8 * (3 * q + 2) % 6 = 4 by omega] at h2 h3
    have ge : grp l (4 * q + 2) = ((accB l (4 * q + 2) 4 * 2 + bit8 l (6 * (4 * q + 2) + 4)) * 2 + bit8 l (6 * (4 * q + 2) + 5)) := rfl
    have g : grp l (4 * q + 2) = a * 4 + c / 64 := by
      rw [ge, ← h2]
      rw [B 0 (by omega) _ (by omega), B 1 (by omega) _ (by omega)]
      omega
    have g2 : grp l (4 * q + 3) = c % 64 := by
      unfold grp
      simp only [accB]
      rw [B 2 (by omega) _ (by omega), B 3 (by omega) _ (by omega), B 4 (by omega) _ (by omega), B 5 (by omega) _ (by omega), B 6 (by omega) _ (by omega), B 7 (by omega) _ (by omega)]
      omega
    unfold encP
    rw [show 8 * (3 * q + 2 + 1) / 6 = 4 * q + 4 by omega, show 8 * (3 * q + 2 + 1) % 6 = 0 by omega, show 4 * q + 4 = ((4 * q + 2) + 1) + 1 by omega, List.range_succ, List.range_succ, List.map_append, List.map_append, ← h1]
    subst h3
    refine ⟨?_, rfl, rfl⟩
    simp [encS, g, g2]
theorem encP_all (l : List Int) (hb : ∀ n ∈ l, byte n) : ∀ k, k ≤ l.length → encP l k (encL (l.take k))
  | 0, _ => ⟨rfl, rfl, rfl⟩
  | k + 1, h => by
    rw [List.take_succ_eq_append_getElem (by omega), encL_snoc]
    have := encP_step l hb k (by omega) _ (encP_all l hb k (by omega))
    rwa [List.getD_eq_getElem?_getD, List.getElem?_eq_getElem (by omega)] at this
theorem encF_grp (l : List Int) (hb : ∀ n ∈ l, byte n) : encF (encL l) = (List.range ((8 * l.length + 5) / 6)).map (grp l) := by
  have h := encP_all l hb l.length (Nat.le_refl _)
  rw [List.take_length] at h
  revert h
  generalize encL l = s
  rintro ⟨h1, h2, h3⟩
  obtain ⟨o, a, n⟩ := s
  simp only at h1 h2 h3
  have h3k : l.length % 3 = 0 ∨ l.length % 3 = 1 ∨ l.length % 3 = 2 := by omega
  have Z (i : Nat) (hi : 8 * l.length ≤ i) := bit_out l i hi
  generalize l.length = k at *
  rcases h3k with r | r | r
  · obtain ⟨q, rfl⟩ : ∃ q, k = 3 * q := ⟨k / 3, by omega⟩
    rw [show 8 * (3 * q) % 6 = 0 by omega] at h3
    rw [show (8 * (3 * q) + 5) / 6 = 8 * (3 * q) / 6 by omega, ← h1]
    subst h3; rfl
  · obtain ⟨q, rfl⟩ : ∃ q, k = 3 * q + 1 := ⟨k / 3, by omega⟩
    rw [show 8 * (3 * q + 1) / 6 = 4 * q + 1 by omega] at h1 h2
    rw [show 8 * (3 * q + 1) % 6 = 2 by omega] at h2 h3
    have ge : grp l (4 * q + 1) = ((((accB l (4 * q + 1) 2 * 2 + bit8 l (6 * (4 * q + 1) + 2)) * 2 + bit8 l (6 * (4 * q + 1) + 3)) * 2 + bit8 l (6 * (4 * q + 1) + 4)) * 2 + bit8 l (6 * (4 * q + 1) + 5)) := rfl
    have g : grp l (4 * q + 1) = a * 16 := by
      rw [ge, ← h2]
      rw [Z _ (by omega), Z _ (by omega), Z _ (by omega), Z _ (by omega)]
      omega
    rw [show (8 * (3 * q + 1) + 5) / 6 = (4 * q + 1) + 1 by omega, List.range_succ, List.map_append, ← h1]
    subst h3
    simp [encF, g]
  · obtain ⟨q, rfl⟩ : ∃ q, k = 3 * q + 2 := ⟨k / 3, by omega⟩
    rw [show 8 * (3 * q + 2) / 6 = 4 * q + 2 by omega] at h1 h2
    rw [show 8 * (3 * q + 2) % 6 = 4 by omega] at h2 h3
    have ge : grp l (4 * q + 2) = ((accB l (4 * q + 2) 4 * 2 + bit8 l (6 * (4 * q + 2) + 4)) * 2 + bit8 l (6 * (4 * q + 2) + 5)) := rfl
    have g : grp l (4 * q + 2) = a * 4 := by
      rw [ge, ← h2]
      rw [Z _ (by omega), Z _ (by omega)]
      omega
    rw [show (8 * (3 * q + 2) + 5) / 6 = (4 * q + 2) + 1 by omega, List.range_succ, List.map_append, ← h1]
    subst h3
    simp [encF, g]
theorem rbase_eq (l : List Int) (hl : l.length ≤ 1000000) (hb : ∀ n ∈ l, byte n) : r04_Base (l, ()) = some (strOf ((encF (encL l)).map ch)) := by
  rw [rbase_raw l hb hl, encF_grp l hb]
end Go.Px.Pu
