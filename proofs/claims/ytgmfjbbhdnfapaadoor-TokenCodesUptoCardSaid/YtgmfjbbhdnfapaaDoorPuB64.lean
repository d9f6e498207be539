/- codec.Base and codec.ReadBase: six bits at a time. -/
import Derived.Test.YtgmfjbbhdnfapaaDoorSh
import Derived.Test.YtgmfjbbhdnfapaaDoorPuLex
import Derived.Test.YtgmfjbbhdnfapaaDoorPuShaA
import Derived.Test.YtgmfjbbhdnfapaaDoorPuBase
import Derived.KernelRfl
set_option linter.unusedVariables false
set_option linter.unusedSimpArgs false
namespace Go.Px.Pu
open Go Go.Px

abbrev A64 : ByteArray := ⟨#[65, 66, 67, 68, 69, 70, 71, 72, 73, 74, 75, 76, 77, 78, 79, 80, 81, 82, 83, 84, 85, 86, 87, 88, 89, 90, 97, 98, 99, 100, 101, 102, 103, 104, 105, 106, 107, 108, 109, 110, 111, 112, 113, 114, 115, 116, 117, 118, 119, 120, 121, 122, 48, 49, 50, 51, 52, 53, 54, 55, 56, 57, 45, 95]⟩
def ch (v : Int) : Int := byteAt A64 v.toNat
def six6 (v : Int) : Prop := 0 ≤ v ∧ v < 64
/-! ### writing -/
def encS (s : List Int × Int × Int) (b : Int) : List Int × Int × Int :=
  if s.2.2 = 0 then (s.1 ++ [b / 4], b % 4, 2) else if s.2.2 = 2 then (s.1 ++ [s.2.1 * 16 + b / 16], b % 16, 4) else (s.1 ++ [s.2.1 * 4 + b / 64, b % 64], 0, 0)
def encI (s : List Int × Int × Int) : Prop := (∀ v ∈ s.1, six6 v) ∧ ((s.2.2 = 0 ∧ s.2.1 = 0) ∨ (s.2.2 = 2 ∧ 0 ≤ s.2.1 ∧ s.2.1 < 4) ∨ (s.2.2 = 4 ∧ 0 ≤ s.2.1 ∧ s.2.1 < 16))
theorem encS_I {s : List Int × Int × Int} {b : Int} (h : encI s) (hb : byte b) : encI (encS s b) := by
  obtain ⟨o, a, n⟩ := s
  obtain ⟨h1, h2⟩ := h
  unfold byte at hb
  rcases h2 with ⟨h, h3⟩ | ⟨h, h3, h4⟩ | ⟨h, h3, h4⟩ <;> simp only at h h3 <;> subst h
  · refine ⟨fun v hv => ?_, .inr (.inl ⟨rfl, by simp [encS]; omega⟩)⟩
    rcases List.mem_append.1 (show v ∈ o ++ [b / 4] from hv) with hv | hv
    · exact h1 v hv
    · simp at hv; unfold six6; omega
  · refine ⟨fun v hv => ?_, .inr (.inr ⟨rfl, by simp [encS]; omega⟩)⟩
    rcases List.mem_append.1 (show v ∈ o ++ [a * 16 + b / 16] from hv) with hv | hv
    · exact h1 v hv
    · simp at hv h4; unfold six6; omega
  · refine ⟨fun v hv => ?_, .inl ⟨rfl, rfl⟩⟩
    rcases List.mem_append.1 (show v ∈ o ++ [a * 4 + b / 64, b % 64] from hv) with hv | hv
    · exact h1 v hv
    · simp at hv h4; unfold six6; omega
theorem encS_len (s : List Int × Int × Int) (b : Int) : (encS s b).1.length ≤ s.1.length + 2 := by
  unfold encS
  split
  · simp
  · split <;> simp
def encL (l : List Int) : List Int × Int × Int := l.foldl encS ([], 0, 0)
theorem encL_snoc (l : List Int) (b : Int) : encL (l ++ [b]) = encS (encL l) b := by simp [encL]
theorem encL_ok (l : List Int) (hb : ∀ n ∈ l, byte n) : ∀ i, i ≤ l.length → encI (encL (l.take i)) ∧ (encL (l.take i)).1.length ≤ 2 * i
  | 0, _ => ⟨⟨fun v hv => by simp [encL] at hv, .inl ⟨rfl, rfl⟩⟩, by simp [encL]⟩
  | i + 1, h => by
    obtain ⟨h1, h2⟩ := encL_ok l hb i (by omega)
    rw [List.take_succ_eq_append_getElem (by omega), encL_snoc]
    have h3 := encS_len (encL (l.take i)) l[i]
    exact ⟨encS_I h1 (hb _ (List.getElem_mem _)), by omega⟩
def encF (s : List Int × Int × Int) : List Int := if s.2.2 = 2 then s.1 ++ [s.2.1 * 16] else if s.2.2 = 4 then s.1 ++ [s.2.1 * 4] else s.1
abbrev mix (a b : Int) : Int := ior .i64 (ishl .i64 a 8) (IntKind.wrap .i64 b)
theorem e0 : ∀ b : Fin 256, iand .i64 (ishr .i64 (mix 0 ((b.val : Nat) : Int)) 2) 63 = ((b.val : Nat) : Int) / 4 ∧ iand .i64 (mix 0 ((b.val : Nat) : Int)) 3 = ((b.val : Nat) : Int) % 4 := by decide +kernel
theorem e2 : ∀ a : Fin 4, ∀ b : Fin 256, iand .i64 (ishr .i64 (mix ((a.val : Nat) : Int) ((b.val : Nat) : Int)) 4) 63 = ((a.val : Nat) : Int) * 16 + ((b.val : Nat) : Int) / 16 ∧ iand .i64 (mix ((a.val : Nat) : Int) ((b.val : Nat) : Int)) 15 = ((b.val : Nat) : Int) % 16 := by decide +kernel
theorem e4 : ∀ a : Fin 16, ∀ b : Fin 256, iand .i64 (ishr .i64 (mix ((a.val : Nat) : Int) ((b.val : Nat) : Int)) 6) 63 = ((a.val : Nat) : Int) * 4 + ((b.val : Nat) : Int) / 64 ∧ iand .i64 (ishr .i64 (mix ((a.val : Nat) : Int) ((b.val : Nat) : Int)) 0) 63 = ((b.val : Nat) : Int) % 64 ∧ iand .i64 (mix ((a.val : Nat) : Int) ((b.val : Nat) : Int)) 0 = 0 := by decide +kernel
theorem f2 : ∀ a : Fin 4, iand .i64 (ishl .i64 ((a.val : Nat) : Int) 4) 63 = ((a.val : Nat) : Int) * 16 := by decide +kernel
theorem f4 : ∀ a : Fin 16, iand .i64 (ishl .i64 ((a.val : Nat) : Int) 2) 63 = ((a.val : Nat) : Int) * 4 := by decide +kernel
theorem fin_of {k : Nat} {n : Int} (h0 : 0 ≤ n) (h1 : n < k) : ∃ i : Fin k, ((i.val : Nat) : Int) = n := ⟨⟨n.toNat, by omega⟩, by simp; omega⟩
theorem ch_in {v : Int} (h : six6 v) : inB v A64.size = true := inB_iff.2 (by have h1 := h.1; have h2 := h.2; exact ⟨h1, h2⟩)
abbrev KB := (List Int × Int × Int × List Int × Int × Int × Unit) → Option ByteArray
theorem bl8 (kx : KB) (t3 : List Int) (v : Int) (t8 : List Int) (t9 t10 : Int) (m : Nat) : loopN (m + 3) (codec_Base.s2b kx) (t3, v, 8, t8, t9, t10, ()) =
    (chk (inB (iand .i64 (ishr .i64 v 2) 63) A64.size) <| chk (fits 1 (t3.length + 1)) <| kx (t3 ++ [ch (iand .i64 (ishr .i64 v 2) 63)], v, 2, t8, t9, t10, ())) := by kernel_rfl
theorem bl10 (kx : KB) (t3 : List Int) (v : Int) (t8 : List Int) (t9 t10 : Int) (m : Nat) : loopN (m + 3) (codec_Base.s2b kx) (t3, v, 10, t8, t9, t10, ()) =
    (chk (inB (iand .i64 (ishr .i64 v 4) 63) A64.size) <| chk (fits 1 (t3.length + 1)) <| kx (t3 ++ [ch (iand .i64 (ishr .i64 v 4) 63)], v, 4, t8, t9, t10, ())) := by kernel_rfl
theorem bl12 (kx : KB) (t3 : List Int) (v : Int) (t8 : List Int) (t9 t10 : Int) (m : Nat) : loopN (m + 3) (codec_Base.s2b kx) (t3, v, 12, t8, t9, t10, ()) =
    (chk (inB (iand .i64 (ishr .i64 v 6) 63) A64.size) <| chk (fits 1 (t3.length + 1)) <| chk (inB (iand .i64 (ishr .i64 v 0) 63) A64.size) <| chk (fits 1 ((t3 ++ [ch (iand .i64 (ishr .i64 v 6) 63)]).length + 1)) <|
      kx (t3 ++ [ch (iand .i64 (ishr .i64 v 6) 63)] ++ [ch (iand .i64 (ishr .i64 v 0) 63)], v, 0, t8, t9, t10, ())) := by kernel_rfl
theorem three {n : Nat} (h : 3 ≤ n) : ∃ m, n = m + 3 := ⟨n - 3, (Nat.sub_add_cancel h).symm⟩
theorem bL (kx : KB) (t3 : List Int) (v n : Int) (t8 : List Int) (t9 t10 : Int) : ∃ m, codec_Base.l2 (t3, v, n, t8, t9, t10, ()) kx = loopN (m + 3) (codec_Base.s2b kx) (t3, v, n, t8, t9, t10, ()) := by
  obtain ⟨m, h⟩ : ∃ m, codec_Base.n2 (t3, v, n, t8, t9, t10, ()) = m + 3 := three (by show 3 ≤ _ + _ + _ + _ + _ + _ + 1048576; omega)
  exact ⟨m, by unfold codec_Base.l2 codec_Base.s2; rw [h]⟩
theorem fits64 {n : Nat} (h : n ≤ 10000000) : fits 1 n = true := fits_iff.2 (by omega)
theorem bl8' {t3 : List Int} {v q : Int} {t8 : List Int} {t9 t10 : Int} (hq : iand .i64 (ishr .i64 v 2) 63 = q) (h6 : six6 q) (ht : t3.length ≤ 9000000) (kx : KB) : codec_Base.l2 (t3, v, 8, t8, t9, t10, ()) kx = kx (t3 ++ [ch q], v, 2, t8, t9, t10, ()) := by
  obtain ⟨m, hm⟩ := bL kx t3 v 8 t8 t9 t10
  rw [hm, bl8, hq, chk_true (ch_in h6), chk_true (fits64 (by omega))]
theorem bl10' {t3 : List Int} {v q : Int} {t8 : List Int} {t9 t10 : Int} (hq : iand .i64 (ishr .i64 v 4) 63 = q) (h6 : six6 q) (ht : t3.length ≤ 9000000) (kx : KB) : codec_Base.l2 (t3, v, 10, t8, t9, t10, ()) kx = kx (t3 ++ [ch q], v, 4, t8, t9, t10, ()) := by
  obtain ⟨m, hm⟩ := bL kx t3 v 10 t8 t9 t10
  rw [hm, bl10, hq, chk_true (ch_in h6), chk_true (fits64 (by omega))]
theorem bl12' {t3 : List Int} {v q q2 : Int} {t8 : List Int} {t9 t10 : Int} (hq : iand .i64 (ishr .i64 v 6) 63 = q) (h6 : six6 q) (hq2 : iand .i64 (ishr .i64 v 0) 63 = q2) (h62 : six6 q2) (ht : t3.length ≤ 9000000) (kx : KB) : codec_Base.l2 (t3, v, 12, t8, t9, t10, ()) kx = kx (t3 ++ [ch q] ++ [ch q2], v, 0, t8, t9, t10, ()) := by
  obtain ⟨m, hm⟩ := bL kx t3 v 12 t8 t9 t10
  rw [hm, bl12, hq, hq2, chk_true (ch_in h6), chk_true (fits64 (by omega)), chk_true (ch_in h62), chk_true (fits64 (by simp; omega))]
theorem base_step (kx) (l : List Int) (hl : l.length ≤ 1000000) (hb : ∀ n ∈ l, byte n) (i : Nat) (hi : i < l.length) (s : List Int × Int × Int) (hs : encI s) (ho : s.1.length ≤ 2 * i) (κ) :
    codec_Base.s0b codec_Base.l2 kx (s.1.map ch, s.2.1, s.2.2, l, (l.length : Int), (i : Int), ()) κ = κ ((encS s (l.getD i 0)).1.map ch, (encS s (l.getD i 0)).2.1, (encS s (l.getD i 0)).2.2, l, (l.length : Int), ((i + 1 : Nat) : Int), ()) := by
  have e5 : iadd .i64 (i : Int) 1 = ((i + 1 : Nat) : Int) := by rw [iadd64 (by omega)]; omega
  have hy : byte (l.getD i 0) := hb _ (getD_mem hi)
  obtain ⟨o, a, n⟩ := s
  obtain ⟨ho1, h2⟩ := hs
  simp only [codec_Base.s0b, Int.toNat_natCast, e5]
  rw [cond_t (ilt_iff.2 (by omega)), chk_true (inB_iff.2 (by omega))]
  generalize l.getD i 0 = b at hy
  simp only at ho
  have hom : (o.map ch).length ≤ 9000000 := by simp; omega
  rcases h2 with ⟨h, h3⟩ | ⟨h, h3, h4⟩ | ⟨h, h3, h4⟩ <;> simp only at h h3 <;> subst h
  · subst h3
    obtain ⟨j, rfl⟩ := fin_of (k := 256) hy.1 (by have := hy.2; omega)
    obtain ⟨g1, g2⟩ := e0 j
    have hj := j.isLt
    rw [show iadd .i64 0 8 = 8 from rfl, bl8' g1 (by unfold six6; omega) hom]
    simp only
    rw [chk_true (b := ile 0 2) rfl, show isub .i64 (ishl .i64 1 2) 1 = 3 from rfl, g2, e5]
    simp [encS]
  · simp only at h4
    obtain ⟨j, rfl⟩ := fin_of (k := 256) hy.1 (by have := hy.2; omega)
    obtain ⟨c, rfl⟩ := fin_of (k := 4) h3 (by omega)
    obtain ⟨g1, g2⟩ := e2 c j
    have hj := j.isLt
    have hc := c.isLt
    rw [show iadd .i64 2 8 = 10 from rfl, bl10' g1 (by unfold six6; omega) hom]
    simp only
    rw [chk_true (b := ile 0 4) rfl, show isub .i64 (ishl .i64 1 4) 1 = 15 from rfl, g2, e5]
    simp [encS]
  · simp only at h4
    obtain ⟨j, rfl⟩ := fin_of (k := 256) hy.1 (by have := hy.2; omega)
    obtain ⟨c, rfl⟩ := fin_of (k := 16) h3 (by omega)
    obtain ⟨g1, g3, g2⟩ := e4 c j
    have hj := j.isLt
    have hc := c.isLt
    rw [show iadd .i64 4 8 = 12 from rfl, bl12' g1 (by unfold six6; omega) g3 (by unfold six6; omega) hom]
    simp only
    rw [chk_true (b := ile 0 0) rfl, show isub .i64 (ishl .i64 1 0) 1 = 0 from rfl, g2, e5]
    simp [encS]
theorem base_l0 (kx) (l : List Int) (hl : l.length ≤ 1000000) (hb : ∀ n ∈ l, byte n) (m : Nat) (hm : l.length < m) : loopN m (codec_Base.s0b codec_Base.l2 kx) ([], 0, 0, l, (l.length : Int), 0, ()) = kx ((encL l).1.map ch, (encL l).2.1, (encL l).2.2, ()) := by
  refine traj (fun i => ((encL (l.take i)).1.map ch, (encL (l.take i)).2.1, (encL (l.take i)).2.2, l, (l.length : Int), (i : Int), ())) _ l.length (fun i hi κ => ?_) (fun κ => ?_) m hm
  · obtain ⟨h1, h2⟩ := encL_ok l hb i (by omega)
    rw [base_step kx l hl hb i hi _ h1 h2, List.take_succ_eq_append_getElem hi, encL_snoc, List.getD_eq_getElem?_getD, List.getElem?_eq_getElem hi]
    rfl
  · simp only [codec_Base.s0b]
    rw [cond_f (ilt_f.2 (by omega)), List.take_length]
theorem base_main (l0) (l : List Int) (s : List Int × Int × Int) (hs : encI s) (ho : s.1.length ≤ 2000000) (h0 : ∀ kx, l0 ([], 0, 0, l, (l.length : Int), 0, ()) kx = kx (s.1.map ch, s.2.1, s.2.2, ())) : codec_Base.b l0 (l, ()) = some (strOf ((encF s).map ch)) := by
  simp only [codec_Base.b, h0]
  obtain ⟨o, a, n⟩ := s
  obtain ⟨ho1, h2⟩ := hs
  simp only at ho
  rcases h2 with ⟨h, h3⟩ | ⟨h, h3, h4⟩ | ⟨h, h3, h4⟩ <;> simp only at h h3 <;> subst h
  · rw [cond_f (igt_f.2 (Int.le_refl 0))]; rfl
  · simp only at h4
    obtain ⟨c, rfl⟩ := fin_of (k := 4) h3 (by omega)
    have hc := c.isLt
    rw [cond_t (igt_iff.2 (show (0 : Int) < 2 by decide)), show isub .i64 6 2 = 4 from rfl, chk_true (b := ile 0 4) rfl, f2 c, chk_true (ch_in (by unfold six6; omega)), chk_true (fits64 (by simp; omega))]
    simp [encF, ch]
  · simp only at h4
    obtain ⟨c, rfl⟩ := fin_of (k := 16) h3 (by omega)
    have hc := c.isLt
    rw [cond_t (igt_iff.2 (show (0 : Int) < 4 by decide)), show isub .i64 6 4 = 2 from rfl, chk_true (b := ile 0 2) rfl, f4 c, chk_true (ch_in (by unfold six6; omega)), chk_true (fits64 (by simp; omega))]
    simp [encF, ch]
theorem base_eq (l : List Int) (hl : l.length ≤ 1000000) (hb : ∀ n ∈ l, byte n) : codec_Base (l, ()) = some (strOf ((encF (encL l)).map ch)) := by
  have h := encL_ok l hb l.length (Nat.le_refl _)
  rw [List.take_length] at h
  refine base_main codec_Base.l0 l (encL l) h.1 (by omega) fun kx => ?_
  have := base_l0 kx l hl hb (codec_Base.n0 ([], 0, 0, l, (l.length : Int), 0, ())) (by show l.length < _ + _ + _ + _ + _ + _ + 1048576; omega)
  unfold codec_Base.l0 codec_Base.s0
  exact this
end Go.Px.Pu
