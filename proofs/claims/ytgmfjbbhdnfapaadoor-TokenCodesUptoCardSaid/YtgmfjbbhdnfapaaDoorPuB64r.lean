/- codec.ReadBase, and what it reads of what codec.Base wrote. -/
import Derived.Test.YtgmfjbbhdnfapaaDoorPuB64
set_option linter.unusedVariables false
set_option linter.unusedSimpArgs false
namespace Go.Px.Pu
open Go Go.Px

def decS (s : List Int × Int × Int) (v : Int) : List Int × Int × Int :=
  if s.2.2 = 0 then (s.1, v, 6) else if s.2.2 = 6 then (s.1 ++ [s.2.1 * 4 + v / 16], v % 16, 4) else if s.2.2 = 4 then (s.1 ++ [s.2.1 * 16 + v / 4], v % 4, 2) else (s.1 ++ [s.2.1 * 64 + v], 0, 0)
def decI (s : List Int × Int × Int) : Prop := (s.2.2 = 0 ∧ s.2.1 = 0) ∨ (s.2.2 = 6 ∧ 0 ≤ s.2.1 ∧ s.2.1 < 64) ∨ (s.2.2 = 4 ∧ 0 ≤ s.2.1 ∧ s.2.1 < 16) ∨ (s.2.2 = 2 ∧ 0 ≤ s.2.1 ∧ s.2.1 < 4)
theorem decS_I {s : List Int × Int × Int} {v : Int} (h : decI s) (hv : six6 v) : decI (decS s v) := by
  obtain ⟨o, a, n⟩ := s
  unfold six6 at hv
  rcases h with ⟨h, h3⟩ | ⟨h, h3, h4⟩ | ⟨h, h3, h4⟩ | ⟨h, h3, h4⟩ <;> simp only at h h3 <;> subst h
  · exact .inr (.inl ⟨rfl, by simp [decS]; omega⟩)
  · exact .inr (.inr (.inl ⟨rfl, by simp [decS]; omega⟩))
  · exact .inr (.inr (.inr ⟨rfl, by simp [decS]; omega⟩))
  · exact .inl ⟨rfl, rfl⟩
def decL (l : List Int) : List Int × Int × Int := l.foldl decS ([], 0, 0)
theorem decL_snoc (l : List Int) (b : Int) : decL (l ++ [b]) = decS (decL l) b := by simp [decL]
theorem decS_len (s : List Int × Int × Int) (v : Int) : (decS s v).1.length ≤ s.1.length + 1 := by
  unfold decS
  repeat' split
  all_goals simp
theorem decL_ok (l : List Int) (hb : ∀ n ∈ l, six6 n) : ∀ i, i ≤ l.length → decI (decL (l.take i)) ∧ (decL (l.take i)).1.length ≤ i
  | 0, _ => ⟨.inl ⟨rfl, rfl⟩, by simp [decL]⟩
  | i + 1, h => by
    obtain ⟨h1, h2⟩ := decL_ok l hb i (by omega)
    rw [List.take_succ_eq_append_getElem (by omega), decL_snoc]
    have h3 := decS_len (decL (l.take i)) l[i]
    exact ⟨decS_I h1 (hb _ (List.getElem_mem _)), by omega⟩
abbrev mix6 (a b : Int) : Int := ior .i64 (ishl .i64 a 6) b
theorem d0 : ∀ v : Fin 64, iand .i64 (mix6 0 ((v.val : Nat) : Int)) 63 = ((v.val : Nat) : Int) := by decide +kernel
theorem d6 : ∀ a v : Fin 64, IntKind.wrap .u8 (ishr .i64 (mix6 ((a.val : Nat) : Int) ((v.val : Nat) : Int)) 4) = ((a.val : Nat) : Int) * 4 + ((v.val : Nat) : Int) / 16 ∧ iand .i64 (mix6 ((a.val : Nat) : Int) ((v.val : Nat) : Int)) 15 = ((v.val : Nat) : Int) % 16 := by decide +kernel
theorem d4 : ∀ a : Fin 16, ∀ v : Fin 64, IntKind.wrap .u8 (ishr .i64 (mix6 ((a.val : Nat) : Int) ((v.val : Nat) : Int)) 2) = ((a.val : Nat) : Int) * 16 + ((v.val : Nat) : Int) / 4 ∧ iand .i64 (mix6 ((a.val : Nat) : Int) ((v.val : Nat) : Int)) 3 = ((v.val : Nat) : Int) % 4 := by decide +kernel
theorem d2 : ∀ a : Fin 4, ∀ v : Fin 64, IntKind.wrap .u8 (ishr .i64 (mix6 ((a.val : Nat) : Int) ((v.val : Nat) : Int)) 0) = ((a.val : Nat) : Int) * 64 + ((v.val : Nat) : Int) ∧ iand .i64 (mix6 ((a.val : Nat) : Int) ((v.val : Nat) : Int)) 0 = 0 := by decide +kernel
theorem ch_inj : ∀ i j : Fin 64, ch ((i.val : Nat) : Int) = ch ((j.val : Nat) : Int) → i = j := by decide +kernel
theorem ch_ne {i v : Nat} (hi : i < v) (hv : v < 64) : ch (i : Int) ≠ ch (v : Int) := fun h => by
  have := ch_inj ⟨i, by omega⟩ ⟨v, hv⟩ h
  have := congrArg Fin.val this
  simp only at this
  omega
theorem rl2 (kx) (s : ByteArray) (t4 : List Int) (t5 t6 : Int) (p : Nat) (hp : p < s.size) (t10 t11 : Int) (n : Nat) (hn : n ≤ 64) (h1 : ∀ i : Nat, i < n → ch (i : Int) ≠ byteAt s p) (h2 : n = 64 ∨ ch (n : Int) = byteAt s p) :
    codec_ReadBase.l2 (s, t4, t5, t6, (p : Int), 0, t10, t11, ()) kx = kx (s, t4, t5, t6, (n : Int), t10, t11, ()) := by
  unfold codec_ReadBase.l2 codec_ReadBase.s2
  refine traj (fun i => (s, t4, t5, t6, (p : Int), (i : Int), t10, t11, ())) _ n (fun i hi κ => ?_) (fun κ => ?_) _ (by show n < _ + _ + _ + _ + _ + _ + _ + _ + 1048576; omega)
  · have e4 : iadd .i64 (i : Int) 1 = ((i + 1 : Nat) : Int) := by rw [iadd64 (by omega)]; omega
    have hne : byteAt A64 i ≠ byteAt s p := h1 i hi
    simp only [codec_ReadBase.s2b, e4, Int.toNat_natCast]
    rw [cond_t (ilt_iff.2 (by omega)), chk_true (ch_in (v := (i : Int)) ⟨by omega, by omega⟩), chk_true (inB_iff.2 (by omega)), cond_t (ine_iff.2 hne)]
  · simp only [codec_ReadBase.s2b, Int.toNat_natCast]
    by_cases h : n = 64
    · rw [cond_f (ilt_f.2 (by omega))]
    · have he : byteAt A64 n = byteAt s p := h2.resolve_left h
      rw [cond_t (ilt_iff.2 (by omega)), chk_true (ch_in (v := (n : Int)) ⟨by omega, by omega⟩), chk_true (inB_iff.2 (by omega)), cond_f (ine_f.2 he)]
theorem read_step (kx) (s : ByteArray) (hsz : s.size ≤ 3000000) (p : Nat) (hp : p < s.size) (v : Nat) (hv : v < 64) (hc : ch (v : Int) = byteAt s p) (st : List Int × Int × Int) (hs : decI st) (ho : st.1.length ≤ p) (κ) :
    codec_ReadBase.s0b codec_ReadBase.l2 kx (s, st.1, st.2.1, st.2.2, (s.size : Int), (p : Int), ()) κ = κ (s, (decS st v).1, (decS st v).2.1, (decS st v).2.2, (s.size : Int), ((p + 1 : Nat) : Int), ()) := by
  have e5 : iadd .i64 (p : Int) 1 = ((p + 1 : Nat) : Int) := by rw [iadd64 (by omega)]; omega
  simp only [codec_ReadBase.s0b]
  rw [cond_t (ilt_iff.2 (by omega)), rl2 _ s st.1 st.2.1 st.2.2 p hp _ _ v (by omega) (fun i hi => by rw [← hc]; exact ch_ne hi hv) (.inr hc)]
  simp only [e5]
  rw [cond_f (ieq_f.2 (by omega))]
  obtain ⟨o, a, n⟩ := st
  simp only at ho
  obtain ⟨j, hj⟩ := fin_of (k := 64) (n := (v : Int)) (by omega) (by omega)
  rw [← hj]
  rcases hs with ⟨h, h3⟩ | ⟨h, h3, h4⟩ | ⟨h, h3, h4⟩ | ⟨h, h3, h4⟩ <;> simp only at h h3 <;> subst h
  · subst h3
    simp only
    rw [show iadd .i64 0 6 = 6 from rfl, cond_f (show ige 6 8 = false from rfl), chk_true (b := ile 0 6) rfl, show isub .i64 (ishl .i64 1 6) 1 = 63 from rfl, d0 j]
    simp [decS]
  · simp only at h4
    obtain ⟨c, rfl⟩ := fin_of (k := 64) h3 (by omega)
    obtain ⟨g1, g2⟩ := d6 c j
    simp only
    rw [show iadd .i64 6 6 = 12 from rfl, cond_t (show ige 12 8 = true from rfl), show isub .i64 12 8 = 4 from rfl, chk_true (b := ile 0 4) rfl, chk_true (fits64 (by omega)), chk_true (b := ile 0 4) rfl, show isub .i64 (ishl .i64 1 4) 1 = 15 from rfl, g1, g2]
    simp [decS]
  · simp only at h4
    obtain ⟨c, rfl⟩ := fin_of (k := 16) h3 (by omega)
    obtain ⟨g1, g2⟩ := d4 c j
    simp only
    rw [show iadd .i64 4 6 = 10 from rfl, cond_t (show ige 10 8 = true from rfl), show isub .i64 10 8 = 2 from rfl, chk_true (b := ile 0 2) rfl, chk_true (fits64 (by omega)), chk_true (b := ile 0 2) rfl, show isub .i64 (ishl .i64 1 2) 1 = 3 from rfl, g1, g2]
    simp [decS]
  · simp only at h4
    obtain ⟨c, rfl⟩ := fin_of (k := 4) h3 (by omega)
    obtain ⟨g1, g2⟩ := d2 c j
    simp only
    rw [show iadd .i64 2 6 = 8 from rfl, cond_t (show ige 8 8 = true from rfl), show isub .i64 8 8 = 0 from rfl, chk_true (b := ile 0 0) rfl, chk_true (fits64 (by omega)), chk_true (b := ile 0 0) rfl, show isub .i64 (ishl .i64 1 0) 1 = 0 from rfl, g1, g2]
    simp [decS]
theorem read_l0 (kx) (s : ByteArray) (vs : List Int) (hvs : ∀ v ∈ vs, six6 v) (hsz : s.size ≤ 3000000) (hs : bytesOf s = vs.map ch) (m : Nat) (hm : vs.length < m) : loopN m (codec_ReadBase.s0b codec_ReadBase.l2 kx) (s, [], 0, 0, (s.size : Int), 0, ()) = kx ((decL vs).1, (decL vs).2.1, (decL vs).2.2, ()) := by
  have hlen : s.size = vs.length := by rw [← bytesOf_len, hs, List.length_map]
  refine traj (fun i => (s, (decL (vs.take i)).1, (decL (vs.take i)).2.1, (decL (vs.take i)).2.2, (s.size : Int), (i : Int), ())) _ vs.length (fun i hi κ => ?_) (fun κ => ?_) m hm
  · obtain ⟨h1, h2⟩ := decL_ok vs hvs i (by omega)
    have h6 := hvs _ (List.getElem_mem hi)
    obtain ⟨k, hk⟩ : ∃ k : Nat, vs[i] = (k : Int) := ⟨vs[i].toNat, by have := h6.1; omega⟩
    have hc : ch (k : Int) = byteAt s i := by
      rw [byteAt_get, hs, List.getD_eq_getElem?_getD, List.getElem?_map, List.getElem?_eq_getElem hi, ← hk]; rfl
    rw [read_step kx s hsz i (by omega) k (by have := h6.2; omega) hc _ h1 h2, List.take_succ_eq_append_getElem hi, decL_snoc, hk]
  · simp only [codec_ReadBase.s0b]
    rw [cond_f (ilt_f.2 (by omega)), List.take_length]
theorem read_main (l0) (s : ByteArray) (D : List Int × Int × Int) (h0 : ∀ kx, l0 (s, [], 0, 0, (s.size : Int), 0, ()) kx = kx (D.1, D.2.1, D.2.2, ())) (ha : D.2.1 = 0) (hn : D.2.2 < 6) : codec_ReadBase.b l0 (s, ()) = some (D.1, 0, ()) := by
  simp only [codec_ReadBase.b, h0]
  rw [cond_f (ige_f.2 hn), cond_f (ine_f.2 ha)]
/-! ### there and back -/
def backR (l : List Int) (s : List Int × Int × Int) : Prop := (s.2.2 = 0 ∧ s.2.1 = 0 ∧ decL s.1 = (l, 0, 0)) ∨
  (s.2.2 = 2 ∧ ∃ l' b, l = l' ++ [b] ∧ byte b ∧ s.2.1 = b % 4 ∧ decL s.1 = (l', b / 4, 6)) ∨ (s.2.2 = 4 ∧ ∃ l' b, l = l' ++ [b] ∧ byte b ∧ s.2.1 = b % 16 ∧ decL s.1 = (l', b / 16, 4))
theorem backR_step {l : List Int} {s : List Int × Int × Int} {c : Int} (h : backR l s) (hc : byte c) : backR (l ++ [c]) (encS s c) := by
  obtain ⟨o, a, n⟩ := s
  unfold byte at hc
  rcases h with ⟨h, h2, h3⟩ | ⟨h, l', b, h1, hb, h2, h3⟩ | ⟨h, l', b, h1, hb, h2, h3⟩ <;> simp only at h h2 h3 <;> subst h h2
  · refine .inr (.inl ⟨rfl, l, c, rfl, hc, rfl, ?_⟩)
    show decL (o ++ [c / 4]) = _
    rw [decL_snoc, h3]; rfl
  · unfold byte at hb
    refine .inr (.inr ⟨rfl, l, c, rfl, hc, rfl, ?_⟩)
    show decL (o ++ [b % 4 * 16 + c / 16]) = _
    rw [decL_snoc, h3, h1]
    show (l' ++ [b / 4 * 4 + (b % 4 * 16 + c / 16) / 16], (b % 4 * 16 + c / 16) % 16, (4 : Int)) = _
    rw [show b / 4 * 4 + (b % 4 * 16 + c / 16) / 16 = b by omega, show (b % 4 * 16 + c / 16) % 16 = c / 16 by omega]
  · unfold byte at hb
    refine .inl ⟨rfl, rfl, ?_⟩
    show decL (o ++ [b % 16 * 4 + c / 64, c % 64]) = _
    rw [show o ++ [b % 16 * 4 + c / 64, c % 64] = (o ++ [b % 16 * 4 + c / 64]) ++ [c % 64] by simp, decL_snoc, decL_snoc, h3, h1]
    show (l' ++ [b / 16 * 16 + (b % 16 * 4 + c / 64) / 4] ++ [(b % 16 * 4 + c / 64) % 4 * 64 + c % 64], (0 : Int), (0 : Int)) = _
    rw [show b / 16 * 16 + (b % 16 * 4 + c / 64) / 4 = b by omega, show (b % 16 * 4 + c / 64) % 4 * 64 + c % 64 = c by omega]
theorem backR_all (l : List Int) (hb : ∀ n ∈ l, byte n) : ∀ i, i ≤ l.length → backR (l.take i) (encL (l.take i))
  | 0, _ => .inl ⟨rfl, rfl, rfl⟩
  | i + 1, h => by
    rw [List.take_succ_eq_append_getElem (by omega), encL_snoc]
    exact backR_step (backR_all l hb i (by omega)) (hb _ (List.getElem_mem _))
theorem back (l : List Int) (hb : ∀ n ∈ l, byte n) : (decL (encF (encL l))).1 = l ∧ (decL (encF (encL l))).2.1 = 0 ∧ (decL (encF (encL l))).2.2 < 6 := by
  have h := backR_all l hb l.length (Nat.le_refl _)
  rw [List.take_length] at h
  revert h
  generalize encL l = s
  intro h
  obtain ⟨o, a, n⟩ := s
  rcases h with ⟨h, h2, h3⟩ | ⟨h, l', b, h1, hb, h2, h3⟩ | ⟨h, l', b, h1, hb, h2, h3⟩ <;> simp only at h h2 h3 <;> subst h h2
  · show (decL o).1 = l ∧ (decL o).2.1 = 0 ∧ (decL o).2.2 < 6
    rw [h3]; exact ⟨rfl, rfl, (show (0 : Int) < 6 by decide)⟩
  · unfold byte at hb
    have e : decL (encF (o, b % 4, 2)) = (l' ++ [b / 4 * 4 + (b % 4 * 16) / 16], (b % 4 * 16) % 16, (4 : Int)) := by
      show decL (o ++ [b % 4 * 16]) = _
      rw [decL_snoc, h3]; rfl
    rw [e, h1]
    refine ⟨?_, ?_, by show (4 : Int) < 6; decide⟩
    · simp only [show b / 4 * 4 + (b % 4 * 16) / 16 = b by omega]
    · simp only; omega
  · unfold byte at hb
    have e : decL (encF (o, b % 16, 4)) = (l' ++ [b / 16 * 16 + (b % 16 * 4) / 4], (b % 16 * 4) % 4, (2 : Int)) := by
      show decL (o ++ [b % 16 * 4]) = _
      rw [decL_snoc, h3]; rfl
    rw [e, h1]
    refine ⟨?_, ?_, by show (2 : Int) < 6; decide⟩
    · simp only [show b / 16 * 16 + (b % 16 * 4) / 4 = b by omega]
    · simp only; omega
theorem encF_six (l : List Int) (hb : ∀ n ∈ l, byte n) : ∀ v ∈ encF (encL l), six6 v := by
  have h := (encL_ok l hb l.length (Nat.le_refl _)).1
  rw [List.take_length] at h
  revert h
  generalize encL l = s
  intro h
  obtain ⟨o, a, n⟩ := s
  obtain ⟨h1, h2⟩ := h
  intro v hv
  rcases h2 with ⟨h, h3⟩ | ⟨h, h3, h4⟩ | ⟨h, h3, h4⟩ <;> simp only at h h3 <;> subst h
  · exact h1 v hv
  · rcases List.mem_append.1 (show v ∈ o ++ [a * 16] from hv) with hv | hv
    · exact h1 v hv
    · simp at hv h4; unfold six6; omega
  · rcases List.mem_append.1 (show v ∈ o ++ [a * 4] from hv) with hv | hv
    · exact h1 v hv
    · simp at hv h4; unfold six6; omega
theorem encF_len (l : List Int) (hb : ∀ n ∈ l, byte n) : (encF (encL l)).length ≤ 2 * l.length + 1 := by
  have h := (encL_ok l hb l.length (Nat.le_refl _)).2
  rw [List.take_length] at h
  unfold encF
  repeat' split
  all_goals (try simp); omega
theorem ch_byte : ∀ v : Fin 64, 0 ≤ ch ((v.val : Nat) : Int) ∧ ch ((v.val : Nat) : Int) < 256 := by decide +kernel
theorem bytes_ch (vs : List Int) (h : ∀ v ∈ vs, six6 v) : bytesOf (strOf (vs.map ch)) = vs.map ch := by
  have h2 : ∀ n ∈ vs.map ch, 0 ≤ n ∧ n < 256 := fun n hn => by
    obtain ⟨v, hv, rfl⟩ := List.mem_map.1 hn
    have := h v hv
    obtain ⟨j, rfl⟩ := fin_of (k := 64) this.1 (by have := this.2; omega)
    exact ch_byte j
  have e : (strOf (vs.map ch)).data.toList = (vs.map ch).map fun n => UInt8.ofNat n.toNat := by simp [strOf]
  unfold bytesOf
  rw [e, List.map_map]
  conv => rhs; rw [← List.map_id (vs.map ch)]
  apply List.map_congr_left
  intro n hn
  have := h2 n hn
  simp
  omega
theorem read_back (l : List Int) (hl : l.length ≤ 1000000) (hb : ∀ n ∈ l, byte n) : codec_ReadBase (strOf ((encF (encL l)).map ch), ()) = some (l, 0, ()) := by
  obtain ⟨h1, h2, h3⟩ := back l hb
  have h4 := encF_six l hb
  have h5 := encF_len l hb
  have hb6 := bytes_ch _ h4
  have hsz : (strOf ((encF (encL l)).map ch)).size = (encF (encL l)).length := by rw [strOf_size, List.length_map]
  have := read_main codec_ReadBase.l0 (strOf ((encF (encL l)).map ch)) (decL (encF (encL l))) (fun kx => by
    have := read_l0 kx (strOf ((encF (encL l)).map ch)) (encF (encL l)) h4 (by omega) hb6 (codec_ReadBase.n0 (strOf ((encF (encL l)).map ch), [], 0, 0, ((strOf ((encF (encL l)).map ch)).size : Int), 0, ())) (by show (encF (encL l)).length < _ + _ + _ + _ + _ + _ + 1048576; omega)
    unfold codec_ReadBase.l0 codec_ReadBase.s0
    exact this) h2 h3
  rw [h1] at this
  exact this
end Go.Px.Pu
