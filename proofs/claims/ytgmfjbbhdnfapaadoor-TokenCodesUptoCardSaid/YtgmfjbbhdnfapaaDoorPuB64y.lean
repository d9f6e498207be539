/- The reference's ReadBase against codec.ReadBase. -/
import Derived.Test.YtgmfjbbhdnfapaaDoorPuB64x
set_option linter.unusedVariables false
set_option linter.unusedSimpArgs false
namespace Go.Px.Pu
open Go Go.Px

/-! ### a text is six-bit signs, or has a bad one -/
theorem signs : (l : List Int) → (∃ vs : List Int, (∀ v ∈ vs, six6 v) ∧ l = vs.map ch) ∨ (∃ (vs : List Int) (c : Int) (rest : List Int), (∀ v ∈ vs, six6 v) ∧ l = vs.map ch ++ c :: rest ∧ ∀ i : Nat, i < 64 → ch (i : Int) ≠ c)
  | [] => .inl ⟨[], fun v hv => by (cases hv), rfl⟩
  | c :: l => by
    by_cases h : ∃ i : Nat, i < 64 ∧ ch (i : Int) = c
    · obtain ⟨i, hi, rfl⟩ := h
      have h6 : six6 (i : Int) := ⟨by omega, by omega⟩
      rcases signs l with ⟨vs, h1, rfl⟩ | ⟨vs, c, rest, h1, rfl, h2⟩
      · exact .inl ⟨(i : Int) :: vs, fun v hv => by
          rcases List.mem_cons.1 hv with rfl | hv
          · exact h6
          · exact h1 v hv, rfl⟩
      · exact .inr ⟨(i : Int) :: vs, c, rest, fun v hv => by
          rcases List.mem_cons.1 hv with rfl | hv
          · exact h6
          · exact h1 v hv, rfl, h2⟩
    · exact .inr ⟨[], c, l, fun v hv => by (cases hv), rfl, fun i hi he => h ⟨i, hi, he⟩⟩
theorem at_good {s : ByteArray} {vs rest : List Int} (hs : bytesOf s = vs.map ch ++ rest) (hvs : ∀ v ∈ vs, six6 v) {i : Nat} (hi : i < vs.length) : ∃ k : Nat, k < 64 ∧ vs[i] = (k : Int) ∧ ch (k : Int) = byteAt s i ∧ i < s.size := by
  have h6 := hvs _ (List.getElem_mem hi)
  obtain ⟨k, hk⟩ : ∃ k : Nat, vs[i] = (k : Int) := ⟨vs[i].toNat, by have := h6.1; omega⟩
  refine ⟨k, by have := h6.2; omega, hk, ?_, ?_⟩
  · rw [byteAt_get, hs, List.getD_eq_getElem?_getD, List.getElem?_append_left (by simpa using hi), List.getElem?_map, List.getElem?_eq_getElem hi, ← hk]; rfl
  · rw [← bytesOf_len, hs]; simp; omega
/-! ### codec.ReadBase at a bad sign -/
theorem read_bad_l0 (kx) (s : ByteArray) (hsz : s.size ≤ 3000000) (vs : List Int) (hvs : ∀ v ∈ vs, six6 v) (c : Int) (rest : List Int) (hs : bytesOf s = vs.map ch ++ c :: rest) (hc : ∀ i : Nat, i < 64 → ch (i : Int) ≠ c) (m : Nat) (hm : vs.length < m) :
    loopN m (codec_ReadBase.s0b codec_ReadBase.l2 kx) (s, [], 0, 0, (s.size : Int), 0, ()) = some ([], 3, ()) := by
  have hlen : vs.length < s.size := by rw [← bytesOf_len, hs]; simp
  refine traj (fun i => (s, (decL (vs.take i)).1, (decL (vs.take i)).2.1, (decL (vs.take i)).2.2, (s.size : Int), (i : Int), ())) _ vs.length (fun i hi κ => ?_) (fun κ => ?_) m hm
  · obtain ⟨h1, h2⟩ := decL_ok vs hvs i (by omega)
    obtain ⟨k, hk64, hk, hc, _⟩ := at_good hs hvs hi
    rw [read_step kx s hsz i (by omega) k hk64 hc _ h1 h2, List.take_succ_eq_append_getElem hi, decL_snoc, hk]
  · have hcb : byteAt s vs.length = c := by
      rw [byteAt_get, hs, List.getD_eq_getElem?_getD, List.getElem?_append_right (by simp)]; simp
    simp only [codec_ReadBase.s0b]
    rw [cond_t (ilt_iff.2 (by omega)), rl2 _ s _ _ _ vs.length hlen _ _ 64 (by omega) (fun i hi => by rw [hcb]; exact hc i hi) (.inl rfl)]
    simp only
    rw [cond_t (show ieq ((64 : Nat) : Int) 64 = true from rfl)]
theorem read_bad_main (l0) (s : ByteArray) (h0 : ∀ kx, l0 (s, [], 0, 0, (s.size : Int), 0, ()) kx = some ([], 3, ())) : codec_ReadBase.b l0 (s, ()) = some ([], 3, ()) := by
  simp only [codec_ReadBase.b, h0]
theorem read_bad (s : ByteArray) (hsz : s.size ≤ 3000000) (vs : List Int) (hvs : ∀ v ∈ vs, six6 v) (c : Int) (rest : List Int) (hs : bytesOf s = vs.map ch ++ c :: rest) (hc : ∀ i : Nat, i < 64 → ch (i : Int) ≠ c) : codec_ReadBase (s, ()) = some ([], 3, ()) :=
  read_bad_main codec_ReadBase.l0 s fun kx => by
    have hlen : vs.length < s.size := by rw [← bytesOf_len, hs]; simp
    have := read_bad_l0 kx s hsz vs hvs c rest hs hc (codec_ReadBase.n0 (s, [], 0, 0, (s.size : Int), 0, ())) (by show vs.length < _ + _ + _ + _ + _ + _ + 1048576; omega)
    unfold codec_ReadBase.l0 codec_ReadBase.s0
    exact this
theorem read_fin_main (l0) (s : ByteArray) (D : List Int × Int × Int) (h0 : ∀ kx, l0 (s, [], 0, 0, (s.size : Int), 0, ()) kx = kx (D.1, D.2.1, D.2.2, ())) : codec_ReadBase.b l0 (s, ()) = if D.2.2 < 6 ∧ D.2.1 = 0 then some (D.1, 0, ()) else some ([], 3, ()) := by
  simp only [codec_ReadBase.b, h0]
  by_cases h1 : D.2.2 < 6
  · rw [cond_f (ige_f.2 h1)]
    by_cases h2 : D.2.1 = 0
    · rw [cond_f (ine_f.2 h2), if_pos ⟨h1, h2⟩]
    · rw [cond_t (ine_iff.2 h2), if_neg (fun h => h2 h.2)]
  · rw [cond_t (ige_iff.2 (by omega)), if_neg (fun h => h1 h.1)]
theorem read_good (s : ByteArray) (hsz : s.size ≤ 3000000) (vs : List Int) (hvs : ∀ v ∈ vs, six6 v) (hs : bytesOf s = vs.map ch) : codec_ReadBase (s, ()) = if (decL vs).2.2 < 6 ∧ (decL vs).2.1 = 0 then some ((decL vs).1, 0, ()) else some ([], 3, ()) :=
  read_fin_main codec_ReadBase.l0 s (decL vs) fun kx => by
    have hlen : s.size = vs.length := by rw [← bytesOf_len, hs, List.length_map]
    have := read_l0 kx s vs hvs hsz hs (codec_ReadBase.n0 (s, [], 0, 0, (s.size : Int), 0, ())) (by show vs.length < _ + _ + _ + _ + _ + _ + 1048576; omega)
    unfold codec_ReadBase.l0 codec_ReadBase.s0
    exact this
/-! ### what is read, written again -/
def fwR (vs : List Int) (D : List Int × Int × Int) : Prop := (D.2.2 = 0 ∧ D.2.1 = 0 ∧ encL D.1 = (vs, 0, 0)) ∨
  (D.2.2 = 6 ∧ ∃ vs' v, vs = vs' ++ [v] ∧ six6 v ∧ D.2.1 = v ∧ encL D.1 = (vs', 0, 0)) ∨
  (D.2.2 = 4 ∧ ∃ vs' v, vs = vs' ++ [v] ∧ six6 v ∧ D.2.1 = v % 16 ∧ encL D.1 = (vs', v / 16, 2)) ∨
  (D.2.2 = 2 ∧ ∃ vs' v, vs = vs' ++ [v] ∧ six6 v ∧ D.2.1 = v % 4 ∧ encL D.1 = (vs', v / 4, 4))
theorem fwR_step {vs : List Int} {D : List Int × Int × Int} {w : Int} (h : fwR vs D) (hw : six6 w) : fwR (vs ++ [w]) (decS D w) := by
  obtain ⟨o, a, n⟩ := D
  have hw' := hw
  unfold six6 at hw'
  rcases h with ⟨h, h2, h3⟩ | ⟨h, vs', v, h1, hv, h2, h3⟩ | ⟨h, vs', v, h1, hv, h2, h3⟩ | ⟨h, vs', v, h1, hv, h2, h3⟩ <;> simp only at h h2 h3 <;> subst h h2
  · exact .inr (.inl ⟨rfl, vs, w, rfl, hw, rfl, h3⟩)
  · unfold six6 at hv
    refine .inr (.inr (.inl ⟨rfl, vs, w, rfl, hw, rfl, ?_⟩))
    show encL (o ++ [a * 4 + w / 16]) = _
    rw [encL_snoc, h3, h1]
    show (vs' ++ [(a * 4 + w / 16) / 4], (a * 4 + w / 16) % 4, (2 : Int)) = _
    rw [show (a * 4 + w / 16) / 4 = a by omega, show (a * 4 + w / 16) % 4 = w / 16 by omega]
  · unfold six6 at hv
    refine .inr (.inr (.inr ⟨rfl, vs, w, rfl, hw, rfl, ?_⟩))
    show encL (o ++ [v % 16 * 16 + w / 4]) = _
    rw [encL_snoc, h3, h1]
    show (vs' ++ [v / 16 * 16 + (v % 16 * 16 + w / 4) / 16], (v % 16 * 16 + w / 4) % 16, (4 : Int)) = _
    rw [show v / 16 * 16 + (v % 16 * 16 + w / 4) / 16 = v by omega, show (v % 16 * 16 + w / 4) % 16 = w / 4 by omega]
  · unfold six6 at hv
    refine .inl ⟨rfl, rfl, ?_⟩
    show encL (o ++ [v % 4 * 64 + w]) = _
    rw [encL_snoc, h3, h1]
    show (vs' ++ [v / 4 * 4 + (v % 4 * 64 + w) / 64, (v % 4 * 64 + w) % 64], (0 : Int), (0 : Int)) = _
    rw [show v / 4 * 4 + (v % 4 * 64 + w) / 64 = v by omega, show (v % 4 * 64 + w) % 64 = w by omega]
    simp
theorem fwR_all (l : List Int) (hb : ∀ n ∈ l, six6 n) : ∀ i, i ≤ l.length → fwR (l.take i) (decL (l.take i))
  | 0, _ => .inl ⟨rfl, rfl, rfl⟩
  | i + 1, h => by
    rw [List.take_succ_eq_append_getElem (by omega), decL_snoc]
    exact fwR_step (fwR_all l hb i (by omega)) (hb _ (List.getElem_mem _))
theorem fw (vs : List Int) (hb : ∀ n ∈ vs, six6 n) : encF (encL (decL vs).1) = vs ↔ (decL vs).2.2 < 6 ∧ (decL vs).2.1 = 0 := by
  have h := fwR_all vs hb vs.length (Nat.le_refl _)
  rw [List.take_length] at h
  revert h
  generalize decL vs = D
  intro h
  obtain ⟨o, a, n⟩ := D
  rcases h with ⟨h, h2, h3⟩ | ⟨h, vs', v, h1, hv, h2, h3⟩ | ⟨h, vs', v, h1, hv, h2, h3⟩ | ⟨h, vs', v, h1, hv, h2, h3⟩ <;> simp only at h h2 h3 <;> subst h h2
  · simp only
    rw [h3]
    exact ⟨fun _ => ⟨by decide, trivial⟩, fun _ => rfl⟩
  · simp only
    rw [h3, h1]
    constructor
    · intro h
      have := congrArg List.length (show vs' = vs' ++ [a] from h)
      simp at this
    · intro h; exact absurd h.1 (by decide)
  · simp only
    rw [h3, h1]
    unfold six6 at hv
    constructor
    · intro h
      have := List.append_cancel_left (show vs' ++ [v / 16 * 16] = vs' ++ [v] from h)
      simp at this
      exact ⟨by decide, by omega⟩
    · intro h
      show vs' ++ [v / 16 * 16] = vs' ++ [v]
      rw [show v / 16 * 16 = v by have := h.2; omega]
  · simp only
    rw [h3, h1]
    unfold six6 at hv
    constructor
    · intro h
      have := List.append_cancel_left (show vs' ++ [v / 4 * 4] = vs' ++ [v] from h)
      simp at this
      exact ⟨by decide, by omega⟩
    · intro h
      show vs' ++ [v / 4 * 4] = vs' ++ [v]
      rw [show v / 4 * 4 = v by have := h.2; omega]
end Go.Px.Pu
