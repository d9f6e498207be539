/- The reference's ReadBase is codec.ReadBase: the end. -/
import Derived.Test.YtgmfjbbhdnfapaaDoorPuB64z
set_option linter.unusedVariables false
set_option linter.unusedSimpArgs false
namespace Go.Px.Pu
open Go Go.Px

theorem b6_at (v : Int) (j : Nat) (hj : j < 6) : (b6 v 6).getD j 0 = v / 2 ^ (5 - j) % 2 := by
  rw [List.getD_eq_getElem?_getD, List.getElem?_eq_getElem (by rw [b6_len]; exact hj)]
  simp [b6]
theorem bits_at : (vs : List Int) → (m j : Nat) → m < vs.length → j < 6 → (bits vs).getD (6 * m + j) 0 = vs.getD m 0 / 2 ^ (5 - j) % 2
  | [], _, _, h, _ => by cases h
  | v :: vs, 0, j, _, hj => by
    have : bits (v :: vs) = b6 v 6 ++ bits vs := rfl
    rw [this, Nat.mul_zero, Nat.zero_add, List.getD_eq_getElem?_getD, List.getElem?_append_left (by rw [b6_len]; exact hj), ← List.getD_eq_getElem?_getD, b6_at v j hj]
    rfl
  | v :: vs, m + 1, j, hm, hj => by
    have : bits (v :: vs) = b6 v 6 ++ bits vs := rfl
    rw [this, List.getD_eq_getElem?_getD, List.getElem?_append_right (by rw [b6_len]; omega), b6_len, show 6 * (m + 1) + j - 6 = 6 * m + j by omega, ← List.getD_eq_getElem?_getD, bits_at vs m j (by simpa using hm) hj]
    rfl
theorem bits_01 (vs : List Int) : ∀ x ∈ bits vs, 0 ≤ x ∧ x ≤ 1 := fun x hx => by
  obtain ⟨v, _, hx⟩ := List.mem_flatMap.1 hx
  obtain ⟨i, _, rfl⟩ := List.mem_map.1 hx
  omega
def decP (vs : List Int) (m : Nat) (D : List Int × Int × Int) : Prop := D.1 = (List.range (6 * m / 8)).map (fun r => valB (bits vs) (8 * r) 8) ∧ D.2.1 = valB (bits vs) (8 * (6 * m / 8)) (6 * m % 8) ∧ D.2.2 = ((6 * m % 8 : Nat) : Int)
theorem decP_step (vs : List Int) (hb : ∀ n ∈ vs, six6 n) (m : Nat) (hm : m < vs.length) (D : List Int × Int × Int) (h : decP vs m D) : decP vs (m + 1) (decS D (vs.getD m 0)) := by
  have hy : six6 (vs.getD m 0) := hb _ (getD_mem hm)
  have B (j : Nat) (hj : j < 6) (i : Nat) (hi : i = 6 * m + j) : (bits vs).getD i 0 = vs.getD m 0 / 2 ^ (5 - j) % 2 := by rw [hi]; exact bits_at vs m j hm hj
  generalize vs.getD m 0 = v at hy B
  unfold six6 at hy
  obtain ⟨o, a, n⟩ := D
  obtain ⟨h1, h2, h3⟩ := h
  simp only at h1 h2 h3
  unfold decP
  generalize bits vs = L at *
  have hm4 : m % 4 = 0 ∨ m % 4 = 1 ∨ m % 4 = 2 ∨ m % 4 = 3 := by omega
  rcases hm4 with r | r | r | r
  · obtain ⟨q, rfl⟩ : ∃ q, m = 4 * q := ⟨m / 4, by omega⟩
    rw [show 6 * (4 * q) / 8 = 3 * q by omega] at h1 h2
    rw [show 6 * (4 * q) % 8 = 0 by omega] at h2 h3
    have a2 : valB L (8 * (3 * q)) 6 = v := by
      simp only [valB]
      rw [B 0 (by omega) _ (by omega), B 1 (by omega) _ (by omega), B 2 (by omega) _ (by omega), B 3 (by omega) _ (by omega), B 4 (by omega) _ (by omega), B 5 (by omega) _ (by omega)]
      omega
    rw [show 6 * (4 * q + 1) / 8 = 3 * q by omega, show 6 * (4 * q + 1) % 8 = 6 by omega, a2, ← h1]
    subst h3
    exact ⟨rfl, rfl, rfl⟩
  · obtain ⟨q, rfl⟩ : ∃ q, m = 4 * q + 1 := ⟨m / 4, by omega⟩
    rw [show 6 * (4 * q + 1) / 8 = 3 * q by omega] at h1 h2
    rw [show 6 * (4 * q + 1) % 8 = 6 by omega] at h2 h3
    have ge : valB L (8 * (3 * q)) 8 = (valB L (8 * (3 * q)) 6 * 2 + L.getD (8 * (3 * q) + 6) 0) * 2 + L.getD (8 * (3 * q) + 7) 0 := rfl
    have g : valB L (8 * (3 * q)) 8 = a * 4 + v / 16 := by
      rw [ge, ← h2, B 0 (by omega) _ (by omega), B 1 (by omega) _ (by omega)]
      omega
    have a2 : valB L (8 * (3 * q + 1)) 4 = v % 16 := by
      simp only [valB]
      rw [B 2 (by omega) _ (by omega), B 3 (by omega) _ (by omega), B 4 (by omega) _ (by omega), B 5 (by omega) _ (by omega)]
      omega
    rw [show 6 * (4 * q + 1 + 1) / 8 = 3 * q + 1 by omega, show 6 * (4 * q + 1 + 1) % 8 = 4 by omega, a2, List.range_succ, List.map_append, ← h1]
    subst h3
    refine ⟨?_, rfl, rfl⟩
    simp [decS, g]
  · obtain ⟨q, rfl⟩ : ∃ q, m = 4 * q + 2 := ⟨m / 4, by omega⟩
    rw [show 6 * (4 * q + 2) / 8 = 3 * q + 1 by omega] at h1 h2
    rw [show 6 * (4 * q + 2) % 8 = 4 by omega] at h2 h3
    have ge : valB L (8 * (3 * q + 1)) 8 = (((valB L (8 * (3 * q + 1)) 4 * 2 + L.getD (8 * (3 * q + 1) + 4) 0) * 2 + L.getD (8 * (3 * q + 1) + 5) 0) * 2 + L.getD (8 * (3 * q + 1) + 6) 0) * 2 + L.getD (8 * (3 * q + 1) + 7) 0 := rfl
    have g : valB L (8 * (3 * q + 1)) 8 = a * 16 + v / 4 := by
      rw [ge, ← h2, B 0 (by omega) _ (by omega), B 1 (by omega) _ (by omega), B 2 (by omega) _ (by omega), B 3 (by omega) _ (by omega)]
      omega
    have a2 : valB L (8 * (3 * q + 2)) 2 = v % 4 := by
      simp only [valB]
      rw [B 4 (by omega) _ (by omega), B 5 (by omega) _ (by omega)]
      omega
    rw [show 6 * (4 * q + 2 + 1) / 8 = 3 * q + 2 by omega, show 6 * (4 * q + 2 + 1) % 8 = 2 by omega, a2, show 3 * q + 2 = (3 * q + 1) + 1 by omega, List.range_succ, List.map_append, ← h1]
    subst h3
    refine ⟨?_, rfl, rfl⟩
    simp [decS, g]
  · obtain ⟨q, rfl⟩ : ∃ q, m = 4 * q + 3 := ⟨m / 4, by omega⟩
    rw [show 6 * (4 * q + 3) / 8 = 3 * q + 2 by omega] at h1 h2
    rw [show 6 * (4 * q + 3) % 8 = 2 by omega] at h2 h3
    have ge : valB L (8 * (3 * q + 2)) 8 = (((((valB L (8 * (3 * q + 2)) 2 * 2 + L.getD (8 * (3 * q + 2) + 2) 0) * 2 + L.getD (8 * (3 * q + 2) + 3) 0) * 2 + L.getD (8 * (3 * q + 2) + 4) 0) * 2 + L.getD (8 * (3 * q + 2) + 5) 0) * 2 + L.getD (8 * (3 * q + 2) + 6) 0) * 2 + L.getD (8 * (3 * q + 2) + 7) 0 := rfl
    have g : valB L (8 * (3 * q + 2)) 8 = a * 64 + v := by
      rw [ge, ← h2, B 0 (by omega) _ (by omega), B 1 (by omega) _ (by omega), B 2 (by omega) _ (by omega), B 3 (by omega) _ (by omega), B 4 (by omega) _ (by omega), B 5 (by omega) _ (by omega)]
      omega
    rw [show 6 * (4 * q + 3 + 1) / 8 = 3 * q + 3 by omega, show 6 * (4 * q + 3 + 1) % 8 = 0 by omega, show 3 * q + 3 = (3 * q + 2) + 1 by omega, List.range_succ, List.map_append, ← h1]
    subst h3
    refine ⟨?_, rfl, rfl⟩
    simp [decS, g]
theorem decP_all (l : List Int) (hb : ∀ n ∈ l, six6 n) : ∀ k, k ≤ l.length → decP l k (decL (l.take k))
  | 0, _ => ⟨rfl, rfl, rfl⟩
  | k + 1, h => by
    rw [List.take_succ_eq_append_getElem (by omega), decL_snoc]
    have := decP_step l hb k (by omega) _ (decP_all l hb k (by omega))
    rwa [List.getD_eq_getElem?_getD, List.getElem?_eq_getElem (by omega)] at this
theorem dec_bits (vs : List Int) (hb : ∀ n ∈ vs, six6 n) : (decL vs).1 = (List.range ((bits vs).length / 8)).map fun r => valB (bits vs) (8 * r) 8 := by
  have h := (decP_all vs hb vs.length (Nat.le_refl _)).1
  rw [List.take_length] at h
  rw [h, bits_len]
theorem dec_byte (vs : List Int) (hb : ∀ n ∈ vs, six6 n) : ∀ x ∈ (decL vs).1, byte x := fun x hx => by
  rw [dec_bits vs hb] at hx
  obtain ⟨r, hr, rfl⟩ := List.mem_map.1 hx
  have := valB_lt (bits vs) (bits_01 vs) (8 * r) 8 (by have := List.mem_range.1 hr; omega)
  unfold byte
  omega
theorem strOf_bytesOf (s : ByteArray) : strOf (bytesOf s) = s := by
  unfold strOf bytesOf
  rw [List.map_map]
  have : ((fun n : Int => UInt8.ofNat n.toNat) ∘ fun b : UInt8 => (b.toNat : Int)) = id := by
    funext b; simp
  rw [this, List.map_id]
theorem ch_map_inj : (a b : List Int) → (∀ v ∈ a, six6 v) → (∀ v ∈ b, six6 v) → a.map ch = b.map ch → a = b
  | [], [], _, _, _ => rfl
  | [], _ :: _, _, _, h => by cases h
  | _ :: _, [], _, _, h => by cases h
  | x :: a, y :: b, ha, hb, h => by
    simp only [List.map_cons, List.cons.injEq] at h
    obtain ⟨i, rfl⟩ := fin_of (k := 64) (ha x (by simp)).1 (by have := (ha x (by simp)).2; omega)
    obtain ⟨j, rfl⟩ := fin_of (k := 64) (hb y (by simp)).1 (by have := (hb y (by simp)).2; omega)
    rw [ch_inj i j h.1, ch_map_inj a b (fun v hv => ha v (by simp [hv])) (fun v hv => hb v (by simp [hv])) h.2]
theorem seq_signs (s : ByteArray) (vs X : List Int) (hvs : ∀ v ∈ vs, six6 v) (hX : ∀ v ∈ X, six6 v) (hs : bytesOf s = vs.map ch) : seq (strOf (X.map ch)) s = true ↔ X = vs := by
  have e : s = strOf (vs.map ch) := by rw [← hs, strOf_bytesOf]
  rw [seq_iff]
  constructor
  · intro h
    rw [e, strOf_list, strOf_list] at h
    refine ch_map_inj X vs hX hvs ?_
    have h1 := bytes_ch X hX
    have h2 := bytes_ch vs hvs
    have e1 : (strOf (X.map ch)).data.toList = (X.map ch).map fun n => UInt8.ofNat n.toNat := by simp [strOf]
    have e2 : (strOf (vs.map ch)).data.toList = (vs.map ch).map fun n => UInt8.ofNat n.toNat := by simp [strOf]
    unfold bytesOf at h1 h2
    rw [e1] at h1
    rw [e2] at h2
    rw [← h1, ← h2, h]
  · intro h; rw [h, ← e]
theorem rread_main (f44 l0 l6) (s : ByteArray) (B out X : List Int) (h0 : ∀ kx, l0 (s, [], 0, ()) kx = kx (s, B, ())) (h6 : ∀ kx, l6 (s, B, [], 0, ()) kx = kx (s, out, ())) (h44 : f44 (out, ()) = some (strOf (X.map ch))) :
    r04_ReadBase.b f44 l0 l6 (s, ()) = if seq (strOf (X.map ch)) s = true then some (out, 0, ()) else some ([], 3, ()) := by
  simp only [r04_ReadBase.b, h0, h6]
  rw [h44]
  simp only [Option.bind_some]
  cases hq : seq (strOf (X.map ch)) s with
  | true => rw [if_pos rfl, cond_f (by show (!seq _ _) = false; rw [hq]; rfl)]
  | false => rw [if_neg (by simp), cond_t (by show (!seq _ _) = true; rw [hq]; rfl)]
theorem rread_bad_main (f44 l0 l6) (s : ByteArray) (h0 : ∀ kx, l0 (s, [], 0, ()) kx = some ([], 3, ())) : r04_ReadBase.b f44 l0 l6 (s, ()) = some ([], 3, ()) := by
  simp only [r04_ReadBase.b, h0]
theorem rread_good (s : ByteArray) (hsz : s.size ≤ 100000) (vs : List Int) (hvs : ∀ v ∈ vs, six6 v) (hs : bytesOf s = vs.map ch) : r04_ReadBase (s, ()) = if (decL vs).2.2 < 6 ∧ (decL vs).2.1 = 0 then some ((decL vs).1, 0, ()) else some ([], 3, ()) := by
  have hlen : s.size = vs.length := by rw [← bytesOf_len, hs, List.length_map]
  have hbl := bits_len vs
  have hby := dec_byte vs hvs
  have hdl : (decL vs).1.length ≤ 100000 := by
    have := (decL_ok vs hvs vs.length (Nat.le_refl _)).2
    rw [List.take_length] at this; omega
  have := rread_main r04_Base r04_ReadBase.l0 r04_ReadBase.l6 s (bits vs) (decL vs).1 (encF (encL (decL vs).1)) (fun kx => by
    have := r4_good kx s (by omega) vs hvs hs (r04_ReadBase.n0 (s, [], 0, ())) (by show vs.length < _ + _ + _ + 1048576; omega)
    unfold r04_ReadBase.l0 r04_ReadBase.s0
    exact this) (fun kx => by
    have := r6 kx s (bits vs) (bits_01 vs) (by omega) (r04_ReadBase.n6 (s, bits vs, [], 0, ())) (by show (bits vs).length / 8 < _ + _ + _ + _ + 1048576; omega)
    rw [← dec_bits vs hvs] at this
    unfold r04_ReadBase.l6 r04_ReadBase.s6
    exact this) (rbase_eq _ (by omega) hby)
  refine Eq.trans this ?_
  have hiff := (seq_signs s vs (encF (encL (decL vs).1)) hvs (encF_six _ hby) hs).trans (fw vs hvs)
  by_cases h : (decL vs).2.2 < 6 ∧ (decL vs).2.1 = 0
  · rw [if_pos h, if_pos (hiff.2 h)]
  · rw [if_neg h, if_neg (fun hh => h (hiff.1 hh))]
theorem rread_bad (s : ByteArray) (hsz : s.size ≤ 100000) (vs : List Int) (hvs : ∀ v ∈ vs, six6 v) (c : Int) (rest : List Int) (hs : bytesOf s = vs.map ch ++ c :: rest) (hc : ∀ i : Nat, i < 64 → ch (i : Int) ≠ c) : r04_ReadBase (s, ()) = some ([], 3, ()) :=
  rread_bad_main r04_Base r04_ReadBase.l0 r04_ReadBase.l6 s fun kx => by
    have hlen : vs.length < s.size := by rw [← bytesOf_len, hs]; simp
    have := r4_bad kx s (by omega) vs hvs c rest hs hc (r04_ReadBase.n0 (s, [], 0, ())) (by show vs.length < _ + _ + _ + 1048576; omega)
    unfold r04_ReadBase.l0 r04_ReadBase.s0
    exact this
/-- the two readings are one; and what is read writes the text again -/
theorem rread_eq (s : ByteArray) (hsz : s.size ≤ 100000) : (codec_ReadBase (s, ()) = some ([], 3, ()) ∧ r04_ReadBase (s, ()) = some ([], 3, ())) ∨
    ∃ l : List Int, (∀ x ∈ l, byte x) ∧ l.length ≤ 100000 ∧ codec_ReadBase (s, ()) = some (l, 0, ()) ∧ r04_ReadBase (s, ()) = some (l, 0, ()) ∧ strOf ((encF (encL l)).map ch) = s := by
  rcases signs (bytesOf s) with ⟨vs, hvs, hs⟩ | ⟨vs, c, rest, hvs, hs, hc⟩
  · rw [read_good s (by omega) vs hvs hs, rread_good s hsz vs hvs hs]
    by_cases h : (decL vs).2.2 < 6 ∧ (decL vs).2.1 = 0
    · rw [if_pos h]
      refine .inr ⟨_, dec_byte vs hvs, ?_, rfl, rfl, ?_⟩
      · have := (decL_ok vs hvs vs.length (Nat.le_refl _)).2
        rw [List.take_length] at this
        have hlen : s.size = vs.length := by rw [← bytesOf_len, hs, List.length_map]
        omega
      · rw [(fw vs hvs).2 h, ← hs, strOf_bytesOf]
    · rw [if_neg h]; exact .inl ⟨rfl, rfl⟩
  · exact .inl ⟨read_bad s (by omega) vs hvs c rest hs hc, rread_bad s hsz vs hvs c rest hs hc⟩
end Go.Px.Pu
