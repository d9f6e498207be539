/- utf8.ValidString answers, for any text of a size. -/
import Derived.Test.YtapijncpploihaaDoorSh
import Derived.Test.YtapijncpploihaaDoorPuBase
import Derived.Test.YtapijncpploihaaDoorPuLex
set_option linter.unusedVariables false
set_option linter.unusedSimpArgs false
namespace Go.Px.Pu
open Go Go.Px

section
variable {ρ σ α β : Type}
theorem loopN_some {step : σ → (σ → Option ρ) → Option ρ} (I : σ → Prop) (μ : σ → Nat)
    (h : ∀ s, I s → ∀ κ : σ → Option ρ, (∀ s', I s' → μ s' < μ s → ∃ r, κ s' = some r) → ∃ r, step s κ = some r) : ∀ n s, I s → μ s < n → ∃ r, loopN n step s = some r
  | 0, s, _, hn => absurd hn (Nat.not_lt_zero _)
  | n + 1, s, hi, hn => h s hi (loopN n step) fun s' hi' hm => loopN_some I μ h n s' hi' (by omega)
theorem cond_some {b : Bool} {x y : Option α} (h1 : b = true → ∃ r, x = some r) (h2 : b = false → ∃ r, y = some r) : ∃ r, cond b x y = some r := by
  cases b
  · exact h2 rfl
  · exact h1 rfl
theorem chk_some {b : Bool} {k : Option ρ} (h : b = true) (hk : ∃ r, k = some r) : ∃ r, chk b k = some r := by rw [chk_true h]; exact hk
theorem bind_some {o : Option β} {f : β → Option α} (h : ∃ a, o = some a) (hf : ∀ a, ∃ r, f a = some r) : ∃ r, o.bind f = some r := by
  obtain ⟨a, rfl⟩ := h
  exact hf a
theorem leaf_some (a : α) : ∃ r, some a = some r := ⟨a, rfl⟩
end
theorem sub_size (s : ByteArray) (a : Nat) : (subStr s (a : Int) (s.size : Int)).size = s.size - a := by
  simp [subStr]
theorem sub_size1 (s : ByteArray) : (subStr s 1 (s.size : Int)).size = s.size - 1 := sub_size s 1
theorem sub_size2 (s : ByteArray) : (subStr s 2 (s.size : Int)).size = s.size - 2 := sub_size s 2
theorem sub_size3 (s : ByteArray) : (subStr s 3 (s.size : Int)).size = s.size - 3 := sub_size s 3
theorem sub_size4 (s : ByteArray) : (subStr s 4 (s.size : Int)).size = s.size - 4 := sub_size s 4
theorem sub_size8 (s : ByteArray) : (subStr s 8 (s.size : Int)).size = s.size - 8 := sub_size s 8
theorem sub_size16 (s : ByteArray) : (subStr s 16 (s.size : Int)).size = s.size - 16 := sub_size s 16
theorem sub_size24 (s : ByteArray) : (subStr s 24 (s.size : Int)).size = s.size - 24 := sub_size s 24
theorem sub_size32 (s : ByteArray) : (subStr s 32 (s.size : Int)).size = s.size - 32 := sub_size s 32
theorem word_some {s : ByteArray} (h : 8 ≤ s.size) : ∃ v, unicode_utf8_word_string (s, ()) = some v := by
  unfold unicode_utf8_word_string
  simp only [unicode_utf8_word_string.b]
  repeat refine chk_some (inB_iff.2 (by omega)) ?_
  exact leaf_some _
theorem byteAt_byte (s : ByteArray) (i : Nat) : byte (byteAt s i) := by
  unfold byteAt byte
  have := UInt8.toNat_lt (s.data.toList[i]?.getD 0)
  omega
theorem first_ix : ∀ i : Fin 256, inB (ishr .u8 (gvFirst.getD i.val (0 : Int)) 4) 16 = true := by decide +kernel
theorem valid_s2 {f42 : (ByteArray × Unit) → Option Int} (h42 : ∀ s : ByteArray, 8 ≤ s.size → ∃ v, f42 (s, ()) = some v) {kx κ : ByteArray × Unit → Option Bool} {t : ByteArray} (hk : ∃ r, kx (t, ()) = some r)
    (hκ : ∀ s' : ByteArray × Unit, s'.1.size < t.size → ∃ r, κ s' = some r) : ∃ r, unicode_utf8_ValidString.s2b f42 kx (t, ()) κ = some r := by
  simp only [unicode_utf8_ValidString.s2b]
  refine cond_some (fun h => ?_) fun _ => hk
  have h := igt_iff.1 h
  refine bind_some (h42 _ (by omega)) fun v => ?_
  refine chk_some (by simp [leB]; omega) (bind_some (h42 _ (by rw [sub_size8]; omega)) fun v => ?_)
  refine chk_some (by simp [leB]; omega) (bind_some (h42 _ (by rw [sub_size16]; omega)) fun v => ?_)
  refine chk_some (by simp [leB]; omega) (bind_some (h42 _ (by rw [sub_size24]; omega)) fun v => ?_)
  refine cond_some (fun _ => chk_some (by simp [leB]; omega) (hκ _ (by rw [sub_size32]; omega))) fun _ => hk
theorem valid_l2 {kx : ByteArray × Unit → Option Bool} {s : ByteArray} (hk : ∀ s' : ByteArray, s'.size ≤ s.size → ∃ r, kx (s', ()) = some r) : ∃ r, unicode_utf8_ValidString.l2 (s, ()) kx = some r := by
  unfold unicode_utf8_ValidString.l2
  refine loopN_some (I := fun x => x.1.size ≤ s.size) (fun x => x.1.size) ?_ _ _ (Nat.le_refl _) (by simp only [unicode_utf8_ValidString.n2]; omega)
  rintro ⟨t, _⟩ hi κ hκ
  simp only at hi hκ
  exact valid_s2 (f42 := unicode_utf8_word_string) (fun s h => word_some h) (hk t hi) fun s' hs' => hκ s' (by omega) hs'
theorem valid_s0 {f42 : (ByteArray × Unit) → Option Int} (h42 : ∀ s : ByteArray, 8 ≤ s.size → ∃ v, f42 (s, ()) = some v) {l2 : (ByteArray × Unit) → ((ByteArray × Unit) → Option Bool) → Option Bool}
    (hl2 : ∀ (s : ByteArray) (kx : ByteArray × Unit → Option Bool), (∀ s' : ByteArray, s'.size ≤ s.size → ∃ r, kx (s', ()) = some r) → ∃ r, l2 (s, ()) kx = some r)
    {kx : Unit → Option Bool} (hk : ∃ r, kx () = some r) {κ : ByteArray × Unit → Option Bool} {t : ByteArray} (hκ : ∀ s' : ByteArray × Unit, s'.1.size < t.size → ∃ r, κ s' = some r) :
    ∃ r, unicode_utf8_ValidString.s0b f42 l2 kx (t, ()) κ = some r := by
  simp only [unicode_utf8_ValidString.s0b]
  refine cond_some (fun h => ?_) fun _ => hk
  have h := igt_iff.1 h
  refine chk_some (inB_iff.2 (by omega)) ?_
  refine cond_some (fun _ => ?_) fun hb => ?_
  · refine chk_some (by simp [leB]; omega) ?_
    have e1 := sub_size1 t
    have k1 : ∃ r, κ (subStr t 1 t.size, ()) = some r := hκ _ (by simp only [e1]; omega)
    generalize subStr t 1 t.size = a at e1 k1 ⊢
    refine cond_some (fun h2 => ?_) fun _ => k1
    have h2 := igt_iff.1 h2
    refine bind_some (h42 _ (by omega)) fun v => ?_
    refine cond_some (fun _ => ?_) fun _ => k1
    refine chk_some (by simp [leB]; omega) ?_
    have e2 := sub_size8 a
    have k2 : ∃ r, κ (subStr a 8 a.size, ()) = some r := hκ _ (by simp only [e2]; omega)
    generalize subStr a 8 a.size = b at e2 k2 ⊢
    refine cond_some (fun h3 => ?_) fun _ => k2
    have h3 := igt_iff.1 h3
    refine bind_some (h42 _ (by omega)) fun v => ?_
    refine chk_some (by simp [leB]; omega) (bind_some (h42 _ (by rw [sub_size8]; omega)) fun v => ?_)
    refine cond_some (fun _ => ?_) fun _ => k2
    refine chk_some (by simp [leB]; omega) (hl2 _ _ fun s' hs' => hκ _ (by rw [sub_size16] at hs'; simp only; omega))
  · obtain ⟨b0, b1⟩ := byteAt_byte t 0
    refine chk_some (inB_iff.2 (by omega)) ?_
    refine chk_some ?_ ?_
    · have := first_ix ⟨(byteAt t 0).toNat, by omega⟩
      exact this
    generalize IntKind.wrap .i64 (iand .u8 (gvFirst.getD (byteAt t 0).toNat (0 : Int)) 7) = n
    generalize (gvAccept.getD (ishr .u8 (gvFirst.getD (byteAt t 0).toNat (0 : Int)) 4).toNat ((0 : Int), (0 : Int), ())) = ac
    refine cond_some (fun _ => ?_) fun _ => ?_
    · refine cond_some (fun _ => leaf_some _) fun h2 => ?_
      have h2 := ilt_f.1 h2
      refine chk_some (inB_iff.2 (by omega)) (cond_some (fun _ => leaf_some _) fun _ => ?_)
      refine chk_some (inB_iff.2 (by omega)) (cond_some (fun _ => leaf_some _) fun _ => ?_)
      exact chk_some (by simp [leB]; omega) (hκ _ (by simp only [sub_size2]; omega))
    refine cond_some (fun _ => ?_) fun _ => ?_
    · refine cond_some (fun _ => leaf_some _) fun h2 => ?_
      have h2 := ilt_f.1 h2
      refine chk_some (inB_iff.2 (by omega)) (cond_some (fun _ => leaf_some _) fun _ => ?_)
      refine chk_some (inB_iff.2 (by omega)) (cond_some (fun _ => leaf_some _) fun _ => ?_)
      refine chk_some (inB_iff.2 (by omega)) (cond_some (fun _ => leaf_some _) fun _ => ?_)
      refine chk_some (inB_iff.2 (by omega)) (cond_some (fun _ => leaf_some _) fun _ => ?_)
      exact chk_some (by simp [leB]; omega) (hκ _ (by simp only [sub_size3]; omega))
    refine cond_some (fun _ => ?_) fun _ => leaf_some _
    · refine cond_some (fun _ => leaf_some _) fun h2 => ?_
      have h2 := ilt_f.1 h2
      refine chk_some (inB_iff.2 (by omega)) (cond_some (fun _ => leaf_some _) fun _ => ?_)
      refine chk_some (inB_iff.2 (by omega)) (cond_some (fun _ => leaf_some _) fun _ => ?_)
      refine chk_some (inB_iff.2 (by omega)) (cond_some (fun _ => leaf_some _) fun _ => ?_)
      refine chk_some (inB_iff.2 (by omega)) (cond_some (fun _ => leaf_some _) fun _ => ?_)
      refine chk_some (inB_iff.2 (by omega)) (cond_some (fun _ => leaf_some _) fun _ => ?_)
      refine chk_some (inB_iff.2 (by omega)) (cond_some (fun _ => leaf_some _) fun _ => ?_)
      exact chk_some (by simp [leB]; omega) (hκ _ (by simp only [sub_size4]; omega))
theorem valid_some (s : ByteArray) : ∃ r, unicode_utf8_ValidString (s, ()) = some r := by
  unfold unicode_utf8_ValidString
  simp only [unicode_utf8_ValidString.b]
  unfold unicode_utf8_ValidString.l0
  refine loopN_some (I := fun _ => True) (fun x => x.1.size) ?_ _ _ trivial (by simp only [unicode_utf8_ValidString.n0]; omega)
  rintro ⟨t, _⟩ _ κ hκ
  simp only [true_implies] at hκ
  exact valid_s0 (f42 := unicode_utf8_word_string) (l2 := unicode_utf8_ValidString.l2) (fun s h => word_some h) (fun s kx h => valid_l2 h) (leaf_some _) fun s' hs' => hκ s' hs'
end Go.Px.Pu
