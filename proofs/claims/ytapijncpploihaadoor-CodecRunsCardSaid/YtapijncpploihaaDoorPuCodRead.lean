/- Keys read: what codec.ReadKey and the reference's ReadKey answer. -/
import Derived.Test.YtapijncpploihaaDoorPuCodKey
set_option linter.unusedVariables false
set_option linter.unusedSimpArgs false
namespace Go.Px.Pu
open Go Go.Px

abbrev KR := (Int × Int × ByteArray × Unit) × Int × Int × Unit
def kBad (e : Int) : KR := ((0, 0, ByteArray.empty, ()), 0, e, ())
/-- a value at a place, if it is one -/
def kIf (k n : Int) (s : ByteArray) (at' : Int) : KR := if formR k n s = true then ((k, n, s, ()), at', 0, ()) else kBad 3
def readKey (p : List Int) (i : Int) : KR :=
  if i < 0 then kBad 1 else if (p.length : Int) < i then kBad 1 else if i = p.length then kBad 3 else
  if p.getD i.toNat 0 = 1 then (if (readI p (i + 1)).2.2.1 ≠ 0 then kBad 3 else kIf 1 (readI p (i + 1)).1 ByteArray.empty (readI p (i + 1)).2.1)
  else if p.getD i.toNat 0 = 2 then (if (readText p (i + 1)).2.2.1 ≠ 0 then kBad 3 else kIf 2 0 (readText p (i + 1)).1 (readText p (i + 1)).2.1)
  else if p.getD i.toNat 0 = 3 then (if i + 1 = p.length then kBad 3 else kIf 3 (p.getD (i + 1).toNat 0) ByteArray.empty (i + 2))
  else kIf (p.getD i.toNat 0) 0 ByteArray.empty (i + 1)
theorem kIf_cond {k n : Int} {s : ByteArray} {a : Int} {b : Bool} (h : b = formR k n s) : cond (!b) (some (kBad 3)) (some (((k, n, s, ()), a, 0, ()) : KR)) = some (kIf k n s a) := by
  subst h
  unfold kIf
  cases formR k n s <;> rfl
theorem wrap_byte {b : Int} (h : byte b) : IntKind.wrap .i64 b = b := IntWalk.i64_in _ (by have := h.1; have := h.2; omega)
section
variable {p : List Int} (hp : p.length ≤ 140737488351232) (hb : bys p)
include hp hb
theorem readKey_main (i : Int) (f19 : ((Int × Int × ByteArray × Unit) × Unit) → Option Bool) (f38 : (List Int × Int × Unit) → Option (Int × Int × Int × Unit)) (f39 : (List Int × Int × Unit) → Option (ByteArray × Int × Int × Unit))
    (h19 : ∀ k n s, byte k → f19 ((k, n, s, ()), ()) = some (formR k n s)) (h38 : ∀ i, f38 (p, i, ()) = some (readI p i)) (h39 : ∀ i, f39 (p, i, ()) = some (readText p i)) :
    codec_ReadKey.b f19 f38 f39 (p, i, ()) = some (readKey p i) := by
  simp only [codec_ReadKey.b]
  unfold readKey
  by_cases h1 : i < 0
  · rw [cond_t (ilt_iff.2 h1), if_pos h1]; rfl
  rw [cond_f (ilt_f.2 (by omega)), if_neg h1]
  by_cases h2 : (p.length : Int) < i
  · rw [cond_t (igt_iff.2 h2), if_pos h2]; rfl
  rw [cond_f (igt_f.2 (by omega)), if_neg h2]
  by_cases h3 : i = p.length
  · rw [cond_t (ieq_iff.2 h3), if_pos h3]; rfl
  rw [cond_f (ieq_f.2 h3), if_neg h3, chk_true (inB_iff.2 (by omega)), iadd64 (a := i) (b := 1) (by omega), iadd64 (a := i + 1) (b := 1) (by omega)]
  have hk : byte (p.getD i.toNat 0) := hb _ (getD_mem (by omega))
  generalize hkk : p.getD i.toNat (0 : Int) = k at hk
  by_cases k1 : k = 1
  · subst k1
    rw [cond_t (ieq_iff.2 rfl), if_pos rfl, h38]
    simp only [Option.bind_some]
    by_cases he : (readI p (i + 1)).2.2.1 = 0
    · rw [cond_f (ine_f.2 he), if_neg (by simpa using he), h19 _ _ _ hk]
      simp only [Option.bind_some]
      exact kIf_cond rfl
    · rw [cond_t (ine_iff.2 he), if_pos he]; rfl
  rw [cond_f (ieq_f.2 k1), if_neg k1]
  by_cases k2 : k = 2
  · subst k2
    rw [cond_t (ieq_iff.2 rfl), if_pos rfl, h39]
    simp only [Option.bind_some]
    by_cases he : (readText p (i + 1)).2.2.1 = 0
    · rw [cond_f (ine_f.2 he), if_neg (by simpa using he), h19 _ _ _ hk]
      simp only [Option.bind_some]
      exact kIf_cond rfl
    · rw [cond_t (ine_iff.2 he), if_pos he]; rfl
  rw [cond_f (ieq_f.2 k2), if_neg k2]
  by_cases k3 : k = 3
  · subst k3
    rw [cond_t (ieq_iff.2 rfl), if_pos rfl]
    by_cases h4 : i + 1 = p.length
    · rw [cond_t (ieq_iff.2 h4), if_pos h4]; rfl
    · rw [cond_f (ieq_f.2 h4), if_neg h4, chk_true (inB_iff.2 (by omega)), wrap_byte (hb _ (getD_mem (by omega))), h19 _ _ _ hk]
      simp only [Option.bind_some]
      rw [show i + 1 + 1 = i + 2 by omega]
      exact kIf_cond rfl
  rw [cond_f (ieq_f.2 k3), if_neg k3, h19 _ _ _ hk]
  simp only [Option.bind_some]
  exact kIf_cond rfl
theorem rreadKey_main (i : Int) (f19 : ((Int × Int × ByteArray × Unit) × Unit) → Option Bool) (f38 : (List Int × Int × Unit) → Option (Int × Int × Int × Unit)) (f39 : (List Int × Int × Unit) → Option (ByteArray × Int × Int × Unit))
    (h19 : ∀ k n s, byte k → f19 ((k, n, s, ()), ()) = some (formR k n s)) (h38 : ∀ i, f38 (p, i, ()) = some (readI p i)) (h39 : ∀ i, f39 (p, i, ()) = some (readText p i)) :
    r04_ReadKey.b f19 f38 f39 (p, i, ()) = some (readKey p i) := by
  simp only [r04_ReadKey.b]
  unfold readKey
  by_cases h1 : i < 0
  · rw [cond_t (ilt_iff.2 h1), if_pos h1]; rfl
  rw [cond_f (ilt_f.2 (by omega)), if_neg h1]
  by_cases h2 : (p.length : Int) < i
  · rw [cond_t (igt_iff.2 h2), if_pos h2]; rfl
  rw [cond_f (igt_f.2 (by omega)), if_neg h2]
  by_cases h3 : i = p.length
  · rw [cond_t (ieq_iff.2 h3), if_pos h3]; rfl
  rw [cond_f (ieq_f.2 h3), if_neg h3, chk_true (inB_iff.2 (by omega)), iadd64 (a := i) (b := 1) (by omega), iadd64 (a := i) (b := 2) (by omega)]
  have hk : byte (p.getD i.toNat 0) := hb _ (getD_mem (by omega))
  generalize hkk : p.getD i.toNat (0 : Int) = k at hk
  by_cases k1 : k = 1
  · subst k1
    rw [cond_t (ieq_iff.2 rfl), if_pos rfl, h38]
    simp only [Option.bind_some]
    by_cases he : (readI p (i + 1)).2.2.1 = 0
    · rw [cond_f (ine_f.2 he), if_neg (by simpa using he), h19 _ _ _ hk]
      simp only [Option.bind_some]
      exact kIf_cond rfl
    · rw [cond_t (ine_iff.2 he), if_pos he]; rfl
  rw [cond_f (ieq_f.2 k1), if_neg k1]
  by_cases k2 : k = 2
  · subst k2
    rw [cond_t (ieq_iff.2 rfl), if_pos rfl, h39]
    simp only [Option.bind_some]
    by_cases he : (readText p (i + 1)).2.2.1 = 0
    · rw [cond_f (ine_f.2 he), if_neg (by simpa using he), h19 _ _ _ hk]
      simp only [Option.bind_some]
      exact kIf_cond rfl
    · rw [cond_t (ine_iff.2 he), if_pos he]; rfl
  rw [cond_f (ieq_f.2 k2), if_neg k2]
  by_cases k3 : k = 3
  · subst k3
    rw [cond_t (ieq_iff.2 rfl), if_pos rfl]
    by_cases h4 : i + 1 = p.length
    · rw [cond_t (ige_iff.2 (by omega)), if_pos h4]; rfl
    · rw [cond_f (ige_f.2 (by omega)), if_neg h4, chk_true (inB_iff.2 (by omega)), wrap_byte (hb _ (getD_mem (by omega))), h19 _ _ _ hk]
      simp only [Option.bind_some]
      exact kIf_cond rfl
  rw [cond_f (ieq_f.2 k3), if_neg k3, h19 _ _ _ hk]
  simp only [Option.bind_some]
  exact kIf_cond rfl
theorem codec_ReadKey_eq (i : Int) : codec_ReadKey (p, i, ()) = some (readKey p i) :=
  readKey_main hp hb i codec_Form octet_ReadInt octet_ReadText (fun k n s h => codec_Form_eq h n s) (octet_ReadInt_eq hp hb) (octet_ReadText_eq hp)
theorem r04_ReadKey_eq (i : Int) : r04_ReadKey (p, i, ()) = some (readKey p i) :=
  rreadKey_main hp hb i r04_Form r02_ReadInt r02_ReadText (fun k n s _ => r04_Form_eq k n s) (r02_ReadInt_eq hp hb) (r02_ReadText_eq hp)
end
/-- a key is read again, whatever stands about it -/
theorem readKey_at (p a z : List Int) {k n : Int} {s : ByteArray} (hn : i64 n) (hf : formR k n s = true) (h : p = a ++ (keyB k n s ++ z)) : readKey p (a.length : Int) = ((k, n, s, ()), ((a ++ keyB k n s).length : Int), 0, ()) := by
  have hlen : ∃ m, keyB k n s = k :: m := by
    rcases form_k hf with rfl | rfl | rfl | rfl
    · exact ⟨[], key0 n s⟩
    · exact ⟨_, key1 n s⟩
    · exact ⟨_, key2 n s⟩
    · exact ⟨_, key3 n s⟩
  obtain ⟨m, hm⟩ := hlen
  have hl : p.length = a.length + (m.length + 1 + z.length) := by rw [h, hm]; simp; omega
  have hg : p.getD a.length 0 = k := by rw [h, hm]; simp [List.getD_eq_getElem?_getD]
  unfold readKey
  rw [if_neg (by omega), if_neg (by omega), if_neg (by omega), Int.toNat_natCast, hg]
  have e1 : ((a.length : Int) + 1) = ((a ++ [k]).length : Int) := by simp
  have e2 : ((a.length : Int) + 1).toNat = a.length + 1 := by omega
  rcases form_k hf with rfl | rfl | rfl | rfl
  · have f := form0 hf
    obtain rfl := f.1
    obtain rfl := size0 f.2
    rw [if_neg (by decide), if_neg (by decide), if_neg (by decide)]
    unfold kIf
    rw [if_pos hf, key0]; simp
  · obtain rfl := size0 (form1 hf)
    rw [if_pos rfl, e1, readI_at p (a ++ [1]) z n (by rw [h, key1]; simp) hn, if_neg (by simp)]
    unfold kIf
    rw [if_pos hf, key1]; simp [intB_len]; omega
  · have f := form2 hf
    obtain rfl := f.1
    rw [if_neg (by decide), if_pos rfl, e1, readText_at p (a ++ [2]) z s (by rw [h, key2]; simp), if_neg (by simp)]
    unfold kIf
    rw [if_pos hf, key2]; simp
  · have f := form3 hf
    obtain rfl := size0 f.1
    have hm1 : m = [n] := by have := key3 n ByteArray.empty; rw [hm] at this; simpa using this
    subst hm1
    have hg1 : p.getD (a.length + 1) 0 = n := by rw [h, key3]; simp [List.getD_eq_getElem?_getD]
    rw [if_neg (by decide), if_neg (by decide), if_pos rfl, if_neg (by simp at hl; omega), e2, hg1]
    unfold kIf
    rw [if_pos hf, key3]; simp
end Go.Px.Pu
