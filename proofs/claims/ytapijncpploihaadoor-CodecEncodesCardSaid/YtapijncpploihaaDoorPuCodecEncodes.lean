/- CodecEncodes: any values as bytes, and back; which values there are. -/
import Derived.Test.YtapijncpploihaaDoorSh2
import Derived.Test.YtapijncpploihaaDoorDecD
import Derived.Test.YtapijncpploihaaDoorPuCodAwake
import Derived.Test.YtapijncpploihaaDoorPxD
set_option linter.unusedVariables false
set_option linter.unusedSimpArgs false
namespace Go.Px.Pu
open Go Go.Px
theorem flat_len : (l : List Val) → (∀ v ∈ l, okV v = true) → (l.flatMap encOne).length ≤ 62 * l.length
  | [], _ => Nat.le_refl _
  | v :: l, h => by
    have h1 := encOne_len (h v List.mem_cons_self)
    have h2 := flat_len l fun x hx => h x (List.mem_cons_of_mem _ hx)
    rw [List.flatMap_cons, List.length_append, List.length_cons]
    omega
/-- bytes of values are read -/
theorem decO_enc {l : List Val} (hok : okL l) (h : (encE l).2.1 = 0) : l.length ≤ 12 ∧ (∀ v ∈ l, okV v = true ∧ i64 v.2.1) ∧ encE l = (encB l, 0, ()) ∧ bys (encB l) ∧ (encB l).length ≤ 1000 ∧ decO (encB l) = (l, 0, ()) := by
  unfold encE at h ⊢
  by_cases h12 : 12 < l.length
  · rw [if_pos h12] at h; cases h
  · rw [if_neg h12] at h ⊢
    by_cases ha : l.all okV = true
    · rw [if_pos ha]
      have hall : ∀ v ∈ l, okV v = true := fun v hv => List.all_eq_true.1 ha v hv
      have h2 : ∀ v ∈ l, okV v = true ∧ i64 v.2.1 := fun v hv => ⟨hall v hv, (hok v hv).2⟩
      have hfl := flat_len l hall
      refine ⟨by omega, h2, rfl, encB_bys (by omega) hall, by unfold encB; rw [List.length_cons]; omega, ?_⟩
      unfold decO
      rw [dec_enc l (by omega) h2]
    · rw [if_neg ha] at h; cases h
abbrev ES4 := List Val × Int × Unit
theorem forms_go (l : List Val) (hl : l.length ≤ 140737488351232) (hok : okL l) (f16 f19 : (Val × Unit) → Option Bool) (h16 : ∀ v ∈ l, f16 ((v.1, v.2.1, v.2.2.1, ()), ()) = some (okV v)) (h19 : ∀ v ∈ l, f19 ((v.1, v.2.1, v.2.2.1, ()), ()) = some (okV v)) (kx : (List Val × Unit) → Option Bool) :
    ∀ (k n i : Nat), l.length - i = k → k < n → i ≤ l.length → loopN n (w04_CodecEncodes.s0b f16 f19 kx) (l, (i : Int), ()) = kx (l, ())
  | k, 0, i, _, hn, _ => absurd hn (Nat.not_lt_zero _)
  | k, n + 1, i, hk, hn, hi => by
    have hi1 : iadd .i64 (i : Int) 1 = ((i + 1 : Nat) : Int) := by rw [iadd64 (by omega)]; rfl
    simp only [loopN, w04_CodecEncodes.s0b, Int.toNat_natCast, hi1]
    by_cases hlt : i < l.length
    · rw [cond_t (ilt_iff.2 (by omega))]
      by_cases h30 : i < 30
      · have hx : l.getD i ((0 : Int), (0 : Int), ByteArray.empty, ()) = l[i] := by rw [List.getD_eq_getElem?_getD, List.getElem?_eq_getElem hlt]; rfl
        have hm := List.getElem_mem hlt
        rw [cond_t (ilt_iff.2 (by omega)), chk_true (inB_iff.2 (by omega)), hx, h19 _ hm]
        simp only [Option.bind_some]
        rw [chk_true (inB_iff.2 (by omega)), h16 _ hm]
        simp only [Option.bind_some]
        rw [cond_f (by simp)]
        cases k with
        | zero => omega
        | succ k => exact forms_go l hl hok f16 f19 h16 h19 kx k n (i + 1) (by omega) (by omega) (by omega)
      · rw [cond_f (ilt_f.2 (by omega))]
    · rw [cond_f (ilt_f.2 (by omega))]
theorem encodes_main (f11 f20 f21 f22 f23) (l0 : ES4 → ((List Val × Unit) → Option Bool) → Option Bool) (x0 : List Val) (y : EO) (h11 : f11 () = some true) (h0 : ∀ kx, l0 (x0, 0, ()) kx = kx (x0, ())) (h20 : f20 (x0, ()) = some y) (h21 : f21 (x0, ()) = some y)
    (h22 : y.2.1 = 0 → f22 (y.1, ()) = some (x0, 0, ())) (h23 : y.2.1 = 0 → f23 (x0, x0, ()) = some true) : w04_CodecEncodes.b f11 f20 f21 f22 f23 l0 (x0, ()) = some true := by
  simp only [w04_CodecEncodes.b]
  rw [h11]
  simp only [Option.bind_some, Bool.not_true]
  rw [cond_f rfl, h0]
  dsimp only
  rw [h20]
  simp only [Option.bind_some]
  rw [h21]
  simp only [Option.bind_some]
  rw [cond_f (by simp [sne]), cond_f (ine_f.2 rfl)]
  by_cases h : y.2.1 = 0
  · rw [cond_f (ine_f.2 h), h22 h]
    simp only [Option.bind_some]
    rw [cond_t (ieq_iff.2 rfl), h23 h]
    rfl
  · rw [cond_t (ine_iff.2 h)]
theorem _root_.Go.Px.pure_CodecEncodes (x0 : List (recα [.int .u8, .int .i64, .str])) (y0 : x0.length * 32 ≤ 140737488351232) (w0 : ∀ z ∈ x0, recWf [.int .u8, .int .i64, .str] z) : w04_CodecEncodes (x0, ()) = some true := by
  have hok : okL x0 := fun z hz => by
    obtain ⟨h1, h2, _⟩ := w0 z hz
    exact ⟨byte_wf h1, i64_wf h2⟩
  refine encodes_main _ _ _ _ _ w04_CodecEncodes.l0 x0 (encE x0) cod_awake (fun kx => ?_) (codec_Encode_eq x0 hok) (r04_Encode_eq x0 hok) (fun h => ?_) (fun h => ?_)
  · have hn : x0.length < w04_CodecEncodes.n0 (x0, 0, ()) := by simp only [w04_CodecEncodes.n0]; omega
    unfold w04_CodecEncodes.l0
    generalize w04_CodecEncodes.n0 (x0, 0, ()) = n at hn
    exact forms_go x0 (by omega) hok r04_Form codec_Form (fun v _ => r04_Form_eq v.1 v.2.1 v.2.2.1) (fun v hv => codec_Form_eq (hok v hv).1 v.2.1 v.2.2.1) kx x0.length n 0 rfl hn (by omega)
  · obtain ⟨_, _, e, hb, hl, hd⟩ := decO_enc hok h
    rw [e]
    exact (codec_Decode_eq hb (by omega)).trans (congrArg some hd)
  · obtain ⟨h12, _⟩ := decO_enc hok h
    exact r04_Same_refl _ (by omega)
end Go.Px.Pu
