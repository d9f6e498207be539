/- The plain law of CodecSigns. -/
import Derived.Test.YtapijncpploihaaDoorPuCodAwake
import Derived.Test.YtapijncpploihaaDoorPuB64w
set_option linter.unusedVariables false
set_option linter.unusedSimpArgs false
namespace Go.Px.Pu
open Go Go.Px
theorem sign61 : ∀ i : Fin 64, ch ((i.val : Nat) : Int) ≠ 61 := by decide +kernel
theorem bytesOf_app (a b : ByteArray) : bytesOf (a ++ b) = bytesOf a ++ bytesOf b := by
  unfold bytesOf
  rw [← List.map_append]
  congr 1
theorem enc_size (l : List Int) (hb : ∀ n ∈ l, byte n) : (strOf ((encF (encL l)).map ch)).size = (4 * l.length + 2) / 3 := by
  rw [strOf_size, List.length_map, encF_grp l hb, List.length_map, List.length_range]
  omega
/-- one reading of a text that is all but what was written -/
def readR (f12 : (List Int × Unit) → Option ByteArray) (f13 : (ByteArray × Unit) → Option (List Int × Int × Unit)) (t : ByteArray) : Prop :=
  f13 (t, ()) = some ([], 3, ()) ∨ ∃ l, f13 (t, ()) = some (l, 0, ()) ∧ f12 (l, ()) = some t
theorem readR_all (t : ByteArray) (h : t.size ≤ 100000) : readR codec_Base codec_ReadBase t := by
  rcases rread_eq t h with ⟨h1, _⟩ | ⟨l, hb, hl, h1, _, h3⟩
  · exact .inl h1
  · exact .inr ⟨l, h1, by rw [base_eq l (by omega) hb, h3]⟩
theorem fin_Signs (f12 f13 x2) (t u : ByteArray) (h : readR f12 f13 t) (hu : f13 (u, ()) = some ([], 3, ())) (n : Nat) (hn : n < 4611686018427387904) :
    ((f13 (t, ())).bind fun v47 =>
    chk (decide (n < 4611686018427387904)) <|
    (f13 (u, ())).bind fun v53 =>
    cond (ieq v53.2.1 3) (
    cond (ieq v47.2.1 3) (
    cond (ieq (v47.1.length : Int) 0) (
    some true) (
    cond (ieq v47.2.1 0) (
    (f12 (v47.1, ())).bind fun v71 =>
    some (seq v71 t)) (
    some false))) (
    cond (ieq v47.2.1 0) (
    (f12 (v47.1, ())).bind fun v71 =>
    some (seq v71 t)) (
    some false))) (
    some x2)) = some true := by
  rcases h with h | ⟨l, h1, h2⟩
  · rw [h, hu]
    simp only [Option.bind_some]
    rw [chk_true (decide_eq_true hn)]
    rfl
  · rw [h1, hu]
    simp only [Option.bind_some]
    rw [chk_true (decide_eq_true hn), cond_t (ieq_iff.2 rfl), cond_f (ieq_f.2 (by decide)), cond_t (ieq_iff.2 rfl), h2]
    simp only [Option.bind_some]
    rw [seq_self]
theorem main_CodecSigns (f11 f12 f13) (h11 : f11 () = some true) (x0 : List Int) (hb : ∀ n ∈ x0, byte n) (x1 x2 : Int) (hx1 : 0 ≤ IntKind.wrap .i64 x1) (h12 : x0.length ≤ 3000 → f12 (x0, ()) = some (strOf ((encF (encL x0)).map ch)))
    (hR : ∀ t : ByteArray, t.size ≤ 100000 → readR f12 f13 t) (h61 : x0.length ≤ 3000 → f13 (strOf ((encF (encL x0)).map ch) ++ ⟨#[61]⟩, ()) = some ([], 3, ())) : w04_CodecSigns.b f11 f12 f13 (x0, x1, x2, ()) = some true := by
  simp only [w04_CodecSigns.b, h11, Option.bind_some, Bool.not_true, cond_false]
  by_cases h : x0.length ≤ 3000
  · have h61 := h61 h
    have hsz := enc_size x0 hb
    rw [cond_f (igt_f.2 (by omega)), h12 h]
    simp only [Option.bind_some]
    generalize strOf ((encF (encL x0)).map ch) = t at h61 hsz
    have e1 : imul .i64 (x0.length : Int) 4 = ((4 * x0.length : Nat) : Int) := by rw [imul64 (by omega)]; omega
    have e2 : iadd .i64 ((4 * x0.length : Nat) : Int) 2 = ((4 * x0.length + 2 : Nat) : Int) := by rw [iadd64 (by omega)]; omega
    have e3 : iquo .i64 ((4 * x0.length + 2 : Nat) : Int) 3 = (((4 * x0.length + 2) / 3 : Nat) : Int) := iquo64 _ 3 (by omega)
    have hlen : (bytesOf t).length = t.size := bytesOf_len t
    rw [e1, e2, e3, cond_f (ine_f.2 (by omega)), chk_true (decide_eq_true (by omega))]
    have hn : t.size + (⟨#[61]⟩ : ByteArray).size < 4611686018427387904 := by
      show t.size + 1 < _
      omega
    by_cases h0 : 0 < t.size
    · have hm : 0 ≤ irem .i64 (IntKind.wrap .i64 x1) ((bytesOf t).length : Int) ∧ irem .i64 (IntKind.wrap .i64 x1) ((bytesOf t).length : Int) < (bytesOf t).length := by
        obtain ⟨k, hk⟩ : ∃ k : Nat, IntKind.wrap .i64 x1 = (k : Int) := ⟨(IntKind.wrap .i64 x1).toNat, by omega⟩
        rw [hk, irem64c]
        have := Nat.mod_lt k (show 0 < (bytesOf t).length by omega)
        omega
      rw [cond_t (igt_iff.2 (by omega)), chk_true (decide_eq_true (by omega)), chk_true (inB_iff.2 hm)]
      refine fin_Signs f12 f13 false _ _ (hR _ ?_) h61 _ hn
      rw [strOf_size, List.length_set]; omega
    · rw [cond_f (igt_f.2 (by omega))]
      refine fin_Signs f12 f13 false _ _ (hR _ ?_) h61 _ hn
      rw [strOf_size]; omega
  · rw [cond_t (igt_iff.2 (by omega))]
theorem read61 (l : List Int) (hl : l.length ≤ 3000) (hb : ∀ n ∈ l, byte n) : codec_ReadBase (strOf ((encF (encL l)).map ch) ++ ⟨#[61]⟩, ()) = some ([], 3, ()) := by
  have h6 := encF_six l hb
  have hs := enc_size l hb
  refine read_bad _ ?_ (encF (encL l)) h6 61 [] ?_ (fun i hi => sign61 ⟨i, hi⟩)
  · rw [ByteArray.size_append, hs]
    show _ + 1 ≤ _
    omega
  · rw [bytesOf_app, bytes_ch _ h6]; rfl
theorem _root_.Go.Px.pure_CodecSigns (x0 : List Int) (y0 : x0.length * 1 ≤ 140737488351232) (w0 : ∀ n ∈ x0, (Lit.int .u8 n).wf = true) (x1 : Int) (w1 : (Lit.int .u16 x1).wf = true) (x2 : Int) (w2 : (Lit.int .u8 x2).wf = true) : w04_CodecSigns (x0, x1, x2, ()) = some true := by
  have hb : ∀ n ∈ x0, byte n := fun n hn => byte_wf (w0 n hn)
  simp [Lit.wf, IntKind.min, IntKind.max, IntKind.signed, IntKind.bits] at w1
  have hw : 0 ≤ IntKind.wrap .i64 x1 := by simp [IntKind.wrap, IntKind.signed, IntKind.bits]; omega
  exact main_CodecSigns _ _ _ cod_awake x0 hb x1 x2 hw (fun h => base_eq x0 (by omega) hb) (fun t ht => readR_all t ht) (fun h => read61 x0 h hb)
end Go.Px.Pu
