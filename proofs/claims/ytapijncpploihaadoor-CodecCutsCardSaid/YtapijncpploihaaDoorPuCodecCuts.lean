/- CodecCuts: values' bytes that are cut short, or have one byte more, are none. -/
import Derived.Test.YtapijncpploihaaDoorPuCodecEncodes
set_option linter.unusedVariables false
set_option linter.unusedSimpArgs false
namespace Go.Px.Pu
open Go Go.Px
theorem cut_none {l : List Val} (h12 : l.length ≤ 12) (h : ∀ v ∈ l, okV v = true ∧ i64 v.2.1) (hb : bys (encB l)) {k : Nat} (hk : k < (encB l).length) : decV ((encB l).take k) = none := by
  cases hd : decV ((encB l).take k) with
  | none => rfl
  | some m =>
    obtain ⟨e, hm, h2⟩ := enc_dec (P := (encB l).take k) (fun x hx => hb x (List.mem_of_mem_take hx)) hd
    have := enc_prefix l m ((encB l).drop k) h12 hm h h2 (by rw [← e, List.take_append_drop])
    have hl := congrArg List.length this
    rw [List.length_drop, List.length_nil] at hl
    omega
theorem more_none {l : List Val} (h12 : l.length ≤ 12) (h : ∀ v ∈ l, okV v = true ∧ i64 v.2.1) (hb : bys (encB l)) {x : Int} (hx : byte x) : decV (encB l ++ [x]) = none := by
  cases hd : decV (encB l ++ [x]) with
  | none => rfl
  | some m =>
    obtain ⟨e, hm, h2⟩ := enc_dec (P := encB l ++ [x]) (bys_app.2 ⟨hb, bys_cons.2 ⟨hx, bys_nil⟩⟩) hd
    have := enc_prefix m l [x] hm h12 h2 h e
    cases this
theorem cuts_main (f11 f20 f22) (x0 : List Val) (x1 x2 : Int) (hx1 : 0 ≤ x1 ∧ x1 ≤ 65535) (y : EO) (h11 : f11 () = some true) (h20 : f20 (x0, ()) = some y) (hy : y.2.1 = 0 → 0 < y.1.length ∧ y.1.length ≤ 1000)
    (h22 : y.2.1 = 0 → ∀ k : Nat, k < y.1.length → f22 (y.1.take k, ()) = some ([], 3, ())) (h23 : y.2.1 = 0 → f22 (y.1 ++ [x2], ()) = some ([], 3, ())) : w04_CodecCuts.b f11 f20 f22 (x0, x1, x2, ()) = some true := by
  simp only [w04_CodecCuts.b]
  rw [h11]
  simp only [Option.bind_some, Bool.not_true]
  rw [cond_f rfl, h20]
  simp only [Option.bind_some]
  by_cases h : y.2.1 = 0
  · obtain ⟨g1, g2⟩ := hy h
    have hw : IntKind.wrap .i64 x1 = x1 := IntWalk.i64_in _ (by omega)
    obtain ⟨k, hk, hlt⟩ : ∃ k : Nat, irem .i64 (IntKind.wrap .i64 x1) (y.1.length : Int) = k ∧ k < y.1.length := by
      rw [hw]
      have e1 := Int.tmod_nonneg (y.1.length : Int) hx1.1
      have e2 := Int.tmod_lt_of_pos x1 (show (0 : Int) < (y.1.length : Int) by omega)
      exact ⟨(x1.tmod (y.1.length : Int)).toNat, by unfold irem; omega, by omega⟩
    rw [cond_f (ine_f.2 h), hk, chk_true (by simp; intro e; rw [e] at g1; exact absurd g1 (by decide)), chk_true (by simp [leB]; omega)]
    rw [show ((k : Int) - 0).toNat = k by omega, List.drop_zero, h22 h k hlt]
    simp only [Option.bind_some]
    rw [chk_true (fits_iff.2 (by omega)), chk_true (fits_iff.2 (by omega)), h23 h]
    simp only [Option.bind_some]
    rw [cond_t (ieq_iff.2 rfl), ieq_iff.2 rfl]
  · rw [cond_t (ine_iff.2 h)]
theorem u16_wf {n : Int} (h : (Lit.int .u16 n).wf = true) : 0 ≤ n ∧ n ≤ 65535 := by
  simp [Lit.wf, IntKind.min, IntKind.max, IntKind.signed, IntKind.bits] at h
  omega
theorem _root_.Go.Px.pure_CodecCuts (x0 : List (recα [.int .u8, .int .i64, .str])) (y0 : x0.length * 32 ≤ 140737488351232) (w0 : ∀ z ∈ x0, recWf [.int .u8, .int .i64, .str] z) (x1 : Int) (w1 : (Lit.int .u16 x1).wf = true) (x2 : Int) (w2 : (Lit.int .u8 x2).wf = true) : w04_CodecCuts (x0, x1, x2, ()) = some true := by
  have hok : okL x0 := fun z hz => by
    obtain ⟨h1, h2, _⟩ := w0 z hz
    exact ⟨byte_wf h1, i64_wf h2⟩
  refine cuts_main _ _ _ x0 x1 x2 (u16_wf w1) (encE x0) cod_awake (codec_Encode_eq x0 hok) (fun h => ?_) (fun h k hk => ?_) (fun h => ?_)
  · obtain ⟨_, _, e, _, hl, _⟩ := decO_enc hok h
    rw [e]
    exact ⟨by simp [encB], hl⟩
  · obtain ⟨h12, h2, e, hb, hl, _⟩ := decO_enc hok h
    rw [e] at hk ⊢
    dsimp only at hk ⊢
    rw [codec_Decode_eq (fun x hx => hb x (List.mem_of_mem_take hx)) (by rw [List.length_take]; omega)]
    unfold decO
    rw [cut_none h12 h2 hb hk]
  · obtain ⟨h12, h2, e, hb, hl, _⟩ := decO_enc hok h
    rw [e]
    dsimp only
    rw [codec_Decode_eq (bys_app.2 ⟨hb, bys_cons.2 ⟨byte_wf w2, bys_nil⟩⟩) (by rw [List.length_append]; simp; omega)]
    unfold decO
    rw [more_none h12 h2 hb (byte_wf w2)]
end Go.Px.Pu
