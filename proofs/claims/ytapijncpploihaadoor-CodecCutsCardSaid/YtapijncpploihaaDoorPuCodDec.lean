/- The reference's Decode and Same. -/
import Derived.Test.YtapijncpploihaaDoorPuCodEnc
set_option linter.unusedVariables false
set_option linter.unusedSimpArgs false
namespace Go.Px.Pu
open Go Go.Px
abbrev DO := List Val × Int × Unit
def rdR : Nat → List Int → Nat → List Val → Option (List Val × Nat)
  | 0, _, k, acc => some (acc, k)
  | n + 1, P, k, acc => match rdVal P k with
    | some x => rdR n P x.2 (acc ++ [x.1])
    | none => none
abbrev DS4 := List Int × List Val × Int × Int × Unit
theorem rDec_step (P : List Int) (hb : bys P) (hp : P.length ≤ 140737488351232) (hp0 : 0 < P.length) (acc : List Val) (ha : acc.length ≤ 300) (k i : Nat) (hk : k ≤ P.length) (hi : (i : Int) < P.getD 0 0)
    (f37 : (List Int × Int × Unit) → Option (Int × Int × Int × Unit)) (h37 : ∀ j, f37 (P, j, ()) = some (readI P j)) (kx : (List Int × List Val × Unit) → Option DO) (κ : DS4 → Option DO) :
    r04_Decode.s0b f37 kx (P, acc, (k : Int), (i : Int), ()) κ = match rdVal P k with
      | some x => κ (P, acc ++ [x.1], (x.2 : Int), ((i + 1 : Nat) : Int), ())
      | none => some ([], 3, ()) := by
  have hb0 := getD_bys hb 0
  have hb01 := hb0.1
  have hb02 := hb0.2
  have hi1 : iadd .i64 (i : Int) 1 = ((i + 1 : Nat) : Int) := by rw [iadd64 (by omega)]; rfl
  have hk1 : iadd .i64 (k : Int) 1 = (k : Int) + 1 := iadd64 (by omega)
  have hk2 : iadd .i64 ((k : Int) + 1) 1 = (k : Int) + 2 := by rw [iadd64 (by omega)]; omega
  have hk9 : iadd .i64 ((k : Int) + 1) 8 = (k : Int) + 9 := by rw [iadd64 (by omega)]; omega
  have hk0 : iadd .i64 ((k : Int) + 1) 0 = (k : Int) + 1 := by rw [iadd64 (by omega)]; omega
  have hw0 : IntKind.wrap .i64 (P.getD 0 0) = P.getD 0 0 := IntWalk.i64_in _ (by omega)
  have hfit : fits 32 (acc.length + 1) = true := fits_iff.2 (by omega)
  have hsub : isub .i64 (P.length : Int) ((k : Int) + 1) = (P.length : Int) - ((k : Int) + 1) := isub64 (by omega)
  simp only [r04_Decode.s0b, Int.toNat_natCast, hi1, hk1, hw0]
  rw [chk_true (inB_iff.2 (by omega)), cond_t (ilt_iff.2 hi)]
  unfold rdVal
  by_cases hlt : k < P.length
  · rw [if_pos hlt, cond_f (ige_f.2 (by omega)), chk_true (inB_iff.2 (by omega)), hsub]
    have hbk := getD_bys hb k
    generalize P.getD k 0 = c at hbk ⊢
    by_cases c1 : c = 1
    · subst c1
      rw [if_pos rfl, cond_t (ieq_iff.2 rfl)]
      by_cases h9 : k + 9 ≤ P.length
      · rw [if_pos h9, cond_f (ilt_f.2 (by omega)), cond_t (ieq_iff.2 rfl), h37]
        simp only [Option.bind_some]
        rw [chk_true hfit, hk9]
        have hr : (readI P ((k : Int) + 1)).1 = (readI ((P.drop (k + 1)).take 8) 0).1 := by
          have e1 : readU P ((k : Int) + 1) = (be ((P.drop (k + 1)).take 8), (k : Int) + 9, 0, ()) := by
            unfold readU
            rw [if_neg (by omega), if_neg (by omega), if_neg (by omega), show ((k : Int) + 1).toNat = k + 1 by omega]
            rw [show (k : Int) + 1 + 8 = (k : Int) + 9 by omega]
          have hl8 : ((P.drop (k + 1)).take 8).length = 8 := by rw [List.length_take, List.length_drop]; omega
          have e2 : readU ((P.drop (k + 1)).take 8) 0 = (be ((P.drop (k + 1)).take 8), 8, 0, ()) := by
            unfold readU
            rw [if_neg (by omega), if_neg (by omega), if_neg (by omega)]
            simp only [Int.toNat_zero, List.drop_zero]
            rw [List.take_of_length_le (l := (P.drop (k + 1)).take 8) (by omega)]; rfl
          unfold readI
          rw [e1, e2]
          simp only []
          rw [if_neg (by simp), if_neg (by simp)]
        rw [hr]; rfl
      · rw [if_neg h9, cond_t (ilt_iff.2 (by omega))]
    · rw [if_neg c1, cond_f (ieq_f.2 c1)]
      by_cases c2 : c = 2
      · subst c2
        rw [if_pos rfl, cond_t (ieq_iff.2 rfl)]
        by_cases hk1l : k + 1 < P.length
        · rw [if_pos hk1l, cond_f (ige_f.2 (by omega)), chk_true (inB_iff.2 (by omega))]
          have hbm := getD_bys hb (k + 1)
          have hgm : P.getD ((k : Int) + 1).toNat 0 = P.getD (k + 1) 0 := by rw [show ((k : Int) + 1).toNat = k + 1 by omega]
          rw [hgm]
          generalize P.getD (k + 1) 0 = m at hbm ⊢
          have hm1 := hbm.1
          have hm2 := hbm.2
          have hwm : IntKind.wrap .i64 m = m := IntWalk.i64_in _ (by omega)
          have hm3 : iadd .i64 1 m = 1 + m := iadd64 (by omega)
          have hm4 : iadd .i64 ((k : Int) + 1) (1 + m) = (k : Int) + 2 + m := by rw [iadd64 (by omega)]; omega
          rw [hwm, hm3]
          by_cases hfull : k + 2 + m.toNat ≤ P.length
          · rw [if_pos hfull, cond_f (ilt_f.2 (by omega)), cond_f (ieq_f.2 (by decide)), cond_t (ieq_iff.2 rfl), hk2, hm4, chk_true (by simp [leB]; omega), chk_true hfit]
            have e1 : ((k : Int) + 2).toNat = k + 2 := by omega
            have e2 : (((k : Int) + 2 + m) - ((k : Int) + 2)).toNat = m.toNat := by omega
            have e3 : ((k : Int) + 2 + m) = ((k + 2 + m.toNat : Nat) : Int) := by omega
            rw [e1, e2, e3]
          · rw [if_neg hfull, cond_t (ilt_iff.2 (by omega))]
        · rw [if_neg hk1l, cond_t (ige_iff.2 (by omega))]
      · rw [if_neg c2, cond_f (ieq_f.2 c2)]
        by_cases c3 : c = 3
        · subst c3
          rw [if_pos rfl, cond_t (ieq_iff.2 rfl)]
          by_cases hk1l : k + 1 < P.length
          · have hbm := getD_bys hb (k + 1)
            have hgm : P.getD ((k : Int) + 1).toNat 0 = P.getD (k + 1) 0 := by rw [show ((k : Int) + 1).toNat = k + 1 by omega]
            have hwm : IntKind.wrap .i64 (P.getD (k + 1) 0) = P.getD (k + 1) 0 := IntWalk.i64_in _ (by have h1 := hbm.1; have h2 := hbm.2; omega)
            rw [if_pos hk1l, cond_f (ilt_f.2 (by omega)), cond_f (ieq_f.2 (by decide)), cond_f (ieq_f.2 (by decide)), cond_t (ieq_iff.2 rfl), chk_true (inB_iff.2 (by omega)), chk_true hfit, hgm, hwm, hk2]
            rfl
          · rw [if_neg hk1l, cond_t (ilt_iff.2 (by omega))]
        · rw [if_neg c3, cond_f (ieq_f.2 c3), cond_f (ilt_f.2 (by omega)), cond_f (ieq_f.2 c1), cond_f (ieq_f.2 c2), cond_f (ieq_f.2 c3), chk_true hfit, hk0]
          rfl
  · rw [if_neg hlt, cond_t (ige_iff.2 (by omega))]
theorem rdR_len {P : List Int} : ∀ (n k : Nat) (acc l : List Val) (k' : Nat), rdR n P k acc = some (l, k') → l.length = acc.length + n
  | 0, k, acc, l, k', h => by
    simp only [rdR, Option.some.injEq, Prod.mk.injEq] at h
    obtain ⟨rfl, rfl⟩ := h; rfl
  | n + 1, k, acc, l, k', h => by
    simp only [rdR] at h
    cases hr : rdVal P k with
    | none => rw [hr] at h; cases h
    | some x =>
      rw [hr] at h
      have := rdR_len n _ _ l k' h
      rw [this]; simp; omega
theorem rdR_ok {P : List Int} (hb : bys P) : ∀ (n k : Nat) (acc l : List Val) (k' : Nat), okL acc → rdR n P k acc = some (l, k') → okL l
  | 0, k, acc, l, k', ha, h => by
    simp only [rdR, Option.some.injEq, Prod.mk.injEq] at h
    obtain ⟨rfl, rfl⟩ := h; exact ha
  | n + 1, k, acc, l, k', ha, h => by
    simp only [rdR] at h
    cases hr : rdVal P k with
    | none => rw [hr] at h; cases h
    | some x =>
      rw [hr] at h
      obtain ⟨v, k1⟩ := x
      obtain ⟨g1, g2, g3, g4, g5⟩ := rd_enc hb hr
      refine rdR_ok hb n k1 _ l k' (fun y hy => ?_) h
      rcases List.mem_append.1 hy with hy | hy
      · exact ha y hy
      · simp only [List.mem_cons, List.not_mem_nil, or_false] at hy
        subst hy; exact ⟨g4, g3⟩
/-- with forms looked at, or not -/
theorem rdN_R {P : List Int} : ∀ (n k : Nat) (acc l : List Val) (k' : Nat), rdN n P k acc = some (l, k') → rdR n P k acc = some (l, k')
  | 0, k, acc, l, k', h => h
  | n + 1, k, acc, l, k', h => by
    simp only [rdN, rdF] at h
    simp only [rdR]
    cases hr : rdVal P k with
    | none => rw [hr] at h; cases h
    | some x =>
      rw [hr] at h
      dsimp only at h ⊢
      cases hv : okV x.1 with
      | false => rw [hv, if_neg (by decide)] at h; cases h
      | true =>
        rw [hv, if_pos rfl] at h
        exact rdN_R n _ _ l k' h
theorem rDec_go (P : List Int) (hb : bys P) (hp : P.length ≤ 140737488351232) (hp0 : 0 < P.length) (f37 : (List Int × Int × Unit) → Option (Int × Int × Int × Unit)) (h37 : ∀ j, f37 (P, j, ()) = some (readI P j)) (kx : (List Int × List Val × Unit) → Option DO) (K : List Val → DO) (hkx : ∀ l, l.length ≤ 300 → okL l → kx (P, l, ()) = some (K l)) :
    ∀ (m n k i : Nat) (acc : List Val), (P.getD 0 0).toNat - i = m → m < n → i ≤ (P.getD 0 0).toNat → k ≤ P.length → acc.length = i → okL acc → loopN n (r04_Decode.s0b f37 kx) (P, acc, (k : Int), (i : Int), ()) = some (match rdR m P k acc with | some x => K x.1 | none => ([], 3, ()))
  | m, 0, k, i, acc, _, hn, _, _, _, _ => absurd hn (Nat.not_lt_zero _)
  | m, n + 1, k, i, acc, hm, hn, hi, hk, ha, hok => by
    have hb0 := getD_bys hb 0
    have hb01 := hb0.1
    have hb02 := hb0.2
    simp only [loopN]
    by_cases hlt : i < (P.getD 0 0).toNat
    · cases m with
      | zero => omega
      | succ m =>
        rw [rDec_step P hb hp hp0 acc (by omega) k i hk (by omega) f37 h37 kx _]
        simp only [rdR]
        cases hr : rdVal P k with
        | none => rfl
        | some x =>
          obtain ⟨v, k1⟩ := x
          obtain ⟨g1, g2, g3, g4, g5⟩ := rd_enc hb hr
          dsimp only
          exact rDec_go P hb hp hp0 f37 h37 kx K hkx m n k1 (i + 1) (acc ++ [v]) (by omega) (by omega) (by omega) g2 (by simp [ha]) (fun y hy => by
            rcases List.mem_append.1 hy with hy | hy
            · exact hok y hy
            · simp only [List.mem_cons, List.not_mem_nil, or_false] at hy
              subst hy; exact ⟨g4, g3⟩)
    · obtain rfl : m = 0 := by omega
      have hw0 : IntKind.wrap .i64 (P.getD 0 0) = P.getD 0 0 := IntWalk.i64_in _ (by omega)
      simp only [r04_Decode.s0b]
      rw [chk_true (inB_iff.2 (by omega)), hw0, cond_f (ilt_f.2 (by omega)), hkx acc (by omega) hok]
      rfl
def decO (P : List Int) : DO := match decV P with
  | some l => (l, 0, ())
  | none => ([], 3, ())
theorem encOne_bys {v : Val} (h : okV v = true) : bys (encOne v) := by
  obtain ⟨k, n, s, ⟨⟩⟩ := v
  unfold okV at h
  dsimp only at h
  rcases form_k h with rfl | rfl | rfl | rfl
  · rw [enc0]; exact bys_cons.2 ⟨⟨by decide, by decide⟩, bys_nil⟩
  · rw [enc1]; exact bys_app.2 ⟨bys_cons.2 ⟨b1', bys_nil⟩, digs_bys 8 _⟩
  · have h2 := form2 h
    rw [enc2]
    exact bys_app.2 ⟨bys_cons.2 ⟨b2', bys_nil⟩, bys_app.2 ⟨bys_cons.2 ⟨⟨by omega, by omega⟩, bys_nil⟩, bys_of s⟩⟩
  · have h3 := form3 h
    rw [enc3]
    exact bys_app.2 ⟨bys_cons.2 ⟨b3', bys_nil⟩, bys_cons.2 ⟨⟨by omega, by omega⟩, bys_nil⟩⟩
theorem encB_bys {l : List Val} (hl : l.length ≤ 12) (h : ∀ v ∈ l, okV v = true) : bys (encB l) := by
  refine bys_cons.2 ⟨⟨by omega, by omega⟩, fun x hx => ?_⟩
  obtain ⟨v, hv, hx⟩ := List.mem_flatMap.1 hx
  exact encOne_bys (h v hv) x hx
theorem decV_none {P : List Int} (hb : bys P) (hp0 : 0 < P.length) (h : decV P = none) (l : List Val) (hok : okL l) (he : (encE l).2.1 = 0) (hs : strOf (encE l).1 = strOf P) : False := by
  unfold encE at he hs
  by_cases h12 : 12 < l.length
  · rw [if_pos h12] at he; exact absurd he (by decide)
  · rw [if_neg h12] at he hs
    by_cases ha : l.all okV = true
    · rw [if_pos ha] at hs
      dsimp only at hs
      have hall : ∀ v ∈ l, okV v = true := fun v hv => List.all_eq_true.1 ha v hv
      have hbe := encB_bys (by omega) hall
      have := seq_str hbe hb
      have he2 : encB l = P := by
        have h1 : seq (strOf (encB l)) (strOf P) = true := by rw [hs]; exact seq_self _
        rw [this] at h1
        exact of_decide_eq_true h1
      have hd := dec_enc l (by omega) (fun v hv => ⟨hall v hv, (hok v hv).2⟩)
      rw [he2, h] at hd
      cases hd
    · rw [if_neg ha] at he; exact absurd he (by decide)
theorem rDec_main (P : List Int) (hb : bys P) (f21 : (List Val × Unit) → Option EO) (h21 : ∀ l, okL l → f21 (l, ()) = some (encE l)) (l0 : DS4 → ((List Int × List Val × Unit) → Option DO) → Option DO)
    (h0 : 0 < P.length → ∀ (kx : (List Int × List Val × Unit) → Option DO) (K : List Val → DO), (∀ l, l.length ≤ 300 → okL l → kx (P, l, ()) = some (K l)) → l0 (P, [], 1, 0, ()) kx = some (match rdR (P.getD 0 0).toNat P 1 [] with | some x => K x.1 | none => ([], 3, ()))) : r04_Decode.b f21 l0 (P, ()) = some (decO P) := by
  simp only [r04_Decode.b]
  by_cases hz : P.length = 0
  · rw [cond_t (ieq_iff.2 (by omega))]
    unfold decO decV
    rw [if_pos hz]
  · rw [cond_f (ieq_f.2 (by omega)), h0 (by omega) _ (fun l => if (encE l).2.1 = 0 then (if strOf (encE l).1 = strOf P then (l, 0, ()) else ([], 3, ())) else ([], 3, ())) (fun l hl hok => ?_)]
    · congr 1
      unfold decO
      cases hd : decV P with
      | some l =>
        obtain ⟨e1, e2, e3⟩ := enc_dec hb hd
        have hE : encE l = (encB l, 0, ()) := by
          unfold encE
          rw [if_neg (by omega), if_pos (List.all_eq_true.2 fun v hv => (e3 v hv).1)]
        unfold decV at hd
        rw [if_neg hz] at hd
        by_cases h12 : 12 < P.getD 0 0
        · rw [if_pos h12] at hd; cases hd
        · rw [if_neg h12] at hd
          cases hr : rdN (P.getD 0 0).toNat P 1 [] with
          | none => rw [hr] at hd; cases hd
          | some x =>
            obtain ⟨m, k'⟩ := x
            rw [hr] at hd
            dsimp only at hd
            by_cases hk : k' = P.length
            · rw [if_pos hk] at hd
              cases hd
              rw [rdN_R _ _ _ _ _ hr]
              dsimp only
              rw [hE, if_pos rfl, if_pos (by rw [← e1])]
            · rw [if_neg hk] at hd; cases hd
      | none =>
        cases hr : rdR (P.getD 0 0).toNat P 1 [] with
        | none => rfl
        | some x =>
          obtain ⟨l, k'⟩ := x
          dsimp only
          have hok := rdR_ok hb _ _ _ _ _ (fun y hy => by cases hy) hr
          by_cases he : (encE l).2.1 = 0
          · rw [if_pos he]
            by_cases hs : strOf (encE l).1 = strOf P
            · exact (decV_none hb (by omega) hd l hok he hs).elim
            · rw [if_neg hs]
          · rw [if_neg he]
    · show (f21 (l, ())).bind _ = _
      rw [h21 l hok]
      simp only [Option.bind_some]
      by_cases he : (encE l).2.1 = 0
      · rw [cond_f (ine_f.2 he), if_pos he]
        by_cases hs : strOf (encE l).1 = strOf P
        · rw [if_pos hs, hs, cond_f (by rw [sne_seq, seq_self]; rfl)]
        · rw [if_neg hs, cond_t (by
            rw [sne_seq, seq_bytes, decide_eq_false hs]; rfl)]
      · rw [cond_t (ine_iff.2 he), if_neg he]
theorem r04_Decode_eq (P : List Int) (hb : bys P) (hp : P.length ≤ 140737488351232) : r04_Decode (P, ()) = some (decO P) :=
  rDec_main P hb r04_Encode r04_Encode_eq r04_Decode.l0 fun h0 kx K hkx => by
    have hb0 := getD_bys hb 0
    have hb01 := hb0.1
    have hb02 := hb0.2
    have hn : (P.getD 0 0).toNat < r04_Decode.n0 (P, [], 1, 0, ()) := by simp only [r04_Decode.n0]; omega
    unfold r04_Decode.l0
    generalize r04_Decode.n0 (P, [], 1, 0, ()) = n at hn
    exact rDec_go P hb hp h0 r02_ReadInt (r02_ReadInt_eq hp hb) kx K hkx _ n 1 0 [] (by omega) hn (by omega) (by omega) rfl (fun y hy => by cases hy)
/-! ### the same -/
theorem same_go (l : List Val) (hl : l.length ≤ 1000000000000) (kx : Unit → Option Bool) (hk : kx () = some true) : ∀ (k n i : Nat), l.length - i = k → k < n → i ≤ l.length → loopN n (r04_Same.s0b kx) (l, l, (i : Int), ()) = some true
  | k, 0, i, _, hn, _ => absurd hn (Nat.not_lt_zero _)
  | k, n + 1, i, hk', hn, hi => by
    simp only [loopN, r04_Same.s0b]
    by_cases hlt : i < l.length
    · have hi1 : iadd .i64 (i : Int) 1 = ((i + 1 : Nat) : Int) := by rw [iadd64 (by omega)]; rfl
      rw [cond_t (ilt_iff.2 (by omega)), chk_true (inB_iff.2 (by omega)), chk_true (inB_iff.2 (by omega)), cond_f (by simp [ieq, seq_self]), hi1]
      cases k with
      | zero => omega
      | succ k => exact same_go l hl kx hk k n (i + 1) (by omega) (by omega) (by omega)
    · rw [cond_f (ilt_f.2 (by omega)), hk]
theorem same_main (l : List Val) (l0 : (List Val × List Val × Int × Unit) → (Unit → Option Bool) → Option Bool) (h : ∀ kx, kx () = some true → l0 (l, l, 0, ()) kx = some true) : r04_Same.b l0 (l, l, ()) = some true := by
  simp only [r04_Same.b]
  rw [cond_f (ine_f.2 rfl)]
  exact h _ rfl
theorem r04_Same_refl (l : List Val) (hl : l.length ≤ 1000000000000) : r04_Same (l, l, ()) = some true :=
  same_main l r04_Same.l0 fun kx hk => by
    have hn : l.length < r04_Same.n0 (l, l, 0, ()) := by simp only [r04_Same.n0]; omega
    unfold r04_Same.l0
    generalize r04_Same.n0 (l, l, 0, ()) = n at hn
    exact same_go l hl kx hk l.length n 0 rfl hn (by omega)
end Go.Px.Pu
