/- TokenForged: a token with one sign turned is refused, or its tag is that of other bytes too. -/
import Derived.Test.YtgmfjbbhdnfapaaDoorPuTokO
set_option linter.unusedVariables false
set_option linter.unusedSimpArgs false
namespace Go.Px.Pu
open Go Go.Px
def abc : ByteArray := ⟨#[65, 66, 67, 68, 69, 70, 71, 72, 73, 74, 75, 76, 77, 78, 79, 80, 81, 82, 83, 84, 85, 86, 87, 88, 89, 90, 97, 98, 99, 100, 101, 102, 103, 104, 105, 106, 107, 108, 109, 110, 111, 112, 113, 114, 115, 116, 117, 118, 119, 120, 121, 122, 48, 49, 50, 51, 52, 53, 54, 55, 56, 57, 45, 95]⟩
/-- the text with a sign turned -/
def turned (s : ByteArray) (at' turn : Int) : ByteArray := strOf ((bytesOf s).set (irem .i64 (IntKind.wrap .i64 at') ((bytesOf s).length : Int)).toNat (byteAt abc (irem .u8 turn 64).toNat))
theorem turned_size (s : ByteArray) (a t : Int) : (turned s a t).size = s.size := by
  unfold turned; rw [strOf_size, List.length_set, bytesOf_len]
theorem forged_main (key : List Int) (c : Cl) (at' turn : Int) (ha : 0 ≤ at' ∧ at' < 65536) (ht : 0 ≤ turn) (v : Bool) (s : ByteArray) (hsz : 60 ≤ s.size) (hsz2 : s.size ≤ 1000) (R : VR) (T : List Int × List Int × Unit) (f17 : Unit → Option (List Int × List Int × Unit)) (f24 : Unit → Option Bool) (f26 : (Cl × Unit) → Option Bool) (f31 : (List Int × Cl × Unit) → Option (ByteArray × Int × Unit)) (f32 : (List Int × ByteArray × Int × Unit) → Option (Cl × Int × Unit)) (f33 : ((List Int × List Int × Unit) × List Int × ByteArray × Int × Unit) → Option (Cl × Int × Unit))
    (h24 : f24 () = some true) (h17 : f17 () = some T) (h26 : f26 (c, ()) = some v) (h31 : v = true → key.length ≤ 200 → f31 (key, c, ()) = some (s, 0, ()))
    (h32 : v = true → key.length ≤ 200 → f32 (key, turned s at' turn, c.2.2.2.2.1, ()) = some R) (h33 : v = true → key.length ≤ 200 → f33 (T, key, turned s at' turn, c.2.2.2.2.1, ()) = some R)
    (hz : R.2.1 ≠ 0 → R.1 = zeroC) (hne : v = true → key.length ≤ 200 → turned s at' turn ≠ s → R.2.1 = 0 → R.1 ≠ c) : w19_TokenForged.b f17 f24 f26 f31 f32 f33 (key, c, at', turn, ()) = some true := by
  simp only [w19_TokenForged.b, h24, Option.bind_some, Bool.not_true, cond_false]
  rw [show f26 ((c.1, c.2.1, c.2.2.1, c.2.2.2.1, c.2.2.2.2.1, c.2.2.2.2.2.1, ()), ()) = some v from h26]
  simp only [Option.bind_some]
  cases v with
  | false => rfl
  | true =>
    rw [Bool.not_true, cond_false]
    by_cases hk : key.length ≤ 200
    · rw [cond_f (igt_f.2 (by omega)), show f31 (key, (c.1, c.2.1, c.2.2.1, c.2.2.2.1, c.2.2.2.2.1, c.2.2.2.2.2.1, ()), ()) = some (s, 0, ()) from h31 rfl hk]
      simp only [Option.bind_some]
      have hbl := bytesOf_len s
      have hw : IntKind.wrap .i64 at' = at' := IntWalk.i64_in _ ⟨by omega, by omega⟩
      have hr : irem .i64 at' (s.size : Int) = at' % (s.size : Int) := by
        unfold irem; exact Int.tmod_eq_emod_of_nonneg ha.1
      have hr2 : irem .u8 turn 64 = turn % 64 := by
        unfold irem; exact Int.tmod_eq_emod_of_nonneg ht
      have hm := Int.emod_nonneg at' (show (s.size : Int) ≠ 0 by omega)
      have hm2 := Int.emod_lt_of_pos at' (show (0 : Int) < (s.size : Int) by omega)
      show cond (ine (0 : Int) 0) (some false) (cond (ilt (s.size : Int) 60) (some false) (chk (decide (s.size < 140737488355328)) (chk (decide (((bytesOf s).length : Int) ≠ 0)) (chk (inB (irem .u8 turn 64) (abc.size : Int)) (chk (inB (irem .i64 (IntKind.wrap .i64 at') ((bytesOf s).length : Int)) ((bytesOf s).length : Int)) (cond (seq (turned s at' turn) s) (some true) ((f32 (key, turned s at' turn, c.2.2.2.2.1, ())).bind fun v66 => cond (ine v66.2.1 0) (some (sameC v66.1 zeroC)) ((f17 ()).bind fun v75 => (f33 ((v75.1, v75.2.1, ()), key, turned s at' turn, c.2.2.2.2.1, ())).bind fun v81 => cond (ieq v81.2.1 0) (cond (sameC v66.1 v81.1) (some (!(sameC v66.1 c))) (some false)) (some false))))))))) = some true
      rw [cond_f (ine_f.2 rfl), cond_f (ilt_f.2 (by omega)), chk_true (decide_eq_true (by omega)), chk_true (decide_eq_true (by rw [hbl]; omega)), chk_true (show inB (irem .u8 turn 64) ((abc).size : Int) = true by
        rw [hr2]; exact inB_iff.2 ⟨by omega, by show turn % 64 < (64 : Int); omega⟩), chk_true (show inB (irem .i64 (IntKind.wrap .i64 at') ((bytesOf s).length : Int)) ((bytesOf s).length : Int) = true by
        rw [hbl, hw, hr]; exact inB_iff.2 ⟨hm, hm2⟩)]
      have e32 := h32 rfl hk
      have e33 := h33 rfl hk
      have en := hne rfl hk
      by_cases hts : turned s at' turn = s
      · rw [cond_t (by rw [seq_bytes]; exact decide_eq_true hts)]
      · rw [cond_f (by rw [seq_bytes]; exact decide_eq_false hts), e32]
        simp only [Option.bind_some]
        by_cases hR : R.2.1 = 0
        · rw [cond_f (ine_f.2 hR), h17]
          simp only [Option.bind_some]
          rw [show f33 ((T.1, T.2.1, ()), key, turned s at' turn, c.2.2.2.2.1, ()) = some R from e33]
          simp only [Option.bind_some]
          rw [cond_t (ieq_iff.2 hR), sameC_self, cond_true]
          have : sameC R.1 c = false := by
            cases h : sameC R.1 c with
            | false => rfl
            | true => exact absurd ((sameC_iff _ _).1 h) (en hts hR)
          rw [this]; rfl
        · rw [cond_t (ine_iff.2 hR), hz hR, sameC_self]
    · rw [cond_t (igt_iff.2 (by omega))]
theorem verV_zero (v : Bool) (c : Cl) (same : Bool) (now : Int) (h : (verV v c same now).2.1 ≠ 0) : (verV v c same now).1 = zeroC := by
  unfold verV at h ⊢
  split
  · rfl
  split
  · rfl
  split
  · rfl
  split
  · rfl
  · rename_i h1 h2 h3 h4
    rw [if_neg h1, if_neg h2, if_neg h3, if_neg h4] at h
    exact absurd rfl h
theorem verV_got {v : Bool} {c : Cl} {same : Bool} {now : Int} (h : (verV v c same now).2.1 = 0) : v = true ∧ same = true ∧ (verV v c same now).1 = c := by
  unfold verV at h ⊢
  by_cases h1 : v = false
  · rw [if_pos h1] at h; cases h
  · rw [if_neg h1] at h ⊢
    by_cases h2 : same = false
    · rw [if_pos h2] at h; cases h
    · rw [if_neg h2] at h ⊢
      split at h
      · cases h
      · rename_i h3
        rw [if_neg h3]
        split at h
        · cases h
        · rename_i h4
          rw [if_neg h4]
          exact ⟨by simpa using h1, by simpa using h2, rfl⟩
theorem _root_.Go.Px.pure_TokenForged (x0 : List Int) (y0 : x0.length * 1 ≤ 140737488351232) (w0 : ∀ n ∈ x0, (Lit.int .u8 n).wf = true) (x1 : spα [.one (.int .u64), .one .str, .one (.int .u8), .one (.int .u64), .one (.int .i64), .one (.int .i64)]) (w1 : spWf [.one (.int .u64), .one .str, .one (.int .u8), .one (.int .u64), .one (.int .i64), .one (.int .i64)] x1) (x2 : Int) (w2 : (Lit.int .u16 x2).wf = true) (x3 : Int) (w3 : (Lit.int .u8 x3).wf = true) (hb : x0.length + x1.2.1.size ≤ 1048576) : w19_TokenForged (x0, x1, x2, x3, ()) = some true := by
  have ok := okC_of w1
  have bk : bys x0 := fun n hn => byte_wf (w0 n hn)
  have h2 : 0 ≤ x2 ∧ x2 < 65536 := by
    simp [Lit.wf, IntKind.min, IntKind.max, IntKind.signed, IntKind.bits] at w2
    omega
  have h3 := (byte_wf w3).1
  have hform := r19_Form_eq x1 (by omega)
  by_cases hf : formC x1 = true
  · have hs := (form_p hf).size
    have hts := textT_size (key := x0) ok
    by_cases hk : x0.length ≤ 200
    · have hsg := token_Sign_eq (key := x0) (by omega) ok (by omega)
      rw [if_pos hf] at hsg
      rcases verify_both x0 (by omega) bk (turned (textT x0 x1) x2 x3) (by rw [turned_size]; omega) x1.2.2.2.2.1 with ⟨e1, e2⟩ | ⟨l, bl, ll, hr, hbase, e1, e2⟩
      · exact forged_main x0 x1 x2 x3 h2 h3 (formC x1) (textT x0 x1) (by omega) (by omega) (zeroC, 3, ()) (gv_dfirst, gv_dparts, ()) r01_Make w19_awake r19_Form token_Sign token_Verify r19_Verify tok_awake make_eq hform (fun _ _ => hsg) (fun _ _ => e1) (fun _ _ => e2) (fun _ => rfl) (fun _ _ _ h => by cases h)
      · refine forged_main x0 x1 x2 x3 h2 h3 (formC x1) (textT x0 x1) (by omega) (by omega) (verL x0 l x1.2.2.2.2.1) (gv_dfirst, gv_dparts, ()) r01_Make w19_awake r19_Form token_Sign token_Verify r19_Verify tok_awake make_eq hform (fun _ _ => hsg) (fun _ _ => e1) (fun _ _ => e2) (fun h => ?_) (fun _ _ hne h hc => ?_)
        · unfold verL at h ⊢
          split
          · rfl
          · rename_i hl
            rw [if_neg hl] at h
            exact verV_zero _ _ _ _ h
        · unfold verL at h hc
          split at h
          · cases h
          · rename_i hl
            rw [if_neg hl] at hc
            obtain ⟨g1, g2, g3⟩ := verV_got h
            rw [g3] at hc
            have hg := leq_iff.1 g2
            have hd : encT (decC (hdL l)) = hdL l := by
              unfold decT at g1
              simp only [Bool.and_eq_true, decide_eq_true_eq] at g1
              exact enc_dec (hdL_bys bl) g1.1 g1.2.1
            rw [hc] at hd
            have hl2 : l = sigT x0 x1 := by
              have := List.take_append_drop (l.length - 32) l
              rw [← this]
              show hdL l ++ tlL l = _
              unfold sigT
              rw [← hg, ← hd]
            refine hne ?_
            rw [← hbase, hl2]; rfl
    · exact forged_main x0 x1 x2 x3 h2 h3 (formC x1) (textT x0 x1) (by omega) (by omega) (zeroC, 3, ()) (gv_dfirst, gv_dparts, ()) r01_Make w19_awake r19_Form token_Sign token_Verify r19_Verify tok_awake make_eq hform (fun _ h => absurd h hk) (fun _ h => absurd h hk) (fun _ h => absurd h hk) (fun _ => rfl) (fun _ _ _ h => by cases h)
  · have hf : formC x1 = false := by simpa using hf
    have hts := textT_size (key := x0) c0_ok
    have hcs : c0.2.1.size = 1 := rfl
    exact forged_main x0 x1 x2 x3 h2 h3 (formC x1) (textT x0 c0) (by rw [hts, hcs]; decide) (by rw [hts, hcs]; decide) (zeroC, 3, ()) (gv_dfirst, gv_dparts, ()) r01_Make w19_awake r19_Form token_Sign token_Verify r19_Verify tok_awake make_eq hform (fun h => by rw [hf] at h; cases h) (fun h => by rw [hf] at h; cases h) (fun h => by rw [hf] at h; cases h) (fun _ => rfl) (fun _ _ _ h => by cases h)
end Go.Px.Pu
