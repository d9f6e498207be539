/- A word in quotes, with backslashes, is read as it was. -/
import Derived.Test.YtpmnipaimoaagaaDoorPuLinFine
set_option linter.unusedVariables false
set_option linter.unusedSimpArgs false
namespace Go.Px.Pu
open Go Go.Px
def mk (l : List UInt8) : ByteArray := ⟨l.toArray⟩
theorem mk_size (l : List UInt8) : (mk l).size = l.length := by unfold mk; simp [ByteArray.size]
theorem mk_app (a b : List UInt8) : mk (a ++ b) = mk a ++ mk b := (ba_mk a b).symm
theorem mk_list (s : ByteArray) : mk s.data.toList = s := ba_of s
def escL (l : List UInt8) : List UInt8 := replB 34 [92, 34] (replB 92 [92, 92] l)
theorem escL_app (a b : List UInt8) : escL (a ++ b) = escL a ++ escL b := by unfold escL; rw [replB_app, replB_app]
theorem replB_id (c : UInt8) (new : List UInt8) (l : List UInt8) (h : ∀ b ∈ l, b ≠ c) : replB c new l = l := replB_none c new l h
theorem escL_id (l : List UInt8) (h : ∀ b ∈ l, b ≠ 34 ∧ b ≠ 92) : escL l = l := by
  unfold escL
  rw [replB_id 92 _ l (fun b hb => (h b hb).2), replB_id 34 _ l (fun b hb => (h b hb).1)]
theorem dec_mk (l : List UInt8) : Utf8.decode (mk l) 0 = Lib.decodeN l.length (l.getD 0 0).toNat (l.getD 1 0).toNat (l.getD 2 0).toNat (l.getD 3 0).toNat := Lib.decodeL_N l
/-- a character's bytes: one that is small, or several that are great -/
theorem dec_bytes (l : List UInt8) (hne : l ≠ []) (hv : Utf8.decode (mk l) 0 ≠ (65533, 1)) :
    ((Utf8.decode (mk l) 0).2 = 1 ∧ (Utf8.decode (mk l) 0).1 < 128 ∧ (l.getD 0 0).toNat = (Utf8.decode (mk l) 0).1) ∨ (128 ≤ (Utf8.decode (mk l) 0).1 ∧ ∀ b ∈ l.take (Utf8.decode (mk l) 0).2, 128 ≤ b.toNat) := by
  have hl : 0 < l.length := List.length_pos_iff.2 hne
  rw [dec_mk] at hv ⊢
  have k0 := (l.getD 0 0).toNat_lt
  have k1 := (l.getD 1 0).toNat_lt
  have k2 := (l.getD 2 0).toNat_lt
  have k3 := (l.getD 3 0).toNat_lt
  rcases Lib.decodeN_shape l.length (l.getD 0 0).toNat (l.getD 1 0).toNat (l.getD 2 0).toNat (l.getD 3 0).toNat with ⟨c, e⟩ | ⟨c1, c2, c3, cv, e⟩ | ⟨c1, c2, c3, c4, cv, cs, e⟩ | ⟨c1, c2, c3, c4, c5, cv, cw, e⟩ | e
  · rw [e]; exact .inl ⟨rfl, c, rfl⟩
  · rw [e]; right
    refine ⟨by dsimp only; omega, fun b hb => ?_⟩
    dsimp only at hb
    rw [Lib.takeB l c2] at hb
    simp only [List.mem_cons, List.not_mem_nil, or_false] at hb
    rcases hb with rfl | rfl <;> omega
  · rw [e]; right
    refine ⟨by dsimp only; omega, fun b hb => ?_⟩
    dsimp only at hb
    rw [Lib.takeC l c2] at hb
    simp only [List.mem_cons, List.not_mem_nil, or_false] at hb
    rcases hb with rfl | rfl | rfl <;> omega
  · rw [e]; right
    refine ⟨by dsimp only; omega, fun b hb => ?_⟩
    dsimp only at hb
    rw [Lib.takeD l c2] at hb
    simp only [List.mem_cons, List.not_mem_nil, or_false] at hb
    rcases hb with rfl | rfl | rfl | rfl <;> omega
  · exact absurd e hv
theorem plain_valid {s : ByteArray} {p : Nat} (h : plainB s p = true) : Utf8.decode s p ≠ (65533, 1) := by
  intro e
  unfold plainB wrongB at h
  rw [e] at h
  exact absurd h (by decide)
/-- a character at a place of a greater text -/
theorem dec_in (pre l post : List UInt8) (hne : l ≠ []) (hv : Utf8.decode (mk l) 0 ≠ (65533, 1)) (hall : (Utf8.decode (mk l) 0).2 = l.length) : Utf8.decode (mk (pre ++ (l ++ post))) pre.length = Utf8.decode (mk l) 0 := by
  have hl : 0 < l.length := List.length_pos_iff.2 hne
  have h1 := dec_app_ge (mk pre) (mk (l ++ post)) 0
  rw [mk_size, Nat.add_zero, ← mk_app] at h1
  rw [h1, mk_app, dec_app_lt (mk l) (mk post) 0 (by rw [mk_size]; exact hl) hv]
theorem dec_head (l : List UInt8) (hne : l ≠ []) (hv : Utf8.decode (mk l) 0 ≠ (65533, 1)) : Utf8.decode (mk (l.take (Utf8.decode (mk l) 0).2)) 0 = Utf8.decode (mk l) 0 := by
  have hl : 0 < l.length := List.length_pos_iff.2 hne
  have hle := dec_le (mk l) 0 (by rw [mk_size]; exact hl)
  have hwd := dec_w (mk l) 0
  rw [mk_size, Nat.zero_add] at hle
  have e : mk l = mk (l.take (Utf8.decode (mk l) 0).2) ++ mk (l.drop (Utf8.decode (mk l) 0).2) := by rw [← mk_app, List.take_append_drop]
  have hts : (mk (l.take (Utf8.decode (mk l) 0).2)).size = (Utf8.decode (mk l) 0).2 := by rw [mk_size, List.length_take]; omega
  have := dec_pre (mk (l.take (Utf8.decode (mk l) 0).2)) (mk (l.drop (Utf8.decode (mk l) 0).2)) 0 (by rw [hts]; omega) (by rw [← e]; exact hv) (by rw [← e, hts]; omega)
  rw [this, ← e]
theorem here_at (s : ByteArray) (pre l post : List UInt8) (hs : s = mk (pre ++ (l ++ post))) (hn : (Utf8.decode s pre.length).2 = l.length) : here s pre.length = mk l := by
  apply ByteArray.ext
  apply Array.toList_inj.1
  unfold here
  simp only [ByteArray.data_extract, Array.toList_extract, List.extract_eq_take_drop, hn]
  have : s.data.toList = pre ++ (l ++ post) := by rw [hs]; unfold mk; simp
  rw [this, List.drop_left, show pre.length + l.length - pre.length = l.length by omega, List.take_left]
  unfold mk; simp
theorem plain_of_dec {s t : ByteArray} {p q : Nat} (h : Utf8.decode s p = Utf8.decode t q) : plainB s p = plainB t q := by unfold plainB wrongB; rw [h]
theorem dec_ascii_mk (c : UInt8) (h : c.toNat < 128) : Utf8.decode (mk [c]) 0 = (c.toNat, 1) := by
  rw [dec_mk]
  simp only [List.length_cons, List.length_nil, List.getD_cons_zero]
  unfold Lib.decodeN
  rw [if_pos h]
/-- the rest of a well-made text is well made -/
theorem fine_rest (l : List UInt8) (hne : l ≠ []) (h : fineB (mk l) = true) : plainB (mk l) 0 = true ∧ fineB (mk (l.drop (Utf8.decode (mk l) 0).2)) = true := by
  have hl : 0 < l.length := List.length_pos_iff.2 hne
  have hle := dec_le (mk l) 0 (by rw [mk_size]; exact hl)
  have hwd := dec_w (mk l) 0
  rw [mk_size, Nat.zero_add] at hle
  unfold fineB at h
  rw [mk_size] at h
  obtain ⟨k, hk⟩ : ∃ k, l.length = k + 1 := ⟨l.length - 1, by omega⟩
  rw [hk] at h
  simp only [fineG] at h
  rw [mk_size, if_pos hl, Nat.zero_add] at h
  simp only [Bool.and_eq_true] at h
  refine ⟨h.1, ?_⟩
  have shift : ∀ (j p : Nat) (x y : ByteArray), fineG j (x ++ y) (x.size + p) = fineG j y p := by
    intro j
    induction j with
    | zero => intro p x y; rfl
    | succ j ih =>
      intro p x y
      simp only [fineG]
      have hd := dec_app_ge x y p
      rw [hd, plain_of_dec hd, ByteArray.size_append, Nat.add_assoc, ih (p + (Utf8.decode y p).2) x y]
      by_cases hp : p < y.size
      · rw [if_pos (by omega), if_pos hp]
      · rw [if_neg (by omega), if_neg hp]
  have e : mk l = mk (l.take (Utf8.decode (mk l) 0).2) ++ mk (l.drop (Utf8.decode (mk l) 0).2) := by rw [← mk_app, List.take_append_drop]
  have hts : (mk (l.take (Utf8.decode (mk l) 0).2)).size = (Utf8.decode (mk l) 0).2 := by rw [mk_size, List.length_take]; omega
  have h2 := h.2
  have hsh := shift k 0 (mk (l.take (Utf8.decode (mk l) 0).2)) (mk (l.drop (Utf8.decode (mk l) 0).2))
  rw [← e, hts, Nat.add_zero] at hsh
  rw [hsh] at h2
  unfold fineB
  rw [fineG_fuel _ k _ 0 (by omega) (by rw [mk_size, List.length_drop]; omega)]
  exact h2
theorem quote_walk : ∀ (k : Nat) (pre rest : List UInt8) (out : List ByteArray) (w : ByteArray), rest.length ≤ k → fineB (mk rest) = true →
    wF (mk (pre ++ (escL rest ++ [34]))) pre.length 2 out w = (out ++ [w ++ mk rest], 0, 0, ())
  | k, pre, [], out, w, _, _ => by
    have hX : mk (pre ++ (escL [] ++ [34])) = mk (pre ++ ([34] ++ [])) := rfl
    have hd := dec_in pre [34] [] (by simp) (by rw [dec_ascii_mk 34 (by decide)]; decide) (by rw [dec_ascii_mk 34 (by decide)]; rfl)
    rw [dec_ascii_mk 34 (by decide)] at hd
    have hsz : (mk (pre ++ ([34] ++ []))).size = pre.length + 1 := by rw [mk_size]; simp
    rw [hX, wF_step _ _ _ _ _ (by omega), hd]
    have hpl : plainB (mk (pre ++ ([34] ++ []))) pre.length = true := plain_34 (by rw [hd]; rfl)
    have hst : stepW (mk (pre ++ ([34] ++ []))) pre.length 2 out w = some (4, out, w) := by
      simp only [stepW]
      rw [if_neg (by rw [hpl]; decide), hd, if_pos (by decide)]
    rw [hst]
    dsimp only
    rw [wF_end _ _ _ _ _ (by omega)]
    show (out ++ [w], (0 : Int), (0 : Int), ()) = _
    rw [show mk [] = ⟨#[]⟩ from rfl, app_nil]
  | 0, pre, _ :: _, out, w, hk, _ => absurd hk (by simp)
  | k + 1, pre, c :: t, out, w, hk, hf => by
    obtain ⟨hpl, hf2⟩ := fine_rest (c :: t) (by simp) hf
    have hv := plain_valid hpl
    have hwd := dec_w (mk (c :: t)) 0
    have hle := dec_le (mk (c :: t)) 0 (by rw [mk_size]; simp)
    rw [mk_size, Nat.zero_add] at hle
    obtain ⟨cb, hcb⟩ : ∃ cb, cb = (c :: t).take (Utf8.decode (mk (c :: t)) 0).2 := ⟨_, rfl⟩
    obtain ⟨r2, hr2⟩ : ∃ r2, r2 = (c :: t).drop (Utf8.decode (mk (c :: t)) 0).2 := ⟨_, rfl⟩
    have hsplit : c :: t = cb ++ r2 := by rw [hcb, hr2, List.take_append_drop]
    have hcl : cb.length = (Utf8.decode (mk (c :: t)) 0).2 := by rw [hcb, List.length_take]; omega
    have hcne : cb ≠ [] := fun e => by rw [e] at hcl; simp at hcl; omega
    have hdh := dec_head (c :: t) (by simp) hv
    rw [← hcb] at hdh
    have hr2l : r2.length ≤ k := by
      have := congrArg List.length hsplit
      rw [List.length_append] at this
      simp only [List.length_cons] at this hk
      omega
    rw [← hr2] at hf2
    have hplc : plainB (mk cb) 0 = true := by rw [plain_of_dec hdh]; exact hpl
    have ih := fun pre' w' => quote_walk k pre' r2 out w' hr2l hf2
    have hend : ∀ x, x ++ mk (c :: t) = (x ++ mk cb) ++ mk r2 := fun x => by rw [hsplit, mk_app, ByteArray.append_assoc]
    rw [hend w]
    by_cases h34 : (Utf8.decode (mk (c :: t)) 0).1 = 34 ∨ (Utf8.decode (mk (c :: t)) 0).1 = 92
    · -- a quote or a backslash
      rcases dec_bytes (c :: t) (by simp) hv with ⟨g1, g2, g3⟩ | ⟨g1, _⟩
      · simp only [List.getD_cons_zero] at g3
        have hc1 : cb = [c] := by rw [hcb, g1]; rfl
        have hesc : escL cb = [92, c] := by
          rw [hc1]
          have : c = 34 ∨ c = 92 := by
            rcases h34 with h | h
            · left; exact UInt8.toNat_inj.1 (by rw [g3, h]; rfl)
            · right; exact UInt8.toNat_inj.1 (by rw [g3, h]; rfl)
          rcases this with rfl | rfl <;> rfl
        have hX : pre ++ (escL (c :: t) ++ [34]) = pre ++ ([92] ++ (c :: (escL r2 ++ [34]))) := by rw [hsplit, escL_app, hesc]; simp
        have hd1 := dec_in pre [92] (c :: (escL r2 ++ [34])) (by simp) (by rw [dec_ascii_mk 92 (by decide)]; decide) (by rw [dec_ascii_mk 92 (by decide)]; rfl)
        rw [dec_ascii_mk 92 (by decide)] at hd1
        have hX2 : pre ++ ([92] ++ (c :: (escL r2 ++ [34]))) = (pre ++ [92]) ++ ([c] ++ (escL r2 ++ [34])) := by simp
        have hca : Utf8.decode (mk [c]) 0 = (c.toNat, 1) := dec_ascii_mk c (by omega)
        have hd2 := dec_in (pre ++ [92]) [c] (escL r2 ++ [34]) (by simp) (by rw [hca]; intro e; have := congrArg Prod.fst e; simp only at this; omega) (by rw [hca]; rfl)
        rw [hca] at hd2
        have hX3 : pre ++ ([92] ++ (c :: (escL r2 ++ [34]))) = (pre ++ [92, c]) ++ (escL r2 ++ [34]) := by simp
        rw [hX]
        have hsz : (mk (pre ++ ([92] ++ (c :: (escL r2 ++ [34]))))).size = pre.length + (2 + ((escL r2).length + 1)) := by rw [mk_size]; simp; omega
        rw [wF_step _ _ _ _ _ (by omega), hd1]
        have hpl1 : plainB (mk (pre ++ ([92] ++ (c :: (escL r2 ++ [34]))))) pre.length = true := plain_92 (by rw [hd1]; rfl)
        have hst1 : stepW (mk (pre ++ ([92] ++ (c :: (escL r2 ++ [34]))))) pre.length 2 out w = some (3, out, w) := by
          simp only [stepW]
          rw [if_neg (by rw [hpl1]; decide), hd1, if_neg (by decide), if_pos (by decide)]
        rw [hst1]
        dsimp only
        have hp2 : (pre ++ [92]).length = pre.length + (92, 1).2 := by simp
        have hd2' : Utf8.decode (mk (pre ++ ([92] ++ (c :: (escL r2 ++ [34]))))) (pre.length + 1) = (c.toNat, 1) := by
          have := hd2; rw [← hX2] at this; simpa using this
        have hh : here (mk (pre ++ ([92] ++ (c :: (escL r2 ++ [34]))))) (pre.length + 1) = mk cb := by
          have := here_at (mk (pre ++ ([92] ++ (c :: (escL r2 ++ [34]))))) (pre ++ [92]) [c] (escL r2 ++ [34]) (by rw [hX2]) (by
            have e : (pre ++ [92]).length = pre.length + 1 := by simp
            rw [e, hd2']; rfl)
          rw [hc1]; simpa using this
        rw [wF_step _ _ _ _ _ (by show pre.length + 1 < _; omega)]
        have hst2 : stepW (mk (pre ++ ([92] ++ (c :: (escL r2 ++ [34]))))) (pre.length + 1) 3 out w = some (2, out, w ++ mk cb) := by
          simp only [stepW]
          rw [hd2', if_pos (by dsimp only; omega), hh]
        rw [hst2]
        dsimp only
        rw [hd2', hX3]
        have := ih (pre ++ [92, c]) (w ++ mk cb)
        simpa using this
      · omega
    · have hesc : escL cb = cb := by
        refine escL_id cb fun b hb => ?_
        rcases dec_bytes (c :: t) (by simp) hv with ⟨g1, g2, g3⟩ | ⟨g1, g2⟩
        · simp only [List.getD_cons_zero] at g3
          have hc1 : cb = [c] := by rw [hcb, g1]; rfl
          rw [hc1] at hb
          simp only [List.mem_cons, List.not_mem_nil, or_false] at hb
          subst hb
          constructor
          · intro e; exact h34 (.inl (by rw [← g3, e]; rfl))
          · intro e; exact h34 (.inr (by rw [← g3, e]; rfl))
        · rw [hcb] at hb
          have := g2 b hb
          constructor
          · intro e; rw [e] at this; exact absurd this (by decide)
          · intro e; rw [e] at this; exact absurd this (by decide)
      have hX : pre ++ (escL (c :: t) ++ [34]) = pre ++ (cb ++ (escL r2 ++ [34])) := by rw [hsplit, escL_app, hesc]; simp
      have hd := dec_in pre cb (escL r2 ++ [34]) hcne (by rw [hdh]; exact hv) (by rw [hdh, hcl])
      rw [hdh] at hd
      have hX3 : pre ++ (cb ++ (escL r2 ++ [34])) = (pre ++ cb) ++ (escL r2 ++ [34]) := by simp
      rw [hX]
      have hsz : (mk (pre ++ (cb ++ (escL r2 ++ [34])))).size = pre.length + (cb.length + ((escL r2).length + 1)) := by rw [mk_size]; simp
      rw [wF_step _ _ _ _ _ (by omega), hd]
      have hpl1 : plainB (mk (pre ++ (cb ++ (escL r2 ++ [34])))) pre.length = true := by rw [plain_of_dec hd]; exact hpl
      have hh := here_at (mk (pre ++ (cb ++ (escL r2 ++ [34])))) pre cb (escL r2 ++ [34]) rfl (by rw [hd, hcl])
      have hst : stepW (mk (pre ++ (cb ++ (escL r2 ++ [34])))) pre.length 2 out w = some (2, out, w ++ mk cb) := by
        simp only [stepW]
        rw [if_neg (by rw [hpl1]; decide), hd, if_neg (fun e => h34 (.inl e)), if_neg (fun e => h34 (.inr e)), hh]
      rw [hst]
      dsimp only
      rw [hX3, ← hcl]
      have := ih (pre ++ cb) (w ++ mk cb)
      rw [List.length_append] at this
      exact this
/-- a word in quotes -/
theorem quote_words (a : ByteArray) (h : fineB a = true) (out : List ByteArray) : wF (((⟨#[34]⟩ : ByteArray) ++ mk (escL a.data.toList)) ++ (⟨#[34]⟩ : ByteArray)) 0 0 out ⟨#[]⟩ = (out ++ [a], 0, 0, ()) := by
  have e : ((⟨#[34]⟩ : ByteArray) ++ mk (escL a.data.toList)) ++ (⟨#[34]⟩ : ByteArray) = mk ([] ++ ([34] ++ (escL a.data.toList ++ [34]))) := by
    rw [show (⟨#[34]⟩ : ByteArray) = mk [34] from rfl, ← mk_app, ← mk_app]; simp
  have e2 : mk ([] ++ ([34] ++ (escL a.data.toList ++ [34]))) = mk ([34] ++ (escL a.data.toList ++ [34])) := by simp
  have hd := dec_in [] [34] (escL a.data.toList ++ [34]) (by simp) (by rw [dec_ascii_mk 34 (by decide)]; decide) (by rw [dec_ascii_mk 34 (by decide)]; rfl)
  rw [dec_ascii_mk 34 (by decide)] at hd
  simp only [List.length_nil] at hd
  rw [e]
  have hsz : (mk ([] ++ ([34] ++ (escL a.data.toList ++ [34])))).size = (escL a.data.toList).length + 2 := by rw [mk_size]; simp
  rw [wF_step _ _ _ _ _ (by omega), hd]
  have hpl : plainB (mk ([] ++ ([34] ++ (escL a.data.toList ++ [34])))) 0 = true := plain_34 (by rw [hd]; rfl)
  have hst : stepW (mk ([] ++ ([34] ++ (escL a.data.toList ++ [34])))) 0 0 out ⟨#[]⟩ = some (2, out, ⟨#[]⟩) := by
    simp only [stepW]
    rw [hd, if_neg (by decide), if_neg (by rw [hpl]; decide), if_pos (by decide)]
  rw [hst]
  dsimp only
  have := quote_walk a.data.toList.length [34] a.data.toList out ⟨#[]⟩ (Nat.le_refl _) (by rw [mk_list]; exact h)
  rw [mk_list] at this
  have e0 : (⟨#[]⟩ : ByteArray) ++ a = a := by apply ByteArray.ext; simp
  rw [e0] at this
  exact this
end Go.Px.Pu
