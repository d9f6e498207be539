/- NamingOnce: a name stands for itself; in great letters for the same. -/
import Derived.Test.YtjpgncjabhiooaaDoorPuNamNames
import Derived.Test.YtjpgncjabhiooaaDoorPuNamAwake
set_option linter.unusedVariables false
set_option linter.unusedSimpArgs false
namespace Go.Px.Pu
open Go Go.Px
def l1 (r : Int) : Int := (lett r).1
theorem foldG_bad : (k : Nat) → (s : ByteArray) → (p : Nat) → (t : List Int) → ∀ q e, foldG k s p t = .bad q e → e = 4 ∨ e = 2
  | 0, _, _, _, _, _, h => by cases h
  | k + 1, s, p, t, q, e, h => by
    simp only [foldG] at h
    split at h
    · split at h
      · cases h; exact .inl rfl
      · split at h
        · cases h; exact .inr rfl
        · exact foldG_bad k s _ _ q e h
    · cases h
theorem size_app (a b : ByteArray) : (a ++ b).size = a.size + b.size := by simp
theorem enc_size {r : Int} (h : rune r) : 0 < (Utf8.encode r).size := by
  obtain ⟨c, rfl, hv⟩ := h
  exact enc_pos hv
theorem fold_runes : (b a : List Int) → (∀ r ∈ a ++ b, rune r ∧ (lett r).2 = true) → (a ++ b).length ≤ 16 → (∀ r, (a ++ b).head? = some r → l1 r ≠ 46 ∧ l1 r ≠ 45) → ∀ k, (strOfRunes (a ++ b)).size - (strOfRunes a).size ≤ k → foldG k (strOfRunes (a ++ b)) (strOfRunes a).size (a.map l1) = .ok ((a ++ b).map l1)
  | [], a, _, _, _, k, _ => by
    rw [List.append_nil]
    exact foldG_end _ _ _ _ (Nat.le_refl _)
  | r :: b, a, h1, h2, h3, k, hk => by
    obtain ⟨hr, hl⟩ := h1 r (by simp)
    have hs := enc_size hr
    have hsz : (strOfRunes (a ++ r :: b)).size = (strOfRunes a).size + ((Utf8.encode r).size + (strOfRunes b).size) := by rw [runes_app, runes_cons, size_app, size_app]
    cases k with
    | zero => omega
    | succ k =>
      have hd := dec_runes a r b hr
      have hrn : ((r.toNat : Nat) : Int) = r := by obtain ⟨c, rfl, _⟩ := hr; simp
      simp only [foldG]
      rw [if_pos (by omega), hd]
      dsimp only
      rw [hrn, hl]
      have hlen : a.length + (b.length + 1) ≤ 16 := by simpa using h2
      have hcond : (!true || (ieq (((strOfRunes a).size : Nat) : Int) 0 && (ieq (lett r).1 46 || ieq (lett r).1 45))) = false := by
        cases a with
        | nil =>
          have this : (lett r).1 ≠ 46 ∧ (lett r).1 ≠ 45 := h3 r (by simp)
          rw [ieq_f.2 this.1, ieq_f.2 this.2]; simp
        | cons x a =>
          have hx := enc_size (h1 x (by simp)).1
          rw [ieq_f.2 (by rw [runes_cons, size_app]; omega)]; simp
      rw [if_neg (by rw [hcond]; simp), if_neg (by simp; omega)]
      have e : a ++ r :: b = (a ++ [r]) ++ b := by simp
      have e2 : (strOfRunes a).size + (Utf8.encode r).size = (strOfRunes (a ++ [r])).size := by
        rw [runes_app, runes_cons, size_app, size_app]; simp [strOfRunes]
      have ih := fold_runes b (a ++ [r]) (by rw [← e]; exact h1) (by rw [← e]; exact h2) (by rw [← e]; exact h3) k (by rw [← e, ← e2]; omega)
      rw [e2, e]
      rw [List.map_append] at ih
      exact ih
theorem fold_text (u : List Int) (h1 : ∀ r ∈ u, rune r ∧ (lett r).2 = true) (h2 : u.length ≤ 16) (h3 : ∀ r, u.head? = some r → l1 r ≠ 46 ∧ l1 r ≠ 45) : naming_Fold (strOfRunes u, ()) = some (finF (u.map l1)) := by
  rw [naming_Fold_eq]
  have := fold_runes u [] h1 h2 h3 (strOfRunes u).size (by simp)
  simp only [List.nil_append, List.map_nil] at this
  have e : (strOfRunes []).size = 0 := rfl
  rw [e] at this
  rw [this]; rfl
/-! ### great letters -/
def up (l : Int) : Int := if 97 ≤ l ∧ l ≤ 122 then l - 32 else l
theorem lett_upper {l : Int} (h : kept l) : rune (up l) ∧ lett (up l) = (l, true) := by
  unfold up
  by_cases g : 97 ≤ l ∧ l ≤ 122
  · rw [if_pos g]
    refine ⟨⟨(l - 32).toNat, by omega, by omega⟩, ?_⟩
    rw [lett_up (by omega) (by omega)]
    exact Prod.ext (by dsimp only; omega) rfl
  · rw [if_neg g]; exact h
theorem bytes_app (a b : ByteArray) : bytesOf (a ++ b) = bytesOf a ++ bytesOf b := by
  unfold bytesOf
  rw [ByteArray.data_append, Array.toList_append, List.map_append]
theorem up_enc {l : Int} (h : rune l) : (bytesOf (Utf8.encode l)).map up = bytesOf (Utf8.encode (up l)) := by
  obtain ⟨c, rfl, hv⟩ := h
  by_cases hc : c < 128
  · have e : ∀ d : Nat, d < 128 → bytesOf (Utf8.encode (d : Int)) = [(d : Int)] := fun d hd => by
      have hval : Utf8.valid (d : Int) = true := by
        simp only [Utf8.valid, Bool.or_eq_true, Bool.and_eq_true, decide_eq_true_eq]; omega
      unfold Utf8.encode
      simp only [hval, if_true, Int.toNat_natCast]
      rw [if_pos (by omega)]
      simp [bytesOf]; omega
    rw [e c hc]
    unfold up
    by_cases g : 97 ≤ (c : Int) ∧ (c : Int) ≤ 122
    · rw [if_pos g, show (c : Int) - 32 = ((c - 32 : Nat) : Int) by omega, e _ (by omega)]
      simp only [List.map_cons, List.map_nil]
      rw [if_pos g]; simp; omega
    · rw [if_neg g, e c hc]
      simp only [List.map_cons, List.map_nil]
      rw [if_neg g]
  · have hu : up (c : Int) = c := by unfold up; rw [if_neg (by omega)]
    rw [hu]
    have hall : ∀ n ∈ bytesOf (Utf8.encode (c : Int)), up n = n := fun n hn => by
      have hge : 128 ≤ n := by
        have hval : Utf8.valid (c : Int) = true := by
          simp only [Utf8.valid, Bool.or_eq_true, Bool.and_eq_true, decide_eq_true_eq]; omega
        unfold Utf8.encode at hn
        simp only [hval, if_true, Int.toNat_natCast] at hn
        rw [if_neg (by omega)] at hn
        split at hn
        · simp [bytesOf] at hn; omega
        · split at hn
          · simp [bytesOf] at hn; omega
          · simp [bytesOf] at hn; omega
      unfold up; rw [if_neg (by omega)]
    exact (List.map_congr_left hall).trans (List.map_id _)
theorem up_runes : (t : List Int) → (∀ l ∈ t, rune l) → (bytesOf (strOfRunes t)).map up = bytesOf (strOfRunes (t.map up))
  | [], _ => rfl
  | a :: t, h => by
    rw [List.map_cons, runes_cons, runes_cons, bytes_app, bytes_app, List.map_append, up_enc (h a (by simp)), up_runes t fun l hl => h l (by simp [hl])]
theorem once_l0 (n m : ByteArray) (z : Int) (L : List Int) (hL : L.length ≤ 1000) (hb : bys L) (kx : (ByteArray × ByteArray × Int × List Int × Unit) → Option Bool) : w03_NamingOnce.l0 (n, m, z, L, 0, ()) kx = kx (n, m, z, L.map up, ()) := by
  unfold w03_NamingOnce.l0
  have key := loopN_eq (step := w03_NamingOnce.s0 kx) (fun _ => kx (n, m, z, L.map up, ()))
    (fun x => x.1 = n ∧ x.2.1 = m ∧ x.2.2.1 = z ∧ ∃ i : Nat, x.2.2.2.2.1 = i ∧ i ≤ L.length ∧ x.2.2.2.1 = (L.take i).map up ++ L.drop i) (fun x => L.length - x.2.2.2.2.1.toNat) ?_
  · exact key (w03_NamingOnce.n0 (n, m, z, L, 0, ())) (n, m, z, L, 0, ()) ⟨rfl, rfl, rfl, 0, rfl, by omega, by simp⟩ (by simp only [w03_NamingOnce.n0]; omega)
  · rintro ⟨n', m', z', A, j, _⟩ ⟨h0, h1, h2, i, h3, h4, h5⟩ κ hκ
    simp only at h0 h1 h2 h3 h5 hκ; subst h0 h1 h2 h3
    have hA : A.length = L.length := by rw [h5]; simp; omega
    simp only [w03_NamingOnce.s0, w03_NamingOnce.s0b]
    by_cases hlt : i < L.length
    · have hg : A.getD i 0 = L.getD i 0 := by
        rw [h5, List.getD_eq_getElem?_getD, List.getElem?_append_right (by simp; omega), List.getElem?_drop, List.getD_eq_getElem?_getD]
        simp; rw [Nat.min_eq_left (by omega)]; simp
      have hin : inB (i : Int) A.length = true := inB_iff.2 (by omega)
      have hby : byte (L.getD i 0) := hb _ (getD_mem hlt)
      have ha : iadd .i64 (i : Int) 1 = ((i + 1 : Nat) : Int) := by rw [iadd64 (by omega)]; rfl
      have hstep : ∀ v, up (L.getD i 0) = v → (L.take i).map up ++ v :: L.drop (i + 1) = (L.take (i + 1)).map up ++ L.drop (i + 1) := fun v hv => by
        have e : L.take (i + 1) = L.take i ++ [L.getD i 0] := by
          rw [List.take_add_one, List.getD_eq_getElem?_getD, List.getElem?_eq_getElem hlt]; rfl
        rw [e, List.map_append, List.append_assoc, List.map_cons, List.map_nil, hv]; rfl
      have hd : L.drop i = L.getD i 0 :: L.drop (i + 1) := by
        rw [List.drop_eq_getElem_cons hlt, List.getD_eq_getElem?_getD, List.getElem?_eq_getElem hlt]; rfl
      rw [cond_t (ilt_iff.2 (by omega)), chk_true hin]
      simp only [Int.toNat_natCast, hg, ha]
      have keep : ¬ (97 ≤ L.getD i 0 ∧ L.getD i 0 ≤ 122) → κ (n', m', z', A, ((i + 1 : Nat) : Int), ()) = kx (n', m', z', L.map up, ()) := fun g => by
        refine hκ _ ⟨rfl, rfl, rfl, i + 1, rfl, by omega, ?_⟩ (by simp only [Int.toNat_natCast]; omega)
        simp only
        rw [h5, hd]
        exact hstep _ (by unfold up; rw [if_neg g])
      by_cases g1 : 97 ≤ L.getD i 0
      · rw [cond_t (ige_iff.2 g1), chk_true hin]
        by_cases g2 : L.getD i 0 ≤ 122
        · have hsub : isub .u8 (L.getD i 0) 32 = L.getD i 0 - 32 := IntWalk.u8_in _ ⟨by omega, by have := hby.2; omega⟩
          rw [cond_t (ile_iff.2 g2), chk_true hin, chk_true hin, hsub]
          refine hκ _ ⟨rfl, rfl, rfl, i + 1, rfl, by omega, ?_⟩ (by simp only [Int.toNat_natCast]; omega)
          simp only
          rw [h5, hd, List.set_append, if_neg (by simp; omega)]
          have : i - ((L.take i).map up).length = 0 := by simp; omega
          rw [this, List.set_cons_zero]
          exact hstep _ (by unfold up; rw [if_pos ⟨g1, g2⟩])
        · rw [cond_f (ile_f.2 (by omega))]
          exact keep fun h => g2 h.2
      · rw [cond_f (ige_f.2 (by omega))]
        exact keep fun h => g1 h.1
    · rw [cond_f (ilt_f.2 (by omega)), h5]
      have : i = L.length := by omega
      subst this
      simp
end Go.Px.Pu
namespace Go.Px
open Go Go.Px.Pu
theorem once_main {s : ByteArray} (f9 : Unit → Option Bool) (f10 : (ByteArray × Unit) → Option (ByteArray × Int × Int × Unit)) (l0 : (ByteArray × ByteArray × Int × List Int × Int × Unit) → ((ByteArray × ByteArray × Int × List Int × Unit) → Option Bool) → Option Bool) (hf : f9 () = some true)
    (h : (∃ p e, f10 (s, ()) = some (⟨#[]⟩, p, e, ()) ∧ e ≠ 0) ∨ ∃ n : ByteArray, f10 (s, ()) = some (n, 0, 0, ()) ∧ f10 (n, ()) = some (n, 0, 0, ()) ∧ 1 ≤ n.size ∧ n.size ≤ 32 ∧ ∃ L, (∀ kx, l0 (n, n, 0, bytesOf n, 0, ()) kx = kx (n, n, 0, L, ())) ∧ f10 (strOf L, ()) = some (n, 0, 0, ())) : w03_NamingOnce.b f9 f10 l0 (s, ()) = some true := by
  simp only [w03_NamingOnce.b, hf, Option.bind_some, Bool.not_true, cond_false]
  rcases h with ⟨p, e, h1, h2⟩ | ⟨n, h1, h2, h3, h4, L, h5, h6⟩
  · rw [h1]
    simp only [Option.bind_some]
    rw [cond_t (ine_iff.2 h2), seq_self]
  · rw [h1]
    simp only [Option.bind_some]
    rw [cond_f (ine_f.2 rfl), h2]
    simp only [Option.bind_some]
    rw [chk_true (decide_eq_true (by omega)), h5]
    simp only []
    rw [h6]
    simp only [Option.bind_some]
    rw [cond_t (seq_self n), cond_t (ieq_iff.2 rfl), cond_t (seq_self n), cond_t (ieq_iff.2 rfl), cond_t (ige_iff.2 (by omega)), ile_iff.2 (by omega)]
theorem pure_NamingOnce (x0 : ByteArray) (w0 : x0.size ≤ 140737488351232) : w03_NamingOnce (x0, ()) = some true := by
  show w03_NamingOnce.b w03_awake naming_Fold w03_NamingOnce.l0 (x0, ()) = some true
  refine once_main _ _ _ w03_awake_eq ?_
  rw [naming_Fold_eq]
  cases hG : foldG x0.size x0 0 [] with
  | bad p e =>
    refine .inl ⟨p, e, rfl, ?_⟩
    rcases foldG_bad _ _ _ _ _ _ hG with h | h <;> omega
  | ok t =>
    obtain ⟨hk, hlen, hh⟩ := foldG_kept _ _ _ _ _ (fun l hl => by cases hl) (by simp) (fun _ => rfl) (fun l hl => by cases hl) hG
    simp only [resF]
    by_cases h0 : t.length = 0
    · exact .inl ⟨0, 4, by unfold finF; rw [if_pos h0], by omega⟩
    · by_cases h32 : (strOfRunes t).size ≤ 32
      · have hfin : finF t = (strOfRunes t, 0, 0, ()) := by unfold finF; rw [if_neg h0, if_pos h32]
        have hm : t.map l1 = t := (List.map_congr_left fun l hl => congrArg Prod.fst (hk l hl).2).trans (List.map_id _)
        have hm2 : (t.map up).map l1 = t := by
          rw [List.map_map]
          exact (List.map_congr_left fun l hl => congrArg Prod.fst (lett_upper (hk l hl)).2).trans (List.map_id _)
        have hb := bys_of (strOfRunes t)
        have hlb := bytesOf_len (strOfRunes t)
        refine .inr ⟨strOfRunes t, by rw [hfin], ?_, ?_, h32, (bytesOf (strOfRunes t)).map up, fun kx => once_l0 _ _ _ _ (by omega) hb kx, ?_⟩
        · rw [fold_text t (fun r hr => ⟨(hk r hr).1, congrArg Prod.snd (hk r hr).2⟩) hlen (fun r hr => by
            have : l1 r = r := congrArg Prod.fst (hk r (List.mem_of_mem_head? hr)).2
            rw [this]; exact hh r hr), hm, hfin]
        · cases t with
          | nil => exact absurd rfl h0
          | cons a t =>
            have := enc_size (hk a (by simp)).1
            rw [runes_cons, size_app]; omega
        · rw [up_runes t fun l hl => (hk l hl).1, str_bytes]
          rw [fold_text (t.map up) (fun r hr => by
            obtain ⟨l, hl, rfl⟩ := List.mem_map.1 hr
            obtain ⟨g1, g2⟩ := lett_upper (hk l hl)
            exact ⟨g1, congrArg Prod.snd g2⟩) (by simpa using hlen) (fun r hr => by
            rw [List.head?_map] at hr
            cases ht : t.head? with
            | none => rw [ht] at hr; cases hr
            | some l =>
              rw [ht] at hr
              simp only [Option.map_some, Option.some.injEq] at hr
              subst hr
              have : l1 (up l) = l := congrArg Prod.fst (lett_upper (hk l (List.mem_of_mem_head? ht))).2
              rw [this]; exact hh l ht), hm2, hfin]
      · exact .inl ⟨0, 2, by unfold finF; rw [if_neg h0, if_neg h32], by omega⟩
end Go.Px
