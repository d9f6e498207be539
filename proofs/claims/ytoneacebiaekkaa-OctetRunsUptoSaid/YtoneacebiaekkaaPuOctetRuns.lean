/- OctetRuns: numbers and texts one behind the other are read again, one by one. -/
import Derived.Test.YtoneacebiaekkaaPuOctText
import Derived.Test.YtoneacebiaekkaaPuOctUintW
import Derived.Test.YtoneacebiaekkaaPuOctAwake
set_option linter.unusedVariables false
set_option linter.unusedSimpArgs false
namespace Go.Px.Pu
open Go Go.Px
def runs : List ByteArray → List Int → List Int
  | [], _ => []
  | s :: l, [] => textB s ++ runs l []
  | s :: l, n :: v => textB s ++ (intB n ++ runs l v)
def rsz (l : List ByteArray) : Nat := l.length + (l.map ByteArray.size).sum
theorem intB_len (n : Int) : (intB n).length = 8 := digs_len 8 _
theorem runs_bys : (l : List ByteArray) → (v : List Int) → bys (runs l v)
  | [], _ => bys_nil
  | s :: l, [] => bys_app.2 ⟨textB_bys s, runs_bys l []⟩
  | s :: l, n :: v => bys_app.2 ⟨textB_bys s, bys_app.2 ⟨digs_bys 8 _, runs_bys l v⟩⟩
theorem runs_len : (l : List ByteArray) → (v : List Int) → (runs l v).length ≤ 2 * rsz l + 8 * v.length
  | [], _ => Nat.zero_le _
  | s :: l, [] => by
    have h1 := textB_len s
    have h2 := runs_len l []
    simp only [runs, rsz, List.length_append, List.length_cons, List.map_cons, List.sum_cons, List.length_nil] at h2 ⊢
    omega
  | s :: l, n :: v => by
    have h1 := textB_len s
    have h2 := runs_len l v
    have h3 := intB_len n
    simp only [runs, rsz, List.length_append, List.length_cons, List.map_cons, List.sum_cons] at h2 ⊢
    omega
theorem rdrop_cons {α : Type} {l : List α} {k : Nat} {d : α} (h : k < l.length) : l.drop k = l.getD k d :: l.drop (k + 1) := by
  rw [List.drop_eq_getElem_cons h, List.getD_eq_getElem?_getD, List.getElem?_eq_getElem h]; rfl
theorem rsize_le {l : List ByteArray} {k : Nat} (h : k < l.length) : (l.getD k ByteArray.empty).size ≤ rsz l := by
  have hm : (l.getD k ByteArray.empty) ∈ l := getD_mem h
  have : ∀ (l : List ByteArray) s, s ∈ l → s.size ≤ (l.map ByteArray.size).sum := fun l => by
    induction l with
    | nil => intro s h; cases h
    | cons a l ih =>
      intro s h
      rw [List.map_cons, List.sum_cons]
      rcases List.mem_cons.1 h with rfl | h
      · omega
      · have := ih s h; omega
  have := this l _ hm
  unfold rsz; omega
/-- what stands from a place on -/
theorem runs_drop {l : List ByteArray} {v : List Int} {k : Nat} (h : k < l.length) : runs (l.drop k) (v.drop k) = textB (l.getD k ByteArray.empty) ++ ((if k < v.length then intB (v.getD k 0) else []) ++ runs (l.drop (k + 1)) (v.drop (k + 1))) := by
  rw [rdrop_cons (d := ByteArray.empty) h]
  by_cases hv : k < v.length
  · rw [rdrop_cons (d := (0 : Int)) hv, if_pos hv]; rfl
  · rw [if_neg hv, List.drop_eq_nil_of_le (as := v) (by omega), List.drop_eq_nil_of_le (as := v) (by omega)]; rfl
section
variable {l : List ByteArray} {v : List Int} (hs : rsz l + v.length ≤ 1048576) (hv : ∀ n ∈ v, -9223372036854775808 ≤ n ∧ n ≤ 9223372036854775807)
include hs hv
theorem runs_l0 (kx : List ByteArray × List Int × List Int × Unit → Option Bool) : w02_OctetRuns.l0 (l, v, [], 0, ()) kx = kx (l, v, runs l v, ()) := by
  unfold w02_OctetRuns.l0
  have key := loopN_eq (step := w02_OctetRuns.s0 kx) (fun _ => kx (l, v, runs l v, ()))
    (fun x => x.1 = l ∧ x.2.1 = v ∧ ∃ k : Nat, x.2.2.2.1 = k ∧ k ≤ l.length ∧ x.2.2.1 ++ runs (l.drop k) (v.drop k) = runs l v) (fun x => l.length - x.2.2.2.1.toNat) ?_
  · exact key (w02_OctetRuns.n0 (l, v, [], 0, ())) (l, v, [], 0, ()) ⟨rfl, rfl, 0, rfl, by omega, by simp⟩ (by simp only [w02_OctetRuns.n0]; omega)
  · rintro ⟨l', v', t, i, _⟩ ⟨h0, h1, k, h2, h3, h4⟩ κ hκ
    simp only at h0 h1 h2 h3 h4 hκ; subst h0 h1 h2
    simp only [w02_OctetRuns.s0, w02_OctetRuns.s0b]
    have hl := runs_len l' v'
    by_cases hlt : k < l'.length
    · have hsz := rsize_le hlt
      have ha : iadd .i64 (k : Int) 1 = ((k + 1 : Nat) : Int) := by rw [iadd64 (by unfold rsz at hs; omega)]; rfl
      rw [cond_t (ilt_iff.2 (by omega)), chk_true (inB_iff.2 (by omega))]
      simp only [Int.toNat_natCast]
      rw [octet_Text_eq (by omega)]
      simp only [Option.bind_some]
      rw [runs_drop hlt] at h4
      have e := congrArg List.length h4
      simp only [List.length_append] at e
      rw [chk_true (fits_iff.2 (by omega)), ha]
      by_cases hlv : k < v'.length
      · rw [if_pos hlv] at h4 e
        have hn := hv _ (getD_mem (d := (0 : Int)) hlv)
        rw [cond_t (ilt_iff.2 (by omega)), chk_true (inB_iff.2 (by omega)), octet_Int_eq hn]
        simp only [Option.bind_some]
        rw [chk_true (fits_iff.2 (by simp only [List.length_append]; omega))]
        exact hκ _ ⟨rfl, rfl, k + 1, rfl, by omega, by simpa [List.append_assoc] using h4⟩ (by simp; omega)
      · rw [if_neg hlv] at h4
        rw [cond_f (ilt_f.2 (by omega))]
        exact hκ _ ⟨rfl, rfl, k + 1, rfl, by omega, by simpa [List.append_assoc] using h4⟩ (by simp; omega)
    · rw [cond_f (ilt_f.2 (by omega))]
      rw [List.drop_eq_nil_of_le (by omega)] at h4
      simp only [runs, List.append_nil] at h4
      rw [h4]
theorem runs_l2 (kx : List Int × Int × Unit → Option Bool) : w02_OctetRuns.l2 (l, v, runs l v, 0, 0, ()) kx = kx (runs l v, ((runs l v).length : Int), ()) := by
  unfold w02_OctetRuns.l2
  have key := loopN_eq (step := w02_OctetRuns.s2 kx) (fun _ => kx (runs l v, ((runs l v).length : Int), ()))
    (fun x => x.1 = l ∧ x.2.1 = v ∧ x.2.2.1 = runs l v ∧ ∃ k : Nat, ∃ a : List Int, x.2.2.2.2.1 = k ∧ x.2.2.2.1 = a.length ∧ k ≤ l.length ∧ a ++ runs (l.drop k) (v.drop k) = runs l v) (fun x => l.length - x.2.2.2.2.1.toNat) ?_
  · exact key (w02_OctetRuns.n2 (l, v, runs l v, 0, 0, ())) (l, v, runs l v, 0, 0, ()) ⟨rfl, rfl, rfl, 0, [], rfl, rfl, by omega, by simp⟩ (by simp only [w02_OctetRuns.n2]; omega)
  · rintro ⟨l', v', p, at', i, _⟩ ⟨h0, h1, hp, k, a, h2, h5, h3, h4⟩ κ hκ
    simp only at h0 h1 hp h2 h5 h3 h4 hκ; subst h0 h1 h2 h5
    simp only [w02_OctetRuns.s2, w02_OctetRuns.s2b]
    have hl := runs_len l' v'
    have hpl : p.length ≤ 140737488351232 := by rw [hp]; omega
    have hpb : ∀ n ∈ p, byte n := by rw [hp]; exact runs_bys l' v'
    by_cases hlt : k < l'.length
    · have ha : iadd .i64 (k : Int) 1 = ((k + 1 : Nat) : Int) := by rw [iadd64 (by unfold rsz at hs; omega)]; rfl
      rw [runs_drop hlt] at h4
      rw [cond_t (ilt_iff.2 (by omega)), octet_ReadText_eq hpl, readText_at p a ((if k < v'.length then intB (v'.getD k 0) else []) ++ runs (l'.drop (k + 1)) (v'.drop (k + 1))) (l'.getD k ByteArray.empty) (by rw [hp]; exact h4.symm)]
      simp only [Option.bind_some, Int.toNat_natCast]
      rw [cond_f (ine_f.2 rfl), chk_true (inB_iff.2 (by omega)), cond_f (by rw [sne_seq, seq_self]; rfl), ha]
      by_cases hlv : k < v'.length
      · rw [if_pos hlv] at h4
        have hn := hv _ (getD_mem (d := (0 : Int)) hlv)
        rw [cond_t (ilt_iff.2 (by omega)), octet_ReadInt_eq hpl hpb, readI_at p (a ++ textB (l'.getD k ByteArray.empty)) (runs (l'.drop (k + 1)) (v'.drop (k + 1))) (v'.getD k 0) (by rw [hp, ← h4]; simp [List.append_assoc]) hn]
        simp only [Option.bind_some]
        rw [cond_f (ine_f.2 rfl), chk_true (inB_iff.2 (by omega)), cond_f (ine_f.2 rfl)]
        refine hκ _ ⟨rfl, rfl, hp, k + 1, a ++ textB (l'.getD k ByteArray.empty) ++ intB (v'.getD k 0), rfl, ?_, by omega, by simpa [List.append_assoc] using h4⟩ (by simp; omega)
        simp only [List.length_append, intB_len]
        push_cast
        rfl
      · rw [if_neg hlv] at h4
        rw [cond_f (ilt_f.2 (by omega))]
        exact hκ _ ⟨rfl, rfl, hp, k + 1, a ++ textB (l'.getD k ByteArray.empty), rfl, rfl, by omega, by simpa [List.append_assoc] using h4⟩ (by simp; omega)
    · rw [cond_f (ilt_f.2 (by omega))]
      rw [List.drop_eq_nil_of_le (by omega)] at h4
      simp only [runs, List.append_nil] at h4
      rw [hp, h4]
end
end Go.Px.Pu
namespace Go.Px
open Go Go.Px.Pu
theorem runs_main {l : List ByteArray} {v : List Int} (f11 : Unit → Option Bool) (l0 : (List ByteArray × List Int × List Int × Int × Unit) → ((List ByteArray × List Int × List Int × Unit) → Option Bool) → Option Bool) (l2 : (List ByteArray × List Int × List Int × Int × Int × Unit) → ((List Int × Int × Unit) → Option Bool) → Option Bool)
    (hf : f11 () = some true) (h0 : ∀ kx, l0 (l, v, [], 0, ()) kx = kx (l, v, runs l v, ())) (h2 : ∀ kx, l2 (l, v, runs l v, 0, 0, ()) kx = kx (runs l v, ((runs l v).length : Int), ())) : w02_OctetRuns.b f11 l0 l2 (l, v, ()) = some true := by
  simp only [w02_OctetRuns.b, hf, Option.bind_some, Bool.not_true, cond_false]
  cases h : igt (iadd .i64 (l.length : Int) (v.length : Int)) 200 with
  | true => simp only [cond_true]
  | false =>
    simp only [cond_false]
    rw [h0]
    simp only []
    rw [h2]
    simp only []
    rw [ieq_iff.2 rfl]
theorem pure_OctetRuns (x0 : List ByteArray) (y0 : x0.length * 16 ≤ 140737488351232) (x1 : List Int) (y1 : x1.length * 8 ≤ 140737488351232) (w1 : ∀ n ∈ x1, (Lit.int .i64 n).wf = true) (hb : x0.length + (x0.map ByteArray.size).sum + x1.length ≤ 1048576) : w02_OctetRuns (x0, x1, ()) = some true := by
  have hs : rsz x0 + x1.length ≤ 1048576 := hb
  have hv : ∀ n ∈ x1, -9223372036854775808 ≤ n ∧ n ≤ 9223372036854775807 := fun n hn => i64_wf (w1 n hn)
  unfold w02_OctetRuns
  exact runs_main _ _ _ w02_awake_eq (fun kx => runs_l0 hs hv kx) (fun kx => runs_l2 hs hv kx)
end Go.Px
