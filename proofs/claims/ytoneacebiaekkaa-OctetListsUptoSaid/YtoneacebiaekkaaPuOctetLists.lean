/- OctetLists: lists of texts stand, as bytes, as the lists do. -/
import Derived.Test.YtoneacebiaekkaaPuOctText
import Derived.Test.YtoneacebiaekkaaPuOctAwake
set_option linter.unusedVariables false
set_option linter.unusedSimpArgs false
namespace Go.Px.Pu
open Go Go.Px
def cat : List ByteArray → List Int
  | [] => []
  | s :: r => textB s ++ cat r
def szs (l : List ByteArray) : Nat := l.length + (l.map ByteArray.size).sum
theorem cat_bys : (l : List ByteArray) → bys (cat l)
  | [] => bys_nil
  | s :: r => bys_app.2 ⟨textB_bys s, cat_bys r⟩
theorem cat_len : (l : List ByteArray) → (cat l).length ≤ 2 * szs l
  | [] => Nat.zero_le _
  | s :: r => by
    have h1 := textB_len s
    have h2 := cat_len r
    simp only [cat, szs, List.length_append, List.length_cons, List.map_cons, List.sum_cons] at h2 ⊢
    omega
theorem drop_consB {l : List ByteArray} {k : Nat} (h : k < l.length) : l.drop k = l.getD k ByteArray.empty :: l.drop (k + 1) := by
  rw [List.drop_eq_getElem_cons h, List.getD_eq_getElem?_getD, List.getElem?_eq_getElem h]; rfl
theorem size_le {l : List ByteArray} {k : Nat} (h : k < l.length) : (l.getD k ByteArray.empty).size ≤ szs l := by
  have hm : (l.getD k ByteArray.empty) ∈ l := getD_mem h
  have : ∀ (l : List ByteArray) s, s ∈ l → s.size ≤ (l.map ByteArray.size).sum := fun l => by
    induction l with
    | nil => intro s h; cases h
    | cons a l ih =>
      intro s h
      rw [List.map_cons, List.sum_cons]
      rcases List.mem_cons.1 h with rfl | h
      · omega
      · have := ih s h; omega
  have := this l _ hm
  unfold szs; omega
/-- lists, by the first unlike text -/
def lists : List ByteArray → List ByteArray → Bool
  | _, [] => false
  | [], _ :: _ => true
  | a :: x, b :: y => if a = b then lists x y else slt a b
theorem cat_less : (a b : List ByteArray) → lless (cat a) (cat b) = lists a b
  | [], [] => rfl
  | _ :: _, [] => by simp [cat, lists, lless]
  | [], b :: y => by
    simp only [lists, cat]
    cases h : textB b ++ cat y with
    | nil => simp [textB] at h
    | cons u v => rfl
  | a :: x, b :: y => by
    simp only [lists, cat]
    by_cases h : a = b
    · rw [if_pos h, h, lless_app, cat_less x y]
    · rw [if_neg h]; exact text_less h _ _
section
variable {a b : List ByteArray} (hs : szs a + szs b ≤ 1048576)
include hs
theorem lists_l0 (kx : List ByteArray × List ByteArray × List Int × List Int × Unit → Option Bool) (z : List Int) : w02_OctetLists.l0 (a, b, [], z, 0, ()) kx = kx (a, b, cat a, z, ()) := by
  unfold w02_OctetLists.l0
  have key := loopN_eq (step := w02_OctetLists.s0 kx) (fun _ => kx (a, b, cat a, z, ()))
    (fun x => x.1 = a ∧ x.2.1 = b ∧ x.2.2.2.1 = z ∧ ∃ k : Nat, x.2.2.2.2.1 = k ∧ k ≤ a.length ∧ x.2.2.1 ++ cat (a.drop k) = cat a) (fun x => a.length - x.2.2.2.2.1.toNat) ?_
  · exact key (w02_OctetLists.n0 (a, b, [], z, 0, ())) (a, b, [], z, 0, ()) ⟨rfl, rfl, rfl, 0, rfl, by omega, by simp⟩ (by simp only [w02_OctetLists.n0]; omega)
  · rintro ⟨a', b', t, z', i, _⟩ ⟨h0, h1, hz, k, h2, h3, h4⟩ κ hκ
    simp only at h0 h1 hz h2 h3 h4 hκ; subst h0 h1 hz h2
    simp only [w02_OctetLists.s0, w02_OctetLists.s0b]
    have hl := cat_len a'
    by_cases hlt : k < a'.length
    · have hd := drop_consB hlt
      have hsz := size_le hlt
      rw [cond_t (ilt_iff.2 (by omega)), chk_true (inB_iff.2 (by omega))]
      simp only [Int.toNat_natCast]
      rw [octet_Text_eq (by omega)]
      simp only [Option.bind_some]
      rw [hd] at h4
      simp only [cat] at h4
      have e := congrArg List.length h4
      simp only [List.length_append] at e
      have ha : iadd .i64 (k : Int) 1 = ((k + 1 : Nat) : Int) := by rw [iadd64 (by unfold szs at hs; omega)]; rfl
      rw [chk_true (fits_iff.2 (by omega)), ha, hκ _ ⟨rfl, rfl, rfl, k + 1, rfl, by omega, by simpa using h4⟩ (by simp; omega)]
    · rw [cond_f (ilt_f.2 (by omega))]
      rw [List.drop_eq_nil_of_le (by omega)] at h4
      simp only [cat, List.append_nil] at h4
      rw [h4]
theorem lists_l2 (kx : List ByteArray × List ByteArray × List Int × List Int × Unit → Option Bool) (z : List Int) : w02_OctetLists.l2 (a, b, z, [], 0, ()) kx = kx (a, b, z, cat b, ()) := by
  unfold w02_OctetLists.l2
  have key := loopN_eq (step := w02_OctetLists.s2 kx) (fun _ => kx (a, b, z, cat b, ()))
    (fun x => x.1 = a ∧ x.2.1 = b ∧ x.2.2.1 = z ∧ ∃ k : Nat, x.2.2.2.2.1 = k ∧ k ≤ b.length ∧ x.2.2.2.1 ++ cat (b.drop k) = cat b) (fun x => b.length - x.2.2.2.2.1.toNat) ?_
  · exact key (w02_OctetLists.n2 (a, b, z, [], 0, ())) (a, b, z, [], 0, ()) ⟨rfl, rfl, rfl, 0, rfl, by omega, by simp⟩ (by simp only [w02_OctetLists.n2]; omega)
  · rintro ⟨a', b', z', t, i, _⟩ ⟨h0, h1, hz, k, h2, h3, h4⟩ κ hκ
    simp only at h0 h1 hz h2 h3 h4 hκ; subst h0 h1 hz h2
    simp only [w02_OctetLists.s2, w02_OctetLists.s2b]
    have hl := cat_len b'
    by_cases hlt : k < b'.length
    · have hd := drop_consB hlt
      have hsz := size_le hlt
      rw [cond_t (ilt_iff.2 (by omega)), chk_true (inB_iff.2 (by omega))]
      simp only [Int.toNat_natCast]
      rw [octet_Text_eq (by omega)]
      simp only [Option.bind_some]
      rw [hd] at h4
      simp only [cat] at h4
      have e := congrArg List.length h4
      simp only [List.length_append] at e
      have ha : iadd .i64 (k : Int) 1 = ((k + 1 : Nat) : Int) := by rw [iadd64 (by unfold szs at hs; omega)]; rfl
      rw [chk_true (fits_iff.2 (by omega)), ha, hκ _ ⟨rfl, rfl, rfl, k + 1, rfl, by omega, by simpa using h4⟩ (by simp; omega)]
    · rw [cond_f (ilt_f.2 (by omega))]
      rw [List.drop_eq_nil_of_le (by omega)] at h4
      simp only [cat, List.append_nil] at h4
      rw [h4]
/-- the end of the walk: what is told there -/
def tells (a b : List ByteArray) (p q : List Int) (k : Nat) : Bool :=
  if k < b.length then (if k = a.length then true else slt (a.getD k ByteArray.empty) (b.getD k ByteArray.empty)) else false
theorem lists_l4 (kx : List ByteArray × List ByteArray × List Int × List Int × Int × Unit → Option Bool) (z z' : List Int) (hk : ∀ k : Nat, k ≤ a.length → k ≤ b.length → lists (a.drop k) (b.drop k) = lists a b → (k = a.length ∨ k = b.length ∨ a.getD k ByteArray.empty ≠ b.getD k ByteArray.empty) → kx (a, b, z, z', (k : Int), ()) = some true) :
    w02_OctetLists.l4 (a, b, z, z', 0, ()) kx = some true := by
  unfold w02_OctetLists.l4
  have key := loopN_eq (step := w02_OctetLists.s4 kx) (fun _ => some true)
    (fun x => x.1 = a ∧ x.2.1 = b ∧ x.2.2.1 = z ∧ x.2.2.2.1 = z' ∧ ∃ k : Nat, x.2.2.2.2.1 = k ∧ k ≤ a.length ∧ k ≤ b.length ∧ lists (a.drop k) (b.drop k) = lists a b) (fun x => a.length - x.2.2.2.2.1.toNat) ?_
  · exact key (w02_OctetLists.n4 (a, b, z, z', 0, ())) (a, b, z, z', 0, ()) ⟨rfl, rfl, rfl, rfl, 0, rfl, by omega, by omega, by simp⟩ (by simp only [w02_OctetLists.n4]; omega)
  · rintro ⟨a', b', t, t', i, _⟩ ⟨h0, h1, hz, hz', k, h2, h3, h4, h5⟩ κ hκ
    simp only at h0 h1 hz hz' h2 h3 h4 h5 hκ; subst h0 h1 hz hz' h2
    simp only [w02_OctetLists.s4, w02_OctetLists.s4b]
    by_cases hlt : k < a'.length
    · rw [cond_t (ilt_iff.2 (by omega))]
      by_cases hlt2 : k < b'.length
      · rw [cond_t (ilt_iff.2 (by omega)), chk_true (inB_iff.2 (by omega)), chk_true (inB_iff.2 (by omega))]
        simp only [Int.toNat_natCast]
        by_cases he : a'.getD k ByteArray.empty = b'.getD k ByteArray.empty
        · have ha : iadd .i64 (k : Int) 1 = ((k + 1 : Nat) : Int) := by rw [iadd64 (by unfold szs at hs; omega)]; rfl
          rw [cond_t (by rw [seq_bytes]; exact decide_eq_true he), ha]
          refine hκ _ ⟨rfl, rfl, rfl, rfl, k + 1, rfl, by omega, by omega, ?_⟩ (by simp; omega)
          rw [drop_consB hlt, drop_consB hlt2] at h5
          simp only [lists, if_pos he] at h5
          exact h5
        · rw [cond_f (by rw [seq_bytes]; exact decide_eq_false he)]
          exact hk k h3 h4 h5 (.inr (.inr he))
      · rw [cond_f (ilt_f.2 (by omega))]
        exact hk k h3 h4 h5 (.inr (.inl (by omega)))
    · rw [cond_f (ilt_f.2 (by omega))]
      exact hk k h3 h4 h5 (.inl (by omega))
end
end Go.Px.Pu
namespace Go.Px
open Go Go.Px.Pu
theorem lists_main {x0 x1 : List ByteArray} (hs : szs x0 + szs x1 ≤ 1048576) (f11 : Unit → Option Bool) (l0 l2 : (List ByteArray × List ByteArray × List Int × List Int × Int × Unit) → ((List ByteArray × List ByteArray × List Int × List Int × Unit) → Option Bool) → Option Bool) (l4 : (List ByteArray × List ByteArray × List Int × List Int × Int × Unit) → ((List ByteArray × List ByteArray × List Int × List Int × Int × Unit) → Option Bool) → Option Bool)
    (hf : f11 () = some true) (h0 : ∀ z kx, l0 (x0, x1, [], z, 0, ()) kx = kx (x0, x1, cat x0, z, ())) (h2 : ∀ z kx, l2 (x0, x1, z, [], 0, ()) kx = kx (x0, x1, z, cat x1, ()))
    (h4 : ∀ z z' kx, (∀ k : Nat, k ≤ x0.length → k ≤ x1.length → lists (x0.drop k) (x1.drop k) = lists x0 x1 → (k = x0.length ∨ k = x1.length ∨ x0.getD k ByteArray.empty ≠ x1.getD k ByteArray.empty) → kx (x0, x1, z, z', (k : Int), ()) = some true) → l4 (x0, x1, z, z', 0, ()) kx = some true) : w02_OctetLists.b f11 l0 l2 l4 (x0, x1, ()) = some true := by
  simp only [w02_OctetLists.b, hf, Option.bind_some, Bool.not_true, cond_false]
  cases h : igt (iadd .i64 (x0.length : Int) (x1.length : Int)) 100 with
  | true => simp only [cond_true]
  | false =>
    simp only [cond_false]
    rw [h0]
    simp only []
    rw [h2]
    simp only []
    refine h4 _ _ _ fun k h1 h2 h3 h4 => ?_
    rw [slt_str (cat_bys _) (cat_bys _), cat_less, ← h3]
    simp only []
    by_cases hk2 : k < x1.length
    · rw [cond_t (ilt_iff.2 (by omega)), drop_consB hk2]
      by_cases hk1 : k = x0.length
      · rw [cond_t (ieq_iff.2 (by omega)), List.drop_eq_nil_of_le (by omega)]; rfl
      · have hlt : k < x0.length := by omega
        rw [cond_f (ieq_f.2 (by omega)), chk_true (inB_iff.2 (by omega)), chk_true (inB_iff.2 (by omega)), drop_consB hlt]
        have hne : x0.getD k ByteArray.empty ≠ x1.getD k ByteArray.empty := by
          rcases h4 with h4 | h4 | h4
          · exact absurd h4 hk1
          · omega
          · exact h4
        simp only [lists, if_neg hne, Int.toNat_natCast]
        simp
    · rw [cond_f (ilt_f.2 (by omega)), List.drop_eq_nil_of_le (as := x1) (by omega)]
      cases x0.drop k <;> rfl
theorem pure_OctetLists (x0 : List ByteArray) (y0 : x0.length * 16 ≤ 140737488351232) (x1 : List ByteArray) (y1 : x1.length * 16 ≤ 140737488351232) (hb : x0.length + (x0.map ByteArray.size).sum + (x1.length + (x1.map ByteArray.size).sum) ≤ 1048576) : w02_OctetLists (x0, x1, ()) = some true := by
  have hs : szs x0 + szs x1 ≤ 1048576 := hb
  unfold w02_OctetLists
  exact lists_main hs _ _ _ _ w02_awake_eq (fun z kx => lists_l0 hs kx z) (fun z kx => lists_l2 hs kx z) (fun z z' kx hk => lists_l4 hs kx z z' hk)
end Go.Px
