/- r05.Same: are two requests alike; how many words there may be. -/
import Derived.Test.YtpmnipaimoaagaaDoorPuLinLine
set_option linter.unusedVariables false
set_option linter.unusedSimpArgs false
namespace Go.Px
open Go Go.Px.Pu
theorem sne_iff {a b : ByteArray} : sne a b = false ↔ a = b := by
  unfold sne
  simp only [Bool.not_eq_false', beq_iff_eq]
  constructor
  · intro h
    have e : ∀ s : ByteArray, s.toList = s.data.toList := fun s => ByteArray.toList_eq s
    rw [e, e] at h
    exact ByteArray.ext (Array.toList_inj.1 h)
  · intro h; rw [h]
abbrev RQ := Int × ((Option Addr × Nat) × List ByteArray) × Unit
theorem same_go (q r : RQ) (hl : q.2.1.2.length ≤ 100000) (hlen : q.2.1.2.length = r.2.1.2.length) (kx : Unit → Option Bool) (hk : kx () = some true) : ∀ (m k n : Nat), q.2.1.2.length - k ≤ m → m < n → (∀ j, j < k → q.2.1.2.getD j ByteArray.empty = r.2.1.2.getD j ByteArray.empty) → k ≤ q.2.1.2.length →
    loopN n (r05_Same.s0 kx) (q, r, (k : Int), ()) = some (decide (q.2.1.2 = r.2.1.2))
  | m, k, 0, _, hn, _, _ => absurd hn (Nat.not_lt_zero _)
  | m, k, n + 1, hm, hn, he, hkl => by
    simp only [loopN]
    show r05_Same.s0b kx _ _ = _
    simp only [r05_Same.s0b, Int.toNat_natCast]
    by_cases hk' : k < q.2.1.2.length
    · have hi1 : iadd .i64 (k : Int) 1 = ((k + 1 : Nat) : Int) := by rw [iadd64 (by omega)]; rfl
      rw [cond_t (ilt_iff.2 (by omega)), chk_true (by simp [inB]; omega), chk_true (by simp [inB]; omega), hi1]
      by_cases heq : q.2.1.2.getD k ByteArray.empty = r.2.1.2.getD k ByteArray.empty
      · rw [cond_f (sne_iff.2 heq)]
        cases m with
        | zero => omega
        | succ m =>
          refine same_go q r hl hlen kx hk m (k + 1) n (by omega) (by omega) (fun j hj => ?_) (by omega)
          by_cases hjk : j = k
          · rw [hjk]; exact heq
          · exact he j (by omega)
      · have hs : sne (q.2.1.2.getD k ByteArray.empty) (r.2.1.2.getD k ByteArray.empty) = true := by
          cases h : sne (q.2.1.2.getD k ByteArray.empty) (r.2.1.2.getD k ByteArray.empty) with
          | true => rfl
          | false => exact absurd (sne_iff.1 h) heq
        rw [cond_t hs, decide_eq_false]
        intro h; exact heq (by rw [h])
    · have hkk : k = q.2.1.2.length := by omega
      rw [cond_f (ilt_f.2 (by omega)), hk, decide_eq_true]
      apply List.ext_getElem? 
      intro j
      by_cases hj : j < q.2.1.2.length
      · have := he j (by omega)
        rw [List.getD_eq_getElem?_getD, List.getD_eq_getElem?_getD, List.getElem?_eq_getElem hj, List.getElem?_eq_getElem (by omega)] at this
        rw [List.getElem?_eq_getElem hj, List.getElem?_eq_getElem (by omega)]
        simpa using this
      · rw [List.getElem?_eq_none (by omega), List.getElem?_eq_none (by omega)]
theorem same_main (q r : RQ) (hl : q.2.1.2.length ≤ 100000) (l0 : (RQ × RQ × Int × Unit) → (Unit → Option Bool) → Option Bool) (h : q.2.1.2.length = r.2.1.2.length → ∀ kx, kx () = some true → l0 (q, r, 0, ()) kx = some (decide (q.2.1.2 = r.2.1.2))) :
    r05_Same.b l0 (q, r, ()) = some (decide (q.1 = r.1 ∧ q.2.1.2 = r.2.1.2)) := by
  simp only [r05_Same.b]
  by_cases h1 : q.1 = r.1
  · rw [cond_f (ine_f.2 h1)]
    by_cases h2 : q.2.1.2.length = r.2.1.2.length
    · rw [cond_f (ine_f.2 (by omega)), show l0 ((q.1, (q.2.1.1, q.2.1.2), ()), (r.1, (r.2.1.1, r.2.1.2), ()), 0, ()) = l0 (q, r, 0, ()) from rfl, h h2 _ rfl]
      congr 1
      exact decide_eq_decide.2 ⟨fun h => ⟨h1, h⟩, fun h => h.2⟩
    · rw [cond_t (ine_iff.2 (by omega)), decide_eq_false]
      rintro ⟨_, h3⟩; exact h2 (by rw [h3])
  · rw [cond_t (ine_iff.2 h1), decide_eq_false]
    rintro ⟨h3, _⟩; exact h1 h3
theorem r05_Same_eq (q r : RQ) (hl : q.2.1.2.length ≤ 100000) : r05_Same (q, r, ()) = some (decide (q.1 = r.1 ∧ q.2.1.2 = r.2.1.2)) :=
  same_main q r hl r05_Same.l0 fun h2 kx hk => by
    unfold r05_Same.l0
    exact same_go q r hl h2 kx hk q.2.1.2.length 0 (r05_Same.n0 (q, r, 0, ())) (by omega) (show q.2.1.2.length < (0 : Int).toNat + 1048576 by omega) (fun j hj => absurd hj (Nat.not_lt_zero _)) (Nat.zero_le _)
end Go.Px
