/- NamingCounts: the kinds of two texts, one behind the other, are those of both, and their characters as many as both have. -/
import Derived.Test.YtjpgncjabhiooaaDoorPuNamClasses
import Derived.Test.YtjpgncjabhiooaaDoorPuNamAwake
set_option linter.unusedVariables false
set_option linter.unusedSimpArgs false
namespace Go.Px
open Go Go.Px.Pu
theorem counts_main {a b : ByteArray} (f9 : Unit → Option Bool) (f11 : (ByteArray × Unit) → Option (Int × Int × Bool × Unit)) (hf : f9 () = some true) (hsz : a.size + b.size < 4611686018427387904)
    (ha : f11 (a, ()) = some (resC (scan a.size a 0 0#64 0))) (hb : f11 (b, ()) = some (resC (scan b.size b 0 0#64 0))) (hab : f11 (a ++ b, ()) = some (resC (scan (a ++ b).size (a ++ b) 0 0#64 0)))
    (hn : ∀ c n, scan a.size a 0 0#64 0 = some (c, n) → 0 ≤ n ∧ n ≤ 1000000000000000000) (hn2 : ∀ c n, scan b.size b 0 0#64 0 = some (c, n) → 0 ≤ n ∧ n ≤ 1000000000000000000) : w03_NamingCounts.b f9 f11 (a, b, ()) = some true := by
  simp only [w03_NamingCounts.b, hf, ha, hb, hab, Option.bind_some, Bool.not_true, cond_false]
  rw [chk_true (decide_eq_true hsz)]
  cases h1 : scan a.size a 0 0#64 0 with
  | none => simp [resC]
  | some x =>
    obtain ⟨c, n⟩ := x
    cases h2 : scan b.size b 0 0#64 0 with
    | none => simp [resC]
    | some y =>
      obtain ⟨d, m⟩ := y
      have e1 := scan_app a b a.size 0 0#64 c 0 n (by omega) (by omega) h1
      have hz : (a ++ b).size = a.size + b.size := by simp
      have e2 := scan_off a b (a ++ b).size 0 c n
      rw [Nat.add_zero] at e2
      have e3 := scan_fuel (a ++ b).size b.size b 0 c n (by omega) (by omega)
      have e4 := scan_acc b b.size 0 c 0#64 n 0
      rw [BitVec.or_zero, Int.add_zero, h2] at e4
      rw [e1, e2, e3, e4]
      obtain ⟨g1, g2⟩ := hn c n h1
      obtain ⟨g3, g4⟩ := hn2 d m h2
      simp only [resC, Option.map_some, Bool.not_true, cond_false, cond_true, ior64]
      rw [cond_t (ieq_iff.2 rfl), iadd64 (by omega), ieq_iff.2 rfl]
theorem scan_range (s : ByteArray) : (k p : Nat) → (c : BitVec 64) → (n : Int) → 0 ≤ n → n ≤ p → p ≤ s.size → ∀ d m, scan k s p c n = some (d, m) → 0 ≤ m ∧ m ≤ s.size
  | 0, p, c, n, h0, h1, h2, d, m, h => by cases h; omega
  | k + 1, p, c, n, h0, h1, h2, d, m, h => by
    simp only [scan] at h
    split at h
    · rename_i hlt
      split at h
      · cases h
      · have := dec_w s p
        exact scan_range s k _ _ _ (by omega) (by omega) (dec_le s p hlt) d m h
    · cases h; omega
theorem pure_NamingCounts (x0 : ByteArray) (w0 : x0.size ≤ 140737488351232) (x1 : ByteArray) (w1 : x1.size ≤ 140737488351232) : w03_NamingCounts (x0, x1, ()) = some true := by
  have hz : (x0 ++ x1).size = x0.size + x1.size := by simp
  show w03_NamingCounts.b w03_awake naming_Classes (x0, x1, ()) = some true
  exact counts_main _ _ w03_awake_eq (by omega) (naming_Classes_eq (by omega)) (naming_Classes_eq (by omega)) (naming_Classes_eq (by omega))
    (fun c n h => by have := scan_range x0 _ _ _ _ (by omega) (by omega) (by omega) c n h; omega) (fun c n h => by have := scan_range x1 _ _ _ _ (by omega) (by omega) (by omega) c n h; omega)
end Go.Px
