/- The plain law of PassChecks. -/
import Derived.Test.YtgmfjbbhdnfapaaDoorPuPas
import Derived.Test.YtgmfjbbhdnfapaaDoorPx24
set_option linter.unusedVariables false
set_option linter.unusedSimpArgs false
namespace Go.Px.Pu
open Go Go.Px
theorem tail_PassChecks (f15 : (ByteArray × Int × Int × Unit) → Option ((Int × Int × List Int × Unit) × Int × Unit)) (f16 : ((List Int × List Int × Unit) × List Int × List Int × Int × Unit) → Option (List Int)) (f17 : Unit → Option (List Int × List Int × Unit)) (f18 : (Int × Unit) → Option (List Int)) (f19 : ((Int × Int × List Int × Unit) × ByteArray × Int × Unit) → Option (Bool × Bool × Unit)) (h17 : f17 () = some (gv_dfirst, gv_dparts, ()))
    (h15 : ∀ p : ByteArray, p.size ≤ 2000 → ∀ salt n : Int, f15 (p, salt, n, ()) = if 1 ≤ n ∧ n ≤ 64 then some ((salt, n, strD p salt n, ()), 0, ()) else some ((0, 0, List.replicate 32 0, ()), 1, ()))
    (h16 : ∀ k p : List Int, k.length ≤ 2000 → p.length ≤ 2000 → (∀ n ∈ k, byte n) → (∀ n ∈ p, byte n) → ∀ n : Int, 1 ≤ n → n ≤ 64 → f16 ((gv_dfirst, gv_dparts, ()), k, p, n, ()) = some (stretch k p n.toNat))
    (h18 : ∀ u : Int, f18 (u, ()) = some (digs 8 u))
    (h19 : ∀ (p : ByteArray), p.size ≤ 2000 → ∀ (salt n r : Int) (d : List Int), (∀ n ∈ d, byte n) → f19 ((salt, n, d, ()), p, r, ()) = some (if 1 ≤ n ∧ n ≤ 64 ∧ leq (strD p salt n) d = true then (true, ilt n r, ()) else (false, false, ())))
    (x0 x1 : ByteArray) (hx0 : x0.size ≤ 1000) (hx1 : x1.size ≤ 1000) (s x3 : Int) :
    ((f15 (x1, s, 3, ())).bind fun v77 =>
    (f19 ((v77.1.1, v77.1.2.1, v77.1.2.2.1, ()), x1, x3, ())).bind fun v84 =>
    (f17 (())).bind fun v87 =>
    chk (decide (x0.size < 140737488355328)) <|
    (f18 (s, ())).bind fun v92 =>
    (f16 ((v87.1, v87.2.1, ()), (bytesOf x0), v92, 3, ())).bind fun v93 =>
    (f19 ((v77.1.1, v77.1.2.1, v77.1.2.2.1, ()), x0, x3, ())).bind fun v101 =>
    cond (ieq v77.2.1 0) (
    cond v84.1 (
    cond (v84.2.1 == (igt x3 3)) (
    some (v101.1 == (leq v93 v77.1.2.2.1))) (
    some false)) (
    some false)) (
    some false)) = some true := by
  have hb : ∀ n ∈ strD x1 s 3, byte n := stretch_bytes _ _ _
  rw [h15 _ (by omega), if_pos (by omega)]
  simp only [Option.bind_some]
  rw [h19 _ (by omega) _ _ _ _ hb, if_pos ⟨by omega, by omega, leq_self _⟩, h17]
  simp only [Option.bind_some]
  rw [chk_true (by simp; omega), h18]
  simp only [Option.bind_some]
  rw [h16 _ _ (by rw [bytesOf_len]; omega) (by rw [digs8_len]; omega) (str_bs _) (digs8_byte _) _ (by omega) (by omega)]
  simp only [Option.bind_some]
  rw [h19 _ (by omega) _ _ _ _ hb]
  simp only [Option.bind_some]
  rw [cond_t (ieq_iff.2 rfl), cond_t rfl, cond_t (by
    have : ilt 3 x3 = igt x3 3 := rfl
    rw [this]; simp)]
  show some ((if _ then _ else _ : Bool × Bool × Unit).1 == leq (strD x0 s 3) (strD x1 s 3)) = some true
  cases hq : leq (strD x0 s 3) (strD x1 s 3) with
  | true => rw [if_pos ⟨by omega, by omega, rfl⟩]; rfl
  | false => rw [if_neg (by simp)]; rfl
theorem main_PassChecks (f14 f15 f16 f17 f18 f19) (h14 : f14 () = some true) (h17 : f17 () = some (gv_dfirst, gv_dparts, ()))
    (h15 : ∀ p : ByteArray, p.size ≤ 2000 → ∀ salt n : Int, f15 (p, salt, n, ()) = if 1 ≤ n ∧ n ≤ 64 then some ((salt, n, strD p salt n, ()), 0, ()) else some ((0, 0, List.replicate 32 0, ()), 1, ()))
    (h16 : ∀ k p : List Int, k.length ≤ 2000 → p.length ≤ 2000 → (∀ n ∈ k, byte n) → (∀ n ∈ p, byte n) → ∀ n : Int, 1 ≤ n → n ≤ 64 → f16 ((gv_dfirst, gv_dparts, ()), k, p, n, ()) = some (stretch k p n.toNat))
    (h18 : ∀ u : Int, f18 (u, ()) = some (digs 8 u))
    (h19 : ∀ (p : ByteArray), p.size ≤ 2000 → ∀ (salt n r : Int) (d : List Int), (∀ n ∈ d, byte n) → f19 ((salt, n, d, ()), p, r, ()) = some (if 1 ≤ n ∧ n ≤ 64 ∧ leq (strD p salt n) d = true then (true, ilt n r, ()) else (false, false, ())))
    (x0 x1 : ByteArray) (y0 : x0.size ≤ 140737488351232) (y1 : x1.size ≤ 140737488351232) (s n : Int) (d : List Int) (hd : ∀ n ∈ d, byte n) (x3 : Int) : w18_PassChecks.b f14 f15 f16 f17 f18 f19 (x0, x1, (s, n, d, ()), x3, ()) = some true := by
  have e : iadd .i64 (x0.size : Int) (x1.size : Int) = ((x0.size + x1.size : Nat) : Int) := by rw [iadd64 (by omega)]; omega
  simp only [w18_PassChecks.b, h14, Option.bind_some, Bool.not_true, cond_false, e]
  by_cases h : x0.size + x1.size ≤ 1000
  · have ht := tail_PassChecks f15 f16 f17 f18 f19 h17 h15 h16 h18 h19 x0 x1 (by omega) (by omega) s x3
    rw [cond_f (igt_f.2 (by omega)), h19 _ (by omega) _ _ _ _ hd]
    simp only [Option.bind_some]
    by_cases h1 : 1 ≤ n
    · rw [cond_t (ige_iff.2 h1)]
      by_cases h2 : n ≤ 64
      · rw [cond_t (ile_iff.2 h2)]
        have hc : leq d (strD x0 s n) = leq (strD x0 s n) d := by
          unfold leq
          rw [Bool.eq_iff_iff, beq_iff_eq, beq_iff_eq]
          exact eq_comm
        rw [h17]
        simp only [Option.bind_some]
        rw [chk_true (by simp; omega), h18]
        simp only [Option.bind_some]
        rw [h16 _ _ (by rw [bytesOf_len]; omega) (by rw [digs8_len]; omega) (str_bs _) (digs8_byte _) _ (by omega) (by omega)]
        simp only [Option.bind_some]
        rw [show stretch (bytesOf x0) (digs 8 s) n.toNat = strD x0 s n from rfl, hc]
        simp only [h17, h18, Option.bind_some] at ht
        cases hq : leq (strD x0 s n) d with
        | true =>
          rw [if_pos ⟨h1, h2, rfl⟩, cond_f (by simp), cond_t rfl, cond_f (by simp)]
          exact ht
        | false =>
          rw [if_neg (by simp), cond_f (by simp), cond_f rfl, cond_f (by simp)]
          exact ht
      · rw [cond_f (ile_f.2 (by omega)), if_neg (by omega), cond_f (by simp), cond_f (by simp)]
        exact ht
    · rw [cond_f (ige_f.2 (by omega)), if_neg (by omega), cond_f (by simp), cond_f (by simp)]
      exact ht
  · rw [cond_t (igt_iff.2 (by omega))]
theorem _root_.Go.Px.pure_PassChecks (x0 : ByteArray) (w0 : x0.size ≤ 140737488351232) (x1 : ByteArray) (w1 : x1.size ≤ 140737488351232) (x2 : spα [.one (.int .u64), .one (.int .i64), .arr (.sc (.int .u8)) 32]) (w2 : spWf [.one (.int .u64), .one (.int .i64), .arr (.sc (.int .u8)) 32] x2) (x3 : Int) (w3 : (Lit.int .i64 x3).wf = true) : w18_PassChecks (x0, x1, x2, x3, ()) = some true := by
  obtain ⟨s, n, d, u⟩ := x2
  exact main_PassChecks _ _ _ _ _ _ pas_awake make_eq (fun p hp salt n => make_pass p hp salt n) (fun k p hk hp bk bp n h1 h2 => rstretch_eq k p (by omega) (by omega) bk bp n h1 h2) r02_Uint_eq (fun p hp salt n r d hd => check_pass p hp salt n r d hd) x0 x1 w0 w1 s n d (fun y hy => byte_wf (w2.2.2.1.2 y hy)) x3
end Go.Px.Pu
