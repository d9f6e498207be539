/- (*reader).next: what it hands back. -/
import Derived.Test.YtapijncpploihaaDoorCodC
import Derived.WalkSmall
set_option linter.unusedVariables false
set_option linter.unusedSimpArgs false
namespace Go.Px.CodC
open Go Go.RowKit Go.Proofs Go.Px
theorem drew_grown (w : World) (n : Nat) (row : Option Nat) : w.grownBy (w.drewN n) row := ⟨rfl, rfl, rfl, Nat.le_refl _, fun _ _ _ => rfl⟩
theorem grown_trans {w w1 w2 : World} {row : Option Nat} (h1 : w.grownBy w1 row) (h2 : w1.grownBy w2 row) : w.grownBy w2 row :=
  ⟨h2.os.trans h1.os, h2.tape.trans h1.tape, h2.output.trans h1.output, Nat.le_trans h1.size h2.size, fun k hk hne => (h2.block k (Nat.lt_of_lt_of_le hk h1.size) hne).trans (h1.block k hk hne)⟩
theorem Rd.keep {w w' : World} {B : Nat} {a : Option Addr} {len cap k : Nat} (h : Rd w B a len cap k) (hb : w'.heap[B]? = w.heap[B]?) : Rd w' B a len cap k := ⟨by rw [hb]; exact h.at'⟩
set_option maxHeartbeats 1000000 in
set_option maxRecDepth 1000000 in
theorem next_dies (w : World) (B : Nat) (a : Option Addr) (len cap k n : Nat) (h : Rd w B a len cap k) (hk : k ≤ len) (hlen : len ≤ 140737488351232) (hn : n ≤ 255) (hd : len < k + n) :
    Calls Tryd.prog 35 #[.pointer (some ⟨B, 0, none⟩), .int .i64 n] w fun e w' => e = .panicked chain ∧ Below w.heap.size w w' := by
  go_enter Tryd.func35, Tryd.ntmps35
  have c0 := h.c0
  have c1 := h.c1
  have f1 := h.f1
  have hlt := h.lt
  have e1 : (len : Int) - (k : Int) < (n : Int) := by omega
  go_wp2
  go_quiet (fail)
  go_wp2
  exact ⟨rfl, rfl, rfl, rfl, rfl, Nat.le_refl _, fun _ _ => rfl⟩
set_option maxHeartbeats 1000000 in
set_option maxRecDepth 1000000 in
theorem next_ok (w : World) (B : Nat) (b o len cap k n : Nat) (h : Rd w B (some ⟨b, o, none⟩) len cap k) (hk : k + n ≤ len) (hlen : len ≤ 140737488351232) (hn : n ≤ 255) (hc : len ≤ cap) (P : List Int) (hP : P.length = len) (hB : BySl w B P (.slice (some ⟨b, o, none⟩) len cap)) :
    Calls Tryd.prog 35 #[.pointer (some ⟨B, 0, none⟩), .int .i64 n] w fun e w' => (∃ v, e = .returned v ∧ BySl w' B ((P.drop k).take n) v) ∧ w.grownBy w' (some B) ∧ Rd w' B (some ⟨b, o, none⟩) len cap (k + n) := by
  go_enter Tryd.func35, Tryd.ntmps35
  have c0 := h.c0
  have c1 := h.c1
  have f1 := h.f1
  have hlt := h.lt
  have e1 : ¬ (len : Int) - (k : Int) < (n : Int) := by omega
  go_wp2
  go_quiet (fail)
  go_wp2
  refine abs_world (fun W => w.grownBy W (some B) ∧ Rd W B (some ⟨b, o, none⟩) len cap (k + n)) ⟨?_, ?_⟩ ?_
  · exact grown_trans (drew_grown w _ _) (grown_set _ _ _ _)
  · exact Rd.set (w := w.drewN nq) ⟨h.at'⟩ (k + n)
  rintro W ⟨hg, hR⟩
  clear c0 c1 f1
  have c0 := hR.c0
  have c1 := hR.c1
  have ek : ((k + n : Nat) : Int) - (n : Int) = (k : Int) := by omega
  have hsz : B < W.heap.size := hR.lt
  have hBW : BySl W B P (.slice (some ⟨b, o, none⟩) len cap) := RoRep.frame hB fun b' hb' => hg.block b' (Nat.lt_trans hb' hlt) (fun e => by cases e; exact absurd hb' (Nat.lt_irrefl _))
  subst hP
  by_cases hck : cap = k
  · subst hck
    have h2 : ∀ m, m = n → BySl W B ((P.drop cap).take n) (.slice (some ⟨b, o, none⟩) m 0) := by rintro m rfl; exact hBW.sub cap m hk o 0 (by omega) (by omega)
    go_quiet (fail)
    go_wp2
    go_ret
    exact ⟨⟨_, rfl, h2 _ (by omega)⟩, grown_trans hg (drew_grown _ _ _), ⟨hR.at'⟩⟩
  · have h2 : ∀ m, m = n → BySl W B ((P.drop k).take n) (.slice (some ⟨b, o + k, none⟩) m (cap - k)) := by rintro m rfl; exact hBW.sub k m hk (o + k) (cap - k) (fun _ => rfl) (by omega)
    go_quiet (fail)
    go_wp2
    go_ret
    exact ⟨⟨_, rfl, h2 _ (by omega)⟩, grown_trans hg (drew_grown _ _ _), ⟨hR.at'⟩⟩
end Go.Px.CodC
