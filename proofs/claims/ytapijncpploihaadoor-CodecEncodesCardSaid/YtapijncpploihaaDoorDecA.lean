/- codec.Decode: what lies behind its walk. -/
import Derived.Test.YtapijncpploihaaDoorClo
import Derived.Deep.AppendLies
import Derived.Deep.RegionLaw
set_option linter.unusedVariables false
set_option linter.unusedSimpArgs false
namespace Go.Px.CodC
open Go Go.RowKit Go.Proofs Go.Px Go.Px.Pu
abbrev HC : Cod := .strc [.int .u8, .int .i64, .str]
/-- values that the call has made -/
def VaOwn (w : World) (n : Nat) (l : List Val) (v : Value) : Prop := ∃ ℓ, (∀ b o, ℓ = some (b, o) → b < w.heap.size) ∧ OwnRep w (n ≤ ·) HC l ℓ v
theorem va_nil (w : World) (n : Nat) : VaOwn w n [] (.slice none 0 0) := ⟨none, (fun _ _ h => by cases h), .inl ⟨rfl, rfl, rfl⟩⟩
theorem va_own {w : World} {n B : Nat} {l : List Val} {v : Value} {j : Nat} (hj : j = l.length) (h : w.ownsRow B 34 3 v j (flat HC l)) (hB : n ≤ B) : VaOwn w n l v := by
  subst hj
  rcases h.2 with ⟨rfl, h0⟩ | ⟨g, cap, cur, rfl, hb, hg, hc1, hc2, hc3, hc4⟩
  · obtain rfl := List.length_eq_zero_iff.1 h0
    exact va_nil w n
  · refine ⟨some (g, 0), (fun b o e => by cases e; exact (Array.getElem?_eq_some_iff.1 hg).1), .inr ⟨g, 0, cap, cur, 34, (0, 0), rfl, rfl, Nat.le_trans hB hb, hg, harm_zero _, hc1, by rw [hc3]; simp [HC, Cod.sz], fun i x hi => ?_⟩⟩
    rw [← hc4, List.getElem?_take] at hi
    split at hi
    · rw [Nat.zero_add]; simpa using hi
    · cases hi
/-- what Decode hands back -/
def DecPost (w : World) (y : DO) (e : Ending) (w' : World) : Prop := ∃ v, e = .returned (.tuple #[v, .int .i64 y.2.1]) ∧ Below w.heap.size w w' ∧ VaOwn w' w.heap.size y.1 v
theorem post_bad {w w' : World} {y : DO} (hy : y = ([], 3, ())) (hb : Below w.heap.size w w') : DecPost w y (.returned (.tuple #[.slice none 0 0, .int .i64 3])) w' := by
  subst hy; exact ⟨_, rfl, hb, va_nil _ _⟩
theorem post_ok {w w' : World} {y : DO} {l : List Val} {v : Value} (hy : y = (l, 0, ())) (hb : Below w.heap.size w w') (h : VaOwn w' w.heap.size l v) : DecPost w y (.returned (.tuple #[v, .int .i64 0])) w' := by
  subst hy; exact ⟨_, rfl, hb, h⟩
/-- a variable of one cell -/
structure Has1 (w : World) (b : Nat) (x : Value) (T : TypeId) : Prop where
  at' : w.heap[b]? = some (.cells #[x] T (0, 0))
theorem Has1.c {w : World} {b : Nat} {x : Value} {T : TypeId} (h : Has1 w b x T) : w.cell? ⟨b, 0, none⟩ = some x := by rw [cell_at h.at']; rfl
theorem Has1.f {w : World} {b : Nat} {x : Value} {T : TypeId} (h : Has1 w b x T) : w.frozen? ⟨b, 0, none⟩ = false := frozen_at h.at' 0
theorem Has1.lt {w : World} {b : Nat} {x : Value} {T : TypeId} (h : Has1 w b x T) : b < w.heap.size := (Array.getElem?_eq_some_iff.1 h.at').1
theorem Has1.keep {w w' : World} {b : Nat} {x : Value} {T : TypeId} (h : Has1 w b x T) (hb : Below w.heap.size w w') : Has1 w' b x T := ⟨by rw [hb.block b h.lt]; exact h.at'⟩
theorem Has1.grown {w w' : World} {b : Nat} {x : Value} {T : TypeId} (h : Has1 w b x T) {r : Option Nat} (hg : w.grownBy w' r) (hne : some b ≠ r) : Has1 w' b x T := ⟨by rw [hg.block b h.lt hne]; exact h.at'⟩
theorem Has1.set {w : World} {b : Nat} {x : Value} {T : TypeId} (h : Has1 w b x T) (y : Value) : Has1 (w.setCell ⟨b, 0, none⟩ y) b y T := ⟨by simp [World.setCell, Array.getElem?_modify, h.at']⟩
theorem Has1.other {w : World} {b : Nat} {x : Value} {T : TypeId} (h : Has1 w b x T) {c j : Nat} (hne : c ≠ b) (y : Value) : Has1 (w.setCell ⟨c, j, none⟩ y) b x T := ⟨by simp [World.setCell, Array.getElem?_modify, hne, h.at']⟩
theorem tok39 : ∃ i, TOk Tryd.prog 39 i ∧ i.agg = false := ⟨_, assoc_all (p := fun t i => TOk Tryd.prog t i) codd.tyT codd.tyT_ok 39 _ rfl, rfl⟩
theorem tok25 : ∃ i, TOk Tryd.prog 25 i ∧ i.agg = false := ⟨_, assoc_all (p := fun t i => TOk Tryd.prog t i) codd.tyT codd.tyT_ok 25 _ rfl, rfl⟩
theorem load1 {w : World} {b : Nat} {x : Value} {T : TypeId} (hT : ∃ i, TOk Tryd.prog T i ∧ i.agg = false) (h : Has1 w b x T) : (loadVar T ⟨b, 0, none⟩).run Tryd.prog w = .ok x w := by
  obtain ⟨i, ht, hs⟩ := hT
  have := load_cell (X := ⟨Tryd.prog, 0, fun _ => none, noM⟩) ht hs h.c
  simpa [Instr.loadAt, Instr.sureAddr] using this
theorem res22 {fn : Func} (hr : fn.results = #[.cell 2 39, .cell 3 25]) {tmps : Array Value} {w : World} {L E : Nat} {x y : Value} (h2 : tmps.getD 2 undef = .pointer (some ⟨L, 0, none⟩)) (h3 : tmps.getD 3 undef = .pointer (some ⟨E, 0, none⟩))
    (hL : Has1 w L x 39) (hE : Has1 w E y 25) : (results fn tmps).run Tryd.prog w = .ok (.tuple #[x, y]) w := by
  have hm : (fn.results.toList.mapM (resComp tmps)).run Tryd.prog w = .ok [x, y] w := by
    rw [hr]
    simp only [List.mapM_cons, List.mapM_nil, Sem.run_bind, Result.andThen_ok, resComp, Sem.run_pure, h2, h3, asAddr, load1 tok39 hL, load1 tok25 hE]
  exact results_run fn tmps _ hm
/-- the function's end, all well -/
theorem leave_idle {fn : Func} (hr : fn.results = #[.cell 2 39, .cell 3 25]) {tmps : Array Value} {w : World} {L E : Nat} {x y : Value} (h2 : tmps.getD 2 undef = .pointer (some ⟨L, 0, none⟩)) (h3 : tmps.getD 3 undef = .pointer (some ⟨E, 0, none⟩))
    (hL : Has1 w L x 39) (hE : Has1 w E y 25) {R : Ending → World → Prop} (hR : R (.returned (.tuple #[x, y])) w) :
    Leaves Tryd.prog fn tmps R [⟨.fn (.func 34) #[.pointer (some ⟨L, 0, none⟩), .pointer (some ⟨E, 0, none⟩)], #[]⟩] .returning w := by
  refine ⟨by simp, _, _, _, _, rfl, rfl, (clo_idle ⟨L, 0, none⟩ ⟨E, 0, none⟩ w).mono ?_⟩
  rintro e u' w' ⟨rfl, rfl, rfl⟩
  exact ⟨_, res22 hr h2 h3 hL hE, hR⟩
/-- the function's end behind a panic -/
theorem leave_dead {fn : Func} (hr : fn.results = #[.cell 2 39, .cell 3 25]) {tmps : Array Value} {w : World} {L E : Nat} {x y : Value} (h2 : tmps.getD 2 undef = .pointer (some ⟨L, 0, none⟩)) (h3 : tmps.getD 3 undef = .pointer (some ⟨E, 0, none⟩))
    (hL : Has1 w L x 39) (hE : Has1 w E y 25) (hne : L ≠ E) {R : Ending → World → Prop} (hR : ∀ w', (∀ n, n ≤ L → n ≤ E → Below n w w') → R (.returned (.tuple #[.slice none 0 0, .int .i64 3])) w') :
    Leaves Tryd.prog fn tmps R [⟨.fn (.func 34) #[.pointer (some ⟨L, 0, none⟩), .pointer (some ⟨E, 0, none⟩)], #[]⟩] (.panicking chain) w := by
  refine ⟨by simp, _, _, _, _, rfl, rfl, (clo_panicking ⟨L, 0, none⟩ ⟨E, 0, none⟩ x y w hL.c hL.f hE.c hE.f hne).mono ?_⟩
  rintro e u' w' ⟨rfl, rfl, rfl⟩
  refine ⟨_, res22 hr h2 h3 ((hL.set (.slice none 0 0)).other (Ne.symm hne) _) ((hE.other hne _).set _), hR _ fun n h1 h2 => ?_⟩
  refine ⟨rfl, rfl, rfl, by simp [World.setCell], fun k hk => ?_⟩
  have g1 : L ≠ k := by omega
  have g2 : E ≠ k := by omega
  simp [World.setCell, Array.getElem?_modify, g1, g2]
end Go.Px.CodC
