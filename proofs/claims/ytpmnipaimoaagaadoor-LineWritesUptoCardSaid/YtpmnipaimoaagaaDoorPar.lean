/- r05.Parse and line.Parse: what they hand back. -/
import Derived.Test.YtpmnipaimoaagaaDoorLinC
set_option linter.unusedVariables false
set_option linter.unusedSimpArgs false
namespace Go.Px.LinC
open Go Go.RowKit Go.Proofs Go.Px

theorem alloc_below (w : World) (o : Obj) : Below w.heap.size w (w.alloc o) := (Below.refl w.heap.size w).alloc (Nat.le_refl _) o
theorem low_set {n : Nat} {w w2 : World} (h : Below n w w2) {p : Addr} (hp : n ≤ p.block) (v : Value) : Below n w (w2.setCell p v) := by
  refine ⟨h.os, h.tape, h.output, by simpa [World.setCell] using h.size, fun k hk => ?_⟩
  rw [← h.block k hk]
  have : p.block ≠ k := by omega
  simp [World.setCell, Array.getElem?_modify, this]
theorem set2 {w2 : World} {B : Nat} {a b x y : Value} (h : w2.heap[B]? = some (.cells #[a, b] 25 (0, 0))) : ((w2.setCell ⟨B, 0, none⟩ x).setCell ⟨B, 1, none⟩ y).heap[B]? = some (.cells #[x, y] 25 (0, 0)) := by
  simp [World.setCell, Array.getElem?_modify, h]
theorem tok25 : ∃ i, TOk Tryd.prog 25 i ∧ i.agg = true ∧ i.size = 2 := ⟨_, assoc_all (p := fun t i => TOk Tryd.prog t i) linr.tyT linr.tyT_ok 25 _ rfl, rfl, rfl⟩
/-- the results, the first out of its variable -/
theorem fin_req {fn : Func} (hr : fn.results = #[.cell 2 25, .tmp 3, .tmp 4]) {w' : World} {B : Nat} {x0 x1 : Value} (hb : w'.heap[B]? = some (.cells #[x0, x1] 25 (0, 0))) {tmps : Array Value} (h2 : tmps.getD 2 undef = .pointer (some ⟨B, 0, none⟩))
    {R : Ending → World → Prop} (hR : R (.returned (.tuple #[.agg #[x0, x1], tmps.getD 3 undef, tmps.getD 4 undef])) w') : bodyPost Tryd.prog fn R .ret { tmps := tmps, defers := [] } w' := by
  obtain ⟨i, ht, ha, hs⟩ := tok25
  have hl := load_row (X := ⟨Tryd.prog, 0, fun _ => none, noM⟩) (w := w') (xs := [x0, x1]) ht ha hb (fun j x hj => by rw [Nat.zero_add, ← hj]; simp) (by rw [hs]; rfl)
  have hlv : (loadVar 25 ⟨B, 0, none⟩).run Tryd.prog w' = .ok (.agg #[x0, x1]) w' := by simpa [Instr.loadAt, Instr.sureAddr] using hl
  have hm : (fn.results.toList.mapM (resComp tmps)).run Tryd.prog w' = .ok [.agg #[x0, x1], tmps.getD 3 undef, tmps.getD 4 undef] w' := by
    rw [hr]
    simp only [List.mapM_cons, List.mapM_nil, Sem.run_bind, Result.andThen_ok, resComp, Sem.run_pure, h2, asAddr, hlv]
  refine ⟨rfl, _, results_run fn tmps _ hm, ?_⟩
  exact hR
/-- a request in its variable, handed back -/
structure Req (w w' : World) (verb : Int) (args : List ByteArray) (at' er : Int) (e : Ending) : Prop where
  out : ∃ a cap, e = .returned (.tuple #[.agg #[.int .u8 verb, .slice a args.length cap], .int .i64 at', .int .i64 er]) ∧ StrSl w' args (.slice a args.length cap)
  low : Below w.heap.size w w'
/-- the reference: what is said of words -/
def rParse (y : List ByteArray × Int × Int × Unit) (vb : ByteArray → Int × Int) : Int × List ByteArray × Int × Int :=
  if y.2.2.1 ≠ 0 then (0, [], y.2.1, y.2.2.1)
  else match y.1 with
    | [] => (0, [], 0, 4)
    | x :: l => if (vb x).1 = 0 then (0, [], 0, 6) else if (l.length : Int) ≠ (vb x).2 then (0, [], 0, 1) else ((vb x).1, l, 0, 0)
set_option maxHeartbeats 4000000 in
set_option maxRecDepth 1000000 in
theorem rparse (s : ByteArray) (y : List ByteArray × Int × Int × Unit) (hy : r05_Words (s, ()) = some y) (hyl : y.1.length ≤ 1000) (vb : ByteArray → Int × Int) (hvb : ∀ x, r05_verb (x, ()) = some ((vb x).1, (vb x).2, ())) (w : World) (hG : GW w) :
    Calls Tryd.prog 15 #[.string s] w fun e w' => Req w w' (rParse y vb).1 (rParse y vb).2.1 (rParse y vb).2.2.1 (rParse y vb).2.2.2 e := by
  go_enter Tryd.func15, Tryd.ntmps15
  have hG1 := gw_keep hG (alloc_below w (.cells #[.int .u8 0, .slice none 0 0] 25))
  go_wp2_with (go_at_call 14; refine (rwords_call hy _ hG1).mono ?_)
  rintro e w2 ⟨v, rfl, hv, hb⟩
  obtain ⟨l, p, er, _⟩ := y
  simp only at hv hyl
  have hn1 : (w.alloc (.cells #[.int .u8 0, .slice none 0 0] 25)).heap.size = w.heap.size + 1 := by simp
  rw [hn1] at hv
  obtain ⟨a, cap, rfl, hcap, hcell⟩ := hv.sl.open
  have hsz : w.heap.size < w2.heap.size := by have := hb.size; omega
  have hlow : Below w.heap.size w w2 := (alloc_below w _).trans (hb.mono (by omega))
  have hcb : w2.heap[w.heap.size]? = some (.cells #[.int .u8 0, .slice none 0 0] 25 (0, 0)) := by
    rw [hb.block w.heap.size (by simp)]
    show (w.heap.push _)[w.heap.size]? = _
    simp
  have c0 : w2.cell? ⟨w.heap.size, 0, none⟩ = some (.int .u8 0) := by rw [Lib.cell_of_heap hcb]; rfl
  have c1 : w2.cell? ⟨w.heap.size, 1, none⟩ = some (.slice none 0 0) := by rw [Lib.cell_of_heap hcb]; rfl
  have f0 : w2.frozen? ⟨w.heap.size, 0, none⟩ = false := Lib.frozen_of_heap hcb 0
  have f1 : w2.frozen? ⟨w.heap.size, 1, none⟩ = false := Lib.frozen_of_heap hcb 1
  have hlow2 : ∀ (w3 : World) (x y : Value), Below w.heap.size w w3 → Below w.heap.size w ((w3.setCell ⟨w.heap.size, 0, none⟩ x).setCell ⟨w.heap.size, 1, none⟩ y) := fun w3 x y h => low_set (low_set h (Nat.le_refl _) x) (Nat.le_refl _) y
  have hend : ∀ (w3 : World) (tmps : Array Value) (vv : Int) (ll : List ByteArray) (sa : Option Addr) (sc : Nat) (pp ee : Int), w3.heap[w.heap.size]? = some (.cells #[.int .u8 0, .slice none 0 0] 25 (0, 0)) → Below w.heap.size w w3 → StrFrom w3 (w.heap.size + 1) ll (.slice sa ll.length sc) →
      tmps.getD 2 undef = .pointer (some ⟨w.heap.size, 0, none⟩) → tmps.getD 3 undef = .int .i64 pp → tmps.getD 4 undef = .int .i64 ee → rParse (l, p, er, ()) vb = (vv, ll, pp, ee) →
      bodyPost Tryd.prog Tryd.f15 (fun e w' => Req w w' (rParse (l, p, er, ()) vb).1 (rParse (l, p, er, ()) vb).2.1 (rParse (l, p, er, ()) vb).2.2.1 (rParse (l, p, er, ()) vb).2.2.2 e) .ret { tmps := tmps, defers := [] } ((w3.setCell ⟨w.heap.size, 0, none⟩ (.int .u8 vv)).setCell ⟨w.heap.size, 1, none⟩ (.slice sa ll.length sc)) := fun w3 tmps vv ll sa sc pp ee h1 h2 h3 h4 h5 h6 h7 => by
    rw [h7]
    refine fin_req (by kernel_rfl) (set2 h1) h4 ?_
    rw [h5, h6]
    exact ⟨⟨sa, sc, rfl, ((h3.set (by simp) _).set (by simp) _).sl⟩, hlow2 _ _ _ h2⟩
  by_cases he : er = 0
  · subst he
    cases l with
    | nil =>
      go_wp2
      exact hend w2 _ 0 [] none 0 0 4 hcb hlow ⟨none, 0, rfl, Nat.le_refl _, .inl rfl⟩ rfl rfl rfl rfl
    | cons x l =>
      obtain ⟨b, o, rfl, hbl, hcs⟩ := hcell (by simp)
      have hc0 := hcs 0 (by simp)
      simp only [Nat.add_zero, List.getD_cons_zero] at hc0
      have hG2 : GW w2 := gw_keep hG1 hb
      go_wp2_with (go_at_call 24; refine (verb_call (hvb x) _ hG2).mono ?_)
      intro e w3 he b3
      subst he
      have hlow3 := hlow.trans (b3.mono (by omega))
      have hcb3 : w3.heap[w.heap.size]? = some (.cells #[.int .u8 0, .slice none 0 0] 25 (0, 0)) := by rw [b3.block _ hsz]; exact hcb
      have d0 : w3.cell? ⟨w.heap.size, 0, none⟩ = some (.int .u8 0) := by rw [Lib.cell_of_heap hcb3]; rfl
      have d1 : w3.cell? ⟨w.heap.size, 1, none⟩ = some (.slice none 0 0) := by rw [Lib.cell_of_heap hcb3]; rfl
      have g0 : w3.frozen? ⟨w.heap.size, 0, none⟩ = false := Lib.frozen_of_heap hcb3 0
      have g1 : w3.frozen? ⟨w.heap.size, 1, none⟩ = false := Lib.frozen_of_heap hcb3 1
      by_cases h0 : (vb x).1 = 0
      · go_wp2
        exact hend w3 _ 0 [] none 0 0 6 hcb3 hlow3 ⟨none, 0, rfl, Nat.le_refl _, .inl rfl⟩ rfl rfl rfl (by simp [rParse, h0])
      · have h0' : ((vb x).1 == 0) = false := by simpa using h0
        simp only [List.length_cons] at hyl
        by_cases h1 : (l.length : Int) = (vb x).2
        · have hv3 := ro_tail (hv.keep b3)
          have h1' : ((l.length : Int) != (vb x).2) = false := by simpa using h1
          by_cases hc1 : cap = 1
          · subst hc1
            have hl0 : l = [] := List.length_eq_zero_iff.1 (by simp only [List.length_cons] at hcap; omega)
            subst hl0
            have h1 : (0 : Int) = (vb x).2 := by simpa using h1
            have h1'' : ((0 : Int) != (vb x).2) = false := by simpa using h1
            go_wp2
            exact hend w3 _ (vb x).1 [] _ _ 0 0 hcb3 hlow3 ⟨_, _, rfl, Nat.zero_le _, .inl rfl⟩ rfl rfl rfl (by simp [rParse, h0, ← h1])
          · have hc2 : cap - 1 ≠ 0 := by simp only [List.length_cons] at hcap; omega
            go_wp2
            exact hend w3 _ (vb x).1 l _ _ 0 0 hcb3 hlow3 hv3 rfl rfl rfl (by simp [rParse, h0, h1])
        · have h1' : ((l.length : Int) != (vb x).2) = true := by simpa using h1
          go_wp2
          exact hend w3 _ 0 [] none 0 0 1 hcb3 hlow3 ⟨none, 0, rfl, Nat.le_refl _, .inl rfl⟩ rfl rfl rfl (by simp [rParse, h0, h1])
  · have he' : (er != 0) = true := by simpa using he
    go_wp2
    exact hend w2 _ 0 [] none 0 p er hcb hlow ⟨none, 0, rfl, Nat.le_refl _, .inl rfl⟩ rfl rfl rfl (by simp [rParse, he])
end Go.Px.LinC
