/- line.Parse: what it hands back. -/
import Derived.Test.YtpmnipaimoaagaaDoorPar2
set_option linter.unusedVariables false
set_option linter.unusedSimpArgs false
namespace Go.Px.LinC
open Go Go.RowKit Go.Proofs Go.Px
/-- from a form on, the first whose word it is -/
def findF (x : ByteArray) : Nat → Nat → Option Nat
  | 0, _ => none
  | n + 1, k => if (formAt k).1.toList == x.toList then some k else findF x n (k + 1)
/-- what is said of words -/
def lParse (y : List ByteArray × Int × Int × Unit) : Int × List ByteArray × Int × Int :=
  if y.2.2.1 ≠ 0 then (0, [], y.2.1, y.2.2.1)
  else match y.1 with
    | [] => (0, [], 0, 4)
    | x :: l => match findF x 11 0 with
      | none => (0, [], 0, 6)
      | some k => if (l.length : Int) ≠ (formAt k).2.2 then (0, [], 0, 1) else ((formAt k).2.1, l, 0, 0)
set_option maxHeartbeats 8000000 in
set_option maxRecDepth 1000000 in
theorem lparse (s : ByteArray) (y : List ByteArray × Int × Int × Unit) (hy : line_Words (s, ()) = some y) (hyl : y.1.length ≤ 1000) (w : World) (hG : GW w) (hF : Forms w) :
    Calls Tryd.prog 10 #[.string s] w fun e w' => Req w w' (lParse y).1 (lParse y).2.1 (lParse y).2.2.1 (lParse y).2.2.2 e := by
  go_enter Tryd.func10, Tryd.ntmps10
  have hG1 := gw_keep hG (alloc_below w (.cells #[.int .u8 0, .slice none 0 0] 25))
  go_wp2_with (go_at_call 13; refine (words_call hy _ hG1).mono ?_)
  rintro e w2 ⟨v, rfl, hv, hb⟩
  obtain ⟨l, p, er, _⟩ := y
  simp only at hv hyl
  have hn1 : (w.alloc (.cells #[.int .u8 0, .slice none 0 0] 25)).heap.size = w.heap.size + 1 := by simp
  rw [hn1] at hv
  obtain ⟨a, cap, rfl, hcap, hcell⟩ := hv.sl.open
  have hsz : w.heap.size < w2.heap.size := by have := hb.size; omega
  have hlow : Below w.heap.size w w2 := (alloc_below w _).trans (hb.mono (by omega))
  have hcb : w2.heap[w.heap.size]? = some (.cells #[.int .u8 0, .slice none 0 0] 25 (0, 0)) := by
    rw [hb.block w.heap.size (by simp)]
    show (w.heap.push _)[w.heap.size]? = _
    simp
  have c0 : w2.cell? ⟨w.heap.size, 0, none⟩ = some (.int .u8 0) := by rw [Lib.cell_of_heap hcb]; rfl
  have c1 : w2.cell? ⟨w.heap.size, 1, none⟩ = some (.slice none 0 0) := by rw [Lib.cell_of_heap hcb]; rfl
  have f0 : w2.frozen? ⟨w.heap.size, 0, none⟩ = false := Lib.frozen_of_heap hcb 0
  have f1 : w2.frozen? ⟨w.heap.size, 1, none⟩ = false := Lib.frozen_of_heap hcb 1
  have hlow2 : ∀ (w3 : World) (x y : Value), Below w.heap.size w w3 → Below w.heap.size w ((w3.setCell ⟨w.heap.size, 0, none⟩ x).setCell ⟨w.heap.size, 1, none⟩ y) := fun w3 x y h => low_set (low_set h (Nat.le_refl _) x) (Nat.le_refl _) y
  have hend : ∀ (w3 : World) (tmps : Array Value) (vv : Int) (ll : List ByteArray) (sa : Option Addr) (sc : Nat) (pp ee : Int), w3.heap[w.heap.size]? = some (.cells #[.int .u8 0, .slice none 0 0] 25 (0, 0)) → Below w.heap.size w w3 → StrFrom w3 (w.heap.size + 1) ll (.slice sa ll.length sc) →
      tmps.getD 2 undef = .pointer (some ⟨w.heap.size, 0, none⟩) → tmps.getD 3 undef = .int .i64 pp → tmps.getD 4 undef = .int .i64 ee → lParse (l, p, er, ()) = (vv, ll, pp, ee) →
      bodyPost Tryd.prog Tryd.f10 (fun e w' => Req w w' (lParse (l, p, er, ())).1 (lParse (l, p, er, ())).2.1 (lParse (l, p, er, ())).2.2.1 (lParse (l, p, er, ())).2.2.2 e) .ret { tmps := tmps, defers := [] } ((w3.setCell ⟨w.heap.size, 0, none⟩ (.int .u8 vv)).setCell ⟨w.heap.size, 1, none⟩ (.slice sa ll.length sc)) := fun w3 tmps vv ll sa sc pp ee h1 h2 h3 h4 h5 h6 h7 => by
    rw [h7]
    refine fin_req (by kernel_rfl) (set2 h1) h4 ?_
    rw [h5, h6]
    exact ⟨⟨sa, sc, rfl, ((h3.set (by simp) _).set (by simp) _).sl⟩, hlow2 _ _ _ h2⟩
  by_cases he : er = 0
  · subst he
    cases l with
    | nil =>
      go_wp2
      exact hend w2 _ 0 [] none 0 0 4 hcb hlow ⟨none, 0, rfl, Nat.le_refl _, .inl rfl⟩ rfl rfl rfl rfl
    | cons x l =>
      obtain ⟨b, o, rfl, hbl, hcs⟩ := hcell (by simp)
      have hc0 := hcs 0 (by simp)
      simp only [Nat.add_zero, List.getD_cons_zero] at hc0
      have hF2 : Forms w2 := (hF.keep (alloc_below w _)).keep hb
      go_wp2_with (refine wpList_load47 rfl rfl hF2 ?_)
      go_loopw [26] (fun i wr => ∃ k : Nat, k ≤ 11 ∧ i = .int .i64 k ∧ Below w2.heap.size w2 wr ∧ findF x 11 0 = findF x (11 - k) k) (fun i _ => 11 - (intOf i).toNat)
      case atStart => exact ⟨0, by omega, rfl, Below.refl _ _, rfl⟩
      case round =>
        obtain ⟨k, hk, rfl, hlr, hfk⟩ := hrel
        by_cases hk11 : k < 11
        · go_wp2_with (refine wpList_index47 rfl _ _ rfl rfl k rfl hk11 ?_)
          refine abs_world (fun W => Below wr.heap.size wr W ∧ W.heap[wr.heap.size]? = some (.cells #[.string (formAt k).1, .int .u8 (formAt k).2.1, .int .i64 (formAt k).2.2] 46 (0, 0))) ⟨alloc_below wr _, by show (wr.heap.push _)[wr.heap.size]? = _; simp⟩ ?_
          rintro W3 ⟨hb3, hc3⟩
          have hws : w2.heap.size ≤ wr.heap.size := hlr.size
          have hl3 : Below w2.heap.size w2 W3 := hlr.trans (hb3.mono hws)
          have e0 : W3.cell? ⟨wr.heap.size, 0, none⟩ = some (.string (formAt k).1) := by rw [Lib.cell_of_heap hc3]; rfl
          have e1 : W3.cell? ⟨wr.heap.size, 1, none⟩ = some (.int .u8 (formAt k).2.1) := by rw [Lib.cell_of_heap hc3]; rfl
          have e2 : W3.cell? ⟨wr.heap.size, 2, none⟩ = some (.int .i64 (formAt k).2.2) := by rw [Lib.cell_of_heap hc3]; rfl
          have hx3 : W3.cell? ⟨b, o, none⟩ = some (.string x) := by rw [← hc0]; exact hl3.cell (by exact hbl)
          have hn11 : 11 - k = (11 - (k + 1)) + 1 := by omega
          rw [hn11] at hfk
          have hstep : findF x (11 - (k + 1) + 1) k = if (formAt k).1.toList == x.toList then some k else findF x (11 - (k + 1)) (k + 1) := rfl
          rw [hstep] at hfk
          have hB3 : ∀ n, Below w2.heap.size w2 (W3.drewN n) := fun n => hl3.trans ⟨rfl, rfl, rfl, Nat.le_refl _, fun _ _ => rfl⟩
          have hcb3 : W3.heap[w.heap.size]? = some (.cells #[.int .u8 0, .slice none 0 0] 25 (0, 0)) := by rw [hl3.block _ hsz]; exact hcb
          have d0 : W3.cell? ⟨w.heap.size, 0, none⟩ = some (.int .u8 0) := by rw [Lib.cell_of_heap hcb3]; rfl
          have d1 : W3.cell? ⟨w.heap.size, 1, none⟩ = some (.slice none 0 0) := by rw [Lib.cell_of_heap hcb3]; rfl
          have g0 : W3.frozen? ⟨w.heap.size, 0, none⟩ = false := Lib.frozen_of_heap hcb3 0
          have g1 : W3.frozen? ⟨w.heap.size, 1, none⟩ = false := Lib.frozen_of_heap hcb3 1
          have hlow3 : ∀ n, Below w.heap.size w (W3.drewN n) := fun n => hlow.trans ((hB3 n).mono (by omega))
          simp only [List.length_cons] at hyl hcap
          cases hm : (formAt k).1.toList == x.toList with
          | false =>
            rw [hm] at hfk
            go_quiet (fail)
            go_wp2
            go_roundw
            case rel => exact ⟨k + 1, by omega, by simp, hB3 _, by rw [hfk]; simp⟩
            case measure => simp [intOf]; omega
          | true =>
            rw [hm] at hfk
            simp only [if_true] at hfk
            by_cases h1 : (l.length : Int) = (formAt k).2.2
            · have h1' : ((l.length : Int) != (formAt k).2.2) = false := by simpa using h1
              have hv3 := (ro_tail hv).frame (w' := W3) (fun b hb => hl3.block b hb.2)
              have hsz3 : w2.heap.size ≤ W3.heap.size := hl3.size
              have hv3 := RoRep.mono (B' := fun b => w.heap.size + 1 ≤ b ∧ b < W3.heap.size) hv3 (fun b hb => ⟨hb.1, by omega⟩)
              have hfin : lParse (x :: l, p, 0, ()) = ((formAt k).2.1, l, 0, 0) := by simp [lParse, hfk, h1]
              go_quiet (fail)
              go_wp2
              by_cases hc1 : cap = 1
              · subst hc1
                have hl0 : l = [] := List.length_eq_zero_iff.1 (by omega)
                subst hl0
                go_region
                go_wp2
                exact hend (W3.drewN (nq + 1)) _ (formAt k).2.1 [] _ _ 0 0 hcb3 (hlow3 _) ⟨_, _, rfl, Nat.zero_le _, .inl rfl⟩ rfl rfl rfl hfin
              · have hc2 : cap - 1 ≠ 0 := by omega
                go_region
                go_wp2
                exact hend (W3.drewN (nq + 1)) _ (formAt k).2.1 l _ _ 0 0 hcb3 (hlow3 _) hv3 rfl rfl rfl hfin
            · have h1' : ((l.length : Int) != (formAt k).2.2) = true := by simpa using h1
              go_quiet (fail)
              go_wp2
              exact hend (W3.drewN nq) _ 0 [] none 0 0 1 hcb3 (hlow3 _) ⟨none, 0, rfl, Nat.le_refl _, .inl rfl⟩ rfl rfl rfl (by simp [lParse, hfk, h1])
        · obtain rfl : k = 11 := by omega
          have hfn : findF x 11 0 = none := hfk
          have hcbr : wr.heap[w.heap.size]? = some (.cells #[.int .u8 0, .slice none 0 0] 25 (0, 0)) := by rw [hlr.block _ hsz]; exact hcb
          have d0 : wr.cell? ⟨w.heap.size, 0, none⟩ = some (.int .u8 0) := by rw [Lib.cell_of_heap hcbr]; rfl
          have d1 : wr.cell? ⟨w.heap.size, 1, none⟩ = some (.slice none 0 0) := by rw [Lib.cell_of_heap hcbr]; rfl
          have g0 : wr.frozen? ⟨w.heap.size, 0, none⟩ = false := Lib.frozen_of_heap hcbr 0
          have g1 : wr.frozen? ⟨w.heap.size, 1, none⟩ = false := Lib.frozen_of_heap hcbr 1
          go_wp2
          exact hend wr _ 0 [] none 0 0 6 hcbr (hlow.trans (hlr.mono (by omega))) ⟨none, 0, rfl, Nat.le_refl _, .inl rfl⟩ rfl rfl rfl (by simp [lParse, hfn])
  · have he' : (er != 0) = true := by simpa using he
    go_wp2
    exact hend w2 _ 0 [] none 0 p er hcb hlow ⟨none, 0, rfl, Nat.le_refl _, .inl rfl⟩ rfl rfl rfl (by simp [lParse, he])
end Go.Px.LinC
