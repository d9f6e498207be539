/- LineBack: what the law hands back. -/
import Derived.Test.YtpmnipaimoaagaaDoorPar3
import Derived.Test.YtpmnipaimoaagaaDoorWri
set_option linter.unusedVariables false
set_option linter.unusedSimpArgs false
namespace Go.Px.LinC
open Go Go.RowKit Go.Proofs Go.Px
/-- a variable of ours that holds a request -/
structure Has25 (w : World) (b : Nat) (v : Int) (a : Option Addr) (n cap : Nat) : Prop where
  c0 : w.cell? ⟨b, 0, none⟩ = some (.int .u8 v)
  c1 : w.cell? ⟨b, 1, none⟩ = some (.slice a n cap)
  lt : b < w.heap.size
theorem Has25.new (w : World) (v : Int) (a : Option Addr) (n cap : Nat) : Has25 (w.alloc (.cells #[.int .u8 v, .slice a n cap] 25)) w.heap.size v a n cap := by
  have hcb : (w.alloc (.cells #[.int .u8 v, .slice a n cap] 25)).heap[w.heap.size]? = some (.cells #[.int .u8 v, .slice a n cap] 25 (0, 0)) := by
    show (w.heap.push _)[w.heap.size]? = _
    simp
  exact ⟨by rw [Lib.cell_of_heap hcb]; rfl, by rw [Lib.cell_of_heap hcb]; rfl, by simp⟩
theorem Has25.keep {w w' : World} {b : Nat} {v : Int} {a : Option Addr} {n cap : Nat} (h : Has25 w b v a n cap) (hb : Below w.heap.size w w') : Has25 w' b v a n cap :=
  ⟨(hb.cell (p := ⟨b, 0, none⟩) h.lt).trans h.c0, (hb.cell (p := ⟨b, 1, none⟩) h.lt).trans h.c1, Nat.lt_of_lt_of_le h.lt hb.size⟩
theorem some_keep {w w' : World} (h : ∃ m, w.cell? ⟨3, 0, none⟩ = some (.int .i64 m)) (hg : 4 ≤ w.heap.size) (hb : Below w.heap.size w w') : ∃ m, w'.cell? ⟨3, 0, none⟩ = some (.int .i64 m) := by
  obtain ⟨m, h⟩ := h
  exact ⟨m, (hb.cell (p := ⟨3, 0, none⟩) hg).trans h⟩
/-- what a walk keeps -/
structure Env5 (w0 w : World) : Prop where
  G : GW w
  F : Forms w
  m : ∃ m, w.cell? ⟨3, 0, none⟩ = some (.int .i64 m)
  g : 4 ≤ w.heap.size
  low : Below w0.heap.size w0 w
theorem Env5.keep {w0 w w' : World} (h : Env5 w0 w) (hb : Below w.heap.size w w') : Env5 w0 w' :=
  ⟨gw_keep h.G hb, h.F.keep hb, some_keep h.m h.g hb, Nat.le_trans h.g hb.size, h.low.trans (hb.mono h.low.size)⟩
theorem Env5.alloc {w0 w : World} (h : Env5 w0 w) (o : Obj) : Env5 w0 (w.alloc o) := h.keep (alloc_below w o)
/-- all that the pure law tells -/
structure BackOk (s : ByteArray) (v : Int) (l : List ByteArray) (at' er tq : Int) (T : ByteArray) (g : Int) : Prop where
  pos : er = 4 → at' > 0 → tq = at' + 2 ∨ tq = (s.size : Int) + 3
  len : l.length ≤ 1000
  back : er = 0 → g = 0 → (∃ y, line_Words (T, ()) = some y ∧ y.1.length ≤ 1000 ∧ lParse y = (v, l, 0, 0))
  gs : er = 0 → g ≠ 0 → g = 2
  rng : 0 ≤ at' ∧ at' ≤ 1000000
set_option maxHeartbeats 8000000 in
set_option maxRecDepth 1000000 in
theorem law_back (s : ByteArray) (hs290 : s.size ≤ 290) (y z : List ByteArray × Int × Int × Unit) (hy : line_Words (s, ()) = some y) (hz : line_Words (((⟨#[32, 32]⟩ : ByteArray) ++ s) ++ (⟨#[32]⟩ : ByteArray), ()) = some z) (hyl : y.1.length ≤ 1000) (hzl : z.1.length ≤ 1000) (haw : w05_awake () = some true)
    (v : Int) (l : List ByteArray) (at' er tq : Int) (T : ByteArray) (g : Int) (hly : lParse y = (v, l, at', er)) (hlz : lParse z = (v, l, tq, er))
    (hsame : ∀ v a c a' c' l, l.length ≤ 1000 → r05_Same ((v, ((a, c), l), ()), (v, ((a', c'), l), ()), ()) = some true)
    (fi pl : ByteArray → Bool) (hfi : ∀ a, a.size ≤ 1000 → line_fine (a, ()) = some (fi a)) (hpl : ∀ a, a.size ≤ 1000 → line_plain (a, ()) = some (pl a)) (hl1 : ∀ a ∈ l, a.size ≤ 1000)
    (hW : er = 0 → writeF fi pl v l 11 0 = (T, g)) (hB : BackOk s v l at' er tq T g)
    (w : World) (hE : Env5 w w) : Calls Tryd.prog 3 #[.string s] w fun e w' => e = .returned (.bool true) ∧ Below w.heap.size w w' := by
  go_enter Tryd.func3, Tryd.ntmps3
  go_wp2_with (go_at_call 9; refine (awake_call haw _ hE.G).mono ?_)
  rintro e w1 ⟨rfl, b1⟩
  have E1 := hE.keep b1
  have hs' : ¬ (290 : Int) < (s.size : Int) := by omega
  go_wp2_with (go_at_call 10; refine (lparse s y hy hyl _ E1.G E1.F).mono ?_)
  rintro e w2 ⟨⟨a1, c1, rfl, h1⟩, b2⟩
  rw [hly] at h1 ⊢
  simp only at h1 ⊢
  have E2 := (E1.keep b2).alloc (.cells #[.int .u8 v, .slice a1 l.length c1] 25)
  have q1 : ¬ 9223372036854775807 < 2 + s.size := by omega
  have q2 : ¬ 9223372036854775807 < 2 + s.size + 1 := by omega
  go_wp2_with (go_at_call 10; refine (lparse _ z hz hzl _ E2.G E2.F).mono ?_)
  rintro e w3 ⟨⟨a2, c2, rfl, h2⟩, b3⟩
  rw [hlz] at h2 ⊢
  simp only at h2 ⊢
  have E3 := (E2.keep b3).alloc (.cells #[.int .u8 v, .slice a2 l.length c2] 25)
  have H1 := ((Has25.new w2 v a1 l.length c1).keep b3).keep (alloc_below w3 (.cells #[.int .u8 v, .slice a2 l.length c2] 25))
  have K1 := (Has25.new w2 v a1 l.length c1).keep b3
  have k0 := K1.c0
  have k1 := K1.c1
  have k2 := K1.lt
  have h1' := ((h1.keep (alloc_below w2 (.cells #[.int .u8 v, .slice a1 l.length c1] 25))).keep b3).keep (alloc_below w3 (.cells #[.int .u8 v, .slice a2 l.length c2] 25))
  have h2' := h2.keep (alloc_below w3 (.cells #[.int .u8 v, .slice a2 l.length c2] 25))
  go_wp2_with (go_at_call 11; refine (same_call (hsame v a1 c1 a2 c2 l hB.len) _ E3.G h1' h2').mono ?_)
  rintro e w4 ⟨rfl, b4⟩
  have E4 := E3.keep b4
  have H4 := H1.keep b4
  have s4 := h1'.keep b4
  clear H1 K1 k0 k1 k2 h1' h2' h1 h2 E1 E2 E3
  have ee : (er != er) = false := by simp
  have r1 := hB.rng.1
  have r2 := hB.rng.2
  by_cases he4 : er = 4
  · subst he4
    by_cases hat : at' > 0
    · have hat' : (0 : Int) < at' := hat
      rcases hB.pos rfl hat with h | h
      · have hq : (tq != at' + 2) = false := by rw [h]; simp
        go_wp2
        go_ret
        exact ⟨rfl, E4.low⟩
      · have hq : (tq != (s.size : Int) + 3) = false := by rw [h]; simp
        go_wp2
        all_goals (go_ret; exact ⟨rfl, E4.low⟩)
    · have hat' : ¬ (0 : Int) < at' := hat
      go_wp2
      go_ret
      exact ⟨rfl, E4.low⟩
  · have he4' : (er == 4) = false := by simpa using he4
    by_cases he0 : er = 0
    · subst he0
      have hw := lwrite v l a1 c1 1000 hl1 (by omega) (by have := hB.len; omega) fi pl hfi hpl w4 E4.G E4.F E4.m E4.g s4
      rw [hW rfl] at hw
      have k0 := H4.c0
      have k1 := H4.c1
      have k2 := H4.lt
      go_wp2_with (go_at_call 12; refine hw.mono ?_)
      rintro e w5 ⟨rfl, b5⟩
      have E5 := E4.keep b5
      have H5 := H4.keep b5
      have s5 := s4.keep b5
      by_cases hg : g = 0
      · obtain ⟨y', y1, y2, y3⟩ := hB.back rfl hg
        subst hg
        clear hw k0 k1 k2
        go_wp2_with (go_at_call 10; refine (lparse T y' y1 y2 _ E5.G E5.F).mono ?_)
        rintro e w6 ⟨⟨a3, c3, rfl, h3⟩, b6⟩
        rw [y3] at h3 ⊢
        simp only at h3 ⊢
        have E6 := (E5.keep b6).alloc (.cells #[.int .u8 v, .slice a3 l.length c3] 25)
        have K6 := H5.keep b6
        have k0 := K6.c0
        have k1 := K6.c1
        have k2 := K6.lt
        have s6 := (s5.keep b6).keep (alloc_below w6 (.cells #[.int .u8 v, .slice a3 l.length c3] 25))
        have s7 := h3.keep (alloc_below w6 (.cells #[.int .u8 v, .slice a3 l.length c3] 25))
        go_wp2_with (go_at_call 11; refine (same_call (hsame v a3 c3 a1 c1 l hB.len) _ E6.G s7 s6).mono ?_)
        rintro e w7 ⟨rfl, b7⟩
        have E7 := E6.keep b7
        go_wp2
        go_ret
        exact ⟨rfl, E7.low⟩
      · have hg' : (g != 0) = true := by simpa using hg
        have hg2 : (g == 2) = true := by simpa using hB.gs rfl hg
        go_wp2
        go_ret
        exact ⟨by simp, E5.low⟩
    · have he0' : (er != 0) = true := by simpa using he0
      go_wp2
      go_ret
      exact ⟨rfl, E4.low⟩
end Go.Px.LinC
