/- LineWrites: what the law hands back. -/
import Derived.Test.YtpmnipaimoaagaaDoorLwB
set_option linter.unusedVariables false
set_option linter.unusedSimpArgs false
namespace Go.Px.LinC
open Go Go.RowKit Go.Proofs Go.Px
set_option maxHeartbeats 1000000 in
set_option maxRecDepth 1000000 in
theorem law_writes (v : Int) (l : List ByteArray) (a : Option Addr) (cap : Nat) (hl50 : l.length ≤ 50) (N : Nat) (hN : ∀ x ∈ l, x.size ≤ N) (hN2 : N ≤ 4194304) (haw : w05_awake () = some true)
    (fi pl : ByteArray → Bool) (hfi : ∀ a, a.size ≤ N → line_fine (a, ()) = some (fi a)) (hpl : ∀ a, a.size ≤ N → line_plain (a, ()) = some (pl a))
    (hsame : ∀ v a c a' c' l, l.length ≤ 1000 → r05_Same ((v, ((a, c), l), ()), (v, ((a', c'), l), ()), ()) = some true)
    (T : ByteArray) (g : Int) (hW : writeF fi pl v l 11 0 = (T, g)) (hR : r05_Write ((v, ((a, cap), l), ()), ()) = some (T, g, ()))
    (hB : g = 0 → ∃ y, line_Words (T, ()) = some y ∧ y.1.length ≤ 1000 ∧ lParse y = (v, l, 0, 0))
    (w : World) (hE : Env5 w w) (hs : StrSl w l (.slice a l.length cap)) : Calls Tryd.prog 8 #[.agg #[.int .u8 v, .slice a l.length cap]] w fun e w' => e = .returned (.bool true) ∧ Below w.heap.size w w' := by
  go_enter Tryd.func8, Tryd.ntmps8
  have E0 := hE.alloc (.cells #[.int .u8 v, .slice a l.length cap] 25)
  have H0 := Has25.new w v a l.length cap
  have s0 := hs.keep (alloc_below w (.cells #[.int .u8 v, .slice a l.length cap] 25))
  go_wp2_with (go_at_call 9; refine (awake_call haw _ E0.G).mono ?_)
  rintro e w1 ⟨rfl, b1⟩
  have E1 := E0.keep b1
  have H1 := H0.keep b1
  have s1 := s0.keep b1
  have hl50' : ¬ (50 : Int) < (l.length : Int) := by omega
  have hw := lwrite v l a cap N hN hN2 (by omega) fi pl hfi hpl _ E1.G E1.F E1.m E1.g s1
  rw [hW] at hw
  have k0 := H1.c0
  have k1 := H1.c1
  have k2 := H1.lt
  go_wp2_with (go_at_call 12; refine hw.mono ?_)
  rintro e w2 ⟨rfl, b2⟩
  have E2 := E1.keep b2
  have H2 := H1.keep b2
  have s2 := s1.keep b2
  have d0 := H2.c0
  have d1 := H2.c1
  have d2 := H2.lt
  have hr := rwrite_call hR _ E2.G s2
  go_wp2_with (go_at_call 16; refine hr.mono ?_)
  rintro e w3 ⟨rfl, b3⟩
  have E3 := E2.keep b3
  have H3 := H2.keep b3
  have s3 := s2.keep b3
  have hgg : (g != g) = false := by simp
  by_cases hg : g = 0
  · obtain ⟨y, y1, y2, y3⟩ := hB hg
    subst hg
    have hp := lparse T y y1 y2 _ E3.G E3.F
    rw [y3] at hp
    simp only at hp
    clear k0 k1 k2 d0 d1 d2
    go_wp2_with (go_at_call 10; refine hp.mono ?_)
    rintro e w4 ⟨⟨a4, c4, rfl, h4⟩, b4⟩
    have E4 := (E3.keep b4).alloc (.cells #[.int .u8 v, .slice a4 l.length c4] 25)
    have K4 := H3.keep b4
    have k0 := K4.c0
    have k1 := K4.c1
    have k2 := K4.lt
    have s4 := (s3.keep b4).keep (alloc_below w4 (.cells #[.int .u8 v, .slice a4 l.length c4] 25))
    have t4 := h4.keep (alloc_below w4 (.cells #[.int .u8 v, .slice a4 l.length c4] 25))
    go_wp2_with (go_at_call 11; refine (same_call (hsame v a4 c4 a cap l (by omega)) _ E4.G t4 s4).mono ?_)
    rintro e w5 ⟨rfl, b5⟩
    have E5 := E4.keep b5
    go_wp2
    go_ret
    exact ⟨rfl, E5.low⟩
  · have hg' : (g != 0) = true := by simpa using hg
    go_wp2
    go_ret
    exact ⟨rfl, E3.low⟩
set_option maxHeartbeats 1000000 in
set_option maxRecDepth 1000000 in
theorem law_writes_long (v : Int) (l : List ByteArray) (a : Option Addr) (cap : Nat) (hl50 : 50 < l.length) (haw : w05_awake () = some true)
    (w : World) (hE : Env5 w w) : Calls Tryd.prog 8 #[.agg #[.int .u8 v, .slice a l.length cap]] w fun e w' => e = .returned (.bool true) ∧ Below w.heap.size w w' := by
  go_enter Tryd.func8, Tryd.ntmps8
  have E0 := hE.alloc (.cells #[.int .u8 v, .slice a l.length cap] 25)
  have H0 := Has25.new w v a l.length cap
  go_wp2_with (go_at_call 9; refine (awake_call haw _ E0.G).mono ?_)
  rintro e w1 ⟨rfl, b1⟩
  have E1 := E0.keep b1
  have H1 := H0.keep b1
  have hl50' : (50 : Int) < (l.length : Int) := by omega
  have k0 := H1.c0
  have k1 := H1.c1
  have k2 := H1.lt
  go_wp2_with (go_at_call 9; refine (awake_call haw _ E1.G).mono ?_)
  rintro e w2 ⟨rfl, b2⟩
  have E2 := E1.keep b2
  go_wp2
  go_ret
  exact ⟨rfl, E2.low⟩
end Go.Px.LinC
