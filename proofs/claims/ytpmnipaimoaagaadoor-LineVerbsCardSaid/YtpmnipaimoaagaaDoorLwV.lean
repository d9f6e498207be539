/- LineVerbs: what the law hands back. -/
import Derived.Test.YtpmnipaimoaagaaDoorLwB
import Derived.Laws.AppendOwn
import Derived.OwnWalk
set_option linter.unusedVariables false
set_option linter.unusedSimpArgs false
namespace Go.Px.LinC
open Go Go.RowKit Go.Proofs Go.Px
def vecW : Array Value := #[.string ⟨#[99, 114, 101, 97, 116, 101]⟩, .string ⟨#[100, 114, 111, 112]⟩, .string ⟨#[108, 111, 103, 105, 110]⟩, .string ⟨#[99, 104, 101, 99, 107]⟩, .string ⟨#[114, 101, 118, 111, 107, 101]⟩, .string ⟨#[112, 97, 115, 115]⟩, .string ⟨#[114, 111, 108, 101]⟩, .string ⟨#[117, 110, 108, 111, 99, 107]⟩, .string ⟨#[119, 104, 111]⟩, .string ⟨#[108, 105, 115, 116]⟩, .string ⟨#[97, 117, 100, 105, 116]⟩]
def vecA : Array Value := #[.int .i64 4, .int .i64 2, .int .i64 2, .int .i64 1, .int .i64 1, .int .i64 3, .int .i64 3, .int .i64 2, .int .i64 2, .int .i64 1, .int .i64 2]
theorem vec_at (k : Nat) (hk : k < 11) : vecW[k]? = some (.string (formAt k).1) ∧ vecA[k]? = some (.int .i64 (formAt k).2.2) := by
  have h : k = 0 ∨ k = 1 ∨ k = 2 ∨ k = 3 ∨ k = 4 ∨ k = 5 ∨ k = 6 ∨ k = 7 ∨ k = 8 ∨ k = 9 ∨ k = 10 := by omega
  rcases h with rfl | rfl | rfl | rfl | rfl | rfl | rfl | rfl | rfl | rfl | rfl
  all_goals exact ⟨rfl, rfl⟩
/-- the line: a verb and j words -/
def sV (k : Nat) : Nat → ByteArray
  | 0 => (formAt k).1
  | j + 1 => sV k j ++ (⟨#[32, 120]⟩ : ByteArray)
theorem sV_size (k j : Nat) : (sV k j).size = (formAt k).1.size + 2 * j := by
  induction j with
  | zero => rfl
  | succ j ih =>
    have h2 : (⟨#[32, 120]⟩ : ByteArray).size = 2 := rfl
    simp only [sV, ByteArray.size_append, ih, h2]
    omega
theorem vec_at' (k : Nat) (hk : k < 11) : vecW.toList[k]? = some (.string (formAt k).1) := by
  have := (vec_at k hk).1
  simpa using this
theorem own_str {w : World} {B j : Nat} {q : Value} {x : ByteArray} {l : List ByteArray} (hl : l = List.replicate j x) (h : w.ownsRow B 9 1 q j (List.replicate j (.string x))) : ∃ a cap, q = .slice a l.length cap ∧ StrSl w l (.slice a l.length cap) := by
  subst hl
  rcases h.2 with ⟨rfl, rfl⟩ | ⟨g, cap, cur, rfl, hb, hg, hc1, hc2, hc3, hc4⟩
  · exact ⟨none, 0, rfl, StrSl.nil w⟩
  · refine ⟨some ⟨g, 0, none⟩, cap, by simp, some ⟨g, 0, none⟩, cap, rfl, by simpa using hc1, .inr ⟨g, 0, cur, 9, (0, 0), rfl, (Array.getElem?_eq_some_iff.1 hg).1, hg, fun i v hi => ?_⟩⟩
    rw [flat_sc] at hi
    have h1 : (cur.toList.take (j * 1))[i]? = some v := by rw [hc4, ← hi]; simp [List.map_replicate]; rfl
    rw [List.getElem?_take] at h1
    split at h1
    · rw [Nat.zero_add]; simpa using h1
    · cases h1
theorem info9 : ∃ i0, Tryd.prog.info? 9 = some i0 ∧ i0.zero = some (.string ByteArray.empty) ∧ i0.size = 1 ∧ i0.bytes = 16 := ⟨_, rfl, rfl, rfl, rfl⟩
theorem one_new (w : World) : ∀ (j : Nat) (u : Value), [Value.string ⟨#[120]⟩][j]? = some u → (w.alloc (.cells #[.string ⟨#[120]⟩] 9)).cell? ((⟨w.heap.size, 0, none⟩ : Addr).add j) = some u := by
  intro j u hu
  match j with
  | 0 =>
    rw [show (⟨w.heap.size, 0, none⟩ : Addr).add 0 = ⟨w.heap.size, 0, none⟩ from rfl, Lib.cell_of_heap (heap_alloc_new w _)]
    exact hu
  | j + 1 => simp at hu
theorem own_ne {w : World} {B j : Nat} {q : Value} {xs : List Value} (h : w.ownsRow B 9 1 q j xs) {k : Nat} (hk : k < B) : some k ≠ q.ownBlock := fun e => by
  have := (h.lt k e.symm).1
  omega
theorem verbs_start (w1 : World) (k : Nat) (hk : k < 11) : Below w1.heap.size w1 (((w1.alloc (.cells vecW 9)).alloc (.cells vecA 3)).alloc (.cells #[.int .u8 (k + 1), .slice none 0 0] 25)) ∧ (((w1.alloc (.cells vecW 9)).alloc (.cells vecA 3)).alloc (.cells #[.int .u8 (k + 1), .slice none 0 0] 25)).cell? ⟨w1.heap.size + 1, k, none⟩ = some (.int .i64 (formAt k).2.2) ∧ (((w1.alloc (.cells vecW 9)).alloc (.cells vecA 3)).alloc (.cells #[.int .u8 (k + 1), .slice none 0 0] 25)).heap[w1.heap.size + 1 + 1]? = some (.cells #[.int .u8 (k + 1), .slice none 0 0] 25 (0, 0)) ∧ (((w1.alloc (.cells vecW 9)).alloc (.cells vecA 3)).alloc (.cells #[.int .u8 (k + 1), .slice none 0 0] 25)).heap.size = w1.heap.size + 3 := by
  have b1 := alloc_below w1 (.cells vecW 9)
  have b2 := alloc_below (w1.alloc (.cells vecW 9)) (.cells vecA 3)
  have b3 := alloc_below ((w1.alloc (.cells vecW 9)).alloc (.cells vecA 3)) (.cells #[.int .u8 (k + 1), .slice none 0 0] 25)
  have s1 : (w1.alloc (.cells vecW 9)).heap.size = w1.heap.size + 1 := by simp
  have s2 : ((w1.alloc (.cells vecW 9)).alloc (.cells vecA 3)).heap.size = w1.heap.size + 2 := by simp
  have s3 : (((w1.alloc (.cells vecW 9)).alloc (.cells vecA 3)).alloc (.cells #[.int .u8 (k + 1), .slice none 0 0] 25)).heap.size = w1.heap.size + 3 := by simp
  refine ⟨b1.trans ((b2.mono (by omega)).trans (b3.mono (by omega))), ?_, ?_, s3⟩
  · have h : ((w1.alloc (.cells vecW 9)).alloc (.cells vecA 3)).heap[w1.heap.size + 1]? = some (.cells vecA 3 (0, 0)) := by
      rw [← s1]; exact heap_alloc_new _ _
    rw [Lib.cell_of_heap (by rw [b3.block _ (by rw [s2]; omega)]; exact h)]
    exact (vec_at k hk).2
  · rw [show w1.heap.size + 1 + 1 = ((w1.alloc (.cells vecW 9)).alloc (.cells vecA 3)).heap.size by omega]; exact heap_alloc_new _ _
theorem below_set {n : Nat} {w0 wr : World} {q : Value} {B j : Nat} {xs : List Value} {o : Obj} {w2 : World} (h : Below n w0 wr) (hn : n ≤ wr.heap.size) (hown : wr.ownsRow B 9 1 q j xs) (hB : n ≤ B) (hg : (wr.alloc o).grownBy w2 q.ownBlock) (p : Addr) (hp : n ≤ p.block) (v : Value) : Below n w0 (w2.setCell p v) := by
  have h2 : Below n wr (wr.alloc o) := (alloc_below wr o).mono hn
  have h3 : Below n (wr.alloc o) w2 := ⟨hg.os, hg.tape, hg.output, hg.size, fun k hk => hg.block k (by have := h2.size; omega) (fun e => by have := (hown.lt k e.symm).1; omega)⟩
  exact low_set (h.trans (h2.trans h3)) hp v
theorem own_set {w : World} {B j : Nat} {q : Value} {xs : List Value} (h : w.ownsRow B 9 1 q j xs) (p : Addr) (hp : p.block < B) (v : Value) : (w.setCell p v).ownsRow B 9 1 q j xs := by
  refine ⟨h.1, ?_⟩
  rcases h.2 with hn | ⟨g, cap, cur, rfl, hb, hgg, rest⟩
  · exact .inl hn
  · refine .inr ⟨g, cap, cur, rfl, hb, ?_, rest⟩
    have : p.block ≠ g := by omega
    simp [World.setCell, Array.getElem?_modify, this, hgg]
structure HasC (w : World) (b k : Nat) (v : Value) : Prop where
  c : w.cell? ⟨b, k, none⟩ = some v
  lt : b < w.heap.size
theorem HasC.keep {w w' : World} {b k : Nat} {v : Value} (h : HasC w b k v) (hb : Below w.heap.size w w') : HasC w' b k v := ⟨(hb.cell (p := ⟨b, k, none⟩) h.lt).trans h.c, Nat.lt_of_lt_of_le h.lt hb.size⟩
theorem verbs_set (w : World) (B : Nat) (v : Int) (q q' : Value) (h : w.heap[B]? = some (.cells #[.int .u8 v, q] 25 (0, 0))) : (w.setCell ⟨B, 1, none⟩ q').heap[B]? = some (.cells #[.int .u8 v, q'] 25 (0, 0)) := by
  simp [World.setCell, Array.getElem?_modify, h]
set_option maxHeartbeats 1000000 in
set_option maxRecDepth 1000000 in
theorem law_verbs (c n : Int) (hc : 0 ≤ c ∧ c < 256) (hn : 0 ≤ n ∧ n < 256) (haw : w05_awake () = some true) (x : ByteArray) (hx : x = ⟨#[120]⟩)
    (fi pl : ByteArray → Bool) (hfi : ∀ a, a.size ≤ 1000 → line_fine (a, ()) = some (fi a)) (hpl : ∀ a, a.size ≤ 1000 → line_plain (a, ()) = some (pl a))
    (hsame : ∀ v a c a' c' l, l.length ≤ 1000 → r05_Same ((v, ((a, c), l), ()), (v, ((a', c'), l), ()), ()) = some true)
    (hP : ∀ k m : Nat, k < 11 → m < 6 → ∃ y, line_Words (sV k m, ()) = some y ∧ y.1.length ≤ 1000 ∧ lParse y = if (m : Int) = (formAt k).2.2 then ((k : Int) + 1, List.replicate m x, 0, 0) else (0, [], 0, 1))
    (hW : ∀ k m : Nat, k < 11 → m < 6 → writeF fi pl ((k : Int) + 1) (List.replicate m x) 11 0 = if (m : Int) = (formAt k).2.2 then (sV k m, 0) else (ByteArray.empty, 3))
    (w : World) (hE : Env5 w w) : Calls Tryd.prog 4 #[.int .u8 c, .int .u8 n] w fun e w' => e = .returned (.bool true) ∧ Below w.heap.size w w' := by
  obtain ⟨k, hk, hk11⟩ : ∃ k : Nat, c.tmod 11 = (k : Int) ∧ k < 11 := by
    have h1 := Int.tmod_nonneg 11 hc.1
    have h2 := Int.tmod_lt_of_pos c (show (0 : Int) < 11 by omega)
    exact ⟨(c.tmod 11).toNat, by omega, by omega⟩
  obtain ⟨m, hm, hm6⟩ : ∃ m : Nat, n.tmod 6 = (m : Int) ∧ m < 6 := by
    have h1 := Int.tmod_nonneg 6 hn.1
    have h2 := Int.tmod_lt_of_pos n (show (0 : Int) < 6 by omega)
    exact ⟨(n.tmod 6).toNat, by omega, by omega⟩
  go_enter Tryd.func4, Tryd.ntmps4
  go_wp2_with (go_at_call 9; refine (awake_call haw _ hE.G).mono ?_)
  rintro e w1 ⟨rfl, b1⟩
  have E1 := hE.keep b1
  go_wp2
  refine abs_world (fun W => Below w1.heap.size w1 W ∧ W.cell? ⟨w1.heap.size + 1, k, none⟩ = some (.int .i64 (formAt k).2.2) ∧ W.heap[w1.heap.size + 1 + 1]? = some (.cells #[.int .u8 (k + 1), .slice none 0 0] 25 (0, 0)) ∧ W.heap.size = w1.heap.size + 3) (verbs_start w1 k hk11) ?_
  rintro W0 ⟨bW, cW, hWb, sW⟩
  obtain ⟨i0, hi, hz0, hz1, hz2⟩ := info9
  go_loopw [9, 10] (fun sv iv wr => ∃ (j : Nat) (q : Value), j ≤ m ∧ iv = .int .i64 j ∧ sv = .string (sV k j) ∧ Below (w1.heap.size + 1 + 1) W0 wr ∧ wr.heap[w1.heap.size + 1 + 1]? = some (.cells #[.int .u8 (k + 1), q] 25 (0, 0)) ∧ wr.ownsRow (w1.heap.size + 3) 9 1 q j (List.replicate j (.string ⟨#[120]⟩)) ∧ w1.heap.size + 3 ≤ wr.heap.size) (fun _ iv _ => m - (intOf iv).toNat)
  case atStart =>
    refine ⟨0, .slice none 0 0, by omega, rfl, ?_, Below.refl _ _, hWb, World.ownsRow_nil _ _ _ _, by omega⟩
    exact Option.some.inj ((List.getElem?_eq_getElem _).symm.trans (vec_at' k hk11))
  case round =>
    obtain ⟨j, q, hj, rfl, rfl, hlr, hbq, hown, hszr⟩ := hrel
    have k0 : wr.cell? ⟨w1.heap.size + 1 + 1, 0, none⟩ = some (.int .u8 (k + 1)) := by rw [Lib.cell_of_heap hbq]; rfl
    have k1 : wr.cell? ⟨w1.heap.size + 1 + 1, 1, none⟩ = some q := by rw [Lib.cell_of_heap hbq]; rfl
    by_cases hjm : j < m
    · have hjm' : (j : Int) < (m : Int) := by omega
      have q1 : ¬ 9223372036854775807 < (sV k j).size + 2 := by
        have := sV_size k j
        have := formAt_size k hk11
        omega
      go_wp2_with (at_builtin; refine wpList_append_own _ rfl _ _ 23 rfl (w1.heap.size + 3) 9 i0 (.string ByteArray.empty) 1 16 Tryd.underlying23 hi hz0 hz1 hz2 rfl (by decide) _ _ _ rfl (hown.alloc _) ⟨wr.heap.size, 0, none⟩ 1 1 [.string ⟨#[120]⟩] rfl rfl (one_new wr) (by simp [Value.oneCell']) (by simp only [maxLen]; omega) (by omega) (by simp; omega) ?_)
      intro q' w2 hown' hgrow hnil
      have g1 : w2.heap[w1.heap.size + 1 + 1]? = some (.cells #[.int .u8 (k + 1), q] 25 (0, 0)) := by
        rw [hgrow.block _ (by simp; omega) (own_ne hown (by omega))]
        rw [(alloc_below wr _).block _ (by omega)]; exact hbq
      have g2 : w2.cell? ⟨w1.heap.size + 1 + 1, 1, none⟩ = some q := by rw [Lib.cell_of_heap g1]; rfl
      have g3 : w2.frozen? ⟨w1.heap.size + 1 + 1, 1, none⟩ = false := Lib.frozen_of_heap g1 1
      obtain ⟨a', cap', rfl⟩ : ∃ a' cap', q' = .slice a' (j + 1) cap' := by
        rcases hown'.2 with ⟨rfl, h⟩ | ⟨g, cp, cur, rfl, _⟩
        · exact absurd h (by omega)
        · exact ⟨_, _, rfl⟩
      go_wp2
      go_roundw
      case rel => exact ⟨j + 1, _, by omega, by simp, rfl, below_set hlr (by omega) hown (by omega) hgrow _ (Nat.le_refl _) _, verbs_set _ _ _ _ _ g1, by rw [List.replicate_succ']; exact own_set hown' _ (by simp) _, by have := hgrow.size; simp at this ⊢; omega⟩
      case measure => simp [intOf]; omega
    · obtain rfl : j = m := by omega
      have E2 := E1.keep (bW.trans (hlr.mono (by omega)))
      obtain ⟨l, hl⟩ : ∃ l, l = List.replicate j x := ⟨_, rfl⟩
      rw [← hx] at hown
      obtain ⟨a, cap, rfl, hs⟩ := own_str hl hown
      have hl1 : ∀ u ∈ l, u.size ≤ 1000 := by rw [hl]; intro u hu; rw [(List.mem_replicate.1 hu).2, hx]; decide
      have hl2 : l.length ≤ 100000 := by rw [hl]; simp; omega
      have hl3 : l.length ≤ 1000 := by rw [hl]; simp; omega
      obtain ⟨y, y1, y2, y3⟩ := hP k j hk11 hm6
      have hWk := hW k j hk11 hm6
      rw [← hl] at y3 hWk
      have cK : wr.cell? ⟨w1.heap.size + 1, k, none⟩ = some (.int .i64 (formAt k).2.2) := (hlr.cell (p := ⟨w1.heap.size + 1, k, none⟩) (by simp)).trans cW
      have hp := lparse (sV k j) y y1 y2 wr E2.G E2.F
      have K2 : Has25 wr (w1.heap.size + 1 + 1) (k + 1) a l.length cap := ⟨k0, k1, by omega⟩
      by_cases hmk : (j : Int) = (formAt k).2.2
      · rw [if_pos hmk] at hWk y3
        rw [y3] at hp
        simp only at hp
        have hmk' : ((j : Int) != (formAt k).2.2) = false := by simpa using hmk
        clear hmk hl
        go_wp2_with (go_at_call 10; refine hp.mono ?_)
        rintro e w3 ⟨⟨a3, c3, rfl, h3⟩, b3⟩
        have E3 := E2.keep b3
        have K3 := K2.keep b3
        have cK3 := (HasC.mk cK (by omega : w1.heap.size + 1 < wr.heap.size)).keep b3
        have E4 := E3.alloc (.cells #[.int .u8 (k + 1), .slice a3 l.length c3] 25)
        have H4 := Has25.new w3 (k + 1) a3 l.length c3
        have K4 := K3.keep (alloc_below w3 (.cells #[.int .u8 (k + 1), .slice a3 l.length c3] 25))
        have s4 := (hs.keep b3).keep (alloc_below w3 (.cells #[.int .u8 (k + 1), .slice a3 l.length c3] 25))
        have t4 := h3.keep (alloc_below w3 (.cells #[.int .u8 (k + 1), .slice a3 l.length c3] 25))
        have hw := lwrite (k + 1) l a cap 1000 hl1 (by omega) hl2 fi pl hfi hpl _ E4.G E4.F E4.m E4.g s4
        rw [hWk] at hw
        have k0 := K3.c0
        have k1 := K3.c1
        have k2 := K3.lt
        go_wp2_with (go_at_call 12; refine hw.mono ?_)
        rintro e w5 ⟨rfl, b5⟩
        have E5 := E4.keep b5
        have H5 := H4.keep b5
        have K5 := K4.keep b5
        have s5 := s4.keep b5
        have t5 := t4.keep b5
        have cK5 := (cK3.keep (alloc_below w3 (.cells #[.int .u8 (k + 1), .slice a3 l.length c3] 25))).keep b5
        have d0 := H5.c0
        have d1 := H5.c1
        have d2 := H5.lt
        have g0 := K5.c0
        have g1 := K5.c1
        have g2 := K5.lt
        have ck0 := cK5.c
        have ck1 := cK5.lt
        go_wp2_with (go_at_call 11; refine (same_call (hsame (k + 1) a3 c3 a cap l hl3) _ E5.G t5 s5).mono ?_)
        rintro e w6 ⟨rfl, b6⟩
        have E6 := E5.keep b6
        go_wp2
        go_ret
        exact ⟨rfl, E6.low⟩
      · rw [if_neg hmk] at hWk y3
        rw [y3] at hp
        simp only at hp
        have hmk' : ((j : Int) != (formAt k).2.2) = true := by simpa using hmk
        clear hmk hl
        go_wp2_with (go_at_call 10; refine hp.mono ?_)
        rintro e w3 ⟨⟨a3, c3, rfl, h3⟩, b3⟩
        have E3 := E2.keep b3
        have K3 := K2.keep b3
        have cK3 := (HasC.mk cK (by omega : w1.heap.size + 1 < wr.heap.size)).keep b3
        have E4 := E3.alloc (.cells #[.int .u8 0, .slice a3 0 c3] 25)
        have K4 := K3.keep (alloc_below w3 (.cells #[.int .u8 0, .slice a3 0 c3] 25))
        have s4 := (hs.keep b3).keep (alloc_below w3 (.cells #[.int .u8 0, .slice a3 0 c3] 25))
        have hw := lwrite (k + 1) l a cap 1000 hl1 (by omega) hl2 fi pl hfi hpl _ E4.G E4.F E4.m E4.g s4
        rw [hWk] at hw
        have k0 := K3.c0
        have k1 := K3.c1
        have k2 := K3.lt
        go_wp2_with (go_at_call 12; refine hw.mono ?_)
        rintro e w5 ⟨rfl, b5⟩
        have E5 := E4.keep b5
        have cK5 := (cK3.keep (alloc_below w3 (.cells #[.int .u8 0, .slice a3 0 c3] 25))).keep b5
        have ck0 := cK5.c
        have ck1 := cK5.lt
        go_wp2
        go_ret
        exact ⟨rfl, E5.low⟩
end Go.Px.LinC
