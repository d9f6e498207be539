/- line.Write: what it hands back. -/
import Derived.Test.YtpmnipaimoaagaaDoorPar2
import Derived.Test.YtpmnipaimoaagaaDoorPuRepl
set_option linter.unusedVariables false
set_option linter.unusedSimpArgs false
namespace Go.Px.LinC
open Go Go.RowKit Go.Proofs Go.Px Go.Px.Pu
/-- a word with what must stand behind a backslash -/
def escB (a : ByteArray) : ByteArray := ⟨(replB 34 [92, 34] (replB 92 [92, 92] a.data.toList)).toArray⟩
/-- words behind a line's head -/
def writeL (fi pl : ByteArray → Bool) : List ByteArray → ByteArray → ByteArray × Int
  | [], s => if s.size > 300 then (ByteArray.empty, 2) else (s, 0)
  | a :: r, s => if fi a = false then (ByteArray.empty, 3) else if pl a = true then writeL fi pl r (s ++ ((⟨#[32]⟩ : ByteArray) ++ a)) else writeL fi pl r (s ++ (((⟨#[32, 34]⟩ : ByteArray) ++ escB a) ++ (⟨#[34]⟩ : ByteArray)))
/-- from a form on -/
def writeF (fi pl : ByteArray → Bool) (v : Int) (l : List ByteArray) : Nat → Nat → ByteArray × Int
  | 0, _ => (ByteArray.empty, 3)
  | n + 1, k => if (formAt k).2.1 ≠ v ∨ (formAt k).2.2 ≠ (l.length : Int) then writeF fi pl v l n (k + 1) else writeL fi pl l (formAt k).1
theorem sz1 {s x : ByteArray} {j N : Nat} (h : s.size ≤ 6 + j * (4 * N + 4)) (hx : x.size ≤ N) : (s ++ ((⟨#[32]⟩ : ByteArray) ++ x)).size ≤ 6 + (j + 1) * (4 * N + 4) := by
  have h1 : (⟨#[32]⟩ : ByteArray).size = 1 := rfl
  rw [Nat.add_mul]
  simp only [ByteArray.size_append, h1]
  omega
theorem sz2 {s y : ByteArray} {j N : Nat} (h : s.size ≤ 6 + j * (4 * N + 4)) (hy : y.size ≤ 4 * N) : (s ++ (((⟨#[32, 34]⟩ : ByteArray) ++ y) ++ (⟨#[34]⟩ : ByteArray))).size ≤ 6 + (j + 1) * (4 * N + 4) := by
  have h1 : (⟨#[32, 34]⟩ : ByteArray).size = 2 := rfl
  have h2 : (⟨#[34]⟩ : ByteArray).size = 1 := rfl
  rw [Nat.add_mul]
  simp only [ByteArray.size_append, h1, h2]
  omega
theorem repl_call (x : ByteArray) (c d : UInt8) (hx : x.size ≤ 16777216) (w : World) (hm : ∃ m, w.cell? ⟨3, 0, none⟩ = some (.int .i64 m)) :
    Calls Tryd.prog 19 #[.string x, .string ⟨#[c]⟩, .string ⟨#[d, c]⟩] w fun e w' => e = .returned (.string ⟨(replB c [d, c] x.data.toList).toArray⟩) ∧ Below w.heap.size w w' := by
  obtain ⟨m, hm⟩ := hm
  have hc := Lib.countB_le (⟨#[c]⟩ : ByteArray) (Nat.le_refl 1) x.size x (Nat.le_refl _)
  have h2 : (⟨#[d, c]⟩ : ByteArray).size = 2 := rfl
  have := Tryd.strings_ReplaceAll x ⟨#[c]⟩ ⟨#[d, c]⟩ m w (by omega) hm (Nat.le_refl 1) (by rw [h2]; omega)
  rw [show Lib.replaceAll x.data.toList (⟨#[c]⟩ : ByteArray).data.toList (⟨#[d, c]⟩ : ByteArray).data.toList = replB c [d, c] x.data.toList from replaceAll_eq c [d, c] x.data.toList (by simp)] at this
  exact this
theorem sl_at {w : World} {l : List ByteArray} {a0 : Option Addr} {cap j : Nat} (h : StrSl w l (.slice a0 l.length cap)) (hj : j < l.length) : ∃ b o, a0 = some ⟨b, o, none⟩ ∧ b < w.heap.size ∧ w.cell? ⟨b, o + j, none⟩ = some (.string (l.getD j ByteArray.empty)) ∧ l.getD j ByteArray.empty ∈ l ∧ l.drop j = l.getD j ByteArray.empty :: l.drop (j + 1) := by
  obtain ⟨aa, cc, hae, hcc, hcell⟩ := h.open
  simp only [Value.slice.injEq] at hae
  obtain ⟨rfl, -, rfl⟩ := hae
  obtain ⟨b, o, h1, h2, h3⟩ := hcell (fun e => by rw [e] at hj; exact absurd hj (Nat.not_lt_zero _))
  have hx : l.getD j ByteArray.empty = l[j] := by rw [List.getD_eq_getElem?_getD, List.getElem?_eq_getElem hj]; rfl
  refine ⟨b, o, h1, h2, h3 j hj, by rw [hx]; exact List.getElem_mem hj, ?_⟩
  rw [hx]; exact List.drop_eq_getElem_cons hj
theorem formAt_args' (k : Nat) (hk : k < 11) : 1 ≤ (formAt k).2.2 ∧ (formAt k).2.2 ≤ 4 := by
  have h : k = 0 ∨ k = 1 ∨ k = 2 ∨ k = 3 ∨ k = 4 ∨ k = 5 ∨ k = 6 ∨ k = 7 ∨ k = 8 ∨ k = 9 ∨ k = 10 := by omega
  rcases h with rfl | rfl | rfl | rfl | rfl | rfl | rfl | rfl | rfl | rfl | rfl
  all_goals decide
theorem formAt_size (k : Nat) (hk : k < 11) : (formAt k).1.size ≤ 6 := by
  have h : k = 0 ∨ k = 1 ∨ k = 2 ∨ k = 3 ∨ k = 4 ∨ k = 5 ∨ k = 6 ∨ k = 7 ∨ k = 8 ∨ k = 9 ∨ k = 10 := by omega
  rcases h with rfl | rfl | rfl | rfl | rfl | rfl | rfl | rfl | rfl | rfl | rfl
  all_goals decide
set_option maxHeartbeats 8000000 in
set_option maxRecDepth 1000000 in
theorem lwrite (v : Int) (l : List ByteArray) (a0 : Option Addr) (cap : Nat) (N : Nat) (hN : ∀ a ∈ l, a.size ≤ N) (hN2 : N ≤ 4194304) (hl : l.length ≤ 100000)
    (fi pl : ByteArray → Bool) (hfi : ∀ a, a.size ≤ N → line_fine (a, ()) = some (fi a)) (hpl : ∀ a, a.size ≤ N → line_plain (a, ()) = some (pl a))
    (w : World) (hG : GW w) (hF : Forms w) (hm : ∃ m, w.cell? ⟨3, 0, none⟩ = some (.int .i64 m)) (hg : 4 ≤ w.heap.size) (hs : StrSl w l (.slice a0 l.length cap)) :
    Calls Tryd.prog 12 #[.agg #[.int .u8 v, .slice a0 l.length cap]] w fun e w' => e = .returned (.tuple #[.string (writeF fi pl v l 11 0).1, .int .i64 (writeF fi pl v l 11 0).2]) ∧ Below w.heap.size w w' := by
  go_enter Tryd.func12, Tryd.ntmps12
  have hF1 : Forms (w.alloc (.cells #[.int .u8 v, .slice a0 l.length cap] 25)) := hF.keep (alloc_below w _)
  go_wp2_with (refine wpList_load47 rfl rfl hF1 ?_)
  go_loopw [10] (fun i wr => ∃ k : Nat, k ≤ 11 ∧ i = .int .i64 k ∧ Below (w.heap.size + 1) (w.alloc (.cells #[.int .u8 v, .slice a0 l.length cap] 25)) wr ∧ writeF fi pl v l 11 0 = writeF fi pl v l (11 - k) k) (fun i _ => 11 - (intOf i).toNat)
  case atStart => exact ⟨0, by omega, rfl, Below.refl _ _, rfl⟩
  case round =>
    obtain ⟨k, hk, rfl, hlr, hfk⟩ := hrel
    have hlow : Below w.heap.size w wr := (alloc_below w _).trans (hlr.mono (by omega))
    have hsz : w.heap.size < wr.heap.size := by have := hlr.size; simp at this; omega
    have hcb : wr.heap[w.heap.size]? = some (.cells #[.int .u8 v, .slice a0 l.length cap] 25 (0, 0)) := by
      rw [hlr.block w.heap.size (by omega)]
      show (w.heap.push _)[w.heap.size]? = _
      simp
    by_cases hk11 : k < 11
    · have k0 : wr.cell? ⟨w.heap.size, 0, none⟩ = some (.int .u8 v) := by rw [Lib.cell_of_heap hcb]; rfl
      have k1 : wr.cell? ⟨w.heap.size, 1, none⟩ = some (.slice a0 l.length cap) := by rw [Lib.cell_of_heap hcb]; rfl
      have hstep : writeF fi pl v l (11 - k) k = if (formAt k).2.1 ≠ v ∨ (formAt k).2.2 ≠ (l.length : Int) then writeF fi pl v l (11 - (k + 1)) (k + 1) else writeL fi pl l (formAt k).1 := by
        rw [show 11 - k = (11 - (k + 1)) + 1 by omega]; rfl
      rw [hstep] at hfk
      have hb3 := alloc_below wr (.cells #[.string (formAt k).1, .int .u8 (formAt k).2.1, .int .i64 (formAt k).2.2] 46)
      have hl3 := hlr.trans (hb3.mono (show w.heap.size + 1 ≤ wr.heap.size by omega))
      by_cases hv : (formAt k).2.1 = v
      · have hv' : ((formAt k).2.1 != v) = false := by simpa using hv
        by_cases hn : (formAt k).2.2 = (l.length : Int)
        · have hn' : ((formAt k).2.2 != (l.length : Int)) = false := by simpa using hn
          rw [if_neg (by rintro (h | h); exact h hv; exact h hn)] at hfk
          go_wp2_with (refine wpList_index47 rfl _ _ rfl rfl k rfl hk11 ?_)
          have hform := formAt_args' k hk11
          have hl4 : l.length ≤ 4 := by omega
          have hfs := formAt_size k hk11
          go_loopw [6, 31] (fun sv i w2 => ∃ (j : Nat) (s : ByteArray), j ≤ l.length ∧ i = .int .i64 j ∧ sv = .string s ∧ s.size ≤ 6 + j * (4 * N + 4) ∧ Below (w.heap.size + 1) (w.alloc (.cells #[.int .u8 v, .slice a0 l.length cap] 25)) w2 ∧ writeL fi pl l (formAt k).1 = writeL fi pl (l.drop j) s) (fun _ i _ => l.length - (intOf i).toNat)
          case atStart => exact ⟨0, (formAt k).1, by omega, rfl, rfl, by omega, hlr.trans ((alloc_below wr _).mono (show w.heap.size + 1 ≤ wr.heap.size by omega)), by simp⟩
          case round =>
            obtain ⟨j, s, hj, rfl, rfl, hss, hl2, hwl⟩ := hrel
            have hlow2 : Below w.heap.size w wr := (alloc_below w _).trans (hl2.mono (by omega))
            have hs6 : s.size ≤ 100000000 := by
              have : j * (4 * N + 4) ≤ 4 * (4 * N + 4) := Nat.mul_le_mul_right _ (by omega)
              omega
            have hszr : w.heap.size + 1 ≤ wr.heap.size := by have := hl2.size; simp at this; omega
            by_cases hjl : j < l.length
            · obtain ⟨b, o, hab, hbl, hcx, hxl, hdrop⟩ := sl_at hs hjl
              generalize l.getD j ByteArray.empty = x at hcx hxl hdrop
              subst hab
              have hxN := hN x hxl
              have hc0 : wr.cell? ⟨b, o + j, none⟩ = some (.string x) := (hlow2.cell (p := ⟨b, o + j, none⟩) hbl).trans hcx
              rw [hdrop] at hwl
              have hGr := gw_keep hG hlow2
              go_wp2_with (go_at_call 17; refine (fine_call (hfi x hxN) _ hGr).mono ?_)
              rintro e w3 ⟨rfl, b3⟩
              have hlow3 := hlow2.trans (b3.mono hlow2.size)
              cases hfx : fi x with
              | false =>
                go_wp2
                go_ret2
                rw [hfk, hwl]
                simp only [writeL, hfx, if_true]
                exact ⟨rfl, hlow3⟩
              | true =>
                have hGr3 := gw_keep hGr b3
                go_wp2_with (go_at_call 18; refine (plain_call (hpl x hxN) _ hGr3).mono ?_)
                rintro e w4 ⟨rfl, b4⟩
                have hlow4 := hlow3.trans (b4.mono hlow3.size)
                have hl4' : Below (w.heap.size + 1) (w.alloc (.cells #[.int .u8 v, .slice (some ⟨b, o, none⟩) l.length cap] 25)) w4 := hl2.trans ((b3.mono (by omega)).trans (b4.mono (by have := b3.size; omega)))
                simp only [writeL, hfx] at hwl
                rw [if_neg (by decide)] at hwl
                cases hpx : pl x with
                | true =>
                  rw [if_pos hpx] at hwl
                  have q1 : ¬ 9223372036854775807 < s.size + (1 + x.size) := by omega
                  go_wp2
                  go_roundw
                  case rel => exact ⟨j + 1, _, by omega, by simp, rfl, sz1 hss hxN, hl4', hwl⟩
                  case measure => simp [intOf]; omega
                | false =>
                  rw [if_neg (by rw [hpx]; decide)] at hwl
                  have hm4 : ∃ m, w4.cell? ⟨3, 0, none⟩ = some (.int .i64 m) := by
                    obtain ⟨m, hm⟩ := hm
                    exact ⟨m, (hlow4.cell (p := ⟨3, 0, none⟩) hg).trans hm⟩
                  go_wp2_with (go_at_call 19; refine (repl_call x 92 92 (by omega) _ hm4).mono ?_)
                  rintro e w5 ⟨rfl, b5⟩
                  have hlow5 := hlow4.trans (b5.mono hlow4.size)
                  have hm5 : ∃ m, w5.cell? ⟨3, 0, none⟩ = some (.int .i64 m) := by
                    obtain ⟨m, hm⟩ := hm
                    exact ⟨m, (hlow5.cell (p := ⟨3, 0, none⟩) hg).trans hm⟩
                  have hy1 := replB_len 92 92 92 x.data.toList
                  have hxd : x.data.toList.length = x.size := by rw [Array.length_toList]; rfl
                  have hy1s : (⟨(replB 92 [92, 92] x.data.toList).toArray⟩ : ByteArray).size = (replB 92 [92, 92] x.data.toList).length := by simp [ByteArray.size]
                  go_wp2_with (go_at_call 19; refine (repl_call ⟨(replB 92 [92, 92] x.data.toList).toArray⟩ 34 92 (by omega) _ hm5).mono ?_)
                  rintro e w6 rfl b6
                  have hy2 := replB_len 34 92 34 (replB 92 [92, 92] x.data.toList)
                  have hye : (⟨(replB 34 [92, 34] (⟨(replB 92 [92, 92] x.data.toList).toArray⟩ : ByteArray).data.toList).toArray⟩ : ByteArray) = escB x := by unfold escB; simp
                  rw [hye]
                  have hys : (escB x).size ≤ 4 * N := by
                    have : (escB x).size = (replB 34 [92, 34] (replB 92 [92, 92] x.data.toList)).length := by unfold escB; simp [ByteArray.size]
                    omega
                  generalize escB x = y at hwl hys
                  have hl6 := hl4'.trans ((b5.mono (by have := hl4'.size; simp at this; omega)).trans (b6.mono (by have := hl4'.size; simp at this; have := b5.size; omega)))
                  have q1 : ¬ 9223372036854775807 < s.size + (2 + y.size + 1) := by omega
                  have q2 : ¬ 9223372036854775807 < 2 + y.size + 1 := by omega
                  have q3 : ¬ 9223372036854775807 < 2 + y.size := by omega
                  go_wp2
                  go_roundw
                  case rel => exact ⟨j + 1, _, by omega, by simp, rfl, sz2 hss hys, hl6, hwl⟩
                  case measure => simp [intOf]; omega
            · obtain rfl : j = l.length := by omega
              rw [List.drop_length] at hwl
              by_cases h300 : s.size > 300
              · go_wp2
                go_ret2
                rw [hfk, hwl]
                simp only [writeL, if_pos h300]
                exact ⟨rfl, hlow2⟩
              · go_wp2
                go_ret2
                rw [hfk, hwl]
                simp only [writeL, if_neg h300]
                exact ⟨rfl, hlow2⟩
        · have hn' : ((formAt k).2.2 != (l.length : Int)) = true := by simpa using hn
          rw [if_pos (.inr hn)] at hfk
          go_wp2_with (refine wpList_index47 rfl _ _ rfl rfl k rfl hk11 ?_)
          go_roundw
          case rel => exact ⟨k + 1, by omega, by simp, hlr.trans ((alloc_below wr _).mono (show w.heap.size + 1 ≤ wr.heap.size by omega)), hfk⟩
          case measure => simp [intOf]; omega
      · have hv' : ((formAt k).2.1 != v) = true := by simpa using hv
        rw [if_pos (.inl hv)] at hfk
        go_wp2_with (refine wpList_index47 rfl _ _ rfl rfl k rfl hk11 ?_)
        go_roundw
        case rel => exact ⟨k + 1, by omega, by simp, hlr.trans ((alloc_below wr _).mono (show w.heap.size + 1 ≤ wr.heap.size by omega)), hfk⟩
        case measure => simp [intOf]; omega
    · obtain rfl : k = 11 := by omega
      have hfn : writeF fi pl v l 11 0 = (ByteArray.empty, 3) := hfk
      go_wp2
      go_ret2
      rw [hfn]
      exact ⟨rfl, hlow⟩
end Go.Px.LinC
