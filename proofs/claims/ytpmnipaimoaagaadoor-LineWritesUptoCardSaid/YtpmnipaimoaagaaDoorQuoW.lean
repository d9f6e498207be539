/- line.wrong and line.quoted: what they hand back. -/
import Derived.Test.YtpmnipaimoaagaaDoorWr
import Derived.Test.YtpmnipaimoaagaaDoorQG
import Derived.Test.YtpmnipaimoaagaaDoorPxC
set_option linter.unusedVariables false
set_option linter.unusedSimpArgs false
namespace Go.Px.Quo
open Go Go.RowKit Go.Proofs

set_option maxHeartbeats 1000000 in
set_option maxRecDepth 100000 in
theorem wrong (s : ByteArray) (a : Nat) (r : Int) (w : World) (hT : Lib.Utf8Tabs 1 2 w) (ha : a ≤ s.size) :
    Calls Tryd.prog 26 #[.string s, .int .i64 a, .int .i32 r] w fun e w' => e = .returned (.bool (wrongB s a r)) ∧ Below w.heap.size w w' := by
  go_enter Tryd.func26, Tryd.ntmps26
  go_wp2_with (go_at_call 30; refine (Tryd.utf8_DecodeRuneInString _ _ hT).mono ?_)
  rintro e w1 ⟨rfl, b1⟩
  go_wp2
  all_goals (go_ret; rename_i h; exact ⟨by simp [wrongB, Lib.decodeGo, h], b1⟩)
theorem wrongI (s : ByteArray) (a : Nat) (k r : Int) (hk : k = a) (w : World) (hT : Lib.Utf8Tabs 1 2 w) (ha : a ≤ s.size) :
    Calls Tryd.prog 26 #[.string s, .int .i64 k, .int .i32 r] w fun e w' => e = .returned (.bool (wrongB s a r)) ∧ Below w.heap.size w w' := by
  subst hk; exact wrong s a r w hT ha

theorem width_pos (s : ByteArray) (pos : Nat) (h : pos < s.size) : 1 ≤ (Utf8.decode s pos).2 := by
  by_cases ha : (s[pos]'h).toNat < 128
  · rw [decode_ascii s pos h ha]
    exact Nat.le_refl _
  · exact (decode_high s pos h (by omega)).2
/-- the builder, the iterator above it, all below as it was -/
structure R (s : ByteArray) (a : Nat) (w wr : World) (pos : Nat) (acc : List UInt8) : Prop where
  bld : Lib.IsBuilder 64 5 w.heap.size w.heap.size (Lib.byteCells acc) wr
  cells : ∃ p0 v0, wr.heap[w.heap.size]? = some (.cells #[p0, v0] 64 (0, 0)) ∧ v0.ownBlock ≠ some (w.heap.size + 1)
  it : wr.heap[w.heap.size + 1]? = some (.stringIter (s.extract a s.size) pos)
  low : Below w.heap.size w wr

theorem tabs {w w1 : World} (hT : Lib.Utf8Tabs 1 2 w) (hg : 3 ≤ w.heap.size) (hb : Below w.heap.size w w1) : Lib.Utf8Tabs 1 2 w1 := by
  have h1 : w1.heap[1]? = w.heap[1]? := hb.block 1 (by omega)
  have h2 : w1.heap[2]? = w.heap[2]? := hb.block 2 (by omega)
  have e1 : ∀ c, w1.cell? ⟨1, c, none⟩ = w.cell? ⟨1, c, none⟩ := fun c => by simp [World.cell?, h1]
  have e2 : ∀ c, w1.cell? ⟨2, c, none⟩ = w.cell? ⟨2, c, none⟩ := fun c => by simp [World.cell?, h2]
  exact ⟨fun c hc => by rw [e1]; exact hT.1 c hc, fun i hi => by rw [e2, e2]; exact hT.2 i hi⟩
theorem iterAt {B b : Nat} {bs : List Value} {w : World} (h : Lib.IsBuilder 64 5 B b bs w) {k : Nat} {s : ByteArray} {pos : Nat} (hk : w.heap[k]? = some (.stringIter s pos)) (pos' : Nat) :
    Lib.IsBuilder 64 5 B b bs (w.iterAt k s pos') := by
  have key : ∀ p, Lib.BuilderAt 64 5 B b p bs w → Lib.BuilderAt 64 5 B b p bs (w.iterAt k s pos') := fun p h => by
    obtain ⟨hB, v, hb, hown, hne⟩ := h
    have hkb : b ≠ k := by
      intro e1
      rw [e1, hk] at hb
      cases hb
    refine ⟨hB, v, (Lib.iterAt_other w k b s pos' hkb).trans hb, ⟨hown.1, ?_⟩, hne⟩
    rcases hown.2 with hn | ⟨g, cap, cur, hv, hbg, hg, rest⟩
    · exact .inl hn
    · have hkg : g ≠ k := by
        intro e1
        rw [e1, hk] at hg
        cases hg
      exact .inr ⟨g, cap, cur, hv, hbg, (Lib.iterAt_other w k g s pos' hkg).trans hg, rest⟩
  exact h.imp (key _) (key _)
theorem R.next {s : ByteArray} {a : Nat} {w wr : World} {pos : Nat} {acc : List UInt8} (h : R s a w wr pos acc) (pos' : Nat) : R s a w (wr.iterAt (w.heap.size + 1) (s.extract a s.size) pos') pos' acc := by
  obtain ⟨p0, v0, h1, h2⟩ := h.cells
  exact ⟨iterAt h.bld h.it pos', ⟨p0, v0, by rw [Lib.iterAt_other _ _ _ _ _ (by omega)]; exact h1, h2⟩, Lib.iterAt_heap _ _ _ _ _ h.it, Lib.below_iterAt h.low (by omega) _ _⟩
theorem R.size {s : ByteArray} {a : Nat} {w wr : World} {pos : Nat} {acc : List UInt8} (h : R s a w wr pos acc) : w.heap.size + 1 < wr.heap.size := (Array.getElem?_eq_some_iff.1 h.it).1
theorem frame {B b : Nat} {bs : List Value} {wr w1 : World} (hk : ∀ (k : Nat) (o : Obj), wr.heap[k]? = some o → w1.heap[k]? = some o) (h : Lib.IsBuilder 64 5 B b bs wr) : Lib.IsBuilder 64 5 B b bs w1 := by
  have key : ∀ p, Lib.BuilderAt 64 5 B b p bs wr → Lib.BuilderAt 64 5 B b p bs w1 := fun p h => by
    obtain ⟨hB, v, hb, hown, hne⟩ := h
    refine ⟨hB, v, hk _ _ hb, ⟨hown.1, ?_⟩, hne⟩
    rcases hown.2 with hn | ⟨g, cap, cur, hv, hbg, hg, rest⟩
    · exact .inl hn
    · exact .inr ⟨g, cap, cur, hv, hbg, hk _ _ hg, rest⟩
  exact h.imp (key _) (key _)
/-- behind a call that lays new blocks only -/
theorem R.below {s : ByteArray} {a : Nat} {w wr w1 : World} {pos : Nat} {acc : List UInt8} (h : R s a w wr pos acc) (hb : Below wr.heap.size wr w1) : R s a w w1 pos acc := by
  obtain ⟨p0, v0, h1, h2⟩ := h.cells
  have hs := h.size
  have hk : ∀ k o, wr.heap[k]? = some o → w1.heap[k]? = some o := fun k o e => by rw [hb.block k (Array.getElem?_eq_some_iff.1 e).1]; exact e
  exact ⟨frame hk h.bld, ⟨p0, v0, hk _ _ h1, h2⟩, hk _ _ h.it, h.low.trans (hb.mono (by omega))⟩
theorem R.start (s : ByteArray) (a : Nat) (w : World) : R s a w ((w.alloc (.cells #[.pointer none, .slice none 0 0] 64)).alloc (.stringIter (s.extract a s.size) 0)) 0 [] := by
  have hk : ∀ (w : World) (o1 : Obj) (k : Nat) (o : Obj), w.heap[k]? = some o → (w.alloc o1).heap[k]? = some o := fun w o1 k o e => by
    rw [Lib.alloc_old w o1 k (Array.getElem?_eq_some_iff.1 e).1]; exact e
  refine ⟨frame (hk _ _) (Lib.fresh_isBuilder 64 5 w), ⟨.pointer none, .slice none 0 0, hk _ _ _ _ ?_, by simp [Value.ownBlock]⟩, ?_, ((Below.refl _ w).alloc (Nat.le_refl _) _).alloc (by simp) _⟩
  · show (w.heap.push _)[w.heap.size]? = _; simp
  · have := World.iter_heap (w.alloc (.cells #[.pointer none, .slice none 0 0] 64)) (s.extract a s.size) 0
    simpa [World.iter] using this
/-- a rune was written -/
theorem R.wrote {s : ByteArray} {a : Nat} {w wr w1 : World} {pos : Nat} {acc : List UInt8} {r : Int} {v0 : Value} (h : R s a w wr pos acc) (h2 : v0.ownBlock ≠ some (w.heap.size + 1)) (hv : ∀ g, v0.ownBlock = some g → w.heap.size ≤ g)
    (hb : Lib.BuilderAt 64 5 w.heap.size w.heap.size (.pointer (some ⟨w.heap.size, 0, none⟩)) (Lib.byteCells acc ++ Lib.runeCells r) w1) (hl : Wr.Left w.heap.size v0.ownBlock wr w1) : R s a w w1 pos (acc ++ Lib.encodeRune r) := by
  have hs := h.size
  obtain ⟨_, v, hb1, hown, hne⟩ := id hb
  have hit : w1.heap[w.heap.size + 1]? = some (.stringIter (s.extract a s.size) pos) := by
    rw [hl.block _ hs (by omega) (fun e => h2 e.symm)]; exact h.it
  refine ⟨.inr ?_, ⟨_, v, hb1, fun e => ?_⟩, hit, h.low.trans ⟨hl.os, hl.tape, hl.output, ?_, fun k hk => hl.block k (by omega) (by omega) (fun e => ?_)⟩⟩
  · rw [Lib.byteCells_append, Lib.byteCells_encodeRune]; exact hb
  · rcases hown.2 with ⟨hn, _⟩ | ⟨g, cap, cur, hv, hbg, hg, rest⟩
    · rw [hn] at e; cases e
    · rw [hv] at e
      have e : g = w.heap.size + 1 := by simpa [Value.ownBlock] using e
      rw [e, hit] at hg; cases hg
  · have := hl.size; omega
  · have := hv k e.symm; omega

theorem own_ge {B b : Nat} {bs : List Value} {w : World} {p0 v0 : Value} (h : Lib.IsBuilder 64 5 B b bs w) (h0 : w.heap[b]? = some (.cells #[p0, v0] 64 (0, 0))) : ∀ g, v0.ownBlock = some g → B ≤ g := by
  have key : ∀ p, Lib.BuilderAt 64 5 B b p bs w → ∀ g, v0.ownBlock = some g → B ≤ g := fun p h g hg => by
    obtain ⟨_, v, hb, hown, _⟩ := h
    rw [h0] at hb
    cases hb
    rcases hown.2 with ⟨hn, _⟩ | ⟨g', cap, cur, hv, hbg, _⟩
    · rw [hn] at hg; cases hg
    · rw [hv] at hg
      have : g' = g := by simpa [Value.ownBlock] using hg
      omega
  exact h.elim (key _) (key _)
set_option maxHeartbeats 4000000 in
set_option maxRecDepth 1000000 in
theorem quoted (s : ByteArray) (a : Nat) (w : World) (hT : Lib.Utf8Tabs 1 2 w) (hg : 3 ≤ w.heap.size) (ha : a ≤ s.size) (hs : s.size ≤ 35184372088832) :
    Calls Tryd.prog 20 #[.string s, .int .i64 a] w fun e w' => e = .returned (.tuple #[.string (quotedG s a).1, .int .i64 (quotedG s a).2.1, .bool (quotedG s a).2.2]) ∧ Below w.heap.size w w' := by
  go_enter Tryd.func20, Tryd.ntmps20
  go_wp2
  go_loopw [8] (fun o wr => ∃ (pos fuel : Nat) (op : Bool) (acc : List UInt8), o = .bool op ∧ R s a w wr pos acc ∧ qG s a fuel pos op acc = quotedG s a ∧ s.size ≤ pos + fuel ∧ acc.length ≤ 4 * pos) (fun _ wr => s.size - wr.iterPos (w.heap.size + 1))
  case atStart => exact ⟨0, s.size, false, [], rfl, R.start s a w, rfl, by omega, by simp⟩
  case round =>
    obtain ⟨pos, fuel, op, acc, rfl, hR, hq, hfu, hal⟩ := hrel
    have hes : (s.extract a s.size).size = s.size - a := by simp
    by_cases hp : pos < (s.extract a s.size).size
    · have hnx : ∀ ty, (Instr.next (.pointer (some ⟨w.heap.size + 1, 0, none⟩)) true ty).run Tryd.prog wr = _ := fun ty => Lib.run_next_any_at wr (w.heap.size + 1) _ pos ty hR.it hp
      have hwd := width_pos _ pos hp
      have hd1 := decode_le (s.extract a s.size) pos
      have hR2 := hR.next (pos + (Utf8.decode (s.extract a s.size) pos).2)
      obtain ⟨f, rfl⟩ : ∃ f, fuel = f + 1 := ⟨fuel - 1, by omega⟩
      have hT2 : Lib.Utf8Tabs 1 2 (wr.iterAt (w.heap.size + 1) (s.extract a s.size) (pos + (Utf8.decode (s.extract a s.size) pos).2)) := tabs hT hg hR2.low
      rw [qG, if_pos hp] at hq
      dsimp only at hq
      generalize hdr : (Utf8.decode (s.extract a s.size) pos).1 = r at *
      generalize hdn : (Utf8.decode (s.extract a s.size) pos).2 = n at *
      by_cases h1 : (r : Int) < 32
      · rw [if_pos (.inl h1)] at hq
        go_wp2
        go_ret3
        rw [← hq]
        exact ⟨by simp; rfl, hR2.low⟩
      by_cases h2 : (r : Int) = 127
      · rw [if_pos (.inr (.inl h2))] at hq
        go_wp2
        go_ret3
        rw [← hq]
        exact ⟨by simp; rfl, hR2.low⟩
      go_wp2_with (go_at_call 26; refine (wrongI s (a + pos) _ _ (by push_cast; rfl) _ hT2 (by omega)).mono ?_)
      rintro e W1 rfl b1
      have hR3 := hR2.below b1
      cases hw : wrongB s (a + pos) r with
      | true =>
        rw [if_pos (.inr (.inr (.inl hw)))] at hq
        go_wp2
        go_ret3
        rw [← hq]
        exact ⟨by simp; rfl, hR3.low⟩
      | false =>
      have hd8 : acc.length + 4 ≤ 140737488355328 := by omega
      obtain ⟨p0, v0, hc0, hc1⟩ := hR3.cells
      have hv0 : ∀ g, v0.ownBlock = some g → w.heap.size ≤ g := own_ge hR3.bld hc0
      have hWR := fun (W : World) (hW : W = W1) => Wr.writeRune w.heap.size w.heap.size (Lib.byteCells acc) (r : Int) (by omega) (by omega) p0 v0 W (by rw [hW]; exact hR3.bld) (by rw [hW]; exact hc0) (by rw [Lib.byteCells_length]; exact hd8) (by rw [hW]; have := hR3.size; omega)
      have hfin : ∀ W2, Lib.BuilderAt 64 5 w.heap.size w.heap.size (.pointer (some ⟨w.heap.size, 0, none⟩)) (Lib.byteCells acc ++ Lib.runeCells (r : Int)) W2 → Wr.Left w.heap.size v0.ownBlock W1 W2 → R s a w W2 (pos + n) (acc ++ Lib.encodeRune (r : Int)) := fun W2 hb hl => hR3.wrote hc1 hv0 hb hl
      have hl4 := Lib.runeCells_le (r : Int)
      rw [Lib.runeCells_length] at hl4
      cases op with
      | true =>
        by_cases h3 : (r : Int) = 34
        · obtain rfl : r = 34 := by omega
          have hw' : wrongB s (a + pos) (34 : Int) = false := hw
          rw [if_neg (by simp [hw']), if_neg (by simp), if_neg (by simp)] at hq
          go_wp2_with (go_at_call 29; refine (hWR _ rfl).mono ?_)
          rintro e W2 ⟨u, rfl, hb, hl⟩
          go_wp2
          go_roundw
          case rel => exact ⟨pos + n, f, false, _, rfl, hfin _ hb hl, hq, by omega, by simp only [List.length_append]; omega⟩
          case measure =>
            simp only [World.iterPos, (hfin _ hb hl).it, hR.it]
            omega
        · by_cases h4 : (r : Int) = 92
          · obtain rfl : r = 92 := by omega
            have hw' : wrongB s (a + pos) (92 : Int) = false := hw
            rw [if_neg (by simp [hw']), if_neg (by simp), if_neg (by simp)] at hq
            go_wp2_with (go_at_call 29; refine (hWR _ rfl).mono ?_)
            rintro e W2 ⟨u, rfl, hb, hl⟩
            go_wp2
            go_roundw
            case rel => exact ⟨pos + n, f, false, _, rfl, hfin _ hb hl, hq, by omega, by simp only [List.length_append]; omega⟩
            case measure =>
              simp only [World.iterPos, (hfin _ hb hl).it, hR.it]
              omega
          · rw [if_pos (.inr (.inr (.inr ⟨rfl, h3, h4⟩)))] at hq
            have k3 : ((r : Int) != 34) = true := by simpa using h3
            have k4 : ((r : Int) != 92) = true := by simpa using h4
            go_wp2
            go_ret3
            rw [← hq]
            exact ⟨by simp; rfl, hR3.low⟩
      | false =>
        rw [if_neg (by simp [h1, h2, hw])] at hq
        by_cases h4 : (r : Int) = 92
        · obtain rfl : r = 92 := by omega
          rw [if_pos ⟨rfl, h4⟩] at hq
          go_wp2
          go_roundw
          case rel => exact ⟨pos + n, f, true, acc, rfl, hR3, hq, by omega, by omega⟩
          case measure =>
            simp only [World.iterPos, hR3.it, hR.it]
            omega
        · rw [if_neg (fun h => h4 h.2)] at hq
          by_cases h3 : (r : Int) = 34
          · obtain rfl : r = 34 := by omega
            rw [if_pos ⟨rfl, h3⟩] at hq
            have hST := Tryd.Builder_String_any w.heap.size w.heap.size acc W1 hR3.bld (by have := hR3.size; omega)
            by_cases h5 : a + pos + 1 < s.size
            · rw [dif_pos h5] at hq
              have k5 : (a : Int) + (pos : Int) + 1 < (s.size : Int) := by omega
              by_cases h6 : ((s[a + pos + 1]'h5).toNat : Int) = 32
              · rw [if_neg (fun h => h h6)] at hq
                go_wp2_with (go_at_call 28; refine hST.mono ?_)
                rintro e W2 ⟨rfl, b2⟩
                go_wp2
                go_ret3
                rw [← hq]
                exact ⟨by simp, hR3.low.trans b2⟩
              · rw [if_pos h6] at hq
                have k6 : (((s[a + pos + 1]'h5).toNat : Int) != 32) = true := by simpa using h6
                go_wp2
                go_ret3
                rw [← hq]
                exact ⟨by simp; rfl, hR3.low⟩
            · rw [dif_neg h5] at hq
              have k5 : decide ((a : Int) + (pos : Int) + 1 < (s.size : Int)) = false := by simpa using (by omega : ¬ ((a : Int) + (pos : Int) + 1 < (s.size : Int)))
              have k5' : ¬ ((a : Int) + (pos : Int) + 1 < (s.size : Int)) := by omega
              go_wp2_with (go_at_call 28; refine hST.mono ?_)
              rintro e W2 ⟨rfl, b2⟩
              go_wp2
              go_ret3
              rw [← hq]
              exact ⟨by simp, hR3.low.trans b2⟩
          · rw [if_neg (fun h => h3 h.2)] at hq
            have k3 : ((r : Int) == 34) = false := by simpa using h3
            have k4 : ((r : Int) == 92) = false := by simpa using h4
            go_wp2_with (go_at_call 29; refine (hWR _ rfl).mono ?_)
            rintro e W2 ⟨u, rfl, hb, hl⟩
            go_wp2
            go_roundw
            case rel => exact ⟨pos + n, f, false, _, rfl, hfin _ hb hl, hq, by omega, by simp only [List.length_append]; omega⟩
            case measure =>
              simp only [World.iterPos, (hfin _ hb hl).it, hR.it]
              omega
    · have hnx : ∀ ty, (Instr.next (.pointer (some ⟨w.heap.size + 1, 0, none⟩)) true ty).run Tryd.prog wr = _ := fun ty => Lib.run_next_end_at wr (w.heap.size + 1) _ pos ty hR.it hp
      go_wp2
      go_ret3
      have e : qG s a fuel pos op acc = (ByteArray.empty, (s.size : Int), false) := by
        cases fuel with
        | zero => rfl
        | succ f => rw [qG, if_neg hp]
      rw [← hq, e]
      exact ⟨rfl, hR.low⟩
end Go.Px.Quo
