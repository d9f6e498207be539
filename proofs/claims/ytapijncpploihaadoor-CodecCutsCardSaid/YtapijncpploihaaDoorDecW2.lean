/- codec.Decode walked: bytes that are some. -/
import Derived.Test.YtapijncpploihaaDoorDecW
import Derived.Deep.RegionHeld3
set_option linter.unusedVariables false
set_option linter.unusedSimpArgs false
namespace Go.Px.CodC
open Go Go.RowKit Go.Proofs Go.Px Go.Px.Pu
theorem Vars.at' {w W : World} {lv : Value} {b o cap k : Nat} {P : List Int} (h : Vars w W lv (some ⟨b, o, none⟩) P.length cap k) : At w (w.heap.size + 1 + 1) b o cap P W k := ⟨h.low, h.r⟩
theorem Vars.next {w W W' : World} {lv : Value} {b o cap k k' : Nat} {P : List Int} (h : Vars w W lv (some ⟨b, o, none⟩) P.length cap k) (hg : W.grownBy W' (some (w.heap.size + 1 + 1))) (hA : At w (w.heap.size + 1 + 1) b o cap P W' k') : Vars w W' lv (some ⟨b, o, none⟩) P.length cap k' :=
  ⟨hA.low, h.l.grown hg (by simp; omega), h.e.grown hg (by simp), hA.rd⟩
/-- an equation that the walk is not to see -/
def Hid (p : Prop) : Prop := p
theorem low2 {n : Nat} {w W : World} {p q : Addr} {x y : Value} (h : Below n w W) (hp : n ≤ p.block) (hq : n ≤ q.block) : Below n w ((W.setCell p x).setCell q y) := by
  refine ⟨h.os, h.tape, h.output, by simpa [World.setCell] using h.size, fun k hk => ?_⟩
  rw [← h.block k hk]
  have g1 : p.block ≠ k := by omega
  have g2 : q.block ≠ k := by omega
  simp [World.setCell, Array.getElem?_modify, g1, g2]
theorem own_set3 {w : World} {B j : Nat} {q : Value} {xs : List Value} (h : w.ownsRow B 34 3 q j xs) (p : Addr) (hp : p.block < B) (v : Value) : (w.setCell p v).ownsRow B 34 3 q j xs := by
  refine ⟨h.1, ?_⟩
  rcases h.2 with hn | ⟨g, cap, cur, rfl, hb, hgg, rest⟩
  · exact .inl hn
  · refine .inr ⟨g, cap, cur, rfl, hb, ?_, rest⟩
    have : p.block ≠ g := by omega
    simp [World.setCell, Array.getElem?_modify, this, hgg]
theorem own_grown3 {w w' : World} {B j : Nat} {q : Value} {xs : List Value} (h : w.ownsRow B 34 3 q j xs) {r : Option Nat} (hg : w.grownBy w' r) (hr : ∀ b, r = some b → b < B) : w'.ownsRow B 34 3 q j xs := by
  refine ⟨h.1, ?_⟩
  rcases h.2 with hn | ⟨g, cap, cur, rfl, hb, hgg, rest⟩
  · exact .inl hn
  · refine .inr ⟨g, cap, cur, rfl, hb, ?_, rest⟩
    rw [hg.block g (Array.getElem?_eq_some_iff.1 hgg).1 (fun e => by have := hr g e.symm; omega)]
    exact hgg
theorem own_slice3 {w : World} {B j : Nat} {q : Value} {xs : List Value} (h : w.ownsRow B 34 3 q j xs) : ∃ a n c, q = .slice a n c := by
  rcases h.2 with ⟨rfl, _⟩ | ⟨g, cap, cur, rfl, _⟩
  · exact ⟨_, _, _, rfl⟩
  · exact ⟨_, _, _, rfl⟩
theorem Vars.app {w w2 w3 : World} {lv : Value} {a : Option Addr} {n cap k j : Nat} {q : Value} {xs : List Value} {ob : Obj} (h : Vars w w2 lv a n cap k) (hown : w2.ownsRow (w.heap.size + 1 + 1 + 1) 34 3 q j xs) (hg : (w2.alloc ob).grownBy w3 q.ownBlock) : Vars w w3 lv a n cap k := by
  have h1 := h.keep (alloc_below w2 ob)
  have hne : ∀ c, c < w.heap.size + 1 + 1 + 1 → some c ≠ q.ownBlock := fun c hc e => by
    have := (hown.lt c e.symm).1
    omega
  have hsz := h1.r.lt
  exact ⟨h1.low.trans ⟨hg.os, hg.tape, hg.output, hg.size, fun c hc => hg.block c (by omega) (hne c (by omega))⟩, h1.l.grown hg (hne _ (by omega)), h1.e.grown hg (hne _ (by omega)), h1.r.keep (hg.block _ hsz (hne _ (by omega)))⟩
theorem Vars.setL {w W : World} {lv : Value} {a : Option Addr} {n cap k : Nat} (h : Vars w W lv a n cap k) (v : Value) : Vars w (W.setCell ⟨w.heap.size, 0, none⟩ v) v a n cap k := by
  refine ⟨⟨h.low.os, h.low.tape, h.low.output, by simpa [World.setCell] using h.low.size, fun c hc => ?_⟩, h.l.set v, h.e.other (by omega) v, ⟨?_⟩⟩
  · rw [← h.low.block c hc]
    have g1 : w.heap.size ≠ c := by omega
    simp [World.setCell, Array.getElem?_modify, g1]
  · have g1 : w.heap.size ≠ w.heap.size + 1 + 1 := by omega
    simp [World.setCell, Array.getElem?_modify, g1, h.r.at']
theorem Vars.drew {w W : World} {lv : Value} {a : Option Addr} {n cap k : Nat} (h : Vars w W lv a n cap k) : Vars w W.drew lv a n cap k := ⟨⟨h.low.os, h.low.tape, h.low.output, h.low.size, h.low.block⟩, ⟨h.l.at'⟩, ⟨h.e.at'⟩, ⟨h.r.at'⟩⟩
theorem rd_on {n k : Nat} {P : List Int} {acc : List Val} {x : Val} {k' : Nat} (hlt : acc.length < n) (h : Hid (rdN n P 1 [] = rdN (n - acc.length) P k acc)) (hr : rdF P k = some (x, k')) : Hid (rdN n P 1 [] = rdN (n - (acc ++ [x]).length) P k' (acc ++ [x])) := by
  have h : rdN n P 1 [] = rdN (n - acc.length) P k acc := h
  show rdN n P 1 [] = _
  rw [h, show n - acc.length = (n - (acc ++ [x]).length) + 1 by simp; omega]
  simp only [rdN, hr]
theorem rd_le {k : Nat} {P : List Int} (hb : bys P) {x : Val} {k' : Nat} (hr : rdF P k = some (x, k')) : k' ≤ P.length := by
  unfold rdF at hr
  cases h : rdVal P k with
  | none => rw [h] at hr; cases hr
  | some y =>
    rw [h] at hr
    dsimp only at hr
    split at hr
    · cases hr; exact (rd_enc hb h).2.1
    · cases hr
theorem flat_on {W : World} {q : Value} {B : Nat} (acc : List Val) (x : Val) (h : W.ownsRow B 34 3 q (acc.length + 1) (flat HC acc ++ [.int .u8 x.1, .int .i64 x.2.1, .string x.2.2.1])) : W.ownsRow B 34 3 q (acc ++ [x]).length (flat HC (acc ++ [x])) := by
  have e : flat HC (acc ++ [x]) = flat HC acc ++ [.int .u8 x.1, .int .i64 x.2.1, .string x.2.2.1] := by
    unfold flat
    rw [List.flatMap_append]
    rfl
  rw [e, List.length_append]
  exact h
theorem fin_dead {P : List Int} {n k : Nat} {acc : List Val} (hd : decV P = match rdN n P 1 [] with
    | some x => if x.2 = P.length then some x.1 else none
    | none => none) (hlt : acc.length < n) (h : Hid (rdN n P 1 [] = rdN (n - acc.length) P k acc)) (hr : rdF P k = none) : Hid (decO P = ([], 3, ())) := by
  have h : rdN n P 1 [] = rdN (n - acc.length) P k acc := h
  refine decO_bad ?_
  rw [hd, h, show n - acc.length = (n - acc.length - 1) + 1 by omega]
  simp only [rdN, hr]
theorem dead_end {w w1 w2 : World} {lv : Value} {a : Option Addr} {n cap k : Nat} (V : Vars w w1 lv a n cap k) (hg : w1.grownBy w2 (some (w.heap.size + 1 + 1))) {tmps : Array Value} (h2 : tmps.getD 2 undef = .pointer (some ⟨w.heap.size, 0, none⟩)) (h3 : tmps.getD 3 undef = .pointer (some ⟨w.heap.size + 1, 0, none⟩)) {P : List Int} (hy : Hid (decO P = ([], 3, ()))) :
    Leaves Tryd.prog Tryd.f22 tmps (DecPost w (decO P)) [⟨.fn (.func 34) #[.pointer (some ⟨w.heap.size, 0, none⟩), .pointer (some ⟨w.heap.size + 1, 0, none⟩)], #[]⟩] (.panicking chain) w2 := by
  have hne : ∀ c, c < w.heap.size + 1 + 1 → some c ≠ some (w.heap.size + 1 + 1) := fun c hc e => by
    have := Option.some.inj e
    omega
  have hlow : Below w.heap.size w w2 := V.low.trans ⟨hg.os, hg.tape, hg.output, hg.size, fun c hc => hg.block c (Nat.lt_of_lt_of_le hc V.low.size) (hne c (by omega))⟩
  exact leave_dead res22' h2 h3 (V.l.grown hg (hne _ (by omega))) (V.e.grown hg (hne _ (by omega))) (by omega) fun w' hb => post_bad hy (hlow.trans (hb _ (Nat.le_refl _) (Nat.le_succ _)))
theorem fin_long {P : List Int} {n k : Nat} {acc : List Val} (h0 : P.length ≠ 0) (hd : decV P = match rdN n P 1 [] with
    | some x => if x.2 = P.length then some x.1 else none
    | none => none) (hrd : rdN n P 1 [] = rdN (n - n) P k acc) (hk : k < P.length) : Hid (decO P = ([], 3, ())) := by
  refine decO_bad ?_
  rw [hd, hrd, Nat.sub_self]
  exact if_neg (Nat.ne_of_lt hk)
theorem fin_good {P : List Int} {n : Nat} {acc : List Val} (hd : decV P = match rdN n P 1 [] with
    | some x => if x.2 = P.length then some x.1 else none
    | none => none) (hrd : rdN n P 1 [] = rdN (n - n) P P.length acc) : Hid (decO P = (acc, 0, ())) := by
  refine decO_ok ?_
  rw [hd, hrd, Nat.sub_self]
  exact if_pos rfl
theorem decV_big {P : List Int} {n : Nat} (h0 : P.length ≠ 0) (hn : P.getD 0 0 = (n : Int)) (h : 12 < n) : decV P = none := by
  unfold decV
  rw [if_neg h0, hn, if_pos (by omega)]
theorem decV_small {P : List Int} {n : Nat} (h0 : P.length ≠ 0) (hn : P.getD 0 0 = (n : Int)) (h : ¬ 12 < n) : decV P = match rdN n P 1 [] with
    | some x => if x.2 = P.length then some x.1 else none
    | none => none := by
  unfold decV
  rw [if_neg h0, hn, if_neg (by omega), Int.toNat_natCast]
  cases rdN n P 1 [] <;> rfl
theorem info34 : ∃ i0, Tryd.prog.info? 34 = some i0 ∧ i0.zero = some (.agg #[.int .u8 0, .int .i64 0, .string ByteArray.empty]) ∧ i0.size = 3 ∧ i0.bytes = 32 := ⟨_, rfl, rfl, rfl, rfl⟩
set_option maxHeartbeats 2000000 in
set_option maxRecDepth 1000000 in
theorem decode_full {P : List Int} (hb : bys P) (hlen : P.length ≤ 140737488351232) (hne : 0 < P.length) (b o cap : Nat) (w : World) (hG : GW w) (hsl : BySl w w.heap.size P (.slice (some ⟨b, o, none⟩) P.length cap)) (hcap : P.length ≤ cap) :
    Calls Tryd.prog 22 #[.slice (some ⟨b, o, none⟩) P.length cap] w (DecPost w (decO P)) := by
  have hv := vars_start w (some ⟨b, o, none⟩) P.length cap
  have C : Ctx w (w.heap.size + 1 + 1) b o cap P := ⟨hG, hsl, hlen, hcap, by omega, hb⟩
  have hbn := getD_bys hb 0
  have hval := take_one hne
  obtain ⟨n, hn⟩ : ∃ n : Nat, P.getD 0 0 = (n : Int) := ⟨(P.getD 0 0).toNat, by have := hbn.1; omega⟩
  have hn255 : n ≤ 255 := by have := hbn.2; rw [hn] at this; omega
  rw [hn] at hval
  go_enter_defers Tryd.func22, Tryd.ntmps22
  go_wp2_with (go_at_call 35; refine (nextA C hv.at' 1 (by omega) (by omega)).mono ?_)
  rintro e w1 ⟨v1, rfl, hv1, g1, A1⟩
  have V1 := hv.next g1 A1
  obtain ⟨b1, o1, c1, rfl, hb1, hc1⟩ := one_byte hval hv1
  clear hval hbn
  have s1 : w.heap.size + 1 + 1 < w1.heap.size := A1.rd.lt
  by_cases h12 : 12 < n
  · have hd := decO_bad (decV_big (Nat.ne_of_gt hne) hn h12)
    clear hn
    have l0 := V1.l.c
    have l1 := V1.l.f
    have e0 := V1.e.c
    have e1 := V1.e.f
    go_wp2
    exact leave_idle res22' rfl rfl ((V1.l.set (.slice none 0 0)).other (by omega) _) ((V1.e.other (by omega) _).set _) (post_bad hd (low2 V1.low (Nat.le_refl _) (Nat.le_succ _)))
  · have hd := decV_small (Nat.ne_of_gt hne) hn h12
    clear hn
    go_wp2
    obtain ⟨i0, hi, hz0, hz1, hz2⟩ := info34
    go_loopw [18] (fun iv wr => ∃ (k : Nat) (acc : List Val) (q : Value), acc.length ≤ n ∧ iv = .int .i64 acc.length ∧ Hid (rdN n P 1 [] = rdN (n - acc.length) P k acc) ∧ k ≤ P.length ∧ Vars w wr q (some ⟨b, o, none⟩) P.length cap k ∧ wr.ownsRow (w.heap.size + 1 + 1 + 1) 34 3 q acc.length (flat HC acc)) (fun iv _ => n - (intOf iv).toNat)
    case atStart =>
      exact ⟨1, [], .slice none 0 0, Nat.zero_le _, rfl, rfl, hne, V1, World.ownsRow_nil _ _ _ _⟩
    case round =>
      obtain ⟨k, acc, q, hin, rfl, hrd, hk, V, hown⟩ := hrel
      have hsz : w.heap.size + 1 + 1 < wr.heap.size := V.r.lt
      obtain ⟨qa, qn, qc, rfl⟩ := own_slice3 hown
      by_cases hlt : acc.length < n
      · have hlt' : (acc.length : Int) < (n : Int) := by omega
        cases hr : rdF P k with
        | none =>
          have Vd := V.drew
          have hvo := value_ok C wr.drew k Vd.at' hk
          rw [hr] at hvo
          have hy := fin_dead hd hlt hrd hr
          have l0 := V.l.c
          clear hr hd hrd
          go_wp2
          refine wp_region_any (by kernel_rfl) ?_
          change wpAny _ _ _ _ _ _ _ (World.drew _)
          refine wpAny_ready (rs := [0, 1]) (by kernel_rfl) (by simp) ?_
          refine AllReady.cons rfl (fun K hK => ?_) (AllReady.cons rfl (fun K hK => ?_) AllReady.nil)
          · go_simp
            refine hK _ _ ?_
            clear hK K
            refine wpAny_ready (rs := [1]) (by kernel_rfl) (by simp) ?_
            refine AllReady.cons rfl (fun K hK => ?_) AllReady.nil
            go_simp
            refine hK _ _ ?_
            clear hK K
            refine wpAny_ready (rs := [2]) (by kernel_rfl) (by simp) ?_
            refine AllReady.cons rfl (fun K hK => ?_) AllReady.nil
            go_simp
            go_wp2_with (go_at_call 36; refine hvo.mono ?_)
            rintro e w2 ⟨rfl, hg2⟩
            exact dead_end Vd hg2 rfl rfl hy
          · go_simp
            refine hK _ _ ?_
            clear hK K
            refine wpAny_ready (rs := [0, 2]) (by kernel_rfl) (by simp) ?_
            refine AllReady.cons rfl (fun K hK => ?_) (AllReady.cons rfl (fun K hK => ?_) AllReady.nil)
            · go_simp
              refine hK _ _ ?_
              clear hK K
              refine wpAny_ready (rs := [2]) (by kernel_rfl) (by simp) ?_
              refine AllReady.cons rfl (fun K hK => ?_) AllReady.nil
              go_simp
              go_wp2_with (go_at_call 36; refine hvo.mono ?_)
              rintro e w2 ⟨rfl, hg2⟩
              exact dead_end Vd hg2 rfl rfl hy
            · go_simp
              go_wp2_with (go_at_call 36; refine hvo.mono ?_)
              rintro e w2 ⟨rfl, hg2⟩
              exact dead_end Vd hg2 rfl rfl hy
        | some x =>
          obtain ⟨⟨c, m, s, ⟨⟩⟩, k'⟩ := x
          have Vd := V.drew
          have hownd : wr.drew.ownsRow (w.heap.size + 1 + 1 + 1) 34 3 (.slice qa qn qc) acc.length (flat HC acc) := hown
          have hvo := value_ok C wr.drew k Vd.at' hk
          rw [hr] at hvo
          have l0 := V.l.c
          have hrd' := rd_on hlt hrd hr
          have hk' := rd_le hb hr
          have hfl := fun {W : World} {q : Value} => flat_on (W := W) (q := q) (B := w.heap.size + 1 + 1 + 1) acc (c, m, s, ())
          clear hr
          go_wp2
          refine wp_region_noPanic ?_
          go_region_law (first
            | (go_simp
               go_at_call 36
               refine hvo.mono ?_
               rintro e w2 ⟨rfl, hg2, hA2⟩
               have V2 := Vd.next hg2 hA2
               have l2 := V2.l.c
               have l2' := (V2.keep (alloc_below w2 (.cells #[.int .u8 c, .int .i64 m, .string s] 34))).l.c
               have s2 := V2.r.lt
               have hown2 := own_grown3 hownd hg2 (fun b hb => by cases hb; omega))
            | (refine step_append_lies _ (by rfl) _ _ _ (by rfl) (w.heap.size + 1 + 1 + 1) 34 i0 _ 3 32 Tryd.underlying39 hi hz0 hz1 hz2 rfl (by omega) (.slice qa qn qc) acc.length (flat HC acc) (by rfl) (hown2.alloc _)
                ⟨w2.heap.size, 0, none⟩ 1 1 [.int .u8 c, .int .i64 m, .string s] (by rfl) (by rfl) (World.news_of_block (heap_alloc_new w2 _)) (by simp [Value.oneCell'])
                (by omega) (by simp only [maxLen]; omega) (by omega) (by simp; omega) _ rfl ?_
               intro g cap' w3 hown3 hgrow hat hlt3
               have V3 := V2.app hown2 hgrow
               have l3 := V3.l.c
               have f3 := V3.l.f))
          all_goals
            have V4 := V3.setL (.slice (some ⟨g, 0, none⟩) (acc.length + 1) cap')
            have hown4 := own_set3 hown3 ⟨w.heap.size, 0, none⟩ (by show w.heap.size < _; omega) (.slice (some ⟨g, 0, none⟩) (acc.length + 1) cap')
            refine NoPanic.normal ?_
            go_wp2
            go_roundw
            case rel => exact ⟨k', acc ++ [(c, m, s, ())], _, by simp; omega, by simp, hrd', hk', V4, hfl hown4⟩
            case measure => simp [intOf]; omega
      · have hacc : acc.length = n := by omega
        have hlt' : ¬ (acc.length : Int) < (n : Int) := by omega
        have l0 := V.l.c
        have l1 := V.l.f
        have e0 := V.e.c
        have e1 := V.e.f
        have r1 := V.r.c1
        rw [hacc] at hrd
        clear hacc
        by_cases hkl : k < P.length
        · have hkl' : (k : Int) < (P.length : Int) := by omega
          have hy := fin_long (Nat.ne_of_gt hne) hd hrd hkl
          clear hd hrd
          go_wp2
          exact leave_idle res22' rfl rfl ((V.l.set (.slice none 0 0)).other (by omega) _) ((V.e.other (by omega) _).set _) (post_bad hy (low2 V.low (Nat.le_refl _) (Nat.le_succ _)))
        · have hkl2 : k = P.length := by omega
          rw [hkl2] at hrd
          have hkl' : ¬ (k : Int) < (P.length : Int) := by omega
          have hy := fin_good hd hrd
          clear hd hrd hkl2
          go_wp2
          exact leave_idle res22' rfl rfl ((V.l.set _).other (by omega) _) ((V.e.other (by omega) _).set _) (post_ok hy (low2 V.low (Nat.le_refl _) (Nat.le_succ _)) (va_own rfl (own_set3 (own_set3 hown ⟨w.heap.size, 0, none⟩ (by show w.heap.size < _; omega) _) ⟨w.heap.size + 1, 0, none⟩ (by show w.heap.size + 1 < _; omega) _) (by omega)))
end Go.Px.CodC
