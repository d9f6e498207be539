/- (*reader).value: what it hands back. -/
import Derived.Test.YtapijncpploihaaDoorNxt
import Derived.Test.YtapijncpploihaaDoorPuCodDec
set_option linter.unusedVariables false
set_option linter.unusedSimpArgs false
namespace Go.Px.CodC
open Go Go.RowKit Go.Proofs Go.Px Go.Px.Pu
/-- what a reader reads, told once -/
structure Ctx (w0 : World) (B b o cap : Nat) (P : List Int) : Prop where
  G : GW w0
  hB : BySl w0 w0.heap.size P (.slice (some ⟨b, o, none⟩) P.length cap)
  len : P.length ≤ 140737488351232
  hc : P.length ≤ cap
  b0 : w0.heap.size ≤ B
  by' : bys P
/-- a reader at a place -/
structure At (w0 : World) (B b o cap : Nat) (P : List Int) (W : World) (k : Nat) : Prop where
  low : Below w0.heap.size w0 W
  rd : Rd W B (some ⟨b, o, none⟩) P.length cap k
theorem below_grown {w0 W W' : World} {B : Nat} (h : Below w0.heap.size w0 W) (hB : w0.heap.size ≤ B) (hg : W.grownBy W' (some B)) : Below w0.heap.size w0 W' :=
  h.trans ⟨hg.os, hg.tape, hg.output, hg.size, fun k hk => hg.block k (Nat.lt_of_lt_of_le hk h.size) (fun e => by cases e; exact absurd hB (Nat.not_le_of_lt hk))⟩
theorem At.alloc {w0 : World} {B b o cap : Nat} {P : List Int} {W : World} {k : Nat} (h : At w0 B b o cap P W k) (ob : Obj) : At w0 B b o cap P (W.alloc ob) k :=
  ⟨h.low.trans ((alloc_below W ob).mono h.low.size), h.rd.keep ((alloc_below W ob).block B h.rd.lt)⟩
theorem At.keep {w0 : World} {B b o cap : Nat} {P : List Int} {W W' : World} {k : Nat} (h : At w0 B b o cap P W k) (hb : Below W.heap.size W W') : At w0 B b o cap P W' k :=
  ⟨h.low.trans (hb.mono h.low.size), h.rd.keep (hb.block B h.rd.lt)⟩
theorem At.g {w0 : World} {B b o cap : Nat} {P : List Int} {W : World} {k : Nat} (h : At w0 B b o cap P W k) (C : Ctx w0 B b o cap P) : GW W := gw_keep C.G h.low
theorem nextA {w0 : World} {B b o cap : Nat} {P : List Int} (C : Ctx w0 B b o cap P) {W : World} {k : Nat} (h : At w0 B b o cap P W k) (n : Nat) (hn : n ≤ 255) (hk : k + n ≤ P.length) :
    Calls Tryd.prog 35 #[.pointer (some ⟨B, 0, none⟩), .int .i64 n] W fun e W' => ∃ v, e = .returned v ∧ BySl W' B ((P.drop k).take n) v ∧ W.grownBy W' (some B) ∧ At w0 B b o cap P W' (k + n) := by
  refine (next_ok W B b o P.length cap k n h.rd hk C.len hn C.hc P rfl ((C.hB.keep h.low).up C.b0)).mono ?_
  rintro e W' ⟨⟨v, rfl, hv⟩, hg, hR⟩
  exact ⟨v, rfl, hv, hg, below_grown h.low C.b0 hg, hR⟩
theorem nextD {w0 : World} {B b o cap : Nat} {P : List Int} (C : Ctx w0 B b o cap P) {W : World} {k : Nat} (h : At w0 B b o cap P W k) (hkl : k ≤ P.length) (n : Nat) (hn : n ≤ 255) (hk : P.length < k + n) :
    Calls Tryd.prog 35 #[.pointer (some ⟨B, 0, none⟩), .int .i64 n] W fun e W' => e = .panicked chain ∧ Below W.heap.size W W' :=
  next_dies W B _ _ _ k n h.rd hkl C.len hn hk
theorem one_byte {W : World} {B : Nat} {l : List Int} {c : Int} {v : Value} (hl : l = [c]) (h : BySl W B l v) : ∃ b1 o1 c1, v = .slice (some ⟨b1, o1, none⟩) 1 c1 ∧ b1 < B ∧ W.cell? ⟨b1, o1, none⟩ = some (.int .u8 c) := by
  subst hl
  obtain ⟨a, cap, rfl, h1, h2⟩ := h.open
  obtain ⟨b1, o1, rfl, h3, h4⟩ := h2 (by simp)
  exact ⟨b1, o1, cap, rfl, h3, h4 0 (by simp)⟩
theorem take_one {P : List Int} {k : Nat} (h : k < P.length) : (P.drop k).take 1 = [P.getD k 0] := by
  rw [drop_at h]; rfl
theorem conv_bytes {W : World} {B : Nat} {l : List Int} {v : Value} (hB : B ≤ W.heap.size) (h : BySl W B l v) : (convert 22 9 v).run Tryd.prog W = .ok (.string (strOf l)) W := by
  have hs : SlRep W (.sc (.int .u8)) l v := RoRep.mono h fun b hb => Nat.lt_of_lt_of_le hb hB
  obtain ⟨ad, cap, h1, h2, h3⟩ := id hs
  rw [h1] at hs ⊢
  simp only [convert, Sem.run_bind, run_underlying Tryd.underlying22, run_underlying Tryd.underlying9, Result.andThen_ok, run_underlying Tryd.underlying5]
  cases ad with
  | none =>
    obtain ⟨rfl, _⟩ := sl_nil hs
    rfl
  | some ad =>
    have hld := (sl_load hs Tryd.prog l.length (Nat.le_refl _)).2
    rw [List.take_length, flat_sc] at hld
    simp only [Cod.sz, Nat.mul_one] at hld
    rw [← strOf_eq]
    exact run_bytesToString W ad l.length cap l hld
/-- a value's variable -/
structure HasV (w : World) (b : Nat) (x y z : Value) : Prop where
  at' : w.heap[b]? = some (.cells #[x, y, z] 34 (0, 0))
section
variable {w : World} {b : Nat} {x y z : Value}
theorem HasV.c0 (h : HasV w b x y z) : w.cell? ⟨b, 0, none⟩ = some x := by rw [cell_at h.at']; rfl
theorem HasV.c1 (h : HasV w b x y z) : w.cell? ⟨b, 1, none⟩ = some y := by rw [cell_at h.at']; rfl
theorem HasV.c2 (h : HasV w b x y z) : w.cell? ⟨b, 2, none⟩ = some z := by rw [cell_at h.at']; rfl
theorem HasV.f (h : HasV w b x y z) (j : Nat) : w.frozen? ⟨b, j, none⟩ = false := frozen_at h.at' j
theorem HasV.lt (h : HasV w b x y z) : b < w.heap.size := (Array.getElem?_eq_some_iff.1 h.at').1
theorem HasV.new (w : World) (x y z : Value) : HasV (w.alloc (.cells #[x, y, z] 34)) w.heap.size x y z := ⟨heap_alloc_new w _⟩
theorem HasV.keep (h : HasV w b x y z) {w' : World} (hb : Below w.heap.size w w') : HasV w' b x y z := ⟨by rw [hb.block b h.lt]; exact h.at'⟩
theorem HasV.grown (h : HasV w b x y z) {w' : World} {B : Nat} (hg : w.grownBy w' (some B)) (hne : b ≠ B) : HasV w' b x y z := ⟨by rw [hg.block b h.lt (fun e => hne (by cases e; rfl))]; exact h.at'⟩
theorem HasV.other (h : HasV w b x y z) {c j : Nat} (hne : c ≠ b) (u : Value) : HasV (w.setCell ⟨c, j, none⟩ u) b x y z := ⟨by simp [World.setCell, Array.getElem?_modify, hne, h.at']⟩
theorem HasV.s1 (h : HasV w b x y z) (u : Value) : HasV (w.setCell ⟨b, 1, none⟩ u) b x u z := ⟨by simp [World.setCell, Array.getElem?_modify, h.at']⟩
theorem HasV.s2 (h : HasV w b x y z) (u : Value) : HasV (w.setCell ⟨b, 2, none⟩ u) b x y u := ⟨by simp [World.setCell, Array.getElem?_modify, h.at']⟩
theorem HasV.all (h : HasV w b x y z) (x' y' z' : Value) : (((w.setCell ⟨b, 0, none⟩ x').setCell ⟨b, 1, none⟩ y').setCell ⟨b, 2, none⟩ z').heap[b]? = some (.cells #[x', y', z'] 34 (0, 0)) := by simp [World.setCell, Array.getElem?_modify, h.at']
end
theorem tok34 : ∃ i, TOk Tryd.prog 34 i ∧ i.agg = true ∧ i.size = 3 := ⟨_, assoc_all (p := fun t i => TOk Tryd.prog t i) codd.tyT codd.tyT_ok 34 _ rfl, rfl, rfl⟩
theorem fin34 {fn : Func} (hr : fn.results = #[.cell 2 34]) {w' : World} {B : Nat} {x y z : Value} (hb : w'.heap[B]? = some (.cells #[x, y, z] 34 (0, 0))) {tmps : Array Value} (h2 : tmps.getD 2 undef = .pointer (some ⟨B, 0, none⟩))
    {R : Ending → World → Prop} (hR : R (.returned (.agg #[x, y, z])) w') : bodyPost Tryd.prog fn R .ret { tmps := tmps, defers := [] } w' := by
  obtain ⟨i, ht, ha, hs⟩ := tok34
  have hl := load_row (X := ⟨Tryd.prog, 0, fun _ => none, noM⟩) (w := w') (xs := [x, y, z]) ht ha hb (fun j x hj => by rw [Nat.zero_add, ← hj]; simp) (by rw [hs]; rfl)
  have hlv : (loadVar 34 ⟨B, 0, none⟩).run Tryd.prog w' = .ok (.agg #[x, y, z]) w' := by simpa [Instr.loadAt, Instr.sureAddr] using hl
  have hm : (fn.results.toList.mapM (resComp tmps)).run Tryd.prog w' = .ok [.agg #[x, y, z]] w' := by
    rw [hr]
    simp only [List.mapM_cons, List.mapM_nil, Sem.run_bind, Result.andThen_ok, resComp, Sem.run_pure, h2, asAddr, hlv]
  refine ⟨rfl, _, results_run fn tmps _ hm, ?_⟩
  exact hR
theorem grown_below {w w' : World} {B : Nat} (h : Below w.heap.size w w') : w.grownBy w' (some B) := ⟨h.os, h.tape, h.output, h.size, fun k hk _ => h.block k hk⟩
theorem grown_new {w w1 : World} {B c j : Nat} (h : w.grownBy w1 (some B)) (hc : w.heap.size ≤ c) (v : Value) : w.grownBy (w1.setCell ⟨c, j, none⟩ v) (some B) := by
  refine ⟨h.os, h.tape, h.output, by simpa [World.setCell] using h.size, fun k hk hne => ?_⟩
  rw [← h.block k hk hne]
  have : c ≠ k := by omega
  simp [World.setCell, Array.getElem?_modify, this]
theorem At.set {w0 : World} {B b o cap : Nat} {P : List Int} {W : World} {k : Nat} (h : At w0 B b o cap P W k) {c j : Nat} (hc : w0.heap.size ≤ c) (hne : c ≠ B) (v : Value) : At w0 B b o cap P (W.setCell ⟨c, j, none⟩ v) k := by
  refine ⟨⟨h.low.os, h.low.tape, h.low.output, by simpa [World.setCell] using h.low.size, fun k hk => ?_⟩, ⟨?_⟩⟩
  · rw [← h.low.block k hk]
    have : c ≠ k := by omega
    simp [World.setCell, Array.getElem?_modify, this]
  · have := h.rd.at'
    simp [World.setCell, Array.getElem?_modify, hne, this]
abbrev ZV : Obj := .cells #[.int .u8 0, .int .i64 0, .string ⟨#[]⟩] 34
theorem rdF_some {P : List Int} {k : Nat} {x : Val × Nat} (h : rdVal P k = some x) : rdF P k = if okV x.1 = true then some x else none := by unfold rdF; rw [h]
theorem rdF_none {P : List Int} {k : Nat} (h : rdVal P k = none) : rdF P k = none := by unfold rdF; rw [h]
/-- how a value is read, or is none -/
def ValPost (w0 : World) (B b o cap : Nat) (P : List Int) (w : World) (R : Option (Val × Nat)) (e : Ending) (w' : World) : Prop := match R with
  | some x => e = .returned (.agg #[.int .u8 x.1.1, .int .i64 x.1.2.1, .string x.1.2.2.1]) ∧ w.grownBy w' (some B) ∧ At w0 B b o cap P w' x.2
  | none => e = .panicked chain ∧ w.grownBy w' (some B)
def rdC (P : List Int) (k : Nat) (c : Int) : Option (Val × Nat) :=
  if c = 1 then (if k + 9 ≤ P.length then some ((1, (readI ((P.drop (k + 1)).take 8) 0).1, ByteArray.empty, ()), k + 9) else none)
  else if c = 2 then (if k + 1 < P.length then (if k + 2 + (P.getD (k + 1) 0).toNat ≤ P.length then some ((2, 0, strOf ((P.drop (k + 2)).take (P.getD (k + 1) 0).toNat), ()), k + 2 + (P.getD (k + 1) 0).toNat) else none) else none)
  else if c = 3 then (if k + 1 < P.length then some ((3, P.getD (k + 1) 0, ByteArray.empty, ()), k + 2) else none)
  else some ((c, 0, ByteArray.empty, ()), k + 1)
theorem rdVal_c {P : List Int} {k : Nat} (hk : k < P.length) : rdVal P k = rdC P k (P.getD k 0) := by unfold rdVal rdC; rw [if_pos hk]
def fR (x : Option (Val × Nat)) : Option (Val × Nat) := match x with
  | some x => if okV x.1 = true then some x else none
  | none => none
theorem rdF_fR (P : List Int) (k : Nat) : rdF P k = fR (rdVal P k) := rfl
theorem ok1 (n : Int) : formR 1 n ByteArray.empty = true := by
  unfold formR formV; simp
theorem rdC1 {P : List Int} {k : Nat} (h : k + 9 ≤ P.length) : fR (rdC P k 1) = some ((1, (readI ((P.drop (k + 1)).take 8) 0).1, ByteArray.empty, ()), k + 9) := by
  unfold rdC fR
  rw [if_pos rfl, if_pos h]
  exact if_pos (ok1 _)
theorem rdC1n {P : List Int} {k : Nat} (h : ¬ k + 9 ≤ P.length) : fR (rdC P k 1) = none := by
  unfold rdC fR
  rw [if_pos rfl, if_neg h]
theorem rdC2 {P : List Int} {k m : Nat} (h1 : k + 1 < P.length) (h2 : k + 2 + m ≤ P.length) (hm : P.getD (k + 1) 0 = (m : Int)) : fR (rdC P k 2) = if formR 2 0 (strOf ((P.drop (k + 2)).take m)) = true then some ((2, 0, strOf ((P.drop (k + 2)).take m), ()), k + 2 + m) else none := by
  unfold rdC fR
  rw [if_neg (by decide), if_pos rfl, if_pos h1, hm, Int.toNat_natCast, if_pos h2]
  rfl
theorem rdC2a {P : List Int} {k : Nat} (h1 : ¬ k + 1 < P.length) : fR (rdC P k 2) = none := by
  unfold rdC fR
  rw [if_neg (by decide), if_pos rfl, if_neg h1]
theorem rdC2b {P : List Int} {k m : Nat} (h1 : k + 1 < P.length) (h2 : ¬ k + 2 + m ≤ P.length) (hm : P.getD (k + 1) 0 = (m : Int)) : fR (rdC P k 2) = none := by
  unfold rdC fR
  rw [if_neg (by decide), if_pos rfl, if_pos h1, hm, Int.toNat_natCast, if_neg h2]
theorem rdC3 {P : List Int} {k : Nat} (h1 : k + 1 < P.length) : fR (rdC P k 3) = if formR 3 (P.getD (k + 1) 0) (⟨#[]⟩ : ByteArray) = true then some ((3, P.getD (k + 1) 0, (⟨#[]⟩ : ByteArray), ()), k + 2) else none := by
  unfold rdC fR
  rw [if_neg (by decide), if_neg (by decide), if_pos rfl, if_pos h1]
  rfl
theorem rdC3a {P : List Int} {k : Nat} (h1 : ¬ k + 1 < P.length) : fR (rdC P k 3) = none := by
  unfold rdC fR
  rw [if_neg (by decide), if_neg (by decide), if_pos rfl, if_neg h1]
theorem rdC0 {P : List Int} {k : Nat} {c : Int} (h1 : c ≠ 1) (h2 : c ≠ 2) (h3 : c ≠ 3) : fR (rdC P k c) = if formR c 0 (⟨#[]⟩ : ByteArray) = true then some ((c, 0, (⟨#[]⟩ : ByteArray), ()), k + 1) else none := by
  unfold rdC fR
  rw [if_neg h1, if_neg h2, if_neg h3]
  rfl
theorem val_none {w0 : World} {B b o cap : Nat} {P : List Int} {w : World} {R : Option (Val × Nat)} {w' : World} (h : R = none) (hg : w.grownBy w' (some B)) : ValPost w0 B b o cap P w R (.panicked chain) w' := by subst h; exact ⟨rfl, hg⟩
theorem val_some {w0 : World} {B b o cap : Nat} {P : List Int} {w : World} {R : Option (Val × Nat)} {w' : World} {c n : Int} {s : ByteArray} {k' : Nat} (h : R = some ((c, n, s, ()), k')) (hg : w.grownBy w' (some B)) (hA : At w0 B b o cap P w' k') : ValPost w0 B b o cap P w R (.returned (.agg #[.int .u8 c, .int .i64 n, .string s])) w' := by subst h; exact ⟨rfl, hg, hA⟩
set_option maxHeartbeats 2000000 in
set_option maxRecDepth 1000000 in
theorem value_ok {w0 : World} {B b o cap : Nat} {P : List Int} (C : Ctx w0 B b o cap P) (w : World) (k : Nat) (h : At w0 B b o cap P w k) (hk : k ≤ P.length) :
    Calls Tryd.prog 36 #[.pointer (some ⟨B, 0, none⟩)] w fun e w' => ValPost w0 B b o cap P w (rdF P k) e w' := by
  have A1 := h.alloc ZV
  have hwB : B < w.heap.size := h.rd.lt
  have h0B := C.b0
  by_cases hkl : k < P.length
  · rw [rdF_fR, rdVal_c hkl]
    have hbk := getD_bys C.by' k
    have hbk1 := hbk.1
    have hbk2 := hbk.2
    have hval := take_one hkl
    generalize P.getD k 0 = c at hbk hbk1 hbk2 hval ⊢
    go_enter Tryd.func36, Tryd.ntmps36
    go_wp2_with (go_at_call 35; refine (nextA C A1 1 (by omega) (by omega)).mono ?_)
    rintro e w1 ⟨v1, rfl, hv1, g1, A2⟩
    obtain ⟨b1, o1, c1, rfl, hb1, hc1⟩ := one_byte hval hv1
    clear hval
    have hN1 := (HasV.new w (.int .u8 0) (.int .i64 0) (.string ⟨#[]⟩)).grown g1 (by omega)
    have hgw : w.grownBy w1 (some B) := grown_trans (grown_below (alloc_below w ZV)) g1
    have hs1 : w.heap.size < w1.heap.size := hN1.lt
    have A3 := A2.alloc (.cells #[.int .u8 c, .int .i64 0, .string ⟨#[]⟩] 34)
    have hN3 := hN1.keep (alloc_below w1 (.cells #[.int .u8 c, .int .i64 0, .string ⟨#[]⟩] 34))
    have hM3 := HasV.new w1 (.int .u8 c) (.int .i64 0) (.string ⟨#[]⟩)
    have hg3 := grown_trans hgw (grown_below (B := B) (alloc_below w1 (.cells #[.int .u8 c, .int .i64 0, .string ⟨#[]⟩] 34)))
    by_cases h1 : c = 1
    · subst h1
      by_cases h9 : k + 9 ≤ P.length
      · have hr := rdC1 (P := P) (k := k) h9
        go_wp2_with (go_at_call 35; refine (nextA C A3 8 (by omega) (by omega)).mono ?_)
        rintro e w2 ⟨v2, rfl, hv2, g2, A4⟩
        have hq := bys_sub C.by' (k + 1) 8
        have hql : ((P.drop (k + 1)).take 8).length ≤ 140737488351232 := by rw [List.length_take]; omega
        generalize (P.drop (k + 1)).take 8 = q at hv2 hq hql hr
        have hri := readI_call (octet_ReadInt_eq (p := q) hql hq 0) w2 (A4.g C) (hv2.up (Nat.le_of_lt A4.rd.lt))
        go_wp2_with (go_at_call 38; refine hri.mono ?_)
        rintro e w3 ⟨rfl, b3⟩
        generalize (readI q 0).1 = n at hr
        have A5 := A4.keep b3
        have N4 := (hN3.grown g2 (by omega)).keep b3
        have M4 := (hM3.grown g2 (by omega)).keep b3
        have A6 := A5.set (c := w1.heap.size) (j := 1) (by omega) (by omega) (.int .i64 n)
        have N5 := N4.other (c := w1.heap.size) (j := 1) (by omega) (.int .i64 n)
        have M5 := M4.s1 (.int .i64 n)
        have hg5 := grown_new (j := 1) (grown_trans (grown_trans hg3 g2) (grown_below (B := B) b3)) (Nat.le_of_lt hs1) (.int .i64 n)
        have hf := form_call (codec_Form_eq b1' n (⟨#[]⟩ : ByteArray)) _ (A6.g C)
        rw [show formR 1 n ⟨#[]⟩ = true from ok1 n] at hf
        have m0 := M4.c0
        have m1 := M4.c1
        have m2 := M4.c2
        have mf := M4.f 1
        go_wp2_with (go_at_call 19; refine hf.mono ?_)
        rintro e w4 ⟨rfl, b4⟩
        have A7 := A6.keep b4
        have N6 := N5.keep b4
        have M6 := M5.keep b4
        have hg6 := grown_trans hg5 (grown_below (B := B) b4)
        clear m0 m1 m2 mf
        have m0 := M6.c0
        have m1 := M6.c1
        have m2 := M6.c2
        have n0 := N6.c0
        have n1 := N6.c1
        have n2 := N6.c2
        have f0 := N6.f 0
        have f1 := N6.f 1
        have f2 := N6.f 2
        go_wp2
        refine fin34 (by kernel_rfl) (N6.all _ _ _) rfl (val_some hr (grown_new (grown_new (grown_new hg6 (Nat.le_refl _) _) (Nat.le_refl _) _) (Nat.le_refl _) _) (((A7.set (by omega) (by omega) _).set (by omega) (by omega) _).set (by omega) (by omega) _))
      · go_wp2_with (go_at_call 35; refine (nextD C A3 (by omega) 8 (by omega) (by omega)).mono ?_)
        rintro e w2 ⟨rfl, b2⟩
        exact ⟨rfl, val_none (rdC1n h9) (grown_trans hg3 (grown_below b2))⟩
    · have e1 : (c == 1) = false := by simpa using h1
      by_cases h2 : c = 2
      · subst h2
        by_cases hk1 : k + 1 < P.length
        · have hbm := getD_bys C.by' (k + 1)
          have hval2 := take_one hk1
          obtain ⟨m, hm⟩ : ∃ m : Nat, P.getD (k + 1) 0 = (m : Int) := ⟨(P.getD (k + 1) 0).toNat, by have := hbm.1; omega⟩
          have hm255 : m ≤ 255 := by have := hbm.2; rw [hm] at this; omega
          rw [hm] at hval2
          go_wp2_with (go_at_call 35; refine (nextA C A3 1 (by omega) (by omega)).mono ?_)
          rintro e w2 ⟨v2, rfl, hv2, g2, A4⟩
          obtain ⟨b2, o2, c2, rfl, hb2, hc2⟩ := one_byte hval2 hv2
          clear hval2
          have N4 := hN3.grown g2 (by omega)
          have M4 := hM3.grown g2 (by omega)
          by_cases hkm : k + 2 + m ≤ P.length
          · have hr := rdC2 hk1 hkm hm
            clear hm
            go_wp2_with (go_at_call 35; refine (nextA C A4 m hm255 (by omega)).mono ?_)
            rintro e w3 ⟨v3, rfl, hv3, g3, A5⟩
            have hcv := conv_bytes (Nat.le_of_lt A5.rd.lt) hv3
            rw [show k + 1 + 1 = k + 2 from rfl] at hcv
            generalize strOf ((P.drop (k + 2)).take m) = s at hcv hr
            rw [show k + 1 + 1 + m = k + 2 + m from rfl] at A5
            have N4' := N4.grown g3 (by omega)
            have M4' := M4.grown g3 (by omega)
            have A6 := A5.set (c := w1.heap.size) (j := 2) (by omega) (by omega) (.string s)
            have N5 := N4'.other (c := w1.heap.size) (j := 2) (by omega) (.string s)
            have M5 := M4'.s2 (.string s)
            have hg5 := grown_new (j := 2) (grown_trans (grown_trans hg3 g2) g3) (Nat.le_of_lt hs1) (.string s)
            have hf := form_call (codec_Form_eq b2' 0 s) _ (A6.g C)
            have m0 := M4'.c0
            have m1 := M4'.c1
            have m2 := M4'.c2
            have mf := M4'.f 2
            go_wp2_with (go_at_call 19; refine hf.mono ?_)
            rintro e w4 ⟨rfl, b4⟩
            have A7 := A6.keep b4
            have N6 := N5.keep b4
            have M6 := M5.keep b4
            have hg6 := grown_trans hg5 (grown_below (B := B) b4)
            clear m0 m1 m2 mf hf
            cases hy : formR 2 0 s with
            | false =>
              rw [hy, if_neg (by decide)] at hr
              go_wp2
              exact ⟨rfl, val_none hr hg6⟩
            | true =>
              rw [hy, if_pos rfl] at hr
              have m0 := M6.c0
              have m1 := M6.c1
              have m2 := M6.c2
              have n0 := N6.c0
              have n1 := N6.c1
              have n2 := N6.c2
              have f0 := N6.f 0
              have f1 := N6.f 1
              have f2 := N6.f 2
              go_wp2
              refine fin34 (by kernel_rfl) (N6.all _ _ _) rfl (val_some hr (grown_new (grown_new (grown_new hg6 (Nat.le_refl _) _) (Nat.le_refl _) _) (Nat.le_refl _) _) (((A7.set (by omega) (by omega) _).set (by omega) (by omega) _).set (by omega) (by omega) _))
          · have hr := rdC2b hk1 hkm hm
            clear hm
            go_wp2_with (go_at_call 35; refine (nextD C A4 (by omega) m hm255 (by omega)).mono ?_)
            rintro e w3 ⟨rfl, b3⟩
            exact ⟨rfl, val_none hr (grown_trans (grown_trans hg3 g2) (grown_below b3))⟩
        · have hr := rdC2a hk1
          go_wp2_with (go_at_call 35; refine (nextD C A3 (by omega) 1 (by omega) (by omega)).mono ?_)
          rintro e w2 ⟨rfl, b2⟩
          exact ⟨rfl, val_none hr (grown_trans hg3 (grown_below b2))⟩
      · have e2 : (c == 2) = false := by simpa using h2
        by_cases h3 : c = 3
        · subst h3
          by_cases hk1 : k + 1 < P.length
          · have hr := rdC3 hk1
            have hbm := getD_bys C.by' (k + 1)
            have hbm1 := hbm.1
            have hbm2 := hbm.2
            have hval2 := take_one hk1
            generalize P.getD (k + 1) 0 = x at hr hbm1 hbm2 hval2
            clear hbm
            go_wp2_with (go_at_call 35; refine (nextA C A3 1 (by omega) (by omega)).mono ?_)
            rintro e w3 ⟨v2, rfl, hv2, g2, A5⟩
            obtain ⟨b2, o2, c2, rfl, hb2, hc2⟩ := one_byte hval2 hv2
            clear hval2
            have N4 := hN3.grown g2 (by omega)
            have M4 := hM3.grown g2 (by omega)
            rw [show k + 1 + 1 = k + 2 from rfl] at A5
            have A6 := A5.set (c := w1.heap.size) (j := 1) (by omega) (by omega) (.int .i64 x)
            have N5 := N4.other (c := w1.heap.size) (j := 1) (by omega) (.int .i64 x)
            have M5 := M4.s1 (.int .i64 x)
            have hg5 := grown_new (j := 1) (grown_trans hg3 g2) (Nat.le_of_lt hs1) (.int .i64 x)
            have hf := form_call (codec_Form_eq b3' x (⟨#[]⟩ : ByteArray)) _ (A6.g C)
            have m0 := M4.c0
            have m1 := M4.c1
            have m2 := M4.c2
            have mf := M4.f 1
            go_wp2_with (go_at_call 19; refine hf.mono ?_)
            rintro e w4 ⟨rfl, b4⟩
            have A7 := A6.keep b4
            have N6 := N5.keep b4
            have M6 := M5.keep b4
            have hg6 := grown_trans hg5 (grown_below (B := B) b4)
            clear m0 m1 m2 mf hf
            cases hy : formR 3 x (⟨#[]⟩ : ByteArray) with
            | false =>
              rw [hy, if_neg (by decide)] at hr
              go_wp2
              exact ⟨rfl, val_none hr hg6⟩
            | true =>
              rw [hy, if_pos rfl] at hr
              have m0 := M6.c0
              have m1 := M6.c1
              have m2 := M6.c2
              have n0 := N6.c0
              have n1 := N6.c1
              have n2 := N6.c2
              have f0 := N6.f 0
              have f1 := N6.f 1
              have f2 := N6.f 2
              go_wp2
              refine fin34 (by kernel_rfl) (N6.all _ _ _) rfl (val_some hr (grown_new (grown_new (grown_new hg6 (Nat.le_refl _) _) (Nat.le_refl _) _) (Nat.le_refl _) _) (((A7.set (by omega) (by omega) _).set (by omega) (by omega) _).set (by omega) (by omega) _))
          · have hr := rdC3a hk1
            go_wp2_with (go_at_call 35; refine (nextD C A3 (by omega) 1 (by omega) (by omega)).mono ?_)
            rintro e w2 ⟨rfl, b2⟩
            exact ⟨rfl, val_none hr (grown_trans hg3 (grown_below b2))⟩
        · have e3 : (c == 3) = false := by simpa using h3
          have hr := rdC0 (P := P) (k := k) h1 h2 h3
          have A6 := A3
          have N5 := hN3
          have M5 := hM3
          have hg5 := hg3
          have hf := form_call (codec_Form_eq hbk 0 (⟨#[]⟩ : ByteArray)) _ (A6.g C)
          go_wp2_with (go_at_call 19; refine hf.mono ?_)
          rintro e w4 ⟨rfl, b4⟩
          have A7 := A6.keep b4
          have N6 := N5.keep b4
          have M6 := M5.keep b4
          have hg6 := grown_trans hg5 (grown_below (B := B) b4)
          clear hf
          cases hy : formR c 0 (⟨#[]⟩ : ByteArray) with
          | false =>
            rw [hy, if_neg (by decide)] at hr
            go_wp2
            exact ⟨rfl, val_none hr hg6⟩
          | true =>
            rw [hy, if_pos rfl] at hr
            have m0 := M6.c0
            have m1 := M6.c1
            have m2 := M6.c2
            have n0 := N6.c0
            have n1 := N6.c1
            have n2 := N6.c2
            have f0 := N6.f 0
            have f1 := N6.f 1
            have f2 := N6.f 2
            go_wp2
            refine fin34 (by kernel_rfl) (N6.all _ _ _) rfl (val_some hr (grown_new (grown_new (grown_new hg6 (Nat.le_refl _) _) (Nat.le_refl _) _) (Nat.le_refl _) _) (((A7.set (by omega) (by omega) _).set (by omega) (by omega) _).set (by omega) (by omega) _))
  · have hr : rdF P k = none := rdF_none (by unfold rdVal; rw [if_neg hkl])
    go_enter Tryd.func36, Tryd.ntmps36
    go_wp2_with (go_at_call 35; refine (nextD C A1 hk 1 (by omega) (by omega)).mono ?_)
    rintro e w1 ⟨rfl, hb⟩
    exact ⟨rfl, val_none hr (grown_trans (grown_below (alloc_below w ZV)) (grown_below hb))⟩
end Go.Px.CodC
