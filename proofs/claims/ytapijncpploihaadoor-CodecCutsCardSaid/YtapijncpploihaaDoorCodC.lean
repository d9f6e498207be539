/- Functions of layer 4 by their contracts, for walks by hand. -/
import Derived.Test.YtapijncpploihaaDoorCt
import Derived.Test.YtapijncpploihaaDoorPxC
import Derived.WalkKit
import Derived.Defers
import Derived.Recover
import Derived.Laws.AppendOwn
import Derived.OwnWalk
import Derived.Deep.QuietTactic
import Derived.BigQuiet
import Derived.RegionTactic
set_option linter.unusedVariables false
set_option linter.unusedSimpArgs false
namespace Go.Px.CodC
open Go Go.RowKit Go.Proofs Go.Px
theorem call_of {P : Program} {G : Nat → Option (List Seg)} {f : FuncId} {pa : List DP} {pr : RP} {F : dpα pa → Option pr.α} (hf : FunOk P G f (mkFun pa pr F)) {w : World} (hG : GOk ⟨P, w.heap.size, G, noM⟩ w) (x : dpα pa) (y : pr.α) (hx : F x = some y)
    (vs : List Value) (ha : argsOk w pa x vs) : Calls P f vs.toArray w fun e w' => ∃ v, e = .returned v ∧ Below w.heap.size w w' ∧ ResRep w' w.heap.size (pr.inj y) v := by
  obtain ⟨h1, h2⟩ := argsOk_get pa x vs ha
  have hrun : (mkFun pa pr F).run DV ((dpInj pa x).map .one) some = some (pr.inj y) := by
    show ((dpProj pa ((dpInj pa x).map .one)).bind fun x => (F x).bind fun r => some (pr.inj r)) = _
    rw [dpProj_inj]
    simp only [Option.bind_some, hx]
  refine (hf DV _ some (pr.inj y) hrun w vs.toArray hG (by simp [h1, dpInj_length]) (fun i d hd => ?_)).mono ?_
  · rw [List.getElem?_map] at hd
    cases hi : (dpInj pa x)[i]? with
    | none => rw [hi] at hd; cases hd
    | some d1 =>
      rw [hi] at hd
      simp only [Option.map_some, Option.some.injEq] at hd
      obtain ⟨v, g1, g2⟩ := h2 i d1 hi
      exact ⟨d1, v, hd.symm, by simpa using g1, g2⟩
  · rintro e w' ⟨d, v, g1, g2, g3, g4⟩
    cases g1
    exact ⟨v, g2, g3, g4⟩
theorem res1 {w : World} {B : Nat} {c1 : T0} {a : c1.α} {v : Value} (h : ResRep w B ((RP.one (.sc c1)).inj a) v) : v = c1.val a := by
  obtain ⟨ℓ, _, _, _, h1⟩ := h
  exact h1
theorem res3 {w : World} {B : Nat} {c1 c2 c3 : T0} {a : c1.α} {b : c2.α} {c : c3.α} {v : Value} (h : ResRep w B ((RP.tup [.sc c1, .sc c2, .sc c3]).inj (a, b, c, ())) v) : v = .tuple #[c1.val a, c2.val b, c3.val c] := by
  obtain ⟨ℓ, _, _, _, vs, h1, h2, h3⟩ := h
  obtain ⟨u0, e0, r0⟩ := h3 0 (.raw (c1.val a)) rfl
  obtain ⟨u1, e1, r1⟩ := h3 1 (.raw (c2.val b)) rfl
  obtain ⟨u2, e2, r2⟩ := h3 2 (.raw (c3.val c)) rfl
  have r0 : u0 = c1.val a := r0
  have r1 : u1 = c2.val b := r1
  have r2 : u2 = c3.val c := r2
  subst r0 r1 r2
  rw [h1]
  congr 1
  apply Array.ext_getElem?
  intro i
  match i with
  | 0 => rw [e0]; rfl
  | 1 => rw [e1]; rfl
  | 2 => rw [e2]; rfl
  | i + 3 => rw [Array.getElem?_eq_none (by rw [h2]; exact Nat.le_add_left 3 i), Array.getElem?_eq_none (by simp)]
abbrev GW (w : World) : Prop := GOk ⟨Tryd.prog, w.heap.size, codd.glob, noM⟩ w
theorem gw_keep {w w' : World} (h : GW w) (hb : Below w.heap.size w w') : GW w' := fun g ss hg => by
  obtain ⟨h1, h2, cur, e, fr, h3, h4⟩ := h g ss hg
  exact ⟨⟨Nat.lt_of_lt_of_le h1.1 hb.size, id⟩, (h2.frame fun b hb' => hb.block b hb'.1).mono fun b hb' => ⟨Nat.lt_of_lt_of_le hb'.1 hb.size, id⟩, cur, e, fr, by rw [hb.block g h1.1]; exact h3, h4⟩
/-- bytes that stand in memory below n -/
def BySl (w : World) (n : Nat) (l : List Int) (v : Value) : Prop := RoRep w (· < n) (.sc (.int .u8)) l v
theorem BySl.keep {w w' : World} {n : Nat} {l : List Int} {v : Value} (h : BySl w n l v) (hb : Below n w w') : BySl w' n l v :=
  RoRep.frame h fun b hb' => hb.block b hb'
theorem BySl.up {w : World} {n m : Nat} {l : List Int} {v : Value} (h : BySl w n l v) (hm : n ≤ m) : BySl w m l v := RoRep.mono h fun b hb => Nat.lt_of_lt_of_le hb hm
theorem BySl.open {w : World} {n : Nat} {l : List Int} {v : Value} (h : BySl w n l v) : ∃ a cap, v = .slice a l.length cap ∧ l.length ≤ cap ∧ (l ≠ [] → ∃ b o, a = some ⟨b, o, none⟩ ∧ b < n ∧ ∀ i, i < l.length → w.cell? ⟨b, o + i, none⟩ = some (.int .u8 (l.getD i 0))) := by
  obtain ⟨a, cap, h1, h2, h3⟩ := h
  refine ⟨a, cap, h1, h2, fun hn => ?_⟩
  rcases h3 with h3 | ⟨b, o, cur, e, fr, g1, g2, g3, g4⟩
  · exact absurd h3 hn
  · refine ⟨b, o, g1, g2, fun i hi => ?_⟩
    rw [cell_of w g3]
    refine g4 i _ ?_
    rw [flat_sc, List.getElem?_map, List.getElem?_eq_getElem hi, List.getD_eq_getElem?_getD, List.getElem?_eq_getElem hi]
    rfl
/-- a part of it -/
theorem BySl.sub {w : World} {n : Nat} {l : List Int} {b o cap : Nat} (h : BySl w n l (.slice (some ⟨b, o, none⟩) l.length cap)) (i m : Nat) (hi : i + m ≤ l.length) (o' cap' : Nat) (ho : 0 < m → o' = o + i) (hc : m ≤ cap') : BySl w n ((l.drop i).take m) (.slice (some ⟨b, o', none⟩) m cap') := by
  obtain ⟨a, c, h1, h2, h3⟩ := h
  have hl : ((l.drop i).take m).length = m := by rw [List.length_take, List.length_drop]; omega
  refine ⟨some ⟨b, o', none⟩, cap', by rw [hl], by rw [hl]; exact hc, ?_⟩
  by_cases hm : m = 0
  · exact .inl (List.length_eq_zero_iff.1 (by rw [hl]; exact hm))
  · rcases h3 with h3 | ⟨b', o2, cur, e, fr, g1, g2, g3, g4⟩
    · rw [h3] at hi; simp at hi; omega
    · simp only [Value.slice.injEq] at h1
      obtain ⟨rfl, -, rfl⟩ := h1
      cases g1
      refine .inr ⟨b, o', cur, e, fr, rfl, g2, g3, fun j v hj => ?_⟩
      rw [flat_sc] at hj
      have hjm : j < m := by
        have := (List.getElem?_eq_some_iff.1 hj).1
        rw [List.length_map, hl] at this; exact this
      have := g4 (i + j) v (by
        rw [flat_sc, ← hj, List.getElem?_map, List.getElem?_map, List.getElem?_take, if_pos hjm, List.getElem?_drop])
      rw [ho (by omega), Nat.add_assoc]; exact this
theorem form_call {k n : Int} {s0 : ByteArray} {y : Bool} (hy : codec_Form ((k, n, s0, ()), ()) = some y) (w : World) (hG : GW w) : Calls Tryd.prog 19 #[.agg #[.int .u8 k, .int .i64 n, .string s0]] w fun e w' => e = .returned (.bool y) ∧ Below w.heap.size w w' := by
  refine (call_of codd.fun19_ok hG ((k, n, s0, ()), ()) y hy [.agg #[.int .u8 k, .int .i64 n, .string s0]] ⟨⟨fun s hs => ?_, rfl⟩, trivial⟩).mono ?_
  · have hs' : s ∈ [Seg.one (Value.int .u8 k), Seg.one (Value.int .i64 n), Seg.one (Value.string s0)] := hs
    simp only [List.mem_cons, List.not_mem_nil, or_false] at hs'
    rcases hs' with rfl | rfl | rfl <;> rfl
  rintro e w' ⟨v, rfl, hb, hr⟩
  exact ⟨by rw [res1 (c1 := .bool) hr]; rfl, hb⟩
theorem readI_call {P : List Int} {i : Int} {y : Int × Int × Int × Unit} (hy : octet_ReadInt (P, i, ()) = some y) (w : World) (hG : GW w) {v : Value} (h : BySl w w.heap.size P v) : Calls Tryd.prog 38 #[v, .int .i64 i] w fun e w' => e = .returned (.tuple #[.int .i64 y.1, .int .i64 y.2.1, .int .i64 y.2.2.1]) ∧ Below w.heap.size w w' := by
  refine (call_of codd.fun38_ok hG (P, i, ()) y hy [v, .int .i64 i] ⟨h, rfl, trivial⟩).mono ?_
  rintro e w' ⟨v, rfl, hb, hr⟩
  exact ⟨by rw [res3 (c1 := .int .i64) (c2 := .int .i64) (c3 := .int .i64) hr]; rfl, hb⟩
theorem alloc_below (w : World) (o : Obj) : Below w.heap.size w (w.alloc o) := (Below.refl w.heap.size w).alloc (Nat.le_refl _) o
theorem abs_world {P : Program} {c : Code} {Q : Exit → Act → World → Prop} {a : Act} {w' : World} (F : World → Prop) (hF : F w') (h : ∀ W, F W → Code.wp P c Q a W) : Code.wp P c Q a w' := h w' hF
theorem cell_at {w : World} {b : Nat} {cs : Array Value} {T : TypeId} {fr : Nat × Nat} (hb : w.heap[b]? = some (.cells cs T fr)) (j : Nat) : w.cell? ⟨b, j, none⟩ = cs[j]? := by
  simp [World.cell?, hb]
theorem frozen_at {w : World} {b : Nat} {cs : Array Value} {T : TypeId} (hb : w.heap[b]? = some (.cells cs T (0, 0))) (j : Nat) : w.frozen? ⟨b, j, none⟩ = false := by
  simp [World.frozen?, hb]
/-- a reader: its block alone is written -/
structure Rd (w : World) (B : Nat) (a : Option Addr) (len cap k : Nat) : Prop where
  at' : w.heap[B]? = some (.cells #[.slice a len cap, .int .i64 k] 70 (0, 0))
theorem Rd.c0 {w : World} {B : Nat} {a : Option Addr} {len cap k : Nat} (h : Rd w B a len cap k) : w.cell? ⟨B, 0, none⟩ = some (.slice a len cap) := by rw [cell_at h.at']; rfl
theorem Rd.c1 {w : World} {B : Nat} {a : Option Addr} {len cap k : Nat} (h : Rd w B a len cap k) : w.cell? ⟨B, 1, none⟩ = some (.int .i64 k) := by rw [cell_at h.at']; rfl
theorem Rd.f1 {w : World} {B : Nat} {a : Option Addr} {len cap k : Nat} (h : Rd w B a len cap k) : w.frozen? ⟨B, 1, none⟩ = false := frozen_at h.at' 1
theorem Rd.lt {w : World} {B : Nat} {a : Option Addr} {len cap k : Nat} (h : Rd w B a len cap k) : B < w.heap.size := (Array.getElem?_eq_some_iff.1 h.at').1
theorem grown_set (w : World) (B j : Nat) (v : Value) : w.grownBy (w.setCell ⟨B, j, none⟩ v) (some B) := by
  refine ⟨rfl, rfl, rfl, by simp [World.setCell], fun k hk hne => ?_⟩
  have : B ≠ k := fun e => hne (by rw [e])
  simp [World.setCell, Array.getElem?_modify, this]
theorem Rd.set {w : World} {B : Nat} {a : Option Addr} {len cap k : Nat} (h : Rd w B a len cap k) (k' : Nat) : Rd (w.setCell ⟨B, 1, none⟩ (.int .i64 k')) B a len cap k' := by
  have := h.at'
  exact ⟨by simp [World.setCell, Array.getElem?_modify, this]⟩
def chain : List PanicEntry := [{ v := .iface 67 (.agg #[]), recovered := false }]
end Go.Px.CodC
