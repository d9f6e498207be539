/- Functions of layer 5 by their contracts, for walks by hand. -/
import Derived.Test.YtpmnipaimoaagaaDoorCt
import Derived.Test.YtpmnipaimoaagaaDoorPxC
import Derived.Test.YtpmnipaimoaagaaDoorShelf
import Derived.WalkKit
set_option linter.unusedVariables false
set_option linter.unusedSimpArgs false
namespace Go.Px.LinC
open Go Go.RowKit Go.Proofs Go.Px

theorem call_of {P : Program} {G : Nat → Option (List Seg)} {f : FuncId} {pa : List DP} {pr : RP} {F : dpα pa → Option pr.α} (hf : FunOk P G f (mkFun pa pr F)) {w : World} (hG : GOk ⟨P, w.heap.size, G, noM⟩ w) (x : dpα pa) (y : pr.α) (hx : F x = some y)
    (vs : List Value) (ha : argsOk w pa x vs) : Calls P f vs.toArray w fun e w' => ∃ v, e = .returned v ∧ Below w.heap.size w w' ∧ ResRep w' w.heap.size (pr.inj y) v := by
  obtain ⟨h1, h2⟩ := argsOk_get pa x vs ha
  have hrun : (mkFun pa pr F).run DV ((dpInj pa x).map .one) some = some (pr.inj y) := by
    show ((dpProj pa ((dpInj pa x).map .one)).bind fun x => (F x).bind fun r => some (pr.inj r)) = _
    rw [dpProj_inj]
    simp only [Option.bind_some, hx]
  refine (hf DV _ some (pr.inj y) hrun w vs.toArray hG (by simp [h1, dpInj_length]) (fun i d hd => ?_)).mono ?_
  · rw [List.getElem?_map] at hd
    cases hi : (dpInj pa x)[i]? with
    | none => rw [hi] at hd; cases hd
    | some d1 =>
      rw [hi] at hd
      simp only [Option.map_some, Option.some.injEq] at hd
      obtain ⟨v, g1, g2⟩ := h2 i d1 hi
      exact ⟨d1, v, hd.symm, by simpa using g1, g2⟩
  · rintro e w' ⟨d, v, g1, g2, g3, g4⟩
    cases g1
    exact ⟨v, g2, g3, g4⟩
/-- a contract stands where more is told of the package's variables -/
theorem funOk_mono {P : Program} {G G' : Nat → Option (List Seg)} {f : FuncId} {F : Fun} (h : FunOk P G f F) (hG : ∀ g ss, G g = some ss → G' g = some ss) : FunOk P G' f F :=
  fun ρ ds k r hr w vs hg => h ρ ds k r hr w vs fun g ss e => hg g ss (hG g ss e)
/-- a slice of texts that stands in memory -/
def StrSl (w : World) (l : List ByteArray) (v : Value) : Prop := RoRep w (· < w.heap.size) (.sc .str) l v
theorem StrSl.keep {w w' : World} {l : List ByteArray} {v : Value} (h : StrSl w l v) (hb : Below w.heap.size w w') : StrSl w' l v :=
  RoRep.mono (RoRep.frame h fun b hb' => hb.block b hb') fun b hb' => Nat.lt_of_lt_of_le hb' hb.size
theorem StrSl.nil (w : World) : StrSl w [] (.slice none 0 0) := ⟨none, 0, rfl, Nat.le_refl _, .inl rfl⟩
theorem StrSl.open {w : World} {l : List ByteArray} {v : Value} (h : StrSl w l v) : ∃ a cap, v = .slice a l.length cap ∧ l.length ≤ cap ∧ (l ≠ [] → ∃ b o, a = some ⟨b, o, none⟩ ∧ b < w.heap.size ∧ ∀ i, i < l.length → w.cell? ⟨b, o + i, none⟩ = some (.string (l.getD i ByteArray.empty))) := by
  obtain ⟨a, cap, h1, h2, h3⟩ := h
  refine ⟨a, cap, h1, h2, fun hn => ?_⟩
  rcases h3 with h3 | ⟨b, o, cur, e, fr, g1, g2, g3, g4⟩
  · exact absurd h3 hn
  · refine ⟨b, o, g1, g2, fun i hi => ?_⟩
    rw [cell_of w g3]
    refine g4 i _ ?_
    rw [flat_sc, List.getElem?_map, List.getElem?_eq_getElem hi, List.getD_eq_getElem?_getD, List.getElem?_eq_getElem hi]
    rfl
theorem ro_tail {w : World} {Lo : Nat → Prop} {x : ByteArray} {l : List ByteArray} {b o cap : Nat} (h : RoRep w Lo (.sc .str) (x :: l) (.slice (some ⟨b, o, none⟩) (l.length + 1) cap)) : RoRep w Lo (.sc .str) l (.slice (some ⟨b, o + 1, none⟩) l.length (cap - 1)) := by
  obtain ⟨a, cap', h1, h2, h3⟩ := h
  simp only [Value.slice.injEq] at h1
  obtain ⟨rfl, -, rfl⟩ := h1
  simp only [List.length_cons] at h2
  refine ⟨_, _, rfl, by omega, ?_⟩
  rcases h3 with h3 | ⟨b', o', cur, e, fr, g1, g2, g3, g4⟩
  · cases h3
  · cases g1
    refine .inr ⟨b, o + 1, cur, e, fr, rfl, g2, g3, fun j v hj => ?_⟩
    have := g4 (j + 1) v (by rw [flat_sc] at hj ⊢; simpa using hj)
    rw [← this]; congr 1; omega
/-- .. in blocks from n on -/
def StrFrom (w : World) (n : Nat) (l : List ByteArray) (v : Value) : Prop := RoRep w (fun b => n ≤ b ∧ b < w.heap.size) (.sc .str) l v
theorem StrFrom.sl {w : World} {n : Nat} {l : List ByteArray} {v : Value} (h : StrFrom w n l v) : StrSl w l v := RoRep.mono h fun _ hb => hb.2
theorem StrFrom.set {w : World} {n : Nat} {l : List ByteArray} {v : Value} (h : StrFrom w n l v) {p : Addr} (hp : p.block < n) (x : Value) : StrFrom (w.setCell p x) n l v := by
  have hs : (w.setCell p x).heap.size = w.heap.size := by simp [World.setCell]
  refine RoRep.mono (RoRep.frame h fun b hb => ?_) fun b hb => ⟨hb.1, by rw [hs]; exact hb.2⟩
  have : p.block ≠ b := by omega
  simp [World.setCell, Array.getElem?_modify, this]
theorem StrFrom.keep {w w' : World} {n : Nat} {l : List ByteArray} {v : Value} (h : StrFrom w n l v) (hb : Below w.heap.size w w') : StrFrom w' n l v :=
  RoRep.mono (RoRep.frame h fun b hb' => hb.block b hb'.2) fun b hb' => ⟨hb'.1, Nat.lt_of_lt_of_le hb'.2 hb.size⟩
theorem own_sl {w : World} {B : Nat} {l : List ByteArray} {ℓ : Option (Nat × Nat)} {v : Value} (h : OwnRep w (B ≤ ·) (.sc .str) l ℓ v) : StrFrom w B l v := by
  rcases h with ⟨_, rfl, rfl⟩ | ⟨b, o, cap, cur, e, fr, h1, h2, h3, h4, h5, h6, h7, h8⟩
  · exact ⟨none, 0, rfl, Nat.le_refl _, .inl rfl⟩
  · exact ⟨_, cap, h2, h6, .inr ⟨b, o, cur, e, fr, rfl, ⟨h3, (Array.getElem?_eq_some_iff.1 h4).1⟩, h4, h8⟩⟩
/-- three results, the first a slice of texts -/
theorem res3 {w : World} {B : Nat} {l : List ByteArray} {k1 k2 : IntKind} {a b : Int} {v : Value} (h : ResRep w B ((RP.tup [.own (.sc .str), .sc (.int k1), .sc (.int k2)]).inj (l, a, b, ())) v) : ∃ u, v = .tuple #[u, .int k1 a, .int k2 b] ∧ StrFrom w B l u := by
  obtain ⟨ℓ, _, _, _, vs, h1, h2, h3⟩ := h
  obtain ⟨u0, e0, r0⟩ := h3 0 (.own (.sc .str) l) rfl
  obtain ⟨u1, e1, r1⟩ := h3 1 (.raw (.int k1 a)) rfl
  obtain ⟨u2, e2, r2⟩ := h3 2 (.raw (.int k2 b)) rfl
  have r1 : u1 = .int k1 a := r1
  have r2 : u2 = .int k2 b := r2
  subst r1 r2
  refine ⟨u0, ?_, own_sl r0⟩
  rw [h1]
  congr 1
  apply Array.ext_getElem?
  intro i
  match i with
  | 0 => rw [e0]; rfl
  | 1 => rw [e1]; rfl
  | 2 => rw [e2]; rfl
  | i + 3 => rw [Array.getElem?_eq_none (by rw [h2]; exact Nat.le_add_left 3 i), Array.getElem?_eq_none (by simp)]
theorem argStr (w : World) (s : ByteArray) : argsOk w [.sc .str] (s, ()) [.string s] := ⟨rfl, trivial⟩
abbrev GW (w : World) : Prop := GOk ⟨Tryd.prog, w.heap.size, linr.glob, noM⟩ w
theorem gw_keep {w w' : World} (h : GW w) (hb : Below w.heap.size w w') : GW w' := fun g ss hg => by
  obtain ⟨h1, h2, cur, e, fr, h3, h4⟩ := h g ss hg
  exact ⟨⟨Nat.lt_of_lt_of_le h1.1 hb.size, id⟩, (h2.frame fun b hb' => hb.block b hb'.1).mono fun b hb' => ⟨Nat.lt_of_lt_of_le hb'.1 hb.size, id⟩, cur, e, fr, by rw [hb.block g h1.1]; exact h3, h4⟩
theorem words_call {s : ByteArray} {y : List ByteArray × Int × Int × Unit} (hy : line_Words (s, ()) = some y) (w : World) (hG : GW w) :
    Calls Tryd.prog 13 #[.string s] w fun e w' => ∃ v, e = .returned (.tuple #[v, .int .i64 y.2.1, .int .i64 y.2.2.1]) ∧ StrFrom w' w.heap.size y.1 v ∧ Below w.heap.size w w' := by
  refine (call_of linr.fun13_ok hG (s, ()) y hy [.string s] (argStr w s)).mono ?_
  rintro e w' ⟨v, rfl, hb, hr⟩
  obtain ⟨u, rfl, hu⟩ := res3 hr
  exact ⟨u, rfl, hu, hb⟩
theorem rwords_call {s : ByteArray} {y : List ByteArray × Int × Int × Unit} (hy : r05_Words (s, ()) = some y) (w : World) (hG : GW w) :
    Calls Tryd.prog 14 #[.string s] w fun e w' => ∃ v, e = .returned (.tuple #[v, .int .i64 y.2.1, .int .i64 y.2.2.1]) ∧ StrFrom w' w.heap.size y.1 v ∧ Below w.heap.size w w' := by
  refine (call_of linr.fun14_ok hG (s, ()) y hy [.string s] (argStr w s)).mono ?_
  rintro e w' ⟨v, rfl, hb, hr⟩
  obtain ⟨u, rfl, hu⟩ := res3 hr
  exact ⟨u, rfl, hu, hb⟩
/-- two results, both plain -/
theorem res2 {w : World} {B : Nat} {c1 c2 : T0} {a : c1.α} {b : c2.α} {v : Value} (h : ResRep w B ((RP.tup [.sc c1, .sc c2]).inj (a, b, ())) v) : v = .tuple #[c1.val a, c2.val b] := by
  obtain ⟨ℓ, _, _, _, vs, h1, h2, h3⟩ := h
  obtain ⟨u0, e0, r0⟩ := h3 0 (.raw (c1.val a)) rfl
  obtain ⟨u1, e1, r1⟩ := h3 1 (.raw (c2.val b)) rfl
  have r0 : u0 = c1.val a := r0
  have r1 : u1 = c2.val b := r1
  subst r0 r1
  rw [h1]
  congr 1
  apply Array.ext_getElem?
  intro i
  match i with
  | 0 => rw [e0]; rfl
  | 1 => rw [e1]; rfl
  | i + 2 => rw [Array.getElem?_eq_none (by rw [h2]; exact Nat.le_add_left 2 i), Array.getElem?_eq_none (by simp)]
theorem res1 {w : World} {B : Nat} {c1 : T0} {a : c1.α} {v : Value} (h : ResRep w B ((RP.one (.sc c1)).inj a) v) : v = c1.val a := by
  obtain ⟨ℓ, _, _, _, h1⟩ := h
  exact h1
theorem verb_call {s : ByteArray} {y : Int × Int × Unit} (hy : r05_verb (s, ()) = some y) (w : World) (hG : GW w) : Calls Tryd.prog 24 #[.string s] w fun e w' => e = .returned (.tuple #[.int .u8 y.1, .int .i64 y.2.1]) ∧ Below w.heap.size w w' := by
  refine (call_of linr.fun24_ok hG (s, ()) y hy [.string s] (argStr w s)).mono ?_
  rintro e w' ⟨v, rfl, hb, hr⟩
  exact ⟨by rw [res2 (c1 := .int .u8) (c2 := .int .i64) hr]; rfl, hb⟩
theorem fine_call {s : ByteArray} {y : Bool} (hy : line_fine (s, ()) = some y) (w : World) (hG : GW w) : Calls Tryd.prog 17 #[.string s] w fun e w' => e = .returned (.bool y) ∧ Below w.heap.size w w' := by
  refine (call_of linr.fun17_ok hG (s, ()) y hy [.string s] (argStr w s)).mono ?_
  rintro e w' ⟨v, rfl, hb, hr⟩
  exact ⟨by rw [res1 (c1 := .bool) hr]; rfl, hb⟩
theorem plain_call {s : ByteArray} {y : Bool} (hy : line_plain (s, ()) = some y) (w : World) (hG : GW w) : Calls Tryd.prog 18 #[.string s] w fun e w' => e = .returned (.bool y) ∧ Below w.heap.size w w' := by
  refine (call_of linr.fun18_ok hG (s, ()) y hy [.string s] (argStr w s)).mono ?_
  rintro e w' ⟨v, rfl, hb, hr⟩
  exact ⟨by rw [res1 (c1 := .bool) hr]; rfl, hb⟩
theorem awake_call {y : Bool} (hy : w05_awake () = some y) (w : World) (hG : GW w) : Calls Tryd.prog 9 #[] w fun e w' => e = .returned (.bool y) ∧ Below w.heap.size w w' := by
  refine (call_of linr.fun9_ok hG () y hy [] trivial).mono ?_
  rintro e w' ⟨v, rfl, hb, hr⟩
  exact ⟨by rw [res1 (c1 := .bool) hr]; rfl, hb⟩
/-- a request's value -/
theorem argReq {w : World} {v : Int} {a : Option Addr} {cap : Nat} {l : List ByteArray} (h : StrSl w l (.slice a l.length cap)) : ArgRep w (.strc [.one (.int .u8 v), .ro a cap (.sc .str) l]) (.agg #[.int .u8 v, .slice a l.length cap]) := by
  refine ⟨fun s hs => ?_, rfl⟩
  simp only [List.mem_cons, List.not_mem_nil, or_false] at hs
  rcases hs with rfl | rfl
  · rfl
  · exact h
theorem same_call {v v' : Int} {a a' : Option Addr} {cap cap' : Nat} {l l' : List ByteArray} {y : Bool} (hy : r05_Same ((v, ((a, cap), l), ()), (v', ((a', cap'), l'), ()), ()) = some y) (w : World) (hG : GW w)
    (h : StrSl w l (.slice a l.length cap)) (h' : StrSl w l' (.slice a' l'.length cap')) : Calls Tryd.prog 11 #[.agg #[.int .u8 v, .slice a l.length cap], .agg #[.int .u8 v', .slice a' l'.length cap']] w fun e w' => e = .returned (.bool y) ∧ Below w.heap.size w w' := by
  refine (call_of linr.fun11_ok hG ((v, ((a, cap), l), ()), (v', ((a', cap'), l'), ()), ()) y hy [_, _] ⟨argReq h, argReq h', trivial⟩).mono ?_
  rintro e w' ⟨v, rfl, hb, hr⟩
  exact ⟨by rw [res1 (c1 := .bool) hr]; rfl, hb⟩
theorem rwrite_call {v : Int} {a : Option Addr} {cap : Nat} {l : List ByteArray} {y : ByteArray × Int × Unit} (hy : r05_Write ((v, ((a, cap), l), ()), ()) = some y) (w : World) (hG : GW w)
    (h : StrSl w l (.slice a l.length cap)) : Calls Tryd.prog 16 #[.agg #[.int .u8 v, .slice a l.length cap]] w fun e w' => e = .returned (.tuple #[.string y.1, .int .i64 y.2.1]) ∧ Below w.heap.size w w' := by
  refine (call_of linr.fun16_ok hG ((v, ((a, cap), l), ()), ()) y hy [_] ⟨argReq h, trivial⟩).mono ?_
  rintro e w' ⟨v, rfl, hb, hr⟩
  exact ⟨by rw [res2 (c1 := .str) (c2 := .int .i64) hr]; rfl, hb⟩
end Go.Px.LinC
