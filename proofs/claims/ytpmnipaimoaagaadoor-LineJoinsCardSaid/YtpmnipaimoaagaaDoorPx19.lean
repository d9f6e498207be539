/- Package variables, and functions of the library by their contracts. -/
import Derived.Test.YtpmnipaimoaagaaDoorPx17
import Derived.Lib.LaidU8T
set_option linter.unusedVariables false
set_option linter.unusedSimpArgs false
namespace Go.Px
open Go Go.RowKit

/-- a function by a contract that is told elsewhere -/
theorem con_ok {P : Program} {G : Nat → Option (List Seg)} {f : FuncId} {pa : List DP} {pr : RP} (C : dpα pa → Option pr.α)
    (hc : ∀ (x : dpα pa) (y : pr.α), C x = some y → ∀ (w : World) (vs : Array Value), GOk ⟨P, w.heap.size, G, noM⟩ w → vs.size = pa.length → (∀ (i : Nat) d, (dpInj pa x)[i]? = some d → ∃ v, vs[i]? = some v ∧ ArgRep w d v) →
      Calls P f vs w fun e w' => ∃ v, e = .returned v ∧ Below w.heap.size w w' ∧ ResRep w' w.heap.size (pr.inj y) v) : FunOk P G f (mkFun pa pr C) := by
  intro ρ ds k r hr w vs hg hsz hargs
  have hr : ((dpProj pa ds).bind fun x => (C x).bind fun r => k (pr.inj r)) = some r := hr
  cases hx : dpProj pa ds with
  | none => rw [hx] at hr; cases hr
  | some x =>
    rw [hx] at hr
    simp only [Option.bind_some] at hr
    cases hF : C x with
    | none => rw [hF] at hr; cases hr
    | some y =>
      rw [hF] at hr
      simp only [Option.bind_some] at hr
      obtain ⟨hl, hrep⟩ := dpProj_ok (w := w) (vs := vs) pa ds x hx 0 (fun i d hi => by simpa using hargs i d hi)
      refine (hc x y hF w vs hg (by rw [hsz, hl]) (fun i d hi => by simpa using hrep i d hi)).mono ?_
      rintro e w' ⟨v, h1, h2, h3⟩
      exact ⟨_, v, hr, h1, h2, h3⟩

/-! ### unicode/utf8 -/
def gvFirst : List Int := Lib.firstTab
def gvAccept : List (recα [.int .u8, .int .u8]) := (List.range 16).map fun i => ((Lib.accLo i : Int), (Lib.accHi i : Int), ())
def globU8 (g3 g4 : Nat) : Nat → Option (List Seg) := fun g => if g = g3 then some [.arr (.sc (.int .u8)) 256 gvFirst] else if g = g4 then some [.arr (.strc [.int .u8, .int .u8]) 16 gvAccept] else none
theorem heap_of_cell {w : World} {b : Nat} {v : Value} (h : w.cell? ⟨b, 0, none⟩ = some v) : ∃ cur e fr, w.heap[b]? = some (.cells cur e fr) := by
  unfold World.cell? at h
  split at h
  · rename_i cur e fr hb; exact ⟨cur, e, fr, hb⟩
  · cases h
theorem has_tab {w : World} {b n : Nat} {k : IntKind} {l : List Int} {cur : Array Value} {e : TypeId} {fr : Nat × Nat} (hb : w.heap[b]? = some (.cells cur e fr)) (hl : l.length = n) (h : ∀ c, c < n → w.cell? ⟨b, c, none⟩ = some (.int k (l.getD c 0))) : Has cur 0 (segCells [.arr (.sc (.int k)) n l]) := fun j x hj => by
  have e1 : segCells [.arr (.sc (.int k)) n l] = flat (.sc (.int k)) l := by simp [segCells, Seg.cells]
  rw [e1, flat_sc, List.getElem?_map] at hj
  cases hx : l[j]? with
  | none => rw [hx] at hj; cases hj
  | some z =>
    rw [hx] at hj
    simp only [Option.map_some, Option.some.injEq] at hj
    have hjl := (List.getElem?_eq_some_iff.1 hx).1
    have := h j (by omega)
    rw [cell_of w hb, List.getD_eq_getElem?_getD, hx] at this
    rw [Nat.zero_add, this, ← hj]; rfl
theorem globU8_ok {P : Program} {w : World} {g3 g4 : Nat} (hT : Lib.Utf8Tabs g3 g4 w) : GOk ⟨P, w.heap.size, globU8 g3 g4, noM⟩ w := by
  intro g ss hg
  simp only [globU8] at hg
  split at hg
  · rename_i e; subst e; cases hg
    obtain ⟨cur, e, fr, hb⟩ := heap_of_cell (hT.1 0 (by omega))
    refine ⟨⟨(Array.getElem?_eq_some_iff.1 hb).1, id⟩, fun s hs => ?_, cur, e, fr, hb, has_tab hb (by simp [gvFirst, Lib.firstTab]) fun c hc => ?_⟩
    · simp at hs; subst hs; simp [segOk, gvFirst, Lib.firstTab]
    · rw [hT.1 c hc]
      simp [gvFirst, Lib.firstTab, List.getD_eq_getElem?_getD, hc]
  · split at hg
    · rename_i e; subst e; cases hg
      obtain ⟨cur, e, fr, hb⟩ := heap_of_cell (w := w) (b := g) (hT.2 0 (by omega)).1
      have hlen : gvAccept.length = 16 := by simp [gvAccept]
      refine ⟨⟨(Array.getElem?_eq_some_iff.1 hb).1, id⟩, fun s hs => ?_, cur, e, fr, hb, fun j x hj => ?_⟩
      · simp at hs; subst hs; exact hlen
      · have e1 : segCells [.arr (.strc [.int .u8, .int .u8]) 16 gvAccept] = flat (.strc [.int .u8, .int .u8]) gvAccept := by simp [segCells, Seg.cells]
        rw [e1] at hj
        have hjl := (List.getElem?_eq_some_iff.1 hj).1
        rw [flat_length, hlen] at hjl
        have hjl : j < 32 := hjl
        have hfa := flat_at (.strc [.int .u8, .int .u8]) gvAccept (j / 2) (j % 2) (by omega) (show j % 2 < 2 by omega)
        have ej : j / 2 * (Cod.strc [.int .u8, .int .u8]).sz + j % 2 = j := by
          show j / 2 * 2 + j % 2 = j
          omega
        rw [ej, hj] at hfa
        have hg : gvAccept.getD (j / 2) (Cod.strc [.int .u8, .int .u8]).dflt = ((Lib.accLo (j / 2) : Int), (Lib.accHi (j / 2) : Int), ()) := by
          have : j / 2 < 16 := by omega
          simp [gvAccept, List.getD_eq_getElem?_getD, this]
        rw [hg] at hfa
        have hc := hT.2 (j / 2) (by omega)
        rw [Option.some.inj hfa, Nat.zero_add]
        rcases Nat.mod_two_eq_zero_or_one j with h0 | h0
        · have := hc.1
          rw [cell_of w hb, show 2 * (j / 2) = j by omega] at this
          rw [this, h0]; rfl
        · have := hc.2
          rw [cell_of w hb, show 2 * (j / 2) + 1 = j by omega] at this
          rw [this, h0]; rfl
    · cases hg
/-- back to the cells -/
theorem globU8_tabs {P : Program} {w : World} {G : Nat → Option (List Seg)} {g3 g4 : Nat} (hG3 : G g3 = some [.arr (.sc (.int .u8)) 256 gvFirst]) (hG4 : G g4 = some [.arr (.strc [.int .u8, .int .u8]) 16 gvAccept]) (hG : GOk ⟨P, w.heap.size, G, noM⟩ w) : Lib.Utf8Tabs g3 g4 w := by
  obtain ⟨_, o3, c3, _, _, b3, h3⟩ := hG g3 [.arr (.sc (.int .u8)) 256 gvFirst] hG3
  obtain ⟨_, o4, c4, _, _, b4, h4⟩ := hG g4 [.arr (.strc [.int .u8, .int .u8]) 16 gvAccept] hG4
  have hlen : gvAccept.length = 16 := by simp [gvAccept]
  have e1 : segCells [.arr (.strc [.int .u8, .int .u8]) 16 gvAccept] = flat (.strc [.int .u8, .int .u8]) gvAccept := by simp [segCells, Seg.cells]
  have e2 : segCells [.arr (.sc (.int .u8)) 256 gvFirst] = flat (.sc (.int .u8)) gvFirst := by simp [segCells, Seg.cells]
  refine ⟨fun c hc => ?_, fun i hi => ?_⟩
  · rw [cell_of w b3]
    have := h3 c (.int .u8 (Lib.firstT c)) (by rw [e2, flat_sc]; simp [gvFirst, Lib.firstTab, hc]; rfl)
    simpa using this
  · have hg : gvAccept.getD i (Cod.strc [.int .u8, .int .u8]).dflt = ((Lib.accLo i : Int), (Lib.accHi i : Int), ()) := by
      simp [gvAccept, List.getD_eq_getElem?_getD, hi]
    have a0 := flat_at (.strc [.int .u8, .int .u8]) gvAccept i 0 (by omega) (show 0 < 2 by omega)
    have a1 := flat_at (.strc [.int .u8, .int .u8]) gvAccept i 1 (by omega) (show 1 < 2 by omega)
    rw [hg] at a0 a1
    rw [← e1] at a0 a1
    rw [cell_of w b4, cell_of w b4]
    have z0 := h4 _ _ a0
    have z1 := h4 _ _ a1
    rw [show 0 + (i * (Cod.strc [.int .u8, .int .u8]).sz + 0) = 2 * i from (by show 0 + (i * 2 + 0) = 2 * i; omega)] at z0
    rw [show 0 + (i * (Cod.strc [.int .u8, .int .u8]).sz + 1) = 2 * i + 1 from (by show 0 + (i * 2 + 1) = 2 * i + 1; omega)] at z1
    exact ⟨z0, z1⟩
/-- utf8.DecodeRuneInString: what it hands back -/
def conDecode (x : dpα [.sc .str]) : Option (RP.α (.tup [.sc (.int .i32), .sc (.int .i64)])) := some (((Lib.decodeGo x.1).1 : Int), ((Lib.decodeGo x.1).2 : Int), ())
theorem decode_ok {P : Program} {G : Nat → Option (List Seg)} {f g3 g4 : Nat} (hG3 : G g3 = some [.arr (.sc (.int .u8)) 256 gvFirst]) (hG4 : G g4 = some [.arr (.strc [.int .u8, .int .u8]) 16 gvAccept])
    (hc : ∀ (s : ByteArray) (w : World), Lib.Utf8Tabs g3 g4 w → Calls P f #[.string s] w fun e w' => e = .returned (.tuple #[.int .i32 (Lib.decodeGo s).1, .int .i64 (Lib.decodeGo s).2]) ∧ Below w.heap.size w w') :
    FunOk P G f (mkFun [.sc .str] (.tup [.sc (.int .i32), .sc (.int .i64)]) conDecode) := by
  refine con_ok conDecode fun x y hy w vs hG hsz ha => ?_
  obtain ⟨v, hv, hr⟩ := ha 0 (.raw (.string x.1)) rfl
  have hr : v = .string x.1 := hr
  subst hr
  have hvs : vs = #[.string x.1] := by
    apply Array.ext_getElem?
    intro i
    cases i with
    | zero => rw [hv]; rfl
    | succ i => rw [Array.getElem?_eq_none (by rw [hsz]; simp), Array.getElem?_eq_none (by simp)]
  subst hvs
  cases hy
  refine (hc x.1 w (globU8_tabs hG3 hG4 hG)).mono ?_
  rintro e w' ⟨rfl, hb⟩
  refine ⟨_, rfl, hb, fun _ => none, (fun _ _ _ h => by cases h), (fun _ _ _ _ _ h => by cases h), (fun _ _ => rfl), #[.int .i32 (Lib.decodeGo x.1).1, .int .i64 (Lib.decodeGo x.1).2], rfl, rfl, fun j d hd => ?_⟩
  match j with
  | 0 => cases hd; exact ⟨_, rfl, rfl⟩
  | 1 => cases hd; exact ⟨_, rfl, rfl⟩
  | j + 2 => cases hd
end Go.Px
