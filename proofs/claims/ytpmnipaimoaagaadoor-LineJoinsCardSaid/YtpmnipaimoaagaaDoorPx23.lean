/- Tables of the package variables, as lists. -/
import Derived.Test.YtpmnipaimoaagaaDoorPx19
set_option linter.unusedVariables false
set_option linter.unusedSimpArgs false
namespace Go.Px
open Go Go.RowKit

def GEnt (w : World) (x : Nat × List Seg) : Prop := x.1 < w.heap.size ∧ segsPl x.2 ∧ ∃ cur e fr, w.heap[x.1]? = some (.cells cur e fr) ∧ Has cur 0 (segCells x.2)
theorem gok_of {P : Program} {w : World} {l : List (Nat × List Seg)} (h : AllP (GEnt w) l) : GOk ⟨P, w.heap.size, assoc l, noM⟩ w := fun g ss hg => by
  have := assoc_all (p := fun n v => GEnt w (n, v)) l h g ss hg
  exact ⟨⟨this.1, id⟩, this.2.1 _ _, this.2.2⟩
theorem gent_tab {P : Program} {w : World} {name : String} {g n : Nat} {k : IntKind} {zs : List Int} (hn : P.globalNamed name = some g) (hl : zs.length = n) (h : Lib.TabIs P w name k zs) : GEnt w (g, [.arr (.sc (.int k)) n zs]) := by
  unfold Lib.TabIs World.var? at h
  rw [hn] at h
  simp only [Option.bind_some] at h
  split at h
  · rename_i cs e fr hb
    cases h
    refine ⟨(Array.getElem?_eq_some_iff.1 hb).1, fun _ _ s hs => ?_, _, e, fr, hb, fun j x hj => ?_⟩
    · simp at hs; subst hs; exact hl
    · have e1 : segCells [.arr (.sc (.int k)) n zs] = flat (.sc (.int k)) zs := by simp [segCells, Seg.cells]
      rw [e1, flat_sc] at hj
      rw [Nat.zero_add, List.getElem?_toArray]
      exact hj
  · cases h
theorem gent_u8 {P : Program} {w : World} {g3 g4 : Nat} (hne : g4 ≠ g3) (hT : Lib.Utf8Tabs g3 g4 w) : GEnt w (g3, [.arr (.sc (.int .u8)) 256 gvFirst]) ∧ GEnt w (g4, [.arr (.strc [.int .u8, .int .u8]) 16 gvAccept]) := by
  have h := globU8_ok (P := P) hT
  constructor
  · obtain ⟨h1, h2⟩ := h g3 [.arr (.sc (.int .u8)) 256 gvFirst] (by simp [globU8])
    exact ⟨h1.1, segsPl_of h2.1 rfl, h2.2⟩
  · obtain ⟨h1, h2⟩ := h g4 [.arr (.strc [.int .u8, .int .u8]) 16 gvAccept] (by simp [globU8, hne])
    exact ⟨h1.1, segsPl_of h2.1 rfl, h2.2⟩
theorem tabIs_of_reads {P : Program} {W : World} {name : String} {k : IntKind} {zs : List Int} {g : Nat} {t e : TypeId} {n : Nat}
    (hg : P.globalNamed name = some g) (hty : (P.globals[g]?).map (·.type) = some t) (ht : P.underlying t = some (.array n e)) (he : P.underlying e = some (.int k)) (hce : P.cellsOf e = 1) (hct : P.cellsOf t = n)
    (h : Lib.VarReads P W name (Lib.tabData k zs)) : Lib.TabIs P W name k zs := by
  obtain ⟨g', t', cs, fuel, p, hg', ht', hvar, hd⟩ := h
  obtain rfl := Option.some.inj (hg.symm.trans hg')
  obtain rfl := Option.some.inj (hty.symm.trans ht')
  unfold Lib.TabIs
  rw [hvar, ← Lib.cells_of_tab ht he hce hct hd]
/-- digest.first, digest.parts -/
def gv_dfirst : List Int := [1779033703, 3144134277, 1013904242, 2773480762, 1359893119, 2600822924, 528734635, 1541459225]
def gv_dparts : List Int := [1116352408, 1899447441, 3049323471, 3921009573, 961987163, 1508970993, 2453635748, 2870763221, 3624381080, 310598401, 607225278, 1426881987, 1925078388, 2162078206, 2614888103, 3248222580, 3835390401, 4022224774, 264347078, 604807628, 770255983, 1249150122, 1555081692, 1996064986, 2554220882, 2821834349, 2952996808, 3210313671, 3336571891, 3584528711, 113926993, 338241895, 666307205, 773529912, 1294757372, 1396182291, 1695183700, 1986661051, 2177026350, 2456956037, 2730485921, 2820302411, 3259730800, 3345764771, 3516065817, 3600352804, 4094571909, 275423344, 430227734, 506948616, 659060556, 883997877, 958139571, 1322822218, 1537002063, 1747873779, 1955562222, 2024104815, 2227730452, 2361852424, 2428436474, 2756734187, 3204031479, 3329325298]
end Go.Px
