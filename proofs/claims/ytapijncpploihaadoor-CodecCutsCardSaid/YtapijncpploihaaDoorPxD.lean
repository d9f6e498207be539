/- Our library of evaluations, part 4. -/
import Derived.Test.YtapijncpploihaaDoorPxC
import Derived.Deep.Slices
set_option linter.unusedVariables false
set_option linter.unusedSimpArgs false
/- A law's argument that is a list of records. -/
namespace Go.Px
open Go Go.RowKit Go.Deep

def ones' (fs : List T0) : List SP := fs.map .one
def toRec : (fs : List T0) → spα (ones' fs) → recα fs
  | [], _ => ()
  | _ :: r, x => (x.1, toRec r x.2)
def recWf : (fs : List T0) → recα fs → Prop
  | [], _ => True
  | t :: r, x => t.wfv x.1 ∧ recWf r x.2
theorem toRec_cells : (fs : List T0) → (x : spα (ones' fs)) → segCells (spInj (ones' fs) x) = recVals fs (toRec fs x)
  | [], _ => rfl
  | t :: r, x => by
    have ih := toRec_cells r x.2
    show Seg.cells (.one (t.val x.1)) ++ segCells (spInj (ones' r) x.2) = t.val x.1 :: recVals r (toRec r x.2)
    rw [ih]; rfl
theorem toRec_wf : (fs : List T0) → (x : spα (ones' fs)) → spWf (ones' fs) x → recWf fs (toRec fs x)
  | [], _, _ => trivial
  | _ :: r, x, h => ⟨h.1, toRec_wf r x.2 h.2⟩
theorem ro_of_recs {w : World} {a : Addr} {fs : List T0} {l : List (recα fs)} {n cap : Nat} (hl : l.length = n) (hc : n ≤ cap) (h0 : 0 < fs.length)
    (h : ∀ i, i < n → ∀ f, f < fs.length → w.cell? (a.add (i * fs.length + f)) = some (recAt fs (l.getD i (recDflt fs)) f)) :
    RoRep w (· < w.heap.size) (.strc fs) l (.slice (some a) n cap) := by
  subst hl
  refine ⟨some a, cap, rfl, hc, ?_⟩
  cases hn : l with
  | nil => exact .inl rfl
  | cons y r =>
    right
    have hz0 := h 0 (by simp [hn]) 0 h0
    obtain ⟨b, o, sp⟩ := a
    have hz : (⟨b, o, sp⟩ : Addr).add (0 * fs.length + 0) = ⟨b, o, sp⟩ := by simp [Addr.add]
    rw [hz] at hz0
    unfold World.cell? at hz0
    split at hz0
    · rename_i cur e fr hb
      simp only at hb
      split at hz0
      · cases hz0
      · rename_i hsp
        have hsp' : sp = none := by cases sp <;> simp_all
        subst hsp'
        have hlt : b < w.heap.size := (Array.getElem?_eq_some_iff.1 hb).1
        refine ⟨b, o, cur, e, fr, rfl, hlt, hb, ?_⟩
        intro j x hj
        rw [← hn] at hj
        have hjl : j < l.length * fs.length := by
          have := (List.getElem?_eq_some_iff.1 hj).1
          rw [flat_length] at this; exact this
        have hi : j / fs.length < l.length := Nat.div_lt_of_lt_mul (by rw [Nat.mul_comm]; exact hjl)
        have hf : j % fs.length < fs.length := Nat.mod_lt _ h0
        have hje : j / fs.length * fs.length + j % fs.length = j := by rw [Nat.mul_comm]; exact Nat.div_add_mod j fs.length
        have hat := flat_at (.strc fs) l (j / fs.length) (j % fs.length) hi hf
        have hsz : (Cod.strc fs).sz = fs.length := rfl
        rw [hsz, hje, hj] at hat
        have hcell := h _ hi _ hf
        rw [hje, add_lit, cell_of w hb] at hcell
        rw [hcell]; exact hat.symm
    · cases hz0
theorem arg_recs {H : Type} {enc : TypeId × Value → H} {P : Program} {W : World} {base : Nat} {held : Bool} {t e : TypeId} {sf : Array Field} {a : Option Addr} {len cap : Nat} {d : DataW H} {ps : List MemPlace} {ts : List TypeId} {ds : List (DataW H)} {j : Nat}
    (fs : List T0) (h0 : 0 < fs.length)
    (hsz : (DataW.weightsEach P ts ds).all (· ≤ reachBytes) = true) (ht : ts[j]? = some t) (hd : ds[j]? = some d) (hu : P.underlying t = some (.slice e)) (he : P.underlying e = some (.struct sf)) (hc : P.cellsOf e = fs.length)
    (hlay : layB P (P.cellsOf e) (ones' fs) sf.toList 0 = true) {B : Nat} (hB : P.bytesOf e = B)
    (h : DataW.Trod enc P W base (fun _ => true) held t (.slice a len cap) d ps) :
    ∃ zs : List (recα fs), RoRep W (· < W.heap.size) (.strc fs) zs (.slice a len cap) ∧ zs.length * B ≤ 140737488351232 ∧ (∀ z ∈ zs, recWf fs z) := by
  obtain ⟨fuel, hf⟩ := h
  rcases Go.Deep.open_slice hu hf with ⟨hcs, _⟩ | ⟨x, l, c, m, n, D, Pl, hcs, _, hl, _, hm, hx, hcell⟩
  · simp [Value.cells] at hcs
    obtain ⟨rfl, rfl, rfl⟩ := hcs
    exact ⟨[], ro_nil, by simp, fun z hz => by cases hz⟩
  · simp [Value.cells] at hcs
    obtain ⟨rfl, rfl, rfl⟩ := hcs
    obtain ⟨hx, _⟩ := Prod.mk.inj hx
    subst hx
    simp only [if_true] at hm
    subst hm
    have z := sized_slice hsz ht hd hu
    rw [hB] at z
    have z : m * B ≤ 140737488351232 := by
      refine Nat.le_trans (Nat.le_of_eq ?_) z
      congr 1
      simp; omega
    have each : ∀ i, i < m → ∃ y : recα fs, recWf fs y ∧ ∀ f, f < fs.length → W.cell? (x.add (i * fs.length + f)) = some (recAt fs y f) := fun i hi => by
      obtain ⟨cs', g1, g2⟩ := hcell i hi
      obtain ⟨_, hlen, hcl⟩ := World.cells?_some g1
      obtain ⟨xs, q, _, _, hlen2, hxl, hff⟩ := DataW.trod_struct he g2
      obtain ⟨y, k1, _, k3⟩ := trod_lay (P := P) (w := W) (enc := enc) (base := base) (spare := fun _ => true) (held := held) (q := q) hlen2 (ones' fs) sf.toList 0 hlay (fun f hmm => by
        obtain ⟨i, hi⟩ := List.mem_iff_getElem?.1 hmm
        rw [Array.getElem?_toList] at hi
        have hlt : i < sf.size := (Array.getElem?_eq_some_iff.1 hi).1
        have := hff i f hi
        rw [List.getElem?_eq_getElem (by omega)] at this
        exact ⟨_, this⟩)
      rw [List.drop_zero, toRec_cells] at k1
      refine ⟨toRec fs y, toRec_wf fs y k3, fun f hf => ?_⟩
      have q1 := recVals_at fs (toRec fs y) f hf
      rw [← k1] at q1
      have q2 := hcl f (by rw [hc]; exact hf)
      rw [add_add, hc] at q2
      rw [q2]; exact q1
    haveI : Inhabited (recα fs) := ⟨recDflt fs⟩
    obtain ⟨y, hy⟩ := choose_lt (α := recα fs) each
    refine ⟨(List.range len).map y, ro_of_recs (by simp) hl h0 (fun i hi f hf => ?_), ?_, fun z hz => ?_⟩
    · rw [(hy i (by omega)).2 f hf, List.getD_eq_getElem?_getD]
      simp [hi]
    · simp only [List.length_map, List.length_range]
      exact Nat.le_trans (Nat.mul_le_mul_right _ hl) z
    · obtain ⟨i, hi, rfl⟩ := List.mem_map.1 hz
      exact (hy i (by have := List.mem_range.1 hi; omega)).1
/-- a struct with one text: what is read of the text -/
theorem arg_strcB {H : Type} {enc : TypeId × Value → H} {P : Program} {w : World} {base : Nat} {spare : Nat → Bool} {held : Bool} {t : TypeId} {fs : Array Field} {ss : List SP} {v : Value} {d : DataW H} {ps : List MemPlace} {r : Reach} {b0 : Nat} (hu : P.underlying t = some (.struct fs)) (hl : layB P (P.cellsOf t) ss fs.toList 0 = true)
    (i : Nat) (f : Field) (hfi : fs[i]? = some f) (hft : P.underlying f.type = some .string) (hfc : P.cellsOf f.type = 1)
    (hv : Value.okWide P w r b0 t v) (h : DataW.Trod enc P w base spare held t v d ps) : ∃ x : spα ss, (segsPl (spInj ss x) ∧ v = .agg (segCells (spInj ss x)).toArray) ∧ spWf ss x ∧ ∃ ds, d = .agg ds ∧ ∀ s, ((segCells (spInj ss x)).drop f.offset).take 1 = [.string s] → ds[i]? = some (.lit (.string s.data.toList)) := by
  obtain ⟨x, ⟨g1, g2⟩, g3⟩ := arg_strc hu hl hv h
  subst g2
  refine ⟨x, ⟨g1, rfl⟩, g3, ?_⟩
  obtain ⟨fuel, hf⟩ := h
  have e : (Value.agg (segCells (spInj ss x)).toArray).cells.toList = segCells (spInj ss x) := by simp [Value.cells]
  rw [e] at hf
  obtain ⟨xs, q, _, hx, hlen, hxl, hff⟩ := DataW.trod_struct hu hf
  refine ⟨xs.map (·.1), (Prod.mk.inj hx).1, fun s hs => ?_⟩
  have hi := hff i f hfi
  rw [hfc, hs] at hi
  have hlt : i < fs.size := (Array.getElem?_eq_some_iff.1 hfi).1
  rw [List.getElem?_eq_getElem (by omega)] at hi
  obtain ⟨s', h1, h2, _⟩ := DataW.trod_string hft hi
  simp only [List.cons.injEq, Value.string.injEq, and_true] at h1
  subst h1
  rw [List.getElem?_map, List.getElem?_eq_getElem (by omega)]
  simp only [Option.map_some]
  rw [h2]
end Go.Px

