/- A row's parameter that is a struct of plain cells and of arrays of plain cells. -/
import Derived.Test.YtapijncpploihaaDoorPx17
import Derived.OpenShut
set_option linter.unusedVariables false
set_option linter.unusedSimpArgs false
namespace Go.Px
open Go Go.RowKit Go.ChangeShapes Go.WideShapes

def t0B (P : Program) (t : TypeId) : T0 → Bool
  | .int k => match P.underlying t with
    | some (.int k') => decide (k' = k)
    | _ => false
  | .bool => match P.underlying t with
    | some .bool => true
    | _ => false
  | .str => match P.underlying t with
    | some .string => true
    | _ => false
def SP.wid : SP → Nat
  | .one _ => 1
  | .arr _ n => n
def spB (P : Program) (t : TypeId) : SP → Bool
  | .one t0 => t0B P t t0 && P.cellsOf t == 1
  | .arr (.sc t0) n => match P.underlying t with
    | some (.array m e) => m == n && t0B P e t0 && P.cellsOf e == 1 && P.cellsOf t == n
    | _ => false
  | .arr (.strc _) _ => false
def layB (P : Program) (tot : Nat) : List SP → List Field → Nat → Bool
  | [], [], off => off == tot
  | p :: ps, f :: fs, off => f.offset == off && spB P f.type p && layB P tot ps fs (off + p.wid)
  | _, _, _ => false
def T0.wfv : (t : T0) → t.α → Prop
  | .int k, n => (Lit.int k n).wf = true
  | .bool, _ => True
  | .str, s => s.size ≤ maxLen
def SP.wfv : (p : SP) → p.α → Prop
  | .one t, x => t.wfv x
  | .arr (.sc t) n, l => l.length = n ∧ ∀ y ∈ l, t.wfv y
  | .arr (.strc _) _, _ => False
def spWf : (ps : List SP) → spα ps → Prop
  | [], _ => True
  | p :: r, x => p.wfv x.1 ∧ spWf r x.2

section
variable {H : Type} {enc : TypeId × Value → H} {P : Program} {w : World} {base : Nat} {spare : Nat → Bool} {held : Bool}
theorem trod_t0 {t : TypeId} {t0 : T0} {fuel : Nat} {cs : List Value} {x : DataW H × List MemPlace} (ht : t0B P t t0 = true) (h : DataW.trod enc P w base spare held fuel t cs = some x) : ∃ y : t0.α, cs = [t0.val y] ∧ t0.wfv y := by
  cases t0 with
  | int k =>
    have hu : P.underlying t = some (.int k) := by
      simp only [t0B] at ht
      split at ht
      · rename_i k' hu
        rw [hu, of_decide_eq_true ht]
      · simp at ht
    obtain ⟨n, h1, _, h2⟩ := DataW.trod_int hu h
    exact ⟨n, h1, h2⟩
  | bool =>
    have hu : P.underlying t = some .bool := by
      simp only [t0B] at ht
      split at ht
      · assumption
      · simp at ht
    obtain ⟨b, h1, _⟩ := DataW.trod_bool hu h
    exact ⟨b, h1, trivial⟩
  | str =>
    have hu : P.underlying t = some .string := by
      simp only [t0B] at ht
      split at ht
      · assumption
      · simp at ht
    obtain ⟨s, h1, _, h2⟩ := DataW.trod_string hu h
    exact ⟨s, h1, h2⟩
theorem flat_sc' {t : T0} : (l : List t.α) → flat (.sc t) l = l.map t.val
  | [] => rfl
  | a :: r => by
    show t.val a :: flat (.sc t) r = _
    rw [flat_sc' r]; rfl
theorem trod_sp {t : TypeId} {p : SP} {fuel : Nat} {cs : List Value} {x : DataW H × List MemPlace} (ht : spB P t p = true) (h : DataW.trod enc P w base spare held fuel t cs = some x) :
    P.cellsOf t = p.wid ∧ ∃ y : p.α, cs = (p.inj y).cells ∧ segOk (p.inj y) ∧ p.wfv y := by
  cases p with
  | one t0 =>
    simp only [spB, Bool.and_eq_true, beq_iff_eq] at ht
    obtain ⟨y, h1, h2⟩ := trod_t0 ht.1 h
    exact ⟨ht.2, y, h1, by cases t0 <;> simp [SP.inj, segOk, T0.val, Value.cells], h2⟩
  | arr C n =>
    cases C with
    | strc fs => simp [spB] at ht
    | sc t0 =>
      have hx : ∃ m e, P.underlying t = some (.array m e) ∧ ((m = n ∧ t0B P e t0 = true) ∧ P.cellsOf e = 1) ∧ P.cellsOf t = n := by
        simp only [spB] at ht
        split at ht
        · rename_i m e hu
          simp only [Bool.and_eq_true, beq_iff_eq] at ht
          exact ⟨m, e, hu, ht⟩
        · simp at ht
      · obtain ⟨m, e, hu, ⟨⟨rfl, h0⟩, h1⟩, h2⟩ := hx
        obtain ⟨xs, q, _, _, hl, hxl, hf⟩ := DataW.trod_array hu h
        refine ⟨h2, ?_⟩
        have key : ∀ j, j ≤ m → ∃ l : List t0.α, cs.drop (m - j) = l.map t0.val ∧ l.length = j ∧ ∀ y ∈ l, t0.wfv y := by
          intro j
          induction j with
          | zero => intro _; exact ⟨[], by rw [List.drop_eq_nil_of_le (by omega)]; rfl, rfl, fun y hy => by cases hy⟩
          | succ j ih =>
            intro hj
            obtain ⟨l, g1, g2, g3⟩ := ih (by omega)
            have g := hf (m - (j + 1)) (by omega)
            rw [h1, Nat.mul_one, List.getElem?_eq_getElem (by omega)] at g
            obtain ⟨y, k1, k2⟩ := trod_t0 h0 g
            refine ⟨y :: l, ?_, by simp [g2], fun z hz => ?_⟩
            · have : m - j = (m - (j + 1)) + 1 := by omega
              rw [this] at g1
              rw [List.drop_eq_getElem_cons (by omega)] at k1 ⊢
              rw [g1]
              simp only [List.take_succ_cons, List.take_zero, List.cons.injEq, and_true] at k1
              rw [k1]; rfl
            · rcases List.mem_cons.1 hz with rfl | hz
              · exact k2
              · exact g3 z hz
        obtain ⟨l, g1, g2, g3⟩ := key m (Nat.le_refl m)
        rw [Nat.sub_self, List.drop_zero] at g1
        exact ⟨l, by rw [g1]; exact (flat_sc' l).symm, g2, g2, g3⟩
theorem trod_lay {cs : List Value} {q tot : Nat} (hl : cs.length = tot) : (ss : List SP) → (fs : List Field) → (off : Nat) → layB P tot ss fs off = true →
    (∀ f ∈ fs, ∃ y, DataW.trod enc P w base spare held q f.type ((cs.drop f.offset).take (P.cellsOf f.type)) = some y) → ∃ x : spα ss, cs.drop off = segCells (spInj ss x) ∧ segsOk (spInj ss x) ∧ spWf ss x
  | [], [], off, h, _ => ⟨(), by
      have : off = tot := by simpa [layB] using h
      rw [List.drop_eq_nil_of_le (by omega)]; rfl, (fun s hs => by cases hs), trivial⟩
  | [], _ :: _, _, h, _ => by cases h
  | _ :: _, [], _, h, _ => by cases h
  | p :: ss, f :: fs, off, h, hf => by
    simp only [layB, Bool.and_eq_true, beq_iff_eq] at h
    obtain ⟨⟨h1, h2⟩, h3⟩ := h
    obtain ⟨x, g1, g2, g3⟩ := trod_lay hl ss fs _ h3 (fun f hm => hf f (List.mem_cons_of_mem _ hm))
    obtain ⟨y, hy⟩ := hf f (List.mem_cons_self)
    obtain ⟨k1, z, k2, k3, k4⟩ := trod_sp h2 hy
    refine ⟨(z, x), ?_, ?_, k4, g3⟩
    · show cs.drop off = (p.inj z).cells ++ segCells (spInj ss x)
      rw [← g1, ← k2, h1, k1, ← List.drop_drop, List.take_append_drop]
    · intro s hs
      rcases List.mem_cons.1 (show s ∈ p.inj z :: spInj ss x from hs) with rfl | hs
      · exact k3
      · exact g2 s hs
/-- a row's struct: its parts -/
theorem arg_strc {t : TypeId} {fs : Array Field} {ss : List SP} {v : Value} {d : DataW H} {ps : List MemPlace} {r : Reach} {b0 : Nat} (hu : P.underlying t = some (.struct fs)) (hl : layB P (P.cellsOf t) ss fs.toList 0 = true)
    (hv : Value.okWide P w r b0 t v) (h : DataW.Trod enc P w base spare held t v d ps) : ∃ x : spα ss, (segsOk (spInj ss x) ∧ v = .agg (segCells (spInj ss x)).toArray) ∧ spWf ss x := by
  simp only [Value.okWide, hu] at hv
  obtain ⟨cs, rfl, _, _⟩ := hv
  obtain ⟨fuel, hf⟩ := h
  have e : (Value.agg cs).cells.toList = cs.toList := by simp [Value.cells]
  rw [e] at hf
  obtain ⟨xs, q, _, _, hlen, hxl, hff⟩ := DataW.trod_struct hu hf
  obtain ⟨x, g1, g2, g3⟩ := trod_lay (P := P) (w := w) (enc := enc) (base := base) (spare := spare) (held := held) (q := q) hlen ss fs.toList 0 hl (fun f hm => by
    obtain ⟨i, hi⟩ := List.mem_iff_getElem?.1 hm
    rw [Array.getElem?_toList] at hi
    have hlt : i < fs.size := (Array.getElem?_eq_some_iff.1 hi).1
    have := hff i f hi
    rw [List.getElem?_eq_getElem (by omega)] at this
    exact ⟨_, this⟩)
  refine ⟨x, ⟨g2, ?_⟩, g3⟩
  rw [List.drop_zero] at g1
  rw [← g1]
end
end Go.Px
namespace Go.Px
open Go Go.RowKit
/-- a contract for some arguments alone -/
theorem fun_ok_of {P : Program} {G : Nat → Option (List Seg)} {f : FuncId} {fn : Func} {body : Code} {pa : List DP} {pr : RP} (F : dpα pa → Option pr.α) (E : Env pr.α)
    (hf : P.funcs[f]? = some fn) (hb : fn.body = some body) (hE : ∀ X : Cx, X.P = P → X.G = G → EnvOk X E)
    (hlo : ∀ (X : Cx) (w0 : World), X.P = P → X.G = G → LoopsOk X w0 E.Λ (endK E fn.results.toList pr .ret) body)
    (hev : ∀ x y, F x = some y → ev E body (start pa (fn.ntmps - pa.length) x) (endK E fn.results.toList pr) = some y) : FunOk P G f (mkFun pa pr F) := by
  have h2 := fun_ok (pa := pa) (pr := pr) (fun x => ev E body (start pa (fn.ntmps - pa.length) x) (endK E fn.results.toList pr)) E hf hb hE hlo (fun _ => rfl)
  intro ρ ds k r hr
  refine h2 ρ ds k r ?_
  have hr : ((dpProj pa ds).bind fun x => (F x).bind fun r => k (pr.inj r)) = some r := hr
  show ((dpProj pa ds).bind fun x => (ev E body (start pa (fn.ntmps - pa.length) x) (endK E fn.results.toList pr)).bind fun r => k (pr.inj r)) = some r
  cases hx : dpProj pa ds with
  | none => rw [hx] at hr; cases hr
  | some x =>
    rw [hx] at hr
    simp only [Option.bind_some] at hr ⊢
    cases hF : F x with
    | none => rw [hF] at hr; cases hr
    | some y => rw [hF] at hr; rw [hev x y hF]; exact hr
theorem bytes_is {s : ByteArray} {l : List UInt8} (h : s.data.toList = l) : s = ⟨l.toArray⟩ := by
  cases s; subst h; rfl
end Go.Px
