/- Each operation does what the evaluator tells: copies, variables, loads and stores. -/
import Derived.Test.YtpmnipaimoaagaaDoorPx3
set_option linter.unusedVariables false
set_option linter.unusedSimpArgs false
namespace Go.Px
open Go Go.RowKit

/-- what a callee is told of an argument -/
def ArgRepP (w : World) (Lo : Nat → Prop) (d : D1) (v : Value) : Prop := match d with
  | .junk => True
  | .raw x => v = x
  | .arr C n l => l.length = n ∧ v = .agg (flat C l).toArray
  | .strc ss => segsOk w Lo ss ∧ v = .agg (segCells ss).toArray
  | .own C l => RoRep w Lo C l v
abbrev ArgRep (w : World) (d : D1) (v : Value) : Prop := ArgRepP w (· < w.heap.size) d v
/-- what a callee hands back: new blocks, each part its own -/
def DRep (w : World) (B : Nat → Prop) (ℓ : Nat → Option (Nat × Nat)) (d : DV) (v : Value) : Prop := match d with
  | .one d => D1Rep w B d (ℓ 0) v
  | .tup ds => ∃ vs : Array Value, v = .tuple vs ∧ vs.size = ds.length ∧ ∀ (j : Nat) d, ds[j]? = some d → ∃ u, vs[j]? = some u ∧ D1Rep w B d (ℓ j) u
def ResRepP (w : World) (Mi : Nat → Prop) (d : DV) (v : Value) : Prop :=
  ∃ ℓ : Nat → Option (Nat × Nat), (∀ j b o, ℓ j = some (b, o) → Mi b ∧ b < w.heap.size) ∧ (∀ j j' b o o', ℓ j = some (b, o) → ℓ j' = some (b, o') → j = j') ∧
    (d.toPV.owns = false → ∀ j, ℓ j = none) ∧ DRep w Mi ℓ d v
abbrev ResRep (w : World) (B : Nat) (d : DV) (v : Value) : Prop := ResRepP w (B ≤ ·) d v
/-- a function's contract -/
def FunOk (P : Program) (G : Nat → Option (List Seg)) (f : FuncId) (F : Fun) : Prop :=
  ∀ (ρ : Type) (ds : List DV) (k : DV → Option ρ) (r : ρ), F.run ρ ds k = some r → ∀ (w : World) (vs : Array Value), GOk ⟨P, w.heap.size, G, noM⟩ w →
    vs.size = ds.length → (∀ (i : Nat) d, ds[i]? = some d → ∃ d1 v, d = .one d1 ∧ vs[i]? = some v ∧ ArgRep w d1 v) →
    Calls P f vs w fun e w' => ∃ d v, k d = some r ∧ e = .returned v ∧ Below w.heap.size w w' ∧ ResRep w' w.heap.size d v
/-- beside block b -/
abbrev ArgRepX (w : World) (b : Nat) (d : D1) (v : Value) : Prop := ArgRepP w (fun c => c < w.heap.size ∧ c ≠ b) d v
/-- the contract of a function that is handed a variable to write -/
def FunROk (P : Program) (G : Nat → Option (List Seg)) (f : FuncId) (F : FunR) : Prop :=
  ∀ (ρ : Type) (ss : List Seg) (ds : List DV) (k : List Seg → DV → Option ρ) (r : ρ), F.run ρ ss ds k = some r → ∀ (w : World) (vs : Array Value) (b : Nat) (cur : Array Value) (e : TypeId) (fr : Nat × Nat), GOk ⟨P, w.heap.size, G, (· = b)⟩ w →
    vs.size = ds.length + 1 → vs[0]? = some (.pointer (some ⟨b, 0, none⟩)) → w.heap[b]? = some (.cells cur e fr) → Harm fr cur.size → segsPl ss → cur = (segCells ss).toArray →
    (∀ (i : Nat) d, ds[i]? = some d → ∃ d1 v, d = .one d1 ∧ vs[i + 1]? = some v ∧ ArgRepX w b d1 v) →
    Calls P f vs w fun en w' => ∃ ss' d v, k ss' d = some r ∧ en = .returned v ∧ Kept ⟨P, w.heap.size, G, (· = b)⟩ w w' ∧
      (∃ cur' e' fr', w'.heap[b]? = some (.cells cur' e' fr') ∧ Harm fr' cur'.size ∧ cur' = (segCells ss').toArray) ∧ segsPl ss' ∧ ss'.map Seg.kind = ss.map Seg.kind ∧ ResRep w' w.heap.size d v
/-- the blocks of a slice that is handed over to be used up, and the new ones -/
def usedM (B : Nat) (ℓ : Option (Nat × Nat)) : Nat → Prop := fun c => B ≤ c ∨ ∃ o, ℓ = some (c, o)
/-- the contract of a function that is handed a slice to use up -/
def FunAOk (P : Program) (G : Nat → Option (List Seg)) (f : FuncId) (F : FunA) : Prop :=
  ∀ (ρ : Type) (c : Cont) (ds : List DV) (k : DV → Option ρ) (r : ρ), F.run ρ c ds k = some r → ∀ (w : World) (vs : Array Value) (ℓ : Option (Nat × Nat)) (v0 : Value), GOk ⟨P, w.heap.size, G, usedM w.heap.size ℓ⟩ w →
    vs.size = ds.length + 1 → vs[0]? = some v0 → OwnRep w (usedM w.heap.size ℓ) c.C c.l ℓ v0 →
    (∀ (i : Nat) d, ds[i]? = some d → ∃ d1 v, d = .one d1 ∧ vs[i + 1]? = some v ∧ ArgRepP w (fun b => b < w.heap.size ∧ ¬ usedM w.heap.size ℓ b) d1 v) →
    Calls P f vs w fun en w' => ∃ d v, k d = some r ∧ en = .returned v ∧ Kept ⟨P, w.heap.size, G, usedM w.heap.size ℓ⟩ w w' ∧ ResRepP w' (usedM w.heap.size ℓ) d v
def Callable (P : Program) (f : FuncId) : Prop := ∃ fn, P.funcs[f]? = some fn ∧ fn.body.isNone = false ∧ (fn.name == "runtime.NumGoroutine") = false
structure EnvOk {ρ : Type} (X : Cx) (E : Env ρ) : Prop where
  T : ∀ t i, E.T t = some i → TOk X.P t i
  G : E.G = X.G
  mixed : X.P.follows .mixedOrders = true
  Γ : ∀ f F, E.Γ f = some F → FunOk X.P X.G f F ∧ Callable X.P f
  R : ∀ f F, E.R f = some F → FunROk X.P X.G f F ∧ Callable X.P f
  A : ∀ f F, E.A f = some F → FunAOk X.P X.G f F ∧ Callable X.P f

section
variable {X : Cx} {ρ : Type} {w0 : World} {S : St} {a : Act} {w : World} {loc : Nat → Nat → Option (Nat × Nat)} {E : Env ρ} {K : St → Option ρ} {r : ρ} {o : Oper} {Q : Exit → Act → World → Prop}

theorem loc_none (h : Sim X w0 S a w loc) {s : Nat} (ho : (get S s).owns = false) : loc s = fun _ => none := funext (h.dom s ho)
/-- what is copied out of a slot that owns nothing -/
theorem copy_rep (h : Sim X w0 S a w loc) {s : Nat} (ho : (get S s).owns = false) : Rep X w S a.tmps loc (fun _ => none) (get S s) (a.eval (.tmp s)) := by
  by_cases hj : get S s = .junk
  · rw [hj]; trivial
  · obtain ⟨v, _, h2, h3⟩ := opd_get h rfl hj
    rw [h2]; rw [loc_none h ho] at h3; exact h3
theorem get_ref (h : Sim X w0 S a w loc) {s k : Nat} (hr : (get S s).ref = some k) : (get S k).owns = true := by
  have hj : get S s ≠ .junk := fun e => by rw [e] at hr; cases hr
  exact h.ref s _ k (get_of_ne hj) hr
theorem alias_rep (h : Sim X w0 S a w loc) {s : Nat} (ho : (get S s).owns = true) : Rep X w S a.tmps loc (fun _ => none) (.alias s) (a.eval (.tmp s)) := by
  obtain ⟨v, h1, h2, _⟩ := opd_get h (s := s) rfl (fun e => by rw [e] at ho; cases ho)
  rw [h2]; exact h1
theorem run_move {x : Operand} (ho : o.op = .move x) : (execOp a.eval o).run X.P w = .ok (.value (a.eval x)) w := by simp [execOp, ho]
theorem run_assign {x : Operand} (ho : o.op = .assign x) : (execOp a.eval o).run X.P w = .ok (.value (a.eval x)) w := by simp [execOp, ho]
theorem opd_tmp (S : St) (s : Nat) : opd S (.tmp s) = get S s := rfl

/-- a kill of s frees its blocks: they may go to another slot -/
theorem Sim.take (h : Sim X w0 S a w loc) (s : Nat) (hn : isObj (get S s) = false) : ∃ loc', Sim X w0 (Px.kill S s) a w loc' ∧ Free (Px.kill S s) s ∧ (∀ i, i ≠ s → loc' i = loc i) ∧
    (∀ j b o, loc s j = some (b, o) → b < w.heap.size ∧ X.Mine b ∧ ∀ i j' o', loc' i j' ≠ some (b, o')) := by
  obtain ⟨loc', h1, hf, hl, hl0⟩ := h.kill s (pinned_of_obj hn)
  refine ⟨loc', h1, hf, hl, fun j b o hj => ⟨(h.lt s j b o hj).1, (h.lt s j b o hj).2, fun i j' o' hi => ?_⟩⟩
  by_cases his : i = s
  · subst his; rw [hl0] at hi; cases hi
  · rw [hl i his] at hi; exact his (h.sep i j' s j b o' o hi hj).1
theorem tup_go {s d : Nat} {ds : List D1} {v : Value} (h : Sim X w0 S a w loc) (hs : get S s = .tup ds)
    (hrun : (execOp a.eval o).run X.P w = .ok (.value v) w) (hv : a.eval (.tmp s) = v) (hd : o.dst = some d) (hf : fin o.dst K (.tup ds) (kill S s) = some r) : o.wp X.P a w (Post X w0 K r) Q := by
  obtain ⟨u, h1, h2, h3⟩ := opd_get h hs (by simp)
  obtain ⟨loc', hk, _, hl, hnew⟩ := h.take s (by rw [hs]; rfl)
  rw [hd] at hf
  obtain ⟨g1, g2, g3⟩ := fin_some hf
  have hfr : Rep X w (kill S s) a.tmps loc' (loc s) (.tup ds) v := by
    rw [← hv, h2]
    exact h3.frame (fun _ _ _ _ => rfl) (fun _ _ => rfl) (fun _ => Nat.le_refl _) (fun k hk => by cases hk)
  obtain ⟨loc2, h5⟩ := hk.fin g1 (loc s) (.tup ds) v hfr (fun k hk => by cases hk) (fun ho => h.dom s (by rw [hs]; exact ho))
    (fun j j' b o o' e1 e2 => (h.sep s j s j' b o o' e1 e2).2) hnew
  refine wp_run hrun ?_
  rw [hd]
  exact ⟨_, loc2, g3, h5⟩

theorem op_move {x : Operand} (h : Sim X w0 S a w loc) (ho : o.op = .move x) (hr : evOp E S o.dst o.op o.type (fin o.dst K) = some r) : o.wp X.P a w (Post X w0 K r) Q := by
  have hrun := run_move (X := X) (a := a) (w := w) ho
  rw [ho] at hr
  simp only [evOp] at hr
  split at hr
  · rename_i s
    split at hr
    · rename_i C l hs; exact wp0 hrun h hr rfl (alias_rep h (by rw [hs]; rfl)) (fun k hk => by cases hk; rw [hs]; rfl)
    · rename_i ss hs; exact wp0 hrun h hr rfl (alias_rep h (by rw [hs]; rfl)) (fun k hk => by cases hk; rw [hs]; rfl)
    · rename_i t q hs; exact wp0 hrun h hr rfl (alias_rep h (by rw [hs]; rfl)) (fun k hk => by cases hk; rw [hs]; rfl)
    · rename_i c l n hs; exact wp0 hrun h hr rfl (alias_rep h (by rw [hs]; rfl)) (fun k hk => by cases hk; rw [hs]; rfl)
    · rename_i ds hs
      cases hd : o.dst with
      | none =>
        rw [hd] at hr
        obtain ⟨loc', hk, _⟩ := h.take s (by rw [hs]; rfl)
        refine wp_run hrun ?_
        rw [hd]
        exact ⟨_, loc', fin_none hr, hk⟩
      | some d => exact tup_go h hs hrun rfl hd hr
    · rename_i p hn1 hn2 hn3 hn5 hn4
      have how : (get S s).owns = false := by
        cases hp : get S s <;> first | rfl | (rw [hp] at hn1; exact absurd rfl (hn1 _ _)) | (rw [hp] at hn2; exact absurd rfl (hn2 _)) | (rw [hp] at hn3; exact absurd rfl (hn3 _ _)) | (rw [hp] at hn4; exact absurd rfl (hn4 _)) | (rw [hp] at hn5; exact absurd rfl (hn5 _ _ _))
      exact wp0 hrun h hr how (copy_rep h how) (fun k hk => get_ref h hk)
  · rename_i hn
    cases x with
    | tmp s => exact absurd rfl (hn s)
    | const c => exact wp0 hrun h hr rfl rfl (fun k hk => by cases hk)
    | global g => exact wp0 hrun h hr rfl rfl (fun k hk => by cases hk)
    | func f => exact wp0 hrun h hr rfl rfl (fun k hk => by cases hk)
theorem op_pick {c x y : Operand} (h : Sim X w0 S a w loc) (ho : o.op = .pick c x y) (hr : evOp E S o.dst o.op o.type (fin o.dst K) = some r) : o.wp X.P a w (Post X w0 K r) Q := by
  rw [ho] at hr
  simp only [evOp] at hr
  split at hr
  · rename_i β hc
    have hcv := opd_raw h hc
    have hrun : (execOp a.eval o).run X.P w = .ok (.value (if β then a.eval x else a.eval y)) w := by simp [execOp, ho, hcv, asBool]
    cases β with
    | true =>
      simp only [cond_true] at hr
      split at hr
      · rename_i v hv
        have := opd_raw h hv
        simp only [if_true] at hrun
        rw [this] at hrun
        exact wp_raw hrun h hr
      · cases hr
    | false =>
      simp only [cond_false] at hr
      split at hr
      · rename_i v hv
        have := opd_raw h hv
        simp only [Bool.false_eq_true, if_false] at hrun
        rw [this] at hrun
        exact wp_raw hrun h hr
      · cases hr
  · cases hr
theorem op_binOp {op : BinOp} {t ty : TypeId} {x y : Operand} (hE : EnvOk X E) (h : Sim X w0 S a w loc) (ho : o.op = .binOp op t x y ty) (hr : evOp E S o.dst o.op o.type (fin o.dst K) = some r)
    (hcmp : evCmp E op t (opd S x) (opd S y) (fun r => fin o.dst K r S) = some r → o.wp X.P a w (Post X w0 K r) Q) : o.wp X.P a w (Post X w0 K r) Q := by
  rw [ho] at hr
  simp only [evOp] at hr
  split at hr
  · rename_i v u hx hy
    have e1 := opd_raw h hx
    have e2 := opd_raw h hy
    obtain ⟨hp, z, hz, hb⟩ := evBin_sound (P := X.P) w op t ((E.T t).map (·.desc)) (fun d hd => by
      cases ht : E.T t with
      | none => rw [ht] at hd; cases hd
      | some i => rw [ht] at hd; simp at hd; rw [← hd]; exact (hE.T t i ht).und) v u (isLit y) (fun hl k n e => isLit_ok hl (by rw [e2, e])) _ r hr
    have hrun : (execOp a.eval o).run X.P w = .ok (.value z) w := by
      simp only [execOp, ho, e1, e2, Sem.run_bind, run_eqGuard w op t x y v u hp, Result.andThen_ok, hb]; rfl
    exact wp_raw hrun h hz
  · exact hcmp hr
theorem op_unOp {op : UnOp} {t : TypeId} {x : Operand} (h : Sim X w0 S a w loc) (ho : o.op = .unOp op t x) (hr : evOp E S o.dst o.op o.type (fin o.dst K) = some r) : o.wp X.P a w (Post X w0 K r) Q := by
  rw [ho] at hr
  simp only [evOp] at hr
  split at hr
  · rename_i v hx
    have e1 := opd_raw h hx
    split at hr
    · rename_i z hz
      have hrun : (execOp a.eval o).run X.P w = .ok (.value z) w := by
        simp only [execOp, ho, e1, Sem.run_bind, pureVal_run hz, Result.andThen_ok]; rfl
      exact wp_raw hrun h hr
    · cases hr
  · cases hr
theorem run_zero {t : TypeId} {i : TI} (ht : TOk X.P t i) (w : World) : ∃ z, (zeroValue t).run X.P w = .ok z w ∧ z.cells = (segCells i.zero).toArray := by
  obtain ⟨ti, h1, _, _, z, h2, h3⟩ := ht.info
  exact ⟨z, by simp [zeroValue, typeInfo, h1, h2], h3⟩
theorem below_alloc' (w : World) (ob : Obj) : Below w.heap.size w { w with heap := w.heap.push ob } := (Below.refl _ w).alloc (Nat.le_refl _) ob
theorem new_block (h : Sim X w0 S a w loc) (ob : Obj) : w.heap.size < ({ w with heap := w.heap.push ob } : World).heap.size ∧ X.Mine w.heap.size ∧ ∀ i j' o', loc i j' ≠ some (w.heap.size, o') :=
  ⟨by simp, .inl h.hB, fun i j' o' e => Nat.lt_irrefl _ (h.lt i j' _ o' e).1⟩
theorem oneC_cells {v : Value} (h : oneC v = true) : v.cells = #[v] := by cases v <;> first | rfl | simp [Value.oneCell'] at h
theorem harm0 (n : Nat) : Harm (0, 0) n := harm_zero n
theorem op_alloc {t : TypeId} (hE : EnvOk X E) (h : Sim X w0 S a w loc) (ho : o.op = .alloc t) (hr : evOp E S o.dst o.op o.type (fin o.dst K) = some r) : o.wp X.P a w (Post X w0 K r) Q := by
  rw [ho] at hr
  simp only [evOp] at hr
  split at hr
  · rename_i ti ht
    obtain ⟨z, h1, h2⟩ := run_zero (hE.T t ti ht) w
    have hrun : (execOp a.eval o).run X.P w = .ok (.value (.pointer (some ⟨w.heap.size, 0, none⟩))) { w with heap := w.heap.push (.cells z.cells t) } := by
      simp [execOp, ho, Instr.alloc, h1, newVar, newRow]
    refine wp1 w.heap.size 0 hrun (h.ext (below_alloc' w _)) hr rfl rfl ?_ (new_block h _)
    exact ⟨w.heap.size, z.cells, t, (0, 0), by simp, rfl, .inl h.hB, by simp, harm0 _, (hE.T t ti ht).zok _ _, h2⟩
  · cases hr
theorem op_box {t : TypeId} {x : Operand} (h : Sim X w0 S a w loc) (ho : o.op = .box t x) (hr : evOp E S o.dst o.op o.type (fin o.dst K) = some r) : o.wp X.P a w (Post X w0 K r) Q := by
  have hrun : (execOp a.eval o).run X.P w = .ok (.value (.pointer (some ⟨w.heap.size, 0, none⟩))) { w with heap := w.heap.push (.cells (a.eval x).cells t) } := by
    simp [execOp, ho, Instr.box, newVar, newRow]
  have key : ∀ (ss : List Seg), segsOk w X.Low ss → (a.eval x).cells = (segCells ss).toArray → fin o.dst K (.obj ss) S = some r → o.wp X.P a w (Post X w0 K r) Q := fun ss h1 h2 h3 => by
    refine wp1 w.heap.size 0 hrun (h.ext (below_alloc' w _)) h3 rfl rfl ?_ (new_block h _)
    exact ⟨w.heap.size, (a.eval x).cells, t, (0, 0), by simp, rfl, .inl h.hB, by simp, harm0 _, h1.frame fun b hb => (below_alloc' w _).block b (Nat.lt_of_lt_of_le hb.1 h.hB), h2⟩
  rw [ho] at hr
  simp only [evOp] at hr
  have hget : ∀ p, opd S x = p → p ≠ .junk → p.owns = false → (∀ g, p ≠ .gl g) → (∀ v, p ≠ .raw v) → Rep X w S a.tmps loc (fun _ => none) p (a.eval x) := fun p hp hj hn hg hv => by
    cases x with
    | tmp s =>
      have := copy_rep h (s := s) (by rw [opd_tmp] at hp; rw [hp]; exact hn)
      rw [opd_tmp] at hp; rw [hp] at this; exact this
    | const c => exact absurd hp.symm (hv c)
    | global g => exact absurd hp.symm (hg g)
    | func f => exact absurd hp.symm (hv _)
  split at hr
  · rename_i v hv
    have e := opd_raw h hv
    split at hr
    · rename_i hc
      refine key _ (fun s hs => ?_) ?_ hr
      · simp at hs; subst hs
        exact oneC_cells hc
      · rw [e, oneC_cells hc]; rfl
    · cases hr
  · rename_i C n l hp
    have hrep := hget _ hp (by simp) rfl (by simp) (by simp)
    exact key _ (fun s hs => by simp at hs; subst hs; exact hrep.1) (by rw [hrep.2]; simp [Value.cells, segCells, Seg.cells]) hr
  · rename_i ss hp
    have hrep := hget _ hp (by simp) rfl (by simp) (by simp)
    exact key _ hrep.1 (by rw [hrep.2]; rfl) hr
  · cases hr
end
end Go.Px
