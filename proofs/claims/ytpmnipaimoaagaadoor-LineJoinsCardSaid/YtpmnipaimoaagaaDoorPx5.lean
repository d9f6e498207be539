/- Loads and stores. -/
import Derived.Test.YtpmnipaimoaagaaDoorPx4
set_option linter.unusedVariables false
set_option linter.unusedSimpArgs false
namespace Go.Px
open Go Go.RowKit
variable {Ww : World} {Ll : Nat → Prop}

/-! ### flat contents -/
theorem recVals_length : (fs : List T0) → (x : recα fs) → (recVals fs x).length = fs.length
  | [], _ => rfl
  | _ :: r, x => by simp [recVals, recVals_length r x.2]
theorem cells_length (C : Cod) (x : C.α) : (C.cells x).length = C.sz := by
  cases C with
  | sc t => rfl
  | strc fs => exact recVals_length fs x
theorem recVals_at : (fs : List T0) → (x : recα fs) → (f : Nat) → f < fs.length → (recVals fs x)[f]? = some (recAt fs x f)
  | [], _, f, h => by simp at h
  | a :: r, x, 0, _ => by simp [recVals, recAt]
  | a :: r, x, f + 1, h => by simpa [recVals, recAt] using recVals_at r x.2 f (by simpa using h)
theorem cells_at (C : Cod) (x : C.α) (f : Nat) (h : f < C.sz) : (C.cells x)[f]? = some (C.fieldAt x f) := by
  cases C with
  | sc t => simp [Cod.sz] at h; subst h; rfl
  | strc fs => exact recVals_at fs x f h
theorem T0.val_oneC (t : T0) (x : t.α) : oneC (t.val x) = true := by cases t <;> rfl
theorem recVals_oneC : (fs : List T0) → (x : recα fs) → ∀ v ∈ recVals fs x, oneC v = true
  | [], _, v, h => by simp [recVals] at h
  | a :: r, x, v, h => by
    simp [recVals] at h
    rcases h with rfl | h
    · exact a.val_oneC _
    · exact recVals_oneC r x.2 v h
theorem cells_oneC (C : Cod) (x : C.α) : ∀ v ∈ C.cells x, oneC v = true := by
  cases C with
  | sc t => intro v h; simp [Cod.cells] at h; subst h; exact t.val_oneC x
  | strc fs => exact recVals_oneC fs x
theorem flat_length (C : Cod) (l : List C.α) : (flat C l).length = l.length * C.sz := by
  induction l with
  | nil => simp [flat]
  | cons x l ih => simp [flat] at ih ⊢; rw [ih, cells_length, Nat.add_mul, Nat.one_mul, Nat.add_comm]
theorem flat_nil (C : Cod) : flat C [] = [] := rfl
theorem flat_cons (C : Cod) (x : C.α) (l : List C.α) : flat C (x :: l) = C.cells x ++ flat C l := rfl
theorem flat_append (C : Cod) (l m : List C.α) : flat C (l ++ m) = flat C l ++ flat C m := by simp [flat]
theorem flat_oneC (C : Cod) (l : List C.α) : ∀ v ∈ flat C l, oneC v = true := by
  intro v h
  simp only [flat, List.mem_flatMap] at h
  obtain ⟨x, _, hx⟩ := h
  exact cells_oneC C x v hx
theorem flat_drop (C : Cod) (l : List C.α) (n : Nat) : flat C (l.drop n) = (flat C l).drop (n * C.sz) := by
  by_cases h : n ≤ l.length
  · have e : flat C l = flat C (l.take n) ++ flat C (l.drop n) := by rw [← flat_append, List.take_append_drop]
    have hl : (flat C (l.take n)).length = n * C.sz := by rw [flat_length, List.length_take, Nat.min_eq_left h]
    rw [e, ← hl, List.drop_left]
  · have h := Nat.le_of_lt (Nat.lt_of_not_le h)
    rw [List.drop_of_length_le h, List.drop_of_length_le (by rw [flat_length]; exact Nat.mul_le_mul_right _ h)]; rfl
theorem flat_take (C : Cod) (l : List C.α) (n : Nat) : flat C (l.take n) = (flat C l).take (n * C.sz) := by
  by_cases h : n ≤ l.length
  · have e : flat C l = flat C (l.take n) ++ flat C (l.drop n) := by rw [← flat_append, List.take_append_drop]
    have hl : (flat C (l.take n)).length = n * C.sz := by rw [flat_length, List.length_take, Nat.min_eq_left h]
    rw [e, ← hl, List.take_left]
  · have h := Nat.le_of_lt (Nat.lt_of_not_le h)
    rw [List.take_of_length_le h, List.take_of_length_le (by rw [flat_length]; exact Nat.mul_le_mul_right _ h)]
theorem flat_at (C : Cod) (l : List C.α) (i f : Nat) (hi : i < l.length) (hf : f < C.sz) : (flat C l)[i * C.sz + f]? = some (C.fieldAt (l.getD i C.dflt) f) := by
  have e : flat C l = flat C (l.take i) ++ (C.cells l[i] ++ flat C (l.drop (i + 1))) := by
    rw [← flat_cons, ← flat_append, ← List.drop_eq_getElem_cons hi, List.take_append_drop]
  have hl : (flat C (l.take i)).length = i * C.sz := by rw [flat_length, List.length_take, Nat.min_eq_left (Nat.le_of_lt hi)]
  rw [e, List.getElem?_append_right (by omega), hl, Nat.add_sub_cancel_left, List.getElem?_append_left (by rw [cells_length]; exact hf), cells_at C _ f hf]
  simp [List.getD, hi]
theorem Has.drop {cur : Array Value} {o : Nat} {xs : List Value} (h : Has cur o xs) (n : Nat) : Has cur (o + n) (xs.drop n) := fun j x hj => by
  rw [List.getElem?_drop] at hj
  rw [Nat.add_assoc]; exact h _ x hj
theorem Has.take {cur : Array Value} {o : Nat} {xs : List Value} (h : Has cur o xs) (n : Nat) : Has cur o (xs.take n) := fun j x hj => by
  rw [List.getElem?_take] at hj
  split at hj
  · exact h j x hj
  · cases hj
theorem Seg.size_ok {s : Seg} (h : segOk Ww Ll s) : s.cells.length = s.size := by
  cases s with
  | one v => rfl
  | arr C n l => simp [Seg.cells, Seg.size, flat_length]; rw [h]
  | ro a cap C l => rfl
theorem segCells_at : (ss : List Seg) → segsOk Ww Ll ss → (g : Nat) → (s : Seg) → ss[g]? = some s → (j : Nat) → j < s.size → (segCells ss)[segOff ss g + j]? = s.cells[j]?
  | [], _, g, s, h, _, _ => by simp at h
  | t :: r, ho, 0, s, h, j, hj => by
    simp at h; subst h
    have hs := Seg.size_ok (ho t (by simp))
    simp only [segOff, Nat.zero_add, segCells, List.flatMap_cons]
    rw [List.getElem?_append_left (by omega)]
  | t :: r, ho, g + 1, s, h, j, hj => by
    have hs := Seg.size_ok (ho t (by simp))
    have ih := segCells_at r (fun x hx => ho x (by simp [hx])) g s (by simpa using h) j hj
    simp only [segOff, segCells, List.flatMap_cons] at ih ⊢
    rw [List.getElem?_append_right (by omega), hs, Nat.add_assoc, Nat.add_sub_cancel_left]
    exact ih
theorem segCells_length : (ss : List Seg) → segsOk Ww Ll ss → (segCells ss).length = (ss.map Seg.size).sum
  | [], _ => rfl
  | t :: r, ho => by
    have ih := segCells_length r (fun x hx => ho x (by simp [hx]))
    simp only [segCells, List.flatMap_cons, List.length_append, List.map_cons, List.sum_cons, Seg.size_ok (ho t (by simp))] at ih ⊢
    rw [ih]

section
variable {X : Cx} {ρ : Type} {w0 : World} {S : St} {a : Act} {w : World} {loc : Nat → Nat → Option (Nat × Nat)} {E : Env ρ} {K : St → Option ρ} {r : ρ} {o : Oper} {Q : Exit → Act → World → Prop}

theorem cell_of (w : World) {b i : Nat} {cur : Array Value} {e : TypeId} {fr : Nat × Nat} (h : w.heap[b]? = some (.cells cur e fr)) : w.cell? ⟨b, i, none⟩ = cur[i]? := by simp [World.cell?, h]
theorem frozen_of (w : World) {b i : Nat} {cur : Array Value} {e : TypeId} {fr : Nat × Nat} (h : w.heap[b]? = some (.cells cur e fr)) (hh : Harm fr cur.size) (hi : i < cur.size) : w.frozen? ⟨b, i, none⟩ = false := by
  have := hh.2 i hi
  simp only [World.frozen?, h]
  by_cases h1 : fr.1 ≤ i <;> by_cases h2 : i < fr.2 <;> simp [h1, h2]
  exact this ⟨h1, h2⟩
theorem add_lit (b o i : Nat) : (⟨b, o, none⟩ : Addr).add i = ⟨b, o + i, none⟩ := by unfold Addr.add; split <;> simp_all
/-- the cell that an element's address names -/
theorem fptr_cell {C : Cod} {l : List C.α} {idx f b o : Nat} {cur : Array Value} {e : TypeId} {fr : Nat × Nat} (hb : w.heap[b]? = some (.cells cur e fr)) (hc : Has cur o (flat C l)) (hi : idx < l.length) (hf : f < C.sz) :
    w.cell? ⟨b, o + idx * C.sz + f, none⟩ = some (C.fieldAt (l.getD idx C.dflt) f) := by
  rw [cell_of w hb, Nat.add_assoc]
  exact hc _ _ (flat_at C l idx f hi hf)
theorem obj_cell {ss : List Seg} {g : Nat} {C : Cod} {n : Nat} {l : List C.α} {idx f b : Nat} {e : TypeId} {fr : Nat × Nat} {cur : Array Value} (hb : w.heap[b]? = some (.cells cur e fr)) (hH : Has cur 0 (segCells ss)) (hok : segsOk Ww Ll ss)
    (hg : ss[g]? = some (.arr C n l)) (hi : idx < n) (hf : f < C.sz) :
    w.cell? ⟨b, segOff ss g + idx * C.sz + f, none⟩ = some (C.fieldAt (l.getD idx C.dflt) f) := by
  have hl : l.length = n := hok _ (List.mem_of_getElem? hg)
  rw [cell_of w hb]
  have hlt : idx * C.sz + f < n * C.sz := by
    have := Nat.mul_le_mul_right C.sz (Nat.succ_le_of_lt hi)
    rw [Nat.succ_mul] at this; omega
  have := segCells_at ss hok g _ hg (idx * C.sz + f) hlt
  rw [Nat.add_assoc]
  refine (by simpa using hH (segOff ss g + (idx * C.sz + f)) _ (this.trans (flat_at C l idx f (by omega) hf)))
theorem obj_one {ss : List Seg} {g : Nat} {v : Value} {b : Nat} {e : TypeId} {fr : Nat × Nat} {cur : Array Value} (hb : w.heap[b]? = some (.cells cur e fr)) (hH : Has cur 0 (segCells ss)) (hok : segsOk Ww Ll ss)
    (hg : ss[g]? = some (.one v)) : w.cell? ⟨b, segOff ss g, none⟩ = some v := by
  rw [cell_of w hb]
  have := segCells_at ss hok g _ hg 0 (by simp [Seg.size])
  have h2 := hH (segOff ss g) v (by simpa [Seg.cells] using this)
  simpa using h2

theorem isAgg_run {t : TypeId} {i : TI} (ht : TOk X.P t i) (w : World) : (isAgg t).run X.P w = .ok i.agg w := by
  rw [ht.agg]
  simp only [isAgg, Sem.run_bind, run_underlying ht.und, Result.andThen_ok]
  cases i.desc <;> rfl
theorem sizeOf_run {t : TypeId} {i : TI} (ht : TOk X.P t i) (w : World) : (Go.sizeOf t).run X.P w = .ok i.size w := by
  obtain ⟨ti, h1, h2, _⟩ := ht.info
  simp [Go.sizeOf, typeInfo, h1, h2]
theorem load_cell {t : TypeId} {i : TI} (ht : TOk X.P t i) (hs : i.agg = false) {ad : Addr} {v : Value} (hv : w.cell? ad = some v) : (Instr.loadAt t (.pointer (some ad))).run X.P w = .ok v w := by
  simp [Instr.loadAt, Instr.sureAddr, loadVar, isAgg_run ht, hs, hv]
theorem load_rowAt {t : TypeId} {i : TI} (ht : TOk X.P t i) (hs : i.agg = true) {b o : Nat} {xs : List Value} {e : TypeId} {fr : Nat × Nat} {cur : Array Value} (hb : w.heap[b]? = some (.cells cur e fr)) (hc : Has cur o xs) (hl : xs.length = i.size) :
    (Instr.loadAt t (.pointer (some ⟨b, o, none⟩))).run X.P w = .ok (.agg xs.toArray) w := by
  have hload := run_loadCells_list (P := X.P) w ⟨b, o, none⟩ xs (fun j v hj => by rw [add_lit, cell_of w hb]; exact hc j v hj)
  simp [Instr.loadAt, Instr.sureAddr, loadVar, isAgg_run ht, hs, sizeOf_run ht, ← hl, hload]
theorem load_row {t : TypeId} {i : TI} (ht : TOk X.P t i) (hs : i.agg = true) {b : Nat} {xs : List Value} {e : TypeId} {fr : Nat × Nat} {cur : Array Value} (hb : w.heap[b]? = some (.cells cur e fr)) (hc : Has cur 0 xs) (hl : xs.length = i.size) :
    (Instr.loadAt t (.pointer (some ⟨b, 0, none⟩))).run X.P w = .ok (.agg xs.toArray) w := by
  have hload := run_loadCells_list (P := X.P) w ⟨b, 0, none⟩ xs (fun j v hj => by rw [add_lit, cell_of w hb]; exact hc j v hj)
  simp [Instr.loadAt, Instr.sureAddr, loadVar, isAgg_run ht, hs, sizeOf_run ht, ← hl, hload]

theorem run_load' {t : TypeId} {x : Operand} (ho : o.op = .load t x) {v v' : Value} (hx : a.eval x = v) (hl : (Instr.loadAt t v).run X.P w = .ok v' w) : (execOp a.eval o).run X.P w = .ok (.value v') w := by
  simp [execOp, ho, hx, hl]
theorem arr_desc {t : TypeId} {i : TI} (ht : TOk X.P t i) {n : Nat} {e : TypeId} (hd : i.desc = .array n e) : i.agg = true := by rw [ht.agg, hd]
theorem opd_self (h : Sim X w0 S a w loc) {x : Operand} {p : PV} (hx : opd S x = p) (hj : p ≠ .junk) (hi : ∀ s q, p ≠ .iter s q) (ht : ∀ ds, p ≠ .tup ds) :
    Rep X w S a.tmps loc (fun _ => none) (selfAlias x p) (a.eval x) ∧ (∀ k, (selfAlias x p).ref = some k → (get S k).owns = true) := by
  cases x with
  | tmp s =>
    rw [opd_tmp] at hx
    by_cases ho : p.owns = true
    · have e : selfAlias (.tmp s) p = .alias s := by
        cases p <;> simp [PV.owns] at ho <;> first | rfl | exact absurd rfl (hi _ _) | exact absurd rfl (ht _)
      rw [e]
      exact ⟨alias_rep h (by rw [hx]; exact ho), fun k hk => by cases hk; rw [hx]; exact ho⟩
    · have ho : p.owns = false := by simpa using ho
      have e : selfAlias (.tmp s) p = p := by cases p <;> first | rfl | simp [PV.owns] at ho
      rw [e, ← hx]
      exact ⟨copy_rep h (by rw [hx]; exact ho), fun k hk => get_ref h hk⟩
  | const c => rw [← hx]; exact ⟨rfl, fun k hk => by cases hk⟩
  | global g => rw [← hx]; exact ⟨rfl, fun k hk => by cases hk⟩
  | func f => rw [← hx]; exact ⟨rfl, fun k hk => by cases hk⟩
theorem alias_val (h : Sim X w0 S a w loc) {k : Nat} {v : Value} (hr : Rep X w S a.tmps loc (fun _ => none) (.alias k) v) (ho : (get S k).owns = true) : Rep X w S a.tmps loc (loc k) (get S k) v := by
  obtain ⟨u, h1, h2, h3⟩ := opd_get h (s := k) rfl (fun e => by rw [e] at ho; cases ho)
  have : a.tmps[k]? = some v := hr
  rw [h1] at this; cases this; exact h3
theorem segOk_one {v : Value} (h : oneC v = true) : segOk Ww Ll (.one v) := by
  show v.cells = #[v]
  cases v <;> first
    | rfl
    | simp [Value.oneCell'] at h
theorem segsOk_cells (C : Cod) (x : C.α) : segsPl ((C.cells x).map Seg.one) := fun _ _ s hs => by
  simp only [List.mem_map] at hs
  obtain ⟨v, hv, rfl⟩ := hs
  exact segOk_one (cells_oneC C x v hv)
theorem segOff_le : (ss : List Seg) → (g : Nat) → segsOk Ww Ll ss → (s : Seg) → ss[g]? = some s → segOff ss g + s.size ≤ (segCells ss).length
  | [], g, _, s, h => by simp at h
  | t :: r, 0, ho, s, h => by
    have hs := Seg.size_ok (ho t (by simp))
    simp at h; subst h; simp [segOff, segCells, hs]
  | t :: r, g + 1, ho, s, h => by
    have hs := Seg.size_ok (ho t (by simp))
    have := segOff_le r g (fun x hx => ho x (by simp [hx])) s (by simpa using h)
    simp [segOff, segCells, hs] at this ⊢; omega
theorem segCells_ones (l : List Value) : segCells (l.map Seg.one) = l := by
  induction l with
  | nil => rfl
  | cons a l ih => simp only [segCells, List.map_cons, List.flatMap_cons, Seg.cells] at ih ⊢; rw [ih]; rfl
theorem struct_agg {t : TypeId} {i : TI} (ht : TOk X.P t i) {fs : Array Field} (hd : i.desc = .struct fs) : i.agg = true := by rw [ht.agg, hd]
/-- an element's cells stand in a row -/
theorem el_has {C : Cod} {l : List C.α} {idx o : Nat} {cur : Array Value} (hc : ∀ f, f < C.sz → cur[o + idx * C.sz + f]? = some (C.fieldAt (l.getD idx C.dflt) f)) : Has cur (o + idx * C.sz) (C.cells (l.getD idx C.dflt)) := fun j x hj => by
  have hlt : j < C.sz := by rw [← cells_length C (l.getD idx C.dflt)]; exact (List.getElem?_eq_some_iff.1 hj).1
  rw [cells_at C _ j hlt] at hj
  rw [hc j hlt]; exact hj
theorem evEl_ok {t : TypeId} {x : Operand} {v : Value} {ti : TI} (ht : TOk X.P t ti) (h : Sim X w0 S a w loc) (ho : o.op = .load t x) (hx : a.eval x = v) {C : Cod} {l : List C.α} {idx f b o' : Nat} {cur : Array Value} {e : TypeId} {fr : Nat × Nat}
    (hv : v = .pointer (some ⟨b, o' + idx * C.sz + f, none⟩)) (hb : w.heap[b]? = some (.cells cur e fr)) (hf : f < C.sz) (hc : ∀ f, f < C.sz → cur[o' + idx * C.sz + f]? = some (C.fieldAt (l.getD idx C.dflt) f))
    (hr : evEl ti C (l.getD idx C.dflt) f (fun q => fin o.dst K q S) = some r) : o.wp X.P a w (Post X w0 K r) Q := by
  unfold evEl at hr
  split at hr
  · rename_i hag
    exact wp_raw (run_load' ho (hx.trans hv) (load_cell ht hag (by rw [cell_of w hb]; exact hc f hf))) h hr
  · split at hr
    · rename_i fs hd
      split at hr
      · rename_i hcc
        obtain ⟨rfl, h2⟩ := hcc
        refine wp0 (p := .strc ((C.cells (l.getD idx C.dflt)).map Seg.one)) (run_load' ho (hx.trans hv) (load_rowAt (xs := C.cells (l.getD idx C.dflt)) ht (struct_agg ht hd) hb (el_has hc) (by rw [cells_length]; exact h2.symm))) h hr rfl ⟨segsOk_cells C _ _ _, by rw [segCells_ones]⟩ (fun k hk => by cases hk)
      · cases hr
    · cases hr
theorem evRd_ok {t : TypeId} {x : Operand} {v : Value} {ti : TI} (ht : TOk X.P t ti) (h : Sim X w0 S a w loc) (ho : o.op = .load t x) (hx : a.eval x = v) {ss : List Seg} {g idx f b : Nat} {e : TypeId} {fr : Nat × Nat} {base sz cnt : Nat}
    (hs : shp (.obj ss) g = some (base, sz, cnt)) (hi : idx < cnt) (hf : f < sz) (hv : v = .pointer (some ⟨b, base + idx * sz + f, none⟩)) {cur : Array Value} (hb : w.heap[b]? = some (.cells cur e fr)) (hH : Has cur 0 (segCells ss)) (hok : segsOk w X.Low ss)
    (hr : evRd ti ss g idx f (fun q => fin o.dst K q S) = some r) : o.wp X.P a w (Post X w0 K r) Q := by
  unfold evRd at hr
  split at hr
  · rename_i u' hu
    simp [shp, hu] at hs
    obtain ⟨rfl, rfl, rfl⟩ := hs
    obtain rfl : idx = 0 := by omega
    obtain rfl : f = 0 := by omega
    split at hr
    · rename_i hag
      refine wp_raw (run_load' ho (hx.trans hv) (load_cell ht hag ?_)) h hr
      have := obj_one (w := w) hb hH hok hu
      simpa using this
    · cases hr
  · rename_i C n l hu
    simp [shp, hu] at hs
    obtain ⟨rfl, rfl, rfl⟩ := hs
    have hl : l.length = n := hok _ (List.mem_of_getElem? hu)
    have hc : ∀ f, f < C.sz → cur[segOff ss g + idx * C.sz + f]? = some (C.fieldAt (l.getD idx C.dflt) f) := fun f hf => by
      have := obj_cell (w := w) hb hH hok hu hi hf
      rwa [cell_of w hb] at this
    split at hr
    · rename_i n' e' hd
      split at hr
      · rename_i hcc
        obtain ⟨rfl, rfl, rfl, h4⟩ := hcc
        refine wp0 (p := .arr C n l) (run_load' ho (hx.trans hv) (load_rowAt (xs := flat C l) ht (arr_desc ht hd) hb (fun j u hj => ?_) (by rw [flat_length, hl]; exact h4.symm))) h hr rfl ⟨hl, rfl⟩ (fun k hk => by cases hk)
        have hj' := (List.getElem?_eq_some_iff.1 hj).1
        rw [flat_length, hl] at hj'
        have := segCells_at ss hok g _ hu j hj'
        have h2 := hH (segOff ss g + j) u (by rw [this]; exact hj)
        simpa using h2
      · cases hr
    · exact evEl_ok ht h ho hx hv hb hf hc hr
  · rename_i ra rc C l hu
    simp [shp, hu] at hs
    obtain ⟨rfl, rfl, rfl⟩ := hs
    obtain rfl : idx = 0 := by omega
    obtain rfl : f = 0 := by omega
    split at hr
    · rename_i hag
      refine wp0 (p := .ros C l) (run_load' ho (hx.trans hv) (load_cell ht hag (v := .slice ra l.length rc) ?_)) h hr rfl (hok _ (List.mem_of_getElem? hu)) (fun k hk => by cases hk)
      have := segCells_at ss hok g _ hu 0 (by simp [Seg.size])
      have h2 := hH (segOff ss g) (.slice ra l.length rc) (by simpa [Seg.cells] using this)
      simpa [cell_of w hb] using h2
    · cases hr
  · cases hr
theorem evLoad_ok {t : TypeId} {x : Operand} {p : PV} {v : Value} (hE : EnvOk X E) (h : Sim X w0 S a w loc) (ho : o.op = .load t x) (hx : a.eval x = v)
    (hp : Rep X w S a.tmps loc (fun _ => none) p v) (hown : ∀ k, p.ref = some k → (get S k).owns = true) (hr : evLoad E S t p (fun q => fin o.dst K q S) = some r) : o.wp X.P a w (Post X w0 K r) Q := by
  unfold evLoad at hr
  cases hti : E.T t with
  | none => rw [hti] at hr; cases hr
  | some ti =>
    rw [hti] at hr
    have ht := hE.T t ti hti
    dsimp only at hr
    cases p with
    | alias k =>
      dsimp only at hr
      have hv := alias_val h hp (hown k rfl)
      split at hr
      · rename_i C n l hs
        split at hr
        · rename_i n' e hd
          split at hr
          · rename_i hc
            obtain ⟨hc1, hc2⟩ := hc
            rw [hs] at hv
            obtain ⟨b, cur, e', fr, g1, g2, g3, g4, g5, g6, g7⟩ := hv
            have hl : l.length = n := g6 (.arr C n l) (by simp)
            refine wp0 (p := .arr C n l) (run_load' ho (hx.trans g2) (load_row (xs := flat C l) ht (arr_desc ht hd) g4 (fun j u hj => by rw [g7]; simpa [segCells, Seg.cells] using hj) (by rw [flat_length, hl]; exact hc2.symm))) h hr rfl ⟨hl, rfl⟩ (fun k hk => by cases hk)
          · cases hr
        · cases hr
      · rename_i ss _ hs
        split at hr
        · rename_i fs hd
          split at hr
          · rename_i hc
            rw [hs] at hv
            obtain ⟨b, cur, e', fr, g1, g2, g3, g4, g5, g6, g7⟩ := hv
            refine wp0 (p := .strc ss) (run_load' ho (hx.trans g2) (load_row (xs := segCells ss) ht (struct_agg ht hd) g4 (fun j u hj => by rw [g7]; simpa using hj) (by rw [segCells_length ss g6]; exact hc.symm))) h hr rfl ⟨g6, rfl⟩ (fun k hk => by cases hk)
          · cases hr
        · cases hr
      · cases hr
    | ptr k g idx f =>
      dsimp only at hr
      obtain ⟨base, sz, cnt, b, o', e1, e2, e3, e4, e5⟩ := hp
      have hk := hown k rfl
      obtain ⟨u, q1, q2, q3⟩ := opd_get h (s := k) rfl (fun e => by rw [e] at hk; cases hk)
      split at hr
      · rename_i C l hs
        rw [hs] at e1 q3
        cases g with
        | succ g => simp [shp] at e1
        | zero =>
          simp [shp] at e1
          obtain ⟨rfl, rfl, rfl⟩ := e1
          rcases q3 with ⟨q4, _⟩ | ⟨b', o2, cap, cur, e', fr, q4, q5, q6, q7, q8, q9, q11, q12⟩
          · rw [e2] at q4; cases q4
          · rw [e2] at q4; cases q4
            split at hr
            · rename_i n' ea hd
              split at hr
              · rename_i hcc
                obtain ⟨rfl, hsz⟩ := hcc
                obtain ⟨hle, hr⟩ := chk_some hr
                have hle : idx + n' ≤ l.length := of_decide_eq_true hle
                have hlen : ((l.drop idx).take n').length = n' := by simp; omega
                refine wp0 (p := .arr C n' ((l.drop idx).take n')) (run_load' ho (hx.trans e5) (load_rowAt (xs := flat C ((l.drop idx).take n')) ht (arr_desc ht hd) q7 (fun j u hj => ?_) (by rw [flat_length, hlen]; exact hsz.symm))) h hr rfl ⟨hlen, rfl⟩ (fun k hk => by cases hk)
                rw [flat_take, flat_drop] at hj
                have hj1 := (List.getElem?_eq_some_iff.1 hj).1
                rw [List.length_take, List.length_drop] at hj1
                rw [List.getElem?_take_of_lt (by omega), List.getElem?_drop] at hj
                have := q12 (idx * C.sz + j) u hj
                rw [← this]
                congr 1
                omega
              · cases hr
            · refine evEl_ok ht h ho hx (o' := o') (by simpa using e5) q7 e4 (fun f hf => ?_) hr
              have := fptr_cell (w := w) q7 q12 e3 hf
              rwa [cell_of w q7] at this
      · rename_i ss hs
        rw [hs] at e1 q3
        obtain ⟨b', cur, e', fr, q4, q5, q6, q7, q8, q9, q10⟩ := q3
        rw [e2] at q4; cases q4
        rw [q10] at q7
        exact evRd_ok ht h ho hx e1 e3 e4 (by simpa using e5) q7 (fun j x hj => by simpa using hj) q9 hr
      · cases hr
    | gptr g s idx f =>
      dsimp only at hr
      obtain ⟨ss, base, sz, cnt, e0, e1, e3, e4, e5⟩ := hp
      rw [hE.G] at hr
      rw [e0] at hr
      obtain ⟨_, q9, cur, e', fr, q7, q8⟩ := h.glob g ss e0
      dsimp only at hr
      exact evRd_ok ht h ho hx e1 e3 e4 e5 q7 q8 q9 hr
    | fptr C l idx f =>
      dsimp only at hr
      obtain ⟨b, o', cur, e', fr, e1, e2, e3, e4, e5, e6⟩ := hp
      refine evEl_ok ht h ho hx e3 e5 e2 (fun f hf => ?_) hr
      have := fptr_cell (w := w) e5 e6 e1 hf
      rwa [cell_of w e5] at this
    | gl g =>
      dsimp only at hr
      rw [hE.G] at hr
      split at hr
      · rename_i C n l hg
        split at hr
        · rename_i n' e hd
          split at hr
          · rename_i hc
            obtain ⟨hc1, hc2⟩ := hc
            obtain ⟨_, q9, cur, e', fr, q7, q8⟩ := h.glob g _ hg
            have hl : l.length = n := q9 (.arr C n l) (by simp)
            have hv : v = .pointer (some ⟨g, 0, none⟩) := hp
            refine wp0 (p := .arr C n l) (run_load' ho (hx.trans hv) (load_row (xs := flat C l) ht (arr_desc ht hd) q7 (fun j u hj => q8 j u (by simpa [segCells, Seg.cells] using hj)) (by rw [flat_length, hl]; exact hc2.symm))) h hr rfl ⟨hl, rfl⟩ (fun k hk => by cases hk)
          · cases hr
        · cases hr
      · cases hr
    | _ => cases hr
end
end Go.Px
