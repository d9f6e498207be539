/- Stores. -/
import Derived.Test.YtpmnipaimoaagaaDoorPx5
set_option linter.unusedVariables false
set_option linter.unusedSimpArgs false
namespace Go.Px
open Go Go.RowKit
variable {Ww : World} {Ll : Nat → Prop}

section
variable {X : Cx} {ρ : Type} {w0 : World} {S : St} {a : Act} {w : World} {loc : Nat → Nat → Option (Nat × Nat)} {E : Env ρ} {K : St → Option ρ} {r : ρ} {o : Oper} {Q : Exit → Act → World → Prop}

theorem wp_skipped {P : Program} {o : Oper} {w' : World} {K : Act → World → Prop} {Q : Exit → Act → World → Prop}
    (hrun : (execOp a.eval o).run P w = .ok .skip w') (h : K (a.put o.dst undef) w') : o.wp P a w K Q := by
  unfold Oper.wp; rw [hrun]; exact h
theorem wp_stored {o : Oper} {S' : St} {w' : World} {loc' : Nat → Nat → Option (Nat × Nat)} {K : St → Option ρ} {r : ρ} {Q : Exit → Act → World → Prop}
    (hrun : (execOp a.eval o).run X.P w = .ok .skip w') (hs : Sim X w0 S' a w' loc') (hf : fin o.dst K (.raw undef) S' = some r) : o.wp X.P a w (Post X w0 K r) Q := by
  refine wp_skipped hrun ?_
  cases hd : o.dst with
  | none => rw [hd] at hf; exact ⟨S', loc', fin_none hf, hs⟩
  | some d =>
    rw [hd] at hf
    obtain ⟨h1, h2, h3⟩ := fin_some hf
    obtain ⟨loc1, hs1⟩ := hs.fin0 h1 (.raw undef) undef rfl rfl (fun k hk => by cases hk)
    exact ⟨_, loc1, h3, hs1⟩

/-- the cells behind o + i become vs -/
def splice (cur : Array Value) (i : Nat) (vs : List Value) : Array Value := (cur.toList.take i ++ vs ++ cur.toList.drop (i + vs.length)).toArray
theorem splice_size {cur : Array Value} {i : Nat} {vs : List Value} (h : i + vs.length ≤ cur.size) : (splice cur i vs).size = cur.size := by
  simp [splice]; omega
theorem splice_one {cur : Array Value} {i : Nat} {v : Value} (h : i < cur.size) : splice cur i [v] = cur.setIfInBounds i v := by
  apply Array.ext'
  simp only [splice, Array.toList_setIfInBounds, List.length_singleton, List.append_assoc, List.singleton_append]
  rw [List.set_eq_take_append_cons_drop]
  simp [h]
theorem run_storeCells (P : Program) (b o : Nat) (t : TypeId) (fr : Nat × Nat) : ∀ (vs : List Value) (i : Nat) (cur : Array Value) (w : World), w.heap[b]? = some (.cells cur t fr) → Harm fr cur.size →
    o + i + vs.length ≤ cur.size → (∀ v ∈ vs, oneC v = true) →
    (storeCells ⟨b, o, none⟩ vs i).run P w = .ok () (w.setRow b (splice cur (o + i) vs))
  | [], i, cur, w, hg, _, _, _ => by
    simp only [storeCells, splice, List.append_nil, List.length_nil, Nat.add_zero, List.take_append_drop, Array.toArray_toList]
    rw [setRow_self w b cur t fr hg]
    rfl
  | v :: rest, i, cur, w, hg, hh, hl, h1 => by
    have hi : o + i < cur.size := by simp at hl; omega
    have hcell : w.cell? ⟨b, o + i, none⟩ = some cur[o + i] := by rw [cell_of w hg]; simp [hi]
    have hst : (store ((⟨b, o, none⟩ : Addr).add i) v).run P w = .ok () (w.setRow b (cur.setIfInBounds (o + i) v)) := by
      rw [add_lit, run_store P w _ v _ (h1 v (by simp)), hcell]
      simp [frozen_of w hg hh hi, setCell_eq_setRow w b (o + i) cur t fr v hg]
    have ih := run_storeCells P b o t fr rest (i + 1) (cur.setIfInBounds (o + i) v) (w.setRow b (cur.setIfInBounds (o + i) v)) (setRow_heap w b cur _ t _ hg) (by simpa using hh) (by simp at hl ⊢; omega) (fun x hx => h1 x (by simp [hx]))
    simp only [storeCells, Sem.run_bind, hst, Result.andThen_ok, ih, setRow_setRow]
    congr 2
    simp only [splice]
    congr 1
    simp only [Array.toList_setIfInBounds, List.length_cons]
    have hi' : o + i < cur.toList.length := by simpa using hi
    generalize cur.toList = c at hi'
    rw [show o + (i + 1) = o + i + 1 by omega]
    have e1 : (c.set (o + i) v).take (o + i + 1) = c.take (o + i) ++ [v] := by
      rw [List.take_set, List.take_succ_eq_append_getElem hi', List.set_append]
      simp [Nat.min_eq_left (Nat.le_of_lt hi')]
    have e2 : (c.set (o + i) v).drop (o + i + 1 + rest.length) = c.drop (o + i + 1 + rest.length) := List.drop_set_of_lt (by omega)
    rw [e1, e2]
    simp [Nat.add_assoc, Nat.add_comm 1]

/-- the contents of slot k are turned -/
theorem Sim.updG (h : Sim X w0 S a w loc) {k b ob : Nat} {pk : PV} {w' : World} (hk : (get S k).owns = true) (hl : loc k 0 = some (b, ob))
    (hoth : ∀ c, c < w.heap.size → c ≠ b → w'.heap[c]? = w.heap[c]?) (hsize : w.heap.size ≤ w'.heap.size) (hos : w'.os = w.os) (htape : w'.tape = w.tape) (hout : w'.output = w.output) (hbs : ∀ c, blkSize w c ≤ blkSize w' c) (hsh : ∀ g, shp pk g = shp (get S k) g) (hob : isObj pk = isObj (get S k)) (ho : pk.owns = true) (hr : pk.ref = none)
    (hrep : ∀ v, a.tmps[k]? = some v → Rep X w' S a.tmps loc (loc k) pk v) : Sim X w0 (S.set k pk) a w' loc := by
  have hkl : k < S.length := (List.getElem?_eq_some_iff.1 (get_some hk)).1
  have hbB := (h.lt k 0 b ob hl).2
  have hlow : ∀ c, X.Low c → w'.heap[c]? = w.heap[c]? := fun c hc => hoth c (Nat.lt_of_lt_of_le hc.1 h.hB) (Cx.low_mine hc hbB)
  have hel : ∀ (i : Nat) q, (S.set k pk)[i]? = some q → (i = k ∧ q = pk) ∨ (i ≠ k ∧ S[i]? = some q) := fun i q hq => by
    by_cases hi : i = k
    · subst hi; simp [hkl] at hq; exact .inl ⟨rfl, hq.symm⟩
    · rw [List.getElem?_set_ne (Ne.symm hi)] at hq; exact .inr ⟨hi, hq⟩
  have hgo : ∀ i, (get (S.set k pk) i).owns = (get S i).owns := fun i => by
    by_cases hi : i = k
    · subst hi; rw [get_set_same hkl, ho, hk]
    · rw [get_set_ne hi]
  have hfr : ∀ (i : Nat) (q : PV) (v : Value), i ≠ k ∨ q = pk → (∀ c oc j, loc i j = some (c, oc) → q = pk ∨ c ≠ b) → True := fun _ _ _ _ _ => trivial
  have hkk : ∀ k', (∀ g, shp (get (S.set k pk) k') g = shp (get S k') g) ∧ isObj (get (S.set k pk) k') = isObj (get S k') := fun k' => by
    by_cases hi : k' = k
    · subst hi; rw [get_set_same hkl]; exact ⟨hsh, hob⟩
    · rw [get_set_ne hi]; exact ⟨fun _ => rfl, rfl⟩
  refine { h with len := by simpa using h.len, hB := Nat.le_trans h.hB hsize, below := h.below.trans ⟨hos, htape, hout, hsize, fun c hc => hlow c hc⟩, glob := h.glob.frame hlow, rep := ?_, ref := ?_, dom := ?_, lt := ?_, pin := fun b hb => ⟨by rw [(hkk 0).2]; exact (h.pin b hb).1, (h.pin b hb).2⟩ }
  · intro i q hq
    rcases hel i q hq with ⟨rfl, rfl⟩ | ⟨hi, hq⟩
    · obtain ⟨v, hv, _⟩ := h.rep i _ (get_some hk)
      refine ⟨v, hv, (hrep v hv).frame (fun _ _ _ _ => rfl) (fun _ _ => rfl) (fun _ => Nat.le_refl _) (fun k' hk' => by rw [hr] at hk'; cases hk')⟩
    · obtain ⟨v, hv, hrv⟩ := h.rep i q hq
      refine ⟨v, hv, hrv.frame (fun j c oc hj => hoth c (h.lt i j c oc hj).1 (fun ec => ?_)) hlow hbs (fun k' _ => ⟨(hkk k').1, (hkk k').2, rfl, rfl⟩)⟩
      subst ec
      exact hi (h.sep i j k 0 c oc ob hj hl).1
  · intro i q k' hq hk'
    rw [hgo]
    rcases hel i q hq with ⟨rfl, rfl⟩ | ⟨hi, hq⟩
    · rw [hr] at hk'; cases hk'
    · exact h.ref i q k' hq hk'
  · intro i hi j
    rw [hgo] at hi; exact h.dom i hi j
  · intro i j c oc hj
    exact ⟨Nat.lt_of_lt_of_le (h.lt i j c oc hj).1 hsize, (h.lt i j c oc hj).2⟩

theorem Sim.upd (h : Sim X w0 S a w loc) {k b ob : Nat} {pk : PV} {cur cur' : Array Value} {e : TypeId} {fr : Nat × Nat} (hk : (get S k).owns = true) (hl : loc k 0 = some (b, ob))
    (hb : w.heap[b]? = some (.cells cur e fr)) (hsz : cur'.size = cur.size) (hsh : ∀ g, shp pk g = shp (get S k) g) (hob : isObj pk = isObj (get S k)) (ho : pk.owns = true) (hr : pk.ref = none)
    (hrep : ∀ v, a.tmps[k]? = some v → Rep X (w.setRow b cur') S a.tmps loc (loc k) pk v) : Sim X w0 (S.set k pk) a (w.setRow b cur') loc :=
  h.updG hk hl (fun c _ hc => setRow_other w b c cur' hc) (by simp) rfl rfl rfl (fun c => by
    by_cases hc : c = b
    · subst hc; simp [blkSize, hb, setRow_heap w c cur cur' e fr hb, hsz]
    · exact Nat.le_of_eq (blkSize_of_eq (setRow_other w b c cur' hc)).symm) hsh hob ho hr hrep

theorem Has.splice {cur : Array Value} {o i : Nat} {xs vs : List Value} (h : Has cur o xs) (hi : i + vs.length ≤ xs.length) (hx : o + xs.length ≤ cur.size) :
    Has (Px.splice cur (o + i) vs) o (xs.take i ++ vs ++ xs.drop (i + vs.length)) := by
  intro j x hj
  have hlen : ∀ m, m < xs.length → cur.toList[o + m]? = xs[m]? := fun m hm => by
    rw [List.getElem?_eq_getElem hm]; simpa using h m _ (List.getElem?_eq_getElem hm)
  simp only [Px.splice, List.getElem?_toArray]
  rw [List.append_assoc] at hj ⊢
  have hct : cur.toList.length = cur.size := by simp
  by_cases h1 : j < i
  · rw [List.getElem?_append_left (by simp; omega)] at hj ⊢
    rw [List.getElem?_take_of_lt (by omega)] at hj ⊢
    rw [hlen j (by omega)]; exact hj
  · rw [List.getElem?_append_right (by simp; omega)] at hj ⊢
    simp only [List.length_take] at hj ⊢
    rw [Nat.min_eq_left (by omega)] at hj ⊢
    rw [show o + j - (o + i) = j - i by omega]
    by_cases h2 : j - i < vs.length
    · rw [List.getElem?_append_left h2] at hj ⊢; exact hj
    · rw [List.getElem?_append_right (by omega)] at hj ⊢
      rw [List.getElem?_drop] at hj ⊢
      rw [show o + i + vs.length + (j - i - vs.length) = o + (i + vs.length + (j - i - vs.length)) by omega]
      have : i + vs.length + (j - i - vs.length) < xs.length := (List.getElem?_eq_some_iff.1 hj).1
      rw [hlen _ this]; exact hj
theorem set_take_drop {α : Type} (l : List α) (i : Nat) (y : α) (h : i < l.length) : l.set i y = l.take i ++ [y] ++ l.drop (i + 1) := by
  rw [List.set_eq_take_append_cons_drop]; simp [h]
theorem flat_set (C : Cod) (l : List C.α) (i : Nat) (y : C.α) (h : i < l.length) : flat C (l.set i y) = (flat C l).take (i * C.sz) ++ C.cells y ++ (flat C l).drop (i * C.sz + (C.cells y).length) := by
  rw [set_take_drop l i y h, flat_append, flat_append, flat_take, flat_drop, cells_length, Nat.add_mul, Nat.one_mul]
  simp [flat]
theorem segCells_set : (ss : List Seg) → segsOk Ww Ll ss → (g : Nat) → (s s' : Seg) → ss[g]? = some s → s'.cells.length = s.size → segCells (ss.set g s') = (segCells ss).take (segOff ss g) ++ s'.cells ++ (segCells ss).drop (segOff ss g + s'.cells.length)
  | [], _, g, s, _, h, _ => by simp at h
  | t :: r, ho, 0, s, s', h, hl => by
    simp at h; subst h
    have hs := Seg.size_ok (ho t (by simp))
    simp only [List.set_cons_zero, segOff, segCells, List.flatMap_cons, List.take_zero, List.nil_append, Nat.zero_add]
    rw [hl, ← hs, List.drop_left]
  | t :: r, ho, g + 1, s, s', h, hl => by
    have hs := Seg.size_ok (ho t (by simp))
    have ih := segCells_set r (fun x hx => ho x (by simp [hx])) g s s' (by simpa using h) hl
    simp only [List.set_cons_succ, segOff, segCells, List.flatMap_cons] at ih ⊢
    rw [ih, ← hs, Nat.add_assoc, List.take_length_add_append, List.drop_length_add_append]
    simp
theorem segOff_set : (ss : List Seg) → (g : Nat) → (s s' : Seg) → ss[g]? = some s → s'.size = s.size → ∀ g', segOff (ss.set g s') g' = segOff ss g'
  | [], g, s, _, h, _, _ => by simp at h
  | t :: r, 0, s, s', h, hz, 0 => rfl
  | t :: r, 0, s, s', h, hz, g' + 1 => by simp at h; subst h; simp [segOff, hz]
  | t :: r, g + 1, s, s', h, hz, 0 => rfl
  | t :: r, g + 1, s, s', h, hz, g' + 1 => by simp [segOff, segOff_set r g s s' (by simpa using h) hz g']
theorem shp_obj (ss : List Seg) (g : Nat) : shp (.obj ss) g = (ss[g]?).map fun s => (segOff ss g, s.kind.1, s.kind.2) := by
  simp only [shp]
  cases ss[g]? with
  | none => rfl
  | some s => cases s <;> rfl
theorem shp_set (ss : List Seg) (g : Nat) (s s' : Seg) (h : ss[g]? = some s) (hz : s'.size = s.size) (hk : s'.kind = s.kind) (g' : Nat) : shp (.obj (ss.set g s')) g' = shp (.obj ss) g' := by
  rw [shp_obj, shp_obj, segOff_set ss g s s' h hz]
  by_cases hg : g' = g
  · subst hg
    have : g' < ss.length := (List.getElem?_eq_some_iff.1 h).1
    simp [this] at h ⊢
    rw [hk, h]; exact ⟨rfl, rfl⟩
  · rw [List.getElem?_set_ne (Ne.symm hg)]
theorem segsOk_set {ss : List Seg} (h : segsOk Ww Ll ss) (g : Nat) {s : Seg} (hs : segOk Ww Ll s) : segsOk Ww Ll (ss.set g s) := fun t ht => by
  rcases List.mem_or_eq_of_mem_set ht with h' | rfl
  · exact h t h'
  · exact hs

theorem nest_splice {α : Type} (c F : List α) (p i n : Nat) (u : α) (hF : F.length = n) (hsub : ∀ j, j < n → c[p + j]? = F[j]?) (hi : i < n) (hc : p + n ≤ c.length) :
    c.take p ++ (F.take i ++ [u] ++ F.drop (i + 1)) ++ c.drop (p + n) = c.take (p + i) ++ [u] ++ c.drop (p + i + 1) := by
  have hFe : F = (c.drop p).take n := by
    apply List.ext_getElem?
    intro j
    by_cases hj : j < n
    · rw [← hsub j hj, List.getElem?_take_of_lt hj, List.getElem?_drop]
    · rw [List.getElem?_eq_none (by omega), List.getElem?_eq_none (by simp; omega)]
  subst hFe
  rw [List.take_add, List.take_take, Nat.min_eq_left (by omega), List.drop_take, List.drop_drop]
  have e : c.drop (p + i + 1) = (c.drop (p + (i + 1))).take (n - (i + 1)) ++ c.drop (p + n) := by
    have e1 : c.drop (p + n) = (c.drop (p + (i + 1))).drop (n - (i + 1)) := by rw [List.drop_drop]; congr 1; omega
    rw [e1, List.take_append_drop, Nat.add_assoc]
  rw [e]
  simp
/-- a part of an owned slice is turned -/
theorem upd_own (h : Sim X w0 S a w loc) {k i : Nat} {C : Cod} {l l' : List C.α} (hs : get S k = .own C l) {b o : Nat} (hl : loc k 0 = some (b, o)) (vs : List Value)
    (hlen : l'.length = l.length) (hfl : flat C l' = (flat C l).take i ++ vs ++ (flat C l).drop (i + vs.length)) (hi : i + vs.length ≤ (flat C l).length) :
    ∃ cur e fr, w.heap[b]? = some (.cells cur e fr) ∧ Harm fr cur.size ∧ o + i + vs.length ≤ cur.size ∧ Sim X w0 (S.set k (.own C l')) a (w.setRow b (Px.splice cur (o + i) vs)) loc := by
  obtain ⟨v, h1, h2, h3⟩ := opd_get h hs (by simp)
  rcases h3 with ⟨q4, _⟩ | ⟨b', o2, cap, cur, e, fr, q4, q5, q6, q7, q8, q9, q11, q12⟩
  · rw [hl] at q4; cases q4
  · rw [hl] at q4; cases q4
    have hfit : o + (flat C l).length ≤ cur.size := by
      rw [flat_length]; exact Nat.le_trans (Nat.add_le_add_left (Nat.mul_le_mul_right _ q9) _) q11
    refine ⟨cur, e, fr, q7, q8, by omega, h.upd (by rw [hs]; rfl) hl q7 (splice_size (by omega)) (fun g => ?_) (by rw [hs]; rfl) rfl rfl (fun u hu => ?_)⟩
    · rw [hs]; cases g <;> simp [shp, hlen]
    · rw [h1] at hu; cases hu
      refine .inr ⟨b, o, cap, _, e, fr, hl, by rw [hlen]; exact q5, q6, setRow_heap w b cur _ e fr q7, by rw [splice_size (by omega)]; exact q8, by omega, by rw [splice_size (by omega)]; exact q11, ?_⟩
      rw [hfl]
      exact q12.splice hi hfit
theorem upd_spr (h : Sim X w0 S a w loc) {k i : Nat} {C : Cod} {l l' : List C.α} {n : Nat} (hs : get S k = .spr C l n) {b o : Nat} (hl : loc k 0 = some (b, o)) (vs : List Value)
    (hlen : l'.length = l.length) (hfl : flat C l' = (flat C l).take i ++ vs ++ (flat C l).drop (i + vs.length)) (hi : i + vs.length ≤ (flat C l).length) :
    ∃ cur e fr, w.heap[b]? = some (.cells cur e fr) ∧ Harm fr cur.size ∧ o + i + vs.length ≤ cur.size ∧ Sim X w0 (S.set k (.spr C l' n)) a (w.setRow b (Px.splice cur (o + i) vs)) loc := by
  obtain ⟨v, h1, h2, h3⟩ := opd_get h hs (by simp)
  obtain ⟨q0, b', o2, cur, e, fr, q4, q5, q6, q7, q8, q11, q12⟩ := h3
  rw [hl] at q4; cases q4
  have hfit : o + (flat C l).length ≤ cur.size := by rw [flat_length]; exact q11
  refine ⟨cur, e, fr, q7, q8, by omega, h.upd (by rw [hs]; rfl) hl q7 (splice_size (by omega)) (fun g => ?_) (by rw [hs]; rfl) rfl rfl (fun u hu => ?_)⟩
  · rw [hs]; cases g <;> simp [shp, hlen]
  · rw [h1] at hu; cases hu
    refine ⟨by rw [hlen]; exact q0, b, o, _, e, fr, hl, by rw [hlen]; exact q5, q6, setRow_heap w b cur _ e fr q7, by rw [splice_size (by omega)]; exact q8, by rw [hlen, splice_size (by omega)]; exact q11, ?_⟩
    rw [hfl]
    exact q12.splice hi hfit
/-- a part of a variable is turned -/
theorem upd_obj (h : Sim X w0 S a w loc) {k i : Nat} {ss ss' : List Seg} (hs : get S k = .obj ss) {b o : Nat} (hl : loc k 0 = some (b, o)) (vs : List Value)
    (hsh : ∀ g, shp (.obj ss') g = shp (.obj ss) g) (hok : segsOk w X.Low ss') (hfl : segCells ss' = (segCells ss).take i ++ vs ++ (segCells ss).drop (i + vs.length)) (hi : i + vs.length ≤ (segCells ss).length) :
    o = 0 ∧ ∃ e fr, w.heap[b]? = some (.cells (segCells ss).toArray e fr) ∧ Harm fr (segCells ss).toArray.size ∧ i + vs.length ≤ (segCells ss).toArray.size ∧
      Sim X w0 (S.set k (.obj ss')) a (w.setRow b (Px.splice (segCells ss).toArray i vs)) loc := by
  obtain ⟨v, h1, h2, h3⟩ := opd_get h hs (by simp)
  obtain ⟨b', cur, e, fr, q1, q2, q3, q4, q5, q6, q7⟩ := h3
  rw [hl] at q1; cases q1
  subst q7
  have hspl : Px.splice (segCells ss).toArray i vs = (segCells ss').toArray := by simp [Px.splice, hfl]
  refine ⟨rfl, e, fr, q4, q5, by simpa using hi, h.upd (by rw [hs]; rfl) hl q4 (splice_size (by simpa using hi)) (fun g => by rw [hs]; exact hsh g) (by rw [hs]; rfl) rfl rfl (fun u hu => ?_)⟩
  rw [h1] at hu; cases hu
  exact ⟨b, _, e, fr, hl, q2, q3, setRow_heap w b _ _ e fr q4, by rw [splice_size (by simpa using hi)]; exact q5, hok.frame fun c hc => setRow_other w b c _ (Cx.low_mine hc q3), hspl⟩

theorem run_store_cells {t : TypeId} {i : TI} (ht : TOk X.P t i) {b o : Nat} {v : Value} {cur : Array Value} {e : TypeId} {fr : Nat × Nat} (hb : w.heap[b]? = some (.cells cur e fr)) (hh : Harm fr cur.size)
    (hsz : v.cells.size = i.size) (hfit : o + v.cells.size ≤ cur.size) (h1 : ∀ u ∈ v.cells.toList, oneC u = true) :
    (Instr.storeAt t (.pointer (some ⟨b, o, none⟩)) v).run X.P w = .ok () (w.setRow b (Px.splice cur o v.cells.toList)) := by
  have := run_storeCells X.P b o e fr v.cells.toList 0 cur w hb hh (by simpa using hfit) h1
  simp [Instr.storeAt, Instr.sureAddr, storeVar, sizeOf_run ht, hsz, this]
theorem run_store' {t : TypeId} {x y : Operand} (ho : o.op = .store t x y) {v u : Value} {w' : World} (hx : a.eval x = v) (hy : a.eval y = u) (hl : (Instr.storeAt t v u).run X.P w = .ok () w') : (execOp a.eval o).run X.P w = .ok .skip w' := by
  simp [execOp, ho, hx, hy, hl]
theorem T0.dec_ok {t : T0} {v : Value} {y : t.α} (h : t.dec v = some y) : t.val y = v := by
  cases t <;> cases v <;> simp [T0.dec] at h
  · obtain ⟨rfl, rfl⟩ := h; rfl
  · subst h; rfl
  · subst h; rfl
theorem cells_sc {v : Value} (h : oneC v = true) : v.cells = #[v] := oneC_cells h
theorem size_kind (s : Seg) : s.size = s.kind.1 * s.kind.2 := by
  cases s with
  | one v => rfl
  | arr C n l => exact Nat.mul_comm _ _
  | ro a cap C l => rfl
theorem shp_kind (ss : List Seg) (g : Nat) : shp (.obj ss) g = (ss[g]?).map fun s => (segOff ss g, s.kind.1, s.kind.2) := by
  simp only [shp]
  cases ss[g]? with
  | none => rfl
  | some s => cases s <;> rfl
theorem kinds_off : (ss ss' : List Seg) → ss'.map Seg.kind = ss.map Seg.kind → ∀ g, segOff ss' g = segOff ss g
  | [], [], _, _ => rfl
  | [], _ :: _, h, _ => by simp at h
  | _ :: _, [], h, _ => by simp at h
  | a :: ss, b :: ss', h, 0 => by simp [segOff]
  | a :: ss, b :: ss', h, g + 1 => by
    simp only [List.map_cons, List.cons.injEq] at h
    simp only [segOff, kinds_off ss ss' h.2 g, size_kind, h.1]
theorem kinds_shp {ss ss' : List Seg} (h : ss'.map Seg.kind = ss.map Seg.kind) (g : Nat) : shp (.obj ss') g = shp (.obj ss) g := by
  have hk : (ss'[g]?).map Seg.kind = (ss[g]?).map Seg.kind := by rw [← List.getElem?_map, ← List.getElem?_map, h]
  rw [shp_kind, shp_kind, kinds_off ss ss' h g]
  cases h1 : ss'[g]? <;> cases h2 : ss[g]? <;> rw [h1, h2] at hk <;> simp at hk ⊢
  rw [hk]; exact ⟨rfl, rfl⟩
theorem seg_len {s : Seg} (h : segOk Ww Ll s) : s.cells.length = s.size := by
  cases s with
  | one v => rfl
  | arr C n l => simp only [Seg.cells, Seg.size, flat_length]; rw [show l.length = n from h]
  | ro a cap C l => rfl
theorem kinds_len : (ss ss' : List Seg) → ss'.map Seg.kind = ss.map Seg.kind → segsOk Ww Ll ss' → segsOk Ww Ll ss → (segCells ss').length = (segCells ss).length
  | [], [], _, _, _ => rfl
  | [], _ :: _, h, _, _ => by simp at h
  | _ :: _, [], h, _, _ => by simp at h
  | a :: ss, b :: ss', h, h1, h2 => by
    simp only [List.map_cons, List.cons.injEq] at h
    have ih := kinds_len ss ss' h.2 (fun s hs => h1 s (by simp [hs])) (fun s hs => h2 s (by simp [hs]))
    have e1 := seg_len (h1 b (by simp))
    have e2 := seg_len (h2 a (by simp))
    simp only [segCells, List.flatMap_cons, List.length_append] at ih ⊢
    rw [ih, e1, e2, size_kind, size_kind, h.1]
theorem segs1_oneC {ss : List Seg} (h : segs1 ss = true) : ∀ v ∈ segCells ss, oneC v = true := fun v hv => by
  simp only [segCells, List.mem_flatMap] at hv
  obtain ⟨s, hs, hv⟩ := hv
  have := List.all_eq_true.1 h s hs
  cases s with
  | one u => simp only [Seg.cells, List.mem_singleton] at hv; subst hv; exact this
  | arr C n l => exact flat_oneC C l v hv
  | ro a cap C l => simp only [Seg.cells, List.mem_singleton] at hv; subst hv; rfl
theorem evStore_ok {t : TypeId} {x y : Operand} {p q : PV} {v u : Value} (hE : EnvOk X E) (h : Sim X w0 S a w loc) (ho : o.op = .store t x y) (hx : a.eval x = v) (hy : a.eval y = u)
    (hp : Rep X w S a.tmps loc (fun _ => none) p v) (hown : ∀ k, p.ref = some k → (get S k).owns = true) (hq : q.owns = false → Rep X w S a.tmps loc (fun _ => none) q u)
    (hr : evStore E S t p q (fun S' => fin o.dst K (.raw undef) S') = some r) : o.wp X.P a w (Post X w0 K r) Q := by
  unfold evStore at hr
  cases hti : E.T t with
  | none => rw [hti] at hr; cases hr
  | some ti =>
    rw [hti] at hr
    have ht := hE.T t ti hti
    dsimp only at hr
    cases p with
    | alias k =>
      dsimp only at hr
      have hv := alias_val h hp (hown k rfl)
      split at hr
      · rename_i C n l0 C' n' l' hs
        split at hr
        · rename_i hc
          obtain ⟨rfl, rfl, hc3⟩ := hc
          have hq := hq rfl
          obtain ⟨hl', hu⟩ := hq
          rw [hs] at hv
          obtain ⟨b, cur, e, fr, g1, g2, g3, g4, g5, g6, g7⟩ := hv
          have hl0 : l0.length = n := g6 (.arr C n l0) (by simp)
          have e0 : segCells [Seg.arr C n l0] = flat C l0 := by simp [segCells, Seg.cells]
          have e1 : segCells [Seg.arr C n l'] = flat C l' := by simp [segCells, Seg.cells]
          have hlen : (flat C l').length = (flat C l0).length := by rw [flat_length, flat_length, hl', hl0]
          obtain ⟨_, e2, fr2, q1, q2, q3, q4⟩ := upd_obj h hs g1 (i := 0) (ss' := [.arr C n l']) (flat C l') (fun g => by cases g <;> simp [shp, segOff]) (fun s hs => by simp at hs; subst hs; exact hl')
            (by rw [e1, e0, hlen]; simp) (by rw [e0, hlen]; simp)
          have hcu : u.cells = (flat C l').toArray := by rw [hu]; rfl
          refine wp_stored (loc' := loc) (run_store' ho (hx.trans g2) hy (run_store_cells ht q1 q2 (by rw [hcu]; simp [flat_length, hl', hc3]) (by rw [hcu]; simpa using q3) (by rw [hcu]; exact flat_oneC C l'))) ?_ hr
          rw [hcu]
          exact q4
        · cases hr
      · rename_i v0 u' hs
        split at hr
        · rename_i hc
          obtain ⟨hc1, hc2⟩ := hc
          have hu : u = u' := hq rfl
          rw [hs] at hv
          obtain ⟨b, cur, e, fr, g1, g2, g3, g4, g5, g6, g7⟩ := hv
          obtain ⟨_, e2, fr2, q1, q2, q3, q4⟩ := upd_obj h hs g1 (i := 0) (ss' := [.one u']) [u'] (fun g => by cases g <;> simp [shp, segOff]) (fun s hs => by simp at hs; subst hs; exact oneC_cells hc1)
            (by simp [segCells, Seg.cells]) (by simp [segCells, Seg.cells])
          refine wp_stored (loc' := loc) (run_store' ho (hx.trans g2) (hy.trans hu) (run_store_cells ht q1 q2 (by rw [oneC_cells hc1, hc2]; rfl) (by rw [oneC_cells hc1]; simpa using q3) (by rw [oneC_cells hc1]; simpa using hc1))) ?_ hr
          rw [oneC_cells hc1]; exact q4
        · cases hr
      · rename_i _ _ ss ss' hs
        split at hr
        · rename_i hc
          obtain ⟨hk, h1, h2⟩ := hc
          obtain ⟨hok', hu⟩ := hq rfl
          rw [hs] at hv
          obtain ⟨b, cur, e, fr, g1, g2, g3, g4, g5, g6, g7⟩ := hv
          have hlen := kinds_len ss ss' hk hok' g6
          obtain ⟨_, e2, fr2, q1, q2, q3, q4⟩ := upd_obj h hs g1 (i := 0) (ss' := ss') (segCells ss') (kinds_shp hk) hok' (by rw [hlen]; simp) (by rw [hlen]; simp)
          have hcu : u.cells = (segCells ss').toArray := by rw [hu]; rfl
          refine wp_stored (loc' := loc) (run_store' ho (hx.trans g2) hy (run_store_cells ht q1 q2 (by rw [hcu, List.size_toArray, segCells_length ss' hok']; exact h2.symm) (by rw [hcu]; simpa using q3) (by rw [hcu]; simpa using segs1_oneC h1))) ?_ hr
          rw [hcu]
          simpa using q4
        · cases hr
      · cases hr
    | ptr k g idx f =>
      cases f with
      | succ f => cases hr
      | zero =>
      split at hr
      · rename_i hs; cases hs
      · rename_i k2 g2 idx2 hs; cases hs
        obtain ⟨base, sz, cnt, b, o', e1, e2, e3, e4, e5⟩ := hp
        simp only [Nat.add_zero] at e5
        split at hr
        · rename_i c l hs
          rw [hs] at e1
          split at hr
          · rename_i hsz
            split at hr
            · rename_i u'
              have hu : u = u' := hq rfl
              cases g with
              | succ g => simp [shp] at e1
              | zero =>
                simp [shp] at e1
                obtain ⟨rfl, rfl, rfl⟩ := e1
                cases hd : c.dec u' with
                | none => rw [hd] at hr; cases hr
                | some y' =>
                  rw [hd] at hr
                  simp only [Option.bind_some] at hr
                  have hval := T0.dec_ok hd
                  have hone : oneC u' = true := by rw [← hval]; exact c.val_oneC y'
                  obtain ⟨cur, e, fr, q1, q2, q3, q4⟩ := upd_own h hs e2 (i := idx * 1) (l' := l.set idx y') [u'] (by simp)
                    (by have := flat_set (.sc c) l idx y' e3; simp only [Cod.sz, Cod.cells, hval] at this; exact this)
                    (by rw [flat_length]; simp [Cod.sz]; omega)
                  simp only [Cod.sz, Nat.mul_one, Nat.add_zero] at e5 q3 q4
                  refine wp_stored (loc' := loc) (run_store' ho (hx.trans e5) (hy.trans hu) (run_store_cells ht q1 q2 (by rw [oneC_cells hone, hsz]; rfl) (by rw [oneC_cells hone]; simpa using q3) (by rw [oneC_cells hone]; simpa using hone))) ?_ hr
                  rw [oneC_cells hone]; exact q4
            · cases hr
          · cases hr
        · rename_i ss hs
          rw [hs] at e1
          have hok : segsOk w X.Low ss := by
            obtain ⟨v', _, _, h3⟩ := opd_get h hs (by simp)
            obtain ⟨_, _, _, _, _, _, _, _, _, g6, _⟩ := h3
            exact g6
          have hcl : ∀ (s : Seg), ss[g]? = some s → ∀ j, j ≤ s.size → segOff ss g + j ≤ (segCells ss).length := fun s hs' j hj => by
            have : ∀ (ss : List Seg) (g : Nat), segsOk w X.Low ss → ss[g]? = some s → segOff ss g + s.size ≤ (segCells ss).length := by
              intro ss
              induction ss with
              | nil => intro g _ h; simp at h
              | cons t r ih =>
                intro g ho h
                have hs := Seg.size_ok (ho t (by simp))
                cases g with
                | zero => simp at h; subst h; simp [segOff, segCells, hs]
                | succ g =>
                  have := ih g (fun x hx => ho x (by simp [hx])) (by simpa using h)
                  simp [segOff, segCells, hs] at this ⊢; omega
            have := this ss g hok hs'
            omega
          split at hr
          · rename_i u0 hg
            simp [shp, hg] at e1
            obtain ⟨rfl, rfl, rfl⟩ := e1
            obtain rfl : idx = 0 := by omega
            split at hr
            · rename_i hsz
              split at hr
              · rename_i u'
                have hu : u = u' := hq rfl
                split at hr
                · rename_i hone
                  obtain ⟨rfl, e, fr, q1, q2, q3, q4⟩ := upd_obj h hs e2 (i := segOff ss g) (ss' := ss.set g (.one u')) [u'] (shp_set ss g _ _ hg rfl rfl) (segsOk_set hok g (oneC_cells hone))
                    (segCells_set ss hok g _ _ hg rfl) (by have := hcl _ hg 1 (Nat.le_refl _); simpa using this)
                  simp only [Nat.zero_add, Nat.zero_mul, Nat.add_zero] at e5
                  refine wp_stored (loc' := loc) (run_store' ho (hx.trans e5) (hy.trans hu) (run_store_cells ht q1 q2 (by rw [oneC_cells hone, hsz]; rfl) (by rw [oneC_cells hone]; simpa using q3) (by rw [oneC_cells hone]; simpa using hone))) ?_ hr
                  rw [oneC_cells hone]; exact q4
                · cases hr
              · cases hr
            · cases hr
          · rename_i c n l hg
            have hl : l.length = n := hok _ (List.mem_of_getElem? hg)
            simp [shp, hg] at e1
            obtain ⟨rfl, rfl, rfl⟩ := e1
            split at hr
            · rename_i u'
              have hu : u = u' := hq rfl
              split at hr
              · rename_i hsz
                cases hd : c.dec u' with
                | none => rw [hd] at hr; cases hr
                | some y' =>
                  rw [hd] at hr
                  simp only [Option.bind_some] at hr
                  have hval := T0.dec_ok hd
                  have hone : oneC u' = true := by rw [← hval]; exact c.val_oneC y'
                  have hcs := segCells_set ss hok g _ (.arr (.sc c) n (l.set idx y')) hg (by simp [Seg.cells, Seg.size, flat_length, hl])
                  have hidx : segOff ss g + idx + 1 ≤ (segCells ss).length := by
                    have := hcl _ hg (idx + 1) (by simp [Seg.size, Cod.sz]; omega); omega
                  have hfs := flat_set (.sc c) l idx y' (by omega)
                  simp only [Cod.sz, Cod.cells, hval, Nat.mul_one, List.length_singleton] at hfs
                  have hsl : ∀ j, j < n → (segCells ss)[segOff ss g + j]? = (flat (.sc c) l)[j]? := fun j hj => segCells_at ss hok g _ hg j (by simp [Seg.size, Cod.sz]; omega)
                  have hfln : (flat (.sc c) l).length = n := by rw [flat_length, hl]; simp [Cod.sz]
                  obtain ⟨rfl, e, fr, q1, q2, q3, q4⟩ := upd_obj h hs e2 (i := segOff ss g + idx) (ss' := ss.set g (.arr (.sc c) n (l.set idx y'))) [u'] (shp_set ss g _ _ hg rfl rfl) (segsOk_set hok g (by simpa [segOk] using hl))
                    (by
                      rw [hcs]
                      simp only [Seg.cells]
                      rw [hfs]
                      have hlen5 : (List.take idx (flat (.sc c) l) ++ [u'] ++ List.drop (idx + 1) (flat (.sc c) l)).length = n := by simp; omega
                      rw [hlen5]
                      exact nest_splice _ _ _ _ n u' hfln (fun j hj => hsl j hj) (by omega) (by have := hcl _ hg n (by simp [Seg.size, Cod.sz]); omega))
                    (by simpa using hidx)
                  simp only [Nat.zero_add, Cod.sz, Nat.mul_one] at e5
                  refine wp_stored (loc' := loc) (run_store' ho (hx.trans e5) (hy.trans hu) (run_store_cells ht q1 q2 (by rw [oneC_cells hone, hsz]; rfl) (by rw [oneC_cells hone]; simpa using q3) (by rw [oneC_cells hone]; simpa using hone))) ?_ hr
                  rw [oneC_cells hone]; exact q4
              · cases hr
            · rename_i C' n' l'
              split at hr
              · rename_i hc
                obtain ⟨hc1, rfl, hc3, rfl⟩ := hc
                subst hc1
                obtain ⟨hl', hu⟩ := hq rfl
                have hcs := segCells_set ss hok g _ (.arr (.sc c) n l') hg (by simp [Seg.cells, Seg.size, flat_length, hl'])
                obtain ⟨rfl, e, fr, q1, q2, q3, q4⟩ := upd_obj h hs e2 (i := segOff ss g) (ss' := ss.set g (.arr (.sc c) n l')) (flat (.sc c) l') (shp_set ss g _ _ hg rfl rfl) (segsOk_set hok g hl')
                  (by rw [hcs]; rfl) (by have := hcl _ hg n (by simp [Seg.size, Cod.sz]); simpa [flat_length, hl', Cod.sz] using this)
                simp only [Nat.zero_add, Nat.zero_mul, Nat.add_zero] at e5
                have hcu : u.cells = (flat (.sc c) l').toArray := by rw [hu]; rfl
                refine wp_stored (loc' := loc) (run_store' ho (hx.trans e5) hy (run_store_cells ht q1 q2 (by rw [hcu]; simp [flat_length, hl', hc3, Cod.sz]) (by rw [hcu]; simpa using q3) (by rw [hcu]; exact flat_oneC _ l'))) ?_ hr
                rw [hcu]
                exact q4
              · cases hr
            · cases hr
          · cases hr
        · cases hr
      · cases hr
    | _ => cases hr
end
end Go.Px
