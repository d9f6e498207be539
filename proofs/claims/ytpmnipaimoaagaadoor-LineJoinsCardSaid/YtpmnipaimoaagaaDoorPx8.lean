/- Pieces of slices and texts, conversions. -/
import Derived.Test.YtpmnipaimoaagaaDoorPx7
import Derived.Laws.IdiomStrings
import Derived.Laws.Cover4
set_option linter.unusedVariables false
set_option linter.unusedSimpArgs false
namespace Go.Px
open Go Go.RowKit

section
variable {X : Cx} {ρ : Type} {w0 : World} {S : St} {a : Act} {w : World} {loc : Nat → Nat → Option (Nat × Nat)} {E : Env ρ} {K : St → Option ρ} {r : ρ} {o : Oper} {Q : Exit → Act → World → Prop}

/-- a slice whose contents can be read now -/
abbrev SlRep (w : World) (C : Cod) (l : List C.α) (v : Value) : Prop := RoRep w (· < w.heap.size) C l v
theorem heap_lt {b : Nat} {ob : Obj} (h : w.heap[b]? = some ob) : b < w.heap.size := (Array.getElem?_eq_some_iff.1 h).1
theorem OwnRep.sl {B : Nat → Prop} {C : Cod} {l : List C.α} {ℓ : Option (Nat × Nat)} {v : Value} (h : OwnRep w B C l ℓ v) : SlRep w C l v := by
  rcases h with ⟨_, rfl, rfl⟩ | ⟨b, o, cap, cur, e, fr, h1, h2, h3, h4, h5, h6, h8, h9⟩
  · exact ⟨none, 0, rfl, Nat.le_refl _, .inl rfl⟩
  · exact ⟨_, cap, h2, h6, .inr ⟨b, o, cur, e, fr, rfl, heap_lt h4, h4, h9⟩⟩
theorem drop_take_length {α : Type} (l : List α) (off len : Nat) (h : off + len ≤ l.length) : ((l.drop off).take len).length = len := by simp; omega
theorem flat_dt (C : Cod) (l : List C.α) (off len : Nat) : flat C ((l.drop off).take len) = ((flat C l).drop (off * C.sz)).take (len * C.sz) := by rw [flat_take, flat_drop]
/-- what a view names can be read -/
theorem view_sl (h : Sim X w0 S a w loc) {k g off len : Nat} {v : Value} (hp : Rep X w S a.tmps loc (fun _ => none) (.view k g off len) v) {C : Cod} {l : List C.α}
    (hs : get S k = .own C l ∧ g = 0 ∨ ∃ ss n, get S k = .obj ss ∧ ss[g]? = some (.arr C n l)) : off + len ≤ l.length ∧ SlRep w C ((l.drop off).take len) v := by
  obtain ⟨base, sz, cnt, e1, e2, e3⟩ := hp
  rcases hs with ⟨hs, rfl⟩ | ⟨ss, n, hs, hg⟩
  · have e1' := e1
    rw [hs] at e1'
    simp only [shp, Option.some.injEq, Prod.mk.injEq] at e1'
    obtain ⟨q1, q2, q3⟩ := e1'
    subst q1 q2 q3
    refine ⟨e2, ?_⟩
    rcases e3 with ⟨_, rfl, rfl⟩ | ⟨b, o2, o3, cap, g1, g2, g3, g4, g5, g6⟩
    · exact ⟨none, 0, by simp, by simp, .inl (by simp)⟩
    · refine ⟨_, cap, by rw [drop_take_length l off len e2]; exact g2, by rw [drop_take_length l off len e2]; exact g3, ?_⟩
      rcases g4 with rfl | rfl
      · exact .inl (by simp)
      · right
        obtain ⟨u, _, _, h3⟩ := opd_get h hs (by simp)
        rcases h3 with ⟨q4, _⟩ | ⟨b', o4, cap', cur, e, fr, q4, q5, q6, q7, q8, q9, q11, q12⟩
        · rw [g1] at q4; cases q4
        · rw [g1] at q4; cases q4
          refine ⟨b, _, cur, e, fr, rfl, heap_lt q7, q7, ?_⟩
          rw [flat_dt, Nat.add_zero]
          exact (q12.drop _).take _
  · have e1' := e1
    rw [hs] at e1'
    simp only [shp, hg, Option.some.injEq, Prod.mk.injEq] at e1'
    obtain ⟨q1, q2, q3⟩ := e1'
    subst q1 q2 q3
    obtain ⟨u, _, _, h3⟩ := opd_get h hs (by simp)
    obtain ⟨b', cur, e, fr, q1, q2, q3, q4, q5, q6, q7⟩ := h3
    have hl : l.length = n := q6 _ (List.mem_of_getElem? hg)
    rw [hl]
    refine ⟨e2, ?_⟩
    have e2' : off + len ≤ l.length := by omega
    rcases e3 with ⟨_, rfl, rfl⟩ | ⟨b, o2, o3, cap, g1, g2, g3, g4, g5, g6⟩
    · exact ⟨none, 0, by simp, by simp, .inl (by simp)⟩
    · refine ⟨_, cap, by rw [drop_take_length l off len e2']; exact g2, by rw [drop_take_length l off len e2']; exact g3, ?_⟩
      rcases g4 with rfl | rfl
      · exact .inl (by simp)
      · right
        rw [g1] at q1; cases q1
        refine ⟨b', _, cur, e, fr, rfl, heap_lt q4, q4, ?_⟩
        rw [flat_dt]
        refine Has.take (o := 0 + segOff ss g + off * C.sz) (Has.drop (o := 0 + segOff ss g) ?_ _) _
        intro j x hj
        have hjl : j < n * C.sz := by
          have := (List.getElem?_eq_some_iff.1 hj).1
          rw [flat_length, hl] at this; exact this
        rw [q7, List.getElem?_toArray, Nat.zero_add, segCells_at ss q6 g _ hg j hjl]
        exact hj
theorem SprRep.sl {w : World} {Mi : Nat → Prop} {C : Cod} {l : List C.α} {n : Nat} {ℓ : Option (Nat × Nat)} {v : Value} (h : SprRep w Mi C l n ℓ v) : SlRep w C (l.take n) v := by
  obtain ⟨h0, b, o, cur, e, fr, h1, h2, h3, h4, h5, h6, h7⟩ := h
  have hl : (l.take n).length = n := by rw [List.length_take]; omega
  refine ⟨some ⟨b, o, none⟩, l.length, by rw [hl]; exact h2, by rw [hl]; exact h0, .inr ⟨b, o, cur, e, fr, rfl, heap_lt h4, h4, ?_⟩⟩
  rw [flat_take]; exact h7.take _
theorem spr_view (h : Sim X w0 S a w loc) {k g off len : Nat} {C : Cod} {l : List C.α} {n : Nat} {v : Value} (hs : get S k = .spr C l n) (hp : Rep X w S a.tmps loc (fun _ => none) (.view k g off len) v) : g = 0 ∧ off + len ≤ l.length ∧ SlRep w C ((l.drop off).take len) v := by
  obtain ⟨base, sz, cnt, e1, e2, e3⟩ := hp
  rw [hs] at e1
  cases g with
  | succ g => simp [shp] at e1
  | zero =>
    simp only [shp, Option.some.injEq, Prod.mk.injEq] at e1
    obtain ⟨q1, q2, q3⟩ := e1
    subst q1 q2 q3
    refine ⟨rfl, e2, ?_⟩
    have hdt := drop_take_length l off len e2
    rcases e3 with ⟨_, rfl, rfl⟩ | ⟨b, o2, o3, cap, g1, g2, g3, g4, g5, g6⟩
    · exact ⟨none, 0, by simp, by simp, .inl (by simp)⟩
    · refine ⟨_, cap, by rw [hdt]; exact g2, by rw [hdt]; exact g3, ?_⟩
      rcases g4 with rfl | rfl
      · exact .inl (by simp)
      · right
        obtain ⟨u, _, _, h3⟩ := opd_get h hs (by simp)
        obtain ⟨_, b', o4, cur, e, fr, q4, q5, q6, q7, q8, q9, q12⟩ := h3
        rw [g1] at q4; cases q4
        refine ⟨b, _, cur, e, fr, rfl, heap_lt q7, q7, ?_⟩
        rw [flat_dt, Nat.add_zero]
        exact (q12.drop _).take _
theorem content_sl (h : Sim X w0 S a w loc) {p : PV} {v : Value} {c : Cont} (hc : content S p = some c) (ho : p.owns = false) (hp : Rep X w S a.tmps loc (fun _ => none) p v) (hown : ∀ k, p.ref = some k → (get S k).owns = true) : SlRep w c.C c.l v := by
  cases p with
  | ros C l => simp only [content, Option.some.injEq] at hc; subst hc; exact RoRep.mono hp fun b hb => Nat.lt_of_lt_of_le hb.1 h.hB
  | own C l => simp [PV.owns] at ho
  | alias k =>
    simp only [content] at hc
    split at hc
    · rename_i C l hs
      simp only [Option.some.injEq] at hc; subst hc
      have := alias_val h hp (hown k rfl)
      rw [hs] at this
      exact OwnRep.sl this
    · rename_i C l n hs
      simp only [Option.some.injEq] at hc; subst hc
      have := alias_val h hp (hown k rfl)
      rw [hs] at this
      exact SprRep.sl this
    · cases hc
  | view k g off len =>
    simp only [content] at hc
    split at hc
    · rename_i C l hs
      simp only [Option.some.injEq] at hc; subst hc
      have hg : g = 0 := by
        obtain ⟨base, sz, cnt, e1, _⟩ := hp
        rw [hs] at e1
        cases g with
        | zero => rfl
        | succ g => simp [shp] at e1
      exact (view_sl h hp (.inl ⟨hs, hg⟩)).2
    · rename_i C l n hs
      simp only [Option.some.injEq] at hc; subst hc
      exact (spr_view h hs hp).2.2
    · rename_i ss hs
      split at hc
      · rename_i C n l hg
        have key := view_sl h hp (.inr ⟨ss, n, hs, hg⟩)
        obtain ⟨u, _, _, h3⟩ := opd_get h hs (by simp)
        obtain ⟨b', cur, e, fr, q1, q2, q3, q4, q5, q6, q7⟩ := h3
        have hl : l.length = n := q6 _ (List.mem_of_getElem? hg)
        split at hc
        · rename_i hoff
          obtain ⟨rfl, rfl⟩ := hoff
          simp only [Option.some.injEq] at hc; subst hc
          have := key.2
          rw [List.drop_zero, List.take_of_length_le (by omega)] at this
          exact this
        · simp only [Option.some.injEq] at hc; subst hc; exact key.2
      · cases hc
    · cases hc
  | _ => simp [content] at hc
theorem contentT_sl (h : Sim X w0 S a w loc) {C : Cod} {p : PV} {v : Value} {l : List C.α} (hc : contentT S C p = some l) (ho : p.owns = false) (hp : Rep X w S a.tmps loc (fun _ => none) p v) (hown : ∀ k, p.ref = some k → (get S k).owns = true) : SlRep w C l v := by
  unfold contentT at hc
  split at hc
  · cases hc
    have hv : v = .slice none 0 0 := hp
    exact ⟨none, 0, hv, Nat.le_refl _, .inl rfl⟩
  · split at hc
    · rename_i C' l' hcc
      split at hc
      · rename_i he
        subst he
        simp only [Option.some.injEq] at hc
        subst hc
        exact content_sl h hcc ho hp hown
      · cases hc
    · cases hc

/-! ### x[lo:hi] -/
theorem bnd_val (h : Sim X w0 S a w loc) {d i : Int} {x : Option Operand} (hb : bnd S d x = some i) : (x = none ∧ i = d) ∨ ∃ y k, x = some y ∧ a.eval y = .int k i := by
  unfold bnd at hb
  cases x with
  | none => simp at hb; exact .inl ⟨rfl, hb.symm⟩
  | some y => obtain ⟨k, hk⟩ := asI_val h hb; exact .inr ⟨y, k, rfl, hk⟩
theorem run_bounds (P : Program) (w : World) (isS : Bool) (len cap : Nat) (hlc : len ≤ cap) (lo hi : Option Operand) {i j : Int} (hlo : (lo = none ∧ i = 0) ∨ ∃ y k, lo = some y ∧ a.eval y = .int k i)
    (hhi : (hi = none ∧ j = len) ∨ ∃ y k, hi = some y ∧ a.eval y = .int k j) (h0 : 0 ≤ i) (h1 : i ≤ j) (h2 : j ≤ cap) :
    (Instr.sliceBounds isS len cap (lo.map a.eval) (hi.map a.eval) none).run P w = .ok (i.toNat, j.toNat, cap) w := by
  have hm : (Instr.sliceBounds isS len cap (lo.map a.eval) (hi.map a.eval) none).run P w = ((do
      let h ← (match hi.map a.eval with | some v => Instr.sliceBound v cap (if isS then .sliceAcap else .sliceAlen) | none => pure len : Sem Nat)
      let l ← (match lo.map a.eval with | some v => Instr.sliceBound v h .sliceB | none => pure 0 : Sem Nat)
      pure (l, h, cap)) : Sem (Nat × Nat × Nat)).run P w := by
    unfold Instr.sliceBounds
    cases hi <;> cases lo <;> rfl
  rw [hm]
  have e1 : ((match hi.map a.eval with | some v => Instr.sliceBound v cap (if isS then .sliceAcap else .sliceAlen) | none => pure len : Sem Nat)).run P w = .ok j.toNat w := by
    rcases hhi with ⟨rfl, rfl⟩ | ⟨y, k, rfl, hy⟩
    · simp
    · simp [hy, Instr.sliceBound, asIntOf, show 0 ≤ j by omega, h2]
  have e2 : ((match lo.map a.eval with | some v => Instr.sliceBound v j.toNat .sliceB | none => pure 0 : Sem Nat)).run P w = .ok i.toNat w := by
    rcases hlo with ⟨rfl, rfl⟩ | ⟨y, k, rfl, hy⟩
    · simp
    · simp [hy, Instr.sliceBound, asIntOf, h0, show i ≤ max j 0 by omega]
  simp only [Sem.run_bind, e1, Result.andThen_ok, e2, Sem.run_pure]
theorem run_sl {t : TypeId} {x : Operand} {lo hi : Option Operand} (ho : o.op = .slice t x lo hi none) {v z : Value} (hx : a.eval x = v) (hl : (Instr.sliceAt t v (lo.map a.eval) (hi.map a.eval) none).run X.P w = .ok z w) : (execOp a.eval o).run X.P w = .ok (.value z) w := by
  simp [execOp, ho, hx, hl]
theorem leB3 {i j n : Int} (h : (leB 0 i && (leB i j && leB j n)) = true) : 0 ≤ i ∧ i ≤ j ∧ j ≤ n := by
  simp only [Bool.and_eq_true] at h
  exact ⟨leB_iff h.1, leB_iff h.2.1, leB_iff h.2.2⟩
theorem run_sliceAt_sl {P : Program} {t e : TypeId} {sz : Nat} (hu : P.underlying t = some (.slice e)) (hs : ∀ w : World, (Go.sizeOf e).run P w = .ok sz w) {ad : Option Addr} {len cap i j : Nat} {lo hi : Option Value} (w : World)
    (hb : (Instr.sliceBounds true len cap lo hi none).run P w = .ok (i, j, cap) w) :
    (Instr.sliceAt t (.slice ad len cap) lo hi none).run P w = .ok (.slice (if cap = i then ad else ad.map (·.add (i * sz))) (j - i) (cap - i)) w := by
  simp only [Instr.sliceAt, Sem.run_bind, run_underlying hu, Result.andThen_ok, Instr.slice, hb, hs, Sem.run_pure]
theorem evSlice_ok {t : TypeId} {x : Operand} {lo hi : Option Operand} {p : PV} {v : Value} (hE : EnvOk X E) (h : Sim X w0 S a w loc) (ho : o.op = .slice t x lo hi none) (hx : a.eval x = v)
    (hp : Rep X w S a.tmps loc (fun _ => none) p v) (hown : ∀ k, p.ref = some k → (get S k).owns = true) (hr : evSlice E S t p lo hi (fun q => fin o.dst K q S) = some r) : o.wp X.P a w (Post X w0 K r) Q := by
  unfold evSlice at hr
  cases hti : E.T t with
  | none => rw [hti] at hr; cases hr
  | some ti =>
    rw [hti] at hr
    have ht := hE.T t ti hti
    dsimp only at hr
    have bnds : ∀ {d1 d2 : Int} {F : Int → Int → Option ρ}, ((bnd S d1 lo).bind fun i => (bnd S d2 hi).bind fun j => F i j) = some r → ∃ i j, bnd S d1 lo = some i ∧ bnd S d2 hi = some j ∧ F i j = some r := fun {d1 d2 F} hh => by
      cases h1 : bnd S d1 lo with
      | none => rw [h1] at hh; cases hh
      | some i =>
        rw [h1] at hh
        cases h2 : bnd S d2 hi with
        | none => rw [h2] at hh; cases hh
        | some j => rw [h2] at hh; exact ⟨i, j, rfl, rfl, hh⟩
    split at hr
    · rename_i s hd
      have hu := ht.und
      rw [hd] at hu
      obtain ⟨i, j, h1, h2, hr⟩ := bnds hr
      obtain ⟨hc, hr2⟩ := chk_some hr
      have hc := leB3 hc
      have hv : v = .string s := hp
      have hb := run_bounds (a := a) X.P w false s.size s.size (Nat.le_refl _) lo hi (bnd_val h h1) (bnd_val h h2) hc.1 hc.2.1 hc.2.2
      refine wp_raw (run_sl ho (hx.trans hv) ?_) h hr2
      simp only [Instr.sliceAt, Sem.run_bind, run_underlying hu, Result.andThen_ok, Instr.slice, hb, Sem.run_pure, subStr, Option.isSome_none, Bool.false_eq_true, if_false]
    · rename_i n e k hd
      have hu := ht.und
      rw [hd] at hu
      split at hr
      · rename_i C n' l hs
        split at hr
        · rename_i hc
          obtain ⟨rfl, hc1⟩ := hc
          obtain ⟨i, j, h1, h2, hr⟩ := bnds hr
          obtain ⟨hc, hr2⟩ := chk_some hr
          have hc := leB3 hc
          have hv := alias_val h hp (hown k rfl)
          rw [hs] at hv
          obtain ⟨b, cur, e', fr, g1, g2, g3, g4, g5, g6, g7⟩ := hv
          have hl : l.length = n := g6 (.arr C n l) (by simp)
          have hb := run_bounds (a := a) X.P w false n n (Nat.le_refl _) lo hi (bnd_val h h1) (bnd_val h h2) hc.1 hc.2.1 hc.2.2
          have hsz := esz_ok hE hc1
          have hbs : blkSize w b = n * C.sz := by simp [blkSize, g4, g7, segCells, Seg.cells, flat_length, hl]
          have hrun : (Instr.sliceAt t v (lo.map a.eval) (hi.map a.eval) none).run X.P w = .ok (.slice (some (if n = i.toNat then ⟨b, 0, none⟩ else ⟨b, 0 + i.toNat * C.sz, none⟩)) (j.toNat - i.toNat) (n - i.toNat)) w := by
            rw [g2]
            simp only [Instr.sliceAt, Sem.run_bind, run_underlying hu, Result.andThen_ok, Instr.sureAddr, hb, hsz w, Sem.run_pure, add_lit]
          have hij : j.toNat - i.toNat = (j - i).toNat := by omega
          rw [hij] at hrun
          refine wp0 (run_sl ho hx hrun) h hr2 rfl ⟨0, C.sz, n, by rw [hs]; rfl, by omega, .inr ?_⟩ (fun k' hk' => by cases hk'; exact hown k rfl)
          by_cases hni : n = i.toNat
          · refine ⟨b, 0, 0, n - i.toNat, g1, by simp [hni], by omega, .inl (by omega), ?_, fun _ => by omega⟩
            · rw [hbs]; simp [hni]
          · refine ⟨b, 0, 0 + i.toNat * C.sz, n - i.toNat, g1, by simp [hni], by omega, .inr (by simp), ?_, fun _ => by omega⟩
            · rw [hbs, Nat.zero_add, ← Nat.add_mul]; exact Nat.mul_le_mul_right _ (by omega)
        · cases hr
      · cases hr
    · rename_i n e k g idx f hd
      have hu := ht.und
      rw [hd] at hu
      split at hr
      · rename_i ss hs
        split at hr
        · rename_i C n' l hg
          split at hr
          · rename_i hc
            obtain ⟨rfl, hc1, hc0, rfl, rfl⟩ := hc
            obtain ⟨i, j, h1, h2, hr⟩ := bnds hr
            obtain ⟨hc, hr2⟩ := chk_some hr
            have hc := leB3 hc
            obtain ⟨base, sz, cnt, b, ob, e1, e2, e3, e4, e5⟩ := hp
            rw [hs] at e1
            simp only [shp, hg, Option.some.injEq, Prod.mk.injEq] at e1
            obtain ⟨rfl, rfl, rfl⟩ := e1
            obtain ⟨u, _, _, h3⟩ := opd_get h hs (by simp)
            obtain ⟨b', cur, e', fr, g1, g2, g3, g4, g5, g6, g7⟩ := h3
            rw [g1] at e2; cases e2
            have hl : l.length = n := g6 _ (List.mem_of_getElem? hg)
            have hb := run_bounds (a := a) X.P w false n n (Nat.le_refl _) lo hi (bnd_val h h1) (bnd_val h h2) hc.1 hc.2.1 hc.2.2
            have hsz := esz_ok hE hc1
            have hsegl := segOff_le ss g g6 _ hg
            simp only [Seg.size] at hsegl
            have hbs : blkSize w b = (segCells ss).length := by simp [blkSize, g4, g7]
            have hrun : (Instr.sliceAt t v (lo.map a.eval) (hi.map a.eval) none).run X.P w = .ok (.slice (some (if n = i.toNat then ⟨b, segOff ss g, none⟩ else ⟨b, segOff ss g + i.toNat * C.sz, none⟩)) (j.toNat - i.toNat) (n - i.toNat)) w := by
              rw [e5]
              simp only [Nat.zero_add, Nat.zero_mul, Nat.add_zero, Instr.sliceAt, Sem.run_bind, run_underlying hu, Result.andThen_ok, Instr.sureAddr, hb, hsz w, Sem.run_pure, add_lit]
            have hij : j.toNat - i.toNat = (j - i).toNat := by omega
            rw [hij] at hrun
            refine wp0 (run_sl ho hx hrun) h hr2 rfl ⟨segOff ss g, C.sz, n, by rw [hs]; simp [shp, hg], by omega, .inr ?_⟩ (fun k' hk' => by cases hk'; exact hown k rfl)
            by_cases hni : n = i.toNat
            · refine ⟨b, 0, segOff ss g, n - i.toNat, g1, by simp [hni], by omega, .inl (by omega), ?_, fun _ => by omega⟩
              · rw [hbs]; simp [hni]; omega
            · refine ⟨b, 0, segOff ss g + i.toNat * C.sz, n - i.toNat, g1, by simp [hni], by omega, .inr (by omega), ?_, fun _ => by omega⟩
              · rw [hbs, Nat.add_assoc, ← Nat.add_mul]
                refine Nat.le_trans (Nat.add_le_add_left (Nat.mul_le_mul_right _ (by omega : i.toNat + (n - i.toNat) ≤ n)) _) hsegl
          · cases hr
        · cases hr
      · cases hr
    · rename_i e C l hd
      have hu := ht.und
      rw [hd] at hu
      split at hr
      · rename_i hc1
        obtain ⟨i, j, h1, h2, hr⟩ := bnds hr
        obtain ⟨hc, hr2⟩ := chk_some hr
        have hc := leB3 hc
        obtain ⟨ad, cap, q1, q2, q3⟩ := hp
        have hb := run_bounds (a := a) X.P w true l.length cap q2 lo hi (bnd_val h h1) (bnd_val h h2) hc.1 hc.2.1 (by omega)
        have hrun := run_sliceAt_sl hu (esz_ok hE hc1) (ad := ad) w hb
        rw [← q1] at hrun
        have hlen : ((l.drop i.toNat).take (j - i).toNat).length = j.toNat - i.toNat := by simp; omega
        refine wp0 (run_sl ho hx hrun) h hr2 rfl ⟨_, cap - i.toNat, by rw [hlen], by rw [hlen]; omega, ?_⟩ (fun k' hk' => by cases hk')
        rcases q3 with rfl | ⟨b, o2, cur, e', fr, rfl, q5, q6, q7⟩
        · exact .inl (by simp)
        · by_cases hni : cap = i.toNat
          · left
            apply List.eq_nil_of_length_eq_zero
            rw [hlen]; omega
          · right
            refine ⟨b, o2 + i.toNat * C.sz, cur, e', fr, by simp [hni, add_lit], q5, q6, ?_⟩
            rw [flat_dt]
            exact (q7.drop _).take _
      · cases hr
    · rename_i e k hd
      have hu := ht.und
      rw [hd] at hu
      split at hr
      · rename_i C l hs
        split at hr
        · rename_i hc1
          obtain ⟨i, j, h1, h2, hr⟩ := bnds hr
          obtain ⟨hc, hr2⟩ := chk_some hr
          have hc := leB3 hc
          have hv := alias_val h hp (hown k rfl)
          rw [hs] at hv
          rcases hv with ⟨q1, q2, rfl⟩ | ⟨b, o2, cap, cur, e', fr, q4, q5, q6, q7, q8, q9, q11, q12⟩
          · have hc0 : i = 0 ∧ j = 0 := by have := hc.2.2; simp at this; omega
            obtain ⟨rfl, rfl⟩ := hc0
            have hb := run_bounds (a := a) X.P w true 0 0 (Nat.le_refl _) lo hi (bnd_val h h1) (bnd_val h h2) hc.1 hc.2.1 (by simp)
            have hrun := run_sliceAt_sl hu (esz_ok hE hc1) (ad := none) w hb
            rw [← q2] at hrun
            refine wp0 (run_sl ho hx hrun) h hr2 rfl ⟨0, C.sz, 0, by rw [hs]; rfl, by simp, .inl ⟨q1, by simp, by simp⟩⟩ (fun k' hk' => by cases hk'; exact hown k rfl)
          · have hb := run_bounds (a := a) X.P w true l.length cap q9 lo hi (bnd_val h h1) (bnd_val h h2) hc.1 hc.2.1 (by omega)
            have hrun := run_sliceAt_sl hu (esz_ok hE hc1) (ad := some ⟨b, o2, none⟩) w hb
            rw [← q5] at hrun
            have hbs : blkSize w b = cur.size := by simp [blkSize, q7]
            have hij : j.toNat - i.toNat = (j - i).toNat := by omega
            rw [hij] at hrun
            refine wp0 (run_sl ho hx hrun) h hr2 rfl ⟨0, C.sz, l.length, by rw [hs]; rfl, by omega, .inr ?_⟩ (fun k' hk' => by cases hk'; exact hown k rfl)
            by_cases hni : cap = i.toNat
            · refine ⟨b, o2, o2, cap - i.toNat, q4, by simp [hni], by omega, .inl (by omega), ?_, fun hob => by rw [hs] at hob; cases hob⟩
              rw [hbs, hni]; simp; omega
            · refine ⟨b, o2, o2 + i.toNat * C.sz, cap - i.toNat, q4, by simp [hni, add_lit], by omega, .inr (by simp), ?_, fun hob => by rw [hs] at hob; cases hob⟩
              rw [hbs]
              refine Nat.le_trans ?_ q11
              rw [Nat.add_assoc, ← Nat.add_mul]
              exact Nat.add_le_add_left (Nat.mul_le_mul_right _ (by omega)) _
        · cases hr
      · rename_i C l n hs
        split at hr
        · rename_i hc1
          obtain ⟨i, j, h1, h2, hr⟩ := bnds hr
          obtain ⟨hc, hr2⟩ := chk_some hr
          have hc := leB3 hc
          have hv := alias_val h hp (hown k rfl)
          rw [hs] at hv
          obtain ⟨q9, b, o2, cur, e', fr, q4, q5, q6, q7, q8, q11, q12⟩ := hv
          have hb := run_bounds (a := a) X.P w true n l.length q9 lo hi (bnd_val h h1) (bnd_val h h2) hc.1 hc.2.1 (by omega)
          have hrun := run_sliceAt_sl hu (esz_ok hE hc1) (ad := some ⟨b, o2, none⟩) w hb
          rw [← q5] at hrun
          have hbs : blkSize w b = cur.size := by simp [blkSize, q7]
          have hij : j.toNat - i.toNat = (j - i).toNat := by omega
          rw [hij] at hrun
          refine wp0 (run_sl ho hx hrun) h hr2 rfl ⟨0, C.sz, l.length, by rw [hs]; rfl, by omega, .inr ?_⟩ (fun k' hk' => by cases hk'; exact hown k rfl)
          by_cases hni : l.length = i.toNat
          · refine ⟨b, o2, o2, l.length - i.toNat, q4, by simp [hni], by omega, .inl (by omega), ?_, fun hob => by rw [hs] at hob; cases hob⟩
            rw [hbs, hni]; simp; omega
          · refine ⟨b, o2, o2 + i.toNat * C.sz, l.length - i.toNat, q4, by simp [hni, add_lit], by omega, .inr (by simp), ?_, fun hob => by rw [hs] at hob; cases hob⟩
            rw [hbs]
            refine Nat.le_trans ?_ q11
            rw [Nat.add_assoc, ← Nat.add_mul]
            exact Nat.add_le_add_left (Nat.mul_le_mul_right _ (by omega)) _
        · cases hr
      · cases hr
    · cases hr
end
end Go.Px
