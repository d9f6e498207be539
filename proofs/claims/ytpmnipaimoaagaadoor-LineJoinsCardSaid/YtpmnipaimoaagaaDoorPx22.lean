/- Values out of their parts, == of arrays and structs, make. -/
import Derived.Test.YtpmnipaimoaagaaDoorPx11
import Derived.Laws.Tables
import Derived.Laws.StructEq
import Derived.Laws.MakeOwn
set_option linter.unusedVariables false
set_option linter.unusedSimpArgs false
namespace Go.Px
open Go Go.RowKit
variable {Ww : World} {Ll : Nat → Prop}
section
variable {X : Cx} {ρ : Type} {w0 : World} {S : St} {a : Act} {w : World} {loc : Nat → Nat → Option (Nat × Nat)} {E : Env ρ} {K : St → Option ρ} {r : ρ} {o : Oper} {Q : Exit → Act → World → Prop}

theorem opd_agg (h : Sim X w0 S a w loc) {x : Operand} {p : PV} (hp : opd S x = p) (hn : (∃ C n l, p = .arr C n l) ∨ ∃ ss, p = .strc ss) : Rep X w S a.tmps loc (fun _ => none) p (a.eval x) := by
  cases x with
  | tmp s =>
    have hp : get S s = p := hp
    have := copy_rep h (s := s) (by rw [hp]; rcases hn with ⟨_, _, _, rfl⟩ | ⟨_, rfl⟩ <;> rfl)
    rw [hp] at this; exact this
  | const c => simp only [opd] at hp; subst hp; rcases hn with ⟨_, _, _, e⟩ | ⟨_, e⟩ <;> cases e
  | global g => simp only [opd] at hp; subst hp; rcases hn with ⟨_, _, _, e⟩ | ⟨_, e⟩ <;> cases e
  | func f => simp only [opd] at hp; subst hp; rcases hn with ⟨_, _, _, e⟩ | ⟨_, e⟩ <;> cases e

/-! ### a value out of its parts -/
theorem fold_set : ∀ (cs : List Value) (off k : Nat) (arr : Array Value), off + k + cs.length ≤ arr.size → (cs.zipIdx k).foldl (fun ac (x : Value × Nat) => ac.setIfInBounds (off + x.2) x.1) arr = splice arr (off + k) cs := by
  intro cs
  induction cs with
  | nil => intro off k arr _; simp [splice]
  | cons c cs ih =>
    intro off k arr hle
    simp only [List.length_cons] at hle
    simp only [List.zipIdx_cons, List.foldl_cons]
    rw [ih off (k + 1) _ (by simp; omega)]
    simp only [splice, Array.toList_setIfInBounds, List.length_cons]
    congr 1
    have hlt : off + k < arr.toList.length := by simp; omega
    generalize arr.toList = c' at hlt
    rw [show off + (k + 1) = off + k + 1 by omega]
    have e1 : (c'.set (off + k) c).take (off + k + 1) = c'.take (off + k) ++ [c] := by
      rw [List.take_set, List.take_succ_eq_append_getElem hlt, List.set_append]
      simp [Nat.min_eq_left (Nat.le_of_lt hlt)]
    have e2 : (c'.set (off + k) c).drop (off + k + 1 + cs.length) = c'.drop (off + k + 1 + cs.length) := List.drop_set_of_lt (by omega)
    rw [e1, e2]
    simp [Nat.add_assoc, Nat.add_comm 1]
theorem fill_one (place : Nat → Option (Nat × Nat)) (cells : Array Value) (i off sz : Nat) (v : Value) (r : List (Nat × Value)) (hp : place i = some (off, sz)) (hv : v.cells.size = sz) (hfit : off + sz ≤ cells.size) :
    Instr.fill place cells ((i, v) :: r) = Instr.fill place (splice cells off v.cells.toList) r := by
  have hf : v.cells.zipIdx.foldl (fun cs (x : Value × Nat) => cs.setIfInBounds (off + x.2) x.1) cells = splice cells off v.cells.toList := by
    rw [← Array.foldl_toList, Array.toList_zipIdx]
    have := fold_set v.cells.toList off 0 cells (by simp [hv]; exact hfit)
    simpa using this
  simp only [Instr.fill, hp]
  rw [if_neg (by simp [hv]; omega)]
  congr 1
theorem setParts_fill (h : Sim X w0 S a w loc) (place : Nat → Option (Nat × Nat)) : (l : List (Nat × Operand)) → (z z' : List Seg) → segsOk Ww Ll z → (∀ i s, z[i]? = some s → place i = some (segOff z i, s.size)) → setParts S z l = some z' →
    segsOk Ww Ll z' ∧ Instr.fill place (segCells z).toArray (l.map fun (i, x) => (i, a.eval x)) = some (segCells z').toArray
  | [], z, z', hz, _, hr => by simp only [setParts, Option.some.injEq] at hr; subst hr; exact ⟨hz, rfl⟩
  | (i, x) :: l, z, z', hz, hp, hr => by
    have key : ∀ (s s' : Seg), z[i]? = some s → s'.kind = s.kind → segOk Ww Ll s' → (a.eval x).cells = s'.cells.toArray → setParts S (z.set i s') l = some z' →
        segsOk Ww Ll z' ∧ Instr.fill place (segCells z).toArray (((i, x) :: l).map fun (i, x) => (i, a.eval x)) = some (segCells z').toArray := fun s s' hs hk hok hc hr => by
      have hsz : s'.size = s.size := by rw [size_kind, size_kind, hk]
      have hlen : s'.cells.length = s.size := by rw [Seg.size_ok hok, hsz]
      have hil : i < z.length := (List.getElem?_eq_some_iff.1 hs).1
      have hkinds : (z.set i s').map Seg.kind = z.map Seg.kind := by
        apply List.ext_getElem?
        intro j
        simp only [List.getElem?_map]
        by_cases hj : j = i
        · subst hj; rw [List.getElem?_set_self hil, hs]; simp [hk]
        · rw [List.getElem?_set_ne (Ne.symm hj)]
      obtain ⟨g1, g2⟩ := setParts_fill h place l (z.set i s') z' (segsOk_set hz i hok) (fun j t hj => by
        have hoff := kinds_off z (z.set i s') hkinds j
        rw [hoff]
        by_cases hji : j = i
        · subst hji
          rw [List.getElem?_set_self hil] at hj
          cases hj
          rw [hsz]; exact hp j s hs
        · rw [List.getElem?_set_ne (Ne.symm hji)] at hj; exact hp j t hj) hr
      refine ⟨g1, ?_⟩
      have hle := segOff_le z i hz s hs
      rw [List.map_cons, fill_one place _ i (segOff z i) s.size (a.eval x) _ (hp i s hs) (by rw [hc]; simp [hlen]) (by simpa using hle), ← g2]
      congr 1
      rw [hc]
      simp only [splice]
      rw [segCells_set z hz i s s' hs hlen]
    simp only [setParts] at hr
    split at hr
    · rename_i v0 v hs hx
      split at hr
      · rename_i hc
        have he := opd_raw h hx
        exact key (.one v0) (.one v) hs rfl (segOk_one hc) (by rw [he]; simp [oneC_cells hc, Seg.cells]) hr
      · cases hr
    · rename_i C n l0 C' n' l' hs hx
      split at hr
      · rename_i hc
        obtain ⟨rfl, rfl⟩ := hc
        obtain ⟨h1, h2⟩ := opd_agg h hx (.inl ⟨_, _, _, rfl⟩)
        exact key (.arr C n l0) (.arr C n l') hs rfl h1 (by rw [h2]; simp [Value.cells, Seg.cells]) hr
      · cases hr
    · cases hr
theorem fieldsSeg_places {P : Program} (hT : ∀ t i, E.T t = some i → TOk P t i) (z : List Seg) : (fs : List Field) → (i : Nat) → fieldsSeg E z i fs = true → ∃ l, fs.mapM (fun f => (P.info? f.type).map fun k => (f.offset, k.size)) = some l ∧ l.length = fs.length ∧ ∀ j s, j < fs.length → z[i + j]? = some s → l[j]? = some (segOff z (i + j), s.size)
  | [], i, _ => ⟨[], rfl, rfl, fun j s hj => by simp at hj⟩
  | f :: fs, i, h => by
    simp only [fieldsSeg, Bool.and_eq_true] at h
    obtain ⟨h1, h3⟩ := h
    split at h1
    · rename_i s hs
      simp only [Bool.and_eq_true, beq_iff_eq] at h1
      obtain ⟨h1, h2⟩ := h1
      split at h2
      · rename_i tf htf
        obtain ⟨k, g1, g2, _⟩ := (hT _ _ htf).info
        have h2 : tf.size = s.size := by simpa using h2
        obtain ⟨l, k1, k2, k3⟩ := fieldsSeg_places hT z fs (i + 1) h3
        refine ⟨(f.offset, k.size) :: l, by simp [List.mapM_cons, g1, k1], by simp [k2], fun j t hj ht => ?_⟩
        cases j with
        | zero => rw [Nat.add_zero, hs] at ht; cases ht; simp [h1, g2, h2]
        | succ j => rw [List.getElem?_cons_succ]; have := k3 j t (by simpa using hj) (by rw [show i + 1 + j = i + (j + 1) by omega]; exact ht); rw [this, show i + 1 + j = i + (j + 1) by omega]
      · cases h2
    · cases h1
theorem setEls_fill (h : Sim X w0 S a w loc) (c : T0) : (l : List (Nat × Operand)) → (z z' : List c.α) → setEls S c z l = some z' →
    z'.length = z.length ∧ Instr.fill (fun i => some (i * 1, 1)) (flat (.sc c) z).toArray (l.map fun (i, x) => (i, a.eval x)) = some (flat (.sc c) z').toArray
  | [], z, z', hr => by simp only [setEls, Option.some.injEq] at hr; subst hr; exact ⟨rfl, rfl⟩
  | (i, x) :: l, z, z', hr => by
    simp only [setEls] at hr
    split at hr
    · rename_i v hx
      split at hr
      · rename_i hi
        cases hd : c.dec v with
        | none => rw [hd] at hr; cases hr
        | some y =>
          rw [hd] at hr
          simp only [Option.bind_some] at hr
          obtain ⟨g1, g2⟩ := setEls_fill h c l _ z' hr
          refine ⟨by simpa using g1, ?_⟩
          have he := opd_raw h hx
          have hv := T0.dec_ok hd
          have hcells : (a.eval x).cells = #[c.val y] := by rw [he, ← hv]; cases c <;> rfl
          have hfit : i * 1 + 1 ≤ (flat (.sc c) z).toArray.size := by simp [flat_length, Cod.sz]; omega
          rw [List.map_cons, fill_one _ _ i (i * 1) 1 (a.eval x) _ rfl (by rw [hcells]; rfl) hfit, ← g2]
          congr 1
          rw [hcells]
          simp only [splice]
          rw [flat_set (.sc c) z i y hi]
          rfl
      · cases hr
    · cases hr
theorem evBuild_ok {t : TypeId} {parts : Array (Nat × Operand)} (hE : EnvOk X E) (h : Sim X w0 S a w loc) (ho : o.op = .build t parts) (hr : evBuild E S t parts.toList (fun p => fin o.dst K p S) = some r) : o.wp X.P a w (Post X w0 K r) Q := by
  unfold evBuild at hr
  cases hti : E.T t with
  | none => rw [hti] at hr; cases hr
  | some ti =>
    rw [hti] at hr
    have ht := hE.T t ti hti
    dsimp only at hr
    obtain ⟨it, g1, g2, g3, zv, g4, g5⟩ := ht.info
    have hu := ht.und
    split at hr
    · rename_i fs hd
      split at hr
      · rename_i hc
        obtain ⟨hf, hlen⟩ := hc
        rw [hd] at hu
        cases hs : setParts S ti.zero parts.toList with
        | none => rw [hs] at hr; cases hr
        | some z =>
          rw [hs] at hr
          simp only [Option.bind_some] at hr
          obtain ⟨pl, p1, p2, p3⟩ := fieldsSeg_places hE.T ti.zero fs.toList 0 hf
          have hb : ∃ (_ : segsOk w X.Low z), X.P.built t (parts.map fun (i, x) => (i, a.eval x)).toList = some (segCells z).toArray := by
            obtain ⟨k1, k2⟩ := setParts_fill h (pl.toArray[·]?) parts.toList ti.zero z (ht.zok w X.Low) (fun i s hs' => by
              have hil : i < ti.zero.length := (List.getElem?_eq_some_iff.1 hs').1
              have := p3 i s (by omega) (by rw [Nat.zero_add]; exact hs')
              rw [List.getElem?_toArray, this, Nat.zero_add]) hs
            refine ⟨k1, ?_⟩
            unfold Program.built
            rw [Array.toList_map, g1, hu]
            simp only [g4]
            rw [p1]
            simp only []
            rw [g5]
            exact k2
          obtain ⟨hok, hb⟩ := hb
          have hrun : (execOp a.eval o).run X.P w = .ok (.value (.agg (segCells z).toArray)) w := by
            simp [execOp, ho, run_build w t _ _ hb]
          exact wp0 (p := .strc z) hrun h hr rfl ⟨hok, rfl⟩ (fun k hk => by cases hk)
      · cases hr
    · rename_i n e hd
      rw [hd] at hu
      split at hr
      · rename_i c n' z hz
        split at hr
        · rename_i hc
          obtain ⟨rfl, he⟩ := hc
          cases hs : setEls S c z parts.toList with
          | none => rw [hs] at hr; cases hr
          | some z' =>
            rw [hs] at hr
            simp only [Option.bind_some] at hr
            obtain ⟨k1, k2⟩ := setEls_fill (a := a) h c parts.toList z z' hs
            have hzl : z.length = n := ht.zok w X.Low (.arr (.sc c) n z) (by rw [hz]; simp)
            unfold esz at he
            cases hte : E.T e with
            | none => rw [hte] at he; cases he
            | some te =>
              rw [hte] at he
              simp only [Option.map_some, Option.some.injEq] at he
              obtain ⟨ie, q1, q2, _⟩ := (hE.T _ _ hte).info
              have hb : X.P.built t (parts.map fun (i, x) => (i, a.eval x)).toList = some (flat (.sc c) z').toArray := by
                unfold Program.built
                rw [Array.toList_map, g1, hu]
                simp only [g4, q1, q2, he]
                rw [g5, hz]
                have e1 : segCells [.arr (.sc c) n z] = flat (.sc c) z := by simp [segCells, Seg.cells]
                rw [e1]
                exact k2
              have hrun : (execOp a.eval o).run X.P w = .ok (.value (.agg (flat (.sc c) z').toArray)) w := by
                simp [execOp, ho, run_build w t _ _ hb]
              exact wp0 (p := .arr (.sc c) n z') hrun h hr rfl ⟨by rw [k1, hzl], rfl⟩ (fun k hk => by cases hk)
        · cases hr
      · cases hr
    · cases hr

/-! ### == -/
theorem isIntT_ok (hE : EnvOk X E) {e : TypeId} {k : IntKind} (h : isIntT E e k = true) : X.P.underlying e = some (.int k) := by
  unfold isIntT at h
  split at h
  · rename_i te hte
    split at h
    · rename_i k' hd
      have := of_decide_eq_true h
      rw [(hE.T _ _ hte).und, hd, this]
    · cases h
  · cases h
theorem ints_all : ∀ (xs ys : List Int), xs.length = ys.length → ((List.range xs.length).all fun i => xs.getD i 0 == ys.getD i 0) = (xs == ys)
  | [], [], _ => rfl
  | x :: xs, y :: ys, h => by
    have ih := ints_all xs ys (by simpa using h)
    rw [List.length_cons, List.range_succ_eq_map, List.all_cons, List.all_map]
    simp only [List.getD_cons_zero, Function.comp_def, List.getD_cons_succ, ih]
    simp [List.cons_beq_cons]
  | [], _ :: _, h => by simp at h
  | _ :: _, [], h => by simp at h
theorem run_equalIn_ints {P : Program} (w : World) (d : Nat) (t e : TypeId) (n : Nat) (k : IntKind) (ht : P.underlying t = some (.array n e)) (he : P.underlying e = some (.int k)) (hsz : ∀ w, (Go.sizeOf e).run P w = .ok 1 w)
    (xs ys : List Int) (hx : xs.length = n) (hy : ys.length = n) :
    (Op.equalIn (d + 2) t (.agg (flat (.sc (.int k)) xs).toArray) (.agg (flat (.sc (.int k)) ys).toArray)).run P w = .ok (xs == ys) w := by
  rw [← ints_all xs ys (hx.trans hy.symm), hx, List.range_eq_range', Op.equalIn, flat_sc, flat_sc]
  simp only [Sem.run_bind, run_underlying ht, Result.andThen_ok, hsz, Std.Legacy.Range.forIn_eq_forIn_range', Std.Legacy.Range.size, Nat.sub_zero, Nat.add_sub_cancel, Nat.div_one]
  have hl : ∀ i ∈ List.range' 0 n 1, i < n := fun i hi => by simpa using (List.mem_range'_1.1 hi).2
  generalize List.range' 0 n 1 = l at hl ⊢
  induction l with
  | nil => simp
  | cons i l ih =>
    have hi : i < n := hl i (by simp)
    have px : (part e (xs.map (T0.int k).val).toArray (i * 1)).run P w = .ok (.int k (xs.getD i 0)) w := by
      simp [part, isAgg, run_underlying he, List.getD, List.getElem?_eq_getElem (show i < xs.length by omega)]; rfl
    have py : (part e (ys.map (T0.int k).val).toArray (i * 1)).run P w = .ok (.int k (ys.getD i 0)) w := by
      simp [part, isAgg, run_underlying he, List.getD, List.getElem?_eq_getElem (show i < ys.length by omega)]; rfl
    have pe : (Op.equalIn (d + 1) e (.int k (xs.getD i 0)) (.int k (ys.getD i 0))).run P w = .ok (xs.getD i 0 == ys.getD i 0) w := run_equalIn_int w d e k k _ _ he
    simp only [List.forIn_cons, Sem.run_bind, px, py, pe, Result.andThen_ok, List.all_cons]
    cases hb : (xs.getD i 0 == ys.getD i 0)
    · simp
    · simp only [Bool.not_true, Bool.false_eq_true, if_false, Sem.run_pure, Result.andThen_ok, Bool.true_and]
      exact ih fun j hj => hl j (by simp [hj])
/-- a part of a value -/
theorem run_part {P : Program} {t : TypeId} {i : TI} (ht : TOk P t i) (w : World) (cs : Array Value) (off : Nat) (v : Value) (hv : (i.agg = true ∧ v = .agg (cs.extract off (off + i.size))) ∨ (i.agg = false ∧ cs[off]? = some v)) : (part t cs off).run P w = .ok v w := by
  obtain ⟨ti, h1, h2, _⟩ := ht.info
  have hs : (Go.sizeOf t).run P w = .ok i.size w := by simp [Go.sizeOf, typeInfo, h1, h2]
  have ha : (isAgg t).run P w = .ok i.agg w := by
    rw [ht.agg]
    simp only [isAgg, Sem.run_bind, run_underlying ht.und, Result.andThen_ok]
    cases i.desc <;> rfl
  unfold part
  simp only [Sem.run_bind, ha, Result.andThen_ok]
  rcases hv with ⟨hg, rfl⟩ | ⟨hg, hv⟩
  · simp [hg, hs]
  · simp [hg, hv]
/-- one part of two values -/
theorem segEq_ok (hE : EnvOk X E) {tf : TI} {t : TypeId} (ht : TOk X.P t tf) {s s' : Seg} {b : Bool} (h : segEq E tf s s' = some b) (hs : segOk Ww Ll s) (hs' : segOk Ww Ll s') (d : Nat) :
    ∃ u u', ((tf.agg = true ∧ u = .agg s.cells.toArray ∧ u' = .agg s'.cells.toArray) ∨ (tf.agg = false ∧ s.cells = [u] ∧ s'.cells = [u'])) ∧ ∀ w, (Op.equalIn (d + 2) t u u').run X.P w = .ok b w := by
  have hu := ht.und
  have hg := ht.agg
  unfold segEq at h
  split at h
  · rename_i k0 k x k' y hd
    split at h
    · rename_i hk
      subst hk
      cases h
      rw [hd] at hu hg
      exact ⟨_, _, .inr ⟨hg, rfl, rfl⟩, fun w => run_equalIn_int w _ t k k0 x y hu⟩
    · cases h
  · rename_i x y hd
    cases h
    rw [hd] at hu hg
    exact ⟨_, _, .inr ⟨hg, rfl, rfl⟩, fun w => run_equalIn_bool' w _ t x y hu⟩
  · rename_i x y hd
    cases h
    rw [hd] at hu hg
    exact ⟨_, _, .inr ⟨hg, rfl, rfl⟩, fun w => run_equalIn_string w _ t x y hu⟩
  · rename_i n e k n1 l k' n2 l' hd
    split at h
    · rename_i hc
      obtain ⟨rfl, rfl, rfl, hc1, hc2⟩ := hc
      cases h
      rw [hd] at hu hg
      exact ⟨_, _, .inl ⟨hg, rfl, rfl⟩, fun w => run_equalIn_ints w d t e _ k hu (isIntT_ok hE hc1) (fun w => esz_ok hE hc2 w) l l' hs hs'⟩
    · cases h
  · cases h
theorem fieldsEq_ok (hE : EnvOk X E) (d : Nat) (w : World) : (fs : List Field) → (o : Nat) → (ss ss' : List Seg) → (b : Bool) → fieldsEq E o fs ss ss' = some b → segsOk Ww Ll ss → segsOk Ww Ll ss' → (xs ys : Array Value) → xs.toList.drop o = segCells ss → ys.toList.drop o = segCells ss' →
    (Op.eqFields (d + 2) xs ys fs).run X.P w = .ok b w
  | [], o, [], [], b, h, _, _, xs, ys, _, _ => by simp only [fieldsEq, Option.some.injEq] at h; subst h; simp [Op.eqFields]
  | [], o, _ :: _, _, b, h, _, _, xs, ys, _, _ => by simp [fieldsEq] at h
  | [], o, [], _ :: _, b, h, _, _, xs, ys, _, _ => by simp [fieldsEq] at h
  | f :: fs, o, [], _, b, h, _, _, xs, ys, _, _ => by simp [fieldsEq] at h
  | f :: fs, o, _ :: _, [], b, h, _, _, xs, ys, _, _ => by simp [fieldsEq] at h
  | f :: fs, o, s :: r, s' :: r', b, h, hok, hok', xs, ys, hx, hy => by
    simp only [fieldsEq] at h
    split at h
    · rename_i hc
      obtain ⟨hn, hoff⟩ := hc
      split at h
      · rename_i tf htf
        have ht := hE.T _ _ htf
        split at h
        · rename_i hsz
          cases h1 : segEq E tf s s' with
          | none => rw [h1] at h; cases h
          | some x =>
            rw [h1] at h
            simp only [Option.bind_some] at h
            cases h2 : fieldsEq E (o + s.size) fs r r' with
            | none => rw [h2] at h; cases h
            | some y =>
              rw [h2] at h
              simp only [Option.bind_some, Option.some.injEq] at h
              obtain ⟨u, u', g1, g2⟩ := segEq_ok hE ht h1 (hok s (by simp)) (hok' s' (by simp)) d
              have hl1 : s.cells.length = s.size := Seg.size_ok (hok s (by simp))
              have hl2 : s'.cells.length = s.size := by rw [Seg.size_ok (hok' s' (by simp)), hsz.2]
              have part_at : ∀ (cs : Array Value) (c rest : List Value) (u : Value), cs.toList.drop o = c ++ rest → c.length = tf.size → ((tf.agg = true ∧ u = .agg c.toArray) ∨ (tf.agg = false ∧ c = [u])) → (part f.type cs f.offset).run X.P w = .ok u w := fun cs c rest u hcs hcl hu => by
                refine run_part ht w cs f.offset u ?_
                rw [hoff]
                rcases hu with ⟨ha, rfl⟩ | ⟨ha, rfl⟩
                · refine .inl ⟨ha, ?_⟩
                  congr 1
                  apply Array.toList_inj.1
                  rw [Array.toList_extract, List.extract_eq_take_drop, hcs, ← hcl]
                  simp
                · refine .inr ⟨ha, ?_⟩
                  have : cs.toList[o]? = some u := by
                    have := congrArg (·[0]?) hcs
                    simpa using this
                  simpa using this
              have px := part_at xs s.cells (segCells r) u (by rw [hx]; simp [segCells]) (by rw [hl1, hsz.1]) (g1.imp (fun z => ⟨z.1, z.2.1⟩) (fun z => ⟨z.1, z.2.1⟩))
              have py := part_at ys s'.cells (segCells r') u' (by rw [hy]; simp [segCells]) (by rw [hl2, hsz.1]) (g1.imp (fun z => ⟨z.1, z.2.2⟩) (fun z => ⟨z.1, z.2.2⟩))
              have ih := fieldsEq_ok hE d w fs (o + s.size) r r' y h2 (fun z hz => hok z (by simp [hz])) (fun z hz => hok' z (by simp [hz])) xs ys
                (by rw [← List.drop_drop, hx]; simp only [segCells, List.flatMap_cons]; rw [← hl1, List.drop_left])
                (by rw [← List.drop_drop, hy]; simp only [segCells, List.flatMap_cons]; rw [← hl2, List.drop_left])
              simp only [Op.eqFields, hn, ne_eq, not_false_eq_true, if_true, Sem.run_bind, px, py, g2, Result.andThen_ok]
              subst h
              cases x
              · simp
              · simpa using ih
        · cases h
      · cases h
    · cases h
theorem evEq_ok (hE : EnvOk X E) (h : Sim X w0 S a w loc) {t : TypeId} {x y : Operand} {b : Bool} (hb : evEq E t (opd S x) (opd S y) = some b) :
    ∃ xs ys, a.eval x = .agg xs ∧ a.eval y = .agg ys ∧ X.P.eqGuardType X.P.depth t = false ∧ (Op.equalIn 10000 t (.agg xs) (.agg ys)).run X.P w = .ok b w := by
  unfold evEq at hb
  split at hb
  · rename_i ti hti
    have ht := hE.T _ _ hti
    have hu := ht.und
    have hg := ht.agg
    split at hb
    · rename_i C n l C' n' l' hx hy
      split at hb
      · rename_i n0 e0 hd
        rw [hd] at hu hg
        obtain ⟨h1, h2⟩ := opd_agg h hx (.inl ⟨_, _, _, rfl⟩)
        obtain ⟨h3, h4⟩ := opd_agg h hy (.inl ⟨_, _, _, rfl⟩)
        obtain ⟨u, u', g1, g2⟩ := segEq_ok (Ww := w) (Ll := X.Low) hE ht hb h1 h3 9998
        rcases g1 with ⟨_, rfl, rfl⟩ | ⟨ha, _, _⟩
        · exact ⟨_, _, h2, h4, (ht.eqs hg).1, g2 w⟩
        · rw [hg] at ha; cases ha
      · cases hb
    · rename_i ss ss' hx hy
      split at hb
      · rename_i fs hd
        rw [hd] at hu hg
        obtain ⟨h1, h2⟩ := opd_agg h hx (.inr ⟨_, rfl⟩)
        obtain ⟨h3, h4⟩ := opd_agg h hy (.inr ⟨_, rfl⟩)
        have hfo : X.P.fieldsOf t = fs := by simp [Program.fieldsOf, hu]
        refine ⟨_, _, h2, h4, (ht.eqs hg).1, ?_⟩
        rw [run_equalIn_struct w 9999 t _ _ (by rw [hfo]; exact hu) (ht.eqs hg).2, hfo]
        exact fieldsEq_ok hE 9997 w fs.toList 0 ss ss' b hb h1 h3 _ _ (by simp) (by simp)
      · cases hb
    · cases hb
  · cases hb
theorem evCmp_ok {op : BinOp} {t ty : TypeId} {x y : Operand} (hE : EnvOk X E) (h : Sim X w0 S a w loc) (ho : o.op = .binOp op t x y ty) (hr : evCmp E op t (opd S x) (opd S y) (fun r => fin o.dst K r S) = some r) : o.wp X.P a w (Post X w0 K r) Q := by
  unfold evCmp at hr
  split at hr
  · cases hb : evEq E t (opd S x) (opd S y) with
    | none => rw [hb] at hr; cases hr
    | some b =>
      rw [hb] at hr
      obtain ⟨xs, ys, e1, e2, e3, e4⟩ := evEq_ok hE h hb
      have hrun : (execOp a.eval o).run X.P w = .ok (.value (.bool b)) w := by
        simp only [execOp, ho, e1, e2, Sem.run_bind, run_eqGuard_agg w .eql t x y xs ys e3, Result.andThen_ok, run_eql_struct, e4]; rfl
      exact wp_raw hrun h hr
  · cases hb : evEq E t (opd S x) (opd S y) with
    | none => rw [hb] at hr; cases hr
    | some b =>
      rw [hb] at hr
      obtain ⟨xs, ys, e1, e2, e3, e4⟩ := evEq_ok hE h hb
      have hrun : (execOp a.eval o).run X.P w = .ok (.value (.bool (!b))) w := by
        simp only [execOp, ho, e1, e2, Sem.run_bind, run_eqGuard_agg w .neq t x y xs ys e3, Result.andThen_ok, run_neq_struct, e4]; rfl
      exact wp_raw hrun h hr
  · cases hr

/-! ### make -/
theorem zeroInt_ok {k : IntKind} {z : List Seg} (h : zeroInt k z = true) : z = [.one (.int k 0)] := by
  unfold zeroInt at h
  split at h
  · have := of_decide_eq_true h
    rw [this.1, this.2]
  · cases h
theorem evMake_ok {t : TypeId} {x y : Operand} (hE : EnvOk X E) (h : Sim X w0 S a w loc) (ho : o.op = .makeSlice t x y) (hr : evMake E t (sameO x y) (opd S x) (opd S y) (fun p => fin o.dst K p S) = some r) : o.wp X.P a w (Post X w0 K r) Q := by
  unfold evMake at hr
  split at hr
  · rename_i ti l c hti hl hc
    obtain ⟨kl, hl⟩ := asI_val h hl
    obtain ⟨kc, hc⟩ := asI_val h hc
    have ht := hE.T _ _ hti
    split at hr
    · rename_i e hd
      have hu := ht.und
      rw [hd] at hu
      split at hr
      · rename_i te hte
        have hte' := hE.T _ _ hte
        split at hr
        · rename_i k hcod
          split at hr
          · rename_i hz
            obtain ⟨hz, hsz, hb0⟩ := hz
            cases hlc0 : (sameO x y || leB c l) with
            | true =>
              rw [hlc0] at hr
              simp only [cond_true] at hr
              obtain ⟨hc4, hr2⟩ := chk_some hr
              simp only [Bool.and_eq_true, decide_eq_true_eq] at hc4
              obtain ⟨c1, c2, c3, c4⟩ := hc4
              have c1 := leB_iff c1
              have c2 := leB_iff c2
              have c3 := leB_iff c3
              have hlc : l = c := by omega
              subst hlc
              obtain ⟨it, g1, g2, g3, zv, g4, g5⟩ := hte'.info
              rw [zeroInt_ok hz] at g5
              have g5 : zv.cells = #[.int k 0] := g5
              have hb2 : (it.bytes : Int) * l ≤ 281474976710656 := by
                have h1 : l.toNat * it.bytes ≤ 281474976710656 := by rw [g3]; omega
                have h2 : ((l.toNat * it.bytes : Nat) : Int) ≤ 281474976710656 := by omega
                rw [Int.natCast_mul, Int.toNat_of_nonneg c1, Int.mul_comm] at h2
                exact h2
              by_cases hl63 : l ≤ 9223372036854775807
              · have hrun := run_make (P := X.P) w t e it zv hu g1 g4 kl kl l l c1 (Int.le_refl _) hb2 hl63
                have hmade : madeCells zv.cells (l.toNat * it.size) = (flat (.sc (.int k)) (List.replicate l.toNat (0 : Int))).toArray := by
                  rw [g5, g2, hsz, flat_sc]
                  apply Array.toList_inj.1
                  simp only [madeCells, Nat.mul_one, Array.toList_map, List.map_replicate]
                  apply List.ext_getElem?
                  intro j
                  simp only [List.getElem?_map, Array.toList_range, List.getElem?_range']
                  by_cases hj : j < l.toNat
                  · simp [List.getElem?_range hj, List.getElem?_replicate, hj, Nat.mod_one]; rfl
                  · simp [List.getElem?_eq_none (show (List.range l.toNat).length ≤ j by simpa using hj), List.getElem?_replicate, hj]
                rw [hmade] at hrun
                have hrun' : (execOp a.eval o).run X.P w = .ok (.value (.slice (some ⟨w.heap.size, 0, none⟩) l.toNat l.toNat)) { w with heap := w.heap.push (.cells (flat (.sc (.int k)) (List.replicate l.toNat (0 : Int))).toArray e) } := by
                  have e1 : kl = kl := rfl
                  simp only [execOp, ho, hl, hc]
                  have hrun2 := run_make (P := X.P) w t e it zv hu g1 g4 kl kc l l c1 (Int.le_refl _) hb2 hl63
                  rw [hmade] at hrun2
                  simp only [Sem.run_bind, Sem.run_map, hrun2, Result.andThen_ok]
                  rfl
                refine wp1 w.heap.size 0 hrun' (h.ext (below_alloc' w _)) hr2 rfl rfl ?_ (new_block h _)
                have hrl : (List.replicate l.toNat (0 : Int)).length = l.toNat := List.length_replicate
                have hfl : (flat (.sc (.int k)) (List.replicate l.toNat (0 : Int))).length = l.toNat := by rw [flat_length]; show (List.replicate l.toNat (0 : Int)).length * 1 = _; rw [hrl, Nat.mul_one]
                refine .inr ⟨w.heap.size, 0, l.toNat, (flat (.sc (.int k)) (List.replicate l.toNat (0 : Int))).toArray, e, (0, 0), by simp, ?_, .inl h.hB, by simp, harm0 _, ?_, ?_, fun j x hj => by simpa using hj⟩
                · show _ = Value.slice _ (List.replicate l.toNat (0 : Int)).length _
                  rw [hrl]
                · show (List.replicate l.toNat (0 : Int)).length ≤ _
                  rw [hrl]; exact Nat.le_refl _
                · rw [List.size_toArray, hfl, Nat.zero_add]; exact Nat.le_of_eq (Nat.mul_one _)
              · exfalso
                have : l.toNat ≤ l.toNat * te.bytes := Nat.le_mul_of_pos_right _ hb0
                omega
            | false =>
              rw [hlc0] at hr
              simp only [cond_false] at hr
              have hlc0 := (Bool.or_eq_false_iff.1 hlc0).2
              obtain ⟨hc4, hr2⟩ := chk_some hr
              simp only [Bool.and_eq_true, decide_eq_true_eq] at hc4
              obtain ⟨c1, c4⟩ := hc4
              have c1 := leB_iff c1
              have c3 : l < c := by
                have : ¬ c ≤ l := fun e => by rw [show leB c l = true from decide_eq_true e] at hlc0; cases hlc0
                omega
              obtain ⟨it, g1, g2, g3, zv, g4, g5⟩ := hte'.info
              rw [zeroInt_ok hz] at g5
              have g5 : zv.cells = #[.int k 0] := g5
              have hb2 : (it.bytes : Int) * c ≤ 281474976710656 := by
                have h1 : c.toNat * it.bytes ≤ 281474976710656 := by rw [g3]; omega
                have h2 : ((c.toNat * it.bytes : Nat) : Int) ≤ 281474976710656 := by omega
                rw [Int.natCast_mul, Int.toNat_of_nonneg (by omega), Int.mul_comm] at h2
                exact h2
              by_cases hl63 : c ≤ 9223372036854775807
              · have hmade : madeCells zv.cells (c.toNat * it.size) = (flat (.sc (.int k)) (List.replicate c.toNat (0 : Int))).toArray := by
                  rw [g5, g2, hsz, flat_sc]
                  apply Array.toList_inj.1
                  simp only [madeCells, Nat.mul_one, Array.toList_map, List.map_replicate]
                  apply List.ext_getElem?
                  intro j
                  simp only [List.getElem?_map, Array.toList_range, List.getElem?_range']
                  by_cases hj : j < c.toNat
                  · simp [List.getElem?_range hj, List.getElem?_replicate, hj, Nat.mod_one]; rfl
                  · simp [List.getElem?_eq_none (show (List.range c.toNat).length ≤ j by simpa using hj), List.getElem?_replicate, hj]
                have hrun' : (execOp a.eval o).run X.P w = .ok (.value (.slice (some ⟨w.heap.size, 0, none⟩) l.toNat c.toNat)) { w with heap := w.heap.push (.cells (flat (.sc (.int k)) (List.replicate c.toNat (0 : Int))).toArray e) } := by
                  simp only [execOp, ho, hl, hc]
                  have hrun2 := run_make (P := X.P) w t e it zv hu g1 g4 kl kc l c c1 (by omega) hb2 hl63
                  rw [hmade] at hrun2
                  simp only [Sem.run_bind, Sem.run_map, hrun2, Result.andThen_ok]
                  rfl
                refine wp1 w.heap.size 0 hrun' (h.ext (below_alloc' w _)) hr2 rfl rfl ?_ (new_block h _)
                have hrl : (List.replicate c.toNat (0 : Int)).length = c.toNat := List.length_replicate
                have hfl : (flat (.sc (.int k)) (List.replicate c.toNat (0 : Int))).length = c.toNat := by rw [flat_length]; show (List.replicate c.toNat (0 : Int)).length * 1 = _; rw [hrl, Nat.mul_one]
                refine ⟨?_, w.heap.size, 0, (flat (.sc (.int k)) (List.replicate c.toNat (0 : Int))).toArray, e, (0, 0), by simp, ?_, .inl h.hB, by simp, harm0 _, ?_, fun j x hj => by simpa using hj⟩
                · show l.toNat ≤ (List.replicate c.toNat (0 : Int)).length
                  rw [hrl]; omega
                · show _ = Value.slice _ l.toNat (List.replicate c.toNat (0 : Int)).length
                  rw [hrl]
                · rw [List.size_toArray, hfl, Nat.zero_add]
                  show (List.replicate c.toNat (0 : Int)).length * 1 ≤ _
                  rw [hrl, Nat.mul_one]; exact Nat.le_refl _
              · exfalso
                have : c.toNat ≤ c.toNat * te.bytes := Nat.le_mul_of_pos_right _ hb0
                omega
          · cases hr
        · cases hr
      · cases hr
    · cases hr
  · cases hr
end
end Go.Px
