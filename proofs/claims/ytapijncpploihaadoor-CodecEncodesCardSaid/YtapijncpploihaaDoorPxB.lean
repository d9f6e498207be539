/- Our library of evaluations, part 2. -/
import Derived.Test.YtapijncpploihaaDoorPxA
import Derived.Laws.Tables
import Derived.Laws.StructEq
import Derived.Laws.MakeOwn
set_option linter.unusedVariables false
set_option linter.unusedSimpArgs false
/- Slices made and grown. -/
namespace Go.Px
open Go Go.RowKit

section
variable {X : Cx} {ρ : Type} {w0 : World} {S : St} {a : Act} {w : World} {loc : Nat → Nat → Option (Nat × Nat)} {E : Env ρ} {K : St → Option ρ} {r : ρ} {o : Oper} {Q : Exit → Act → World → Prop}

theorem selfAlias_owns {x : Operand} {p : PV} (hi : ∀ s q, p ≠ .iter s q) (ht : ∀ ds, p ≠ .tup ds) (hx : opd S x = p) : (selfAlias x p).owns = false := by
  cases x with
  | tmp s => cases p <;> first | rfl | exact absurd rfl (hi _ _) | exact absurd rfl (ht _)
  | const c => simp [opd] at hx; subst hx; rfl
  | global g => simp [opd] at hx; subst hx; rfl
  | func f => simp [opd] at hx; subst hx; rfl
theorem selfAlias_iter {x : Operand} {S : St} {s : ByteArray} {q : Nat} (h : opd S x = .iter s q) : selfAlias x (opd S x) = .iter s q := by rw [h]; cases x <;> rfl
theorem selfAlias_tup {x : Operand} {S : St} {ds : List D1} (h : opd S x = .tup ds) : selfAlias x (opd S x) = .tup ds := by rw [h]; cases x <;> rfl
/-- what an operand stands for, where it is neither a walk nor several values nor nothing -/
theorem opd_rep (h : Sim X w0 S a w loc) {x : Operand} {p : PV} (hx : selfAlias x (opd S x) = p) (hj : p ≠ .junk) (hi : ∀ s q, p ≠ .iter s q) (ht : ∀ ds, p ≠ .tup ds) :
    p.owns = false ∧ Rep X w S a.tmps loc (fun _ => none) p (a.eval x) ∧ (∀ k, p.ref = some k → (get S k).owns = true) := by
  have hi' : ∀ s q, opd S x ≠ .iter s q := fun s q e => hi s q (by rw [← hx]; exact selfAlias_iter e)
  have ht' : ∀ ds, opd S x ≠ .tup ds := fun ds e => ht ds (by rw [← hx]; exact selfAlias_tup e)
  have hj' : opd S x ≠ .junk := fun e => hj (by rw [← hx, e]; cases x <;> rfl)
  obtain ⟨h1, h2⟩ := opd_self h rfl hj' hi' ht'
  rw [hx] at h1 h2
  exact ⟨by rw [← hx]; exact selfAlias_owns hi' ht' rfl, h1, h2⟩
theorem run_len {args : Array Operand} {ats : Array TypeId} {x : Operand} {t : TypeId} (ho : o.op = .call { callee := .builtin .len, args := args, argTypes := ats }) (hx : args[0]? = some x) (ht : ats[0]? = some t) {v z : Value} (hv : a.eval x = v)
    (hl : (Builtin.len_ #[t] o.type #[v]).run X.P w = .ok z w) : (execOp a.eval o).run X.P w = .ok (.value z) w := by
  have e : Builtin.len_ ats o.type (args.map a.eval) = Builtin.len_ #[t] o.type #[v] := by
    unfold Builtin.len_
    simp [hx, ht, hv]
  simp [execOp, ho, resolve, invoke, builtin, e, hl]
theorem evLen_ok {args : Array Operand} {ats : Array TypeId} {x : Operand} {t : TypeId} (hE : EnvOk X E) (h : Sim X w0 S a w loc) (ho : o.op = .call { callee := .builtin .len, args := args, argTypes := ats }) (hx : args[0]? = some x) (hat : ats[0]? = some t)
    (hr : evLen E S t (selfAlias x (opd S x)) (fun q => fin o.dst K q S) = some r) : o.wp X.P a w (Post X w0 K r) Q := by
  unfold evLen at hr
  split at hr
  · rename_i ti hti
    have ht := hE.T t ti hti
    have hu := ht.und
    split at hr
    · rename_i st hd hp
      rw [hd] at hu
      obtain ⟨_, hv, _⟩ := opd_rep h hp (by simp) (by simp) (by simp)
      have hv : a.eval x = .string st := hv
      refine wp_raw (run_len ho hx hat hv ?_) h hr
      simp [Builtin.len_, run_underlying hu, goInt]
    · rename_i e p hd
      rw [hd] at hu
      split at hr
      · rename_i n hn
        have hv : ∃ ad cap, a.eval x = .slice ad n cap := by
          generalize hq : selfAlias x (opd S x) = q at hn
          have hrep := opd_rep h hq (fun e => by rw [e] at hn; simp [slLen] at hn) (fun _ _ e => by rw [e] at hn; simp [slLen] at hn) (fun _ e => by rw [e] at hn; simp [slLen] at hn)
          obtain ⟨h1, h2, h3⟩ := hrep
          unfold slLen at hn
          split at hn
          · cases hn; exact ⟨none, 0, h2⟩
          · cases hn; obtain ⟨ad, cap, q1, _⟩ := h2; exact ⟨ad, cap, q1⟩
          · simp [PV.owns] at h1
          · rename_i k
            split at hn
            · rename_i C l hs
              cases hn
              have := alias_val h h2 (h3 k rfl)
              rw [hs] at this
              obtain ⟨ad, cap, q1, _⟩ := OwnRep.sl this
              exact ⟨ad, cap, q1⟩
            · cases hn
          · cases hn
            obtain ⟨base, sz, cnt, _, _, e3⟩ := h2
            rcases e3 with ⟨_, q1, rfl⟩ | ⟨b, o2, o3, cap, _, q2, _⟩
            · exact ⟨_, _, q1⟩
            · exact ⟨_, _, q2⟩
          · cases hn
        obtain ⟨ad, cap, hv⟩ := hv
        refine wp_raw (run_len ho hx hat hv ?_) h hr
        simp [Builtin.len_, run_underlying hu, goInt]
      · cases hr
    · rename_i n e hd
      rw [hd] at hu
      refine wp_raw (run_len ho hx hat rfl ?_) h hr
      simp [Builtin.len_, run_underlying hu, goInt]
    · cases hr
  · cases hr

/-! ### what is appended or copied -/
structure Src (w : World) (C : Cod) (y : List C.α) (v : Value) : Prop where
  len : ∀ (P : Program) (w' : World), (Builtin.lenOf v).run P w' = .ok y.length w'
  cells : ∀ (P : Program) (m : Nat) (w' : World), w'.heap = w.heap → m ≤ y.length → (Builtin.firstCells C.sz m v).run P w' = .ok (flat C (y.take m)).toArray w'
theorem SlRep.heap {w w' : World} {C : Cod} {l : List C.α} {v : Value} (h : SlRep w C l v) (hw : w'.heap = w.heap) : SlRep w' C l v := by
  obtain ⟨ad, cap, h1, h2, h3⟩ := h
  refine ⟨ad, cap, h1, h2, h3.imp id ?_⟩
  rintro ⟨b, o, cur, e, fr, g1, g2, g3, g4⟩
  exact ⟨b, o, cur, e, fr, g1, by rw [hw]; exact g2, by rw [hw]; exact g3, g4⟩
theorem SlRep.src {C : Cod} {l : List C.α} {v : Value} (h : SlRep w C l v) : Src w C l v := by
  obtain ⟨ad, cap, h1, h2, h3⟩ := id h
  subst h1
  refine ⟨fun P w' => rfl, fun P m w' hw hm => ?_⟩
  cases ad with
  | none => obtain ⟨rfl, _⟩ := sl_nil h; simp [Builtin.firstCells, flat]
  | some ad => exact (sl_load (SlRep.heap h hw) P m hm).2
theorem str_src (s : ByteArray) (w : World) : Src w (.sc (.int .u8)) (bytesOf s) (.string s) := by
  have hl : (bytesOf s).length = s.size := by simp [bytesOf]
  refine ⟨fun P w' => by simp [Builtin.lenOf, hl], fun P m w' _ hm => ?_⟩
  simp only [Builtin.firstCells, Sem.run_pure]
  congr 1
  apply Array.ext'
  rw [flat_sc]
  simp only [bytesOf, Array.toList_map, ByteArray.data_extract, Array.toList_extract, List.extract_eq_take_drop, List.drop_zero, Nat.sub_zero, ← List.map_take, List.map_map]
  rfl
theorem srcOf_ok (h : Sim X w0 S a w loc) {C : Cod} {x : Operand} {y : List C.α} (hy : srcOf E S C (selfAlias x (opd S x)) = some y) : Src w C y (a.eval x) := by
  generalize hp : selfAlias x (opd S x) = p at hy
  unfold srcOf at hy
  split at hy
  · rename_i s
    cases hy
    obtain ⟨_, hv, _⟩ := opd_rep h hp (by simp) (by simp) (by simp)
    have hv : a.eval x = .string s := hv
    rw [hv]; exact str_src s w
  · have hj : p ≠ .junk ∧ (∀ s q, p ≠ .iter s q) ∧ (∀ ds, p ≠ .tup ds) := by
      refine ⟨fun e => ?_, fun _ _ e => ?_, fun _ e => ?_⟩ <;> (rw [e] at hy; simp [contentT, content] at hy)
    obtain ⟨h1, h2, h3⟩ := opd_rep h hp hj.1 hj.2.1 hj.2.2
    exact (contentT_sl h hy h1 h2 h3).src

/-! ### buildSlice -/
theorem recDec_ok : (fs : List T0) → (vs : List Value) → (x : recα fs) → recDec fs vs = some x → recVals fs x = vs
  | [], [], x, h => rfl
  | [], v :: vs, x, h => by simp [recDec] at h
  | t :: fs, [], x, h => by simp [recDec] at h
  | t :: fs, v :: vs, x, h => by
    simp only [recDec] at h
    cases hd : t.dec v with
    | none => rw [hd] at h; cases h
    | some y =>
      rw [hd] at h
      simp only [Option.bind_some] at h
      cases hr : recDec fs vs with
      | none => rw [hr] at h; cases h
      | some z =>
        rw [hr] at h
        simp only [Option.bind_some, Option.some.injEq] at h
        subst h
        simp [recVals, T0.dec_ok hd, recDec_ok fs vs z hr]
theorem ones_ok : (ss : List Seg) → (l : List Value) → ones ss = some l → segCells ss = l
  | [], l, h => by simp [ones] at h; subst h; rfl
  | .one v :: r, l, h => by
    simp only [ones] at h
    cases hr : ones r with
    | none => rw [hr] at h; cases h
    | some m =>
      rw [hr] at h
      simp only [Option.bind_some, Option.some.injEq] at h
      subst h
      have := ones_ok r m hr
      simp [segCells, Seg.cells] at this ⊢
      rw [this]
  | .arr .. :: r, l, h => by simp [ones] at h
theorem elem_ok (h : Sim X w0 S a w loc) {x : Operand} {C : Cod} {y : C.α} (hy : (opd S x).elem C = some y) : (a.eval x).cells.toList = C.cells y := by
  cases hp : opd S x with
  | raw v =>
    rw [hp] at hy
    have hv := opd_raw h hp
    simp only [PV.elem] at hy
    cases C with
    | sc t =>
      simp only at hy
      have := T0.dec_ok hy
      rw [hv, ← this, oneC_cells (t.val_oneC y)]; rfl
    | strc fs => simp at hy
  | strc ss =>
    rw [hp] at hy
    simp only [PV.elem] at hy
    cases C with
    | sc t => simp at hy
    | strc fs =>
      simp only at hy
      cases ho : ones ss with
      | none => rw [ho] at hy; cases hy
      | some l =>
        rw [ho] at hy
        simp only [Option.bind_some] at hy
        have h1 := recDec_ok fs l y hy
        have h2 := ones_ok ss l ho
        have hrep : segsOk w X.Low ss ∧ a.eval x = .agg (segCells ss).toArray := by
          cases x with
          | tmp s => rw [opd_tmp] at hp; have := copy_rep h (s := s) (by rw [hp]; rfl); rw [hp] at this; exact this
          | const c => simp [opd] at hp
          | global g => simp [opd] at hp
          | func f => simp [opd] at hp
        rw [hrep.2]
        show (segCells ss).toArray.toList = recVals fs y
        rw [h1, ← h2]
  | _ => rw [hp] at hy; simp [PV.elem] at hy
theorem fill_ok {sz : Nat} : (vs : List Value) → (parts : List (Nat × Value)) → (i : Nat) → (cells : Array Value) → parts = vs.zipIdx.map (fun x => (i + x.2, x.1)) → (∀ v ∈ vs, v.cells.size = sz) → (i + vs.length) * sz ≤ cells.size →
    Instr.fill (fun j => some (j * sz, sz)) cells parts = some (splice cells (i * sz) (vs.flatMap fun v => v.cells.toList))
  | [], parts, i, cells, hp, _, _ => by subst hp; simp [Instr.fill, splice]
  | v :: vs, parts, i, cells, hp, hs, hl => by
    have hv : v.cells.size = sz := hs v (by simp)
    have hfit : i * sz + sz ≤ cells.size := by
      have : (i + 1) * sz ≤ (i + (v :: vs).length) * sz := Nat.mul_le_mul_right _ (by simp)
      rw [Nat.add_mul, Nat.one_mul] at this; omega
    have hp2 : parts = (i, v) :: (vs.zipIdx.map fun x => (i + 1 + x.2, x.1)) := by
      rw [hp, List.zipIdx_cons', List.map_cons, List.map_map]
      simp [Function.comp_def, Nat.add_assoc, Nat.add_comm 1]
    rw [hp2]
    simp only [Instr.fill, hv, ne_eq, not_true_eq_false, decide_false, Bool.false_or]
    rw [if_neg (by simp; omega)]
    have hfold : ∀ (cs : List Value) (off k : Nat) (arr : Array Value), off + k + cs.length ≤ arr.size → (cs.zipIdx k).foldl (fun ac (x : Value × Nat) => ac.setIfInBounds (off + x.2) x.1) arr = splice arr (off + k) cs := by
      intro cs
      induction cs with
      | nil => intro off k arr _; simp [splice]
      | cons c cs ih =>
        intro off k arr hle
        simp only [List.length_cons] at hle
        simp only [List.zipIdx_cons, List.foldl_cons]
        rw [ih off (k + 1) _ (by simp; omega)]
        simp only [splice, Array.toList_setIfInBounds, List.length_cons]
        congr 1
        have hlt : off + k < arr.toList.length := by simp; omega
        generalize arr.toList = c' at hlt
        rw [show off + (k + 1) = off + k + 1 by omega]
        have e1 : (c'.set (off + k) c).take (off + k + 1) = c'.take (off + k) ++ [c] := by
          rw [List.take_set, List.take_succ_eq_append_getElem hlt, List.set_append]
          simp [Nat.min_eq_left (Nat.le_of_lt hlt)]
        have e2 : (c'.set (off + k) c).drop (off + k + 1 + cs.length) = c'.drop (off + k + 1 + cs.length) := List.drop_set_of_lt (by omega)
        rw [e1, e2]
        simp [Nat.add_assoc, Nat.add_comm 1]
    have hf : v.cells.zipIdx.foldl (fun cs (x : Value × Nat) => cs.setIfInBounds (i * sz + x.2) x.1) cells = splice cells (i * sz) v.cells.toList := by
      rw [← Array.foldl_toList, Array.toList_zipIdx]
      have := hfold v.cells.toList (i * sz) 0 cells (by simp [hv]; exact hfit)
      simpa using this
    have hcs : (splice cells (i * sz) v.cells.toList).size = cells.size := splice_size (by simp [hv]; exact hfit)
    have ih := fill_ok vs _ (i + 1) (splice cells (i * sz) v.cells.toList) rfl (fun x hx => hs x (by simp [hx])) (by rw [hcs]; simp at hl; rw [show i + 1 + vs.length = i + (vs.length + 1) by omega]; exact hl)
    have hgoal : Instr.fill (fun j => some (j * sz, sz)) (v.cells.zipIdx.foldl (fun cs (x : Value × Nat) => cs.setIfInBounds (i * sz + x.2) x.1) cells) (vs.zipIdx.map fun x => (i + 1 + x.2, x.1)) = some (splice cells (i * sz) ((v :: vs).flatMap fun v => v.cells.toList)) := by
      rw [hf, ih]
      congr 1
      simp only [splice, List.flatMap_cons, List.length_append]
      congr 1
      have hl1 : v.cells.toList.length = sz := by simp [hv]
      have hct : cells.toList.length = cells.size := by simp
      rw [hl1, Nat.add_mul, Nat.one_mul]
      generalize hF : (vs.flatMap fun v => v.cells.toList) = F
      have t1 : (cells.toList.take (i * sz) ++ v.cells.toList ++ cells.toList.drop (i * sz + sz)).take (i * sz + sz) = cells.toList.take (i * sz) ++ v.cells.toList := by
        have : (cells.toList.take (i * sz) ++ v.cells.toList).length = i * sz + sz := by simp [hv]; omega
        rw [← this, List.take_left]
      have t2 : (cells.toList.take (i * sz) ++ v.cells.toList ++ cells.toList.drop (i * sz + sz)).drop (i * sz + sz + F.length) = cells.toList.drop (i * sz + (sz + F.length)) := by
        have : (cells.toList.take (i * sz) ++ v.cells.toList).length = i * sz + sz := by simp [hv]; omega
        rw [← List.drop_drop, ← this, List.drop_left, List.drop_drop, this, Nat.add_assoc]
      rw [t1, t2]
      simp [List.append_assoc]
    exact hgoal
end
end Go.Px

/- Slices grown, copies, assignments. -/
namespace Go.Px
open Go Go.RowKit

section
variable {X : Cx} {ρ : Type} {w0 : World} {S : St} {a : Act} {w : World} {loc : Nat → Nat → Option (Nat × Nat)} {E : Env ρ} {K : St → Option ρ} {r : ρ} {o : Oper} {Q : Exit → Act → World → Prop}

theorem elems_ok (h : Sim X w0 S a w loc) {C : Cod} : (parts : List (Nat × Operand)) → (i : Nat) → (l : List C.α) → elems S C i parts = some l →
    parts.map (fun x => (x.1, a.eval x.2)) = (parts.map fun x => a.eval x.2).zipIdx.map (fun x => (i + x.2, x.1)) ∧ ((parts.map fun x => a.eval x.2).flatMap fun v => v.cells.toList) = flat C l ∧ (∀ v ∈ parts.map (fun x => a.eval x.2), v.cells.size = C.sz) ∧ l.length = parts.length
  | [], i, l, hl => by simp [elems] at hl; subst hl; simp [flat]
  | (j, x) :: rest, i, l, hl => by
    simp only [elems] at hl
    split at hl
    · rename_i hij
      subst hij
      cases hx : (opd S x).elem C with
      | none => rw [hx] at hl; cases hl
      | some y =>
        rw [hx] at hl
        simp only [Option.bind_some] at hl
        cases hr : elems S C (i + 1) rest with
        | none => rw [hr] at hl; cases hl
        | some m =>
          rw [hr] at hl
          simp only [Option.bind_some, Option.some.injEq] at hl
          subst hl
          obtain ⟨h1, h2, h3, h4⟩ := elems_ok h rest (i + 1) m hr
          have he := elem_ok h hx
          refine ⟨?_, ?_, ?_, by simp [h4]⟩
          · simp only [List.map_cons, List.zipIdx_cons', List.map_map] at h1 ⊢
            rw [h1]
            simp [Function.comp_def, Nat.add_assoc, Nat.add_comm 1]
          · simp only [List.map_cons, List.flatMap_cons] at h2 ⊢
            rw [h2, he]; rfl
          · intro v hv
            simp only [List.map_cons, List.mem_cons] at hv
            rcases hv with rfl | hv
            · have := congrArg List.length he
              simpa [cells_length] using this
            · exact h3 v hv
    · cases hl
theorem evBuildSlice_ok {t : TypeId} {len : Nat} {parts : Array (Nat × Operand)} (hE : EnvOk X E) (h : Sim X w0 S a w loc) (ho : o.op = .buildSlice t len parts)
    (hr : evBuildSlice E S t len parts.toList (fun q => fin o.dst K q S) = some r) : o.wp X.P a w (Post X w0 K r) Q := by
  unfold evBuildSlice at hr
  split at hr
  · cases hr
  · rename_i C bb hco
    obtain ⟨e, te, q1, q2, q3, q4, q5⟩ := codOf_ok hE hco
    split at hr
    · rename_i hc
      obtain ⟨hc1, hc2, hc3, hc4, hc5⟩ := hc
      split at hr
      · rename_i l hl
        obtain ⟨h1, h2, h3, h4⟩ := elems_ok h parts.toList 0 l hl
        obtain ⟨z, hz1, hz2⟩ := run_zero q2 w
        have hfl : (flat C l).length = len * C.sz := by rw [flat_length, h4, hc1]
        have hfill := fill_ok (sz := C.sz) (parts.toList.map fun x => a.eval x.2) (parts.toList.map fun x => (x.1, a.eval x.2)) 0 ((Array.range (len * C.sz)).map (z.cells[· % z.cells.size]!)) (by rw [h1]) h3
          (by simp [hc1])
        rw [h2] at hfill
        have hsp : splice ((Array.range (len * C.sz)).map (z.cells[· % z.cells.size]!)) (0 * C.sz) (flat C l) = (flat C l).toArray := by
          simp [splice, hfl]
        rw [hsp] at hfill
        have hsz := sizeOf_run q2
        rw [q4] at hsz
        have hrun : (execOp a.eval o).run X.P w = .ok (.value (.slice (some ⟨w.heap.size, 0, none⟩) len len)) { w with heap := w.heap.push (.cells (flat C l).toArray e) } := by
          have hn2 : ¬ (len * C.sz > 2 ^ 24) := by
            have : len * C.sz ≤ 64 * 1000 := Nat.mul_le_mul hc3 hc4
            omega
          have hpe : (parts.map fun (x : Nat × Operand) => (x.1, a.eval x.2)).toList = parts.toList.map fun x => (x.1, a.eval x.2) := by simp
          have h0 : ¬ (len * C.sz = 0) := by
            have := Nat.mul_pos hc2 hc5
            omega
          simp only [execOp, ho, Sem.run_bind, Instr.buildSlice, run_underlying q1, Result.andThen_ok, hsz, hn2, h0, if_false, hz1, Sem.run_pure]
          rw [hpe, hfill]
          simp [newRow]
        refine wp1 w.heap.size 0 hrun (h.ext (below_alloc' w _)) hr rfl rfl ?_ (new_block h _)
        exact .inr ⟨w.heap.size, 0, len, (flat C l).toArray, e, (0, 0), by simp, by rw [h4, hc1], .inl h.hB, by simp, harm0 _, by rw [h4, hc1]; exact Nat.le_refl _, by simp [hfl], fun j x hj => by simpa using hj⟩
      · cases hr
    · cases hr

/-! ### append -/
theorem not_int_desc (d : TypeDesc) (h : ∀ k, d ≠ .int k) : (match d with | .int _ => true | _ => false) = false := by cases d <;> first | rfl | exact absurd rfl (h _)
theorem run_append_in {P : Program} {t t2 e : TypeId} {d2 : TypeDesc} (ht : P.underlying t = some (.slice e)) (ht2 : P.underlying t2 = some d2) (hd2 : ∀ k, d2 ≠ .int k) (ty : TypeId) {C : Cod} (hs : ∀ w : World, (Go.sizeOf e).run P w = .ok C.sz w)
    {y : List C.α} {u : Value} (hy : Src w C y u) {b off n cap : Nat} {cur : Array Value} {e' : TypeId} {fr : Nat × Nat} (hb : w.heap[b]? = some (.cells cur e' fr)) (hh : Harm fr cur.size) (hroom : n + y.length ≤ cap) (hfit : off + cap * C.sz ≤ cur.size) :
    (Builtin.append_ #[t, t2] ty #[.slice (some ⟨b, off, none⟩) n cap, u]).run P w = .ok (.slice (some ⟨b, off, none⟩) (n + y.length) cap) (w.setRow b (Px.splice cur (off + n * C.sz) (flat C y))) := by
  have hcells := hy.cells P y.length w rfl (Nat.le_refl _)
  rw [List.take_length] at hcells
  have hfl : (flat C y).length = y.length * C.sz := flat_length C y
  have hle : off + n * C.sz + (flat C y).length ≤ cur.size := by
    rw [hfl, Nat.add_assoc, ← Nat.add_mul]
    exact Nat.le_trans (Nat.add_le_add_left (Nat.mul_le_mul_right _ hroom) _) hfit
  have hst := run_storeCells P b (off + n * C.sz) e' fr (flat C y) 0 cur w hb hh (by simpa using hle) (flat_oneC C y)
  rw [Nat.add_zero] at hst
  have hz := not_int_desc d2 hd2
  unfold Builtin.append_
  simp only [List.getElem?_toArray, List.getElem?_cons_zero, List.getElem?_cons_succ, Sem.run_bind, run_underlying ht, Result.andThen_ok, hs, run_underlying ht2, Sem.run_pure, hz, Bool.false_eq_true, if_false, hy.len P, hroom, if_true, Bool.not_false, hcells, add_lit, hst]
theorem run_append_new {P : Program} {t t2 e : TypeId} {te : TI} {d2 : TypeDesc} (ht : P.underlying t = some (.slice e)) (ht2 : P.underlying t2 = some d2) (hd2 : ∀ k, d2 ≠ .int k) (ty : TypeId) {C : Cod} (hte : TOk P e te) (hsz : te.size = C.sz)
    {y l : List C.α} {u v : Value} (hy : Src w C y u) (hl : Src w C l v) {ad : Option Addr} {cap : Nat} (hv : v = .slice ad l.length cap) (hroom : cap < l.length + y.length) (hbd : (l.length + y.length) * te.bytes < 140737488355328) (hb0 : te.bytes ≠ 0) :
    ∃ cap' cs, l.length + y.length ≤ cap' ∧ cs.size = cap' * C.sz ∧ Has cs 0 (flat C (l ++ y)) ∧
      (Builtin.append_ #[t, t2] ty #[v, u]).run P w = .ok (.slice (some ⟨w.heap.size, 0, none⟩) (l.length + y.length) cap') (w.drew.alloc (.cells cs e)) := by
  obtain ⟨ti, hti1, hti2, hti3, z, hz1, hz2⟩ := hte.info
  have hts : ti.size = C.sz := by rw [hti2, hsz]
  have hcells := hy.cells P y.length w.drew rfl (Nat.le_refl _)
  have hold := hl.cells P l.length w.drew rfl (Nat.le_refl _)
  rw [List.take_length, ← hts] at hcells hold
  have hzsz : z.cells.size = C.sz := by rw [hz2]; simp [hte.zsz, hsz]
  have hge := grownCap_ge w (l.length + y.length) cap e
  have hz := not_int_desc d2 hd2
  have hn : ¬ (l.length + y.length ≤ cap) := by omega
  have hnc : ¬ (281474976710656 < Builtin.nextslicecap (l.length + y.length) cap * ti.bytes) := by
    have := growslice_fits hroom (bytes := ti.bytes) (by rw [hti3]; omega)
    omega
  have hb0' : ¬ ti.bytes = 0 := by rw [hti3]; exact hb0
  refine ⟨grownCap w (l.length + y.length) cap e, (flat C l).toArray ++ (flat C y).toArray ++ Builtin.zeroCells z.cells (grownCap w (l.length + y.length) cap e - (l.length + y.length)), hge, ?_, ?_, ?_⟩
  · simp only [Array.size_append, List.size_toArray, flat_length, size_zeroCells, hzsz]
    rw [← Nat.add_mul, ← Nat.add_mul]; congr 1; omega
  · intro j x hj
    rw [flat_append] at hj
    have hjl := (List.getElem?_eq_some_iff.1 hj).1
    rw [Nat.zero_add, Array.getElem?_append_left (by simpa using hjl)]
    simpa using hj
  · subst hv
    simp [Builtin.append_, run_underlying ht, run_underlying ht2, sizeOf, typeInfo, zeroValue, hti1, hz1, hz, hy.len, hn, hnc, hb0', Question.forced, hcells, hold, newRow, grownCap]
    rw [← List.append_toArray, Array.append_assoc]

theorem okSrc_ok (hE : EnvOk X E) {t : TypeId} (h : okSrc E t = true) : ∃ d, X.P.underlying t = some d ∧ ∀ k, d ≠ .int k := by
  unfold okSrc at h
  split at h
  · rename_i ti ht
    have hu := (hE.T t ti ht).und
    split at h
    · rename_i e hd; rw [hd] at hu; exact ⟨_, hu, fun k => by simp⟩
    · rename_i hd; rw [hd] at hu; exact ⟨_, hu, fun k => by simp⟩
    · cases h
  · cases h
theorem run_app {args : Array Operand} {ats : Array TypeId} {x y : Operand} {t t2 : TypeId} (ho : o.op = .call { callee := .builtin .append, args := args, argTypes := ats }) (hx : args[0]? = some x) (hy : args[1]? = some y) (ht : ats[0]? = some t) (ht2 : ats[1]? = some t2)
    {v u z : Value} {w' : World} (hv : a.eval x = v) (hu : a.eval y = u) (hl : (Builtin.append_ #[t, t2] o.type #[v, u]).run X.P w = .ok z w') : (execOp a.eval o).run X.P w = .ok (.value z) w' := by
  have e : Builtin.append_ ats o.type (args.map a.eval) = Builtin.append_ #[t, t2] o.type #[v, u] := by
    unfold Builtin.append_
    simp [hx, hy, ht, ht2, hv, hu]
  simp [execOp, ho, resolve, invoke, builtin, e, hl]
/-- a block that no slot owns any more may be written -/
theorem Sim.setFree (h : Sim X w0 S a w loc) {b : Nat} {cur cur' : Array Value} {e : TypeId} {fr : Nat × Nat} (hb : w.heap[b]? = some (.cells cur e fr)) (hB : X.Mine b) (hsz : cur'.size = cur.size) (hn : ∀ i j o, loc i j ≠ some (b, o)) :
    Sim X w0 S a (w.setRow b cur') loc := by
  have hoth : ∀ c, c ≠ b → (w.setRow b cur').heap[c]? = w.heap[c]? := fun c hc => setRow_other w b c cur' hc
  have hlow : ∀ c, X.Low c → (w.setRow b cur').heap[c]? = w.heap[c]? := fun c hc => hoth c (Cx.low_mine hc hB)
  refine { h with hB := by simpa using h.hB, below := h.below.trans ⟨rfl, rfl, rfl, by simp, fun c hc => hlow c hc⟩, glob := h.glob.frame hlow, rep := fun i p hp => ?_, lt := fun i j b' o' hl => by simpa using h.lt i j b' o' hl }
  obtain ⟨v, hv, hr⟩ := h.rep i p hp
  refine ⟨v, hv, hr.frame (fun j c oc hj => hoth c (fun e => hn i j oc (e ▸ hj))) hlow (fun c => ?_) (fun k _ => ⟨fun _ => rfl, rfl, rfl, rfl⟩)⟩
  by_cases hc : c = b
  · subst hc; simp [blkSize, hb, setRow_heap w c cur cur' e fr hb, hsz]
  · exact Nat.le_of_eq (blkSize_of_eq (hoth c hc)).symm
theorem room_ok {C : Cod} {bytes : Nat} {l y : List C.α} (h : room C bytes l y = true) : (l.length + y.length) * bytes < 140737488355328 := of_decide_eq_true h
/-- grown in a new block -/
theorem app_new {args : Array Operand} {ats : Array TypeId} {x y : Operand} {t t2 e : TypeId} {te : TI} {d2 : TypeDesc} {C : Cod} {l ys : List C.α} {S' : St} {loc' : Nat → Nat → Option (Nat × Nat)} {ad : Option Addr} {cap : Nat} {v : Value} (hs' : Sim X w0 S' a w loc')
    (ho : o.op = .call { callee := .builtin .append, args := args, argTypes := ats }) (hx : args[0]? = some x) (hy : args[1]? = some y) (hat : ats[0]? = some t) (hat2 : ats[1]? = some t2)
    (ht : X.P.underlying t = some (.slice e)) (ht2 : X.P.underlying t2 = some d2) (hd2 : ∀ k, d2 ≠ .int k) (hte : TOk X.P e te) (hsz : te.size = C.sz) (hb0 : te.bytes ≠ 0)
    (hsy : Src w C ys (a.eval y)) (hsl : Src w C l v) (hv : a.eval x = v) (hv2 : v = .slice ad l.length cap) (hroom : cap < l.length + ys.length) (hbd : room C te.bytes l ys = true)
    (hf : fin o.dst K (.own C (l ++ ys)) S' = some r) : o.wp X.P a w (Post X w0 K r) Q := by
  obtain ⟨cap', cs, g1, g2, g3, g4⟩ := run_append_new ht ht2 hd2 o.type hte hsz hsy hsl hv2 hroom (room_ok hbd) hb0
  have hext : Below w.heap.size w (w.drew.alloc (.cells cs e)) := ((Below.refl _ w).drew).alloc (Nat.le_refl _) _
  refine wp1 w.heap.size 0 (run_app ho hx hy hat hat2 hv rfl g4) (hs'.ext hext) hf rfl rfl ?_ ⟨by simp, .inl hs'.hB, fun i j' o' e0 => Nat.lt_irrefl _ (hs'.lt i j' _ o' e0).1⟩
  exact .inr ⟨w.heap.size, 0, cap', cs, e, (0, 0), by simp, by rw [List.length_append], .inl hs'.hB, heap_pushed _ _, harm0 _, by rw [List.length_append]; exact g1, by rw [g2]; simp, g3⟩
theorem app_use {args : Array Operand} {ats : Array TypeId} {x y : Operand} {t t2 e : TypeId} {te : TI} {d2 : TypeDesc} {C : Cod} {l ys : List C.α} {j : Nat} (h : Sim X w0 S a w loc) (hj : get S j = .own C l) (hjv : a.tmps[j]? = some (a.eval x))
    (ho : o.op = .call { callee := .builtin .append, args := args, argTypes := ats }) (hx : args[0]? = some x) (hy : args[1]? = some y) (hat : ats[0]? = some t) (hat2 : ats[1]? = some t2)
    (ht : X.P.underlying t = some (.slice e)) (ht2 : X.P.underlying t2 = some d2) (hd2 : ∀ k, d2 ≠ .int k) (hte : TOk X.P e te) (hsz : te.size = C.sz) (hb0 : te.bytes ≠ 0)
    (hsy : Src w C ys (a.eval y)) (hbd : room C te.bytes l ys = true) (hf : fin o.dst K (.own C (l ++ ys)) (kill S j) = some r) : o.wp X.P a w (Post X w0 K r) Q := by
  obtain ⟨v, h1, h2, h3⟩ := opd_get h hj (by simp)
  rw [hjv] at h1; cases h1
  obtain ⟨loc', hk, _, hl, hnew⟩ := h.take j (by rw [hj]; rfl)
  have hsl := (OwnRep.sl h3).src
  rcases id h3 with ⟨q1, q2, rfl⟩ | ⟨b, off, cap, cur, e', fr, q4, q5, q6, q7, q8, q9, q11, q12⟩
  · by_cases hy0 : ys = []
    · subst hy0
      have hrun : (Builtin.append_ #[t, t2] o.type #[.slice none 0 0, a.eval y]).run X.P w = .ok (.slice none 0 0) w := by
        have hs : (Go.sizeOf e).run X.P w = .ok C.sz w := by rw [sizeOf_run hte, hsz]
        have hz := not_int_desc d2 hd2
        have hc := hsy.cells X.P 0 w rfl (Nat.le_refl _)
        have hlen := hsy.len X.P w
        simp only [List.length_nil] at hlen
        unfold Builtin.append_
        simp only [List.getElem?_toArray, List.getElem?_cons_zero, List.getElem?_cons_succ, Sem.run_bind, run_underlying ht, Result.andThen_ok, hs, run_underlying ht2, Sem.run_pure, hz, Bool.false_eq_true, if_false, hlen, Nat.add_zero, Nat.le_refl, if_true, Bool.not_false, hc]
      refine wpG (fun _ => none) (run_app ho hx hy hat hat2 q2 rfl hrun) hk hf rfl rfl (.inl ⟨rfl, rfl, rfl⟩) (fun _ _ _ _ _ e0 => by cases e0) (fun _ _ _ e0 => by cases e0)
    · exact app_new (l := []) (ad := none) (cap := 0) hk ho hx hy hat hat2 ht ht2 hd2 hte hsz hb0 hsy hsl rfl q2 (by cases ys <;> simp at hy0 ⊢) hbd hf
  · by_cases hroom : l.length + ys.length ≤ cap
    · have hs : ∀ w : World, (Go.sizeOf e).run X.P w = .ok C.sz w := fun w => by rw [sizeOf_run hte, hsz]
      have hrun := run_append_in ht ht2 hd2 o.type hs hsy q7 q8 hroom q11
      rw [← q5] at hrun
      have hfit : off + l.length * C.sz + (flat C ys).length ≤ cur.size := by
        rw [flat_length, Nat.add_assoc, ← Nat.add_mul]
        exact Nat.le_trans (Nat.add_le_add_left (Nat.mul_le_mul_right _ hroom) _) q11
      have hnb := (hnew 0 b off q4).2.2
      refine wp1 b off (run_app ho hx hy hat hat2 rfl rfl hrun) (hk.setFree q7 q6 (splice_size hfit) hnb) hf rfl rfl ?_ ⟨by simpa using heap_lt q7, q6, hnb⟩
      refine .inr ⟨b, off, cap, _, e', fr, by simp, by rw [List.length_append], q6, setRow_heap w b cur _ e' fr q7, by rw [splice_size hfit]; exact q8, by rw [List.length_append]; exact hroom, by rw [splice_size hfit]; exact q11, ?_⟩
      intro m z hm
      rw [flat_append] at hm
      have hll : (flat C l).length = l.length * C.sz := flat_length C l
      simp only [splice, List.getElem?_toArray]
      have hct : cur.toList.length = cur.size := by simp
      by_cases hml : m < (flat C l).length
      · rw [List.getElem?_append_left hml] at hm
        rw [List.append_assoc, List.getElem?_append_left (by simp; omega), List.getElem?_take_of_lt (by omega)]
        simpa using q12 m z hm
      · rw [List.getElem?_append_right (by omega)] at hm
        have hmy := (List.getElem?_eq_some_iff.1 hm).1
        rw [List.append_assoc, List.getElem?_append_right (by simp; omega), List.getElem?_append_left (by simp; omega)]
        simp only [List.length_take]
        rw [Nat.min_eq_left (by omega), ← hm]
        congr 1
        omega
    · exact app_new hk ho hx hy hat hat2 ht ht2 hd2 hte hsz hb0 hsy hsl rfl q5 (by omega) hbd hf
theorem evAppend_ok {args : Array Operand} {ats : Array TypeId} {x y : Operand} {t t2 : TypeId} (hE : EnvOk X E) (h : Sim X w0 S a w loc) (ho : o.op = .call { callee := .builtin .append, args := args, argTypes := ats })
    (hx : args[0]? = some x) (hy : args[1]? = some y) (hat : ats[0]? = some t) (hat2 : ats[1]? = some t2) (hok : okSrc E t2 = true) (hr : evAppend E S t x y (fin o.dst K) = some r) : o.wp X.P a w (Post X w0 K r) Q := by
  unfold evAppend at hr
  obtain ⟨d2, ht2, hd2⟩ := okSrc_ok hE hok
  split at hr
  · cases hr
  · rename_i C bb hco
    obtain ⟨e, te, ht, hte, hcod, hsz, hbb⟩ := codOf_ok hE hco
    split at hr
    · cases hr
    · rename_i hb0
      rw [← hbb] at hb0
      split at hr
      · cases hr
      · rename_i ys hys
        have hsy := srcOf_ok h hys
        have use : ∀ (j : Nat), a.tmps[j]? = some (a.eval x) → (match get S j with
            | .own C' l => if h : C' = C then chk (room C bb (h ▸ l) ys) (fin o.dst K (.own C ((h ▸ l) ++ ys)) (kill S j)) else none
            | _ => none) = some r → o.wp X.P a w (Post X w0 K r) Q := fun j hjv hr => by
          split at hr
          · rename_i C' l hj
            split at hr
            · rename_i hC
              subst hC
              obtain ⟨hrm, hr⟩ := chk_some hr
              rw [← hbb] at hrm
              exact app_use h hj hjv ho hx hy hat hat2 ht ht2 hd2 hte hsz hb0 hsy hrm hr
            · cases hr
          · cases hr
        dsimp only at hr
        split at hr
        · rename_i hxo
          obtain ⟨hrm, hr⟩ := chk_some hr
          rw [← hbb] at hrm
          have hv := opd_raw h hxo
          by_cases hy0 : ys = []
          · subst hy0
            have hrun : (Builtin.append_ #[t, t2] o.type #[.slice none 0 0, a.eval y]).run X.P w = .ok (.slice none 0 0) w := by
              have hs : (Go.sizeOf e).run X.P w = .ok C.sz w := by rw [sizeOf_run hte, hsz]
              have hz := not_int_desc d2 hd2
              have hc := hsy.cells X.P 0 w rfl (Nat.le_refl _)
              have hlen := hsy.len X.P w
              simp only [List.length_nil] at hlen
              unfold Builtin.append_
              simp only [List.getElem?_toArray, List.getElem?_cons_zero, List.getElem?_cons_succ, Sem.run_bind, run_underlying ht, Result.andThen_ok, hs, run_underlying ht2, Sem.run_pure, hz, Bool.false_eq_true, if_false, hlen, Nat.add_zero, Nat.le_refl, if_true, Bool.not_false, hc]
            refine wpG (fun _ => none) (run_app ho hx hy hat hat2 hv rfl hrun) h hr rfl rfl (.inl ⟨rfl, rfl, rfl⟩) (fun _ _ _ _ _ e0 => by cases e0) (fun _ _ _ e0 => by cases e0)
          · have hsl : Src w C ([] : List C.α) (.slice none 0 0) := (show SlRep w C [] (.slice none 0 0) from ⟨none, 0, rfl, Nat.le_refl _, .inl rfl⟩).src
            exact app_new (l := []) (ad := none) (cap := 0) h ho hx hy hat hat2 ht ht2 hd2 hte hsz hb0 hsy hsl hv rfl (by cases ys <;> simp at hy0 ⊢) hrm hr
        · rename_i C0 l0 hxo
          split at hr
          · rename_i j
            refine use j ?_ hr
            obtain ⟨v, h1, h2, _⟩ := opd_get h (s := j) hxo (by simp)
            rw [h2]; exact h1
          · cases hr
        · rename_i j hxo
          refine use j ?_ hr
          cases x with
          | tmp s =>
            have := copy_rep h (s := s) (by rw [opd_tmp] at hxo; rw [hxo]; rfl)
            rw [opd_tmp] at hxo; rw [hxo] at this; exact this
          | const c => simp [opd] at hxo
          | global g => simp [opd] at hxo
          | func f => simp [opd] at hxo
        · rename_i k g off len hxo
          have hrep : Rep X w S a.tmps loc (fun _ => none) (.view k g off len) (a.eval x) ∧ (get S k).owns = true := by
            cases x with
            | tmp s =>
              rw [opd_tmp] at hxo
              have h1 := copy_rep h (s := s) (by rw [hxo]; rfl)
              rw [hxo] at h1
              exact ⟨h1, get_ref h (s := s) (by rw [hxo]; rfl)⟩
            | const c => simp [opd] at hxo
            | global g => simp [opd] at hxo
            | func f => simp [opd] at hxo
          obtain ⟨hrep, hown⟩ := hrep
          split at hr
          · rename_i ss hs
            split at hr
            · rename_i C' n l hg
              split at hr
              · rename_i hC
                subst hC
                split at hr
                · rename_i hoff
                  have hvs := (view_sl h hrep (.inr ⟨ss, n, hs, hg⟩))
                  have hl : l.length = n := by
                    obtain ⟨u, _, _, h3⟩ := opd_get h hs (by simp)
                    obtain ⟨_, _, _, _, _, _, _, _, _, q6, _⟩ := h3
                    exact q6 _ (List.mem_of_getElem? hg)
                  have htk : (l.drop off).take len = l.drop off := List.take_of_length_le (by simp; omega)
                  rw [htk] at hvs
                  have hdl : (l.drop off).length = len := by simp; omega
                  by_cases hy0 : ys.length = 0
                  · rw [decide_eq_true hy0] at hr
                    simp only [cond_true] at hr
                    have hy0 : ys = [] := List.eq_nil_of_length_eq_zero hy0
                    subst hy0
                    have hs' : (Go.sizeOf e).run X.P w = .ok C'.sz w := by rw [sizeOf_run hte, hsz]
                    have hz := not_int_desc d2 hd2
                    have hc := hsy.cells X.P 0 w rfl (Nat.le_refl _)
                    have hlen := hsy.len X.P w
                    simp only [List.length_nil] at hlen
                    obtain ⟨ad, cap, e1, e2, e3⟩ := hvs.2
                    rw [hdl] at e1 e2
                    have hrun : (Builtin.append_ #[t, t2] o.type #[.slice ad len cap, a.eval y]).run X.P w = .ok (.slice ad len cap) w := by
                      unfold Builtin.append_
                      simp only [List.getElem?_toArray, List.getElem?_cons_zero, List.getElem?_cons_succ, Sem.run_bind, run_underlying ht, Result.andThen_ok, hs', run_underlying ht2, Sem.run_pure, hz, Bool.false_eq_true, if_false, hlen, Nat.add_zero, e2, if_true, Bool.not_false, hc]
                      cases ad <;> simp [flat, storeCells]
                    rw [← e1] at hrun
                    exact wp0 (run_app ho hx hy hat hat2 rfl rfl hrun) h hr rfl hrep (fun k' hk' => by cases hk'; exact hown)
                  · rw [decide_eq_false hy0] at hr
                    simp only [cond_false] at hr
                    obtain ⟨hrm, hr⟩ := chk_some hr
                    rw [← hbb] at hrm
                    obtain ⟨base, sz, cnt, e1, e2, e3⟩ := id hrep
                    rw [hs] at e1
                    simp only [shp, hg, Option.some.injEq, Prod.mk.injEq] at e1
                    obtain ⟨_, _, rfl⟩ := e1
                    rcases e3 with ⟨_, q1, q2⟩ | ⟨b, o2, o3, cap, _, q2, q3, _, _, q6⟩
                    · exact app_new h ho hx hy hat hat2 ht ht2 hd2 hte hsz hb0 hsy hvs.2.src rfl (ad := none) (cap := 0) (by rw [q1, hdl, q2]) (by omega) hrm hr
                    · have hcap := q6 (by rw [hs]; rfl)
                      exact app_new h ho hx hy hat hat2 ht ht2 hd2 hte hsz hb0 hsy hvs.2.src rfl (by rw [q2, hdl]) (by omega) hrm hr
                · cases hr
              · cases hr
            · cases hr
          · cases hr
        · cases hr
end
end Go.Px

/- Values out of their parts, == of arrays and structs, make. -/
namespace Go.Px
open Go Go.RowKit
variable {Ww : World} {Ll : Nat → Prop}
section
variable {X : Cx} {ρ : Type} {w0 : World} {S : St} {a : Act} {w : World} {loc : Nat → Nat → Option (Nat × Nat)} {E : Env ρ} {K : St → Option ρ} {r : ρ} {o : Oper} {Q : Exit → Act → World → Prop}

theorem opd_agg (h : Sim X w0 S a w loc) {x : Operand} {p : PV} (hp : opd S x = p) (hn : (∃ C n l, p = .arr C n l) ∨ ∃ ss, p = .strc ss) : Rep X w S a.tmps loc (fun _ => none) p (a.eval x) := by
  cases x with
  | tmp s =>
    have hp : get S s = p := hp
    have := copy_rep h (s := s) (by rw [hp]; rcases hn with ⟨_, _, _, rfl⟩ | ⟨_, rfl⟩ <;> rfl)
    rw [hp] at this; exact this
  | const c => simp only [opd] at hp; subst hp; rcases hn with ⟨_, _, _, e⟩ | ⟨_, e⟩ <;> cases e
  | global g => simp only [opd] at hp; subst hp; rcases hn with ⟨_, _, _, e⟩ | ⟨_, e⟩ <;> cases e
  | func f => simp only [opd] at hp; subst hp; rcases hn with ⟨_, _, _, e⟩ | ⟨_, e⟩ <;> cases e

/-! ### a value out of its parts -/
theorem fold_set : ∀ (cs : List Value) (off k : Nat) (arr : Array Value), off + k + cs.length ≤ arr.size → (cs.zipIdx k).foldl (fun ac (x : Value × Nat) => ac.setIfInBounds (off + x.2) x.1) arr = splice arr (off + k) cs := by
  intro cs
  induction cs with
  | nil => intro off k arr _; simp [splice]
  | cons c cs ih =>
    intro off k arr hle
    simp only [List.length_cons] at hle
    simp only [List.zipIdx_cons, List.foldl_cons]
    rw [ih off (k + 1) _ (by simp; omega)]
    simp only [splice, Array.toList_setIfInBounds, List.length_cons]
    congr 1
    have hlt : off + k < arr.toList.length := by simp; omega
    generalize arr.toList = c' at hlt
    rw [show off + (k + 1) = off + k + 1 by omega]
    have e1 : (c'.set (off + k) c).take (off + k + 1) = c'.take (off + k) ++ [c] := by
      rw [List.take_set, List.take_succ_eq_append_getElem hlt, List.set_append]
      simp [Nat.min_eq_left (Nat.le_of_lt hlt)]
    have e2 : (c'.set (off + k) c).drop (off + k + 1 + cs.length) = c'.drop (off + k + 1 + cs.length) := List.drop_set_of_lt (by omega)
    rw [e1, e2]
    simp [Nat.add_assoc, Nat.add_comm 1]
theorem fill_one (place : Nat → Option (Nat × Nat)) (cells : Array Value) (i off sz : Nat) (v : Value) (r : List (Nat × Value)) (hp : place i = some (off, sz)) (hv : v.cells.size = sz) (hfit : off + sz ≤ cells.size) :
    Instr.fill place cells ((i, v) :: r) = Instr.fill place (splice cells off v.cells.toList) r := by
  have hf : v.cells.zipIdx.foldl (fun cs (x : Value × Nat) => cs.setIfInBounds (off + x.2) x.1) cells = splice cells off v.cells.toList := by
    rw [← Array.foldl_toList, Array.toList_zipIdx]
    have := fold_set v.cells.toList off 0 cells (by simp [hv]; exact hfit)
    simpa using this
  simp only [Instr.fill, hp]
  rw [if_neg (by simp [hv]; omega)]
  congr 1
theorem setParts_fill (h : Sim X w0 S a w loc) (place : Nat → Option (Nat × Nat)) : (l : List (Nat × Operand)) → (z z' : List Seg) → segsOk Ww Ll z → (∀ i s, z[i]? = some s → place i = some (segOff z i, s.size)) → setParts S z l = some z' →
    segsOk Ww Ll z' ∧ Instr.fill place (segCells z).toArray (l.map fun (i, x) => (i, a.eval x)) = some (segCells z').toArray
  | [], z, z', hz, _, hr => by simp only [setParts, Option.some.injEq] at hr; subst hr; exact ⟨hz, rfl⟩
  | (i, x) :: l, z, z', hz, hp, hr => by
    have key : ∀ (s s' : Seg), z[i]? = some s → s'.kind = s.kind → segOk Ww Ll s' → (a.eval x).cells = s'.cells.toArray → setParts S (z.set i s') l = some z' →
        segsOk Ww Ll z' ∧ Instr.fill place (segCells z).toArray (((i, x) :: l).map fun (i, x) => (i, a.eval x)) = some (segCells z').toArray := fun s s' hs hk hok hc hr => by
      have hsz : s'.size = s.size := by rw [size_kind, size_kind, hk]
      have hlen : s'.cells.length = s.size := by rw [Seg.size_ok hok, hsz]
      have hil : i < z.length := (List.getElem?_eq_some_iff.1 hs).1
      have hkinds : (z.set i s').map Seg.kind = z.map Seg.kind := by
        apply List.ext_getElem?
        intro j
        simp only [List.getElem?_map]
        by_cases hj : j = i
        · subst hj; rw [List.getElem?_set_self hil, hs]; simp [hk]
        · rw [List.getElem?_set_ne (Ne.symm hj)]
      obtain ⟨g1, g2⟩ := setParts_fill h place l (z.set i s') z' (segsOk_set hz i hok) (fun j t hj => by
        have hoff := kinds_off z (z.set i s') hkinds j
        rw [hoff]
        by_cases hji : j = i
        · subst hji
          rw [List.getElem?_set_self hil] at hj
          cases hj
          rw [hsz]; exact hp j s hs
        · rw [List.getElem?_set_ne (Ne.symm hji)] at hj; exact hp j t hj) hr
      refine ⟨g1, ?_⟩
      have hle := segOff_le z i hz s hs
      rw [List.map_cons, fill_one place _ i (segOff z i) s.size (a.eval x) _ (hp i s hs) (by rw [hc]; simp [hlen]) (by simpa using hle), ← g2]
      congr 1
      rw [hc]
      simp only [splice]
      rw [segCells_set z hz i s s' hs hlen]
    simp only [setParts] at hr
    split at hr
    · rename_i v0 v hs hx
      split at hr
      · rename_i hc
        have he := opd_raw h hx
        exact key (.one v0) (.one v) hs rfl (segOk_one hc) (by rw [he]; simp [oneC_cells hc, Seg.cells]) hr
      · cases hr
    · rename_i C n l0 C' n' l' hs hx
      split at hr
      · rename_i hc
        obtain ⟨rfl, rfl⟩ := hc
        obtain ⟨h1, h2⟩ := opd_agg h hx (.inl ⟨_, _, _, rfl⟩)
        exact key (.arr C n l0) (.arr C n l') hs rfl h1 (by rw [h2]; simp [Value.cells, Seg.cells]) hr
      · cases hr
    · cases hr
theorem fieldsSeg_places {P : Program} (hT : ∀ t i, E.T t = some i → TOk P t i) (z : List Seg) : (fs : List Field) → (i : Nat) → fieldsSeg E z i fs = true → ∃ l, fs.mapM (fun f => (P.info? f.type).map fun k => (f.offset, k.size)) = some l ∧ l.length = fs.length ∧ ∀ j s, j < fs.length → z[i + j]? = some s → l[j]? = some (segOff z (i + j), s.size)
  | [], i, _ => ⟨[], rfl, rfl, fun j s hj => by simp at hj⟩
  | f :: fs, i, h => by
    simp only [fieldsSeg, Bool.and_eq_true] at h
    obtain ⟨h1, h3⟩ := h
    split at h1
    · rename_i s hs
      simp only [Bool.and_eq_true, beq_iff_eq] at h1
      obtain ⟨h1, h2⟩ := h1
      split at h2
      · rename_i tf htf
        obtain ⟨k, g1, g2, _⟩ := (hT _ _ htf).info
        have h2 : tf.size = s.size := by simpa using h2
        obtain ⟨l, k1, k2, k3⟩ := fieldsSeg_places hT z fs (i + 1) h3
        refine ⟨(f.offset, k.size) :: l, by simp [List.mapM_cons, g1, k1], by simp [k2], fun j t hj ht => ?_⟩
        cases j with
        | zero => rw [Nat.add_zero, hs] at ht; cases ht; simp [h1, g2, h2]
        | succ j => rw [List.getElem?_cons_succ]; have := k3 j t (by simpa using hj) (by rw [show i + 1 + j = i + (j + 1) by omega]; exact ht); rw [this, show i + 1 + j = i + (j + 1) by omega]
      · cases h2
    · cases h1
theorem setEls_fill (h : Sim X w0 S a w loc) (c : T0) : (l : List (Nat × Operand)) → (z z' : List c.α) → setEls S c z l = some z' →
    z'.length = z.length ∧ Instr.fill (fun i => some (i * 1, 1)) (flat (.sc c) z).toArray (l.map fun (i, x) => (i, a.eval x)) = some (flat (.sc c) z').toArray
  | [], z, z', hr => by simp only [setEls, Option.some.injEq] at hr; subst hr; exact ⟨rfl, rfl⟩
  | (i, x) :: l, z, z', hr => by
    simp only [setEls] at hr
    split at hr
    · rename_i v hx
      split at hr
      · rename_i hi
        cases hd : c.dec v with
        | none => rw [hd] at hr; cases hr
        | some y =>
          rw [hd] at hr
          simp only [Option.bind_some] at hr
          obtain ⟨g1, g2⟩ := setEls_fill h c l _ z' hr
          refine ⟨by simpa using g1, ?_⟩
          have he := opd_raw h hx
          have hv := T0.dec_ok hd
          have hcells : (a.eval x).cells = #[c.val y] := by rw [he, ← hv]; cases c <;> rfl
          have hfit : i * 1 + 1 ≤ (flat (.sc c) z).toArray.size := by simp [flat_length, Cod.sz]; omega
          rw [List.map_cons, fill_one _ _ i (i * 1) 1 (a.eval x) _ rfl (by rw [hcells]; rfl) hfit, ← g2]
          congr 1
          rw [hcells]
          simp only [splice]
          rw [flat_set (.sc c) z i y hi]
          rfl
      · cases hr
    · cases hr
theorem evBuild_ok {t : TypeId} {parts : Array (Nat × Operand)} (hE : EnvOk X E) (h : Sim X w0 S a w loc) (ho : o.op = .build t parts) (hr : evBuild E S t parts.toList (fun p => fin o.dst K p S) = some r) : o.wp X.P a w (Post X w0 K r) Q := by
  unfold evBuild at hr
  cases hti : E.T t with
  | none => rw [hti] at hr; cases hr
  | some ti =>
    rw [hti] at hr
    have ht := hE.T t ti hti
    dsimp only at hr
    obtain ⟨it, g1, g2, g3, zv, g4, g5⟩ := ht.info
    have hu := ht.und
    split at hr
    · rename_i fs hd
      split at hr
      · rename_i hc
        obtain ⟨hf, hlen⟩ := hc
        rw [hd] at hu
        cases hs : setParts S ti.zero parts.toList with
        | none => rw [hs] at hr; cases hr
        | some z =>
          rw [hs] at hr
          simp only [Option.bind_some] at hr
          obtain ⟨pl, p1, p2, p3⟩ := fieldsSeg_places hE.T ti.zero fs.toList 0 hf
          have hb : ∃ (_ : segsOk w X.Low z), X.P.built t (parts.map fun (i, x) => (i, a.eval x)).toList = some (segCells z).toArray := by
            obtain ⟨k1, k2⟩ := setParts_fill h (pl.toArray[·]?) parts.toList ti.zero z (ht.zok w X.Low) (fun i s hs' => by
              have hil : i < ti.zero.length := (List.getElem?_eq_some_iff.1 hs').1
              have := p3 i s (by omega) (by rw [Nat.zero_add]; exact hs')
              rw [List.getElem?_toArray, this, Nat.zero_add]) hs
            refine ⟨k1, ?_⟩
            unfold Program.built
            rw [Array.toList_map, g1, hu]
            simp only [g4]
            rw [p1]
            simp only []
            rw [g5]
            exact k2
          obtain ⟨hok, hb⟩ := hb
          have hrun : (execOp a.eval o).run X.P w = .ok (.value (.agg (segCells z).toArray)) w := by
            simp [execOp, ho, run_build w t _ _ hb]
          exact wp0 (p := .strc z) hrun h hr rfl ⟨hok, rfl⟩ (fun k hk => by cases hk)
      · cases hr
    · rename_i n e hd
      rw [hd] at hu
      split at hr
      · rename_i c n' z hz
        split at hr
        · rename_i hc
          obtain ⟨rfl, he⟩ := hc
          cases hs : setEls S c z parts.toList with
          | none => rw [hs] at hr; cases hr
          | some z' =>
            rw [hs] at hr
            simp only [Option.bind_some] at hr
            obtain ⟨k1, k2⟩ := setEls_fill (a := a) h c parts.toList z z' hs
            have hzl : z.length = n := ht.zok w X.Low (.arr (.sc c) n z) (by rw [hz]; simp)
            unfold esz at he
            cases hte : E.T e with
            | none => rw [hte] at he; cases he
            | some te =>
              rw [hte] at he
              simp only [Option.map_some, Option.some.injEq] at he
              obtain ⟨ie, q1, q2, _⟩ := (hE.T _ _ hte).info
              have hb : X.P.built t (parts.map fun (i, x) => (i, a.eval x)).toList = some (flat (.sc c) z').toArray := by
                unfold Program.built
                rw [Array.toList_map, g1, hu]
                simp only [g4, q1, q2, he]
                rw [g5, hz]
                have e1 : segCells [.arr (.sc c) n z] = flat (.sc c) z := by simp [segCells, Seg.cells]
                rw [e1]
                exact k2
              have hrun : (execOp a.eval o).run X.P w = .ok (.value (.agg (flat (.sc c) z').toArray)) w := by
                simp [execOp, ho, run_build w t _ _ hb]
              exact wp0 (p := .arr (.sc c) n z') hrun h hr rfl ⟨by rw [k1, hzl], rfl⟩ (fun k hk => by cases hk)
        · cases hr
      · cases hr
    · cases hr

/-! ### == -/
theorem isIntT_ok (hE : EnvOk X E) {e : TypeId} {k : IntKind} (h : isIntT E e k = true) : X.P.underlying e = some (.int k) := by
  unfold isIntT at h
  split at h
  · rename_i te hte
    split at h
    · rename_i k' hd
      have := of_decide_eq_true h
      rw [(hE.T _ _ hte).und, hd, this]
    · cases h
  · cases h
theorem ints_all : ∀ (xs ys : List Int), xs.length = ys.length → ((List.range xs.length).all fun i => xs.getD i 0 == ys.getD i 0) = (xs == ys)
  | [], [], _ => rfl
  | x :: xs, y :: ys, h => by
    have ih := ints_all xs ys (by simpa using h)
    rw [List.length_cons, List.range_succ_eq_map, List.all_cons, List.all_map]
    simp only [List.getD_cons_zero, Function.comp_def, List.getD_cons_succ, ih]
    simp [List.cons_beq_cons]
  | [], _ :: _, h => by simp at h
  | _ :: _, [], h => by simp at h
theorem run_equalIn_ints {P : Program} (w : World) (d : Nat) (t e : TypeId) (n : Nat) (k : IntKind) (ht : P.underlying t = some (.array n e)) (he : P.underlying e = some (.int k)) (hsz : ∀ w, (Go.sizeOf e).run P w = .ok 1 w)
    (xs ys : List Int) (hx : xs.length = n) (hy : ys.length = n) :
    (Op.equalIn (d + 2) t (.agg (flat (.sc (.int k)) xs).toArray) (.agg (flat (.sc (.int k)) ys).toArray)).run P w = .ok (xs == ys) w := by
  rw [← ints_all xs ys (hx.trans hy.symm), hx, List.range_eq_range', Op.equalIn, flat_sc, flat_sc]
  simp only [Sem.run_bind, run_underlying ht, Result.andThen_ok, hsz, Std.Legacy.Range.forIn_eq_forIn_range', Std.Legacy.Range.size, Nat.sub_zero, Nat.add_sub_cancel, Nat.div_one]
  have hl : ∀ i ∈ List.range' 0 n 1, i < n := fun i hi => by simpa using (List.mem_range'_1.1 hi).2
  generalize List.range' 0 n 1 = l at hl ⊢
  induction l with
  | nil => simp
  | cons i l ih =>
    have hi : i < n := hl i (by simp)
    have px : (part e (xs.map (T0.int k).val).toArray (i * 1)).run P w = .ok (.int k (xs.getD i 0)) w := by
      simp [part, isAgg, run_underlying he, List.getD, List.getElem?_eq_getElem (show i < xs.length by omega)]; rfl
    have py : (part e (ys.map (T0.int k).val).toArray (i * 1)).run P w = .ok (.int k (ys.getD i 0)) w := by
      simp [part, isAgg, run_underlying he, List.getD, List.getElem?_eq_getElem (show i < ys.length by omega)]; rfl
    have pe : (Op.equalIn (d + 1) e (.int k (xs.getD i 0)) (.int k (ys.getD i 0))).run P w = .ok (xs.getD i 0 == ys.getD i 0) w := run_equalIn_int w d e k k _ _ he
    simp only [List.forIn_cons, Sem.run_bind, px, py, pe, Result.andThen_ok, List.all_cons]
    cases hb : (xs.getD i 0 == ys.getD i 0)
    · simp
    · simp only [Bool.not_true, Bool.false_eq_true, if_false, Sem.run_pure, Result.andThen_ok, Bool.true_and]
      exact ih fun j hj => hl j (by simp [hj])
/-- a part of a value -/
theorem run_part {P : Program} {t : TypeId} {i : TI} (ht : TOk P t i) (w : World) (cs : Array Value) (off : Nat) (v : Value) (hv : (i.agg = true ∧ v = .agg (cs.extract off (off + i.size))) ∨ (i.agg = false ∧ cs[off]? = some v)) : (part t cs off).run P w = .ok v w := by
  obtain ⟨ti, h1, h2, _⟩ := ht.info
  have hs : (Go.sizeOf t).run P w = .ok i.size w := by simp [Go.sizeOf, typeInfo, h1, h2]
  have ha : (isAgg t).run P w = .ok i.agg w := by
    rw [ht.agg]
    simp only [isAgg, Sem.run_bind, run_underlying ht.und, Result.andThen_ok]
    cases i.desc <;> rfl
  unfold part
  simp only [Sem.run_bind, ha, Result.andThen_ok]
  rcases hv with ⟨hg, rfl⟩ | ⟨hg, hv⟩
  · simp [hg, hs]
  · simp [hg, hv]
/-- one part of two values -/
theorem segEq_ok (hE : EnvOk X E) {tf : TI} {t : TypeId} (ht : TOk X.P t tf) {s s' : Seg} {b : Bool} (h : segEq E tf s s' = some b) (hs : segOk Ww Ll s) (hs' : segOk Ww Ll s') (d : Nat) :
    ∃ u u', ((tf.agg = true ∧ u = .agg s.cells.toArray ∧ u' = .agg s'.cells.toArray) ∨ (tf.agg = false ∧ s.cells = [u] ∧ s'.cells = [u'])) ∧ ∀ w, (Op.equalIn (d + 2) t u u').run X.P w = .ok b w := by
  have hu := ht.und
  have hg := ht.agg
  unfold segEq at h
  split at h
  · rename_i k0 k x k' y hd
    split at h
    · rename_i hk
      subst hk
      cases h
      rw [hd] at hu hg
      exact ⟨_, _, .inr ⟨hg, rfl, rfl⟩, fun w => run_equalIn_int w _ t k k0 x y hu⟩
    · cases h
  · rename_i x y hd
    cases h
    rw [hd] at hu hg
    exact ⟨_, _, .inr ⟨hg, rfl, rfl⟩, fun w => run_equalIn_bool' w _ t x y hu⟩
  · rename_i x y hd
    cases h
    rw [hd] at hu hg
    exact ⟨_, _, .inr ⟨hg, rfl, rfl⟩, fun w => run_equalIn_string w _ t x y hu⟩
  · rename_i n e k n1 l k' n2 l' hd
    split at h
    · rename_i hc
      obtain ⟨rfl, rfl, rfl, hc1, hc2⟩ := hc
      cases h
      rw [hd] at hu hg
      exact ⟨_, _, .inl ⟨hg, rfl, rfl⟩, fun w => run_equalIn_ints w d t e _ k hu (isIntT_ok hE hc1) (fun w => esz_ok hE hc2 w) l l' hs hs'⟩
    · cases h
  · cases h
theorem fieldsEq_ok (hE : EnvOk X E) (d : Nat) (w : World) : (fs : List Field) → (o : Nat) → (ss ss' : List Seg) → (b : Bool) → fieldsEq E o fs ss ss' = some b → segsOk Ww Ll ss → segsOk Ww Ll ss' → (xs ys : Array Value) → xs.toList.drop o = segCells ss → ys.toList.drop o = segCells ss' →
    (Op.eqFields (d + 2) xs ys fs).run X.P w = .ok b w
  | [], o, [], [], b, h, _, _, xs, ys, _, _ => by simp only [fieldsEq, Option.some.injEq] at h; subst h; simp [Op.eqFields]
  | [], o, _ :: _, _, b, h, _, _, xs, ys, _, _ => by simp [fieldsEq] at h
  | [], o, [], _ :: _, b, h, _, _, xs, ys, _, _ => by simp [fieldsEq] at h
  | f :: fs, o, [], _, b, h, _, _, xs, ys, _, _ => by simp [fieldsEq] at h
  | f :: fs, o, _ :: _, [], b, h, _, _, xs, ys, _, _ => by simp [fieldsEq] at h
  | f :: fs, o, s :: r, s' :: r', b, h, hok, hok', xs, ys, hx, hy => by
    simp only [fieldsEq] at h
    split at h
    · rename_i hc
      obtain ⟨hn, hoff⟩ := hc
      split at h
      · rename_i tf htf
        have ht := hE.T _ _ htf
        split at h
        · rename_i hsz
          cases h1 : segEq E tf s s' with
          | none => rw [h1] at h; cases h
          | some x =>
            rw [h1] at h
            simp only [Option.bind_some] at h
            cases h2 : fieldsEq E (o + s.size) fs r r' with
            | none => rw [h2] at h; cases h
            | some y =>
              rw [h2] at h
              simp only [Option.bind_some, Option.some.injEq] at h
              obtain ⟨u, u', g1, g2⟩ := segEq_ok hE ht h1 (hok s (by simp)) (hok' s' (by simp)) d
              have hl1 : s.cells.length = s.size := Seg.size_ok (hok s (by simp))
              have hl2 : s'.cells.length = s.size := by rw [Seg.size_ok (hok' s' (by simp)), hsz.2]
              have part_at : ∀ (cs : Array Value) (c rest : List Value) (u : Value), cs.toList.drop o = c ++ rest → c.length = tf.size → ((tf.agg = true ∧ u = .agg c.toArray) ∨ (tf.agg = false ∧ c = [u])) → (part f.type cs f.offset).run X.P w = .ok u w := fun cs c rest u hcs hcl hu => by
                refine run_part ht w cs f.offset u ?_
                rw [hoff]
                rcases hu with ⟨ha, rfl⟩ | ⟨ha, rfl⟩
                · refine .inl ⟨ha, ?_⟩
                  congr 1
                  apply Array.toList_inj.1
                  rw [Array.toList_extract, List.extract_eq_take_drop, hcs, ← hcl]
                  simp
                · refine .inr ⟨ha, ?_⟩
                  have : cs.toList[o]? = some u := by
                    have := congrArg (·[0]?) hcs
                    simpa using this
                  simpa using this
              have px := part_at xs s.cells (segCells r) u (by rw [hx]; simp [segCells]) (by rw [hl1, hsz.1]) (g1.imp (fun z => ⟨z.1, z.2.1⟩) (fun z => ⟨z.1, z.2.1⟩))
              have py := part_at ys s'.cells (segCells r') u' (by rw [hy]; simp [segCells]) (by rw [hl2, hsz.1]) (g1.imp (fun z => ⟨z.1, z.2.2⟩) (fun z => ⟨z.1, z.2.2⟩))
              have ih := fieldsEq_ok hE d w fs (o + s.size) r r' y h2 (fun z hz => hok z (by simp [hz])) (fun z hz => hok' z (by simp [hz])) xs ys
                (by rw [← List.drop_drop, hx]; simp only [segCells, List.flatMap_cons]; rw [← hl1, List.drop_left])
                (by rw [← List.drop_drop, hy]; simp only [segCells, List.flatMap_cons]; rw [← hl2, List.drop_left])
              simp only [Op.eqFields, hn, ne_eq, not_false_eq_true, if_true, Sem.run_bind, px, py, g2, Result.andThen_ok]
              subst h
              cases x
              · simp
              · simpa using ih
        · cases h
      · cases h
    · cases h
theorem evEq_ok (hE : EnvOk X E) (h : Sim X w0 S a w loc) {t : TypeId} {x y : Operand} {b : Bool} (hb : evEq E t (opd S x) (opd S y) = some b) :
    ∃ xs ys, a.eval x = .agg xs ∧ a.eval y = .agg ys ∧ X.P.eqGuardType X.P.depth t = false ∧ (Op.equalIn 10000 t (.agg xs) (.agg ys)).run X.P w = .ok b w := by
  unfold evEq at hb
  split at hb
  · rename_i ti hti
    have ht := hE.T _ _ hti
    have hu := ht.und
    have hg := ht.agg
    split at hb
    · rename_i C n l C' n' l' hx hy
      split at hb
      · rename_i n0 e0 hd
        rw [hd] at hu hg
        obtain ⟨h1, h2⟩ := opd_agg h hx (.inl ⟨_, _, _, rfl⟩)
        obtain ⟨h3, h4⟩ := opd_agg h hy (.inl ⟨_, _, _, rfl⟩)
        obtain ⟨u, u', g1, g2⟩ := segEq_ok (Ww := w) (Ll := X.Low) hE ht hb h1 h3 9998
        rcases g1 with ⟨_, rfl, rfl⟩ | ⟨ha, _, _⟩
        · exact ⟨_, _, h2, h4, (ht.eqs hg).1, g2 w⟩
        · rw [hg] at ha; cases ha
      · cases hb
    · rename_i ss ss' hx hy
      split at hb
      · rename_i fs hd
        rw [hd] at hu hg
        obtain ⟨h1, h2⟩ := opd_agg h hx (.inr ⟨_, rfl⟩)
        obtain ⟨h3, h4⟩ := opd_agg h hy (.inr ⟨_, rfl⟩)
        have hfo : X.P.fieldsOf t = fs := by simp [Program.fieldsOf, hu]
        refine ⟨_, _, h2, h4, (ht.eqs hg).1, ?_⟩
        rw [run_equalIn_struct w 9999 t _ _ (by rw [hfo]; exact hu) (ht.eqs hg).2, hfo]
        exact fieldsEq_ok hE 9997 w fs.toList 0 ss ss' b hb h1 h3 _ _ (by simp) (by simp)
      · cases hb
    · cases hb
  · cases hb
theorem evCmp_ok {op : BinOp} {t ty : TypeId} {x y : Operand} (hE : EnvOk X E) (h : Sim X w0 S a w loc) (ho : o.op = .binOp op t x y ty) (hr : evCmp E op t (opd S x) (opd S y) (fun r => fin o.dst K r S) = some r) : o.wp X.P a w (Post X w0 K r) Q := by
  unfold evCmp at hr
  split at hr
  · cases hb : evEq E t (opd S x) (opd S y) with
    | none => rw [hb] at hr; cases hr
    | some b =>
      rw [hb] at hr
      obtain ⟨xs, ys, e1, e2, e3, e4⟩ := evEq_ok hE h hb
      have hrun : (execOp a.eval o).run X.P w = .ok (.value (.bool b)) w := by
        simp only [execOp, ho, e1, e2, Sem.run_bind, run_eqGuard_agg w .eql t x y xs ys e3, Result.andThen_ok, run_eql_struct, e4]; rfl
      exact wp_raw hrun h hr
  · cases hb : evEq E t (opd S x) (opd S y) with
    | none => rw [hb] at hr; cases hr
    | some b =>
      rw [hb] at hr
      obtain ⟨xs, ys, e1, e2, e3, e4⟩ := evEq_ok hE h hb
      have hrun : (execOp a.eval o).run X.P w = .ok (.value (.bool (!b))) w := by
        simp only [execOp, ho, e1, e2, Sem.run_bind, run_eqGuard_agg w .neq t x y xs ys e3, Result.andThen_ok, run_neq_struct, e4]; rfl
      exact wp_raw hrun h hr
  · cases hr

/-! ### make -/
theorem zeroInt_ok {k : IntKind} {z : List Seg} (h : zeroInt k z = true) : z = [.one (.int k 0)] := by
  unfold zeroInt at h
  split at h
  · have := of_decide_eq_true h
    rw [this.1, this.2]
  · cases h
theorem evMake_ok {t : TypeId} {x y : Operand} (hE : EnvOk X E) (h : Sim X w0 S a w loc) (ho : o.op = .makeSlice t x y) (hr : evMake E t (sameO x y) (opd S x) (opd S y) (fun p => fin o.dst K p S) = some r) : o.wp X.P a w (Post X w0 K r) Q := by
  unfold evMake at hr
  split at hr
  · rename_i ti l c hti hl hc
    obtain ⟨kl, hl⟩ := asI_val h hl
    obtain ⟨kc, hc⟩ := asI_val h hc
    have ht := hE.T _ _ hti
    split at hr
    · rename_i e hd
      have hu := ht.und
      rw [hd] at hu
      split at hr
      · rename_i te hte
        have hte' := hE.T _ _ hte
        split at hr
        · rename_i k hcod
          split at hr
          · rename_i hz
            obtain ⟨hz, hsz, hb0⟩ := hz
            cases hlc0 : (sameO x y || leB c l) with
            | true =>
              rw [hlc0] at hr
              simp only [cond_true] at hr
              obtain ⟨hc4, hr2⟩ := chk_some hr
              simp only [Bool.and_eq_true, decide_eq_true_eq] at hc4
              obtain ⟨c1, c2, c3, c4⟩ := hc4
              have c1 := leB_iff c1
              have c2 := leB_iff c2
              have c3 := leB_iff c3
              have hlc : l = c := by omega
              subst hlc
              obtain ⟨it, g1, g2, g3, zv, g4, g5⟩ := hte'.info
              rw [zeroInt_ok hz] at g5
              have g5 : zv.cells = #[.int k 0] := g5
              have hb2 : (it.bytes : Int) * l ≤ 281474976710656 := by
                have h1 : l.toNat * it.bytes ≤ 281474976710656 := by rw [g3]; omega
                have h2 : ((l.toNat * it.bytes : Nat) : Int) ≤ 281474976710656 := by omega
                rw [Int.natCast_mul, Int.toNat_of_nonneg c1, Int.mul_comm] at h2
                exact h2
              by_cases hl63 : l ≤ 9223372036854775807
              · have hrun := run_make (P := X.P) w t e it zv hu g1 g4 kl kl l l c1 (Int.le_refl _) hb2 hl63
                have hmade : madeCells zv.cells (l.toNat * it.size) = (flat (.sc (.int k)) (List.replicate l.toNat (0 : Int))).toArray := by
                  rw [g5, g2, hsz, flat_sc]
                  apply Array.toList_inj.1
                  simp only [madeCells, Nat.mul_one, Array.toList_map, List.map_replicate]
                  apply List.ext_getElem?
                  intro j
                  simp only [List.getElem?_map, Array.toList_range, List.getElem?_range']
                  by_cases hj : j < l.toNat
                  · simp [List.getElem?_range hj, List.getElem?_replicate, hj, Nat.mod_one]; rfl
                  · simp [List.getElem?_eq_none (show (List.range l.toNat).length ≤ j by simpa using hj), List.getElem?_replicate, hj]
                rw [hmade] at hrun
                have hrun' : (execOp a.eval o).run X.P w = .ok (.value (.slice (some ⟨w.heap.size, 0, none⟩) l.toNat l.toNat)) { w with heap := w.heap.push (.cells (flat (.sc (.int k)) (List.replicate l.toNat (0 : Int))).toArray e) } := by
                  have e1 : kl = kl := rfl
                  simp only [execOp, ho, hl, hc]
                  have hrun2 := run_make (P := X.P) w t e it zv hu g1 g4 kl kc l l c1 (Int.le_refl _) hb2 hl63
                  rw [hmade] at hrun2
                  simp only [Sem.run_bind, Sem.run_map, hrun2, Result.andThen_ok]
                  rfl
                refine wp1 w.heap.size 0 hrun' (h.ext (below_alloc' w _)) hr2 rfl rfl ?_ (new_block h _)
                have hrl : (List.replicate l.toNat (0 : Int)).length = l.toNat := List.length_replicate
                have hfl : (flat (.sc (.int k)) (List.replicate l.toNat (0 : Int))).length = l.toNat := by rw [flat_length]; show (List.replicate l.toNat (0 : Int)).length * 1 = _; rw [hrl, Nat.mul_one]
                refine .inr ⟨w.heap.size, 0, l.toNat, (flat (.sc (.int k)) (List.replicate l.toNat (0 : Int))).toArray, e, (0, 0), by simp, ?_, .inl h.hB, by simp, harm0 _, ?_, ?_, fun j x hj => by simpa using hj⟩
                · show _ = Value.slice _ (List.replicate l.toNat (0 : Int)).length _
                  rw [hrl]
                · show (List.replicate l.toNat (0 : Int)).length ≤ _
                  rw [hrl]; exact Nat.le_refl _
                · rw [List.size_toArray, hfl, Nat.zero_add]; exact Nat.le_of_eq (Nat.mul_one _)
              · exfalso
                have : l.toNat ≤ l.toNat * te.bytes := Nat.le_mul_of_pos_right _ hb0
                omega
            | false =>
              rw [hlc0] at hr
              simp only [cond_false] at hr
              have hlc0 := (Bool.or_eq_false_iff.1 hlc0).2
              obtain ⟨hc4, hr2⟩ := chk_some hr
              simp only [Bool.and_eq_true, decide_eq_true_eq] at hc4
              obtain ⟨c1, c4⟩ := hc4
              have c1 := leB_iff c1
              have c3 : l < c := by
                have : ¬ c ≤ l := fun e => by rw [show leB c l = true from decide_eq_true e] at hlc0; cases hlc0
                omega
              obtain ⟨it, g1, g2, g3, zv, g4, g5⟩ := hte'.info
              rw [zeroInt_ok hz] at g5
              have g5 : zv.cells = #[.int k 0] := g5
              have hb2 : (it.bytes : Int) * c ≤ 281474976710656 := by
                have h1 : c.toNat * it.bytes ≤ 281474976710656 := by rw [g3]; omega
                have h2 : ((c.toNat * it.bytes : Nat) : Int) ≤ 281474976710656 := by omega
                rw [Int.natCast_mul, Int.toNat_of_nonneg (by omega), Int.mul_comm] at h2
                exact h2
              by_cases hl63 : c ≤ 9223372036854775807
              · have hmade : madeCells zv.cells (c.toNat * it.size) = (flat (.sc (.int k)) (List.replicate c.toNat (0 : Int))).toArray := by
                  rw [g5, g2, hsz, flat_sc]
                  apply Array.toList_inj.1
                  simp only [madeCells, Nat.mul_one, Array.toList_map, List.map_replicate]
                  apply List.ext_getElem?
                  intro j
                  simp only [List.getElem?_map, Array.toList_range, List.getElem?_range']
                  by_cases hj : j < c.toNat
                  · simp [List.getElem?_range hj, List.getElem?_replicate, hj, Nat.mod_one]; rfl
                  · simp [List.getElem?_eq_none (show (List.range c.toNat).length ≤ j by simpa using hj), List.getElem?_replicate, hj]
                have hrun' : (execOp a.eval o).run X.P w = .ok (.value (.slice (some ⟨w.heap.size, 0, none⟩) l.toNat c.toNat)) { w with heap := w.heap.push (.cells (flat (.sc (.int k)) (List.replicate c.toNat (0 : Int))).toArray e) } := by
                  simp only [execOp, ho, hl, hc]
                  have hrun2 := run_make (P := X.P) w t e it zv hu g1 g4 kl kc l c c1 (by omega) hb2 hl63
                  rw [hmade] at hrun2
                  simp only [Sem.run_bind, Sem.run_map, hrun2, Result.andThen_ok]
                  rfl
                refine wp1 w.heap.size 0 hrun' (h.ext (below_alloc' w _)) hr2 rfl rfl ?_ (new_block h _)
                have hrl : (List.replicate c.toNat (0 : Int)).length = c.toNat := List.length_replicate
                have hfl : (flat (.sc (.int k)) (List.replicate c.toNat (0 : Int))).length = c.toNat := by rw [flat_length]; show (List.replicate c.toNat (0 : Int)).length * 1 = _; rw [hrl, Nat.mul_one]
                refine ⟨?_, w.heap.size, 0, (flat (.sc (.int k)) (List.replicate c.toNat (0 : Int))).toArray, e, (0, 0), by simp, ?_, .inl h.hB, by simp, harm0 _, ?_, fun j x hj => by simpa using hj⟩
                · show l.toNat ≤ (List.replicate c.toNat (0 : Int)).length
                  rw [hrl]; omega
                · show _ = Value.slice _ l.toNat (List.replicate c.toNat (0 : Int)).length
                  rw [hrl]
                · rw [List.size_toArray, hfl, Nat.zero_add]
                  show (List.replicate c.toNat (0 : Int)).length * 1 ≤ _
                  rw [hrl, Nat.mul_one]; exact Nat.le_refl _
              · exfalso
                have : c.toNat ≤ c.toNat * te.bytes := Nat.le_mul_of_pos_right _ hb0
                omega
          · cases hr
        · cases hr
      · cases hr
    · cases hr
  · cases hr
end
end Go.Px

/- Copies, assignments, calls. -/
namespace Go.Px
open Go Go.RowKit

section
variable {X : Cx} {ρ : Type} {w0 : World} {S : St} {a : Act} {w : World} {loc : Nat → Nat → Option (Nat × Nat)} {E : Env ρ} {K : St → Option ρ} {r : ρ} {o : Oper} {Q : Exit → Act → World → Prop}

theorem run_cp {args : Array Operand} {ats : Array TypeId} {x y : Operand} {t : TypeId} (ho : o.op = .call { callee := .builtin .copy, args := args, argTypes := ats }) (hx : args[0]? = some x) (hy : args[1]? = some y) (ht : ats[0]? = some t)
    {v u z : Value} {w' : World} (hv : a.eval x = v) (hu : a.eval y = u) (hl : (Builtin.copy_ #[t] o.type #[v, u]).run X.P w = .ok z w') : (execOp a.eval o).run X.P w = .ok (.value z) w' := by
  have e : Builtin.copy_ ats o.type (args.map a.eval) = Builtin.copy_ #[t] o.type #[v, u] := by
    unfold Builtin.copy_
    simp [hx, hy, ht, hv, hu]
  simp [execOp, ho, resolve, invoke, builtin, e, hl]
theorem copied_length {α : Type} (l y : List α) (off n : Nat) (h : off + n ≤ l.length) (hn : n ≤ y.length) : (copied l off n y).length = l.length := by
  simp [copied]; omega
theorem flat_copied (C : Cod) (l y : List C.α) (off n : Nat) (hn : n ≤ y.length) : flat C (copied l off n y) = (flat C l).take (off * C.sz) ++ flat C (y.take n) ++ (flat C l).drop (off * C.sz + (flat C (y.take n)).length) := by
  have hl : (flat C (y.take n)).length = n * C.sz := by rw [flat_length, List.length_take, Nat.min_eq_left hn]
  rw [hl, ← Nat.add_mul]
  simp only [copied, flat_append, flat_take, flat_drop]
theorem run_copy_in {P : Program} {t e : TypeId} (ht : P.underlying t = some (.slice e)) (ty : TypeId) {C : Cod} (hs : (Go.sizeOf e).run P w = .ok C.sz w) {y : List C.α} {u : Value} (hy : Src w C y u) {b off len cap : Nat} {cur : Array Value} {e' : TypeId} {fr : Nat × Nat}
    (hb : w.heap[b]? = some (.cells cur e' fr)) (hh : Harm fr cur.size) (hfit : off + (flat C (y.take (min y.length len))).length ≤ cur.size) :
    (Builtin.copy_ #[t] ty #[.slice (some ⟨b, off, none⟩) len cap, u]).run P w = .ok (.int .i64 (min y.length len : Nat)) (w.setRow b (Px.splice cur off (flat C (y.take (min y.length len))))) := by
  have hcells := hy.cells P (min y.length len) w rfl (Nat.min_le_left _ _)
  have hst := run_storeCells P b off e' fr (flat C (y.take (min y.length len))) 0 cur w hb hh (by simpa using hfit) (flat_oneC C _)
  rw [Nat.add_zero] at hst
  unfold Builtin.copy_
  simp only [List.getElem?_toArray, List.getElem?_cons_zero, List.getElem?_cons_succ, Sem.run_bind, run_underlying ht, Result.andThen_ok, hs, hy.len P, Nat.min_def] at hcells hst ⊢
  simp only [hcells, Result.andThen_ok, hst, Sem.run_pure, goInt]
theorem run_copy_nil' {P : Program} {t e : TypeId} (ht : P.underlying t = some (.slice e)) (ty : TypeId) {C : Cod} (hs : (Go.sizeOf e).run P w = .ok C.sz w) {y : List C.α} {u : Value} (hy : Src w C y u) :
    (Builtin.copy_ #[t] ty #[.slice none 0 0, u]).run P w = .ok (.int .i64 (0 : Nat)) w := by
  have hcells := hy.cells P 0 w rfl (Nat.zero_le _)
  unfold Builtin.copy_
  have hm : Nat.min y.length 0 = 0 := by simp [Nat.min_def]
  simp only [List.getElem?_toArray, List.getElem?_cons_zero, List.getElem?_cons_succ, Sem.run_bind, run_underlying ht, Result.andThen_ok, hs, hy.len P, hm, hcells, Sem.run_pure, goInt]
theorem nest_splice2 {α : Type} (c F : List α) (p i n : Nat) (vs : List α) (hF : F.length = n) (hsub : ∀ j, j < n → c[p + j]? = F[j]?) (hi : i + vs.length ≤ n) (hc : p + n ≤ c.length) :
    c.take p ++ (F.take i ++ vs ++ F.drop (i + vs.length)) ++ c.drop (p + n) = c.take (p + i) ++ vs ++ c.drop (p + i + vs.length) := by
  have hFe : F = (c.drop p).take n := by
    apply List.ext_getElem?
    intro j
    by_cases hj : j < n
    · rw [← hsub j hj, List.getElem?_take_of_lt hj, List.getElem?_drop]
    · rw [List.getElem?_eq_none (by omega), List.getElem?_eq_none (by simp; omega)]
  subst hFe
  rw [List.take_add, List.take_take, Nat.min_eq_left (by omega), List.drop_take, List.drop_drop]
  have e : c.drop (p + i + vs.length) = (c.drop (p + (i + vs.length))).take (n - (i + vs.length)) ++ c.drop (p + n) := by
    have e1 : c.drop (p + n) = (c.drop (p + (i + vs.length))).drop (n - (i + vs.length)) := by rw [List.drop_drop]; congr 1; omega
    rw [e1, List.take_append_drop, Nat.add_assoc]
  rw [e]
  simp
theorem evCopy_ok {args : Array Operand} {ats : Array TypeId} {x y : Operand} {t : TypeId} (hE : EnvOk X E) (h : Sim X w0 S a w loc) (ho : o.op = .call { callee := .builtin .copy, args := args, argTypes := ats })
    (hx : args[0]? = some x) (hy : args[1]? = some y) (hat : ats[0]? = some t) (hr : evCopy E S t (selfAlias x (opd S x)) (selfAlias y (opd S y)) (fin o.dst K) = some r) : o.wp X.P a w (Post X w0 K r) Q := by
  unfold evCopy at hr
  split at hr
  · cases hr
  · rename_i C bb hco
    obtain ⟨e, te, ht, hte, hcod, hsz, hbb⟩ := codOf_ok hE hco
    have hs : (Go.sizeOf e).run X.P w = .ok C.sz w := by rw [sizeOf_run hte, hsz]
    split at hr
    · cases hr
    · rename_i ys hys
      have hsy := srcOf_ok h hys
      generalize hxp : selfAlias x (opd S x) = p at hr
      split at hr
      · rename_i k
        obtain ⟨_, hrep, hown⟩ := opd_rep h hxp (by simp) (by simp) (by simp)
        have hv := alias_val h hrep (hown k rfl)
        split at hr
        · rename_i C' l hk
          split at hr
          · rename_i hC
            subst hC
            dsimp only at hr
            rw [hk] at hv
            rcases id hv with ⟨q1, q2, rfl⟩ | ⟨b, off, cap, cur, e', fr, q4, q5, q6, q7, q8, q9, q11, q12⟩
            · have hrun := run_copy_nil' (w := w) ht o.type hs hsy
              have hS : S.set k (.own C' (copied [] 0 (min ys.length 0) ys)) = S := by
                have : copied ([] : List C'.α) 0 (min ys.length 0) ys = [] := by simp [copied]
                rw [this, ← hk]
                apply List.ext_getElem?
                intro i
                by_cases hi : i = k
                · subst hi
                  have := get_some (hown i rfl)
                  rw [this, List.getElem?_set_self (List.getElem?_eq_some_iff.1 this).1]
                · rw [List.getElem?_set_ne (Ne.symm hi)]
              simp only [List.length_nil] at hr
              rw [hS] at hr
              have : (min ys.length 0 : Nat) = 0 := Nat.min_zero _
              rw [this] at hr
              exact wp_raw (run_cp ho hx hy hat q2 rfl hrun) h hr
            · have hlt : (flat C' (ys.take (min ys.length l.length))).length = min ys.length l.length * C'.sz := by rw [flat_length, List.length_take]; congr 1; omega
              have hfit0 : (flat C' (ys.take (min ys.length l.length))).length ≤ (flat C' l).length := by rw [hlt, flat_length]; exact Nat.mul_le_mul_right _ (Nat.min_le_right _ _)
              obtain ⟨cur2, e2, fr2, g1, g2, g3, g4⟩ := upd_own h hk q4 (i := 0 * C'.sz) (l' := copied l 0 (min ys.length l.length) ys) (flat C' (ys.take (min ys.length l.length)))
                (copied_length l ys 0 _ (by omega) (Nat.min_le_left _ _)) (flat_copied C' l ys 0 _ (Nat.min_le_left _ _)) (by simpa using hfit0)
              simp only [Nat.zero_mul, Nat.add_zero] at g3 g4
              have hrun := run_copy_in (len := l.length) (cap := cap) ht o.type hs hsy g1 g2 g3
              exact wp_raw (run_cp ho hx hy hat q5 rfl hrun) g4 hr
          · cases hr
        · rename_i C' l m hk
          split at hr
          · rename_i hC
            subst hC
            dsimp only at hr
            rw [hk] at hv
            obtain ⟨q0, b, off, cur, e', fr, q4, q5, q6, q7, q8, q11, q12⟩ := id hv
            have hlt : (flat C' (ys.take (min ys.length m))).length = min ys.length m * C'.sz := by rw [flat_length, List.length_take]; congr 1; omega
            have hml : min ys.length m ≤ l.length := Nat.le_trans (Nat.min_le_right _ _) q0
            have hfit0 : (flat C' (ys.take (min ys.length m))).length ≤ (flat C' l).length := by rw [hlt, flat_length]; exact Nat.mul_le_mul_right _ hml
            obtain ⟨cur2, e2, fr2, g1, g2, g3, g4⟩ := upd_spr h hk q4 (i := 0 * C'.sz) (l' := copied l 0 (min ys.length m) ys) (flat C' (ys.take (min ys.length m)))
              (copied_length l ys 0 _ (by omega) (Nat.min_le_left _ _)) (flat_copied C' l ys 0 _ (Nat.min_le_left _ _)) (by simpa using hfit0)
            simp only [Nat.zero_mul, Nat.add_zero] at g3 g4
            have hrun := run_copy_in (len := m) (cap := l.length) ht o.type hs hsy g1 g2 g3
            exact wp_raw (run_cp ho hx hy hat q5 rfl hrun) g4 hr
          · cases hr
        · cases hr
      · rename_i k g off len
        obtain ⟨_, hrep, hown⟩ := opd_rep h hxp (by simp) (by simp) (by simp)
        split at hr
        · rename_i ss hk
          split at hr
          · rename_i C' n' l hg
            split at hr
            · rename_i hC
              obtain ⟨hC, hlen0⟩ := hC
              subst hC
              dsimp only at hr
              obtain ⟨u, _, _, h3⟩ := opd_get h hk (by simp)
              obtain ⟨b', cur, e', fr, p1, p2, p3, p4, p5, p6, p7⟩ := h3
              have hl : l.length = n' := p6 _ (List.mem_of_getElem? hg)
              obtain ⟨base, sz, cnt, e1, e2, e3⟩ := id hrep
              rw [hk] at e1
              simp only [shp, hg, Option.some.injEq, Prod.mk.injEq] at e1
              obtain ⟨rfl, rfl, rfl⟩ := e1
              have hlt : (flat C' (ys.take (min ys.length len))).length = min ys.length len * C'.sz := by rw [flat_length, List.length_take]; congr 1; omega
              have hn1 : min ys.length len ≤ ys.length := Nat.min_le_left _ _
              have hn2 : min ys.length len ≤ len := Nat.min_le_right _ _
              have hcl := copied_length l ys off (min ys.length len) (by omega) hn1
              have hsegl := segOff_le ss g p6 _ hg
              simp only [Seg.size] at hsegl
              have hfc := flat_copied C' l ys off (min ys.length len) hn1
              have hoffle : off * C'.sz + min ys.length len * C'.sz ≤ n' * C'.sz := by rw [← Nat.add_mul]; exact Nat.mul_le_mul_right _ (by omega)
              have hcs := segCells_set ss p6 g _ (.arr C' n' (copied l off (min ys.length len) ys)) hg (by simp [Seg.cells, Seg.size, flat_length, hcl, hl])
              have hfl : (flat C' l).length = n' * C'.sz := by rw [flat_length, hl]
              have hflc : (flat C' (copied l off (min ys.length len) ys)).length = n' * C'.sz := by rw [flat_length, hcl, hl]
              obtain ⟨_, e2', fr2, g1, g2, g3, g4⟩ := upd_obj h hk p1 (i := segOff ss g + off * C'.sz) (ss' := ss.set g (.arr C' n' (copied l off (min ys.length len) ys))) (flat C' (ys.take (min ys.length len)))
                (shp_set ss g _ _ hg rfl rfl) (segsOk_set p6 g (by simp only [segOk]; rw [hcl, hl]))
                (by
                  rw [hcs]
                  simp only [Seg.cells, hflc]
                  rw [hfc]
                  exact nest_splice2 _ _ _ _ _ _ hfl (fun j hj => segCells_at ss p6 g _ hg j hj) (by rw [hlt]; exact hoffle) hsegl)
                (by rw [hlt]; omega)
              rcases e3 with ⟨_, _, q2⟩ | ⟨b, o2, o3, cap, q1, q2, q3, q4, _⟩
              · omega
              · have q4 := q4.resolve_left (by omega)
                rw [p1] at q1; cases q1
                rw [Nat.zero_add] at q4
                rw [← q4] at g3 g4
                have hrun := run_copy_in (len := len) (cap := cap) ht o.type hs hsy g1 g2 g3
                exact wp_raw (run_cp ho hx hy hat q2 rfl hrun) g4 hr
            · cases hr
          · cases hr
        · cases hr
      · cases hr

/-! ### assignments -/
theorem rename1_owns {s d : Nat} {p : PV} (h : p.owns = true) : rename1 s d p = p := by cases p <;> simp_all [rename1, PV.owns]
theorem rename1_ref {s d k : Nat} {p : PV} (h : (rename1 s d p).ref = some k) : ∃ k0, p.ref = some k0 ∧ k = (if k0 = s then d else k0) := by
  cases p <;> simp [rename1, PV.ref] at h ⊢ <;> exact h.symm
theorem rename1_junk (s d : Nat) : rename1 s d .junk = .junk := rfl
/-- an owned slice goes over from s to d; what pointed to s points to d -/
theorem move_own {s d : Nat} {C : Cod} {l : List C.α} (h : Sim X w0 S a w loc) (hs : get S s = .own C l) (hsd : s ≠ d) (hd : d < S.length) (hpn : pinned S d = false) :
    ∃ loc', Sim X w0 ((((kill S d).map (rename1 s d)).set s (.alias d)).set d (.own C l)) (a.put (some d) (a.eval (.tmp s))) w loc' := by
  obtain ⟨v, h1, h2, h3⟩ := opd_get h hs (by simp)
  obtain ⟨loc1, hk, hf, hl, hl0⟩ := h.kill d hpn
  have hks : get (Px.kill S d) s = .own C l := by rw [kill_get hsd (by rw [hs]; rfl), hs]
  have hls : loc1 s = loc s := hl s hsd
  rw [h2]
  clear h2
  generalize hS1 : Px.kill S d = S1 at hk hf hks
  have hlen : S1.length = S.length := by rw [← hS1, kill_length]
  have hdl : d < S1.length := by omega
  have hsl : s < S1.length := (List.getElem?_eq_some_iff.1 (get_of_ne (i := s) (S := S1) (by rw [hks]; simp))).1
  have hget : ∀ i, get ((((S1.map (rename1 s d)).set s (.alias d)).set d (.own C l))) i = if i = d then .own C l else if i = s then .alias d else rename1 s d (get S1 i) := fun i => by
    by_cases hid : i = d
    · subst hid; rw [get_set_same (by simpa using hdl)]; simp
    · rw [get_set_ne hid, if_neg hid]
      by_cases his : i = s
      · subst his; rw [get_set_same (by simpa using hsl)]; simp
      · rw [get_set_ne his, if_neg his, get_map (rename1_junk s d)]
  have hel : ∀ (i : Nat) p, ((((S1.map (rename1 s d)).set s (.alias d)).set d (.own C l)))[i]? = some p → (i = d ∧ p = .own C l) ∨ (i ≠ d ∧ i = s ∧ p = .alias d) ∨ (i ≠ d ∧ i ≠ s ∧ ∃ q, S1[i]? = some q ∧ p = rename1 s d q) := fun i p hp => by
    by_cases hid : i = d
    · subst hid; simp [hdl] at hp; exact .inl ⟨rfl, hp.symm⟩
    · rw [List.getElem?_set_ne (Ne.symm hid)] at hp
      by_cases his : i = s
      · subst his; simp [hsl] at hp; exact .inr (.inl ⟨hid, rfl, hp.symm⟩)
      · rw [List.getElem?_set_ne (Ne.symm his), List.getElem?_map] at hp
        cases hq : S1[i]? with
        | none => rw [hq] at hp; cases hp
        | some q => rw [hq] at hp; exact .inr (.inr ⟨hid, his, q, rfl, by simpa using hp.symm⟩)
  have hgo : ∀ k, k ≠ d → k ≠ s → (get S1 k).owns = true → get ((((S1.map (rename1 s d)).set s (.alias d)).set d (.own C l))) k = get S1 k := fun k hkd hks' ho => by
    rw [hget, if_neg hkd, if_neg hks', rename1_owns ho]
  have hvs : a.tmps[s]? = some v := h1
  let loc2 : Nat → Nat → Option (Nat × Nat) := fun i => if i = d then loc1 s else if i = s then fun _ => none else loc1 i
  have l2d : loc2 d = loc1 s := by simp [loc2]
  have l2s : loc2 s = fun _ => none := by simp [loc2, hsd]
  have l2o : ∀ i, i ≠ d → i ≠ s → loc2 i = loc1 i := fun i h1 h2 => by simp [loc2, h1, h2]
  have hdsz : d < a.tmps.size := by rw [h.len]; exact hd
  have hput : ∀ i, i ≠ d → (a.tmps.setIfInBounds d v)[i]? = a.tmps[i]? := fun i hi => Array.getElem?_setIfInBounds_ne (Ne.symm hi)
  have hputd : (a.tmps.setIfInBounds d v)[d]? = some v := by simp [hdsz]
  refine ⟨loc2, { hk with len := ?_, defers := hk.defers, rep := ?_, ref := ?_, sep := ?_, dom := ?_, lt := ?_, pin := ?_ }⟩
  · show (a.tmps.setIfInBounds d v).size = _
    simp [h.len, hlen]
  · intro i p hp
    show ∃ u, (a.tmps.setIfInBounds d v)[i]? = some u ∧ _
    rcases hel i p hp with ⟨rfl, rfl⟩ | ⟨hid, rfl, rfl⟩ | ⟨hid, his, q, hq, rfl⟩
    · refine ⟨v, hputd, ?_⟩
      rw [l2d, hls]; exact h3
    · refine ⟨v, by rw [hput _ hid]; exact hvs, ?_⟩
      exact hputd
    · obtain ⟨u, hu, hr⟩ := hk.rep i q hq
      refine ⟨u, by rw [hput _ hid]; exact hu, ?_⟩
      rw [l2o i hid his]
      by_cases hqs : q.ref = some s
      · cases q with
        | alias k =>
          simp only [PV.ref, Option.some.injEq] at hqs
          subst hqs
          have hr : a.tmps[k]? = some u := hr
          show (a.tmps.setIfInBounds d v)[if k = k then d else k]? = some u
          rw [if_pos rfl, hputd, ← hr, hvs]
        | view k g off len =>
          simp only [PV.ref, Option.some.injEq] at hqs
          subst hqs
          obtain ⟨base, sz, cnt, e1, e2, e3⟩ := hr
          simp only [rename1, if_true]
          refine ⟨base, sz, cnt, by rw [hget, if_pos rfl, ← hks]; exact e1, e2, ?_⟩
          rw [l2d, hget, if_pos rfl, ← hks]
          exact e3
        | ptr k g idx f =>
          simp only [PV.ref, Option.some.injEq] at hqs
          subst hqs
          obtain ⟨base, sz, cnt, b, o', e1, e2, e3⟩ := hr
          simp only [rename1, if_true]
          exact ⟨base, sz, cnt, b, o', by rw [hget, if_pos rfl, ← hks]; exact e1, by rw [l2d]; exact e2, e3⟩
        | _ => simp [PV.ref] at hqs
      · have hren : rename1 s d q = q := by
          cases q <;> first | rfl | (simp only [PV.ref, Option.some.injEq] at hqs; simp [rename1, hqs])
        rw [hren]
        refine hr.frame (fun _ _ _ _ => rfl) (fun _ _ => rfl) (fun _ => Nat.le_refl _) (fun k hkk => ?_)
        have hko := hk.ref i q k hq hkk
        have hkd : k ≠ d := fun e => hf.ref i q hq (e ▸ hkk)
        have hks' : k ≠ s := fun e => hqs (e ▸ hkk)
        rw [hgo k hkd hks' hko, l2o k hkd hks']
        exact ⟨fun _ => rfl, rfl, hput k hkd, rfl⟩
  · intro i p k hp hkk
    rcases hel i p hp with ⟨rfl, rfl⟩ | ⟨hid, rfl, rfl⟩ | ⟨hid, his, q, hq, rfl⟩
    · cases hkk
    · cases hkk; rw [hget, if_pos rfl]; rfl
    · obtain ⟨k0, hk0, rfl⟩ := rename1_ref hkk
      have hko := hk.ref i q k0 hq hk0
      have hkd : k0 ≠ d := fun e => hf.ref i q hq (e ▸ hk0)
      split
      · rw [hget, if_pos rfl]; rfl
      · rename_i hks'; rw [hgo k0 hkd hks' hko]; exact hko
  · intro i j i' j' b o o' e1 e2
    have red : ∀ i j b o, loc2 i j = some (b, o) → ∃ i0, loc1 i0 j = some (b, o) ∧ (i0 = s ↔ i = d) ∧ (i ≠ d → i0 = i) := fun i j b o hh => by
      by_cases hid : i = d
      · subst hid; rw [l2d] at hh; exact ⟨s, hh, by simp, fun hn => absurd rfl hn⟩
      · by_cases his : i = s
        · subst his; rw [l2s] at hh; cases hh
        · rw [l2o i hid his] at hh; exact ⟨i, hh, by simp [hid, his], fun _ => rfl⟩
    obtain ⟨i0, f1, f2, f3⟩ := red i j b o e1
    obtain ⟨i1, g1, g2, g3⟩ := red i' j' b o' e2
    obtain ⟨q1, q2⟩ := hk.sep i0 j i1 j' b o o' f1 g1
    refine ⟨?_, q2⟩
    by_cases hid : i = d
    · have := f2.2 hid
      rw [q1] at this
      rw [hid, g2.1 this]
    · by_cases hid' : i' = d
      · have := g2.2 hid'
        rw [← q1] at this
        exact absurd (f2.1 this) hid
      · rw [← f3 hid, ← g3 hid', q1]
  · intro i ho j
    rw [hget] at ho
    by_cases hid : i = d
    · subst hid; simp [PV.owns] at ho
    · rw [if_neg hid] at ho
      by_cases his : i = s
      · subst his; rw [l2s]
      · rw [if_neg his] at ho
        rw [l2o i hid his]
        refine hk.dom i ?_ j
        cases hoi : (get S1 i).owns with
        | false => rfl
        | true => rw [rename1_owns hoi, hoi] at ho; cases ho
  · intro i j b o hh
    by_cases hid : i = d
    · subst hid; rw [l2d] at hh; exact hk.lt s j b o hh
    · by_cases his : i = s
      · subst his; rw [l2s] at hh; cases hh
      · rw [l2o i hid his] at hh; exact hk.lt i j b o hh
  · intro b hb
    obtain ⟨p1, p2⟩ := hk.pin b hb
    have h0d : (0 : Nat) ≠ d := fun e => by have := hf.own; rw [← e, isObj_owns p1] at this; cases this
    have h0s : (0 : Nat) ≠ s := fun e => by rw [e, hks] at p1; cases p1
    rw [hgo 0 h0d h0s (isObj_owns p1), l2o 0 h0d h0s]
    exact ⟨p1, p2⟩

/-- an owned slice goes over from s to d; what pointed to s points to d -/
theorem move_spr {s d n : Nat} {C : Cod} {l : List C.α} (h : Sim X w0 S a w loc) (hs : get S s = .spr C l n) (hsd : s ≠ d) (hd : d < S.length) (hpn : pinned S d = false) :
    ∃ loc', Sim X w0 ((((kill S d).map (rename1 s d)).set s (.alias d)).set d (.spr C l n)) (a.put (some d) (a.eval (.tmp s))) w loc' := by
  obtain ⟨v, h1, h2, h3⟩ := opd_get h hs (by simp)
  obtain ⟨loc1, hk, hf, hl, hl0⟩ := h.kill d hpn
  have hks : get (Px.kill S d) s = .spr C l n := by rw [kill_get hsd (by rw [hs]; rfl), hs]
  have hls : loc1 s = loc s := hl s hsd
  rw [h2]
  clear h2
  generalize hS1 : Px.kill S d = S1 at hk hf hks
  have hlen : S1.length = S.length := by rw [← hS1, kill_length]
  have hdl : d < S1.length := by omega
  have hsl : s < S1.length := (List.getElem?_eq_some_iff.1 (get_of_ne (i := s) (S := S1) (by rw [hks]; simp))).1
  have hget : ∀ i, get ((((S1.map (rename1 s d)).set s (.alias d)).set d (.spr C l n))) i = if i = d then .spr C l n else if i = s then .alias d else rename1 s d (get S1 i) := fun i => by
    by_cases hid : i = d
    · subst hid; rw [get_set_same (by simpa using hdl)]; simp
    · rw [get_set_ne hid, if_neg hid]
      by_cases his : i = s
      · subst his; rw [get_set_same (by simpa using hsl)]; simp
      · rw [get_set_ne his, if_neg his, get_map (rename1_junk s d)]
  have hel : ∀ (i : Nat) p, ((((S1.map (rename1 s d)).set s (.alias d)).set d (.spr C l n)))[i]? = some p → (i = d ∧ p = .spr C l n) ∨ (i ≠ d ∧ i = s ∧ p = .alias d) ∨ (i ≠ d ∧ i ≠ s ∧ ∃ q, S1[i]? = some q ∧ p = rename1 s d q) := fun i p hp => by
    by_cases hid : i = d
    · subst hid; simp [hdl] at hp; exact .inl ⟨rfl, hp.symm⟩
    · rw [List.getElem?_set_ne (Ne.symm hid)] at hp
      by_cases his : i = s
      · subst his; simp [hsl] at hp; exact .inr (.inl ⟨hid, rfl, hp.symm⟩)
      · rw [List.getElem?_set_ne (Ne.symm his), List.getElem?_map] at hp
        cases hq : S1[i]? with
        | none => rw [hq] at hp; cases hp
        | some q => rw [hq] at hp; exact .inr (.inr ⟨hid, his, q, rfl, by simpa using hp.symm⟩)
  have hgo : ∀ k, k ≠ d → k ≠ s → (get S1 k).owns = true → get ((((S1.map (rename1 s d)).set s (.alias d)).set d (.spr C l n))) k = get S1 k := fun k hkd hks' ho => by
    rw [hget, if_neg hkd, if_neg hks', rename1_owns ho]
  have hvs : a.tmps[s]? = some v := h1
  let loc2 : Nat → Nat → Option (Nat × Nat) := fun i => if i = d then loc1 s else if i = s then fun _ => none else loc1 i
  have l2d : loc2 d = loc1 s := by simp [loc2]
  have l2s : loc2 s = fun _ => none := by simp [loc2, hsd]
  have l2o : ∀ i, i ≠ d → i ≠ s → loc2 i = loc1 i := fun i h1 h2 => by simp [loc2, h1, h2]
  have hdsz : d < a.tmps.size := by rw [h.len]; exact hd
  have hput : ∀ i, i ≠ d → (a.tmps.setIfInBounds d v)[i]? = a.tmps[i]? := fun i hi => Array.getElem?_setIfInBounds_ne (Ne.symm hi)
  have hputd : (a.tmps.setIfInBounds d v)[d]? = some v := by simp [hdsz]
  refine ⟨loc2, { hk with len := ?_, defers := hk.defers, rep := ?_, ref := ?_, sep := ?_, dom := ?_, lt := ?_, pin := ?_ }⟩
  · show (a.tmps.setIfInBounds d v).size = _
    simp [h.len, hlen]
  · intro i p hp
    show ∃ u, (a.tmps.setIfInBounds d v)[i]? = some u ∧ _
    rcases hel i p hp with ⟨rfl, rfl⟩ | ⟨hid, rfl, rfl⟩ | ⟨hid, his, q, hq, rfl⟩
    · refine ⟨v, hputd, ?_⟩
      rw [l2d, hls]; exact h3
    · refine ⟨v, by rw [hput _ hid]; exact hvs, ?_⟩
      exact hputd
    · obtain ⟨u, hu, hr⟩ := hk.rep i q hq
      refine ⟨u, by rw [hput _ hid]; exact hu, ?_⟩
      rw [l2o i hid his]
      by_cases hqs : q.ref = some s
      · cases q with
        | alias k =>
          simp only [PV.ref, Option.some.injEq] at hqs
          subst hqs
          have hr : a.tmps[k]? = some u := hr
          show (a.tmps.setIfInBounds d v)[if k = k then d else k]? = some u
          rw [if_pos rfl, hputd, ← hr, hvs]
        | view k g off len =>
          simp only [PV.ref, Option.some.injEq] at hqs
          subst hqs
          obtain ⟨base, sz, cnt, e1, e2, e3⟩ := hr
          simp only [rename1, if_true]
          refine ⟨base, sz, cnt, by rw [hget, if_pos rfl, ← hks]; exact e1, e2, ?_⟩
          rw [l2d, hget, if_pos rfl, ← hks]
          exact e3
        | ptr k g idx f =>
          simp only [PV.ref, Option.some.injEq] at hqs
          subst hqs
          obtain ⟨base, sz, cnt, b, o', e1, e2, e3⟩ := hr
          simp only [rename1, if_true]
          exact ⟨base, sz, cnt, b, o', by rw [hget, if_pos rfl, ← hks]; exact e1, by rw [l2d]; exact e2, e3⟩
        | _ => simp [PV.ref] at hqs
      · have hren : rename1 s d q = q := by
          cases q <;> first | rfl | (simp only [PV.ref, Option.some.injEq] at hqs; simp [rename1, hqs])
        rw [hren]
        refine hr.frame (fun _ _ _ _ => rfl) (fun _ _ => rfl) (fun _ => Nat.le_refl _) (fun k hkk => ?_)
        have hko := hk.ref i q k hq hkk
        have hkd : k ≠ d := fun e => hf.ref i q hq (e ▸ hkk)
        have hks' : k ≠ s := fun e => hqs (e ▸ hkk)
        rw [hgo k hkd hks' hko, l2o k hkd hks']
        exact ⟨fun _ => rfl, rfl, hput k hkd, rfl⟩
  · intro i p k hp hkk
    rcases hel i p hp with ⟨rfl, rfl⟩ | ⟨hid, rfl, rfl⟩ | ⟨hid, his, q, hq, rfl⟩
    · cases hkk
    · cases hkk; rw [hget, if_pos rfl]; rfl
    · obtain ⟨k0, hk0, rfl⟩ := rename1_ref hkk
      have hko := hk.ref i q k0 hq hk0
      have hkd : k0 ≠ d := fun e => hf.ref i q hq (e ▸ hk0)
      split
      · rw [hget, if_pos rfl]; rfl
      · rename_i hks'; rw [hgo k0 hkd hks' hko]; exact hko
  · intro i j i' j' b o o' e1 e2
    have red : ∀ i j b o, loc2 i j = some (b, o) → ∃ i0, loc1 i0 j = some (b, o) ∧ (i0 = s ↔ i = d) ∧ (i ≠ d → i0 = i) := fun i j b o hh => by
      by_cases hid : i = d
      · subst hid; rw [l2d] at hh; exact ⟨s, hh, by simp, fun hn => absurd rfl hn⟩
      · by_cases his : i = s
        · subst his; rw [l2s] at hh; cases hh
        · rw [l2o i hid his] at hh; exact ⟨i, hh, by simp [hid, his], fun _ => rfl⟩
    obtain ⟨i0, f1, f2, f3⟩ := red i j b o e1
    obtain ⟨i1, g1, g2, g3⟩ := red i' j' b o' e2
    obtain ⟨q1, q2⟩ := hk.sep i0 j i1 j' b o o' f1 g1
    refine ⟨?_, q2⟩
    by_cases hid : i = d
    · have := f2.2 hid
      rw [q1] at this
      rw [hid, g2.1 this]
    · by_cases hid' : i' = d
      · have := g2.2 hid'
        rw [← q1] at this
        exact absurd (f2.1 this) hid
      · rw [← f3 hid, ← g3 hid', q1]
  · intro i ho j
    rw [hget] at ho
    by_cases hid : i = d
    · subst hid; simp [PV.owns] at ho
    · rw [if_neg hid] at ho
      by_cases his : i = s
      · subst his; rw [l2s]
      · rw [if_neg his] at ho
        rw [l2o i hid his]
        refine hk.dom i ?_ j
        cases hoi : (get S1 i).owns with
        | false => rfl
        | true => rw [rename1_owns hoi, hoi] at ho; cases ho
  · intro i j b o hh
    by_cases hid : i = d
    · subst hid; rw [l2d] at hh; exact hk.lt s j b o hh
    · by_cases his : i = s
      · subst his; rw [l2s] at hh; cases hh
      · rw [l2o i hid his] at hh; exact hk.lt i j b o hh
  · intro b hb
    obtain ⟨p1, p2⟩ := hk.pin b hb
    have h0d : (0 : Nat) ≠ d := fun e => by have := hf.own; rw [← e, isObj_owns p1] at this; cases this
    have h0s : (0 : Nat) ≠ s := fun e => by rw [e, hks] at p1; cases p1
    rw [hgo 0 h0d h0s (isObj_owns p1), l2o 0 h0d h0s]
    exact ⟨p1, p2⟩

theorem kill_noop {d : Nat} (h : (get S d).owns = false) : Px.kill S d = S := by unfold Px.kill; rw [if_neg (by rw [h]; simp)]
theorem kill_idem {d : Nat} (hf : Free S d) : Px.kill S d = S := by unfold Px.kill; rw [if_neg (by rw [hf.own]; simp)]
theorem op_assign {x : Operand} (hE : EnvOk X E) (h : Sim X w0 S a w loc) (ho : o.op = .assign x) (hr : evOp E S o.dst o.op o.type (fin o.dst K) = some r) : o.wp X.P a w (Post X w0 K r) Q := by
  have hrun := run_assign (X := X) (a := a) (w := w) ho
  rw [ho] at hr
  simp only [evOp] at hr
  split at hr
  · rename_i s
    split at hr
    · rename_i C l d hs hd
      split at hr
      · cases hr
      · rename_i hsd
        obtain ⟨g1, _, g3⟩ := fin_some (hd ▸ hr)
        have hpn : pinned S d = false := by cases hp : pinned S d with | false => rfl | true => exact absurd (.inr hp) hsd
        have hsd : s ≠ d := fun e => hsd (.inl e)
        have hdl : d < S.length := by simpa [kill_length] using g1.1
        obtain ⟨loc', hm⟩ := move_own h hs hsd hdl hpn
        refine wp_run hrun ?_
        rw [hd]
        refine ⟨_, loc', g3, ?_⟩
        have hput : put (((Px.kill S d).map (rename1 s d)).set s (.alias d)) (some d) (.own C l) = (((Px.kill S d).map (rename1 s d)).set s (.alias d)).set d (.own C l) := by
          have hno : (get (((Px.kill S d).map (rename1 s d)).set s (.alias d)) d).owns = false := by
            obtain ⟨_, _, hf, _⟩ := h.kill d hpn
            rw [get_set_ne (Ne.symm hsd), get_map (rename1_junk s d)]
            have := hf.own
            cases hp : get (Px.kill S d) d <;> rw [hp] at this <;> first | rfl | (simp [PV.owns] at this; done) | (simp [rename1, PV.owns]; done) | exact this
          show (Px.kill _ d).set d _ = _
          rw [kill_noop hno]
        rw [hput]; exact hm
    · rename_i C l n d hs hd
      split at hr
      · cases hr
      · rename_i hsd
        obtain ⟨g1, _, g3⟩ := fin_some (hd ▸ hr)
        have hpn : pinned S d = false := by cases hp : pinned S d with | false => rfl | true => exact absurd (.inr hp) hsd
        have hsd : s ≠ d := fun e => hsd (.inl e)
        have hdl : d < S.length := by simpa [kill_length] using g1.1
        obtain ⟨loc', hm⟩ := move_spr h hs hsd hdl hpn
        refine wp_run hrun ?_
        rw [hd]
        refine ⟨_, loc', g3, ?_⟩
        have hput : put (((Px.kill S d).map (rename1 s d)).set s (.alias d)) (some d) (.spr C l n) = (((Px.kill S d).map (rename1 s d)).set s (.alias d)).set d (.spr C l n) := by
          have hno : (get (((Px.kill S d).map (rename1 s d)).set s (.alias d)) d).owns = false := by
            obtain ⟨_, _, hf, _⟩ := h.kill d hpn
            rw [get_set_ne (Ne.symm hsd), get_map (rename1_junk s d)]
            have := hf.own
            cases hp : get (Px.kill S d) d <;> rw [hp] at this <;> first | rfl | (simp [PV.owns] at this; done) | (simp [rename1, PV.owns]; done) | exact this
          show (Px.kill _ d).set d _ = _
          rw [kill_noop hno]
        rw [hput]; exact hm
    · rename_i j d hs hd
      split at hr
      · cases hr
      · have := copy_rep h (s := s) (by rw [hs]; rfl)
        rw [hs] at this
        exact wp0 hrun h hr rfl this (fun k hk => get_ref h (s := s) (by rw [hs]; exact hk))
    · rename_i j g off len d hs hd
      split at hr
      · rename_i hjd
        subst hjd
        split at hr
        · rename_i C l hj
          split at hr
          · rename_i hg
            subst hg
            have hrep := copy_rep h (s := s) (by rw [hs]; rfl)
            rw [hs] at hrep
            have hown := get_ref h (s := s) (k := j) (by rw [hs]; rfl)
            obtain ⟨hle, hsl⟩ := view_sl h hrep (.inl ⟨hj, rfl⟩)
            obtain ⟨loc', hk, _, hl, hnew⟩ := h.take j (by rw [hj]; rfl)
            obtain ⟨base, sz, cnt, e1, e2, e3⟩ := id hrep
            rw [hj] at e1
            simp only [shp, Option.some.injEq, Prod.mk.injEq] at e1
            obtain ⟨rfl, rfl, rfl⟩ := e1
            have hdt := drop_take_length l off len hle
            rcases e3 with ⟨q1, q2, q3⟩ | ⟨b, o2, o3, cap, q1, q2, q3, q4, q5, _⟩
            · refine wpG (fun _ => none) hrun hk hr rfl rfl (.inl ⟨rfl, q2, ?_⟩) (fun _ _ _ _ _ e0 => by cases e0) (fun _ _ _ e0 => by cases e0)
              apply List.eq_nil_of_length_eq_zero; rw [hdt, q3]
            · obtain ⟨u, _, _, h3⟩ := opd_get h hj (by simp)
              rcases h3 with ⟨p4, _⟩ | ⟨b', o4, cap', cur, e', fr, p4, p5, p6, p7, p8, p9, p11, p12⟩
              · rw [q1] at p4; cases p4
              · rw [q1] at p4; cases p4
                have hbs : blkSize w b = cur.size := by simp [blkSize, p7]
                refine wp1 b o3 hrun hk hr rfl rfl ?_ ⟨heap_lt p7, p6, (hnew 0 b o2 q1).2.2⟩
                refine .inr ⟨b, o3, cap, cur, e', fr, by simp, by rw [hdt]; exact q2, p6, p7, p8, by rw [hdt]; exact q3, by rw [← hbs]; exact q5, ?_⟩
                rcases q4 with q4 | q4
                · subst q4
                  intro m z hm; simp [flat] at hm
                · rw [flat_dt, q4, Nat.add_zero]
                  exact (p12.drop _).take _
          · cases hr
        · rename_i C l n hj
          split at hr
          · rename_i hg
            subst hg
            have hrep := copy_rep h (s := s) (by rw [hs]; rfl)
            rw [hs] at hrep
            have hown := get_ref h (s := s) (k := j) (by rw [hs]; rfl)
            obtain ⟨_, hle, hsl⟩ := spr_view h hj hrep
            obtain ⟨loc', hk, _, hl, hnew⟩ := h.take j (by rw [hj]; rfl)
            obtain ⟨base, sz, cnt, e1, e2, e3⟩ := id hrep
            rw [hj] at e1
            simp only [shp, Option.some.injEq, Prod.mk.injEq] at e1
            obtain ⟨rfl, rfl, rfl⟩ := e1
            have hdt := drop_take_length l off len hle
            rcases e3 with ⟨q1, q2, q3⟩ | ⟨b, o2, o3, cap, q1, q2, q3, q4, q5, _⟩
            · refine wpG (fun _ => none) hrun hk hr rfl rfl (.inl ⟨rfl, q2, ?_⟩) (fun _ _ _ _ _ e0 => by cases e0) (fun _ _ _ e0 => by cases e0)
              apply List.eq_nil_of_length_eq_zero; rw [hdt, q3]
            · obtain ⟨u, _, _, h3⟩ := opd_get h hj (by simp)
              obtain ⟨_, b', o4, cur, e', fr, p4, p5, p6, p7, p8, p11, p12⟩ := h3
              rw [q1] at p4; cases p4
              have hbs : blkSize w b = cur.size := by simp [blkSize, p7]
              refine wp1 b o3 hrun hk hr rfl rfl ?_ ⟨heap_lt p7, p6, (hnew 0 b o2 q1).2.2⟩
              refine .inr ⟨b, o3, cap, cur, e', fr, by simp, by rw [hdt]; exact q2, p6, p7, p8, by rw [hdt]; exact q3, by rw [← hbs]; exact q5, ?_⟩
              rcases q4 with q4 | q4
              · subst q4
                intro m z hm; simp [flat] at hm
              · rw [flat_dt, q4, Nat.add_zero]
                exact (p12.drop _).take _
          · cases hr
        · cases hr
      · have := copy_rep h (s := s) (by rw [hs]; rfl)
        rw [hs] at this
        exact wp0 hrun h hr rfl this (fun k hk => get_ref h (s := s) (by rw [hs]; exact hk))
    · rename_i ds d hs hd
      exact tup_go h hs hrun rfl hd hr
    · cases hr
    · cases hr
    · cases hr
    · rename_i hs; exact wp0 hrun h hr rfl (alias_rep h (by rw [hs]; rfl)) (fun k hk => by cases hk; rw [hs]; rfl)
    · rename_i hs; exact wp0 hrun h hr rfl (alias_rep h (by rw [hs]; rfl)) (fun k hk => by cases hk; rw [hs]; rfl)
    · rename_i hn1 hn2 hn3 hn4 hn5 hn6 hn7 hn8 hn9 hn10
      have how : (get S s).owns = false := by
        cases hp : get S s <;> first | rfl | (exfalso; cases hd : o.dst <;> first | exact hn1 _ hp | exact hn1 _ _ hp | exact hn1 _ hp hd | exact hn1 _ _ hp hd | exact hn1 _ _ _ hp hd | exact hn1 _ _ _ _ hp hd | exact hn2 _ hp | exact hn2 _ _ hp | exact hn2 _ hp hd | exact hn2 _ _ hp hd | exact hn2 _ _ _ hp hd | exact hn2 _ _ _ _ hp hd | exact hn3 _ hp | exact hn3 _ _ hp | exact hn3 _ hp hd | exact hn3 _ _ hp hd | exact hn3 _ _ _ hp hd | exact hn3 _ _ _ _ hp hd | exact hn4 _ hp | exact hn4 _ _ hp | exact hn4 _ hp hd | exact hn4 _ _ hp hd | exact hn4 _ _ _ hp hd | exact hn4 _ _ _ _ hp hd | exact hn5 _ hp | exact hn5 _ _ hp | exact hn5 _ hp hd | exact hn5 _ _ hp hd | exact hn5 _ _ _ hp hd | exact hn5 _ _ _ _ hp hd | exact hn6 _ hp | exact hn6 _ _ hp | exact hn6 _ hp hd | exact hn6 _ _ hp hd | exact hn6 _ _ _ hp hd | exact hn6 _ _ _ _ hp hd | exact hn7 _ hp | exact hn7 _ _ hp | exact hn7 _ hp hd | exact hn7 _ _ hp hd | exact hn7 _ _ _ hp hd | exact hn7 _ _ _ _ hp hd | exact hn8 _ hp | exact hn8 _ _ hp | exact hn8 _ hp hd | exact hn8 _ _ hp hd | exact hn8 _ _ _ hp hd | exact hn8 _ _ _ _ hp hd | exact hn9 _ hp | exact hn9 _ _ hp | exact hn9 _ hp hd | exact hn9 _ _ hp hd | exact hn9 _ _ _ hp hd | exact hn9 _ _ _ _ hp hd | exact hn10 _ hp | exact hn10 _ _ hp | exact hn10 _ hp hd | exact hn10 _ _ hp hd | exact hn10 _ _ _ hp hd | exact hn10 _ _ _ _ hp hd)
      exact wp0 hrun h hr how (copy_rep h how) (fun k hk => get_ref h hk)
  · split at hr
    · rename_i C bb hco
      refine wpG (fun _ => none) hrun h hr rfl rfl (.inl ⟨rfl, rfl, rfl⟩) (fun _ _ _ _ _ e0 => by cases e0) (fun _ _ _ e0 => by cases e0)
    · cases hr
  · rename_i hn1 hn2
    cases x with
    | tmp s => exact absurd rfl (hn1 s)
    | const c => exact wp0 hrun h hr rfl rfl (fun k hk => by cases hk)
    | global g => exact wp0 hrun h hr rfl rfl (fun k hk => by cases hk)
    | func f => exact wp0 hrun h hr rfl rfl (fun k hk => by cases hk)

/-! ### calls -/
theorem toD1_ok (h : Sim X w0 S a w loc) {x : Operand} {d : D1} (hd : toD1 S (selfAlias x (opd S x)) = some d) : ArgRep w d (a.eval x) := by
  generalize hp : selfAlias x (opd S x) = p at hd
  have hj : p ≠ .junk ∧ (∀ s q, p ≠ .iter s q) ∧ (∀ ds, p ≠ .tup ds) := by
    refine ⟨fun e => ?_, fun _ _ e => ?_, fun _ e => ?_⟩ <;> (rw [e] at hd; simp [toD1, content] at hd)
  obtain ⟨h1, h2, h3⟩ := opd_rep h hp hj.1 hj.2.1 hj.2.2
  unfold toD1 at hd
  split at hd
  · cases hd; exact h2
  · cases hd; exact h2
  · cases hd; exact ⟨h2.1.mono fun b hb => Nat.lt_of_lt_of_le hb.1 h.hB, h2.2⟩
  · split at hd
    · rename_i c hc
      cases hd
      exact content_sl h hc h1 h2 h3
    · cases hd
theorem evCallArgs_ok (h : Sim X w0 S a w loc) : (xs : List Operand) → (ds : List D1) → evCallArgs S xs = some ds → ds.length = xs.length ∧ ∀ (i : Nat) d, ds[i]? = some d → ∃ x, xs[i]? = some x ∧ ArgRep w d (a.eval x)
  | [], ds, hd => by simp [evCallArgs] at hd; subst hd; exact ⟨rfl, fun i d h => by simp at h⟩
  | x :: xs, ds, hd => by
    simp only [evCallArgs] at hd
    cases h1 : toD1 S (selfAlias x (opd S x)) with
    | none => rw [h1] at hd; cases hd
    | some d1 =>
      rw [h1] at hd
      simp only [Option.bind_some] at hd
      cases h2 : evCallArgs S xs with
      | none => rw [h2] at hd; cases hd
      | some ds' =>
        rw [h2] at hd
        simp only [Option.bind_some, Option.some.injEq] at hd
        subst hd
        obtain ⟨g1, g2⟩ := evCallArgs_ok h xs ds' h2
        refine ⟨by simp [g1], fun i d hi => ?_⟩
        cases i with
        | zero => simp at hi; subst hi; exact ⟨x, rfl, toD1_ok h h1⟩
        | succ i => simpa using g2 i d (by simpa using hi)
theorem D1Rep.mono {B B' : Nat → Prop} {d : D1} {ℓ : Option (Nat × Nat)} {v : Value} (h : D1Rep w B d ℓ v) (hB : ∀ b, B b → B' b) : D1Rep w B' d ℓ v := by
  cases d with
  | own C l =>
    rcases h with h | ⟨b, o, cap, cur, e, fr, h1, h2, h3, h4⟩
    · exact .inl h
    · exact .inr ⟨b, o, cap, cur, e, fr, h1, h2, hB _ h3, h4⟩
  | _ => exact h
theorem DRep.rep {B : Nat → Prop} {ℓ : Nat → Option (Nat × Nat)} {d : DV} {v : Value} (h : DRep w B ℓ d v) (hB : ∀ b, B b → X.Mine b) : Rep X w S a.tmps loc ℓ d.toPV v := by
  cases d with
  | one d => have := D1Rep.mono h hB; cases d <;> first | exact this | exact ⟨this.1 _ _, this.2⟩
  | tup ds =>
    obtain ⟨vs, h1, h2, h3⟩ := h
    refine ⟨vs, h1, h2, fun j d hj => ?_⟩
    obtain ⟨u, g1, g2⟩ := h3 j d hj
    exact ⟨u, g1, g2.mono hB⟩
theorem DV.toPV_ref (d : DV) : d.toPV.ref = none := by cases d with | one d => cases d <;> rfl | tup ds => rfl
theorem GOk.lift (h : Sim X w0 S a w loc) : GOk ⟨X.P, w.heap.size, X.G, noM⟩ w := fun g ss hg => by
  obtain ⟨h1, h2, h3⟩ := h.glob g ss hg
  exact ⟨⟨Nat.lt_of_lt_of_le h1.1 h.hB, id⟩, h2.mono fun b hb => ⟨Nat.lt_of_lt_of_le hb.1 h.hB, id⟩, h3⟩
theorem content_X (h : Sim X w0 S a w loc) {p : PV} {v : Value} {c : Cont} {k b ob : Nat} (hc : content S p = some c) (ho : p.owns = false) (hp : Rep X w S a.tmps loc (fun _ => none) p v) (hown : ∀ k, p.ref = some k → (get S k).owns = true)
    (hk : p.ref ≠ some k) (hl : loc k 0 = some (b, ob)) : RoRep w (fun c => c < w.heap.size ∧ c ≠ b) c.C c.l v := by
  obtain ⟨ad, cap, h1, h2, h3⟩ := content_sl h hc ho hp hown
  refine ⟨ad, cap, h1, h2, ?_⟩
  rcases h3 with h3 | ⟨b1, o1, cur, e, fr, g1, g2, g3⟩
  · exact .inl h3
  · by_cases hnil : c.l = []
    · exact .inl hnil
    refine .inr ⟨b1, o1, cur, e, fr, g1, ⟨g2, fun hb => ?_⟩, g3⟩
    subst hb
    subst g1
    cases p with
    | ros C l =>
      simp only [content, Option.some.injEq] at hc; subst hc
      obtain ⟨ad', cap', k1, _, k3⟩ := hp
      rw [h1] at k1
      cases k1
      rcases k3 with k3 | ⟨b2, o2, _, _, _, k4, k5, _⟩
      · exact hnil k3
      · cases k4
        exact Cx.low_mine k5 (h.lt k 0 _ ob hl).2 rfl
    | own C l => simp [PV.owns] at ho
    | alias j =>
      simp only [content] at hc
      split at hc
      · rename_i C l hs
        simp only [Option.some.injEq] at hc; subst hc
        have := alias_val h hp (hown j rfl)
        rw [hs] at this
        rcases this with ⟨_, k2, _⟩ | ⟨b2, o2, cp, cur2, e2, fr2, k1, k2, _⟩
        · rw [h1] at k2; cases k2
        · rw [h1] at k2; cases k2
          exact hk (by rw [PV.ref, (h.sep j 0 k 0 _ _ _ k1 hl).1])
      · rename_i C l m hs
        simp only [Option.some.injEq] at hc; subst hc
        have := alias_val h hp (hown j rfl)
        rw [hs] at this
        obtain ⟨_, b2, o2, cur2, e2, fr2, k1, k2, _⟩ := this
        rw [h1] at k2
        simp only [Value.slice.injEq, Option.some.injEq, Addr.mk.injEq] at k2
        obtain ⟨⟨rfl, _, _⟩, _⟩ := k2
        exact hk (by rw [PV.ref, (h.sep j 0 k 0 _ _ _ k1 hl).1])
      · cases hc
    | view j g off len =>
      obtain ⟨base, sz, cnt, e1, e2, e3⟩ := hp
      rcases e3 with ⟨_, k2, _⟩ | ⟨b2, o2, o3, cp, k1, k2, _⟩
      · rw [h1] at k2; cases k2
      · rw [h1] at k2; cases k2
        exact hk (by rw [PV.ref, (h.sep j 0 k 0 _ _ _ k1 hl).1])
    | _ => simp [content] at hc
theorem toD1_X (h : Sim X w0 S a w loc) {x : Operand} {d : D1} {k b ob : Nat} (hd : toD1 S (selfAlias x (opd S x)) = some d) (hk : (selfAlias x (opd S x)).ref ≠ some k) (hl : loc k 0 = some (b, ob)) : ArgRepX w b d (a.eval x) := by
  generalize hp : selfAlias x (opd S x) = p at hd hk
  have hj : p ≠ .junk ∧ (∀ s q, p ≠ .iter s q) ∧ (∀ ds, p ≠ .tup ds) := by
    refine ⟨fun e => ?_, fun _ _ e => ?_, fun _ e => ?_⟩ <;> (rw [e] at hd; simp [toD1, content] at hd)
  obtain ⟨h1, h2, h3⟩ := opd_rep h hp hj.1 hj.2.1 hj.2.2
  unfold toD1 at hd
  split at hd
  · cases hd; exact h2
  · cases hd; exact h2
  · cases hd; exact ⟨h2.1.mono fun c hc => ⟨Nat.lt_of_lt_of_le hc.1 h.hB, Cx.low_mine hc (h.lt k 0 b ob hl).2⟩, h2.2⟩
  · split at hd
    · rename_i c hc
      cases hd
      exact content_X h hc h1 h2 h3 hk hl
    · cases hd
theorem evCallArgsR_ok (h : Sim X w0 S a w loc) {k b ob : Nat} (hl : loc k 0 = some (b, ob)) : (xs : List Operand) → (ds : List D1) → evCallArgsR S k xs = some ds → ds.length = xs.length ∧ ∀ (i : Nat) d, ds[i]? = some d → ∃ x, xs[i]? = some x ∧ ArgRepX w b d (a.eval x)
  | [], ds, hd => by simp [evCallArgsR] at hd; subst hd; exact ⟨rfl, fun i d h => by simp at h⟩
  | x :: xs, ds, hd => by
    simp only [evCallArgsR] at hd
    split at hd
    · cases hd
    · rename_i hk
      cases h1 : toD1 S (selfAlias x (opd S x)) with
      | none => rw [h1] at hd; cases hd
      | some d1 =>
        rw [h1] at hd
        simp only [Option.bind_some] at hd
        cases h2 : evCallArgsR S k xs with
        | none => rw [h2] at hd; cases hd
        | some ds' =>
          rw [h2] at hd
          simp only [Option.bind_some, Option.some.injEq] at hd
          subst hd
          obtain ⟨g1, g2⟩ := evCallArgsR_ok h hl xs ds' h2
          refine ⟨by simp [g1], fun i d hi => ?_⟩
          cases i with
          | zero => simp at hi; subst hi; exact ⟨x, rfl, toD1_X h h1 hk hl⟩
          | succ i => simpa using g2 i d (by simpa using hi)
theorem evCallArgsS_ok {a : Act} {tmps : Array Value} (h : Sim X w0 S a w loc) : (xs : List Operand) → (ds : List D1) → evCallArgsS S xs = some ds → ds.length = xs.length ∧ ∀ (i : Nat) d, ds[i]? = some d → ∃ x, xs[i]? = some x ∧ ∃ v, d = .raw v ∧ a.eval x = v
  | [], ds, hd => by simp [evCallArgsS] at hd; subst hd; exact ⟨rfl, fun i d h => by simp at h⟩
  | x :: xs, ds, hd => by
    simp only [evCallArgsS] at hd
    split at hd
    · rename_i v hv
      cases h2 : evCallArgsS S xs with
      | none => rw [h2] at hd; cases hd
      | some ds' =>
        rw [h2] at hd
        simp only [Option.bind_some, Option.some.injEq] at hd
        subst hd
        obtain ⟨g1, g2⟩ := evCallArgsS_ok (tmps := tmps) h xs ds' h2
        refine ⟨by simp [g1], fun i d hi => ?_⟩
        cases i with
        | zero => simp at hi; subst hi; exact ⟨x, rfl, v, rfl, opd_raw h hv⟩
        | succ i => simpa using g2 i d (by simpa using hi)
    · cases hd
/-- what a callee has used up was nobody's any more -/
theorem Sim.extA (h : Sim X w0 S a w loc) {w' : World} {P : Program} {G : Nat → Option (List Seg)} {ℓ : Option (Nat × Nat)} (hb : Kept ⟨P, w.heap.size, G, usedM w.heap.size ℓ⟩ w w')
    (hm : ∀ b o, ℓ = some (b, o) → X.Mine b ∧ ∀ i j o', loc i j ≠ some (b, o')) : Sim X w0 S a w' loc := by
  have hlt : ∀ c, c < w.heap.size → (∀ o, ℓ ≠ some (c, o)) → w'.heap[c]? = w.heap[c]? := fun c h1 h2 => hb.block c ⟨h1, fun hu => by
    rcases hu with hu | ⟨o, hu⟩
    · exact Nat.lt_irrefl _ (Nat.lt_of_lt_of_le h1 hu)
    · exact h2 o hu⟩
  have hlow : ∀ b, X.Low b → w'.heap[b]? = w.heap[b]? := fun b hb' => hlt b (Nat.lt_of_lt_of_le hb'.1 h.hB) fun o e => Cx.low_mine hb' (hm b o e).1 rfl
  have hloc : ∀ i j b o, loc i j = some (b, o) → w'.heap[b]? = w.heap[b]? := fun i j b o hl => hlt b (h.lt i j b o hl).1 fun o' e => (hm b o' e).2 i j o hl
  refine { h with hB := Nat.le_trans h.hB hb.size, below := h.below.trans ⟨hb.os, hb.tape, hb.output, hb.size, hlow⟩, glob := h.glob.frame hlow, rep := fun i p hp => ?_, lt := fun i j b o hl => ?_ }
  · obtain ⟨v, hv, hr⟩ := h.rep i p hp
    exact ⟨v, hv, hr.frame' (fun j b o hl => hloc i j b o hl) hlow (fun k b o _ hl => Nat.le_of_eq (blkSize_of_eq (hloc k 0 b o hl)).symm) (fun k _ => ⟨fun _ => rfl, rfl, rfl, rfl⟩)⟩
  · exact ⟨Nat.lt_of_lt_of_le (h.lt i j b o hl).1 hb.size, (h.lt i j b o hl).2⟩
theorem op_callA {f : FuncId} {args : Array Operand} {ats : Array TypeId} (hE : EnvOk X E) (h : Sim X w0 S a w loc) (ho : o.op = .call { callee := .value (.func f), args := args, argTypes := ats })
    (hr : evCallA E S f args.toList (fin o.dst K) = some r) : o.wp X.P a w (Post X w0 K r) Q := by
  unfold evCallA at hr
  split at hr
  · rename_i F x xs hF hxs
    obtain ⟨hfok, fn, hfn, hbody, hname⟩ := hE.A f F hF
    generalize hxp : selfAlias x (opd S x) = p at hr
    split at hr
    · rename_i k
      obtain ⟨_, hrep, hown⟩ := opd_rep h hxp (by simp) (by simp) (by simp)
      have hko := hown k rfl
      have hv := alias_val h hrep hko
      split at hr
      · rename_i C l hk
        rw [hk] at hv
        have hv : OwnRep w X.Mine C l (loc k 0) (a.eval x) := hv
        cases hds : evCallArgsS S xs with
        | none => rw [hds] at hr; cases hr
        | some ds =>
          rw [hds] at hr
          simp only [Option.bind_some] at hr
          obtain ⟨loc', hs', hf, hl, hnew⟩ := h.take k (by rw [hk]; rfl)
          obtain ⟨hlen, hargs⟩ := evCallArgsS_ok (tmps := a.tmps) h xs ds hds
          have hrun : (execOp a.eval o).run X.P w = .ok (.enter f (args.map a.eval)) w := by
            have e1 : ¬ fn.name = "runtime.NumGoroutine" := by simpa using hname
            have e2 : ¬ fn.body = none := fun e => by rw [e] at hbody; cases hbody
            simp [execOp, ho, resolve, Act.eval, Deferred.ofValue, invoke, callFunc, hfn, e1, e2]
          have hmine : ∀ b o, loc k 0 = some (b, o) → X.Mine b := fun b o e => (h.lt k 0 b o e).2
          have hg : GOk ⟨X.P, w.heap.size, X.G, usedM w.heap.size (loc k 0)⟩ w := fun g ss hg => by
            obtain ⟨h1, h2, h3⟩ := h.glob g ss hg
            have hlow : ∀ b, X.Low b → ¬ usedM w.heap.size (loc k 0) b := fun b h1 hu => by
              rcases hu with hu | ⟨o, hu⟩
              · exact Nat.lt_irrefl _ (Nat.lt_of_lt_of_le (Nat.lt_of_lt_of_le h1.1 h.hB) hu)
              · exact Cx.low_mine h1 (hmine b o hu) rfl
            exact ⟨⟨Nat.lt_of_lt_of_le h1.1 h.hB, hlow g h1⟩, h2.mono fun b hb => ⟨Nat.lt_of_lt_of_le hb.1 h.hB, hlow b hb⟩, h3⟩
          have hown' : OwnRep w (usedM w.heap.size (loc k 0)) C l (loc k 0) (a.eval x) := by
            rcases hv with hv | ⟨b, o, cap, cur, e, fr, k1, k2, k3, k4⟩
            · exact .inl hv
            · exact .inr ⟨b, o, cap, cur, e, fr, k1, k2, .inr ⟨o, k1⟩, k4⟩
          have hargl : ∀ i : Nat, (args.map a.eval)[i]? = (x :: xs)[i]?.map a.eval := fun i => by rw [← hxs]; simp
          have hasz : args.size = xs.length + 1 := by rw [← Array.length_toList, hxs]; rfl
          have hcall := hfok ρ ⟨C, l⟩ (ds.map .one) _ r hr w (args.map a.eval) (loc k 0) (a.eval x) hg (by simp [hlen, hasz]) (by rw [hargl]; simp) hown' (fun i d hi => by
            rw [List.getElem?_map] at hi
            cases hd : ds[i]? with
            | none => rw [hd] at hi; cases hi
            | some d1 =>
              rw [hd] at hi
              simp only [Option.map_some, Option.some.injEq] at hi
              obtain ⟨y, hx1, v, rfl, hx2⟩ := hargs i d1 hd
              exact ⟨.raw v, a.eval y, hi.symm, by rw [hargl]; simp [hx1], hx2⟩)
          unfold Oper.wp
          rw [hrun]
          refine Calls.mono hcall fun en w' he => ?_
          obtain ⟨d, v, hkk, rfl, hb, ℓ, g1, g2, g3, g4⟩ := he
          have hs := hs'.extA hb fun b o e => ⟨hmine b o e, (hnew 0 b o e).2.2⟩
          have hmi : ∀ b, usedM w.heap.size (loc k 0) b → X.Mine b := fun b hu => by
            rcases hu with hu | ⟨o, hu⟩
            · exact .inl (Nat.le_trans h.hB hu)
            · exact hmine b o hu
          show Post X w0 K r (a.put o.dst v) w'
          cases hd : o.dst with
          | none => rw [hd] at hkk; exact ⟨_, loc', fin_none hkk, hs⟩
          | some dd =>
            rw [hd] at hkk
            obtain ⟨q1, q2, q3⟩ := fin_some hkk
            obtain ⟨loc2, hs2⟩ := hs.fin q1 ℓ d.toPV v (DRep.rep g4 hmi) (fun k hk => by rw [DV.toPV_ref] at hk; cases hk) g3 g2 (fun j b o hj => by
              obtain ⟨p1, p2⟩ := g1 j b o hj
              refine ⟨p2, hmi b p1, fun i j' o' e0 => ?_⟩
              rcases p1 with p1 | ⟨o2, p1⟩
              · have := (hs'.lt i j' b o' e0).1; omega
              · exact (hnew 0 b o2 p1).2.2 i j' o' e0)
            exact ⟨_, loc2, q3, hs2⟩
      · cases hr
    · cases hr
  · cases hr
theorem op_callR {f : FuncId} {args : Array Operand} {ats : Array TypeId} (hE : EnvOk X E) (h : Sim X w0 S a w loc) (ho : o.op = .call { callee := .value (.func f), args := args, argTypes := ats })
    (hr : evCallR E S f args.toList (fin o.dst K) = some r) : o.wp X.P a w (Post X w0 K r) Q := by
  unfold evCallR at hr
  split at hr
  · rename_i F x xs hF hxs
    obtain ⟨hfok, fn, hfn, hbody, hname⟩ := hE.R f F hF
    generalize hxp : selfAlias x (opd S x) = p at hr
    split at hr
    · rename_i k
      obtain ⟨_, hrep, hown⟩ := opd_rep h hxp (by simp) (by simp) (by simp)
      have hko := hown k rfl
      have hv := alias_val h hrep hko
      split at hr
      · rename_i ss hk
        rw [hk] at hv
        obtain ⟨b, cur, e, fr, p1, p2, p3, p4, p5, p6, p7⟩ := hv
        cases hnr : noRo ss with
        | false => rw [hnr] at hr; cases hr
        | true =>
        rw [hnr] at hr
        simp only [cond_true] at hr
        have p6 := segsPl_of p6 hnr
        cases hds : evCallArgsR S k xs with
        | none => rw [hds] at hr; cases hr
        | some ds =>
          rw [hds] at hr
          simp only [Option.bind_some] at hr
          obtain ⟨hlen, hargs⟩ := evCallArgsR_ok h p1 xs ds hds
          have hrun : (execOp a.eval o).run X.P w = .ok (.enter f (args.map a.eval)) w := by
            have e1 : ¬ fn.name = "runtime.NumGoroutine" := by simpa using hname
            have e2 : ¬ fn.body = none := fun e => by rw [e] at hbody; cases hbody
            simp [execOp, ho, resolve, Act.eval, Deferred.ofValue, invoke, callFunc, hfn, e1, e2]
          have hg : GOk ⟨X.P, w.heap.size, X.G, (· = b)⟩ w := fun g ss hg => by
            obtain ⟨h1, h2, h3⟩ := h.glob g ss hg
            exact ⟨⟨Nat.lt_of_lt_of_le h1.1 h.hB, Cx.low_mine h1 p3⟩, h2.mono fun c hc => ⟨Nat.lt_of_lt_of_le hc.1 h.hB, Cx.low_mine hc p3⟩, h3⟩
          have hargl : ∀ i : Nat, (args.map a.eval)[i]? = (x :: xs)[i]?.map a.eval := fun i => by rw [← hxs]; simp
          have hasz : args.size = xs.length + 1 := by rw [← Array.length_toList, hxs]; rfl
          have hcall := hfok ρ ss (ds.map .one) _ r hr w (args.map a.eval) b cur e fr hg (by simp [hlen, hasz]) (by rw [hargl]; simp [p2]) p4 p5 p6 p7 (fun i d hi => by
            rw [List.getElem?_map] at hi
            cases hd : ds[i]? with
            | none => rw [hd] at hi; cases hi
            | some d1 =>
              rw [hd] at hi
              simp only [Option.map_some, Option.some.injEq] at hi
              obtain ⟨y, hx1, hx2⟩ := hargs i d1 hd
              exact ⟨d1, a.eval y, hi.symm, by rw [hargl]; simp [hx1], hx2⟩)
          unfold Oper.wp
          rw [hrun]
          refine Calls.mono hcall fun en w' he => ?_
          obtain ⟨ss', d, v, hkk, rfl, hb, ⟨cur', e', fr', m1, m2, m3⟩, hok', hkinds, ℓ, g1, g2, g3, g4⟩ := he
          have hclen := kinds_len ss ss' hkinds (hok' w X.Low) (p6 w X.Low)
          have hs : Sim X w0 (S.set k (.obj ss')) a w' loc := h.updG (pk := .obj ss') hko p1 (fun c hc hcb => hb.block c ⟨hc, hcb⟩) hb.size hb.os hb.tape hb.output (fun c => by
              by_cases hcb : c = b
              · subst hcb; simp [blkSize, p4, m1, p7, m3, hclen]
              · by_cases hc : c < w.heap.size
                · exact Nat.le_of_eq (blkSize_of_eq (hb.block c ⟨hc, hcb⟩)).symm
                · simp [blkSize, Array.getElem?_eq_none (Nat.le_of_not_lt hc)])
            (fun g => by rw [hk]; exact kinds_shp hkinds g) (by rw [hk]; rfl) rfl rfl (fun u hu => by
              obtain ⟨u', hu1, hu2⟩ := h.rep k _ (get_some hko)
              rw [hu] at hu1; cases hu1
              rw [hk] at hu2
              obtain ⟨b', cur2, e2, fr2, n1, n2, n3, _⟩ := hu2
              rw [p1] at n1; cases n1
              exact ⟨b, cur', e', fr', p1, n2, n3, m1, m2, hok' _ _, m3⟩)
          show Post X w0 K r (a.put o.dst v) w'
          cases hd : o.dst with
          | none => rw [hd] at hkk; exact ⟨_, loc, fin_none hkk, hs⟩
          | some dd =>
            rw [hd] at hkk
            obtain ⟨q1, q2, q3⟩ := fin_some hkk
            obtain ⟨loc2, hs2⟩ := hs.fin q1 ℓ d.toPV v (DRep.rep g4 fun b hb => .inl (Nat.le_trans h.hB hb)) (fun k hk => by rw [DV.toPV_ref] at hk; cases hk) g3 g2 (fun j b o hj => by
              obtain ⟨p1, p2⟩ := g1 j b o hj
              exact ⟨p2, .inl (Nat.le_trans h.hB p1), fun i j' o' e0 => by have := (h.lt i j' b o' e0).1; omega⟩)
            exact ⟨_, loc2, q3, hs2⟩
      · cases hr
    · cases hr
  · exact op_callA hE h ho hr
  · cases hr
theorem op_call {f : FuncId} {args : Array Operand} {ats : Array TypeId} (hE : EnvOk X E) (h : Sim X w0 S a w loc) (ho : o.op = .call { callee := .value (.func f), args := args, argTypes := ats })
    (hr : evOp E S o.dst o.op o.type (fin o.dst K) = some r) : o.wp X.P a w (Post X w0 K r) Q := by
  rw [ho] at hr
  simp only [evOp] at hr
  split at hr
  · rename_i F ds hF hds
    obtain ⟨hfok, fn, hfn, hbody, hname⟩ := hE.Γ f F hF
    obtain ⟨hlen, hargs⟩ := evCallArgs_ok h args.toList ds hds
    have hrun : (execOp a.eval o).run X.P w = .ok (.enter f (args.map a.eval)) w := by
      have e1 : ¬ fn.name = "runtime.NumGoroutine" := by simpa using hname
      have e2 : ¬ fn.body = none := fun e => by rw [e] at hbody; cases hbody
      simp [execOp, ho, resolve, Act.eval, Deferred.ofValue, invoke, callFunc, hfn, e1, e2]
    have hcall := hfok ρ (ds.map .one) _ r hr w (args.map a.eval) (GOk.lift h) (by simp [hlen]) (fun i d hi => by
      rw [List.getElem?_map] at hi
      cases hd : ds[i]? with
      | none => rw [hd] at hi; cases hi
      | some d1 =>
        rw [hd] at hi
        simp only [Option.map_some, Option.some.injEq] at hi
        obtain ⟨x, hx1, hx2⟩ := hargs i d1 hd
        exact ⟨d1, a.eval x, hi.symm, by simp at hx1; simp [hx1], hx2⟩)
    unfold Oper.wp
    rw [hrun]
    refine Calls.mono hcall fun e w' he => ?_
    obtain ⟨d, v, hk, rfl, hb, ℓ, g1, g2, g3, g4⟩ := he
    have hs := h.ext hb
    show Post X w0 K r (a.put o.dst v) w'
    cases hd : o.dst with
    | none => rw [hd] at hk; exact ⟨S, loc, fin_none hk, hs⟩
    | some dd =>
      rw [hd] at hk
      obtain ⟨q1, q2, q3⟩ := fin_some hk
      obtain ⟨loc2, hs2⟩ := hs.fin q1 ℓ d.toPV v (DRep.rep g4 fun b hb => .inl (Nat.le_trans h.hB hb)) (fun k hk => by rw [DV.toPV_ref] at hk; cases hk) g3 g2 (fun j b o hj => by
        obtain ⟨p1, p2⟩ := g1 j b o hj
        exact ⟨p2, .inl (Nat.le_trans h.hB p1), fun i j' o' e0 => by have := (h.lt i j' b o' e0).1; omega⟩)
      exact ⟨_, loc2, q3, hs2⟩
  · exact op_callR hE h ho hr
  · cases hr

theorem sc_desc {t : TypeId} {ti : TI} {τ : T0} (ht : TOk X.P t ti) (hc : ti.cod = some (.sc τ)) : X.P.underlying t = some (match τ with | .int k => .int k | .bool => .bool | .str => .string) := by rw [ht.und, (ht.scal τ hc).2.2]; cases τ <;> rfl
theorem op_ta {x : Operand} {u t : TypeId} {ok : Bool} (hE : EnvOk X E) (h : Sim X w0 S a w loc) (ho : o.op = .typeAssert x u t ok) (hr : evTA E t ok (opd S x) (fun p => fin o.dst K p S) = some r) : o.wp X.P a w (Post X w0 K r) Q := by
  unfold evTA at hr
  split at hr
  · rename_i ti v hti hx
    have ht := hE.T t ti hti
    have e1 := opd_raw h hx
    split at hr
    · rename_i τ hc
      have hu := sc_desc ht hc
      obtain ⟨hfit, hr⟩ := chk_some hr
      obtain ⟨z, hz, _⟩ := run_zero ht w
      have fails : ∀ v : Value, a.eval x = v → (v = .nilIface ∨ ∃ q y, v = .iface q y ∧ q ≠ t) → fin o.dst K (.tup [.junk, .raw (.bool false)]) S = some r → o.wp X.P a w (Post X w0 K r) Q := fun v hv hq hr => by
        have hrun : (execOp a.eval o).run X.P w = .ok (.value (.tuple #[z, .bool false])) w := by
          rcases hq with rfl | ⟨q, y, rfl, hne⟩
          · cases τ <;> simp [execOp, ho, hv, Instr.typeAssert, run_underlying hu, hz]
          · cases τ <;> simp [execOp, ho, hv, Instr.typeAssert, run_underlying hu, hz, hne]
        refine wp0 (p := .tup [.junk, .raw (.bool false)]) hrun h hr rfl ⟨#[z, .bool false], rfl, rfl, fun j d hd => ?_⟩ (fun k hk => by cases hk)
        match j with
        | 0 => cases hd; exact ⟨z, rfl, trivial⟩
        | 1 => cases hd; exact ⟨.bool false, rfl, rfl⟩
        | j + 2 => cases hd
      cases v with
      | nilIface => exact fails _ e1 (.inl rfl) hr
      | iface q y =>
        by_cases hq : q = t
        · subst hq
          have hd : (τ.dec y).isSome = true := by simpa [fitT] using hfit
          obtain ⟨y', hy'⟩ := Option.isSome_iff_exists.1 hd
          have hyv := T0.dec_ok hy'
          have hr : fin o.dst K (.raw (.tuple #[τ.val (asT τ q (.iface q y)), .bool true])) S = some r := by
            have : isT q (.iface q y) = true := by simp [isT]
            rw [this] at hr; exact hr
          have ha : τ.val (asT τ q (.iface q y)) = y := by
            show τ.val (if q = q then (τ.dec y).getD τ.dflt else τ.dflt) = y
            rw [if_pos rfl, hy']; exact hyv
          rw [ha] at hr
          refine wp_raw (v := .tuple #[y, .bool true]) ?_ h hr
          cases τ <;> simp [execOp, ho, e1, Instr.typeAssert, run_underlying hu]
        · have : isT t (.iface q y) = false := by simp [isT, hq]
          rw [this] at hr
          exact fails _ e1 (.inr ⟨q, y, rfl, hq⟩) hr
      | _ => simp [fitT] at hfit
    · cases hr
  · cases hr
theorem op_mi {x : Operand} {t : TypeId} (hE : EnvOk X E) (h : Sim X w0 S a w loc) (ho : o.op = .makeInterface t x) (hr : evMI E t (opd S x) (fun p => fin o.dst K p S) = some r) : o.wp X.P a w (Post X w0 K r) Q := by
  unfold evMI at hr
  split at hr
  · rename_i ti v hti hx
    have ht := hE.T t ti hti
    have e1 := opd_raw h hx
    split at hr
    · rename_i τ hc
      have hu := sc_desc ht hc
      refine wp_raw (v := .iface t v) ?_ h hr
      cases τ <;> simp [execOp, ho, e1, Instr.makeInterface, run_underlying hu]
    · cases hr
  · cases hr
/-- ONE OPERATION: what the evaluator tells is what it does. -/
theorem evOp_sound (hE : EnvOk X E) (h : Sim X w0 S a w loc) (hr : evOp E S o.dst o.op o.type (fin o.dst K) = some r) : o.wp X.P a w (Post X w0 K r) Q := by
  cases ho : o.op with
  | move x => exact op_move h ho hr
  | assign x => exact op_assign hE h ho hr
  | pick c x y => exact op_pick h ho hr
  | alloc t => exact op_alloc hE h ho hr
  | box t x => exact op_box h ho hr
  | build t parts => rw [ho] at hr; exact evBuild_ok hE h ho hr
  | buildSlice t len parts => rw [ho] at hr; exact evBuildSlice_ok hE h ho hr
  | load t x =>
    rw [ho] at hr
    have hr : evLoad E S t (selfAlias x (opd S x)) (fun q => fin o.dst K q S) = some r := hr
    generalize hp : selfAlias x (opd S x) = p at hr
    have hj : p ≠ .junk ∧ (∀ s q, p ≠ .iter s q) ∧ (∀ ds, p ≠ .tup ds) := by
      refine ⟨fun e => ?_, fun _ _ e => ?_, fun _ e => ?_⟩ <;> (rw [e] at hr; simp only [evLoad] at hr; split at hr <;> cases hr)
    obtain ⟨h1, h2, h3⟩ := opd_rep h hp hj.1 hj.2.1 hj.2.2
    exact evLoad_ok hE h ho rfl h2 h3 hr
  | store t x y =>
    rw [ho] at hr
    have hr : evStore E S t (selfAlias x (opd S x)) (opd S y) (fun S' => fin o.dst K (.raw undef) S') = some r := hr
    generalize hp : selfAlias x (opd S x) = p at hr
    have hj : p ≠ .junk ∧ (∀ s q, p ≠ .iter s q) ∧ (∀ ds, p ≠ .tup ds) := by
      refine ⟨fun e => ?_, fun _ _ e => ?_, fun _ e => ?_⟩ <;> (rw [e] at hr; simp only [evStore] at hr; split at hr <;> cases hr)
    obtain ⟨h1, h2, h3⟩ := opd_rep h hp hj.1 hj.2.1 hj.2.2
    refine evStore_ok hE h ho rfl rfl h2 h3 (fun hq => ?_) hr
    cases y with
    | tmp s => exact copy_rep h hq
    | const c => rfl
    | global g => rfl
    | func f => rfl
  | nilCheck x => exact op_nilCheck h ho hr
  | binOp op t x y ty => exact op_binOp hE h ho hr (fun hr => evCmp_ok hE h ho hr)
  | makeSlice t x y => rw [ho] at hr; exact evMake_ok hE h ho hr
  | unOp op t x => exact op_unOp h ho hr
  | convert s d x =>
    rw [ho] at hr
    have hr : evConvert E S s d (selfAlias x (opd S x)) (fun q => fin o.dst K q S) = some r := hr
    generalize hp : selfAlias x (opd S x) = p at hr
    have hj : p ≠ .junk ∧ (∀ s q, p ≠ .iter s q) ∧ (∀ ds, p ≠ .tup ds) := by
      refine ⟨fun e => ?_, fun _ _ e => ?_, fun _ e => ?_⟩ <;> (rw [e] at hr; simp only [evConvert] at hr; (repeat' split at hr) <;> simp_all [contentT, content])
    obtain ⟨h1, h2, h3⟩ := opd_rep h hp hj.1 hj.2.1 hj.2.2
    exact evConvert_ok hE h ho rfl h1 h2 h3 hr
  | slice t x lo hi mx =>
    cases mx with
    | some m => rw [ho] at hr; cases hr
    | none =>
      rw [ho] at hr
      have hr : evSlice E S t (selfAlias x (opd S x)) lo hi (fun q => fin o.dst K q S) = some r := hr
      generalize hp : selfAlias x (opd S x) = p at hr
      have hj : p ≠ .junk ∧ (∀ s q, p ≠ .iter s q) ∧ (∀ ds, p ≠ .tup ds) := by
        refine ⟨fun e => ?_, fun _ _ e => ?_, fun _ e => ?_⟩ <;> (rw [e] at hr; simp only [evSlice] at hr; (repeat' split at hr) <;> simp_all [contentT, content])
      obtain ⟨h1, h2, h3⟩ := opd_rep h hp hj.1 hj.2.1 hj.2.2
      exact evSlice_ok hE h ho rfl h2 h3 hr
  | sliceToArrayPointer t x =>
    rw [ho] at hr
    have hr : evArrAt E S t (selfAlias x (opd S x)) (fun q => fin o.dst K q S) = some r := hr
    generalize hp : selfAlias x (opd S x) = p at hr
    have hj : p ≠ .junk ∧ (∀ s q, p ≠ .iter s q) ∧ (∀ ds, p ≠ .tup ds) := by
      refine ⟨fun e => ?_, fun _ _ e => ?_, fun _ e => ?_⟩ <;> (rw [e] at hr; simp only [evArrAt] at hr; (repeat' split at hr) <;> simp_all)
    obtain ⟨h1, h2, h3⟩ := opd_rep h hp hj.1 hj.2.1 hj.2.2
    exact evArrAt_ok hE h ho rfl h2 h3 hr
  | fieldAddr t x f =>
    rw [ho] at hr
    have hr : evFieldAddr E S t (selfAlias x (opd S x)) f (fun q => fin o.dst K q S) = some r := hr
    generalize hp : selfAlias x (opd S x) = p at hr
    have hj : p ≠ .junk ∧ (∀ s q, p ≠ .iter s q) ∧ (∀ ds, p ≠ .tup ds) := by
      refine ⟨fun e => ?_, fun _ _ e => ?_, fun _ e => ?_⟩ <;> (rw [e] at hr; simp only [evFieldAddr] at hr; (repeat' split at hr) <;> simp_all [contentT, content])
    obtain ⟨h1, h2, h3⟩ := opd_rep h hp hj.1 hj.2.1 hj.2.2
    exact evFieldAddr_ok hE h ho rfl h2 h3 hr
  | indexAddr t x i =>
    rw [ho] at hr
    simp only [evOp] at hr
    split at hr
    · rename_i n hi
      obtain ⟨k, hk⟩ := asI_val h hi
      generalize hp : selfAlias x (opd S x) = p at hr
      have hj : p ≠ .junk ∧ (∀ s q, p ≠ .iter s q) ∧ (∀ ds, p ≠ .tup ds) := by
        refine ⟨fun e => ?_, fun _ _ e => ?_, fun _ e => ?_⟩ <;> (rw [e] at hr; simp only [evIndexAddr] at hr; (repeat' split at hr) <;> simp_all [contentT, content])
      obtain ⟨h1, h2, h3⟩ := opd_rep h hp hj.1 hj.2.1 hj.2.2
      exact evIndexAddr_ok hE h ho rfl hk h2 h3 hr
    · cases hr
  | typeAssert x u t ok => rw [ho] at hr; exact op_ta hE h ho hr
  | makeInterface t x => rw [ho] at hr; exact op_mi hE h ho hr
  | index t x i => exact op_index hE h ho hr
  | range t x => exact op_range hE h ho hr
  | next x b =>
    cases b with
    | true => exact op_next (ty := 0) h ho hr
    | false => rw [ho] at hr; cases hr
  | extract x i => exact op_extract h ho hr
  | call c =>
    obtain ⟨callee, args, ats⟩ := c
    cases callee with
    | value f =>
      cases f with
      | func f => exact op_call hE h ho hr
      | _ => rw [ho] at hr; cases hr
    | invoke x m => rw [ho] at hr; cases hr
    | builtin b =>
      cases b with
      | len =>
        rw [ho] at hr
        simp only [evOp] at hr
        split at hr
        · rename_i x t hx ht
          exact evLen_ok hE h ho hx ht hr
        · cases hr
      | append =>
        rw [ho] at hr
        simp only [evOp] at hr
        split at hr
        · rename_i x y t hx hy ht
          split at hr
          · rename_i t2 ht2
            split at hr
            · rename_i hok
              exact evAppend_ok hE h ho hx hy ht ht2 hok hr
            · cases hr
          · cases hr
        · cases hr
      | copy =>
        rw [ho] at hr
        simp only [evOp] at hr
        split at hr
        · rename_i x y t hx hy ht
          exact evCopy_ok hE h ho hx hy ht hr
        · cases hr
      | _ => rw [ho] at hr; cases hr
  | _ => rw [ho] at hr; cases hr
end
end Go.Px

