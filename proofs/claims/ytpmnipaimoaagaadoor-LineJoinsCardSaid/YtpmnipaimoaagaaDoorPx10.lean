/- Slices made and grown. -/
import Derived.Test.YtpmnipaimoaagaaDoorPx9
set_option linter.unusedVariables false
set_option linter.unusedSimpArgs false
namespace Go.Px
open Go Go.RowKit

section
variable {X : Cx} {ρ : Type} {w0 : World} {S : St} {a : Act} {w : World} {loc : Nat → Nat → Option (Nat × Nat)} {E : Env ρ} {K : St → Option ρ} {r : ρ} {o : Oper} {Q : Exit → Act → World → Prop}

theorem selfAlias_owns {x : Operand} {p : PV} (hi : ∀ s q, p ≠ .iter s q) (ht : ∀ ds, p ≠ .tup ds) (hx : opd S x = p) : (selfAlias x p).owns = false := by
  cases x with
  | tmp s => cases p <;> first | rfl | exact absurd rfl (hi _ _) | exact absurd rfl (ht _)
  | const c => simp [opd] at hx; subst hx; rfl
  | global g => simp [opd] at hx; subst hx; rfl
  | func f => simp [opd] at hx; subst hx; rfl
theorem selfAlias_iter {x : Operand} {S : St} {s : ByteArray} {q : Nat} (h : opd S x = .iter s q) : selfAlias x (opd S x) = .iter s q := by rw [h]; cases x <;> rfl
theorem selfAlias_tup {x : Operand} {S : St} {ds : List D1} (h : opd S x = .tup ds) : selfAlias x (opd S x) = .tup ds := by rw [h]; cases x <;> rfl
/-- what an operand stands for, where it is neither a walk nor several values nor nothing -/
theorem opd_rep (h : Sim X w0 S a w loc) {x : Operand} {p : PV} (hx : selfAlias x (opd S x) = p) (hj : p ≠ .junk) (hi : ∀ s q, p ≠ .iter s q) (ht : ∀ ds, p ≠ .tup ds) :
    p.owns = false ∧ Rep X w S a.tmps loc (fun _ => none) p (a.eval x) ∧ (∀ k, p.ref = some k → (get S k).owns = true) := by
  have hi' : ∀ s q, opd S x ≠ .iter s q := fun s q e => hi s q (by rw [← hx]; exact selfAlias_iter e)
  have ht' : ∀ ds, opd S x ≠ .tup ds := fun ds e => ht ds (by rw [← hx]; exact selfAlias_tup e)
  have hj' : opd S x ≠ .junk := fun e => hj (by rw [← hx, e]; cases x <;> rfl)
  obtain ⟨h1, h2⟩ := opd_self h rfl hj' hi' ht'
  rw [hx] at h1 h2
  exact ⟨by rw [← hx]; exact selfAlias_owns hi' ht' rfl, h1, h2⟩
theorem run_len {args : Array Operand} {ats : Array TypeId} {x : Operand} {t : TypeId} (ho : o.op = .call { callee := .builtin .len, args := args, argTypes := ats }) (hx : args[0]? = some x) (ht : ats[0]? = some t) {v z : Value} (hv : a.eval x = v)
    (hl : (Builtin.len_ #[t] o.type #[v]).run X.P w = .ok z w) : (execOp a.eval o).run X.P w = .ok (.value z) w := by
  have e : Builtin.len_ ats o.type (args.map a.eval) = Builtin.len_ #[t] o.type #[v] := by
    unfold Builtin.len_
    simp [hx, ht, hv]
  simp [execOp, ho, resolve, invoke, builtin, e, hl]
theorem evLen_ok {args : Array Operand} {ats : Array TypeId} {x : Operand} {t : TypeId} (hE : EnvOk X E) (h : Sim X w0 S a w loc) (ho : o.op = .call { callee := .builtin .len, args := args, argTypes := ats }) (hx : args[0]? = some x) (hat : ats[0]? = some t)
    (hr : evLen E S t (selfAlias x (opd S x)) (fun q => fin o.dst K q S) = some r) : o.wp X.P a w (Post X w0 K r) Q := by
  unfold evLen at hr
  split at hr
  · rename_i ti hti
    have ht := hE.T t ti hti
    have hu := ht.und
    split at hr
    · rename_i st hd hp
      rw [hd] at hu
      obtain ⟨_, hv, _⟩ := opd_rep h hp (by simp) (by simp) (by simp)
      have hv : a.eval x = .string st := hv
      refine wp_raw (run_len ho hx hat hv ?_) h hr
      simp [Builtin.len_, run_underlying hu, goInt]
    · rename_i e p hd
      rw [hd] at hu
      split at hr
      · rename_i n hn
        have hv : ∃ ad cap, a.eval x = .slice ad n cap := by
          generalize hq : selfAlias x (opd S x) = q at hn
          have hrep := opd_rep h hq (fun e => by rw [e] at hn; simp [slLen] at hn) (fun _ _ e => by rw [e] at hn; simp [slLen] at hn) (fun _ e => by rw [e] at hn; simp [slLen] at hn)
          obtain ⟨h1, h2, h3⟩ := hrep
          unfold slLen at hn
          split at hn
          · cases hn; exact ⟨none, 0, h2⟩
          · cases hn; obtain ⟨ad, cap, q1, _⟩ := h2; exact ⟨ad, cap, q1⟩
          · simp [PV.owns] at h1
          · rename_i k
            split at hn
            · rename_i C l hs
              cases hn
              have := alias_val h h2 (h3 k rfl)
              rw [hs] at this
              obtain ⟨ad, cap, q1, _⟩ := OwnRep.sl this
              exact ⟨ad, cap, q1⟩
            · cases hn
          · cases hn
            obtain ⟨base, sz, cnt, _, _, e3⟩ := h2
            rcases e3 with ⟨_, q1, rfl⟩ | ⟨b, o2, o3, cap, _, q2, _⟩
            · exact ⟨_, _, q1⟩
            · exact ⟨_, _, q2⟩
          · cases hn
        obtain ⟨ad, cap, hv⟩ := hv
        refine wp_raw (run_len ho hx hat hv ?_) h hr
        simp [Builtin.len_, run_underlying hu, goInt]
      · cases hr
    · rename_i n e hd
      rw [hd] at hu
      refine wp_raw (run_len ho hx hat rfl ?_) h hr
      simp [Builtin.len_, run_underlying hu, goInt]
    · cases hr
  · cases hr

/-! ### what is appended or copied -/
structure Src (w : World) (C : Cod) (y : List C.α) (v : Value) : Prop where
  len : ∀ (P : Program) (w' : World), (Builtin.lenOf v).run P w' = .ok y.length w'
  cells : ∀ (P : Program) (m : Nat) (w' : World), w'.heap = w.heap → m ≤ y.length → (Builtin.firstCells C.sz m v).run P w' = .ok (flat C (y.take m)).toArray w'
theorem SlRep.heap {w w' : World} {C : Cod} {l : List C.α} {v : Value} (h : SlRep w C l v) (hw : w'.heap = w.heap) : SlRep w' C l v := by
  obtain ⟨ad, cap, h1, h2, h3⟩ := h
  refine ⟨ad, cap, h1, h2, h3.imp id ?_⟩
  rintro ⟨b, o, cur, e, fr, g1, g2, g3, g4⟩
  exact ⟨b, o, cur, e, fr, g1, by rw [hw]; exact g2, by rw [hw]; exact g3, g4⟩
theorem SlRep.src {C : Cod} {l : List C.α} {v : Value} (h : SlRep w C l v) : Src w C l v := by
  obtain ⟨ad, cap, h1, h2, h3⟩ := id h
  subst h1
  refine ⟨fun P w' => rfl, fun P m w' hw hm => ?_⟩
  cases ad with
  | none => obtain ⟨rfl, _⟩ := sl_nil h; simp [Builtin.firstCells, flat]
  | some ad => exact (sl_load (SlRep.heap h hw) P m hm).2
theorem str_src (s : ByteArray) (w : World) : Src w (.sc (.int .u8)) (bytesOf s) (.string s) := by
  have hl : (bytesOf s).length = s.size := by simp [bytesOf]
  refine ⟨fun P w' => by simp [Builtin.lenOf, hl], fun P m w' _ hm => ?_⟩
  simp only [Builtin.firstCells, Sem.run_pure]
  congr 1
  apply Array.ext'
  rw [flat_sc]
  simp only [bytesOf, Array.toList_map, ByteArray.data_extract, Array.toList_extract, List.extract_eq_take_drop, List.drop_zero, Nat.sub_zero, ← List.map_take, List.map_map]
  rfl
theorem srcOf_ok (h : Sim X w0 S a w loc) {C : Cod} {x : Operand} {y : List C.α} (hy : srcOf E S C (selfAlias x (opd S x)) = some y) : Src w C y (a.eval x) := by
  generalize hp : selfAlias x (opd S x) = p at hy
  unfold srcOf at hy
  split at hy
  · rename_i s
    cases hy
    obtain ⟨_, hv, _⟩ := opd_rep h hp (by simp) (by simp) (by simp)
    have hv : a.eval x = .string s := hv
    rw [hv]; exact str_src s w
  · have hj : p ≠ .junk ∧ (∀ s q, p ≠ .iter s q) ∧ (∀ ds, p ≠ .tup ds) := by
      refine ⟨fun e => ?_, fun _ _ e => ?_, fun _ e => ?_⟩ <;> (rw [e] at hy; simp [contentT, content] at hy)
    obtain ⟨h1, h2, h3⟩ := opd_rep h hp hj.1 hj.2.1 hj.2.2
    exact (contentT_sl h hy h1 h2 h3).src

/-! ### buildSlice -/
theorem recDec_ok : (fs : List T0) → (vs : List Value) → (x : recα fs) → recDec fs vs = some x → recVals fs x = vs
  | [], [], x, h => rfl
  | [], v :: vs, x, h => by simp [recDec] at h
  | t :: fs, [], x, h => by simp [recDec] at h
  | t :: fs, v :: vs, x, h => by
    simp only [recDec] at h
    cases hd : t.dec v with
    | none => rw [hd] at h; cases h
    | some y =>
      rw [hd] at h
      simp only [Option.bind_some] at h
      cases hr : recDec fs vs with
      | none => rw [hr] at h; cases h
      | some z =>
        rw [hr] at h
        simp only [Option.bind_some, Option.some.injEq] at h
        subst h
        simp [recVals, T0.dec_ok hd, recDec_ok fs vs z hr]
theorem ones_ok : (ss : List Seg) → (l : List Value) → ones ss = some l → segCells ss = l
  | [], l, h => by simp [ones] at h; subst h; rfl
  | .one v :: r, l, h => by
    simp only [ones] at h
    cases hr : ones r with
    | none => rw [hr] at h; cases h
    | some m =>
      rw [hr] at h
      simp only [Option.bind_some, Option.some.injEq] at h
      subst h
      have := ones_ok r m hr
      simp [segCells, Seg.cells] at this ⊢
      rw [this]
  | .arr .. :: r, l, h => by simp [ones] at h
theorem elem_ok (h : Sim X w0 S a w loc) {x : Operand} {C : Cod} {y : C.α} (hy : (opd S x).elem C = some y) : (a.eval x).cells.toList = C.cells y := by
  cases hp : opd S x with
  | raw v =>
    rw [hp] at hy
    have hv := opd_raw h hp
    simp only [PV.elem] at hy
    cases C with
    | sc t =>
      simp only at hy
      have := T0.dec_ok hy
      rw [hv, ← this, oneC_cells (t.val_oneC y)]; rfl
    | strc fs => simp at hy
  | strc ss =>
    rw [hp] at hy
    simp only [PV.elem] at hy
    cases C with
    | sc t => simp at hy
    | strc fs =>
      simp only at hy
      cases ho : ones ss with
      | none => rw [ho] at hy; cases hy
      | some l =>
        rw [ho] at hy
        simp only [Option.bind_some] at hy
        have h1 := recDec_ok fs l y hy
        have h2 := ones_ok ss l ho
        have hrep : segsOk w X.Low ss ∧ a.eval x = .agg (segCells ss).toArray := by
          cases x with
          | tmp s => rw [opd_tmp] at hp; have := copy_rep h (s := s) (by rw [hp]; rfl); rw [hp] at this; exact this
          | const c => simp [opd] at hp
          | global g => simp [opd] at hp
          | func f => simp [opd] at hp
        rw [hrep.2]
        show (segCells ss).toArray.toList = recVals fs y
        rw [h1, ← h2]
  | _ => rw [hp] at hy; simp [PV.elem] at hy
theorem fill_ok {sz : Nat} : (vs : List Value) → (parts : List (Nat × Value)) → (i : Nat) → (cells : Array Value) → parts = vs.zipIdx.map (fun x => (i + x.2, x.1)) → (∀ v ∈ vs, v.cells.size = sz) → (i + vs.length) * sz ≤ cells.size →
    Instr.fill (fun j => some (j * sz, sz)) cells parts = some (splice cells (i * sz) (vs.flatMap fun v => v.cells.toList))
  | [], parts, i, cells, hp, _, _ => by subst hp; simp [Instr.fill, splice]
  | v :: vs, parts, i, cells, hp, hs, hl => by
    have hv : v.cells.size = sz := hs v (by simp)
    have hfit : i * sz + sz ≤ cells.size := by
      have : (i + 1) * sz ≤ (i + (v :: vs).length) * sz := Nat.mul_le_mul_right _ (by simp)
      rw [Nat.add_mul, Nat.one_mul] at this; omega
    have hp2 : parts = (i, v) :: (vs.zipIdx.map fun x => (i + 1 + x.2, x.1)) := by
      rw [hp, List.zipIdx_cons', List.map_cons, List.map_map]
      simp [Function.comp_def, Nat.add_assoc, Nat.add_comm 1]
    rw [hp2]
    simp only [Instr.fill, hv, ne_eq, not_true_eq_false, decide_false, Bool.false_or]
    rw [if_neg (by simp; omega)]
    have hfold : ∀ (cs : List Value) (off k : Nat) (arr : Array Value), off + k + cs.length ≤ arr.size → (cs.zipIdx k).foldl (fun ac (x : Value × Nat) => ac.setIfInBounds (off + x.2) x.1) arr = splice arr (off + k) cs := by
      intro cs
      induction cs with
      | nil => intro off k arr _; simp [splice]
      | cons c cs ih =>
        intro off k arr hle
        simp only [List.length_cons] at hle
        simp only [List.zipIdx_cons, List.foldl_cons]
        rw [ih off (k + 1) _ (by simp; omega)]
        simp only [splice, Array.toList_setIfInBounds, List.length_cons]
        congr 1
        have hlt : off + k < arr.toList.length := by simp; omega
        generalize arr.toList = c' at hlt
        rw [show off + (k + 1) = off + k + 1 by omega]
        have e1 : (c'.set (off + k) c).take (off + k + 1) = c'.take (off + k) ++ [c] := by
          rw [List.take_set, List.take_succ_eq_append_getElem hlt, List.set_append]
          simp [Nat.min_eq_left (Nat.le_of_lt hlt)]
        have e2 : (c'.set (off + k) c).drop (off + k + 1 + cs.length) = c'.drop (off + k + 1 + cs.length) := List.drop_set_of_lt (by omega)
        rw [e1, e2]
        simp [Nat.add_assoc, Nat.add_comm 1]
    have hf : v.cells.zipIdx.foldl (fun cs (x : Value × Nat) => cs.setIfInBounds (i * sz + x.2) x.1) cells = splice cells (i * sz) v.cells.toList := by
      rw [← Array.foldl_toList, Array.toList_zipIdx]
      have := hfold v.cells.toList (i * sz) 0 cells (by simp [hv]; exact hfit)
      simpa using this
    have hcs : (splice cells (i * sz) v.cells.toList).size = cells.size := splice_size (by simp [hv]; exact hfit)
    have ih := fill_ok vs _ (i + 1) (splice cells (i * sz) v.cells.toList) rfl (fun x hx => hs x (by simp [hx])) (by rw [hcs]; simp at hl; rw [show i + 1 + vs.length = i + (vs.length + 1) by omega]; exact hl)
    have hgoal : Instr.fill (fun j => some (j * sz, sz)) (v.cells.zipIdx.foldl (fun cs (x : Value × Nat) => cs.setIfInBounds (i * sz + x.2) x.1) cells) (vs.zipIdx.map fun x => (i + 1 + x.2, x.1)) = some (splice cells (i * sz) ((v :: vs).flatMap fun v => v.cells.toList)) := by
      rw [hf, ih]
      congr 1
      simp only [splice, List.flatMap_cons, List.length_append]
      congr 1
      have hl1 : v.cells.toList.length = sz := by simp [hv]
      have hct : cells.toList.length = cells.size := by simp
      rw [hl1, Nat.add_mul, Nat.one_mul]
      generalize hF : (vs.flatMap fun v => v.cells.toList) = F
      have t1 : (cells.toList.take (i * sz) ++ v.cells.toList ++ cells.toList.drop (i * sz + sz)).take (i * sz + sz) = cells.toList.take (i * sz) ++ v.cells.toList := by
        have : (cells.toList.take (i * sz) ++ v.cells.toList).length = i * sz + sz := by simp [hv]; omega
        rw [← this, List.take_left]
      have t2 : (cells.toList.take (i * sz) ++ v.cells.toList ++ cells.toList.drop (i * sz + sz)).drop (i * sz + sz + F.length) = cells.toList.drop (i * sz + (sz + F.length)) := by
        have : (cells.toList.take (i * sz) ++ v.cells.toList).length = i * sz + sz := by simp [hv]; omega
        rw [← List.drop_drop, ← this, List.drop_left, List.drop_drop, this, Nat.add_assoc]
      rw [t1, t2]
      simp [List.append_assoc]
    exact hgoal
end
end Go.Px
