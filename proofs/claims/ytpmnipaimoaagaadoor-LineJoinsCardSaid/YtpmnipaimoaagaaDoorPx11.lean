/- Slices grown, copies, assignments. -/
import Derived.Test.YtpmnipaimoaagaaDoorPx10
set_option linter.unusedVariables false
set_option linter.unusedSimpArgs false
namespace Go.Px
open Go Go.RowKit

section
variable {X : Cx} {ρ : Type} {w0 : World} {S : St} {a : Act} {w : World} {loc : Nat → Nat → Option (Nat × Nat)} {E : Env ρ} {K : St → Option ρ} {r : ρ} {o : Oper} {Q : Exit → Act → World → Prop}

theorem elems_ok (h : Sim X w0 S a w loc) {C : Cod} : (parts : List (Nat × Operand)) → (i : Nat) → (l : List C.α) → elems S C i parts = some l →
    parts.map (fun x => (x.1, a.eval x.2)) = (parts.map fun x => a.eval x.2).zipIdx.map (fun x => (i + x.2, x.1)) ∧ ((parts.map fun x => a.eval x.2).flatMap fun v => v.cells.toList) = flat C l ∧ (∀ v ∈ parts.map (fun x => a.eval x.2), v.cells.size = C.sz) ∧ l.length = parts.length
  | [], i, l, hl => by simp [elems] at hl; subst hl; simp [flat]
  | (j, x) :: rest, i, l, hl => by
    simp only [elems] at hl
    split at hl
    · rename_i hij
      subst hij
      cases hx : (opd S x).elem C with
      | none => rw [hx] at hl; cases hl
      | some y =>
        rw [hx] at hl
        simp only [Option.bind_some] at hl
        cases hr : elems S C (i + 1) rest with
        | none => rw [hr] at hl; cases hl
        | some m =>
          rw [hr] at hl
          simp only [Option.bind_some, Option.some.injEq] at hl
          subst hl
          obtain ⟨h1, h2, h3, h4⟩ := elems_ok h rest (i + 1) m hr
          have he := elem_ok h hx
          refine ⟨?_, ?_, ?_, by simp [h4]⟩
          · simp only [List.map_cons, List.zipIdx_cons', List.map_map] at h1 ⊢
            rw [h1]
            simp [Function.comp_def, Nat.add_assoc, Nat.add_comm 1]
          · simp only [List.map_cons, List.flatMap_cons] at h2 ⊢
            rw [h2, he]; rfl
          · intro v hv
            simp only [List.map_cons, List.mem_cons] at hv
            rcases hv with rfl | hv
            · have := congrArg List.length he
              simpa [cells_length] using this
            · exact h3 v hv
    · cases hl
theorem evBuildSlice_ok {t : TypeId} {len : Nat} {parts : Array (Nat × Operand)} (hE : EnvOk X E) (h : Sim X w0 S a w loc) (ho : o.op = .buildSlice t len parts)
    (hr : evBuildSlice E S t len parts.toList (fun q => fin o.dst K q S) = some r) : o.wp X.P a w (Post X w0 K r) Q := by
  unfold evBuildSlice at hr
  split at hr
  · cases hr
  · rename_i C bb hco
    obtain ⟨e, te, q1, q2, q3, q4, q5⟩ := codOf_ok hE hco
    split at hr
    · rename_i hc
      obtain ⟨hc1, hc2, hc3, hc4, hc5⟩ := hc
      split at hr
      · rename_i l hl
        obtain ⟨h1, h2, h3, h4⟩ := elems_ok h parts.toList 0 l hl
        obtain ⟨z, hz1, hz2⟩ := run_zero q2 w
        have hfl : (flat C l).length = len * C.sz := by rw [flat_length, h4, hc1]
        have hfill := fill_ok (sz := C.sz) (parts.toList.map fun x => a.eval x.2) (parts.toList.map fun x => (x.1, a.eval x.2)) 0 ((Array.range (len * C.sz)).map (z.cells[· % z.cells.size]!)) (by rw [h1]) h3
          (by simp [hc1])
        rw [h2] at hfill
        have hsp : splice ((Array.range (len * C.sz)).map (z.cells[· % z.cells.size]!)) (0 * C.sz) (flat C l) = (flat C l).toArray := by
          simp [splice, hfl]
        rw [hsp] at hfill
        have hsz := sizeOf_run q2
        rw [q4] at hsz
        have hrun : (execOp a.eval o).run X.P w = .ok (.value (.slice (some ⟨w.heap.size, 0, none⟩) len len)) { w with heap := w.heap.push (.cells (flat C l).toArray e) } := by
          have hn2 : ¬ (len * C.sz > 2 ^ 24) := by
            have : len * C.sz ≤ 64 * 1000 := Nat.mul_le_mul hc3 hc4
            omega
          have hpe : (parts.map fun (x : Nat × Operand) => (x.1, a.eval x.2)).toList = parts.toList.map fun x => (x.1, a.eval x.2) := by simp
          have h0 : ¬ (len * C.sz = 0) := by
            have := Nat.mul_pos hc2 hc5
            omega
          simp only [execOp, ho, Sem.run_bind, Instr.buildSlice, run_underlying q1, Result.andThen_ok, hsz, hn2, h0, if_false, hz1, Sem.run_pure]
          rw [hpe, hfill]
          simp [newRow]
        refine wp1 w.heap.size 0 hrun (h.ext (below_alloc' w _)) hr rfl rfl ?_ (new_block h _)
        exact .inr ⟨w.heap.size, 0, len, (flat C l).toArray, e, (0, 0), by simp, by rw [h4, hc1], .inl h.hB, by simp, harm0 _, by rw [h4, hc1]; exact Nat.le_refl _, by simp [hfl], fun j x hj => by simpa using hj⟩
      · cases hr
    · cases hr

/-! ### append -/
theorem not_int_desc (d : TypeDesc) (h : ∀ k, d ≠ .int k) : (match d with | .int _ => true | _ => false) = false := by cases d <;> first | rfl | exact absurd rfl (h _)
theorem run_append_in {P : Program} {t t2 e : TypeId} {d2 : TypeDesc} (ht : P.underlying t = some (.slice e)) (ht2 : P.underlying t2 = some d2) (hd2 : ∀ k, d2 ≠ .int k) (ty : TypeId) {C : Cod} (hs : ∀ w : World, (Go.sizeOf e).run P w = .ok C.sz w)
    {y : List C.α} {u : Value} (hy : Src w C y u) {b off n cap : Nat} {cur : Array Value} {e' : TypeId} {fr : Nat × Nat} (hb : w.heap[b]? = some (.cells cur e' fr)) (hh : Harm fr cur.size) (hroom : n + y.length ≤ cap) (hfit : off + cap * C.sz ≤ cur.size) :
    (Builtin.append_ #[t, t2] ty #[.slice (some ⟨b, off, none⟩) n cap, u]).run P w = .ok (.slice (some ⟨b, off, none⟩) (n + y.length) cap) (w.setRow b (Px.splice cur (off + n * C.sz) (flat C y))) := by
  have hcells := hy.cells P y.length w rfl (Nat.le_refl _)
  rw [List.take_length] at hcells
  have hfl : (flat C y).length = y.length * C.sz := flat_length C y
  have hle : off + n * C.sz + (flat C y).length ≤ cur.size := by
    rw [hfl, Nat.add_assoc, ← Nat.add_mul]
    exact Nat.le_trans (Nat.add_le_add_left (Nat.mul_le_mul_right _ hroom) _) hfit
  have hst := run_storeCells P b (off + n * C.sz) e' fr (flat C y) 0 cur w hb hh (by simpa using hle) (flat_oneC C y)
  rw [Nat.add_zero] at hst
  have hz := not_int_desc d2 hd2
  unfold Builtin.append_
  simp only [List.getElem?_toArray, List.getElem?_cons_zero, List.getElem?_cons_succ, Sem.run_bind, run_underlying ht, Result.andThen_ok, hs, run_underlying ht2, Sem.run_pure, hz, Bool.false_eq_true, if_false, hy.len P, hroom, if_true, Bool.not_false, hcells, add_lit, hst]
theorem run_append_new {P : Program} {t t2 e : TypeId} {te : TI} {d2 : TypeDesc} (ht : P.underlying t = some (.slice e)) (ht2 : P.underlying t2 = some d2) (hd2 : ∀ k, d2 ≠ .int k) (ty : TypeId) {C : Cod} (hte : TOk P e te) (hsz : te.size = C.sz)
    {y l : List C.α} {u v : Value} (hy : Src w C y u) (hl : Src w C l v) {ad : Option Addr} {cap : Nat} (hv : v = .slice ad l.length cap) (hroom : cap < l.length + y.length) (hbd : (l.length + y.length) * te.bytes < 140737488355328) (hb0 : te.bytes ≠ 0) :
    ∃ cap' cs, l.length + y.length ≤ cap' ∧ cs.size = cap' * C.sz ∧ Has cs 0 (flat C (l ++ y)) ∧
      (Builtin.append_ #[t, t2] ty #[v, u]).run P w = .ok (.slice (some ⟨w.heap.size, 0, none⟩) (l.length + y.length) cap') (w.drew.alloc (.cells cs e)) := by
  obtain ⟨ti, hti1, hti2, hti3, z, hz1, hz2⟩ := hte.info
  have hts : ti.size = C.sz := by rw [hti2, hsz]
  have hcells := hy.cells P y.length w.drew rfl (Nat.le_refl _)
  have hold := hl.cells P l.length w.drew rfl (Nat.le_refl _)
  rw [List.take_length, ← hts] at hcells hold
  have hzsz : z.cells.size = C.sz := by rw [hz2]; simp [hte.zsz, hsz]
  have hge := grownCap_ge w (l.length + y.length) cap e
  have hz := not_int_desc d2 hd2
  have hn : ¬ (l.length + y.length ≤ cap) := by omega
  have hnc : ¬ (281474976710656 < Builtin.nextslicecap (l.length + y.length) cap * ti.bytes) := by
    have := growslice_fits hroom (bytes := ti.bytes) (by rw [hti3]; omega)
    omega
  have hb0' : ¬ ti.bytes = 0 := by rw [hti3]; exact hb0
  refine ⟨grownCap w (l.length + y.length) cap e, (flat C l).toArray ++ (flat C y).toArray ++ Builtin.zeroCells z.cells (grownCap w (l.length + y.length) cap e - (l.length + y.length)), hge, ?_, ?_, ?_⟩
  · simp only [Array.size_append, List.size_toArray, flat_length, size_zeroCells, hzsz]
    rw [← Nat.add_mul, ← Nat.add_mul]; congr 1; omega
  · intro j x hj
    rw [flat_append] at hj
    have hjl := (List.getElem?_eq_some_iff.1 hj).1
    rw [Nat.zero_add, Array.getElem?_append_left (by simpa using hjl)]
    simpa using hj
  · subst hv
    simp [Builtin.append_, run_underlying ht, run_underlying ht2, sizeOf, typeInfo, zeroValue, hti1, hz1, hz, hy.len, hn, hnc, hb0', Question.forced, hcells, hold, newRow, grownCap]
    rw [← List.append_toArray, Array.append_assoc]

theorem okSrc_ok (hE : EnvOk X E) {t : TypeId} (h : okSrc E t = true) : ∃ d, X.P.underlying t = some d ∧ ∀ k, d ≠ .int k := by
  unfold okSrc at h
  split at h
  · rename_i ti ht
    have hu := (hE.T t ti ht).und
    split at h
    · rename_i e hd; rw [hd] at hu; exact ⟨_, hu, fun k => by simp⟩
    · rename_i hd; rw [hd] at hu; exact ⟨_, hu, fun k => by simp⟩
    · cases h
  · cases h
theorem run_app {args : Array Operand} {ats : Array TypeId} {x y : Operand} {t t2 : TypeId} (ho : o.op = .call { callee := .builtin .append, args := args, argTypes := ats }) (hx : args[0]? = some x) (hy : args[1]? = some y) (ht : ats[0]? = some t) (ht2 : ats[1]? = some t2)
    {v u z : Value} {w' : World} (hv : a.eval x = v) (hu : a.eval y = u) (hl : (Builtin.append_ #[t, t2] o.type #[v, u]).run X.P w = .ok z w') : (execOp a.eval o).run X.P w = .ok (.value z) w' := by
  have e : Builtin.append_ ats o.type (args.map a.eval) = Builtin.append_ #[t, t2] o.type #[v, u] := by
    unfold Builtin.append_
    simp [hx, hy, ht, ht2, hv, hu]
  simp [execOp, ho, resolve, invoke, builtin, e, hl]
/-- a block that no slot owns any more may be written -/
theorem Sim.setFree (h : Sim X w0 S a w loc) {b : Nat} {cur cur' : Array Value} {e : TypeId} {fr : Nat × Nat} (hb : w.heap[b]? = some (.cells cur e fr)) (hB : X.Mine b) (hsz : cur'.size = cur.size) (hn : ∀ i j o, loc i j ≠ some (b, o)) :
    Sim X w0 S a (w.setRow b cur') loc := by
  have hoth : ∀ c, c ≠ b → (w.setRow b cur').heap[c]? = w.heap[c]? := fun c hc => setRow_other w b c cur' hc
  have hlow : ∀ c, X.Low c → (w.setRow b cur').heap[c]? = w.heap[c]? := fun c hc => hoth c (Cx.low_mine hc hB)
  refine { h with hB := by simpa using h.hB, below := h.below.trans ⟨rfl, rfl, rfl, by simp, fun c hc => hlow c hc⟩, glob := h.glob.frame hlow, rep := fun i p hp => ?_, lt := fun i j b' o' hl => by simpa using h.lt i j b' o' hl }
  obtain ⟨v, hv, hr⟩ := h.rep i p hp
  refine ⟨v, hv, hr.frame (fun j c oc hj => hoth c (fun e => hn i j oc (e ▸ hj))) hlow (fun c => ?_) (fun k _ => ⟨fun _ => rfl, rfl, rfl, rfl⟩)⟩
  by_cases hc : c = b
  · subst hc; simp [blkSize, hb, setRow_heap w c cur cur' e fr hb, hsz]
  · exact Nat.le_of_eq (blkSize_of_eq (hoth c hc)).symm
theorem room_ok {C : Cod} {bytes : Nat} {l y : List C.α} (h : room C bytes l y = true) : (l.length + y.length) * bytes < 140737488355328 := of_decide_eq_true h
/-- grown in a new block -/
theorem app_new {args : Array Operand} {ats : Array TypeId} {x y : Operand} {t t2 e : TypeId} {te : TI} {d2 : TypeDesc} {C : Cod} {l ys : List C.α} {S' : St} {loc' : Nat → Nat → Option (Nat × Nat)} {ad : Option Addr} {cap : Nat} {v : Value} (hs' : Sim X w0 S' a w loc')
    (ho : o.op = .call { callee := .builtin .append, args := args, argTypes := ats }) (hx : args[0]? = some x) (hy : args[1]? = some y) (hat : ats[0]? = some t) (hat2 : ats[1]? = some t2)
    (ht : X.P.underlying t = some (.slice e)) (ht2 : X.P.underlying t2 = some d2) (hd2 : ∀ k, d2 ≠ .int k) (hte : TOk X.P e te) (hsz : te.size = C.sz) (hb0 : te.bytes ≠ 0)
    (hsy : Src w C ys (a.eval y)) (hsl : Src w C l v) (hv : a.eval x = v) (hv2 : v = .slice ad l.length cap) (hroom : cap < l.length + ys.length) (hbd : room C te.bytes l ys = true)
    (hf : fin o.dst K (.own C (l ++ ys)) S' = some r) : o.wp X.P a w (Post X w0 K r) Q := by
  obtain ⟨cap', cs, g1, g2, g3, g4⟩ := run_append_new ht ht2 hd2 o.type hte hsz hsy hsl hv2 hroom (room_ok hbd) hb0
  have hext : Below w.heap.size w (w.drew.alloc (.cells cs e)) := ((Below.refl _ w).drew).alloc (Nat.le_refl _) _
  refine wp1 w.heap.size 0 (run_app ho hx hy hat hat2 hv rfl g4) (hs'.ext hext) hf rfl rfl ?_ ⟨by simp, .inl hs'.hB, fun i j' o' e0 => Nat.lt_irrefl _ (hs'.lt i j' _ o' e0).1⟩
  exact .inr ⟨w.heap.size, 0, cap', cs, e, (0, 0), by simp, by rw [List.length_append], .inl hs'.hB, heap_pushed _ _, harm0 _, by rw [List.length_append]; exact g1, by rw [g2]; simp, g3⟩
theorem app_use {args : Array Operand} {ats : Array TypeId} {x y : Operand} {t t2 e : TypeId} {te : TI} {d2 : TypeDesc} {C : Cod} {l ys : List C.α} {j : Nat} (h : Sim X w0 S a w loc) (hj : get S j = .own C l) (hjv : a.tmps[j]? = some (a.eval x))
    (ho : o.op = .call { callee := .builtin .append, args := args, argTypes := ats }) (hx : args[0]? = some x) (hy : args[1]? = some y) (hat : ats[0]? = some t) (hat2 : ats[1]? = some t2)
    (ht : X.P.underlying t = some (.slice e)) (ht2 : X.P.underlying t2 = some d2) (hd2 : ∀ k, d2 ≠ .int k) (hte : TOk X.P e te) (hsz : te.size = C.sz) (hb0 : te.bytes ≠ 0)
    (hsy : Src w C ys (a.eval y)) (hbd : room C te.bytes l ys = true) (hf : fin o.dst K (.own C (l ++ ys)) (kill S j) = some r) : o.wp X.P a w (Post X w0 K r) Q := by
  obtain ⟨v, h1, h2, h3⟩ := opd_get h hj (by simp)
  rw [hjv] at h1; cases h1
  obtain ⟨loc', hk, _, hl, hnew⟩ := h.take j (by rw [hj]; rfl)
  have hsl := (OwnRep.sl h3).src
  rcases id h3 with ⟨q1, q2, rfl⟩ | ⟨b, off, cap, cur, e', fr, q4, q5, q6, q7, q8, q9, q11, q12⟩
  · by_cases hy0 : ys = []
    · subst hy0
      have hrun : (Builtin.append_ #[t, t2] o.type #[.slice none 0 0, a.eval y]).run X.P w = .ok (.slice none 0 0) w := by
        have hs : (Go.sizeOf e).run X.P w = .ok C.sz w := by rw [sizeOf_run hte, hsz]
        have hz := not_int_desc d2 hd2
        have hc := hsy.cells X.P 0 w rfl (Nat.le_refl _)
        have hlen := hsy.len X.P w
        simp only [List.length_nil] at hlen
        unfold Builtin.append_
        simp only [List.getElem?_toArray, List.getElem?_cons_zero, List.getElem?_cons_succ, Sem.run_bind, run_underlying ht, Result.andThen_ok, hs, run_underlying ht2, Sem.run_pure, hz, Bool.false_eq_true, if_false, hlen, Nat.add_zero, Nat.le_refl, if_true, Bool.not_false, hc]
      refine wpG (fun _ => none) (run_app ho hx hy hat hat2 q2 rfl hrun) hk hf rfl rfl (.inl ⟨rfl, rfl, rfl⟩) (fun _ _ _ _ _ e0 => by cases e0) (fun _ _ _ e0 => by cases e0)
    · exact app_new (l := []) (ad := none) (cap := 0) hk ho hx hy hat hat2 ht ht2 hd2 hte hsz hb0 hsy hsl rfl q2 (by cases ys <;> simp at hy0 ⊢) hbd hf
  · by_cases hroom : l.length + ys.length ≤ cap
    · have hs : ∀ w : World, (Go.sizeOf e).run X.P w = .ok C.sz w := fun w => by rw [sizeOf_run hte, hsz]
      have hrun := run_append_in ht ht2 hd2 o.type hs hsy q7 q8 hroom q11
      rw [← q5] at hrun
      have hfit : off + l.length * C.sz + (flat C ys).length ≤ cur.size := by
        rw [flat_length, Nat.add_assoc, ← Nat.add_mul]
        exact Nat.le_trans (Nat.add_le_add_left (Nat.mul_le_mul_right _ hroom) _) q11
      have hnb := (hnew 0 b off q4).2.2
      refine wp1 b off (run_app ho hx hy hat hat2 rfl rfl hrun) (hk.setFree q7 q6 (splice_size hfit) hnb) hf rfl rfl ?_ ⟨by simpa using heap_lt q7, q6, hnb⟩
      refine .inr ⟨b, off, cap, _, e', fr, by simp, by rw [List.length_append], q6, setRow_heap w b cur _ e' fr q7, by rw [splice_size hfit]; exact q8, by rw [List.length_append]; exact hroom, by rw [splice_size hfit]; exact q11, ?_⟩
      intro m z hm
      rw [flat_append] at hm
      have hll : (flat C l).length = l.length * C.sz := flat_length C l
      simp only [splice, List.getElem?_toArray]
      have hct : cur.toList.length = cur.size := by simp
      by_cases hml : m < (flat C l).length
      · rw [List.getElem?_append_left hml] at hm
        rw [List.append_assoc, List.getElem?_append_left (by simp; omega), List.getElem?_take_of_lt (by omega)]
        simpa using q12 m z hm
      · rw [List.getElem?_append_right (by omega)] at hm
        have hmy := (List.getElem?_eq_some_iff.1 hm).1
        rw [List.append_assoc, List.getElem?_append_right (by simp; omega), List.getElem?_append_left (by simp; omega)]
        simp only [List.length_take]
        rw [Nat.min_eq_left (by omega), ← hm]
        congr 1
        omega
    · exact app_new hk ho hx hy hat hat2 ht ht2 hd2 hte hsz hb0 hsy hsl rfl q5 (by omega) hbd hf
theorem evAppend_ok {args : Array Operand} {ats : Array TypeId} {x y : Operand} {t t2 : TypeId} (hE : EnvOk X E) (h : Sim X w0 S a w loc) (ho : o.op = .call { callee := .builtin .append, args := args, argTypes := ats })
    (hx : args[0]? = some x) (hy : args[1]? = some y) (hat : ats[0]? = some t) (hat2 : ats[1]? = some t2) (hok : okSrc E t2 = true) (hr : evAppend E S t x y (fin o.dst K) = some r) : o.wp X.P a w (Post X w0 K r) Q := by
  unfold evAppend at hr
  obtain ⟨d2, ht2, hd2⟩ := okSrc_ok hE hok
  split at hr
  · cases hr
  · rename_i C bb hco
    obtain ⟨e, te, ht, hte, hcod, hsz, hbb⟩ := codOf_ok hE hco
    split at hr
    · cases hr
    · rename_i hb0
      rw [← hbb] at hb0
      split at hr
      · cases hr
      · rename_i ys hys
        have hsy := srcOf_ok h hys
        have use : ∀ (j : Nat), a.tmps[j]? = some (a.eval x) → (match get S j with
            | .own C' l => if h : C' = C then chk (room C bb (h ▸ l) ys) (fin o.dst K (.own C ((h ▸ l) ++ ys)) (kill S j)) else none
            | _ => none) = some r → o.wp X.P a w (Post X w0 K r) Q := fun j hjv hr => by
          split at hr
          · rename_i C' l hj
            split at hr
            · rename_i hC
              subst hC
              obtain ⟨hrm, hr⟩ := chk_some hr
              rw [← hbb] at hrm
              exact app_use h hj hjv ho hx hy hat hat2 ht ht2 hd2 hte hsz hb0 hsy hrm hr
            · cases hr
          · cases hr
        dsimp only at hr
        split at hr
        · rename_i hxo
          obtain ⟨hrm, hr⟩ := chk_some hr
          rw [← hbb] at hrm
          have hv := opd_raw h hxo
          by_cases hy0 : ys = []
          · subst hy0
            have hrun : (Builtin.append_ #[t, t2] o.type #[.slice none 0 0, a.eval y]).run X.P w = .ok (.slice none 0 0) w := by
              have hs : (Go.sizeOf e).run X.P w = .ok C.sz w := by rw [sizeOf_run hte, hsz]
              have hz := not_int_desc d2 hd2
              have hc := hsy.cells X.P 0 w rfl (Nat.le_refl _)
              have hlen := hsy.len X.P w
              simp only [List.length_nil] at hlen
              unfold Builtin.append_
              simp only [List.getElem?_toArray, List.getElem?_cons_zero, List.getElem?_cons_succ, Sem.run_bind, run_underlying ht, Result.andThen_ok, hs, run_underlying ht2, Sem.run_pure, hz, Bool.false_eq_true, if_false, hlen, Nat.add_zero, Nat.le_refl, if_true, Bool.not_false, hc]
            refine wpG (fun _ => none) (run_app ho hx hy hat hat2 hv rfl hrun) h hr rfl rfl (.inl ⟨rfl, rfl, rfl⟩) (fun _ _ _ _ _ e0 => by cases e0) (fun _ _ _ e0 => by cases e0)
          · have hsl : Src w C ([] : List C.α) (.slice none 0 0) := (show SlRep w C [] (.slice none 0 0) from ⟨none, 0, rfl, Nat.le_refl _, .inl rfl⟩).src
            exact app_new (l := []) (ad := none) (cap := 0) h ho hx hy hat hat2 ht ht2 hd2 hte hsz hb0 hsy hsl hv rfl (by cases ys <;> simp at hy0 ⊢) hrm hr
        · rename_i C0 l0 hxo
          split at hr
          · rename_i j
            refine use j ?_ hr
            obtain ⟨v, h1, h2, _⟩ := opd_get h (s := j) hxo (by simp)
            rw [h2]; exact h1
          · cases hr
        · rename_i j hxo
          refine use j ?_ hr
          cases x with
          | tmp s =>
            have := copy_rep h (s := s) (by rw [opd_tmp] at hxo; rw [hxo]; rfl)
            rw [opd_tmp] at hxo; rw [hxo] at this; exact this
          | const c => simp [opd] at hxo
          | global g => simp [opd] at hxo
          | func f => simp [opd] at hxo
        · rename_i k g off len hxo
          have hrep : Rep X w S a.tmps loc (fun _ => none) (.view k g off len) (a.eval x) ∧ (get S k).owns = true := by
            cases x with
            | tmp s =>
              rw [opd_tmp] at hxo
              have h1 := copy_rep h (s := s) (by rw [hxo]; rfl)
              rw [hxo] at h1
              exact ⟨h1, get_ref h (s := s) (by rw [hxo]; rfl)⟩
            | const c => simp [opd] at hxo
            | global g => simp [opd] at hxo
            | func f => simp [opd] at hxo
          obtain ⟨hrep, hown⟩ := hrep
          split at hr
          · rename_i ss hs
            split at hr
            · rename_i C' n l hg
              split at hr
              · rename_i hC
                subst hC
                split at hr
                · rename_i hoff
                  have hvs := (view_sl h hrep (.inr ⟨ss, n, hs, hg⟩))
                  have hl : l.length = n := by
                    obtain ⟨u, _, _, h3⟩ := opd_get h hs (by simp)
                    obtain ⟨_, _, _, _, _, _, _, _, _, q6, _⟩ := h3
                    exact q6 _ (List.mem_of_getElem? hg)
                  have htk : (l.drop off).take len = l.drop off := List.take_of_length_le (by simp; omega)
                  rw [htk] at hvs
                  have hdl : (l.drop off).length = len := by simp; omega
                  by_cases hy0 : ys.length = 0
                  · rw [decide_eq_true hy0] at hr
                    simp only [cond_true] at hr
                    have hy0 : ys = [] := List.eq_nil_of_length_eq_zero hy0
                    subst hy0
                    have hs' : (Go.sizeOf e).run X.P w = .ok C'.sz w := by rw [sizeOf_run hte, hsz]
                    have hz := not_int_desc d2 hd2
                    have hc := hsy.cells X.P 0 w rfl (Nat.le_refl _)
                    have hlen := hsy.len X.P w
                    simp only [List.length_nil] at hlen
                    obtain ⟨ad, cap, e1, e2, e3⟩ := hvs.2
                    rw [hdl] at e1 e2
                    have hrun : (Builtin.append_ #[t, t2] o.type #[.slice ad len cap, a.eval y]).run X.P w = .ok (.slice ad len cap) w := by
                      unfold Builtin.append_
                      simp only [List.getElem?_toArray, List.getElem?_cons_zero, List.getElem?_cons_succ, Sem.run_bind, run_underlying ht, Result.andThen_ok, hs', run_underlying ht2, Sem.run_pure, hz, Bool.false_eq_true, if_false, hlen, Nat.add_zero, e2, if_true, Bool.not_false, hc]
                      cases ad <;> simp [flat, storeCells]
                    rw [← e1] at hrun
                    exact wp0 (run_app ho hx hy hat hat2 rfl rfl hrun) h hr rfl hrep (fun k' hk' => by cases hk'; exact hown)
                  · rw [decide_eq_false hy0] at hr
                    simp only [cond_false] at hr
                    obtain ⟨hrm, hr⟩ := chk_some hr
                    rw [← hbb] at hrm
                    obtain ⟨base, sz, cnt, e1, e2, e3⟩ := id hrep
                    rw [hs] at e1
                    simp only [shp, hg, Option.some.injEq, Prod.mk.injEq] at e1
                    obtain ⟨_, _, rfl⟩ := e1
                    rcases e3 with ⟨_, q1, q2⟩ | ⟨b, o2, o3, cap, _, q2, q3, _, _, q6⟩
                    · exact app_new h ho hx hy hat hat2 ht ht2 hd2 hte hsz hb0 hsy hvs.2.src rfl (ad := none) (cap := 0) (by rw [q1, hdl, q2]) (by omega) hrm hr
                    · have hcap := q6 (by rw [hs]; rfl)
                      exact app_new h ho hx hy hat hat2 ht ht2 hd2 hte hsz hb0 hsy hvs.2.src rfl (by rw [q2, hdl]) (by omega) hrm hr
                · cases hr
              · cases hr
            · cases hr
          · cases hr
        · cases hr
end
end Go.Px
