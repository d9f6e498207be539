/- Copies, assignments, calls. -/
import Derived.Test.YtpmnipaimoaagaaDoorPx11
import Derived.Test.YtpmnipaimoaagaaDoorPx22
set_option linter.unusedVariables false
set_option linter.unusedSimpArgs false
namespace Go.Px
open Go Go.RowKit

section
variable {X : Cx} {ρ : Type} {w0 : World} {S : St} {a : Act} {w : World} {loc : Nat → Nat → Option (Nat × Nat)} {E : Env ρ} {K : St → Option ρ} {r : ρ} {o : Oper} {Q : Exit → Act → World → Prop}

theorem run_cp {args : Array Operand} {ats : Array TypeId} {x y : Operand} {t : TypeId} (ho : o.op = .call { callee := .builtin .copy, args := args, argTypes := ats }) (hx : args[0]? = some x) (hy : args[1]? = some y) (ht : ats[0]? = some t)
    {v u z : Value} {w' : World} (hv : a.eval x = v) (hu : a.eval y = u) (hl : (Builtin.copy_ #[t] o.type #[v, u]).run X.P w = .ok z w') : (execOp a.eval o).run X.P w = .ok (.value z) w' := by
  have e : Builtin.copy_ ats o.type (args.map a.eval) = Builtin.copy_ #[t] o.type #[v, u] := by
    unfold Builtin.copy_
    simp [hx, hy, ht, hv, hu]
  simp [execOp, ho, resolve, invoke, builtin, e, hl]
theorem copied_length {α : Type} (l y : List α) (off n : Nat) (h : off + n ≤ l.length) (hn : n ≤ y.length) : (copied l off n y).length = l.length := by
  simp [copied]; omega
theorem flat_copied (C : Cod) (l y : List C.α) (off n : Nat) (hn : n ≤ y.length) : flat C (copied l off n y) = (flat C l).take (off * C.sz) ++ flat C (y.take n) ++ (flat C l).drop (off * C.sz + (flat C (y.take n)).length) := by
  have hl : (flat C (y.take n)).length = n * C.sz := by rw [flat_length, List.length_take, Nat.min_eq_left hn]
  rw [hl, ← Nat.add_mul]
  simp only [copied, flat_append, flat_take, flat_drop]
theorem run_copy_in {P : Program} {t e : TypeId} (ht : P.underlying t = some (.slice e)) (ty : TypeId) {C : Cod} (hs : (Go.sizeOf e).run P w = .ok C.sz w) {y : List C.α} {u : Value} (hy : Src w C y u) {b off len cap : Nat} {cur : Array Value} {e' : TypeId} {fr : Nat × Nat}
    (hb : w.heap[b]? = some (.cells cur e' fr)) (hh : Harm fr cur.size) (hfit : off + (flat C (y.take (min y.length len))).length ≤ cur.size) :
    (Builtin.copy_ #[t] ty #[.slice (some ⟨b, off, none⟩) len cap, u]).run P w = .ok (.int .i64 (min y.length len : Nat)) (w.setRow b (Px.splice cur off (flat C (y.take (min y.length len))))) := by
  have hcells := hy.cells P (min y.length len) w rfl (Nat.min_le_left _ _)
  have hst := run_storeCells P b off e' fr (flat C (y.take (min y.length len))) 0 cur w hb hh (by simpa using hfit) (flat_oneC C _)
  rw [Nat.add_zero] at hst
  unfold Builtin.copy_
  simp only [List.getElem?_toArray, List.getElem?_cons_zero, List.getElem?_cons_succ, Sem.run_bind, run_underlying ht, Result.andThen_ok, hs, hy.len P, Nat.min_def] at hcells hst ⊢
  simp only [hcells, Result.andThen_ok, hst, Sem.run_pure, goInt]
theorem run_copy_nil' {P : Program} {t e : TypeId} (ht : P.underlying t = some (.slice e)) (ty : TypeId) {C : Cod} (hs : (Go.sizeOf e).run P w = .ok C.sz w) {y : List C.α} {u : Value} (hy : Src w C y u) :
    (Builtin.copy_ #[t] ty #[.slice none 0 0, u]).run P w = .ok (.int .i64 (0 : Nat)) w := by
  have hcells := hy.cells P 0 w rfl (Nat.zero_le _)
  unfold Builtin.copy_
  have hm : Nat.min y.length 0 = 0 := by simp [Nat.min_def]
  simp only [List.getElem?_toArray, List.getElem?_cons_zero, List.getElem?_cons_succ, Sem.run_bind, run_underlying ht, Result.andThen_ok, hs, hy.len P, hm, hcells, Sem.run_pure, goInt]
theorem nest_splice2 {α : Type} (c F : List α) (p i n : Nat) (vs : List α) (hF : F.length = n) (hsub : ∀ j, j < n → c[p + j]? = F[j]?) (hi : i + vs.length ≤ n) (hc : p + n ≤ c.length) :
    c.take p ++ (F.take i ++ vs ++ F.drop (i + vs.length)) ++ c.drop (p + n) = c.take (p + i) ++ vs ++ c.drop (p + i + vs.length) := by
  have hFe : F = (c.drop p).take n := by
    apply List.ext_getElem?
    intro j
    by_cases hj : j < n
    · rw [← hsub j hj, List.getElem?_take_of_lt hj, List.getElem?_drop]
    · rw [List.getElem?_eq_none (by omega), List.getElem?_eq_none (by simp; omega)]
  subst hFe
  rw [List.take_add, List.take_take, Nat.min_eq_left (by omega), List.drop_take, List.drop_drop]
  have e : c.drop (p + i + vs.length) = (c.drop (p + (i + vs.length))).take (n - (i + vs.length)) ++ c.drop (p + n) := by
    have e1 : c.drop (p + n) = (c.drop (p + (i + vs.length))).drop (n - (i + vs.length)) := by rw [List.drop_drop]; congr 1; omega
    rw [e1, List.take_append_drop, Nat.add_assoc]
  rw [e]
  simp
theorem evCopy_ok {args : Array Operand} {ats : Array TypeId} {x y : Operand} {t : TypeId} (hE : EnvOk X E) (h : Sim X w0 S a w loc) (ho : o.op = .call { callee := .builtin .copy, args := args, argTypes := ats })
    (hx : args[0]? = some x) (hy : args[1]? = some y) (hat : ats[0]? = some t) (hr : evCopy E S t (selfAlias x (opd S x)) (selfAlias y (opd S y)) (fin o.dst K) = some r) : o.wp X.P a w (Post X w0 K r) Q := by
  unfold evCopy at hr
  split at hr
  · cases hr
  · rename_i C bb hco
    obtain ⟨e, te, ht, hte, hcod, hsz, hbb⟩ := codOf_ok hE hco
    have hs : (Go.sizeOf e).run X.P w = .ok C.sz w := by rw [sizeOf_run hte, hsz]
    split at hr
    · cases hr
    · rename_i ys hys
      have hsy := srcOf_ok h hys
      generalize hxp : selfAlias x (opd S x) = p at hr
      split at hr
      · rename_i k
        obtain ⟨_, hrep, hown⟩ := opd_rep h hxp (by simp) (by simp) (by simp)
        have hv := alias_val h hrep (hown k rfl)
        split at hr
        · rename_i C' l hk
          split at hr
          · rename_i hC
            subst hC
            dsimp only at hr
            rw [hk] at hv
            rcases id hv with ⟨q1, q2, rfl⟩ | ⟨b, off, cap, cur, e', fr, q4, q5, q6, q7, q8, q9, q11, q12⟩
            · have hrun := run_copy_nil' (w := w) ht o.type hs hsy
              have hS : S.set k (.own C' (copied [] 0 (min ys.length 0) ys)) = S := by
                have : copied ([] : List C'.α) 0 (min ys.length 0) ys = [] := by simp [copied]
                rw [this, ← hk]
                apply List.ext_getElem?
                intro i
                by_cases hi : i = k
                · subst hi
                  have := get_some (hown i rfl)
                  rw [this, List.getElem?_set_self (List.getElem?_eq_some_iff.1 this).1]
                · rw [List.getElem?_set_ne (Ne.symm hi)]
              simp only [List.length_nil] at hr
              rw [hS] at hr
              have : (min ys.length 0 : Nat) = 0 := Nat.min_zero _
              rw [this] at hr
              exact wp_raw (run_cp ho hx hy hat q2 rfl hrun) h hr
            · have hlt : (flat C' (ys.take (min ys.length l.length))).length = min ys.length l.length * C'.sz := by rw [flat_length, List.length_take]; congr 1; omega
              have hfit0 : (flat C' (ys.take (min ys.length l.length))).length ≤ (flat C' l).length := by rw [hlt, flat_length]; exact Nat.mul_le_mul_right _ (Nat.min_le_right _ _)
              obtain ⟨cur2, e2, fr2, g1, g2, g3, g4⟩ := upd_own h hk q4 (i := 0 * C'.sz) (l' := copied l 0 (min ys.length l.length) ys) (flat C' (ys.take (min ys.length l.length)))
                (copied_length l ys 0 _ (by omega) (Nat.min_le_left _ _)) (flat_copied C' l ys 0 _ (Nat.min_le_left _ _)) (by simpa using hfit0)
              simp only [Nat.zero_mul, Nat.add_zero] at g3 g4
              have hrun := run_copy_in (len := l.length) (cap := cap) ht o.type hs hsy g1 g2 g3
              exact wp_raw (run_cp ho hx hy hat q5 rfl hrun) g4 hr
          · cases hr
        · rename_i C' l m hk
          split at hr
          · rename_i hC
            subst hC
            dsimp only at hr
            rw [hk] at hv
            obtain ⟨q0, b, off, cur, e', fr, q4, q5, q6, q7, q8, q11, q12⟩ := id hv
            have hlt : (flat C' (ys.take (min ys.length m))).length = min ys.length m * C'.sz := by rw [flat_length, List.length_take]; congr 1; omega
            have hml : min ys.length m ≤ l.length := Nat.le_trans (Nat.min_le_right _ _) q0
            have hfit0 : (flat C' (ys.take (min ys.length m))).length ≤ (flat C' l).length := by rw [hlt, flat_length]; exact Nat.mul_le_mul_right _ hml
            obtain ⟨cur2, e2, fr2, g1, g2, g3, g4⟩ := upd_spr h hk q4 (i := 0 * C'.sz) (l' := copied l 0 (min ys.length m) ys) (flat C' (ys.take (min ys.length m)))
              (copied_length l ys 0 _ (by omega) (Nat.min_le_left _ _)) (flat_copied C' l ys 0 _ (Nat.min_le_left _ _)) (by simpa using hfit0)
            simp only [Nat.zero_mul, Nat.add_zero] at g3 g4
            have hrun := run_copy_in (len := m) (cap := l.length) ht o.type hs hsy g1 g2 g3
            exact wp_raw (run_cp ho hx hy hat q5 rfl hrun) g4 hr
          · cases hr
        · cases hr
      · rename_i k g off len
        obtain ⟨_, hrep, hown⟩ := opd_rep h hxp (by simp) (by simp) (by simp)
        split at hr
        · rename_i ss hk
          split at hr
          · rename_i C' n' l hg
            split at hr
            · rename_i hC
              obtain ⟨hC, hlen0⟩ := hC
              subst hC
              dsimp only at hr
              obtain ⟨u, _, _, h3⟩ := opd_get h hk (by simp)
              obtain ⟨b', cur, e', fr, p1, p2, p3, p4, p5, p6, p7⟩ := h3
              have hl : l.length = n' := p6 _ (List.mem_of_getElem? hg)
              obtain ⟨base, sz, cnt, e1, e2, e3⟩ := id hrep
              rw [hk] at e1
              simp only [shp, hg, Option.some.injEq, Prod.mk.injEq] at e1
              obtain ⟨rfl, rfl, rfl⟩ := e1
              have hlt : (flat C' (ys.take (min ys.length len))).length = min ys.length len * C'.sz := by rw [flat_length, List.length_take]; congr 1; omega
              have hn1 : min ys.length len ≤ ys.length := Nat.min_le_left _ _
              have hn2 : min ys.length len ≤ len := Nat.min_le_right _ _
              have hcl := copied_length l ys off (min ys.length len) (by omega) hn1
              have hsegl := segOff_le ss g p6 _ hg
              simp only [Seg.size] at hsegl
              have hfc := flat_copied C' l ys off (min ys.length len) hn1
              have hoffle : off * C'.sz + min ys.length len * C'.sz ≤ n' * C'.sz := by rw [← Nat.add_mul]; exact Nat.mul_le_mul_right _ (by omega)
              have hcs := segCells_set ss p6 g _ (.arr C' n' (copied l off (min ys.length len) ys)) hg (by simp [Seg.cells, Seg.size, flat_length, hcl, hl])
              have hfl : (flat C' l).length = n' * C'.sz := by rw [flat_length, hl]
              have hflc : (flat C' (copied l off (min ys.length len) ys)).length = n' * C'.sz := by rw [flat_length, hcl, hl]
              obtain ⟨_, e2', fr2, g1, g2, g3, g4⟩ := upd_obj h hk p1 (i := segOff ss g + off * C'.sz) (ss' := ss.set g (.arr C' n' (copied l off (min ys.length len) ys))) (flat C' (ys.take (min ys.length len)))
                (shp_set ss g _ _ hg rfl rfl) (segsOk_set p6 g (by simp only [segOk]; rw [hcl, hl]))
                (by
                  rw [hcs]
                  simp only [Seg.cells, hflc]
                  rw [hfc]
                  exact nest_splice2 _ _ _ _ _ _ hfl (fun j hj => segCells_at ss p6 g _ hg j hj) (by rw [hlt]; exact hoffle) hsegl)
                (by rw [hlt]; omega)
              rcases e3 with ⟨_, _, q2⟩ | ⟨b, o2, o3, cap, q1, q2, q3, q4, _⟩
              · omega
              · have q4 := q4.resolve_left (by omega)
                rw [p1] at q1; cases q1
                rw [Nat.zero_add] at q4
                rw [← q4] at g3 g4
                have hrun := run_copy_in (len := len) (cap := cap) ht o.type hs hsy g1 g2 g3
                exact wp_raw (run_cp ho hx hy hat q2 rfl hrun) g4 hr
            · cases hr
          · cases hr
        · cases hr
      · cases hr

/-! ### assignments -/
theorem rename1_owns {s d : Nat} {p : PV} (h : p.owns = true) : rename1 s d p = p := by cases p <;> simp_all [rename1, PV.owns]
theorem rename1_ref {s d k : Nat} {p : PV} (h : (rename1 s d p).ref = some k) : ∃ k0, p.ref = some k0 ∧ k = (if k0 = s then d else k0) := by
  cases p <;> simp [rename1, PV.ref] at h ⊢ <;> exact h.symm
theorem rename1_junk (s d : Nat) : rename1 s d .junk = .junk := rfl
/-- an owned slice goes over from s to d; what pointed to s points to d -/
theorem move_own {s d : Nat} {C : Cod} {l : List C.α} (h : Sim X w0 S a w loc) (hs : get S s = .own C l) (hsd : s ≠ d) (hd : d < S.length) (hpn : pinned S d = false) :
    ∃ loc', Sim X w0 ((((kill S d).map (rename1 s d)).set s (.alias d)).set d (.own C l)) (a.put (some d) (a.eval (.tmp s))) w loc' := by
  obtain ⟨v, h1, h2, h3⟩ := opd_get h hs (by simp)
  obtain ⟨loc1, hk, hf, hl, hl0⟩ := h.kill d hpn
  have hks : get (Px.kill S d) s = .own C l := by rw [kill_get hsd (by rw [hs]; rfl), hs]
  have hls : loc1 s = loc s := hl s hsd
  rw [h2]
  clear h2
  generalize hS1 : Px.kill S d = S1 at hk hf hks
  have hlen : S1.length = S.length := by rw [← hS1, kill_length]
  have hdl : d < S1.length := by omega
  have hsl : s < S1.length := (List.getElem?_eq_some_iff.1 (get_of_ne (i := s) (S := S1) (by rw [hks]; simp))).1
  have hget : ∀ i, get ((((S1.map (rename1 s d)).set s (.alias d)).set d (.own C l))) i = if i = d then .own C l else if i = s then .alias d else rename1 s d (get S1 i) := fun i => by
    by_cases hid : i = d
    · subst hid; rw [get_set_same (by simpa using hdl)]; simp
    · rw [get_set_ne hid, if_neg hid]
      by_cases his : i = s
      · subst his; rw [get_set_same (by simpa using hsl)]; simp
      · rw [get_set_ne his, if_neg his, get_map (rename1_junk s d)]
  have hel : ∀ (i : Nat) p, ((((S1.map (rename1 s d)).set s (.alias d)).set d (.own C l)))[i]? = some p → (i = d ∧ p = .own C l) ∨ (i ≠ d ∧ i = s ∧ p = .alias d) ∨ (i ≠ d ∧ i ≠ s ∧ ∃ q, S1[i]? = some q ∧ p = rename1 s d q) := fun i p hp => by
    by_cases hid : i = d
    · subst hid; simp [hdl] at hp; exact .inl ⟨rfl, hp.symm⟩
    · rw [List.getElem?_set_ne (Ne.symm hid)] at hp
      by_cases his : i = s
      · subst his; simp [hsl] at hp; exact .inr (.inl ⟨hid, rfl, hp.symm⟩)
      · rw [List.getElem?_set_ne (Ne.symm his), List.getElem?_map] at hp
        cases hq : S1[i]? with
        | none => rw [hq] at hp; cases hp
        | some q => rw [hq] at hp; exact .inr (.inr ⟨hid, his, q, rfl, by simpa using hp.symm⟩)
  have hgo : ∀ k, k ≠ d → k ≠ s → (get S1 k).owns = true → get ((((S1.map (rename1 s d)).set s (.alias d)).set d (.own C l))) k = get S1 k := fun k hkd hks' ho => by
    rw [hget, if_neg hkd, if_neg hks', rename1_owns ho]
  have hvs : a.tmps[s]? = some v := h1
  let loc2 : Nat → Nat → Option (Nat × Nat) := fun i => if i = d then loc1 s else if i = s then fun _ => none else loc1 i
  have l2d : loc2 d = loc1 s := by simp [loc2]
  have l2s : loc2 s = fun _ => none := by simp [loc2, hsd]
  have l2o : ∀ i, i ≠ d → i ≠ s → loc2 i = loc1 i := fun i h1 h2 => by simp [loc2, h1, h2]
  have hdsz : d < a.tmps.size := by rw [h.len]; exact hd
  have hput : ∀ i, i ≠ d → (a.tmps.setIfInBounds d v)[i]? = a.tmps[i]? := fun i hi => Array.getElem?_setIfInBounds_ne (Ne.symm hi)
  have hputd : (a.tmps.setIfInBounds d v)[d]? = some v := by simp [hdsz]
  refine ⟨loc2, { hk with len := ?_, defers := hk.defers, rep := ?_, ref := ?_, sep := ?_, dom := ?_, lt := ?_, pin := ?_ }⟩
  · show (a.tmps.setIfInBounds d v).size = _
    simp [h.len, hlen]
  · intro i p hp
    show ∃ u, (a.tmps.setIfInBounds d v)[i]? = some u ∧ _
    rcases hel i p hp with ⟨rfl, rfl⟩ | ⟨hid, rfl, rfl⟩ | ⟨hid, his, q, hq, rfl⟩
    · refine ⟨v, hputd, ?_⟩
      rw [l2d, hls]; exact h3
    · refine ⟨v, by rw [hput _ hid]; exact hvs, ?_⟩
      exact hputd
    · obtain ⟨u, hu, hr⟩ := hk.rep i q hq
      refine ⟨u, by rw [hput _ hid]; exact hu, ?_⟩
      rw [l2o i hid his]
      by_cases hqs : q.ref = some s
      · cases q with
        | alias k =>
          simp only [PV.ref, Option.some.injEq] at hqs
          subst hqs
          have hr : a.tmps[k]? = some u := hr
          show (a.tmps.setIfInBounds d v)[if k = k then d else k]? = some u
          rw [if_pos rfl, hputd, ← hr, hvs]
        | view k g off len =>
          simp only [PV.ref, Option.some.injEq] at hqs
          subst hqs
          obtain ⟨base, sz, cnt, e1, e2, e3⟩ := hr
          simp only [rename1, if_true]
          refine ⟨base, sz, cnt, by rw [hget, if_pos rfl, ← hks]; exact e1, e2, ?_⟩
          rw [l2d, hget, if_pos rfl, ← hks]
          exact e3
        | ptr k g idx f =>
          simp only [PV.ref, Option.some.injEq] at hqs
          subst hqs
          obtain ⟨base, sz, cnt, b, o', e1, e2, e3⟩ := hr
          simp only [rename1, if_true]
          exact ⟨base, sz, cnt, b, o', by rw [hget, if_pos rfl, ← hks]; exact e1, by rw [l2d]; exact e2, e3⟩
        | _ => simp [PV.ref] at hqs
      · have hren : rename1 s d q = q := by
          cases q <;> first | rfl | (simp only [PV.ref, Option.some.injEq] at hqs; simp [rename1, hqs])
        rw [hren]
        refine hr.frame (fun _ _ _ _ => rfl) (fun _ _ => rfl) (fun _ => Nat.le_refl _) (fun k hkk => ?_)
        have hko := hk.ref i q k hq hkk
        have hkd : k ≠ d := fun e => hf.ref i q hq (e ▸ hkk)
        have hks' : k ≠ s := fun e => hqs (e ▸ hkk)
        rw [hgo k hkd hks' hko, l2o k hkd hks']
        exact ⟨fun _ => rfl, rfl, hput k hkd, rfl⟩
  · intro i p k hp hkk
    rcases hel i p hp with ⟨rfl, rfl⟩ | ⟨hid, rfl, rfl⟩ | ⟨hid, his, q, hq, rfl⟩
    · cases hkk
    · cases hkk; rw [hget, if_pos rfl]; rfl
    · obtain ⟨k0, hk0, rfl⟩ := rename1_ref hkk
      have hko := hk.ref i q k0 hq hk0
      have hkd : k0 ≠ d := fun e => hf.ref i q hq (e ▸ hk0)
      split
      · rw [hget, if_pos rfl]; rfl
      · rename_i hks'; rw [hgo k0 hkd hks' hko]; exact hko
  · intro i j i' j' b o o' e1 e2
    have red : ∀ i j b o, loc2 i j = some (b, o) → ∃ i0, loc1 i0 j = some (b, o) ∧ (i0 = s ↔ i = d) ∧ (i ≠ d → i0 = i) := fun i j b o hh => by
      by_cases hid : i = d
      · subst hid; rw [l2d] at hh; exact ⟨s, hh, by simp, fun hn => absurd rfl hn⟩
      · by_cases his : i = s
        · subst his; rw [l2s] at hh; cases hh
        · rw [l2o i hid his] at hh; exact ⟨i, hh, by simp [hid, his], fun _ => rfl⟩
    obtain ⟨i0, f1, f2, f3⟩ := red i j b o e1
    obtain ⟨i1, g1, g2, g3⟩ := red i' j' b o' e2
    obtain ⟨q1, q2⟩ := hk.sep i0 j i1 j' b o o' f1 g1
    refine ⟨?_, q2⟩
    by_cases hid : i = d
    · have := f2.2 hid
      rw [q1] at this
      rw [hid, g2.1 this]
    · by_cases hid' : i' = d
      · have := g2.2 hid'
        rw [← q1] at this
        exact absurd (f2.1 this) hid
      · rw [← f3 hid, ← g3 hid', q1]
  · intro i ho j
    rw [hget] at ho
    by_cases hid : i = d
    · subst hid; simp [PV.owns] at ho
    · rw [if_neg hid] at ho
      by_cases his : i = s
      · subst his; rw [l2s]
      · rw [if_neg his] at ho
        rw [l2o i hid his]
        refine hk.dom i ?_ j
        cases hoi : (get S1 i).owns with
        | false => rfl
        | true => rw [rename1_owns hoi, hoi] at ho; cases ho
  · intro i j b o hh
    by_cases hid : i = d
    · subst hid; rw [l2d] at hh; exact hk.lt s j b o hh
    · by_cases his : i = s
      · subst his; rw [l2s] at hh; cases hh
      · rw [l2o i hid his] at hh; exact hk.lt i j b o hh
  · intro b hb
    obtain ⟨p1, p2⟩ := hk.pin b hb
    have h0d : (0 : Nat) ≠ d := fun e => by have := hf.own; rw [← e, isObj_owns p1] at this; cases this
    have h0s : (0 : Nat) ≠ s := fun e => by rw [e, hks] at p1; cases p1
    rw [hgo 0 h0d h0s (isObj_owns p1), l2o 0 h0d h0s]
    exact ⟨p1, p2⟩

/-- an owned slice goes over from s to d; what pointed to s points to d -/
theorem move_spr {s d n : Nat} {C : Cod} {l : List C.α} (h : Sim X w0 S a w loc) (hs : get S s = .spr C l n) (hsd : s ≠ d) (hd : d < S.length) (hpn : pinned S d = false) :
    ∃ loc', Sim X w0 ((((kill S d).map (rename1 s d)).set s (.alias d)).set d (.spr C l n)) (a.put (some d) (a.eval (.tmp s))) w loc' := by
  obtain ⟨v, h1, h2, h3⟩ := opd_get h hs (by simp)
  obtain ⟨loc1, hk, hf, hl, hl0⟩ := h.kill d hpn
  have hks : get (Px.kill S d) s = .spr C l n := by rw [kill_get hsd (by rw [hs]; rfl), hs]
  have hls : loc1 s = loc s := hl s hsd
  rw [h2]
  clear h2
  generalize hS1 : Px.kill S d = S1 at hk hf hks
  have hlen : S1.length = S.length := by rw [← hS1, kill_length]
  have hdl : d < S1.length := by omega
  have hsl : s < S1.length := (List.getElem?_eq_some_iff.1 (get_of_ne (i := s) (S := S1) (by rw [hks]; simp))).1
  have hget : ∀ i, get ((((S1.map (rename1 s d)).set s (.alias d)).set d (.spr C l n))) i = if i = d then .spr C l n else if i = s then .alias d else rename1 s d (get S1 i) := fun i => by
    by_cases hid : i = d
    · subst hid; rw [get_set_same (by simpa using hdl)]; simp
    · rw [get_set_ne hid, if_neg hid]
      by_cases his : i = s
      · subst his; rw [get_set_same (by simpa using hsl)]; simp
      · rw [get_set_ne his, if_neg his, get_map (rename1_junk s d)]
  have hel : ∀ (i : Nat) p, ((((S1.map (rename1 s d)).set s (.alias d)).set d (.spr C l n)))[i]? = some p → (i = d ∧ p = .spr C l n) ∨ (i ≠ d ∧ i = s ∧ p = .alias d) ∨ (i ≠ d ∧ i ≠ s ∧ ∃ q, S1[i]? = some q ∧ p = rename1 s d q) := fun i p hp => by
    by_cases hid : i = d
    · subst hid; simp [hdl] at hp; exact .inl ⟨rfl, hp.symm⟩
    · rw [List.getElem?_set_ne (Ne.symm hid)] at hp
      by_cases his : i = s
      · subst his; simp [hsl] at hp; exact .inr (.inl ⟨hid, rfl, hp.symm⟩)
      · rw [List.getElem?_set_ne (Ne.symm his), List.getElem?_map] at hp
        cases hq : S1[i]? with
        | none => rw [hq] at hp; cases hp
        | some q => rw [hq] at hp; exact .inr (.inr ⟨hid, his, q, rfl, by simpa using hp.symm⟩)
  have hgo : ∀ k, k ≠ d → k ≠ s → (get S1 k).owns = true → get ((((S1.map (rename1 s d)).set s (.alias d)).set d (.spr C l n))) k = get S1 k := fun k hkd hks' ho => by
    rw [hget, if_neg hkd, if_neg hks', rename1_owns ho]
  have hvs : a.tmps[s]? = some v := h1
  let loc2 : Nat → Nat → Option (Nat × Nat) := fun i => if i = d then loc1 s else if i = s then fun _ => none else loc1 i
  have l2d : loc2 d = loc1 s := by simp [loc2]
  have l2s : loc2 s = fun _ => none := by simp [loc2, hsd]
  have l2o : ∀ i, i ≠ d → i ≠ s → loc2 i = loc1 i := fun i h1 h2 => by simp [loc2, h1, h2]
  have hdsz : d < a.tmps.size := by rw [h.len]; exact hd
  have hput : ∀ i, i ≠ d → (a.tmps.setIfInBounds d v)[i]? = a.tmps[i]? := fun i hi => Array.getElem?_setIfInBounds_ne (Ne.symm hi)
  have hputd : (a.tmps.setIfInBounds d v)[d]? = some v := by simp [hdsz]
  refine ⟨loc2, { hk with len := ?_, defers := hk.defers, rep := ?_, ref := ?_, sep := ?_, dom := ?_, lt := ?_, pin := ?_ }⟩
  · show (a.tmps.setIfInBounds d v).size = _
    simp [h.len, hlen]
  · intro i p hp
    show ∃ u, (a.tmps.setIfInBounds d v)[i]? = some u ∧ _
    rcases hel i p hp with ⟨rfl, rfl⟩ | ⟨hid, rfl, rfl⟩ | ⟨hid, his, q, hq, rfl⟩
    · refine ⟨v, hputd, ?_⟩
      rw [l2d, hls]; exact h3
    · refine ⟨v, by rw [hput _ hid]; exact hvs, ?_⟩
      exact hputd
    · obtain ⟨u, hu, hr⟩ := hk.rep i q hq
      refine ⟨u, by rw [hput _ hid]; exact hu, ?_⟩
      rw [l2o i hid his]
      by_cases hqs : q.ref = some s
      · cases q with
        | alias k =>
          simp only [PV.ref, Option.some.injEq] at hqs
          subst hqs
          have hr : a.tmps[k]? = some u := hr
          show (a.tmps.setIfInBounds d v)[if k = k then d else k]? = some u
          rw [if_pos rfl, hputd, ← hr, hvs]
        | view k g off len =>
          simp only [PV.ref, Option.some.injEq] at hqs
          subst hqs
          obtain ⟨base, sz, cnt, e1, e2, e3⟩ := hr
          simp only [rename1, if_true]
          refine ⟨base, sz, cnt, by rw [hget, if_pos rfl, ← hks]; exact e1, e2, ?_⟩
          rw [l2d, hget, if_pos rfl, ← hks]
          exact e3
        | ptr k g idx f =>
          simp only [PV.ref, Option.some.injEq] at hqs
          subst hqs
          obtain ⟨base, sz, cnt, b, o', e1, e2, e3⟩ := hr
          simp only [rename1, if_true]
          exact ⟨base, sz, cnt, b, o', by rw [hget, if_pos rfl, ← hks]; exact e1, by rw [l2d]; exact e2, e3⟩
        | _ => simp [PV.ref] at hqs
      · have hren : rename1 s d q = q := by
          cases q <;> first | rfl | (simp only [PV.ref, Option.some.injEq] at hqs; simp [rename1, hqs])
        rw [hren]
        refine hr.frame (fun _ _ _ _ => rfl) (fun _ _ => rfl) (fun _ => Nat.le_refl _) (fun k hkk => ?_)
        have hko := hk.ref i q k hq hkk
        have hkd : k ≠ d := fun e => hf.ref i q hq (e ▸ hkk)
        have hks' : k ≠ s := fun e => hqs (e ▸ hkk)
        rw [hgo k hkd hks' hko, l2o k hkd hks']
        exact ⟨fun _ => rfl, rfl, hput k hkd, rfl⟩
  · intro i p k hp hkk
    rcases hel i p hp with ⟨rfl, rfl⟩ | ⟨hid, rfl, rfl⟩ | ⟨hid, his, q, hq, rfl⟩
    · cases hkk
    · cases hkk; rw [hget, if_pos rfl]; rfl
    · obtain ⟨k0, hk0, rfl⟩ := rename1_ref hkk
      have hko := hk.ref i q k0 hq hk0
      have hkd : k0 ≠ d := fun e => hf.ref i q hq (e ▸ hk0)
      split
      · rw [hget, if_pos rfl]; rfl
      · rename_i hks'; rw [hgo k0 hkd hks' hko]; exact hko
  · intro i j i' j' b o o' e1 e2
    have red : ∀ i j b o, loc2 i j = some (b, o) → ∃ i0, loc1 i0 j = some (b, o) ∧ (i0 = s ↔ i = d) ∧ (i ≠ d → i0 = i) := fun i j b o hh => by
      by_cases hid : i = d
      · subst hid; rw [l2d] at hh; exact ⟨s, hh, by simp, fun hn => absurd rfl hn⟩
      · by_cases his : i = s
        · subst his; rw [l2s] at hh; cases hh
        · rw [l2o i hid his] at hh; exact ⟨i, hh, by simp [hid, his], fun _ => rfl⟩
    obtain ⟨i0, f1, f2, f3⟩ := red i j b o e1
    obtain ⟨i1, g1, g2, g3⟩ := red i' j' b o' e2
    obtain ⟨q1, q2⟩ := hk.sep i0 j i1 j' b o o' f1 g1
    refine ⟨?_, q2⟩
    by_cases hid : i = d
    · have := f2.2 hid
      rw [q1] at this
      rw [hid, g2.1 this]
    · by_cases hid' : i' = d
      · have := g2.2 hid'
        rw [← q1] at this
        exact absurd (f2.1 this) hid
      · rw [← f3 hid, ← g3 hid', q1]
  · intro i ho j
    rw [hget] at ho
    by_cases hid : i = d
    · subst hid; simp [PV.owns] at ho
    · rw [if_neg hid] at ho
      by_cases his : i = s
      · subst his; rw [l2s]
      · rw [if_neg his] at ho
        rw [l2o i hid his]
        refine hk.dom i ?_ j
        cases hoi : (get S1 i).owns with
        | false => rfl
        | true => rw [rename1_owns hoi, hoi] at ho; cases ho
  · intro i j b o hh
    by_cases hid : i = d
    · subst hid; rw [l2d] at hh; exact hk.lt s j b o hh
    · by_cases his : i = s
      · subst his; rw [l2s] at hh; cases hh
      · rw [l2o i hid his] at hh; exact hk.lt i j b o hh
  · intro b hb
    obtain ⟨p1, p2⟩ := hk.pin b hb
    have h0d : (0 : Nat) ≠ d := fun e => by have := hf.own; rw [← e, isObj_owns p1] at this; cases this
    have h0s : (0 : Nat) ≠ s := fun e => by rw [e, hks] at p1; cases p1
    rw [hgo 0 h0d h0s (isObj_owns p1), l2o 0 h0d h0s]
    exact ⟨p1, p2⟩

theorem kill_noop {d : Nat} (h : (get S d).owns = false) : Px.kill S d = S := by unfold Px.kill; rw [if_neg (by rw [h]; simp)]
theorem kill_idem {d : Nat} (hf : Free S d) : Px.kill S d = S := by unfold Px.kill; rw [if_neg (by rw [hf.own]; simp)]
theorem op_assign {x : Operand} (hE : EnvOk X E) (h : Sim X w0 S a w loc) (ho : o.op = .assign x) (hr : evOp E S o.dst o.op o.type (fin o.dst K) = some r) : o.wp X.P a w (Post X w0 K r) Q := by
  have hrun := run_assign (X := X) (a := a) (w := w) ho
  rw [ho] at hr
  simp only [evOp] at hr
  split at hr
  · rename_i s
    split at hr
    · rename_i C l d hs hd
      split at hr
      · cases hr
      · rename_i hsd
        obtain ⟨g1, _, g3⟩ := fin_some (hd ▸ hr)
        have hpn : pinned S d = false := by cases hp : pinned S d with | false => rfl | true => exact absurd (.inr hp) hsd
        have hsd : s ≠ d := fun e => hsd (.inl e)
        have hdl : d < S.length := by simpa [kill_length] using g1.1
        obtain ⟨loc', hm⟩ := move_own h hs hsd hdl hpn
        refine wp_run hrun ?_
        rw [hd]
        refine ⟨_, loc', g3, ?_⟩
        have hput : put (((Px.kill S d).map (rename1 s d)).set s (.alias d)) (some d) (.own C l) = (((Px.kill S d).map (rename1 s d)).set s (.alias d)).set d (.own C l) := by
          have hno : (get (((Px.kill S d).map (rename1 s d)).set s (.alias d)) d).owns = false := by
            obtain ⟨_, _, hf, _⟩ := h.kill d hpn
            rw [get_set_ne (Ne.symm hsd), get_map (rename1_junk s d)]
            have := hf.own
            cases hp : get (Px.kill S d) d <;> rw [hp] at this <;> first | rfl | (simp [PV.owns] at this; done) | (simp [rename1, PV.owns]; done) | exact this
          show (Px.kill _ d).set d _ = _
          rw [kill_noop hno]
        rw [hput]; exact hm
    · rename_i C l n d hs hd
      split at hr
      · cases hr
      · rename_i hsd
        obtain ⟨g1, _, g3⟩ := fin_some (hd ▸ hr)
        have hpn : pinned S d = false := by cases hp : pinned S d with | false => rfl | true => exact absurd (.inr hp) hsd
        have hsd : s ≠ d := fun e => hsd (.inl e)
        have hdl : d < S.length := by simpa [kill_length] using g1.1
        obtain ⟨loc', hm⟩ := move_spr h hs hsd hdl hpn
        refine wp_run hrun ?_
        rw [hd]
        refine ⟨_, loc', g3, ?_⟩
        have hput : put (((Px.kill S d).map (rename1 s d)).set s (.alias d)) (some d) (.spr C l n) = (((Px.kill S d).map (rename1 s d)).set s (.alias d)).set d (.spr C l n) := by
          have hno : (get (((Px.kill S d).map (rename1 s d)).set s (.alias d)) d).owns = false := by
            obtain ⟨_, _, hf, _⟩ := h.kill d hpn
            rw [get_set_ne (Ne.symm hsd), get_map (rename1_junk s d)]
            have := hf.own
            cases hp : get (Px.kill S d) d <;> rw [hp] at this <;> first | rfl | (simp [PV.owns] at this; done) | (simp [rename1, PV.owns]; done) | exact this
          show (Px.kill _ d).set d _ = _
          rw [kill_noop hno]
        rw [hput]; exact hm
    · rename_i j d hs hd
      split at hr
      · cases hr
      · have := copy_rep h (s := s) (by rw [hs]; rfl)
        rw [hs] at this
        exact wp0 hrun h hr rfl this (fun k hk => get_ref h (s := s) (by rw [hs]; exact hk))
    · rename_i j g off len d hs hd
      split at hr
      · rename_i hjd
        subst hjd
        split at hr
        · rename_i C l hj
          split at hr
          · rename_i hg
            subst hg
            have hrep := copy_rep h (s := s) (by rw [hs]; rfl)
            rw [hs] at hrep
            have hown := get_ref h (s := s) (k := j) (by rw [hs]; rfl)
            obtain ⟨hle, hsl⟩ := view_sl h hrep (.inl ⟨hj, rfl⟩)
            obtain ⟨loc', hk, _, hl, hnew⟩ := h.take j (by rw [hj]; rfl)
            obtain ⟨base, sz, cnt, e1, e2, e3⟩ := id hrep
            rw [hj] at e1
            simp only [shp, Option.some.injEq, Prod.mk.injEq] at e1
            obtain ⟨rfl, rfl, rfl⟩ := e1
            have hdt := drop_take_length l off len hle
            rcases e3 with ⟨q1, q2, q3⟩ | ⟨b, o2, o3, cap, q1, q2, q3, q4, q5, _⟩
            · refine wpG (fun _ => none) hrun hk hr rfl rfl (.inl ⟨rfl, q2, ?_⟩) (fun _ _ _ _ _ e0 => by cases e0) (fun _ _ _ e0 => by cases e0)
              apply List.eq_nil_of_length_eq_zero; rw [hdt, q3]
            · obtain ⟨u, _, _, h3⟩ := opd_get h hj (by simp)
              rcases h3 with ⟨p4, _⟩ | ⟨b', o4, cap', cur, e', fr, p4, p5, p6, p7, p8, p9, p11, p12⟩
              · rw [q1] at p4; cases p4
              · rw [q1] at p4; cases p4
                have hbs : blkSize w b = cur.size := by simp [blkSize, p7]
                refine wp1 b o3 hrun hk hr rfl rfl ?_ ⟨heap_lt p7, p6, (hnew 0 b o2 q1).2.2⟩
                refine .inr ⟨b, o3, cap, cur, e', fr, by simp, by rw [hdt]; exact q2, p6, p7, p8, by rw [hdt]; exact q3, by rw [← hbs]; exact q5, ?_⟩
                rcases q4 with q4 | q4
                · subst q4
                  intro m z hm; simp [flat] at hm
                · rw [flat_dt, q4, Nat.add_zero]
                  exact (p12.drop _).take _
          · cases hr
        · rename_i C l n hj
          split at hr
          · rename_i hg
            subst hg
            have hrep := copy_rep h (s := s) (by rw [hs]; rfl)
            rw [hs] at hrep
            have hown := get_ref h (s := s) (k := j) (by rw [hs]; rfl)
            obtain ⟨_, hle, hsl⟩ := spr_view h hj hrep
            obtain ⟨loc', hk, _, hl, hnew⟩ := h.take j (by rw [hj]; rfl)
            obtain ⟨base, sz, cnt, e1, e2, e3⟩ := id hrep
            rw [hj] at e1
            simp only [shp, Option.some.injEq, Prod.mk.injEq] at e1
            obtain ⟨rfl, rfl, rfl⟩ := e1
            have hdt := drop_take_length l off len hle
            rcases e3 with ⟨q1, q2, q3⟩ | ⟨b, o2, o3, cap, q1, q2, q3, q4, q5, _⟩
            · refine wpG (fun _ => none) hrun hk hr rfl rfl (.inl ⟨rfl, q2, ?_⟩) (fun _ _ _ _ _ e0 => by cases e0) (fun _ _ _ e0 => by cases e0)
              apply List.eq_nil_of_length_eq_zero; rw [hdt, q3]
            · obtain ⟨u, _, _, h3⟩ := opd_get h hj (by simp)
              obtain ⟨_, b', o4, cur, e', fr, p4, p5, p6, p7, p8, p11, p12⟩ := h3
              rw [q1] at p4; cases p4
              have hbs : blkSize w b = cur.size := by simp [blkSize, p7]
              refine wp1 b o3 hrun hk hr rfl rfl ?_ ⟨heap_lt p7, p6, (hnew 0 b o2 q1).2.2⟩
              refine .inr ⟨b, o3, cap, cur, e', fr, by simp, by rw [hdt]; exact q2, p6, p7, p8, by rw [hdt]; exact q3, by rw [← hbs]; exact q5, ?_⟩
              rcases q4 with q4 | q4
              · subst q4
                intro m z hm; simp [flat] at hm
              · rw [flat_dt, q4, Nat.add_zero]
                exact (p12.drop _).take _
          · cases hr
        · cases hr
      · have := copy_rep h (s := s) (by rw [hs]; rfl)
        rw [hs] at this
        exact wp0 hrun h hr rfl this (fun k hk => get_ref h (s := s) (by rw [hs]; exact hk))
    · rename_i ds d hs hd
      exact tup_go h hs hrun rfl hd hr
    · cases hr
    · cases hr
    · cases hr
    · rename_i hs; exact wp0 hrun h hr rfl (alias_rep h (by rw [hs]; rfl)) (fun k hk => by cases hk; rw [hs]; rfl)
    · rename_i hs; exact wp0 hrun h hr rfl (alias_rep h (by rw [hs]; rfl)) (fun k hk => by cases hk; rw [hs]; rfl)
    · rename_i hn1 hn2 hn3 hn4 hn5 hn6 hn7 hn8 hn9 hn10
      have how : (get S s).owns = false := by
        cases hp : get S s <;> first | rfl | (exfalso; cases hd : o.dst <;> first | exact hn1 _ hp | exact hn1 _ _ hp | exact hn1 _ hp hd | exact hn1 _ _ hp hd | exact hn1 _ _ _ hp hd | exact hn1 _ _ _ _ hp hd | exact hn2 _ hp | exact hn2 _ _ hp | exact hn2 _ hp hd | exact hn2 _ _ hp hd | exact hn2 _ _ _ hp hd | exact hn2 _ _ _ _ hp hd | exact hn3 _ hp | exact hn3 _ _ hp | exact hn3 _ hp hd | exact hn3 _ _ hp hd | exact hn3 _ _ _ hp hd | exact hn3 _ _ _ _ hp hd | exact hn4 _ hp | exact hn4 _ _ hp | exact hn4 _ hp hd | exact hn4 _ _ hp hd | exact hn4 _ _ _ hp hd | exact hn4 _ _ _ _ hp hd | exact hn5 _ hp | exact hn5 _ _ hp | exact hn5 _ hp hd | exact hn5 _ _ hp hd | exact hn5 _ _ _ hp hd | exact hn5 _ _ _ _ hp hd | exact hn6 _ hp | exact hn6 _ _ hp | exact hn6 _ hp hd | exact hn6 _ _ hp hd | exact hn6 _ _ _ hp hd | exact hn6 _ _ _ _ hp hd | exact hn7 _ hp | exact hn7 _ _ hp | exact hn7 _ hp hd | exact hn7 _ _ hp hd | exact hn7 _ _ _ hp hd | exact hn7 _ _ _ _ hp hd | exact hn8 _ hp | exact hn8 _ _ hp | exact hn8 _ hp hd | exact hn8 _ _ hp hd | exact hn8 _ _ _ hp hd | exact hn8 _ _ _ _ hp hd | exact hn9 _ hp | exact hn9 _ _ hp | exact hn9 _ hp hd | exact hn9 _ _ hp hd | exact hn9 _ _ _ hp hd | exact hn9 _ _ _ _ hp hd | exact hn10 _ hp | exact hn10 _ _ hp | exact hn10 _ hp hd | exact hn10 _ _ hp hd | exact hn10 _ _ _ hp hd | exact hn10 _ _ _ _ hp hd)
      exact wp0 hrun h hr how (copy_rep h how) (fun k hk => get_ref h hk)
  · split at hr
    · rename_i C bb hco
      refine wpG (fun _ => none) hrun h hr rfl rfl (.inl ⟨rfl, rfl, rfl⟩) (fun _ _ _ _ _ e0 => by cases e0) (fun _ _ _ e0 => by cases e0)
    · cases hr
  · rename_i hn1 hn2
    cases x with
    | tmp s => exact absurd rfl (hn1 s)
    | const c => exact wp0 hrun h hr rfl rfl (fun k hk => by cases hk)
    | global g => exact wp0 hrun h hr rfl rfl (fun k hk => by cases hk)
    | func f => exact wp0 hrun h hr rfl rfl (fun k hk => by cases hk)

/-! ### calls -/
theorem toD1_ok (h : Sim X w0 S a w loc) {x : Operand} {d : D1} (hd : toD1 S (selfAlias x (opd S x)) = some d) : ArgRep w d (a.eval x) := by
  generalize hp : selfAlias x (opd S x) = p at hd
  have hj : p ≠ .junk ∧ (∀ s q, p ≠ .iter s q) ∧ (∀ ds, p ≠ .tup ds) := by
    refine ⟨fun e => ?_, fun _ _ e => ?_, fun _ e => ?_⟩ <;> (rw [e] at hd; simp [toD1, content] at hd)
  obtain ⟨h1, h2, h3⟩ := opd_rep h hp hj.1 hj.2.1 hj.2.2
  unfold toD1 at hd
  split at hd
  · cases hd; exact h2
  · cases hd; exact h2
  · cases hd; exact ⟨h2.1.mono fun b hb => Nat.lt_of_lt_of_le hb.1 h.hB, h2.2⟩
  · split at hd
    · rename_i c hc
      cases hd
      exact content_sl h hc h1 h2 h3
    · cases hd
theorem evCallArgs_ok (h : Sim X w0 S a w loc) : (xs : List Operand) → (ds : List D1) → evCallArgs S xs = some ds → ds.length = xs.length ∧ ∀ (i : Nat) d, ds[i]? = some d → ∃ x, xs[i]? = some x ∧ ArgRep w d (a.eval x)
  | [], ds, hd => by simp [evCallArgs] at hd; subst hd; exact ⟨rfl, fun i d h => by simp at h⟩
  | x :: xs, ds, hd => by
    simp only [evCallArgs] at hd
    cases h1 : toD1 S (selfAlias x (opd S x)) with
    | none => rw [h1] at hd; cases hd
    | some d1 =>
      rw [h1] at hd
      simp only [Option.bind_some] at hd
      cases h2 : evCallArgs S xs with
      | none => rw [h2] at hd; cases hd
      | some ds' =>
        rw [h2] at hd
        simp only [Option.bind_some, Option.some.injEq] at hd
        subst hd
        obtain ⟨g1, g2⟩ := evCallArgs_ok h xs ds' h2
        refine ⟨by simp [g1], fun i d hi => ?_⟩
        cases i with
        | zero => simp at hi; subst hi; exact ⟨x, rfl, toD1_ok h h1⟩
        | succ i => simpa using g2 i d (by simpa using hi)
theorem D1Rep.mono {B B' : Nat → Prop} {d : D1} {ℓ : Option (Nat × Nat)} {v : Value} (h : D1Rep w B d ℓ v) (hB : ∀ b, B b → B' b) : D1Rep w B' d ℓ v := by
  cases d with
  | own C l =>
    rcases h with h | ⟨b, o, cap, cur, e, fr, h1, h2, h3, h4⟩
    · exact .inl h
    · exact .inr ⟨b, o, cap, cur, e, fr, h1, h2, hB _ h3, h4⟩
  | _ => exact h
theorem DRep.rep {B : Nat → Prop} {ℓ : Nat → Option (Nat × Nat)} {d : DV} {v : Value} (h : DRep w B ℓ d v) (hB : ∀ b, B b → X.Mine b) : Rep X w S a.tmps loc ℓ d.toPV v := by
  cases d with
  | one d => have := D1Rep.mono h hB; cases d <;> first | exact this | exact ⟨this.1 _ _, this.2⟩
  | tup ds =>
    obtain ⟨vs, h1, h2, h3⟩ := h
    refine ⟨vs, h1, h2, fun j d hj => ?_⟩
    obtain ⟨u, g1, g2⟩ := h3 j d hj
    exact ⟨u, g1, g2.mono hB⟩
theorem DV.toPV_ref (d : DV) : d.toPV.ref = none := by cases d with | one d => cases d <;> rfl | tup ds => rfl
theorem GOk.lift (h : Sim X w0 S a w loc) : GOk ⟨X.P, w.heap.size, X.G, noM⟩ w := fun g ss hg => by
  obtain ⟨h1, h2, h3⟩ := h.glob g ss hg
  exact ⟨⟨Nat.lt_of_lt_of_le h1.1 h.hB, id⟩, h2.mono fun b hb => ⟨Nat.lt_of_lt_of_le hb.1 h.hB, id⟩, h3⟩
theorem content_X (h : Sim X w0 S a w loc) {p : PV} {v : Value} {c : Cont} {k b ob : Nat} (hc : content S p = some c) (ho : p.owns = false) (hp : Rep X w S a.tmps loc (fun _ => none) p v) (hown : ∀ k, p.ref = some k → (get S k).owns = true)
    (hk : p.ref ≠ some k) (hl : loc k 0 = some (b, ob)) : RoRep w (fun c => c < w.heap.size ∧ c ≠ b) c.C c.l v := by
  obtain ⟨ad, cap, h1, h2, h3⟩ := content_sl h hc ho hp hown
  refine ⟨ad, cap, h1, h2, ?_⟩
  rcases h3 with h3 | ⟨b1, o1, cur, e, fr, g1, g2, g3⟩
  · exact .inl h3
  · by_cases hnil : c.l = []
    · exact .inl hnil
    refine .inr ⟨b1, o1, cur, e, fr, g1, ⟨g2, fun hb => ?_⟩, g3⟩
    subst hb
    subst g1
    cases p with
    | ros C l =>
      simp only [content, Option.some.injEq] at hc; subst hc
      obtain ⟨ad', cap', k1, _, k3⟩ := hp
      rw [h1] at k1
      cases k1
      rcases k3 with k3 | ⟨b2, o2, _, _, _, k4, k5, _⟩
      · exact hnil k3
      · cases k4
        exact Cx.low_mine k5 (h.lt k 0 _ ob hl).2 rfl
    | own C l => simp [PV.owns] at ho
    | alias j =>
      simp only [content] at hc
      split at hc
      · rename_i C l hs
        simp only [Option.some.injEq] at hc; subst hc
        have := alias_val h hp (hown j rfl)
        rw [hs] at this
        rcases this with ⟨_, k2, _⟩ | ⟨b2, o2, cp, cur2, e2, fr2, k1, k2, _⟩
        · rw [h1] at k2; cases k2
        · rw [h1] at k2; cases k2
          exact hk (by rw [PV.ref, (h.sep j 0 k 0 _ _ _ k1 hl).1])
      · rename_i C l m hs
        simp only [Option.some.injEq] at hc; subst hc
        have := alias_val h hp (hown j rfl)
        rw [hs] at this
        obtain ⟨_, b2, o2, cur2, e2, fr2, k1, k2, _⟩ := this
        rw [h1] at k2
        simp only [Value.slice.injEq, Option.some.injEq, Addr.mk.injEq] at k2
        obtain ⟨⟨rfl, _, _⟩, _⟩ := k2
        exact hk (by rw [PV.ref, (h.sep j 0 k 0 _ _ _ k1 hl).1])
      · cases hc
    | view j g off len =>
      obtain ⟨base, sz, cnt, e1, e2, e3⟩ := hp
      rcases e3 with ⟨_, k2, _⟩ | ⟨b2, o2, o3, cp, k1, k2, _⟩
      · rw [h1] at k2; cases k2
      · rw [h1] at k2; cases k2
        exact hk (by rw [PV.ref, (h.sep j 0 k 0 _ _ _ k1 hl).1])
    | _ => simp [content] at hc
theorem toD1_X (h : Sim X w0 S a w loc) {x : Operand} {d : D1} {k b ob : Nat} (hd : toD1 S (selfAlias x (opd S x)) = some d) (hk : (selfAlias x (opd S x)).ref ≠ some k) (hl : loc k 0 = some (b, ob)) : ArgRepX w b d (a.eval x) := by
  generalize hp : selfAlias x (opd S x) = p at hd hk
  have hj : p ≠ .junk ∧ (∀ s q, p ≠ .iter s q) ∧ (∀ ds, p ≠ .tup ds) := by
    refine ⟨fun e => ?_, fun _ _ e => ?_, fun _ e => ?_⟩ <;> (rw [e] at hd; simp [toD1, content] at hd)
  obtain ⟨h1, h2, h3⟩ := opd_rep h hp hj.1 hj.2.1 hj.2.2
  unfold toD1 at hd
  split at hd
  · cases hd; exact h2
  · cases hd; exact h2
  · cases hd; exact ⟨h2.1.mono fun c hc => ⟨Nat.lt_of_lt_of_le hc.1 h.hB, Cx.low_mine hc (h.lt k 0 b ob hl).2⟩, h2.2⟩
  · split at hd
    · rename_i c hc
      cases hd
      exact content_X h hc h1 h2 h3 hk hl
    · cases hd
theorem evCallArgsR_ok (h : Sim X w0 S a w loc) {k b ob : Nat} (hl : loc k 0 = some (b, ob)) : (xs : List Operand) → (ds : List D1) → evCallArgsR S k xs = some ds → ds.length = xs.length ∧ ∀ (i : Nat) d, ds[i]? = some d → ∃ x, xs[i]? = some x ∧ ArgRepX w b d (a.eval x)
  | [], ds, hd => by simp [evCallArgsR] at hd; subst hd; exact ⟨rfl, fun i d h => by simp at h⟩
  | x :: xs, ds, hd => by
    simp only [evCallArgsR] at hd
    split at hd
    · cases hd
    · rename_i hk
      cases h1 : toD1 S (selfAlias x (opd S x)) with
      | none => rw [h1] at hd; cases hd
      | some d1 =>
        rw [h1] at hd
        simp only [Option.bind_some] at hd
        cases h2 : evCallArgsR S k xs with
        | none => rw [h2] at hd; cases hd
        | some ds' =>
          rw [h2] at hd
          simp only [Option.bind_some, Option.some.injEq] at hd
          subst hd
          obtain ⟨g1, g2⟩ := evCallArgsR_ok h hl xs ds' h2
          refine ⟨by simp [g1], fun i d hi => ?_⟩
          cases i with
          | zero => simp at hi; subst hi; exact ⟨x, rfl, toD1_X h h1 hk hl⟩
          | succ i => simpa using g2 i d (by simpa using hi)
theorem evCallArgsS_ok {a : Act} {tmps : Array Value} (h : Sim X w0 S a w loc) : (xs : List Operand) → (ds : List D1) → evCallArgsS S xs = some ds → ds.length = xs.length ∧ ∀ (i : Nat) d, ds[i]? = some d → ∃ x, xs[i]? = some x ∧ ∃ v, d = .raw v ∧ a.eval x = v
  | [], ds, hd => by simp [evCallArgsS] at hd; subst hd; exact ⟨rfl, fun i d h => by simp at h⟩
  | x :: xs, ds, hd => by
    simp only [evCallArgsS] at hd
    split at hd
    · rename_i v hv
      cases h2 : evCallArgsS S xs with
      | none => rw [h2] at hd; cases hd
      | some ds' =>
        rw [h2] at hd
        simp only [Option.bind_some, Option.some.injEq] at hd
        subst hd
        obtain ⟨g1, g2⟩ := evCallArgsS_ok (tmps := tmps) h xs ds' h2
        refine ⟨by simp [g1], fun i d hi => ?_⟩
        cases i with
        | zero => simp at hi; subst hi; exact ⟨x, rfl, v, rfl, opd_raw h hv⟩
        | succ i => simpa using g2 i d (by simpa using hi)
    · cases hd
/-- what a callee has used up was nobody's any more -/
theorem Sim.extA (h : Sim X w0 S a w loc) {w' : World} {P : Program} {G : Nat → Option (List Seg)} {ℓ : Option (Nat × Nat)} (hb : Kept ⟨P, w.heap.size, G, usedM w.heap.size ℓ⟩ w w')
    (hm : ∀ b o, ℓ = some (b, o) → X.Mine b ∧ ∀ i j o', loc i j ≠ some (b, o')) : Sim X w0 S a w' loc := by
  have hlt : ∀ c, c < w.heap.size → (∀ o, ℓ ≠ some (c, o)) → w'.heap[c]? = w.heap[c]? := fun c h1 h2 => hb.block c ⟨h1, fun hu => by
    rcases hu with hu | ⟨o, hu⟩
    · exact Nat.lt_irrefl _ (Nat.lt_of_lt_of_le h1 hu)
    · exact h2 o hu⟩
  have hlow : ∀ b, X.Low b → w'.heap[b]? = w.heap[b]? := fun b hb' => hlt b (Nat.lt_of_lt_of_le hb'.1 h.hB) fun o e => Cx.low_mine hb' (hm b o e).1 rfl
  have hloc : ∀ i j b o, loc i j = some (b, o) → w'.heap[b]? = w.heap[b]? := fun i j b o hl => hlt b (h.lt i j b o hl).1 fun o' e => (hm b o' e).2 i j o hl
  refine { h with hB := Nat.le_trans h.hB hb.size, below := h.below.trans ⟨hb.os, hb.tape, hb.output, hb.size, hlow⟩, glob := h.glob.frame hlow, rep := fun i p hp => ?_, lt := fun i j b o hl => ?_ }
  · obtain ⟨v, hv, hr⟩ := h.rep i p hp
    exact ⟨v, hv, hr.frame' (fun j b o hl => hloc i j b o hl) hlow (fun k b o _ hl => Nat.le_of_eq (blkSize_of_eq (hloc k 0 b o hl)).symm) (fun k _ => ⟨fun _ => rfl, rfl, rfl, rfl⟩)⟩
  · exact ⟨Nat.lt_of_lt_of_le (h.lt i j b o hl).1 hb.size, (h.lt i j b o hl).2⟩
theorem op_callA {f : FuncId} {args : Array Operand} {ats : Array TypeId} (hE : EnvOk X E) (h : Sim X w0 S a w loc) (ho : o.op = .call { callee := .value (.func f), args := args, argTypes := ats })
    (hr : evCallA E S f args.toList (fin o.dst K) = some r) : o.wp X.P a w (Post X w0 K r) Q := by
  unfold evCallA at hr
  split at hr
  · rename_i F x xs hF hxs
    obtain ⟨hfok, fn, hfn, hbody, hname⟩ := hE.A f F hF
    generalize hxp : selfAlias x (opd S x) = p at hr
    split at hr
    · rename_i k
      obtain ⟨_, hrep, hown⟩ := opd_rep h hxp (by simp) (by simp) (by simp)
      have hko := hown k rfl
      have hv := alias_val h hrep hko
      split at hr
      · rename_i C l hk
        rw [hk] at hv
        have hv : OwnRep w X.Mine C l (loc k 0) (a.eval x) := hv
        cases hds : evCallArgsS S xs with
        | none => rw [hds] at hr; cases hr
        | some ds =>
          rw [hds] at hr
          simp only [Option.bind_some] at hr
          obtain ⟨loc', hs', hf, hl, hnew⟩ := h.take k (by rw [hk]; rfl)
          obtain ⟨hlen, hargs⟩ := evCallArgsS_ok (tmps := a.tmps) h xs ds hds
          have hrun : (execOp a.eval o).run X.P w = .ok (.enter f (args.map a.eval)) w := by
            have e1 : ¬ fn.name = "runtime.NumGoroutine" := by simpa using hname
            have e2 : ¬ fn.body = none := fun e => by rw [e] at hbody; cases hbody
            simp [execOp, ho, resolve, Act.eval, Deferred.ofValue, invoke, callFunc, hfn, e1, e2]
          have hmine : ∀ b o, loc k 0 = some (b, o) → X.Mine b := fun b o e => (h.lt k 0 b o e).2
          have hg : GOk ⟨X.P, w.heap.size, X.G, usedM w.heap.size (loc k 0)⟩ w := fun g ss hg => by
            obtain ⟨h1, h2, h3⟩ := h.glob g ss hg
            have hlow : ∀ b, X.Low b → ¬ usedM w.heap.size (loc k 0) b := fun b h1 hu => by
              rcases hu with hu | ⟨o, hu⟩
              · exact Nat.lt_irrefl _ (Nat.lt_of_lt_of_le (Nat.lt_of_lt_of_le h1.1 h.hB) hu)
              · exact Cx.low_mine h1 (hmine b o hu) rfl
            exact ⟨⟨Nat.lt_of_lt_of_le h1.1 h.hB, hlow g h1⟩, h2.mono fun b hb => ⟨Nat.lt_of_lt_of_le hb.1 h.hB, hlow b hb⟩, h3⟩
          have hown' : OwnRep w (usedM w.heap.size (loc k 0)) C l (loc k 0) (a.eval x) := by
            rcases hv with hv | ⟨b, o, cap, cur, e, fr, k1, k2, k3, k4⟩
            · exact .inl hv
            · exact .inr ⟨b, o, cap, cur, e, fr, k1, k2, .inr ⟨o, k1⟩, k4⟩
          have hargl : ∀ i : Nat, (args.map a.eval)[i]? = (x :: xs)[i]?.map a.eval := fun i => by rw [← hxs]; simp
          have hasz : args.size = xs.length + 1 := by rw [← Array.length_toList, hxs]; rfl
          have hcall := hfok ρ ⟨C, l⟩ (ds.map .one) _ r hr w (args.map a.eval) (loc k 0) (a.eval x) hg (by simp [hlen, hasz]) (by rw [hargl]; simp) hown' (fun i d hi => by
            rw [List.getElem?_map] at hi
            cases hd : ds[i]? with
            | none => rw [hd] at hi; cases hi
            | some d1 =>
              rw [hd] at hi
              simp only [Option.map_some, Option.some.injEq] at hi
              obtain ⟨y, hx1, v, rfl, hx2⟩ := hargs i d1 hd
              exact ⟨.raw v, a.eval y, hi.symm, by rw [hargl]; simp [hx1], hx2⟩)
          unfold Oper.wp
          rw [hrun]
          refine Calls.mono hcall fun en w' he => ?_
          obtain ⟨d, v, hkk, rfl, hb, ℓ, g1, g2, g3, g4⟩ := he
          have hs := hs'.extA hb fun b o e => ⟨hmine b o e, (hnew 0 b o e).2.2⟩
          have hmi : ∀ b, usedM w.heap.size (loc k 0) b → X.Mine b := fun b hu => by
            rcases hu with hu | ⟨o, hu⟩
            · exact .inl (Nat.le_trans h.hB hu)
            · exact hmine b o hu
          show Post X w0 K r (a.put o.dst v) w'
          cases hd : o.dst with
          | none => rw [hd] at hkk; exact ⟨_, loc', fin_none hkk, hs⟩
          | some dd =>
            rw [hd] at hkk
            obtain ⟨q1, q2, q3⟩ := fin_some hkk
            obtain ⟨loc2, hs2⟩ := hs.fin q1 ℓ d.toPV v (DRep.rep g4 hmi) (fun k hk => by rw [DV.toPV_ref] at hk; cases hk) g3 g2 (fun j b o hj => by
              obtain ⟨p1, p2⟩ := g1 j b o hj
              refine ⟨p2, hmi b p1, fun i j' o' e0 => ?_⟩
              rcases p1 with p1 | ⟨o2, p1⟩
              · have := (hs'.lt i j' b o' e0).1; omega
              · exact (hnew 0 b o2 p1).2.2 i j' o' e0)
            exact ⟨_, loc2, q3, hs2⟩
      · cases hr
    · cases hr
  · cases hr
theorem op_callR {f : FuncId} {args : Array Operand} {ats : Array TypeId} (hE : EnvOk X E) (h : Sim X w0 S a w loc) (ho : o.op = .call { callee := .value (.func f), args := args, argTypes := ats })
    (hr : evCallR E S f args.toList (fin o.dst K) = some r) : o.wp X.P a w (Post X w0 K r) Q := by
  unfold evCallR at hr
  split at hr
  · rename_i F x xs hF hxs
    obtain ⟨hfok, fn, hfn, hbody, hname⟩ := hE.R f F hF
    generalize hxp : selfAlias x (opd S x) = p at hr
    split at hr
    · rename_i k
      obtain ⟨_, hrep, hown⟩ := opd_rep h hxp (by simp) (by simp) (by simp)
      have hko := hown k rfl
      have hv := alias_val h hrep hko
      split at hr
      · rename_i ss hk
        rw [hk] at hv
        obtain ⟨b, cur, e, fr, p1, p2, p3, p4, p5, p6, p7⟩ := hv
        cases hnr : noRo ss with
        | false => rw [hnr] at hr; cases hr
        | true =>
        rw [hnr] at hr
        simp only [cond_true] at hr
        have p6 := segsPl_of p6 hnr
        cases hds : evCallArgsR S k xs with
        | none => rw [hds] at hr; cases hr
        | some ds =>
          rw [hds] at hr
          simp only [Option.bind_some] at hr
          obtain ⟨hlen, hargs⟩ := evCallArgsR_ok h p1 xs ds hds
          have hrun : (execOp a.eval o).run X.P w = .ok (.enter f (args.map a.eval)) w := by
            have e1 : ¬ fn.name = "runtime.NumGoroutine" := by simpa using hname
            have e2 : ¬ fn.body = none := fun e => by rw [e] at hbody; cases hbody
            simp [execOp, ho, resolve, Act.eval, Deferred.ofValue, invoke, callFunc, hfn, e1, e2]
          have hg : GOk ⟨X.P, w.heap.size, X.G, (· = b)⟩ w := fun g ss hg => by
            obtain ⟨h1, h2, h3⟩ := h.glob g ss hg
            exact ⟨⟨Nat.lt_of_lt_of_le h1.1 h.hB, Cx.low_mine h1 p3⟩, h2.mono fun c hc => ⟨Nat.lt_of_lt_of_le hc.1 h.hB, Cx.low_mine hc p3⟩, h3⟩
          have hargl : ∀ i : Nat, (args.map a.eval)[i]? = (x :: xs)[i]?.map a.eval := fun i => by rw [← hxs]; simp
          have hasz : args.size = xs.length + 1 := by rw [← Array.length_toList, hxs]; rfl
          have hcall := hfok ρ ss (ds.map .one) _ r hr w (args.map a.eval) b cur e fr hg (by simp [hlen, hasz]) (by rw [hargl]; simp [p2]) p4 p5 p6 p7 (fun i d hi => by
            rw [List.getElem?_map] at hi
            cases hd : ds[i]? with
            | none => rw [hd] at hi; cases hi
            | some d1 =>
              rw [hd] at hi
              simp only [Option.map_some, Option.some.injEq] at hi
              obtain ⟨y, hx1, hx2⟩ := hargs i d1 hd
              exact ⟨d1, a.eval y, hi.symm, by rw [hargl]; simp [hx1], hx2⟩)
          unfold Oper.wp
          rw [hrun]
          refine Calls.mono hcall fun en w' he => ?_
          obtain ⟨ss', d, v, hkk, rfl, hb, ⟨cur', e', fr', m1, m2, m3⟩, hok', hkinds, ℓ, g1, g2, g3, g4⟩ := he
          have hclen := kinds_len ss ss' hkinds (hok' w X.Low) (p6 w X.Low)
          have hs : Sim X w0 (S.set k (.obj ss')) a w' loc := h.updG (pk := .obj ss') hko p1 (fun c hc hcb => hb.block c ⟨hc, hcb⟩) hb.size hb.os hb.tape hb.output (fun c => by
              by_cases hcb : c = b
              · subst hcb; simp [blkSize, p4, m1, p7, m3, hclen]
              · by_cases hc : c < w.heap.size
                · exact Nat.le_of_eq (blkSize_of_eq (hb.block c ⟨hc, hcb⟩)).symm
                · simp [blkSize, Array.getElem?_eq_none (Nat.le_of_not_lt hc)])
            (fun g => by rw [hk]; exact kinds_shp hkinds g) (by rw [hk]; rfl) rfl rfl (fun u hu => by
              obtain ⟨u', hu1, hu2⟩ := h.rep k _ (get_some hko)
              rw [hu] at hu1; cases hu1
              rw [hk] at hu2
              obtain ⟨b', cur2, e2, fr2, n1, n2, n3, _⟩ := hu2
              rw [p1] at n1; cases n1
              exact ⟨b, cur', e', fr', p1, n2, n3, m1, m2, hok' _ _, m3⟩)
          show Post X w0 K r (a.put o.dst v) w'
          cases hd : o.dst with
          | none => rw [hd] at hkk; exact ⟨_, loc, fin_none hkk, hs⟩
          | some dd =>
            rw [hd] at hkk
            obtain ⟨q1, q2, q3⟩ := fin_some hkk
            obtain ⟨loc2, hs2⟩ := hs.fin q1 ℓ d.toPV v (DRep.rep g4 fun b hb => .inl (Nat.le_trans h.hB hb)) (fun k hk => by rw [DV.toPV_ref] at hk; cases hk) g3 g2 (fun j b o hj => by
              obtain ⟨p1, p2⟩ := g1 j b o hj
              exact ⟨p2, .inl (Nat.le_trans h.hB p1), fun i j' o' e0 => by have := (h.lt i j' b o' e0).1; omega⟩)
            exact ⟨_, loc2, q3, hs2⟩
      · cases hr
    · cases hr
  · exact op_callA hE h ho hr
  · cases hr
theorem op_call {f : FuncId} {args : Array Operand} {ats : Array TypeId} (hE : EnvOk X E) (h : Sim X w0 S a w loc) (ho : o.op = .call { callee := .value (.func f), args := args, argTypes := ats })
    (hr : evOp E S o.dst o.op o.type (fin o.dst K) = some r) : o.wp X.P a w (Post X w0 K r) Q := by
  rw [ho] at hr
  simp only [evOp] at hr
  split at hr
  · rename_i F ds hF hds
    obtain ⟨hfok, fn, hfn, hbody, hname⟩ := hE.Γ f F hF
    obtain ⟨hlen, hargs⟩ := evCallArgs_ok h args.toList ds hds
    have hrun : (execOp a.eval o).run X.P w = .ok (.enter f (args.map a.eval)) w := by
      have e1 : ¬ fn.name = "runtime.NumGoroutine" := by simpa using hname
      have e2 : ¬ fn.body = none := fun e => by rw [e] at hbody; cases hbody
      simp [execOp, ho, resolve, Act.eval, Deferred.ofValue, invoke, callFunc, hfn, e1, e2]
    have hcall := hfok ρ (ds.map .one) _ r hr w (args.map a.eval) (GOk.lift h) (by simp [hlen]) (fun i d hi => by
      rw [List.getElem?_map] at hi
      cases hd : ds[i]? with
      | none => rw [hd] at hi; cases hi
      | some d1 =>
        rw [hd] at hi
        simp only [Option.map_some, Option.some.injEq] at hi
        obtain ⟨x, hx1, hx2⟩ := hargs i d1 hd
        exact ⟨d1, a.eval x, hi.symm, by simp at hx1; simp [hx1], hx2⟩)
    unfold Oper.wp
    rw [hrun]
    refine Calls.mono hcall fun e w' he => ?_
    obtain ⟨d, v, hk, rfl, hb, ℓ, g1, g2, g3, g4⟩ := he
    have hs := h.ext hb
    show Post X w0 K r (a.put o.dst v) w'
    cases hd : o.dst with
    | none => rw [hd] at hk; exact ⟨S, loc, fin_none hk, hs⟩
    | some dd =>
      rw [hd] at hk
      obtain ⟨q1, q2, q3⟩ := fin_some hk
      obtain ⟨loc2, hs2⟩ := hs.fin q1 ℓ d.toPV v (DRep.rep g4 fun b hb => .inl (Nat.le_trans h.hB hb)) (fun k hk => by rw [DV.toPV_ref] at hk; cases hk) g3 g2 (fun j b o hj => by
        obtain ⟨p1, p2⟩ := g1 j b o hj
        exact ⟨p2, .inl (Nat.le_trans h.hB p1), fun i j' o' e0 => by have := (h.lt i j' b o' e0).1; omega⟩)
      exact ⟨_, loc2, q3, hs2⟩
  · exact op_callR hE h ho hr
  · cases hr

theorem sc_desc {t : TypeId} {ti : TI} {τ : T0} (ht : TOk X.P t ti) (hc : ti.cod = some (.sc τ)) : X.P.underlying t = some (match τ with | .int k => .int k | .bool => .bool | .str => .string) := by rw [ht.und, (ht.scal τ hc).2.2]; cases τ <;> rfl
theorem op_ta {x : Operand} {u t : TypeId} {ok : Bool} (hE : EnvOk X E) (h : Sim X w0 S a w loc) (ho : o.op = .typeAssert x u t ok) (hr : evTA E t ok (opd S x) (fun p => fin o.dst K p S) = some r) : o.wp X.P a w (Post X w0 K r) Q := by
  unfold evTA at hr
  split at hr
  · rename_i ti v hti hx
    have ht := hE.T t ti hti
    have e1 := opd_raw h hx
    split at hr
    · rename_i τ hc
      have hu := sc_desc ht hc
      obtain ⟨hfit, hr⟩ := chk_some hr
      obtain ⟨z, hz, _⟩ := run_zero ht w
      have fails : ∀ v : Value, a.eval x = v → (v = .nilIface ∨ ∃ q y, v = .iface q y ∧ q ≠ t) → fin o.dst K (.tup [.junk, .raw (.bool false)]) S = some r → o.wp X.P a w (Post X w0 K r) Q := fun v hv hq hr => by
        have hrun : (execOp a.eval o).run X.P w = .ok (.value (.tuple #[z, .bool false])) w := by
          rcases hq with rfl | ⟨q, y, rfl, hne⟩
          · cases τ <;> simp [execOp, ho, hv, Instr.typeAssert, run_underlying hu, hz]
          · cases τ <;> simp [execOp, ho, hv, Instr.typeAssert, run_underlying hu, hz, hne]
        refine wp0 (p := .tup [.junk, .raw (.bool false)]) hrun h hr rfl ⟨#[z, .bool false], rfl, rfl, fun j d hd => ?_⟩ (fun k hk => by cases hk)
        match j with
        | 0 => cases hd; exact ⟨z, rfl, trivial⟩
        | 1 => cases hd; exact ⟨.bool false, rfl, rfl⟩
        | j + 2 => cases hd
      cases v with
      | nilIface => exact fails _ e1 (.inl rfl) hr
      | iface q y =>
        by_cases hq : q = t
        · subst hq
          have hd : (τ.dec y).isSome = true := by simpa [fitT] using hfit
          obtain ⟨y', hy'⟩ := Option.isSome_iff_exists.1 hd
          have hyv := T0.dec_ok hy'
          have hr : fin o.dst K (.raw (.tuple #[τ.val (asT τ q (.iface q y)), .bool true])) S = some r := by
            have : isT q (.iface q y) = true := by simp [isT]
            rw [this] at hr; exact hr
          have ha : τ.val (asT τ q (.iface q y)) = y := by
            show τ.val (if q = q then (τ.dec y).getD τ.dflt else τ.dflt) = y
            rw [if_pos rfl, hy']; exact hyv
          rw [ha] at hr
          refine wp_raw (v := .tuple #[y, .bool true]) ?_ h hr
          cases τ <;> simp [execOp, ho, e1, Instr.typeAssert, run_underlying hu]
        · have : isT t (.iface q y) = false := by simp [isT, hq]
          rw [this] at hr
          exact fails _ e1 (.inr ⟨q, y, rfl, hq⟩) hr
      | _ => simp [fitT] at hfit
    · cases hr
  · cases hr
theorem op_mi {x : Operand} {t : TypeId} (hE : EnvOk X E) (h : Sim X w0 S a w loc) (ho : o.op = .makeInterface t x) (hr : evMI E t (opd S x) (fun p => fin o.dst K p S) = some r) : o.wp X.P a w (Post X w0 K r) Q := by
  unfold evMI at hr
  split at hr
  · rename_i ti v hti hx
    have ht := hE.T t ti hti
    have e1 := opd_raw h hx
    split at hr
    · rename_i τ hc
      have hu := sc_desc ht hc
      refine wp_raw (v := .iface t v) ?_ h hr
      cases τ <;> simp [execOp, ho, e1, Instr.makeInterface, run_underlying hu]
    · cases hr
  · cases hr
/-- ONE OPERATION: what the evaluator tells is what it does. -/
theorem evOp_sound (hE : EnvOk X E) (h : Sim X w0 S a w loc) (hr : evOp E S o.dst o.op o.type (fin o.dst K) = some r) : o.wp X.P a w (Post X w0 K r) Q := by
  cases ho : o.op with
  | move x => exact op_move h ho hr
  | assign x => exact op_assign hE h ho hr
  | pick c x y => exact op_pick h ho hr
  | alloc t => exact op_alloc hE h ho hr
  | box t x => exact op_box h ho hr
  | build t parts => rw [ho] at hr; exact evBuild_ok hE h ho hr
  | buildSlice t len parts => rw [ho] at hr; exact evBuildSlice_ok hE h ho hr
  | load t x =>
    rw [ho] at hr
    have hr : evLoad E S t (selfAlias x (opd S x)) (fun q => fin o.dst K q S) = some r := hr
    generalize hp : selfAlias x (opd S x) = p at hr
    have hj : p ≠ .junk ∧ (∀ s q, p ≠ .iter s q) ∧ (∀ ds, p ≠ .tup ds) := by
      refine ⟨fun e => ?_, fun _ _ e => ?_, fun _ e => ?_⟩ <;> (rw [e] at hr; simp only [evLoad] at hr; split at hr <;> cases hr)
    obtain ⟨h1, h2, h3⟩ := opd_rep h hp hj.1 hj.2.1 hj.2.2
    exact evLoad_ok hE h ho rfl h2 h3 hr
  | store t x y =>
    rw [ho] at hr
    have hr : evStore E S t (selfAlias x (opd S x)) (opd S y) (fun S' => fin o.dst K (.raw undef) S') = some r := hr
    generalize hp : selfAlias x (opd S x) = p at hr
    have hj : p ≠ .junk ∧ (∀ s q, p ≠ .iter s q) ∧ (∀ ds, p ≠ .tup ds) := by
      refine ⟨fun e => ?_, fun _ _ e => ?_, fun _ e => ?_⟩ <;> (rw [e] at hr; simp only [evStore] at hr; split at hr <;> cases hr)
    obtain ⟨h1, h2, h3⟩ := opd_rep h hp hj.1 hj.2.1 hj.2.2
    refine evStore_ok hE h ho rfl rfl h2 h3 (fun hq => ?_) hr
    cases y with
    | tmp s => exact copy_rep h hq
    | const c => rfl
    | global g => rfl
    | func f => rfl
  | nilCheck x => exact op_nilCheck h ho hr
  | binOp op t x y ty => exact op_binOp hE h ho hr (fun hr => evCmp_ok hE h ho hr)
  | makeSlice t x y => rw [ho] at hr; exact evMake_ok hE h ho hr
  | unOp op t x => exact op_unOp h ho hr
  | convert s d x =>
    rw [ho] at hr
    have hr : evConvert E S s d (selfAlias x (opd S x)) (fun q => fin o.dst K q S) = some r := hr
    generalize hp : selfAlias x (opd S x) = p at hr
    have hj : p ≠ .junk ∧ (∀ s q, p ≠ .iter s q) ∧ (∀ ds, p ≠ .tup ds) := by
      refine ⟨fun e => ?_, fun _ _ e => ?_, fun _ e => ?_⟩ <;> (rw [e] at hr; simp only [evConvert] at hr; (repeat' split at hr) <;> simp_all [contentT, content])
    obtain ⟨h1, h2, h3⟩ := opd_rep h hp hj.1 hj.2.1 hj.2.2
    exact evConvert_ok hE h ho rfl h1 h2 h3 hr
  | slice t x lo hi mx =>
    cases mx with
    | some m => rw [ho] at hr; cases hr
    | none =>
      rw [ho] at hr
      have hr : evSlice E S t (selfAlias x (opd S x)) lo hi (fun q => fin o.dst K q S) = some r := hr
      generalize hp : selfAlias x (opd S x) = p at hr
      have hj : p ≠ .junk ∧ (∀ s q, p ≠ .iter s q) ∧ (∀ ds, p ≠ .tup ds) := by
        refine ⟨fun e => ?_, fun _ _ e => ?_, fun _ e => ?_⟩ <;> (rw [e] at hr; simp only [evSlice] at hr; (repeat' split at hr) <;> simp_all [contentT, content])
      obtain ⟨h1, h2, h3⟩ := opd_rep h hp hj.1 hj.2.1 hj.2.2
      exact evSlice_ok hE h ho rfl h2 h3 hr
  | sliceToArrayPointer t x =>
    rw [ho] at hr
    have hr : evArrAt E S t (selfAlias x (opd S x)) (fun q => fin o.dst K q S) = some r := hr
    generalize hp : selfAlias x (opd S x) = p at hr
    have hj : p ≠ .junk ∧ (∀ s q, p ≠ .iter s q) ∧ (∀ ds, p ≠ .tup ds) := by
      refine ⟨fun e => ?_, fun _ _ e => ?_, fun _ e => ?_⟩ <;> (rw [e] at hr; simp only [evArrAt] at hr; (repeat' split at hr) <;> simp_all)
    obtain ⟨h1, h2, h3⟩ := opd_rep h hp hj.1 hj.2.1 hj.2.2
    exact evArrAt_ok hE h ho rfl h2 h3 hr
  | fieldAddr t x f =>
    rw [ho] at hr
    have hr : evFieldAddr E S t (selfAlias x (opd S x)) f (fun q => fin o.dst K q S) = some r := hr
    generalize hp : selfAlias x (opd S x) = p at hr
    have hj : p ≠ .junk ∧ (∀ s q, p ≠ .iter s q) ∧ (∀ ds, p ≠ .tup ds) := by
      refine ⟨fun e => ?_, fun _ _ e => ?_, fun _ e => ?_⟩ <;> (rw [e] at hr; simp only [evFieldAddr] at hr; (repeat' split at hr) <;> simp_all [contentT, content])
    obtain ⟨h1, h2, h3⟩ := opd_rep h hp hj.1 hj.2.1 hj.2.2
    exact evFieldAddr_ok hE h ho rfl h2 h3 hr
  | indexAddr t x i =>
    rw [ho] at hr
    simp only [evOp] at hr
    split at hr
    · rename_i n hi
      obtain ⟨k, hk⟩ := asI_val h hi
      generalize hp : selfAlias x (opd S x) = p at hr
      have hj : p ≠ .junk ∧ (∀ s q, p ≠ .iter s q) ∧ (∀ ds, p ≠ .tup ds) := by
        refine ⟨fun e => ?_, fun _ _ e => ?_, fun _ e => ?_⟩ <;> (rw [e] at hr; simp only [evIndexAddr] at hr; (repeat' split at hr) <;> simp_all [contentT, content])
      obtain ⟨h1, h2, h3⟩ := opd_rep h hp hj.1 hj.2.1 hj.2.2
      exact evIndexAddr_ok hE h ho rfl hk h2 h3 hr
    · cases hr
  | typeAssert x u t ok => rw [ho] at hr; exact op_ta hE h ho hr
  | makeInterface t x => rw [ho] at hr; exact op_mi hE h ho hr
  | index t x i => exact op_index hE h ho hr
  | range t x => exact op_range hE h ho hr
  | next x b =>
    cases b with
    | true => exact op_next (ty := 0) h ho hr
    | false => rw [ho] at hr; cases hr
  | extract x i => exact op_extract h ho hr
  | call c =>
    obtain ⟨callee, args, ats⟩ := c
    cases callee with
    | value f =>
      cases f with
      | func f => exact op_call hE h ho hr
      | _ => rw [ho] at hr; cases hr
    | invoke x m => rw [ho] at hr; cases hr
    | builtin b =>
      cases b with
      | len =>
        rw [ho] at hr
        simp only [evOp] at hr
        split at hr
        · rename_i x t hx ht
          exact evLen_ok hE h ho hx ht hr
        · cases hr
      | append =>
        rw [ho] at hr
        simp only [evOp] at hr
        split at hr
        · rename_i x y t hx hy ht
          split at hr
          · rename_i t2 ht2
            split at hr
            · rename_i hok
              exact evAppend_ok hE h ho hx hy ht ht2 hok hr
            · cases hr
          · cases hr
        · cases hr
      | copy =>
        rw [ho] at hr
        simp only [evOp] at hr
        split at hr
        · rename_i x y t hx hy ht
          exact evCopy_ok hE h ho hx hy ht hr
        · cases hr
      | _ => rw [ho] at hr; cases hr
  | _ => rw [ho] at hr; cases hr
end
end Go.Px
