/- A struct out of its parts. -/
import Derived.Test.YtjpgncjabhiooaaDoorPx11
import Derived.Laws.Tables
set_option linter.unusedVariables false
set_option linter.unusedSimpArgs false
namespace Go.Px
open Go Go.RowKit
section
variable {X : Cx} {ρ : Type} {w0 : World} {S : St} {a : Act} {w : World} {loc : Nat → Nat → Option (Nat × Nat)} {E : Env ρ} {K : St → Option ρ} {r : ρ} {o : Oper} {Q : Exit → Act → World → Prop}
theorem ones_eq : (ss : List Seg) → (z : List Value) → ones ss = some z → ss = z.map Seg.one
  | [], z, h => by cases h; rfl
  | .one v :: r, z, h => by
    simp only [ones] at h
    cases h1 : ones r with
    | none => rw [h1] at h; cases h
    | some l => rw [h1] at h; cases h; rw [ones_eq r l h1]; rfl
  | .arr C n l :: r, z, h => by simp [ones] at h
theorem rawParts_eval (h : Sim X w0 S a w loc) : (l : List (Nat × Operand)) → (vs : List (Nat × Value)) → rawParts S l = some vs → (l.map fun (i, x) => (i, a.eval x)) = vs
  | [], vs, hr => by cases hr; rfl
  | (i, x) :: l, vs, hr => by
    simp only [rawParts] at hr
    split at hr
    · rename_i v hv
      cases h1 : rawParts S l with
      | none => rw [h1] at hr; cases hr
      | some l' =>
        rw [h1] at hr
        cases hr
        rw [List.map_cons, rawParts_eval h l l' h1]
        simp only
        rw [opd_raw h hv]
    · cases hr
theorem fields_places {P : Program} (hT : ∀ t i, E.T t = some i → TOk P t i) : (i : Nat) → (fs : List Field) → fieldsOne E i fs = true → fs.mapM (fun f => (P.info? f.type).map fun k => (f.offset, k.size)) = some ((List.range' i fs.length).map fun j => (j, 1))
  | _, [], _ => rfl
  | i, f :: fs, h => by
    simp only [fieldsOne, Bool.and_eq_true, beq_iff_eq] at h
    obtain ⟨h1, h2, h3⟩ := h
    cases htf : E.T f.type with
    | none => rw [htf] at h2; cases h2
    | some tf =>
      rw [htf] at h2
      obtain ⟨k, g1, g2, _⟩ := (hT _ _ htf).info
      have h2 : tf.size = 1 := by simpa using h2
      have ih := fields_places hT (i + 1) fs h3
      rw [List.mapM_cons, g1, ih]
      simp [g2, h1, h2, List.range'_succ]
theorem fill_vals (place : Nat → Option (Nat × Nat)) : (vs : List (Nat × Value)) → (z z' : List Value) → (∀ i, i < z.length → place i = some (i, 1)) → setVals z vs = some z' → Instr.fill place z.toArray vs = some z'.toArray
  | [], z, z', _, h => by cases h; rfl
  | (i, v) :: vs, z, z', hp, h => by
    simp only [setVals] at h
    split at h
    · rename_i hc
      obtain ⟨h1, h2⟩ := hc
      have hcv := oneC_cells h2
      simp only [Instr.fill, hp i h1, hcv]
      have : (i + (#[v] : Array Value).size > z.toArray.size) = False := by simp; omega
      simp only [this]
      simp
      exact fill_vals place vs (z.set i v) z' (by simpa using hp) h
    · cases h
theorem setVals_ok : (vs : List (Nat × Value)) → (z z' : List Value) → (∀ v ∈ z, segOk (.one v)) → setVals z vs = some z' → ∀ v ∈ z', segOk (.one v)
  | [], z, z', hz, h => by cases h; exact hz
  | (i, v) :: vs, z, z', hz, h => by
    simp only [setVals] at h
    split at h
    · rename_i hc
      refine setVals_ok vs (z.set i v) z' (fun u hu => ?_) h
      rcases List.mem_or_eq_of_mem_set hu with hu | hu
      · exact hz u hu
      · rw [hu]; exact segOk_one hc.2
    · cases h
theorem evBuild_ok {t : TypeId} {parts : Array (Nat × Operand)} (hE : EnvOk X E) (h : Sim X w0 S a w loc) (ho : o.op = .build t parts) (hr : evBuild E S t parts.toList (fun p => fin o.dst K p S) = some r) : o.wp X.P a w (Post X w0 K r) Q := by
  unfold evBuild at hr
  cases hti : E.T t with
  | none => rw [hti] at hr; cases hr
  | some ti =>
    rw [hti] at hr
    have ht := hE.T t ti hti
    dsimp only at hr
    split at hr
    · rename_i fs hd
      split at hr
      · rename_i hc
        obtain ⟨hf, hlen⟩ := hc
        cases hz : ones ti.zero with
        | none => rw [hz] at hr; cases hr
        | some z =>
          rw [hz] at hr hlen
          simp only [Option.bind_some, Option.map_some, Option.some.injEq] at hr hlen
          cases hv : rawParts S parts.toList with
          | none => rw [hv] at hr; cases hr
          | some vs =>
            rw [hv] at hr
            simp only [Option.bind_some] at hr
            cases hs : setVals z vs with
            | none => rw [hs] at hr; cases hr
            | some z' =>
              rw [hs] at hr
              simp only [Option.bind_some] at hr
              obtain ⟨it, g1, g2, g3, zv, g4, g5⟩ := ht.info
              have hzero := ones_eq _ _ hz
              have hzok : ∀ v ∈ z, segOk (.one v) := fun v hv' => ht.zok (.one v) (by rw [hzero]; exact List.mem_map_of_mem hv')
              have hu := ht.und
              rw [hd] at hu
              have hb : X.P.built t (parts.map fun (i, x) => (i, a.eval x)).toList = some z'.toArray := by
                unfold Program.built
                rw [Array.toList_map, rawParts_eval h _ _ hv, g1, hu]
                simp only [g4]
                rw [fields_places hE.T 0 fs.toList hf]
                simp only []
                rw [g5, hzero, segCells_ones]
                refine fill_vals _ vs z z' (fun i hi => ?_) hs
                have : i < fs.toList.length := by omega
                rw [List.getElem?_toArray, List.getElem?_map, List.getElem?_range' this]
                simp
              have hrun : (execOp a.eval o).run X.P w = .ok (.value (.agg z'.toArray)) w := by
                simp [execOp, ho, run_build w t _ _ hb]
              exact wp0 (p := .strc (z'.map Seg.one)) hrun h hr rfl ⟨fun s hs' => by
                obtain ⟨v, hv', rfl⟩ := List.mem_map.1 hs'
                exact setVals_ok vs z z' hzok hs v hv', by rw [segCells_ones]⟩ (fun k hk => by cases hk)
      · cases hr
    · cases hr
end
end Go.Px
