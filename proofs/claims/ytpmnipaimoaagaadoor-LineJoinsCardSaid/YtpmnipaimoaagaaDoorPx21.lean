/- A function that is handed one variable to write: its contract, by its evaluation. -/
import Derived.Test.YtpmnipaimoaagaaDoorPx15
set_option linter.unusedVariables false
set_option linter.unusedSimpArgs false
namespace Go.Px
open Go Go.RowKit

def mkFunR (sp : List SP) (pa : List DP) (F : spα sp × dpα pa → Option (spα sp)) : FunR :=
  ⟨fun _ ss ds k => (spProj sp ss).bind fun x => (dpProj pa ds).bind fun y => (F (x, y)).bind fun z => k (spInj sp z) (.tup [])⟩
def startR (sp : List SP) (pa : List DP) (n : Nat) (x : spα sp × dpα pa) : St := .obj (spInj sp x.1) :: ((dpInj pa x.2).map D1.arg ++ List.replicate n .junk)
def endR (rvs : List ResultVar) (sp : List SP) : Ex → St → Option (spα sp)
  | .normal, S | .ret, S => match rvs with
    | [] => match get S 0 with
      | .obj ss => if noRo ss = true then spProj sp ss else none
      | _ => none
    | _ => none
  | _, _ => none
theorem spInj_kind : (sp : List SP) → (x y : spα sp) → (spInj sp x).map Seg.kind = (spInj sp y).map Seg.kind
  | [], _, _ => rfl
  | p :: r, x, y => by
    simp only [spInj, List.map_cons, spInj_kind r x.2 y.2]
    cases p <;> rfl
theorem funR_ok {P : Program} {G : Nat → Option (List Seg)} {f : FuncId} {fn : Func} {body : Code} {sp : List SP} {pa : List DP} (F : spα sp × dpα pa → Option (spα sp)) (E : Env (spα sp))
    (hf : P.funcs[f]? = some fn) (hb : fn.body = some body) (hE : ∀ X : Cx, X.P = P → X.G = G → EnvOk X E)
    (hlo : ∀ (X : Cx) (w0 : World), X.P = P → X.G = G → LoopsOk X w0 E.Λ (endR fn.results.toList sp .ret) body)
    (hev : ∀ x, F x = ev E body (startR sp pa (fn.ntmps - (pa.length + 1)) x) (endR fn.results.toList sp)) : FunROk P G f (mkFunR sp pa F) := by
  intro ρ ss ds k r hr w vs b cur e fr hg hsz hv0 hb4 hharm hok hcur hargs
  have hr : ((spProj sp ss).bind fun x => (dpProj pa ds).bind fun y => (F (x, y)).bind fun z => k (spInj sp z) (.tup [])) = some r := hr
  cases hx : spProj sp ss with
  | none => rw [hx] at hr; cases hr
  | some x =>
    rw [hx] at hr
    simp only [Option.bind_some] at hr
    cases hy : dpProj pa ds with
    | none => rw [hy] at hr; cases hr
    | some y =>
      rw [hy] at hr
      simp only [Option.bind_some] at hr
      cases hF : F (x, y) with
      | none => rw [hF] at hr; cases hr
      | some z =>
        rw [hF] at hr
        simp only [Option.bind_some] at hr
        have hss := spProj_ok _ _ _ hx
        obtain ⟨hl, hrep⟩ := dpProj_ok (w := w) (vs := vs) pa ds y hy 1 (fun i d hi => by
          have := hargs i d hi
          rwa [show i + 1 = 1 + i by omega] at this)
        have hvl : vs.size = pa.length + 1 := by rw [hsz, hl]
        refine calls_of_wp hf hb ?_
        let loc0 : Nat → Nat → Option (Nat × Nat) := fun i j => if i = 0 ∧ j = 0 then some (b, 0) else none
        have hsim : Sim ⟨P, w.heap.size, G, (· = b)⟩ w (startR sp pa (fn.ntmps - (pa.length + 1)) (x, y)) { tmps := vs ++ Array.replicate (fn.ntmps - vs.size) undef, defers := [] } w loc0 := by
          have hcons : ∀ i, (startR sp pa (fn.ntmps - (pa.length + 1)) (x, y))[i + 1]? = (start pa (fn.ntmps - (pa.length + 1)) y)[i]? := fun i => rfl
          have hgo : ∀ i, (get (startR sp pa (fn.ntmps - (pa.length + 1)) (x, y)) (i + 1)).owns = false := fun i => by
            cases hs : (startR sp pa (fn.ntmps - (pa.length + 1)) (x, y))[i + 1]? with
            | none => rw [get_none hs]; rfl
            | some p =>
              rw [get_eq hs]
              rw [hcons] at hs
              rcases start_get hs with ⟨d, _, rfl⟩ | ⟨_, rfl⟩
              · exact arg_owns d
              · rfl
          have hloc : ∀ i j b' o, loc0 i j = some (b', o) → i = 0 ∧ j = 0 ∧ b' = b ∧ o = 0 := fun i j b' o h => by
            simp only [loc0] at h
            split at h
            · rename_i hij; cases h; exact ⟨hij.1, hij.2, rfl, rfl⟩
            · cases h
          refine { len := by simp [startR, dpInj_length, hvl]; omega, defers := rfl, hB := Nat.le_refl _, below := Kept.refl _ _, glob := hg, rep := fun i p hp => ?_, ref := fun i p k hp hk => ?_, sep := fun i j i' j' b' o o' h1 h2 => ?_, dom := fun i ho j => ?_, lt := fun i j b' o h => ?_, pin := fun b' hb' => ?_ }
          · cases i with
            | zero =>
              cases hp
              refine ⟨_, ?_, ⟨b, cur, e, fr, by simp [loc0], rfl, .inr rfl, hb4, hharm, by rw [hss]; exact hok _ _, by rw [hss]; exact hcur⟩⟩
              show (vs ++ _)[0]? = some _
              rw [Array.getElem?_append_left (Array.getElem?_eq_some_iff.1 hv0).1]; exact hv0
            | succ i =>
              have hlt : i + 1 < (startR sp pa (fn.ntmps - (pa.length + 1)) (x, y)).length := (List.getElem?_eq_some_iff.1 hp).1
              rw [hcons] at hp
              have hl0 : loc0 (i + 1) = fun _ => none := by funext j; simp [loc0]
              rcases start_get hp with ⟨d, hd, rfl⟩ | ⟨hi, rfl⟩
              · obtain ⟨v, hv, ha⟩ := hrep i d hd
                rw [show 1 + i = i + 1 by omega] at hv
                refine ⟨v, ?_, ?_⟩
                · show (vs ++ _)[i + 1]? = some v
                  rw [Array.getElem?_append_left (Array.getElem?_eq_some_iff.1 hv).1]; exact hv
                · rw [hl0]
                  cases d <;> first | exact ha | exact RoRep.mono ha (fun b hb => hb) | exact ⟨segsOk.mono ha.1 (fun b hb => hb), ha.2⟩
              · have : i + 1 < (vs ++ Array.replicate (fn.ntmps - vs.size) undef).size := by
                  simp [startR, dpInj_length] at hlt
                  simp [hvl]; omega
                exact ⟨_, Array.getElem?_eq_getElem this, trivial⟩
          · cases i with
            | zero => cases hp; cases hk
            | succ i =>
              rw [hcons] at hp
              rcases start_get hp with ⟨d, hd, rfl⟩ | ⟨hi, rfl⟩
              · rw [arg_ref] at hk; cases hk
              · cases hk
          · obtain ⟨rfl, rfl, _⟩ := hloc _ _ _ _ h1
            obtain ⟨rfl, rfl, _⟩ := hloc _ _ _ _ h2
            exact ⟨rfl, rfl⟩
          · cases i with
            | zero => cases ho
            | succ i => simp [loc0]
          · obtain ⟨_, _, rfl, _⟩ := hloc _ _ _ _ h
            exact ⟨(Array.getElem?_eq_some_iff.1 hb4).1, .inr rfl⟩
          · have hb' : b' = b := by have := congrFun hb' b'; simpa using this
            subst hb'
            exact ⟨rfl, by simp [loc0]⟩
        rw [hev] at hF
        refine wp_mono (ev_sound (hE _ rfl rfl) (endR fn.results.toList sp .ret) body (hlo _ w rfl rfl) _ _ w _ hsim _ rfl z hF) fun en a' w' hp => ?_
        have key : Post ⟨P, w.heap.size, G, (· = b)⟩ w (fun S => endR fn.results.toList sp .ret S) z a' w' → a'.defers = [] ∧ ∃ v, (results fn a'.tmps).run P w' = .ok v w' ∧ ∃ ss' d v', k ss' d = some r ∧ Ending.returned v = .returned v' ∧ Kept ⟨P, w.heap.size, G, (· = b)⟩ w w' ∧
            (∃ cur' e' fr', w'.heap[b]? = some (.cells cur' e' fr') ∧ Harm fr' cur'.size ∧ cur' = (segCells ss').toArray) ∧ segsPl ss' ∧ ss'.map Seg.kind = ss.map Seg.kind ∧ ResRep w' w.heap.size d v' := fun hp => by
          obtain ⟨S, loc, h1, h2⟩ := hp
          simp only [endR] at h1
          split at h1
          · rename_i hres
            split at h1
            · rename_i ss' hs'
              by_cases hnr : noRo ss' = true
              case neg => rw [if_neg hnr] at h1; cases h1
              rw [if_pos hnr] at h1
              have hz := spProj_ok _ _ _ h1
              obtain ⟨v, hv, hrep⟩ := h2.rep 0 _ (get_of_ne (i := 0) (S := S) (by rw [hs']; simp))
              rw [hs'] at hrep
              obtain ⟨b', cur', e', fr', m1, m2, m3, m4, m5, m6, m7⟩ := hrep
              have hpin := (h2.pin b rfl).2
              rw [m1] at hpin
              cases hpin
              have hrun := results_run (P := P) (w := w') fn a'.tmps [] (by rw [hres]; simp)
              refine ⟨h2.defers, .tuple #[], by simpa using hrun, spInj sp z, .tup [], _, hr, rfl, h2.below, ⟨cur', e', fr', m4, m5, by rw [hz]; exact m7⟩, by rw [hz]; exact segsPl_of m6 hnr, by rw [← hss]; exact spInj_kind sp z x, ?_⟩
              exact ⟨fun _ => none, (fun _ _ _ e => by cases e), (fun _ _ _ _ _ e => by cases e), fun _ _ => rfl, #[], rfl, rfl, fun j d hj => by simp at hj⟩
            · cases h1
          · cases h1
        cases en with
        | normal => exact key hp
        | ret => exact key hp
        | exit id => obtain ⟨S, loc, h1, _⟩ := hp; cases h1
        | goto l => exact hp.elim
        | panic c => exact hp.elim
        | outgrown => exact hp.elim
end Go.Px
