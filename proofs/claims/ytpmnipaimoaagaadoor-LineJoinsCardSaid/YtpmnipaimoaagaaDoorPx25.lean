/- A function that is handed a slice to use up: its contract, by its evaluation. -/
import Derived.Test.YtpmnipaimoaagaaDoorPx21
set_option linter.unusedVariables false
set_option linter.unusedSimpArgs false
namespace Go.Px
open Go Go.RowKit

def mkFunA (C : Cod) (pa : List DP) (pr : RP) (F : List C.α × dpα pa → Option pr.α) : FunA :=
  ⟨fun _ c ds k => if h : c.C = C then (dpProj pa ds).bind fun y => (F (h ▸ c.l, y)).bind fun z => k (pr.inj z) else none⟩
def startA (C : Cod) (pa : List DP) (n : Nat) (x : List C.α × dpα pa) : St := .own C x.1 :: ((dpInj pa x.2).map D1.arg ++ List.replicate n .junk)
theorem funA_ok {P : Program} {G : Nat → Option (List Seg)} {f : FuncId} {fn : Func} {body : Code} {C : Cod} {pa : List DP} {pr : RP} (F : List C.α × dpα pa → Option pr.α) (E : Env pr.α)
    (hf : P.funcs[f]? = some fn) (hb : fn.body = some body) (hE : ∀ X : Cx, X.P = P → X.G = G → EnvOk X E)
    (hlo : ∀ (X : Cx) (w0 : World), X.P = P → X.G = G → LoopsOk X w0 E.Λ (endK E fn.results.toList pr .ret) body)
    (hev : ∀ x, F x = ev E body (startA C pa (fn.ntmps - (pa.length + 1)) x) (endK E fn.results.toList pr)) : FunAOk P G f (mkFunA C pa pr F) := by
  intro ρ c ds k r hr w vs ℓ v0 hg hsz hv0 hown hargs
  obtain ⟨C', l⟩ := c
  have hr : (if h : C' = C then (dpProj pa ds).bind fun y => (F (h ▸ l, y)).bind fun z => k (pr.inj z) else none) = some r := hr
  split at hr
  · rename_i hC
    subst hC
    cases hy : dpProj pa ds with
    | none => rw [hy] at hr; cases hr
    | some y =>
      rw [hy] at hr
      simp only [Option.bind_some] at hr
      cases hF : F (l, y) with
      | none => rw [hF] at hr; cases hr
      | some z =>
        rw [hF] at hr
        simp only [Option.bind_some] at hr
        obtain ⟨hl, hrep⟩ := dpProj_ok (w := w) (vs := vs) pa ds y hy 1 (fun i d hi => by
          have := hargs i d hi
          rwa [show i + 1 = 1 + i by omega] at this)
        have hvl : vs.size = pa.length + 1 := by rw [hsz, hl]
        refine calls_of_wp hf hb ?_
        let loc0 : Nat → Nat → Option (Nat × Nat) := fun i j => if i = 0 ∧ j = 0 then ℓ else none
        have hsim : Sim ⟨P, w.heap.size, G, usedM w.heap.size ℓ⟩ w (startA C' pa (fn.ntmps - (pa.length + 1)) (l, y)) { tmps := vs ++ Array.replicate (fn.ntmps - vs.size) undef, defers := [] } w loc0 := by
          have hcons : ∀ i, (startA C' pa (fn.ntmps - (pa.length + 1)) (l, y))[i + 1]? = (start pa (fn.ntmps - (pa.length + 1)) y)[i]? := fun i => rfl
          have hloc : ∀ i j b' o, loc0 i j = some (b', o) → i = 0 ∧ j = 0 ∧ ℓ = some (b', o) := fun i j b' o h => by
            simp only [loc0] at h
            split at h
            · rename_i hij; exact ⟨hij.1, hij.2, h⟩
            · cases h
          have hlb : ∀ b o, ℓ = some (b, o) → b < w.heap.size := fun b o e => by
            rcases hown with hown | ⟨b', o', cap, cur, e', fr, k1, _, _, k4, _⟩
            · rw [hown.1] at e; cases e
            · rw [k1] at e; cases e
              exact (Array.getElem?_eq_some_iff.1 k4).1
          refine { len := by simp [startA, dpInj_length, hvl]; omega, defers := rfl, hB := Nat.le_refl _, below := Kept.refl _ _, glob := hg, rep := fun i p hp => ?_, ref := fun i p k hp hk => ?_, sep := fun i j i' j' b' o o' h1 h2 => ?_, dom := fun i ho j => ?_, lt := fun i j b' o h => ?_, pin := fun b' hb' => ?_ }
          · cases i with
            | zero =>
              cases hp
              refine ⟨v0, ?_, ?_⟩
              · show (vs ++ _)[0]? = some _
                rw [Array.getElem?_append_left (Array.getElem?_eq_some_iff.1 hv0).1]; exact hv0
              · show OwnRep w _ C' l (loc0 0 0) v0
                have e : loc0 0 0 = ℓ := by simp [loc0]
                rw [e]
                rcases hown with hown | ⟨b', o', cap, cur, e', fr, k1, k2, k3, k4⟩
                · exact .inl hown
                · exact .inr ⟨b', o', cap, cur, e', fr, k1, k2, .inr k3, k4⟩
            | succ i =>
              have hlt : i + 1 < (startA C' pa (fn.ntmps - (pa.length + 1)) (l, y)).length := (List.getElem?_eq_some_iff.1 hp).1
              rw [hcons] at hp
              have hl0 : loc0 (i + 1) = fun _ => none := by funext j; simp [loc0]
              rcases start_get hp with ⟨d, hd, rfl⟩ | ⟨hi, rfl⟩
              · obtain ⟨v, hv, ha⟩ := hrep i d hd
                rw [show 1 + i = i + 1 by omega] at hv
                refine ⟨v, ?_, ?_⟩
                · show (vs ++ _)[i + 1]? = some v
                  rw [Array.getElem?_append_left (Array.getElem?_eq_some_iff.1 hv).1]; exact hv
                · rw [hl0]
                  cases d <;> first | exact ha | exact RoRep.mono ha (fun b hb => hb) | exact ⟨segsOk.mono ha.1 (fun b hb => hb), ha.2⟩
              · have : i + 1 < (vs ++ Array.replicate (fn.ntmps - vs.size) undef).size := by
                  simp [startA, dpInj_length] at hlt
                  simp [hvl]; omega
                exact ⟨_, Array.getElem?_eq_getElem this, trivial⟩
          · cases i with
            | zero => cases hp; cases hk
            | succ i =>
              rw [hcons] at hp
              rcases start_get hp with ⟨d, hd, rfl⟩ | ⟨hi, rfl⟩
              · rw [arg_ref] at hk; cases hk
              · cases hk
          · obtain ⟨rfl, rfl, _⟩ := hloc _ _ _ _ h1
            obtain ⟨rfl, rfl, _⟩ := hloc _ _ _ _ h2
            exact ⟨rfl, rfl⟩
          · cases i with
            | zero => cases ho
            | succ i => simp [loc0]
          · obtain ⟨_, _, h⟩ := hloc _ _ _ _ h
            exact ⟨hlb _ _ h, .inr (.inr ⟨o, h⟩)⟩
          · have e1 := congrFun hb' w.heap.size
            have e2 := congrFun hb' (w.heap.size + 1)
            simp only [usedM] at e1 e2
            have h1 : w.heap.size = b' := by rw [← e1]; exact .inl (Nat.le_refl _)
            have h2 : w.heap.size + 1 = b' := by rw [← e2]; exact .inl (by omega)
            omega
        rw [hev] at hF
        refine wp_mono (ev_sound (hE _ rfl rfl) (endK E fn.results.toList pr .ret) body (hlo _ w rfl rfl) _ _ w _ hsim _ rfl z hF) fun en a' w' hp => ?_
        have key : Post ⟨P, w.heap.size, G, usedM w.heap.size ℓ⟩ w (fun S => retR E fn.results.toList S pr) z a' w' → a'.defers = [] ∧ ∃ v, (results fn a'.tmps).run P w' = .ok v w' ∧ ∃ d v', k d = some r ∧ Ending.returned v = .returned v' ∧ Kept ⟨P, w.heap.size, G, usedM w.heap.size ℓ⟩ w w' ∧ ResRepP w' (usedM w.heap.size ℓ) d v' := fun hp => by
          obtain ⟨S, loc, h1, h2⟩ := hp
          obtain ⟨v, g1, g2⟩ := retR_ok (hE _ rfl rfl) h2 fn h1
          exact ⟨h2.defers, v, g1, _, v, hr, rfl, h2.below, ResRepP.mono g2 fun b hb => hb.elim .inl id⟩
        cases en with
        | normal => exact key hp
        | ret => exact key hp
        | exit id => obtain ⟨S, loc, h1, _⟩ := hp; cases h1
        | goto l => exact hp.elim
        | panic c => exact hp.elim
        | outgrown => exact hp.elim
  · cases hr
end Go.Px
