/- A function's contract, by its evaluation. -/
import Derived.Test.YtpmnipaimoaagaaDoorPx14
set_option linter.unusedVariables false
set_option linter.unusedSimpArgs false
namespace Go.Px
open Go Go.RowKit

theorem dp_arg (p : DP) (d : D1) (y : p.α) {w : World} {Lo : Nat → Prop} {v : Value} (h : p.proj d = some y) (ha : ArgRepP w Lo d v) : ArgRepP w Lo (p.inj y) v := by
  cases p with
  | sc t =>
    cases d <;> simp only [DP.proj] at h <;> first
      | (cases h; done)
      | (have := T0.dec_ok h
         show v = t.val y
         rw [this]; exact ha)
  | own C =>
    cases d with
    | raw u =>
      simp only [DP.proj] at h
      split at h
      · rename_i hu
        cases h
        have hv : v = .slice none 0 0 := (show v = _ from ha).trans (nilSl_eq hu)
        exact ⟨none, 0, hv, Nat.le_refl _, .inl rfl⟩
      · cases h
    | own C' l =>
      simp only [DP.proj] at h
      split at h
      · rename_i hC; subst hC
        simp only [Option.some.injEq] at h
        subst h; exact ha
      · cases h
    | _ => simp [DP.proj] at h
  | arr C n =>
    cases d with
    | arr C' n' l =>
      simp only [DP.proj] at h
      split at h
      · rename_i hC; subst hC
        split at h
        · rename_i hn; subst hn
          simp only [Option.some.injEq] at h
          subst h; exact ha
        · cases h
      · cases h
    | _ => simp [DP.proj] at h
  | dyn =>
    cases d with
    | raw u =>
      simp only [DP.proj] at h
      show v = y.val
      rw [← Dyn.dec_ok h]; exact ha
    | _ => simp [DP.proj] at h
  | strc ss =>
    cases d with
    | strc s =>
      simp only [DP.proj] at h
      have := spProj_ok _ _ _ h
      show ArgRepP w Lo (.strc (spInj ss y)) v
      rw [this]; exact ha
    | _ => simp [DP.proj] at h
theorem dpProj_ok {w : World} {Lo : Nat → Prop} {vs : Array Value} : (pa : List DP) → (ds : List DV) → (x : dpα pa) → dpProj pa ds = some x → (n : Nat) → (∀ (i : Nat) d, ds[i]? = some d → ∃ d1 v, d = .one d1 ∧ vs[n + i]? = some v ∧ ArgRepP w Lo d1 v) →
    ds.length = pa.length ∧ ∀ (i : Nat) d, (dpInj pa x)[i]? = some d → ∃ v, vs[n + i]? = some v ∧ ArgRepP w Lo d v
  | [], [], x, hx, n, _ => ⟨rfl, fun i d hi => by simp [dpInj] at hi⟩
  | [], d :: ds, x, hx, n, _ => by simp [dpProj] at hx
  | p :: r, [], x, hx, n, _ => by simp [dpProj] at hx
  | p :: r, .tup _ :: ds, x, hx, n, _ => by simp [dpProj] at hx
  | p :: r, .one d :: ds, x, hx, n, hv => by
    simp only [dpProj] at hx
    cases h1 : p.proj d with
    | none => rw [h1] at hx; cases hx
    | some y =>
      rw [h1] at hx
      simp only [Option.bind_some] at hx
      cases h2 : dpProj r ds with
      | none => rw [h2] at hx; cases hx
      | some z =>
        rw [h2] at hx
        simp only [Option.bind_some, Option.some.injEq] at hx
        subst hx
        obtain ⟨g1, g2⟩ := dpProj_ok r ds z h2 (n + 1) (fun i d' hi => by
          have := hv (i + 1) d' (by simpa using hi)
          rwa [show n + (i + 1) = n + 1 + i by omega] at this)
        refine ⟨by simp [g1], fun i d' hi => ?_⟩
        cases i with
        | zero =>
          simp [dpInj] at hi; subst hi
          obtain ⟨d1, v, e1, e2, e3⟩ := hv 0 (.one d) (by simp)
          cases e1
          exact ⟨v, e2, dp_arg p d y h1 e3⟩
        | succ i =>
          have := g2 i d' (by simpa [dpInj] using hi)
          rwa [show n + 1 + i = n + (i + 1) by omega] at this
theorem arg_owns (d : D1) : d.arg.owns = false := by cases d <;> rfl
theorem arg_ref (d : D1) : d.arg.ref = none := by cases d <;> rfl
theorem start_get {pa : List DP} {n : Nat} {x : dpα pa} {i : Nat} {p : PV} (h : (start pa n x)[i]? = some p) : (∃ d, (dpInj pa x)[i]? = some d ∧ p = d.arg) ∨ (pa.length ≤ i ∧ p = .junk) := by
  unfold start at h
  by_cases hi : i < ((dpInj pa x).map D1.arg).length
  · rw [List.getElem?_append_left hi, List.getElem?_map] at h
    cases hd : (dpInj pa x)[i]? with
    | none => rw [hd] at h; cases h
    | some d => rw [hd] at h; exact .inl ⟨d, rfl, by simpa using h.symm⟩
  · rw [List.getElem?_append_right (by omega)] at h
    refine .inr ⟨by simpa [dpInj_length] using hi, ?_⟩
    rw [List.getElem?_replicate] at h
    split at h
    · exact (Option.some.inj h).symm
    · cases h
/-- A FUNCTION: its evaluation is its shallow twin, so that is its contract. -/
theorem fun_ok {P : Program} {G : Nat → Option (List Seg)} {f : FuncId} {fn : Func} {body : Code} {pa : List DP} {pr : RP} (F : dpα pa → Option pr.α) (E : Env pr.α)
    (hf : P.funcs[f]? = some fn) (hb : fn.body = some body) (hE : ∀ X : Cx, X.P = P → X.G = G → EnvOk X E)
    (hlo : ∀ (X : Cx) (w0 : World), X.P = P → X.G = G → LoopsOk X w0 E.Λ (endK E fn.results.toList pr .ret) body)
    (hev : ∀ x, F x = ev E body (start pa (fn.ntmps - pa.length) x) (endK E fn.results.toList pr)) : FunOk P G f (mkFun pa pr F) := by
  intro ρ ds k r hr w vs hg hsz hargs
  have hr : ((dpProj pa ds).bind fun x => (F x).bind fun r => k (pr.inj r)) = some r := hr
  cases hx : dpProj pa ds with
  | none => rw [hx] at hr; cases hr
  | some x =>
    rw [hx] at hr
    simp only [Option.bind_some] at hr
    cases hF : F x with
    | none => rw [hF] at hr; cases hr
    | some y =>
      rw [hF] at hr
      simp only [Option.bind_some] at hr
      obtain ⟨hl, hrep⟩ := dpProj_ok (w := w) (vs := vs) pa ds x hx 0 (fun i d hi => by simpa using hargs i d hi)
      have hvl : vs.size = pa.length := by rw [hsz, hl]
      refine calls_of_wp hf hb ?_
      have hsim : Sim ⟨P, w.heap.size, G, noM⟩ w (start pa (fn.ntmps - pa.length) x) { tmps := vs ++ Array.replicate (fn.ntmps - vs.size) undef, defers := [] } w (fun _ _ => none) := by
        have hgo : ∀ i, (get (start pa (fn.ntmps - pa.length) x) i).owns = false := fun i => by
          cases hs : (start pa (fn.ntmps - pa.length) x)[i]? with
          | none => rw [get_none hs]; rfl
          | some p =>
            rw [get_eq hs]
            rcases start_get hs with ⟨d, _, rfl⟩ | ⟨_, rfl⟩
            · exact arg_owns d
            · rfl
        refine { len := by simp [start, dpInj_length, hvl], defers := rfl, hB := Nat.le_refl _, below := Kept.refl _ _, glob := hg, rep := fun i p hp => ?_, ref := fun i p k hp hk => ?_, sep := fun _ _ _ _ _ _ _ e => (by cases e), dom := fun _ _ _ => rfl, lt := fun _ _ _ _ e => (by cases e), pin := fun b hb => by have := congrFun hb b; simp [noM] at this }
        · rcases start_get hp with ⟨d, hd, rfl⟩ | ⟨hi, rfl⟩
          · obtain ⟨v, hv, ha⟩ := hrep i d hd
            rw [Nat.zero_add] at hv
            refine ⟨v, ?_, ?_⟩
            · show (vs ++ _)[i]? = some v
              rw [Array.getElem?_append_left (Array.getElem?_eq_some_iff.1 hv).1]; exact hv
            · cases d <;> first | exact ha | exact RoRep.mono ha (fun b hb => ⟨hb, id⟩) | exact ⟨segsOk.mono ha.1 (fun b hb => ⟨hb, id⟩), ha.2⟩
          · have hlt : i < (start pa (fn.ntmps - pa.length) x).length := (List.getElem?_eq_some_iff.1 hp).1
            have : i < (vs ++ Array.replicate (fn.ntmps - vs.size) undef).size := by simpa [start, dpInj_length, hvl] using hlt
            exact ⟨_, Array.getElem?_eq_getElem this, trivial⟩
        · rcases start_get hp with ⟨d, hd, rfl⟩ | ⟨hi, rfl⟩
          · rw [arg_ref] at hk; cases hk
          · cases hk
      rw [hev] at hF
      refine wp_mono (ev_sound (hE _ rfl rfl) (endK E fn.results.toList pr .ret) body (hlo _ w rfl rfl) _ _ w _ hsim _ rfl y hF) fun e a' w' hp => ?_
      have key : Post ⟨P, w.heap.size, G, noM⟩ w (fun S => retR E fn.results.toList S pr) y a' w' → a'.defers = [] ∧ ∃ v, (results fn a'.tmps).run P w' = .ok v w' ∧ ∃ d v', k d = some r ∧ Ending.returned v = .returned v' ∧ Below w.heap.size w w' ∧ ResRep w' w.heap.size d v' := fun hp => by
        obtain ⟨S, loc, h1, h2⟩ := hp
        obtain ⟨v, g1, g2⟩ := retR_ok (hE _ rfl rfl) h2 fn h1
        exact ⟨h2.defers, v, g1, _, v, hr, rfl, h2.below.below, ResRepP.mono g2 fun b hb => hb.resolve_right id⟩
      cases e with
      | normal => exact key hp
      | ret => exact key hp
      | exit id => obtain ⟨S, loc, h1, _⟩ := hp; cases h1
      | goto l => exact hp.elim
      | panic c => exact hp.elim
      | outgrown => exact hp.elim
end Go.Px
