/- Operations in a row, code, loops, functions. -/
import Derived.Test.YtpmnipaimoaagaaDoorPx12
import Derived.Test.YtpmnipaimoaagaaDoorPx18
set_option linter.unusedVariables false
set_option linter.unusedSimpArgs false
namespace Go.Px
open Go Go.RowKit

section
variable {X : Cx} {ρ : Type} {w0 : World} {S : St} {a : Act} {w : World} {loc : Nat → Nat → Option (Nat × Nat)} {E : Env ρ} {K : St → Option ρ} {r : ρ} {o : Oper} {Q : Exit → Act → World → Prop} {ops : Array Oper}

/-- a bool in a slot that has been told: written out -/
theorem Sim.told (h : Sim X w0 S a w loc) {d : Nat} {b c : Bool} (hd : get S d = .raw (.bool b)) (hb : b = c) : Sim X w0 (S.set d (.raw (.bool c))) a w loc := by
  subst hb
  have hs := get_of_ne (i := d) (S := S) (by rw [hd]; simp)
  rw [hd] at hs
  have : S.set d (.raw (.bool b)) = S := by
    apply List.ext_getElem?
    intro i
    by_cases hi : i = d
    · subst hi; rw [List.getElem?_set_self (List.getElem?_eq_some_iff.1 hs).1, hs]
    · rw [List.getElem?_set_ne (Ne.symm hi)]
  rw [this]; exact h
theorem put_junk (h : Sim X w0 S a w loc) (hK : putU S o.dst K = some r) : Post X w0 K r (a.put o.dst undef) w := by
  cases hd : o.dst with
  | none => rw [hd] at hK; exact ⟨S, loc, hK, h⟩
  | some d =>
    rw [hd] at hK
    have hpn : pinned S d = false := by cases hp : pinned S d with | false => rfl | true => simp [putU, hp] at hK
    have hK : K (put S (some d) (.raw undef)) = some r := by simpa [putU, hpn] using hK
    by_cases hl : d < S.length
    · obtain ⟨loc1, h1⟩ := h.fin0 ⟨hl, hpn⟩ (.raw undef) undef rfl rfl (fun k hk => by cases hk)
      exact ⟨_, loc1, hK, h1⟩
    · have e1 : put S (some d) (.raw undef) = S := by
        have hno : (get S d).owns = false := by rw [get_none (List.getElem?_eq_none (Nat.le_of_not_lt hl))]; rfl
        show (Px.kill S d).set d (.raw undef) = S
        rw [kill_noop hno, List.set_eq_of_length_le (Nat.le_of_not_lt hl)]
      have e2 : a.put (some d) undef = a := by
        show ({ a with tmps := a.tmps.setIfInBounds d undef } : Act) = a
        rw [Array.setIfInBounds_eq_of_size_le (by rw [h.len]; exact Nat.le_of_not_lt hl)]
      rw [e1] at hK
      rw [e2]
      exact ⟨S, loc, hK, h⟩
/-- one operation with its guard -/
theorem evOper_sound (hE : EnvOk X E) (h : Sim X w0 S a w loc) (hr : evOper E ops o S K = some r) :
    if Region.wanted o (yielded ops a.tmps) then o.wp X.P a w (Post X w0 K r) Q else Post X w0 K r (a.put o.dst undef) w := by
  unfold evOper at hr
  split at hr
  · rename_i hg
    have hw : Region.wanted o (yielded ops a.tmps) = true := by simp [Region.wanted, hg]
    rw [if_pos hw]
    exact evOp_sound hE h hr
  · rename_i j want hg
    split at hr
    · cases hr
    · rename_i d hd
      split at hr
      · rename_i β hβ
        obtain ⟨v, h1, _, h3⟩ := opd_get h hβ (by simp)
        have h3 : v = .bool β := h3
        subst h3
        have hy : yielded ops a.tmps j = some β := by simp [yielded, hd, h1]
        cases hb : β with
        | true =>
          rw [hb] at hr hy
          simp only [cond_true] at hr
          have hs := h.told hβ hb
          split at hr
          · rename_i hw
            have : Region.wanted o (yielded ops a.tmps) = true := by simp [Region.wanted, hg, hy, hw]
            rw [if_pos this]
            exact evOp_sound hE hs hr
          · rename_i hw
            have : Region.wanted o (yielded ops a.tmps) = false := by cases want <;> simp_all [Region.wanted]
            rw [this]
            exact put_junk hs hr
        | false =>
          rw [hb] at hr hy
          simp only [cond_false] at hr
          have hs := h.told hβ hb
          split at hr
          · rename_i hw
            have : Region.wanted o (yielded ops a.tmps) = true := by simp [Region.wanted, hg, hy, hw]
            rw [if_pos this]
            exact evOp_sound hE hs hr
          · rename_i hw
            have : Region.wanted o (yielded ops a.tmps) = false := by cases want <;> simp_all [Region.wanted]
            rw [this]
            exact put_junk hs hr
      · rename_i vs hβ
        obtain ⟨v, h1, _, h3⟩ := opd_get h hβ (by simp)
        have h3 : v = .tuple vs := h3
        subst h3
        have hy : yielded ops a.tmps j = none := by simp [yielded, hd, h1]
        have : Region.wanted o (yielded ops a.tmps) = false := by simp [Region.wanted, hg, hy]
        rw [this]
        exact put_junk h hr
      · cases hr
theorem evOps_sound (hE : EnvOk X E) : (l : List Nat) → (S : St) → (a : Act) → (w : World) → (loc : Nat → Nat → Option (Nat × Nat)) → Sim X w0 S a w loc → evOps E ops l S K = some r →
    (∀ a w, Post X w0 K r a w → Q .normal a w) → wpOps X.P ops Q l a w
  | [], S, a, w, loc, h, hr, hQ => hQ a w ⟨S, loc, hr, h⟩
  | i :: l, S, a, w, loc, h, hr, hQ => by
    rw [wpOps_cons]
    unfold wpOp
    simp only [evOps] at hr
    split at hr
    · cases hr
    · rename_i o ho
      have key := evOper_sound (Q := Q) hE h hr
      have ih : ∀ a' w', Post X w0 (fun S' => evOps E ops l S' K) r a' w' → wpOps X.P ops Q l a' w' := fun a' w' ⟨S', loc', h1, h2⟩ => evOps_sound hE l S' a' w' loc' h2 h1 hQ
      simp only [ho]
      split at key
      · rename_i hw
        simp only [hw, if_true]
        exact .inl (Oper.wp_mono ih key)
      · rename_i hw
        simp only [hw]
        exact ih _ _ key

/-- whatever order is drawn -/
theorem drawn_sound (hE : EnvOk X E) (hok : drawOk ops = true) : (fuel : Nat) → (listed : Array Bool) → (R : List Nat) → Lst ops listed R → R.length ≤ fuel → (S : St) → (a : Act) → (w : World) → (loc : Nat → Nat → Option (Nat × Nat)) → Sim X w0 S a w loc → free ops R S = true → evOpsD E ops R S K = some r →
    (∀ a w, Post X w0 K r a w → Q .normal a w) → wpAny X.P .any ops Q fuel listed a w
  | 0, listed, R, hL, hf, S, a, w, loc, h, hfr, hr, hQ => by
    have hR : R = [] := List.eq_nil_of_length_eq_zero (by omega)
    subst hR
    refine ⟨?_, hQ a w ⟨S, loc, hr, h⟩⟩
    cases hh : Region.ready .any ops listed with
    | nil => rfl
    | cons i l =>
      obtain ⟨h1, h2, _⟩ := mem_ready.1 (show i ∈ Region.ready .any ops listed by rw [hh]; simp)
      exact absurd (hL.mem.2 ⟨h1, h2⟩) (by simp)
  | fuel + 1, listed, R, hL, hf, S, a, w, loc, h, hfr, hr, hQ => by
    refine ⟨fun hh => ?_, fun i hi => ?_⟩
    · cases hR : R with
      | nil => rw [hR] at hr; exact hQ a w ⟨S, loc, hr, h⟩
      | cons i l => have := head_ready hL hok hR; rw [hh] at this; cases this
    · obtain ⟨js, rest, hR, hL', h1, h2, h3, h4, h5, h6, h7⟩ := ready_split hL hok hi
      subst hR
      have hinv : Inv S := h.ref
      have hr' : evOpsD E ops (i :: (js ++ rest)) S K = some r := by
        cases js with
        | nil => exact hr
        | cons j js => exact moveFront (h2 (by simp)) (j :: js) rest S hinv hfr h1 h7 h3 h4 h5 h6 hr
      have hfr' : (alone ops i = false → freeO S (dstOf ops i)) ∧ free ops (js ++ rest) S = true := by
        rw [free_app, free_cons] at hfr
        rw [free_app]
        exact ⟨hfr.2.1, hfr.1, hfr.2.2⟩
      simp only [evOpsD] at hr'
      obtain ⟨o, ho⟩ : ∃ o, ops[i]? = some o := ⟨_, Array.getElem?_eq_getElem h6⟩
      rw [ho] at hr'
      dsimp only at hr'
      have key : evOper E ops o S (fun S' => cond (free ops (js ++ rest) S') (evOpsD E ops (js ++ rest) S' K) none) = some r := by
        cases hal : alone ops i with
        | true => rw [hal] at hr'; exact hr'
        | false =>
          rw [hal] at hr'
          simp only [cond_false] at hr'
          have hd := dstOf_eq ho
          have hfo : freeO S o.dst := by rw [← hd]; exact hfr'.1 hal
          cases hap : (!isStore ops i && isApp ops i) with
          | true =>
            simp only [Bool.and_eq_true, Bool.not_eq_true'] at hap
            obtain ⟨hsi, hapi⟩ := hap
            obtain ⟨k, q, hq, hqr, hko, hdk, hok2, hnat⟩ := app_step ho hinv hfo hsi hapi hr'
            obtain ⟨_, _, _, _, _, _, _, _, huq, _⟩ := isApp_op ho hapi
            refine evD_oper (i := i) ho hinv ?_
            rw [hnat S (Agree.refl _) rfl hfo hok2] at hr' ⊢
            have hfs : free ops (js ++ rest) (setO (kill S k) o.dst q) = true := by
              rw [← hd]
              refine free_set (free_mem.2 fun m hm ham => freeO_kill hko (free_mem.1 hfr'.2 m hm ham)) (fun m hm => ?_) (.inl huq)
              rcases List.mem_append.1 hm with hm | hm
              · exact ⟨(h1 m hm).2.2.1, fun e => h4 (e ▸ hm)⟩
              · exact ⟨(h5 m hm).1, (h5 m hm).2.2⟩
            rw [hfs]; exact hr'
          | false =>
          have haj3 : isStore ops i = false → isApp ops i = false := fun e => by rw [e] at hap; simpa using hap
          obtain ⟨tt, p, ds, st⟩ := dstep ho haj3 hinv hfo hr'
          refine evD_oper (i := i) ho hinv ?_
          rw [st] at hr' ⊢
          have hfs : free ops (js ++ rest) (setO S tt p) = true := by
            cases ds with
            | val _ hsj hpj huj hnb htj =>
              rw [← hd]
              refine free_set hfr'.2 (fun m hm => ?_) huj
              rcases List.mem_append.1 hm with hm | hm
              · exact ⟨(h1 m hm).2.2.1, fun e => h4 (e ▸ hm)⟩
              · exact ⟨(h5 m hm).1, (h5 m hm).2.2⟩
            | sto k _ hsj hq hrq hk hjj hks htj =>
              refine free_mem.2 fun m hm ham d hd => ?_
              have := free_mem.1 hfr'.2 m hm ham d hd
              rw [setO_ne fun e => by cases e; rw [this] at hk; cases hk]
              exact this
          rw [hfs]; exact hr'
      have hs := evOper_sound (Q := Q) hE h key
      have ih : ∀ a' w', Post X w0 (fun S' => cond (free ops (js ++ rest) S') (evOpsD E ops (js ++ rest) S' K) none) r a' w' → wpAny X.P .any ops Q fuel (listed.setIfInBounds i true) a' w' := fun a' w' ⟨S', loc', g1, g2⟩ => by
        dsimp only at g1
        cases hf' : free ops (js ++ rest) S' with
        | false => rw [hf'] at g1; cases g1
        | true =>
          rw [hf'] at g1
          exact drawn_sound hE hok fuel _ _ hL' (by simp at hf ⊢; omega) S' a' w' loc' g2 hf' g1 hQ
      unfold wpOp
      simp only [ho]
      split at hs
      · rename_i hw
        rw [if_pos hw]
        exact .inl (Oper.wp_mono ih hs)
      · rename_i hw
        rw [if_neg hw]
        exact ih _ _ hs
theorem region_drawn (hE : EnvOk X E) (id : Nat) (h : Sim X w0 S a w loc) (hr : cond (drawOk ops && free ops (List.range ops.size) S) (evOpsD E ops (List.range ops.size) S K) none = some r) (hQ : ∀ a w, Post X w0 K r a w → Q .normal a w) : (Code.region id ops true).wp X.P Q a w := by
  cases hc : (drawOk ops && free ops (List.range ops.size) S) with
  | false => rw [hc] at hr; cases hr
  | true =>
    rw [hc] at hr
    rw [Bool.and_eq_true] at hc
    have hb : Below w.heap.size w { w with drawn := w.drawn + 1 } := (Below.refl _ _).drew
    refine wp_region_any hE.mixed (drawn_sound hE hc.1 ops.size _ (List.range ops.size) ⟨by simp, ?_, fun i o hi => by
      exfalso
      simp only [Array.getD] at hi
      split at hi <;> simp at hi⟩ (by simp) S a _ loc (h.ext hb) hc.2 hr hQ)
    symm
    refine List.filter_eq_self.2 fun i hi => ?_
    have : i < ops.size := List.mem_range.1 hi
    simp [Array.getD, this]

/-- how code ends -/
def ExPost (X : Cx) (w0 : World) (k : Ex → St → Option ρ) (r : ρ) : Exit → Act → World → Prop
  | .normal, a, w => Post X w0 (k .normal) r a w
  | .exit id, a, w => Post X w0 (k (.exit id)) r a w
  | .ret, a, w => Post X w0 (k .ret) r a w
  | _, _, _ => False
theorem cond_some {b : Bool} {x y : Option ρ} {r : ρ} (h : cond b x y = some r) : (b = true ∧ x = some r) ∨ (b = false ∧ y = some r) := by cases b <;> simp_all
/-- a loop in its block does what its contract tells -/
structure LoopOk (X : Cx) (w0 : World) (lc : LoopC ρ) (body : Code) (id : Nat) (kr : St → Option ρ) : Prop where
  enter : ∀ S a w loc s, Sim X w0 S a w loc → lc.projI S = some s → ∃ loc', Sim X w0 (lc.injI s) a w loc'
  run : ∀ s kx r, lc.L s kx = some r → ∀ a w loc, Sim X w0 (lc.injI s) a w loc →
    (Code.block id body).wp X.P (fun e a w => match e with
      | .normal => ∃ y loc, kx y = some r ∧ Sim X w0 (lc.injX y) a w loc
      | .ret => Post X w0 kr r a w
      | _ => False) a w
/-- every loop that the evaluator takes by its contract -/
def LoopsOk (X : Cx) (w0 : World) (Λ : Nat → Option (LoopC ρ)) (kr : St → Option ρ) : Code → Prop
  | .seq x y => LoopsOk X w0 Λ kr x ∧ LoopsOk X w0 Λ kr y
  | .cond _ x y => LoopsOk X w0 Λ kr x ∧ LoopsOk X w0 Λ kr y
  | .block id c => match Λ id with
    | some lc => LoopOk X w0 lc c id kr
    | none => LoopsOk X w0 Λ kr c
  | _ => True
theorem wp_cond_of {P : Program} {c : Operand} {x y : Code} {b : Bool} {Q : Exit → Act → World → Prop} (hc : a.eval c = .bool b) (hx : b = true → x.wp P Q a w) (hy : b = false → y.wp P Q a w) : (Code.cond c x y).wp P Q a w := wp_cond_split hc hx hy
theorem ev_sound (hE : EnvOk X E) (kr : St → Option ρ) : (c : Code) → LoopsOk X w0 E.Λ kr c → (S : St) → (a : Act) → (w : World) → (loc : Nat → Nat → Option (Nat × Nat)) → Sim X w0 S a w loc → (k : Ex → St → Option ρ) → k .ret = kr → (r : ρ) →
    ev E c S k = some r → c.wp X.P (ExPost X w0 k r) a w
  | .skip, _, S, a, w, loc, h, k, _, r, hr => wp_skip ⟨S, loc, hr, h⟩
  | .exit id, _, S, a, w, loc, h, k, _, r, hr => wp_exit ⟨S, loc, hr, h⟩
  | .ret, _, S, a, w, loc, h, k, _, r, hr => wp_ret ⟨S, loc, hr, h⟩
  | .region id ops draw, _, S, a, w, loc, h, k, _, r, hr => by
    cases draw with
    | false =>
      simp only [ev] at hr
      exact wp_region (evOps_sound hE _ S a w loc h hr (fun a w hp => hp))
    | true =>
      simp only [ev] at hr
      exact region_drawn hE id h hr (fun a w hp => hp)
  | .seq x y, hl, S, a, w, loc, h, k, hk, r, hr => by
    simp only [ev] at hr
    refine wp_seq (wp_mono (ev_sound hE kr x hl.1 S a w loc h _ (by simpa using hk) r hr) fun e a' w' hp => ?_)
    cases e with
    | normal =>
      obtain ⟨S', loc', h1, h2⟩ := hp
      exact ev_sound hE kr y hl.2 S' a' w' loc' h2 k hk r h1
    | exit id => exact hp
    | ret => exact hp
    | goto l => exact hp
    | panic c => exact hp
    | outgrown => exact hp
  | .cond c x y, hl, S, a, w, loc, h, k, hk, r, hr => by
    simp only [ev] at hr
    split at hr
    · rename_i β hc
      have hv := opd_raw h hc
      refine wp_cond_of hv (fun hb => ?_) (fun hb => ?_)
      · rw [hb] at hr; exact ev_sound hE kr x hl.1 S a w loc h k hk r hr
      · rw [hb] at hr; exact ev_sound hE kr y hl.2 S a w loc h k hk r hr
    · cases hr
  | .block id c, hl, S, a, w, loc, h, k, hk, r, hr => by
    simp only [ev] at hr
    simp only [LoopsOk] at hl
    split at hr
    · rename_i lc hlc
      rw [hlc] at hl
      dsimp only at hl
      cases hs : lc.projI S with
      | none => rw [hs] at hr; cases hr
      | some s =>
        rw [hs] at hr
        simp only [Option.bind_some] at hr
        obtain ⟨loc', h'⟩ := hl.enter S a w loc s h hs
        refine wp_mono (hl.run s _ r hr a w loc' h') fun e a' w' hp => ?_
        cases e with
        | normal => obtain ⟨y, loc2, h1, h2⟩ := hp; exact ⟨_, loc2, h1, h2⟩
        | ret => show Post X w0 (k .ret) r a' w'; rw [hk]; exact hp
        | exit id => exact hp.elim
        | goto l => exact hp.elim
        | panic c => exact hp.elim
        | outgrown => exact hp.elim
    · rename_i hlc
      rw [hlc] at hl
      dsimp only at hl
      refine wp_block (wp_mono (ev_sound hE kr c hl S a w loc h _ (by simpa using hk) r hr) fun e a' w' hp => ?_)
      cases e with
      | normal => exact hp
      | exit j =>
        obtain ⟨S', loc', h1, h2⟩ := hp
        show Exit.inBlock id (ExPost X w0 k r) (.exit j) a' w'
        simp only [Exit.inBlock]
        dsimp only at h1
        split at h1
        · rename_i hj; rw [if_pos hj]; exact ⟨S', loc', h1, h2⟩
        · rename_i hj; rw [if_neg hj]; exact ⟨S', loc', h1, h2⟩
      | ret => exact hp
      | goto l => exact hp.elim
      | panic c => exact hp.elim
      | outgrown => exact hp.elim
  | .loop _, _, _, _, _, _, _, _, _, _, hr => by simp [ev] at hr
  | .rangeFunc .., _, _, _, _, _, _, _, _, _, hr => by simp [ev] at hr
  | .scope _, _, _, _, _, _, _, _, _, _, hr => by simp [ev] at hr
  | .label _, _, _, _, _, _, _, _, _, _, hr => by simp [ev] at hr
  | .goto _, _, _, _, _, _, _, _, _, _, hr => by simp [ev] at hr
  | .refuse _, _, _, _, _, _, _, _, _, _, hr => by simp [ev] at hr

/-! ### forgetting slots -/
theorem Sim.weaken (h : Sim X w0 S a w loc) {S' : St} (hl : S'.length = S.length) (hs : ∀ (i : Nat) p, S'[i]? = some p → S[i]? = some p ∨ p = .junk) (hr : ∀ (i : Nat) p k, S'[i]? = some p → p.ref = some k → (get S' k).owns = true) (hpn : isObj (get S 0) = true → isObj (get S' 0) = true) : ∃ loc', Sim X w0 S' a w loc' := by
  have hsame : ∀ k, (get S' k).owns = true → get S' k = get S k := fun k hk => by
    rcases hs k _ (get_some hk) with h1 | h1
    · exact (get_eq h1).symm
    · rw [h1] at hk; cases hk
  let loc2 : Nat → Nat → Option (Nat × Nat) := fun i => if (get S' i).owns then loc i else fun _ => none
  have l1 : ∀ i, (get S' i).owns = true → loc2 i = loc i := fun i hi => by simp [loc2, hi]
  have l2 : ∀ i, (get S' i).owns = false → loc2 i = fun _ => none := fun i hi => by simp [loc2, hi]
  have l3 : ∀ i j b o, loc2 i j = some (b, o) → loc i j = some (b, o) := fun i j b o hh => by
    cases hi : (get S' i).owns with
    | true => rw [l1 i hi] at hh; exact hh
    | false => rw [l2 i hi] at hh; cases hh
  refine ⟨loc2, { h with len := by rw [h.len, hl], rep := ?_, ref := hr, sep := fun i j i' j' b o o' e1 e2 => h.sep i j i' j' b o o' (l3 _ _ _ _ e1) (l3 _ _ _ _ e2), dom := fun i hi j => by rw [l2 i hi], lt := fun i j b o hh => h.lt i j b o (l3 _ _ _ _ hh), pin := fun b hb => ⟨hpn (h.pin b hb).1, by rw [l1 0 (isObj_owns (hpn (h.pin b hb).1))]; exact (h.pin b hb).2⟩ }⟩
  intro i p hp
  rcases hs i p hp with h1 | rfl
  · obtain ⟨v, hv, hrep⟩ := h.rep i p h1
    refine ⟨v, hv, ?_⟩
    have hli : loc2 i = loc i := by
      cases ho : p.owns with
      | true => exact l1 i (by rw [get_eq hp]; exact ho)
      | false => rw [l2 i (by rw [get_eq hp]; exact ho)]; exact (funext (h.dom i (by rw [get_eq h1]; exact ho))).symm
    rw [hli]
    refine hrep.frame (fun _ _ _ _ => rfl) (fun _ _ => rfl) (fun _ => Nat.le_refl _) (fun k hk => ?_)
    have hko := hr i p k hp hk
    rw [hsame k hko, l1 k hko]
    exact ⟨fun _ => rfl, rfl, rfl, rfl⟩
  · have hlt : i < S.length := by rw [← hl]; exact (List.getElem?_eq_some_iff.1 hp).1
    obtain ⟨v, hv, _⟩ := h.rep i _ (List.getElem?_eq_getElem hlt)
    exact ⟨v, hv, trivial⟩

theorem spProj_ok : (ps : List SP) → (ss : List Seg) → (x : spα ps) → spProj ps ss = some x → spInj ps x = ss
  | [], [], x, h => rfl
  | [], s :: ss, x, h => by simp [spProj] at h
  | p :: r, [], x, h => by simp [spProj] at h
  | p :: r, s :: ss, x, h => by
    simp only [spProj] at h
    cases h1 : p.proj s with
    | none => rw [h1] at h; cases h
    | some y =>
      rw [h1] at h
      simp only [Option.bind_some] at h
      cases h2 : spProj r ss with
      | none => rw [h2] at h; cases h
      | some z =>
        rw [h2] at h
        simp only [Option.bind_some, Option.some.injEq] at h
        subst h
        have e1 : p.inj y = s := by
          cases p <;> cases s <;> simp only [SP.proj] at h1 <;> first
            | cases h1
            | (have := T0.dec_ok h1; simp [SP.inj, this])
            | (split at h1
               · rename_i hC; subst hC; cases h1; rfl
               · cases h1)
            | (split at h1
               · rename_i hC; subst hC
                 split at h1
                 · rename_i hn; subst hn; cases h1; rfl
                 · cases h1
               · cases h1)
        simp [spInj, e1, spProj_ok r ss z h2]
theorem IP.proj_ok (p : IP) (v : PV) (x : p.α) (h : p.proj v = some x) : p.inj x = v ∨ p.inj x = .junk := by
  cases p with
  | junk => exact .inr rfl
  | al k =>
    cases v <;> simp only [IP.proj] at h <;> first
      | cases h
      | (split at h
         · rename_i hk; subst hk; exact .inl rfl
         · cases h)
  | sc t =>
    cases v <;> simp only [IP.proj] at h <;> first
      | cases h
      | (have := T0.dec_ok h; exact .inl (by simp [IP.inj, this]))
  | own C =>
    cases v <;> simp only [IP.proj] at h <;> first
      | cases h
      | (split at h
         · rename_i hC; subst hC; cases h; exact .inl rfl
         · cases h)
  | ros C =>
    cases v <;> simp only [IP.proj] at h <;> first
      | cases h
      | (split at h
         · rename_i hC; subst hC; cases h; exact .inl rfl
         · cases h)
  | arr C n =>
    cases v <;> simp only [IP.proj] at h <;> first
      | cases h
      | (split at h
         · rename_i hC; subst hC
           split at h
           · rename_i hn; subst hn; cases h; exact .inl rfl
           · cases h
         · cases h)
  | strc ss =>
    cases v <;> simp only [IP.proj] at h <;> first
      | cases h
      | (have := spProj_ok _ _ _ h; exact .inl (by simp [IP.inj, this]))
  | obj ss =>
    cases v <;> simp only [IP.proj] at h <;> first
      | cases h
      | (have := spProj_ok _ _ _ h; exact .inl (by simp [IP.inj, this]))
  | iter =>
    cases v <;> simp only [IP.proj] at h <;> first
      | (cases h; done)
      | (cases h; exact .inl rfl)
theorem IP.inj_owns (p : IP) (x : p.α) : (p.inj x).owns = p.owns := by cases p <;> rfl
theorem IP.inj_ref (p : IP) (x : p.α) {k : Nat} (h : (p.inj x).ref = some k) : p = .al k := by
  cases p <;> simp [IP.inj, PV.ref] at h
  subst h; rfl
theorem ipInj_get : (ps : List IP) → (x : ipα ps) → (i : Nat) → ∀ q, (ipInj ps x)[i]? = some q → ∃ (p : IP) (y : p.α), ps[i]? = some p ∧ q = p.inj y
  | [], _, i, q, h => by simp [ipInj] at h
  | p :: r, x, 0, q, h => by simp [ipInj] at h; exact ⟨p, p.fst x, rfl, h.symm⟩
  | p :: r, x, i + 1, q, h => by simpa using ipInj_get r (p.snd x) i q (by simpa [ipInj] using h)
theorem ipInj_length : (ps : List IP) → (x : ipα ps) → (ipInj ps x).length = ps.length
  | [], _ => rfl
  | p :: r, x => by simp [ipInj, ipInj_length r (p.snd x)]
theorem ipProjL_ok : (ps : List IP) → (S : St) → (x : ipα ps) → ipProjL ps S = some x → ps.length = S.length ∧ ∀ (i : Nat) q, (ipInj ps x)[i]? = some q → S[i]? = some q ∨ q = .junk
  | [], [], x, h => ⟨rfl, fun i q hq => by simp [ipInj] at hq⟩
  | [], s :: ss, x, h => by simp [ipProjL] at h
  | p :: r, [], x, h => by simp [ipProjL] at h
  | p :: r, s :: ss, x, h => by
    simp only [ipProjL] at h
    cases h1 : p.proj s with
    | none => rw [h1] at h; cases h
    | some y =>
      rw [h1] at h
      simp only [Option.bind_some] at h
      cases h2 : ipProjL r ss with
      | none => rw [h2] at h; cases h
      | some z =>
        rw [h2] at h
        simp only [Option.bind_some, Option.some.injEq] at h
        subst h
        obtain ⟨g1, g2⟩ := ipProjL_ok r ss z h2
        refine ⟨by simp [g1], fun i q hq => ?_⟩
        cases i with
        | zero =>
          simp [ipInj, IP.fst_pair] at hq
          subst hq
          rcases IP.proj_ok p s y h1 with e | e
          · exact .inl (by simp [e])
          · exact .inr e
        | succ i => simpa using g2 i q (by simpa [ipInj, IP.snd_pair] using hq)
theorem IP.inj_isObj (p : IP) (x : p.α) : Px.isObj (p.inj x) = p.isObj := by cases p <;> rfl
theorem ipInj_zero (ps : List IP) (x : ipα ps) (h : (ps.getD 0 .junk).isObj = true) : isObj (get (ipInj ps x) 0) = true := by
  cases ps with
  | nil => cases h
  | cons p r => exact (IP.inj_isObj p (p.fst x)).trans h
theorem ipProj_ok (ps : List IP) (S : St) (x : ipα ps) (h : ipProj ps S = some x) : (ps.length = S.length ∧ ∀ (i : Nat) q, (ipInj ps x)[i]? = some q → S[i]? = some q ∨ q = .junk) ∧ (isObj (get S 0) = true → isObj (get (ipInj ps x) 0) = true) := by
  unfold ipProj at h
  cases hc : (isObj (get S 0) && !(ps.getD 0 .junk).isObj) with
  | true => rw [hc] at h; cases h
  | false =>
    rw [hc] at h
    refine ⟨ipProjL_ok ps S x h, fun ho => ipInj_zero ps x ?_⟩
    rw [ho] at hc
    simpa using hc
theorem ip_enter (ps : List IP) (hok : ipOk ps = true) (h : Sim X w0 S a w loc) (x : ipα ps) (hx : ipProj ps S = some x) : ∃ loc', Sim X w0 (ipInj ps x) a w loc' := by
  obtain ⟨⟨h1, h2⟩, h3⟩ := ipProj_ok ps S x hx
  refine h.weaken (by rw [ipInj_length, h1]) h2 (fun i q k hq hk => ?_) h3
  obtain ⟨p, y, hp, rfl⟩ := ipInj_get ps x i q hq
  have hal := IP.inj_ref p y hk
  subst hal
  have hm := List.all_eq_true.1 hok _ (List.mem_of_getElem? hp)
  dsimp only at hm
  have hkl : k < ps.length := by
    rcases Nat.lt_or_ge k ps.length with h' | h'
    · exact h'
    · rw [List.getD_eq_getElem?_getD, List.getElem?_eq_none h'] at hm; cases hm
  have hkk : (ipInj ps x)[k]? = some ((ipInj ps x)[k]'(by rw [ipInj_length]; exact hkl)) := List.getElem?_eq_getElem _
  obtain ⟨p', y', hp', he⟩ := ipInj_get ps x k _ hkk
  rw [get_eq hkk, he, IP.inj_owns]
  rw [List.getD_eq_getElem?_getD, hp'] at hm
  exact hm
end
end Go.Px
