/- Our library of evaluations, part 3. -/
import Derived.Test.YtgmfjbbhdnfapaaDoorPxB
import Derived.SizedLaws
import Derived.ChangeSlices
import Derived.SliceStrings
import Derived.Lib.LaidU8T
import Derived.OpenShut
import Derived.Deep.Slices
set_option linter.unusedVariables false
set_option linter.unusedSimpArgs false
/- Operations in a row, code, loops, functions. -/
namespace Go.Px
open Go Go.RowKit

section
variable {X : Cx} {ρ : Type} {w0 : World} {S : St} {a : Act} {w : World} {loc : Nat → Nat → Option (Nat × Nat)} {E : Env ρ} {K : St → Option ρ} {r : ρ} {o : Oper} {Q : Exit → Act → World → Prop} {ops : Array Oper}

/-- a bool in a slot that has been told: written out -/
theorem Sim.told (h : Sim X w0 S a w loc) {d : Nat} {b c : Bool} (hd : get S d = .raw (.bool b)) (hb : b = c) : Sim X w0 (S.set d (.raw (.bool c))) a w loc := by
  subst hb
  have hs := get_of_ne (i := d) (S := S) (by rw [hd]; simp)
  rw [hd] at hs
  have : S.set d (.raw (.bool b)) = S := by
    apply List.ext_getElem?
    intro i
    by_cases hi : i = d
    · subst hi; rw [List.getElem?_set_self (List.getElem?_eq_some_iff.1 hs).1, hs]
    · rw [List.getElem?_set_ne (Ne.symm hi)]
  rw [this]; exact h
theorem put_junk (h : Sim X w0 S a w loc) (hK : putU S o.dst K = some r) : Post X w0 K r (a.put o.dst undef) w := by
  cases hd : o.dst with
  | none => rw [hd] at hK; exact ⟨S, loc, hK, h⟩
  | some d =>
    rw [hd] at hK
    have hpn : pinned S d = false := by cases hp : pinned S d with | false => rfl | true => simp [putU, hp] at hK
    have hK : K (put S (some d) (.raw undef)) = some r := by simpa [putU, hpn] using hK
    by_cases hl : d < S.length
    · obtain ⟨loc1, h1⟩ := h.fin0 ⟨hl, hpn⟩ (.raw undef) undef rfl rfl (fun k hk => by cases hk)
      exact ⟨_, loc1, hK, h1⟩
    · have e1 : put S (some d) (.raw undef) = S := by
        have hno : (get S d).owns = false := by rw [get_none (List.getElem?_eq_none (Nat.le_of_not_lt hl))]; rfl
        show (Px.kill S d).set d (.raw undef) = S
        rw [kill_noop hno, List.set_eq_of_length_le (Nat.le_of_not_lt hl)]
      have e2 : a.put (some d) undef = a := by
        show ({ a with tmps := a.tmps.setIfInBounds d undef } : Act) = a
        rw [Array.setIfInBounds_eq_of_size_le (by rw [h.len]; exact Nat.le_of_not_lt hl)]
      rw [e1] at hK
      rw [e2]
      exact ⟨S, loc, hK, h⟩
/-- one operation with its guard -/
theorem evOper_sound (hE : EnvOk X E) (h : Sim X w0 S a w loc) (hr : evOper E ops o S K = some r) :
    if Region.wanted o (yielded ops a.tmps) then o.wp X.P a w (Post X w0 K r) Q else Post X w0 K r (a.put o.dst undef) w := by
  unfold evOper at hr
  split at hr
  · rename_i hg
    have hw : Region.wanted o (yielded ops a.tmps) = true := by simp [Region.wanted, hg]
    rw [if_pos hw]
    exact evOp_sound hE h hr
  · rename_i j want hg
    split at hr
    · cases hr
    · rename_i d hd
      split at hr
      · rename_i β hβ
        obtain ⟨v, h1, _, h3⟩ := opd_get h hβ (by simp)
        have h3 : v = .bool β := h3
        subst h3
        have hy : yielded ops a.tmps j = some β := by simp [yielded, hd, h1]
        cases hb : β with
        | true =>
          rw [hb] at hr hy
          simp only [cond_true] at hr
          have hs := h.told hβ hb
          split at hr
          · rename_i hw
            have : Region.wanted o (yielded ops a.tmps) = true := by simp [Region.wanted, hg, hy, hw]
            rw [if_pos this]
            exact evOp_sound hE hs hr
          · rename_i hw
            have : Region.wanted o (yielded ops a.tmps) = false := by cases want <;> simp_all [Region.wanted]
            rw [this]
            exact put_junk hs hr
        | false =>
          rw [hb] at hr hy
          simp only [cond_false] at hr
          have hs := h.told hβ hb
          split at hr
          · rename_i hw
            have : Region.wanted o (yielded ops a.tmps) = true := by simp [Region.wanted, hg, hy, hw]
            rw [if_pos this]
            exact evOp_sound hE hs hr
          · rename_i hw
            have : Region.wanted o (yielded ops a.tmps) = false := by cases want <;> simp_all [Region.wanted]
            rw [this]
            exact put_junk hs hr
      · rename_i vs hβ
        obtain ⟨v, h1, _, h3⟩ := opd_get h hβ (by simp)
        have h3 : v = .tuple vs := h3
        subst h3
        have hy : yielded ops a.tmps j = none := by simp [yielded, hd, h1]
        have : Region.wanted o (yielded ops a.tmps) = false := by simp [Region.wanted, hg, hy]
        rw [this]
        exact put_junk h hr
      · cases hr
theorem evOps_sound (hE : EnvOk X E) : (l : List Nat) → (S : St) → (a : Act) → (w : World) → (loc : Nat → Nat → Option (Nat × Nat)) → Sim X w0 S a w loc → evOps E ops l S K = some r →
    (∀ a w, Post X w0 K r a w → Q .normal a w) → wpOps X.P ops Q l a w
  | [], S, a, w, loc, h, hr, hQ => hQ a w ⟨S, loc, hr, h⟩
  | i :: l, S, a, w, loc, h, hr, hQ => by
    rw [wpOps_cons]
    unfold wpOp
    simp only [evOps] at hr
    split at hr
    · cases hr
    · rename_i o ho
      have key := evOper_sound (Q := Q) hE h hr
      have ih : ∀ a' w', Post X w0 (fun S' => evOps E ops l S' K) r a' w' → wpOps X.P ops Q l a' w' := fun a' w' ⟨S', loc', h1, h2⟩ => evOps_sound hE l S' a' w' loc' h2 h1 hQ
      simp only [ho]
      split at key
      · rename_i hw
        simp only [hw, if_true]
        exact .inl (Oper.wp_mono ih key)
      · rename_i hw
        simp only [hw]
        exact ih _ _ key

/-- whatever order is drawn -/
theorem drawn_sound (hE : EnvOk X E) (hok : drawOk ops = true) : (fuel : Nat) → (listed : Array Bool) → (R : List Nat) → Lst ops listed R → R.length ≤ fuel → (S : St) → (a : Act) → (w : World) → (loc : Nat → Nat → Option (Nat × Nat)) → Sim X w0 S a w loc → free ops R S = true → evOpsD E ops R S K = some r →
    (∀ a w, Post X w0 K r a w → Q .normal a w) → wpAny X.P .any ops Q fuel listed a w
  | 0, listed, R, hL, hf, S, a, w, loc, h, hfr, hr, hQ => by
    have hR : R = [] := List.eq_nil_of_length_eq_zero (by omega)
    subst hR
    refine ⟨?_, hQ a w ⟨S, loc, hr, h⟩⟩
    cases hh : Region.ready .any ops listed with
    | nil => rfl
    | cons i l =>
      obtain ⟨h1, h2, _⟩ := mem_ready.1 (show i ∈ Region.ready .any ops listed by rw [hh]; simp)
      exact absurd (hL.mem.2 ⟨h1, h2⟩) (by simp)
  | fuel + 1, listed, R, hL, hf, S, a, w, loc, h, hfr, hr, hQ => by
    refine ⟨fun hh => ?_, fun i hi => ?_⟩
    · cases hR : R with
      | nil => rw [hR] at hr; exact hQ a w ⟨S, loc, hr, h⟩
      | cons i l => have := head_ready hL hok hR; rw [hh] at this; cases this
    · obtain ⟨js, rest, hR, hL', h1, h2, h3, h4, h5, h6, h7⟩ := ready_split hL hok hi
      subst hR
      have hinv : Inv S := h.ref
      have hr' : evOpsD E ops (i :: (js ++ rest)) S K = some r := by
        cases js with
        | nil => exact hr
        | cons j js => exact moveFront (h2 (by simp)) (j :: js) rest S hinv hfr h1 h7 h3 h4 h5 h6 hr
      have hfr' : (alone ops i = false → freeO S (dstOf ops i)) ∧ free ops (js ++ rest) S = true := by
        rw [free_app, free_cons] at hfr
        rw [free_app]
        exact ⟨hfr.2.1, hfr.1, hfr.2.2⟩
      simp only [evOpsD] at hr'
      obtain ⟨o, ho⟩ : ∃ o, ops[i]? = some o := ⟨_, Array.getElem?_eq_getElem h6⟩
      rw [ho] at hr'
      dsimp only at hr'
      have key : evOper E ops o S (fun S' => cond (free ops (js ++ rest) S') (evOpsD E ops (js ++ rest) S' K) none) = some r := by
        cases hal : alone ops i with
        | true => rw [hal] at hr'; exact hr'
        | false =>
          rw [hal] at hr'
          simp only [cond_false] at hr'
          have hd := dstOf_eq ho
          have hfo : freeO S o.dst := by rw [← hd]; exact hfr'.1 hal
          cases hap : (!isStore ops i && isApp ops i) with
          | true =>
            simp only [Bool.and_eq_true, Bool.not_eq_true'] at hap
            obtain ⟨hsi, hapi⟩ := hap
            obtain ⟨k, q, hq, hqr, hko, hdk, hok2, hnat⟩ := app_step ho hinv hfo hsi hapi hr'
            obtain ⟨_, _, _, _, _, _, _, _, huq, _⟩ := isApp_op ho hapi
            refine evD_oper (i := i) ho hinv ?_
            rw [hnat S (Agree.refl _) rfl hfo hok2] at hr' ⊢
            have hfs : free ops (js ++ rest) (setO (kill S k) o.dst q) = true := by
              rw [← hd]
              refine free_set (free_mem.2 fun m hm ham => freeO_kill hko (free_mem.1 hfr'.2 m hm ham)) (fun m hm => ?_) (.inl huq)
              rcases List.mem_append.1 hm with hm | hm
              · exact ⟨(h1 m hm).2.2.1, fun e => h4 (e ▸ hm)⟩
              · exact ⟨(h5 m hm).1, (h5 m hm).2.2⟩
            rw [hfs]; exact hr'
          | false =>
          have haj3 : isStore ops i = false → isApp ops i = false := fun e => by rw [e] at hap; simpa using hap
          obtain ⟨tt, p, ds, st⟩ := dstep ho haj3 hinv hfo hr'
          refine evD_oper (i := i) ho hinv ?_
          rw [st] at hr' ⊢
          have hfs : free ops (js ++ rest) (setO S tt p) = true := by
            cases ds with
            | val _ hsj hpj huj hnb htj =>
              rw [← hd]
              refine free_set hfr'.2 (fun m hm => ?_) huj
              rcases List.mem_append.1 hm with hm | hm
              · exact ⟨(h1 m hm).2.2.1, fun e => h4 (e ▸ hm)⟩
              · exact ⟨(h5 m hm).1, (h5 m hm).2.2⟩
            | sto k _ hsj hq hrq hk hjj hks htj =>
              refine free_mem.2 fun m hm ham d hd => ?_
              have := free_mem.1 hfr'.2 m hm ham d hd
              rw [setO_ne fun e => by cases e; rw [this] at hk; cases hk]
              exact this
          rw [hfs]; exact hr'
      have hs := evOper_sound (Q := Q) hE h key
      have ih : ∀ a' w', Post X w0 (fun S' => cond (free ops (js ++ rest) S') (evOpsD E ops (js ++ rest) S' K) none) r a' w' → wpAny X.P .any ops Q fuel (listed.setIfInBounds i true) a' w' := fun a' w' ⟨S', loc', g1, g2⟩ => by
        dsimp only at g1
        cases hf' : free ops (js ++ rest) S' with
        | false => rw [hf'] at g1; cases g1
        | true =>
          rw [hf'] at g1
          exact drawn_sound hE hok fuel _ _ hL' (by simp at hf ⊢; omega) S' a' w' loc' g2 hf' g1 hQ
      unfold wpOp
      simp only [ho]
      split at hs
      · rename_i hw
        rw [if_pos hw]
        exact .inl (Oper.wp_mono ih hs)
      · rename_i hw
        rw [if_neg hw]
        exact ih _ _ hs
theorem region_drawn (hE : EnvOk X E) (id : Nat) (h : Sim X w0 S a w loc) (hr : cond (drawOk ops && free ops (List.range ops.size) S) (evOpsD E ops (List.range ops.size) S K) none = some r) (hQ : ∀ a w, Post X w0 K r a w → Q .normal a w) : (Code.region id ops true).wp X.P Q a w := by
  cases hc : (drawOk ops && free ops (List.range ops.size) S) with
  | false => rw [hc] at hr; cases hr
  | true =>
    rw [hc] at hr
    rw [Bool.and_eq_true] at hc
    have hb : Below w.heap.size w { w with drawn := w.drawn + 1 } := (Below.refl _ _).drew
    refine wp_region_any hE.mixed (drawn_sound hE hc.1 ops.size _ (List.range ops.size) ⟨by simp, ?_, fun i o hi => by
      exfalso
      simp only [Array.getD] at hi
      split at hi <;> simp at hi⟩ (by simp) S a _ loc (h.ext hb) hc.2 hr hQ)
    symm
    refine List.filter_eq_self.2 fun i hi => ?_
    have : i < ops.size := List.mem_range.1 hi
    simp [Array.getD, this]

/-- how code ends -/
def ExPost (X : Cx) (w0 : World) (k : Ex → St → Option ρ) (r : ρ) : Exit → Act → World → Prop
  | .normal, a, w => Post X w0 (k .normal) r a w
  | .exit id, a, w => Post X w0 (k (.exit id)) r a w
  | .ret, a, w => Post X w0 (k .ret) r a w
  | _, _, _ => False
theorem cond_some {b : Bool} {x y : Option ρ} {r : ρ} (h : cond b x y = some r) : (b = true ∧ x = some r) ∨ (b = false ∧ y = some r) := by cases b <;> simp_all
/-- a loop in its block does what its contract tells -/
structure LoopOk (X : Cx) (w0 : World) (lc : LoopC ρ) (body : Code) (id : Nat) (kr : St → Option ρ) : Prop where
  enter : ∀ S a w loc s, Sim X w0 S a w loc → lc.projI S = some s → ∃ loc', Sim X w0 (lc.injI s) a w loc'
  run : ∀ s kx r, lc.L s kx = some r → ∀ a w loc, Sim X w0 (lc.injI s) a w loc →
    (Code.block id body).wp X.P (fun e a w => match e with
      | .normal => ∃ y loc, kx y = some r ∧ Sim X w0 (lc.injX y) a w loc
      | .ret => Post X w0 kr r a w
      | _ => False) a w
/-- every loop that the evaluator takes by its contract -/
def LoopsOk (X : Cx) (w0 : World) (Λ : Nat → Option (LoopC ρ)) (kr : St → Option ρ) : Code → Prop
  | .seq x y => LoopsOk X w0 Λ kr x ∧ LoopsOk X w0 Λ kr y
  | .cond _ x y => LoopsOk X w0 Λ kr x ∧ LoopsOk X w0 Λ kr y
  | .block id c => match Λ id with
    | some lc => LoopOk X w0 lc c id kr
    | none => LoopsOk X w0 Λ kr c
  | _ => True
theorem wp_cond_of {P : Program} {c : Operand} {x y : Code} {b : Bool} {Q : Exit → Act → World → Prop} (hc : a.eval c = .bool b) (hx : b = true → x.wp P Q a w) (hy : b = false → y.wp P Q a w) : (Code.cond c x y).wp P Q a w := wp_cond_split hc hx hy
theorem ev_sound (hE : EnvOk X E) (kr : St → Option ρ) : (c : Code) → LoopsOk X w0 E.Λ kr c → (S : St) → (a : Act) → (w : World) → (loc : Nat → Nat → Option (Nat × Nat)) → Sim X w0 S a w loc → (k : Ex → St → Option ρ) → k .ret = kr → (r : ρ) →
    ev E c S k = some r → c.wp X.P (ExPost X w0 k r) a w
  | .skip, _, S, a, w, loc, h, k, _, r, hr => wp_skip ⟨S, loc, hr, h⟩
  | .exit id, _, S, a, w, loc, h, k, _, r, hr => wp_exit ⟨S, loc, hr, h⟩
  | .ret, _, S, a, w, loc, h, k, _, r, hr => wp_ret ⟨S, loc, hr, h⟩
  | .region id ops draw, _, S, a, w, loc, h, k, _, r, hr => by
    cases draw with
    | false =>
      simp only [ev] at hr
      exact wp_region (evOps_sound hE _ S a w loc h hr (fun a w hp => hp))
    | true =>
      simp only [ev] at hr
      exact region_drawn hE id h hr (fun a w hp => hp)
  | .seq x y, hl, S, a, w, loc, h, k, hk, r, hr => by
    simp only [ev] at hr
    refine wp_seq (wp_mono (ev_sound hE kr x hl.1 S a w loc h _ (by simpa using hk) r hr) fun e a' w' hp => ?_)
    cases e with
    | normal =>
      obtain ⟨S', loc', h1, h2⟩ := hp
      exact ev_sound hE kr y hl.2 S' a' w' loc' h2 k hk r h1
    | exit id => exact hp
    | ret => exact hp
    | goto l => exact hp
    | panic c => exact hp
    | outgrown => exact hp
  | .cond c x y, hl, S, a, w, loc, h, k, hk, r, hr => by
    simp only [ev] at hr
    split at hr
    · rename_i β hc
      have hv := opd_raw h hc
      refine wp_cond_of hv (fun hb => ?_) (fun hb => ?_)
      · rw [hb] at hr; exact ev_sound hE kr x hl.1 S a w loc h k hk r hr
      · rw [hb] at hr; exact ev_sound hE kr y hl.2 S a w loc h k hk r hr
    · cases hr
  | .block id c, hl, S, a, w, loc, h, k, hk, r, hr => by
    simp only [ev] at hr
    simp only [LoopsOk] at hl
    split at hr
    · rename_i lc hlc
      rw [hlc] at hl
      dsimp only at hl
      cases hs : lc.projI S with
      | none => rw [hs] at hr; cases hr
      | some s =>
        rw [hs] at hr
        simp only [Option.bind_some] at hr
        obtain ⟨loc', h'⟩ := hl.enter S a w loc s h hs
        refine wp_mono (hl.run s _ r hr a w loc' h') fun e a' w' hp => ?_
        cases e with
        | normal => obtain ⟨y, loc2, h1, h2⟩ := hp; exact ⟨_, loc2, h1, h2⟩
        | ret => show Post X w0 (k .ret) r a' w'; rw [hk]; exact hp
        | exit id => exact hp.elim
        | goto l => exact hp.elim
        | panic c => exact hp.elim
        | outgrown => exact hp.elim
    · rename_i hlc
      rw [hlc] at hl
      dsimp only at hl
      refine wp_block (wp_mono (ev_sound hE kr c hl S a w loc h _ (by simpa using hk) r hr) fun e a' w' hp => ?_)
      cases e with
      | normal => exact hp
      | exit j =>
        obtain ⟨S', loc', h1, h2⟩ := hp
        show Exit.inBlock id (ExPost X w0 k r) (.exit j) a' w'
        simp only [Exit.inBlock]
        dsimp only at h1
        split at h1
        · rename_i hj; rw [if_pos hj]; exact ⟨S', loc', h1, h2⟩
        · rename_i hj; rw [if_neg hj]; exact ⟨S', loc', h1, h2⟩
      | ret => exact hp
      | goto l => exact hp.elim
      | panic c => exact hp.elim
      | outgrown => exact hp.elim
  | .loop _, _, _, _, _, _, _, _, _, _, hr => by simp [ev] at hr
  | .rangeFunc .., _, _, _, _, _, _, _, _, _, hr => by simp [ev] at hr
  | .scope _, _, _, _, _, _, _, _, _, _, hr => by simp [ev] at hr
  | .label _, _, _, _, _, _, _, _, _, _, hr => by simp [ev] at hr
  | .goto _, _, _, _, _, _, _, _, _, _, hr => by simp [ev] at hr
  | .refuse _, _, _, _, _, _, _, _, _, _, hr => by simp [ev] at hr

/-! ### forgetting slots -/
theorem Sim.weaken (h : Sim X w0 S a w loc) {S' : St} (hl : S'.length = S.length) (hs : ∀ (i : Nat) p, S'[i]? = some p → S[i]? = some p ∨ p = .junk) (hr : ∀ (i : Nat) p k, S'[i]? = some p → p.ref = some k → (get S' k).owns = true) (hpn : isObj (get S 0) = true → isObj (get S' 0) = true) : ∃ loc', Sim X w0 S' a w loc' := by
  have hsame : ∀ k, (get S' k).owns = true → get S' k = get S k := fun k hk => by
    rcases hs k _ (get_some hk) with h1 | h1
    · exact (get_eq h1).symm
    · rw [h1] at hk; cases hk
  let loc2 : Nat → Nat → Option (Nat × Nat) := fun i => if (get S' i).owns then loc i else fun _ => none
  have l1 : ∀ i, (get S' i).owns = true → loc2 i = loc i := fun i hi => by simp [loc2, hi]
  have l2 : ∀ i, (get S' i).owns = false → loc2 i = fun _ => none := fun i hi => by simp [loc2, hi]
  have l3 : ∀ i j b o, loc2 i j = some (b, o) → loc i j = some (b, o) := fun i j b o hh => by
    cases hi : (get S' i).owns with
    | true => rw [l1 i hi] at hh; exact hh
    | false => rw [l2 i hi] at hh; cases hh
  refine ⟨loc2, { h with len := by rw [h.len, hl], rep := ?_, ref := hr, sep := fun i j i' j' b o o' e1 e2 => h.sep i j i' j' b o o' (l3 _ _ _ _ e1) (l3 _ _ _ _ e2), dom := fun i hi j => by rw [l2 i hi], lt := fun i j b o hh => h.lt i j b o (l3 _ _ _ _ hh), pin := fun b hb => ⟨hpn (h.pin b hb).1, by rw [l1 0 (isObj_owns (hpn (h.pin b hb).1))]; exact (h.pin b hb).2⟩ }⟩
  intro i p hp
  rcases hs i p hp with h1 | rfl
  · obtain ⟨v, hv, hrep⟩ := h.rep i p h1
    refine ⟨v, hv, ?_⟩
    have hli : loc2 i = loc i := by
      cases ho : p.owns with
      | true => exact l1 i (by rw [get_eq hp]; exact ho)
      | false => rw [l2 i (by rw [get_eq hp]; exact ho)]; exact (funext (h.dom i (by rw [get_eq h1]; exact ho))).symm
    rw [hli]
    refine hrep.frame (fun _ _ _ _ => rfl) (fun _ _ => rfl) (fun _ => Nat.le_refl _) (fun k hk => ?_)
    have hko := hr i p k hp hk
    rw [hsame k hko, l1 k hko]
    exact ⟨fun _ => rfl, rfl, rfl, rfl⟩
  · have hlt : i < S.length := by rw [← hl]; exact (List.getElem?_eq_some_iff.1 hp).1
    obtain ⟨v, hv, _⟩ := h.rep i _ (List.getElem?_eq_getElem hlt)
    exact ⟨v, hv, trivial⟩

theorem spProj_ok : (ps : List SP) → (ss : List Seg) → (x : spα ps) → spProj ps ss = some x → spInj ps x = ss
  | [], [], x, h => rfl
  | [], s :: ss, x, h => by simp [spProj] at h
  | p :: r, [], x, h => by simp [spProj] at h
  | p :: r, s :: ss, x, h => by
    simp only [spProj] at h
    cases h1 : p.proj s with
    | none => rw [h1] at h; cases h
    | some y =>
      rw [h1] at h
      simp only [Option.bind_some] at h
      cases h2 : spProj r ss with
      | none => rw [h2] at h; cases h
      | some z =>
        rw [h2] at h
        simp only [Option.bind_some, Option.some.injEq] at h
        subst h
        have e1 : p.inj y = s := by
          cases p <;> cases s <;> simp only [SP.proj] at h1 <;> first
            | cases h1
            | (have := T0.dec_ok h1; simp [SP.inj, this])
            | (split at h1
               · rename_i hC; subst hC
                 split at h1
                 · rename_i hn; subst hn; cases h1; rfl
                 · cases h1
               · cases h1)
        simp [spInj, e1, spProj_ok r ss z h2]
theorem IP.proj_ok (p : IP) (v : PV) (x : p.α) (h : p.proj v = some x) : p.inj x = v ∨ p.inj x = .junk := by
  cases p with
  | junk => exact .inr rfl
  | al k =>
    cases v <;> simp only [IP.proj] at h <;> first
      | cases h
      | (split at h
         · rename_i hk; subst hk; exact .inl rfl
         · cases h)
  | sc t =>
    cases v <;> simp only [IP.proj] at h <;> first
      | cases h
      | (have := T0.dec_ok h; exact .inl (by simp [IP.inj, this]))
  | own C =>
    cases v <;> simp only [IP.proj] at h <;> first
      | cases h
      | (split at h
         · rename_i hC; subst hC; cases h; exact .inl rfl
         · cases h)
  | ros C =>
    cases v <;> simp only [IP.proj] at h <;> first
      | cases h
      | (split at h
         · rename_i hC; subst hC; cases h; exact .inl rfl
         · cases h)
  | arr C n =>
    cases v <;> simp only [IP.proj] at h <;> first
      | cases h
      | (split at h
         · rename_i hC; subst hC
           split at h
           · rename_i hn; subst hn; cases h; exact .inl rfl
           · cases h
         · cases h)
  | strc ss =>
    cases v <;> simp only [IP.proj] at h <;> first
      | cases h
      | (have := spProj_ok _ _ _ h; exact .inl (by simp [IP.inj, this]))
  | obj ss =>
    cases v <;> simp only [IP.proj] at h <;> first
      | cases h
      | (have := spProj_ok _ _ _ h; exact .inl (by simp [IP.inj, this]))
  | iter =>
    cases v <;> simp only [IP.proj] at h <;> first
      | (cases h; done)
      | (cases h; exact .inl rfl)
theorem IP.inj_owns (p : IP) (x : p.α) : (p.inj x).owns = p.owns := by cases p <;> rfl
theorem IP.inj_ref (p : IP) (x : p.α) {k : Nat} (h : (p.inj x).ref = some k) : p = .al k := by
  cases p <;> simp [IP.inj, PV.ref] at h
  subst h; rfl
theorem ipInj_get : (ps : List IP) → (x : ipα ps) → (i : Nat) → ∀ q, (ipInj ps x)[i]? = some q → ∃ (p : IP) (y : p.α), ps[i]? = some p ∧ q = p.inj y
  | [], _, i, q, h => by simp [ipInj] at h
  | p :: r, x, 0, q, h => by simp [ipInj] at h; exact ⟨p, p.fst x, rfl, h.symm⟩
  | p :: r, x, i + 1, q, h => by simpa using ipInj_get r (p.snd x) i q (by simpa [ipInj] using h)
theorem ipInj_length : (ps : List IP) → (x : ipα ps) → (ipInj ps x).length = ps.length
  | [], _ => rfl
  | p :: r, x => by simp [ipInj, ipInj_length r (p.snd x)]
theorem ipProjL_ok : (ps : List IP) → (S : St) → (x : ipα ps) → ipProjL ps S = some x → ps.length = S.length ∧ ∀ (i : Nat) q, (ipInj ps x)[i]? = some q → S[i]? = some q ∨ q = .junk
  | [], [], x, h => ⟨rfl, fun i q hq => by simp [ipInj] at hq⟩
  | [], s :: ss, x, h => by simp [ipProjL] at h
  | p :: r, [], x, h => by simp [ipProjL] at h
  | p :: r, s :: ss, x, h => by
    simp only [ipProjL] at h
    cases h1 : p.proj s with
    | none => rw [h1] at h; cases h
    | some y =>
      rw [h1] at h
      simp only [Option.bind_some] at h
      cases h2 : ipProjL r ss with
      | none => rw [h2] at h; cases h
      | some z =>
        rw [h2] at h
        simp only [Option.bind_some, Option.some.injEq] at h
        subst h
        obtain ⟨g1, g2⟩ := ipProjL_ok r ss z h2
        refine ⟨by simp [g1], fun i q hq => ?_⟩
        cases i with
        | zero =>
          simp [ipInj, IP.fst_pair] at hq
          subst hq
          rcases IP.proj_ok p s y h1 with e | e
          · exact .inl (by simp [e])
          · exact .inr e
        | succ i => simpa using g2 i q (by simpa [ipInj, IP.snd_pair] using hq)
theorem IP.inj_isObj (p : IP) (x : p.α) : Px.isObj (p.inj x) = p.isObj := by cases p <;> rfl
theorem ipInj_zero (ps : List IP) (x : ipα ps) (h : (ps.getD 0 .junk).isObj = true) : isObj (get (ipInj ps x) 0) = true := by
  cases ps with
  | nil => cases h
  | cons p r => exact (IP.inj_isObj p (p.fst x)).trans h
theorem ipProj_ok (ps : List IP) (S : St) (x : ipα ps) (h : ipProj ps S = some x) : (ps.length = S.length ∧ ∀ (i : Nat) q, (ipInj ps x)[i]? = some q → S[i]? = some q ∨ q = .junk) ∧ (isObj (get S 0) = true → isObj (get (ipInj ps x) 0) = true) := by
  unfold ipProj at h
  cases hc : (isObj (get S 0) && !(ps.getD 0 .junk).isObj) with
  | true => rw [hc] at h; cases h
  | false =>
    rw [hc] at h
    refine ⟨ipProjL_ok ps S x h, fun ho => ipInj_zero ps x ?_⟩
    rw [ho] at hc
    simpa using hc
theorem ip_enter (ps : List IP) (hok : ipOk ps = true) (h : Sim X w0 S a w loc) (x : ipα ps) (hx : ipProj ps S = some x) : ∃ loc', Sim X w0 (ipInj ps x) a w loc' := by
  obtain ⟨⟨h1, h2⟩, h3⟩ := ipProj_ok ps S x hx
  refine h.weaken (by rw [ipInj_length, h1]) h2 (fun i q k hq hk => ?_) h3
  obtain ⟨p, y, hp, rfl⟩ := ipInj_get ps x i q hq
  have hal := IP.inj_ref p y hk
  subst hal
  have hm := List.all_eq_true.1 hok _ (List.mem_of_getElem? hp)
  dsimp only at hm
  have hkl : k < ps.length := by
    rcases Nat.lt_or_ge k ps.length with h' | h'
    · exact h'
    · rw [List.getD_eq_getElem?_getD, List.getElem?_eq_none h'] at hm; cases hm
  have hkk : (ipInj ps x)[k]? = some ((ipInj ps x)[k]'(by rw [ipInj_length]; exact hkl)) := List.getElem?_eq_getElem _
  obtain ⟨p', y', hp', he⟩ := ipInj_get ps x k _ hkk
  rw [get_eq hkk, he, IP.inj_owns]
  rw [List.getD_eq_getElem?_getD, hp'] at hm
  exact hm
end
end Go.Px

/- Loops by their step; functions. -/
namespace Go.Px
open Go Go.RowKit

section
variable {X : Cx} {ρ : Type} {w0 : World} {S : St} {a : Act} {w : World} {loc : Nat → Nat → Option (Nat × Nat)} {E : Env ρ} {K : St → Option ρ} {r : ρ} {o : Oper} {Q : Exit → Act → World → Prop}

theorem exists_least {p : Nat → Prop} (h : ∃ n, p n) : ∃ m, p m ∧ ∀ k, p k → m ≤ k := by
  obtain ⟨n, hn⟩ := h
  induction n using Nat.strongRecOn with
  | _ n ih =>
    by_cases hk : ∃ k, k < n ∧ p k
    · obtain ⟨k, hk1, hk2⟩ := hk; exact ih k hk1 hk2
    · exact ⟨n, hn, fun k hpk => Nat.le_of_not_lt fun hlt => hk ⟨k, hlt, hpk⟩⟩
noncomputable def least {p : Nat → Prop} (h : ∃ n, p n) : Nat := Classical.choose (exists_least h)
theorem least_spec {p : Nat → Prop} (h : ∃ n, p n) : p (least h) := (Classical.choose_spec (exists_least h)).1
theorem least_le {p : Nat → Prop} (h : ∃ n, p n) {k : Nat} (hk : p k) : least h ≤ k := (Classical.choose_spec (exists_least h)).2 k hk
theorem wp_loopN {c : Code} {σ : Type} (I : σ → Act → World → Prop) (step : σ → (σ → Option ρ) → Option ρ)
    (hstep : ∀ s (κ : σ → Option ρ), step s κ = some r → ∀ a w, I s a w → c.wp X.P (Exit.then (fun a' w' => ∃ s', κ s' = some r ∧ I s' a' w') Q) a w) (n : Nat) (s : σ) (hr : loopN n step s = some r) (h : I s a w) :
    (Code.loop c).wp X.P Q a w := by
  classical
  let J : Act → World → Prop := fun a w => ∃ n s, loopN n step s = some r ∧ I s a w
  let μ : Act → World → Nat := fun a w => if h : ∃ n, ∃ s, loopN n step s = some r ∧ I s a w then least h else 0
  refine wp_loop J μ ⟨n, s, hr, h⟩ fun a w hJ => ?_
  have hμ : μ a w = least hJ := by simp only [μ]; rw [dif_pos hJ]
  obtain ⟨s', h1, h2⟩ := least_spec hJ
  generalize hm : least hJ = m at h1
  cases m with
  | zero => simp [loopN] at h1
  | succ m =>
    simp only [loopN] at h1
    refine wp_mono (hstep s' _ h1 a w h2) fun e a' w' hp => ?_
    cases e with
    | normal =>
      obtain ⟨s'', g1, g2⟩ := hp
      refine ⟨⟨m, s'', g1, g2⟩, ?_⟩
      have hJ' : ∃ n, ∃ s, loopN n step s = some r ∧ I s a' w' := ⟨m, s'', g1, g2⟩
      have : μ a' w' = least hJ' := by simp only [μ]; rw [dif_pos hJ']
      rw [this, hμ, hm]
      exact Nat.lt_succ_of_le (least_le hJ' ⟨s'', g1, g2⟩)
    | exit id => exact hp
    | ret => exact hp
    | goto l => exact hp
    | panic c => exact hp
    | outgrown => exact hp
/-- a loop over slots told by kinds -/
def mkLoop (pi px : List IP) (L : ipα pi → (ipα px → Option ρ) → Option ρ) : LoopC ρ :=
  { σ := ipα pi, τ := ipα px, projI := ipProj pi, injI := ipInj pi, projX := ipProj px, injX := ipInj px, L := L }
/-- how a round ends -/
def roundK (pi px : List IP) (id : Nat) (kr : St → Option ρ) (kx : ipα px → Option ρ) (κ : ipα pi → Option ρ) : Ex → St → Option ρ
  | .normal, S => (ipProj pi S).bind κ
  | .exit j, S => if j = id then (ipProj px S).bind kx else none
  | .ret, S => kr S
theorem loop_ok (hE : EnvOk X E) {pi px : List IP} {L : ipα pi → (ipα px → Option ρ) → Option ρ} {c : Code} {id : Nat} {kr : St → Option ρ} (hpi : ipOk pi = true) (hpx : ipOk px = true)
    (step : (ipα px → Option ρ) → ipα pi → (ipα pi → Option ρ) → Option ρ) (N : ipα pi → Nat) (hL : ∀ s kx, L s kx = loopN (N s) (step kx) s)
    (hlo : LoopsOk X w0 E.Λ kr c) (hstep : ∀ s kx κ, step kx s κ = ev E c (ipInj pi s) (roundK pi px id kr kx κ)) :
    LoopOk X w0 (mkLoop pi px L) (.loop c) id kr := by
  suffices key : ∀ (s : ipα pi) (kx : ipα px → Option ρ) (r : ρ), L s kx = some r → ∀ a w loc, Sim X w0 (ipInj pi s) a w loc → (Code.block id (.loop c)).wp X.P (fun e a w => match e with
      | .normal => ∃ y loc, kx y = some r ∧ Sim X w0 (ipInj px y) a w loc
      | .ret => Post X w0 kr r a w
      | _ => False) a w from ⟨fun S a w loc s h hs => ip_enter pi hpi h s hs, key⟩
  intro s kx r hr a w loc h
  rw [hL] at hr
  refine wp_block (wp_loopN (fun s a w => ∃ loc, Sim X w0 (ipInj pi s) a w loc) (step kx) (fun s κ hr a w ⟨loc, h⟩ => ?_) (N s) s hr ⟨loc, h⟩)
  rw [hstep] at hr
  refine wp_mono (ev_sound hE kr c hlo _ a w loc h _ rfl r hr) fun e a' w' hp => ?_
  cases e with
  | normal =>
    obtain ⟨S', loc', h1, h2⟩ := hp
    have h1 : (ipProj pi S').bind κ = some r := h1
    cases hs : ipProj pi S' with
    | none => rw [hs] at h1; cases h1
    | some s' =>
      rw [hs] at h1
      simp only [Option.bind_some] at h1
      obtain ⟨loc2, h3⟩ := ip_enter pi hpi h2 s' hs
      exact ⟨s', h1, loc2, h3⟩
  | exit j =>
    obtain ⟨S', loc', h1, h2⟩ := hp
    have h1 : (if j = id then (ipProj px S').bind kx else none) = some r := h1
    split at h1
    · rename_i hj
      cases hs : ipProj px S' with
      | none => rw [hs] at h1; cases h1
      | some y =>
        rw [hs] at h1
        simp only [Option.bind_some] at h1
        obtain ⟨loc2, h3⟩ := ip_enter px hpx h2 y hs
        simp only [Exit.then, Exit.inBlock]
        rw [if_pos hj]
        exact ⟨y, loc2, h1, h3⟩
    · cases h1
  | ret => exact hp
  | goto l => exact hp.elim
  | panic c => exact hp.elim
  | outgrown => exact hp.elim

/-! ### functions -/
/-- the kinds of what is handed over and handed back -/
inductive DP where
  | dyn
  | sc (t : T0)
  | own (C : Cod)
  | arr (C : Cod) (n : Nat)
  | strc (ss : List SP)
@[reducible] def DP.α : DP → Type
  | .dyn => Dyn
  | .sc t => t.α
  | .own C | .arr C _ => List C.α
  | .strc ss => spα ss
def DP.inj : (p : DP) → p.α → D1
  | .dyn, d => .raw d.val
  | .sc t, x => .raw (t.val x)
  | .own C, l => .own C l
  | .arr C n, l => .arr C n l
  | .strc ss, x => .strc (spInj ss x)
def nilSl : Value → Bool
  | .slice none 0 0 => true
  | _ => false
theorem nilSl_eq {v : Value} (h : nilSl v = true) : v = .slice none 0 0 := by
  unfold nilSl at h; split at h
  · rfl
  · cases h
def DP.proj : (p : DP) → D1 → Option p.α
  | .dyn, .raw v => Dyn.dec v
  | .sc t, .raw v => t.dec v
  | .own _, .raw u => if nilSl u then some [] else none
  | .own C, .own C' l => if h : C' = C then some (h ▸ l) else none
  | .arr C n, .arr C' n' l => if h : C' = C then (if n' = n then some (h ▸ l) else none) else none
  | .strc ss, .strc s => spProj ss s
  | _, _ => none
@[reducible] def dpα : List DP → Type
  | [] => Unit
  | p :: r => p.α × dpα r
def dpInj : (ps : List DP) → dpα ps → List D1
  | [], _ => []
  | p :: r, x => p.inj x.1 :: dpInj r x.2
def dpProj : (ps : List DP) → List DV → Option (dpα ps)
  | [], [] => some ()
  | p :: r, .one d :: ds => (p.proj d).bind fun x => (dpProj r ds).bind fun y => some (x, y)
  | _, _ => none
/-- an argument in its slot -/
def D1.arg : D1 → PV
  | .junk => .junk
  | .raw v => .raw v
  | .arr C n l => .arr C n l
  | .strc ss => .strc ss
  | .own C l => .ros C l
/-- one result, or several -/
inductive RP where
  | none
  | one (p : DP)
  | tup (ps : List DP)
@[reducible] def RP.α : RP → Type
  | .none => Unit
  | .one p => p.α
  | .tup ps => dpα ps
def RP.inj : (p : RP) → p.α → DV
  | .none, _ => .tup []
  | .one p, x => .one (p.inj x)
  | .tup ps, x => .tup (dpInj ps x)
/-- the contract of a function whose shallow twin is F -/
def mkFun (pa : List DP) (pr : RP) (F : dpα pa → Option pr.α) : Fun :=
  ⟨fun _ ds k => (dpProj pa ds).bind fun x => (F x).bind fun r => k (pr.inj r), fun _ ds k r h => by
    cases hx : dpProj pa ds with
    | none => rw [hx] at h; cases h
    | some x =>
      rw [hx] at h
      simp only [Option.bind_some] at h
      cases hF : F x with
      | none => rw [hF] at h; cases h
      | some y => exact ⟨pr.inj y, fun k' => by simp only [Option.bind_some, hF]⟩⟩
/-- the slots as a call begins -/
def start (pa : List DP) (n : Nat) (x : dpα pa) : St := (dpInj pa x).map D1.arg ++ List.replicate n .junk
/-- an owned slice that is handed back -/
def retCont (S : St) : PV → Option Cont
  | .alias k => match get S k with
    | .own C l => some ⟨C, l⟩
    | _ => none
  | .view k g off len => match get S k with
    | .own C l => if g = 0 then some ⟨C, (l.drop off).take len⟩ else none
    | .obj ss => match ss[g]? with
      | some (.arr C n l) => if off = 0 ∧ len = n then some ⟨C, l⟩ else some ⟨C, (l.drop off).take len⟩
      | _ => none
    | _ => none
  | _ => none
/-- what one result hands back -/
def retD (E : Env ρ) (S : St) (p : DP) (rv : ResultVar) : Option p.α := match rv with
  | .tmp t => match p with
    | .dyn => match get S t with
      | .raw v => Dyn.dec v
      | _ => none
    | .sc c => match get S t with
      | .raw v => c.dec v
      | _ => none
    | .own C => match get S t with
      | .raw (.slice none 0 0) => some []
      | q => match retCont S (selfAlias (.tmp t) q) with
        | some ⟨C', l⟩ => if h : C' = C then some (h ▸ l) else none
        | none => none
    | .arr C n => match get S t with
      | .arr C' n' l => if h : C' = C then (if n' = n then some (h ▸ l) else none) else none
      | _ => none
    | .strc ss => match get S t with
      | .strc s => spProj ss s
      | _ => none
  | .cell t ty => match E.T ty with
    | none => none
    | some ti => if ti.agg = true then (match p with
      | .arr C n => match get S t with
        | .obj [.arr C' n' l] => if h : C' = C then (if n' = n ∧ ti.size = n * C.sz then some (h ▸ l) else none) else none
        | _ => none
      | .strc sp => match get S t with
        | .obj ss => if ti.size = (ss.map Seg.size).sum then spProj sp ss else none
        | _ => none
      | _ => none) else none
def retL (E : Env ρ) (S : St) : (ps : List DP) → List ResultVar → Option (dpα ps)
  | [], [] => some ()
  | p :: r, v :: vs => (retD E S p v).bind fun x => (retL E S r vs).bind fun y => some (x, y)
  | _, _ => none
def DP.isOwn : DP → Bool
  | .own _ => true
  | _ => false
def retR (E : Env ρ) (rvs : List ResultVar) (S : St) : (pr : RP) → Option pr.α
  | .none => match rvs with
    | [] => some ()
    | _ => none
  | .one p => match rvs with
    | [v] => retD E S p v
    | _ => none
  | .tup ps => if 2 ≤ ps.length ∧ (ps.filter DP.isOwn).length ≤ 1 then retL E S ps rvs else none
/-- how a function ends -/
def endK (E : Env ρ) (rvs : List ResultVar) (pr : RP) : Ex → St → Option pr.α
  | .normal, S => retR E rvs S pr
  | .ret, S => retR E rvs S pr
  | _, _ => none

theorem retCont_ok (h : Sim X w0 S a w loc) {p : PV} {v : Value} {c : Cont} (hc : retCont S p = some c) (hp : Rep X w S a.tmps loc (fun _ => none) p v) (hown : ∀ k, p.ref = some k → (get S k).owns = true) :
    ∃ ℓ, D1Rep w X.Mine (.own c.C c.l) ℓ v ∧ ∀ b o, ℓ = some (b, o) → X.Mine b ∧ b < w.heap.size := by
  cases p with
  | alias k =>
    simp only [retCont] at hc
    split at hc
    · rename_i C l hs
      simp only [Option.some.injEq] at hc; subst hc
      have := alias_val h hp (hown k rfl)
      rw [hs] at this
      exact ⟨loc k 0, this, fun b o hl => ⟨(h.lt k 0 b o hl).2, (h.lt k 0 b o hl).1⟩⟩
    · cases hc
  | view k g off len =>
    have key : ∀ (C : Cod) (l : List C.α), (get S k = .own C l ∧ g = 0 ∨ ∃ ss n, get S k = .obj ss ∧ ss[g]? = some (.arr C n l)) →
        ∃ ℓ, D1Rep w X.Mine (.own C ((l.drop off).take len)) ℓ v ∧ ∀ b o, ℓ = some (b, o) → X.Mine b ∧ b < w.heap.size := fun C l hs => by
      obtain ⟨hle, ad, cap, q1, q2, q3⟩ := view_sl h hp hs
      have hdt := drop_take_length l off len hle
      obtain ⟨base, sz, cnt, e1, e2, e3⟩ := id hp
      rcases e3 with ⟨_, p2, p3⟩ | ⟨b, o2, o3, cap', p1, p2, p3, p4, p5, _⟩
      · exact ⟨none, .inl ⟨rfl, p2, List.eq_nil_of_length_eq_zero (by rw [hdt, p3])⟩, fun b o e => by cases e⟩
      · refine ⟨some (b, o3), .inr ?_, fun b' o' e => by cases e; exact ⟨(h.lt k 0 b o2 p1).2, (h.lt k 0 b o2 p1).1⟩⟩
        have hblk : ∃ cur e' fr, w.heap[b]? = some (.cells cur e' fr) ∧ Harm fr cur.size ∧ sz = C.sz := by
          rcases hs with ⟨hs, rfl⟩ | ⟨ss, n, hs, hg⟩
          · obtain ⟨u, _, _, h3⟩ := opd_get h hs (by simp)
            rw [hs] at e1
            simp only [shp, Option.some.injEq, Prod.mk.injEq] at e1
            rcases h3 with ⟨r4, _⟩ | ⟨b', o4, cp, cur, e, fr, r4, r5, r6, r7, r8, _⟩
            · rw [p1] at r4; cases r4
            · rw [p1] at r4; cases r4; exact ⟨cur, e, fr, r7, r8, e1.2.1.symm⟩
          · obtain ⟨u, _, _, h3⟩ := opd_get h hs (by simp)
            rw [hs] at e1
            simp only [shp, hg, Option.some.injEq, Prod.mk.injEq] at e1
            obtain ⟨b', cur, e, fr, r1, r2, r3, r4, r5, _⟩ := h3
            rw [p1] at r1; cases r1
            exact ⟨cur, e, fr, r4, r5, e1.2.1.symm⟩
        obtain ⟨cur, e', fr, g1, g2, rfl⟩ := hblk
        have hbs : blkSize w b = cur.size := by simp [blkSize, g1]
        refine ⟨b, o3, cap', cur, e', fr, rfl, by rw [hdt]; exact p2, (h.lt k 0 b o2 p1).2, g1, g2, by rw [hdt]; exact p3, by rw [← hbs]; exact p5, ?_⟩
        rcases q3 with q3 | ⟨b3, o4, cur3, e3, fr3, r1, r2, r3, r4⟩
        · rw [q3]; intro m z hm; simp [flat] at hm
        · rw [p2, hdt] at q1; cases q1; cases r1
          rw [g1] at r3; cases r3
          exact r4
    simp only [retCont] at hc
    split at hc
    · rename_i C l hs
      split at hc
      · rename_i hg
        simp only [Option.some.injEq] at hc; subst hc
        exact key C l (.inl ⟨hs, hg⟩)
      · cases hc
    · rename_i ss hs
      split at hc
      · rename_i C n l hg
        have k1 := key C l (.inr ⟨ss, n, hs, hg⟩)
        split at hc
        · rename_i hoff
          obtain ⟨rfl, rfl⟩ := hoff
          simp only [Option.some.injEq] at hc; subst hc
          obtain ⟨u, _, _, h3⟩ := opd_get h hs (by simp)
          obtain ⟨_, _, _, _, _, _, _, _, _, q6, _⟩ := h3
          have hl : l.length = len := q6 _ (List.mem_of_getElem? hg)
          rw [List.drop_zero, List.take_of_length_le (by omega)] at k1
          exact k1
        · simp only [Option.some.injEq] at hc; subst hc; exact k1
      · cases hc
    · cases hc
  | _ => simp [retCont] at hc

/-- one result, read -/
def resComp (tmps : Array Value) : ResultVar → Sem Value
  | .tmp t => pure (tmps.getD t undef)
  | .cell ad t => do loadVar t (← asAddr (tmps.getD ad undef))
theorem retD_ok (hE : EnvOk X E) (h : Sim X w0 S a w loc) {p : DP} {rv : ResultVar} {x : p.α} (hx : retD E S p rv = some x) :
    ∃ u ℓ, (resComp a.tmps rv).run X.P w = .ok u w ∧ D1Rep w X.Mine (p.inj x) ℓ u ∧
      (∀ b o, ℓ = some (b, o) → X.Mine b ∧ b < w.heap.size) ∧ (p.isOwn = false → ℓ = none) := by
  cases rv with
  | tmp t =>
    simp only [retD] at hx
    have hev : a.eval (.tmp t) = a.tmps.getD t undef := rfl
    cases p with
    | sc c =>
      dsimp only at hx
      split at hx
      · rename_i v hv
        have := opd_raw h (x := .tmp t) hv
        exact ⟨_, none, rfl, by rw [← hev, this]; exact (T0.dec_ok hx).symm, (fun b o e => by cases e), fun _ => rfl⟩
      · cases hx
    | own C =>
      dsimp only at hx
      split at hx
      · rename_i hv
        cases hx
        have := opd_raw h (x := .tmp t) hv
        exact ⟨_, none, rfl, .inl ⟨rfl, by rw [← hev, this], rfl⟩, (fun b o e => by cases e), fun _ => rfl⟩
      · split at hx
        · rename_i C' l hc
          split at hx
          · rename_i hC
            subst hC
            simp only [Option.some.injEq] at hx
            subst hx
            have hj : selfAlias (.tmp t) (opd S (.tmp t)) ≠ .junk ∧ (∀ s q, selfAlias (.tmp t) (opd S (.tmp t)) ≠ .iter s q) ∧ (∀ ds, selfAlias (.tmp t) (opd S (.tmp t)) ≠ .tup ds) := by
              have hc' : retCont S (selfAlias (.tmp t) (opd S (.tmp t))) = some ⟨C', l⟩ := hc
              refine ⟨fun e => ?_, fun _ _ e => ?_, fun _ e => ?_⟩ <;> (rw [e] at hc'; simp [retCont] at hc')
            obtain ⟨_, h2, h3⟩ := opd_rep h (x := .tmp t) rfl hj.1 hj.2.1 hj.2.2
            obtain ⟨ℓ, g1, g2⟩ := retCont_ok h hc h2 h3
            exact ⟨_, ℓ, rfl, g1, g2, fun hp => by cases hp⟩
          · cases hx
        · cases hx
    | arr C n =>
      dsimp only at hx
      split at hx
      · rename_i C' n' l hv
        split at hx
        · rename_i hC
          subst hC
          split at hx
          · rename_i hn
            subst hn
            simp only [Option.some.injEq] at hx
            subst hx
            have := copy_rep h (s := t) (by rw [hv]; rfl)
            rw [hv] at this
            exact ⟨_, none, rfl, this, (fun b o e => by cases e), fun _ => rfl⟩
          · cases hx
        · cases hx
      · cases hx
    | dyn =>
      dsimp only at hx
      split at hx
      · rename_i v hv
        have := copy_rep h (s := t) (by rw [hv]; rfl)
        rw [hv] at this
        have hi := Dyn.dec_ok hx
        exact ⟨_, none, rfl, by show D1Rep w X.Mine (.raw x.val) none _; rw [← hi]; exact this, (fun b o e => by cases e), fun _ => rfl⟩
      · cases hx
    | strc ss =>
      dsimp only at hx
      split at hx
      · rename_i s hv
        have := copy_rep h (s := t) (by rw [hv]; rfl)
        rw [hv] at this
        have hi := spProj_ok _ _ _ hx
        exact ⟨_, none, rfl, by show D1Rep w X.Mine (.strc (spInj ss x)) none _; rw [hi]; exact this, (fun b o e => by cases e), fun _ => rfl⟩
      · cases hx
  | cell t ty =>
    simp only [retD] at hx
    split at hx
    · cases hx
    · rename_i ti hti
      split at hx
      · rename_i hag
        cases p with
        | arr C n =>
          dsimp only at hx
          split at hx
          · rename_i C' n' l hv
            split at hx
            · rename_i hC
              subst hC
              split at hx
              · rename_i hn
                obtain ⟨rfl, hn⟩ := hn
                simp only [Option.some.injEq] at hx
                subst hx
                obtain ⟨u, h1, h2, b, cur, e', fr, g1, g2, g3, g4, g5, g6, g7⟩ := opd_get h hv (by simp)
                have hl : l.length = n' := g6 (.arr C' n' l) (by simp)
                refine ⟨.agg (flat C' l).toArray, none, ?_, ⟨hl, rfl⟩, (fun b o e => by cases e), fun _ => rfl⟩
                have := load_row (w := w) (xs := flat C' l) (hE.T ty ti hti) hag g4 (fun j u hj => by rw [g7]; simpa [segCells, Seg.cells] using hj) (by rw [flat_length, hl]; exact hn.symm)
                have hget : a.tmps.getD t undef = .pointer (some ⟨b, 0, none⟩) := by rw [← g2]; simp [h1]
                simp only [resComp, hget, Sem.run_bind, asAddr, Sem.run_pure, Result.andThen_ok]
                simpa [Instr.loadAt, Instr.sureAddr] using this
              · cases hx
            · cases hx
          · cases hx
        | strc sp =>
          dsimp only at hx
          split at hx
          · rename_i ss hv
            split at hx
            · rename_i hn
              have hi := spProj_ok _ _ _ hx
              obtain ⟨u, h1, h2, b, cur, e', fr, g1, g2, g3, g4, g5, g6, g7⟩ := opd_get h hv (by simp)
              refine ⟨.agg (segCells ss).toArray, none, ?_, ?_, (fun b o e => by cases e), fun _ => rfl⟩
              · have := load_row (w := w) (xs := segCells ss) (hE.T ty ti hti) hag g4 (fun j u hj => by rw [g7]; simpa using hj) (by rw [segCells_length ss g6]; exact hn.symm)
                have hget : a.tmps.getD t undef = .pointer (some ⟨b, 0, none⟩) := by rw [← g2]; simp [h1]
                simp only [resComp, hget, Sem.run_bind, asAddr, Sem.run_pure, Result.andThen_ok]
                simpa [Instr.loadAt, Instr.sureAddr] using this
              · show D1Rep w X.Mine (.strc (spInj sp x)) none _
                rw [hi]; exact ⟨g6, rfl⟩
            · cases hx
          · cases hx
        | _ => simp at hx
      · cases hx

theorem retL_ok (hE : EnvOk X E) (h : Sim X w0 S a w loc) : (ps : List DP) → (rvs : List ResultVar) → (x : dpα ps) → retL E S ps rvs = some x →
    ∃ (us : List Value) (ℓ : Nat → Option (Nat × Nat)), (rvs.mapM (resComp a.tmps)).run X.P w = .ok us w ∧ us.length = ps.length ∧ rvs.length = ps.length ∧
      (∀ (j : Nat) d, (dpInj ps x)[j]? = some d → ∃ u, us[j]? = some u ∧ D1Rep w X.Mine d (ℓ j) u) ∧ (∀ j b o, ℓ j = some (b, o) → X.Mine b ∧ b < w.heap.size) ∧ (∀ (j : Nat) p, ps[j]? = some p → p.isOwn = false → ℓ j = none) ∧ (∀ j, ps.length ≤ j → ℓ j = none)
  | [], [], x, hx => ⟨[], fun _ => none, by simp, rfl, rfl, fun j d hj => by simp [dpInj] at hj, (fun j b o e => by cases e), fun _ _ _ _ => rfl, fun _ _ => rfl⟩
  | [], v :: vs, x, hx => by simp [retL] at hx
  | p :: r, [], x, hx => by simp [retL] at hx
  | p :: r, v :: vs, x, hx => by
    simp only [retL] at hx
    cases h1 : retD E S p v with
    | none => rw [h1] at hx; cases hx
    | some y =>
      rw [h1] at hx
      simp only [Option.bind_some] at hx
      cases h2 : retL E S r vs with
      | none => rw [h2] at hx; cases hx
      | some z =>
        rw [h2] at hx
        simp only [Option.bind_some, Option.some.injEq] at hx
        subst hx
        obtain ⟨u, ℓ1, g1, g2, g3, g4⟩ := retD_ok hE h h1
        obtain ⟨us, ℓ, k1, k2, k3, k4, k5, k6, k7⟩ := retL_ok hE h r vs z h2
        refine ⟨u :: us, fun j => match j with | 0 => ℓ1 | j + 1 => ℓ j, ?_, by simp [k2], by simp [k3], ?_, ?_, ?_, ?_⟩
        · rw [List.mapM_cons]
          simp only [Sem.run_bind, g1, Result.andThen_ok, k1, Sem.run_pure]
        · intro j d hj
          cases j with
          | zero => simp [dpInj] at hj; subst hj; exact ⟨u, rfl, g2⟩
          | succ j => simpa using k4 j d (by simpa [dpInj] using hj)
        · intro j b o e
          cases j with
          | zero => exact g3 b o e
          | succ j => exact k5 j b o e
        · intro j q hj hq
          cases j with
          | zero => simp at hj; subst hj; exact g4 hq
          | succ j => exact k6 j q (by simpa using hj) hq
        · intro j hj
          cases j with
          | zero => simp at hj
          | succ j => exact k7 j (by simpa using hj)
theorem own_once : (ps : List DP) → (ps.filter DP.isOwn).length ≤ 1 → ∀ (i j : Nat) p q, ps[i]? = some p → ps[j]? = some q → p.isOwn = true → q.isOwn = true → i = j
  | [], _, i, j, p, q, h1, _, _, _ => by simp at h1
  | a :: r, hc, i, j, p, q, h1, h2, h3, h4 => by
    have hr0 : a.isOwn = true → ∀ (k : Nat) x, r[k]? = some x → x.isOwn = false := fun ha k x hk => by
      rw [List.filter_cons_of_pos ha, List.length_cons] at hc
      have : r.filter DP.isOwn = [] := List.eq_nil_of_length_eq_zero (by omega)
      have hm := List.filter_eq_nil_iff.1 this x (List.mem_of_getElem? hk)
      simpa using hm
    cases i with
    | zero =>
      simp at h1; subst h1
      cases j with
      | zero => rfl
      | succ j => have := hr0 h3 j q (by simpa using h2); rw [this] at h4; cases h4
    | succ i =>
      cases j with
      | zero => simp at h2; subst h2; have := hr0 h4 i p (by simpa using h1); rw [this] at h3; cases h3
      | succ j =>
        have hcr : (r.filter DP.isOwn).length ≤ 1 := by
          refine Nat.le_trans ?_ hc
          cases ha : a.isOwn with
          | true => rw [List.filter_cons_of_pos ha]; simp
          | false => rw [List.filter_cons_of_neg (by rw [ha]; simp)]; exact Nat.le_refl _
        rw [own_once r hcr i j p q (by simpa using h1) (by simpa using h2) h3 h4]
theorem dpInj_length : (ps : List DP) → (x : dpα ps) → (dpInj ps x).length = ps.length
  | [], _ => rfl
  | p :: r, x => by simp [dpInj, dpInj_length r x.2]
theorem dpInj_get : (ps : List DP) → (x : dpα ps) → (i : Nat) → ∀ d, (dpInj ps x)[i]? = some d → ∃ (p : DP) (y : p.α), ps[i]? = some p ∧ d = p.inj y
  | [], _, i, q, h => by simp [dpInj] at h
  | p :: r, x, 0, q, h => by simp [dpInj] at h; exact ⟨p, x.1, rfl, h.symm⟩
  | p :: r, x, i + 1, q, h => by simpa using dpInj_get r x.2 i q (by simpa [dpInj] using h)
theorem DP.inj_owns (p : DP) (x : p.α) : (p.inj x).owns = p.isOwn := by cases p <;> rfl
theorem D1.toPV_owns (d : D1) : d.toPV.owns = d.owns := by cases d <;> rfl
theorem results_run {P : Program} (fn : Func) (tmps : Array Value) (us : List Value) (h : (fn.results.toList.mapM (resComp tmps)).run P w = .ok us w) :
    (results fn tmps).run P w = .ok (if h : us.toArray.size = 1 then us.toArray[0] else .tuple us.toArray) w := by
  have e : results fn tmps = (do
      let vs ← fn.results.mapM (resComp tmps)
      pure (if h : vs.size = 1 then vs[0] else .tuple vs)) := by
    unfold results
    congr 1
  rw [e, Array.mapM_eq_mapM_toList]
  simp only [Sem.run_bind, Sem.run_map, h, Result.andThen_ok, Sem.run_pure]
theorem ResRepP.mono {w : World} {B B' : Nat → Prop} {d : DV} {v : Value} (h : ResRepP w B d v) (hB : ∀ b, B b → B' b) : ResRepP w B' d v := by
  obtain ⟨ℓ, h1, h2, h3, h4⟩ := h
  refine ⟨ℓ, fun j b o hj => ⟨hB _ (h1 j b o hj).1, (h1 j b o hj).2⟩, h2, h3, ?_⟩
  cases d with
  | one d => exact D1Rep.mono h4 hB
  | tup ds =>
    obtain ⟨vs, g1, g2, g3⟩ := h4
    refine ⟨vs, g1, g2, fun j d hj => ?_⟩
    obtain ⟨u, k1, k2⟩ := g3 j d hj
    exact ⟨u, k1, k2.mono hB⟩
theorem retR_ok (hE : EnvOk X E) (h : Sim X w0 S a w loc) (fn : Func) {pr : RP} {x : pr.α} (hx : retR E fn.results.toList S pr = some x) :
    ∃ v, (results fn a.tmps).run X.P w = .ok v w ∧ ResRepP w X.Mine (pr.inj x) v := by
  cases pr with
  | none =>
    simp only [retR] at hx
    split at hx
    · rename_i hr
      refine ⟨.tuple #[], ?_, fun _ => none, (fun _ _ _ e => by cases e), (fun _ _ _ _ _ e => by cases e), fun _ _ => rfl, #[], rfl, rfl, fun j d hj => by simp at hj⟩
      have := results_run (P := X.P) (w := w) fn a.tmps [] (by rw [hr]; simp)
      simpa using this
    · cases hx
  | one p =>
    simp only [retR] at hx
    split at hx
    · rename_i rv hr
      obtain ⟨u, ℓ1, g1, g2, g3, g4⟩ := retD_ok hE h hx
      have := results_run (P := X.P) (w := w) fn a.tmps [u] (by rw [hr, List.mapM_cons]; simp only [Sem.run_bind, g1, Result.andThen_ok, List.mapM_nil, Sem.run_pure])
      refine ⟨u, by simpa using this, fun j => if j = 0 then ℓ1 else none, fun j b o e => ?_, fun j j' b o o' e1 e2 => ?_, fun ho j => ?_, g2⟩
      · have e : (if j = 0 then ℓ1 else none) = some (b, o) := e
        split at e
        · exact g3 b o e
        · cases e
      · have e1 : (if j = 0 then ℓ1 else none) = some (b, o) := e1
        have e2 : (if j' = 0 then ℓ1 else none) = some (b, o') := e2
        split at e1
        · split at e2
          · omega
          · cases e2
        · cases e1
      · show (if j = 0 then ℓ1 else none) = none
        split
        · exact g4 (by
            have : (p.inj x).toPV.owns = false := ho
            rw [D1.toPV_owns, DP.inj_owns] at this; exact this)
        · rfl
    · cases hx
  | tup ps =>
    simp only [retR] at hx
    split at hx
    · rename_i hc
      obtain ⟨us, ℓ, k1, k2, k3, k4, k5, k6, k7⟩ := retL_ok hE h ps fn.results.toList x hx
      have := results_run (P := X.P) (w := w) fn a.tmps us k1
      have hn1 : ¬ us.toArray.size = 1 := by simp [k2]; omega
      rw [dif_neg hn1] at this
      have hsome : ∀ j b o, ℓ j = some (b, o) → ∃ p, ps[j]? = some p ∧ p.isOwn = true := fun j b o e => by
        by_cases hj : j < ps.length
        · refine ⟨ps[j], List.getElem?_eq_getElem hj, ?_⟩
          cases ho : ps[j].isOwn with
          | true => rfl
          | false => rw [k6 j _ (List.getElem?_eq_getElem hj) ho] at e; cases e
        · rw [k7 j (by omega)] at e; cases e
      refine ⟨_, this, ℓ, k5, fun j j' b o o' e1 e2 => ?_, fun ho j => ?_, us.toArray, rfl, by rw [dpInj_length]; simp [k2], fun j d hj => by simpa using k4 j d hj⟩
      · obtain ⟨p, hp1, hp2⟩ := hsome j b o e1
        obtain ⟨q, hq1, hq2⟩ := hsome j' b o' e2
        exact own_once ps hc.2 j j' p q hp1 hq1 hp2 hq2
      · cases hl : ℓ j with
        | none => rfl
        | some bo =>
          exfalso
          obtain ⟨p, hp1, hp2⟩ := hsome j bo.1 bo.2 hl
          have ho : (dpInj ps x).any D1.owns = false := ho
          have hj : j < (dpInj ps x).length := by rw [dpInj_length]; exact (List.getElem?_eq_some_iff.1 hp1).1
          obtain ⟨p', y, hp', he⟩ := dpInj_get ps x j _ (List.getElem?_eq_getElem hj)
          rw [hp1] at hp'; cases hp'
          have := List.any_eq_false.1 ho _ (List.mem_of_getElem? (List.getElem?_eq_getElem hj))
          rw [he, DP.inj_owns, hp2] at this
          exact this rfl
    · cases hx
end
end Go.Px

/- A function's contract, by its evaluation. -/
namespace Go.Px
open Go Go.RowKit

theorem dp_arg (p : DP) (d : D1) (y : p.α) {w : World} {Lo : Nat → Prop} {v : Value} (h : p.proj d = some y) (ha : ArgRepP w Lo d v) : ArgRepP w Lo (p.inj y) v := by
  cases p with
  | sc t =>
    cases d <;> simp only [DP.proj] at h <;> first
      | (cases h; done)
      | (have := T0.dec_ok h
         show v = t.val y
         rw [this]; exact ha)
  | own C =>
    cases d with
    | raw u =>
      simp only [DP.proj] at h
      split at h
      · rename_i hu
        cases h
        have hv : v = .slice none 0 0 := (show v = _ from ha).trans (nilSl_eq hu)
        exact ⟨none, 0, hv, Nat.le_refl _, .inl rfl⟩
      · cases h
    | own C' l =>
      simp only [DP.proj] at h
      split at h
      · rename_i hC; subst hC
        simp only [Option.some.injEq] at h
        subst h; exact ha
      · cases h
    | _ => simp [DP.proj] at h
  | arr C n =>
    cases d with
    | arr C' n' l =>
      simp only [DP.proj] at h
      split at h
      · rename_i hC; subst hC
        split at h
        · rename_i hn; subst hn
          simp only [Option.some.injEq] at h
          subst h; exact ha
        · cases h
      · cases h
    | _ => simp [DP.proj] at h
  | dyn =>
    cases d with
    | raw u =>
      simp only [DP.proj] at h
      show v = y.val
      rw [← Dyn.dec_ok h]; exact ha
    | _ => simp [DP.proj] at h
  | strc ss =>
    cases d with
    | strc s =>
      simp only [DP.proj] at h
      have := spProj_ok _ _ _ h
      show ArgRepP w Lo (.strc (spInj ss y)) v
      rw [this]; exact ha
    | _ => simp [DP.proj] at h
theorem dpProj_ok {w : World} {Lo : Nat → Prop} {vs : Array Value} : (pa : List DP) → (ds : List DV) → (x : dpα pa) → dpProj pa ds = some x → (n : Nat) → (∀ (i : Nat) d, ds[i]? = some d → ∃ d1 v, d = .one d1 ∧ vs[n + i]? = some v ∧ ArgRepP w Lo d1 v) →
    ds.length = pa.length ∧ ∀ (i : Nat) d, (dpInj pa x)[i]? = some d → ∃ v, vs[n + i]? = some v ∧ ArgRepP w Lo d v
  | [], [], x, hx, n, _ => ⟨rfl, fun i d hi => by simp [dpInj] at hi⟩
  | [], d :: ds, x, hx, n, _ => by simp [dpProj] at hx
  | p :: r, [], x, hx, n, _ => by simp [dpProj] at hx
  | p :: r, .tup _ :: ds, x, hx, n, _ => by simp [dpProj] at hx
  | p :: r, .one d :: ds, x, hx, n, hv => by
    simp only [dpProj] at hx
    cases h1 : p.proj d with
    | none => rw [h1] at hx; cases hx
    | some y =>
      rw [h1] at hx
      simp only [Option.bind_some] at hx
      cases h2 : dpProj r ds with
      | none => rw [h2] at hx; cases hx
      | some z =>
        rw [h2] at hx
        simp only [Option.bind_some, Option.some.injEq] at hx
        subst hx
        obtain ⟨g1, g2⟩ := dpProj_ok r ds z h2 (n + 1) (fun i d' hi => by
          have := hv (i + 1) d' (by simpa using hi)
          rwa [show n + (i + 1) = n + 1 + i by omega] at this)
        refine ⟨by simp [g1], fun i d' hi => ?_⟩
        cases i with
        | zero =>
          simp [dpInj] at hi; subst hi
          obtain ⟨d1, v, e1, e2, e3⟩ := hv 0 (.one d) (by simp)
          cases e1
          exact ⟨v, e2, dp_arg p d y h1 e3⟩
        | succ i =>
          have := g2 i d' (by simpa [dpInj] using hi)
          rwa [show n + 1 + i = n + (i + 1) by omega] at this
theorem arg_owns (d : D1) : d.arg.owns = false := by cases d <;> rfl
theorem arg_ref (d : D1) : d.arg.ref = none := by cases d <;> rfl
theorem start_get {pa : List DP} {n : Nat} {x : dpα pa} {i : Nat} {p : PV} (h : (start pa n x)[i]? = some p) : (∃ d, (dpInj pa x)[i]? = some d ∧ p = d.arg) ∨ (pa.length ≤ i ∧ p = .junk) := by
  unfold start at h
  by_cases hi : i < ((dpInj pa x).map D1.arg).length
  · rw [List.getElem?_append_left hi, List.getElem?_map] at h
    cases hd : (dpInj pa x)[i]? with
    | none => rw [hd] at h; cases h
    | some d => rw [hd] at h; exact .inl ⟨d, rfl, by simpa using h.symm⟩
  · rw [List.getElem?_append_right (by omega)] at h
    refine .inr ⟨by simpa [dpInj_length] using hi, ?_⟩
    rw [List.getElem?_replicate] at h
    split at h
    · exact (Option.some.inj h).symm
    · cases h
/-- A FUNCTION: its evaluation is its shallow twin, so that is its contract. -/
theorem fun_ok {P : Program} {G : Nat → Option (List Seg)} {f : FuncId} {fn : Func} {body : Code} {pa : List DP} {pr : RP} (F : dpα pa → Option pr.α) (E : Env pr.α)
    (hf : P.funcs[f]? = some fn) (hb : fn.body = some body) (hE : ∀ X : Cx, X.P = P → X.G = G → EnvOk X E)
    (hlo : ∀ (X : Cx) (w0 : World), X.P = P → X.G = G → LoopsOk X w0 E.Λ (endK E fn.results.toList pr .ret) body)
    (hev : ∀ x, F x = ev E body (start pa (fn.ntmps - pa.length) x) (endK E fn.results.toList pr)) : FunOk P G f (mkFun pa pr F) := by
  intro ρ ds k r hr w vs hg hsz hargs
  have hr : ((dpProj pa ds).bind fun x => (F x).bind fun r => k (pr.inj r)) = some r := hr
  cases hx : dpProj pa ds with
  | none => rw [hx] at hr; cases hr
  | some x =>
    rw [hx] at hr
    simp only [Option.bind_some] at hr
    cases hF : F x with
    | none => rw [hF] at hr; cases hr
    | some y =>
      rw [hF] at hr
      simp only [Option.bind_some] at hr
      obtain ⟨hl, hrep⟩ := dpProj_ok (w := w) (vs := vs) pa ds x hx 0 (fun i d hi => by simpa using hargs i d hi)
      have hvl : vs.size = pa.length := by rw [hsz, hl]
      refine calls_of_wp hf hb ?_
      have hsim : Sim ⟨P, w.heap.size, G, noM⟩ w (start pa (fn.ntmps - pa.length) x) { tmps := vs ++ Array.replicate (fn.ntmps - vs.size) undef, defers := [] } w (fun _ _ => none) := by
        have hgo : ∀ i, (get (start pa (fn.ntmps - pa.length) x) i).owns = false := fun i => by
          cases hs : (start pa (fn.ntmps - pa.length) x)[i]? with
          | none => rw [get_none hs]; rfl
          | some p =>
            rw [get_eq hs]
            rcases start_get hs with ⟨d, _, rfl⟩ | ⟨_, rfl⟩
            · exact arg_owns d
            · rfl
        refine { len := by simp [start, dpInj_length, hvl], defers := rfl, hB := Nat.le_refl _, below := Kept.refl _ _, glob := hg, rep := fun i p hp => ?_, ref := fun i p k hp hk => ?_, sep := fun _ _ _ _ _ _ _ e => (by cases e), dom := fun _ _ _ => rfl, lt := fun _ _ _ _ e => (by cases e), pin := fun b hb => by have := congrFun hb b; simp [noM] at this }
        · rcases start_get hp with ⟨d, hd, rfl⟩ | ⟨hi, rfl⟩
          · obtain ⟨v, hv, ha⟩ := hrep i d hd
            rw [Nat.zero_add] at hv
            refine ⟨v, ?_, ?_⟩
            · show (vs ++ _)[i]? = some v
              rw [Array.getElem?_append_left (Array.getElem?_eq_some_iff.1 hv).1]; exact hv
            · cases d <;> first | exact ha | exact RoRep.mono ha fun b hb => ⟨hb, id⟩
          · have hlt : i < (start pa (fn.ntmps - pa.length) x).length := (List.getElem?_eq_some_iff.1 hp).1
            have : i < (vs ++ Array.replicate (fn.ntmps - vs.size) undef).size := by simpa [start, dpInj_length, hvl] using hlt
            exact ⟨_, Array.getElem?_eq_getElem this, trivial⟩
        · rcases start_get hp with ⟨d, hd, rfl⟩ | ⟨hi, rfl⟩
          · rw [arg_ref] at hk; cases hk
          · cases hk
      rw [hev] at hF
      refine wp_mono (ev_sound (hE _ rfl rfl) (endK E fn.results.toList pr .ret) body (hlo _ w rfl rfl) _ _ w _ hsim _ rfl y hF) fun e a' w' hp => ?_
      have key : Post ⟨P, w.heap.size, G, noM⟩ w (fun S => retR E fn.results.toList S pr) y a' w' → a'.defers = [] ∧ ∃ v, (results fn a'.tmps).run P w' = .ok v w' ∧ ∃ d v', k d = some r ∧ Ending.returned v = .returned v' ∧ Below w.heap.size w w' ∧ ResRep w' w.heap.size d v' := fun hp => by
        obtain ⟨S, loc, h1, h2⟩ := hp
        obtain ⟨v, g1, g2⟩ := retR_ok (hE _ rfl rfl) h2 fn h1
        exact ⟨h2.defers, v, g1, _, v, hr, rfl, h2.below.below, ResRepP.mono g2 fun b hb => hb.resolve_right id⟩
      cases e with
      | normal => exact key hp
      | ret => exact key hp
      | exit id => obtain ⟨S, loc, h1, _⟩ := hp; cases h1
      | goto l => exact hp.elim
      | panic c => exact hp.elim
      | outgrown => exact hp.elim
end Go.Px

/- What the printed certificates are made of. -/
namespace Go.Px
open Go Go.RowKit

/-! ### types -/
def T0.desc : T0 → TypeDesc
  | .int k => .int k
  | .bool => .bool
  | .str => .string
def TI.sc (c : T0) (b : Nat) : TI := ⟨c.desc, 1, b, false, some (.sc c), [.one (c.val (c.dflt))]⟩
def TI.sl (e : TypeId) : TI := ⟨.slice e, 1, 24, false, none, [.one (.slice none 0 0)]⟩
def TI.ar (C : Cod) (n : Nat) (e : TypeId) (b : Nat) : TI := ⟨.array n e, n * C.sz, b, true, none, [.arr C n (List.replicate n C.dflt)]⟩
def onesOf (fs : List T0) : List Seg := fs.map fun c => .one (c.val c.dflt)
def TI.st (d : TypeDesc) (fs : List T0) (b : Nat) : TI := ⟨d, fs.length, b, true, some (.strc fs), onesOf fs⟩
def infoOf (P : Program) (t : TypeId) : Option (Option Value × Nat × Nat) := (P.info? t).map fun i => (i.zero, i.size, i.bytes)
theorem infoOf_ok {P : Program} {t : TypeId} {z : Value} {s b : Nat} (h : infoOf P t = some (some z, s, b)) : ∃ ti, P.info? t = some ti ∧ ti.size = s ∧ ti.bytes = b ∧ ti.zero = some z := by
  unfold infoOf at h
  cases hi : P.info? t with
  | none => rw [hi] at h; cases h
  | some ti =>
    rw [hi] at h
    simp only [Option.map_some, Option.some.injEq, Prod.mk.injEq] at h
    exact ⟨ti, rfl, h.2.1, h.2.2, h.1⟩
theorem oneCell_dflt (c : T0) : (c.val c.dflt).cells = #[c.val c.dflt] := by cases c <;> rfl
theorem tok_sc {P : Program} {t : TypeId} (c : T0) (b : Nat) (h1 : P.underlying t = some c.desc) (h2 : infoOf P t = some (some (c.val c.dflt), 1, b)) : TOk P t (.sc c b) := by
  obtain ⟨ti, g1, g2, g3, g4⟩ := infoOf_ok h2
  refine ⟨h1, ⟨ti, g1, g2, g3, _, g4, ?_⟩, ?_, ?_, rfl, ?_, ?_, fun hh => by cases hh⟩
  · rw [oneCell_dflt]; rfl
  · cases c <;> rfl
  · intro s hs; simp [TI.sc] at hs; subst hs; exact oneCell_dflt c
  · intro c' hc; simp [TI.sc] at hc; subst hc; exact ⟨rfl, rfl, by cases c <;> rfl⟩
  · intro fs hf; simp [TI.sc] at hf
theorem tok_sl {P : Program} {t : TypeId} (e : TypeId) (h1 : P.underlying t = some (.slice e)) (h2 : infoOf P t = some (some (.slice none 0 0), 1, 24)) : TOk P t (.sl e) := by
  obtain ⟨ti, g1, g2, g3, g4⟩ := infoOf_ok h2
  refine ⟨h1, ⟨ti, g1, g2, g3, _, g4, rfl⟩, rfl, ?_, rfl, ?_, ?_, fun hh => by cases hh⟩
  · intro s hs; simp [TI.sl] at hs; subst hs; rfl
  · intro c' hc; simp [TI.sl] at hc
  · intro fs hf; simp [TI.sl] at hf
theorem recVals_len : (fs : List T0) → (x : recα fs) → (recVals fs x).length = fs.length
  | [], _ => rfl
  | a :: r, x => by simp [recVals, recVals_len r x.2]
theorem tok_ar {P : Program} {t : TypeId} {C : Cod} {n : Nat} {e : TypeId} {b : Nat} (h1 : P.underlying t = some (.array n e)) (h2 : infoOf P t = some (some (.agg (flat C (List.replicate n C.dflt)).toArray), n * C.sz, b)) (h4 : P.eqGuardType P.depth t = false) (h5 : P.stoodInHeld t = false) : TOk P t (.ar C n e b) := by
  obtain ⟨ti, g1, g2, g3, g4⟩ := infoOf_ok h2
  refine ⟨h1, ⟨ti, g1, g2, g3, _, g4, ?_⟩, rfl, ?_, ?_, ?_, ?_, fun _ => ⟨h4, h5⟩⟩
  · simp [TI.ar, segCells, Seg.cells, Value.cells]
  · intro s hs; simp [TI.ar] at hs; subst hs; simp [segOk]
  · simp [TI.ar, segCells, Seg.cells, flat_length]
  · intro c' hc; simp [TI.ar] at hc
  · intro fs hf; simp [TI.ar] at hf
theorem tok_st {P : Program} {t : TypeId} {d : TypeDesc} {fs : List T0} {b : Nat} (h1 : P.underlying t = some d) (h2 : infoOf P t = some (some (.agg (fs.map fun c => c.val c.dflt).toArray), fs.length, b)) (h3 : ∃ a, d = .struct a) (h4 : P.eqGuardType P.depth t = false) (h5 : P.stoodInHeld t = false) : TOk P t (.st d fs b) := by
  obtain ⟨ti, g1, g2, g3, g4⟩ := infoOf_ok h2
  have hc : ∀ l : List T0, segCells (onesOf l) = l.map fun c => c.val c.dflt := fun l => by
    induction l with
    | nil => rfl
    | cons a r ih => simp only [onesOf, segCells, List.map_cons, List.flatMap_cons, Seg.cells] at ih ⊢; rw [ih]; rfl
  refine ⟨h1, ⟨ti, g1, g2, g3, _, g4, ?_⟩, ?_, ?_, ?_, ?_, ?_, fun _ => ⟨h4, h5⟩⟩
  · simp only [TI.st]; rw [hc]; rfl
  · obtain ⟨a, rfl⟩ := h3; rfl
  · intro s hs; simp only [TI.st, onesOf, List.mem_map] at hs; obtain ⟨c, _, rfl⟩ := hs; exact oneCell_dflt c
  · simp only [TI.st]; rw [hc]; simp
  · intro c' hc; simp [TI.st] at hc
  · intro fs' hf; simp [TI.st] at hf; subst hf; exact ⟨rfl, rfl⟩
/-- a struct whose fields are numbers, texts and arrays of them -/
def spZero : List SP → List Seg
  | [] => []
  | .one c :: r => .one (c.val c.dflt) :: spZero r
  | .arr C n :: r => .arr C n (List.replicate n C.dflt) :: spZero r
theorem spZero_ok : (l : List SP) → segsOk (spZero l)
  | [] => fun s hs => by cases hs
  | .one c :: r => fun s hs => by
    rcases List.mem_cons.1 hs with rfl | hs
    · exact oneCell_dflt c
    · exact spZero_ok r s hs
  | .arr C n :: r => fun s hs => by
    rcases List.mem_cons.1 hs with rfl | hs
    · exact List.length_replicate
    · exact spZero_ok r s hs
def TI.sx (d : TypeDesc) (l : List SP) (b : Nat) : TI := ⟨d, (segCells (spZero l)).length, b, true, none, spZero l⟩
theorem tok_sx {P : Program} {t : TypeId} {d : TypeDesc} {l : List SP} {b : Nat} (h1 : P.underlying t = some d) (h2 : infoOf P t = some (some (.agg (segCells (spZero l)).toArray), (segCells (spZero l)).length, b)) (h3 : ∃ a, d = .struct a) (h4 : P.eqGuardType P.depth t = false) (h5 : P.stoodInHeld t = false) : TOk P t (.sx d l b) := by
  obtain ⟨ti, g1, g2, g3, g4⟩ := infoOf_ok h2
  refine ⟨h1, ⟨ti, g1, g2, g3, _, g4, rfl⟩, ?_, spZero_ok l, rfl, ?_, ?_, fun _ => ⟨h4, h5⟩⟩
  · obtain ⟨a, rfl⟩ := h3; rfl
  · intro c' hc; simp [TI.sx] at hc
  · intro fs' hf; simp [TI.sx] at hf
/-! ### tables -/
def assoc {α : Type _} : List (Nat × α) → Nat → Option α
  | [], _ => none
  | (k, v) :: r, n => if n = k then some v else assoc r n
def AllP {α : Type _} (p : α → Prop) : List α → Prop
  | [] => True
  | a :: r => p a ∧ AllP p r
theorem assoc_all {α : Type _} {p : Nat → α → Prop} : (l : List (Nat × α)) → AllP (fun x => p x.1 x.2) l → ∀ n v, assoc l n = some v → p n v
  | [], _, n, v, h => by cases h
  | (k, u) :: r, ha, n, v, h => by
    unfold assoc at h
    split at h
    · rename_i hn; subst hn; cases h; exact ha.1
    · exact assoc_all r ha.2 n v h
theorem allP_mem {α : Type _} {p : α → Prop} : {l : List α} → AllP p l → ∀ x ∈ l, p x
  | [], _, x, h => by cases h
  | a :: r, ha, x, h => by
    rcases List.mem_cons.1 h with rfl | h
    · exact ha.1
    · exact allP_mem ha.2 x h
/-- a contract that may be used: the callee is there and has a body -/
def FunUse (P : Program) (G : Nat → Option (List Seg)) (f : FuncId) (F : Fun) : Prop := FunOk P G f F ∧ ∃ fn, P.funcs[f]? = some fn ∧ fn.body.isNone = false ∧ (fn.name == "runtime.NumGoroutine") = false
def FunRUse (P : Program) (G : Nat → Option (List Seg)) (f : FuncId) (F : FunR) : Prop := FunROk P G f F ∧ Callable P f
def FunAUse (P : Program) (G : Nat → Option (List Seg)) (f : FuncId) (F : FunA) : Prop := FunAOk P G f F ∧ Callable P f
def mkEnv (ρ : Type) (T : List (Nat × TI)) (Γ : List (Nat × Fun)) (R : List (Nat × FunR)) (A : List (Nat × FunA)) (G : Nat → Option (List Seg)) (Λ : List (Nat × LoopC ρ)) : Env ρ := { T := assoc T, Γ := assoc Γ, R := assoc R, A := assoc A, G := G, Λ := assoc Λ }
theorem envOk_of {P : Program} {ρ : Type} {T : List (Nat × TI)} {Γ : List (Nat × Fun)} {R : List (Nat × FunR)} {A : List (Nat × FunA)} {G : Nat → Option (List Seg)} {Λ : List (Nat × LoopC ρ)} {X : Cx} (hP : X.P = P) (hG : X.G = G) (hm : P.follows .mixedOrders = true) (hT : AllP (fun x => TOk P x.1 x.2) T) (hΓ : AllP (fun x => FunUse P G x.1 x.2) Γ) (hR : AllP (fun x => FunRUse P G x.1 x.2) R) (hA : AllP (fun x => FunAUse P G x.1 x.2) A) :
    EnvOk X (mkEnv ρ T Γ R A G Λ) := by
  subst hP; subst hG
  exact ⟨fun t i h => assoc_all (p := TOk X.P) T hT t i h, rfl, hm, fun f F h => assoc_all (p := FunUse X.P X.G) Γ hΓ f F h, fun f F h => assoc_all (p := FunRUse X.P X.G) R hR f F h, fun f F h => assoc_all (p := FunAUse X.P X.G) A hA f F h⟩
/-! ### the loops of a code -/
def blkOf : Nat → Code → Option Code
  | id, .seq x y => (blkOf id x).or (blkOf id y)
  | id, .cond _ x y => (blkOf id x).or (blkOf id y)
  | id, .block j c => if j = id then some c else blkOf id c
  | id, .loop c => blkOf id c
  | _, _ => none
def innerOf (id : Nat) (c : Code) : Code := match blkOf id c with
  | some (.loop c) => c
  | _ => .skip
def bodyOf (f : Func) : Code := f.body.getD .skip
def lbs (is : Nat → Bool) : Code → List (Nat × Code)
  | .seq x y => lbs is x ++ lbs is y
  | .cond _ x y => lbs is x ++ lbs is y
  | .block id c => if is id then [(id, c)] else lbs is c
  | _ => []
section
variable {X : Cx} {ρ : Type} {w0 : World}
theorem loopsOk_lbs {Λ : Nat → Option (LoopC ρ)} {kr : St → Option ρ} : (c : Code) → (∀ p ∈ lbs (fun i => (Λ i).isSome) c, ∃ lc, Λ p.1 = some lc ∧ LoopOk X w0 lc p.2 p.1 kr) → LoopsOk X w0 Λ kr c
  | .seq x y, h => ⟨loopsOk_lbs x fun p hp => h p (by simp [lbs, hp]), loopsOk_lbs y fun p hp => h p (by simp [lbs, hp])⟩
  | .cond _ x y, h => ⟨loopsOk_lbs x fun p hp => h p (by simp [lbs, hp]), loopsOk_lbs y fun p hp => h p (by simp [lbs, hp])⟩
  | .block id c, h => by
    unfold LoopsOk
    cases hl : Λ id with
    | none =>
      simp only []
      exact loopsOk_lbs c fun p hp => h p (by simp [lbs, hl, hp])
    | some lc =>
      simp only []
      obtain ⟨lc', g1, g2⟩ := h (id, c) (by simp [lbs, hl])
      rw [hl] at g1; cases g1; exact g2
  | .skip, _ => trivial
  | .region .., _ => trivial
  | .loop _, _ => trivial
  | .exit _, _ => trivial
  | .ret, _ => trivial
  | .scope .., _ => trivial
  | .label .., _ => trivial
  | .goto .., _ => trivial
  | .refuse .., _ => trivial
  | .rangeFunc .., _ => trivial
theorem loopsOk_of {Λ : Nat → Option (LoopC ρ)} {kr : St → Option ρ} {c : Code} (L : List (Nat × Code)) (h : lbs (fun i => (Λ i).isSome) c = L) (ha : AllP (fun p => ∃ lc, Λ p.1 = some lc ∧ LoopOk X w0 lc p.2 p.1 kr) L) : LoopsOk X w0 Λ kr c :=
  loopsOk_lbs c fun p hp => allP_mem ha p (by rw [← h]; exact hp)
end
end Go.Px

/- A law's row, out of its function's contract. -/
namespace Go.Px
open Go Go.RowKit Go.ChangeShapes Go.WideShapes

theorem T0.dec_val (t : T0) (x : t.α) : t.dec (t.val x) = some x := by
  cases t <;> simp [T0.dec, T0.val]
theorem SP.proj_inj (p : SP) (x : p.α) : p.proj (p.inj x) = some x := by
  cases p with
  | one t => exact t.dec_val x
  | arr C n => simp [SP.proj, SP.inj]
theorem spProj_inj : (ps : List SP) → (x : spα ps) → spProj ps (spInj ps x) = some x
  | [], _ => rfl
  | p :: r, x => by simp [spProj, spInj, p.proj_inj, spProj_inj r x.2]
theorem DP.proj_inj (p : DP) (x : p.α) : p.proj (p.inj x) = some x := by
  cases p with
  | dyn => exact Dyn.dec_val x
  | sc t => exact t.dec_val x
  | own C => simp [DP.proj, DP.inj]
  | arr C n => simp [DP.proj, DP.inj]
  | strc ss => exact spProj_inj ss x
theorem dpProj_inj : (ps : List DP) → (x : dpα ps) → dpProj ps ((dpInj ps x).map .one) = some x
  | [], _ => rfl
  | p :: r, x => by simp [dpProj, dpInj, p.proj_inj, dpProj_inj r x.2]
/-- the arguments are what they are told to be -/
def argsOk (w : World) : (pa : List DP) → dpα pa → List Value → Prop
  | [], _, [] => True
  | p :: r, x, v :: vs => ArgRep w (p.inj x.1) v ∧ argsOk w r x.2 vs
  | _, _, _ => False
theorem argsOk_get {w : World} : (pa : List DP) → (x : dpα pa) → (vs : List Value) → argsOk w pa x vs → vs.length = pa.length ∧ ∀ (i : Nat) d, (dpInj pa x)[i]? = some d → ∃ v, vs[i]? = some v ∧ ArgRep w d v
  | [], _, [], _ => ⟨rfl, fun i d h => by simp [dpInj] at h⟩
  | [], _, _ :: _, h => h.elim
  | _ :: _, _, [], h => h.elim
  | p :: r, x, v :: vs, h => by
    obtain ⟨g1, g2⟩ := argsOk_get r x.2 vs h.2
    refine ⟨by simp [g1], fun i d hd => ?_⟩
    cases i with
    | zero => simp [dpInj] at hd; subst hd; exact ⟨v, rfl, h.1⟩
    | succ i => simpa using g2 i d (by simpa [dpInj] using hd)
theorem law_calls {P : Program} {G : Nat → Option (List Seg)} {n : FuncId} {pa : List DP} {F : dpα pa → Option Bool} (hf : FunOk P G n (mkFun pa (.one (.sc .bool)) F)) {w : World} (hG : GOk ⟨P, w.heap.size, G, noM⟩ w) (x : dpα pa) (hx : F x = some true)
    (vs : List Value) (ha : argsOk w pa x vs) : Calls P n vs.toArray w fun e w' => e = .returned (.bool true) ∧ Below w.heap.size w w' := by
  obtain ⟨h1, h2⟩ := argsOk_get pa x vs ha
  let k : DV → Option Bool := fun d => match d with
    | .one (.raw (.bool b)) => if b then some b else none
    | _ => none
  have hrun : (mkFun pa (.one (.sc .bool)) F).run Bool ((dpInj pa x).map .one) k = some true := by
    show ((dpProj pa ((dpInj pa x).map .one)).bind fun x => (F x).bind fun r => k ((RP.one (.sc .bool)).inj r)) = some true
    rw [dpProj_inj]
    simp only [Option.bind_some, hx]
    rfl
  refine (hf Bool _ k true hrun w vs.toArray hG (by simp [h1, dpInj_length]) (fun i d hd => ?_)).mono ?_
  · rw [List.getElem?_map] at hd
    cases hi : (dpInj pa x)[i]? with
    | none => rw [hi] at hd; cases hd
    | some d1 =>
      rw [hi] at hd
      simp only [Option.map_some, Option.some.injEq] at hd
      obtain ⟨v, g1, g2⟩ := h2 i d1 hi
      exact ⟨d1, v, hd.symm, by simpa using g1, g2⟩
  · rintro e w' ⟨d, v, g1, g2, g3, g4⟩
    refine ⟨?_, g3⟩
    have hd : d = .one (.raw (.bool true)) := by
      cases d with
      | tup ds => cases g1
      | one d =>
        cases d with
        | raw u =>
          cases u with
          | bool b => cases b with
            | true => rfl
            | false => cases g1
          | _ => cases g1
        | _ => cases g1
    subst hd
    obtain ⟨ℓ, _, _, _, hd⟩ := g4
    have : v = .bool true := hd
    rw [g2, this]
/-- a slice that came in, by its cells -/
theorem ro_of_cells {w : World} {a : Addr} {t : T0} {l : List t.α} {n cap : Nat} (hl : l.length = n) (hc : n ≤ cap) (h : ∀ i, i < n → w.cell? (a.add i) = some (t.val (l.getD i t.dflt))) :
    RoRep w (· < w.heap.size) (.sc t) l (.slice (some a) n cap) := by
  subst hl
  refine ⟨some a, cap, rfl, hc, ?_⟩
  cases hn : l with
  | nil => exact .inl rfl
  | cons y r =>
    right
    have h0 := h 0 (by simp [hn])
    obtain ⟨b, o, sp⟩ := a
    have hz : (⟨b, o, sp⟩ : Addr).add 0 = ⟨b, o, sp⟩ := by simp [Addr.add]
    rw [hz] at h0
    unfold World.cell? at h0
    split at h0
    · rename_i cur e fr hb
      simp only at hb
      split at h0
      · cases h0
      · rename_i hsp
        have hsp' : sp = none := by cases sp <;> simp_all
        subst hsp'
        have hlt : b < w.heap.size := (Array.getElem?_eq_some_iff.1 hb).1
        refine ⟨b, o, cur, e, fr, rfl, hlt, hb, ?_⟩
        intro j x hj
        rw [flat_sc, List.getElem?_map] at hj
        rw [← hn] at hj
        cases hx : l[j]? with
        | none => rw [hx] at hj; cases hj
        | some z =>
          rw [hx] at hj
          simp only [Option.map_some, Option.some.injEq] at hj
          have hjl := (List.getElem?_eq_some_iff.1 hx).1
          have hcell := h j hjl
          rw [add_lit, cell_of w hb] at hcell
          rw [hcell]
          rw [← hj, List.getD_eq_getElem?_getD, hx]
          rfl
    · cases h0
theorem ro_nil {w : World} {C : Cod} : RoRep w (· < w.heap.size) C [] (.slice none 0 0) := ⟨none, 0, rfl, Nat.le_refl _, .inl rfl⟩
/-- a row's slice of whole numbers: its numbers, and how many there may be -/
theorem arg_ints {H : Type} {enc : TypeId × Value → H} {P : Program} {W : World} {base : Nat} {held : Bool} {t e : TypeId} {k : IntKind} {a : Option Addr} {len cap : Nat} {d : DataW H} {ps : List MemPlace} {ts : List TypeId} {ds : List (DataW H)} {j : Nat}
    (hsz : (DataW.weightsEach P ts ds).all (· ≤ reachBytes) = true) (ht : ts[j]? = some t) (hd : ds[j]? = some d) (hu : P.underlying t = some (.slice e)) (he : P.underlying e = some (.int k)) (hc : P.cellsOf e = 1) {B : Nat} (hB : P.bytesOf e = B)
    (h : DataW.Trod enc P W base (fun _ => true) held t (.slice a len cap) d ps) :
    ∃ zs : List Int, RoRep W (· < W.heap.size) (.sc (.int k)) zs (.slice a len cap) ∧ zs.length * B ≤ 140737488351232 ∧ (∀ n ∈ zs, (Lit.int k n).wf = true) ∧ (zs = [] ∨ ∃ sp, d = .slice (lits k zs) sp) := by
  obtain ⟨fuel, hf⟩ := h
  rcases open_ints hu he hc hf with ⟨hcs, _⟩ | ⟨x, l, c, zs, hcs, _, hl, _, hz, hx, hcell, hwf⟩
  · simp [Value.cells] at hcs
    obtain ⟨rfl, rfl, rfl⟩ := hcs
    exact ⟨[], ro_nil, by simp, (fun n hn => by cases hn), .inl rfl⟩
  · simp [Value.cells] at hcs
    obtain ⟨rfl, rfl, rfl⟩ := hcs
    obtain ⟨hx, _⟩ := Prod.mk.inj hx
    subst hx
    have z := sized_slice hsz ht hd hu
    rw [hB] at z
    have hz' : zs.length = cap := by simpa using hz
    have h1 : (lits (H := H) k (zs.take len)).length + (lits (H := H) k (zs.drop len)).length = zs.length := by
      simp [lits]
      omega
    rw [h1] at z
    refine ⟨zs.take len, ro_of_cells (t := .int k) (by simp; omega) hl (fun i hi => ?_), ?_, (fun n hn => hwf n (List.mem_of_mem_take hn)), .inr ⟨_, rfl⟩⟩
    · rw [hcell i (by omega)]
      show _ = some (Value.int k ((zs.take len).getD i (0 : Int)))
      rw [List.getD_eq_getElem?_getD, List.getD_eq_getElem?_getD, List.getElem?_take_of_lt hi]
    · simp only [List.length_take]
      exact Nat.le_trans (Nat.mul_le_mul_right _ (Nat.min_le_right _ _)) z
/-- a row's slice of texts -/
theorem arg_strs {H : Type} {enc : TypeId × Value → H} {P : Program} {W : World} {base : Nat} {held : Bool} {t e : TypeId} {a : Option Addr} {len cap : Nat} {d : DataW H} {ps : List MemPlace} {ts : List TypeId} {ds : List (DataW H)} {j : Nat}
    (hsz : (DataW.weightsEach P ts ds).all (· ≤ reachBytes) = true) (ht : ts[j]? = some t) (hd : ds[j]? = some d) (hu : P.underlying t = some (.slice e)) (he : P.underlying e = some .string) (hc : P.cellsOf e = 1) {B : Nat} (hB : P.bytesOf e = B)
    (h : DataW.Trod enc P W base (fun _ => true) held t (.slice a len cap) d ps) :
    ∃ zs : List ByteArray, RoRep W (· < W.heap.size) (.sc .str) zs (.slice a len cap) ∧ zs.length * B ≤ 140737488351232 ∧ (zs = [] ∨ ∃ sp, d = .slice (strs zs) sp) := by
  obtain ⟨fuel, hf⟩ := h
  rcases open_strings hu he hc hf with ⟨hcs, _⟩ | ⟨x, l, c, zs, hcs, _, hl, _, hz, hx, hcell, _⟩
  · simp [Value.cells] at hcs
    obtain ⟨rfl, rfl, rfl⟩ := hcs
    exact ⟨[], ro_nil, by simp, .inl rfl⟩
  · simp [Value.cells] at hcs
    obtain ⟨rfl, rfl, rfl⟩ := hcs
    obtain ⟨hx, _⟩ := Prod.mk.inj hx
    subst hx
    have z := sized_slice hsz ht hd hu
    rw [hB] at z
    have hz' : zs.length = cap := by simpa using hz
    have h1 : (strs (H := H) (zs.take len)).length + (strs (H := H) (zs.drop len)).length = zs.length := by
      simp [strs]
      omega
    rw [h1] at z
    refine ⟨zs.take len, ro_of_cells (t := .str) (by simp; omega) hl (fun i hi => ?_), ?_, .inr ⟨_, rfl⟩⟩
    · rw [hcell i (by omega)]
      show _ = some (Value.string ((zs.take len).getD i ByteArray.empty))
      rw [List.getD_eq_getElem?_getD, List.getD_eq_getElem?_getD, List.getElem?_take_of_lt hi]
    · simp only [List.length_take]
      exact Nat.le_trans (Nat.mul_le_mul_right _ (Nat.min_le_right _ _)) z
end Go.Px

/- Package variables, and functions of the library by their contracts. -/
namespace Go.Px
open Go Go.RowKit

/-- a function by a contract that is told elsewhere -/
theorem con_ok {P : Program} {G : Nat → Option (List Seg)} {f : FuncId} {pa : List DP} {pr : RP} (C : dpα pa → Option pr.α)
    (hc : ∀ (x : dpα pa) (y : pr.α), C x = some y → ∀ (w : World) (vs : Array Value), GOk ⟨P, w.heap.size, G, noM⟩ w → vs.size = pa.length → (∀ (i : Nat) d, (dpInj pa x)[i]? = some d → ∃ v, vs[i]? = some v ∧ ArgRep w d v) →
      Calls P f vs w fun e w' => ∃ v, e = .returned v ∧ Below w.heap.size w w' ∧ ResRep w' w.heap.size (pr.inj y) v) : FunOk P G f (mkFun pa pr C) := by
  intro ρ ds k r hr w vs hg hsz hargs
  have hr : ((dpProj pa ds).bind fun x => (C x).bind fun r => k (pr.inj r)) = some r := hr
  cases hx : dpProj pa ds with
  | none => rw [hx] at hr; cases hr
  | some x =>
    rw [hx] at hr
    simp only [Option.bind_some] at hr
    cases hF : C x with
    | none => rw [hF] at hr; cases hr
    | some y =>
      rw [hF] at hr
      simp only [Option.bind_some] at hr
      obtain ⟨hl, hrep⟩ := dpProj_ok (w := w) (vs := vs) pa ds x hx 0 (fun i d hi => by simpa using hargs i d hi)
      refine (hc x y hF w vs hg (by rw [hsz, hl]) (fun i d hi => by simpa using hrep i d hi)).mono ?_
      rintro e w' ⟨v, h1, h2, h3⟩
      exact ⟨_, v, hr, h1, h2, h3⟩

/-! ### unicode/utf8 -/
def gvFirst : List Int := Lib.firstTab
def gvAccept : List (recα [.int .u8, .int .u8]) := (List.range 16).map fun i => ((Lib.accLo i : Int), (Lib.accHi i : Int), ())
def globU8 (g3 g4 : Nat) : Nat → Option (List Seg) := fun g => if g = g3 then some [.arr (.sc (.int .u8)) 256 gvFirst] else if g = g4 then some [.arr (.strc [.int .u8, .int .u8]) 16 gvAccept] else none
theorem heap_of_cell {w : World} {b : Nat} {v : Value} (h : w.cell? ⟨b, 0, none⟩ = some v) : ∃ cur e fr, w.heap[b]? = some (.cells cur e fr) := by
  unfold World.cell? at h
  split at h
  · rename_i cur e fr hb; exact ⟨cur, e, fr, hb⟩
  · cases h
theorem has_tab {w : World} {b n : Nat} {k : IntKind} {l : List Int} {cur : Array Value} {e : TypeId} {fr : Nat × Nat} (hb : w.heap[b]? = some (.cells cur e fr)) (hl : l.length = n) (h : ∀ c, c < n → w.cell? ⟨b, c, none⟩ = some (.int k (l.getD c 0))) : Has cur 0 (segCells [.arr (.sc (.int k)) n l]) := fun j x hj => by
  have e1 : segCells [.arr (.sc (.int k)) n l] = flat (.sc (.int k)) l := by simp [segCells, Seg.cells]
  rw [e1, flat_sc, List.getElem?_map] at hj
  cases hx : l[j]? with
  | none => rw [hx] at hj; cases hj
  | some z =>
    rw [hx] at hj
    simp only [Option.map_some, Option.some.injEq] at hj
    have hjl := (List.getElem?_eq_some_iff.1 hx).1
    have := h j (by omega)
    rw [cell_of w hb, List.getD_eq_getElem?_getD, hx] at this
    rw [Nat.zero_add, this, ← hj]; rfl
theorem globU8_ok {P : Program} {w : World} {g3 g4 : Nat} (hT : Lib.Utf8Tabs g3 g4 w) : GOk ⟨P, w.heap.size, globU8 g3 g4, noM⟩ w := by
  intro g ss hg
  simp only [globU8] at hg
  split at hg
  · rename_i e; subst e; cases hg
    obtain ⟨cur, e, fr, hb⟩ := heap_of_cell (hT.1 0 (by omega))
    refine ⟨⟨(Array.getElem?_eq_some_iff.1 hb).1, id⟩, fun s hs => ?_, cur, e, fr, hb, has_tab hb (by simp [gvFirst, Lib.firstTab]) fun c hc => ?_⟩
    · simp at hs; subst hs; simp [segOk, gvFirst, Lib.firstTab]
    · rw [hT.1 c hc]
      simp [gvFirst, Lib.firstTab, List.getD_eq_getElem?_getD, hc]
  · split at hg
    · rename_i e; subst e; cases hg
      obtain ⟨cur, e, fr, hb⟩ := heap_of_cell (w := w) (b := g) (hT.2 0 (by omega)).1
      have hlen : gvAccept.length = 16 := by simp [gvAccept]
      refine ⟨⟨(Array.getElem?_eq_some_iff.1 hb).1, id⟩, fun s hs => ?_, cur, e, fr, hb, fun j x hj => ?_⟩
      · simp at hs; subst hs; exact hlen
      · have e1 : segCells [.arr (.strc [.int .u8, .int .u8]) 16 gvAccept] = flat (.strc [.int .u8, .int .u8]) gvAccept := by simp [segCells, Seg.cells]
        rw [e1] at hj
        have hjl := (List.getElem?_eq_some_iff.1 hj).1
        rw [flat_length, hlen] at hjl
        have hjl : j < 32 := hjl
        have hfa := flat_at (.strc [.int .u8, .int .u8]) gvAccept (j / 2) (j % 2) (by omega) (show j % 2 < 2 by omega)
        have ej : j / 2 * (Cod.strc [.int .u8, .int .u8]).sz + j % 2 = j := by
          show j / 2 * 2 + j % 2 = j
          omega
        rw [ej, hj] at hfa
        have hg : gvAccept.getD (j / 2) (Cod.strc [.int .u8, .int .u8]).dflt = ((Lib.accLo (j / 2) : Int), (Lib.accHi (j / 2) : Int), ()) := by
          have : j / 2 < 16 := by omega
          simp [gvAccept, List.getD_eq_getElem?_getD, this]
        rw [hg] at hfa
        have hc := hT.2 (j / 2) (by omega)
        rw [Option.some.inj hfa, Nat.zero_add]
        rcases Nat.mod_two_eq_zero_or_one j with h0 | h0
        · have := hc.1
          rw [cell_of w hb, show 2 * (j / 2) = j by omega] at this
          rw [this, h0]; rfl
        · have := hc.2
          rw [cell_of w hb, show 2 * (j / 2) + 1 = j by omega] at this
          rw [this, h0]; rfl
    · cases hg
/-- back to the cells -/
theorem globU8_tabs {P : Program} {w : World} {G : Nat → Option (List Seg)} {g3 g4 : Nat} (hG3 : G g3 = some [.arr (.sc (.int .u8)) 256 gvFirst]) (hG4 : G g4 = some [.arr (.strc [.int .u8, .int .u8]) 16 gvAccept]) (hG : GOk ⟨P, w.heap.size, G, noM⟩ w) : Lib.Utf8Tabs g3 g4 w := by
  obtain ⟨_, o3, c3, _, _, b3, h3⟩ := hG g3 [.arr (.sc (.int .u8)) 256 gvFirst] hG3
  obtain ⟨_, o4, c4, _, _, b4, h4⟩ := hG g4 [.arr (.strc [.int .u8, .int .u8]) 16 gvAccept] hG4
  have hlen : gvAccept.length = 16 := by simp [gvAccept]
  have e1 : segCells [.arr (.strc [.int .u8, .int .u8]) 16 gvAccept] = flat (.strc [.int .u8, .int .u8]) gvAccept := by simp [segCells, Seg.cells]
  have e2 : segCells [.arr (.sc (.int .u8)) 256 gvFirst] = flat (.sc (.int .u8)) gvFirst := by simp [segCells, Seg.cells]
  refine ⟨fun c hc => ?_, fun i hi => ?_⟩
  · rw [cell_of w b3]
    have := h3 c (.int .u8 (Lib.firstT c)) (by rw [e2, flat_sc]; simp [gvFirst, Lib.firstTab, hc]; rfl)
    simpa using this
  · have hg : gvAccept.getD i (Cod.strc [.int .u8, .int .u8]).dflt = ((Lib.accLo i : Int), (Lib.accHi i : Int), ()) := by
      simp [gvAccept, List.getD_eq_getElem?_getD, hi]
    have a0 := flat_at (.strc [.int .u8, .int .u8]) gvAccept i 0 (by omega) (show 0 < 2 by omega)
    have a1 := flat_at (.strc [.int .u8, .int .u8]) gvAccept i 1 (by omega) (show 1 < 2 by omega)
    rw [hg] at a0 a1
    rw [← e1] at a0 a1
    rw [cell_of w b4, cell_of w b4]
    have z0 := h4 _ _ a0
    have z1 := h4 _ _ a1
    rw [show 0 + (i * (Cod.strc [.int .u8, .int .u8]).sz + 0) = 2 * i from (by show 0 + (i * 2 + 0) = 2 * i; omega)] at z0
    rw [show 0 + (i * (Cod.strc [.int .u8, .int .u8]).sz + 1) = 2 * i + 1 from (by show 0 + (i * 2 + 1) = 2 * i + 1; omega)] at z1
    exact ⟨z0, z1⟩
/-- utf8.DecodeRuneInString: what it hands back -/
def conDecode (x : dpα [.sc .str]) : Option (RP.α (.tup [.sc (.int .i32), .sc (.int .i64)])) := some (((Lib.decodeGo x.1).1 : Int), ((Lib.decodeGo x.1).2 : Int), ())
theorem decode_ok {P : Program} {G : Nat → Option (List Seg)} {f g3 g4 : Nat} (hG3 : G g3 = some [.arr (.sc (.int .u8)) 256 gvFirst]) (hG4 : G g4 = some [.arr (.strc [.int .u8, .int .u8]) 16 gvAccept])
    (hc : ∀ (s : ByteArray) (w : World), Lib.Utf8Tabs g3 g4 w → Calls P f #[.string s] w fun e w' => e = .returned (.tuple #[.int .i32 (Lib.decodeGo s).1, .int .i64 (Lib.decodeGo s).2]) ∧ Below w.heap.size w w') :
    FunOk P G f (mkFun [.sc .str] (.tup [.sc (.int .i32), .sc (.int .i64)]) conDecode) := by
  refine con_ok conDecode fun x y hy w vs hG hsz ha => ?_
  obtain ⟨v, hv, hr⟩ := ha 0 (.raw (.string x.1)) rfl
  have hr : v = .string x.1 := hr
  subst hr
  have hvs : vs = #[.string x.1] := by
    apply Array.ext_getElem?
    intro i
    cases i with
    | zero => rw [hv]; rfl
    | succ i => rw [Array.getElem?_eq_none (by rw [hsz]; simp), Array.getElem?_eq_none (by simp)]
  subst hvs
  cases hy
  refine (hc x.1 w (globU8_tabs hG3 hG4 hG)).mono ?_
  rintro e w' ⟨rfl, hb⟩
  refine ⟨_, rfl, hb, fun _ => none, (fun _ _ _ h => by cases h), (fun _ _ _ _ _ h => by cases h), (fun _ _ => rfl), #[.int .i32 (Lib.decodeGo x.1).1, .int .i64 (Lib.decodeGo x.1).2], rfl, rfl, fun j d hd => ?_⟩
  match j with
  | 0 => cases hd; exact ⟨_, rfl, rfl⟩
  | 1 => cases hd; exact ⟨_, rfl, rfl⟩
  | j + 2 => cases hd
end Go.Px

/- Tables of the package variables, as lists. -/
namespace Go.Px
open Go Go.RowKit

def GEnt (w : World) (x : Nat × List Seg) : Prop := x.1 < w.heap.size ∧ segsOk x.2 ∧ ∃ cur e fr, w.heap[x.1]? = some (.cells cur e fr) ∧ Has cur 0 (segCells x.2)
theorem gok_of {P : Program} {w : World} {l : List (Nat × List Seg)} (h : AllP (GEnt w) l) : GOk ⟨P, w.heap.size, assoc l, noM⟩ w := fun g ss hg => by
  have := assoc_all (p := fun n v => GEnt w (n, v)) l h g ss hg
  exact ⟨⟨this.1, id⟩, this.2⟩
theorem gent_tab {P : Program} {w : World} {name : String} {g n : Nat} {k : IntKind} {zs : List Int} (hn : P.globalNamed name = some g) (hl : zs.length = n) (h : Lib.TabIs P w name k zs) : GEnt w (g, [.arr (.sc (.int k)) n zs]) := by
  unfold Lib.TabIs World.var? at h
  rw [hn] at h
  simp only [Option.bind_some] at h
  split at h
  · rename_i cs e fr hb
    cases h
    refine ⟨(Array.getElem?_eq_some_iff.1 hb).1, fun s hs => ?_, _, e, fr, hb, fun j x hj => ?_⟩
    · simp at hs; subst hs; exact hl
    · have e1 : segCells [.arr (.sc (.int k)) n zs] = flat (.sc (.int k)) zs := by simp [segCells, Seg.cells]
      rw [e1, flat_sc] at hj
      rw [Nat.zero_add, List.getElem?_toArray]
      exact hj
  · cases h
theorem gent_u8 {P : Program} {w : World} {g3 g4 : Nat} (hne : g4 ≠ g3) (hT : Lib.Utf8Tabs g3 g4 w) : GEnt w (g3, [.arr (.sc (.int .u8)) 256 gvFirst]) ∧ GEnt w (g4, [.arr (.strc [.int .u8, .int .u8]) 16 gvAccept]) := by
  have h := globU8_ok (P := P) hT
  constructor
  · obtain ⟨h1, h2⟩ := h g3 [.arr (.sc (.int .u8)) 256 gvFirst] (by simp [globU8])
    exact ⟨h1.1, h2⟩
  · obtain ⟨h1, h2⟩ := h g4 [.arr (.strc [.int .u8, .int .u8]) 16 gvAccept] (by simp [globU8, hne])
    exact ⟨h1.1, h2⟩
theorem tabIs_of_reads {P : Program} {W : World} {name : String} {k : IntKind} {zs : List Int} {g : Nat} {t e : TypeId} {n : Nat}
    (hg : P.globalNamed name = some g) (hty : (P.globals[g]?).map (·.type) = some t) (ht : P.underlying t = some (.array n e)) (he : P.underlying e = some (.int k)) (hce : P.cellsOf e = 1) (hct : P.cellsOf t = n)
    (h : Lib.VarReads P W name (Lib.tabData k zs)) : Lib.TabIs P W name k zs := by
  obtain ⟨g', t', cs, fuel, p, hg', ht', hvar, hd⟩ := h
  obtain rfl := Option.some.inj (hg.symm.trans hg')
  obtain rfl := Option.some.inj (hty.symm.trans ht')
  unfold Lib.TabIs
  rw [hvar, ← Lib.cells_of_tab ht he hce hct hd]
/-- digest.first, digest.parts -/
def gv_dfirst : List Int := [1779033703, 3144134277, 1013904242, 2773480762, 1359893119, 2600822924, 528734635, 1541459225]
def gv_dparts : List Int := [1116352408, 1899447441, 3049323471, 3921009573, 961987163, 1508970993, 2453635748, 2870763221, 3624381080, 310598401, 607225278, 1426881987, 1925078388, 2162078206, 2614888103, 3248222580, 3835390401, 4022224774, 264347078, 604807628, 770255983, 1249150122, 1555081692, 1996064986, 2554220882, 2821834349, 2952996808, 3210313671, 3336571891, 3584528711, 113926993, 338241895, 666307205, 773529912, 1294757372, 1396182291, 1695183700, 1986661051, 2177026350, 2456956037, 2730485921, 2820302411, 3259730800, 3345764771, 3516065817, 3600352804, 4094571909, 275423344, 430227734, 506948616, 659060556, 883997877, 958139571, 1322822218, 1537002063, 1747873779, 1955562222, 2024104815, 2227730452, 2361852424, 2428436474, 2756734187, 3204031479, 3329325298]
end Go.Px

/- A function that is handed one variable to write: its contract, by its evaluation. -/
namespace Go.Px
open Go Go.RowKit

def mkFunR (sp : List SP) (pa : List DP) (F : spα sp × dpα pa → Option (spα sp)) : FunR :=
  ⟨fun _ ss ds k => (spProj sp ss).bind fun x => (dpProj pa ds).bind fun y => (F (x, y)).bind fun z => k (spInj sp z) (.tup [])⟩
def startR (sp : List SP) (pa : List DP) (n : Nat) (x : spα sp × dpα pa) : St := .obj (spInj sp x.1) :: ((dpInj pa x.2).map D1.arg ++ List.replicate n .junk)
def endR (rvs : List ResultVar) (sp : List SP) : Ex → St → Option (spα sp)
  | .normal, S | .ret, S => match rvs with
    | [] => match get S 0 with
      | .obj ss => spProj sp ss
      | _ => none
    | _ => none
  | _, _ => none
theorem spInj_kind : (sp : List SP) → (x y : spα sp) → (spInj sp x).map Seg.kind = (spInj sp y).map Seg.kind
  | [], _, _ => rfl
  | p :: r, x, y => by
    simp only [spInj, List.map_cons, spInj_kind r x.2 y.2]
    cases p <;> rfl
theorem funR_ok {P : Program} {G : Nat → Option (List Seg)} {f : FuncId} {fn : Func} {body : Code} {sp : List SP} {pa : List DP} (F : spα sp × dpα pa → Option (spα sp)) (E : Env (spα sp))
    (hf : P.funcs[f]? = some fn) (hb : fn.body = some body) (hE : ∀ X : Cx, X.P = P → X.G = G → EnvOk X E)
    (hlo : ∀ (X : Cx) (w0 : World), X.P = P → X.G = G → LoopsOk X w0 E.Λ (endR fn.results.toList sp .ret) body)
    (hev : ∀ x, F x = ev E body (startR sp pa (fn.ntmps - (pa.length + 1)) x) (endR fn.results.toList sp)) : FunROk P G f (mkFunR sp pa F) := by
  intro ρ ss ds k r hr w vs b cur e fr hg hsz hv0 hb4 hharm hok hcur hargs
  have hr : ((spProj sp ss).bind fun x => (dpProj pa ds).bind fun y => (F (x, y)).bind fun z => k (spInj sp z) (.tup [])) = some r := hr
  cases hx : spProj sp ss with
  | none => rw [hx] at hr; cases hr
  | some x =>
    rw [hx] at hr
    simp only [Option.bind_some] at hr
    cases hy : dpProj pa ds with
    | none => rw [hy] at hr; cases hr
    | some y =>
      rw [hy] at hr
      simp only [Option.bind_some] at hr
      cases hF : F (x, y) with
      | none => rw [hF] at hr; cases hr
      | some z =>
        rw [hF] at hr
        simp only [Option.bind_some] at hr
        have hss := spProj_ok _ _ _ hx
        obtain ⟨hl, hrep⟩ := dpProj_ok (w := w) (vs := vs) pa ds y hy 1 (fun i d hi => by
          have := hargs i d hi
          rwa [show i + 1 = 1 + i by omega] at this)
        have hvl : vs.size = pa.length + 1 := by rw [hsz, hl]
        refine calls_of_wp hf hb ?_
        let loc0 : Nat → Nat → Option (Nat × Nat) := fun i j => if i = 0 ∧ j = 0 then some (b, 0) else none
        have hsim : Sim ⟨P, w.heap.size, G, (· = b)⟩ w (startR sp pa (fn.ntmps - (pa.length + 1)) (x, y)) { tmps := vs ++ Array.replicate (fn.ntmps - vs.size) undef, defers := [] } w loc0 := by
          have hcons : ∀ i, (startR sp pa (fn.ntmps - (pa.length + 1)) (x, y))[i + 1]? = (start pa (fn.ntmps - (pa.length + 1)) y)[i]? := fun i => rfl
          have hgo : ∀ i, (get (startR sp pa (fn.ntmps - (pa.length + 1)) (x, y)) (i + 1)).owns = false := fun i => by
            cases hs : (startR sp pa (fn.ntmps - (pa.length + 1)) (x, y))[i + 1]? with
            | none => rw [get_none hs]; rfl
            | some p =>
              rw [get_eq hs]
              rw [hcons] at hs
              rcases start_get hs with ⟨d, _, rfl⟩ | ⟨_, rfl⟩
              · exact arg_owns d
              · rfl
          have hloc : ∀ i j b' o, loc0 i j = some (b', o) → i = 0 ∧ j = 0 ∧ b' = b ∧ o = 0 := fun i j b' o h => by
            simp only [loc0] at h
            split at h
            · rename_i hij; cases h; exact ⟨hij.1, hij.2, rfl, rfl⟩
            · cases h
          refine { len := by simp [startR, dpInj_length, hvl]; omega, defers := rfl, hB := Nat.le_refl _, below := Kept.refl _ _, glob := hg, rep := fun i p hp => ?_, ref := fun i p k hp hk => ?_, sep := fun i j i' j' b' o o' h1 h2 => ?_, dom := fun i ho j => ?_, lt := fun i j b' o h => ?_, pin := fun b' hb' => ?_ }
          · cases i with
            | zero =>
              cases hp
              refine ⟨_, ?_, ⟨b, cur, e, fr, by simp [loc0], rfl, .inr rfl, hb4, hharm, by rw [hss]; exact hok, by rw [hss]; exact hcur⟩⟩
              show (vs ++ _)[0]? = some _
              rw [Array.getElem?_append_left (Array.getElem?_eq_some_iff.1 hv0).1]; exact hv0
            | succ i =>
              have hlt : i + 1 < (startR sp pa (fn.ntmps - (pa.length + 1)) (x, y)).length := (List.getElem?_eq_some_iff.1 hp).1
              rw [hcons] at hp
              have hl0 : loc0 (i + 1) = fun _ => none := by funext j; simp [loc0]
              rcases start_get hp with ⟨d, hd, rfl⟩ | ⟨hi, rfl⟩
              · obtain ⟨v, hv, ha⟩ := hrep i d hd
                rw [show 1 + i = i + 1 by omega] at hv
                refine ⟨v, ?_, ?_⟩
                · show (vs ++ _)[i + 1]? = some v
                  rw [Array.getElem?_append_left (Array.getElem?_eq_some_iff.1 hv).1]; exact hv
                · rw [hl0]
                  cases d <;> first | exact ha | exact RoRep.mono ha fun b hb => hb
              · have : i + 1 < (vs ++ Array.replicate (fn.ntmps - vs.size) undef).size := by
                  simp [startR, dpInj_length] at hlt
                  simp [hvl]; omega
                exact ⟨_, Array.getElem?_eq_getElem this, trivial⟩
          · cases i with
            | zero => cases hp; cases hk
            | succ i =>
              rw [hcons] at hp
              rcases start_get hp with ⟨d, hd, rfl⟩ | ⟨hi, rfl⟩
              · rw [arg_ref] at hk; cases hk
              · cases hk
          · obtain ⟨rfl, rfl, _⟩ := hloc _ _ _ _ h1
            obtain ⟨rfl, rfl, _⟩ := hloc _ _ _ _ h2
            exact ⟨rfl, rfl⟩
          · cases i with
            | zero => cases ho
            | succ i => simp [loc0]
          · obtain ⟨_, _, rfl, _⟩ := hloc _ _ _ _ h
            exact ⟨(Array.getElem?_eq_some_iff.1 hb4).1, .inr rfl⟩
          · have hb' : b' = b := by have := congrFun hb' b'; simpa using this
            subst hb'
            exact ⟨rfl, by simp [loc0]⟩
        rw [hev] at hF
        refine wp_mono (ev_sound (hE _ rfl rfl) (endR fn.results.toList sp .ret) body (hlo _ w rfl rfl) _ _ w _ hsim _ rfl z hF) fun en a' w' hp => ?_
        have key : Post ⟨P, w.heap.size, G, (· = b)⟩ w (fun S => endR fn.results.toList sp .ret S) z a' w' → a'.defers = [] ∧ ∃ v, (results fn a'.tmps).run P w' = .ok v w' ∧ ∃ ss' d v', k ss' d = some r ∧ Ending.returned v = .returned v' ∧ Kept ⟨P, w.heap.size, G, (· = b)⟩ w w' ∧
            (∃ cur' e' fr', w'.heap[b]? = some (.cells cur' e' fr') ∧ Harm fr' cur'.size ∧ cur' = (segCells ss').toArray) ∧ segsOk ss' ∧ ss'.map Seg.kind = ss.map Seg.kind ∧ ResRep w' w.heap.size d v' := fun hp => by
          obtain ⟨S, loc, h1, h2⟩ := hp
          simp only [endR] at h1
          split at h1
          · rename_i hres
            split at h1
            · rename_i ss' hs'
              have hz := spProj_ok _ _ _ h1
              obtain ⟨v, hv, hrep⟩ := h2.rep 0 _ (get_of_ne (i := 0) (S := S) (by rw [hs']; simp))
              rw [hs'] at hrep
              obtain ⟨b', cur', e', fr', m1, m2, m3, m4, m5, m6, m7⟩ := hrep
              have hpin := (h2.pin b rfl).2
              rw [m1] at hpin
              cases hpin
              have hrun := results_run (P := P) (w := w') fn a'.tmps [] (by rw [hres]; simp)
              refine ⟨h2.defers, .tuple #[], by simpa using hrun, spInj sp z, .tup [], _, hr, rfl, h2.below, ⟨cur', e', fr', m4, m5, by rw [hz]; exact m7⟩, by rw [hz]; exact m6, by rw [← hss]; exact spInj_kind sp z x, ?_⟩
              exact ⟨fun _ => none, (fun _ _ _ e => by cases e), (fun _ _ _ _ _ e => by cases e), fun _ _ => rfl, #[], rfl, rfl, fun j d hj => by simp at hj⟩
            · cases h1
          · cases h1
        cases en with
        | normal => exact key hp
        | ret => exact key hp
        | exit id => obtain ⟨S, loc, h1, _⟩ := hp; cases h1
        | goto l => exact hp.elim
        | panic c => exact hp.elim
        | outgrown => exact hp.elim
end Go.Px

/- A function that is handed a slice to use up: its contract, by its evaluation. -/
namespace Go.Px
open Go Go.RowKit

def mkFunA (C : Cod) (pa : List DP) (pr : RP) (F : List C.α × dpα pa → Option pr.α) : FunA :=
  ⟨fun _ c ds k => if h : c.C = C then (dpProj pa ds).bind fun y => (F (h ▸ c.l, y)).bind fun z => k (pr.inj z) else none⟩
def startA (C : Cod) (pa : List DP) (n : Nat) (x : List C.α × dpα pa) : St := .own C x.1 :: ((dpInj pa x.2).map D1.arg ++ List.replicate n .junk)
theorem funA_ok {P : Program} {G : Nat → Option (List Seg)} {f : FuncId} {fn : Func} {body : Code} {C : Cod} {pa : List DP} {pr : RP} (F : List C.α × dpα pa → Option pr.α) (E : Env pr.α)
    (hf : P.funcs[f]? = some fn) (hb : fn.body = some body) (hE : ∀ X : Cx, X.P = P → X.G = G → EnvOk X E)
    (hlo : ∀ (X : Cx) (w0 : World), X.P = P → X.G = G → LoopsOk X w0 E.Λ (endK E fn.results.toList pr .ret) body)
    (hev : ∀ x, F x = ev E body (startA C pa (fn.ntmps - (pa.length + 1)) x) (endK E fn.results.toList pr)) : FunAOk P G f (mkFunA C pa pr F) := by
  intro ρ c ds k r hr w vs ℓ v0 hg hsz hv0 hown hargs
  obtain ⟨C', l⟩ := c
  have hr : (if h : C' = C then (dpProj pa ds).bind fun y => (F (h ▸ l, y)).bind fun z => k (pr.inj z) else none) = some r := hr
  split at hr
  · rename_i hC
    subst hC
    cases hy : dpProj pa ds with
    | none => rw [hy] at hr; cases hr
    | some y =>
      rw [hy] at hr
      simp only [Option.bind_some] at hr
      cases hF : F (l, y) with
      | none => rw [hF] at hr; cases hr
      | some z =>
        rw [hF] at hr
        simp only [Option.bind_some] at hr
        obtain ⟨hl, hrep⟩ := dpProj_ok (w := w) (vs := vs) pa ds y hy 1 (fun i d hi => by
          have := hargs i d hi
          rwa [show i + 1 = 1 + i by omega] at this)
        have hvl : vs.size = pa.length + 1 := by rw [hsz, hl]
        refine calls_of_wp hf hb ?_
        let loc0 : Nat → Nat → Option (Nat × Nat) := fun i j => if i = 0 ∧ j = 0 then ℓ else none
        have hsim : Sim ⟨P, w.heap.size, G, usedM w.heap.size ℓ⟩ w (startA C' pa (fn.ntmps - (pa.length + 1)) (l, y)) { tmps := vs ++ Array.replicate (fn.ntmps - vs.size) undef, defers := [] } w loc0 := by
          have hcons : ∀ i, (startA C' pa (fn.ntmps - (pa.length + 1)) (l, y))[i + 1]? = (start pa (fn.ntmps - (pa.length + 1)) y)[i]? := fun i => rfl
          have hloc : ∀ i j b' o, loc0 i j = some (b', o) → i = 0 ∧ j = 0 ∧ ℓ = some (b', o) := fun i j b' o h => by
            simp only [loc0] at h
            split at h
            · rename_i hij; exact ⟨hij.1, hij.2, h⟩
            · cases h
          have hlb : ∀ b o, ℓ = some (b, o) → b < w.heap.size := fun b o e => by
            rcases hown with hown | ⟨b', o', cap, cur, e', fr, k1, _, _, k4, _⟩
            · rw [hown.1] at e; cases e
            · rw [k1] at e; cases e
              exact (Array.getElem?_eq_some_iff.1 k4).1
          refine { len := by simp [startA, dpInj_length, hvl]; omega, defers := rfl, hB := Nat.le_refl _, below := Kept.refl _ _, glob := hg, rep := fun i p hp => ?_, ref := fun i p k hp hk => ?_, sep := fun i j i' j' b' o o' h1 h2 => ?_, dom := fun i ho j => ?_, lt := fun i j b' o h => ?_, pin := fun b' hb' => ?_ }
          · cases i with
            | zero =>
              cases hp
              refine ⟨v0, ?_, ?_⟩
              · show (vs ++ _)[0]? = some _
                rw [Array.getElem?_append_left (Array.getElem?_eq_some_iff.1 hv0).1]; exact hv0
              · show OwnRep w _ C' l (loc0 0 0) v0
                have e : loc0 0 0 = ℓ := by simp [loc0]
                rw [e]
                rcases hown with hown | ⟨b', o', cap, cur, e', fr, k1, k2, k3, k4⟩
                · exact .inl hown
                · exact .inr ⟨b', o', cap, cur, e', fr, k1, k2, .inr k3, k4⟩
            | succ i =>
              have hlt : i + 1 < (startA C' pa (fn.ntmps - (pa.length + 1)) (l, y)).length := (List.getElem?_eq_some_iff.1 hp).1
              rw [hcons] at hp
              have hl0 : loc0 (i + 1) = fun _ => none := by funext j; simp [loc0]
              rcases start_get hp with ⟨d, hd, rfl⟩ | ⟨hi, rfl⟩
              · obtain ⟨v, hv, ha⟩ := hrep i d hd
                rw [show 1 + i = i + 1 by omega] at hv
                refine ⟨v, ?_, ?_⟩
                · show (vs ++ _)[i + 1]? = some v
                  rw [Array.getElem?_append_left (Array.getElem?_eq_some_iff.1 hv).1]; exact hv
                · rw [hl0]
                  cases d <;> first | exact ha | exact RoRep.mono ha fun b hb => hb
              · have : i + 1 < (vs ++ Array.replicate (fn.ntmps - vs.size) undef).size := by
                  simp [startA, dpInj_length] at hlt
                  simp [hvl]; omega
                exact ⟨_, Array.getElem?_eq_getElem this, trivial⟩
          · cases i with
            | zero => cases hp; cases hk
            | succ i =>
              rw [hcons] at hp
              rcases start_get hp with ⟨d, hd, rfl⟩ | ⟨hi, rfl⟩
              · rw [arg_ref] at hk; cases hk
              · cases hk
          · obtain ⟨rfl, rfl, _⟩ := hloc _ _ _ _ h1
            obtain ⟨rfl, rfl, _⟩ := hloc _ _ _ _ h2
            exact ⟨rfl, rfl⟩
          · cases i with
            | zero => cases ho
            | succ i => simp [loc0]
          · obtain ⟨_, _, h⟩ := hloc _ _ _ _ h
            exact ⟨hlb _ _ h, .inr (.inr ⟨o, h⟩)⟩
          · have e1 := congrFun hb' w.heap.size
            have e2 := congrFun hb' (w.heap.size + 1)
            simp only [usedM] at e1 e2
            have h1 : w.heap.size = b' := by rw [← e1]; exact .inl (Nat.le_refl _)
            have h2 : w.heap.size + 1 = b' := by rw [← e2]; exact .inl (by omega)
            omega
        rw [hev] at hF
        refine wp_mono (ev_sound (hE _ rfl rfl) (endK E fn.results.toList pr .ret) body (hlo _ w rfl rfl) _ _ w _ hsim _ rfl z hF) fun en a' w' hp => ?_
        have key : Post ⟨P, w.heap.size, G, usedM w.heap.size ℓ⟩ w (fun S => retR E fn.results.toList S pr) z a' w' → a'.defers = [] ∧ ∃ v, (results fn a'.tmps).run P w' = .ok v w' ∧ ∃ d v', k d = some r ∧ Ending.returned v = .returned v' ∧ Kept ⟨P, w.heap.size, G, usedM w.heap.size ℓ⟩ w w' ∧ ResRepP w' (usedM w.heap.size ℓ) d v' := fun hp => by
          obtain ⟨S, loc, h1, h2⟩ := hp
          obtain ⟨v, g1, g2⟩ := retR_ok (hE _ rfl rfl) h2 fn h1
          exact ⟨h2.defers, v, g1, _, v, hr, rfl, h2.below, ResRepP.mono g2 fun b hb => hb.elim .inl id⟩
        cases en with
        | normal => exact key hp
        | ret => exact key hp
        | exit id => obtain ⟨S, loc, h1, _⟩ := hp; cases h1
        | goto l => exact hp.elim
        | panic c => exact hp.elim
        | outgrown => exact hp.elim
  · cases hr
end Go.Px

/- A row's parameter that is a struct of plain cells and of arrays of plain cells. -/
namespace Go.Px
open Go Go.RowKit Go.ChangeShapes Go.WideShapes

def t0B (P : Program) (t : TypeId) : T0 → Bool
  | .int k => match P.underlying t with
    | some (.int k') => decide (k' = k)
    | _ => false
  | .bool => match P.underlying t with
    | some .bool => true
    | _ => false
  | .str => match P.underlying t with
    | some .string => true
    | _ => false
def SP.wid : SP → Nat
  | .one _ => 1
  | .arr _ n => n
def spB (P : Program) (t : TypeId) : SP → Bool
  | .one t0 => t0B P t t0 && P.cellsOf t == 1
  | .arr (.sc t0) n => match P.underlying t with
    | some (.array m e) => m == n && t0B P e t0 && P.cellsOf e == 1 && P.cellsOf t == n
    | _ => false
  | .arr (.strc _) _ => false
def layB (P : Program) (tot : Nat) : List SP → List Field → Nat → Bool
  | [], [], off => off == tot
  | p :: ps, f :: fs, off => f.offset == off && spB P f.type p && layB P tot ps fs (off + p.wid)
  | _, _, _ => false
def T0.wfv : (t : T0) → t.α → Prop
  | .int k, n => (Lit.int k n).wf = true
  | .bool, _ => True
  | .str, s => s.size ≤ maxLen
def SP.wfv : (p : SP) → p.α → Prop
  | .one t, x => t.wfv x
  | .arr (.sc t) n, l => l.length = n ∧ ∀ y ∈ l, t.wfv y
  | .arr (.strc _) _, _ => False
def spWf : (ps : List SP) → spα ps → Prop
  | [], _ => True
  | p :: r, x => p.wfv x.1 ∧ spWf r x.2

section
variable {H : Type} {enc : TypeId × Value → H} {P : Program} {w : World} {base : Nat} {spare : Nat → Bool} {held : Bool}
theorem trod_t0 {t : TypeId} {t0 : T0} {fuel : Nat} {cs : List Value} {x : DataW H × List MemPlace} (ht : t0B P t t0 = true) (h : DataW.trod enc P w base spare held fuel t cs = some x) : ∃ y : t0.α, cs = [t0.val y] ∧ t0.wfv y := by
  cases t0 with
  | int k =>
    have hu : P.underlying t = some (.int k) := by
      simp only [t0B] at ht
      split at ht
      · rename_i k' hu
        rw [hu, of_decide_eq_true ht]
      · simp at ht
    obtain ⟨n, h1, _, h2⟩ := DataW.trod_int hu h
    exact ⟨n, h1, h2⟩
  | bool =>
    have hu : P.underlying t = some .bool := by
      simp only [t0B] at ht
      split at ht
      · assumption
      · simp at ht
    obtain ⟨b, h1, _⟩ := DataW.trod_bool hu h
    exact ⟨b, h1, trivial⟩
  | str =>
    have hu : P.underlying t = some .string := by
      simp only [t0B] at ht
      split at ht
      · assumption
      · simp at ht
    obtain ⟨s, h1, _, h2⟩ := DataW.trod_string hu h
    exact ⟨s, h1, h2⟩
theorem flat_sc' {t : T0} : (l : List t.α) → flat (.sc t) l = l.map t.val
  | [] => rfl
  | a :: r => by
    show t.val a :: flat (.sc t) r = _
    rw [flat_sc' r]; rfl
theorem trod_sp {t : TypeId} {p : SP} {fuel : Nat} {cs : List Value} {x : DataW H × List MemPlace} (ht : spB P t p = true) (h : DataW.trod enc P w base spare held fuel t cs = some x) :
    P.cellsOf t = p.wid ∧ ∃ y : p.α, cs = (p.inj y).cells ∧ segOk (p.inj y) ∧ p.wfv y := by
  cases p with
  | one t0 =>
    simp only [spB, Bool.and_eq_true, beq_iff_eq] at ht
    obtain ⟨y, h1, h2⟩ := trod_t0 ht.1 h
    exact ⟨ht.2, y, h1, by cases t0 <;> simp [SP.inj, segOk, T0.val, Value.cells], h2⟩
  | arr C n =>
    cases C with
    | strc fs => simp [spB] at ht
    | sc t0 =>
      have hx : ∃ m e, P.underlying t = some (.array m e) ∧ ((m = n ∧ t0B P e t0 = true) ∧ P.cellsOf e = 1) ∧ P.cellsOf t = n := by
        simp only [spB] at ht
        split at ht
        · rename_i m e hu
          simp only [Bool.and_eq_true, beq_iff_eq] at ht
          exact ⟨m, e, hu, ht⟩
        · simp at ht
      · obtain ⟨m, e, hu, ⟨⟨rfl, h0⟩, h1⟩, h2⟩ := hx
        obtain ⟨xs, q, _, _, hl, hxl, hf⟩ := DataW.trod_array hu h
        refine ⟨h2, ?_⟩
        have key : ∀ j, j ≤ m → ∃ l : List t0.α, cs.drop (m - j) = l.map t0.val ∧ l.length = j ∧ ∀ y ∈ l, t0.wfv y := by
          intro j
          induction j with
          | zero => intro _; exact ⟨[], by rw [List.drop_eq_nil_of_le (by omega)]; rfl, rfl, fun y hy => by cases hy⟩
          | succ j ih =>
            intro hj
            obtain ⟨l, g1, g2, g3⟩ := ih (by omega)
            have g := hf (m - (j + 1)) (by omega)
            rw [h1, Nat.mul_one, List.getElem?_eq_getElem (by omega)] at g
            obtain ⟨y, k1, k2⟩ := trod_t0 h0 g
            refine ⟨y :: l, ?_, by simp [g2], fun z hz => ?_⟩
            · have : m - j = (m - (j + 1)) + 1 := by omega
              rw [this] at g1
              rw [List.drop_eq_getElem_cons (by omega)] at k1 ⊢
              rw [g1]
              simp only [List.take_succ_cons, List.take_zero, List.cons.injEq, and_true] at k1
              rw [k1]; rfl
            · rcases List.mem_cons.1 hz with rfl | hz
              · exact k2
              · exact g3 z hz
        obtain ⟨l, g1, g2, g3⟩ := key m (Nat.le_refl m)
        rw [Nat.sub_self, List.drop_zero] at g1
        exact ⟨l, by rw [g1]; exact (flat_sc' l).symm, g2, g2, g3⟩
theorem trod_lay {cs : List Value} {q tot : Nat} (hl : cs.length = tot) : (ss : List SP) → (fs : List Field) → (off : Nat) → layB P tot ss fs off = true →
    (∀ f ∈ fs, ∃ y, DataW.trod enc P w base spare held q f.type ((cs.drop f.offset).take (P.cellsOf f.type)) = some y) → ∃ x : spα ss, cs.drop off = segCells (spInj ss x) ∧ segsOk (spInj ss x) ∧ spWf ss x
  | [], [], off, h, _ => ⟨(), by
      have : off = tot := by simpa [layB] using h
      rw [List.drop_eq_nil_of_le (by omega)]; rfl, (fun s hs => by cases hs), trivial⟩
  | [], _ :: _, _, h, _ => by cases h
  | _ :: _, [], _, h, _ => by cases h
  | p :: ss, f :: fs, off, h, hf => by
    simp only [layB, Bool.and_eq_true, beq_iff_eq] at h
    obtain ⟨⟨h1, h2⟩, h3⟩ := h
    obtain ⟨x, g1, g2, g3⟩ := trod_lay hl ss fs _ h3 (fun f hm => hf f (List.mem_cons_of_mem _ hm))
    obtain ⟨y, hy⟩ := hf f (List.mem_cons_self)
    obtain ⟨k1, z, k2, k3, k4⟩ := trod_sp h2 hy
    refine ⟨(z, x), ?_, ?_, k4, g3⟩
    · show cs.drop off = (p.inj z).cells ++ segCells (spInj ss x)
      rw [← g1, ← k2, h1, k1, ← List.drop_drop, List.take_append_drop]
    · intro s hs
      rcases List.mem_cons.1 (show s ∈ p.inj z :: spInj ss x from hs) with rfl | hs
      · exact k3
      · exact g2 s hs
/-- a row's struct: its parts -/
theorem arg_strc {t : TypeId} {fs : Array Field} {ss : List SP} {v : Value} {d : DataW H} {ps : List MemPlace} {r : Reach} {b0 : Nat} (hu : P.underlying t = some (.struct fs)) (hl : layB P (P.cellsOf t) ss fs.toList 0 = true)
    (hv : Value.okWide P w r b0 t v) (h : DataW.Trod enc P w base spare held t v d ps) : ∃ x : spα ss, (segsOk (spInj ss x) ∧ v = .agg (segCells (spInj ss x)).toArray) ∧ spWf ss x := by
  simp only [Value.okWide, hu] at hv
  obtain ⟨cs, rfl, _, _⟩ := hv
  obtain ⟨fuel, hf⟩ := h
  have e : (Value.agg cs).cells.toList = cs.toList := by simp [Value.cells]
  rw [e] at hf
  obtain ⟨xs, q, _, _, hlen, hxl, hff⟩ := DataW.trod_struct hu hf
  obtain ⟨x, g1, g2, g3⟩ := trod_lay (P := P) (w := w) (enc := enc) (base := base) (spare := spare) (held := held) (q := q) hlen ss fs.toList 0 hl (fun f hm => by
    obtain ⟨i, hi⟩ := List.mem_iff_getElem?.1 hm
    rw [Array.getElem?_toList] at hi
    have hlt : i < fs.size := (Array.getElem?_eq_some_iff.1 hi).1
    have := hff i f hi
    rw [List.getElem?_eq_getElem (by omega)] at this
    exact ⟨_, this⟩)
  refine ⟨x, ⟨g2, ?_⟩, g3⟩
  rw [List.drop_zero] at g1
  rw [← g1]
end
end Go.Px
namespace Go.Px
open Go Go.RowKit
/-- a contract for some arguments alone -/
theorem fun_ok_of {P : Program} {G : Nat → Option (List Seg)} {f : FuncId} {fn : Func} {body : Code} {pa : List DP} {pr : RP} (F : dpα pa → Option pr.α) (E : Env pr.α)
    (hf : P.funcs[f]? = some fn) (hb : fn.body = some body) (hE : ∀ X : Cx, X.P = P → X.G = G → EnvOk X E)
    (hlo : ∀ (X : Cx) (w0 : World), X.P = P → X.G = G → LoopsOk X w0 E.Λ (endK E fn.results.toList pr .ret) body)
    (hev : ∀ x y, F x = some y → ev E body (start pa (fn.ntmps - pa.length) x) (endK E fn.results.toList pr) = some y) : FunOk P G f (mkFun pa pr F) := by
  have h2 := fun_ok (pa := pa) (pr := pr) (fun x => ev E body (start pa (fn.ntmps - pa.length) x) (endK E fn.results.toList pr)) E hf hb hE hlo (fun _ => rfl)
  intro ρ ds k r hr
  refine h2 ρ ds k r ?_
  have hr : ((dpProj pa ds).bind fun x => (F x).bind fun r => k (pr.inj r)) = some r := hr
  show ((dpProj pa ds).bind fun x => (ev E body (start pa (fn.ntmps - pa.length) x) (endK E fn.results.toList pr)).bind fun r => k (pr.inj r)) = some r
  cases hx : dpProj pa ds with
  | none => rw [hx] at hr; cases hr
  | some x =>
    rw [hx] at hr
    simp only [Option.bind_some] at hr ⊢
    cases hF : F x with
    | none => rw [hF] at hr; cases hr
    | some y => rw [hF] at hr; rw [hev x y hF]; exact hr
theorem bytes_is {s : ByteArray} {l : List UInt8} (h : s.data.toList = l) : s = ⟨l.toArray⟩ := by
  cases s; subst h; rfl
end Go.Px

/- A law's argument that is a list of records. -/
namespace Go.Px
open Go Go.RowKit Go.Deep

def ones' (fs : List T0) : List SP := fs.map .one
def toRec : (fs : List T0) → spα (ones' fs) → recα fs
  | [], _ => ()
  | _ :: r, x => (x.1, toRec r x.2)
def recWf : (fs : List T0) → recα fs → Prop
  | [], _ => True
  | t :: r, x => t.wfv x.1 ∧ recWf r x.2
theorem toRec_cells : (fs : List T0) → (x : spα (ones' fs)) → segCells (spInj (ones' fs) x) = recVals fs (toRec fs x)
  | [], _ => rfl
  | t :: r, x => by
    have ih := toRec_cells r x.2
    show Seg.cells (.one (t.val x.1)) ++ segCells (spInj (ones' r) x.2) = t.val x.1 :: recVals r (toRec r x.2)
    rw [ih]; rfl
theorem toRec_wf : (fs : List T0) → (x : spα (ones' fs)) → spWf (ones' fs) x → recWf fs (toRec fs x)
  | [], _, _ => trivial
  | _ :: r, x, h => ⟨h.1, toRec_wf r x.2 h.2⟩
theorem ro_of_recs {w : World} {a : Addr} {fs : List T0} {l : List (recα fs)} {n cap : Nat} (hl : l.length = n) (hc : n ≤ cap) (h0 : 0 < fs.length)
    (h : ∀ i, i < n → ∀ f, f < fs.length → w.cell? (a.add (i * fs.length + f)) = some (recAt fs (l.getD i (recDflt fs)) f)) :
    RoRep w (· < w.heap.size) (.strc fs) l (.slice (some a) n cap) := by
  subst hl
  refine ⟨some a, cap, rfl, hc, ?_⟩
  cases hn : l with
  | nil => exact .inl rfl
  | cons y r =>
    right
    have hz0 := h 0 (by simp [hn]) 0 h0
    obtain ⟨b, o, sp⟩ := a
    have hz : (⟨b, o, sp⟩ : Addr).add (0 * fs.length + 0) = ⟨b, o, sp⟩ := by simp [Addr.add]
    rw [hz] at hz0
    unfold World.cell? at hz0
    split at hz0
    · rename_i cur e fr hb
      simp only at hb
      split at hz0
      · cases hz0
      · rename_i hsp
        have hsp' : sp = none := by cases sp <;> simp_all
        subst hsp'
        have hlt : b < w.heap.size := (Array.getElem?_eq_some_iff.1 hb).1
        refine ⟨b, o, cur, e, fr, rfl, hlt, hb, ?_⟩
        intro j x hj
        rw [← hn] at hj
        have hjl : j < l.length * fs.length := by
          have := (List.getElem?_eq_some_iff.1 hj).1
          rw [flat_length] at this; exact this
        have hi : j / fs.length < l.length := Nat.div_lt_of_lt_mul (by rw [Nat.mul_comm]; exact hjl)
        have hf : j % fs.length < fs.length := Nat.mod_lt _ h0
        have hje : j / fs.length * fs.length + j % fs.length = j := by rw [Nat.mul_comm]; exact Nat.div_add_mod j fs.length
        have hat := flat_at (.strc fs) l (j / fs.length) (j % fs.length) hi hf
        have hsz : (Cod.strc fs).sz = fs.length := rfl
        rw [hsz, hje, hj] at hat
        have hcell := h _ hi _ hf
        rw [hje, add_lit, cell_of w hb] at hcell
        rw [hcell]; exact hat.symm
    · cases hz0
theorem arg_recs {H : Type} {enc : TypeId × Value → H} {P : Program} {W : World} {base : Nat} {held : Bool} {t e : TypeId} {sf : Array Field} {a : Option Addr} {len cap : Nat} {d : DataW H} {ps : List MemPlace} {ts : List TypeId} {ds : List (DataW H)} {j : Nat}
    (fs : List T0) (h0 : 0 < fs.length)
    (hsz : (DataW.weightsEach P ts ds).all (· ≤ reachBytes) = true) (ht : ts[j]? = some t) (hd : ds[j]? = some d) (hu : P.underlying t = some (.slice e)) (he : P.underlying e = some (.struct sf)) (hc : P.cellsOf e = fs.length)
    (hlay : layB P (P.cellsOf e) (ones' fs) sf.toList 0 = true) {B : Nat} (hB : P.bytesOf e = B)
    (h : DataW.Trod enc P W base (fun _ => true) held t (.slice a len cap) d ps) :
    ∃ zs : List (recα fs), RoRep W (· < W.heap.size) (.strc fs) zs (.slice a len cap) ∧ zs.length * B ≤ 140737488351232 ∧ (∀ z ∈ zs, recWf fs z) := by
  obtain ⟨fuel, hf⟩ := h
  rcases Go.Deep.open_slice hu hf with ⟨hcs, _⟩ | ⟨x, l, c, m, n, D, Pl, hcs, _, hl, _, hm, hx, hcell⟩
  · simp [Value.cells] at hcs
    obtain ⟨rfl, rfl, rfl⟩ := hcs
    exact ⟨[], ro_nil, by simp, fun z hz => by cases hz⟩
  · simp [Value.cells] at hcs
    obtain ⟨rfl, rfl, rfl⟩ := hcs
    obtain ⟨hx, _⟩ := Prod.mk.inj hx
    subst hx
    simp only [if_true] at hm
    subst hm
    have z := sized_slice hsz ht hd hu
    rw [hB] at z
    have z : m * B ≤ 140737488351232 := by
      refine Nat.le_trans (Nat.le_of_eq ?_) z
      congr 1
      simp; omega
    have each : ∀ i, i < m → ∃ y : recα fs, recWf fs y ∧ ∀ f, f < fs.length → W.cell? (x.add (i * fs.length + f)) = some (recAt fs y f) := fun i hi => by
      obtain ⟨cs', g1, g2⟩ := hcell i hi
      obtain ⟨_, hlen, hcl⟩ := World.cells?_some g1
      obtain ⟨xs, q, _, _, hlen2, hxl, hff⟩ := DataW.trod_struct he g2
      obtain ⟨y, k1, _, k3⟩ := trod_lay (P := P) (w := W) (enc := enc) (base := base) (spare := fun _ => true) (held := held) (q := q) hlen2 (ones' fs) sf.toList 0 hlay (fun f hmm => by
        obtain ⟨i, hi⟩ := List.mem_iff_getElem?.1 hmm
        rw [Array.getElem?_toList] at hi
        have hlt : i < sf.size := (Array.getElem?_eq_some_iff.1 hi).1
        have := hff i f hi
        rw [List.getElem?_eq_getElem (by omega)] at this
        exact ⟨_, this⟩)
      rw [List.drop_zero, toRec_cells] at k1
      refine ⟨toRec fs y, toRec_wf fs y k3, fun f hf => ?_⟩
      have q1 := recVals_at fs (toRec fs y) f hf
      rw [← k1] at q1
      have q2 := hcl f (by rw [hc]; exact hf)
      rw [add_add, hc] at q2
      rw [q2]; exact q1
    haveI : Inhabited (recα fs) := ⟨recDflt fs⟩
    obtain ⟨y, hy⟩ := choose_lt (α := recα fs) each
    refine ⟨(List.range len).map y, ro_of_recs (by simp) hl h0 (fun i hi f hf => ?_), ?_, fun z hz => ?_⟩
    · rw [(hy i (by omega)).2 f hf, List.getD_eq_getElem?_getD]
      simp [hi]
    · simp only [List.length_map, List.length_range]
      exact Nat.le_trans (Nat.mul_le_mul_right _ hl) z
    · obtain ⟨i, hi, rfl⟩ := List.mem_map.1 hz
      exact (hy i (by have := List.mem_range.1 hi; omega)).1
/-- a struct with one text: what is read of the text -/
theorem arg_strcB {H : Type} {enc : TypeId × Value → H} {P : Program} {w : World} {base : Nat} {spare : Nat → Bool} {held : Bool} {t : TypeId} {fs : Array Field} {ss : List SP} {v : Value} {d : DataW H} {ps : List MemPlace} {r : Reach} {b0 : Nat} (hu : P.underlying t = some (.struct fs)) (hl : layB P (P.cellsOf t) ss fs.toList 0 = true)
    (i : Nat) (f : Field) (hfi : fs[i]? = some f) (hft : P.underlying f.type = some .string) (hfc : P.cellsOf f.type = 1)
    (hv : Value.okWide P w r b0 t v) (h : DataW.Trod enc P w base spare held t v d ps) : ∃ x : spα ss, (segsOk (spInj ss x) ∧ v = .agg (segCells (spInj ss x)).toArray) ∧ spWf ss x ∧ ∃ ds, d = .agg ds ∧ ∀ s, ((segCells (spInj ss x)).drop f.offset).take 1 = [.string s] → ds[i]? = some (.lit (.string s.data.toList)) := by
  obtain ⟨x, ⟨g1, g2⟩, g3⟩ := arg_strc hu hl hv h
  subst g2
  refine ⟨x, ⟨g1, rfl⟩, g3, ?_⟩
  obtain ⟨fuel, hf⟩ := h
  have e : (Value.agg (segCells (spInj ss x)).toArray).cells.toList = segCells (spInj ss x) := by simp [Value.cells]
  rw [e] at hf
  obtain ⟨xs, q, _, hx, hlen, hxl, hff⟩ := DataW.trod_struct hu hf
  refine ⟨xs.map (·.1), (Prod.mk.inj hx).1, fun s hs => ?_⟩
  have hi := hff i f hfi
  rw [hfc, hs] at hi
  have hlt : i < fs.size := (Array.getElem?_eq_some_iff.1 hfi).1
  rw [List.getElem?_eq_getElem (by omega)] at hi
  obtain ⟨s', h1, h2, _⟩ := DataW.trod_string hft hi
  simp only [List.cons.injEq, Value.string.injEq, and_true] at h1
  subst h1
  rw [List.getElem?_map, List.getElem?_eq_getElem (by omega)]
  simp only [Option.map_some]
  rw [h2]
end Go.Px

