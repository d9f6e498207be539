/- Loops by their step; functions. -/
import Derived.Test.YtpmnipaimoaagaaDoorPx13
set_option linter.unusedVariables false
set_option linter.unusedSimpArgs false
namespace Go.Px
open Go Go.RowKit

section
variable {X : Cx} {ρ : Type} {w0 : World} {S : St} {a : Act} {w : World} {loc : Nat → Nat → Option (Nat × Nat)} {E : Env ρ} {K : St → Option ρ} {r : ρ} {o : Oper} {Q : Exit → Act → World → Prop}

theorem exists_least {p : Nat → Prop} (h : ∃ n, p n) : ∃ m, p m ∧ ∀ k, p k → m ≤ k := by
  obtain ⟨n, hn⟩ := h
  induction n using Nat.strongRecOn with
  | _ n ih =>
    by_cases hk : ∃ k, k < n ∧ p k
    · obtain ⟨k, hk1, hk2⟩ := hk; exact ih k hk1 hk2
    · exact ⟨n, hn, fun k hpk => Nat.le_of_not_lt fun hlt => hk ⟨k, hlt, hpk⟩⟩
noncomputable def least {p : Nat → Prop} (h : ∃ n, p n) : Nat := Classical.choose (exists_least h)
theorem least_spec {p : Nat → Prop} (h : ∃ n, p n) : p (least h) := (Classical.choose_spec (exists_least h)).1
theorem least_le {p : Nat → Prop} (h : ∃ n, p n) {k : Nat} (hk : p k) : least h ≤ k := (Classical.choose_spec (exists_least h)).2 k hk
theorem wp_loopN {c : Code} {σ : Type} (I : σ → Act → World → Prop) (step : σ → (σ → Option ρ) → Option ρ)
    (hstep : ∀ s (κ : σ → Option ρ), step s κ = some r → ∀ a w, I s a w → c.wp X.P (Exit.then (fun a' w' => ∃ s', κ s' = some r ∧ I s' a' w') Q) a w) (n : Nat) (s : σ) (hr : loopN n step s = some r) (h : I s a w) :
    (Code.loop c).wp X.P Q a w := by
  classical
  let J : Act → World → Prop := fun a w => ∃ n s, loopN n step s = some r ∧ I s a w
  let μ : Act → World → Nat := fun a w => if h : ∃ n, ∃ s, loopN n step s = some r ∧ I s a w then least h else 0
  refine wp_loop J μ ⟨n, s, hr, h⟩ fun a w hJ => ?_
  have hμ : μ a w = least hJ := by simp only [μ]; rw [dif_pos hJ]
  obtain ⟨s', h1, h2⟩ := least_spec hJ
  generalize hm : least hJ = m at h1
  cases m with
  | zero => simp [loopN] at h1
  | succ m =>
    simp only [loopN] at h1
    refine wp_mono (hstep s' _ h1 a w h2) fun e a' w' hp => ?_
    cases e with
    | normal =>
      obtain ⟨s'', g1, g2⟩ := hp
      refine ⟨⟨m, s'', g1, g2⟩, ?_⟩
      have hJ' : ∃ n, ∃ s, loopN n step s = some r ∧ I s a' w' := ⟨m, s'', g1, g2⟩
      have : μ a' w' = least hJ' := by simp only [μ]; rw [dif_pos hJ']
      rw [this, hμ, hm]
      exact Nat.lt_succ_of_le (least_le hJ' ⟨s'', g1, g2⟩)
    | exit id => exact hp
    | ret => exact hp
    | goto l => exact hp
    | panic c => exact hp
    | outgrown => exact hp
/-- a loop over slots told by kinds -/
def mkLoop (pi px : List IP) (L : ipα pi → (ipα px → Option ρ) → Option ρ) : LoopC ρ :=
  { σ := ipα pi, τ := ipα px, projI := ipProj pi, injI := ipInj pi, projX := ipProj px, injX := ipInj px, L := L }
/-- how a round ends -/
def roundK (pi px : List IP) (id : Nat) (kr : St → Option ρ) (kx : ipα px → Option ρ) (κ : ipα pi → Option ρ) : Ex → St → Option ρ
  | .normal, S => (ipProj pi S).bind κ
  | .exit j, S => if j = id then (ipProj px S).bind kx else none
  | .ret, S => kr S
theorem loop_ok (hE : EnvOk X E) {pi px : List IP} {L : ipα pi → (ipα px → Option ρ) → Option ρ} {c : Code} {id : Nat} {kr : St → Option ρ} (hpi : ipOk pi = true) (hpx : ipOk px = true)
    (step : (ipα px → Option ρ) → ipα pi → (ipα pi → Option ρ) → Option ρ) (N : ipα pi → Nat) (hL : ∀ s kx, L s kx = loopN (N s) (step kx) s)
    (hlo : LoopsOk X w0 E.Λ kr c) (hstep : ∀ s kx κ, step kx s κ = ev E c (ipInj pi s) (roundK pi px id kr kx κ)) :
    LoopOk X w0 (mkLoop pi px L) (.loop c) id kr := by
  suffices key : ∀ (s : ipα pi) (kx : ipα px → Option ρ) (r : ρ), L s kx = some r → ∀ a w loc, Sim X w0 (ipInj pi s) a w loc → (Code.block id (.loop c)).wp X.P (fun e a w => match e with
      | .normal => ∃ y loc, kx y = some r ∧ Sim X w0 (ipInj px y) a w loc
      | .ret => Post X w0 kr r a w
      | _ => False) a w from ⟨fun S a w loc s h hs => ip_enter pi hpi h s hs, key⟩
  intro s kx r hr a w loc h
  rw [hL] at hr
  refine wp_block (wp_loopN (fun s a w => ∃ loc, Sim X w0 (ipInj pi s) a w loc) (step kx) (fun s κ hr a w ⟨loc, h⟩ => ?_) (N s) s hr ⟨loc, h⟩)
  rw [hstep] at hr
  refine wp_mono (ev_sound hE kr c hlo _ a w loc h _ rfl r hr) fun e a' w' hp => ?_
  cases e with
  | normal =>
    obtain ⟨S', loc', h1, h2⟩ := hp
    have h1 : (ipProj pi S').bind κ = some r := h1
    cases hs : ipProj pi S' with
    | none => rw [hs] at h1; cases h1
    | some s' =>
      rw [hs] at h1
      simp only [Option.bind_some] at h1
      obtain ⟨loc2, h3⟩ := ip_enter pi hpi h2 s' hs
      exact ⟨s', h1, loc2, h3⟩
  | exit j =>
    obtain ⟨S', loc', h1, h2⟩ := hp
    have h1 : (if j = id then (ipProj px S').bind kx else none) = some r := h1
    split at h1
    · rename_i hj
      cases hs : ipProj px S' with
      | none => rw [hs] at h1; cases h1
      | some y =>
        rw [hs] at h1
        simp only [Option.bind_some] at h1
        obtain ⟨loc2, h3⟩ := ip_enter px hpx h2 y hs
        simp only [Exit.then, Exit.inBlock]
        rw [if_pos hj]
        exact ⟨y, loc2, h1, h3⟩
    · cases h1
  | ret => exact hp
  | goto l => exact hp.elim
  | panic c => exact hp.elim
  | outgrown => exact hp.elim

/-! ### functions -/
/-- the kinds of what is handed over and handed back -/
inductive DP where
  | dyn
  | sc (t : T0)
  | own (C : Cod)
  | arr (C : Cod) (n : Nat)
  | strc (ss : List SP)
@[reducible] def DP.α : DP → Type
  | .dyn => Dyn
  | .sc t => t.α
  | .own C | .arr C _ => List C.α
  | .strc ss => spα ss
def DP.inj : (p : DP) → p.α → D1
  | .dyn, d => .raw d.val
  | .sc t, x => .raw (t.val x)
  | .own C, l => .own C l
  | .arr C n, l => .arr C n l
  | .strc ss, x => .strc (spInj ss x)
def nilSl : Value → Bool
  | .slice none 0 0 => true
  | _ => false
theorem nilSl_eq {v : Value} (h : nilSl v = true) : v = .slice none 0 0 := by
  unfold nilSl at h; split at h
  · rfl
  · cases h
def DP.proj : (p : DP) → D1 → Option p.α
  | .dyn, .raw v => Dyn.dec v
  | .sc t, .raw v => t.dec v
  | .own _, .raw u => if nilSl u then some [] else none
  | .own C, .own C' l => if h : C' = C then some (h ▸ l) else none
  | .arr C n, .arr C' n' l => if h : C' = C then (if n' = n then some (h ▸ l) else none) else none
  | .strc ss, .strc s => spProj ss s
  | _, _ => none
@[reducible] def dpα : List DP → Type
  | [] => Unit
  | p :: r => p.α × dpα r
def dpInj : (ps : List DP) → dpα ps → List D1
  | [], _ => []
  | p :: r, x => p.inj x.1 :: dpInj r x.2
def dpProj : (ps : List DP) → List DV → Option (dpα ps)
  | [], [] => some ()
  | p :: r, .one d :: ds => (p.proj d).bind fun x => (dpProj r ds).bind fun y => some (x, y)
  | _, _ => none
/-- an argument in its slot -/
def D1.arg : D1 → PV
  | .junk => .junk
  | .raw v => .raw v
  | .arr C n l => .arr C n l
  | .strc ss => .strc ss
  | .own C l => .ros C l
/-- one result, or several -/
inductive RP where
  | none
  | one (p : DP)
  | tup (ps : List DP)
@[reducible] def RP.α : RP → Type
  | .none => Unit
  | .one p => p.α
  | .tup ps => dpα ps
def RP.inj : (p : RP) → p.α → DV
  | .none, _ => .tup []
  | .one p, x => .one (p.inj x)
  | .tup ps, x => .tup (dpInj ps x)
/-- the contract of a function whose shallow twin is F -/
def mkFun (pa : List DP) (pr : RP) (F : dpα pa → Option pr.α) : Fun :=
  ⟨fun _ ds k => (dpProj pa ds).bind fun x => (F x).bind fun r => k (pr.inj r), fun _ ds k r h => by
    cases hx : dpProj pa ds with
    | none => rw [hx] at h; cases h
    | some x =>
      rw [hx] at h
      simp only [Option.bind_some] at h
      cases hF : F x with
      | none => rw [hF] at h; cases h
      | some y => exact ⟨pr.inj y, fun k' => by simp only [Option.bind_some, hF]⟩⟩
/-- the slots as a call begins -/
def start (pa : List DP) (n : Nat) (x : dpα pa) : St := (dpInj pa x).map D1.arg ++ List.replicate n .junk
/-- an owned slice that is handed back -/
def retCont (S : St) : PV → Option Cont
  | .alias k => match get S k with
    | .own C l => some ⟨C, l⟩
    | _ => none
  | .view k g off len => match get S k with
    | .own C l => if g = 0 then some ⟨C, (l.drop off).take len⟩ else none
    | .obj ss => match ss[g]? with
      | some (.arr C n l) => if off = 0 ∧ len = n then some ⟨C, l⟩ else some ⟨C, (l.drop off).take len⟩
      | _ => none
    | _ => none
  | _ => none
/-- what one result hands back -/
def retD (E : Env ρ) (S : St) (p : DP) (rv : ResultVar) : Option p.α := match rv with
  | .tmp t => match p with
    | .dyn => match get S t with
      | .raw v => Dyn.dec v
      | _ => none
    | .sc c => match get S t with
      | .raw v => c.dec v
      | _ => none
    | .own C => match get S t with
      | .raw (.slice none 0 0) => some []
      | q => match retCont S (selfAlias (.tmp t) q) with
        | some ⟨C', l⟩ => if h : C' = C then some (h ▸ l) else none
        | none => none
    | .arr C n => match get S t with
      | .arr C' n' l => if h : C' = C then (if n' = n then some (h ▸ l) else none) else none
      | _ => none
    | .strc ss => match get S t with
      | .strc s => if noRo s = true then spProj ss s else none
      | _ => none
  | .cell t ty => match E.T ty with
    | none => none
    | some ti => if ti.agg = true then (match p with
      | .arr C n => match get S t with
        | .obj [.arr C' n' l] => if h : C' = C then (if n' = n ∧ ti.size = n * C.sz then some (h ▸ l) else none) else none
        | _ => none
      | .strc sp => match get S t with
        | .obj ss => if ti.size = (ss.map Seg.size).sum ∧ noRo ss = true then spProj sp ss else none
        | _ => none
      | _ => none) else none
def retL (E : Env ρ) (S : St) : (ps : List DP) → List ResultVar → Option (dpα ps)
  | [], [] => some ()
  | p :: r, v :: vs => (retD E S p v).bind fun x => (retL E S r vs).bind fun y => some (x, y)
  | _, _ => none
def DP.isOwn : DP → Bool
  | .own _ => true
  | _ => false
def retR (E : Env ρ) (rvs : List ResultVar) (S : St) : (pr : RP) → Option pr.α
  | .none => match rvs with
    | [] => some ()
    | _ => none
  | .one p => match rvs with
    | [v] => retD E S p v
    | _ => none
  | .tup ps => if 2 ≤ ps.length ∧ (ps.filter DP.isOwn).length ≤ 1 then retL E S ps rvs else none
/-- how a function ends -/
def endK (E : Env ρ) (rvs : List ResultVar) (pr : RP) : Ex → St → Option pr.α
  | .normal, S => retR E rvs S pr
  | .ret, S => retR E rvs S pr
  | _, _ => none

theorem retCont_ok (h : Sim X w0 S a w loc) {p : PV} {v : Value} {c : Cont} (hc : retCont S p = some c) (hp : Rep X w S a.tmps loc (fun _ => none) p v) (hown : ∀ k, p.ref = some k → (get S k).owns = true) :
    ∃ ℓ, D1Rep w X.Mine (.own c.C c.l) ℓ v ∧ ∀ b o, ℓ = some (b, o) → X.Mine b ∧ b < w.heap.size := by
  cases p with
  | alias k =>
    simp only [retCont] at hc
    split at hc
    · rename_i C l hs
      simp only [Option.some.injEq] at hc; subst hc
      have := alias_val h hp (hown k rfl)
      rw [hs] at this
      exact ⟨loc k 0, this, fun b o hl => ⟨(h.lt k 0 b o hl).2, (h.lt k 0 b o hl).1⟩⟩
    · cases hc
  | view k g off len =>
    have key : ∀ (C : Cod) (l : List C.α), (get S k = .own C l ∧ g = 0 ∨ ∃ ss n, get S k = .obj ss ∧ ss[g]? = some (.arr C n l)) →
        ∃ ℓ, D1Rep w X.Mine (.own C ((l.drop off).take len)) ℓ v ∧ ∀ b o, ℓ = some (b, o) → X.Mine b ∧ b < w.heap.size := fun C l hs => by
      obtain ⟨hle, ad, cap, q1, q2, q3⟩ := view_sl h hp hs
      have hdt := drop_take_length l off len hle
      obtain ⟨base, sz, cnt, e1, e2, e3⟩ := id hp
      rcases e3 with ⟨_, p2, p3⟩ | ⟨b, o2, o3, cap', p1, p2, p3, p4, p5, _⟩
      · exact ⟨none, .inl ⟨rfl, p2, List.eq_nil_of_length_eq_zero (by rw [hdt, p3])⟩, fun b o e => by cases e⟩
      · refine ⟨some (b, o3), .inr ?_, fun b' o' e => by cases e; exact ⟨(h.lt k 0 b o2 p1).2, (h.lt k 0 b o2 p1).1⟩⟩
        have hblk : ∃ cur e' fr, w.heap[b]? = some (.cells cur e' fr) ∧ Harm fr cur.size ∧ sz = C.sz := by
          rcases hs with ⟨hs, rfl⟩ | ⟨ss, n, hs, hg⟩
          · obtain ⟨u, _, _, h3⟩ := opd_get h hs (by simp)
            rw [hs] at e1
            simp only [shp, Option.some.injEq, Prod.mk.injEq] at e1
            rcases h3 with ⟨r4, _⟩ | ⟨b', o4, cp, cur, e, fr, r4, r5, r6, r7, r8, _⟩
            · rw [p1] at r4; cases r4
            · rw [p1] at r4; cases r4; exact ⟨cur, e, fr, r7, r8, e1.2.1.symm⟩
          · obtain ⟨u, _, _, h3⟩ := opd_get h hs (by simp)
            rw [hs] at e1
            simp only [shp, hg, Option.some.injEq, Prod.mk.injEq] at e1
            obtain ⟨b', cur, e, fr, r1, r2, r3, r4, r5, _⟩ := h3
            rw [p1] at r1; cases r1
            exact ⟨cur, e, fr, r4, r5, e1.2.1.symm⟩
        obtain ⟨cur, e', fr, g1, g2, rfl⟩ := hblk
        have hbs : blkSize w b = cur.size := by simp [blkSize, g1]
        refine ⟨b, o3, cap', cur, e', fr, rfl, by rw [hdt]; exact p2, (h.lt k 0 b o2 p1).2, g1, g2, by rw [hdt]; exact p3, by rw [← hbs]; exact p5, ?_⟩
        rcases q3 with q3 | ⟨b3, o4, cur3, e3, fr3, r1, r2, r3, r4⟩
        · rw [q3]; intro m z hm; simp [flat] at hm
        · rw [p2, hdt] at q1; cases q1; cases r1
          rw [g1] at r3; cases r3
          exact r4
    simp only [retCont] at hc
    split at hc
    · rename_i C l hs
      split at hc
      · rename_i hg
        simp only [Option.some.injEq] at hc; subst hc
        exact key C l (.inl ⟨hs, hg⟩)
      · cases hc
    · rename_i ss hs
      split at hc
      · rename_i C n l hg
        have k1 := key C l (.inr ⟨ss, n, hs, hg⟩)
        split at hc
        · rename_i hoff
          obtain ⟨rfl, rfl⟩ := hoff
          simp only [Option.some.injEq] at hc; subst hc
          obtain ⟨u, _, _, h3⟩ := opd_get h hs (by simp)
          obtain ⟨_, _, _, _, _, _, _, _, _, q6, _⟩ := h3
          have hl : l.length = len := q6 _ (List.mem_of_getElem? hg)
          rw [List.drop_zero, List.take_of_length_le (by omega)] at k1
          exact k1
        · simp only [Option.some.injEq] at hc; subst hc; exact k1
      · cases hc
    · cases hc
  | _ => simp [retCont] at hc

/-- one result, read -/
def resComp (tmps : Array Value) : ResultVar → Sem Value
  | .tmp t => pure (tmps.getD t undef)
  | .cell ad t => do loadVar t (← asAddr (tmps.getD ad undef))
theorem retD_ok (hE : EnvOk X E) (h : Sim X w0 S a w loc) {p : DP} {rv : ResultVar} {x : p.α} (hx : retD E S p rv = some x) :
    ∃ u ℓ, (resComp a.tmps rv).run X.P w = .ok u w ∧ D1Rep w X.Mine (p.inj x) ℓ u ∧
      (∀ b o, ℓ = some (b, o) → X.Mine b ∧ b < w.heap.size) ∧ (p.isOwn = false → ℓ = none) := by
  cases rv with
  | tmp t =>
    simp only [retD] at hx
    have hev : a.eval (.tmp t) = a.tmps.getD t undef := rfl
    cases p with
    | sc c =>
      dsimp only at hx
      split at hx
      · rename_i v hv
        have := opd_raw h (x := .tmp t) hv
        exact ⟨_, none, rfl, by rw [← hev, this]; exact (T0.dec_ok hx).symm, (fun b o e => by cases e), fun _ => rfl⟩
      · cases hx
    | own C =>
      dsimp only at hx
      split at hx
      · rename_i hv
        cases hx
        have := opd_raw h (x := .tmp t) hv
        exact ⟨_, none, rfl, .inl ⟨rfl, by rw [← hev, this], rfl⟩, (fun b o e => by cases e), fun _ => rfl⟩
      · split at hx
        · rename_i C' l hc
          split at hx
          · rename_i hC
            subst hC
            simp only [Option.some.injEq] at hx
            subst hx
            have hj : selfAlias (.tmp t) (opd S (.tmp t)) ≠ .junk ∧ (∀ s q, selfAlias (.tmp t) (opd S (.tmp t)) ≠ .iter s q) ∧ (∀ ds, selfAlias (.tmp t) (opd S (.tmp t)) ≠ .tup ds) := by
              have hc' : retCont S (selfAlias (.tmp t) (opd S (.tmp t))) = some ⟨C', l⟩ := hc
              refine ⟨fun e => ?_, fun _ _ e => ?_, fun _ e => ?_⟩ <;> (rw [e] at hc'; simp [retCont] at hc')
            obtain ⟨_, h2, h3⟩ := opd_rep h (x := .tmp t) rfl hj.1 hj.2.1 hj.2.2
            obtain ⟨ℓ, g1, g2⟩ := retCont_ok h hc h2 h3
            exact ⟨_, ℓ, rfl, g1, g2, fun hp => by cases hp⟩
          · cases hx
        · cases hx
    | arr C n =>
      dsimp only at hx
      split at hx
      · rename_i C' n' l hv
        split at hx
        · rename_i hC
          subst hC
          split at hx
          · rename_i hn
            subst hn
            simp only [Option.some.injEq] at hx
            subst hx
            have := copy_rep h (s := t) (by rw [hv]; rfl)
            rw [hv] at this
            exact ⟨_, none, rfl, this, (fun b o e => by cases e), fun _ => rfl⟩
          · cases hx
        · cases hx
      · cases hx
    | dyn =>
      dsimp only at hx
      split at hx
      · rename_i v hv
        have := copy_rep h (s := t) (by rw [hv]; rfl)
        rw [hv] at this
        have hi := Dyn.dec_ok hx
        exact ⟨_, none, rfl, by show D1Rep w X.Mine (.raw x.val) none _; rw [← hi]; exact this, (fun b o e => by cases e), fun _ => rfl⟩
      · cases hx
    | strc ss =>
      dsimp only at hx
      split at hx
      · rename_i s hv
        have := copy_rep h (s := t) (by rw [hv]; rfl)
        rw [hv] at this
        split at hx
        · rename_i hnr
          have hi := spProj_ok _ _ _ hx
          exact ⟨_, none, rfl, by show D1Rep w X.Mine (.strc (spInj ss x)) none _; rw [hi]; exact ⟨segsPl_of this.1 hnr, this.2⟩, (fun b o e => by cases e), fun _ => rfl⟩
        · cases hx
      · cases hx
  | cell t ty =>
    simp only [retD] at hx
    split at hx
    · cases hx
    · rename_i ti hti
      split at hx
      · rename_i hag
        cases p with
        | arr C n =>
          dsimp only at hx
          split at hx
          · rename_i C' n' l hv
            split at hx
            · rename_i hC
              subst hC
              split at hx
              · rename_i hn
                obtain ⟨rfl, hn⟩ := hn
                simp only [Option.some.injEq] at hx
                subst hx
                obtain ⟨u, h1, h2, b, cur, e', fr, g1, g2, g3, g4, g5, g6, g7⟩ := opd_get h hv (by simp)
                have hl : l.length = n' := g6 (.arr C' n' l) (by simp)
                refine ⟨.agg (flat C' l).toArray, none, ?_, ⟨hl, rfl⟩, (fun b o e => by cases e), fun _ => rfl⟩
                have := load_row (w := w) (xs := flat C' l) (hE.T ty ti hti) hag g4 (fun j u hj => by rw [g7]; simpa [segCells, Seg.cells] using hj) (by rw [flat_length, hl]; exact hn.symm)
                have hget : a.tmps.getD t undef = .pointer (some ⟨b, 0, none⟩) := by rw [← g2]; simp [h1]
                simp only [resComp, hget, Sem.run_bind, asAddr, Sem.run_pure, Result.andThen_ok]
                simpa [Instr.loadAt, Instr.sureAddr] using this
              · cases hx
            · cases hx
          · cases hx
        | strc sp =>
          dsimp only at hx
          split at hx
          · rename_i ss hv
            split at hx
            · rename_i hn
              obtain ⟨hn, hnr⟩ := hn
              have hi := spProj_ok _ _ _ hx
              obtain ⟨u, h1, h2, b, cur, e', fr, g1, g2, g3, g4, g5, g6, g7⟩ := opd_get h hv (by simp)
              refine ⟨.agg (segCells ss).toArray, none, ?_, ?_, (fun b o e => by cases e), fun _ => rfl⟩
              · have := load_row (w := w) (xs := segCells ss) (hE.T ty ti hti) hag g4 (fun j u hj => by rw [g7]; simpa using hj) (by rw [segCells_length ss g6]; exact hn.symm)
                have hget : a.tmps.getD t undef = .pointer (some ⟨b, 0, none⟩) := by rw [← g2]; simp [h1]
                simp only [resComp, hget, Sem.run_bind, asAddr, Sem.run_pure, Result.andThen_ok]
                simpa [Instr.loadAt, Instr.sureAddr] using this
              · show D1Rep w X.Mine (.strc (spInj sp x)) none _
                rw [hi]; exact ⟨segsPl_of g6 hnr, rfl⟩
            · cases hx
          · cases hx
        | _ => simp at hx
      · cases hx

theorem retL_ok (hE : EnvOk X E) (h : Sim X w0 S a w loc) : (ps : List DP) → (rvs : List ResultVar) → (x : dpα ps) → retL E S ps rvs = some x →
    ∃ (us : List Value) (ℓ : Nat → Option (Nat × Nat)), (rvs.mapM (resComp a.tmps)).run X.P w = .ok us w ∧ us.length = ps.length ∧ rvs.length = ps.length ∧
      (∀ (j : Nat) d, (dpInj ps x)[j]? = some d → ∃ u, us[j]? = some u ∧ D1Rep w X.Mine d (ℓ j) u) ∧ (∀ j b o, ℓ j = some (b, o) → X.Mine b ∧ b < w.heap.size) ∧ (∀ (j : Nat) p, ps[j]? = some p → p.isOwn = false → ℓ j = none) ∧ (∀ j, ps.length ≤ j → ℓ j = none)
  | [], [], x, hx => ⟨[], fun _ => none, by simp, rfl, rfl, fun j d hj => by simp [dpInj] at hj, (fun j b o e => by cases e), fun _ _ _ _ => rfl, fun _ _ => rfl⟩
  | [], v :: vs, x, hx => by simp [retL] at hx
  | p :: r, [], x, hx => by simp [retL] at hx
  | p :: r, v :: vs, x, hx => by
    simp only [retL] at hx
    cases h1 : retD E S p v with
    | none => rw [h1] at hx; cases hx
    | some y =>
      rw [h1] at hx
      simp only [Option.bind_some] at hx
      cases h2 : retL E S r vs with
      | none => rw [h2] at hx; cases hx
      | some z =>
        rw [h2] at hx
        simp only [Option.bind_some, Option.some.injEq] at hx
        subst hx
        obtain ⟨u, ℓ1, g1, g2, g3, g4⟩ := retD_ok hE h h1
        obtain ⟨us, ℓ, k1, k2, k3, k4, k5, k6, k7⟩ := retL_ok hE h r vs z h2
        refine ⟨u :: us, fun j => match j with | 0 => ℓ1 | j + 1 => ℓ j, ?_, by simp [k2], by simp [k3], ?_, ?_, ?_, ?_⟩
        · rw [List.mapM_cons]
          simp only [Sem.run_bind, g1, Result.andThen_ok, k1, Sem.run_pure]
        · intro j d hj
          cases j with
          | zero => simp [dpInj] at hj; subst hj; exact ⟨u, rfl, g2⟩
          | succ j => simpa using k4 j d (by simpa [dpInj] using hj)
        · intro j b o e
          cases j with
          | zero => exact g3 b o e
          | succ j => exact k5 j b o e
        · intro j q hj hq
          cases j with
          | zero => simp at hj; subst hj; exact g4 hq
          | succ j => exact k6 j q (by simpa using hj) hq
        · intro j hj
          cases j with
          | zero => simp at hj
          | succ j => exact k7 j (by simpa using hj)
theorem own_once : (ps : List DP) → (ps.filter DP.isOwn).length ≤ 1 → ∀ (i j : Nat) p q, ps[i]? = some p → ps[j]? = some q → p.isOwn = true → q.isOwn = true → i = j
  | [], _, i, j, p, q, h1, _, _, _ => by simp at h1
  | a :: r, hc, i, j, p, q, h1, h2, h3, h4 => by
    have hr0 : a.isOwn = true → ∀ (k : Nat) x, r[k]? = some x → x.isOwn = false := fun ha k x hk => by
      rw [List.filter_cons_of_pos ha, List.length_cons] at hc
      have : r.filter DP.isOwn = [] := List.eq_nil_of_length_eq_zero (by omega)
      have hm := List.filter_eq_nil_iff.1 this x (List.mem_of_getElem? hk)
      simpa using hm
    cases i with
    | zero =>
      simp at h1; subst h1
      cases j with
      | zero => rfl
      | succ j => have := hr0 h3 j q (by simpa using h2); rw [this] at h4; cases h4
    | succ i =>
      cases j with
      | zero => simp at h2; subst h2; have := hr0 h4 i p (by simpa using h1); rw [this] at h3; cases h3
      | succ j =>
        have hcr : (r.filter DP.isOwn).length ≤ 1 := by
          refine Nat.le_trans ?_ hc
          cases ha : a.isOwn with
          | true => rw [List.filter_cons_of_pos ha]; simp
          | false => rw [List.filter_cons_of_neg (by rw [ha]; simp)]; exact Nat.le_refl _
        rw [own_once r hcr i j p q (by simpa using h1) (by simpa using h2) h3 h4]
theorem dpInj_length : (ps : List DP) → (x : dpα ps) → (dpInj ps x).length = ps.length
  | [], _ => rfl
  | p :: r, x => by simp [dpInj, dpInj_length r x.2]
theorem dpInj_get : (ps : List DP) → (x : dpα ps) → (i : Nat) → ∀ d, (dpInj ps x)[i]? = some d → ∃ (p : DP) (y : p.α), ps[i]? = some p ∧ d = p.inj y
  | [], _, i, q, h => by simp [dpInj] at h
  | p :: r, x, 0, q, h => by simp [dpInj] at h; exact ⟨p, x.1, rfl, h.symm⟩
  | p :: r, x, i + 1, q, h => by simpa using dpInj_get r x.2 i q (by simpa [dpInj] using h)
theorem DP.inj_owns (p : DP) (x : p.α) : (p.inj x).owns = p.isOwn := by cases p <;> rfl
theorem D1.toPV_owns (d : D1) : d.toPV.owns = d.owns := by cases d <;> rfl
theorem results_run {P : Program} (fn : Func) (tmps : Array Value) (us : List Value) (h : (fn.results.toList.mapM (resComp tmps)).run P w = .ok us w) :
    (results fn tmps).run P w = .ok (if h : us.toArray.size = 1 then us.toArray[0] else .tuple us.toArray) w := by
  have e : results fn tmps = (do
      let vs ← fn.results.mapM (resComp tmps)
      pure (if h : vs.size = 1 then vs[0] else .tuple vs)) := by
    unfold results
    congr 1
  rw [e, Array.mapM_eq_mapM_toList]
  simp only [Sem.run_bind, Sem.run_map, h, Result.andThen_ok, Sem.run_pure]
theorem ResRepP.mono {w : World} {B B' : Nat → Prop} {d : DV} {v : Value} (h : ResRepP w B d v) (hB : ∀ b, B b → B' b) : ResRepP w B' d v := by
  obtain ⟨ℓ, h1, h2, h3, h4⟩ := h
  refine ⟨ℓ, fun j b o hj => ⟨hB _ (h1 j b o hj).1, (h1 j b o hj).2⟩, h2, h3, ?_⟩
  cases d with
  | one d => exact D1Rep.mono h4 hB
  | tup ds =>
    obtain ⟨vs, g1, g2, g3⟩ := h4
    refine ⟨vs, g1, g2, fun j d hj => ?_⟩
    obtain ⟨u, k1, k2⟩ := g3 j d hj
    exact ⟨u, k1, k2.mono hB⟩
theorem retR_ok (hE : EnvOk X E) (h : Sim X w0 S a w loc) (fn : Func) {pr : RP} {x : pr.α} (hx : retR E fn.results.toList S pr = some x) :
    ∃ v, (results fn a.tmps).run X.P w = .ok v w ∧ ResRepP w X.Mine (pr.inj x) v := by
  cases pr with
  | none =>
    simp only [retR] at hx
    split at hx
    · rename_i hr
      refine ⟨.tuple #[], ?_, fun _ => none, (fun _ _ _ e => by cases e), (fun _ _ _ _ _ e => by cases e), fun _ _ => rfl, #[], rfl, rfl, fun j d hj => by simp at hj⟩
      have := results_run (P := X.P) (w := w) fn a.tmps [] (by rw [hr]; simp)
      simpa using this
    · cases hx
  | one p =>
    simp only [retR] at hx
    split at hx
    · rename_i rv hr
      obtain ⟨u, ℓ1, g1, g2, g3, g4⟩ := retD_ok hE h hx
      have := results_run (P := X.P) (w := w) fn a.tmps [u] (by rw [hr, List.mapM_cons]; simp only [Sem.run_bind, g1, Result.andThen_ok, List.mapM_nil, Sem.run_pure])
      refine ⟨u, by simpa using this, fun j => if j = 0 then ℓ1 else none, fun j b o e => ?_, fun j j' b o o' e1 e2 => ?_, fun ho j => ?_, g2⟩
      · have e : (if j = 0 then ℓ1 else none) = some (b, o) := e
        split at e
        · exact g3 b o e
        · cases e
      · have e1 : (if j = 0 then ℓ1 else none) = some (b, o) := e1
        have e2 : (if j' = 0 then ℓ1 else none) = some (b, o') := e2
        split at e1
        · split at e2
          · omega
          · cases e2
        · cases e1
      · show (if j = 0 then ℓ1 else none) = none
        split
        · exact g4 (by
            have : (p.inj x).toPV.owns = false := ho
            rw [D1.toPV_owns, DP.inj_owns] at this; exact this)
        · rfl
    · cases hx
  | tup ps =>
    simp only [retR] at hx
    split at hx
    · rename_i hc
      obtain ⟨us, ℓ, k1, k2, k3, k4, k5, k6, k7⟩ := retL_ok hE h ps fn.results.toList x hx
      have := results_run (P := X.P) (w := w) fn a.tmps us k1
      have hn1 : ¬ us.toArray.size = 1 := by simp [k2]; omega
      rw [dif_neg hn1] at this
      have hsome : ∀ j b o, ℓ j = some (b, o) → ∃ p, ps[j]? = some p ∧ p.isOwn = true := fun j b o e => by
        by_cases hj : j < ps.length
        · refine ⟨ps[j], List.getElem?_eq_getElem hj, ?_⟩
          cases ho : ps[j].isOwn with
          | true => rfl
          | false => rw [k6 j _ (List.getElem?_eq_getElem hj) ho] at e; cases e
        · rw [k7 j (by omega)] at e; cases e
      refine ⟨_, this, ℓ, k5, fun j j' b o o' e1 e2 => ?_, fun ho j => ?_, us.toArray, rfl, by rw [dpInj_length]; simp [k2], fun j d hj => by simpa using k4 j d hj⟩
      · obtain ⟨p, hp1, hp2⟩ := hsome j b o e1
        obtain ⟨q, hq1, hq2⟩ := hsome j' b o' e2
        exact own_once ps hc.2 j j' p q hp1 hq1 hp2 hq2
      · cases hl : ℓ j with
        | none => rfl
        | some bo =>
          exfalso
          obtain ⟨p, hp1, hp2⟩ := hsome j bo.1 bo.2 hl
          have ho : (dpInj ps x).any D1.owns = false := ho
          have hj : j < (dpInj ps x).length := by rw [dpInj_length]; exact (List.getElem?_eq_some_iff.1 hp1).1
          obtain ⟨p', y, hp', he⟩ := dpInj_get ps x j _ (List.getElem?_eq_getElem hj)
          rw [hp1] at hp'; cases hp'
          have := List.any_eq_false.1 ho _ (List.mem_of_getElem? (List.getElem?_eq_getElem hj))
          rw [he, DP.inj_owns, hp2] at this
          exact this rfl
    · cases hx
end
end Go.Px
