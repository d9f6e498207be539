/- Of a region whose order is drawn: operations that stand apart may change places. Nothing of memory here. -/
import Derived.Test.YtpmnipaimoaagaaDoorPx2
set_option linter.unusedVariables false
set_option linter.unusedSimpArgs false
namespace Go.Px
open Go

section
variable {ρ : Type} {E : Env ρ} {S S' : St} {K : St → Option ρ} {r : ρ}

def Inv (S : St) : Prop := ∀ (i : Nat) p k, S[i]? = some p → p.ref = some k → (get S k).owns = true
def RefOk (S : St) (p : PV) : Prop := ∀ k, p.ref = some k → (get S k).owns = true
/-- alike at what a value looks at -/
def AgreeP (S S' : St) (p : PV) : Prop := ∀ k, p.ref = some k → get S' k = get S k
def tmpsOf (l : List Operand) : List Nat := l.filterMap fun | .tmp t => some t | _ => none
def Agree (S S' : St) (ts : List Nat) : Prop := ∀ t ∈ ts, get S' t = get S t ∧ AgreeP S S' (get S t)
def AgreeO (S S' : St) (x : Operand) : Prop := ∀ t, x = .tmp t → get S' t = get S t ∧ AgreeP S S' (get S t)
theorem Agree.o {ts : List Nat} (h : Agree S S' ts) {l : List Operand} (hl : ∀ t ∈ tmpsOf l, t ∈ ts) {x : Operand} (hx : x ∈ l) : AgreeO S S' x := fun t ht =>
  h t (hl t (List.mem_filterMap.2 ⟨x, hx, by rw [ht]⟩))
theorem AgreeO.opd {x : Operand} (h : AgreeO S S' x) : Px.opd S' x = Px.opd S x := by
  cases x with
  | tmp t => exact (h t rfl).1
  | _ => rfl
theorem AgreeO.self {x : Operand} (h : AgreeO S S' x) : AgreeP S S' (selfAlias x (Px.opd S x)) := by
  cases x with
  | tmp t =>
    obtain ⟨h1, h2⟩ := h t rfl
    have h1 : get S' t = get S t := h1
    intro k hk
    show get S' k = get S k
    have hk : (selfAlias (.tmp t) (get S t)).ref = some k := hk
    cases hp : get S t <;> rw [hp] at hk <;> simp only [selfAlias, PV.ref, Option.some.injEq, reduceCtorEq] at hk <;> first
      | (subst hk; exact h1)
      | (subst hk; exact h2 _ (by rw [hp]; rfl))
  | _ => intro k hk; cases hk
theorem AgreeO.asI {x : Operand} (h : AgreeO S S' x) : Px.asI (Px.opd S' x) = Px.asI (Px.opd S x) := by rw [h.opd]
theorem bnd_loc {d : Int} {x : Option Operand} (h : ∀ o, x = some o → AgreeO S S' o) : bnd S' d x = bnd S d x := by
  cases x with
  | none => rfl
  | some o => simp only [bnd, (h o rfl).opd]
theorem slice_loc {t : TypeId} {x : PV} {lo hi : Option Operand} (hx : AgreeP S S' x) (hlo : ∀ o, lo = some o → AgreeO S S' o) (hhi : ∀ o, hi = some o → AgreeO S S' o) (K : PV → Option ρ) : evSlice E S' t x lo hi K = evSlice E S t x lo hi K := by
  have e1 : ∀ d, bnd S' d lo = bnd S d lo := fun d => bnd_loc hlo
  have e2 : ∀ d, bnd S' d hi = bnd S d hi := fun d => bnd_loc hhi
  unfold evSlice
  cases E.T t with
  | none => rfl
  | some ti =>
    dsimp only
    cases ti.desc <;> cases x <;> first
      | rfl
      | (have e3 := hx _ rfl; simp only [e1, e2, e3]; done)
      | (simp only [e1, e2]; done)
      | (rename_i v; cases v <;> first | rfl | (simp only [e1, e2]; done))
theorem indexAddr_loc {t : TypeId} {x : PV} {i : Int} (hx : AgreeP S S' x) (K : PV → Option ρ) : evIndexAddr E S' t x i K = evIndexAddr E S t x i K := by
  unfold evIndexAddr
  cases E.T t with
  | none => rfl
  | some ti =>
    dsimp only
    cases ti.desc <;> cases x <;> first
      | rfl
      | (have e3 := hx _ rfl; simp only [e3]; done)
      | (rename_i k g i f
         have e3 := hx k rfl
         cases i <;> cases f <;> first | rfl | (simp only [e3]; done))
      | (rename_i C l i f
         cases C <;> cases f <;> first | rfl | done)
theorem load_loc {t : TypeId} {x : PV} (hx : AgreeP S S' x) (K : PV → Option ρ) : evLoad E S' t x K = evLoad E S t x K := by
  unfold evLoad
  cases E.T t with
  | none => rfl
  | some ti =>
    dsimp only
    cases x <;> first
      | rfl
      | (have e3 := hx _ rfl; simp only [e3]; done)
theorem arrAt_loc {t : TypeId} {x : PV} (hx : AgreeP S S' x) (K : PV → Option ρ) : evArrAt E S' t x K = evArrAt E S t x K := by
  unfold evArrAt
  cases E.T t with
  | none => rfl
  | some ti =>
    dsimp only
    cases ti.desc <;> cases x <;> first
      | rfl
      | (have e3 := hx _ rfl; simp only [e3]; done)
theorem fieldAddr_loc {t : TypeId} {x : PV} {f : Nat} (hx : AgreeP S S' x) (K : PV → Option ρ) : evFieldAddr E S' t x f K = evFieldAddr E S t x f K := by
  unfold evFieldAddr
  cases E.T t with
  | none => rfl
  | some ti =>
    dsimp only
    cases ti.desc <;> cases x <;> first
      | rfl
      | (have e3 := hx _ rfl; simp only [e3]; done)
      | (rename_i k g i f
         have e3 := hx k rfl
         cases i <;> cases f <;> first | rfl | (simp only [e3]; done))
      | (rename_i C l i f
         cases C <;> cases f <;> first | rfl | done)
theorem content_loc {x : PV} (hx : AgreeP S S' x) : content S' x = content S x := by
  cases x with
  | alias k => have e3 : get S' k = get S k := hx k rfl; simp only [content, e3]
  | view k g off len => have e3 : get S' k = get S k := hx k rfl; simp only [content, e3]
  | _ => simp only [content]
theorem slLen_loc {x : PV} (hx : AgreeP S S' x) : slLen S' x = slLen S x := by
  cases x with
  | alias k => have e3 : get S' k = get S k := hx k rfl; simp only [slLen, e3]
  | raw v => unfold slLen; split <;> first | rfl | (split <;> first | rfl | (exfalso; simp_all; done))
  | _ => rfl
theorem contentT_loc {C : Cod} {x : PV} (hx : AgreeP S S' x) : contentT S' C x = contentT S C x := by
  have e := content_loc hx
  cases x with
  | raw v =>
    cases v with
    | slice a n c => cases a <;> cases n <;> cases c <;> rfl
    | _ => rfl
  | _ => unfold contentT; dsimp only; rw [e]
theorem toD1_loc {x : PV} (hx : AgreeP S S' x) : toD1 S' x = toD1 S x := by
  have e := content_loc hx
  unfold toD1
  cases x <;> first
    | rfl
    | (dsimp only; rw [e])
theorem srcOf_loc {C : Cod} {x : PV} (hx : AgreeP S S' x) : srcOf E S' C x = srcOf E S C x := by
  have e := contentT_loc (C := C) hx
  cases x with
  | raw v =>
    cases v <;> cases C <;> first
      | exact e
      | rfl
      | (rename_i t; cases t <;> first
          | exact e
          | rfl
          | (rename_i k; cases k <;> first
              | exact e
              | rfl))
  | _ => cases C <;> first
      | exact e
      | (rename_i t; cases t <;> first
          | exact e
          | (rename_i k; cases k <;> exact e))
theorem convert_loc {a b : TypeId} {x : PV} (hx : AgreeP S S' x) (K : PV → Option ρ) : evConvert E S' a b x K = evConvert E S a b x K := by
  have e8 := contentT_loc (C := .sc (.int .u8)) hx
  have e32 := contentT_loc (C := .sc (.int .i32)) hx
  unfold evConvert
  cases E.T a with
  | none => rfl
  | some ta =>
    cases E.T b with
    | none => rfl
    | some tb =>
      dsimp only
      cases tb.desc <;> cases ta.desc <;> first
        | rfl
        | (simp only [e8, e32]; done)
        | (cases x <;> first
            | rfl
            | (have e3 := hx _ rfl; simp only [e3]; done)
            | (rename_i v; cases v <;> rfl))
theorem len_loc {t : TypeId} {x : PV} (hx : AgreeP S S' x) (K : PV → Option ρ) : evLen E S' t x K = evLen E S t x K := by
  have e := slLen_loc hx
  unfold evLen
  cases E.T t with
  | none => rfl
  | some ti =>
    dsimp only
    cases ti.desc <;> first
      | rfl
      | (dsimp only; rw [e])
      | (cases x <;> first
          | rfl
          | (rename_i v; cases v <;> rfl)
          | (try dsimp only; rw [e]; done))
theorem elems_loc {C : Cod} : (i : Nat) → (l : List (Nat × Operand)) → (∀ o ∈ l.map (·.2), AgreeO S S' o) → elems S' C i l = elems S C i l
  | _, [], _ => rfl
  | i, (j, o) :: r, h => by
    simp only [elems, (h o (by simp)).opd, elems_loc (i + 1) r fun o ho => h o (by simp at ho ⊢; exact .inr ho)]
theorem parts_loc : (l : List (Nat × Operand)) → (∀ o ∈ l.map (·.2), AgreeO S S' o) → ∀ z, setParts S' z l = setParts S z l
  | [], _, z => rfl
  | (j, o) :: r, h, z => by
    have ih := parts_loc r fun o ho => h o (by simp at ho ⊢; exact .inr ho)
    simp only [setParts, (h o (by simp)).opd, ih]
theorem els_loc (c : T0) : (l : List (Nat × Operand)) → (∀ o ∈ l.map (·.2), AgreeO S S' o) → ∀ z, setEls S' c z l = setEls S c z l
  | [], _, z => rfl
  | (j, o) :: r, h, z => by
    have ih := els_loc c r fun o ho => h o (by simp at ho ⊢; exact .inr ho)
    simp only [setEls, (h o (by simp)).opd, ih]
theorem args_loc : (l : List Operand) → (∀ o ∈ l, AgreeO S S' o) → evCallArgs S' l = evCallArgs S l
  | [], _ => rfl
  | o :: r, h => by
    have e := h o (by simp)
    have e2 := e.opd
    simp only [evCallArgs, e2, toD1_loc e.self, args_loc r fun o ho => h o (by simp [ho])]

/-- a value hangs on what its operation looks at, and on nothing else -/
theorem evVal_loc (ty : TypeId) (o : Op) (h : ∀ x ∈ o.operands.toList, AgreeO S S' x) (K : PV → Option ρ) : evVal E S' ty o K = evVal E S ty o K := by
  cases o with
  | move x => simp only [evVal, (h x (by simp [Op.operands])).opd]
  | assign x =>
    have e := (h x (by simp [Op.operands])).opd
    simp only [evVal]
    congr 1
    cases x with
    | const v => rfl
    | tmp s => simp only [evAsg, e]
    | global g => rfl
    | func f => rfl
  | nilCheck x =>
    cases x with
    | tmp s =>
      obtain ⟨h1, h2⟩ := h (.tmp s) (by simp [Op.operands]) s rfl
      simp only [evVal, h1]
      cases hp : get S s with
      | alias j => rw [hp] at h2; simp only [h2 j rfl]
      | _ => rfl
    | _ => rfl
  | pick c a b => simp only [evVal, (h c (by simp [Op.operands])).opd, (h a (by simp [Op.operands])).opd, (h b (by simp [Op.operands])).opd]
  | alloc t => rfl
  | box t x => simp only [evVal, (h x (by simp [Op.operands])).opd]
  | build t parts =>
    have e := parts_loc (S := S) (S' := S') parts.toList fun o ho => h o (by simpa [Op.operands] using ho)
    have e2 := fun c => els_loc (S := S) (S' := S') c parts.toList fun o ho => h o (by simpa [Op.operands] using ho)
    simp only [evVal, evBuild, e, e2]
  | buildSlice t len parts =>
    have e : ∀ C, elems S' C 0 parts.toList = elems S C 0 parts.toList := fun C => elems_loc 0 _ fun o ho => h o (by simpa [Op.operands] using ho)
    simp only [evVal, evBuildSlice, e]
  | load t a => have e := h a (by simp [Op.operands]); simp only [evVal, e.opd, load_loc e.self]
  | binOp op t x y _ => simp only [evVal, (h x (by simp [Op.operands])).opd, (h y (by simp [Op.operands])).opd]
  | makeSlice t l c => simp only [evVal, (h l (by simp [Op.operands])).opd, (h c (by simp [Op.operands])).opd]
  | unOp op t x => simp only [evVal, (h x (by simp [Op.operands])).opd]
  | convert a b x => have e := h x (by simp [Op.operands]); simp only [evVal, e.opd, convert_loc e.self]
  | slice t x lo hi mx =>
    cases mx with
    | some m => rfl
    | none =>
      have e := h x (by simp [Op.operands])
      simp only [evVal, e.opd]
      exact slice_loc e.self (fun o ho => h o (by simp [Op.operands, ho])) (fun o ho => h o (by simp [Op.operands, ho])) K
  | sliceToArrayPointer t x => have e := h x (by simp [Op.operands]); simp only [evVal, e.opd, arrAt_loc e.self]
  | typeAssert x u t ok => simp only [evVal, (h x (by simp [Op.operands])).opd]
  | makeInterface t x => simp only [evVal, (h x (by simp [Op.operands])).opd]
  | fieldAddr t x f => have e := h x (by simp [Op.operands]); simp only [evVal, e.opd, fieldAddr_loc e.self]
  | indexAddr t x i => have e := h x (by simp [Op.operands]); simp only [evVal, (h i (by simp [Op.operands])).opd, e.opd, indexAddr_loc e.self]
  | index t x i => simp only [evVal, (h x (by simp [Op.operands])).opd, (h i (by simp [Op.operands])).opd]
  | extract x i =>
    cases x with
    | tmp s => have e : get S' s = get S s := (h (.tmp s) (by simp [Op.operands])).opd; simp only [evVal, e]
    | _ => rfl
  | call c =>
    obtain ⟨callee, args, ats⟩ := c
    cases callee with
    | value f =>
      cases f with
      | func f =>
        have e := args_loc (S := S) (S' := S') args.toList fun o ho => h o (by simp [Op.operands, Call.operands] at ho ⊢; exact .inr ho)
        simp only [evVal, e]
      | _ => rfl
    | invoke r m => rfl
    | builtin b =>
      have ha : ∀ (i : Nat) x, args[i]? = some x → AgreeO S S' x := fun i x hx => h x (by
        simp only [Op.operands, Call.operands]
        have := Array.mem_of_getElem? hx
        simp [this])
      cases b with
      | len =>
        simp only [evVal]
        cases h0 : args[0]? with
        | none => rfl
        | some x =>
          have e := ha 0 x h0
          cases ats[0]? with
          | none => rfl
          | some t =>
            dsimp only
            rw [e.opd, len_loc e.self]
      | append =>
        simp only [evVal]
        cases h0 : args[0]? with
        | none => rfl
        | some x =>
          cases h1 : args[1]? with
          | none => rfl
          | some y =>
            have e0 := ha 0 x h0
            have e1 := ha 1 y h1
            cases ats[0]? with
            | none => rfl
            | some t =>
              dsimp only
              rw [e0.opd, e1.opd]
              simp only [srcOf_loc e1.self]
      | _ => rfl
  | _ => rfl

/-! ### a value is one value, whatever is done with it -/
def Nat1 (S : St) (H : (PV → Option ρ) → Option ρ) : Prop := ∀ K r, H K = some r → ∃ p, RefOk S p ∧ ∀ K', H K' = K' p
variable {H H' : (PV → Option ρ) → Option ρ}
theorem n_none : Nat1 S (fun _ : PV → Option ρ => none) := fun _ _ h => by cases h
theorem n_k {p : PV} (h : RefOk S p) : Nat1 S (fun K : PV → Option ρ => K p) := fun _ _ _ => ⟨p, h, fun _ => rfl⟩
theorem ref0 {p : PV} (h : p.ref = none) : RefOk S p := fun k hk => by rw [h] at hk; cases hk
theorem n_k0 {p : PV} (h : p.ref = none) : Nat1 S (fun K : PV → Option ρ => K p) := n_k (ref0 h)
theorem n_chk {b : Bool} (h : Nat1 S H) : Nat1 S (fun K => chk b (H K)) := by
  cases b
  · exact n_none
  · exact h
theorem n_cond {b : Bool} (h : Nat1 S H) (h' : Nat1 S H') : Nat1 S (fun K => cond b (H K) (H' K)) := by
  cases b
  · exact h'
  · exact h
theorem n_ite {c : Prop} [Decidable c] (h : c → Nat1 S H) (h' : ¬ c → Nat1 S H') : Nat1 S (fun K => if c then H K else H' K) := by
  by_cases hc : c
  · have e : (fun K => if c then H K else H' K) = H := funext fun K => if_pos hc
    rw [e]; exact h hc
  · have e : (fun K => if c then H K else H' K) = H' := funext fun K => if_neg hc
    rw [e]; exact h' hc
theorem n_if {c : Prop} [Decidable c] (h : c → Nat1 S H) : Nat1 S (fun K => if c then H K else none) := n_ite h fun _ => n_none
theorem n_bind {α : Type _} {o : Option α} {F : α → (PV → Option ρ) → Option ρ} (h : ∀ x, o = some x → Nat1 S (F x)) : Nat1 S (fun K => o.bind fun x => F x K) := by
  cases o with
  | none => exact n_none
  | some x => exact h x rfl
theorem ref_own {p : PV} {k : Nat} (h : (get S k).owns = true) (hp : p.ref = some k) : RefOk S p := fun k' hk => by rw [hp] at hk; cases hk; exact h
theorem shp_owns {p : PV} {g : Nat} {x : Nat × Nat × Nat} (h : shp p g = some x) : p.owns = true := by
  unfold shp at h
  split at h <;> first
    | rfl
    | cases h
theorem slice_nat (t : TypeId) (x : PV) (lo hi : Option Operand) : Nat1 S (fun K => evSlice E S t x lo hi K) := by
  unfold evSlice
  cases hT : E.T t with
  | none => exact n_none
  | some ti =>
    try dsimp only
    cases hd : ti.desc with
    | string =>
      cases x with
      | raw v =>
        cases v with
        | string s => exact n_bind fun a _ => n_bind fun b _ => n_chk (n_k0 rfl)
        | _ => exact n_none
      | _ => exact n_none
    | array n e =>
      cases x with
      | alias k =>
        try dsimp only
        cases hg : get S k with
        | obj ss =>
          match ss, hg with
          | [.arr C n' l], hg => exact n_if fun _ => n_bind fun a _ => n_bind fun b _ => n_chk (n_k (ref_own (by rw [hg]; rfl) rfl))
          | [.one v], _ => exact n_none
          | [], _ => exact n_none
          | .one _ :: _ :: _, _ => exact n_none
          | .arr .. :: _ :: _, _ => exact n_none
          | [.ro ..], _ => exact n_none
          | .ro .. :: _ :: _, _ => exact n_none
        | _ => exact n_none
      | ptr k g idx f =>
        try dsimp only
        cases hg : get S k with
        | obj ss =>
          try dsimp only
          cases hs : ss[g]? with
          | none => exact n_none
          | some sg =>
            cases sg with
            | one v => exact n_none
            | ro _ _ _ _ => exact n_none
            | arr C n' l => exact n_if fun _ => n_bind fun a _ => n_bind fun b _ => n_chk (n_k (ref_own (by rw [hg]; rfl) rfl))
        | _ => exact n_none
      | _ => exact n_none
    | slice e =>
      cases x with
      | ros C l => exact n_if fun _ => n_bind fun a _ => n_bind fun b _ => n_chk (n_k0 rfl)
      | alias k =>
        try dsimp only
        cases hg : get S k with
        | own C l => exact n_if fun _ => n_bind fun a _ => n_bind fun b _ => n_chk (n_k (ref_own (by rw [hg]; rfl) rfl))
        | spr C l n => exact n_if fun _ => n_bind fun a _ => n_bind fun b _ => n_chk (n_k (ref_own (by rw [hg]; rfl) rfl))
        | _ => exact n_none
      | _ => exact n_none
    | _ => exact n_none
theorem indexAddr_nat (t : TypeId) (x : PV) (i : Int) : Nat1 S (fun K => evIndexAddr E S t x i K) := by
  unfold evIndexAddr
  cases hT : E.T t with
  | none => exact n_none
  | some ti =>
    try dsimp only
    cases hd : ti.desc with
    | array n e =>
      cases x with
      | alias k =>
        try dsimp only
        cases hg : get S k with
        | obj ss =>
          match ss, hg with
          | [.arr C n' l], hg => exact n_if fun _ => n_chk (n_k (ref_own (by rw [hg]; rfl) rfl))
          | [.one v], _ => exact n_none
          | [], _ => exact n_none
          | .one _ :: _ :: _, _ => exact n_none
          | .arr .. :: _ :: _, _ => exact n_none
          | [.ro ..], _ => exact n_none
          | .ro .. :: _ :: _, _ => exact n_none
        | _ => exact n_none
      | gl g =>
        try dsimp only
        cases hg : E.G g with
        | none => exact n_none
        | some ss =>
          match ss, hg with
          | [.arr C n' l], hg => exact n_if fun _ => n_chk (n_k0 rfl)
          | [.one v], _ => exact n_none
          | [], _ => exact n_none
          | .one _ :: _ :: _, _ => exact n_none
          | .arr .. :: _ :: _, _ => exact n_none
          | [.ro ..], _ => exact n_none
          | .ro .. :: _ :: _, _ => exact n_none
      | ptr k g idx f =>
        cases idx with
        | succ _ => exact n_none
        | zero =>
          cases f with
          | succ _ => exact n_none
          | zero =>
            change Nat1 S (fun K => match get S k with
              | .obj ss => (match ss[g]? with
                | some (.arr C n' l) => if n = n' ∧ esz E e = some C.sz ∧ 0 < C.sz then chk (inB i n) (K (.ptr k g i.toNat 0)) else none
                | _ => none)
              | _ => none)
            cases hg : get S k with
            | obj ss =>
              try dsimp only
              cases hs : ss[g]? with
              | none => exact n_none
              | some sg =>
                cases sg with
                | one v => exact n_none
                | ro _ _ _ _ => exact n_none
                | arr C n' l => exact n_if fun _ => n_chk (n_k (ref_own (by rw [hg]; rfl) rfl))
            | _ => exact n_none
      | _ => exact n_none
    | slice e =>
      cases x with
      | alias k =>
        try dsimp only
        cases hg : get S k with
        | own C l => exact n_if fun _ => n_chk (n_k (ref_own (by rw [hg]; rfl) rfl))
        | _ => exact n_none
      | view k g off len =>
        try dsimp only
        cases hg : shp (get S k) g with
        | none => exact n_none
        | some y => exact n_if fun _ => n_chk (n_k (ref_own (shp_owns hg) rfl))
      | ros C l => exact n_if fun _ => n_chk (n_k0 rfl)
      | _ => exact n_none
    | _ => exact n_none
theorem el_nat {ti : TI} {C : Cod} {x : C.α} {f : Nat} : Nat1 S (fun K : PV → Option ρ => evEl ti C x f K) := by
  unfold evEl
  refine n_ite (fun _ => n_k0 rfl) fun _ => ?_
  cases ti.desc with
  | struct fs => exact n_if fun _ => n_k0 rfl
  | _ => exact n_none
theorem rd_nat {ti : TI} {ss : List Seg} {g idx f : Nat} : Nat1 S (fun K : PV → Option ρ => evRd ti ss g idx f K) := by
  unfold evRd
  cases ss[g]? with
  | none => exact n_none
  | some sg =>
    cases sg with
    | one v => exact n_if fun _ => n_k0 rfl
    | ro _ _ _ _ => exact n_if fun _ => n_k0 rfl
    | arr C n l =>
      try dsimp only
      cases ti.desc with
      | array n' e => exact n_if fun _ => n_k0 rfl
      | _ => exact el_nat
theorem arrAt_nat (t : TypeId) (x : PV) : Nat1 S (fun K => evArrAt E S t x K) := by
  unfold evArrAt
  cases hT : E.T t with
  | none => exact n_none
  | some ti =>
    try dsimp only
    cases ti.desc with
    | array n e =>
      try dsimp only
      cases x with
      | view k g off len =>
        try dsimp only
        cases hg : get S k with
        | own C l => exact n_if fun _ => n_chk (n_k (ref_own (k := k) (by rw [hg]; rfl) rfl))
        | _ => exact n_none
      | _ => exact n_none
    | _ => exact n_none
theorem ta_nat (t : TypeId) (ok : Bool) (x : PV) : Nat1 S (fun K => evTA E t ok x K) := by
  unfold evTA
  split
  · split
    · exact n_chk (n_cond (n_k0 rfl) (n_k0 rfl))
    · exact n_none
  · exact n_none
theorem mi_nat (t : TypeId) (x : PV) : Nat1 S (fun K => evMI E t x K) := by
  unfold evMI
  split
  · split
    · exact n_k0 rfl
    · exact n_none
  · exact n_none
theorem load_nat (t : TypeId) (x : PV) : Nat1 S (fun K => evLoad E S t x K) := by
  unfold evLoad
  cases hT : E.T t with
  | none => exact n_none
  | some ti =>
    try dsimp only
    cases x with
    | alias k =>
      try dsimp only
      cases hg : get S k with
      | obj ss =>
        have whole : Nat1 S (fun K : PV → Option ρ => match ti.desc with
            | .struct _ => if ti.size = (ss.map Seg.size).sum then K (.strc ss) else none
            | _ => none) := by
          cases ti.desc with
          | struct fs => exact n_if fun _ => n_k0 rfl
          | _ => exact n_none
        match ss, whole with
        | [.arr C n l], _ =>
          try dsimp only
          cases hd : ti.desc with
          | array n' e => exact n_if fun _ => n_k0 rfl
          | _ => exact n_none
        | [.one v], whole => exact whole
        | [], whole => exact whole
        | .one _ :: _ :: _, whole => exact whole
        | .arr .. :: _ :: _, whole => exact whole
        | [.ro ..], whole => exact whole
        | .ro .. :: _ :: _, whole => exact whole
      | _ => exact n_none
    | ptr k g idx f =>
      try dsimp only
      cases hg : get S k with
      | own C l =>
        try dsimp only
        cases hd : ti.desc with
        | array n e => exact n_if fun _ => n_chk (n_k0 rfl)
        | _ => exact el_nat
      | obj ss => exact rd_nat
      | _ => exact n_none
    | gptr g s idx f =>
      try dsimp only
      cases hg : E.G g with
      | none => exact n_none
      | some ss => exact rd_nat
    | fptr C l idx f => exact el_nat
    | gl g =>
      try dsimp only
      cases hg : E.G g with
      | none => exact n_none
      | some ss =>
        match ss with
        | [.arr C n l] =>
          try dsimp only
          cases hd : ti.desc with
          | array n' e => exact n_if fun _ => n_k0 rfl
          | _ => exact n_none
        | [.one v] => exact n_none
        | [] => exact n_none
        | .one _ :: _ :: _ => exact n_none
        | .arr .. :: _ :: _ => exact n_none
        | [.ro ..] => exact n_none
        | .ro .. :: _ :: _ => exact n_none
    | _ => exact n_none
theorem fieldAddr_nat (t : TypeId) (x : PV) (f : Nat) : Nat1 S (fun K => evFieldAddr E S t x f K) := by
  unfold evFieldAddr
  cases hT : E.T t with
  | none => exact n_none
  | some ti =>
    try dsimp only
    cases hd : ti.desc with
    | struct fs =>
      try dsimp only
      cases hf : fs[f]? with
      | none => exact n_none
      | some fd =>
        try dsimp only
        cases hT2 : E.T fd.type with
        | none => exact n_none
        | some tf =>
          refine n_ite (fun _ => n_none) fun _ => ?_
          cases x with
          | alias k =>
            try dsimp only
            cases hg : get S k with
            | obj ss =>
              try dsimp only
              cases hs : ss[f]? with
              | none => exact n_none
              | some sg => exact n_if fun _ => n_k (ref_own (by rw [hg]; rfl) rfl)
            | _ => exact n_none
          | ptr k g idx f' =>
            cases f' with
            | succ _ => exact n_none
            | zero =>
              change Nat1 S (fun K => match get S k with
                | .own (.strc fs') _ => if fd.offset = f ∧ f < fs'.length ∧ g = 0 then K (.ptr k g idx f) else none
                | _ => none)
              cases hg : get S k with
              | own C l =>
                cases C with
                | sc t => exact n_none
                | strc fs' => exact n_if fun _ => n_k (ref_own (by rw [hg]; rfl) rfl)
              | _ => exact n_none
          | fptr C l idx f' =>
            cases f' with
            | succ _ => cases C <;> exact n_none
            | zero =>
              cases C with
              | sc t => exact n_none
              | strc fs' =>
                change Nat1 S (fun K => if fd.offset = f ∧ f < fs'.length then K (.fptr (.strc fs') l idx f) else none)
                exact n_if fun _ => n_k0 rfl
          | gptr g s idx f' =>
            cases f' with
            | succ _ => exact n_none
            | zero =>
              change Nat1 S (fun K => match E.G g with
                | some ss => (match ss[s]? with
                  | some (.arr (.strc fs') _ _) => if fd.offset = f ∧ f < fs'.length then K (.gptr g s idx f) else none
                  | _ => none)
                | none => none)
              cases E.G g with
              | none => exact n_none
              | some ss =>
                try dsimp only
                cases ss[s]? with
                | none => exact n_none
                | some sg =>
                  cases sg with
                  | one v => exact n_none
                  | ro _ _ _ _ => exact n_none
                  | arr C n l =>
                    cases C with
                    | sc t => exact n_none
                    | strc fs' => exact n_if fun _ => n_k0 rfl
          | _ => exact n_none
    | _ => exact n_none
theorem evBin_bind (td : Option TypeDesc) (op : BinOp) (v u : Value) (lit : Bool) (K : Value → Option ρ) : evBin td op v u lit K = (evBin (ρ := Value) td op v u lit some).bind K := by
  have hs : ∀ op k a b, evShift op k a b K = (evShift (ρ := Value) op k a b some).bind K := fun op k a b => by
    unfold evShift
    split <;> rfl
  have hc : ∀ b (x : Option ρ) (y : Option Value), x = y.bind K → chk b x = (chk b y).bind K := fun b x y h => by cases b <;> simp [chk, h]
  have hi : ∀ (c : Prop) [Decidable c] (x : Option ρ) (y : Option Value), x = y.bind K → (if c then x else none) = (if c then y else none).bind K := fun c _ x y h => by split <;> simp [h]
  have hm : ∀ o : Option Value, (match o with | some v => K v | none => none) = (match o with | some v => some v | none => none).bind K := fun o => by cases o <;> rfl
  unfold evBin
  split
  · split
    · exact hs _ _ _ _
    · exact hc _ _ _ (hs _ _ _ _)
  · split
    · exact hs _ _ _ _
    · exact hc _ _ _ (hs _ _ _ _)
  · exact hc _ _ _ rfl
  · refine hi _ _ _ ?_
    split
    · exact hm _
    · exact hc _ _ _ rfl
  · refine hi _ _ _ ?_
    split
    · exact hm _
    · exact hc _ _ _ rfl
  · refine hi _ _ _ ?_
    exact hm _
  · split <;> first
      | exact hm _
      | rfl
  · split <;> rfl
  · split <;> rfl
  · rfl
theorem bin_nat (td : Option TypeDesc) (op : BinOp) (v u : Value) (lit : Bool) : Nat1 S (fun K : PV → Option ρ => evBin td op v u lit fun r => K (.raw r)) := fun K r h => by
  dsimp only at h
  rw [evBin_bind] at h
  cases hb : evBin (ρ := Value) td op v u lit some with
  | none => rw [hb] at h; cases h
  | some x => exact ⟨.raw x, ref0 rfl, fun K' => by dsimp only; rw [evBin_bind, hb]; rfl⟩
theorem convert_nat (a b : TypeId) (x : PV) : Nat1 S (fun K => evConvert E S a b x K) := by
  unfold evConvert
  cases hA : E.T a with
  | none => exact n_none
  | some ta =>
    cases hB : E.T b with
    | none => exact n_none
    | some tb =>
      try dsimp only
      cases hb : tb.desc with
      | int k =>
        cases x with
        | raw v =>
          cases v with
          | int k' n => exact n_k0 rfl
          | _ => exact n_none
        | _ => exact n_none
      | string =>
        try dsimp only
        cases ha : ta.desc with
        | string =>
          cases x with
          | raw v =>
            cases v with
            | string s => exact n_k0 rfl
            | _ => exact n_none
          | _ => exact n_none
        | slice e =>
          try dsimp only
          split
          · cases contentT S (.sc (.int .u8)) x with
            | none => exact n_none
            | some l => exact n_k0 rfl
          · cases contentT S (.sc (.int .i32)) x with
            | none => exact n_none
            | some l => exact n_k0 rfl
          · exact n_none
        | _ => exact n_none
      | slice e =>
        try dsimp only
        cases ha : ta.desc with
        | slice e' =>
          cases x with
          | alias k =>
            try dsimp only
            cases hc : codOf E b with
            | none => exact n_none
            | some c =>
              obtain ⟨c1, c2⟩ := c
              cases hg : get S k with
              | own C l =>
                try dsimp only
                split
                · exact n_if fun _ => n_chk (n_k (ref_own (by rw [hg]; rfl) rfl))
                · exact n_none
              | _ => (try dsimp only); split <;> first | exact n_none | (exfalso; simp_all; done)
          | _ => exact n_none
        | string =>
          cases x with
          | raw v =>
            cases v with
            | string s =>
              try dsimp only
              split
              · exact n_chk (n_k0 rfl)
              · exact n_none
            | _ => exact n_none
          | _ => exact n_none
        | _ => exact n_none
      | _ => exact n_none
theorem len_nat (t : TypeId) (x : PV) : Nat1 S (fun K => evLen E S t x K) := by
  unfold evLen
  cases hT : E.T t with
  | none => exact n_none
  | some ti =>
    try dsimp only
    cases hd : ti.desc with
    | string =>
      cases x with
      | raw v =>
        cases v with
        | string s => exact n_k0 rfl
        | _ => exact n_none
      | _ => exact n_none
    | slice e =>
      try dsimp only
      cases slLen S x with
      | none => exact n_none
      | some n => exact n_k0 rfl
    | array n e => exact n_k0 rfl
    | _ => exact n_none
theorem buildSlice_nat (t : TypeId) (len : Nat) (ps : List (Nat × Operand)) : Nat1 S (fun K => evBuildSlice E S t len ps K) := by
  unfold evBuildSlice
  cases hc : codOf E t with
  | none => exact n_none
  | some c =>
    obtain ⟨C, b⟩ := c
    try dsimp only
    refine n_if fun _ => ?_
    cases elems S C 0 ps with
    | none => exact n_none
    | some l => exact n_k0 rfl
theorem build_nat (t : TypeId) (ps : List (Nat × Operand)) : Nat1 S (fun K => evBuild E S t ps K) := by
  unfold evBuild
  cases hT : E.T t with
  | none => exact n_none
  | some ti =>
    try dsimp only
    cases ti.desc with
    | struct fs => exact n_if fun _ => n_bind fun z _ => n_k0 rfl
    | array n e =>
      try dsimp only
      match ti.zero with
      | [.arr (.sc c) n' z] => exact n_if fun _ => n_bind fun z' _ => n_k0 rfl
      | [.arr (.strc c) n' z] => exact n_none
      | [.one v] => exact n_none
      | [] => exact n_none
      | .one _ :: _ :: _ => exact n_none
      | .arr (.sc _) .. :: _ :: _ => exact n_none
      | .arr (.strc _) .. :: _ :: _ => exact n_none
      | [.ro ..] => exact n_none
      | .ro .. :: _ :: _ => exact n_none
    | _ => exact n_none
theorem cmp_nat (op : BinOp) (t : TypeId) (x y : PV) : Nat1 S (fun K => evCmp E op t x y K) := by
  unfold evCmp
  cases op <;> first
    | exact n_none
    | exact n_bind fun b _ => n_k0 rfl
theorem make_nat (t : TypeId) (sm : Bool) (x y : PV) : Nat1 S (fun K => evMake E t sm x y K) := by
  unfold evMake
  cases E.T t with
  | none => exact n_none
  | some ti =>
    cases asI x with
    | none => exact n_none
    | some l =>
      cases asI y with
      | none => exact n_none
      | some c =>
        try dsimp only
        cases ti.desc with
        | slice e =>
          try dsimp only
          cases E.T e with
          | none => exact n_none
          | some te =>
            try dsimp only
            cases te.cod with
            | none => exact n_none
            | some cc =>
              cases cc with
              | strc fs => exact n_none
              | sc c0 =>
                cases c0 with
                | int k => exact n_if fun _ => n_cond (n_chk (n_k0 rfl)) (n_chk (n_k0 rfl))
                | _ => exact n_none
        | _ => exact n_none
theorem toPV_ref (d : D1) : d.toPV.ref = none := by cases d <;> rfl
theorem dv_ref (d : DV) : d.toPV.ref = none := by
  cases d with
  | one d => exact toPV_ref d
  | tup ds => rfl
theorem self_ok (hi : Inv S) (x : Operand) : RefOk S (selfAlias x (Px.opd S x)) := by
  cases x with
  | tmp s =>
    show RefOk S (selfAlias (.tmp s) (get S s))
    have key : RefOk S (get S s) := fun k hk => by
      cases hs : S[s]? with
      | none => rw [get_none hs] at hk; cases hk
      | some p => rw [get_eq hs] at hk; exact hi s p k hs hk
    cases hp : get S s <;> rw [hp] at key <;> first
      | exact key
      | exact ref_own (by rw [hp]; rfl) rfl
  | _ => exact ref0 rfl
theorem asg_ref {ty : TypeId} {x : Operand} {p : PV} (h : evAsg E S ty x = some p) : p.ref = none := by
  unfold evAsg at h
  split at h
  · split at h
    · cases hc : codOf E ty with
      | none => rw [hc] at h; cases h
      | some c => rw [hc] at h; cases h; rfl
    · cases h; rfl
  · split at h
    · split at h
      · cases h
      · cases h; rfl
    · cases h
theorem val_nat (hi : Inv S) (ty : TypeId) (o : Op) : Nat1 S (fun K => evVal E S ty o K) := by
  cases o with
  | move x =>
    simp only [evVal]
    have key := self_ok hi x
    cases hp : Px.opd S x with
    | tup ds => exact n_cond n_none (n_k0 rfl)
    | iter s q => exact n_none
    | _ => rw [hp] at key; exact n_k key
  | pick c a b =>
    simp only [evVal]
    cases hp : Px.opd S c with
    | raw v =>
      cases v with
      | bool β =>
        refine n_cond ?_ ?_
        · cases Px.opd S a <;> first | exact n_none | exact n_k0 rfl
        · cases Px.opd S b <;> first | exact n_none | exact n_k0 rfl
      | _ => exact n_none
    | _ => exact n_none
  | assign x =>
    simp only [evVal]
    cases hp : evAsg E S ty x with
    | none => exact n_none
    | some p => exact n_k0 (asg_ref hp)
  | nilCheck x =>
    cases x with
    | tmp s =>
      simp only [evVal]
      cases hp : get S s with
      | obj ss => exact n_k (ref_own (by rw [hp]; rfl) rfl)
      | alias j =>
        try dsimp only
        cases hj : get S j with
        | obj ss => exact n_k (ref_own (by rw [hj]; rfl) rfl)
        | _ => exact n_none
      | _ => exact n_none
    | _ => exact n_none
  | alloc t =>
    simp only [evVal]
    cases E.T t with
    | none => exact n_none
    | some ti => exact n_k0 rfl
  | box t x =>
    simp only [evVal]
    cases Px.opd S x with
    | raw v => exact n_if fun _ => n_k0 rfl
    | arr C n l => exact n_k0 rfl
    | strc ss => exact n_k0 rfl
    | _ => exact n_none
  | build t ps => exact build_nat t _
  | buildSlice t len ps => exact buildSlice_nat t len _
  | load t a => exact load_nat t _
  | binOp op t x y b =>
    simp only [evVal]
    cases hp : Px.opd S x with
    | raw v =>
      cases Px.opd S y with
      | raw u => exact bin_nat _ op v u _
      | _ => exact cmp_nat op t _ _
    | _ => exact cmp_nat op t _ _
  | makeSlice t l c => exact make_nat t _ _ _
  | unOp op t x =>
    simp only [evVal]
    cases Px.opd S x with
    | raw v =>
      try dsimp only
      cases pureVal (Op.unary op v) with
      | none => exact n_none
      | some r => exact n_k0 rfl
    | _ => exact n_none
  | convert a b x => exact convert_nat a b _
  | slice t x lo hi' mx =>
    cases mx with
    | none => exact slice_nat t _ lo hi'
    | some m => exact n_none
  | sliceToArrayPointer t x => exact arrAt_nat t _
  | typeAssert x u t ok => exact ta_nat t ok _
  | makeInterface t x => exact mi_nat t _
  | fieldAddr t x f => exact fieldAddr_nat t _ f
  | indexAddr t x i =>
    simp only [evVal]
    cases asI (Px.opd S i) with
    | none => exact n_none
    | some n => exact indexAddr_nat t _ n
  | index t x i =>
    simp only [evVal]
    cases asI (Px.opd S i) with
    | none => exact n_none
    | some n =>
      cases E.T t with
      | none => exact n_none
      | some ti =>
        try dsimp only
        cases ti.desc with
        | string =>
          cases Px.opd S x with
          | raw v =>
            cases v with
            | string s => exact n_chk (n_k0 rfl)
            | _ => exact n_none
          | _ => exact n_none
        | array n e =>
          cases Px.opd S x with
          | arr C n' l =>
            cases C with
            | sc t => exact n_if fun _ => n_chk (n_k0 rfl)
            | strc fs => exact n_none
          | _ => exact n_none
        | _ => exact n_none
  | extract x i =>
    cases x with
    | tmp s =>
      simp only [evVal]
      cases get S s with
      | raw v =>
        cases v with
        | tuple vs =>
          try dsimp only
          cases vs[i]? with
          | none => exact n_none
          | some v => exact n_k0 rfl
        | _ => exact n_none
      | tup ds =>
        try dsimp only
        cases ds[i]? with
        | none => exact n_none
        | some d => exact n_ite (fun _ => n_none) fun _ => n_k0 (toPV_ref d)
      | _ => exact n_none
    | _ => exact n_none
  | call c =>
    obtain ⟨callee, args, ats⟩ := c
    cases callee with
    | value f =>
      cases f with
      | func f =>
        simp only [evVal]
        cases E.Γ f with
        | none => exact n_none
        | some F =>
          cases evCallArgs S args.toList with
          | none => exact n_none
          | some ds =>
            intro K r h
            obtain ⟨d, hd⟩ := F.nat _ _ _ _ h
            exact ⟨d.toPV, ref0 (dv_ref d), fun K' => hd _⟩
      | _ => exact n_none
    | invoke r m => exact n_none
    | builtin b =>
      cases b with
      | len =>
        simp only [evVal]
        cases args[0]? with
        | none => exact n_none
        | some x =>
          cases ats[0]? with
          | none => exact n_none
          | some t => exact len_nat t _
      | append =>
        simp only [evVal]
        cases args[0]? with
        | none => exact n_none
        | some x =>
          cases args[1]? with
          | none => exact n_none
          | some y =>
            cases ats[0]? with
            | none => exact n_none
            | some t =>
              try dsimp only
              cases ats[1]? with
              | none => exact n_none
              | some t2 =>
                refine n_if fun _ => ?_
                split
                · cases codOf E t with
                  | none => exact n_none
                  | some c =>
                    obtain ⟨C, b⟩ := c
                    refine n_ite (fun _ => n_none) fun _ => ?_
                    cases srcOf E S C (selfAlias y (Px.opd S y)) with
                    | none => exact n_none
                    | some y => exact n_chk (n_k0 rfl)
                · exact n_none
      | _ => exact n_none
  | _ => exact n_none

/-! ### one operation: it puts a value into its slot -/
def setO (S : St) (d : Option Nat) (p : PV) : St := match d with
  | none => S
  | some d => S.set d p
def freeO (S : St) (d : Option Nat) : Prop := ∀ k, d = some k → (get S k).owns = false
theorem setO_len (S : St) (d : Option Nat) (p : PV) : (setO S d p).length = S.length := by cases d <;> simp [setO]
theorem setO_ne {d : Option Nat} {p : PV} {t : Nat} (h : d ≠ some t) : get (setO S d p) t = get S t := by
  cases d with
  | none => rfl
  | some k => exact get_set_ne (fun e => h (by rw [e]))
theorem setO_comm (S : St) {d d' : Option Nat} (p p' : PV) (h : ∀ k, d = some k → d' ≠ some k) : setO (setO S d p) d' p' = setO (setO S d' p') d p := by
  cases d with
  | none => rfl
  | some k =>
    cases d' with
    | none => rfl
    | some k' =>
      have hne : k ≠ k' := fun e => h k rfl (by rw [e])
      exact List.set_comm _ _ hne
theorem put_free {d : Option Nat} {p : PV} (h : freeO S d) : put S d p = setO S d p := by
  cases d with
  | none => rfl
  | some k => simp only [put, setO, kill, h k rfl, Bool.false_eq_true, if_false]
theorem putU_free {d : Option Nat} (h : freeO S d) (K : St → Option ρ) : putU S d K = K (setO S d (.raw undef)) := by
  cases d with
  | none => rfl
  | some k => simp only [putU, pinned_of_owns (h k rfl), cond_false, put_free h]
theorem fin_eq {d : Option Nat} {p : PV} (hf : freeO S d) (hp : RefOk S p) (hl : ∀ k, d = some k → k < S.length) (K : St → Option ρ) : fin d K p S = K (setO S d p) := by
  cases d with
  | none => rfl
  | some k =>
    have e := put_free (p := p) hf
    simp only [setO] at e
    simp only [fin, if_pos (show k < S.length ∧ pinned S k = false from ⟨hl k rfl, pinned_of_owns (hf k rfl)⟩), setO]
    cases hr : p.ref with
    | none => simp only [e]
    | some k' =>
      have hne : k' ≠ k := fun e => by
        have h1 := hp k' hr
        rw [e, hf k rfl] at h1; cases h1
      simp only [if_neg hne, e]
theorem fin_len {d : Option Nat} {p : PV} (h : fin d K p S = some r) : ∀ k, d = some k → k < S.length := fun k hk => by
  subst hk
  unfold fin at h
  split at h
  · rename_i hd
    cases hd
  · rename_i k' hd
    cases hd
    split at h
    · rename_i hh; exact hh.1
    · cases h
theorem get_told {d : Nat} {v : Value} (h : get S d = .raw v) : S.set d (.raw v) = S := by
  have hs := get_of_ne (S := S) (i := d) (by rw [h]; simp)
  rw [h] at hs
  have hl := (List.getElem?_eq_some_iff.1 hs)
  obtain ⟨hl, he⟩ := hl
  rw [← he]
  exact List.set_getElem_self hl

theorem agree_opds {ops : Array Oper} {o : Oper} (h : Agree S S' (o.looksAt ops)) : ∀ x ∈ o.op.operands.toList, AgreeO S S' x := fun x hx t ht =>
  h t (List.mem_append_left _ (List.mem_filterMap.2 ⟨x, hx, by rw [ht]⟩))
theorem agree_guard {ops : Array Oper} {o : Oper} {j : Nat} {want : Bool} {d : Nat} (h : Agree S S' (o.looksAt ops)) (hg : o.guard = some (j, want)) (hd : (ops[j]?).bind (·.dst) = some d) : get S' d = get S d :=
  (h d (List.mem_append_right _ (by rw [hg]; simp [hd]))).1
theorem Agree.refl (ts : List Nat) : Agree S S ts := fun _ _ => ⟨rfl, fun _ _ => rfl⟩

/-- what it puts hangs on what it looks at -/
theorem vstep {ops : Array Oper} {i : Nat} {o : Oper} (hi : Inv S) (hf : freeO S o.dst) (h : evOperV E ops i o S K = some r) :
    ∃ p, RefOk S p ∧ (uniq ops i = true ∨ p.owns = false) ∧ ∀ S', Agree S S' (o.looksAt ops) → S'.length = S.length → Inv S' → freeO S' o.dst → RefOk S' p ∧ ∀ K', evOperV E ops i o S' K' = K' (setO S' o.dst p) := by
  have base : evVal E S o.type o.op (fun p => cond (uniq ops i || !p.owns) (fin o.dst K p S) none) = some r →
      ∃ p, RefOk S p ∧ (uniq ops i = true ∨ p.owns = false) ∧ ∀ S', Agree S S' (o.looksAt ops) → S'.length = S.length → Inv S' → freeO S' o.dst → RefOk S' p ∧ ∀ K', evVal E S' o.type o.op (fun p => cond (uniq ops i || !p.owns) (fin o.dst K' p S') none) = K' (setO S' o.dst p) := fun h => by
    obtain ⟨p, hp, hk⟩ := val_nat hi o.type o.op _ _ h
    dsimp only at hk
    rw [hk] at h
    cases hu : (uniq ops i || !p.owns) with
    | false => rw [hu] at h; cases h
    | true =>
      rw [hu] at h
      simp only [cond_true] at h
      refine ⟨p, hp, ?_, fun S' ha hl hi' hf' => ⟨?_, fun K' => ?_⟩⟩
      · rw [Bool.or_eq_true, Bool.not_eq_true'] at hu; exact hu
      · have key : ∀ K', evVal E S' o.type o.op K' = K' p := fun K' => by rw [evVal_loc o.type o.op (agree_opds ha), hk]
        obtain ⟨p', hp', hk'⟩ := val_nat (E := E) hi' o.type o.op (fun _ => some r) r (by dsimp only; rw [key])
        have e : p' = p := by
          classical
          have h1 := (key (fun q => if q = p then some r else none)).symm.trans (hk' (fun q => if q = p then some r else none))
          simp only [if_true] at h1
          by_cases hpp : p' = p
          · exact hpp
          · rw [if_neg hpp] at h1; cases h1
        rw [← e]; exact hp'
      · rw [evVal_loc o.type o.op (agree_opds ha), hk, hu]
        simp only [cond_true]
        have hlen := fin_len h
        cases hd : o.dst with
        | none => rfl
        | some k =>
          rw [hd] at hf' hlen
          have e := put_free (p := p) hf'
          simp only [setO] at e
          simp only [fin, setO, if_pos (show k < S'.length ∧ pinned S' k = false from ⟨hl ▸ hlen k rfl, pinned_of_owns (hf' k rfl)⟩)]
          cases hr : p.ref with
          | none => simp only [e]
          | some k' =>
            have hne : k' ≠ k := fun e => by
              have h1 := hp k' hr
              rw [e, hf k hd] at h1; cases h1
            simp only [if_neg hne, e]
  unfold evOperV at h
  cases hg : o.guard with
  | none =>
    rw [hg] at h
    obtain ⟨p, h1, h2, h3⟩ := base h
    refine ⟨p, h1, h2, fun S' ha hl hi' hf' => ?_⟩
    unfold evOperV
    rw [hg]
    exact h3 S' ha hl hi' hf'
  | some jw =>
    obtain ⟨j, want⟩ := jw
    rw [hg] at h
    dsimp only at h
    cases hd : (ops[j]?).bind (·.dst) with
    | none => rw [hd] at h; cases h
    | some d =>
      rw [hd] at h
      dsimp only at h
      split at h
      · rename_i β hβ
        have told : ∀ S', get S' d = .raw (.bool β) → ∀ K', evOperV E ops i o S' K' = if β = want then evVal E S' o.type o.op (fun p => cond (uniq ops i || !p.owns) (fin o.dst K' p S') none) else putU S' o.dst K' := fun S' hb K' => by
          unfold evOperV
          rw [hg]
          try dsimp only
          rw [hd]
          try dsimp only
          rw [hb]
          have e := get_told hb
          cases β <;> simp only [cond_true, cond_false, e]
        have hh : evOperV E ops i o S K = some r := by
          unfold evOperV
          rw [hg]
          try dsimp only
          rw [hd]
          try dsimp only
          rw [hβ]
          exact h
        rw [told S hβ] at hh
        by_cases hw : β = want
        · rw [if_pos hw] at hh
          obtain ⟨p, h1, h2, h3⟩ := base hh
          refine ⟨p, h1, h2, fun S' ha hl hi' hf' => ?_⟩
          obtain ⟨g1, g2⟩ := h3 S' ha hl hi' hf'
          refine ⟨g1, fun K' => ?_⟩
          rw [told S' (by rw [agree_guard ha hg hd]; exact hβ), if_pos hw]
          exact g2 K'
        · refine ⟨.raw undef, ref0 rfl, .inr rfl, fun S' ha hl _ hf' => ⟨ref0 rfl, fun K' => ?_⟩⟩
          rw [told S' (by rw [agree_guard ha hg hd]; exact hβ), if_neg hw, putU_free hf']
      · rename_i vs hβ
        refine ⟨.raw undef, ref0 rfl, .inr rfl, fun S' ha hl _ hf' => ⟨ref0 rfl, fun K' => ?_⟩⟩
        unfold evOperV
        rw [hg]
        dsimp only
        rw [hd]
        dsimp only
        rw [agree_guard ha hg hd, hβ]
        dsimp only
        rw [putU_free hf']
      · cases h

/-! ### the same in another order -/
theorem inv_set {d : Option Nat} {p : PV} (hi : Inv S) (hf : freeO S d) (hp : RefOk S p) : Inv (setO S d p) := fun i q k hq hk => by
  have hown : (get S k).owns = true := by
    cases d with
    | none => exact hi i q k hq hk
    | some d =>
      by_cases e : d = i
      · subst e
        simp only [setO] at hq
        by_cases hl : d < S.length
        · rw [List.getElem?_set_self hl] at hq
          cases hq
          exact hp k hk
        · rw [List.getElem?_eq_none (by simpa using Nat.le_of_not_lt hl)] at hq; cases hq
      · simp only [setO] at hq
        rw [List.getElem?_set_ne e] at hq
        exact hi i q k hq hk
  rw [setO_ne]
  · exact hown
  · intro e
    rw [hf k e] at hown; cases hown
theorem dstOf_eq {ops : Array Oper} {i : Nat} {o : Oper} (h : ops[i]? = some o) : dstOf ops i = o.dst := by simp [dstOf, h]
theorem free_cons {ops : Array Oper} {i : Nat} {l : List Nat} : free ops (i :: l) S = true ↔ (alone ops i = false → freeO S (dstOf ops i)) ∧ free ops l S = true := by
  unfold free freeO
  rw [List.all_cons, Bool.and_eq_true]
  refine and_congr_left fun _ => ?_
  cases hd : dstOf ops i with
  | none => simp
  | some d => cases ha : alone ops i <;> simp
theorem free_app {ops : Array Oper} {l m : List Nat} : free ops (l ++ m) S = true ↔ free ops l S = true ∧ free ops m S = true := by
  unfold free
  rw [List.all_append, Bool.and_eq_true]
theorem free_mem {ops : Array Oper} {l : List Nat} : free ops l S = true ↔ ∀ i ∈ l, alone ops i = false → freeO S (dstOf ops i) := by
  induction l with
  | nil => simp [free]
  | cons a l ih => rw [free_cons, ih]; simp
theorem free_set {ops : Array Oper} {i : Nat} {l : List Nat} {p : PV} (hf : free ops l S = true) (hl : ∀ j ∈ l, j < ops.size ∧ j ≠ i) (hu : uniq ops i = true ∨ p.owns = false) : free ops l (setO S (dstOf ops i) p) = true :=
  free_mem.2 fun j hj haj k hk => by
    by_cases e : dstOf ops i = some k
    · rw [e]
      rcases hu with hu | hu
      · exfalso
        have := List.all_eq_true.1 hu j (List.mem_range.2 (hl j hj).1)
        simp [(hl j hj).2, e, hk] at this
      · by_cases hlt : k < S.length
        · simp only [setO]; rw [get_set_same hlt]; exact hu
        · simp only [setO]; rw [get_none (by simpa using Nat.le_of_not_lt hlt)]; rfl
    · rw [setO_ne e]; exact free_mem.1 hf j hj haj k hk
theorem agree_set {ts : List Nat} {d : Option Nat} {p : PV} (hi : Inv S) (hf : freeO S d) (hd : ∀ k, d = some k → k ∉ ts) : Agree S (setO S d p) ts := fun t ht => by
  refine ⟨setO_ne fun e => hd t e ht, fun k hk => setO_ne fun e => ?_⟩
  have h1 : (get S k).owns = true := by
    cases hs : S[t]? with
    | none => rw [get_none hs] at hk; cases hk
    | some q => rw [get_eq hs] at hk; exact hi t q k hs hk
  rw [hf k e] at h1; cases h1
/-- back again -/
theorem agree_back {ts : List Nat} {d : Option Nat} {p : PV} (hi : Inv S) (hf : freeO S d) (hd : ∀ k, d = some k → k ∉ ts) : Agree (setO S d p) S ts := fun t ht => by
  obtain ⟨h1, h2⟩ := agree_set (p := p) hi hf hd t ht
  exact ⟨h1.symm, fun k hk => by rw [h1] at hk; exact (h2 k hk).symm⟩
theorem store_nat {t : TypeId} {p x : PV} (h : evStore E S t p x K = some r) : ∃ k q, p.ref = some k ∧ q.owns = true ∧ q.ref = none ∧ (get S k).owns = true ∧ ∀ S', get S' k = get S k → ∀ K', evStore E S' t p x K' = K' (S'.set k q) := by
  unfold evStore at h
  cases hT : E.T t with
  | none => rw [hT] at h; cases h
  | some ti =>
    rw [hT] at h
    dsimp only at h
    split at h
    · rename_i k
      split at h
      · rename_i C n l C' n' l' hg
        split at h
        · rename_i hc
          exact ⟨k, .obj [.arr C' n' l'], rfl, rfl, rfl, by rw [hg]; rfl, fun S' hS K' => by simp [evStore, hT, hS, hg, hc]⟩
        · cases h
      · rename_i v0 v hg
        split at h
        · rename_i hc
          exact ⟨k, .obj [.one v], rfl, rfl, rfl, by rw [hg]; rfl, fun S' hS K' => by simp [evStore, hT, hS, hg, hc]⟩
        · cases h
      · rename_i _ _ ss ss' hg
        split at h
        · rename_i hc
          refine ⟨k, .obj ss', rfl, rfl, rfl, by rw [hg]; rfl, fun S' hS K' => ?_⟩
          simp [evStore, hT, hS, hg, hc]
        · cases h
      · cases h
    · rename_i k g idx
      split at h
      · rename_i c l hg
        split at h
        · rename_i hc
          split at h
          · rename_i v
            cases hd : c.dec v with
            | none => rw [hd] at h; cases h
            | some y => exact ⟨k, .own (.sc c) (l.set idx y), rfl, rfl, rfl, by rw [hg]; rfl, fun S' hS K' => by simp [evStore, hT, hS, hg, hc, hd]⟩
          · cases h
        · cases h
      · rename_i ss hg
        split at h
        · rename_i v0 hs
          split at h
          · rename_i hc
            split at h
            · rename_i v
              split at h
              · rename_i hv
                exact ⟨k, .obj (ss.set g (.one v)), rfl, rfl, rfl, by rw [hg]; rfl, fun S' hS K' => by simp [evStore, hT, hS, hg, hc, hs, hv]⟩
              · cases h
            · cases h
          · cases h
        · rename_i c n l hs
          split at h
          · rename_i v
            split at h
            · rename_i hc
              cases hd : c.dec v with
              | none => rw [hd] at h; cases h
              | some y => exact ⟨k, .obj (ss.set g (.arr (.sc c) n (l.set idx y))), rfl, rfl, rfl, by rw [hg]; rfl, fun S' hS K' => by simp [evStore, hT, hS, hg, hs, hc, hd]⟩
            · cases h
          · rename_i C' n' l'
            split at h
            · rename_i hc
              exact ⟨k, .obj (ss.set g (.arr C' n' l')), rfl, rfl, rfl, by rw [hg]; rfl, fun S' hS K' => by simp [evStore, hT, hS, hg, hs, hc]⟩
            · cases h
          · cases h
        · cases h
      · cases h
    · cases h
theorem isStore_op {ops : Array Oper} {i : Nat} {o : Oper} (ho : ops[i]? = some o) (h : isStore ops i = true) : ∃ t a x, o.op = .store t a x ∧ o.guard = none ∧ o.dst = none := by
  unfold isStore at h
  rw [ho] at h
  dsimp only at h
  split at h
  · rename_i t a x h1 h2 h3; exact ⟨t, a, x, h1, h2, h3⟩
  · cases h
theorem unord_comm (ops : Array Oper) (i j : Nat) : unord ops i j = unord ops j i := by
  unfold unord
  rw [Bool.or_comm (aftT ops i j), show (j == i) = (i == j) from Bool.beq_comm]
theorem looksOf_eq {ops : Array Oper} {i : Nat} {o : Oper} (h : ops[i]? = some o) : looksOf ops i = o.looksAt ops := by simp [looksOf, h]
/-- what an operation does that may be drawn about -/
inductive DStep (E : Env ρ) (ops : Array Oper) (i : Nat) (o : Oper) (S : St) : Option Nat → PV → Prop
  | val (p : PV) (hs : isStore ops i = false) (hp : RefOk S p) (hu : uniq ops i = true ∨ p.owns = false) (hn : byStore ops i = true → noRefs S (o.looksAt ops) = true)
      (ht : ∀ S', Agree S S' (o.looksAt ops) → S'.length = S.length → Inv S' → freeO S' o.dst → RefOk S' p ∧ ∀ K' : St → Option ρ, evOperV E ops i o S' K' = K' (setO S' o.dst p)) : DStep E ops i o S o.dst p
  | sto (k : Nat) (q : PV) (hs : isStore ops i = true) (hq : q.owns = true) (hr : q.ref = none) (hk : (get S k).owns = true)
      (hj : ∀ j, j < ops.size → unord ops i j = true → isStore ops j = false ∧ k ∉ looksOf ops j)
      (hks : ∀ S1 : St, (∀ t ∈ o.looksAt ops, get S1 t = get S t) → Inv S1 → (get S1 k).owns = true)
      (ht : ∀ S', (∀ t ∈ o.looksAt ops, get S' t = get S t) → get S' k = get S k → ∀ K' : St → Option ρ, stepS E ops i o S' K' = K' (S'.set k q)) : DStep E ops i o S (some k) q
theorem inv_sto {k : Nat} {q : PV} (hi : Inv S) (hq : q.owns = true) (hr : q.ref = none) (hk : (get S k).owns = true) : Inv (S.set k q) := fun i p j hp hj => by
  have hkl : k < S.length := (List.getElem?_eq_some_iff.1 (get_some hk)).1
  by_cases hik : i = k
  · subst hik
    rw [List.getElem?_set_self hkl] at hp
    cases hp
    rw [hr] at hj; cases hj
  · rw [List.getElem?_set_ne (Ne.symm hik)] at hp
    have := hi i p j hp hj
    by_cases hjk : j = k
    · subst hjk; rw [get_set_same hkl]; exact hq
    · rw [get_set_ne hjk]; exact this
theorem self_ref {x : Operand} {k : Nat} (h : (selfAlias x (Px.opd S x)).ref = some k) : ∃ s, x = .tmp s ∧ (k = s ∧ (get S s).owns = true ∨ (get S s).ref = some k) := by
  cases x with
  | tmp s =>
    refine ⟨s, rfl, ?_⟩
    have h : (selfAlias (.tmp s) (get S s)).ref = some k := h
    cases hp : get S s <;> rw [hp] at h <;> simp only [selfAlias, PV.ref, Option.some.injEq, reduceCtorEq] at h <;> first
      | exact .inl ⟨h.symm, rfl⟩
      | exact .inr (by simp only [PV.ref, h])
  | const c => cases h
  | global g => cases h
  | func f => cases h
theorem looks_mem {ops : Array Oper} {o : Oper} {s : Nat} (h : Operand.tmp s ∈ o.op.operands.toList) : s ∈ o.looksAt ops := by
  unfold Oper.looksAt
  exact List.mem_append_left _ (List.mem_filterMap.2 ⟨_, h, rfl⟩)
theorem dstep {ops : Array Oper} {i : Nat} {o : Oper} (ho : ops[i]? = some o) (hai : isStore ops i = false → isApp ops i = false) (hi : Inv S) (hf : freeO S o.dst) (h : evD E ops i o S K = some r) : ∃ t p, DStep E ops i o S t p ∧ ∀ K' : St → Option ρ, evD E ops i o S K' = K' (setO S t p) := by
  unfold evD at h ⊢
  cases hs : isStore ops i with
  | true =>
    rw [hs] at h
    simp only [cond_true] at h ⊢
    obtain ⟨t, a, x, h1, h2, h3⟩ := isStore_op ho hs
    unfold stepS at h
    rw [h1] at h
    dsimp only at h
    split at h
    · rename_i k hk
      cases hc : ((List.range ops.size).all fun j => !unord ops i j || (!isStore ops j && !(looksOf ops j).contains k)) with
      | false => rw [hc] at h; cases h
      | true =>
        rw [hc] at h
        simp only [cond_true] at h
        obtain ⟨k', q, g1, g2, g3, g4, g5⟩ := store_nat h
        rw [hk] at g1; cases g1
        obtain ⟨s, hx, hsr⟩ := self_ref hk
        have hsm : s ∈ o.looksAt ops := looks_mem (by rw [h1, hx]; simp [Op.operands])
        have ht : ∀ S', (∀ t ∈ o.looksAt ops, get S' t = get S t) → get S' k = get S k → ∀ K' : St → Option ρ, stepS E ops i o S' K' = K' (S'.set k q) := fun S' ha hk' K' => by
          have ea : Px.opd S' a = Px.opd S a := by rw [hx]; exact ha s hsm
          have ex : Px.opd S' x = Px.opd S x := by
            cases x with
            | tmp u => exact ha u (looks_mem (by rw [h1]; simp [Op.operands]))
            | _ => rfl
          unfold stepS
          rw [h1]
          dsimp only
          rw [ea, hk]
          dsimp only
          rw [hc, ex]
          exact g5 S' hk' K'
        refine ⟨some k, q, .sto k q hs g2 g3 g4 (fun j hj hu => ?_) (fun S1 ha hi1 => ?_) ht, fun K' => ht S (fun _ _ => rfl) rfl K'⟩
        · have := List.all_eq_true.1 hc j (List.mem_range.2 hj)
          rw [hu] at this
          simpa using this
        · have e := ha s hsm
          rcases hsr with ⟨rfl, hown⟩ | hsr
          · rw [e]; exact hown
          · have hr1 : (get S1 s).ref = some k := by rw [e]; exact hsr
            have hnj : get S1 s ≠ .junk := fun hj => by rw [hj] at hr1; cases hr1
            exact hi1 s _ k (get_of_ne hnj) hr1
    · cases h
  | false =>
    rw [hs, hai hs] at h
    rw [hai hs]
    simp only [cond_false] at h ⊢
    cases hb : (!byStore ops i || noRefs S (looksOf ops i)) with
    | false => rw [hb] at h; cases h
    | true =>
      rw [hb] at h
      simp only [cond_true] at h ⊢
      obtain ⟨p, h1, h2, h3⟩ := vstep hi hf h
      refine ⟨o.dst, p, .val p hs h1 h2 (fun hbs => ?_) h3, (h3 S (Agree.refl _) rfl hi hf).2⟩
      rw [hbs] at hb
      rw [looksOf_eq ho] at hb
      simpa using hb
theorem noRefs_get {ts : List Nat} (h : noRefs S ts = true) {t : Nat} (ht : t ∈ ts) : (get S t).ref = none := by
  have := List.all_eq_true.1 h t ht
  cases hr : (get S t).ref with
  | none => rfl
  | some k => rw [hr] at this; cases this
theorem noRefs_agree {ts : List Nat} (h : ∀ t ∈ ts, get S' t = get S t) : noRefs S' ts = noRefs S ts := by
  unfold noRefs
  rw [Bool.eq_iff_iff, List.all_eq_true, List.all_eq_true]
  exact ⟨fun hh t ht => by rw [← h t ht]; exact hh t ht, fun hh t ht => by rw [h t ht]; exact hh t ht⟩
theorem freeO_set {d t : Option Nat} {p : PV} (h : freeO S d) (hne : ∀ k, d = some k → t ≠ some k) : freeO (setO S t p) d := fun k hk => by
  rw [setO_ne (hne k hk)]; exact h k hk
/-- two that stand apart, in either order -/
theorem swap {ops : Array Oper} {i j : Nat} {oi oj : Oper} (hoi : ops[i]? = some oi) (hoj : ops[j]? = some oj) (hin : i < ops.size) (hjn : j < ops.size) (hai : isApp ops i = false) (haj : isApp ops j = false) (hun : unord ops j i = true) (hap : oj.apart ops oi = true) (hi : Inv S) (hfj : freeO S oj.dst) (hfi : freeO S oi.dst)
    (h : evD E ops j oj S (fun S1 => evD E ops i oi S1 K) = some r) : evD E ops i oi S (fun S1 => evD E ops j oj S1 K) = some r := by
  obtain ⟨a1, a2, a3⟩ := Oper.apart_spec hap
  obtain ⟨tj, pj, dj, ej⟩ := dstep hoj (fun _ => haj) hi hfj h
  rw [ej] at h
  have hun' : unord ops i j = true := by rw [unord_comm]; exact hun
  cases dj with
  | val _ hsj hpj huj hnj htj =>
    have hi1 : Inv (setO S oj.dst pj) := inv_set hi hfj hpj
    have hfi1 : freeO (setO S oj.dst pj) oi.dst := freeO_set hfi fun k hk e => a2 k e hk
    obtain ⟨ti, pi, di, ei⟩ := dstep hoi (fun _ => hai) hi1 hfi1 h
    rw [ei] at h
    have hget : ∀ t ∈ oi.looksAt ops, get S t = get (setO S oj.dst pj) t := fun t ht => (setO_ne fun e => a1 t e ht).symm
    cases di with
    | val _ hsi hpi hui hni hti =>
      obtain ⟨hpi0, hsi'⟩ := hti S (agree_back hi hfj a1) (by rw [setO_len]) hi hfi
      have hni0 : (!byStore ops i || noRefs S (looksOf ops i)) = true := by
        cases hb : byStore ops i with
        | false => rfl
        | true =>
          rw [looksOf_eq hoi, noRefs_agree hget, hni hb]; rfl
      unfold evD
      rw [hsi, hai, hni0]
      simp only [cond_false, cond_true]
      rw [hsi']
      have hi2 : Inv (setO S oi.dst pi) := inv_set hi hfi hpi0
      have hfj2 : freeO (setO S oi.dst pi) oj.dst := freeO_set hfj fun k hk e => a2 k hk e
      have hget2 : ∀ t ∈ oj.looksAt ops, get (setO S oi.dst pi) t = get S t := fun t ht => setO_ne fun e => a3 t e ht
      have hnj0 : (!byStore ops j || noRefs (setO S oi.dst pi) (looksOf ops j)) = true := by
        cases hb : byStore ops j with
        | false => rfl
        | true =>
          rw [looksOf_eq hoj, noRefs_agree hget2, hnj hb]; rfl
      rw [hsj, haj, hnj0]
      simp only [cond_false, cond_true]
      rw [(htj _ (agree_set hi hfi a3) (by rw [setO_len]) hi2 hfj2).2, ← setO_comm S pj pi (fun k hk => a2 k hk)]
      exact h
    | sto k _ hsi hq hr hk hjj hks hti =>
      obtain ⟨_, hkj⟩ := hjj j hjn hun'
      rw [looksOf_eq hoj] at hkj
      have hkS : (get S k).owns = true := hks S hget hi
      have hne : ∀ m, oj.dst = some m → m ≠ k := fun m hm e => by subst e; rw [hfj m hm] at hkS; cases hkS
      have hgk : get S k = get (setO S oj.dst pj) k := (setO_ne fun e => hne k e rfl).symm
      have hbj : byStore ops j = true := List.any_eq_true.2 ⟨i, List.mem_range.2 hin, by rw [hun, hsi]; rfl⟩
      have hnr := hnj hbj
      have hkl : k < S.length := (List.getElem?_eq_some_iff.1 (get_some hkS)).1
      have hget2 : ∀ t ∈ oj.looksAt ops, get (S.set k pi) t = get S t := fun t ht => get_set_ne fun e => hkj (e ▸ ht)
      have hag : Agree S (S.set k pi) (oj.looksAt ops) := fun t ht => ⟨hget2 t ht, fun m hm => by rw [noRefs_get hnr ht] at hm; cases hm⟩
      have hi2 : Inv (S.set k pi) := inv_sto hi hq hr hkS
      have hfj2 : freeO (S.set k pi) oj.dst := freeO_set (t := some k) (p := pi) hfj fun m hm e => hne m hm (by cases e; rfl)
      unfold evD
      rw [hsi, hsj, haj]
      simp only [cond_true, cond_false]
      rw [hti S hget hgk]
      have hnj0 : (!byStore ops j || noRefs (S.set k pi) (looksOf ops j)) = true := by
        rw [looksOf_eq hoj, noRefs_agree hget2, hnr]; simp
      rw [hnj0]
      simp only [cond_true]
      rw [(htj _ hag (by simp) hi2 hfj2).2]
      have := setO_comm S (d := oj.dst) (d' := some k) pj pi (fun m hm e => hne m hm (by cases e; rfl))
      simp only [setO] at this h ⊢
      rw [← this]; exact h
  | sto k _ hsj hq hr hk hjj hks htj =>
    obtain ⟨hsi, hki⟩ := hjj i hin hun
    rw [looksOf_eq hoi] at hki
    have hne : ∀ m, oi.dst = some m → m ≠ k := fun m hm e => by subst e; rw [hfi m hm] at hk; cases hk
    have hi1 : Inv (setO S (some k) pj) := inv_sto hi hq hr hk
    have hfi1 : freeO (setO S (some k) pj) oi.dst := freeO_set hfi fun m hm e => hne m hm (by cases e; rfl)
    obtain ⟨ti, pi, di, ei⟩ := dstep hoi (fun _ => hai) hi1 hfi1 h
    rw [ei] at h
    have hget : ∀ t ∈ oi.looksAt ops, get S t = get (setO S (some k) pj) t := fun t ht => (setO_ne fun e => hki (by cases e; exact ht)).symm
    cases di with
    | sto k2 q2 hsi2 => rw [hsi] at hsi2; cases hsi2
    | val _ hsi2 hpi hui hni hti =>
      have hbi : byStore ops i = true := List.any_eq_true.2 ⟨j, List.mem_range.2 hjn, by rw [hun', hsj]; rfl⟩
      have hnr := hni hbi
      have hag : Agree (setO S (some k) pj) S (oi.looksAt ops) := fun t ht => ⟨hget t ht, fun m hm => by rw [noRefs_get hnr ht] at hm; cases hm⟩
      obtain ⟨hpi0, hsi'⟩ := hti S hag (by rw [setO_len]) hi hfi
      have hni0 : (!byStore ops i || noRefs S (looksOf ops i)) = true := by
        rw [looksOf_eq hoi, noRefs_agree hget, hnr]; simp
      unfold evD
      rw [hsi, hsj, hai, hni0]
      simp only [cond_true, cond_false]
      rw [hsi']
      rw [htj (setO S oi.dst pi) (fun t ht => setO_ne fun e => a3 t e ht) (setO_ne fun e => hne k e rfl)]
      have := setO_comm S (d := oi.dst) (d' := some k) pi pj (fun m hm e => hne m hm (by cases e; rfl))
      simp only [setO] at this h ⊢
      rw [this]; exact h
/-! ### an append that uses up what it is appended to -/
theorem isApp_op {ops : Array Oper} {i : Nat} {o : Oper} (ho : ops[i]? = some o) (h : isApp ops i = true) : ∃ args ats s d, o.op = .call { callee := .builtin .append, args := args, argTypes := ats } ∧ o.guard = none ∧ o.dst = some d ∧ args[0]? = some (.tmp s) ∧ uniq ops i = true ∧ ∀ j, j < i → aftT ops i j = true := by
  unfold isApp at h
  rw [ho] at h
  dsimp only at h
  split at h
  · rename_i args ats d h1 h2 h3
    split at h
    · rename_i s h4
      rw [Bool.and_eq_true, List.all_eq_true] at h
      exact ⟨args, ats, s, d, h1, h2, h3, h4, h.1, fun j hj => h.2 j (List.mem_range.2 hj)⟩
    · cases h
  · cases h
theorem store_app {ops : Array Oper} {i : Nat} {o : Oper} (ho : ops[i]? = some o) (h : isStore ops i = true) : isApp ops i = false := by
  obtain ⟨t, a, x, h1, h2, h3⟩ := isStore_op ho h
  unfold isApp
  rw [ho]
  dsimp only
  rw [h1]
theorem kill_setO {k : Nat} {d : Option Nat} {p : PV} (hk : (get S k).owns = true) (hd : ∀ m, d = some m → m ≠ k) (hp : p.ref ≠ some k) : kill (setO S d p) k = setO (kill S k) d p := by
  cases d with
  | none => rfl
  | some m =>
    have hm := hd m rfl
    simp only [setO]
    unfold kill
    rw [get_set_ne (Ne.symm hm), if_pos hk, if_pos hk, List.map_set, show kill1 k p = p by unfold kill1; rw [if_neg hp], List.set_comm _ _ hm]
theorem get_kill {k t : Nat} (ht : t ≠ k) (hk : (get S k).owns = true) : get (kill S k) t = kill1 k (get S t) := by
  unfold kill
  rw [if_pos hk, get_set_ne ht, get_map rfl]
theorem get_kill_same {k : Nat} (hk : (get S k).owns = true) : get (kill S k) k = .junk := by
  have hkl : k < S.length := (List.getElem?_eq_some_iff.1 (get_some hk)).1
  unfold kill
  rw [if_pos hk, get_set_same (by simpa using hkl)]
theorem kill1_own {k : Nat} {p : PV} (h : p.owns = false) : (kill1 k p).owns = false := by
  unfold kill1; split
  · rfl
  · exact h
theorem freeO_kill {k : Nat} {d : Option Nat} (hk : (get S k).owns = true) (h : freeO S d) : freeO (kill S k) d := fun m hm => by
  by_cases e : m = k
  · subst e; rw [get_kill_same hk]; rfl
  · rw [get_kill e hk]; exact kill1_own (h m hm)
theorem inv_kill {k : Nat} (hi : Inv S) (hk : (get S k).owns = true) : Inv (kill S k) := fun i p j hp hj => by
  have hg := get_eq hp
  by_cases e : i = k
  · subst e; rw [get_kill_same hk] at hg; rw [← hg] at hj; cases hj
  · rw [get_kill e hk] at hg
    rw [← hg] at hj
    obtain ⟨h1, h2⟩ := kill1_ref hj
    have hn : get S i ≠ .junk := fun e => by rw [e] at h1; cases h1
    have := hi i _ j (get_of_ne hn) h1
    rw [get_kill h2 hk, kill1_owns this]; exact this
theorem app_step {ops : Array Oper} {i : Nat} {o : Oper} (ho : ops[i]? = some o) (hi : Inv S) (hf : freeO S o.dst) (hs : isStore ops i = false) (ha : isApp ops i = true) (h : evD E ops i o S K = some r) :
    ∃ k q, PV.owns q = true ∧ PV.ref q = none ∧ (get S k).owns = true ∧ (∀ m, o.dst = some m → m ≠ k) ∧ appOk ops i S k = true ∧
      ∀ S', Agree S S' (o.looksAt ops) → S'.length = S.length → freeO S' o.dst → appOk ops i S' k = true → ∀ K' : St → Option ρ, evD E ops i o S' K' = K' (setO (kill S' k) o.dst q) := by
  obtain ⟨args, ats, s, d, hop, hg, hd, h0, hu, _⟩ := isApp_op ho ha
  have hev : ∀ (S' : St) (K' : St → Option ρ), evD E ops i o S' K' = stepA E ops i o S' K' := fun S' K' => by unfold evD; rw [hs, ha]; rfl
  rw [hev] at h
  simp only [hev]
  have hst : ∀ (S' : St) (K' : St → Option ρ), stepA E ops i o S' K' = match args[1]?, ats[0]?, ats[1]? with
    | some y, some t, some t2 => (match appAt S' s with
      | some k => cond (okSrc E t2 && appOk ops i S' k) (evAppend E S' t (.tmp s) y (fin o.dst K')) none
      | none => none)
    | _, _, _ => none := fun S' K' => by
    unfold stepA
    rw [hop]
    dsimp only
    rw [h0]
    cases args[1]? with
    | none => rfl
    | some y =>
      cases ats[0]? with
      | none => rfl
      | some t =>
        cases ats[1]? with
        | none => rfl
        | some t2 => rfl
  rw [hst] at h
  simp only [hst]
  cases h1 : args[1]? with
  | none => rw [h1] at h; cases h
  | some y =>
    cases h2 : ats[0]? with
    | none => rw [h1, h2] at h; cases h
    | some t =>
      cases h3 : ats[1]? with
      | none => rw [h1, h2, h3] at h; cases h
      | some t2 =>
        rw [h1, h2, h3] at h
        dsimp only at h ⊢
        cases hk : appAt S s with
        | none => rw [hk] at h; cases h
        | some k =>
          rw [hk] at h
          dsimp only at h
          cases hok : okSrc E t2 with
          | false => rw [hok] at h; cases h
          | true =>
            rw [hok, Bool.true_and] at h
            cases hap : appOk ops i S k with
            | false => rw [hap] at h; cases h
            | true =>
              rw [hap] at h
              simp only [cond_true] at h
              have hopm : ∀ (n : Nat) x, args[n]? = some x → x ∈ o.op.operands.toList := fun n x hx => by
                rw [hop]
                simp only [Op.operands, Call.operands]
                have := Array.mem_of_getElem? hx
                simp [this]
              have hsl : s ∈ o.looksAt ops := looks_mem (hopm 0 _ h0)
              have hyl : y ∈ o.op.operands.toList := hopm 1 _ h1
              obtain ⟨C, l, hkC, hks⟩ : ∃ C l, get S k = .own C l ∧ (get S s = .own C l ∧ k = s ∨ get S s = .alias k) := by
                unfold appAt at hk
                split at hk
                · rename_i C l hh; cases hk; exact ⟨C, l, hh, .inl ⟨hh, rfl⟩⟩
                · rename_i j hh
                  split at hk
                  · rename_i C l hh2; cases hk; exact ⟨C, l, hh2, .inr hh⟩
                  · cases hk
                · cases hk
              have hko : (get S k).owns = true := by rw [hkC]; rfl
              have hdk : ∀ m, o.dst = some m → m ≠ k := fun m hm e => by subst e; rw [hf m hm] at hko; cases hko
              have hform : ∀ (S' : St) (K' : St → Option ρ), get S' s = get S s → get S' k = get S k → evAppend E S' t (.tmp s) y (fin o.dst K') = match codOf E t with
                  | none => none
                  | some (C0, bytes) => if bytes = 0 then none else match srcOf E S' C0 (selfAlias y (Px.opd S' y)) with
                    | none => none
                    | some ys => if h : C = C0 then chk (room C0 bytes (h ▸ l) ys) (fin o.dst K' (.own C0 ((h ▸ l) ++ ys)) (kill S' k)) else none := fun S' K' e1 e2 => by
                unfold evAppend
                have eo : Px.opd S' (.tmp s) = get S s := e1
                have ek : get S' k = .own C l := by rw [e2, hkC]
                rw [eo]
                rcases hks with ⟨hh, rfl⟩ | hh
                · rw [hh]
                  simp only [ek]
                  rfl
                · rw [hh]
                  simp only [ek]
                  rfl
              rw [hform S K rfl rfl] at h
              cases hco : codOf E t with
              | none => rw [hco] at h; cases h
              | some Cb =>
                obtain ⟨C0, bytes⟩ := Cb
                rw [hco] at h
                dsimp only at h
                split at h
                · cases h
                · rename_i hb
                  cases hsrc : srcOf E S C0 (selfAlias y (Px.opd S y)) with
                  | none => rw [hsrc] at h; cases h
                  | some ys =>
                    rw [hsrc] at h
                    dsimp only at h
                    split at h
                    · rename_i hC
                      subst hC
                      dsimp only at h
                      cases hrm : room C bytes l ys with
                      | false => rw [hrm] at h; cases h
                      | true =>
                        rw [hrm] at h
                        have h : fin o.dst K (.own C (l ++ ys)) (kill S k) = some r := h
                        refine ⟨k, .own C (l ++ ys), rfl, rfl, hko, hdk, hap, fun S' hag hlen hf' hap' K' => ?_⟩
                        obtain ⟨e1, e2⟩ := hag s hsl
                        have ek : get S' k = get S k := by
                          rcases hks with ⟨_, rfl⟩ | hh
                          · exact e1
                          · exact e2 k (by rw [hh]; rfl)
                        have hk' : appAt S' s = some k := by
                          unfold appAt
                          rw [e1]
                          rcases hks with ⟨hh, rfl⟩ | hh
                          · rw [hh]
                          · rw [hh]; dsimp only; rw [ek, hkC]
                        have hay : AgreeO S S' y := agree_opds hag y hyl
                        rw [hk']
                        dsimp only
                        rw [hap', Bool.true_and, cond_true, hform S' K' e1 ek, hco]
                        dsimp only
                        rw [if_neg hb, hay.opd, srcOf_loc hay.self, hsrc]
                        dsimp only
                        rw [dif_pos rfl]
                        have hko' : (get S' k).owns = true := by rw [ek]; exact hko
                        show chk (room C bytes l ys) _ = _
                        rw [hrm]
                        show fin o.dst K' (.own C (l ++ ys)) (kill S' k) = _
                        exact fin_eq (freeO_kill hko' hf') (fun m hm => by cases hm) (fun m hm => by rw [kill_length, hlen, ← kill_length S k]; exact fin_len h m hm) K'
                    · cases h
theorem appOk_mem {ops : Array Oper} {j i k : Nat} (h : appOk ops j S k = true) (hin : i < ops.size) (hun : unord ops j i = true) : isStore ops i = false ∧ isApp ops i = false ∧ ∀ t ∈ looksOf ops i, t ≠ k ∧ (get S t).ref ≠ some k := by
  have := List.all_eq_true.1 h i (List.mem_range.2 hin)
  rw [hun] at this
  simp only [Bool.not_true, Bool.false_or, Bool.and_eq_true, Bool.not_eq_true', List.all_eq_true, bne_iff_ne] at this
  exact this
theorem inv_app {k : Nat} {d : Option Nat} {q : PV} (hi : Inv S) (hf : freeO S d) (hk : (get S k).owns = true) (hr : q.ref = none) : Inv (setO (kill S k) d q) :=
  inv_set (inv_kill hi hk) (freeO_kill hk hf) fun m hm => by rw [hr] at hm; cases hm
theorem swapA {ops : Array Oper} {i j : Nat} {oi oj : Oper} (hoi : ops[i]? = some oi) (hoj : ops[j]? = some oj) (hin : i < ops.size) (hsj : isStore ops j = false) (haj : isApp ops j = true) (hun : unord ops j i = true) (hap : oj.apart ops oi = true) (hi : Inv S) (hfj : freeO S oj.dst) (hfi : freeO S oi.dst)
    (h : evD E ops j oj S (fun S1 => evD E ops i oi S1 K) = some r) : evD E ops i oi S (fun S1 => evD E ops j oj S1 K) = some r := by
  obtain ⟨a1, a2, a3⟩ := Oper.apart_spec hap
  obtain ⟨k, q, hq, hqr, hko, hdk, hok, hnat⟩ := app_step hoj hi hfj hsj haj h
  rw [hnat S (Agree.refl _) rfl hfj hok] at h
  obtain ⟨hsi, hai, hlk⟩ := appOk_mem hok hin hun
  rw [looksOf_eq hoi] at hlk
  have hi4 := inv_app (q := q) hi hfj hko hqr
  have hfi4 : freeO (setO (kill S k) oj.dst q) oi.dst := freeO_set (freeO_kill hko hfi) fun m hm e => a2 m e hm
  obtain ⟨ti, pi, di, ei⟩ := dstep hoi (fun _ => hai) hi4 hfi4 h
  rw [ei] at h
  have hg4 : ∀ t, t ≠ k → oj.dst ≠ some t → (get S t).ref ≠ some k → get (setO (kill S k) oj.dst q) t = get S t := fun t h1 h2 h3 => by
    rw [setO_ne h2, get_kill h1 hko]; unfold kill1; rw [if_neg h3]
  have hget : ∀ t ∈ oi.looksAt ops, get S t = get (setO (kill S k) oj.dst q) t := fun t ht => (hg4 t (hlk t ht).1 (fun e => a1 t e ht) (hlk t ht).2).symm
  cases di with
  | sto k2 q2 hsi2 => rw [hsi] at hsi2; cases hsi2
  | val _ hsi2 hpi hui hni hti =>
    have hag : Agree (setO (kill S k) oj.dst q) S (oi.looksAt ops) := fun t ht => ⟨hget t ht, fun m hm => by
      rw [← hget t ht] at hm
      have hn : get S t ≠ .junk := fun e => by rw [e] at hm; cases hm
      have hmo := hi t _ m (get_of_ne hn) hm
      have hmk : m ≠ k := fun e => (hlk t ht).2 (by rw [hm, e])
      have hmd : oj.dst ≠ some m := fun e => by rw [hfj m e] at hmo; cases hmo
      rw [setO_ne hmd, kill_get hmk hmo]⟩
    obtain ⟨hpi0, hsi'⟩ := hti S hag (by rw [setO_len, kill_length]) hi hfi
    have hni0 : (!byStore ops i || noRefs S (looksOf ops i)) = true := by
      cases hb : byStore ops i with
      | false => rfl
      | true => rw [looksOf_eq hoi, noRefs_agree hget, hni hb]; rfl
    have hdi : ∀ m, oi.dst = some m → m ≠ k := fun m hm e => by subst e; rw [hfi m hm] at hko; cases hko
    have hpk : pi.ref ≠ some k := fun e => by
      have := hpi k e
      rw [setO_ne fun e => hdk k e rfl, get_kill_same hko] at this; cases this
    have hi5 : Inv (setO S oi.dst pi) := inv_set hi hfi hpi0
    have hok5 : appOk ops j (setO S oi.dst pi) k = true := by
      refine List.all_eq_true.2 fun m hm => ?_
      cases hu : unord ops j m with
      | false => rfl
      | true =>
        obtain ⟨g1, g2, g3⟩ := appOk_mem hok (List.mem_range.1 hm) hu
        rw [g1, g2]
        simp only [Bool.not_true, Bool.not_false, Bool.false_or, Bool.true_and, List.all_eq_true, Bool.and_eq_true, bne_iff_ne]
        intro t ht
        refine ⟨(g3 t ht).1, ?_⟩
        by_cases e : oi.dst = some t
        · by_cases hlt : t < S.length
          · rw [e]; simp only [setO]; rw [get_set_same hlt]; exact hpk
          · rw [get_none (by simp [setO_len]; omega)]; simp [PV.ref]
        · rw [setO_ne e]; exact (g3 t ht).2
    have hfj5 : freeO (setO S oi.dst pi) oj.dst := freeO_set hfj fun m hm e => a2 m hm e
    unfold evD
    rw [hsi, hai, hni0]
    simp only [cond_false, cond_true]
    rw [hsi']
    show evD E ops j oj (setO S oi.dst pi) K = some r
    rw [hnat (setO S oi.dst pi) (agree_set hi hfi a3) (by rw [setO_len]) hfj5 hok5, kill_setO hko hdi hpk, setO_comm (kill S k) pi q (fun m hm => fun e => a2 m e hm)]
    exact h
/-- an operation goes ahead of all that stand apart from it -/
theorem moveFront {ops : Array Oper} {i : Nat} (hal : alone ops i = false) : (js : List Nat) → (rest : List Nat) → (S : St) → Inv S → free ops (js ++ i :: rest) S = true → (∀ j ∈ js, apartB ops j i = true ∧ alone ops j = false ∧ j < ops.size ∧ unord ops j i = true) → (∀ j ∈ js, j < i) → js.Nodup → i ∉ js →
    (hr : ∀ j ∈ rest, j < ops.size ∧ j ∉ js ∧ j ≠ i) → i < ops.size → evOpsD E ops (js ++ i :: rest) S K = some r → evOpsD E ops (i :: (js ++ rest)) S K = some r
  | [], rest, S, _, _, _, _, _, _, _, _, h => h
  | j :: js, rest, S, hi, hf, hj, hlt, hnd, hni, hr, hin, h => by
    obtain ⟨hap, haj, hjn, hun⟩ := hj j (by simp)
    rw [List.cons_append, free_cons] at hf
    obtain ⟨hfj, hf'⟩ := hf
    obtain ⟨hnj, hnd'⟩ := List.nodup_cons.1 hnd
    have hij : j ≠ i := fun e => hni (by simp [e])
    simp only [List.cons_append, evOpsD] at h
    cases hoj : ops[j]? with
    | none => rw [hoj] at h; cases h
    | some oj =>
      rw [hoj] at h
      dsimp only at h
      rw [haj] at h
      simp only [cond_false] at h
      have dj := dstOf_eq hoj
      have hfj := hfj haj
      rw [dj] at hfj
      cases haj2 : (!isStore ops j && isApp ops j) with
      | true =>
        simp only [Bool.and_eq_true, Bool.not_eq_true'] at haj2
        obtain ⟨hsj, hapj⟩ := haj2
        obtain ⟨k, q, hq, hqr, hko, hdk, hok, hnat⟩ := app_step hoj hi hfj hsj hapj h
        have h0 := h
        rw [hnat S (Agree.refl _) rfl hfj hok] at h
        obtain ⟨_, _, _, _, _, _, _, _, huq, _⟩ := isApp_op hoj hapj
        have hi1 : Inv (setO (kill S k) oj.dst q) := inv_app hi hfj hko hqr
        have hf1 : free ops (js ++ i :: rest) (setO (kill S k) oj.dst q) = true := by
          rw [← dj]
          refine free_set (free_mem.2 fun m hm ham => freeO_kill hko (free_mem.1 hf' m hm ham)) (fun m hm => ?_) (.inl huq)
          rcases List.mem_append.1 hm with hm | hm
          · exact ⟨(hj m (by simp [hm])).2.2.1, fun e => hnj (e ▸ hm)⟩
          · rcases List.mem_cons.1 hm with rfl | hm
            · exact ⟨hin, fun e => hij e.symm⟩
            · exact ⟨(hr m hm).1, fun e => (hr m hm).2.1 (by simp [e])⟩
        have h2 := moveFront hal js rest _ hi1 hf1 (fun m hm => hj m (by simp [hm])) (fun m hm => hlt m (by simp [hm])) hnd' (fun hm => hni (by simp [hm])) (fun m hm => ⟨(hr m hm).1, fun hmj => (hr m hm).2.1 (by simp [hmj]), (hr m hm).2.2⟩) hin h
        simp only [evOpsD] at h2
        cases hoi : ops[i]? with
        | none => rw [hoi] at h2; cases h2
        | some oi =>
          rw [hoi] at h2
          dsimp only at h2
          rw [hal] at h2
          simp only [cond_false] at h2
          have di := dstOf_eq hoi
          have hfi : freeO S oi.dst := by rw [← di]; exact free_mem.1 hf' i (by simp) hal
          have hap : oj.apart ops oi = true := by simpa [apartB, hoj, hoi] using hap
          have h3 : evD E ops j oj S (fun S1 => evD E ops i oi S1 fun S2 => evOpsD E ops (js ++ rest) S2 K) = some r := by rw [hnat S (Agree.refl _) rfl hfj hok]; exact h2
          have h4 := swapA hoi hoj hin hsj hapj hun hap hi hfj hfi h3
          simp only [List.cons_append, evOpsD, hoi, hal, cond_false, hoj, haj]
          exact h4
      | false =>
      have haj3 : isStore ops j = false → isApp ops j = false := fun e => by rw [e] at haj2; simpa using haj2
      obtain ⟨tj, pj, sj, ej⟩ := dstep hoj haj3 hi hfj h
      rw [ej] at h
      have hboth : Inv (setO S tj pj) ∧ free ops (js ++ i :: rest) (setO S tj pj) = true := by
        cases sj with
        | val _ hsj hpj huj hnb htj =>
          refine ⟨inv_set hi hfj hpj, ?_⟩
          rw [← dj]
          refine free_set hf' (fun m hm => ?_) huj
          rcases List.mem_append.1 hm with hm | hm
          · exact ⟨(hj m (by simp [hm])).2.2.1, fun e => hnj (e ▸ hm)⟩
          · rcases List.mem_cons.1 hm with rfl | hm
            · exact ⟨hin, fun e => hij e.symm⟩
            · exact ⟨(hr m hm).1, fun e => (hr m hm).2.1 (by simp [e])⟩
        | sto k q hsj hq hrq hk hjj hks htj =>
          refine ⟨inv_sto hi hq hrq hk, free_mem.2 fun m hm ham d hd => ?_⟩
          have := free_mem.1 hf' m hm ham d hd
          rw [setO_ne fun e => by cases e; rw [this] at hk; cases hk]
          exact this
      obtain ⟨hi1, hf1⟩ := hboth
      have h2 := moveFront hal js rest _ hi1 hf1 (fun m hm => hj m (by simp [hm])) (fun m hm => hlt m (by simp [hm])) hnd' (fun hm => hni (by simp [hm])) (fun m hm => ⟨(hr m hm).1, fun hmj => (hr m hm).2.1 (by simp [hmj]), (hr m hm).2.2⟩) hin h
      simp only [evOpsD] at h2
      cases hoi : ops[i]? with
      | none => rw [hoi] at h2; cases h2
      | some oi =>
        rw [hoi] at h2
        dsimp only at h2
        rw [hal] at h2
        simp only [cond_false] at h2
        have di := dstOf_eq hoi
        have hfi : freeO S oi.dst := by rw [← di]; exact free_mem.1 hf' i (by simp) hal
        have hap : oj.apart ops oi = true := by simpa [apartB, hoj, hoi] using hap
        have h3 : evD E ops j oj S (fun S1 => evD E ops i oi S1 fun S2 => evOpsD E ops (js ++ rest) S2 K) = some r := by rw [ej]; exact h2
        have hajf : isApp ops j = false := by
          cases hs : isStore ops j with
          | true => exact store_app hoj hs
          | false => exact haj3 hs
        have hai : isApp ops i = false := by
          cases hs : isApp ops i with
          | false => rfl
          | true =>
            obtain ⟨_, _, _, _, _, _, _, _, _, hall⟩ := isApp_op hoi hs
            have := hall j (hlt j (by simp))
            simp [unord, this] at hun
        have h4 := swap hoi hoj hin hjn hai hajf hun hap hi hfj hfi h3
        simp only [List.cons_append, evOpsD, hoi, hal, cond_false, hoj, haj]
        exact h4

theorem chk_fin {b : Bool} {x y : Option ρ} (h : x = some r → y = some r) (hc : chk b x = some r) : chk b y = some r := by
  cases b
  · cases hc
  · exact h hc
theorem nilS_eq {v : Value} (h : isNilS v = true) : v = .slice none 0 0 := by
  unfold isNilS at h; split at h
  · rfl
  · cases h
theorem val_op {dst : Option Nat} {o : Op} {ty : TypeId} (h : evVal E S ty o (fun p => fin dst K p S) = some r) : evOp E S dst o ty (fin dst K) = some r := by
  cases o with
  | move x =>
    simp only [evVal] at h
    cases x with
    | tmp s =>
      have h : (match get S s with
        | .tup ds => cond (ds.any D1.owns) none (fin dst K (.tup ds) S)
        | .iter .. => none
        | p => fin dst K (selfAlias (.tmp s) p) S) = some r := h
      show (match get S s with
        | .own .. | .obj .. | .iter .. | .spr .. => fin dst K (.alias s) S
        | .tup ds => fin dst K (.tup ds) (kill S s)
        | p => fin dst K p S) = some r
      cases hp : get S s with
      | tup ds =>
        rw [hp] at h
        dsimp only at h ⊢
        cases ho : ds.any D1.owns with
        | true => rw [ho] at h; cases h
        | false =>
          rw [ho] at h
          have hk : kill S s = S := by unfold kill; rw [if_neg (by rw [hp]; show ¬ ds.any D1.owns = true; rw [ho]; simp)]
          rw [hk]; exact h
      | iter q u => rw [hp] at h; cases h
      | _ => rw [hp] at h; exact h
    | const v => exact h
    | global g => exact h
    | func f => exact h
  | assign x =>
    simp only [evVal] at h
    cases hp : evAsg E S ty x with
    | none => rw [hp] at h; cases h
    | some p =>
      rw [hp] at h
      have h : fin dst K p S = some r := h
      cases x with
      | const v =>
        simp only [evAsg] at hp
        split at hp
        · rename_i hn
          have hv : v = .slice none 0 0 := nilS_eq hn
          subst hv
          cases hc : codOf E ty with
          | none => rw [hc] at hp; cases hp
          | some c => rw [hc] at hp; cases hp; simp only [evOp, hc]; exact h
        · rename_i hn
          cases hp
          show (match (Operand.const v : Operand) with
            | .tmp s => _
            | .const (.slice none 0 0) => _
            | x => fin dst K (Px.opd S x) S) = some r
          split
          · rename_i e; cases e
          · rename_i e; cases e; exact absurd rfl hn
          · exact h
      | tmp s =>
        simp only [evAsg] at hp
        cases hq : Px.opd S (.tmp s) with
        | raw v =>
          rw [hq] at hp
          dsimp only at hp
          split at hp
          · cases hp
          · cases hp
            have hq : get S s = .raw v := hq
            simp only [evOp, hq]
            exact h
        | _ => rw [hq] at hp; cases hp
      | global g => simp [evAsg, Px.opd] at hp
      | func f =>
        simp only [evAsg, Px.opd] at hp
        split at hp
        · cases hp
        · cases hp; exact h
  | nilCheck x => exact h
  | pick c a b =>
    simp only [evVal] at h
    simp only [evOp]
    split at h
    · exact h
    · cases h
  | alloc t => exact h
  | box t x => exact h
  | build t parts => exact h
  | buildSlice t len parts => exact h
  | makeSlice t l c => exact h
  | load t a => exact h
  | binOp op t x y _ => exact h
  | unOp op t x => exact h
  | convert a b x => exact h
  | slice t x lo hi mx =>
    cases mx with
    | none => exact h
    | some m => cases h
  | sliceToArrayPointer t x => exact h
  | typeAssert x u t ok => exact h
  | makeInterface t x => exact h
  | fieldAddr t x f => exact h
  | indexAddr t x i => exact h
  | index t x i => exact h
  | extract x i =>
    cases x with
    | tmp s =>
      simp only [evVal] at h
      simp only [evOp]
      cases hp : get S s with
      | raw v =>
        rw [hp] at h
        cases v with
        | tuple vs => exact h
        | _ => cases h
      | tup ds =>
        rw [hp] at h
        change (match ds[i]? with
          | some d => if d.owns then none else fin dst K d.toPV S
          | none => none) = some r at h
        change (match ds[i]? with
          | some d => if d.owns then fin dst K d.toPV ((kill S s).set s (.tup (ds.set i .junk))) else fin dst K d.toPV S
          | none => none) = some r
        cases hd : ds[i]? with
        | none => rw [hd] at h; cases h
        | some d =>
          rw [hd] at h
          dsimp only at h ⊢
          split at h
          · cases h
          · rename_i ho
            rw [if_neg ho]; exact h
      | _ => rw [hp] at h; cases h
    | _ => cases h
  | call c =>
    obtain ⟨callee, args, ats⟩ := c
    cases callee with
    | value f =>
      cases f with
      | func f =>
        simp only [evVal] at h
        simp only [evOp]
        cases hF : E.Γ f with
        | none => rw [hF] at h; simp at h
        | some F =>
          rw [hF] at h
          cases hc : evCallArgs S args.toList with
          | none => rw [hc] at h; simp at h
          | some ds => rw [hc] at h; exact h
      | _ => cases h
    | invoke r m => cases h
    | builtin b =>
      cases b with
      | len => exact h
      | append =>
        simp only [evVal] at h
        simp only [evOp]
        split at h
        · split at h
          · split at h
            · rename_i h1
              rw [if_pos h1]
              split at h
              · rename_i hx
                unfold evAppend
                split at h
                · cases h
                · split at h
                  · cases h
                  · rename_i hb
                    rw [if_neg hb]
                    split at h
                    · cases h
                    · rename_i y hy
                      dsimp only
                      rw [hx]
                      exact h
              · cases h
            · cases h
          · cases h
        · cases h
      | _ => cases h
  | _ => cases h
theorem operV_oper {ops : Array Oper} {i : Nat} {o : Oper} (hi : Inv S) (h : evOperV E ops i o S K = some r) : evOper E ops o S K = some r := by
  have base : ∀ S : St, evVal E S o.type o.op (fun p => cond (uniq ops i || !p.owns) (fin o.dst K p S) none) = some r → Inv S → evOp E S o.dst o.op o.type (fin o.dst K) = some r := fun S h hi => by
    refine val_op ?_
    obtain ⟨p, _, hk⟩ := val_nat hi o.type o.op _ _ h
    dsimp only at hk
    rw [hk] at h
    rw [hk]
    cases hu : (uniq ops i || !p.owns) with
    | false => rw [hu] at h; cases h
    | true => rw [hu] at h; exact h
  unfold evOperV at h
  unfold evOper
  cases hg : o.guard with
  | none => rw [hg] at h; exact base S h hi
  | some jw =>
    obtain ⟨j, want⟩ := jw
    rw [hg] at h
    dsimp only at h ⊢
    cases hd : (ops[j]?).bind (·.dst) with
    | none => rw [hd] at h; cases h
    | some d =>
      rw [hd] at h
      dsimp only at h ⊢
      split at h
      · rename_i β hβ
        have e := get_told hβ
        cases β <;> simp only [cond_true, cond_false, e] at h ⊢ <;> split at h <;> rename_i hw <;> first
          | (rw [if_pos hw]; exact base S h hi)
          | (rw [if_neg hw]; exact h)
      · exact h
      · cases h

theorem evD_oper {ops : Array Oper} {i : Nat} {o : Oper} (ho : ops[i]? = some o) (hi : Inv S) (h : evD E ops i o S K = some r) : evOper E ops o S K = some r := by
  unfold evD at h
  cases hs : isStore ops i with
  | true =>
    rw [hs] at h
    simp only [cond_true] at h
    obtain ⟨t, a, x, h1, h2, h3⟩ := isStore_op ho hs
    unfold stepS at h
    rw [h1] at h
    dsimp only at h
    split at h
    · cases hc : ((List.range ops.size).all fun j => _) with
      | false => rw [hc] at h; cases h
      | true =>
        rw [hc] at h
        simp only [cond_true] at h
        unfold evOper
        rw [h2, h1, h3]
        exact h
    · cases h
  | false =>
    rw [hs] at h
    simp only [cond_false] at h
    cases hap : isApp ops i with
    | true =>
      rw [hap] at h
      simp only [cond_true] at h
      obtain ⟨args, ats, s, d, h1, h2, h3, h4, _, _⟩ := isApp_op ho hap
      unfold stepA at h
      rw [h1] at h
      dsimp only at h
      rw [h4] at h
      split at h
      · rename_i s' y t t2 g0 g1 g2 g3
        cases g0
        split at h
        · cases hc : (okSrc E t2 && appOk ops i S _) with
          | false => rw [hc] at h; cases h
          | true =>
            rw [hc] at h
            simp only [cond_true] at h
            rw [Bool.and_eq_true] at hc
            unfold evOper
            rw [h2, h1]
            simp only [evOp]
            rw [h4, g1, g2]
            dsimp only
            rw [g3]
            dsimp only
            rw [if_pos hc.1]; exact h
        · cases h
      · cases h
    | false =>
    rw [hap] at h
    simp only [cond_false] at h
    cases hb : (!byStore ops i || noRefs S (looksOf ops i)) with
    | false => rw [hb] at h; cases h
    | true =>
      rw [hb] at h
      exact operV_oper (i := i) hi h
/-! ### what may come next -/
theorem range_sorted (p : Nat → Bool) (n : Nat) : ((List.range n).filter p).Pairwise (· < ·) := List.Pairwise.filter _ List.pairwise_lt_range
structure Lst (ops : Array Oper) (listed : Array Bool) (R : List Nat) : Prop where
  size : listed.size = ops.size
  eq : R = (List.range ops.size).filter fun i => !listed.getD i true
  closed : ∀ i o, listed.getD i false = true → ops[i]? = some o → ∀ e ∈ o.after, Region.binds .any e = true → listed.getD e.on false = true
variable {ops : Array Oper} {listed : Array Bool} {R : List Nat}
theorem Lst.mem (h : Lst ops listed R) {i : Nat} : i ∈ R ↔ i < ops.size ∧ listed.getD i true = false := by
  rw [h.eq, List.mem_filter, List.mem_range]; simp
theorem Lst.getD (h : Lst ops listed R) {i : Nat} (hi : i < ops.size) : listed.getD i true = listed.getD i false := by
  have : i < listed.size := by rw [h.size]; exact hi
  simp [Array.getD, this]
theorem mem_ready {i : Nat} : i ∈ Region.ready .any ops listed ↔ i < ops.size ∧ listed.getD i true = false ∧ ∀ o, ops[i]? = some o → ∀ e ∈ o.after, Region.binds .any e = true → listed.getD e.on false = true := by
  unfold Region.ready
  rw [List.mem_filter, List.mem_range]
  refine and_congr_right fun hi => ?_
  obtain ⟨o, ho⟩ : ∃ o, ops[i]? = some o := ⟨_, Array.getElem?_eq_getElem hi⟩
  simp only [ho, Option.map_some, Option.getD_some, Bool.and_eq_true, Bool.not_eq_true', Array.all_eq_true', Bool.or_eq_true, Option.some.injEq]
  refine and_congr_right fun _ => ⟨fun h o' ho' e he hb => ?_, fun h e he => ?_⟩
  · subst ho'
    rcases h e he with h1 | h1
    · rw [hb] at h1; cases h1
    · exact h1
  · cases hb : Region.binds .any e with
    | false => exact .inl rfl
    | true => exact .inr (h o rfl e he hb)
theorem aft_mem {i j : Nat} : aft ops i j = true ↔ ∃ o, ops[i]? = some o ∧ ∃ e ∈ o.after, Region.binds .any e = true ∧ e.on = j := by
  unfold aft
  cases ho : ops[i]? with
  | none => simp
  | some o =>
    simp only [Array.any_eq_true', Bool.and_eq_true, beq_iff_eq]
    constructor
    · rintro ⟨e, h1, h2, h3⟩; exact ⟨o, rfl, e, h1, h2, h3⟩
    · rintro ⟨o', ho', e, h1, h2, h3⟩; cases ho'; exact ⟨e, h1, h2, h3⟩
inductive AftP (ops : Array Oper) : Nat → Nat → Prop
  | base {i j : Nat} : aft ops i j = true → AftP ops i j
  | step {i k j : Nat} : aft ops i k = true → AftP ops k j → AftP ops i j
theorem maskOf_ok {ops : Array Oper} {acc : List Nat} {i : Nat} {o : Oper} (ho : ops[i]? = some o) (hacc : ∀ k j, (acc.getD k 0).testBit j = true → AftP ops k j) {j : Nat} (h : (maskOf acc (some o)).testBit j = true) : AftP ops i j := by
  simp only [maskOf] at h
  have key : ∀ (l : List Edge), (∀ e ∈ l, e ∈ o.after) → ∀ m : Nat, (l.foldl (fun m e => cond (Region.binds .any e) (m ||| (1 <<< e.on ||| acc.getD e.on 0)) m) m).testBit j = true → m.testBit j = true ∨ AftP ops i j := by
    intro l
    induction l with
    | nil => intro _ m hm; exact .inl hm
    | cons e l ih =>
      intro hl m hm
      simp only [List.foldl_cons] at hm
      rcases ih (fun e he => hl e (by simp [he])) _ hm with hm | hm
      · cases hb : Region.binds .any e with
        | false => rw [hb] at hm; exact .inl hm
        | true =>
          rw [hb] at hm
          simp only [cond_true, Nat.testBit_or, Bool.or_eq_true] at hm
          have haft : aft ops i e.on = true := aft_mem.2 ⟨o, ho, e, hl e (by simp), hb, rfl⟩
          rcases hm with hm | hm | hm
          · exact .inl hm
          · right
            have : e.on = j := by
              rw [Nat.one_shiftLeft, Nat.testBit_two_pow] at hm
              simpa using hm
            rw [← this]; exact .base haft
          · exact .inr (.step haft (hacc _ _ hm))
      · exact .inr hm
  rcases key _ (fun e he => by simpa using he) 0 h with h | h
  · simp at h
  · exact h
theorem aftT_ok {ops : Array Oper} {i j : Nat} (h : aftT ops i j = true) : AftP ops i j := by
  have key : ∀ (l : List Oper) (pre : List Oper) (acc : List Nat), ops.toList = pre ++ l → acc.length = pre.length → (∀ k j, (acc.getD k 0).testBit j = true → AftP ops k j) →
      ∀ k j, ((l.foldl (fun acc o => acc ++ [maskOf acc (some o)]) acc).getD k 0).testBit j = true → AftP ops k j := by
    intro l
    induction l with
    | nil => intro pre acc _ _ ha; exact ha
    | cons o l ih =>
      intro pre acc hp hl ha
      simp only [List.foldl_cons]
      have ho : ops[pre.length]? = some o := by
        rw [← Array.getElem?_toList, hp]; simp
      refine ih (pre ++ [o]) _ (by simp [hp]) (by simp [hl]) fun k j hk => ?_
      by_cases hkl : k < acc.length
      · rw [List.getD_eq_getElem?_getD, List.getElem?_append_left hkl, ← List.getD_eq_getElem?_getD] at hk
        exact ha k j hk
      · by_cases hke : k = acc.length
        · subst hke
          rw [List.getD_eq_getElem?_getD] at hk
          simp only [List.getElem?_append_right (Nat.le_refl _), Nat.sub_self, List.getElem?_cons_zero, Option.getD_some] at hk
          rw [hl]
          exact maskOf_ok ho ha hk
        · rw [List.getD_eq_getElem?_getD, List.getElem?_eq_none (by simp; omega)] at hk
          simp at hk
  exact key ops.toList [] [] rfl rfl (fun k j hk => by simp at hk) i j h
theorem drawOk_lt (h : drawOk ops = true) {i : Nat} {o : Oper} (ho : ops[i]? = some o) {e : Edge} (he : e ∈ o.after) (hb : Region.binds .any e = true) : e.on < i := by
  have hi : i < ops.size := (Array.getElem?_eq_some_iff.1 ho).1
  have := List.all_eq_true.1 h i (List.mem_range.2 hi)
  rw [Bool.and_eq_true] at this
  have := this.1
  unfold aftLt at this
  rw [ho] at this
  simp only [Array.all_eq_true'] at this
  have := this e he
  rw [hb] at this
  simpa using this
theorem drawOk_apart (h : drawOk ops = true) {i j : Nat} (hi : i < ops.size) (hj : j < i) : aft ops i j = true ∨ apartB ops j i = true := by
  have := List.all_eq_true.1 h i (List.mem_range.2 hi)
  rw [Bool.and_eq_true] at this
  have := List.all_eq_true.1 this.2 j (List.mem_range.2 hj)
  rwa [Bool.or_eq_true] at this
/-- the first one that is not listed can be next -/
theorem head_ready (h : Lst ops listed R) (hok : drawOk ops = true) {i : Nat} {l : List Nat} (hR : R = i :: l) : i ∈ Region.ready .any ops listed := by
  have him : i ∈ R := by simp [hR]
  obtain ⟨hi, hl⟩ := h.mem.1 him
  refine mem_ready.2 ⟨hi, hl, fun o ho e he hb => ?_⟩
  have hlt := drawOk_lt hok ho he hb
  have hnot : e.on ∉ R := fun hm => by
    have hs := range_sorted (fun i => !listed.getD i true) ops.size
    rw [← h.eq, hR] at hs
    rw [hR] at hm
    rcases List.mem_cons.1 hm with he' | hm
    · omega
    · have := (List.pairwise_cons.1 hs).1 _ hm; omega
  have hlt2 : e.on < ops.size := Nat.lt_trans hlt hi
  cases hv : listed.getD e.on true with
  | false => exact absurd (h.mem.2 ⟨hlt2, hv⟩) hnot
  | true => rw [← h.getD hlt2]; exact hv
/-- one that can be next goes ahead -/
theorem ready_split (h : Lst ops listed R) (hok : drawOk ops = true) {i : Nat} (hi : i ∈ Region.ready .any ops listed) : ∃ js rest, R = js ++ i :: rest ∧ Lst ops (listed.setIfInBounds i true) (js ++ rest) ∧
    (∀ j ∈ js, apartB ops j i = true ∧ alone ops j = false ∧ j < ops.size ∧ unord ops j i = true) ∧ (js ≠ [] → alone ops i = false) ∧ js.Nodup ∧ i ∉ js ∧ (∀ j ∈ rest, j < ops.size ∧ j ∉ js ∧ j ≠ i) ∧ i < ops.size ∧ ∀ j ∈ js, j < i := by
  obtain ⟨hin, hl, ha⟩ := mem_ready.1 hi
  obtain ⟨js, rest, hR⟩ := List.append_of_mem (h.mem.2 ⟨hin, hl⟩)
  have hs := range_sorted (fun i => !listed.getD i true) ops.size
  rw [← h.eq, hR, List.pairwise_append] at hs
  obtain ⟨hs1, hs2, hs3⟩ := hs
  obtain ⟨hs4, hs5⟩ := List.pairwise_cons.1 hs2
  have hlt : ∀ j ∈ js, j < i := fun j hj => hs3 j hj i (by simp)
  have hni : i ∉ js := fun hm => Nat.lt_irrefl _ (hlt i hm)
  have hnr : i ∉ rest := fun hm => Nat.lt_irrefl _ (hs4 i hm)
  have hnaft : ∀ j ∈ js, aft ops i j = false := fun j hj => by
    cases hv : aft ops i j with
    | false => rfl
    | true =>
      obtain ⟨o, ho, e, he, hb, rfl⟩ := aft_mem.1 hv
      have h1 := ha o ho e he hb
      obtain ⟨g1, g2⟩ := h.mem.1 (show e.on ∈ R by rw [hR]; simp [hj])
      rw [h.getD g1, h1] at g2; cases g2
  have hnaft2 : ∀ j ∈ js, aft ops j i = false := fun j hj => by
    cases hv : aft ops j i with
    | false => rfl
    | true =>
      obtain ⟨o, ho, e, he, hb, rfl⟩ := aft_mem.1 hv
      have := drawOk_lt hok ho he hb
      have := hlt j hj
      omega
  have hap : ∀ j ∈ js, apartB ops j i = true := fun j hj => by
    rcases drawOk_apart hok hin (hlt j hj) with h1 | h1
    · rw [hnaft j hj] at h1; cases h1
    · exact h1
  have hback : ∀ x y, AftP ops x y → y < x := fun x y hp => by
    induction hp with
    | base h => obtain ⟨o, ho, e, he, hb, rfl⟩ := aft_mem.1 h; exact drawOk_lt hok ho he hb
    | step h _ ih => obtain ⟨o, ho, e, he, hb, rfl⟩ := aft_mem.1 h; have := drawOk_lt hok ho he hb; omega
  have hdown : ∀ x y, AftP ops x y → listed.getD x false = true → listed.getD y false = true := fun x y hp => by
    induction hp with
    | base hh => obtain ⟨o, ho, e, he, hb, rfl⟩ := aft_mem.1 hh; exact fun hx => h.closed _ o hx ho e he hb
    | step hh _ ih => obtain ⟨o, ho, e, he, hb, rfl⟩ := aft_mem.1 hh; exact fun hx => ih (h.closed _ o hx ho e he hb)
  have hfirst : ∀ y, AftP ops i y → listed.getD y false = true := fun y hp => by
    cases hp with
    | base h => obtain ⟨o, ho, e, he, hb, rfl⟩ := aft_mem.1 h; exact ha o ho e he hb
    | step h hp => obtain ⟨o, ho, e, he, hb, rfl⟩ := aft_mem.1 h; exact hdown _ _ hp (ha o ho e he hb)
  have hT1 : ∀ j ∈ js, aftT ops i j = false := fun j hj => by
    cases hv : aftT ops i j with
    | false => rfl
    | true =>
      have h1 := hfirst j (aftT_ok hv)
      obtain ⟨g1, g2⟩ := h.mem.1 (show j ∈ R by rw [hR]; simp [hj])
      rw [h.getD g1, h1] at g2; cases g2
  have hT2 : ∀ j ∈ js, aftT ops j i = false := fun j hj => by
    cases hv : aftT ops j i with
    | false => rfl
    | true => have := hback _ _ (aftT_ok hv); have := hlt j hj; omega
  have hal : ∀ x y, y < ops.size → y ≠ x → aftT ops x y = false → aftT ops y x = false → alone ops x = false := fun x y hy hne h1 h2 => by
    cases hv : alone ops x with
    | false => rfl
    | true =>
      have := List.all_eq_true.1 hv y (List.mem_range.2 hy)
      simp [hne, h1, h2] at this
  refine ⟨js, rest, hR, ⟨by simp [h.size], ?_, ?_⟩, fun j hj => ⟨hap j hj, hal j i hin (by have := hlt j hj; omega) (hT2 j hj) (hT1 j hj), (h.mem.1 (show j ∈ R by rw [hR]; simp [hj])).1, by
    unfold unord
    rw [hT1 j hj, hT2 j hj]
    have := hlt j hj
    simp; omega⟩, fun hne => ?_, hs1.imp (fun h => Nat.ne_of_lt h), hni, fun j hj => ⟨(h.mem.1 (show j ∈ R by rw [hR]; simp [hj])).1, fun hm => ?_, fun e => ?_⟩, hin, hlt⟩
  · have e1 : ∀ k ∈ List.range ops.size, (!(listed.setIfInBounds i true).getD k true) = ((!listed.getD k true) && k != i) := fun k hk => by
      have hk' : k < listed.size := by rw [h.size]; exact List.mem_range.1 hk
      by_cases hki : k = i
      · subst hki; simp [Array.getD, hk']
      · simp [Array.getD, hk', Array.getElem_setIfInBounds, Ne.symm hki, hki]
    rw [List.filter_congr e1]
    have e2 : (List.range ops.size).filter (fun k => (!listed.getD k true) && k != i) = R.filter (fun k => k != i) := by
      rw [h.eq, List.filter_filter]
      exact List.filter_congr fun k _ => Bool.and_comm _ _
    rw [e2, hR, List.filter_append, List.filter_cons]
    simp only [bne_self_eq_false, Bool.false_eq_true, if_false]
    rw [List.filter_eq_self.2 fun a ha => by simp; exact fun e => hni (e ▸ ha), List.filter_eq_self.2 fun a ha => by simp; exact fun e => hnr (e ▸ ha)]
  · have hset : ∀ k, (listed.setIfInBounds i true).getD k false = true ↔ (listed.getD k false = true ∨ k = i) := fun k => by
      have hil : i < listed.size := by rw [h.size]; exact hin
      by_cases hki : k = i
      · subst hki; simp [Array.getD, hil]
      · by_cases hk : k < listed.size
        · simp [Array.getD, hk, Array.getElem_setIfInBounds, Ne.symm hki, hki]
        · simp [Array.getD, hk, hki]
    intro k o hk ho e he hb
    rw [hset] at hk ⊢
    rcases hk with hk | rfl
    · exact .inl (h.closed k o hk ho e he hb)
    · exact .inl (ha o ho e he hb)
  · obtain ⟨j, hj⟩ := List.exists_mem_of_ne_nil _ hne
    exact hal i j (h.mem.1 (show j ∈ R by rw [hR]; simp [hj])).1 (by have := hlt j hj; omega) (hT1 j hj) (hT2 j hj)
  · have := hs3 j hm j (by simp [hj]); omega
  · subst e; exact hnr hj
end
end Go.Px
