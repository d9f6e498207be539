/- Our library of evaluations, part 3. -/
import Derived.Test.YtapijncpploihaaDoorPxA
import Derived.Test.YtapijncpploihaaDoorPxB
import Derived.SizedLaws
import Derived.ChangeSlices
import Derived.SliceStrings
import Derived.Lib.LaidU8T
import Derived.OpenShut
set_option linter.unusedVariables false
set_option linter.unusedSimpArgs false
/- Of a region whose order is drawn: operations that stand apart may change places. Nothing of memory here. -/
namespace Go.Px
open Go

section
variable {ρ : Type} {E : Env ρ} {S S' : St} {K : St → Option ρ} {r : ρ}

def Inv (S : St) : Prop := ∀ (i : Nat) p k, S[i]? = some p → p.ref = some k → (get S k).owns = true
def RefOk (S : St) (p : PV) : Prop := ∀ k, p.ref = some k → (get S k).owns = true
/-- alike at what a value looks at -/
def AgreeP (S S' : St) (p : PV) : Prop := ∀ k, p.ref = some k → get S' k = get S k
def tmpsOf (l : List Operand) : List Nat := l.filterMap fun | .tmp t => some t | _ => none
def Agree (S S' : St) (ts : List Nat) : Prop := ∀ t ∈ ts, get S' t = get S t ∧ AgreeP S S' (get S t)
def AgreeO (S S' : St) (x : Operand) : Prop := ∀ t, x = .tmp t → get S' t = get S t ∧ AgreeP S S' (get S t)
theorem Agree.o {ts : List Nat} (h : Agree S S' ts) {l : List Operand} (hl : ∀ t ∈ tmpsOf l, t ∈ ts) {x : Operand} (hx : x ∈ l) : AgreeO S S' x := fun t ht =>
  h t (hl t (List.mem_filterMap.2 ⟨x, hx, by rw [ht]⟩))
theorem AgreeO.opd {x : Operand} (h : AgreeO S S' x) : Px.opd S' x = Px.opd S x := by
  cases x with
  | tmp t => exact (h t rfl).1
  | _ => rfl
theorem AgreeO.self {x : Operand} (h : AgreeO S S' x) : AgreeP S S' (selfAlias x (Px.opd S x)) := by
  cases x with
  | tmp t =>
    obtain ⟨h1, h2⟩ := h t rfl
    have h1 : get S' t = get S t := h1
    intro k hk
    show get S' k = get S k
    have hk : (selfAlias (.tmp t) (get S t)).ref = some k := hk
    cases hp : get S t <;> rw [hp] at hk <;> simp only [selfAlias, PV.ref, Option.some.injEq, reduceCtorEq] at hk <;> first
      | (subst hk; exact h1)
      | (subst hk; exact h2 _ (by rw [hp]; rfl))
  | _ => intro k hk; cases hk
theorem AgreeO.asI {x : Operand} (h : AgreeO S S' x) : Px.asI (Px.opd S' x) = Px.asI (Px.opd S x) := by rw [h.opd]
theorem bnd_loc {d : Int} {x : Option Operand} (h : ∀ o, x = some o → AgreeO S S' o) : bnd S' d x = bnd S d x := by
  cases x with
  | none => rfl
  | some o => simp only [bnd, (h o rfl).opd]
theorem slice_loc {t : TypeId} {x : PV} {lo hi : Option Operand} (hx : AgreeP S S' x) (hlo : ∀ o, lo = some o → AgreeO S S' o) (hhi : ∀ o, hi = some o → AgreeO S S' o) (K : PV → Option ρ) : evSlice E S' t x lo hi K = evSlice E S t x lo hi K := by
  have e1 : ∀ d, bnd S' d lo = bnd S d lo := fun d => bnd_loc hlo
  have e2 : ∀ d, bnd S' d hi = bnd S d hi := fun d => bnd_loc hhi
  unfold evSlice
  cases E.T t with
  | none => rfl
  | some ti =>
    dsimp only
    cases ti.desc <;> cases x <;> first
      | rfl
      | (have e3 := hx _ rfl; simp only [e1, e2, e3]; done)
      | (simp only [e1, e2]; done)
      | (rename_i v; cases v <;> first | rfl | (simp only [e1, e2]; done))
theorem indexAddr_loc {t : TypeId} {x : PV} {i : Int} (hx : AgreeP S S' x) (K : PV → Option ρ) : evIndexAddr E S' t x i K = evIndexAddr E S t x i K := by
  unfold evIndexAddr
  cases E.T t with
  | none => rfl
  | some ti =>
    dsimp only
    cases ti.desc <;> cases x <;> first
      | rfl
      | (have e3 := hx _ rfl; simp only [e3]; done)
      | (rename_i k g i f
         have e3 := hx k rfl
         cases i <;> cases f <;> first | rfl | (simp only [e3]; done))
      | (rename_i C l i f
         cases C <;> cases f <;> first | rfl | done)
theorem load_loc {t : TypeId} {x : PV} (hx : AgreeP S S' x) (K : PV → Option ρ) : evLoad E S' t x K = evLoad E S t x K := by
  unfold evLoad
  cases E.T t with
  | none => rfl
  | some ti =>
    dsimp only
    cases x <;> first
      | rfl
      | (have e3 := hx _ rfl; simp only [e3]; done)
theorem arrAt_loc {t : TypeId} {x : PV} (hx : AgreeP S S' x) (K : PV → Option ρ) : evArrAt E S' t x K = evArrAt E S t x K := by
  unfold evArrAt
  cases E.T t with
  | none => rfl
  | some ti =>
    dsimp only
    cases ti.desc <;> cases x <;> first
      | rfl
      | (have e3 := hx _ rfl; simp only [e3]; done)
theorem fieldAddr_loc {t : TypeId} {x : PV} {f : Nat} (hx : AgreeP S S' x) (K : PV → Option ρ) : evFieldAddr E S' t x f K = evFieldAddr E S t x f K := by
  unfold evFieldAddr
  cases E.T t with
  | none => rfl
  | some ti =>
    dsimp only
    cases ti.desc <;> cases x <;> first
      | rfl
      | (have e3 := hx _ rfl; simp only [e3]; done)
      | (rename_i k g i f
         have e3 := hx k rfl
         cases i <;> cases f <;> first | rfl | (simp only [e3]; done))
      | (rename_i C l i f
         cases C <;> cases f <;> first | rfl | done)
theorem content_loc {x : PV} (hx : AgreeP S S' x) : content S' x = content S x := by
  cases x with
  | alias k => have e3 : get S' k = get S k := hx k rfl; simp only [content, e3]
  | view k g off len => have e3 : get S' k = get S k := hx k rfl; simp only [content, e3]
  | _ => simp only [content]
theorem slLen_loc {x : PV} (hx : AgreeP S S' x) : slLen S' x = slLen S x := by
  cases x with
  | alias k => have e3 : get S' k = get S k := hx k rfl; simp only [slLen, e3]
  | raw v => unfold slLen; split <;> first | rfl | (split <;> first | rfl | (exfalso; simp_all; done))
  | _ => rfl
theorem contentT_loc {C : Cod} {x : PV} (hx : AgreeP S S' x) : contentT S' C x = contentT S C x := by
  have e := content_loc hx
  cases x with
  | raw v =>
    cases v with
    | slice a n c => cases a <;> cases n <;> cases c <;> rfl
    | _ => rfl
  | _ => unfold contentT; dsimp only; rw [e]
theorem toD1_loc {x : PV} (hx : AgreeP S S' x) : toD1 S' x = toD1 S x := by
  have e := content_loc hx
  unfold toD1
  cases x <;> first
    | rfl
    | (dsimp only; rw [e])
theorem srcOf_loc {C : Cod} {x : PV} (hx : AgreeP S S' x) : srcOf E S' C x = srcOf E S C x := by
  have e := contentT_loc (C := C) hx
  cases x with
  | raw v =>
    cases v <;> cases C <;> first
      | exact e
      | rfl
      | (rename_i t; cases t <;> first
          | exact e
          | rfl
          | (rename_i k; cases k <;> first
              | exact e
              | rfl))
  | _ => cases C <;> first
      | exact e
      | (rename_i t; cases t <;> first
          | exact e
          | (rename_i k; cases k <;> exact e))
theorem convert_loc {a b : TypeId} {x : PV} (hx : AgreeP S S' x) (K : PV → Option ρ) : evConvert E S' a b x K = evConvert E S a b x K := by
  have e8 := contentT_loc (C := .sc (.int .u8)) hx
  have e32 := contentT_loc (C := .sc (.int .i32)) hx
  unfold evConvert
  cases E.T a with
  | none => rfl
  | some ta =>
    cases E.T b with
    | none => rfl
    | some tb =>
      dsimp only
      cases tb.desc <;> cases ta.desc <;> first
        | rfl
        | (simp only [e8, e32]; done)
        | (cases x <;> first
            | rfl
            | (have e3 := hx _ rfl; simp only [e3]; done)
            | (rename_i v; cases v <;> rfl))
theorem len_loc {t : TypeId} {x : PV} (hx : AgreeP S S' x) (K : PV → Option ρ) : evLen E S' t x K = evLen E S t x K := by
  have e := slLen_loc hx
  unfold evLen
  cases E.T t with
  | none => rfl
  | some ti =>
    dsimp only
    cases ti.desc <;> first
      | rfl
      | (dsimp only; rw [e])
      | (cases x <;> first
          | rfl
          | (rename_i v; cases v <;> rfl)
          | (try dsimp only; rw [e]; done))
theorem elems_loc {C : Cod} : (i : Nat) → (l : List (Nat × Operand)) → (∀ o ∈ l.map (·.2), AgreeO S S' o) → elems S' C i l = elems S C i l
  | _, [], _ => rfl
  | i, (j, o) :: r, h => by
    simp only [elems, (h o (by simp)).opd, elems_loc (i + 1) r fun o ho => h o (by simp at ho ⊢; exact .inr ho)]
theorem parts_loc : (l : List (Nat × Operand)) → (∀ o ∈ l.map (·.2), AgreeO S S' o) → ∀ z, setParts S' z l = setParts S z l
  | [], _, z => rfl
  | (j, o) :: r, h, z => by
    have ih := parts_loc r fun o ho => h o (by simp at ho ⊢; exact .inr ho)
    simp only [setParts, (h o (by simp)).opd, ih]
theorem els_loc (c : T0) : (l : List (Nat × Operand)) → (∀ o ∈ l.map (·.2), AgreeO S S' o) → ∀ z, setEls S' c z l = setEls S c z l
  | [], _, z => rfl
  | (j, o) :: r, h, z => by
    have ih := els_loc c r fun o ho => h o (by simp at ho ⊢; exact .inr ho)
    simp only [setEls, (h o (by simp)).opd, ih]
theorem args_loc : (l : List Operand) → (∀ o ∈ l, AgreeO S S' o) → evCallArgs S' l = evCallArgs S l
  | [], _ => rfl
  | o :: r, h => by
    have e := h o (by simp)
    have e2 := e.opd
    simp only [evCallArgs, e2, toD1_loc e.self, args_loc r fun o ho => h o (by simp [ho])]

/-- a value hangs on what its operation looks at, and on nothing else -/
theorem evVal_loc (ty : TypeId) (o : Op) (h : ∀ x ∈ o.operands.toList, AgreeO S S' x) (K : PV → Option ρ) : evVal E S' ty o K = evVal E S ty o K := by
  cases o with
  | move x => simp only [evVal, (h x (by simp [Op.operands])).opd]
  | assign x =>
    have e := (h x (by simp [Op.operands])).opd
    simp only [evVal]
    congr 1
    cases x with
    | const v => rfl
    | tmp s => simp only [evAsg, e]
    | global g => rfl
    | func f => rfl
  | nilCheck x =>
    cases x with
    | tmp s =>
      obtain ⟨h1, h2⟩ := h (.tmp s) (by simp [Op.operands]) s rfl
      simp only [evVal, h1]
      cases hp : get S s with
      | alias j => rw [hp] at h2; simp only [h2 j rfl]
      | _ => rfl
    | _ => rfl
  | pick c a b => simp only [evVal, (h c (by simp [Op.operands])).opd, (h a (by simp [Op.operands])).opd, (h b (by simp [Op.operands])).opd]
  | alloc t => rfl
  | box t x => simp only [evVal, (h x (by simp [Op.operands])).opd]
  | build t parts =>
    have e := parts_loc (S := S) (S' := S') parts.toList fun o ho => h o (by simpa [Op.operands] using ho)
    have e2 := fun c => els_loc (S := S) (S' := S') c parts.toList fun o ho => h o (by simpa [Op.operands] using ho)
    simp only [evVal, evBuild, e, e2]
  | buildSlice t len parts =>
    have e : ∀ C, elems S' C 0 parts.toList = elems S C 0 parts.toList := fun C => elems_loc 0 _ fun o ho => h o (by simpa [Op.operands] using ho)
    simp only [evVal, evBuildSlice, e]
  | load t a => have e := h a (by simp [Op.operands]); simp only [evVal, e.opd, load_loc e.self]
  | binOp op t x y _ => simp only [evVal, (h x (by simp [Op.operands])).opd, (h y (by simp [Op.operands])).opd]
  | makeSlice t l c => simp only [evVal, (h l (by simp [Op.operands])).opd, (h c (by simp [Op.operands])).opd]
  | unOp op t x => simp only [evVal, (h x (by simp [Op.operands])).opd]
  | convert a b x => have e := h x (by simp [Op.operands]); simp only [evVal, e.opd, convert_loc e.self]
  | slice t x lo hi mx =>
    cases mx with
    | some m => rfl
    | none =>
      have e := h x (by simp [Op.operands])
      simp only [evVal, e.opd]
      exact slice_loc e.self (fun o ho => h o (by simp [Op.operands, ho])) (fun o ho => h o (by simp [Op.operands, ho])) K
  | sliceToArrayPointer t x => have e := h x (by simp [Op.operands]); simp only [evVal, e.opd, arrAt_loc e.self]
  | typeAssert x u t ok => simp only [evVal, (h x (by simp [Op.operands])).opd]
  | makeInterface t x => simp only [evVal, (h x (by simp [Op.operands])).opd]
  | fieldAddr t x f => have e := h x (by simp [Op.operands]); simp only [evVal, e.opd, fieldAddr_loc e.self]
  | indexAddr t x i => have e := h x (by simp [Op.operands]); simp only [evVal, (h i (by simp [Op.operands])).opd, e.opd, indexAddr_loc e.self]
  | index t x i => simp only [evVal, (h x (by simp [Op.operands])).opd, (h i (by simp [Op.operands])).opd]
  | extract x i =>
    cases x with
    | tmp s => have e : get S' s = get S s := (h (.tmp s) (by simp [Op.operands])).opd; simp only [evVal, e]
    | _ => rfl
  | call c =>
    obtain ⟨callee, args, ats⟩ := c
    cases callee with
    | value f =>
      cases f with
      | func f =>
        have e := args_loc (S := S) (S' := S') args.toList fun o ho => h o (by simp [Op.operands, Call.operands] at ho ⊢; exact .inr ho)
        simp only [evVal, e]
      | _ => rfl
    | invoke r m => rfl
    | builtin b =>
      have ha : ∀ (i : Nat) x, args[i]? = some x → AgreeO S S' x := fun i x hx => h x (by
        simp only [Op.operands, Call.operands]
        have := Array.mem_of_getElem? hx
        simp [this])
      cases b with
      | len =>
        simp only [evVal]
        cases h0 : args[0]? with
        | none => rfl
        | some x =>
          have e := ha 0 x h0
          cases ats[0]? with
          | none => rfl
          | some t =>
            dsimp only
            rw [e.opd, len_loc e.self]
      | append =>
        simp only [evVal]
        cases h0 : args[0]? with
        | none => rfl
        | some x =>
          cases h1 : args[1]? with
          | none => rfl
          | some y =>
            have e0 := ha 0 x h0
            have e1 := ha 1 y h1
            cases ats[0]? with
            | none => rfl
            | some t =>
              dsimp only
              rw [e0.opd, e1.opd]
              simp only [srcOf_loc e1.self]
      | _ => rfl
  | _ => rfl

/-! ### a value is one value, whatever is done with it -/
def Nat1 (S : St) (H : (PV → Option ρ) → Option ρ) : Prop := ∀ K r, H K = some r → ∃ p, RefOk S p ∧ ∀ K', H K' = K' p
variable {H H' : (PV → Option ρ) → Option ρ}
theorem n_none : Nat1 S (fun _ : PV → Option ρ => none) := fun _ _ h => by cases h
theorem n_k {p : PV} (h : RefOk S p) : Nat1 S (fun K : PV → Option ρ => K p) := fun _ _ _ => ⟨p, h, fun _ => rfl⟩
theorem ref0 {p : PV} (h : p.ref = none) : RefOk S p := fun k hk => by rw [h] at hk; cases hk
theorem n_k0 {p : PV} (h : p.ref = none) : Nat1 S (fun K : PV → Option ρ => K p) := n_k (ref0 h)
theorem n_chk {b : Bool} (h : Nat1 S H) : Nat1 S (fun K => chk b (H K)) := by
  cases b
  · exact n_none
  · exact h
theorem n_cond {b : Bool} (h : Nat1 S H) (h' : Nat1 S H') : Nat1 S (fun K => cond b (H K) (H' K)) := by
  cases b
  · exact h'
  · exact h
theorem n_ite {c : Prop} [Decidable c] (h : c → Nat1 S H) (h' : ¬ c → Nat1 S H') : Nat1 S (fun K => if c then H K else H' K) := by
  by_cases hc : c
  · have e : (fun K => if c then H K else H' K) = H := funext fun K => if_pos hc
    rw [e]; exact h hc
  · have e : (fun K => if c then H K else H' K) = H' := funext fun K => if_neg hc
    rw [e]; exact h' hc
theorem n_if {c : Prop} [Decidable c] (h : c → Nat1 S H) : Nat1 S (fun K => if c then H K else none) := n_ite h fun _ => n_none
theorem n_bind {α : Type _} {o : Option α} {F : α → (PV → Option ρ) → Option ρ} (h : ∀ x, o = some x → Nat1 S (F x)) : Nat1 S (fun K => o.bind fun x => F x K) := by
  cases o with
  | none => exact n_none
  | some x => exact h x rfl
theorem ref_own {p : PV} {k : Nat} (h : (get S k).owns = true) (hp : p.ref = some k) : RefOk S p := fun k' hk => by rw [hp] at hk; cases hk; exact h
theorem shp_owns {p : PV} {g : Nat} {x : Nat × Nat × Nat} (h : shp p g = some x) : p.owns = true := by
  unfold shp at h
  split at h <;> first
    | rfl
    | cases h
theorem slice_nat (t : TypeId) (x : PV) (lo hi : Option Operand) : Nat1 S (fun K => evSlice E S t x lo hi K) := by
  unfold evSlice
  cases hT : E.T t with
  | none => exact n_none
  | some ti =>
    try dsimp only
    cases hd : ti.desc with
    | string =>
      cases x with
      | raw v =>
        cases v with
        | string s => exact n_bind fun a _ => n_bind fun b _ => n_chk (n_k0 rfl)
        | _ => exact n_none
      | _ => exact n_none
    | array n e =>
      cases x with
      | alias k =>
        try dsimp only
        cases hg : get S k with
        | obj ss =>
          match ss, hg with
          | [.arr C n' l], hg => exact n_if fun _ => n_bind fun a _ => n_bind fun b _ => n_chk (n_k (ref_own (by rw [hg]; rfl) rfl))
          | [.one v], _ => exact n_none
          | [], _ => exact n_none
          | .one _ :: _ :: _, _ => exact n_none
          | .arr .. :: _ :: _, _ => exact n_none
          | [.ro ..], _ => exact n_none
          | .ro .. :: _ :: _, _ => exact n_none
        | _ => exact n_none
      | ptr k g idx f =>
        try dsimp only
        cases hg : get S k with
        | obj ss =>
          try dsimp only
          cases hs : ss[g]? with
          | none => exact n_none
          | some sg =>
            cases sg with
            | one v => exact n_none
            | ro _ _ _ _ => exact n_none
            | arr C n' l => exact n_if fun _ => n_bind fun a _ => n_bind fun b _ => n_chk (n_k (ref_own (by rw [hg]; rfl) rfl))
        | _ => exact n_none
      | _ => exact n_none
    | slice e =>
      cases x with
      | ros C l => exact n_if fun _ => n_bind fun a _ => n_bind fun b _ => n_chk (n_k0 rfl)
      | alias k =>
        try dsimp only
        cases hg : get S k with
        | own C l => exact n_if fun _ => n_bind fun a _ => n_bind fun b _ => n_chk (n_k (ref_own (by rw [hg]; rfl) rfl))
        | spr C l n => exact n_if fun _ => n_bind fun a _ => n_bind fun b _ => n_chk (n_k (ref_own (by rw [hg]; rfl) rfl))
        | _ => exact n_none
      | _ => exact n_none
    | _ => exact n_none
theorem indexAddr_nat (t : TypeId) (x : PV) (i : Int) : Nat1 S (fun K => evIndexAddr E S t x i K) := by
  unfold evIndexAddr
  cases hT : E.T t with
  | none => exact n_none
  | some ti =>
    try dsimp only
    cases hd : ti.desc with
    | array n e =>
      cases x with
      | alias k =>
        try dsimp only
        cases hg : get S k with
        | obj ss =>
          match ss, hg with
          | [.arr C n' l], hg => exact n_if fun _ => n_chk (n_k (ref_own (by rw [hg]; rfl) rfl))
          | [.one v], _ => exact n_none
          | [], _ => exact n_none
          | .one _ :: _ :: _, _ => exact n_none
          | .arr .. :: _ :: _, _ => exact n_none
          | [.ro ..], _ => exact n_none
          | .ro .. :: _ :: _, _ => exact n_none
        | _ => exact n_none
      | gl g =>
        try dsimp only
        cases hg : E.G g with
        | none => exact n_none
        | some ss =>
          match ss, hg with
          | [.arr C n' l], hg => exact n_if fun _ => n_chk (n_k0 rfl)
          | [.one v], _ => exact n_none
          | [], _ => exact n_none
          | .one _ :: _ :: _, _ => exact n_none
          | .arr .. :: _ :: _, _ => exact n_none
          | [.ro ..], _ => exact n_none
          | .ro .. :: _ :: _, _ => exact n_none
      | ptr k g idx f =>
        cases idx with
        | succ _ => exact n_none
        | zero =>
          cases f with
          | succ _ => exact n_none
          | zero =>
            change Nat1 S (fun K => match get S k with
              | .obj ss => (match ss[g]? with
                | some (.arr C n' l) => if n = n' ∧ esz E e = some C.sz ∧ 0 < C.sz then chk (inB i n) (K (.ptr k g i.toNat 0)) else none
                | _ => none)
              | _ => none)
            cases hg : get S k with
            | obj ss =>
              try dsimp only
              cases hs : ss[g]? with
              | none => exact n_none
              | some sg =>
                cases sg with
                | one v => exact n_none
                | ro _ _ _ _ => exact n_none
                | arr C n' l => exact n_if fun _ => n_chk (n_k (ref_own (by rw [hg]; rfl) rfl))
            | _ => exact n_none
      | _ => exact n_none
    | slice e =>
      cases x with
      | alias k =>
        try dsimp only
        cases hg : get S k with
        | own C l => exact n_if fun _ => n_chk (n_k (ref_own (by rw [hg]; rfl) rfl))
        | _ => exact n_none
      | view k g off len =>
        try dsimp only
        cases hg : shp (get S k) g with
        | none => exact n_none
        | some y => exact n_if fun _ => n_chk (n_k (ref_own (shp_owns hg) rfl))
      | ros C l => exact n_if fun _ => n_chk (n_k0 rfl)
      | _ => exact n_none
    | _ => exact n_none
theorem el_nat {ti : TI} {C : Cod} {x : C.α} {f : Nat} : Nat1 S (fun K : PV → Option ρ => evEl ti C x f K) := by
  unfold evEl
  refine n_ite (fun _ => n_k0 rfl) fun _ => ?_
  cases ti.desc with
  | struct fs => exact n_if fun _ => n_k0 rfl
  | _ => exact n_none
theorem rd_nat {ti : TI} {ss : List Seg} {g idx f : Nat} : Nat1 S (fun K : PV → Option ρ => evRd ti ss g idx f K) := by
  unfold evRd
  cases ss[g]? with
  | none => exact n_none
  | some sg =>
    cases sg with
    | one v => exact n_if fun _ => n_k0 rfl
    | ro _ _ _ _ => exact n_if fun _ => n_k0 rfl
    | arr C n l =>
      try dsimp only
      cases ti.desc with
      | array n' e => exact n_if fun _ => n_k0 rfl
      | _ => exact el_nat
theorem arrAt_nat (t : TypeId) (x : PV) : Nat1 S (fun K => evArrAt E S t x K) := by
  unfold evArrAt
  cases hT : E.T t with
  | none => exact n_none
  | some ti =>
    try dsimp only
    cases ti.desc with
    | array n e =>
      try dsimp only
      cases x with
      | view k g off len =>
        try dsimp only
        cases hg : get S k with
        | own C l => exact n_if fun _ => n_chk (n_k (ref_own (k := k) (by rw [hg]; rfl) rfl))
        | _ => exact n_none
      | _ => exact n_none
    | _ => exact n_none
theorem ta_nat (t : TypeId) (ok : Bool) (x : PV) : Nat1 S (fun K => evTA E t ok x K) := by
  unfold evTA
  split
  · split
    · exact n_chk (n_cond (n_k0 rfl) (n_k0 rfl))
    · exact n_none
  · exact n_none
theorem mi_nat (t : TypeId) (x : PV) : Nat1 S (fun K => evMI E t x K) := by
  unfold evMI
  split
  · split
    · exact n_k0 rfl
    · exact n_none
  · exact n_none
theorem load_nat (t : TypeId) (x : PV) : Nat1 S (fun K => evLoad E S t x K) := by
  unfold evLoad
  cases hT : E.T t with
  | none => exact n_none
  | some ti =>
    try dsimp only
    cases x with
    | alias k =>
      try dsimp only
      cases hg : get S k with
      | obj ss =>
        have whole : Nat1 S (fun K : PV → Option ρ => match ti.desc with
            | .struct _ => if ti.size = (ss.map Seg.size).sum then K (.strc ss) else none
            | _ => none) := by
          cases ti.desc with
          | struct fs => exact n_if fun _ => n_k0 rfl
          | _ => exact n_none
        match ss, whole with
        | [.arr C n l], _ =>
          try dsimp only
          cases hd : ti.desc with
          | array n' e => exact n_if fun _ => n_k0 rfl
          | _ => exact n_none
        | [.one v], whole => exact whole
        | [], whole => exact whole
        | .one _ :: _ :: _, whole => exact whole
        | .arr .. :: _ :: _, whole => exact whole
        | [.ro ..], whole => exact whole
        | .ro .. :: _ :: _, whole => exact whole
      | _ => exact n_none
    | ptr k g idx f =>
      try dsimp only
      cases hg : get S k with
      | own C l =>
        try dsimp only
        cases hd : ti.desc with
        | array n e => exact n_if fun _ => n_chk (n_k0 rfl)
        | _ => exact el_nat
      | obj ss => exact rd_nat
      | _ => exact n_none
    | gptr g s idx f =>
      try dsimp only
      cases hg : E.G g with
      | none => exact n_none
      | some ss => exact rd_nat
    | fptr C l idx f => exact el_nat
    | gl g =>
      try dsimp only
      cases hg : E.G g with
      | none => exact n_none
      | some ss =>
        match ss with
        | [.arr C n l] =>
          try dsimp only
          cases hd : ti.desc with
          | array n' e => exact n_if fun _ => n_k0 rfl
          | _ => exact n_none
        | [.one v] => exact n_none
        | [] => exact n_none
        | .one _ :: _ :: _ => exact n_none
        | .arr .. :: _ :: _ => exact n_none
        | [.ro ..] => exact n_none
        | .ro .. :: _ :: _ => exact n_none
    | _ => exact n_none
theorem fieldAddr_nat (t : TypeId) (x : PV) (f : Nat) : Nat1 S (fun K => evFieldAddr E S t x f K) := by
  unfold evFieldAddr
  cases hT : E.T t with
  | none => exact n_none
  | some ti =>
    try dsimp only
    cases hd : ti.desc with
    | struct fs =>
      try dsimp only
      cases hf : fs[f]? with
      | none => exact n_none
      | some fd =>
        try dsimp only
        cases hT2 : E.T fd.type with
        | none => exact n_none
        | some tf =>
          refine n_ite (fun _ => n_none) fun _ => ?_
          cases x with
          | alias k =>
            try dsimp only
            cases hg : get S k with
            | obj ss =>
              try dsimp only
              cases hs : ss[f]? with
              | none => exact n_none
              | some sg => exact n_if fun _ => n_k (ref_own (by rw [hg]; rfl) rfl)
            | _ => exact n_none
          | ptr k g idx f' =>
            cases f' with
            | succ _ => exact n_none
            | zero =>
              change Nat1 S (fun K => match get S k with
                | .own (.strc fs') _ => if fd.offset = f ∧ f < fs'.length ∧ g = 0 then K (.ptr k g idx f) else none
                | _ => none)
              cases hg : get S k with
              | own C l =>
                cases C with
                | sc t => exact n_none
                | strc fs' => exact n_if fun _ => n_k (ref_own (by rw [hg]; rfl) rfl)
              | _ => exact n_none
          | fptr C l idx f' =>
            cases f' with
            | succ _ => cases C <;> exact n_none
            | zero =>
              cases C with
              | sc t => exact n_none
              | strc fs' =>
                change Nat1 S (fun K => if fd.offset = f ∧ f < fs'.length then K (.fptr (.strc fs') l idx f) else none)
                exact n_if fun _ => n_k0 rfl
          | gptr g s idx f' =>
            cases f' with
            | succ _ => exact n_none
            | zero =>
              change Nat1 S (fun K => match E.G g with
                | some ss => (match ss[s]? with
                  | some (.arr (.strc fs') _ _) => if fd.offset = f ∧ f < fs'.length then K (.gptr g s idx f) else none
                  | _ => none)
                | none => none)
              cases E.G g with
              | none => exact n_none
              | some ss =>
                try dsimp only
                cases ss[s]? with
                | none => exact n_none
                | some sg =>
                  cases sg with
                  | one v => exact n_none
                  | ro _ _ _ _ => exact n_none
                  | arr C n l =>
                    cases C with
                    | sc t => exact n_none
                    | strc fs' => exact n_if fun _ => n_k0 rfl
          | _ => exact n_none
    | _ => exact n_none
theorem evBin_bind (td : Option TypeDesc) (op : BinOp) (v u : Value) (lit : Bool) (K : Value → Option ρ) : evBin td op v u lit K = (evBin (ρ := Value) td op v u lit some).bind K := by
  have hs : ∀ op k a b, evShift op k a b K = (evShift (ρ := Value) op k a b some).bind K := fun op k a b => by
    unfold evShift
    split <;> rfl
  have hc : ∀ b (x : Option ρ) (y : Option Value), x = y.bind K → chk b x = (chk b y).bind K := fun b x y h => by cases b <;> simp [chk, h]
  have hi : ∀ (c : Prop) [Decidable c] (x : Option ρ) (y : Option Value), x = y.bind K → (if c then x else none) = (if c then y else none).bind K := fun c _ x y h => by split <;> simp [h]
  have hm : ∀ o : Option Value, (match o with | some v => K v | none => none) = (match o with | some v => some v | none => none).bind K := fun o => by cases o <;> rfl
  unfold evBin
  split
  · split
    · exact hs _ _ _ _
    · exact hc _ _ _ (hs _ _ _ _)
  · split
    · exact hs _ _ _ _
    · exact hc _ _ _ (hs _ _ _ _)
  · exact hc _ _ _ rfl
  · refine hi _ _ _ ?_
    split
    · exact hm _
    · exact hc _ _ _ rfl
  · refine hi _ _ _ ?_
    split
    · exact hm _
    · exact hc _ _ _ rfl
  · refine hi _ _ _ ?_
    exact hm _
  · split <;> first
      | exact hm _
      | rfl
  · split <;> rfl
  · split <;> rfl
  · rfl
theorem bin_nat (td : Option TypeDesc) (op : BinOp) (v u : Value) (lit : Bool) : Nat1 S (fun K : PV → Option ρ => evBin td op v u lit fun r => K (.raw r)) := fun K r h => by
  dsimp only at h
  rw [evBin_bind] at h
  cases hb : evBin (ρ := Value) td op v u lit some with
  | none => rw [hb] at h; cases h
  | some x => exact ⟨.raw x, ref0 rfl, fun K' => by dsimp only; rw [evBin_bind, hb]; rfl⟩
theorem convert_nat (a b : TypeId) (x : PV) : Nat1 S (fun K => evConvert E S a b x K) := by
  unfold evConvert
  cases hA : E.T a with
  | none => exact n_none
  | some ta =>
    cases hB : E.T b with
    | none => exact n_none
    | some tb =>
      try dsimp only
      cases hb : tb.desc with
      | int k =>
        cases x with
        | raw v =>
          cases v with
          | int k' n => exact n_k0 rfl
          | _ => exact n_none
        | _ => exact n_none
      | string =>
        try dsimp only
        cases ha : ta.desc with
        | string =>
          cases x with
          | raw v =>
            cases v with
            | string s => exact n_k0 rfl
            | _ => exact n_none
          | _ => exact n_none
        | slice e =>
          try dsimp only
          split
          · cases contentT S (.sc (.int .u8)) x with
            | none => exact n_none
            | some l => exact n_k0 rfl
          · cases contentT S (.sc (.int .i32)) x with
            | none => exact n_none
            | some l => exact n_k0 rfl
          · exact n_none
        | _ => exact n_none
      | slice e =>
        try dsimp only
        cases ha : ta.desc with
        | slice e' =>
          cases x with
          | alias k =>
            try dsimp only
            cases hc : codOf E b with
            | none => exact n_none
            | some c =>
              obtain ⟨c1, c2⟩ := c
              cases hg : get S k with
              | own C l =>
                try dsimp only
                split
                · exact n_if fun _ => n_chk (n_k (ref_own (by rw [hg]; rfl) rfl))
                · exact n_none
              | _ => (try dsimp only); split <;> first | exact n_none | (exfalso; simp_all; done)
          | _ => exact n_none
        | string =>
          cases x with
          | raw v =>
            cases v with
            | string s =>
              try dsimp only
              split
              · exact n_chk (n_k0 rfl)
              · exact n_none
            | _ => exact n_none
          | _ => exact n_none
        | _ => exact n_none
      | _ => exact n_none
theorem len_nat (t : TypeId) (x : PV) : Nat1 S (fun K => evLen E S t x K) := by
  unfold evLen
  cases hT : E.T t with
  | none => exact n_none
  | some ti =>
    try dsimp only
    cases hd : ti.desc with
    | string =>
      cases x with
      | raw v =>
        cases v with
        | string s => exact n_k0 rfl
        | _ => exact n_none
      | _ => exact n_none
    | slice e =>
      try dsimp only
      cases slLen S x with
      | none => exact n_none
      | some n => exact n_k0 rfl
    | array n e => exact n_k0 rfl
    | _ => exact n_none
theorem buildSlice_nat (t : TypeId) (len : Nat) (ps : List (Nat × Operand)) : Nat1 S (fun K => evBuildSlice E S t len ps K) := by
  unfold evBuildSlice
  cases hc : codOf E t with
  | none => exact n_none
  | some c =>
    obtain ⟨C, b⟩ := c
    try dsimp only
    refine n_if fun _ => ?_
    cases elems S C 0 ps with
    | none => exact n_none
    | some l => exact n_k0 rfl
theorem build_nat (t : TypeId) (ps : List (Nat × Operand)) : Nat1 S (fun K => evBuild E S t ps K) := by
  unfold evBuild
  cases hT : E.T t with
  | none => exact n_none
  | some ti =>
    try dsimp only
    cases ti.desc with
    | struct fs => exact n_if fun _ => n_bind fun z _ => n_k0 rfl
    | array n e =>
      try dsimp only
      match ti.zero with
      | [.arr (.sc c) n' z] => exact n_if fun _ => n_bind fun z' _ => n_k0 rfl
      | [.arr (.strc c) n' z] => exact n_none
      | [.one v] => exact n_none
      | [] => exact n_none
      | .one _ :: _ :: _ => exact n_none
      | .arr (.sc _) .. :: _ :: _ => exact n_none
      | .arr (.strc _) .. :: _ :: _ => exact n_none
      | [.ro ..] => exact n_none
      | .ro .. :: _ :: _ => exact n_none
    | _ => exact n_none
theorem cmp_nat (op : BinOp) (t : TypeId) (x y : PV) : Nat1 S (fun K => evCmp E op t x y K) := by
  unfold evCmp
  cases op <;> first
    | exact n_none
    | exact n_bind fun b _ => n_k0 rfl
theorem make_nat (t : TypeId) (sm : Bool) (x y : PV) : Nat1 S (fun K => evMake E t sm x y K) := by
  unfold evMake
  cases E.T t with
  | none => exact n_none
  | some ti =>
    cases asI x with
    | none => exact n_none
    | some l =>
      cases asI y with
      | none => exact n_none
      | some c =>
        try dsimp only
        cases ti.desc with
        | slice e =>
          try dsimp only
          cases E.T e with
          | none => exact n_none
          | some te =>
            try dsimp only
            cases te.cod with
            | none => exact n_none
            | some cc =>
              cases cc with
              | strc fs => exact n_none
              | sc c0 =>
                cases c0 with
                | int k => exact n_if fun _ => n_cond (n_chk (n_k0 rfl)) (n_chk (n_k0 rfl))
                | _ => exact n_none
        | _ => exact n_none
theorem toPV_ref (d : D1) : d.toPV.ref = none := by cases d <;> rfl
theorem dv_ref (d : DV) : d.toPV.ref = none := by
  cases d with
  | one d => exact toPV_ref d
  | tup ds => rfl
theorem self_ok (hi : Inv S) (x : Operand) : RefOk S (selfAlias x (Px.opd S x)) := by
  cases x with
  | tmp s =>
    show RefOk S (selfAlias (.tmp s) (get S s))
    have key : RefOk S (get S s) := fun k hk => by
      cases hs : S[s]? with
      | none => rw [get_none hs] at hk; cases hk
      | some p => rw [get_eq hs] at hk; exact hi s p k hs hk
    cases hp : get S s <;> rw [hp] at key <;> first
      | exact key
      | exact ref_own (by rw [hp]; rfl) rfl
  | _ => exact ref0 rfl
theorem asg_ref {ty : TypeId} {x : Operand} {p : PV} (h : evAsg E S ty x = some p) : p.ref = none := by
  unfold evAsg at h
  split at h
  · split at h
    · cases hc : codOf E ty with
      | none => rw [hc] at h; cases h
      | some c => rw [hc] at h; cases h; rfl
    · cases h; rfl
  · split at h
    · split at h
      · cases h
      · cases h; rfl
    · cases h
theorem val_nat (hi : Inv S) (ty : TypeId) (o : Op) : Nat1 S (fun K => evVal E S ty o K) := by
  cases o with
  | move x =>
    simp only [evVal]
    have key := self_ok hi x
    cases hp : Px.opd S x with
    | tup ds => exact n_cond n_none (n_k0 rfl)
    | iter s q => exact n_none
    | _ => rw [hp] at key; exact n_k key
  | pick c a b =>
    simp only [evVal]
    cases hp : Px.opd S c with
    | raw v =>
      cases v with
      | bool β =>
        refine n_cond ?_ ?_
        · cases Px.opd S a <;> first | exact n_none | exact n_k0 rfl
        · cases Px.opd S b <;> first | exact n_none | exact n_k0 rfl
      | _ => exact n_none
    | _ => exact n_none
  | assign x =>
    simp only [evVal]
    cases hp : evAsg E S ty x with
    | none => exact n_none
    | some p => exact n_k0 (asg_ref hp)
  | nilCheck x =>
    cases x with
    | tmp s =>
      simp only [evVal]
      cases hp : get S s with
      | obj ss => exact n_k (ref_own (by rw [hp]; rfl) rfl)
      | alias j =>
        try dsimp only
        cases hj : get S j with
        | obj ss => exact n_k (ref_own (by rw [hj]; rfl) rfl)
        | _ => exact n_none
      | _ => exact n_none
    | _ => exact n_none
  | alloc t =>
    simp only [evVal]
    cases E.T t with
    | none => exact n_none
    | some ti => exact n_k0 rfl
  | box t x =>
    simp only [evVal]
    cases Px.opd S x with
    | raw v => exact n_if fun _ => n_k0 rfl
    | arr C n l => exact n_k0 rfl
    | strc ss => exact n_k0 rfl
    | _ => exact n_none
  | build t ps => exact build_nat t _
  | buildSlice t len ps => exact buildSlice_nat t len _
  | load t a => exact load_nat t _
  | binOp op t x y b =>
    simp only [evVal]
    cases hp : Px.opd S x with
    | raw v =>
      cases Px.opd S y with
      | raw u => exact bin_nat _ op v u _
      | _ => exact cmp_nat op t _ _
    | _ => exact cmp_nat op t _ _
  | makeSlice t l c => exact make_nat t _ _ _
  | unOp op t x =>
    simp only [evVal]
    cases Px.opd S x with
    | raw v =>
      try dsimp only
      cases pureVal (Op.unary op v) with
      | none => exact n_none
      | some r => exact n_k0 rfl
    | _ => exact n_none
  | convert a b x => exact convert_nat a b _
  | slice t x lo hi' mx =>
    cases mx with
    | none => exact slice_nat t _ lo hi'
    | some m => exact n_none
  | sliceToArrayPointer t x => exact arrAt_nat t _
  | typeAssert x u t ok => exact ta_nat t ok _
  | makeInterface t x => exact mi_nat t _
  | fieldAddr t x f => exact fieldAddr_nat t _ f
  | indexAddr t x i =>
    simp only [evVal]
    cases asI (Px.opd S i) with
    | none => exact n_none
    | some n => exact indexAddr_nat t _ n
  | index t x i =>
    simp only [evVal]
    cases asI (Px.opd S i) with
    | none => exact n_none
    | some n =>
      cases E.T t with
      | none => exact n_none
      | some ti =>
        try dsimp only
        cases ti.desc with
        | string =>
          cases Px.opd S x with
          | raw v =>
            cases v with
            | string s => exact n_chk (n_k0 rfl)
            | _ => exact n_none
          | _ => exact n_none
        | array n e =>
          cases Px.opd S x with
          | arr C n' l =>
            cases C with
            | sc t => exact n_if fun _ => n_chk (n_k0 rfl)
            | strc fs => exact n_none
          | _ => exact n_none
        | _ => exact n_none
  | extract x i =>
    cases x with
    | tmp s =>
      simp only [evVal]
      cases get S s with
      | raw v =>
        cases v with
        | tuple vs =>
          try dsimp only
          cases vs[i]? with
          | none => exact n_none
          | some v => exact n_k0 rfl
        | _ => exact n_none
      | tup ds =>
        try dsimp only
        cases ds[i]? with
        | none => exact n_none
        | some d => exact n_ite (fun _ => n_none) fun _ => n_k0 (toPV_ref d)
      | _ => exact n_none
    | _ => exact n_none
  | call c =>
    obtain ⟨callee, args, ats⟩ := c
    cases callee with
    | value f =>
      cases f with
      | func f =>
        simp only [evVal]
        cases E.Γ f with
        | none => exact n_none
        | some F =>
          cases evCallArgs S args.toList with
          | none => exact n_none
          | some ds =>
            intro K r h
            obtain ⟨d, hd⟩ := F.nat _ _ _ _ h
            exact ⟨d.toPV, ref0 (dv_ref d), fun K' => hd _⟩
      | _ => exact n_none
    | invoke r m => exact n_none
    | builtin b =>
      cases b with
      | len =>
        simp only [evVal]
        cases args[0]? with
        | none => exact n_none
        | some x =>
          cases ats[0]? with
          | none => exact n_none
          | some t => exact len_nat t _
      | append =>
        simp only [evVal]
        cases args[0]? with
        | none => exact n_none
        | some x =>
          cases args[1]? with
          | none => exact n_none
          | some y =>
            cases ats[0]? with
            | none => exact n_none
            | some t =>
              try dsimp only
              cases ats[1]? with
              | none => exact n_none
              | some t2 =>
                refine n_if fun _ => ?_
                split
                · cases codOf E t with
                  | none => exact n_none
                  | some c =>
                    obtain ⟨C, b⟩ := c
                    refine n_ite (fun _ => n_none) fun _ => ?_
                    cases srcOf E S C (selfAlias y (Px.opd S y)) with
                    | none => exact n_none
                    | some y => exact n_chk (n_k0 rfl)
                · exact n_none
      | _ => exact n_none
  | _ => exact n_none

/-! ### one operation: it puts a value into its slot -/
def setO (S : St) (d : Option Nat) (p : PV) : St := match d with
  | none => S
  | some d => S.set d p
def freeO (S : St) (d : Option Nat) : Prop := ∀ k, d = some k → (get S k).owns = false
theorem setO_len (S : St) (d : Option Nat) (p : PV) : (setO S d p).length = S.length := by cases d <;> simp [setO]
theorem setO_ne {d : Option Nat} {p : PV} {t : Nat} (h : d ≠ some t) : get (setO S d p) t = get S t := by
  cases d with
  | none => rfl
  | some k => exact get_set_ne (fun e => h (by rw [e]))
theorem setO_comm (S : St) {d d' : Option Nat} (p p' : PV) (h : ∀ k, d = some k → d' ≠ some k) : setO (setO S d p) d' p' = setO (setO S d' p') d p := by
  cases d with
  | none => rfl
  | some k =>
    cases d' with
    | none => rfl
    | some k' =>
      have hne : k ≠ k' := fun e => h k rfl (by rw [e])
      exact List.set_comm _ _ hne
theorem put_free {d : Option Nat} {p : PV} (h : freeO S d) : put S d p = setO S d p := by
  cases d with
  | none => rfl
  | some k => simp only [put, setO, kill, h k rfl, Bool.false_eq_true, if_false]
theorem putU_free {d : Option Nat} (h : freeO S d) (K : St → Option ρ) : putU S d K = K (setO S d (.raw undef)) := by
  cases d with
  | none => rfl
  | some k => simp only [putU, pinned_of_owns (h k rfl), cond_false, put_free h]
theorem fin_eq {d : Option Nat} {p : PV} (hf : freeO S d) (hp : RefOk S p) (hl : ∀ k, d = some k → k < S.length) (K : St → Option ρ) : fin d K p S = K (setO S d p) := by
  cases d with
  | none => rfl
  | some k =>
    have e := put_free (p := p) hf
    simp only [setO] at e
    simp only [fin, if_pos (show k < S.length ∧ pinned S k = false from ⟨hl k rfl, pinned_of_owns (hf k rfl)⟩), setO]
    cases hr : p.ref with
    | none => simp only [e]
    | some k' =>
      have hne : k' ≠ k := fun e => by
        have h1 := hp k' hr
        rw [e, hf k rfl] at h1; cases h1
      simp only [if_neg hne, e]
theorem fin_len {d : Option Nat} {p : PV} (h : fin d K p S = some r) : ∀ k, d = some k → k < S.length := fun k hk => by
  subst hk
  unfold fin at h
  split at h
  · rename_i hd
    cases hd
  · rename_i k' hd
    cases hd
    split at h
    · rename_i hh; exact hh.1
    · cases h
theorem get_told {d : Nat} {v : Value} (h : get S d = .raw v) : S.set d (.raw v) = S := by
  have hs := get_of_ne (S := S) (i := d) (by rw [h]; simp)
  rw [h] at hs
  have hl := (List.getElem?_eq_some_iff.1 hs)
  obtain ⟨hl, he⟩ := hl
  rw [← he]
  exact List.set_getElem_self hl

theorem agree_opds {ops : Array Oper} {o : Oper} (h : Agree S S' (o.looksAt ops)) : ∀ x ∈ o.op.operands.toList, AgreeO S S' x := fun x hx t ht =>
  h t (List.mem_append_left _ (List.mem_filterMap.2 ⟨x, hx, by rw [ht]⟩))
theorem agree_guard {ops : Array Oper} {o : Oper} {j : Nat} {want : Bool} {d : Nat} (h : Agree S S' (o.looksAt ops)) (hg : o.guard = some (j, want)) (hd : (ops[j]?).bind (·.dst) = some d) : get S' d = get S d :=
  (h d (List.mem_append_right _ (by rw [hg]; simp [hd]))).1
theorem Agree.refl (ts : List Nat) : Agree S S ts := fun _ _ => ⟨rfl, fun _ _ => rfl⟩

/-- what it puts hangs on what it looks at -/
theorem vstep {ops : Array Oper} {i : Nat} {o : Oper} (hi : Inv S) (hf : freeO S o.dst) (h : evOperV E ops i o S K = some r) :
    ∃ p, RefOk S p ∧ (uniq ops i = true ∨ p.owns = false) ∧ ∀ S', Agree S S' (o.looksAt ops) → S'.length = S.length → Inv S' → freeO S' o.dst → RefOk S' p ∧ ∀ K', evOperV E ops i o S' K' = K' (setO S' o.dst p) := by
  have base : evVal E S o.type o.op (fun p => cond (uniq ops i || !p.owns) (fin o.dst K p S) none) = some r →
      ∃ p, RefOk S p ∧ (uniq ops i = true ∨ p.owns = false) ∧ ∀ S', Agree S S' (o.looksAt ops) → S'.length = S.length → Inv S' → freeO S' o.dst → RefOk S' p ∧ ∀ K', evVal E S' o.type o.op (fun p => cond (uniq ops i || !p.owns) (fin o.dst K' p S') none) = K' (setO S' o.dst p) := fun h => by
    obtain ⟨p, hp, hk⟩ := val_nat hi o.type o.op _ _ h
    dsimp only at hk
    rw [hk] at h
    cases hu : (uniq ops i || !p.owns) with
    | false => rw [hu] at h; cases h
    | true =>
      rw [hu] at h
      simp only [cond_true] at h
      refine ⟨p, hp, ?_, fun S' ha hl hi' hf' => ⟨?_, fun K' => ?_⟩⟩
      · rw [Bool.or_eq_true, Bool.not_eq_true'] at hu; exact hu
      · have key : ∀ K', evVal E S' o.type o.op K' = K' p := fun K' => by rw [evVal_loc o.type o.op (agree_opds ha), hk]
        obtain ⟨p', hp', hk'⟩ := val_nat (E := E) hi' o.type o.op (fun _ => some r) r (by dsimp only; rw [key])
        have e : p' = p := by
          classical
          have h1 := (key (fun q => if q = p then some r else none)).symm.trans (hk' (fun q => if q = p then some r else none))
          simp only [if_true] at h1
          by_cases hpp : p' = p
          · exact hpp
          · rw [if_neg hpp] at h1; cases h1
        rw [← e]; exact hp'
      · rw [evVal_loc o.type o.op (agree_opds ha), hk, hu]
        simp only [cond_true]
        have hlen := fin_len h
        cases hd : o.dst with
        | none => rfl
        | some k =>
          rw [hd] at hf' hlen
          have e := put_free (p := p) hf'
          simp only [setO] at e
          simp only [fin, setO, if_pos (show k < S'.length ∧ pinned S' k = false from ⟨hl ▸ hlen k rfl, pinned_of_owns (hf' k rfl)⟩)]
          cases hr : p.ref with
          | none => simp only [e]
          | some k' =>
            have hne : k' ≠ k := fun e => by
              have h1 := hp k' hr
              rw [e, hf k hd] at h1; cases h1
            simp only [if_neg hne, e]
  unfold evOperV at h
  cases hg : o.guard with
  | none =>
    rw [hg] at h
    obtain ⟨p, h1, h2, h3⟩ := base h
    refine ⟨p, h1, h2, fun S' ha hl hi' hf' => ?_⟩
    unfold evOperV
    rw [hg]
    exact h3 S' ha hl hi' hf'
  | some jw =>
    obtain ⟨j, want⟩ := jw
    rw [hg] at h
    dsimp only at h
    cases hd : (ops[j]?).bind (·.dst) with
    | none => rw [hd] at h; cases h
    | some d =>
      rw [hd] at h
      dsimp only at h
      split at h
      · rename_i β hβ
        have told : ∀ S', get S' d = .raw (.bool β) → ∀ K', evOperV E ops i o S' K' = if β = want then evVal E S' o.type o.op (fun p => cond (uniq ops i || !p.owns) (fin o.dst K' p S') none) else putU S' o.dst K' := fun S' hb K' => by
          unfold evOperV
          rw [hg]
          try dsimp only
          rw [hd]
          try dsimp only
          rw [hb]
          have e := get_told hb
          cases β <;> simp only [cond_true, cond_false, e]
        have hh : evOperV E ops i o S K = some r := by
          unfold evOperV
          rw [hg]
          try dsimp only
          rw [hd]
          try dsimp only
          rw [hβ]
          exact h
        rw [told S hβ] at hh
        by_cases hw : β = want
        · rw [if_pos hw] at hh
          obtain ⟨p, h1, h2, h3⟩ := base hh
          refine ⟨p, h1, h2, fun S' ha hl hi' hf' => ?_⟩
          obtain ⟨g1, g2⟩ := h3 S' ha hl hi' hf'
          refine ⟨g1, fun K' => ?_⟩
          rw [told S' (by rw [agree_guard ha hg hd]; exact hβ), if_pos hw]
          exact g2 K'
        · refine ⟨.raw undef, ref0 rfl, .inr rfl, fun S' ha hl _ hf' => ⟨ref0 rfl, fun K' => ?_⟩⟩
          rw [told S' (by rw [agree_guard ha hg hd]; exact hβ), if_neg hw, putU_free hf']
      · rename_i vs hβ
        refine ⟨.raw undef, ref0 rfl, .inr rfl, fun S' ha hl _ hf' => ⟨ref0 rfl, fun K' => ?_⟩⟩
        unfold evOperV
        rw [hg]
        dsimp only
        rw [hd]
        dsimp only
        rw [agree_guard ha hg hd, hβ]
        dsimp only
        rw [putU_free hf']
      · cases h

/-! ### the same in another order -/
theorem inv_set {d : Option Nat} {p : PV} (hi : Inv S) (hf : freeO S d) (hp : RefOk S p) : Inv (setO S d p) := fun i q k hq hk => by
  have hown : (get S k).owns = true := by
    cases d with
    | none => exact hi i q k hq hk
    | some d =>
      by_cases e : d = i
      · subst e
        simp only [setO] at hq
        by_cases hl : d < S.length
        · rw [List.getElem?_set_self hl] at hq
          cases hq
          exact hp k hk
        · rw [List.getElem?_eq_none (by simpa using Nat.le_of_not_lt hl)] at hq; cases hq
      · simp only [setO] at hq
        rw [List.getElem?_set_ne e] at hq
        exact hi i q k hq hk
  rw [setO_ne]
  · exact hown
  · intro e
    rw [hf k e] at hown; cases hown
theorem dstOf_eq {ops : Array Oper} {i : Nat} {o : Oper} (h : ops[i]? = some o) : dstOf ops i = o.dst := by simp [dstOf, h]
theorem free_cons {ops : Array Oper} {i : Nat} {l : List Nat} : free ops (i :: l) S = true ↔ (alone ops i = false → freeO S (dstOf ops i)) ∧ free ops l S = true := by
  unfold free freeO
  rw [List.all_cons, Bool.and_eq_true]
  refine and_congr_left fun _ => ?_
  cases hd : dstOf ops i with
  | none => simp
  | some d => cases ha : alone ops i <;> simp
theorem free_app {ops : Array Oper} {l m : List Nat} : free ops (l ++ m) S = true ↔ free ops l S = true ∧ free ops m S = true := by
  unfold free
  rw [List.all_append, Bool.and_eq_true]
theorem free_mem {ops : Array Oper} {l : List Nat} : free ops l S = true ↔ ∀ i ∈ l, alone ops i = false → freeO S (dstOf ops i) := by
  induction l with
  | nil => simp [free]
  | cons a l ih => rw [free_cons, ih]; simp
theorem free_set {ops : Array Oper} {i : Nat} {l : List Nat} {p : PV} (hf : free ops l S = true) (hl : ∀ j ∈ l, j < ops.size ∧ j ≠ i) (hu : uniq ops i = true ∨ p.owns = false) : free ops l (setO S (dstOf ops i) p) = true :=
  free_mem.2 fun j hj haj k hk => by
    by_cases e : dstOf ops i = some k
    · rw [e]
      rcases hu with hu | hu
      · exfalso
        have := List.all_eq_true.1 hu j (List.mem_range.2 (hl j hj).1)
        simp [(hl j hj).2, e, hk] at this
      · by_cases hlt : k < S.length
        · simp only [setO]; rw [get_set_same hlt]; exact hu
        · simp only [setO]; rw [get_none (by simpa using Nat.le_of_not_lt hlt)]; rfl
    · rw [setO_ne e]; exact free_mem.1 hf j hj haj k hk
theorem agree_set {ts : List Nat} {d : Option Nat} {p : PV} (hi : Inv S) (hf : freeO S d) (hd : ∀ k, d = some k → k ∉ ts) : Agree S (setO S d p) ts := fun t ht => by
  refine ⟨setO_ne fun e => hd t e ht, fun k hk => setO_ne fun e => ?_⟩
  have h1 : (get S k).owns = true := by
    cases hs : S[t]? with
    | none => rw [get_none hs] at hk; cases hk
    | some q => rw [get_eq hs] at hk; exact hi t q k hs hk
  rw [hf k e] at h1; cases h1
/-- back again -/
theorem agree_back {ts : List Nat} {d : Option Nat} {p : PV} (hi : Inv S) (hf : freeO S d) (hd : ∀ k, d = some k → k ∉ ts) : Agree (setO S d p) S ts := fun t ht => by
  obtain ⟨h1, h2⟩ := agree_set (p := p) hi hf hd t ht
  exact ⟨h1.symm, fun k hk => by rw [h1] at hk; exact (h2 k hk).symm⟩
theorem store_nat {t : TypeId} {p x : PV} (h : evStore E S t p x K = some r) : ∃ k q, p.ref = some k ∧ q.owns = true ∧ q.ref = none ∧ (get S k).owns = true ∧ ∀ S', get S' k = get S k → ∀ K', evStore E S' t p x K' = K' (S'.set k q) := by
  unfold evStore at h
  cases hT : E.T t with
  | none => rw [hT] at h; cases h
  | some ti =>
    rw [hT] at h
    dsimp only at h
    split at h
    · rename_i k
      split at h
      · rename_i C n l C' n' l' hg
        split at h
        · rename_i hc
          exact ⟨k, .obj [.arr C' n' l'], rfl, rfl, rfl, by rw [hg]; rfl, fun S' hS K' => by simp [evStore, hT, hS, hg, hc]⟩
        · cases h
      · rename_i v0 v hg
        split at h
        · rename_i hc
          exact ⟨k, .obj [.one v], rfl, rfl, rfl, by rw [hg]; rfl, fun S' hS K' => by simp [evStore, hT, hS, hg, hc]⟩
        · cases h
      · rename_i _ _ ss ss' hg
        split at h
        · rename_i hc
          refine ⟨k, .obj ss', rfl, rfl, rfl, by rw [hg]; rfl, fun S' hS K' => ?_⟩
          simp [evStore, hT, hS, hg, hc]
        · cases h
      · cases h
    · rename_i k g idx
      split at h
      · rename_i c l hg
        split at h
        · rename_i hc
          split at h
          · rename_i v
            cases hd : c.dec v with
            | none => rw [hd] at h; cases h
            | some y => exact ⟨k, .own (.sc c) (l.set idx y), rfl, rfl, rfl, by rw [hg]; rfl, fun S' hS K' => by simp [evStore, hT, hS, hg, hc, hd]⟩
          · cases h
        · cases h
      · rename_i ss hg
        split at h
        · rename_i v0 hs
          split at h
          · rename_i hc
            split at h
            · rename_i v
              split at h
              · rename_i hv
                exact ⟨k, .obj (ss.set g (.one v)), rfl, rfl, rfl, by rw [hg]; rfl, fun S' hS K' => by simp [evStore, hT, hS, hg, hc, hs, hv]⟩
              · cases h
            · cases h
          · cases h
        · rename_i c n l hs
          split at h
          · rename_i v
            split at h
            · rename_i hc
              cases hd : c.dec v with
              | none => rw [hd] at h; cases h
              | some y => exact ⟨k, .obj (ss.set g (.arr (.sc c) n (l.set idx y))), rfl, rfl, rfl, by rw [hg]; rfl, fun S' hS K' => by simp [evStore, hT, hS, hg, hs, hc, hd]⟩
            · cases h
          · rename_i C' n' l'
            split at h
            · rename_i hc
              exact ⟨k, .obj (ss.set g (.arr C' n' l')), rfl, rfl, rfl, by rw [hg]; rfl, fun S' hS K' => by simp [evStore, hT, hS, hg, hs, hc]⟩
            · cases h
          · cases h
        · cases h
      · cases h
    · cases h
theorem isStore_op {ops : Array Oper} {i : Nat} {o : Oper} (ho : ops[i]? = some o) (h : isStore ops i = true) : ∃ t a x, o.op = .store t a x ∧ o.guard = none ∧ o.dst = none := by
  unfold isStore at h
  rw [ho] at h
  dsimp only at h
  split at h
  · rename_i t a x h1 h2 h3; exact ⟨t, a, x, h1, h2, h3⟩
  · cases h
theorem unord_comm (ops : Array Oper) (i j : Nat) : unord ops i j = unord ops j i := by
  unfold unord
  rw [Bool.or_comm (aftT ops i j), show (j == i) = (i == j) from Bool.beq_comm]
theorem looksOf_eq {ops : Array Oper} {i : Nat} {o : Oper} (h : ops[i]? = some o) : looksOf ops i = o.looksAt ops := by simp [looksOf, h]
/-- what an operation does that may be drawn about -/
inductive DStep (E : Env ρ) (ops : Array Oper) (i : Nat) (o : Oper) (S : St) : Option Nat → PV → Prop
  | val (p : PV) (hs : isStore ops i = false) (hp : RefOk S p) (hu : uniq ops i = true ∨ p.owns = false) (hn : byStore ops i = true → noRefs S (o.looksAt ops) = true)
      (ht : ∀ S', Agree S S' (o.looksAt ops) → S'.length = S.length → Inv S' → freeO S' o.dst → RefOk S' p ∧ ∀ K' : St → Option ρ, evOperV E ops i o S' K' = K' (setO S' o.dst p)) : DStep E ops i o S o.dst p
  | sto (k : Nat) (q : PV) (hs : isStore ops i = true) (hq : q.owns = true) (hr : q.ref = none) (hk : (get S k).owns = true)
      (hj : ∀ j, j < ops.size → unord ops i j = true → isStore ops j = false ∧ k ∉ looksOf ops j)
      (hks : ∀ S1 : St, (∀ t ∈ o.looksAt ops, get S1 t = get S t) → Inv S1 → (get S1 k).owns = true)
      (ht : ∀ S', (∀ t ∈ o.looksAt ops, get S' t = get S t) → get S' k = get S k → ∀ K' : St → Option ρ, stepS E ops i o S' K' = K' (S'.set k q)) : DStep E ops i o S (some k) q
theorem inv_sto {k : Nat} {q : PV} (hi : Inv S) (hq : q.owns = true) (hr : q.ref = none) (hk : (get S k).owns = true) : Inv (S.set k q) := fun i p j hp hj => by
  have hkl : k < S.length := (List.getElem?_eq_some_iff.1 (get_some hk)).1
  by_cases hik : i = k
  · subst hik
    rw [List.getElem?_set_self hkl] at hp
    cases hp
    rw [hr] at hj; cases hj
  · rw [List.getElem?_set_ne (Ne.symm hik)] at hp
    have := hi i p j hp hj
    by_cases hjk : j = k
    · subst hjk; rw [get_set_same hkl]; exact hq
    · rw [get_set_ne hjk]; exact this
theorem self_ref {x : Operand} {k : Nat} (h : (selfAlias x (Px.opd S x)).ref = some k) : ∃ s, x = .tmp s ∧ (k = s ∧ (get S s).owns = true ∨ (get S s).ref = some k) := by
  cases x with
  | tmp s =>
    refine ⟨s, rfl, ?_⟩
    have h : (selfAlias (.tmp s) (get S s)).ref = some k := h
    cases hp : get S s <;> rw [hp] at h <;> simp only [selfAlias, PV.ref, Option.some.injEq, reduceCtorEq] at h <;> first
      | exact .inl ⟨h.symm, rfl⟩
      | exact .inr (by simp only [PV.ref, h])
  | const c => cases h
  | global g => cases h
  | func f => cases h
theorem looks_mem {ops : Array Oper} {o : Oper} {s : Nat} (h : Operand.tmp s ∈ o.op.operands.toList) : s ∈ o.looksAt ops := by
  unfold Oper.looksAt
  exact List.mem_append_left _ (List.mem_filterMap.2 ⟨_, h, rfl⟩)
theorem dstep {ops : Array Oper} {i : Nat} {o : Oper} (ho : ops[i]? = some o) (hai : isStore ops i = false → isApp ops i = false) (hi : Inv S) (hf : freeO S o.dst) (h : evD E ops i o S K = some r) : ∃ t p, DStep E ops i o S t p ∧ ∀ K' : St → Option ρ, evD E ops i o S K' = K' (setO S t p) := by
  unfold evD at h ⊢
  cases hs : isStore ops i with
  | true =>
    rw [hs] at h
    simp only [cond_true] at h ⊢
    obtain ⟨t, a, x, h1, h2, h3⟩ := isStore_op ho hs
    unfold stepS at h
    rw [h1] at h
    dsimp only at h
    split at h
    · rename_i k hk
      cases hc : ((List.range ops.size).all fun j => !unord ops i j || (!isStore ops j && !(looksOf ops j).contains k)) with
      | false => rw [hc] at h; cases h
      | true =>
        rw [hc] at h
        simp only [cond_true] at h
        obtain ⟨k', q, g1, g2, g3, g4, g5⟩ := store_nat h
        rw [hk] at g1; cases g1
        obtain ⟨s, hx, hsr⟩ := self_ref hk
        have hsm : s ∈ o.looksAt ops := looks_mem (by rw [h1, hx]; simp [Op.operands])
        have ht : ∀ S', (∀ t ∈ o.looksAt ops, get S' t = get S t) → get S' k = get S k → ∀ K' : St → Option ρ, stepS E ops i o S' K' = K' (S'.set k q) := fun S' ha hk' K' => by
          have ea : Px.opd S' a = Px.opd S a := by rw [hx]; exact ha s hsm
          have ex : Px.opd S' x = Px.opd S x := by
            cases x with
            | tmp u => exact ha u (looks_mem (by rw [h1]; simp [Op.operands]))
            | _ => rfl
          unfold stepS
          rw [h1]
          dsimp only
          rw [ea, hk]
          dsimp only
          rw [hc, ex]
          exact g5 S' hk' K'
        refine ⟨some k, q, .sto k q hs g2 g3 g4 (fun j hj hu => ?_) (fun S1 ha hi1 => ?_) ht, fun K' => ht S (fun _ _ => rfl) rfl K'⟩
        · have := List.all_eq_true.1 hc j (List.mem_range.2 hj)
          rw [hu] at this
          simpa using this
        · have e := ha s hsm
          rcases hsr with ⟨rfl, hown⟩ | hsr
          · rw [e]; exact hown
          · have hr1 : (get S1 s).ref = some k := by rw [e]; exact hsr
            have hnj : get S1 s ≠ .junk := fun hj => by rw [hj] at hr1; cases hr1
            exact hi1 s _ k (get_of_ne hnj) hr1
    · cases h
  | false =>
    rw [hs, hai hs] at h
    rw [hai hs]
    simp only [cond_false] at h ⊢
    cases hb : (!byStore ops i || noRefs S (looksOf ops i)) with
    | false => rw [hb] at h; cases h
    | true =>
      rw [hb] at h
      simp only [cond_true] at h ⊢
      obtain ⟨p, h1, h2, h3⟩ := vstep hi hf h
      refine ⟨o.dst, p, .val p hs h1 h2 (fun hbs => ?_) h3, (h3 S (Agree.refl _) rfl hi hf).2⟩
      rw [hbs] at hb
      rw [looksOf_eq ho] at hb
      simpa using hb
theorem noRefs_get {ts : List Nat} (h : noRefs S ts = true) {t : Nat} (ht : t ∈ ts) : (get S t).ref = none := by
  have := List.all_eq_true.1 h t ht
  cases hr : (get S t).ref with
  | none => rfl
  | some k => rw [hr] at this; cases this
theorem noRefs_agree {ts : List Nat} (h : ∀ t ∈ ts, get S' t = get S t) : noRefs S' ts = noRefs S ts := by
  unfold noRefs
  rw [Bool.eq_iff_iff, List.all_eq_true, List.all_eq_true]
  exact ⟨fun hh t ht => by rw [← h t ht]; exact hh t ht, fun hh t ht => by rw [h t ht]; exact hh t ht⟩
theorem freeO_set {d t : Option Nat} {p : PV} (h : freeO S d) (hne : ∀ k, d = some k → t ≠ some k) : freeO (setO S t p) d := fun k hk => by
  rw [setO_ne (hne k hk)]; exact h k hk
/-- two that stand apart, in either order -/
theorem swap {ops : Array Oper} {i j : Nat} {oi oj : Oper} (hoi : ops[i]? = some oi) (hoj : ops[j]? = some oj) (hin : i < ops.size) (hjn : j < ops.size) (hai : isApp ops i = false) (haj : isApp ops j = false) (hun : unord ops j i = true) (hap : oj.apart ops oi = true) (hi : Inv S) (hfj : freeO S oj.dst) (hfi : freeO S oi.dst)
    (h : evD E ops j oj S (fun S1 => evD E ops i oi S1 K) = some r) : evD E ops i oi S (fun S1 => evD E ops j oj S1 K) = some r := by
  obtain ⟨a1, a2, a3⟩ := Oper.apart_spec hap
  obtain ⟨tj, pj, dj, ej⟩ := dstep hoj (fun _ => haj) hi hfj h
  rw [ej] at h
  have hun' : unord ops i j = true := by rw [unord_comm]; exact hun
  cases dj with
  | val _ hsj hpj huj hnj htj =>
    have hi1 : Inv (setO S oj.dst pj) := inv_set hi hfj hpj
    have hfi1 : freeO (setO S oj.dst pj) oi.dst := freeO_set hfi fun k hk e => a2 k e hk
    obtain ⟨ti, pi, di, ei⟩ := dstep hoi (fun _ => hai) hi1 hfi1 h
    rw [ei] at h
    have hget : ∀ t ∈ oi.looksAt ops, get S t = get (setO S oj.dst pj) t := fun t ht => (setO_ne fun e => a1 t e ht).symm
    cases di with
    | val _ hsi hpi hui hni hti =>
      obtain ⟨hpi0, hsi'⟩ := hti S (agree_back hi hfj a1) (by rw [setO_len]) hi hfi
      have hni0 : (!byStore ops i || noRefs S (looksOf ops i)) = true := by
        cases hb : byStore ops i with
        | false => rfl
        | true =>
          rw [looksOf_eq hoi, noRefs_agree hget, hni hb]; rfl
      unfold evD
      rw [hsi, hai, hni0]
      simp only [cond_false, cond_true]
      rw [hsi']
      have hi2 : Inv (setO S oi.dst pi) := inv_set hi hfi hpi0
      have hfj2 : freeO (setO S oi.dst pi) oj.dst := freeO_set hfj fun k hk e => a2 k hk e
      have hget2 : ∀ t ∈ oj.looksAt ops, get (setO S oi.dst pi) t = get S t := fun t ht => setO_ne fun e => a3 t e ht
      have hnj0 : (!byStore ops j || noRefs (setO S oi.dst pi) (looksOf ops j)) = true := by
        cases hb : byStore ops j with
        | false => rfl
        | true =>
          rw [looksOf_eq hoj, noRefs_agree hget2, hnj hb]; rfl
      rw [hsj, haj, hnj0]
      simp only [cond_false, cond_true]
      rw [(htj _ (agree_set hi hfi a3) (by rw [setO_len]) hi2 hfj2).2, ← setO_comm S pj pi (fun k hk => a2 k hk)]
      exact h
    | sto k _ hsi hq hr hk hjj hks hti =>
      obtain ⟨_, hkj⟩ := hjj j hjn hun'
      rw [looksOf_eq hoj] at hkj
      have hkS : (get S k).owns = true := hks S hget hi
      have hne : ∀ m, oj.dst = some m → m ≠ k := fun m hm e => by subst e; rw [hfj m hm] at hkS; cases hkS
      have hgk : get S k = get (setO S oj.dst pj) k := (setO_ne fun e => hne k e rfl).symm
      have hbj : byStore ops j = true := List.any_eq_true.2 ⟨i, List.mem_range.2 hin, by rw [hun, hsi]; rfl⟩
      have hnr := hnj hbj
      have hkl : k < S.length := (List.getElem?_eq_some_iff.1 (get_some hkS)).1
      have hget2 : ∀ t ∈ oj.looksAt ops, get (S.set k pi) t = get S t := fun t ht => get_set_ne fun e => hkj (e ▸ ht)
      have hag : Agree S (S.set k pi) (oj.looksAt ops) := fun t ht => ⟨hget2 t ht, fun m hm => by rw [noRefs_get hnr ht] at hm; cases hm⟩
      have hi2 : Inv (S.set k pi) := inv_sto hi hq hr hkS
      have hfj2 : freeO (S.set k pi) oj.dst := freeO_set (t := some k) (p := pi) hfj fun m hm e => hne m hm (by cases e; rfl)
      unfold evD
      rw [hsi, hsj, haj]
      simp only [cond_true, cond_false]
      rw [hti S hget hgk]
      have hnj0 : (!byStore ops j || noRefs (S.set k pi) (looksOf ops j)) = true := by
        rw [looksOf_eq hoj, noRefs_agree hget2, hnr]; simp
      rw [hnj0]
      simp only [cond_true]
      rw [(htj _ hag (by simp) hi2 hfj2).2]
      have := setO_comm S (d := oj.dst) (d' := some k) pj pi (fun m hm e => hne m hm (by cases e; rfl))
      simp only [setO] at this h ⊢
      rw [← this]; exact h
  | sto k _ hsj hq hr hk hjj hks htj =>
    obtain ⟨hsi, hki⟩ := hjj i hin hun
    rw [looksOf_eq hoi] at hki
    have hne : ∀ m, oi.dst = some m → m ≠ k := fun m hm e => by subst e; rw [hfi m hm] at hk; cases hk
    have hi1 : Inv (setO S (some k) pj) := inv_sto hi hq hr hk
    have hfi1 : freeO (setO S (some k) pj) oi.dst := freeO_set hfi fun m hm e => hne m hm (by cases e; rfl)
    obtain ⟨ti, pi, di, ei⟩ := dstep hoi (fun _ => hai) hi1 hfi1 h
    rw [ei] at h
    have hget : ∀ t ∈ oi.looksAt ops, get S t = get (setO S (some k) pj) t := fun t ht => (setO_ne fun e => hki (by cases e; exact ht)).symm
    cases di with
    | sto k2 q2 hsi2 => rw [hsi] at hsi2; cases hsi2
    | val _ hsi2 hpi hui hni hti =>
      have hbi : byStore ops i = true := List.any_eq_true.2 ⟨j, List.mem_range.2 hjn, by rw [hun', hsj]; rfl⟩
      have hnr := hni hbi
      have hag : Agree (setO S (some k) pj) S (oi.looksAt ops) := fun t ht => ⟨hget t ht, fun m hm => by rw [noRefs_get hnr ht] at hm; cases hm⟩
      obtain ⟨hpi0, hsi'⟩ := hti S hag (by rw [setO_len]) hi hfi
      have hni0 : (!byStore ops i || noRefs S (looksOf ops i)) = true := by
        rw [looksOf_eq hoi, noRefs_agree hget, hnr]; simp
      unfold evD
      rw [hsi, hsj, hai, hni0]
      simp only [cond_true, cond_false]
      rw [hsi']
      rw [htj (setO S oi.dst pi) (fun t ht => setO_ne fun e => a3 t e ht) (setO_ne fun e => hne k e rfl)]
      have := setO_comm S (d := oi.dst) (d' := some k) pi pj (fun m hm e => hne m hm (by cases e; rfl))
      simp only [setO] at this h ⊢
      rw [this]; exact h
/-! ### an append that uses up what it is appended to -/
theorem isApp_op {ops : Array Oper} {i : Nat} {o : Oper} (ho : ops[i]? = some o) (h : isApp ops i = true) : ∃ args ats s d, o.op = .call { callee := .builtin .append, args := args, argTypes := ats } ∧ o.guard = none ∧ o.dst = some d ∧ args[0]? = some (.tmp s) ∧ uniq ops i = true ∧ ∀ j, j < i → aftT ops i j = true := by
  unfold isApp at h
  rw [ho] at h
  dsimp only at h
  split at h
  · rename_i args ats d h1 h2 h3
    split at h
    · rename_i s h4
      rw [Bool.and_eq_true, List.all_eq_true] at h
      exact ⟨args, ats, s, d, h1, h2, h3, h4, h.1, fun j hj => h.2 j (List.mem_range.2 hj)⟩
    · cases h
  · cases h
theorem store_app {ops : Array Oper} {i : Nat} {o : Oper} (ho : ops[i]? = some o) (h : isStore ops i = true) : isApp ops i = false := by
  obtain ⟨t, a, x, h1, h2, h3⟩ := isStore_op ho h
  unfold isApp
  rw [ho]
  dsimp only
  rw [h1]
theorem kill_setO {k : Nat} {d : Option Nat} {p : PV} (hk : (get S k).owns = true) (hd : ∀ m, d = some m → m ≠ k) (hp : p.ref ≠ some k) : kill (setO S d p) k = setO (kill S k) d p := by
  cases d with
  | none => rfl
  | some m =>
    have hm := hd m rfl
    simp only [setO]
    unfold kill
    rw [get_set_ne (Ne.symm hm), if_pos hk, if_pos hk, List.map_set, show kill1 k p = p by unfold kill1; rw [if_neg hp], List.set_comm _ _ hm]
theorem get_kill {k t : Nat} (ht : t ≠ k) (hk : (get S k).owns = true) : get (kill S k) t = kill1 k (get S t) := by
  unfold kill
  rw [if_pos hk, get_set_ne ht, get_map rfl]
theorem get_kill_same {k : Nat} (hk : (get S k).owns = true) : get (kill S k) k = .junk := by
  have hkl : k < S.length := (List.getElem?_eq_some_iff.1 (get_some hk)).1
  unfold kill
  rw [if_pos hk, get_set_same (by simpa using hkl)]
theorem kill1_own {k : Nat} {p : PV} (h : p.owns = false) : (kill1 k p).owns = false := by
  unfold kill1; split
  · rfl
  · exact h
theorem freeO_kill {k : Nat} {d : Option Nat} (hk : (get S k).owns = true) (h : freeO S d) : freeO (kill S k) d := fun m hm => by
  by_cases e : m = k
  · subst e; rw [get_kill_same hk]; rfl
  · rw [get_kill e hk]; exact kill1_own (h m hm)
theorem inv_kill {k : Nat} (hi : Inv S) (hk : (get S k).owns = true) : Inv (kill S k) := fun i p j hp hj => by
  have hg := get_eq hp
  by_cases e : i = k
  · subst e; rw [get_kill_same hk] at hg; rw [← hg] at hj; cases hj
  · rw [get_kill e hk] at hg
    rw [← hg] at hj
    obtain ⟨h1, h2⟩ := kill1_ref hj
    have hn : get S i ≠ .junk := fun e => by rw [e] at h1; cases h1
    have := hi i _ j (get_of_ne hn) h1
    rw [get_kill h2 hk, kill1_owns this]; exact this
theorem app_step {ops : Array Oper} {i : Nat} {o : Oper} (ho : ops[i]? = some o) (hi : Inv S) (hf : freeO S o.dst) (hs : isStore ops i = false) (ha : isApp ops i = true) (h : evD E ops i o S K = some r) :
    ∃ k q, PV.owns q = true ∧ PV.ref q = none ∧ (get S k).owns = true ∧ (∀ m, o.dst = some m → m ≠ k) ∧ appOk ops i S k = true ∧
      ∀ S', Agree S S' (o.looksAt ops) → S'.length = S.length → freeO S' o.dst → appOk ops i S' k = true → ∀ K' : St → Option ρ, evD E ops i o S' K' = K' (setO (kill S' k) o.dst q) := by
  obtain ⟨args, ats, s, d, hop, hg, hd, h0, hu, _⟩ := isApp_op ho ha
  have hev : ∀ (S' : St) (K' : St → Option ρ), evD E ops i o S' K' = stepA E ops i o S' K' := fun S' K' => by unfold evD; rw [hs, ha]; rfl
  rw [hev] at h
  simp only [hev]
  have hst : ∀ (S' : St) (K' : St → Option ρ), stepA E ops i o S' K' = match args[1]?, ats[0]?, ats[1]? with
    | some y, some t, some t2 => (match appAt S' s with
      | some k => cond (okSrc E t2 && appOk ops i S' k) (evAppend E S' t (.tmp s) y (fin o.dst K')) none
      | none => none)
    | _, _, _ => none := fun S' K' => by
    unfold stepA
    rw [hop]
    dsimp only
    rw [h0]
    cases args[1]? with
    | none => rfl
    | some y =>
      cases ats[0]? with
      | none => rfl
      | some t =>
        cases ats[1]? with
        | none => rfl
        | some t2 => rfl
  rw [hst] at h
  simp only [hst]
  cases h1 : args[1]? with
  | none => rw [h1] at h; cases h
  | some y =>
    cases h2 : ats[0]? with
    | none => rw [h1, h2] at h; cases h
    | some t =>
      cases h3 : ats[1]? with
      | none => rw [h1, h2, h3] at h; cases h
      | some t2 =>
        rw [h1, h2, h3] at h
        dsimp only at h ⊢
        cases hk : appAt S s with
        | none => rw [hk] at h; cases h
        | some k =>
          rw [hk] at h
          dsimp only at h
          cases hok : okSrc E t2 with
          | false => rw [hok] at h; cases h
          | true =>
            rw [hok, Bool.true_and] at h
            cases hap : appOk ops i S k with
            | false => rw [hap] at h; cases h
            | true =>
              rw [hap] at h
              simp only [cond_true] at h
              have hopm : ∀ (n : Nat) x, args[n]? = some x → x ∈ o.op.operands.toList := fun n x hx => by
                rw [hop]
                simp only [Op.operands, Call.operands]
                have := Array.mem_of_getElem? hx
                simp [this]
              have hsl : s ∈ o.looksAt ops := looks_mem (hopm 0 _ h0)
              have hyl : y ∈ o.op.operands.toList := hopm 1 _ h1
              obtain ⟨C, l, hkC, hks⟩ : ∃ C l, get S k = .own C l ∧ (get S s = .own C l ∧ k = s ∨ get S s = .alias k) := by
                unfold appAt at hk
                split at hk
                · rename_i C l hh; cases hk; exact ⟨C, l, hh, .inl ⟨hh, rfl⟩⟩
                · rename_i j hh
                  split at hk
                  · rename_i C l hh2; cases hk; exact ⟨C, l, hh2, .inr hh⟩
                  · cases hk
                · cases hk
              have hko : (get S k).owns = true := by rw [hkC]; rfl
              have hdk : ∀ m, o.dst = some m → m ≠ k := fun m hm e => by subst e; rw [hf m hm] at hko; cases hko
              have hform : ∀ (S' : St) (K' : St → Option ρ), get S' s = get S s → get S' k = get S k → evAppend E S' t (.tmp s) y (fin o.dst K') = match codOf E t with
                  | none => none
                  | some (C0, bytes) => if bytes = 0 then none else match srcOf E S' C0 (selfAlias y (Px.opd S' y)) with
                    | none => none
                    | some ys => if h : C = C0 then chk (room C0 bytes (h ▸ l) ys) (fin o.dst K' (.own C0 ((h ▸ l) ++ ys)) (kill S' k)) else none := fun S' K' e1 e2 => by
                unfold evAppend
                have eo : Px.opd S' (.tmp s) = get S s := e1
                have ek : get S' k = .own C l := by rw [e2, hkC]
                rw [eo]
                rcases hks with ⟨hh, rfl⟩ | hh
                · rw [hh]
                  simp only [ek]
                  rfl
                · rw [hh]
                  simp only [ek]
                  rfl
              rw [hform S K rfl rfl] at h
              cases hco : codOf E t with
              | none => rw [hco] at h; cases h
              | some Cb =>
                obtain ⟨C0, bytes⟩ := Cb
                rw [hco] at h
                dsimp only at h
                split at h
                · cases h
                · rename_i hb
                  cases hsrc : srcOf E S C0 (selfAlias y (Px.opd S y)) with
                  | none => rw [hsrc] at h; cases h
                  | some ys =>
                    rw [hsrc] at h
                    dsimp only at h
                    split at h
                    · rename_i hC
                      subst hC
                      dsimp only at h
                      cases hrm : room C bytes l ys with
                      | false => rw [hrm] at h; cases h
                      | true =>
                        rw [hrm] at h
                        have h : fin o.dst K (.own C (l ++ ys)) (kill S k) = some r := h
                        refine ⟨k, .own C (l ++ ys), rfl, rfl, hko, hdk, hap, fun S' hag hlen hf' hap' K' => ?_⟩
                        obtain ⟨e1, e2⟩ := hag s hsl
                        have ek : get S' k = get S k := by
                          rcases hks with ⟨_, rfl⟩ | hh
                          · exact e1
                          · exact e2 k (by rw [hh]; rfl)
                        have hk' : appAt S' s = some k := by
                          unfold appAt
                          rw [e1]
                          rcases hks with ⟨hh, rfl⟩ | hh
                          · rw [hh]
                          · rw [hh]; dsimp only; rw [ek, hkC]
                        have hay : AgreeO S S' y := agree_opds hag y hyl
                        rw [hk']
                        dsimp only
                        rw [hap', Bool.true_and, cond_true, hform S' K' e1 ek, hco]
                        dsimp only
                        rw [if_neg hb, hay.opd, srcOf_loc hay.self, hsrc]
                        dsimp only
                        rw [dif_pos rfl]
                        have hko' : (get S' k).owns = true := by rw [ek]; exact hko
                        show chk (room C bytes l ys) _ = _
                        rw [hrm]
                        show fin o.dst K' (.own C (l ++ ys)) (kill S' k) = _
                        exact fin_eq (freeO_kill hko' hf') (fun m hm => by cases hm) (fun m hm => by rw [kill_length, hlen, ← kill_length S k]; exact fin_len h m hm) K'
                    · cases h
theorem appOk_mem {ops : Array Oper} {j i k : Nat} (h : appOk ops j S k = true) (hin : i < ops.size) (hun : unord ops j i = true) : isStore ops i = false ∧ isApp ops i = false ∧ ∀ t ∈ looksOf ops i, t ≠ k ∧ (get S t).ref ≠ some k := by
  have := List.all_eq_true.1 h i (List.mem_range.2 hin)
  rw [hun] at this
  simp only [Bool.not_true, Bool.false_or, Bool.and_eq_true, Bool.not_eq_true', List.all_eq_true, bne_iff_ne] at this
  exact this
theorem inv_app {k : Nat} {d : Option Nat} {q : PV} (hi : Inv S) (hf : freeO S d) (hk : (get S k).owns = true) (hr : q.ref = none) : Inv (setO (kill S k) d q) :=
  inv_set (inv_kill hi hk) (freeO_kill hk hf) fun m hm => by rw [hr] at hm; cases hm
theorem swapA {ops : Array Oper} {i j : Nat} {oi oj : Oper} (hoi : ops[i]? = some oi) (hoj : ops[j]? = some oj) (hin : i < ops.size) (hsj : isStore ops j = false) (haj : isApp ops j = true) (hun : unord ops j i = true) (hap : oj.apart ops oi = true) (hi : Inv S) (hfj : freeO S oj.dst) (hfi : freeO S oi.dst)
    (h : evD E ops j oj S (fun S1 => evD E ops i oi S1 K) = some r) : evD E ops i oi S (fun S1 => evD E ops j oj S1 K) = some r := by
  obtain ⟨a1, a2, a3⟩ := Oper.apart_spec hap
  obtain ⟨k, q, hq, hqr, hko, hdk, hok, hnat⟩ := app_step hoj hi hfj hsj haj h
  rw [hnat S (Agree.refl _) rfl hfj hok] at h
  obtain ⟨hsi, hai, hlk⟩ := appOk_mem hok hin hun
  rw [looksOf_eq hoi] at hlk
  have hi4 := inv_app (q := q) hi hfj hko hqr
  have hfi4 : freeO (setO (kill S k) oj.dst q) oi.dst := freeO_set (freeO_kill hko hfi) fun m hm e => a2 m e hm
  obtain ⟨ti, pi, di, ei⟩ := dstep hoi (fun _ => hai) hi4 hfi4 h
  rw [ei] at h
  have hg4 : ∀ t, t ≠ k → oj.dst ≠ some t → (get S t).ref ≠ some k → get (setO (kill S k) oj.dst q) t = get S t := fun t h1 h2 h3 => by
    rw [setO_ne h2, get_kill h1 hko]; unfold kill1; rw [if_neg h3]
  have hget : ∀ t ∈ oi.looksAt ops, get S t = get (setO (kill S k) oj.dst q) t := fun t ht => (hg4 t (hlk t ht).1 (fun e => a1 t e ht) (hlk t ht).2).symm
  cases di with
  | sto k2 q2 hsi2 => rw [hsi] at hsi2; cases hsi2
  | val _ hsi2 hpi hui hni hti =>
    have hag : Agree (setO (kill S k) oj.dst q) S (oi.looksAt ops) := fun t ht => ⟨hget t ht, fun m hm => by
      rw [← hget t ht] at hm
      have hn : get S t ≠ .junk := fun e => by rw [e] at hm; cases hm
      have hmo := hi t _ m (get_of_ne hn) hm
      have hmk : m ≠ k := fun e => (hlk t ht).2 (by rw [hm, e])
      have hmd : oj.dst ≠ some m := fun e => by rw [hfj m e] at hmo; cases hmo
      rw [setO_ne hmd, kill_get hmk hmo]⟩
    obtain ⟨hpi0, hsi'⟩ := hti S hag (by rw [setO_len, kill_length]) hi hfi
    have hni0 : (!byStore ops i || noRefs S (looksOf ops i)) = true := by
      cases hb : byStore ops i with
      | false => rfl
      | true => rw [looksOf_eq hoi, noRefs_agree hget, hni hb]; rfl
    have hdi : ∀ m, oi.dst = some m → m ≠ k := fun m hm e => by subst e; rw [hfi m hm] at hko; cases hko
    have hpk : pi.ref ≠ some k := fun e => by
      have := hpi k e
      rw [setO_ne fun e => hdk k e rfl, get_kill_same hko] at this; cases this
    have hi5 : Inv (setO S oi.dst pi) := inv_set hi hfi hpi0
    have hok5 : appOk ops j (setO S oi.dst pi) k = true := by
      refine List.all_eq_true.2 fun m hm => ?_
      cases hu : unord ops j m with
      | false => rfl
      | true =>
        obtain ⟨g1, g2, g3⟩ := appOk_mem hok (List.mem_range.1 hm) hu
        rw [g1, g2]
        simp only [Bool.not_true, Bool.not_false, Bool.false_or, Bool.true_and, List.all_eq_true, Bool.and_eq_true, bne_iff_ne]
        intro t ht
        refine ⟨(g3 t ht).1, ?_⟩
        by_cases e : oi.dst = some t
        · by_cases hlt : t < S.length
          · rw [e]; simp only [setO]; rw [get_set_same hlt]; exact hpk
          · rw [get_none (by simp [setO_len]; omega)]; simp [PV.ref]
        · rw [setO_ne e]; exact (g3 t ht).2
    have hfj5 : freeO (setO S oi.dst pi) oj.dst := freeO_set hfj fun m hm e => a2 m hm e
    unfold evD
    rw [hsi, hai, hni0]
    simp only [cond_false, cond_true]
    rw [hsi']
    show evD E ops j oj (setO S oi.dst pi) K = some r
    rw [hnat (setO S oi.dst pi) (agree_set hi hfi a3) (by rw [setO_len]) hfj5 hok5, kill_setO hko hdi hpk, setO_comm (kill S k) pi q (fun m hm => fun e => a2 m e hm)]
    exact h
/-- an operation goes ahead of all that stand apart from it -/
theorem moveFront {ops : Array Oper} {i : Nat} (hal : alone ops i = false) : (js : List Nat) → (rest : List Nat) → (S : St) → Inv S → free ops (js ++ i :: rest) S = true → (∀ j ∈ js, apartB ops j i = true ∧ alone ops j = false ∧ j < ops.size ∧ unord ops j i = true) → (∀ j ∈ js, j < i) → js.Nodup → i ∉ js →
    (hr : ∀ j ∈ rest, j < ops.size ∧ j ∉ js ∧ j ≠ i) → i < ops.size → evOpsD E ops (js ++ i :: rest) S K = some r → evOpsD E ops (i :: (js ++ rest)) S K = some r
  | [], rest, S, _, _, _, _, _, _, _, _, h => h
  | j :: js, rest, S, hi, hf, hj, hlt, hnd, hni, hr, hin, h => by
    obtain ⟨hap, haj, hjn, hun⟩ := hj j (by simp)
    rw [List.cons_append, free_cons] at hf
    obtain ⟨hfj, hf'⟩ := hf
    obtain ⟨hnj, hnd'⟩ := List.nodup_cons.1 hnd
    have hij : j ≠ i := fun e => hni (by simp [e])
    simp only [List.cons_append, evOpsD] at h
    cases hoj : ops[j]? with
    | none => rw [hoj] at h; cases h
    | some oj =>
      rw [hoj] at h
      dsimp only at h
      rw [haj] at h
      simp only [cond_false] at h
      have dj := dstOf_eq hoj
      have hfj := hfj haj
      rw [dj] at hfj
      cases haj2 : (!isStore ops j && isApp ops j) with
      | true =>
        simp only [Bool.and_eq_true, Bool.not_eq_true'] at haj2
        obtain ⟨hsj, hapj⟩ := haj2
        obtain ⟨k, q, hq, hqr, hko, hdk, hok, hnat⟩ := app_step hoj hi hfj hsj hapj h
        have h0 := h
        rw [hnat S (Agree.refl _) rfl hfj hok] at h
        obtain ⟨_, _, _, _, _, _, _, _, huq, _⟩ := isApp_op hoj hapj
        have hi1 : Inv (setO (kill S k) oj.dst q) := inv_app hi hfj hko hqr
        have hf1 : free ops (js ++ i :: rest) (setO (kill S k) oj.dst q) = true := by
          rw [← dj]
          refine free_set (free_mem.2 fun m hm ham => freeO_kill hko (free_mem.1 hf' m hm ham)) (fun m hm => ?_) (.inl huq)
          rcases List.mem_append.1 hm with hm | hm
          · exact ⟨(hj m (by simp [hm])).2.2.1, fun e => hnj (e ▸ hm)⟩
          · rcases List.mem_cons.1 hm with rfl | hm
            · exact ⟨hin, fun e => hij e.symm⟩
            · exact ⟨(hr m hm).1, fun e => (hr m hm).2.1 (by simp [e])⟩
        have h2 := moveFront hal js rest _ hi1 hf1 (fun m hm => hj m (by simp [hm])) (fun m hm => hlt m (by simp [hm])) hnd' (fun hm => hni (by simp [hm])) (fun m hm => ⟨(hr m hm).1, fun hmj => (hr m hm).2.1 (by simp [hmj]), (hr m hm).2.2⟩) hin h
        simp only [evOpsD] at h2
        cases hoi : ops[i]? with
        | none => rw [hoi] at h2; cases h2
        | some oi =>
          rw [hoi] at h2
          dsimp only at h2
          rw [hal] at h2
          simp only [cond_false] at h2
          have di := dstOf_eq hoi
          have hfi : freeO S oi.dst := by rw [← di]; exact free_mem.1 hf' i (by simp) hal
          have hap : oj.apart ops oi = true := by simpa [apartB, hoj, hoi] using hap
          have h3 : evD E ops j oj S (fun S1 => evD E ops i oi S1 fun S2 => evOpsD E ops (js ++ rest) S2 K) = some r := by rw [hnat S (Agree.refl _) rfl hfj hok]; exact h2
          have h4 := swapA hoi hoj hin hsj hapj hun hap hi hfj hfi h3
          simp only [List.cons_append, evOpsD, hoi, hal, cond_false, hoj, haj]
          exact h4
      | false =>
      have haj3 : isStore ops j = false → isApp ops j = false := fun e => by rw [e] at haj2; simpa using haj2
      obtain ⟨tj, pj, sj, ej⟩ := dstep hoj haj3 hi hfj h
      rw [ej] at h
      have hboth : Inv (setO S tj pj) ∧ free ops (js ++ i :: rest) (setO S tj pj) = true := by
        cases sj with
        | val _ hsj hpj huj hnb htj =>
          refine ⟨inv_set hi hfj hpj, ?_⟩
          rw [← dj]
          refine free_set hf' (fun m hm => ?_) huj
          rcases List.mem_append.1 hm with hm | hm
          · exact ⟨(hj m (by simp [hm])).2.2.1, fun e => hnj (e ▸ hm)⟩
          · rcases List.mem_cons.1 hm with rfl | hm
            · exact ⟨hin, fun e => hij e.symm⟩
            · exact ⟨(hr m hm).1, fun e => (hr m hm).2.1 (by simp [e])⟩
        | sto k q hsj hq hrq hk hjj hks htj =>
          refine ⟨inv_sto hi hq hrq hk, free_mem.2 fun m hm ham d hd => ?_⟩
          have := free_mem.1 hf' m hm ham d hd
          rw [setO_ne fun e => by cases e; rw [this] at hk; cases hk]
          exact this
      obtain ⟨hi1, hf1⟩ := hboth
      have h2 := moveFront hal js rest _ hi1 hf1 (fun m hm => hj m (by simp [hm])) (fun m hm => hlt m (by simp [hm])) hnd' (fun hm => hni (by simp [hm])) (fun m hm => ⟨(hr m hm).1, fun hmj => (hr m hm).2.1 (by simp [hmj]), (hr m hm).2.2⟩) hin h
      simp only [evOpsD] at h2
      cases hoi : ops[i]? with
      | none => rw [hoi] at h2; cases h2
      | some oi =>
        rw [hoi] at h2
        dsimp only at h2
        rw [hal] at h2
        simp only [cond_false] at h2
        have di := dstOf_eq hoi
        have hfi : freeO S oi.dst := by rw [← di]; exact free_mem.1 hf' i (by simp) hal
        have hap : oj.apart ops oi = true := by simpa [apartB, hoj, hoi] using hap
        have h3 : evD E ops j oj S (fun S1 => evD E ops i oi S1 fun S2 => evOpsD E ops (js ++ rest) S2 K) = some r := by rw [ej]; exact h2
        have hajf : isApp ops j = false := by
          cases hs : isStore ops j with
          | true => exact store_app hoj hs
          | false => exact haj3 hs
        have hai : isApp ops i = false := by
          cases hs : isApp ops i with
          | false => rfl
          | true =>
            obtain ⟨_, _, _, _, _, _, _, _, _, hall⟩ := isApp_op hoi hs
            have := hall j (hlt j (by simp))
            simp [unord, this] at hun
        have h4 := swap hoi hoj hin hjn hai hajf hun hap hi hfj hfi h3
        simp only [List.cons_append, evOpsD, hoi, hal, cond_false, hoj, haj]
        exact h4

theorem chk_fin {b : Bool} {x y : Option ρ} (h : x = some r → y = some r) (hc : chk b x = some r) : chk b y = some r := by
  cases b
  · cases hc
  · exact h hc
theorem nilS_eq {v : Value} (h : isNilS v = true) : v = .slice none 0 0 := by
  unfold isNilS at h; split at h
  · rfl
  · cases h
theorem val_op {dst : Option Nat} {o : Op} {ty : TypeId} (h : evVal E S ty o (fun p => fin dst K p S) = some r) : evOp E S dst o ty (fin dst K) = some r := by
  cases o with
  | move x =>
    simp only [evVal] at h
    cases x with
    | tmp s =>
      have h : (match get S s with
        | .tup ds => cond (ds.any D1.owns) none (fin dst K (.tup ds) S)
        | .iter .. => none
        | p => fin dst K (selfAlias (.tmp s) p) S) = some r := h
      show (match get S s with
        | .own .. | .obj .. | .iter .. | .spr .. => fin dst K (.alias s) S
        | .tup ds => fin dst K (.tup ds) (kill S s)
        | p => fin dst K p S) = some r
      cases hp : get S s with
      | tup ds =>
        rw [hp] at h
        dsimp only at h ⊢
        cases ho : ds.any D1.owns with
        | true => rw [ho] at h; cases h
        | false =>
          rw [ho] at h
          have hk : kill S s = S := by unfold kill; rw [if_neg (by rw [hp]; show ¬ ds.any D1.owns = true; rw [ho]; simp)]
          rw [hk]; exact h
      | iter q u => rw [hp] at h; cases h
      | _ => rw [hp] at h; exact h
    | const v => exact h
    | global g => exact h
    | func f => exact h
  | assign x =>
    simp only [evVal] at h
    cases hp : evAsg E S ty x with
    | none => rw [hp] at h; cases h
    | some p =>
      rw [hp] at h
      have h : fin dst K p S = some r := h
      cases x with
      | const v =>
        simp only [evAsg] at hp
        split at hp
        · rename_i hn
          have hv : v = .slice none 0 0 := nilS_eq hn
          subst hv
          cases hc : codOf E ty with
          | none => rw [hc] at hp; cases hp
          | some c => rw [hc] at hp; cases hp; simp only [evOp, hc]; exact h
        · rename_i hn
          cases hp
          show (match (Operand.const v : Operand) with
            | .tmp s => _
            | .const (.slice none 0 0) => _
            | x => fin dst K (Px.opd S x) S) = some r
          split
          · rename_i e; cases e
          · rename_i e; cases e; exact absurd rfl hn
          · exact h
      | tmp s =>
        simp only [evAsg] at hp
        cases hq : Px.opd S (.tmp s) with
        | raw v =>
          rw [hq] at hp
          dsimp only at hp
          split at hp
          · cases hp
          · cases hp
            have hq : get S s = .raw v := hq
            simp only [evOp, hq]
            exact h
        | _ => rw [hq] at hp; cases hp
      | global g => simp [evAsg, Px.opd] at hp
      | func f =>
        simp only [evAsg, Px.opd] at hp
        split at hp
        · cases hp
        · cases hp; exact h
  | nilCheck x => exact h
  | pick c a b =>
    simp only [evVal] at h
    simp only [evOp]
    split at h
    · exact h
    · cases h
  | alloc t => exact h
  | box t x => exact h
  | build t parts => exact h
  | buildSlice t len parts => exact h
  | makeSlice t l c => exact h
  | load t a => exact h
  | binOp op t x y _ => exact h
  | unOp op t x => exact h
  | convert a b x => exact h
  | slice t x lo hi mx =>
    cases mx with
    | none => exact h
    | some m => cases h
  | sliceToArrayPointer t x => exact h
  | typeAssert x u t ok => exact h
  | makeInterface t x => exact h
  | fieldAddr t x f => exact h
  | indexAddr t x i => exact h
  | index t x i => exact h
  | extract x i =>
    cases x with
    | tmp s =>
      simp only [evVal] at h
      simp only [evOp]
      cases hp : get S s with
      | raw v =>
        rw [hp] at h
        cases v with
        | tuple vs => exact h
        | _ => cases h
      | tup ds =>
        rw [hp] at h
        change (match ds[i]? with
          | some d => if d.owns then none else fin dst K d.toPV S
          | none => none) = some r at h
        change (match ds[i]? with
          | some d => if d.owns then fin dst K d.toPV ((kill S s).set s (.tup (ds.set i .junk))) else fin dst K d.toPV S
          | none => none) = some r
        cases hd : ds[i]? with
        | none => rw [hd] at h; cases h
        | some d =>
          rw [hd] at h
          dsimp only at h ⊢
          split at h
          · cases h
          · rename_i ho
            rw [if_neg ho]; exact h
      | _ => rw [hp] at h; cases h
    | _ => cases h
  | call c =>
    obtain ⟨callee, args, ats⟩ := c
    cases callee with
    | value f =>
      cases f with
      | func f =>
        simp only [evVal] at h
        simp only [evOp]
        cases hF : E.Γ f with
        | none => rw [hF] at h; simp at h
        | some F =>
          rw [hF] at h
          cases hc : evCallArgs S args.toList with
          | none => rw [hc] at h; simp at h
          | some ds => rw [hc] at h; exact h
      | _ => cases h
    | invoke r m => cases h
    | builtin b =>
      cases b with
      | len => exact h
      | append =>
        simp only [evVal] at h
        simp only [evOp]
        split at h
        · split at h
          · split at h
            · rename_i h1
              rw [if_pos h1]
              split at h
              · rename_i hx
                unfold evAppend
                split at h
                · cases h
                · split at h
                  · cases h
                  · rename_i hb
                    rw [if_neg hb]
                    split at h
                    · cases h
                    · rename_i y hy
                      dsimp only
                      rw [hx]
                      exact h
              · cases h
            · cases h
          · cases h
        · cases h
      | _ => cases h
  | _ => cases h
theorem operV_oper {ops : Array Oper} {i : Nat} {o : Oper} (hi : Inv S) (h : evOperV E ops i o S K = some r) : evOper E ops o S K = some r := by
  have base : ∀ S : St, evVal E S o.type o.op (fun p => cond (uniq ops i || !p.owns) (fin o.dst K p S) none) = some r → Inv S → evOp E S o.dst o.op o.type (fin o.dst K) = some r := fun S h hi => by
    refine val_op ?_
    obtain ⟨p, _, hk⟩ := val_nat hi o.type o.op _ _ h
    dsimp only at hk
    rw [hk] at h
    rw [hk]
    cases hu : (uniq ops i || !p.owns) with
    | false => rw [hu] at h; cases h
    | true => rw [hu] at h; exact h
  unfold evOperV at h
  unfold evOper
  cases hg : o.guard with
  | none => rw [hg] at h; exact base S h hi
  | some jw =>
    obtain ⟨j, want⟩ := jw
    rw [hg] at h
    dsimp only at h ⊢
    cases hd : (ops[j]?).bind (·.dst) with
    | none => rw [hd] at h; cases h
    | some d =>
      rw [hd] at h
      dsimp only at h ⊢
      split at h
      · rename_i β hβ
        have e := get_told hβ
        cases β <;> simp only [cond_true, cond_false, e] at h ⊢ <;> split at h <;> rename_i hw <;> first
          | (rw [if_pos hw]; exact base S h hi)
          | (rw [if_neg hw]; exact h)
      · exact h
      · cases h

theorem evD_oper {ops : Array Oper} {i : Nat} {o : Oper} (ho : ops[i]? = some o) (hi : Inv S) (h : evD E ops i o S K = some r) : evOper E ops o S K = some r := by
  unfold evD at h
  cases hs : isStore ops i with
  | true =>
    rw [hs] at h
    simp only [cond_true] at h
    obtain ⟨t, a, x, h1, h2, h3⟩ := isStore_op ho hs
    unfold stepS at h
    rw [h1] at h
    dsimp only at h
    split at h
    · cases hc : ((List.range ops.size).all fun j => _) with
      | false => rw [hc] at h; cases h
      | true =>
        rw [hc] at h
        simp only [cond_true] at h
        unfold evOper
        rw [h2, h1, h3]
        exact h
    · cases h
  | false =>
    rw [hs] at h
    simp only [cond_false] at h
    cases hap : isApp ops i with
    | true =>
      rw [hap] at h
      simp only [cond_true] at h
      obtain ⟨args, ats, s, d, h1, h2, h3, h4, _, _⟩ := isApp_op ho hap
      unfold stepA at h
      rw [h1] at h
      dsimp only at h
      rw [h4] at h
      split at h
      · rename_i s' y t t2 g0 g1 g2 g3
        cases g0
        split at h
        · cases hc : (okSrc E t2 && appOk ops i S _) with
          | false => rw [hc] at h; cases h
          | true =>
            rw [hc] at h
            simp only [cond_true] at h
            rw [Bool.and_eq_true] at hc
            unfold evOper
            rw [h2, h1]
            simp only [evOp]
            rw [h4, g1, g2]
            dsimp only
            rw [g3]
            dsimp only
            rw [if_pos hc.1]; exact h
        · cases h
      · cases h
    | false =>
    rw [hap] at h
    simp only [cond_false] at h
    cases hb : (!byStore ops i || noRefs S (looksOf ops i)) with
    | false => rw [hb] at h; cases h
    | true =>
      rw [hb] at h
      exact operV_oper (i := i) hi h
/-! ### what may come next -/
theorem range_sorted (p : Nat → Bool) (n : Nat) : ((List.range n).filter p).Pairwise (· < ·) := List.Pairwise.filter _ List.pairwise_lt_range
structure Lst (ops : Array Oper) (listed : Array Bool) (R : List Nat) : Prop where
  size : listed.size = ops.size
  eq : R = (List.range ops.size).filter fun i => !listed.getD i true
  closed : ∀ i o, listed.getD i false = true → ops[i]? = some o → ∀ e ∈ o.after, Region.binds .any e = true → listed.getD e.on false = true
variable {ops : Array Oper} {listed : Array Bool} {R : List Nat}
theorem Lst.mem (h : Lst ops listed R) {i : Nat} : i ∈ R ↔ i < ops.size ∧ listed.getD i true = false := by
  rw [h.eq, List.mem_filter, List.mem_range]; simp
theorem Lst.getD (h : Lst ops listed R) {i : Nat} (hi : i < ops.size) : listed.getD i true = listed.getD i false := by
  have : i < listed.size := by rw [h.size]; exact hi
  simp [Array.getD, this]
theorem mem_ready {i : Nat} : i ∈ Region.ready .any ops listed ↔ i < ops.size ∧ listed.getD i true = false ∧ ∀ o, ops[i]? = some o → ∀ e ∈ o.after, Region.binds .any e = true → listed.getD e.on false = true := by
  unfold Region.ready
  rw [List.mem_filter, List.mem_range]
  refine and_congr_right fun hi => ?_
  obtain ⟨o, ho⟩ : ∃ o, ops[i]? = some o := ⟨_, Array.getElem?_eq_getElem hi⟩
  simp only [ho, Option.map_some, Option.getD_some, Bool.and_eq_true, Bool.not_eq_true', Array.all_eq_true', Bool.or_eq_true, Option.some.injEq]
  refine and_congr_right fun _ => ⟨fun h o' ho' e he hb => ?_, fun h e he => ?_⟩
  · subst ho'
    rcases h e he with h1 | h1
    · rw [hb] at h1; cases h1
    · exact h1
  · cases hb : Region.binds .any e with
    | false => exact .inl rfl
    | true => exact .inr (h o rfl e he hb)
theorem aft_mem {i j : Nat} : aft ops i j = true ↔ ∃ o, ops[i]? = some o ∧ ∃ e ∈ o.after, Region.binds .any e = true ∧ e.on = j := by
  unfold aft
  cases ho : ops[i]? with
  | none => simp
  | some o =>
    simp only [Array.any_eq_true', Bool.and_eq_true, beq_iff_eq]
    constructor
    · rintro ⟨e, h1, h2, h3⟩; exact ⟨o, rfl, e, h1, h2, h3⟩
    · rintro ⟨o', ho', e, h1, h2, h3⟩; cases ho'; exact ⟨e, h1, h2, h3⟩
inductive AftP (ops : Array Oper) : Nat → Nat → Prop
  | base {i j : Nat} : aft ops i j = true → AftP ops i j
  | step {i k j : Nat} : aft ops i k = true → AftP ops k j → AftP ops i j
theorem maskOf_ok {ops : Array Oper} {acc : List Nat} {i : Nat} {o : Oper} (ho : ops[i]? = some o) (hacc : ∀ k j, (acc.getD k 0).testBit j = true → AftP ops k j) {j : Nat} (h : (maskOf acc (some o)).testBit j = true) : AftP ops i j := by
  simp only [maskOf] at h
  have key : ∀ (l : List Edge), (∀ e ∈ l, e ∈ o.after) → ∀ m : Nat, (l.foldl (fun m e => cond (Region.binds .any e) (m ||| (1 <<< e.on ||| acc.getD e.on 0)) m) m).testBit j = true → m.testBit j = true ∨ AftP ops i j := by
    intro l
    induction l with
    | nil => intro _ m hm; exact .inl hm
    | cons e l ih =>
      intro hl m hm
      simp only [List.foldl_cons] at hm
      rcases ih (fun e he => hl e (by simp [he])) _ hm with hm | hm
      · cases hb : Region.binds .any e with
        | false => rw [hb] at hm; exact .inl hm
        | true =>
          rw [hb] at hm
          simp only [cond_true, Nat.testBit_or, Bool.or_eq_true] at hm
          have haft : aft ops i e.on = true := aft_mem.2 ⟨o, ho, e, hl e (by simp), hb, rfl⟩
          rcases hm with hm | hm | hm
          · exact .inl hm
          · right
            have : e.on = j := by
              rw [Nat.one_shiftLeft, Nat.testBit_two_pow] at hm
              simpa using hm
            rw [← this]; exact .base haft
          · exact .inr (.step haft (hacc _ _ hm))
      · exact .inr hm
  rcases key _ (fun e he => by simpa using he) 0 h with h | h
  · simp at h
  · exact h
theorem aftT_ok {ops : Array Oper} {i j : Nat} (h : aftT ops i j = true) : AftP ops i j := by
  have key : ∀ (l : List Oper) (pre : List Oper) (acc : List Nat), ops.toList = pre ++ l → acc.length = pre.length → (∀ k j, (acc.getD k 0).testBit j = true → AftP ops k j) →
      ∀ k j, ((l.foldl (fun acc o => acc ++ [maskOf acc (some o)]) acc).getD k 0).testBit j = true → AftP ops k j := by
    intro l
    induction l with
    | nil => intro pre acc _ _ ha; exact ha
    | cons o l ih =>
      intro pre acc hp hl ha
      simp only [List.foldl_cons]
      have ho : ops[pre.length]? = some o := by
        rw [← Array.getElem?_toList, hp]; simp
      refine ih (pre ++ [o]) _ (by simp [hp]) (by simp [hl]) fun k j hk => ?_
      by_cases hkl : k < acc.length
      · rw [List.getD_eq_getElem?_getD, List.getElem?_append_left hkl, ← List.getD_eq_getElem?_getD] at hk
        exact ha k j hk
      · by_cases hke : k = acc.length
        · subst hke
          rw [List.getD_eq_getElem?_getD] at hk
          simp only [List.getElem?_append_right (Nat.le_refl _), Nat.sub_self, List.getElem?_cons_zero, Option.getD_some] at hk
          rw [hl]
          exact maskOf_ok ho ha hk
        · rw [List.getD_eq_getElem?_getD, List.getElem?_eq_none (by simp; omega)] at hk
          simp at hk
  exact key ops.toList [] [] rfl rfl (fun k j hk => by simp at hk) i j h
theorem drawOk_lt (h : drawOk ops = true) {i : Nat} {o : Oper} (ho : ops[i]? = some o) {e : Edge} (he : e ∈ o.after) (hb : Region.binds .any e = true) : e.on < i := by
  have hi : i < ops.size := (Array.getElem?_eq_some_iff.1 ho).1
  have := List.all_eq_true.1 h i (List.mem_range.2 hi)
  rw [Bool.and_eq_true] at this
  have := this.1
  unfold aftLt at this
  rw [ho] at this
  simp only [Array.all_eq_true'] at this
  have := this e he
  rw [hb] at this
  simpa using this
theorem drawOk_apart (h : drawOk ops = true) {i j : Nat} (hi : i < ops.size) (hj : j < i) : aft ops i j = true ∨ apartB ops j i = true := by
  have := List.all_eq_true.1 h i (List.mem_range.2 hi)
  rw [Bool.and_eq_true] at this
  have := List.all_eq_true.1 this.2 j (List.mem_range.2 hj)
  rwa [Bool.or_eq_true] at this
/-- the first one that is not listed can be next -/
theorem head_ready (h : Lst ops listed R) (hok : drawOk ops = true) {i : Nat} {l : List Nat} (hR : R = i :: l) : i ∈ Region.ready .any ops listed := by
  have him : i ∈ R := by simp [hR]
  obtain ⟨hi, hl⟩ := h.mem.1 him
  refine mem_ready.2 ⟨hi, hl, fun o ho e he hb => ?_⟩
  have hlt := drawOk_lt hok ho he hb
  have hnot : e.on ∉ R := fun hm => by
    have hs := range_sorted (fun i => !listed.getD i true) ops.size
    rw [← h.eq, hR] at hs
    rw [hR] at hm
    rcases List.mem_cons.1 hm with he' | hm
    · omega
    · have := (List.pairwise_cons.1 hs).1 _ hm; omega
  have hlt2 : e.on < ops.size := Nat.lt_trans hlt hi
  cases hv : listed.getD e.on true with
  | false => exact absurd (h.mem.2 ⟨hlt2, hv⟩) hnot
  | true => rw [← h.getD hlt2]; exact hv
/-- one that can be next goes ahead -/
theorem ready_split (h : Lst ops listed R) (hok : drawOk ops = true) {i : Nat} (hi : i ∈ Region.ready .any ops listed) : ∃ js rest, R = js ++ i :: rest ∧ Lst ops (listed.setIfInBounds i true) (js ++ rest) ∧
    (∀ j ∈ js, apartB ops j i = true ∧ alone ops j = false ∧ j < ops.size ∧ unord ops j i = true) ∧ (js ≠ [] → alone ops i = false) ∧ js.Nodup ∧ i ∉ js ∧ (∀ j ∈ rest, j < ops.size ∧ j ∉ js ∧ j ≠ i) ∧ i < ops.size ∧ ∀ j ∈ js, j < i := by
  obtain ⟨hin, hl, ha⟩ := mem_ready.1 hi
  obtain ⟨js, rest, hR⟩ := List.append_of_mem (h.mem.2 ⟨hin, hl⟩)
  have hs := range_sorted (fun i => !listed.getD i true) ops.size
  rw [← h.eq, hR, List.pairwise_append] at hs
  obtain ⟨hs1, hs2, hs3⟩ := hs
  obtain ⟨hs4, hs5⟩ := List.pairwise_cons.1 hs2
  have hlt : ∀ j ∈ js, j < i := fun j hj => hs3 j hj i (by simp)
  have hni : i ∉ js := fun hm => Nat.lt_irrefl _ (hlt i hm)
  have hnr : i ∉ rest := fun hm => Nat.lt_irrefl _ (hs4 i hm)
  have hnaft : ∀ j ∈ js, aft ops i j = false := fun j hj => by
    cases hv : aft ops i j with
    | false => rfl
    | true =>
      obtain ⟨o, ho, e, he, hb, rfl⟩ := aft_mem.1 hv
      have h1 := ha o ho e he hb
      obtain ⟨g1, g2⟩ := h.mem.1 (show e.on ∈ R by rw [hR]; simp [hj])
      rw [h.getD g1, h1] at g2; cases g2
  have hnaft2 : ∀ j ∈ js, aft ops j i = false := fun j hj => by
    cases hv : aft ops j i with
    | false => rfl
    | true =>
      obtain ⟨o, ho, e, he, hb, rfl⟩ := aft_mem.1 hv
      have := drawOk_lt hok ho he hb
      have := hlt j hj
      omega
  have hap : ∀ j ∈ js, apartB ops j i = true := fun j hj => by
    rcases drawOk_apart hok hin (hlt j hj) with h1 | h1
    · rw [hnaft j hj] at h1; cases h1
    · exact h1
  have hback : ∀ x y, AftP ops x y → y < x := fun x y hp => by
    induction hp with
    | base h => obtain ⟨o, ho, e, he, hb, rfl⟩ := aft_mem.1 h; exact drawOk_lt hok ho he hb
    | step h _ ih => obtain ⟨o, ho, e, he, hb, rfl⟩ := aft_mem.1 h; have := drawOk_lt hok ho he hb; omega
  have hdown : ∀ x y, AftP ops x y → listed.getD x false = true → listed.getD y false = true := fun x y hp => by
    induction hp with
    | base hh => obtain ⟨o, ho, e, he, hb, rfl⟩ := aft_mem.1 hh; exact fun hx => h.closed _ o hx ho e he hb
    | step hh _ ih => obtain ⟨o, ho, e, he, hb, rfl⟩ := aft_mem.1 hh; exact fun hx => ih (h.closed _ o hx ho e he hb)
  have hfirst : ∀ y, AftP ops i y → listed.getD y false = true := fun y hp => by
    cases hp with
    | base h => obtain ⟨o, ho, e, he, hb, rfl⟩ := aft_mem.1 h; exact ha o ho e he hb
    | step h hp => obtain ⟨o, ho, e, he, hb, rfl⟩ := aft_mem.1 h; exact hdown _ _ hp (ha o ho e he hb)
  have hT1 : ∀ j ∈ js, aftT ops i j = false := fun j hj => by
    cases hv : aftT ops i j with
    | false => rfl
    | true =>
      have h1 := hfirst j (aftT_ok hv)
      obtain ⟨g1, g2⟩ := h.mem.1 (show j ∈ R by rw [hR]; simp [hj])
      rw [h.getD g1, h1] at g2; cases g2
  have hT2 : ∀ j ∈ js, aftT ops j i = false := fun j hj => by
    cases hv : aftT ops j i with
    | false => rfl
    | true => have := hback _ _ (aftT_ok hv); have := hlt j hj; omega
  have hal : ∀ x y, y < ops.size → y ≠ x → aftT ops x y = false → aftT ops y x = false → alone ops x = false := fun x y hy hne h1 h2 => by
    cases hv : alone ops x with
    | false => rfl
    | true =>
      have := List.all_eq_true.1 hv y (List.mem_range.2 hy)
      simp [hne, h1, h2] at this
  refine ⟨js, rest, hR, ⟨by simp [h.size], ?_, ?_⟩, fun j hj => ⟨hap j hj, hal j i hin (by have := hlt j hj; omega) (hT2 j hj) (hT1 j hj), (h.mem.1 (show j ∈ R by rw [hR]; simp [hj])).1, by
    unfold unord
    rw [hT1 j hj, hT2 j hj]
    have := hlt j hj
    simp; omega⟩, fun hne => ?_, hs1.imp (fun h => Nat.ne_of_lt h), hni, fun j hj => ⟨(h.mem.1 (show j ∈ R by rw [hR]; simp [hj])).1, fun hm => ?_, fun e => ?_⟩, hin, hlt⟩
  · have e1 : ∀ k ∈ List.range ops.size, (!(listed.setIfInBounds i true).getD k true) = ((!listed.getD k true) && k != i) := fun k hk => by
      have hk' : k < listed.size := by rw [h.size]; exact List.mem_range.1 hk
      by_cases hki : k = i
      · subst hki; simp [Array.getD, hk']
      · simp [Array.getD, hk', Array.getElem_setIfInBounds, Ne.symm hki, hki]
    rw [List.filter_congr e1]
    have e2 : (List.range ops.size).filter (fun k => (!listed.getD k true) && k != i) = R.filter (fun k => k != i) := by
      rw [h.eq, List.filter_filter]
      exact List.filter_congr fun k _ => Bool.and_comm _ _
    rw [e2, hR, List.filter_append, List.filter_cons]
    simp only [bne_self_eq_false, Bool.false_eq_true, if_false]
    rw [List.filter_eq_self.2 fun a ha => by simp; exact fun e => hni (e ▸ ha), List.filter_eq_self.2 fun a ha => by simp; exact fun e => hnr (e ▸ ha)]
  · have hset : ∀ k, (listed.setIfInBounds i true).getD k false = true ↔ (listed.getD k false = true ∨ k = i) := fun k => by
      have hil : i < listed.size := by rw [h.size]; exact hin
      by_cases hki : k = i
      · subst hki; simp [Array.getD, hil]
      · by_cases hk : k < listed.size
        · simp [Array.getD, hk, Array.getElem_setIfInBounds, Ne.symm hki, hki]
        · simp [Array.getD, hk, hki]
    intro k o hk ho e he hb
    rw [hset] at hk ⊢
    rcases hk with hk | rfl
    · exact .inl (h.closed k o hk ho e he hb)
    · exact .inl (ha o ho e he hb)
  · obtain ⟨j, hj⟩ := List.exists_mem_of_ne_nil _ hne
    exact hal i j (h.mem.1 (show j ∈ R by rw [hR]; simp [hj])).1 (by have := hlt j hj; omega) (hT1 j hj) (hT2 j hj)
  · have := hs3 j hm j (by simp [hj]); omega
  · subst e; exact hnr hj
end
end Go.Px

/- Operations in a row, code, loops, functions. -/
namespace Go.Px
open Go Go.RowKit

section
variable {X : Cx} {ρ : Type} {w0 : World} {S : St} {a : Act} {w : World} {loc : Nat → Nat → Option (Nat × Nat)} {E : Env ρ} {K : St → Option ρ} {r : ρ} {o : Oper} {Q : Exit → Act → World → Prop} {ops : Array Oper}

/-- a bool in a slot that has been told: written out -/
theorem Sim.told (h : Sim X w0 S a w loc) {d : Nat} {b c : Bool} (hd : get S d = .raw (.bool b)) (hb : b = c) : Sim X w0 (S.set d (.raw (.bool c))) a w loc := by
  subst hb
  have hs := get_of_ne (i := d) (S := S) (by rw [hd]; simp)
  rw [hd] at hs
  have : S.set d (.raw (.bool b)) = S := by
    apply List.ext_getElem?
    intro i
    by_cases hi : i = d
    · subst hi; rw [List.getElem?_set_self (List.getElem?_eq_some_iff.1 hs).1, hs]
    · rw [List.getElem?_set_ne (Ne.symm hi)]
  rw [this]; exact h
theorem put_junk (h : Sim X w0 S a w loc) (hK : putU S o.dst K = some r) : Post X w0 K r (a.put o.dst undef) w := by
  cases hd : o.dst with
  | none => rw [hd] at hK; exact ⟨S, loc, hK, h⟩
  | some d =>
    rw [hd] at hK
    have hpn : pinned S d = false := by cases hp : pinned S d with | false => rfl | true => simp [putU, hp] at hK
    have hK : K (put S (some d) (.raw undef)) = some r := by simpa [putU, hpn] using hK
    by_cases hl : d < S.length
    · obtain ⟨loc1, h1⟩ := h.fin0 ⟨hl, hpn⟩ (.raw undef) undef rfl rfl (fun k hk => by cases hk)
      exact ⟨_, loc1, hK, h1⟩
    · have e1 : put S (some d) (.raw undef) = S := by
        have hno : (get S d).owns = false := by rw [get_none (List.getElem?_eq_none (Nat.le_of_not_lt hl))]; rfl
        show (Px.kill S d).set d (.raw undef) = S
        rw [kill_noop hno, List.set_eq_of_length_le (Nat.le_of_not_lt hl)]
      have e2 : a.put (some d) undef = a := by
        show ({ a with tmps := a.tmps.setIfInBounds d undef } : Act) = a
        rw [Array.setIfInBounds_eq_of_size_le (by rw [h.len]; exact Nat.le_of_not_lt hl)]
      rw [e1] at hK
      rw [e2]
      exact ⟨S, loc, hK, h⟩
/-- one operation with its guard -/
theorem evOper_sound (hE : EnvOk X E) (h : Sim X w0 S a w loc) (hr : evOper E ops o S K = some r) :
    if Region.wanted o (yielded ops a.tmps) then o.wp X.P a w (Post X w0 K r) Q else Post X w0 K r (a.put o.dst undef) w := by
  unfold evOper at hr
  split at hr
  · rename_i hg
    have hw : Region.wanted o (yielded ops a.tmps) = true := by simp [Region.wanted, hg]
    rw [if_pos hw]
    exact evOp_sound hE h hr
  · rename_i j want hg
    split at hr
    · cases hr
    · rename_i d hd
      split at hr
      · rename_i β hβ
        obtain ⟨v, h1, _, h3⟩ := opd_get h hβ (by simp)
        have h3 : v = .bool β := h3
        subst h3
        have hy : yielded ops a.tmps j = some β := by simp [yielded, hd, h1]
        cases hb : β with
        | true =>
          rw [hb] at hr hy
          simp only [cond_true] at hr
          have hs := h.told hβ hb
          split at hr
          · rename_i hw
            have : Region.wanted o (yielded ops a.tmps) = true := by simp [Region.wanted, hg, hy, hw]
            rw [if_pos this]
            exact evOp_sound hE hs hr
          · rename_i hw
            have : Region.wanted o (yielded ops a.tmps) = false := by cases want <;> simp_all [Region.wanted]
            rw [this]
            exact put_junk hs hr
        | false =>
          rw [hb] at hr hy
          simp only [cond_false] at hr
          have hs := h.told hβ hb
          split at hr
          · rename_i hw
            have : Region.wanted o (yielded ops a.tmps) = true := by simp [Region.wanted, hg, hy, hw]
            rw [if_pos this]
            exact evOp_sound hE hs hr
          · rename_i hw
            have : Region.wanted o (yielded ops a.tmps) = false := by cases want <;> simp_all [Region.wanted]
            rw [this]
            exact put_junk hs hr
      · rename_i vs hβ
        obtain ⟨v, h1, _, h3⟩ := opd_get h hβ (by simp)
        have h3 : v = .tuple vs := h3
        subst h3
        have hy : yielded ops a.tmps j = none := by simp [yielded, hd, h1]
        have : Region.wanted o (yielded ops a.tmps) = false := by simp [Region.wanted, hg, hy]
        rw [this]
        exact put_junk h hr
      · cases hr
theorem evOps_sound (hE : EnvOk X E) : (l : List Nat) → (S : St) → (a : Act) → (w : World) → (loc : Nat → Nat → Option (Nat × Nat)) → Sim X w0 S a w loc → evOps E ops l S K = some r →
    (∀ a w, Post X w0 K r a w → Q .normal a w) → wpOps X.P ops Q l a w
  | [], S, a, w, loc, h, hr, hQ => hQ a w ⟨S, loc, hr, h⟩
  | i :: l, S, a, w, loc, h, hr, hQ => by
    rw [wpOps_cons]
    unfold wpOp
    simp only [evOps] at hr
    split at hr
    · cases hr
    · rename_i o ho
      have key := evOper_sound (Q := Q) hE h hr
      have ih : ∀ a' w', Post X w0 (fun S' => evOps E ops l S' K) r a' w' → wpOps X.P ops Q l a' w' := fun a' w' ⟨S', loc', h1, h2⟩ => evOps_sound hE l S' a' w' loc' h2 h1 hQ
      simp only [ho]
      split at key
      · rename_i hw
        simp only [hw, if_true]
        exact .inl (Oper.wp_mono ih key)
      · rename_i hw
        simp only [hw]
        exact ih _ _ key

/-- whatever order is drawn -/
theorem drawn_sound (hE : EnvOk X E) (hok : drawOk ops = true) : (fuel : Nat) → (listed : Array Bool) → (R : List Nat) → Lst ops listed R → R.length ≤ fuel → (S : St) → (a : Act) → (w : World) → (loc : Nat → Nat → Option (Nat × Nat)) → Sim X w0 S a w loc → free ops R S = true → evOpsD E ops R S K = some r →
    (∀ a w, Post X w0 K r a w → Q .normal a w) → wpAny X.P .any ops Q fuel listed a w
  | 0, listed, R, hL, hf, S, a, w, loc, h, hfr, hr, hQ => by
    have hR : R = [] := List.eq_nil_of_length_eq_zero (by omega)
    subst hR
    refine ⟨?_, hQ a w ⟨S, loc, hr, h⟩⟩
    cases hh : Region.ready .any ops listed with
    | nil => rfl
    | cons i l =>
      obtain ⟨h1, h2, _⟩ := mem_ready.1 (show i ∈ Region.ready .any ops listed by rw [hh]; simp)
      exact absurd (hL.mem.2 ⟨h1, h2⟩) (by simp)
  | fuel + 1, listed, R, hL, hf, S, a, w, loc, h, hfr, hr, hQ => by
    refine ⟨fun hh => ?_, fun i hi => ?_⟩
    · cases hR : R with
      | nil => rw [hR] at hr; exact hQ a w ⟨S, loc, hr, h⟩
      | cons i l => have := head_ready hL hok hR; rw [hh] at this; cases this
    · obtain ⟨js, rest, hR, hL', h1, h2, h3, h4, h5, h6, h7⟩ := ready_split hL hok hi
      subst hR
      have hinv : Inv S := h.ref
      have hr' : evOpsD E ops (i :: (js ++ rest)) S K = some r := by
        cases js with
        | nil => exact hr
        | cons j js => exact moveFront (h2 (by simp)) (j :: js) rest S hinv hfr h1 h7 h3 h4 h5 h6 hr
      have hfr' : (alone ops i = false → freeO S (dstOf ops i)) ∧ free ops (js ++ rest) S = true := by
        rw [free_app, free_cons] at hfr
        rw [free_app]
        exact ⟨hfr.2.1, hfr.1, hfr.2.2⟩
      simp only [evOpsD] at hr'
      obtain ⟨o, ho⟩ : ∃ o, ops[i]? = some o := ⟨_, Array.getElem?_eq_getElem h6⟩
      rw [ho] at hr'
      dsimp only at hr'
      have key : evOper E ops o S (fun S' => cond (free ops (js ++ rest) S') (evOpsD E ops (js ++ rest) S' K) none) = some r := by
        cases hal : alone ops i with
        | true => rw [hal] at hr'; exact hr'
        | false =>
          rw [hal] at hr'
          simp only [cond_false] at hr'
          have hd := dstOf_eq ho
          have hfo : freeO S o.dst := by rw [← hd]; exact hfr'.1 hal
          cases hap : (!isStore ops i && isApp ops i) with
          | true =>
            simp only [Bool.and_eq_true, Bool.not_eq_true'] at hap
            obtain ⟨hsi, hapi⟩ := hap
            obtain ⟨k, q, hq, hqr, hko, hdk, hok2, hnat⟩ := app_step ho hinv hfo hsi hapi hr'
            obtain ⟨_, _, _, _, _, _, _, _, huq, _⟩ := isApp_op ho hapi
            refine evD_oper (i := i) ho hinv ?_
            rw [hnat S (Agree.refl _) rfl hfo hok2] at hr' ⊢
            have hfs : free ops (js ++ rest) (setO (kill S k) o.dst q) = true := by
              rw [← hd]
              refine free_set (free_mem.2 fun m hm ham => freeO_kill hko (free_mem.1 hfr'.2 m hm ham)) (fun m hm => ?_) (.inl huq)
              rcases List.mem_append.1 hm with hm | hm
              · exact ⟨(h1 m hm).2.2.1, fun e => h4 (e ▸ hm)⟩
              · exact ⟨(h5 m hm).1, (h5 m hm).2.2⟩
            rw [hfs]; exact hr'
          | false =>
          have haj3 : isStore ops i = false → isApp ops i = false := fun e => by rw [e] at hap; simpa using hap
          obtain ⟨tt, p, ds, st⟩ := dstep ho haj3 hinv hfo hr'
          refine evD_oper (i := i) ho hinv ?_
          rw [st] at hr' ⊢
          have hfs : free ops (js ++ rest) (setO S tt p) = true := by
            cases ds with
            | val _ hsj hpj huj hnb htj =>
              rw [← hd]
              refine free_set hfr'.2 (fun m hm => ?_) huj
              rcases List.mem_append.1 hm with hm | hm
              · exact ⟨(h1 m hm).2.2.1, fun e => h4 (e ▸ hm)⟩
              · exact ⟨(h5 m hm).1, (h5 m hm).2.2⟩
            | sto k _ hsj hq hrq hk hjj hks htj =>
              refine free_mem.2 fun m hm ham d hd => ?_
              have := free_mem.1 hfr'.2 m hm ham d hd
              rw [setO_ne fun e => by cases e; rw [this] at hk; cases hk]
              exact this
          rw [hfs]; exact hr'
      have hs := evOper_sound (Q := Q) hE h key
      have ih : ∀ a' w', Post X w0 (fun S' => cond (free ops (js ++ rest) S') (evOpsD E ops (js ++ rest) S' K) none) r a' w' → wpAny X.P .any ops Q fuel (listed.setIfInBounds i true) a' w' := fun a' w' ⟨S', loc', g1, g2⟩ => by
        dsimp only at g1
        cases hf' : free ops (js ++ rest) S' with
        | false => rw [hf'] at g1; cases g1
        | true =>
          rw [hf'] at g1
          exact drawn_sound hE hok fuel _ _ hL' (by simp at hf ⊢; omega) S' a' w' loc' g2 hf' g1 hQ
      unfold wpOp
      simp only [ho]
      split at hs
      · rename_i hw
        rw [if_pos hw]
        exact .inl (Oper.wp_mono ih hs)
      · rename_i hw
        rw [if_neg hw]
        exact ih _ _ hs
theorem region_drawn (hE : EnvOk X E) (id : Nat) (h : Sim X w0 S a w loc) (hr : cond (drawOk ops && free ops (List.range ops.size) S) (evOpsD E ops (List.range ops.size) S K) none = some r) (hQ : ∀ a w, Post X w0 K r a w → Q .normal a w) : (Code.region id ops true).wp X.P Q a w := by
  cases hc : (drawOk ops && free ops (List.range ops.size) S) with
  | false => rw [hc] at hr; cases hr
  | true =>
    rw [hc] at hr
    rw [Bool.and_eq_true] at hc
    have hb : Below w.heap.size w { w with drawn := w.drawn + 1 } := (Below.refl _ _).drew
    refine wp_region_any hE.mixed (drawn_sound hE hc.1 ops.size _ (List.range ops.size) ⟨by simp, ?_, fun i o hi => by
      exfalso
      simp only [Array.getD] at hi
      split at hi <;> simp at hi⟩ (by simp) S a _ loc (h.ext hb) hc.2 hr hQ)
    symm
    refine List.filter_eq_self.2 fun i hi => ?_
    have : i < ops.size := List.mem_range.1 hi
    simp [Array.getD, this]

/-- how code ends -/
def ExPost (X : Cx) (w0 : World) (k : Ex → St → Option ρ) (r : ρ) : Exit → Act → World → Prop
  | .normal, a, w => Post X w0 (k .normal) r a w
  | .exit id, a, w => Post X w0 (k (.exit id)) r a w
  | .ret, a, w => Post X w0 (k .ret) r a w
  | _, _, _ => False
theorem cond_some {b : Bool} {x y : Option ρ} {r : ρ} (h : cond b x y = some r) : (b = true ∧ x = some r) ∨ (b = false ∧ y = some r) := by cases b <;> simp_all
/-- a loop in its block does what its contract tells -/
structure LoopOk (X : Cx) (w0 : World) (lc : LoopC ρ) (body : Code) (id : Nat) (kr : St → Option ρ) : Prop where
  enter : ∀ S a w loc s, Sim X w0 S a w loc → lc.projI S = some s → ∃ loc', Sim X w0 (lc.injI s) a w loc'
  run : ∀ s kx r, lc.L s kx = some r → ∀ a w loc, Sim X w0 (lc.injI s) a w loc →
    (Code.block id body).wp X.P (fun e a w => match e with
      | .normal => ∃ y loc, kx y = some r ∧ Sim X w0 (lc.injX y) a w loc
      | .ret => Post X w0 kr r a w
      | _ => False) a w
/-- every loop that the evaluator takes by its contract -/
def LoopsOk (X : Cx) (w0 : World) (Λ : Nat → Option (LoopC ρ)) (kr : St → Option ρ) : Code → Prop
  | .seq x y => LoopsOk X w0 Λ kr x ∧ LoopsOk X w0 Λ kr y
  | .cond _ x y => LoopsOk X w0 Λ kr x ∧ LoopsOk X w0 Λ kr y
  | .block id c => match Λ id with
    | some lc => LoopOk X w0 lc c id kr
    | none => LoopsOk X w0 Λ kr c
  | _ => True
theorem wp_cond_of {P : Program} {c : Operand} {x y : Code} {b : Bool} {Q : Exit → Act → World → Prop} (hc : a.eval c = .bool b) (hx : b = true → x.wp P Q a w) (hy : b = false → y.wp P Q a w) : (Code.cond c x y).wp P Q a w := wp_cond_split hc hx hy
theorem ev_sound (hE : EnvOk X E) (kr : St → Option ρ) : (c : Code) → LoopsOk X w0 E.Λ kr c → (S : St) → (a : Act) → (w : World) → (loc : Nat → Nat → Option (Nat × Nat)) → Sim X w0 S a w loc → (k : Ex → St → Option ρ) → k .ret = kr → (r : ρ) →
    ev E c S k = some r → c.wp X.P (ExPost X w0 k r) a w
  | .skip, _, S, a, w, loc, h, k, _, r, hr => wp_skip ⟨S, loc, hr, h⟩
  | .exit id, _, S, a, w, loc, h, k, _, r, hr => wp_exit ⟨S, loc, hr, h⟩
  | .ret, _, S, a, w, loc, h, k, _, r, hr => wp_ret ⟨S, loc, hr, h⟩
  | .region id ops draw, _, S, a, w, loc, h, k, _, r, hr => by
    cases draw with
    | false =>
      simp only [ev] at hr
      exact wp_region (evOps_sound hE _ S a w loc h hr (fun a w hp => hp))
    | true =>
      simp only [ev] at hr
      exact region_drawn hE id h hr (fun a w hp => hp)
  | .seq x y, hl, S, a, w, loc, h, k, hk, r, hr => by
    simp only [ev] at hr
    refine wp_seq (wp_mono (ev_sound hE kr x hl.1 S a w loc h _ (by simpa using hk) r hr) fun e a' w' hp => ?_)
    cases e with
    | normal =>
      obtain ⟨S', loc', h1, h2⟩ := hp
      exact ev_sound hE kr y hl.2 S' a' w' loc' h2 k hk r h1
    | exit id => exact hp
    | ret => exact hp
    | goto l => exact hp
    | panic c => exact hp
    | outgrown => exact hp
  | .cond c x y, hl, S, a, w, loc, h, k, hk, r, hr => by
    simp only [ev] at hr
    split at hr
    · rename_i β hc
      have hv := opd_raw h hc
      refine wp_cond_of hv (fun hb => ?_) (fun hb => ?_)
      · rw [hb] at hr; exact ev_sound hE kr x hl.1 S a w loc h k hk r hr
      · rw [hb] at hr; exact ev_sound hE kr y hl.2 S a w loc h k hk r hr
    · cases hr
  | .block id c, hl, S, a, w, loc, h, k, hk, r, hr => by
    simp only [ev] at hr
    simp only [LoopsOk] at hl
    split at hr
    · rename_i lc hlc
      rw [hlc] at hl
      dsimp only at hl
      cases hs : lc.projI S with
      | none => rw [hs] at hr; cases hr
      | some s =>
        rw [hs] at hr
        simp only [Option.bind_some] at hr
        obtain ⟨loc', h'⟩ := hl.enter S a w loc s h hs
        refine wp_mono (hl.run s _ r hr a w loc' h') fun e a' w' hp => ?_
        cases e with
        | normal => obtain ⟨y, loc2, h1, h2⟩ := hp; exact ⟨_, loc2, h1, h2⟩
        | ret => show Post X w0 (k .ret) r a' w'; rw [hk]; exact hp
        | exit id => exact hp.elim
        | goto l => exact hp.elim
        | panic c => exact hp.elim
        | outgrown => exact hp.elim
    · rename_i hlc
      rw [hlc] at hl
      dsimp only at hl
      refine wp_block (wp_mono (ev_sound hE kr c hl S a w loc h _ (by simpa using hk) r hr) fun e a' w' hp => ?_)
      cases e with
      | normal => exact hp
      | exit j =>
        obtain ⟨S', loc', h1, h2⟩ := hp
        show Exit.inBlock id (ExPost X w0 k r) (.exit j) a' w'
        simp only [Exit.inBlock]
        dsimp only at h1
        split at h1
        · rename_i hj; rw [if_pos hj]; exact ⟨S', loc', h1, h2⟩
        · rename_i hj; rw [if_neg hj]; exact ⟨S', loc', h1, h2⟩
      | ret => exact hp
      | goto l => exact hp.elim
      | panic c => exact hp.elim
      | outgrown => exact hp.elim
  | .loop _, _, _, _, _, _, _, _, _, _, hr => by simp [ev] at hr
  | .rangeFunc .., _, _, _, _, _, _, _, _, _, hr => by simp [ev] at hr
  | .scope _, _, _, _, _, _, _, _, _, _, hr => by simp [ev] at hr
  | .label _, _, _, _, _, _, _, _, _, _, hr => by simp [ev] at hr
  | .goto _, _, _, _, _, _, _, _, _, _, hr => by simp [ev] at hr
  | .refuse _, _, _, _, _, _, _, _, _, _, hr => by simp [ev] at hr

/-! ### forgetting slots -/
theorem Sim.weaken (h : Sim X w0 S a w loc) {S' : St} (hl : S'.length = S.length) (hs : ∀ (i : Nat) p, S'[i]? = some p → S[i]? = some p ∨ p = .junk) (hr : ∀ (i : Nat) p k, S'[i]? = some p → p.ref = some k → (get S' k).owns = true) (hpn : isObj (get S 0) = true → isObj (get S' 0) = true) : ∃ loc', Sim X w0 S' a w loc' := by
  have hsame : ∀ k, (get S' k).owns = true → get S' k = get S k := fun k hk => by
    rcases hs k _ (get_some hk) with h1 | h1
    · exact (get_eq h1).symm
    · rw [h1] at hk; cases hk
  let loc2 : Nat → Nat → Option (Nat × Nat) := fun i => if (get S' i).owns then loc i else fun _ => none
  have l1 : ∀ i, (get S' i).owns = true → loc2 i = loc i := fun i hi => by simp [loc2, hi]
  have l2 : ∀ i, (get S' i).owns = false → loc2 i = fun _ => none := fun i hi => by simp [loc2, hi]
  have l3 : ∀ i j b o, loc2 i j = some (b, o) → loc i j = some (b, o) := fun i j b o hh => by
    cases hi : (get S' i).owns with
    | true => rw [l1 i hi] at hh; exact hh
    | false => rw [l2 i hi] at hh; cases hh
  refine ⟨loc2, { h with len := by rw [h.len, hl], rep := ?_, ref := hr, sep := fun i j i' j' b o o' e1 e2 => h.sep i j i' j' b o o' (l3 _ _ _ _ e1) (l3 _ _ _ _ e2), dom := fun i hi j => by rw [l2 i hi], lt := fun i j b o hh => h.lt i j b o (l3 _ _ _ _ hh), pin := fun b hb => ⟨hpn (h.pin b hb).1, by rw [l1 0 (isObj_owns (hpn (h.pin b hb).1))]; exact (h.pin b hb).2⟩ }⟩
  intro i p hp
  rcases hs i p hp with h1 | rfl
  · obtain ⟨v, hv, hrep⟩ := h.rep i p h1
    refine ⟨v, hv, ?_⟩
    have hli : loc2 i = loc i := by
      cases ho : p.owns with
      | true => exact l1 i (by rw [get_eq hp]; exact ho)
      | false => rw [l2 i (by rw [get_eq hp]; exact ho)]; exact (funext (h.dom i (by rw [get_eq h1]; exact ho))).symm
    rw [hli]
    refine hrep.frame (fun _ _ _ _ => rfl) (fun _ _ => rfl) (fun _ => Nat.le_refl _) (fun k hk => ?_)
    have hko := hr i p k hp hk
    rw [hsame k hko, l1 k hko]
    exact ⟨fun _ => rfl, rfl, rfl, rfl⟩
  · have hlt : i < S.length := by rw [← hl]; exact (List.getElem?_eq_some_iff.1 hp).1
    obtain ⟨v, hv, _⟩ := h.rep i _ (List.getElem?_eq_getElem hlt)
    exact ⟨v, hv, trivial⟩

theorem spProj_ok : (ps : List SP) → (ss : List Seg) → (x : spα ps) → spProj ps ss = some x → spInj ps x = ss
  | [], [], x, h => rfl
  | [], s :: ss, x, h => by simp [spProj] at h
  | p :: r, [], x, h => by simp [spProj] at h
  | p :: r, s :: ss, x, h => by
    simp only [spProj] at h
    cases h1 : p.proj s with
    | none => rw [h1] at h; cases h
    | some y =>
      rw [h1] at h
      simp only [Option.bind_some] at h
      cases h2 : spProj r ss with
      | none => rw [h2] at h; cases h
      | some z =>
        rw [h2] at h
        simp only [Option.bind_some, Option.some.injEq] at h
        subst h
        have e1 : p.inj y = s := by
          cases p <;> cases s <;> simp only [SP.proj] at h1 <;> first
            | cases h1
            | (have := T0.dec_ok h1; simp [SP.inj, this])
            | (split at h1
               · rename_i hC; subst hC; cases h1; rfl
               · cases h1)
            | (split at h1
               · rename_i hC; subst hC
                 split at h1
                 · rename_i hn; subst hn; cases h1; rfl
                 · cases h1
               · cases h1)
        simp [spInj, e1, spProj_ok r ss z h2]
theorem IP.proj_ok (p : IP) (v : PV) (x : p.α) (h : p.proj v = some x) : p.inj x = v ∨ p.inj x = .junk := by
  cases p with
  | junk => exact .inr rfl
  | al k =>
    cases v <;> simp only [IP.proj] at h <;> first
      | cases h
      | (split at h
         · rename_i hk; subst hk; exact .inl rfl
         · cases h)
  | sc t =>
    cases v <;> simp only [IP.proj] at h <;> first
      | cases h
      | (have := T0.dec_ok h; exact .inl (by simp [IP.inj, this]))
  | own C =>
    cases v <;> simp only [IP.proj] at h <;> first
      | cases h
      | (split at h
         · rename_i hC; subst hC; cases h; exact .inl rfl
         · cases h)
  | ros C =>
    cases v <;> simp only [IP.proj] at h <;> first
      | cases h
      | (split at h
         · rename_i hC; subst hC; cases h; exact .inl rfl
         · cases h)
  | arr C n =>
    cases v <;> simp only [IP.proj] at h <;> first
      | cases h
      | (split at h
         · rename_i hC; subst hC
           split at h
           · rename_i hn; subst hn; cases h; exact .inl rfl
           · cases h
         · cases h)
  | strc ss =>
    cases v <;> simp only [IP.proj] at h <;> first
      | cases h
      | (have := spProj_ok _ _ _ h; exact .inl (by simp [IP.inj, this]))
  | obj ss =>
    cases v <;> simp only [IP.proj] at h <;> first
      | cases h
      | (have := spProj_ok _ _ _ h; exact .inl (by simp [IP.inj, this]))
  | iter =>
    cases v <;> simp only [IP.proj] at h <;> first
      | (cases h; done)
      | (cases h; exact .inl rfl)
theorem IP.inj_owns (p : IP) (x : p.α) : (p.inj x).owns = p.owns := by cases p <;> rfl
theorem IP.inj_ref (p : IP) (x : p.α) {k : Nat} (h : (p.inj x).ref = some k) : p = .al k := by
  cases p <;> simp [IP.inj, PV.ref] at h
  subst h; rfl
theorem ipInj_get : (ps : List IP) → (x : ipα ps) → (i : Nat) → ∀ q, (ipInj ps x)[i]? = some q → ∃ (p : IP) (y : p.α), ps[i]? = some p ∧ q = p.inj y
  | [], _, i, q, h => by simp [ipInj] at h
  | p :: r, x, 0, q, h => by simp [ipInj] at h; exact ⟨p, p.fst x, rfl, h.symm⟩
  | p :: r, x, i + 1, q, h => by simpa using ipInj_get r (p.snd x) i q (by simpa [ipInj] using h)
theorem ipInj_length : (ps : List IP) → (x : ipα ps) → (ipInj ps x).length = ps.length
  | [], _ => rfl
  | p :: r, x => by simp [ipInj, ipInj_length r (p.snd x)]
theorem ipProjL_ok : (ps : List IP) → (S : St) → (x : ipα ps) → ipProjL ps S = some x → ps.length = S.length ∧ ∀ (i : Nat) q, (ipInj ps x)[i]? = some q → S[i]? = some q ∨ q = .junk
  | [], [], x, h => ⟨rfl, fun i q hq => by simp [ipInj] at hq⟩
  | [], s :: ss, x, h => by simp [ipProjL] at h
  | p :: r, [], x, h => by simp [ipProjL] at h
  | p :: r, s :: ss, x, h => by
    simp only [ipProjL] at h
    cases h1 : p.proj s with
    | none => rw [h1] at h; cases h
    | some y =>
      rw [h1] at h
      simp only [Option.bind_some] at h
      cases h2 : ipProjL r ss with
      | none => rw [h2] at h; cases h
      | some z =>
        rw [h2] at h
        simp only [Option.bind_some, Option.some.injEq] at h
        subst h
        obtain ⟨g1, g2⟩ := ipProjL_ok r ss z h2
        refine ⟨by simp [g1], fun i q hq => ?_⟩
        cases i with
        | zero =>
          simp [ipInj, IP.fst_pair] at hq
          subst hq
          rcases IP.proj_ok p s y h1 with e | e
          · exact .inl (by simp [e])
          · exact .inr e
        | succ i => simpa using g2 i q (by simpa [ipInj, IP.snd_pair] using hq)
theorem IP.inj_isObj (p : IP) (x : p.α) : Px.isObj (p.inj x) = p.isObj := by cases p <;> rfl
theorem ipInj_zero (ps : List IP) (x : ipα ps) (h : (ps.getD 0 .junk).isObj = true) : isObj (get (ipInj ps x) 0) = true := by
  cases ps with
  | nil => cases h
  | cons p r => exact (IP.inj_isObj p (p.fst x)).trans h
theorem ipProj_ok (ps : List IP) (S : St) (x : ipα ps) (h : ipProj ps S = some x) : (ps.length = S.length ∧ ∀ (i : Nat) q, (ipInj ps x)[i]? = some q → S[i]? = some q ∨ q = .junk) ∧ (isObj (get S 0) = true → isObj (get (ipInj ps x) 0) = true) := by
  unfold ipProj at h
  cases hc : (isObj (get S 0) && !(ps.getD 0 .junk).isObj) with
  | true => rw [hc] at h; cases h
  | false =>
    rw [hc] at h
    refine ⟨ipProjL_ok ps S x h, fun ho => ipInj_zero ps x ?_⟩
    rw [ho] at hc
    simpa using hc
theorem ip_enter (ps : List IP) (hok : ipOk ps = true) (h : Sim X w0 S a w loc) (x : ipα ps) (hx : ipProj ps S = some x) : ∃ loc', Sim X w0 (ipInj ps x) a w loc' := by
  obtain ⟨⟨h1, h2⟩, h3⟩ := ipProj_ok ps S x hx
  refine h.weaken (by rw [ipInj_length, h1]) h2 (fun i q k hq hk => ?_) h3
  obtain ⟨p, y, hp, rfl⟩ := ipInj_get ps x i q hq
  have hal := IP.inj_ref p y hk
  subst hal
  have hm := List.all_eq_true.1 hok _ (List.mem_of_getElem? hp)
  dsimp only at hm
  have hkl : k < ps.length := by
    rcases Nat.lt_or_ge k ps.length with h' | h'
    · exact h'
    · rw [List.getD_eq_getElem?_getD, List.getElem?_eq_none h'] at hm; cases hm
  have hkk : (ipInj ps x)[k]? = some ((ipInj ps x)[k]'(by rw [ipInj_length]; exact hkl)) := List.getElem?_eq_getElem _
  obtain ⟨p', y', hp', he⟩ := ipInj_get ps x k _ hkk
  rw [get_eq hkk, he, IP.inj_owns]
  rw [List.getD_eq_getElem?_getD, hp'] at hm
  exact hm
end
end Go.Px

/- Loops by their step; functions. -/
namespace Go.Px
open Go Go.RowKit

section
variable {X : Cx} {ρ : Type} {w0 : World} {S : St} {a : Act} {w : World} {loc : Nat → Nat → Option (Nat × Nat)} {E : Env ρ} {K : St → Option ρ} {r : ρ} {o : Oper} {Q : Exit → Act → World → Prop}

theorem exists_least {p : Nat → Prop} (h : ∃ n, p n) : ∃ m, p m ∧ ∀ k, p k → m ≤ k := by
  obtain ⟨n, hn⟩ := h
  induction n using Nat.strongRecOn with
  | _ n ih =>
    by_cases hk : ∃ k, k < n ∧ p k
    · obtain ⟨k, hk1, hk2⟩ := hk; exact ih k hk1 hk2
    · exact ⟨n, hn, fun k hpk => Nat.le_of_not_lt fun hlt => hk ⟨k, hlt, hpk⟩⟩
noncomputable def least {p : Nat → Prop} (h : ∃ n, p n) : Nat := Classical.choose (exists_least h)
theorem least_spec {p : Nat → Prop} (h : ∃ n, p n) : p (least h) := (Classical.choose_spec (exists_least h)).1
theorem least_le {p : Nat → Prop} (h : ∃ n, p n) {k : Nat} (hk : p k) : least h ≤ k := (Classical.choose_spec (exists_least h)).2 k hk
theorem wp_loopN {c : Code} {σ : Type} (I : σ → Act → World → Prop) (step : σ → (σ → Option ρ) → Option ρ)
    (hstep : ∀ s (κ : σ → Option ρ), step s κ = some r → ∀ a w, I s a w → c.wp X.P (Exit.then (fun a' w' => ∃ s', κ s' = some r ∧ I s' a' w') Q) a w) (n : Nat) (s : σ) (hr : loopN n step s = some r) (h : I s a w) :
    (Code.loop c).wp X.P Q a w := by
  classical
  let J : Act → World → Prop := fun a w => ∃ n s, loopN n step s = some r ∧ I s a w
  let μ : Act → World → Nat := fun a w => if h : ∃ n, ∃ s, loopN n step s = some r ∧ I s a w then least h else 0
  refine wp_loop J μ ⟨n, s, hr, h⟩ fun a w hJ => ?_
  have hμ : μ a w = least hJ := by simp only [μ]; rw [dif_pos hJ]
  obtain ⟨s', h1, h2⟩ := least_spec hJ
  generalize hm : least hJ = m at h1
  cases m with
  | zero => simp [loopN] at h1
  | succ m =>
    simp only [loopN] at h1
    refine wp_mono (hstep s' _ h1 a w h2) fun e a' w' hp => ?_
    cases e with
    | normal =>
      obtain ⟨s'', g1, g2⟩ := hp
      refine ⟨⟨m, s'', g1, g2⟩, ?_⟩
      have hJ' : ∃ n, ∃ s, loopN n step s = some r ∧ I s a' w' := ⟨m, s'', g1, g2⟩
      have : μ a' w' = least hJ' := by simp only [μ]; rw [dif_pos hJ']
      rw [this, hμ, hm]
      exact Nat.lt_succ_of_le (least_le hJ' ⟨s'', g1, g2⟩)
    | exit id => exact hp
    | ret => exact hp
    | goto l => exact hp
    | panic c => exact hp
    | outgrown => exact hp
/-- a loop over slots told by kinds -/
def mkLoop (pi px : List IP) (L : ipα pi → (ipα px → Option ρ) → Option ρ) : LoopC ρ :=
  { σ := ipα pi, τ := ipα px, projI := ipProj pi, injI := ipInj pi, projX := ipProj px, injX := ipInj px, L := L }
/-- how a round ends -/
def roundK (pi px : List IP) (id : Nat) (kr : St → Option ρ) (kx : ipα px → Option ρ) (κ : ipα pi → Option ρ) : Ex → St → Option ρ
  | .normal, S => (ipProj pi S).bind κ
  | .exit j, S => if j = id then (ipProj px S).bind kx else none
  | .ret, S => kr S
theorem loop_ok (hE : EnvOk X E) {pi px : List IP} {L : ipα pi → (ipα px → Option ρ) → Option ρ} {c : Code} {id : Nat} {kr : St → Option ρ} (hpi : ipOk pi = true) (hpx : ipOk px = true)
    (step : (ipα px → Option ρ) → ipα pi → (ipα pi → Option ρ) → Option ρ) (N : ipα pi → Nat) (hL : ∀ s kx, L s kx = loopN (N s) (step kx) s)
    (hlo : LoopsOk X w0 E.Λ kr c) (hstep : ∀ s kx κ, step kx s κ = ev E c (ipInj pi s) (roundK pi px id kr kx κ)) :
    LoopOk X w0 (mkLoop pi px L) (.loop c) id kr := by
  suffices key : ∀ (s : ipα pi) (kx : ipα px → Option ρ) (r : ρ), L s kx = some r → ∀ a w loc, Sim X w0 (ipInj pi s) a w loc → (Code.block id (.loop c)).wp X.P (fun e a w => match e with
      | .normal => ∃ y loc, kx y = some r ∧ Sim X w0 (ipInj px y) a w loc
      | .ret => Post X w0 kr r a w
      | _ => False) a w from ⟨fun S a w loc s h hs => ip_enter pi hpi h s hs, key⟩
  intro s kx r hr a w loc h
  rw [hL] at hr
  refine wp_block (wp_loopN (fun s a w => ∃ loc, Sim X w0 (ipInj pi s) a w loc) (step kx) (fun s κ hr a w ⟨loc, h⟩ => ?_) (N s) s hr ⟨loc, h⟩)
  rw [hstep] at hr
  refine wp_mono (ev_sound hE kr c hlo _ a w loc h _ rfl r hr) fun e a' w' hp => ?_
  cases e with
  | normal =>
    obtain ⟨S', loc', h1, h2⟩ := hp
    have h1 : (ipProj pi S').bind κ = some r := h1
    cases hs : ipProj pi S' with
    | none => rw [hs] at h1; cases h1
    | some s' =>
      rw [hs] at h1
      simp only [Option.bind_some] at h1
      obtain ⟨loc2, h3⟩ := ip_enter pi hpi h2 s' hs
      exact ⟨s', h1, loc2, h3⟩
  | exit j =>
    obtain ⟨S', loc', h1, h2⟩ := hp
    have h1 : (if j = id then (ipProj px S').bind kx else none) = some r := h1
    split at h1
    · rename_i hj
      cases hs : ipProj px S' with
      | none => rw [hs] at h1; cases h1
      | some y =>
        rw [hs] at h1
        simp only [Option.bind_some] at h1
        obtain ⟨loc2, h3⟩ := ip_enter px hpx h2 y hs
        simp only [Exit.then, Exit.inBlock]
        rw [if_pos hj]
        exact ⟨y, loc2, h1, h3⟩
    · cases h1
  | ret => exact hp
  | goto l => exact hp.elim
  | panic c => exact hp.elim
  | outgrown => exact hp.elim

/-! ### functions -/
/-- the kinds of what is handed over and handed back -/
inductive DP where
  | dyn
  | sc (t : T0)
  | own (C : Cod)
  | arr (C : Cod) (n : Nat)
  | strc (ss : List SP)
@[reducible] def DP.α : DP → Type
  | .dyn => Dyn
  | .sc t => t.α
  | .own C | .arr C _ => List C.α
  | .strc ss => spα ss
def DP.inj : (p : DP) → p.α → D1
  | .dyn, d => .raw d.val
  | .sc t, x => .raw (t.val x)
  | .own C, l => .own C l
  | .arr C n, l => .arr C n l
  | .strc ss, x => .strc (spInj ss x)
def nilSl : Value → Bool
  | .slice none 0 0 => true
  | _ => false
theorem nilSl_eq {v : Value} (h : nilSl v = true) : v = .slice none 0 0 := by
  unfold nilSl at h; split at h
  · rfl
  · cases h
def DP.proj : (p : DP) → D1 → Option p.α
  | .dyn, .raw v => Dyn.dec v
  | .sc t, .raw v => t.dec v
  | .own _, .raw u => if nilSl u then some [] else none
  | .own C, .own C' l => if h : C' = C then some (h ▸ l) else none
  | .arr C n, .arr C' n' l => if h : C' = C then (if n' = n then some (h ▸ l) else none) else none
  | .strc ss, .strc s => spProj ss s
  | _, _ => none
@[reducible] def dpα : List DP → Type
  | [] => Unit
  | p :: r => p.α × dpα r
def dpInj : (ps : List DP) → dpα ps → List D1
  | [], _ => []
  | p :: r, x => p.inj x.1 :: dpInj r x.2
def dpProj : (ps : List DP) → List DV → Option (dpα ps)
  | [], [] => some ()
  | p :: r, .one d :: ds => (p.proj d).bind fun x => (dpProj r ds).bind fun y => some (x, y)
  | _, _ => none
/-- an argument in its slot -/
def D1.arg : D1 → PV
  | .junk => .junk
  | .raw v => .raw v
  | .arr C n l => .arr C n l
  | .strc ss => .strc ss
  | .own C l => .ros C l
/-- one result, or several -/
inductive RP where
  | none
  | one (p : DP)
  | tup (ps : List DP)
@[reducible] def RP.α : RP → Type
  | .none => Unit
  | .one p => p.α
  | .tup ps => dpα ps
def RP.inj : (p : RP) → p.α → DV
  | .none, _ => .tup []
  | .one p, x => .one (p.inj x)
  | .tup ps, x => .tup (dpInj ps x)
/-- the contract of a function whose shallow twin is F -/
def mkFun (pa : List DP) (pr : RP) (F : dpα pa → Option pr.α) : Fun :=
  ⟨fun _ ds k => (dpProj pa ds).bind fun x => (F x).bind fun r => k (pr.inj r), fun _ ds k r h => by
    cases hx : dpProj pa ds with
    | none => rw [hx] at h; cases h
    | some x =>
      rw [hx] at h
      simp only [Option.bind_some] at h
      cases hF : F x with
      | none => rw [hF] at h; cases h
      | some y => exact ⟨pr.inj y, fun k' => by simp only [Option.bind_some, hF]⟩⟩
/-- the slots as a call begins -/
def start (pa : List DP) (n : Nat) (x : dpα pa) : St := (dpInj pa x).map D1.arg ++ List.replicate n .junk
/-- an owned slice that is handed back -/
def retCont (S : St) : PV → Option Cont
  | .alias k => match get S k with
    | .own C l => some ⟨C, l⟩
    | _ => none
  | .view k g off len => match get S k with
    | .own C l => if g = 0 then some ⟨C, (l.drop off).take len⟩ else none
    | .obj ss => match ss[g]? with
      | some (.arr C n l) => if off = 0 ∧ len = n then some ⟨C, l⟩ else some ⟨C, (l.drop off).take len⟩
      | _ => none
    | _ => none
  | _ => none
/-- what one result hands back -/
def retD (E : Env ρ) (S : St) (p : DP) (rv : ResultVar) : Option p.α := match rv with
  | .tmp t => match p with
    | .dyn => match get S t with
      | .raw v => Dyn.dec v
      | _ => none
    | .sc c => match get S t with
      | .raw v => c.dec v
      | _ => none
    | .own C => match get S t with
      | .raw (.slice none 0 0) => some []
      | q => match retCont S (selfAlias (.tmp t) q) with
        | some ⟨C', l⟩ => if h : C' = C then some (h ▸ l) else none
        | none => none
    | .arr C n => match get S t with
      | .arr C' n' l => if h : C' = C then (if n' = n then some (h ▸ l) else none) else none
      | _ => none
    | .strc ss => match get S t with
      | .strc s => if noRo s = true then spProj ss s else none
      | _ => none
  | .cell t ty => match E.T ty with
    | none => none
    | some ti => if ti.agg = true then (match p with
      | .arr C n => match get S t with
        | .obj [.arr C' n' l] => if h : C' = C then (if n' = n ∧ ti.size = n * C.sz then some (h ▸ l) else none) else none
        | _ => none
      | .strc sp => match get S t with
        | .obj ss => if ti.size = (ss.map Seg.size).sum ∧ noRo ss = true then spProj sp ss else none
        | _ => none
      | _ => none) else none
def retL (E : Env ρ) (S : St) : (ps : List DP) → List ResultVar → Option (dpα ps)
  | [], [] => some ()
  | p :: r, v :: vs => (retD E S p v).bind fun x => (retL E S r vs).bind fun y => some (x, y)
  | _, _ => none
def DP.isOwn : DP → Bool
  | .own _ => true
  | _ => false
def retR (E : Env ρ) (rvs : List ResultVar) (S : St) : (pr : RP) → Option pr.α
  | .none => match rvs with
    | [] => some ()
    | _ => none
  | .one p => match rvs with
    | [v] => retD E S p v
    | _ => none
  | .tup ps => if 2 ≤ ps.length ∧ (ps.filter DP.isOwn).length ≤ 1 then retL E S ps rvs else none
/-- how a function ends -/
def endK (E : Env ρ) (rvs : List ResultVar) (pr : RP) : Ex → St → Option pr.α
  | .normal, S => retR E rvs S pr
  | .ret, S => retR E rvs S pr
  | _, _ => none

theorem retCont_ok (h : Sim X w0 S a w loc) {p : PV} {v : Value} {c : Cont} (hc : retCont S p = some c) (hp : Rep X w S a.tmps loc (fun _ => none) p v) (hown : ∀ k, p.ref = some k → (get S k).owns = true) :
    ∃ ℓ, D1Rep w X.Mine (.own c.C c.l) ℓ v ∧ ∀ b o, ℓ = some (b, o) → X.Mine b ∧ b < w.heap.size := by
  cases p with
  | alias k =>
    simp only [retCont] at hc
    split at hc
    · rename_i C l hs
      simp only [Option.some.injEq] at hc; subst hc
      have := alias_val h hp (hown k rfl)
      rw [hs] at this
      exact ⟨loc k 0, this, fun b o hl => ⟨(h.lt k 0 b o hl).2, (h.lt k 0 b o hl).1⟩⟩
    · cases hc
  | view k g off len =>
    have key : ∀ (C : Cod) (l : List C.α), (get S k = .own C l ∧ g = 0 ∨ ∃ ss n, get S k = .obj ss ∧ ss[g]? = some (.arr C n l)) →
        ∃ ℓ, D1Rep w X.Mine (.own C ((l.drop off).take len)) ℓ v ∧ ∀ b o, ℓ = some (b, o) → X.Mine b ∧ b < w.heap.size := fun C l hs => by
      obtain ⟨hle, ad, cap, q1, q2, q3⟩ := view_sl h hp hs
      have hdt := drop_take_length l off len hle
      obtain ⟨base, sz, cnt, e1, e2, e3⟩ := id hp
      rcases e3 with ⟨_, p2, p3⟩ | ⟨b, o2, o3, cap', p1, p2, p3, p4, p5, _⟩
      · exact ⟨none, .inl ⟨rfl, p2, List.eq_nil_of_length_eq_zero (by rw [hdt, p3])⟩, fun b o e => by cases e⟩
      · refine ⟨some (b, o3), .inr ?_, fun b' o' e => by cases e; exact ⟨(h.lt k 0 b o2 p1).2, (h.lt k 0 b o2 p1).1⟩⟩
        have hblk : ∃ cur e' fr, w.heap[b]? = some (.cells cur e' fr) ∧ Harm fr cur.size ∧ sz = C.sz := by
          rcases hs with ⟨hs, rfl⟩ | ⟨ss, n, hs, hg⟩
          · obtain ⟨u, _, _, h3⟩ := opd_get h hs (by simp)
            rw [hs] at e1
            simp only [shp, Option.some.injEq, Prod.mk.injEq] at e1
            rcases h3 with ⟨r4, _⟩ | ⟨b', o4, cp, cur, e, fr, r4, r5, r6, r7, r8, _⟩
            · rw [p1] at r4; cases r4
            · rw [p1] at r4; cases r4; exact ⟨cur, e, fr, r7, r8, e1.2.1.symm⟩
          · obtain ⟨u, _, _, h3⟩ := opd_get h hs (by simp)
            rw [hs] at e1
            simp only [shp, hg, Option.some.injEq, Prod.mk.injEq] at e1
            obtain ⟨b', cur, e, fr, r1, r2, r3, r4, r5, _⟩ := h3
            rw [p1] at r1; cases r1
            exact ⟨cur, e, fr, r4, r5, e1.2.1.symm⟩
        obtain ⟨cur, e', fr, g1, g2, rfl⟩ := hblk
        have hbs : blkSize w b = cur.size := by simp [blkSize, g1]
        refine ⟨b, o3, cap', cur, e', fr, rfl, by rw [hdt]; exact p2, (h.lt k 0 b o2 p1).2, g1, g2, by rw [hdt]; exact p3, by rw [← hbs]; exact p5, ?_⟩
        rcases q3 with q3 | ⟨b3, o4, cur3, e3, fr3, r1, r2, r3, r4⟩
        · rw [q3]; intro m z hm; simp [flat] at hm
        · rw [p2, hdt] at q1; cases q1; cases r1
          rw [g1] at r3; cases r3
          exact r4
    simp only [retCont] at hc
    split at hc
    · rename_i C l hs
      split at hc
      · rename_i hg
        simp only [Option.some.injEq] at hc; subst hc
        exact key C l (.inl ⟨hs, hg⟩)
      · cases hc
    · rename_i ss hs
      split at hc
      · rename_i C n l hg
        have k1 := key C l (.inr ⟨ss, n, hs, hg⟩)
        split at hc
        · rename_i hoff
          obtain ⟨rfl, rfl⟩ := hoff
          simp only [Option.some.injEq] at hc; subst hc
          obtain ⟨u, _, _, h3⟩ := opd_get h hs (by simp)
          obtain ⟨_, _, _, _, _, _, _, _, _, q6, _⟩ := h3
          have hl : l.length = len := q6 _ (List.mem_of_getElem? hg)
          rw [List.drop_zero, List.take_of_length_le (by omega)] at k1
          exact k1
        · simp only [Option.some.injEq] at hc; subst hc; exact k1
      · cases hc
    · cases hc
  | _ => simp [retCont] at hc

/-- one result, read -/
def resComp (tmps : Array Value) : ResultVar → Sem Value
  | .tmp t => pure (tmps.getD t undef)
  | .cell ad t => do loadVar t (← asAddr (tmps.getD ad undef))
theorem retD_ok (hE : EnvOk X E) (h : Sim X w0 S a w loc) {p : DP} {rv : ResultVar} {x : p.α} (hx : retD E S p rv = some x) :
    ∃ u ℓ, (resComp a.tmps rv).run X.P w = .ok u w ∧ D1Rep w X.Mine (p.inj x) ℓ u ∧
      (∀ b o, ℓ = some (b, o) → X.Mine b ∧ b < w.heap.size) ∧ (p.isOwn = false → ℓ = none) := by
  cases rv with
  | tmp t =>
    simp only [retD] at hx
    have hev : a.eval (.tmp t) = a.tmps.getD t undef := rfl
    cases p with
    | sc c =>
      dsimp only at hx
      split at hx
      · rename_i v hv
        have := opd_raw h (x := .tmp t) hv
        exact ⟨_, none, rfl, by rw [← hev, this]; exact (T0.dec_ok hx).symm, (fun b o e => by cases e), fun _ => rfl⟩
      · cases hx
    | own C =>
      dsimp only at hx
      split at hx
      · rename_i hv
        cases hx
        have := opd_raw h (x := .tmp t) hv
        exact ⟨_, none, rfl, .inl ⟨rfl, by rw [← hev, this], rfl⟩, (fun b o e => by cases e), fun _ => rfl⟩
      · split at hx
        · rename_i C' l hc
          split at hx
          · rename_i hC
            subst hC
            simp only [Option.some.injEq] at hx
            subst hx
            have hj : selfAlias (.tmp t) (opd S (.tmp t)) ≠ .junk ∧ (∀ s q, selfAlias (.tmp t) (opd S (.tmp t)) ≠ .iter s q) ∧ (∀ ds, selfAlias (.tmp t) (opd S (.tmp t)) ≠ .tup ds) := by
              have hc' : retCont S (selfAlias (.tmp t) (opd S (.tmp t))) = some ⟨C', l⟩ := hc
              refine ⟨fun e => ?_, fun _ _ e => ?_, fun _ e => ?_⟩ <;> (rw [e] at hc'; simp [retCont] at hc')
            obtain ⟨_, h2, h3⟩ := opd_rep h (x := .tmp t) rfl hj.1 hj.2.1 hj.2.2
            obtain ⟨ℓ, g1, g2⟩ := retCont_ok h hc h2 h3
            exact ⟨_, ℓ, rfl, g1, g2, fun hp => by cases hp⟩
          · cases hx
        · cases hx
    | arr C n =>
      dsimp only at hx
      split at hx
      · rename_i C' n' l hv
        split at hx
        · rename_i hC
          subst hC
          split at hx
          · rename_i hn
            subst hn
            simp only [Option.some.injEq] at hx
            subst hx
            have := copy_rep h (s := t) (by rw [hv]; rfl)
            rw [hv] at this
            exact ⟨_, none, rfl, this, (fun b o e => by cases e), fun _ => rfl⟩
          · cases hx
        · cases hx
      · cases hx
    | dyn =>
      dsimp only at hx
      split at hx
      · rename_i v hv
        have := copy_rep h (s := t) (by rw [hv]; rfl)
        rw [hv] at this
        have hi := Dyn.dec_ok hx
        exact ⟨_, none, rfl, by show D1Rep w X.Mine (.raw x.val) none _; rw [← hi]; exact this, (fun b o e => by cases e), fun _ => rfl⟩
      · cases hx
    | strc ss =>
      dsimp only at hx
      split at hx
      · rename_i s hv
        have := copy_rep h (s := t) (by rw [hv]; rfl)
        rw [hv] at this
        split at hx
        · rename_i hnr
          have hi := spProj_ok _ _ _ hx
          exact ⟨_, none, rfl, by show D1Rep w X.Mine (.strc (spInj ss x)) none _; rw [hi]; exact ⟨segsPl_of this.1 hnr, this.2⟩, (fun b o e => by cases e), fun _ => rfl⟩
        · cases hx
      · cases hx
  | cell t ty =>
    simp only [retD] at hx
    split at hx
    · cases hx
    · rename_i ti hti
      split at hx
      · rename_i hag
        cases p with
        | arr C n =>
          dsimp only at hx
          split at hx
          · rename_i C' n' l hv
            split at hx
            · rename_i hC
              subst hC
              split at hx
              · rename_i hn
                obtain ⟨rfl, hn⟩ := hn
                simp only [Option.some.injEq] at hx
                subst hx
                obtain ⟨u, h1, h2, b, cur, e', fr, g1, g2, g3, g4, g5, g6, g7⟩ := opd_get h hv (by simp)
                have hl : l.length = n' := g6 (.arr C' n' l) (by simp)
                refine ⟨.agg (flat C' l).toArray, none, ?_, ⟨hl, rfl⟩, (fun b o e => by cases e), fun _ => rfl⟩
                have := load_row (w := w) (xs := flat C' l) (hE.T ty ti hti) hag g4 (fun j u hj => by rw [g7]; simpa [segCells, Seg.cells] using hj) (by rw [flat_length, hl]; exact hn.symm)
                have hget : a.tmps.getD t undef = .pointer (some ⟨b, 0, none⟩) := by rw [← g2]; simp [h1]
                simp only [resComp, hget, Sem.run_bind, asAddr, Sem.run_pure, Result.andThen_ok]
                simpa [Instr.loadAt, Instr.sureAddr] using this
              · cases hx
            · cases hx
          · cases hx
        | strc sp =>
          dsimp only at hx
          split at hx
          · rename_i ss hv
            split at hx
            · rename_i hn
              obtain ⟨hn, hnr⟩ := hn
              have hi := spProj_ok _ _ _ hx
              obtain ⟨u, h1, h2, b, cur, e', fr, g1, g2, g3, g4, g5, g6, g7⟩ := opd_get h hv (by simp)
              refine ⟨.agg (segCells ss).toArray, none, ?_, ?_, (fun b o e => by cases e), fun _ => rfl⟩
              · have := load_row (w := w) (xs := segCells ss) (hE.T ty ti hti) hag g4 (fun j u hj => by rw [g7]; simpa using hj) (by rw [segCells_length ss g6]; exact hn.symm)
                have hget : a.tmps.getD t undef = .pointer (some ⟨b, 0, none⟩) := by rw [← g2]; simp [h1]
                simp only [resComp, hget, Sem.run_bind, asAddr, Sem.run_pure, Result.andThen_ok]
                simpa [Instr.loadAt, Instr.sureAddr] using this
              · show D1Rep w X.Mine (.strc (spInj sp x)) none _
                rw [hi]; exact ⟨segsPl_of g6 hnr, rfl⟩
            · cases hx
          · cases hx
        | _ => simp at hx
      · cases hx

theorem retL_ok (hE : EnvOk X E) (h : Sim X w0 S a w loc) : (ps : List DP) → (rvs : List ResultVar) → (x : dpα ps) → retL E S ps rvs = some x →
    ∃ (us : List Value) (ℓ : Nat → Option (Nat × Nat)), (rvs.mapM (resComp a.tmps)).run X.P w = .ok us w ∧ us.length = ps.length ∧ rvs.length = ps.length ∧
      (∀ (j : Nat) d, (dpInj ps x)[j]? = some d → ∃ u, us[j]? = some u ∧ D1Rep w X.Mine d (ℓ j) u) ∧ (∀ j b o, ℓ j = some (b, o) → X.Mine b ∧ b < w.heap.size) ∧ (∀ (j : Nat) p, ps[j]? = some p → p.isOwn = false → ℓ j = none) ∧ (∀ j, ps.length ≤ j → ℓ j = none)
  | [], [], x, hx => ⟨[], fun _ => none, by simp, rfl, rfl, fun j d hj => by simp [dpInj] at hj, (fun j b o e => by cases e), fun _ _ _ _ => rfl, fun _ _ => rfl⟩
  | [], v :: vs, x, hx => by simp [retL] at hx
  | p :: r, [], x, hx => by simp [retL] at hx
  | p :: r, v :: vs, x, hx => by
    simp only [retL] at hx
    cases h1 : retD E S p v with
    | none => rw [h1] at hx; cases hx
    | some y =>
      rw [h1] at hx
      simp only [Option.bind_some] at hx
      cases h2 : retL E S r vs with
      | none => rw [h2] at hx; cases hx
      | some z =>
        rw [h2] at hx
        simp only [Option.bind_some, Option.some.injEq] at hx
        subst hx
        obtain ⟨u, ℓ1, g1, g2, g3, g4⟩ := retD_ok hE h h1
        obtain ⟨us, ℓ, k1, k2, k3, k4, k5, k6, k7⟩ := retL_ok hE h r vs z h2
        refine ⟨u :: us, fun j => match j with | 0 => ℓ1 | j + 1 => ℓ j, ?_, by simp [k2], by simp [k3], ?_, ?_, ?_, ?_⟩
        · rw [List.mapM_cons]
          simp only [Sem.run_bind, g1, Result.andThen_ok, k1, Sem.run_pure]
        · intro j d hj
          cases j with
          | zero => simp [dpInj] at hj; subst hj; exact ⟨u, rfl, g2⟩
          | succ j => simpa using k4 j d (by simpa [dpInj] using hj)
        · intro j b o e
          cases j with
          | zero => exact g3 b o e
          | succ j => exact k5 j b o e
        · intro j q hj hq
          cases j with
          | zero => simp at hj; subst hj; exact g4 hq
          | succ j => exact k6 j q (by simpa using hj) hq
        · intro j hj
          cases j with
          | zero => simp at hj
          | succ j => exact k7 j (by simpa using hj)
theorem own_once : (ps : List DP) → (ps.filter DP.isOwn).length ≤ 1 → ∀ (i j : Nat) p q, ps[i]? = some p → ps[j]? = some q → p.isOwn = true → q.isOwn = true → i = j
  | [], _, i, j, p, q, h1, _, _, _ => by simp at h1
  | a :: r, hc, i, j, p, q, h1, h2, h3, h4 => by
    have hr0 : a.isOwn = true → ∀ (k : Nat) x, r[k]? = some x → x.isOwn = false := fun ha k x hk => by
      rw [List.filter_cons_of_pos ha, List.length_cons] at hc
      have : r.filter DP.isOwn = [] := List.eq_nil_of_length_eq_zero (by omega)
      have hm := List.filter_eq_nil_iff.1 this x (List.mem_of_getElem? hk)
      simpa using hm
    cases i with
    | zero =>
      simp at h1; subst h1
      cases j with
      | zero => rfl
      | succ j => have := hr0 h3 j q (by simpa using h2); rw [this] at h4; cases h4
    | succ i =>
      cases j with
      | zero => simp at h2; subst h2; have := hr0 h4 i p (by simpa using h1); rw [this] at h3; cases h3
      | succ j =>
        have hcr : (r.filter DP.isOwn).length ≤ 1 := by
          refine Nat.le_trans ?_ hc
          cases ha : a.isOwn with
          | true => rw [List.filter_cons_of_pos ha]; simp
          | false => rw [List.filter_cons_of_neg (by rw [ha]; simp)]; exact Nat.le_refl _
        rw [own_once r hcr i j p q (by simpa using h1) (by simpa using h2) h3 h4]
theorem dpInj_length : (ps : List DP) → (x : dpα ps) → (dpInj ps x).length = ps.length
  | [], _ => rfl
  | p :: r, x => by simp [dpInj, dpInj_length r x.2]
theorem dpInj_get : (ps : List DP) → (x : dpα ps) → (i : Nat) → ∀ d, (dpInj ps x)[i]? = some d → ∃ (p : DP) (y : p.α), ps[i]? = some p ∧ d = p.inj y
  | [], _, i, q, h => by simp [dpInj] at h
  | p :: r, x, 0, q, h => by simp [dpInj] at h; exact ⟨p, x.1, rfl, h.symm⟩
  | p :: r, x, i + 1, q, h => by simpa using dpInj_get r x.2 i q (by simpa [dpInj] using h)
theorem DP.inj_owns (p : DP) (x : p.α) : (p.inj x).owns = p.isOwn := by cases p <;> rfl
theorem D1.toPV_owns (d : D1) : d.toPV.owns = d.owns := by cases d <;> rfl
theorem results_run {P : Program} (fn : Func) (tmps : Array Value) (us : List Value) (h : (fn.results.toList.mapM (resComp tmps)).run P w = .ok us w) :
    (results fn tmps).run P w = .ok (if h : us.toArray.size = 1 then us.toArray[0] else .tuple us.toArray) w := by
  have e : results fn tmps = (do
      let vs ← fn.results.mapM (resComp tmps)
      pure (if h : vs.size = 1 then vs[0] else .tuple vs)) := by
    unfold results
    congr 1
  rw [e, Array.mapM_eq_mapM_toList]
  simp only [Sem.run_bind, Sem.run_map, h, Result.andThen_ok, Sem.run_pure]
theorem ResRepP.mono {w : World} {B B' : Nat → Prop} {d : DV} {v : Value} (h : ResRepP w B d v) (hB : ∀ b, B b → B' b) : ResRepP w B' d v := by
  obtain ⟨ℓ, h1, h2, h3, h4⟩ := h
  refine ⟨ℓ, fun j b o hj => ⟨hB _ (h1 j b o hj).1, (h1 j b o hj).2⟩, h2, h3, ?_⟩
  cases d with
  | one d => exact D1Rep.mono h4 hB
  | tup ds =>
    obtain ⟨vs, g1, g2, g3⟩ := h4
    refine ⟨vs, g1, g2, fun j d hj => ?_⟩
    obtain ⟨u, k1, k2⟩ := g3 j d hj
    exact ⟨u, k1, k2.mono hB⟩
theorem retR_ok (hE : EnvOk X E) (h : Sim X w0 S a w loc) (fn : Func) {pr : RP} {x : pr.α} (hx : retR E fn.results.toList S pr = some x) :
    ∃ v, (results fn a.tmps).run X.P w = .ok v w ∧ ResRepP w X.Mine (pr.inj x) v := by
  cases pr with
  | none =>
    simp only [retR] at hx
    split at hx
    · rename_i hr
      refine ⟨.tuple #[], ?_, fun _ => none, (fun _ _ _ e => by cases e), (fun _ _ _ _ _ e => by cases e), fun _ _ => rfl, #[], rfl, rfl, fun j d hj => by simp at hj⟩
      have := results_run (P := X.P) (w := w) fn a.tmps [] (by rw [hr]; simp)
      simpa using this
    · cases hx
  | one p =>
    simp only [retR] at hx
    split at hx
    · rename_i rv hr
      obtain ⟨u, ℓ1, g1, g2, g3, g4⟩ := retD_ok hE h hx
      have := results_run (P := X.P) (w := w) fn a.tmps [u] (by rw [hr, List.mapM_cons]; simp only [Sem.run_bind, g1, Result.andThen_ok, List.mapM_nil, Sem.run_pure])
      refine ⟨u, by simpa using this, fun j => if j = 0 then ℓ1 else none, fun j b o e => ?_, fun j j' b o o' e1 e2 => ?_, fun ho j => ?_, g2⟩
      · have e : (if j = 0 then ℓ1 else none) = some (b, o) := e
        split at e
        · exact g3 b o e
        · cases e
      · have e1 : (if j = 0 then ℓ1 else none) = some (b, o) := e1
        have e2 : (if j' = 0 then ℓ1 else none) = some (b, o') := e2
        split at e1
        · split at e2
          · omega
          · cases e2
        · cases e1
      · show (if j = 0 then ℓ1 else none) = none
        split
        · exact g4 (by
            have : (p.inj x).toPV.owns = false := ho
            rw [D1.toPV_owns, DP.inj_owns] at this; exact this)
        · rfl
    · cases hx
  | tup ps =>
    simp only [retR] at hx
    split at hx
    · rename_i hc
      obtain ⟨us, ℓ, k1, k2, k3, k4, k5, k6, k7⟩ := retL_ok hE h ps fn.results.toList x hx
      have := results_run (P := X.P) (w := w) fn a.tmps us k1
      have hn1 : ¬ us.toArray.size = 1 := by simp [k2]; omega
      rw [dif_neg hn1] at this
      have hsome : ∀ j b o, ℓ j = some (b, o) → ∃ p, ps[j]? = some p ∧ p.isOwn = true := fun j b o e => by
        by_cases hj : j < ps.length
        · refine ⟨ps[j], List.getElem?_eq_getElem hj, ?_⟩
          cases ho : ps[j].isOwn with
          | true => rfl
          | false => rw [k6 j _ (List.getElem?_eq_getElem hj) ho] at e; cases e
        · rw [k7 j (by omega)] at e; cases e
      refine ⟨_, this, ℓ, k5, fun j j' b o o' e1 e2 => ?_, fun ho j => ?_, us.toArray, rfl, by rw [dpInj_length]; simp [k2], fun j d hj => by simpa using k4 j d hj⟩
      · obtain ⟨p, hp1, hp2⟩ := hsome j b o e1
        obtain ⟨q, hq1, hq2⟩ := hsome j' b o' e2
        exact own_once ps hc.2 j j' p q hp1 hq1 hp2 hq2
      · cases hl : ℓ j with
        | none => rfl
        | some bo =>
          exfalso
          obtain ⟨p, hp1, hp2⟩ := hsome j bo.1 bo.2 hl
          have ho : (dpInj ps x).any D1.owns = false := ho
          have hj : j < (dpInj ps x).length := by rw [dpInj_length]; exact (List.getElem?_eq_some_iff.1 hp1).1
          obtain ⟨p', y, hp', he⟩ := dpInj_get ps x j _ (List.getElem?_eq_getElem hj)
          rw [hp1] at hp'; cases hp'
          have := List.any_eq_false.1 ho _ (List.mem_of_getElem? (List.getElem?_eq_getElem hj))
          rw [he, DP.inj_owns, hp2] at this
          exact this rfl
    · cases hx
end
end Go.Px

/- A function's contract, by its evaluation. -/
namespace Go.Px
open Go Go.RowKit

theorem dp_arg (p : DP) (d : D1) (y : p.α) {w : World} {Lo : Nat → Prop} {v : Value} (h : p.proj d = some y) (ha : ArgRepP w Lo d v) : ArgRepP w Lo (p.inj y) v := by
  cases p with
  | sc t =>
    cases d <;> simp only [DP.proj] at h <;> first
      | (cases h; done)
      | (have := T0.dec_ok h
         show v = t.val y
         rw [this]; exact ha)
  | own C =>
    cases d with
    | raw u =>
      simp only [DP.proj] at h
      split at h
      · rename_i hu
        cases h
        have hv : v = .slice none 0 0 := (show v = _ from ha).trans (nilSl_eq hu)
        exact ⟨none, 0, hv, Nat.le_refl _, .inl rfl⟩
      · cases h
    | own C' l =>
      simp only [DP.proj] at h
      split at h
      · rename_i hC; subst hC
        simp only [Option.some.injEq] at h
        subst h; exact ha
      · cases h
    | _ => simp [DP.proj] at h
  | arr C n =>
    cases d with
    | arr C' n' l =>
      simp only [DP.proj] at h
      split at h
      · rename_i hC; subst hC
        split at h
        · rename_i hn; subst hn
          simp only [Option.some.injEq] at h
          subst h; exact ha
        · cases h
      · cases h
    | _ => simp [DP.proj] at h
  | dyn =>
    cases d with
    | raw u =>
      simp only [DP.proj] at h
      show v = y.val
      rw [← Dyn.dec_ok h]; exact ha
    | _ => simp [DP.proj] at h
  | strc ss =>
    cases d with
    | strc s =>
      simp only [DP.proj] at h
      have := spProj_ok _ _ _ h
      show ArgRepP w Lo (.strc (spInj ss y)) v
      rw [this]; exact ha
    | _ => simp [DP.proj] at h
theorem dpProj_ok {w : World} {Lo : Nat → Prop} {vs : Array Value} : (pa : List DP) → (ds : List DV) → (x : dpα pa) → dpProj pa ds = some x → (n : Nat) → (∀ (i : Nat) d, ds[i]? = some d → ∃ d1 v, d = .one d1 ∧ vs[n + i]? = some v ∧ ArgRepP w Lo d1 v) →
    ds.length = pa.length ∧ ∀ (i : Nat) d, (dpInj pa x)[i]? = some d → ∃ v, vs[n + i]? = some v ∧ ArgRepP w Lo d v
  | [], [], x, hx, n, _ => ⟨rfl, fun i d hi => by simp [dpInj] at hi⟩
  | [], d :: ds, x, hx, n, _ => by simp [dpProj] at hx
  | p :: r, [], x, hx, n, _ => by simp [dpProj] at hx
  | p :: r, .tup _ :: ds, x, hx, n, _ => by simp [dpProj] at hx
  | p :: r, .one d :: ds, x, hx, n, hv => by
    simp only [dpProj] at hx
    cases h1 : p.proj d with
    | none => rw [h1] at hx; cases hx
    | some y =>
      rw [h1] at hx
      simp only [Option.bind_some] at hx
      cases h2 : dpProj r ds with
      | none => rw [h2] at hx; cases hx
      | some z =>
        rw [h2] at hx
        simp only [Option.bind_some, Option.some.injEq] at hx
        subst hx
        obtain ⟨g1, g2⟩ := dpProj_ok r ds z h2 (n + 1) (fun i d' hi => by
          have := hv (i + 1) d' (by simpa using hi)
          rwa [show n + (i + 1) = n + 1 + i by omega] at this)
        refine ⟨by simp [g1], fun i d' hi => ?_⟩
        cases i with
        | zero =>
          simp [dpInj] at hi; subst hi
          obtain ⟨d1, v, e1, e2, e3⟩ := hv 0 (.one d) (by simp)
          cases e1
          exact ⟨v, e2, dp_arg p d y h1 e3⟩
        | succ i =>
          have := g2 i d' (by simpa [dpInj] using hi)
          rwa [show n + 1 + i = n + (i + 1) by omega] at this
theorem arg_owns (d : D1) : d.arg.owns = false := by cases d <;> rfl
theorem arg_ref (d : D1) : d.arg.ref = none := by cases d <;> rfl
theorem start_get {pa : List DP} {n : Nat} {x : dpα pa} {i : Nat} {p : PV} (h : (start pa n x)[i]? = some p) : (∃ d, (dpInj pa x)[i]? = some d ∧ p = d.arg) ∨ (pa.length ≤ i ∧ p = .junk) := by
  unfold start at h
  by_cases hi : i < ((dpInj pa x).map D1.arg).length
  · rw [List.getElem?_append_left hi, List.getElem?_map] at h
    cases hd : (dpInj pa x)[i]? with
    | none => rw [hd] at h; cases h
    | some d => rw [hd] at h; exact .inl ⟨d, rfl, by simpa using h.symm⟩
  · rw [List.getElem?_append_right (by omega)] at h
    refine .inr ⟨by simpa [dpInj_length] using hi, ?_⟩
    rw [List.getElem?_replicate] at h
    split at h
    · exact (Option.some.inj h).symm
    · cases h
/-- A FUNCTION: its evaluation is its shallow twin, so that is its contract. -/
theorem fun_ok {P : Program} {G : Nat → Option (List Seg)} {f : FuncId} {fn : Func} {body : Code} {pa : List DP} {pr : RP} (F : dpα pa → Option pr.α) (E : Env pr.α)
    (hf : P.funcs[f]? = some fn) (hb : fn.body = some body) (hE : ∀ X : Cx, X.P = P → X.G = G → EnvOk X E)
    (hlo : ∀ (X : Cx) (w0 : World), X.P = P → X.G = G → LoopsOk X w0 E.Λ (endK E fn.results.toList pr .ret) body)
    (hev : ∀ x, F x = ev E body (start pa (fn.ntmps - pa.length) x) (endK E fn.results.toList pr)) : FunOk P G f (mkFun pa pr F) := by
  intro ρ ds k r hr w vs hg hsz hargs
  have hr : ((dpProj pa ds).bind fun x => (F x).bind fun r => k (pr.inj r)) = some r := hr
  cases hx : dpProj pa ds with
  | none => rw [hx] at hr; cases hr
  | some x =>
    rw [hx] at hr
    simp only [Option.bind_some] at hr
    cases hF : F x with
    | none => rw [hF] at hr; cases hr
    | some y =>
      rw [hF] at hr
      simp only [Option.bind_some] at hr
      obtain ⟨hl, hrep⟩ := dpProj_ok (w := w) (vs := vs) pa ds x hx 0 (fun i d hi => by simpa using hargs i d hi)
      have hvl : vs.size = pa.length := by rw [hsz, hl]
      refine calls_of_wp hf hb ?_
      have hsim : Sim ⟨P, w.heap.size, G, noM⟩ w (start pa (fn.ntmps - pa.length) x) { tmps := vs ++ Array.replicate (fn.ntmps - vs.size) undef, defers := [] } w (fun _ _ => none) := by
        have hgo : ∀ i, (get (start pa (fn.ntmps - pa.length) x) i).owns = false := fun i => by
          cases hs : (start pa (fn.ntmps - pa.length) x)[i]? with
          | none => rw [get_none hs]; rfl
          | some p =>
            rw [get_eq hs]
            rcases start_get hs with ⟨d, _, rfl⟩ | ⟨_, rfl⟩
            · exact arg_owns d
            · rfl
        refine { len := by simp [start, dpInj_length, hvl], defers := rfl, hB := Nat.le_refl _, below := Kept.refl _ _, glob := hg, rep := fun i p hp => ?_, ref := fun i p k hp hk => ?_, sep := fun _ _ _ _ _ _ _ e => (by cases e), dom := fun _ _ _ => rfl, lt := fun _ _ _ _ e => (by cases e), pin := fun b hb => by have := congrFun hb b; simp [noM] at this }
        · rcases start_get hp with ⟨d, hd, rfl⟩ | ⟨hi, rfl⟩
          · obtain ⟨v, hv, ha⟩ := hrep i d hd
            rw [Nat.zero_add] at hv
            refine ⟨v, ?_, ?_⟩
            · show (vs ++ _)[i]? = some v
              rw [Array.getElem?_append_left (Array.getElem?_eq_some_iff.1 hv).1]; exact hv
            · cases d <;> first | exact ha | exact RoRep.mono ha (fun b hb => ⟨hb, id⟩) | exact ⟨segsOk.mono ha.1 (fun b hb => ⟨hb, id⟩), ha.2⟩
          · have hlt : i < (start pa (fn.ntmps - pa.length) x).length := (List.getElem?_eq_some_iff.1 hp).1
            have : i < (vs ++ Array.replicate (fn.ntmps - vs.size) undef).size := by simpa [start, dpInj_length, hvl] using hlt
            exact ⟨_, Array.getElem?_eq_getElem this, trivial⟩
        · rcases start_get hp with ⟨d, hd, rfl⟩ | ⟨hi, rfl⟩
          · rw [arg_ref] at hk; cases hk
          · cases hk
      rw [hev] at hF
      refine wp_mono (ev_sound (hE _ rfl rfl) (endK E fn.results.toList pr .ret) body (hlo _ w rfl rfl) _ _ w _ hsim _ rfl y hF) fun e a' w' hp => ?_
      have key : Post ⟨P, w.heap.size, G, noM⟩ w (fun S => retR E fn.results.toList S pr) y a' w' → a'.defers = [] ∧ ∃ v, (results fn a'.tmps).run P w' = .ok v w' ∧ ∃ d v', k d = some r ∧ Ending.returned v = .returned v' ∧ Below w.heap.size w w' ∧ ResRep w' w.heap.size d v' := fun hp => by
        obtain ⟨S, loc, h1, h2⟩ := hp
        obtain ⟨v, g1, g2⟩ := retR_ok (hE _ rfl rfl) h2 fn h1
        exact ⟨h2.defers, v, g1, _, v, hr, rfl, h2.below.below, ResRepP.mono g2 fun b hb => hb.resolve_right id⟩
      cases e with
      | normal => exact key hp
      | ret => exact key hp
      | exit id => obtain ⟨S, loc, h1, _⟩ := hp; cases h1
      | goto l => exact hp.elim
      | panic c => exact hp.elim
      | outgrown => exact hp.elim
end Go.Px

/- What the printed certificates are made of. -/
namespace Go.Px
open Go Go.RowKit

/-! ### types -/
def T0.desc : T0 → TypeDesc
  | .int k => .int k
  | .bool => .bool
  | .str => .string
def TI.sc (c : T0) (b : Nat) : TI := ⟨c.desc, 1, b, false, some (.sc c), [.one (c.val (c.dflt))]⟩
def TI.sl (e : TypeId) : TI := ⟨.slice e, 1, 24, false, none, [.one (.slice none 0 0)]⟩
def TI.ar (C : Cod) (n : Nat) (e : TypeId) (b : Nat) : TI := ⟨.array n e, n * C.sz, b, true, none, [.arr C n (List.replicate n C.dflt)]⟩
def onesOf (fs : List T0) : List Seg := fs.map fun c => .one (c.val c.dflt)
def TI.st (d : TypeDesc) (fs : List T0) (b : Nat) : TI := ⟨d, fs.length, b, true, some (.strc fs), onesOf fs⟩
def infoOf (P : Program) (t : TypeId) : Option (Option Value × Nat × Nat) := (P.info? t).map fun i => (i.zero, i.size, i.bytes)
theorem infoOf_ok {P : Program} {t : TypeId} {z : Value} {s b : Nat} (h : infoOf P t = some (some z, s, b)) : ∃ ti, P.info? t = some ti ∧ ti.size = s ∧ ti.bytes = b ∧ ti.zero = some z := by
  unfold infoOf at h
  cases hi : P.info? t with
  | none => rw [hi] at h; cases h
  | some ti =>
    rw [hi] at h
    simp only [Option.map_some, Option.some.injEq, Prod.mk.injEq] at h
    exact ⟨ti, rfl, h.2.1, h.2.2, h.1⟩
theorem oneCell_dflt (c : T0) : (c.val c.dflt).cells = #[c.val c.dflt] := by cases c <;> rfl
theorem tok_sc {P : Program} {t : TypeId} (c : T0) (b : Nat) (h1 : P.underlying t = some c.desc) (h2 : infoOf P t = some (some (c.val c.dflt), 1, b)) : TOk P t (.sc c b) := by
  obtain ⟨ti, g1, g2, g3, g4⟩ := infoOf_ok h2
  refine ⟨h1, ⟨ti, g1, g2, g3, _, g4, ?_⟩, ?_, ?_, rfl, ?_, ?_, fun hh => by cases hh⟩
  · rw [oneCell_dflt]; rfl
  · cases c <;> rfl
  · intro _ _ s hs; simp [TI.sc] at hs; subst hs; exact oneCell_dflt c
  · intro c' hc; simp [TI.sc] at hc; subst hc; exact ⟨rfl, rfl, by cases c <;> rfl⟩
  · intro fs hf; simp [TI.sc] at hf
theorem tok_sl {P : Program} {t : TypeId} (e : TypeId) (h1 : P.underlying t = some (.slice e)) (h2 : infoOf P t = some (some (.slice none 0 0), 1, 24)) : TOk P t (.sl e) := by
  obtain ⟨ti, g1, g2, g3, g4⟩ := infoOf_ok h2
  refine ⟨h1, ⟨ti, g1, g2, g3, _, g4, rfl⟩, rfl, ?_, rfl, ?_, ?_, fun hh => by cases hh⟩
  · intro _ _ s hs; simp [TI.sl] at hs; subst hs; rfl
  · intro c' hc; simp [TI.sl] at hc
  · intro fs hf; simp [TI.sl] at hf
theorem recVals_len : (fs : List T0) → (x : recα fs) → (recVals fs x).length = fs.length
  | [], _ => rfl
  | a :: r, x => by simp [recVals, recVals_len r x.2]
theorem tok_ar {P : Program} {t : TypeId} {C : Cod} {n : Nat} {e : TypeId} {b : Nat} (h1 : P.underlying t = some (.array n e)) (h2 : infoOf P t = some (some (.agg (flat C (List.replicate n C.dflt)).toArray), n * C.sz, b)) (h4 : P.eqGuardType P.depth t = false) (h5 : P.stoodInHeld t = false) : TOk P t (.ar C n e b) := by
  obtain ⟨ti, g1, g2, g3, g4⟩ := infoOf_ok h2
  refine ⟨h1, ⟨ti, g1, g2, g3, _, g4, ?_⟩, rfl, ?_, ?_, ?_, ?_, fun _ => ⟨h4, h5⟩⟩
  · simp [TI.ar, segCells, Seg.cells, Value.cells]
  · intro _ _ s hs; simp [TI.ar] at hs; subst hs; simp [segOk]
  · simp [TI.ar, segCells, Seg.cells, flat_length]
  · intro c' hc; simp [TI.ar] at hc
  · intro fs hf; simp [TI.ar] at hf
theorem tok_st {P : Program} {t : TypeId} {d : TypeDesc} {fs : List T0} {b : Nat} (h1 : P.underlying t = some d) (h2 : infoOf P t = some (some (.agg (fs.map fun c => c.val c.dflt).toArray), fs.length, b)) (h3 : ∃ a, d = .struct a) (h4 : P.eqGuardType P.depth t = false) (h5 : P.stoodInHeld t = false) : TOk P t (.st d fs b) := by
  obtain ⟨ti, g1, g2, g3, g4⟩ := infoOf_ok h2
  have hc : ∀ l : List T0, segCells (onesOf l) = l.map fun c => c.val c.dflt := fun l => by
    induction l with
    | nil => rfl
    | cons a r ih => simp only [onesOf, segCells, List.map_cons, List.flatMap_cons, Seg.cells] at ih ⊢; rw [ih]; rfl
  refine ⟨h1, ⟨ti, g1, g2, g3, _, g4, ?_⟩, ?_, ?_, ?_, ?_, ?_, fun _ => ⟨h4, h5⟩⟩
  · simp only [TI.st]; rw [hc]; rfl
  · obtain ⟨a, rfl⟩ := h3; rfl
  · intro _ _ s hs; simp only [TI.st, onesOf, List.mem_map] at hs; obtain ⟨c, _, rfl⟩ := hs; exact oneCell_dflt c
  · simp only [TI.st]; rw [hc]; simp
  · intro c' hc; simp [TI.st] at hc
  · intro fs' hf; simp [TI.st] at hf; subst hf; exact ⟨rfl, rfl⟩
/-- a struct whose fields are numbers, texts and arrays of them -/
def spZero : List SP → List Seg
  | [] => []
  | .one c :: r => .one (c.val c.dflt) :: spZero r
  | .arr C n :: r => .arr C n (List.replicate n C.dflt) :: spZero r
  | .ro C :: r => .ro none 0 C [] :: spZero r
theorem spZero_ok : (l : List SP) → segsPl (spZero l)
  | [] => fun _ _ s hs => by cases hs
  | .one c :: r => fun _ _ s hs => by
    rcases List.mem_cons.1 hs with rfl | hs
    · exact oneCell_dflt c
    · exact spZero_ok r _ _ s hs
  | .arr C n :: r => fun _ _ s hs => by
    rcases List.mem_cons.1 hs with rfl | hs
    · exact List.length_replicate
    · exact spZero_ok r _ _ s hs
  | .ro C :: r => fun _ _ s hs => by
    rcases List.mem_cons.1 hs with rfl | hs
    · exact ⟨none, 0, rfl, Nat.le_refl _, .inl rfl⟩
    · exact spZero_ok r _ _ s hs
def TI.sx (d : TypeDesc) (l : List SP) (b : Nat) : TI := ⟨d, (segCells (spZero l)).length, b, true, none, spZero l⟩
theorem tok_sx {P : Program} {t : TypeId} {d : TypeDesc} {l : List SP} {b : Nat} (h1 : P.underlying t = some d) (h2 : infoOf P t = some (some (.agg (segCells (spZero l)).toArray), (segCells (spZero l)).length, b)) (h3 : ∃ a, d = .struct a) (h4 : P.eqGuardType P.depth t = false) (h5 : P.stoodInHeld t = false) : TOk P t (.sx d l b) := by
  obtain ⟨ti, g1, g2, g3, g4⟩ := infoOf_ok h2
  refine ⟨h1, ⟨ti, g1, g2, g3, _, g4, rfl⟩, ?_, spZero_ok l, rfl, ?_, ?_, fun _ => ⟨h4, h5⟩⟩
  · obtain ⟨a, rfl⟩ := h3; rfl
  · intro c' hc; simp [TI.sx] at hc
  · intro fs' hf; simp [TI.sx] at hf
/-! ### tables -/
def assoc {α : Type _} : List (Nat × α) → Nat → Option α
  | [], _ => none
  | (k, v) :: r, n => if n = k then some v else assoc r n
def AllP {α : Type _} (p : α → Prop) : List α → Prop
  | [] => True
  | a :: r => p a ∧ AllP p r
theorem assoc_all {α : Type _} {p : Nat → α → Prop} : (l : List (Nat × α)) → AllP (fun x => p x.1 x.2) l → ∀ n v, assoc l n = some v → p n v
  | [], _, n, v, h => by cases h
  | (k, u) :: r, ha, n, v, h => by
    unfold assoc at h
    split at h
    · rename_i hn; subst hn; cases h; exact ha.1
    · exact assoc_all r ha.2 n v h
theorem allP_mem {α : Type _} {p : α → Prop} : {l : List α} → AllP p l → ∀ x ∈ l, p x
  | [], _, x, h => by cases h
  | a :: r, ha, x, h => by
    rcases List.mem_cons.1 h with rfl | h
    · exact ha.1
    · exact allP_mem ha.2 x h
/-- a contract that may be used: the callee is there and has a body -/
def FunUse (P : Program) (G : Nat → Option (List Seg)) (f : FuncId) (F : Fun) : Prop := FunOk P G f F ∧ ∃ fn, P.funcs[f]? = some fn ∧ fn.body.isNone = false ∧ (fn.name == "runtime.NumGoroutine") = false
def FunRUse (P : Program) (G : Nat → Option (List Seg)) (f : FuncId) (F : FunR) : Prop := FunROk P G f F ∧ Callable P f
def FunAUse (P : Program) (G : Nat → Option (List Seg)) (f : FuncId) (F : FunA) : Prop := FunAOk P G f F ∧ Callable P f
def mkEnv (ρ : Type) (T : List (Nat × TI)) (Γ : List (Nat × Fun)) (R : List (Nat × FunR)) (A : List (Nat × FunA)) (G : Nat → Option (List Seg)) (Λ : List (Nat × LoopC ρ)) : Env ρ := { T := assoc T, Γ := assoc Γ, R := assoc R, A := assoc A, G := G, Λ := assoc Λ }
theorem envOk_of {P : Program} {ρ : Type} {T : List (Nat × TI)} {Γ : List (Nat × Fun)} {R : List (Nat × FunR)} {A : List (Nat × FunA)} {G : Nat → Option (List Seg)} {Λ : List (Nat × LoopC ρ)} {X : Cx} (hP : X.P = P) (hG : X.G = G) (hm : P.follows .mixedOrders = true) (hT : AllP (fun x => TOk P x.1 x.2) T) (hΓ : AllP (fun x => FunUse P G x.1 x.2) Γ) (hR : AllP (fun x => FunRUse P G x.1 x.2) R) (hA : AllP (fun x => FunAUse P G x.1 x.2) A) :
    EnvOk X (mkEnv ρ T Γ R A G Λ) := by
  subst hP; subst hG
  exact ⟨fun t i h => assoc_all (p := TOk X.P) T hT t i h, rfl, hm, fun f F h => assoc_all (p := FunUse X.P X.G) Γ hΓ f F h, fun f F h => assoc_all (p := FunRUse X.P X.G) R hR f F h, fun f F h => assoc_all (p := FunAUse X.P X.G) A hA f F h⟩
/-! ### the loops of a code -/
def blkOf : Nat → Code → Option Code
  | id, .seq x y => (blkOf id x).or (blkOf id y)
  | id, .cond _ x y => (blkOf id x).or (blkOf id y)
  | id, .block j c => if j = id then some c else blkOf id c
  | id, .loop c => blkOf id c
  | _, _ => none
def innerOf (id : Nat) (c : Code) : Code := match blkOf id c with
  | some (.loop c) => c
  | _ => .skip
def bodyOf (f : Func) : Code := f.body.getD .skip
def lbs (is : Nat → Bool) : Code → List (Nat × Code)
  | .seq x y => lbs is x ++ lbs is y
  | .cond _ x y => lbs is x ++ lbs is y
  | .block id c => if is id then [(id, c)] else lbs is c
  | _ => []
section
variable {X : Cx} {ρ : Type} {w0 : World}
theorem loopsOk_lbs {Λ : Nat → Option (LoopC ρ)} {kr : St → Option ρ} : (c : Code) → (∀ p ∈ lbs (fun i => (Λ i).isSome) c, ∃ lc, Λ p.1 = some lc ∧ LoopOk X w0 lc p.2 p.1 kr) → LoopsOk X w0 Λ kr c
  | .seq x y, h => ⟨loopsOk_lbs x fun p hp => h p (by simp [lbs, hp]), loopsOk_lbs y fun p hp => h p (by simp [lbs, hp])⟩
  | .cond _ x y, h => ⟨loopsOk_lbs x fun p hp => h p (by simp [lbs, hp]), loopsOk_lbs y fun p hp => h p (by simp [lbs, hp])⟩
  | .block id c, h => by
    unfold LoopsOk
    cases hl : Λ id with
    | none =>
      simp only []
      exact loopsOk_lbs c fun p hp => h p (by simp [lbs, hl, hp])
    | some lc =>
      simp only []
      obtain ⟨lc', g1, g2⟩ := h (id, c) (by simp [lbs, hl])
      rw [hl] at g1; cases g1; exact g2
  | .skip, _ => trivial
  | .region .., _ => trivial
  | .loop _, _ => trivial
  | .exit _, _ => trivial
  | .ret, _ => trivial
  | .scope .., _ => trivial
  | .label .., _ => trivial
  | .goto .., _ => trivial
  | .refuse .., _ => trivial
  | .rangeFunc .., _ => trivial
theorem loopsOk_of {Λ : Nat → Option (LoopC ρ)} {kr : St → Option ρ} {c : Code} (L : List (Nat × Code)) (h : lbs (fun i => (Λ i).isSome) c = L) (ha : AllP (fun p => ∃ lc, Λ p.1 = some lc ∧ LoopOk X w0 lc p.2 p.1 kr) L) : LoopsOk X w0 Λ kr c :=
  loopsOk_lbs c fun p hp => allP_mem ha p (by rw [← h]; exact hp)
end
end Go.Px

/- A law's row, out of its function's contract. -/
namespace Go.Px
open Go Go.RowKit Go.ChangeShapes Go.WideShapes

theorem T0.dec_val (t : T0) (x : t.α) : t.dec (t.val x) = some x := by
  cases t <;> simp [T0.dec, T0.val]
theorem SP.proj_inj (p : SP) (x : p.α) : p.proj (p.inj x) = some x := by
  cases p with
  | one t => exact t.dec_val x
  | arr C n => simp [SP.proj, SP.inj]
  | ro C => simp [SP.proj, SP.inj]
theorem spProj_inj : (ps : List SP) → (x : spα ps) → spProj ps (spInj ps x) = some x
  | [], _ => rfl
  | p :: r, x => by simp [spProj, spInj, p.proj_inj, spProj_inj r x.2]
theorem DP.proj_inj (p : DP) (x : p.α) : p.proj (p.inj x) = some x := by
  cases p with
  | dyn => exact Dyn.dec_val x
  | sc t => exact t.dec_val x
  | own C => simp [DP.proj, DP.inj]
  | arr C n => simp [DP.proj, DP.inj]
  | strc ss => exact spProj_inj ss x
theorem dpProj_inj : (ps : List DP) → (x : dpα ps) → dpProj ps ((dpInj ps x).map .one) = some x
  | [], _ => rfl
  | p :: r, x => by simp [dpProj, dpInj, p.proj_inj, dpProj_inj r x.2]
/-- the arguments are what they are told to be -/
def argsOk (w : World) : (pa : List DP) → dpα pa → List Value → Prop
  | [], _, [] => True
  | p :: r, x, v :: vs => ArgRep w (p.inj x.1) v ∧ argsOk w r x.2 vs
  | _, _, _ => False
theorem argsOk_get {w : World} : (pa : List DP) → (x : dpα pa) → (vs : List Value) → argsOk w pa x vs → vs.length = pa.length ∧ ∀ (i : Nat) d, (dpInj pa x)[i]? = some d → ∃ v, vs[i]? = some v ∧ ArgRep w d v
  | [], _, [], _ => ⟨rfl, fun i d h => by simp [dpInj] at h⟩
  | [], _, _ :: _, h => h.elim
  | _ :: _, _, [], h => h.elim
  | p :: r, x, v :: vs, h => by
    obtain ⟨g1, g2⟩ := argsOk_get r x.2 vs h.2
    refine ⟨by simp [g1], fun i d hd => ?_⟩
    cases i with
    | zero => simp [dpInj] at hd; subst hd; exact ⟨v, rfl, h.1⟩
    | succ i => simpa using g2 i d (by simpa [dpInj] using hd)
theorem law_calls {P : Program} {G : Nat → Option (List Seg)} {n : FuncId} {pa : List DP} {F : dpα pa → Option Bool} (hf : FunOk P G n (mkFun pa (.one (.sc .bool)) F)) {w : World} (hG : GOk ⟨P, w.heap.size, G, noM⟩ w) (x : dpα pa) (hx : F x = some true)
    (vs : List Value) (ha : argsOk w pa x vs) : Calls P n vs.toArray w fun e w' => e = .returned (.bool true) ∧ Below w.heap.size w w' := by
  obtain ⟨h1, h2⟩ := argsOk_get pa x vs ha
  let k : DV → Option Bool := fun d => match d with
    | .one (.raw (.bool b)) => if b then some b else none
    | _ => none
  have hrun : (mkFun pa (.one (.sc .bool)) F).run Bool ((dpInj pa x).map .one) k = some true := by
    show ((dpProj pa ((dpInj pa x).map .one)).bind fun x => (F x).bind fun r => k ((RP.one (.sc .bool)).inj r)) = some true
    rw [dpProj_inj]
    simp only [Option.bind_some, hx]
    rfl
  refine (hf Bool _ k true hrun w vs.toArray hG (by simp [h1, dpInj_length]) (fun i d hd => ?_)).mono ?_
  · rw [List.getElem?_map] at hd
    cases hi : (dpInj pa x)[i]? with
    | none => rw [hi] at hd; cases hd
    | some d1 =>
      rw [hi] at hd
      simp only [Option.map_some, Option.some.injEq] at hd
      obtain ⟨v, g1, g2⟩ := h2 i d1 hi
      exact ⟨d1, v, hd.symm, by simpa using g1, g2⟩
  · rintro e w' ⟨d, v, g1, g2, g3, g4⟩
    refine ⟨?_, g3⟩
    have hd : d = .one (.raw (.bool true)) := by
      cases d with
      | tup ds => cases g1
      | one d =>
        cases d with
        | raw u =>
          cases u with
          | bool b => cases b with
            | true => rfl
            | false => cases g1
          | _ => cases g1
        | _ => cases g1
    subst hd
    obtain ⟨ℓ, _, _, _, hd⟩ := g4
    have : v = .bool true := hd
    rw [g2, this]
/-- a slice that came in, by its cells -/
theorem ro_of_cells {w : World} {a : Addr} {t : T0} {l : List t.α} {n cap : Nat} (hl : l.length = n) (hc : n ≤ cap) (h : ∀ i, i < n → w.cell? (a.add i) = some (t.val (l.getD i t.dflt))) :
    RoRep w (· < w.heap.size) (.sc t) l (.slice (some a) n cap) := by
  subst hl
  refine ⟨some a, cap, rfl, hc, ?_⟩
  cases hn : l with
  | nil => exact .inl rfl
  | cons y r =>
    right
    have h0 := h 0 (by simp [hn])
    obtain ⟨b, o, sp⟩ := a
    have hz : (⟨b, o, sp⟩ : Addr).add 0 = ⟨b, o, sp⟩ := by simp [Addr.add]
    rw [hz] at h0
    unfold World.cell? at h0
    split at h0
    · rename_i cur e fr hb
      simp only at hb
      split at h0
      · cases h0
      · rename_i hsp
        have hsp' : sp = none := by cases sp <;> simp_all
        subst hsp'
        have hlt : b < w.heap.size := (Array.getElem?_eq_some_iff.1 hb).1
        refine ⟨b, o, cur, e, fr, rfl, hlt, hb, ?_⟩
        intro j x hj
        rw [flat_sc, List.getElem?_map] at hj
        rw [← hn] at hj
        cases hx : l[j]? with
        | none => rw [hx] at hj; cases hj
        | some z =>
          rw [hx] at hj
          simp only [Option.map_some, Option.some.injEq] at hj
          have hjl := (List.getElem?_eq_some_iff.1 hx).1
          have hcell := h j hjl
          rw [add_lit, cell_of w hb] at hcell
          rw [hcell]
          rw [← hj, List.getD_eq_getElem?_getD, hx]
          rfl
    · cases h0
theorem ro_nil {w : World} {C : Cod} : RoRep w (· < w.heap.size) C [] (.slice none 0 0) := ⟨none, 0, rfl, Nat.le_refl _, .inl rfl⟩
/-- a row's slice of whole numbers: its numbers, and how many there may be -/
theorem arg_ints {H : Type} {enc : TypeId × Value → H} {P : Program} {W : World} {base : Nat} {held : Bool} {t e : TypeId} {k : IntKind} {a : Option Addr} {len cap : Nat} {d : DataW H} {ps : List MemPlace} {ts : List TypeId} {ds : List (DataW H)} {j : Nat}
    (hsz : (DataW.weightsEach P ts ds).all (· ≤ reachBytes) = true) (ht : ts[j]? = some t) (hd : ds[j]? = some d) (hu : P.underlying t = some (.slice e)) (he : P.underlying e = some (.int k)) (hc : P.cellsOf e = 1) {B : Nat} (hB : P.bytesOf e = B)
    (h : DataW.Trod enc P W base (fun _ => true) held t (.slice a len cap) d ps) :
    ∃ zs : List Int, RoRep W (· < W.heap.size) (.sc (.int k)) zs (.slice a len cap) ∧ zs.length * B ≤ 140737488351232 ∧ (∀ n ∈ zs, (Lit.int k n).wf = true) ∧ (zs = [] ∨ ∃ sp, d = .slice (lits k zs) sp) := by
  obtain ⟨fuel, hf⟩ := h
  rcases open_ints hu he hc hf with ⟨hcs, _⟩ | ⟨x, l, c, zs, hcs, _, hl, _, hz, hx, hcell, hwf⟩
  · simp [Value.cells] at hcs
    obtain ⟨rfl, rfl, rfl⟩ := hcs
    exact ⟨[], ro_nil, by simp, (fun n hn => by cases hn), .inl rfl⟩
  · simp [Value.cells] at hcs
    obtain ⟨rfl, rfl, rfl⟩ := hcs
    obtain ⟨hx, _⟩ := Prod.mk.inj hx
    subst hx
    have z := sized_slice hsz ht hd hu
    rw [hB] at z
    have hz' : zs.length = cap := by simpa using hz
    have h1 : (lits (H := H) k (zs.take len)).length + (lits (H := H) k (zs.drop len)).length = zs.length := by
      simp [lits]
      omega
    rw [h1] at z
    refine ⟨zs.take len, ro_of_cells (t := .int k) (by simp; omega) hl (fun i hi => ?_), ?_, (fun n hn => hwf n (List.mem_of_mem_take hn)), .inr ⟨_, rfl⟩⟩
    · rw [hcell i (by omega)]
      show _ = some (Value.int k ((zs.take len).getD i (0 : Int)))
      rw [List.getD_eq_getElem?_getD, List.getD_eq_getElem?_getD, List.getElem?_take_of_lt hi]
    · simp only [List.length_take]
      exact Nat.le_trans (Nat.mul_le_mul_right _ (Nat.min_le_right _ _)) z
/-- a row's slice of texts -/
theorem arg_strs {H : Type} {enc : TypeId × Value → H} {P : Program} {W : World} {base : Nat} {held : Bool} {t e : TypeId} {a : Option Addr} {len cap : Nat} {d : DataW H} {ps : List MemPlace} {ts : List TypeId} {ds : List (DataW H)} {j : Nat}
    (hsz : (DataW.weightsEach P ts ds).all (· ≤ reachBytes) = true) (ht : ts[j]? = some t) (hd : ds[j]? = some d) (hu : P.underlying t = some (.slice e)) (he : P.underlying e = some .string) (hc : P.cellsOf e = 1) {B : Nat} (hB : P.bytesOf e = B)
    (h : DataW.Trod enc P W base (fun _ => true) held t (.slice a len cap) d ps) :
    ∃ zs : List ByteArray, RoRep W (· < W.heap.size) (.sc .str) zs (.slice a len cap) ∧ zs.length * B ≤ 140737488351232 ∧ (zs = [] ∨ ∃ sp, d = .slice (strs zs) sp) := by
  obtain ⟨fuel, hf⟩ := h
  rcases open_strings hu he hc hf with ⟨hcs, _⟩ | ⟨x, l, c, zs, hcs, _, hl, _, hz, hx, hcell, _⟩
  · simp [Value.cells] at hcs
    obtain ⟨rfl, rfl, rfl⟩ := hcs
    exact ⟨[], ro_nil, by simp, .inl rfl⟩
  · simp [Value.cells] at hcs
    obtain ⟨rfl, rfl, rfl⟩ := hcs
    obtain ⟨hx, _⟩ := Prod.mk.inj hx
    subst hx
    have z := sized_slice hsz ht hd hu
    rw [hB] at z
    have hz' : zs.length = cap := by simpa using hz
    have h1 : (strs (H := H) (zs.take len)).length + (strs (H := H) (zs.drop len)).length = zs.length := by
      simp [strs]
      omega
    rw [h1] at z
    refine ⟨zs.take len, ro_of_cells (t := .str) (by simp; omega) hl (fun i hi => ?_), ?_, .inr ⟨_, rfl⟩⟩
    · rw [hcell i (by omega)]
      show _ = some (Value.string ((zs.take len).getD i ByteArray.empty))
      rw [List.getD_eq_getElem?_getD, List.getD_eq_getElem?_getD, List.getElem?_take_of_lt hi]
    · simp only [List.length_take]
      exact Nat.le_trans (Nat.mul_le_mul_right _ (Nat.min_le_right _ _)) z
end Go.Px

/- Package variables, and functions of the library by their contracts. -/
namespace Go.Px
open Go Go.RowKit

/-- a function by a contract that is told elsewhere -/
theorem con_ok {P : Program} {G : Nat → Option (List Seg)} {f : FuncId} {pa : List DP} {pr : RP} (C : dpα pa → Option pr.α)
    (hc : ∀ (x : dpα pa) (y : pr.α), C x = some y → ∀ (w : World) (vs : Array Value), GOk ⟨P, w.heap.size, G, noM⟩ w → vs.size = pa.length → (∀ (i : Nat) d, (dpInj pa x)[i]? = some d → ∃ v, vs[i]? = some v ∧ ArgRep w d v) →
      Calls P f vs w fun e w' => ∃ v, e = .returned v ∧ Below w.heap.size w w' ∧ ResRep w' w.heap.size (pr.inj y) v) : FunOk P G f (mkFun pa pr C) := by
  intro ρ ds k r hr w vs hg hsz hargs
  have hr : ((dpProj pa ds).bind fun x => (C x).bind fun r => k (pr.inj r)) = some r := hr
  cases hx : dpProj pa ds with
  | none => rw [hx] at hr; cases hr
  | some x =>
    rw [hx] at hr
    simp only [Option.bind_some] at hr
    cases hF : C x with
    | none => rw [hF] at hr; cases hr
    | some y =>
      rw [hF] at hr
      simp only [Option.bind_some] at hr
      obtain ⟨hl, hrep⟩ := dpProj_ok (w := w) (vs := vs) pa ds x hx 0 (fun i d hi => by simpa using hargs i d hi)
      refine (hc x y hF w vs hg (by rw [hsz, hl]) (fun i d hi => by simpa using hrep i d hi)).mono ?_
      rintro e w' ⟨v, h1, h2, h3⟩
      exact ⟨_, v, hr, h1, h2, h3⟩

/-! ### unicode/utf8 -/
def gvFirst : List Int := Lib.firstTab
def gvAccept : List (recα [.int .u8, .int .u8]) := (List.range 16).map fun i => ((Lib.accLo i : Int), (Lib.accHi i : Int), ())
def globU8 (g3 g4 : Nat) : Nat → Option (List Seg) := fun g => if g = g3 then some [.arr (.sc (.int .u8)) 256 gvFirst] else if g = g4 then some [.arr (.strc [.int .u8, .int .u8]) 16 gvAccept] else none
theorem heap_of_cell {w : World} {b : Nat} {v : Value} (h : w.cell? ⟨b, 0, none⟩ = some v) : ∃ cur e fr, w.heap[b]? = some (.cells cur e fr) := by
  unfold World.cell? at h
  split at h
  · rename_i cur e fr hb; exact ⟨cur, e, fr, hb⟩
  · cases h
theorem has_tab {w : World} {b n : Nat} {k : IntKind} {l : List Int} {cur : Array Value} {e : TypeId} {fr : Nat × Nat} (hb : w.heap[b]? = some (.cells cur e fr)) (hl : l.length = n) (h : ∀ c, c < n → w.cell? ⟨b, c, none⟩ = some (.int k (l.getD c 0))) : Has cur 0 (segCells [.arr (.sc (.int k)) n l]) := fun j x hj => by
  have e1 : segCells [.arr (.sc (.int k)) n l] = flat (.sc (.int k)) l := by simp [segCells, Seg.cells]
  rw [e1, flat_sc, List.getElem?_map] at hj
  cases hx : l[j]? with
  | none => rw [hx] at hj; cases hj
  | some z =>
    rw [hx] at hj
    simp only [Option.map_some, Option.some.injEq] at hj
    have hjl := (List.getElem?_eq_some_iff.1 hx).1
    have := h j (by omega)
    rw [cell_of w hb, List.getD_eq_getElem?_getD, hx] at this
    rw [Nat.zero_add, this, ← hj]; rfl
theorem globU8_ok {P : Program} {w : World} {g3 g4 : Nat} (hT : Lib.Utf8Tabs g3 g4 w) : GOk ⟨P, w.heap.size, globU8 g3 g4, noM⟩ w := by
  intro g ss hg
  simp only [globU8] at hg
  split at hg
  · rename_i e; subst e; cases hg
    obtain ⟨cur, e, fr, hb⟩ := heap_of_cell (hT.1 0 (by omega))
    refine ⟨⟨(Array.getElem?_eq_some_iff.1 hb).1, id⟩, fun s hs => ?_, cur, e, fr, hb, has_tab hb (by simp [gvFirst, Lib.firstTab]) fun c hc => ?_⟩
    · simp at hs; subst hs; simp [segOk, gvFirst, Lib.firstTab]
    · rw [hT.1 c hc]
      simp [gvFirst, Lib.firstTab, List.getD_eq_getElem?_getD, hc]
  · split at hg
    · rename_i e; subst e; cases hg
      obtain ⟨cur, e, fr, hb⟩ := heap_of_cell (w := w) (b := g) (hT.2 0 (by omega)).1
      have hlen : gvAccept.length = 16 := by simp [gvAccept]
      refine ⟨⟨(Array.getElem?_eq_some_iff.1 hb).1, id⟩, fun s hs => ?_, cur, e, fr, hb, fun j x hj => ?_⟩
      · simp at hs; subst hs; exact hlen
      · have e1 : segCells [.arr (.strc [.int .u8, .int .u8]) 16 gvAccept] = flat (.strc [.int .u8, .int .u8]) gvAccept := by simp [segCells, Seg.cells]
        rw [e1] at hj
        have hjl := (List.getElem?_eq_some_iff.1 hj).1
        rw [flat_length, hlen] at hjl
        have hjl : j < 32 := hjl
        have hfa := flat_at (.strc [.int .u8, .int .u8]) gvAccept (j / 2) (j % 2) (by omega) (show j % 2 < 2 by omega)
        have ej : j / 2 * (Cod.strc [.int .u8, .int .u8]).sz + j % 2 = j := by
          show j / 2 * 2 + j % 2 = j
          omega
        rw [ej, hj] at hfa
        have hg : gvAccept.getD (j / 2) (Cod.strc [.int .u8, .int .u8]).dflt = ((Lib.accLo (j / 2) : Int), (Lib.accHi (j / 2) : Int), ()) := by
          have : j / 2 < 16 := by omega
          simp [gvAccept, List.getD_eq_getElem?_getD, this]
        rw [hg] at hfa
        have hc := hT.2 (j / 2) (by omega)
        rw [Option.some.inj hfa, Nat.zero_add]
        rcases Nat.mod_two_eq_zero_or_one j with h0 | h0
        · have := hc.1
          rw [cell_of w hb, show 2 * (j / 2) = j by omega] at this
          rw [this, h0]; rfl
        · have := hc.2
          rw [cell_of w hb, show 2 * (j / 2) + 1 = j by omega] at this
          rw [this, h0]; rfl
    · cases hg
/-- back to the cells -/
theorem globU8_tabs {P : Program} {w : World} {G : Nat → Option (List Seg)} {g3 g4 : Nat} (hG3 : G g3 = some [.arr (.sc (.int .u8)) 256 gvFirst]) (hG4 : G g4 = some [.arr (.strc [.int .u8, .int .u8]) 16 gvAccept]) (hG : GOk ⟨P, w.heap.size, G, noM⟩ w) : Lib.Utf8Tabs g3 g4 w := by
  obtain ⟨_, o3, c3, _, _, b3, h3⟩ := hG g3 [.arr (.sc (.int .u8)) 256 gvFirst] hG3
  obtain ⟨_, o4, c4, _, _, b4, h4⟩ := hG g4 [.arr (.strc [.int .u8, .int .u8]) 16 gvAccept] hG4
  have hlen : gvAccept.length = 16 := by simp [gvAccept]
  have e1 : segCells [.arr (.strc [.int .u8, .int .u8]) 16 gvAccept] = flat (.strc [.int .u8, .int .u8]) gvAccept := by simp [segCells, Seg.cells]
  have e2 : segCells [.arr (.sc (.int .u8)) 256 gvFirst] = flat (.sc (.int .u8)) gvFirst := by simp [segCells, Seg.cells]
  refine ⟨fun c hc => ?_, fun i hi => ?_⟩
  · rw [cell_of w b3]
    have := h3 c (.int .u8 (Lib.firstT c)) (by rw [e2, flat_sc]; simp [gvFirst, Lib.firstTab, hc]; rfl)
    simpa using this
  · have hg : gvAccept.getD i (Cod.strc [.int .u8, .int .u8]).dflt = ((Lib.accLo i : Int), (Lib.accHi i : Int), ()) := by
      simp [gvAccept, List.getD_eq_getElem?_getD, hi]
    have a0 := flat_at (.strc [.int .u8, .int .u8]) gvAccept i 0 (by omega) (show 0 < 2 by omega)
    have a1 := flat_at (.strc [.int .u8, .int .u8]) gvAccept i 1 (by omega) (show 1 < 2 by omega)
    rw [hg] at a0 a1
    rw [← e1] at a0 a1
    rw [cell_of w b4, cell_of w b4]
    have z0 := h4 _ _ a0
    have z1 := h4 _ _ a1
    rw [show 0 + (i * (Cod.strc [.int .u8, .int .u8]).sz + 0) = 2 * i from (by show 0 + (i * 2 + 0) = 2 * i; omega)] at z0
    rw [show 0 + (i * (Cod.strc [.int .u8, .int .u8]).sz + 1) = 2 * i + 1 from (by show 0 + (i * 2 + 1) = 2 * i + 1; omega)] at z1
    exact ⟨z0, z1⟩
/-- utf8.DecodeRuneInString: what it hands back -/
def conDecode (x : dpα [.sc .str]) : Option (RP.α (.tup [.sc (.int .i32), .sc (.int .i64)])) := some (((Lib.decodeGo x.1).1 : Int), ((Lib.decodeGo x.1).2 : Int), ())
theorem decode_ok {P : Program} {G : Nat → Option (List Seg)} {f g3 g4 : Nat} (hG3 : G g3 = some [.arr (.sc (.int .u8)) 256 gvFirst]) (hG4 : G g4 = some [.arr (.strc [.int .u8, .int .u8]) 16 gvAccept])
    (hc : ∀ (s : ByteArray) (w : World), Lib.Utf8Tabs g3 g4 w → Calls P f #[.string s] w fun e w' => e = .returned (.tuple #[.int .i32 (Lib.decodeGo s).1, .int .i64 (Lib.decodeGo s).2]) ∧ Below w.heap.size w w') :
    FunOk P G f (mkFun [.sc .str] (.tup [.sc (.int .i32), .sc (.int .i64)]) conDecode) := by
  refine con_ok conDecode fun x y hy w vs hG hsz ha => ?_
  obtain ⟨v, hv, hr⟩ := ha 0 (.raw (.string x.1)) rfl
  have hr : v = .string x.1 := hr
  subst hr
  have hvs : vs = #[.string x.1] := by
    apply Array.ext_getElem?
    intro i
    cases i with
    | zero => rw [hv]; rfl
    | succ i => rw [Array.getElem?_eq_none (by rw [hsz]; simp), Array.getElem?_eq_none (by simp)]
  subst hvs
  cases hy
  refine (hc x.1 w (globU8_tabs hG3 hG4 hG)).mono ?_
  rintro e w' ⟨rfl, hb⟩
  refine ⟨_, rfl, hb, fun _ => none, (fun _ _ _ h => by cases h), (fun _ _ _ _ _ h => by cases h), (fun _ _ => rfl), #[.int .i32 (Lib.decodeGo x.1).1, .int .i64 (Lib.decodeGo x.1).2], rfl, rfl, fun j d hd => ?_⟩
  match j with
  | 0 => cases hd; exact ⟨_, rfl, rfl⟩
  | 1 => cases hd; exact ⟨_, rfl, rfl⟩
  | j + 2 => cases hd
end Go.Px

/- Tables of the package variables, as lists. -/
namespace Go.Px
open Go Go.RowKit

def GEnt (w : World) (x : Nat × List Seg) : Prop := x.1 < w.heap.size ∧ segsPl x.2 ∧ ∃ cur e fr, w.heap[x.1]? = some (.cells cur e fr) ∧ Has cur 0 (segCells x.2)
theorem gok_of {P : Program} {w : World} {l : List (Nat × List Seg)} (h : AllP (GEnt w) l) : GOk ⟨P, w.heap.size, assoc l, noM⟩ w := fun g ss hg => by
  have := assoc_all (p := fun n v => GEnt w (n, v)) l h g ss hg
  exact ⟨⟨this.1, id⟩, this.2.1 _ _, this.2.2⟩
theorem gent_tab {P : Program} {w : World} {name : String} {g n : Nat} {k : IntKind} {zs : List Int} (hn : P.globalNamed name = some g) (hl : zs.length = n) (h : Lib.TabIs P w name k zs) : GEnt w (g, [.arr (.sc (.int k)) n zs]) := by
  unfold Lib.TabIs World.var? at h
  rw [hn] at h
  simp only [Option.bind_some] at h
  split at h
  · rename_i cs e fr hb
    cases h
    refine ⟨(Array.getElem?_eq_some_iff.1 hb).1, fun _ _ s hs => ?_, _, e, fr, hb, fun j x hj => ?_⟩
    · simp at hs; subst hs; exact hl
    · have e1 : segCells [.arr (.sc (.int k)) n zs] = flat (.sc (.int k)) zs := by simp [segCells, Seg.cells]
      rw [e1, flat_sc] at hj
      rw [Nat.zero_add, List.getElem?_toArray]
      exact hj
  · cases h
theorem gent_u8 {P : Program} {w : World} {g3 g4 : Nat} (hne : g4 ≠ g3) (hT : Lib.Utf8Tabs g3 g4 w) : GEnt w (g3, [.arr (.sc (.int .u8)) 256 gvFirst]) ∧ GEnt w (g4, [.arr (.strc [.int .u8, .int .u8]) 16 gvAccept]) := by
  have h := globU8_ok (P := P) hT
  constructor
  · obtain ⟨h1, h2⟩ := h g3 [.arr (.sc (.int .u8)) 256 gvFirst] (by simp [globU8])
    exact ⟨h1.1, segsPl_of h2.1 rfl, h2.2⟩
  · obtain ⟨h1, h2⟩ := h g4 [.arr (.strc [.int .u8, .int .u8]) 16 gvAccept] (by simp [globU8, hne])
    exact ⟨h1.1, segsPl_of h2.1 rfl, h2.2⟩
theorem tabIs_of_reads {P : Program} {W : World} {name : String} {k : IntKind} {zs : List Int} {g : Nat} {t e : TypeId} {n : Nat}
    (hg : P.globalNamed name = some g) (hty : (P.globals[g]?).map (·.type) = some t) (ht : P.underlying t = some (.array n e)) (he : P.underlying e = some (.int k)) (hce : P.cellsOf e = 1) (hct : P.cellsOf t = n)
    (h : Lib.VarReads P W name (Lib.tabData k zs)) : Lib.TabIs P W name k zs := by
  obtain ⟨g', t', cs, fuel, p, hg', ht', hvar, hd⟩ := h
  obtain rfl := Option.some.inj (hg.symm.trans hg')
  obtain rfl := Option.some.inj (hty.symm.trans ht')
  unfold Lib.TabIs
  rw [hvar, ← Lib.cells_of_tab ht he hce hct hd]
/-- digest.first, digest.parts -/
def gv_dfirst : List Int := [1779033703, 3144134277, 1013904242, 2773480762, 1359893119, 2600822924, 528734635, 1541459225]
def gv_dparts : List Int := [1116352408, 1899447441, 3049323471, 3921009573, 961987163, 1508970993, 2453635748, 2870763221, 3624381080, 310598401, 607225278, 1426881987, 1925078388, 2162078206, 2614888103, 3248222580, 3835390401, 4022224774, 264347078, 604807628, 770255983, 1249150122, 1555081692, 1996064986, 2554220882, 2821834349, 2952996808, 3210313671, 3336571891, 3584528711, 113926993, 338241895, 666307205, 773529912, 1294757372, 1396182291, 1695183700, 1986661051, 2177026350, 2456956037, 2730485921, 2820302411, 3259730800, 3345764771, 3516065817, 3600352804, 4094571909, 275423344, 430227734, 506948616, 659060556, 883997877, 958139571, 1322822218, 1537002063, 1747873779, 1955562222, 2024104815, 2227730452, 2361852424, 2428436474, 2756734187, 3204031479, 3329325298]
end Go.Px

/- A function that is handed one variable to write: its contract, by its evaluation. -/
namespace Go.Px
open Go Go.RowKit

def mkFunR (sp : List SP) (pa : List DP) (F : spα sp × dpα pa → Option (spα sp)) : FunR :=
  ⟨fun _ ss ds k => (spProj sp ss).bind fun x => (dpProj pa ds).bind fun y => (F (x, y)).bind fun z => k (spInj sp z) (.tup [])⟩
def startR (sp : List SP) (pa : List DP) (n : Nat) (x : spα sp × dpα pa) : St := .obj (spInj sp x.1) :: ((dpInj pa x.2).map D1.arg ++ List.replicate n .junk)
def endR (rvs : List ResultVar) (sp : List SP) : Ex → St → Option (spα sp)
  | .normal, S | .ret, S => match rvs with
    | [] => match get S 0 with
      | .obj ss => if noRo ss = true then spProj sp ss else none
      | _ => none
    | _ => none
  | _, _ => none
theorem spInj_kind : (sp : List SP) → (x y : spα sp) → (spInj sp x).map Seg.kind = (spInj sp y).map Seg.kind
  | [], _, _ => rfl
  | p :: r, x, y => by
    simp only [spInj, List.map_cons, spInj_kind r x.2 y.2]
    cases p <;> rfl
theorem funR_ok {P : Program} {G : Nat → Option (List Seg)} {f : FuncId} {fn : Func} {body : Code} {sp : List SP} {pa : List DP} (F : spα sp × dpα pa → Option (spα sp)) (E : Env (spα sp))
    (hf : P.funcs[f]? = some fn) (hb : fn.body = some body) (hE : ∀ X : Cx, X.P = P → X.G = G → EnvOk X E)
    (hlo : ∀ (X : Cx) (w0 : World), X.P = P → X.G = G → LoopsOk X w0 E.Λ (endR fn.results.toList sp .ret) body)
    (hev : ∀ x, F x = ev E body (startR sp pa (fn.ntmps - (pa.length + 1)) x) (endR fn.results.toList sp)) : FunROk P G f (mkFunR sp pa F) := by
  intro ρ ss ds k r hr w vs b cur e fr hg hsz hv0 hb4 hharm hok hcur hargs
  have hr : ((spProj sp ss).bind fun x => (dpProj pa ds).bind fun y => (F (x, y)).bind fun z => k (spInj sp z) (.tup [])) = some r := hr
  cases hx : spProj sp ss with
  | none => rw [hx] at hr; cases hr
  | some x =>
    rw [hx] at hr
    simp only [Option.bind_some] at hr
    cases hy : dpProj pa ds with
    | none => rw [hy] at hr; cases hr
    | some y =>
      rw [hy] at hr
      simp only [Option.bind_some] at hr
      cases hF : F (x, y) with
      | none => rw [hF] at hr; cases hr
      | some z =>
        rw [hF] at hr
        simp only [Option.bind_some] at hr
        have hss := spProj_ok _ _ _ hx
        obtain ⟨hl, hrep⟩ := dpProj_ok (w := w) (vs := vs) pa ds y hy 1 (fun i d hi => by
          have := hargs i d hi
          rwa [show i + 1 = 1 + i by omega] at this)
        have hvl : vs.size = pa.length + 1 := by rw [hsz, hl]
        refine calls_of_wp hf hb ?_
        let loc0 : Nat → Nat → Option (Nat × Nat) := fun i j => if i = 0 ∧ j = 0 then some (b, 0) else none
        have hsim : Sim ⟨P, w.heap.size, G, (· = b)⟩ w (startR sp pa (fn.ntmps - (pa.length + 1)) (x, y)) { tmps := vs ++ Array.replicate (fn.ntmps - vs.size) undef, defers := [] } w loc0 := by
          have hcons : ∀ i, (startR sp pa (fn.ntmps - (pa.length + 1)) (x, y))[i + 1]? = (start pa (fn.ntmps - (pa.length + 1)) y)[i]? := fun i => rfl
          have hgo : ∀ i, (get (startR sp pa (fn.ntmps - (pa.length + 1)) (x, y)) (i + 1)).owns = false := fun i => by
            cases hs : (startR sp pa (fn.ntmps - (pa.length + 1)) (x, y))[i + 1]? with
            | none => rw [get_none hs]; rfl
            | some p =>
              rw [get_eq hs]
              rw [hcons] at hs
              rcases start_get hs with ⟨d, _, rfl⟩ | ⟨_, rfl⟩
              · exact arg_owns d
              · rfl
          have hloc : ∀ i j b' o, loc0 i j = some (b', o) → i = 0 ∧ j = 0 ∧ b' = b ∧ o = 0 := fun i j b' o h => by
            simp only [loc0] at h
            split at h
            · rename_i hij; cases h; exact ⟨hij.1, hij.2, rfl, rfl⟩
            · cases h
          refine { len := by simp [startR, dpInj_length, hvl]; omega, defers := rfl, hB := Nat.le_refl _, below := Kept.refl _ _, glob := hg, rep := fun i p hp => ?_, ref := fun i p k hp hk => ?_, sep := fun i j i' j' b' o o' h1 h2 => ?_, dom := fun i ho j => ?_, lt := fun i j b' o h => ?_, pin := fun b' hb' => ?_ }
          · cases i with
            | zero =>
              cases hp
              refine ⟨_, ?_, ⟨b, cur, e, fr, by simp [loc0], rfl, .inr rfl, hb4, hharm, by rw [hss]; exact hok _ _, by rw [hss]; exact hcur⟩⟩
              show (vs ++ _)[0]? = some _
              rw [Array.getElem?_append_left (Array.getElem?_eq_some_iff.1 hv0).1]; exact hv0
            | succ i =>
              have hlt : i + 1 < (startR sp pa (fn.ntmps - (pa.length + 1)) (x, y)).length := (List.getElem?_eq_some_iff.1 hp).1
              rw [hcons] at hp
              have hl0 : loc0 (i + 1) = fun _ => none := by funext j; simp [loc0]
              rcases start_get hp with ⟨d, hd, rfl⟩ | ⟨hi, rfl⟩
              · obtain ⟨v, hv, ha⟩ := hrep i d hd
                rw [show 1 + i = i + 1 by omega] at hv
                refine ⟨v, ?_, ?_⟩
                · show (vs ++ _)[i + 1]? = some v
                  rw [Array.getElem?_append_left (Array.getElem?_eq_some_iff.1 hv).1]; exact hv
                · rw [hl0]
                  cases d <;> first | exact ha | exact RoRep.mono ha (fun b hb => hb) | exact ⟨segsOk.mono ha.1 (fun b hb => hb), ha.2⟩
              · have : i + 1 < (vs ++ Array.replicate (fn.ntmps - vs.size) undef).size := by
                  simp [startR, dpInj_length] at hlt
                  simp [hvl]; omega
                exact ⟨_, Array.getElem?_eq_getElem this, trivial⟩
          · cases i with
            | zero => cases hp; cases hk
            | succ i =>
              rw [hcons] at hp
              rcases start_get hp with ⟨d, hd, rfl⟩ | ⟨hi, rfl⟩
              · rw [arg_ref] at hk; cases hk
              · cases hk
          · obtain ⟨rfl, rfl, _⟩ := hloc _ _ _ _ h1
            obtain ⟨rfl, rfl, _⟩ := hloc _ _ _ _ h2
            exact ⟨rfl, rfl⟩
          · cases i with
            | zero => cases ho
            | succ i => simp [loc0]
          · obtain ⟨_, _, rfl, _⟩ := hloc _ _ _ _ h
            exact ⟨(Array.getElem?_eq_some_iff.1 hb4).1, .inr rfl⟩
          · have hb' : b' = b := by have := congrFun hb' b'; simpa using this
            subst hb'
            exact ⟨rfl, by simp [loc0]⟩
        rw [hev] at hF
        refine wp_mono (ev_sound (hE _ rfl rfl) (endR fn.results.toList sp .ret) body (hlo _ w rfl rfl) _ _ w _ hsim _ rfl z hF) fun en a' w' hp => ?_
        have key : Post ⟨P, w.heap.size, G, (· = b)⟩ w (fun S => endR fn.results.toList sp .ret S) z a' w' → a'.defers = [] ∧ ∃ v, (results fn a'.tmps).run P w' = .ok v w' ∧ ∃ ss' d v', k ss' d = some r ∧ Ending.returned v = .returned v' ∧ Kept ⟨P, w.heap.size, G, (· = b)⟩ w w' ∧
            (∃ cur' e' fr', w'.heap[b]? = some (.cells cur' e' fr') ∧ Harm fr' cur'.size ∧ cur' = (segCells ss').toArray) ∧ segsPl ss' ∧ ss'.map Seg.kind = ss.map Seg.kind ∧ ResRep w' w.heap.size d v' := fun hp => by
          obtain ⟨S, loc, h1, h2⟩ := hp
          simp only [endR] at h1
          split at h1
          · rename_i hres
            split at h1
            · rename_i ss' hs'
              by_cases hnr : noRo ss' = true
              case neg => rw [if_neg hnr] at h1; cases h1
              rw [if_pos hnr] at h1
              have hz := spProj_ok _ _ _ h1
              obtain ⟨v, hv, hrep⟩ := h2.rep 0 _ (get_of_ne (i := 0) (S := S) (by rw [hs']; simp))
              rw [hs'] at hrep
              obtain ⟨b', cur', e', fr', m1, m2, m3, m4, m5, m6, m7⟩ := hrep
              have hpin := (h2.pin b rfl).2
              rw [m1] at hpin
              cases hpin
              have hrun := results_run (P := P) (w := w') fn a'.tmps [] (by rw [hres]; simp)
              refine ⟨h2.defers, .tuple #[], by simpa using hrun, spInj sp z, .tup [], _, hr, rfl, h2.below, ⟨cur', e', fr', m4, m5, by rw [hz]; exact m7⟩, by rw [hz]; exact segsPl_of m6 hnr, by rw [← hss]; exact spInj_kind sp z x, ?_⟩
              exact ⟨fun _ => none, (fun _ _ _ e => by cases e), (fun _ _ _ _ _ e => by cases e), fun _ _ => rfl, #[], rfl, rfl, fun j d hj => by simp at hj⟩
            · cases h1
          · cases h1
        cases en with
        | normal => exact key hp
        | ret => exact key hp
        | exit id => obtain ⟨S, loc, h1, _⟩ := hp; cases h1
        | goto l => exact hp.elim
        | panic c => exact hp.elim
        | outgrown => exact hp.elim
end Go.Px

/- A row's parameter that is a struct of plain cells and of arrays of plain cells. -/
namespace Go.Px
open Go Go.RowKit Go.ChangeShapes Go.WideShapes

def t0B (P : Program) (t : TypeId) : T0 → Bool
  | .int k => match P.underlying t with
    | some (.int k') => decide (k' = k)
    | _ => false
  | .bool => match P.underlying t with
    | some .bool => true
    | _ => false
  | .str => match P.underlying t with
    | some .string => true
    | _ => false
def SP.wid : SP → Nat
  | .one _ => 1
  | .arr _ n => n
  | .ro _ => 1
def spB (P : Program) (t : TypeId) : SP → Bool
  | .one t0 => t0B P t t0 && P.cellsOf t == 1
  | .arr (.sc t0) n => match P.underlying t with
    | some (.array m e) => m == n && t0B P e t0 && P.cellsOf e == 1 && P.cellsOf t == n
    | _ => false
  | .arr (.strc _) _ => false
  | .ro _ => false
def layB (P : Program) (tot : Nat) : List SP → List Field → Nat → Bool
  | [], [], off => off == tot
  | p :: ps, f :: fs, off => f.offset == off && spB P f.type p && layB P tot ps fs (off + p.wid)
  | _, _, _ => false
def T0.wfv : (t : T0) → t.α → Prop
  | .int k, n => (Lit.int k n).wf = true
  | .bool, _ => True
  | .str, s => s.size ≤ maxLen
def SP.wfv : (p : SP) → p.α → Prop
  | .one t, x => t.wfv x
  | .arr (.sc t) n, l => l.length = n ∧ ∀ y ∈ l, t.wfv y
  | .arr (.strc _) _, _ => False
  | .ro _, _ => False
def spWf : (ps : List SP) → spα ps → Prop
  | [], _ => True
  | p :: r, x => p.wfv x.1 ∧ spWf r x.2

section
variable {H : Type} {enc : TypeId × Value → H} {P : Program} {w : World} {base : Nat} {spare : Nat → Bool} {held : Bool}
theorem trod_t0 {t : TypeId} {t0 : T0} {fuel : Nat} {cs : List Value} {x : DataW H × List MemPlace} (ht : t0B P t t0 = true) (h : DataW.trod enc P w base spare held fuel t cs = some x) : ∃ y : t0.α, cs = [t0.val y] ∧ t0.wfv y := by
  cases t0 with
  | int k =>
    have hu : P.underlying t = some (.int k) := by
      simp only [t0B] at ht
      split at ht
      · rename_i k' hu
        rw [hu, of_decide_eq_true ht]
      · simp at ht
    obtain ⟨n, h1, _, h2⟩ := DataW.trod_int hu h
    exact ⟨n, h1, h2⟩
  | bool =>
    have hu : P.underlying t = some .bool := by
      simp only [t0B] at ht
      split at ht
      · assumption
      · simp at ht
    obtain ⟨b, h1, _⟩ := DataW.trod_bool hu h
    exact ⟨b, h1, trivial⟩
  | str =>
    have hu : P.underlying t = some .string := by
      simp only [t0B] at ht
      split at ht
      · assumption
      · simp at ht
    obtain ⟨s, h1, _, h2⟩ := DataW.trod_string hu h
    exact ⟨s, h1, h2⟩
theorem flat_sc' {t : T0} : (l : List t.α) → flat (.sc t) l = l.map t.val
  | [] => rfl
  | a :: r => by
    show t.val a :: flat (.sc t) r = _
    rw [flat_sc' r]; rfl
theorem trod_sp {t : TypeId} {p : SP} {fuel : Nat} {cs : List Value} {x : DataW H × List MemPlace} (ht : spB P t p = true) (h : DataW.trod enc P w base spare held fuel t cs = some x) :
    P.cellsOf t = p.wid ∧ ∃ y : p.α, cs = (p.inj y).cells ∧ (∀ w' Lo, segOk w' Lo (p.inj y)) ∧ p.wfv y := by
  cases p with
  | one t0 =>
    simp only [spB, Bool.and_eq_true, beq_iff_eq] at ht
    obtain ⟨y, h1, h2⟩ := trod_t0 ht.1 h
    exact ⟨ht.2, y, h1, by intro _ _; cases t0 <;> simp [SP.inj, segOk, T0.val, Value.cells], h2⟩
  | ro C => simp [spB] at ht
  | arr C n =>
    cases C with
    | strc fs => simp [spB] at ht
    | sc t0 =>
      have hx : ∃ m e, P.underlying t = some (.array m e) ∧ ((m = n ∧ t0B P e t0 = true) ∧ P.cellsOf e = 1) ∧ P.cellsOf t = n := by
        simp only [spB] at ht
        split at ht
        · rename_i m e hu
          simp only [Bool.and_eq_true, beq_iff_eq] at ht
          exact ⟨m, e, hu, ht⟩
        · simp at ht
      · obtain ⟨m, e, hu, ⟨⟨rfl, h0⟩, h1⟩, h2⟩ := hx
        obtain ⟨xs, q, _, _, hl, hxl, hf⟩ := DataW.trod_array hu h
        refine ⟨h2, ?_⟩
        have key : ∀ j, j ≤ m → ∃ l : List t0.α, cs.drop (m - j) = l.map t0.val ∧ l.length = j ∧ ∀ y ∈ l, t0.wfv y := by
          intro j
          induction j with
          | zero => intro _; exact ⟨[], by rw [List.drop_eq_nil_of_le (by omega)]; rfl, rfl, fun y hy => by cases hy⟩
          | succ j ih =>
            intro hj
            obtain ⟨l, g1, g2, g3⟩ := ih (by omega)
            have g := hf (m - (j + 1)) (by omega)
            rw [h1, Nat.mul_one, List.getElem?_eq_getElem (by omega)] at g
            obtain ⟨y, k1, k2⟩ := trod_t0 h0 g
            refine ⟨y :: l, ?_, by simp [g2], fun z hz => ?_⟩
            · have : m - j = (m - (j + 1)) + 1 := by omega
              rw [this] at g1
              rw [List.drop_eq_getElem_cons (by omega)] at k1 ⊢
              rw [g1]
              simp only [List.take_succ_cons, List.take_zero, List.cons.injEq, and_true] at k1
              rw [k1]; rfl
            · rcases List.mem_cons.1 hz with rfl | hz
              · exact k2
              · exact g3 z hz
        obtain ⟨l, g1, g2, g3⟩ := key m (Nat.le_refl m)
        rw [Nat.sub_self, List.drop_zero] at g1
        exact ⟨l, by rw [g1]; exact (flat_sc' l).symm, fun _ _ => g2, g2, g3⟩
theorem trod_lay {cs : List Value} {q tot : Nat} (hl : cs.length = tot) : (ss : List SP) → (fs : List Field) → (off : Nat) → layB P tot ss fs off = true →
    (∀ f ∈ fs, ∃ y, DataW.trod enc P w base spare held q f.type ((cs.drop f.offset).take (P.cellsOf f.type)) = some y) → ∃ x : spα ss, cs.drop off = segCells (spInj ss x) ∧ segsPl (spInj ss x) ∧ spWf ss x
  | [], [], off, h, _ => ⟨(), by
      have : off = tot := by simpa [layB] using h
      rw [List.drop_eq_nil_of_le (by omega)]; rfl, (fun _ _ s hs => by cases hs), trivial⟩
  | [], _ :: _, _, h, _ => by cases h
  | _ :: _, [], _, h, _ => by cases h
  | p :: ss, f :: fs, off, h, hf => by
    simp only [layB, Bool.and_eq_true, beq_iff_eq] at h
    obtain ⟨⟨h1, h2⟩, h3⟩ := h
    obtain ⟨x, g1, g2, g3⟩ := trod_lay hl ss fs _ h3 (fun f hm => hf f (List.mem_cons_of_mem _ hm))
    obtain ⟨y, hy⟩ := hf f (List.mem_cons_self)
    obtain ⟨k1, z, k2, k3, k4⟩ := trod_sp h2 hy
    refine ⟨(z, x), ?_, ?_, k4, g3⟩
    · show cs.drop off = (p.inj z).cells ++ segCells (spInj ss x)
      rw [← g1, ← k2, h1, k1, ← List.drop_drop, List.take_append_drop]
    · intro w' Lo s hs
      rcases List.mem_cons.1 (show s ∈ p.inj z :: spInj ss x from hs) with rfl | hs
      · exact k3 w' Lo
      · exact g2 w' Lo s hs
/-- a row's struct: its parts -/
theorem arg_strc {t : TypeId} {fs : Array Field} {ss : List SP} {v : Value} {d : DataW H} {ps : List MemPlace} {r : Reach} {b0 : Nat} (hu : P.underlying t = some (.struct fs)) (hl : layB P (P.cellsOf t) ss fs.toList 0 = true)
    (hv : Value.okWide P w r b0 t v) (h : DataW.Trod enc P w base spare held t v d ps) : ∃ x : spα ss, (segsPl (spInj ss x) ∧ v = .agg (segCells (spInj ss x)).toArray) ∧ spWf ss x := by
  simp only [Value.okWide, hu] at hv
  obtain ⟨cs, rfl, _, _⟩ := hv
  obtain ⟨fuel, hf⟩ := h
  have e : (Value.agg cs).cells.toList = cs.toList := by simp [Value.cells]
  rw [e] at hf
  obtain ⟨xs, q, _, _, hlen, hxl, hff⟩ := DataW.trod_struct hu hf
  obtain ⟨x, g1, g2, g3⟩ := trod_lay (P := P) (w := w) (enc := enc) (base := base) (spare := spare) (held := held) (q := q) hlen ss fs.toList 0 hl (fun f hm => by
    obtain ⟨i, hi⟩ := List.mem_iff_getElem?.1 hm
    rw [Array.getElem?_toList] at hi
    have hlt : i < fs.size := (Array.getElem?_eq_some_iff.1 hi).1
    have := hff i f hi
    rw [List.getElem?_eq_getElem (by omega)] at this
    exact ⟨_, this⟩)
  refine ⟨x, ⟨g2, ?_⟩, g3⟩
  rw [List.drop_zero] at g1
  rw [← g1]
end
end Go.Px
namespace Go.Px
open Go Go.RowKit
/-- a contract for some arguments alone -/
theorem fun_ok_of {P : Program} {G : Nat → Option (List Seg)} {f : FuncId} {fn : Func} {body : Code} {pa : List DP} {pr : RP} (F : dpα pa → Option pr.α) (E : Env pr.α)
    (hf : P.funcs[f]? = some fn) (hb : fn.body = some body) (hE : ∀ X : Cx, X.P = P → X.G = G → EnvOk X E)
    (hlo : ∀ (X : Cx) (w0 : World), X.P = P → X.G = G → LoopsOk X w0 E.Λ (endK E fn.results.toList pr .ret) body)
    (hev : ∀ x y, F x = some y → ev E body (start pa (fn.ntmps - pa.length) x) (endK E fn.results.toList pr) = some y) : FunOk P G f (mkFun pa pr F) := by
  have h2 := fun_ok (pa := pa) (pr := pr) (fun x => ev E body (start pa (fn.ntmps - pa.length) x) (endK E fn.results.toList pr)) E hf hb hE hlo (fun _ => rfl)
  intro ρ ds k r hr
  refine h2 ρ ds k r ?_
  have hr : ((dpProj pa ds).bind fun x => (F x).bind fun r => k (pr.inj r)) = some r := hr
  show ((dpProj pa ds).bind fun x => (ev E body (start pa (fn.ntmps - pa.length) x) (endK E fn.results.toList pr)).bind fun r => k (pr.inj r)) = some r
  cases hx : dpProj pa ds with
  | none => rw [hx] at hr; cases hr
  | some x =>
    rw [hx] at hr
    simp only [Option.bind_some] at hr ⊢
    cases hF : F x with
    | none => rw [hF] at hr; cases hr
    | some y => rw [hF] at hr; rw [hev x y hF]; exact hr
theorem bytes_is {s : ByteArray} {l : List UInt8} (h : s.data.toList = l) : s = ⟨l.toArray⟩ := by
  cases s; subst h; rfl
end Go.Px

/- A function that is handed a slice to use up: its contract, by its evaluation. -/
namespace Go.Px
open Go Go.RowKit

def mkFunA (C : Cod) (pa : List DP) (pr : RP) (F : List C.α × dpα pa → Option pr.α) : FunA :=
  ⟨fun _ c ds k => if h : c.C = C then (dpProj pa ds).bind fun y => (F (h ▸ c.l, y)).bind fun z => k (pr.inj z) else none⟩
def startA (C : Cod) (pa : List DP) (n : Nat) (x : List C.α × dpα pa) : St := .own C x.1 :: ((dpInj pa x.2).map D1.arg ++ List.replicate n .junk)
theorem funA_ok {P : Program} {G : Nat → Option (List Seg)} {f : FuncId} {fn : Func} {body : Code} {C : Cod} {pa : List DP} {pr : RP} (F : List C.α × dpα pa → Option pr.α) (E : Env pr.α)
    (hf : P.funcs[f]? = some fn) (hb : fn.body = some body) (hE : ∀ X : Cx, X.P = P → X.G = G → EnvOk X E)
    (hlo : ∀ (X : Cx) (w0 : World), X.P = P → X.G = G → LoopsOk X w0 E.Λ (endK E fn.results.toList pr .ret) body)
    (hev : ∀ x, F x = ev E body (startA C pa (fn.ntmps - (pa.length + 1)) x) (endK E fn.results.toList pr)) : FunAOk P G f (mkFunA C pa pr F) := by
  intro ρ c ds k r hr w vs ℓ v0 hg hsz hv0 hown hargs
  obtain ⟨C', l⟩ := c
  have hr : (if h : C' = C then (dpProj pa ds).bind fun y => (F (h ▸ l, y)).bind fun z => k (pr.inj z) else none) = some r := hr
  split at hr
  · rename_i hC
    subst hC
    cases hy : dpProj pa ds with
    | none => rw [hy] at hr; cases hr
    | some y =>
      rw [hy] at hr
      simp only [Option.bind_some] at hr
      cases hF : F (l, y) with
      | none => rw [hF] at hr; cases hr
      | some z =>
        rw [hF] at hr
        simp only [Option.bind_some] at hr
        obtain ⟨hl, hrep⟩ := dpProj_ok (w := w) (vs := vs) pa ds y hy 1 (fun i d hi => by
          have := hargs i d hi
          rwa [show i + 1 = 1 + i by omega] at this)
        have hvl : vs.size = pa.length + 1 := by rw [hsz, hl]
        refine calls_of_wp hf hb ?_
        let loc0 : Nat → Nat → Option (Nat × Nat) := fun i j => if i = 0 ∧ j = 0 then ℓ else none
        have hsim : Sim ⟨P, w.heap.size, G, usedM w.heap.size ℓ⟩ w (startA C' pa (fn.ntmps - (pa.length + 1)) (l, y)) { tmps := vs ++ Array.replicate (fn.ntmps - vs.size) undef, defers := [] } w loc0 := by
          have hcons : ∀ i, (startA C' pa (fn.ntmps - (pa.length + 1)) (l, y))[i + 1]? = (start pa (fn.ntmps - (pa.length + 1)) y)[i]? := fun i => rfl
          have hloc : ∀ i j b' o, loc0 i j = some (b', o) → i = 0 ∧ j = 0 ∧ ℓ = some (b', o) := fun i j b' o h => by
            simp only [loc0] at h
            split at h
            · rename_i hij; exact ⟨hij.1, hij.2, h⟩
            · cases h
          have hlb : ∀ b o, ℓ = some (b, o) → b < w.heap.size := fun b o e => by
            rcases hown with hown | ⟨b', o', cap, cur, e', fr, k1, _, _, k4, _⟩
            · rw [hown.1] at e; cases e
            · rw [k1] at e; cases e
              exact (Array.getElem?_eq_some_iff.1 k4).1
          refine { len := by simp [startA, dpInj_length, hvl]; omega, defers := rfl, hB := Nat.le_refl _, below := Kept.refl _ _, glob := hg, rep := fun i p hp => ?_, ref := fun i p k hp hk => ?_, sep := fun i j i' j' b' o o' h1 h2 => ?_, dom := fun i ho j => ?_, lt := fun i j b' o h => ?_, pin := fun b' hb' => ?_ }
          · cases i with
            | zero =>
              cases hp
              refine ⟨v0, ?_, ?_⟩
              · show (vs ++ _)[0]? = some _
                rw [Array.getElem?_append_left (Array.getElem?_eq_some_iff.1 hv0).1]; exact hv0
              · show OwnRep w _ C' l (loc0 0 0) v0
                have e : loc0 0 0 = ℓ := by simp [loc0]
                rw [e]
                rcases hown with hown | ⟨b', o', cap, cur, e', fr, k1, k2, k3, k4⟩
                · exact .inl hown
                · exact .inr ⟨b', o', cap, cur, e', fr, k1, k2, .inr k3, k4⟩
            | succ i =>
              have hlt : i + 1 < (startA C' pa (fn.ntmps - (pa.length + 1)) (l, y)).length := (List.getElem?_eq_some_iff.1 hp).1
              rw [hcons] at hp
              have hl0 : loc0 (i + 1) = fun _ => none := by funext j; simp [loc0]
              rcases start_get hp with ⟨d, hd, rfl⟩ | ⟨hi, rfl⟩
              · obtain ⟨v, hv, ha⟩ := hrep i d hd
                rw [show 1 + i = i + 1 by omega] at hv
                refine ⟨v, ?_, ?_⟩
                · show (vs ++ _)[i + 1]? = some v
                  rw [Array.getElem?_append_left (Array.getElem?_eq_some_iff.1 hv).1]; exact hv
                · rw [hl0]
                  cases d <;> first | exact ha | exact RoRep.mono ha (fun b hb => hb) | exact ⟨segsOk.mono ha.1 (fun b hb => hb), ha.2⟩
              · have : i + 1 < (vs ++ Array.replicate (fn.ntmps - vs.size) undef).size := by
                  simp [startA, dpInj_length] at hlt
                  simp [hvl]; omega
                exact ⟨_, Array.getElem?_eq_getElem this, trivial⟩
          · cases i with
            | zero => cases hp; cases hk
            | succ i =>
              rw [hcons] at hp
              rcases start_get hp with ⟨d, hd, rfl⟩ | ⟨hi, rfl⟩
              · rw [arg_ref] at hk; cases hk
              · cases hk
          · obtain ⟨rfl, rfl, _⟩ := hloc _ _ _ _ h1
            obtain ⟨rfl, rfl, _⟩ := hloc _ _ _ _ h2
            exact ⟨rfl, rfl⟩
          · cases i with
            | zero => cases ho
            | succ i => simp [loc0]
          · obtain ⟨_, _, h⟩ := hloc _ _ _ _ h
            exact ⟨hlb _ _ h, .inr (.inr ⟨o, h⟩)⟩
          · have e1 := congrFun hb' w.heap.size
            have e2 := congrFun hb' (w.heap.size + 1)
            simp only [usedM] at e1 e2
            have h1 : w.heap.size = b' := by rw [← e1]; exact .inl (Nat.le_refl _)
            have h2 : w.heap.size + 1 = b' := by rw [← e2]; exact .inl (by omega)
            omega
        rw [hev] at hF
        refine wp_mono (ev_sound (hE _ rfl rfl) (endK E fn.results.toList pr .ret) body (hlo _ w rfl rfl) _ _ w _ hsim _ rfl z hF) fun en a' w' hp => ?_
        have key : Post ⟨P, w.heap.size, G, usedM w.heap.size ℓ⟩ w (fun S => retR E fn.results.toList S pr) z a' w' → a'.defers = [] ∧ ∃ v, (results fn a'.tmps).run P w' = .ok v w' ∧ ∃ d v', k d = some r ∧ Ending.returned v = .returned v' ∧ Kept ⟨P, w.heap.size, G, usedM w.heap.size ℓ⟩ w w' ∧ ResRepP w' (usedM w.heap.size ℓ) d v' := fun hp => by
          obtain ⟨S, loc, h1, h2⟩ := hp
          obtain ⟨v, g1, g2⟩ := retR_ok (hE _ rfl rfl) h2 fn h1
          exact ⟨h2.defers, v, g1, _, v, hr, rfl, h2.below, ResRepP.mono g2 fun b hb => hb.elim .inl id⟩
        cases en with
        | normal => exact key hp
        | ret => exact key hp
        | exit id => obtain ⟨S, loc, h1, _⟩ := hp; cases h1
        | goto l => exact hp.elim
        | panic c => exact hp.elim
        | outgrown => exact hp.elim
  · cases hr
end Go.Px

