/- What the printed certificates are made of. -/
import Derived.Test.YtpmnipaimoaagaaDoorPx15
set_option linter.unusedVariables false
set_option linter.unusedSimpArgs false
namespace Go.Px
open Go Go.RowKit

/-! ### types -/
def T0.desc : T0 → TypeDesc
  | .int k => .int k
  | .bool => .bool
  | .str => .string
def TI.sc (c : T0) (b : Nat) : TI := ⟨c.desc, 1, b, false, some (.sc c), [.one (c.val (c.dflt))]⟩
def TI.sl (e : TypeId) : TI := ⟨.slice e, 1, 24, false, none, [.one (.slice none 0 0)]⟩
def TI.ar (C : Cod) (n : Nat) (e : TypeId) (b : Nat) : TI := ⟨.array n e, n * C.sz, b, true, none, [.arr C n (List.replicate n C.dflt)]⟩
def onesOf (fs : List T0) : List Seg := fs.map fun c => .one (c.val c.dflt)
def TI.st (d : TypeDesc) (fs : List T0) (b : Nat) : TI := ⟨d, fs.length, b, true, some (.strc fs), onesOf fs⟩
def infoOf (P : Program) (t : TypeId) : Option (Option Value × Nat × Nat) := (P.info? t).map fun i => (i.zero, i.size, i.bytes)
theorem infoOf_ok {P : Program} {t : TypeId} {z : Value} {s b : Nat} (h : infoOf P t = some (some z, s, b)) : ∃ ti, P.info? t = some ti ∧ ti.size = s ∧ ti.bytes = b ∧ ti.zero = some z := by
  unfold infoOf at h
  cases hi : P.info? t with
  | none => rw [hi] at h; cases h
  | some ti =>
    rw [hi] at h
    simp only [Option.map_some, Option.some.injEq, Prod.mk.injEq] at h
    exact ⟨ti, rfl, h.2.1, h.2.2, h.1⟩
theorem oneCell_dflt (c : T0) : (c.val c.dflt).cells = #[c.val c.dflt] := by cases c <;> rfl
theorem tok_sc {P : Program} {t : TypeId} (c : T0) (b : Nat) (h1 : P.underlying t = some c.desc) (h2 : infoOf P t = some (some (c.val c.dflt), 1, b)) : TOk P t (.sc c b) := by
  obtain ⟨ti, g1, g2, g3, g4⟩ := infoOf_ok h2
  refine ⟨h1, ⟨ti, g1, g2, g3, _, g4, ?_⟩, ?_, ?_, rfl, ?_, ?_, fun hh => by cases hh⟩
  · rw [oneCell_dflt]; rfl
  · cases c <;> rfl
  · intro _ _ s hs; simp [TI.sc] at hs; subst hs; exact oneCell_dflt c
  · intro c' hc; simp [TI.sc] at hc; subst hc; exact ⟨rfl, rfl, by cases c <;> rfl⟩
  · intro fs hf; simp [TI.sc] at hf
theorem tok_sl {P : Program} {t : TypeId} (e : TypeId) (h1 : P.underlying t = some (.slice e)) (h2 : infoOf P t = some (some (.slice none 0 0), 1, 24)) : TOk P t (.sl e) := by
  obtain ⟨ti, g1, g2, g3, g4⟩ := infoOf_ok h2
  refine ⟨h1, ⟨ti, g1, g2, g3, _, g4, rfl⟩, rfl, ?_, rfl, ?_, ?_, fun hh => by cases hh⟩
  · intro _ _ s hs; simp [TI.sl] at hs; subst hs; rfl
  · intro c' hc; simp [TI.sl] at hc
  · intro fs hf; simp [TI.sl] at hf
theorem recVals_len : (fs : List T0) → (x : recα fs) → (recVals fs x).length = fs.length
  | [], _ => rfl
  | a :: r, x => by simp [recVals, recVals_len r x.2]
theorem tok_ar {P : Program} {t : TypeId} {C : Cod} {n : Nat} {e : TypeId} {b : Nat} (h1 : P.underlying t = some (.array n e)) (h2 : infoOf P t = some (some (.agg (flat C (List.replicate n C.dflt)).toArray), n * C.sz, b)) (h4 : P.eqGuardType P.depth t = false) (h5 : P.stoodInHeld t = false) : TOk P t (.ar C n e b) := by
  obtain ⟨ti, g1, g2, g3, g4⟩ := infoOf_ok h2
  refine ⟨h1, ⟨ti, g1, g2, g3, _, g4, ?_⟩, rfl, ?_, ?_, ?_, ?_, fun _ => ⟨h4, h5⟩⟩
  · simp [TI.ar, segCells, Seg.cells, Value.cells]
  · intro _ _ s hs; simp [TI.ar] at hs; subst hs; simp [segOk]
  · simp [TI.ar, segCells, Seg.cells, flat_length]
  · intro c' hc; simp [TI.ar] at hc
  · intro fs hf; simp [TI.ar] at hf
theorem tok_st {P : Program} {t : TypeId} {d : TypeDesc} {fs : List T0} {b : Nat} (h1 : P.underlying t = some d) (h2 : infoOf P t = some (some (.agg (fs.map fun c => c.val c.dflt).toArray), fs.length, b)) (h3 : ∃ a, d = .struct a) (h4 : P.eqGuardType P.depth t = false) (h5 : P.stoodInHeld t = false) : TOk P t (.st d fs b) := by
  obtain ⟨ti, g1, g2, g3, g4⟩ := infoOf_ok h2
  have hc : ∀ l : List T0, segCells (onesOf l) = l.map fun c => c.val c.dflt := fun l => by
    induction l with
    | nil => rfl
    | cons a r ih => simp only [onesOf, segCells, List.map_cons, List.flatMap_cons, Seg.cells] at ih ⊢; rw [ih]; rfl
  refine ⟨h1, ⟨ti, g1, g2, g3, _, g4, ?_⟩, ?_, ?_, ?_, ?_, ?_, fun _ => ⟨h4, h5⟩⟩
  · simp only [TI.st]; rw [hc]; rfl
  · obtain ⟨a, rfl⟩ := h3; rfl
  · intro _ _ s hs; simp only [TI.st, onesOf, List.mem_map] at hs; obtain ⟨c, _, rfl⟩ := hs; exact oneCell_dflt c
  · simp only [TI.st]; rw [hc]; simp
  · intro c' hc; simp [TI.st] at hc
  · intro fs' hf; simp [TI.st] at hf; subst hf; exact ⟨rfl, rfl⟩
/-- a struct whose fields are numbers, texts and arrays of them -/
def spZero : List SP → List Seg
  | [] => []
  | .one c :: r => .one (c.val c.dflt) :: spZero r
  | .arr C n :: r => .arr C n (List.replicate n C.dflt) :: spZero r
  | .ro C :: r => .ro none 0 C [] :: spZero r
theorem spZero_ok : (l : List SP) → segsPl (spZero l)
  | [] => fun _ _ s hs => by cases hs
  | .one c :: r => fun _ _ s hs => by
    rcases List.mem_cons.1 hs with rfl | hs
    · exact oneCell_dflt c
    · exact spZero_ok r _ _ s hs
  | .arr C n :: r => fun _ _ s hs => by
    rcases List.mem_cons.1 hs with rfl | hs
    · exact List.length_replicate
    · exact spZero_ok r _ _ s hs
  | .ro C :: r => fun _ _ s hs => by
    rcases List.mem_cons.1 hs with rfl | hs
    · exact ⟨none, 0, rfl, Nat.le_refl _, .inl rfl⟩
    · exact spZero_ok r _ _ s hs
def TI.sx (d : TypeDesc) (l : List SP) (b : Nat) : TI := ⟨d, (segCells (spZero l)).length, b, true, none, spZero l⟩
theorem tok_sx {P : Program} {t : TypeId} {d : TypeDesc} {l : List SP} {b : Nat} (h1 : P.underlying t = some d) (h2 : infoOf P t = some (some (.agg (segCells (spZero l)).toArray), (segCells (spZero l)).length, b)) (h3 : ∃ a, d = .struct a) (h4 : P.eqGuardType P.depth t = false) (h5 : P.stoodInHeld t = false) : TOk P t (.sx d l b) := by
  obtain ⟨ti, g1, g2, g3, g4⟩ := infoOf_ok h2
  refine ⟨h1, ⟨ti, g1, g2, g3, _, g4, rfl⟩, ?_, spZero_ok l, rfl, ?_, ?_, fun _ => ⟨h4, h5⟩⟩
  · obtain ⟨a, rfl⟩ := h3; rfl
  · intro c' hc; simp [TI.sx] at hc
  · intro fs' hf; simp [TI.sx] at hf
/-! ### tables -/
def assoc {α : Type _} : List (Nat × α) → Nat → Option α
  | [], _ => none
  | (k, v) :: r, n => if n = k then some v else assoc r n
def AllP {α : Type _} (p : α → Prop) : List α → Prop
  | [] => True
  | a :: r => p a ∧ AllP p r
theorem assoc_all {α : Type _} {p : Nat → α → Prop} : (l : List (Nat × α)) → AllP (fun x => p x.1 x.2) l → ∀ n v, assoc l n = some v → p n v
  | [], _, n, v, h => by cases h
  | (k, u) :: r, ha, n, v, h => by
    unfold assoc at h
    split at h
    · rename_i hn; subst hn; cases h; exact ha.1
    · exact assoc_all r ha.2 n v h
theorem allP_mem {α : Type _} {p : α → Prop} : {l : List α} → AllP p l → ∀ x ∈ l, p x
  | [], _, x, h => by cases h
  | a :: r, ha, x, h => by
    rcases List.mem_cons.1 h with rfl | h
    · exact ha.1
    · exact allP_mem ha.2 x h
/-- a contract that may be used: the callee is there and has a body -/
def FunUse (P : Program) (G : Nat → Option (List Seg)) (f : FuncId) (F : Fun) : Prop := FunOk P G f F ∧ ∃ fn, P.funcs[f]? = some fn ∧ fn.body.isNone = false ∧ (fn.name == "runtime.NumGoroutine") = false
def FunRUse (P : Program) (G : Nat → Option (List Seg)) (f : FuncId) (F : FunR) : Prop := FunROk P G f F ∧ Callable P f
def FunAUse (P : Program) (G : Nat → Option (List Seg)) (f : FuncId) (F : FunA) : Prop := FunAOk P G f F ∧ Callable P f
def mkEnv (ρ : Type) (T : List (Nat × TI)) (Γ : List (Nat × Fun)) (R : List (Nat × FunR)) (A : List (Nat × FunA)) (G : Nat → Option (List Seg)) (Λ : List (Nat × LoopC ρ)) : Env ρ := { T := assoc T, Γ := assoc Γ, R := assoc R, A := assoc A, G := G, Λ := assoc Λ }
theorem envOk_of {P : Program} {ρ : Type} {T : List (Nat × TI)} {Γ : List (Nat × Fun)} {R : List (Nat × FunR)} {A : List (Nat × FunA)} {G : Nat → Option (List Seg)} {Λ : List (Nat × LoopC ρ)} {X : Cx} (hP : X.P = P) (hG : X.G = G) (hm : P.follows .mixedOrders = true) (hT : AllP (fun x => TOk P x.1 x.2) T) (hΓ : AllP (fun x => FunUse P G x.1 x.2) Γ) (hR : AllP (fun x => FunRUse P G x.1 x.2) R) (hA : AllP (fun x => FunAUse P G x.1 x.2) A) :
    EnvOk X (mkEnv ρ T Γ R A G Λ) := by
  subst hP; subst hG
  exact ⟨fun t i h => assoc_all (p := TOk X.P) T hT t i h, rfl, hm, fun f F h => assoc_all (p := FunUse X.P X.G) Γ hΓ f F h, fun f F h => assoc_all (p := FunRUse X.P X.G) R hR f F h, fun f F h => assoc_all (p := FunAUse X.P X.G) A hA f F h⟩
/-! ### the loops of a code -/
def blkOf : Nat → Code → Option Code
  | id, .seq x y => (blkOf id x).or (blkOf id y)
  | id, .cond _ x y => (blkOf id x).or (blkOf id y)
  | id, .block j c => if j = id then some c else blkOf id c
  | id, .loop c => blkOf id c
  | _, _ => none
def innerOf (id : Nat) (c : Code) : Code := match blkOf id c with
  | some (.loop c) => c
  | _ => .skip
def bodyOf (f : Func) : Code := f.body.getD .skip
def lbs (is : Nat → Bool) : Code → List (Nat × Code)
  | .seq x y => lbs is x ++ lbs is y
  | .cond _ x y => lbs is x ++ lbs is y
  | .block id c => if is id then [(id, c)] else lbs is c
  | _ => []
section
variable {X : Cx} {ρ : Type} {w0 : World}
theorem loopsOk_lbs {Λ : Nat → Option (LoopC ρ)} {kr : St → Option ρ} : (c : Code) → (∀ p ∈ lbs (fun i => (Λ i).isSome) c, ∃ lc, Λ p.1 = some lc ∧ LoopOk X w0 lc p.2 p.1 kr) → LoopsOk X w0 Λ kr c
  | .seq x y, h => ⟨loopsOk_lbs x fun p hp => h p (by simp [lbs, hp]), loopsOk_lbs y fun p hp => h p (by simp [lbs, hp])⟩
  | .cond _ x y, h => ⟨loopsOk_lbs x fun p hp => h p (by simp [lbs, hp]), loopsOk_lbs y fun p hp => h p (by simp [lbs, hp])⟩
  | .block id c, h => by
    unfold LoopsOk
    cases hl : Λ id with
    | none =>
      simp only []
      exact loopsOk_lbs c fun p hp => h p (by simp [lbs, hl, hp])
    | some lc =>
      simp only []
      obtain ⟨lc', g1, g2⟩ := h (id, c) (by simp [lbs, hl])
      rw [hl] at g1; cases g1; exact g2
  | .skip, _ => trivial
  | .region .., _ => trivial
  | .loop _, _ => trivial
  | .exit _, _ => trivial
  | .ret, _ => trivial
  | .scope .., _ => trivial
  | .label .., _ => trivial
  | .goto .., _ => trivial
  | .refuse .., _ => trivial
  | .rangeFunc .., _ => trivial
theorem loopsOk_of {Λ : Nat → Option (LoopC ρ)} {kr : St → Option ρ} {c : Code} (L : List (Nat × Code)) (h : lbs (fun i => (Λ i).isSome) c = L) (ha : AllP (fun p => ∃ lc, Λ p.1 = some lc ∧ LoopOk X w0 lc p.2 p.1 kr) L) : LoopsOk X w0 Λ kr c :=
  loopsOk_lbs c fun p hp => allP_mem ha p (by rw [← h]; exact hp)
end
end Go.Px
