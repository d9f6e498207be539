/- Each operation does what the evaluator tells. -/
import Derived.Test.YtpmnipaimoaagaaDoorPx2
import Derived.Laws.OwnMore
import Derived.Laws.RangeAny
import Derived.Laws.BytesArg
import Derived.Laws.BytesString
import Derived.Laws.CopyRow
set_option linter.unusedVariables false
set_option linter.unusedSimpArgs false
namespace Go.Px
open Go Go.RowKit

/-- the table of types is the program's -/
structure TOk (P : Program) (t : TypeId) (i : TI) : Prop where
  und : P.underlying t = some i.desc
  info : ∃ ti, P.info? t = some ti ∧ ti.size = i.size ∧ ti.bytes = i.bytes ∧ ∃ z, ti.zero = some z ∧ z.cells = (segCells i.zero).toArray
  agg : i.agg = (match i.desc with | .struct _ | .array _ _ => true | _ => false)
  zok : segsPl i.zero
  zsz : (segCells i.zero).length = i.size
  scal : ∀ c, i.cod = some (.sc c) → i.agg = false ∧ i.size = 1 ∧ i.desc = (match c with | .int k => .int k | .bool => .bool | .str => .string)
  strc : ∀ fs, i.cod = some (.strc fs) → i.agg = true ∧ i.size = fs.length
  eqs : i.agg = true → P.eqGuardType P.depth t = false ∧ P.stoodInHeld t = false

section
variable {X : Cx} {ρ : Type} {w0 : World} {S : St} {a : Act} {w : World} {loc : Nat → Nat → Option (Nat × Nat)}

theorem opd_get (h : Sim X w0 S a w loc) {s : Nat} {p : PV} (hp : get S s = p) (hn : p ≠ .junk) : ∃ v, a.tmps[s]? = some v ∧ a.eval (.tmp s) = v ∧ Rep X w S a.tmps loc (loc s) p v := by
  have hs := get_of_ne (i := s) (S := S) (by rw [hp]; exact hn)
  rw [hp] at hs
  obtain ⟨v, hv, hr⟩ := h.rep s p hs
  exact ⟨v, hv, by simp [Act.eval, hv], hr⟩
theorem opd_raw (h : Sim X w0 S a w loc) {x : Operand} {v : Value} (hx : opd S x = .raw v) : a.eval x = v := by
  cases x with
  | tmp s =>
    obtain ⟨u, _, h2, h3⟩ := opd_get h (s := s) hx (by simp)
    rw [h2]; exact h3
  | const c => simp [opd] at hx; exact hx
  | global g => simp [opd] at hx
  | func f => simp [opd] at hx; rw [← hx]; rfl

def Post (X : Cx) (w0 : World) (K : St → Option ρ) (r : ρ) : Act → World → Prop := fun a w => ∃ S loc, K S = some r ∧ Sim X w0 S a w loc

theorem fin_some {d : Nat} {K : St → Option ρ} {p : PV} {S : St} {r : ρ} (h : fin (some d) K p S = some r) : (d < S.length ∧ pinned S d = false) ∧ p.ref ≠ some d ∧ K (put S (some d) p) = some r := by
  unfold Px.fin at h
  dsimp only at h
  split at h
  · rename_i hd
    split at h
    · rename_i k hk
      split at h
      · cases h
      · rename_i hkd
        exact ⟨hd, by rw [hk]; intro e; cases e; exact hkd rfl, h⟩
    · rename_i hk
      exact ⟨hd, by rw [hk]; simp, h⟩
  · cases h
theorem fin_none {K : St → Option ρ} {p : PV} {S : St} {r : ρ} (h : fin none K p S = some r) : K S = some r := h
theorem wp_run {P : Program} {o : Oper} {v : Value} {w' : World} {K : Act → World → Prop} {Q : Exit → Act → World → Prop}
    (hrun : (execOp a.eval o).run P w = .ok (.value v) w') (h : K (a.put o.dst v) w') : o.wp P a w K Q := by
  unfold Oper.wp; rw [hrun]; exact h

/-- a value that owns nothing -/
theorem wp0 {o : Oper} {S' : St} {w' : World} {loc' : Nat → Nat → Option (Nat × Nat)} {v : Value} {p : PV} {K : St → Option ρ} {r : ρ} {Q : Exit → Act → World → Prop}
    (hrun : (execOp a.eval o).run X.P w = .ok (.value v) w') (hs : Sim X w0 S' a w' loc') (hf : fin o.dst K p S' = some r) (ho : p.owns = false)
    (hrep : Rep X w' S' a.tmps loc' (fun _ => none) p v) (href : ∀ k, p.ref = some k → (get S' k).owns = true) : o.wp X.P a w (Post X w0 K r) Q := by
  refine wp_run hrun ?_
  cases hd : o.dst with
  | none => rw [hd] at hf; exact ⟨S', loc', fin_none hf, hs⟩
  | some d =>
    rw [hd] at hf
    obtain ⟨h1, h2, h3⟩ := fin_some hf
    obtain ⟨loc1, hs1⟩ := hs.fin0 h1 p v ho hrep (fun k hk => ⟨href k hk, fun e => h2 (e ▸ hk)⟩)
    exact ⟨_, loc1, h3, hs1⟩
theorem wp_raw {o : Oper} {S' : St} {w' : World} {loc' : Nat → Nat → Option (Nat × Nat)} {v : Value} {K : St → Option ρ} {r : ρ} {Q : Exit → Act → World → Prop}
    (hrun : (execOp a.eval o).run X.P w = .ok (.value v) w') (hs : Sim X w0 S' a w' loc') (hf : fin o.dst K (.raw v) S' = some r) : o.wp X.P a w (Post X w0 K r) Q :=
  wp0 hrun hs hf rfl rfl (fun k hk => by cases hk)
/-- a value that owns one block -/
theorem wp1 {o : Oper} {S' : St} {w' : World} {loc' : Nat → Nat → Option (Nat × Nat)} {v : Value} {p : PV} {K : St → Option ρ} {r : ρ} {Q : Exit → Act → World → Prop} (b off : Nat)
    (hrun : (execOp a.eval o).run X.P w = .ok (.value v) w') (hs : Sim X w0 S' a w' loc') (hf : fin o.dst K p S' = some r) (ho : p.owns = true) (hr : p.ref = none)
    (hrep : Rep X w' S' a.tmps loc' (fun j => if j = 0 then some (b, off) else none) p v) (hb : b < w'.heap.size ∧ X.Mine b ∧ ∀ i j' o', loc' i j' ≠ some (b, o')) :
    o.wp X.P a w (Post X w0 K r) Q := by
  refine wp_run hrun ?_
  cases hd : o.dst with
  | none =>
    rw [hd] at hf
    exact ⟨S', loc', fin_none hf, hs⟩
  | some d =>
    rw [hd] at hf
    obtain ⟨h1, h2, h3⟩ := fin_some hf
    obtain ⟨loc1, hs1⟩ := hs.fin1 h1 b off p v ho hrep hr hb
    exact ⟨_, loc1, h3, hs1⟩

/-- a value that owns some blocks -/
theorem wpG {o : Oper} {S' : St} {w' : World} {loc' : Nat → Nat → Option (Nat × Nat)} {v : Value} {p : PV} {K : St → Option ρ} {r : ρ} {Q : Exit → Act → World → Prop} (ℓ : Nat → Option (Nat × Nat))
    (hrun : (execOp a.eval o).run X.P w = .ok (.value v) w') (hs : Sim X w0 S' a w' loc') (hf : fin o.dst K p S' = some r) (ho : p.owns = true) (hr : p.ref = none)
    (hrep : Rep X w' S' a.tmps loc' ℓ p v) (hsep : ∀ j j' b o o', ℓ j = some (b, o) → ℓ j' = some (b, o') → j = j')
    (hnew : ∀ j b o, ℓ j = some (b, o) → b < w'.heap.size ∧ X.Mine b ∧ ∀ i j' o', loc' i j' ≠ some (b, o')) :
    o.wp X.P a w (Post X w0 K r) Q := by
  refine wp_run hrun ?_
  cases hd : o.dst with
  | none =>
    rw [hd] at hf
    exact ⟨S', loc', fin_none hf, hs⟩
  | some d =>
    rw [hd] at hf
    obtain ⟨h1, h2, h3⟩ := fin_some hf
    obtain ⟨loc1, hs1⟩ := hs.fin h1 ℓ p v hrep (fun k hk => by rw [hr] at hk; cases hk) (fun hp => by rw [ho] at hp; cases hp) hsep hnew
    exact ⟨_, loc1, h3, hs1⟩

/-! ### operators on numbers and texts -/
def plain : Value → Bool
  | .int .. | .string _ | .bool _ => true
  | _ => false
theorem run_eqGuard {P : Program} (w : World) (op : BinOp) (t : TypeId) (x y : Operand) (v u : Value) (hv : plain v = true) : (eqGuard op t x y v u).run P w = .ok () w := by
  unfold eqGuard
  cases v <;> simp [plain] at hv <;> cases op <;> simp
theorem pureVal_run {P : Program} {s : Sem Value} {v : Value} (h : pureVal s = some v) (w : World) : s.run P w = .ok v w := by
  cases s <;> simp [pureVal] at h
  subst h; rfl
theorem chk_some {b : Bool} {k : Option ρ} {r : ρ} (h : chk b k = some r) : b = true ∧ k = some r := by
  cases b
  · simp [chk] at h
  · exact ⟨rfl, h⟩
theorem shift_ok {P : Program} (w : World) (op : BinOp) (k yk : IntKind) (x y : Int) (hy : 0 ≤ y) {K : Value → Option ρ} {r : ρ} (h : evShift op k x y K = some r) :
    ∃ v, K v = some r ∧ (Op.shift op k x yk y).run P w = .ok v w := by
  have hn : ¬ y < 0 := by omega
  unfold evShift at h
  cases op <;> simp at h
  all_goals exact ⟨_, h, by simp [Op.shift, hn]⟩
theorem run_equalIn_bool {P : Program} (w : World) (d : Nat) (t : TypeId) (ht : P.underlying t = some .bool) (x y : Bool) : (Op.equalIn (d + 1) t (.bool x) (.bool y)).run P w = .ok (x == y) w := by
  simp only [Op.equalIn, Sem.run_bind, run_underlying ht, Result.andThen_ok]
  rfl
theorem run_binOp_bool {P : Program} (w : World) (t : TypeId) (ht : P.underlying t = some .bool) (x y : Bool) :
    (binOp .eql t (.bool x) (.bool y)).run P w = .ok (.bool (x == y)) w ∧ (binOp .neq t (.bool x) (.bool y)).run P w = .ok (.bool (!(x == y))) w := by
  have h : (Op.equal t (.bool x) (.bool y)).run P w = .ok (x == y) w := run_equalIn_bool w 9999 t ht x y
  constructor <;> simp only [binOp, Sem.run_bind, h, Result.andThen_ok] <;> rfl
theorem evBin_sound {P : Program} (w : World) (op : BinOp) (t : TypeId) (td : Option TypeDesc) (htd : ∀ d, td = some d → P.underlying t = some d) (v u : Value) (lit : Bool) (hlit : lit = true → ∀ k n, u = .int k n → 0 < n) (K : Value → Option ρ) (r : ρ)
    (h : evBin td op v u lit K = some r) : plain v = true ∧ ∃ x, K x = some r ∧ (binOp op t v u).run P w = .ok x w := by
  unfold evBin at h
  split at h
  · rename_i k n yk m
    refine ⟨rfl, ?_⟩
    split at h
    · rename_i hl
      have := hlit hl yk m rfl
      obtain ⟨x, h1, h2⟩ := shift_ok (P := P) w .shl k yk n m (by omega) h
      exact ⟨x, h1, h2⟩
    · obtain ⟨hm, h⟩ := chk_some h
      obtain ⟨x, h1, h2⟩ := shift_ok (P := P) w .shl k yk n m (of_decide_eq_true hm) h
      exact ⟨x, h1, h2⟩
  · rename_i k n yk m
    refine ⟨rfl, ?_⟩
    split at h
    · rename_i hl
      have := hlit hl yk m rfl
      obtain ⟨x, h1, h2⟩ := shift_ok (P := P) w .shr k yk n m (by omega) h
      exact ⟨x, h1, h2⟩
    · obtain ⟨hm, h⟩ := chk_some h
      obtain ⟨x, h1, h2⟩ := shift_ok (P := P) w .shr k yk n m (of_decide_eq_true hm) h
      exact ⟨x, h1, h2⟩
  · rename_i x y
    obtain ⟨hm, h⟩ := chk_some h
    refine ⟨rfl, _, h, ?_⟩
    have hm := of_decide_eq_true hm
    have : ¬ (((x.size + y.size : Nat) : Int) > IntKind.i64.max) := by
      have e : IntKind.i64.max = 9223372036854775807 := rfl
      rw [e]; omega
    simp only [binOp, Op.stringOp, if_neg this]; rfl
  · rename_i k n k' m
    refine ⟨rfl, ?_⟩
    split at h
    · rename_i hk
      subst hk
      split at h
      · split at h
        · rename_i x hx
          exact ⟨x, h, by simpa [binOp] using pureVal_run hx w⟩
        · cases h
      · obtain ⟨hm, h⟩ := chk_some h
        have hm := of_decide_eq_true hm
        exact ⟨_, h, by simp [binOp, Op.intDiv, hm]⟩
    · cases h
  · rename_i k n k' m
    refine ⟨rfl, ?_⟩
    split at h
    · rename_i hk
      subst hk
      split at h
      · split at h
        · rename_i x hx
          exact ⟨x, h, by simpa [binOp] using pureVal_run hx w⟩
        · cases h
      · obtain ⟨hm, h⟩ := chk_some h
        have hm := of_decide_eq_true hm
        exact ⟨_, h, by simp [binOp, Op.intDiv, hm]⟩
    · cases h
  · rename_i op k n k' m hs1 hs2 hd1 hd2
    refine ⟨rfl, ?_⟩
    split at h
    · rename_i hk
      subst hk
      split at h
      · rename_i x hx
        refine ⟨x, h, ?_⟩
        have key : ∀ o : BinOp, o ≠ .shl → o ≠ .shr → o ≠ .quo → o ≠ .rem → (match o with
            | .add | .sub | .mul => pureVal (Op.intArith o k n m)
            | .and | .or | .xor | .andNot => pureVal (Op.intBits o k n m)
            | _ => pureVal (Op.intCmp o n m)) = some x → (binOp o t (.int k n) (.int k m)).run P w = .ok x w := by
          intro o g1 g2 g3 g4 hx
          cases o <;> first | exact absurd rfl g1 | exact absurd rfl g2 | exact absurd rfl g3 | exact absurd rfl g4 | (simp only [binOp, ne_eq, not_true_eq_false, if_false]; exact pureVal_run hx w)
        exact key _ hs1 hs2 hd1 hd2 hx
      · cases h
    · cases h
  · rename_i op x y hs
    refine ⟨rfl, ?_⟩
    split at h <;> first
      | cases h
      | (split at h
         · rename_i z hz
           exact ⟨z, h, by simpa [binOp] using pureVal_run hz w⟩
         · cases h)
  · rename_i x y
    refine ⟨rfl, ?_⟩
    split at h
    · exact ⟨_, h, (run_binOp_bool w t (htd _ rfl) x y).1⟩
    · cases h
  · rename_i x y
    refine ⟨rfl, ?_⟩
    split at h
    · exact ⟨_, h, (run_binOp_bool w t (htd _ rfl) x y).2⟩
    · cases h
  · cases h
theorem isLit_ok {x : Operand} {a : Act} (h : isLit x = true) {k : IntKind} {n : Int} (hx : a.eval x = .int k n) : 0 < n := by
  unfold isLit at h
  split at h
  · rename_i kk m
    simp [Act.eval] at hx
    obtain ⟨_, rfl⟩ := hx
    cases m with
    | ofNat m => simp [isNN] at h; show (0 : Int) < (m : Int); omega
    | negSucc m => simp [isNN] at h
  · cases h
end
end Go.Px
