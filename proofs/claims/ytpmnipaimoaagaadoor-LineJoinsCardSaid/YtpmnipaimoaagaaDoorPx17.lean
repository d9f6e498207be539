/- A law's row, out of its function's contract. -/
import Derived.Test.YtpmnipaimoaagaaDoorPx16
import Derived.SizedLaws
import Derived.ChangeSlices
import Derived.SliceStrings
set_option linter.unusedVariables false
set_option linter.unusedSimpArgs false
namespace Go.Px
open Go Go.RowKit Go.ChangeShapes Go.WideShapes

theorem T0.dec_val (t : T0) (x : t.α) : t.dec (t.val x) = some x := by
  cases t <;> simp [T0.dec, T0.val]
theorem SP.proj_inj (p : SP) (x : p.α) : p.proj (p.inj x) = some x := by
  cases p with
  | one t => exact t.dec_val x
  | arr C n => simp [SP.proj, SP.inj]
  | ro C => simp [SP.proj, SP.inj]
theorem spProj_inj : (ps : List SP) → (x : spα ps) → spProj ps (spInj ps x) = some x
  | [], _ => rfl
  | p :: r, x => by simp [spProj, spInj, p.proj_inj, spProj_inj r x.2]
theorem DP.proj_inj (p : DP) (x : p.α) : p.proj (p.inj x) = some x := by
  cases p with
  | dyn => exact Dyn.dec_val x
  | sc t => exact t.dec_val x
  | own C => simp [DP.proj, DP.inj]
  | arr C n => simp [DP.proj, DP.inj]
  | strc ss => exact spProj_inj ss x
theorem dpProj_inj : (ps : List DP) → (x : dpα ps) → dpProj ps ((dpInj ps x).map .one) = some x
  | [], _ => rfl
  | p :: r, x => by simp [dpProj, dpInj, p.proj_inj, dpProj_inj r x.2]
/-- the arguments are what they are told to be -/
def argsOk (w : World) : (pa : List DP) → dpα pa → List Value → Prop
  | [], _, [] => True
  | p :: r, x, v :: vs => ArgRep w (p.inj x.1) v ∧ argsOk w r x.2 vs
  | _, _, _ => False
theorem argsOk_get {w : World} : (pa : List DP) → (x : dpα pa) → (vs : List Value) → argsOk w pa x vs → vs.length = pa.length ∧ ∀ (i : Nat) d, (dpInj pa x)[i]? = some d → ∃ v, vs[i]? = some v ∧ ArgRep w d v
  | [], _, [], _ => ⟨rfl, fun i d h => by simp [dpInj] at h⟩
  | [], _, _ :: _, h => h.elim
  | _ :: _, _, [], h => h.elim
  | p :: r, x, v :: vs, h => by
    obtain ⟨g1, g2⟩ := argsOk_get r x.2 vs h.2
    refine ⟨by simp [g1], fun i d hd => ?_⟩
    cases i with
    | zero => simp [dpInj] at hd; subst hd; exact ⟨v, rfl, h.1⟩
    | succ i => simpa using g2 i d (by simpa [dpInj] using hd)
theorem law_calls {P : Program} {G : Nat → Option (List Seg)} {n : FuncId} {pa : List DP} {F : dpα pa → Option Bool} (hf : FunOk P G n (mkFun pa (.one (.sc .bool)) F)) {w : World} (hG : GOk ⟨P, w.heap.size, G, noM⟩ w) (x : dpα pa) (hx : F x = some true)
    (vs : List Value) (ha : argsOk w pa x vs) : Calls P n vs.toArray w fun e w' => e = .returned (.bool true) ∧ Below w.heap.size w w' := by
  obtain ⟨h1, h2⟩ := argsOk_get pa x vs ha
  let k : DV → Option Bool := fun d => match d with
    | .one (.raw (.bool b)) => if b then some b else none
    | _ => none
  have hrun : (mkFun pa (.one (.sc .bool)) F).run Bool ((dpInj pa x).map .one) k = some true := by
    show ((dpProj pa ((dpInj pa x).map .one)).bind fun x => (F x).bind fun r => k ((RP.one (.sc .bool)).inj r)) = some true
    rw [dpProj_inj]
    simp only [Option.bind_some, hx]
    rfl
  refine (hf Bool _ k true hrun w vs.toArray hG (by simp [h1, dpInj_length]) (fun i d hd => ?_)).mono ?_
  · rw [List.getElem?_map] at hd
    cases hi : (dpInj pa x)[i]? with
    | none => rw [hi] at hd; cases hd
    | some d1 =>
      rw [hi] at hd
      simp only [Option.map_some, Option.some.injEq] at hd
      obtain ⟨v, g1, g2⟩ := h2 i d1 hi
      exact ⟨d1, v, hd.symm, by simpa using g1, g2⟩
  · rintro e w' ⟨d, v, g1, g2, g3, g4⟩
    refine ⟨?_, g3⟩
    have hd : d = .one (.raw (.bool true)) := by
      cases d with
      | tup ds => cases g1
      | one d =>
        cases d with
        | raw u =>
          cases u with
          | bool b => cases b with
            | true => rfl
            | false => cases g1
          | _ => cases g1
        | _ => cases g1
    subst hd
    obtain ⟨ℓ, _, _, _, hd⟩ := g4
    have : v = .bool true := hd
    rw [g2, this]
/-- a slice that came in, by its cells -/
theorem ro_of_cells {w : World} {a : Addr} {t : T0} {l : List t.α} {n cap : Nat} (hl : l.length = n) (hc : n ≤ cap) (h : ∀ i, i < n → w.cell? (a.add i) = some (t.val (l.getD i t.dflt))) :
    RoRep w (· < w.heap.size) (.sc t) l (.slice (some a) n cap) := by
  subst hl
  refine ⟨some a, cap, rfl, hc, ?_⟩
  cases hn : l with
  | nil => exact .inl rfl
  | cons y r =>
    right
    have h0 := h 0 (by simp [hn])
    obtain ⟨b, o, sp⟩ := a
    have hz : (⟨b, o, sp⟩ : Addr).add 0 = ⟨b, o, sp⟩ := by simp [Addr.add]
    rw [hz] at h0
    unfold World.cell? at h0
    split at h0
    · rename_i cur e fr hb
      simp only at hb
      split at h0
      · cases h0
      · rename_i hsp
        have hsp' : sp = none := by cases sp <;> simp_all
        subst hsp'
        have hlt : b < w.heap.size := (Array.getElem?_eq_some_iff.1 hb).1
        refine ⟨b, o, cur, e, fr, rfl, hlt, hb, ?_⟩
        intro j x hj
        rw [flat_sc, List.getElem?_map] at hj
        rw [← hn] at hj
        cases hx : l[j]? with
        | none => rw [hx] at hj; cases hj
        | some z =>
          rw [hx] at hj
          simp only [Option.map_some, Option.some.injEq] at hj
          have hjl := (List.getElem?_eq_some_iff.1 hx).1
          have hcell := h j hjl
          rw [add_lit, cell_of w hb] at hcell
          rw [hcell]
          rw [← hj, List.getD_eq_getElem?_getD, hx]
          rfl
    · cases h0
theorem ro_nil {w : World} {C : Cod} : RoRep w (· < w.heap.size) C [] (.slice none 0 0) := ⟨none, 0, rfl, Nat.le_refl _, .inl rfl⟩
/-- a row's slice of whole numbers: its numbers, and how many there may be -/
theorem arg_ints {H : Type} {enc : TypeId × Value → H} {P : Program} {W : World} {base : Nat} {held : Bool} {t e : TypeId} {k : IntKind} {a : Option Addr} {len cap : Nat} {d : DataW H} {ps : List MemPlace} {ts : List TypeId} {ds : List (DataW H)} {j : Nat}
    (hsz : (DataW.weightsEach P ts ds).all (· ≤ reachBytes) = true) (ht : ts[j]? = some t) (hd : ds[j]? = some d) (hu : P.underlying t = some (.slice e)) (he : P.underlying e = some (.int k)) (hc : P.cellsOf e = 1) {B : Nat} (hB : P.bytesOf e = B)
    (h : DataW.Trod enc P W base (fun _ => true) held t (.slice a len cap) d ps) :
    ∃ zs : List Int, RoRep W (· < W.heap.size) (.sc (.int k)) zs (.slice a len cap) ∧ zs.length * B ≤ 140737488351232 ∧ (∀ n ∈ zs, (Lit.int k n).wf = true) ∧ (zs = [] ∨ ∃ sp, d = .slice (lits k zs) sp) := by
  obtain ⟨fuel, hf⟩ := h
  rcases open_ints hu he hc hf with ⟨hcs, _⟩ | ⟨x, l, c, zs, hcs, _, hl, _, hz, hx, hcell, hwf⟩
  · simp [Value.cells] at hcs
    obtain ⟨rfl, rfl, rfl⟩ := hcs
    exact ⟨[], ro_nil, by simp, (fun n hn => by cases hn), .inl rfl⟩
  · simp [Value.cells] at hcs
    obtain ⟨rfl, rfl, rfl⟩ := hcs
    obtain ⟨hx, _⟩ := Prod.mk.inj hx
    subst hx
    have z := sized_slice hsz ht hd hu
    rw [hB] at z
    have hz' : zs.length = cap := by simpa using hz
    have h1 : (lits (H := H) k (zs.take len)).length + (lits (H := H) k (zs.drop len)).length = zs.length := by
      simp [lits]
      omega
    rw [h1] at z
    refine ⟨zs.take len, ro_of_cells (t := .int k) (by simp; omega) hl (fun i hi => ?_), ?_, (fun n hn => hwf n (List.mem_of_mem_take hn)), .inr ⟨_, rfl⟩⟩
    · rw [hcell i (by omega)]
      show _ = some (Value.int k ((zs.take len).getD i (0 : Int)))
      rw [List.getD_eq_getElem?_getD, List.getD_eq_getElem?_getD, List.getElem?_take_of_lt hi]
    · simp only [List.length_take]
      exact Nat.le_trans (Nat.mul_le_mul_right _ (Nat.min_le_right _ _)) z
/-- a row's slice of texts -/
theorem arg_strs {H : Type} {enc : TypeId × Value → H} {P : Program} {W : World} {base : Nat} {held : Bool} {t e : TypeId} {a : Option Addr} {len cap : Nat} {d : DataW H} {ps : List MemPlace} {ts : List TypeId} {ds : List (DataW H)} {j : Nat}
    (hsz : (DataW.weightsEach P ts ds).all (· ≤ reachBytes) = true) (ht : ts[j]? = some t) (hd : ds[j]? = some d) (hu : P.underlying t = some (.slice e)) (he : P.underlying e = some .string) (hc : P.cellsOf e = 1) {B : Nat} (hB : P.bytesOf e = B)
    (h : DataW.Trod enc P W base (fun _ => true) held t (.slice a len cap) d ps) :
    ∃ zs : List ByteArray, RoRep W (· < W.heap.size) (.sc .str) zs (.slice a len cap) ∧ zs.length * B ≤ 140737488351232 ∧ (zs = [] ∨ ∃ sp, d = .slice (strs zs) sp) := by
  obtain ⟨fuel, hf⟩ := h
  rcases open_strings hu he hc hf with ⟨hcs, _⟩ | ⟨x, l, c, zs, hcs, _, hl, _, hz, hx, hcell, _⟩
  · simp [Value.cells] at hcs
    obtain ⟨rfl, rfl, rfl⟩ := hcs
    exact ⟨[], ro_nil, by simp, .inl rfl⟩
  · simp [Value.cells] at hcs
    obtain ⟨rfl, rfl, rfl⟩ := hcs
    obtain ⟨hx, _⟩ := Prod.mk.inj hx
    subst hx
    have z := sized_slice hsz ht hd hu
    rw [hB] at z
    have hz' : zs.length = cap := by simpa using hz
    have h1 : (strs (H := H) (zs.take len)).length + (strs (H := H) (zs.drop len)).length = zs.length := by
      simp [strs]
      omega
    rw [h1] at z
    refine ⟨zs.take len, ro_of_cells (t := .str) (by simp; omega) hl (fun i hi => ?_), ?_, .inr ⟨_, rfl⟩⟩
    · rw [hcell i (by omega)]
      show _ = some (Value.string ((zs.take len).getD i ByteArray.empty))
      rw [List.getD_eq_getElem?_getD, List.getD_eq_getElem?_getD, List.getElem?_take_of_lt hi]
    · simp only [List.length_take]
      exact Nat.le_trans (Nat.mul_le_mul_right _ (Nat.min_le_right _ _)) z
end Go.Px
