/- What a slot's contents mean in memory, and how that is kept. -/
import Derived.Test.YtpmnipaimoaagaaDoorPx1
import Derived.Below
set_option linter.unusedVariables false
set_option linter.unusedSimpArgs false
namespace Go.Px
open Go Go.RowKit

def blkSize (w : World) (b : Nat) : Nat := match w.heap[b]? with
  | some (.cells c _ _) => c.size
  | _ => 0
def Harm (fr : Nat × Nat) (n : Nat) : Prop := fr.1 ≤ fr.2 ∧ ∀ j, j < n → ¬ (fr.1 ≤ j ∧ j < fr.2)
theorem harm_zero (n : Nat) : Harm (0, 0) n := ⟨Nat.le_refl _, fun j _ h => Nat.not_lt_zero _ h.2⟩
/-- the cells that stand from o on -/
def Has (cur : Array Value) (o : Nat) (xs : List Value) : Prop := ∀ (j : Nat) (x : Value), xs[j]? = some x → cur[o + j]? = some x
def OwnRep (w : World) (Mi : Nat → Prop) (C : Cod) (l : List C.α) (ℓ : Option (Nat × Nat)) (v : Value) : Prop :=
  (ℓ = none ∧ v = .slice none 0 0 ∧ l = []) ∨
  ∃ b o cap cur e fr, ℓ = some (b, o) ∧ v = .slice (some ⟨b, o, none⟩) l.length cap ∧ Mi b ∧ w.heap[b]? = some (.cells cur e fr) ∧ Harm fr cur.size ∧ l.length ≤ cap ∧
    o + cap * C.sz ≤ cur.size ∧ Has cur o (flat C l)
/-- a slice of n elements that is told as far as its room goes -/
def SprRep (w : World) (Mi : Nat → Prop) (C : Cod) (l : List C.α) (n : Nat) (ℓ : Option (Nat × Nat)) (v : Value) : Prop :=
  n ≤ l.length ∧ ∃ b o cur e fr, ℓ = some (b, o) ∧ v = .slice (some ⟨b, o, none⟩) n l.length ∧ Mi b ∧ w.heap[b]? = some (.cells cur e fr) ∧ Harm fr cur.size ∧ o + l.length * C.sz ≤ cur.size ∧ Has cur o (flat C l)
/-- contents that nobody writes, in blocks of those before -/
def RoRep (w : World) (Lo : Nat → Prop) (C : Cod) (l : List C.α) (v : Value) : Prop :=
  ∃ a cap, v = .slice a l.length cap ∧ l.length ≤ cap ∧ (l = [] ∨ ∃ b o cur e fr, a = some ⟨b, o, none⟩ ∧ Lo b ∧ w.heap[b]? = some (.cells cur e fr) ∧ Has cur o (flat C l))
def segOk (w : World) (Lo : Nat → Prop) : Seg → Prop
  | .one v => v.cells = #[v]
  | .arr _ n l => l.length = n
  | .ro a cap C l => RoRep w Lo C l (.slice a l.length cap)
def segsOk (w : World) (Lo : Nat → Prop) (ss : List Seg) : Prop := ∀ s ∈ ss, segOk w Lo s
/-- no slice among them -/
def segsPl (ss : List Seg) : Prop := ∀ w Lo, segsOk w Lo ss
theorem segsPl_of {w : World} {Lo : Nat → Prop} {ss : List Seg} (h : segsOk w Lo ss) (hn : noRo ss = true) : segsPl ss := fun w' Lo' s hs => by
  have h1 := h s hs
  have h2 := List.all_eq_true.1 hn s hs
  cases s with
  | ro a cap C l => cases h2
  | _ => exact h1
def D1Rep (w : World) (Mi : Nat → Prop) (d : D1) (ℓ : Option (Nat × Nat)) (v : Value) : Prop :=
  match d with
  | .junk => True
  | .raw x => v = x
  | .arr C n l => l.length = n ∧ v = .agg (flat C l).toArray
  | .strc ss => segsPl ss ∧ v = .agg (segCells ss).toArray
  | .own C l => OwnRep w Mi C l ℓ v

/-- B: the blocks from B on are ours; M: those that were handed over to be written -/
structure Cx where
  P : Program
  B : Nat
  G : Nat → Option (List Seg)
  M : Nat → Prop
def noM : Nat → Prop := fun _ => False
def Cx.Low (X : Cx) (b : Nat) : Prop := b < X.B ∧ ¬ X.M b
def Cx.Mine (X : Cx) (b : Nat) : Prop := X.B ≤ b ∨ X.M b
theorem Cx.low_mine {X : Cx} {b c : Nat} (h : X.Low b) (k : X.Mine c) : b ≠ c := fun e => by
  subst e
  rcases k with k | k
  · exact Nat.lt_irrefl _ (Nat.lt_of_lt_of_le h.1 k)
  · exact h.2 k
structure Kept (X : Cx) (w w' : World) : Prop where
  os : w'.os = w.os
  tape : w'.tape = w.tape
  output : w'.output = w.output
  size : w.heap.size ≤ w'.heap.size
  block : ∀ k, X.Low k → w'.heap[k]? = w.heap[k]?
theorem Kept.refl (X : Cx) (w : World) : Kept X w w := ⟨rfl, rfl, rfl, Nat.le_refl _, fun _ _ => rfl⟩
theorem Kept.trans {X : Cx} {a b c : World} (h : Kept X a b) (k : Kept X b c) : Kept X a c :=
  ⟨k.os.trans h.os, k.tape.trans h.tape, k.output.trans h.output, Nat.le_trans h.size k.size, fun i hi => (k.block i hi).trans (h.block i hi)⟩
theorem Kept.of {X : Cx} {w w' : World} {B : Nat} (h : Below B w w') (hB : X.B ≤ B) : Kept X w w' := ⟨h.os, h.tape, h.output, h.size, fun k hk => h.block k (Nat.lt_of_lt_of_le hk.1 hB)⟩
theorem Kept.below {P : Program} {B : Nat} {G : Nat → Option (List Seg)} {w w' : World} (h : Kept ⟨P, B, G, noM⟩ w w') : Below B w w' := ⟨h.os, h.tape, h.output, h.size, fun k hk => h.block k ⟨hk, id⟩⟩

section
variable (X : Cx)
def Rep (w : World) (S : St) (tmps : Array Value) (loc : Nat → Nat → Option (Nat × Nat)) (ℓ : Nat → Option (Nat × Nat)) (p : PV) (v : Value) : Prop :=
  match p with
  | .junk => True
  | .raw x => v = x
  | .arr C n l => l.length = n ∧ v = .agg (flat C l).toArray
  | .strc ss => segsOk w X.Low ss ∧ v = .agg (segCells ss).toArray
  | .ros C l => RoRep w X.Low C l v
  | .own C l => OwnRep w X.Mine C l (ℓ 0) v
  | .spr C l n => SprRep w X.Mine C l n (ℓ 0) v
  | .tup ds => ∃ vs : Array Value, v = .tuple vs ∧ vs.size = ds.length ∧ ∀ (j : Nat) d, ds[j]? = some d → ∃ u, vs[j]? = some u ∧ D1Rep w X.Mine d (ℓ j) u
  | .obj ss => ∃ b cur e fr, ℓ 0 = some (b, 0) ∧ v = .pointer (some ⟨b, 0, none⟩) ∧ X.Mine b ∧ w.heap[b]? = some (.cells cur e fr) ∧ Harm fr cur.size ∧ segsOk w X.Low ss ∧ cur = (segCells ss).toArray
  | .iter s pos => ∃ b, ℓ 0 = some (b, 0) ∧ v = .pointer (some ⟨b, 0, none⟩) ∧ X.Mine b ∧ w.heap[b]? = some (.stringIter s pos)
  | .alias k => tmps[k]? = some v
  | .view k g off len => ∃ base sz cnt, shp (get S k) g = some (base, sz, cnt) ∧ off + len ≤ cnt ∧
      ((loc k 0 = none ∧ v = .slice none 0 0 ∧ len = 0) ∨
       ∃ b o o' cap, loc k 0 = some (b, o) ∧ v = .slice (some ⟨b, o', none⟩) len cap ∧ len ≤ cap ∧ (len = 0 ∨ o' = o + base + off * sz) ∧ o' + cap * sz ≤ blkSize w b ∧
         (isObj (get S k) = true → cap + off = cnt))
  | .ptr k g idx f => ∃ base sz cnt b o, shp (get S k) g = some (base, sz, cnt) ∧ loc k 0 = some (b, o) ∧ idx < cnt ∧ f < sz ∧ v = .pointer (some ⟨b, o + base + idx * sz + f, none⟩)
  | .gl g => v = .pointer (some ⟨g, 0, none⟩)
  | .gptr g s idx f => ∃ ss base sz cnt, X.G g = some ss ∧ shp (.obj ss) s = some (base, sz, cnt) ∧ idx < cnt ∧ f < sz ∧ v = .pointer (some ⟨g, base + idx * sz + f, none⟩)
  | .fptr C l idx f => ∃ b o cur e fr, idx < l.length ∧ f < C.sz ∧ v = .pointer (some ⟨b, o + idx * C.sz + f, none⟩) ∧ X.Low b ∧ w.heap[b]? = some (.cells cur e fr) ∧ Has cur o (flat C l)

/-- the globals read as they are laid -/
def GOk (w : World) : Prop := ∀ g ss, X.G g = some ss → X.Low g ∧ segsOk w X.Low ss ∧ ∃ cur e fr, w.heap[g]? = some (.cells cur e fr) ∧ Has cur 0 (segCells ss)

structure Sim (w0 : World) (S : St) (a : Act) (w : World) (loc : Nat → Nat → Option (Nat × Nat)) : Prop where
  len : a.tmps.size = S.length
  defers : a.defers = []
  hB : X.B ≤ w.heap.size
  below : Kept X w0 w
  glob : GOk X w
  rep : ∀ (i : Nat) p, S[i]? = some p → ∃ v, a.tmps[i]? = some v ∧ Rep X w S a.tmps loc (loc i) p v
  ref : ∀ (i : Nat) p k, S[i]? = some p → p.ref = some k → (get S k).owns = true
  sep : ∀ i j i' j' b o o', loc i j = some (b, o) → loc i' j' = some (b, o') → i = i' ∧ j = j'
  dom : ∀ i, (get S i).owns = false → ∀ j, loc i j = none
  lt : ∀ i j b o, loc i j = some (b, o) → b < w.heap.size ∧ X.Mine b
  pin : ∀ b, X.M = (· = b) → isObj (get S 0) = true ∧ loc 0 0 = some (b, 0)

variable {X}
theorem get_eq {S : St} {i : Nat} {p : PV} (h : S[i]? = some p) : get S i = p := by simp [get, List.getD, h]
theorem get_none {S : St} {i : Nat} (h : S[i]? = none) : get S i = .junk := by simp [get, List.getD, h]
theorem get_some {S : St} {i : Nat} (h : (get S i).owns = true) : S[i]? = some (get S i) := by
  cases hs : S[i]? with
  | none => rw [get_none hs] at h; simp [PV.owns] at h
  | some p => rw [get_eq hs]
theorem get_of_ne {S : St} {i : Nat} (h : get S i ≠ .junk) : S[i]? = some (get S i) := by
  cases hs : S[i]? with
  | none => rw [get_none hs] at h; exact absurd rfl h
  | some p => rw [get_eq hs]

theorem OwnRep.frame {w w' : World} {B : Nat → Prop} {C : Cod} {l : List C.α} {ℓ : Option (Nat × Nat)} {v : Value} (h : OwnRep w B C l ℓ v)
    (hh : ∀ b o, ℓ = some (b, o) → w'.heap[b]? = w.heap[b]?) : OwnRep w' B C l ℓ v := by
  rcases h with h | ⟨b, o, cap, cur, e, fr, h1, h2, h3, h4, h5⟩
  · exact .inl h
  · exact .inr ⟨b, o, cap, cur, e, fr, h1, h2, h3, by rw [hh b o h1]; exact h4, h5⟩
theorem RoRep.frame {w w' : World} {B : Nat → Prop} {C : Cod} {l : List C.α} {v : Value} (h : RoRep w B C l v) (hh : ∀ b, B b → w'.heap[b]? = w.heap[b]?) : RoRep w' B C l v := by
  obtain ⟨a, cap, h1, h2, h3⟩ := h
  refine ⟨a, cap, h1, h2, h3.imp id ?_⟩
  rintro ⟨b, o, cur, e, fr, g1, g2, g3, g4⟩
  exact ⟨b, o, cur, e, fr, g1, g2, by rw [hh b g2]; exact g3, g4⟩
theorem segOk.frame {w w' : World} {B : Nat → Prop} {s : Seg} (h : segOk w B s) (hh : ∀ b, B b → w'.heap[b]? = w.heap[b]?) : segOk w' B s := by
  cases s with
  | ro a cap C l => exact RoRep.frame h hh
  | _ => exact h
theorem segsOk.frame {w w' : World} {B : Nat → Prop} {ss : List Seg} (h : segsOk w B ss) (hh : ∀ b, B b → w'.heap[b]? = w.heap[b]?) : segsOk w' B ss := fun s hs => (h s hs).frame hh
theorem RoRep.mono {w : World} {B B' : Nat → Prop} {C : Cod} {l : List C.α} {v : Value} (h : RoRep w B C l v) (hh : ∀ b, B b → B' b) : RoRep w B' C l v := by
  obtain ⟨a, cap, h1, h2, h3⟩ := h
  refine ⟨a, cap, h1, h2, h3.imp id ?_⟩
  rintro ⟨b, o, cur, e, fr, g1, g2, g3, g4⟩
  exact ⟨b, o, cur, e, fr, g1, hh b g2, g3, g4⟩
theorem segsOk.mono {w : World} {B B' : Nat → Prop} {ss : List Seg} (h : segsOk w B ss) (hh : ∀ b, B b → B' b) : segsOk w B' ss := fun s hs => by
  have h := h s hs
  cases s with
  | ro a cap C l => exact RoRep.mono h hh
  | _ => exact h
theorem Cx.low_of {X : Cx} {b : Nat} (h : ¬ X.Mine b) : X.Low b := ⟨Nat.lt_of_not_le fun k => h (.inl k), fun k => h (.inr k)⟩
theorem Cx.of_low {X : Cx} {b : Nat} (h : X.Low b) : ¬ X.Mine b := fun k => Cx.low_mine h k rfl
theorem D1Rep.frame {w w' : World} {B : Nat → Prop} {d : D1} {ℓ : Option (Nat × Nat)} {v : Value} (h : D1Rep w B d ℓ v)
    (hh : ∀ b o, ℓ = some (b, o) → w'.heap[b]? = w.heap[b]?) : D1Rep w' B d ℓ v := by
  cases d with
  | own C l => exact OwnRep.frame h hh
  | _ => exact h

/-- the meaning of a slot hangs on its own blocks, those below B, the places that it names, and the sizes of blocks -/
theorem Rep.frame' {w w' : World} {S S' : St} {tmps tmps' : Array Value} {loc loc' : Nat → Nat → Option (Nat × Nat)} {ℓ : Nat → Option (Nat × Nat)} {p : PV} {v : Value}
    (h : Rep X w S tmps loc ℓ p v)
    (hown : ∀ j b o, ℓ j = some (b, o) → w'.heap[b]? = w.heap[b]?)
    (hlow : ∀ b, X.Low b → w'.heap[b]? = w.heap[b]?)
    (hsz : ∀ k b o, p.ref = some k → loc k 0 = some (b, o) → blkSize w b ≤ blkSize w' b)
    (hk : ∀ k, p.ref = some k → (∀ g, shp (get S' k) g = shp (get S k) g) ∧ isObj (get S' k) = isObj (get S k) ∧ tmps'[k]? = tmps[k]? ∧ loc' k 0 = loc k 0) :
    Rep X w' S' tmps' loc' ℓ p v := by
  cases p with
  | junk => trivial
  | raw x => exact h
  | arr C n l => exact h
  | strc ss => exact ⟨h.1.frame hlow, h.2⟩
  | ros C l => exact RoRep.frame h hlow
  | own C l => exact OwnRep.frame h (hown 0)
  | spr C l n =>
    obtain ⟨h0, b, o, cur, e, fr, h1, h2, h3, h4, h5⟩ := h
    exact ⟨h0, b, o, cur, e, fr, h1, h2, h3, by rw [hown 0 b o h1]; exact h4, h5⟩
  | tup ds =>
    obtain ⟨vs, h1, h2, h3⟩ := h
    refine ⟨vs, h1, h2, fun j d hj => ?_⟩
    obtain ⟨u, hu, hr⟩ := h3 j d hj
    exact ⟨u, hu, hr.frame (hown j)⟩
  | obj ss =>
    obtain ⟨b, cur, e, fr, h1, h2, h3, h4, h5, h6, h7⟩ := h
    exact ⟨b, cur, e, fr, h1, h2, h3, by rw [hown 0 b 0 h1]; exact h4, h5, h6.frame hlow, h7⟩
  | iter s pos =>
    obtain ⟨b, h1, h2, h3, h4⟩ := h
    exact ⟨b, h1, h2, h3, by rw [hown 0 b 0 h1]; exact h4⟩
  | alias k =>
    obtain ⟨_, _, h3, _⟩ := hk k rfl
    show tmps'[k]? = some v
    rw [h3]; exact h
  | view k g off len =>
    obtain ⟨hs, ho, _, hl⟩ := hk k rfl
    obtain ⟨base, sz, cnt, h1, h2, h3⟩ := h
    refine ⟨base, sz, cnt, by rw [hs]; exact h1, h2, ?_⟩
    rw [hl, ho]
    refine h3.imp id ?_
    rintro ⟨b, o, o', cap, g1, g2, g3, g5, g6, g7⟩
    exact ⟨b, o, o', cap, g1, g2, g3, g5, Nat.le_trans g6 (hsz k b o rfl g1), g7⟩
  | ptr k g idx f =>
    obtain ⟨hs, _, _, hl⟩ := hk k rfl
    obtain ⟨base, sz, cnt, b, o, h1, h2, h3⟩ := h
    exact ⟨base, sz, cnt, b, o, by rw [hs]; exact h1, by rw [hl]; exact h2, h3⟩
  | gl g => exact h
  | gptr g s idx f => exact h
  | fptr C l idx f =>
    obtain ⟨b, o, cur, e, fr, h1, h2, h3, h4, h5, h6⟩ := h
    exact ⟨b, o, cur, e, fr, h1, h2, h3, h4, by rw [hlow b h4]; exact h5, h6⟩

theorem Rep.frame {w w' : World} {S S' : St} {tmps tmps' : Array Value} {loc loc' : Nat → Nat → Option (Nat × Nat)} {ℓ : Nat → Option (Nat × Nat)} {p : PV} {v : Value}
    (h : Rep X w S tmps loc ℓ p v)
    (hown : ∀ j b o, ℓ j = some (b, o) → w'.heap[b]? = w.heap[b]?)
    (hlow : ∀ b, X.Low b → w'.heap[b]? = w.heap[b]?)
    (hsz : ∀ b, blkSize w b ≤ blkSize w' b)
    (hk : ∀ k, p.ref = some k → (∀ g, shp (get S' k) g = shp (get S k) g) ∧ isObj (get S' k) = isObj (get S k) ∧ tmps'[k]? = tmps[k]? ∧ loc' k 0 = loc k 0) :
    Rep X w' S' tmps' loc' ℓ p v :=
  h.frame' hown hlow (fun _ b _ _ _ => hsz b) hk

theorem GOk.frame {w w' : World} (h : GOk X w) (hlow : ∀ b, X.Low b → w'.heap[b]? = w.heap[b]?) : GOk X w' := fun g ss hg => by
  obtain ⟨h1, h2, cur, e, fr, h3, h4⟩ := h g ss hg
  exact ⟨h1, h2.frame hlow, cur, e, fr, by rw [hlow g h1]; exact h3, h4⟩

theorem blkSize_of_eq {w w' : World} {b : Nat} (h : w'.heap[b]? = w.heap[b]?) : blkSize w' b = blkSize w b := by simp [blkSize, h]
theorem blkSize_below {w w' : World} (h : Below w.heap.size w w') (b : Nat) : blkSize w b ≤ blkSize w' b := by
  by_cases hb : b < w.heap.size
  · exact Nat.le_of_eq (blkSize_of_eq (h.block b hb)).symm
  · simp [blkSize, Array.getElem?_eq_none (Nat.le_of_not_lt hb)]

variable {w0 : World} {S : St} {a : Act} {w : World} {loc : Nat → Nat → Option (Nat × Nat)}
/-- new blocks, nothing that stood turned -/
theorem Sim.ext (h : Sim X w0 S a w loc) {w' : World} (hb : Below w.heap.size w w') : Sim X w0 S a w' loc := by
  have hlow : ∀ b, X.Low b → w'.heap[b]? = w.heap[b]? := fun b hb' => hb.block b (Nat.lt_of_lt_of_le hb'.1 h.hB)
  refine { h with hB := Nat.le_trans h.hB hb.size, below := h.below.trans (Kept.of hb h.hB), glob := h.glob.frame hlow, rep := fun i p hp => ?_, lt := fun i j b o hl => ?_ }
  · obtain ⟨v, hv, hr⟩ := h.rep i p hp
    exact ⟨v, hv, hr.frame (fun j b o hl => hb.block b (h.lt i j b o hl).1) hlow (blkSize_below hb) (fun k _ => ⟨fun _ => rfl, rfl, rfl, rfl⟩)⟩
  · exact ⟨Nat.lt_of_lt_of_le (h.lt i j b o hl).1 hb.size, (h.lt i j b o hl).2⟩

def locPut (loc : Nat → Nat → Option (Nat × Nat)) (d : Nat) (ℓ : Nat → Option (Nat × Nat)) : Nat → Nat → Option (Nat × Nat) := fun i => if i = d then ℓ else loc i
theorem locPut_same (d : Nat) (ℓ : Nat → Option (Nat × Nat)) : locPut loc d ℓ d = ℓ := by simp [locPut]
theorem locPut_ne {d i : Nat} (h : i ≠ d) (ℓ : Nat → Option (Nat × Nat)) : locPut loc d ℓ i = loc i := by simp [locPut, h]

theorem get_set_ne {S : St} {d i : Nat} {p : PV} (h : i ≠ d) : get (S.set d p) i = get S i := by
  simp [get, List.getD, List.getElem?_set_ne (Ne.symm h)]
theorem get_set_same {S : St} {d : Nat} {p : PV} (h : d < S.length) : get (S.set d p) d = p := by
  simp [get, List.getD, h]
theorem get_map {f : PV → PV} (hf : f .junk = .junk) (S : St) (i : Nat) : get (S.map f) i = f (get S i) := by
  simp only [get, List.getD, List.getElem?_map]
  cases S[i]? <;> simp [hf]
theorem kill1_owns {d : Nat} {p : PV} (h : p.owns = true) : kill1 d p = p := by
  cases p <;> simp_all [kill1, PV.ref, PV.owns]
theorem kill1_ref {d : Nat} {p : PV} {k : Nat} (h : (kill1 d p).ref = some k) : p.ref = some k ∧ k ≠ d := by
  unfold kill1 at h
  split at h
  · simp [PV.ref] at h
  · rename_i hn
    exact ⟨h, fun e => hn (e ▸ h)⟩

/-- behind a kill nothing points to d, and d owns nothing -/
structure Free (S : St) (d : Nat) : Prop where
  own : (get S d).owns = false
  ref : ∀ (i : Nat) p, S[i]? = some p → p.ref ≠ some d

theorem Sim.free (h : Sim X w0 S a w loc) {d : Nat} (ho : (get S d).owns = false) : Free S d :=
  ⟨ho, fun i p hp hr => by have := h.ref i p d hp hr; rw [ho] at this; cases this⟩

theorem pinned_ne {S : St} {d : Nat} (h : pinned S d = false) (ho : isObj (get S 0) = true) : d ≠ 0 := fun e => by subst e; simp [pinned, ho] at h
theorem isObj_owns {p : PV} (h : isObj p = true) : p.owns = true := by cases p <;> simp_all [isObj, PV.owns]
theorem pinned_of_owns {S : St} {d : Nat} (h : (get S d).owns = false) : pinned S d = false := by
  cases d with
  | zero => cases hp : get S 0 <;> rw [hp] at h <;> simp_all [pinned, isObj, PV.owns]
  | succ d => rfl
theorem pinned_of_obj {S : St} {d : Nat} (h : isObj (get S d) = false) : pinned S d = false := by
  cases d with
  | zero => simp [pinned, h]
  | succ d => rfl
theorem Sim.kill (h : Sim X w0 S a w loc) (d : Nat) (hn : pinned S d = false) : ∃ loc', Sim X w0 (kill S d) a w loc' ∧ Free (kill S d) d ∧ (∀ i, i ≠ d → loc' i = loc i) ∧ (∀ j, loc' d j = none) := by
  unfold Px.kill
  split
  · rename_i ho
    have hd : d < S.length := by
      have := get_some ho
      exact (List.getElem?_eq_some_iff.1 this).1
    have hget : ∀ i, i ≠ d → get ((S.map (kill1 d)).set d .junk) i = kill1 d (get S i) := fun i hi => by
      rw [get_set_ne hi, get_map rfl]
    have hgd : get ((S.map (kill1 d)).set d .junk) d = .junk := get_set_same (by simpa using hd)
    have hel : ∀ (i : Nat) p, ((S.map (kill1 d)).set d .junk)[i]? = some p → (i = d ∧ p = .junk) ∨ (i ≠ d ∧ ∃ q, S[i]? = some q ∧ p = kill1 d q) := fun i p hp => by
      by_cases hi : i = d
      · subst hi; left; simp [hd] at hp; exact ⟨rfl, hp.symm⟩
      · right
        rw [List.getElem?_set_ne (Ne.symm hi), List.getElem?_map] at hp
        cases hs : S[i]? with
        | none => rw [hs] at hp; cases hp
        | some q => rw [hs] at hp; exact ⟨hi, q, rfl, by simpa using hp.symm⟩
    refine ⟨locPut loc d fun _ => none, { h with len := by simpa using h.len, rep := ?_, ref := ?_, sep := ?_, dom := ?_, lt := ?_, pin := fun b hb => ?_ }, ⟨by rw [hgd]; rfl, ?_⟩, fun i hi => locPut_ne hi _, fun j => by rw [locPut_same]⟩
    · intro i p hp
      rcases hel i p hp with ⟨rfl, rfl⟩ | ⟨hi, q, hq, rfl⟩
      · obtain ⟨v, hv, _⟩ := h.rep i _ (get_some ho)
        exact ⟨v, hv, trivial⟩
      · obtain ⟨v, hv, hr⟩ := h.rep i q hq
        refine ⟨v, hv, ?_⟩
        rw [locPut_ne hi]
        by_cases hr' : q.ref = some d
        · simp [kill1, hr']; trivial
        · simp only [kill1, hr', if_false]
          refine hr.frame (fun _ _ _ _ => rfl) (fun _ _ => rfl) (fun _ => Nat.le_refl _) (fun k hk => ?_)
          have hkd : k ≠ d := fun e => hr' (e ▸ hk)
          have hko := h.ref i q k hq hk
          rw [hget k hkd, kill1_owns hko, locPut_ne hkd]
          exact ⟨fun _ => rfl, rfl, rfl, rfl⟩
    · intro i p k hp hk
      rcases hel i p hp with ⟨rfl, rfl⟩ | ⟨hi, q, hq, rfl⟩
      · simp [PV.ref] at hk
      · obtain ⟨hk1, hk2⟩ := kill1_ref hk
        have hko := h.ref i q k hq hk1
        rw [hget k hk2, kill1_owns hko]; exact hko
    · intro i j i' j' b o o' h1 h2
      by_cases hi : i = d
      · subst hi; rw [locPut_same] at h1; cases h1
      · by_cases hi' : i' = d
        · subst hi'; rw [locPut_same] at h2; cases h2
        · rw [locPut_ne hi] at h1; rw [locPut_ne hi'] at h2; exact h.sep i j i' j' b o o' h1 h2
    · intro i ho' j
      by_cases hi : i = d
      · subst hi; rw [locPut_same]
      · rw [locPut_ne hi]
        rw [hget i hi] at ho'
        refine h.dom i ?_ j
        cases hoi : (get S i).owns with
        | false => rfl
        | true => rw [kill1_owns hoi, hoi] at ho'; cases ho'
    · intro i j b o hl
      by_cases hi : i = d
      · subst hi; rw [locPut_same] at hl; cases hl
      · rw [locPut_ne hi] at hl; exact h.lt i j b o hl
    · obtain ⟨p1, p2⟩ := h.pin b hb
      have hne := Ne.symm (pinned_ne hn p1)
      rw [hget 0 hne, kill1_owns (isObj_owns p1), locPut_ne hne]
      exact ⟨p1, p2⟩
    · intro i p hp hr
      rcases hel i p hp with ⟨rfl, rfl⟩ | ⟨hi, q, hq, rfl⟩
      · simp [PV.ref] at hr
      · exact (kill1_ref hr).2 rfl
  · rename_i ho
    have ho : (get S d).owns = false := by simpa using ho
    exact ⟨loc, h, h.free ho, fun _ _ => rfl, fun j => h.dom d ho j⟩

/-- a value goes into a free slot -/
theorem Sim.set (h : Sim X w0 S a w loc) {d : Nat} (hd : d < S.length) (hf : Free S d) (ℓ : Nat → Option (Nat × Nat)) (p : PV) (v : Value)
    (hrep : Rep X w S a.tmps loc ℓ p v) (href : ∀ k, p.ref = some k → (get S k).owns = true)
    (hℓ : p.owns = false → ∀ j, ℓ j = none) (hsep : ∀ j j' b o o', ℓ j = some (b, o) → ℓ j' = some (b, o') → j = j')
    (hnew : ∀ j b o, ℓ j = some (b, o) → b < w.heap.size ∧ X.Mine b ∧ ∀ i j' o', loc i j' ≠ some (b, o')) :
    Sim X w0 (S.set d p) { a with tmps := a.tmps.setIfInBounds d v } w (locPut loc d ℓ) := by
  have hgk : ∀ k, (get S k).owns = true → k ≠ d := fun k hk e => by rw [e, hf.own] at hk; cases hk
  have hel : ∀ (i : Nat) q, (S.set d p)[i]? = some q → (i = d ∧ q = p ∧ d < S.length) ∨ (i ≠ d ∧ S[i]? = some q) := fun i q hq => by
    by_cases hi : i = d
    · subst hi
      left
      have hlt : i < (S.set i p).length := (List.getElem?_eq_some_iff.1 hq).1
      simp at hlt
      simp [hlt] at hq
      exact ⟨rfl, hq.symm, hlt⟩
    · rw [List.getElem?_set_ne (Ne.symm hi)] at hq; exact .inr ⟨hi, hq⟩
  have hfr : ∀ (q : PV) (ℓ' : Nat → Option (Nat × Nat)) u, (∀ k, q.ref = some k → (get S k).owns = true) → Rep X w S a.tmps loc ℓ' q u →
      Rep X w (S.set d p) (a.tmps.setIfInBounds d v) (locPut loc d ℓ) ℓ' q u := fun q ℓ' u hq hr => by
    refine hr.frame (fun _ _ _ _ => rfl) (fun _ _ => rfl) (fun _ => Nat.le_refl _) (fun k hk => ?_)
    have hkd := hgk k (hq k hk)
    rw [get_set_ne hkd, locPut_ne hkd, Array.getElem?_setIfInBounds_ne (Ne.symm hkd)]
    exact ⟨fun _ => rfl, rfl, rfl, rfl⟩
  refine { h with len := by simpa using h.len, defers := h.defers, rep := ?_, ref := ?_, sep := ?_, dom := ?_, lt := ?_, pin := fun b hb => ?_ }
  · intro i q hq
    rcases hel i q hq with ⟨rfl, rfl, hlt⟩ | ⟨hi, hq⟩
    · refine ⟨v, by simp [h.len, hlt], ?_⟩
      rw [locPut_same]
      exact hfr q ℓ v href hrep
    · obtain ⟨u, hu, hr⟩ := h.rep i q hq
      refine ⟨u, by show (a.tmps.setIfInBounds d v)[i]? = some u; rw [Array.getElem?_setIfInBounds_ne (Ne.symm hi)]; exact hu, ?_⟩
      rw [locPut_ne hi]
      exact hfr q (loc i) u (fun k hk => h.ref i q k hq hk) hr
  · intro i q k hq hk
    have key : (get S k).owns = true := by
      rcases hel i q hq with ⟨rfl, rfl, _⟩ | ⟨_, hq⟩
      · exact href k hk
      · exact h.ref i q k hq hk
    rw [get_set_ne (hgk k key)]; exact key
  · intro i j i' j' b o o' h1 h2
    by_cases hi : i = d
    · subst hi
      rw [locPut_same] at h1
      by_cases hi' : i' = i
      · subst hi'; rw [locPut_same] at h2; exact ⟨rfl, hsep j j' b o o' h1 h2⟩
      · rw [locPut_ne hi'] at h2; exact absurd h2 ((hnew j b o h1).2.2 i' j' o')
    · rw [locPut_ne hi] at h1
      by_cases hi' : i' = d
      · subst hi'; rw [locPut_same] at h2; exact absurd h1 ((hnew j' b o' h2).2.2 i j o)
      · rw [locPut_ne hi'] at h2; exact h.sep i j i' j' b o o' h1 h2
  · intro i ho j
    by_cases hi : i = d
    · subst hi
      rw [locPut_same]
      rw [get_set_same hd] at ho; exact hℓ ho j
    · rw [locPut_ne hi]; rw [get_set_ne hi] at ho; exact h.dom i ho j
  · intro i j b o hl
    by_cases hi : i = d
    · subst hi; rw [locPut_same] at hl; exact ⟨(hnew j b o hl).1, (hnew j b o hl).2.1⟩
    · rw [locPut_ne hi] at hl; exact h.lt i j b o hl
  · obtain ⟨p1, p2⟩ := h.pin b hb
    have hne : (0 : Nat) ≠ d := fun e => by have := hf.own; rw [← e, isObj_owns p1] at this; cases this
    rw [get_set_ne hne, locPut_ne hne]
    exact ⟨p1, p2⟩

theorem kill_get {S : St} {d k : Nat} (hk : k ≠ d) (ho : (get S k).owns = true) : get (kill S d) k = get S k := by
  unfold Px.kill
  split
  · rw [get_set_ne hk, get_map rfl, kill1_owns ho]
  · rfl
theorem kill_length (S : St) (d : Nat) : (kill S d).length = S.length := by
  unfold Px.kill; split <;> simp
/-- a value goes into a slot, whatever stood there -/
theorem Sim.fin (h : Sim X w0 S a w loc) {d : Nat} (hd : d < S.length ∧ pinned S d = false) (ℓ : Nat → Option (Nat × Nat)) (p : PV) (v : Value)
    (hrep : Rep X w S a.tmps loc ℓ p v) (href : ∀ k, p.ref = some k → (get S k).owns = true ∧ k ≠ d)
    (hℓ : p.owns = false → ∀ j, ℓ j = none) (hsep : ∀ j j' b o o', ℓ j = some (b, o) → ℓ j' = some (b, o') → j = j')
    (hnew : ∀ j b o, ℓ j = some (b, o) → b < w.heap.size ∧ X.Mine b ∧ ∀ i j' o', loc i j' ≠ some (b, o')) :
    ∃ loc', Sim X w0 (put S (some d) p) (a.put (some d) v) w loc' := by
  obtain ⟨loc1, h1, hf, hl, hl0⟩ := h.kill d hd.2
  refine ⟨_, h1.set (by rw [kill_length]; exact hd.1) hf ℓ p v ?_ ?_ hℓ hsep ?_⟩
  · refine hrep.frame (fun _ _ _ _ => rfl) (fun _ _ => rfl) (fun _ => Nat.le_refl _) (fun k hk => ?_)
    obtain ⟨h1, h2⟩ := href k hk
    rw [kill_get h2 h1, hl k h2]
    exact ⟨fun _ => rfl, rfl, rfl, rfl⟩
  · intro k hk
    obtain ⟨h1, h2⟩ := href k hk
    rw [kill_get h2 h1]; exact h1
  · intro j b o hj
    obtain ⟨g1, g2, g3⟩ := hnew j b o hj
    refine ⟨g1, g2, fun i j' o' hi => ?_⟩
    by_cases hid : i = d
    · subst hid; rw [hl0] at hi; cases hi
    · rw [hl i hid] at hi; exact g3 i j' o' hi
/-- one that owns nothing -/
theorem Sim.fin0 (h : Sim X w0 S a w loc) {d : Nat} (hd : d < S.length ∧ pinned S d = false) (p : PV) (v : Value) (ho : p.owns = false)
    (hrep : Rep X w S a.tmps loc (fun _ => none) p v) (href : ∀ k, p.ref = some k → (get S k).owns = true ∧ k ≠ d) :
    ∃ loc', Sim X w0 (put S (some d) p) (a.put (some d) v) w loc' :=
  h.fin hd (fun _ => none) p v hrep href (fun _ _ => rfl) (fun _ _ _ _ _ h => by cases h) (fun _ _ _ h => by cases h)
/-- one that owns one new block -/
theorem Sim.fin1 (h : Sim X w0 S a w loc) {d : Nat} (hd : d < S.length ∧ pinned S d = false) (b o : Nat) (p : PV) (v : Value) (ho : p.owns = true)
    (hrep : Rep X w S a.tmps loc (fun j => if j = 0 then some (b, o) else none) p v) (href : p.ref = none)
    (hb : b < w.heap.size ∧ X.Mine b ∧ ∀ i j' o', loc i j' ≠ some (b, o')) :
    ∃ loc', Sim X w0 (put S (some d) p) (a.put (some d) v) w loc' :=
  h.fin hd _ p v hrep (fun k hk => by rw [href] at hk; cases hk) (fun hp => by rw [ho] at hp; cases hp)
    (fun j j' b o o' h1 h2 => by
      split at h1
      · split at h2
        · omega
        · cases h2
      · cases h1)
    (fun j b' o' hj => by
      split at hj
      · cases hj; exact hb
      · cases hj)
end
end Go.Px
