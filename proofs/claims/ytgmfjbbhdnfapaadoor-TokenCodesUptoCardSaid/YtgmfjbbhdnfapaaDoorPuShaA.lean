/- Words in lists, loops that count. -/
import Derived.Test.YtgmfjbbhdnfapaaDoorPuSha
import Derived.Test.YtgmfjbbhdnfapaaDoorPuWord
set_option linter.unusedVariables false
set_option linter.unusedSimpArgs false
namespace Go.Px.Pu
open Go Go.Px

theorem traj {ρ σ : Type} {step : σ → (σ → Option ρ) → Option ρ} (st : Nat → σ) (r : Option ρ) (n : Nat) (h : ∀ i, i < n → ∀ κ, step (st i) κ = κ (st (i + 1))) (he : ∀ κ, step (st n) κ = r) : ∀ m, n < m → loopN m step (st 0) = r := by
  have key : ∀ d j, j + d = n → ∀ m, d < m → loopN m step (st j) = r := by
    intro d
    induction d with
    | zero =>
      intro j hj m hm
      cases m with
      | zero => omega
      | succ m =>
        have : j = n := by omega
        subst this
        exact he _
    | succ d ih =>
      intro j hj m hm
      cases m with
      | zero => omega
      | succ m =>
        show step (st j) (loopN m step) = r
        rw [h j (by omega)]
        exact ih (j + 1) (by omega) m (by omega)
  intro m hm
  exact key n 0 (by omega) m hm
def wI (x : W) : Int := (x.toNat : Int)
def tI (l : List W) : List Int := l.map wI
theorem tI_length (l : List W) : (tI l).length = l.length := by simp [tI]
theorem tI_append (a b : List W) : tI (a ++ b) = tI a ++ tI b := by simp [tI]
theorem tI_getD (l : List W) (i : Nat) : (tI l).getD i (0 : Int) = wI (l.getD i 0) := by
  simp only [tI, List.getD_eq_getElem?_getD, List.getElem?_map]
  cases l[i]? <;> rfl
theorem tI_set (l : List W) (i : Nat) (x : W) : (tI l).set i (wI x) = tI (l.set i x) := by simp [tI, List.map_set]
theorem tI_zero (n : Nat) : tI (List.replicate n 0) = List.replicate n (0 : Int) := by simp [tI, List.map_replicate]; exact .inr rfl
theorem wxor (x y : W) : ixor .u32 (wI x) (wI y) = wI (x ^^^ y) := ixor32 x y
theorem wand (x y : W) : iand .u32 (wI x) (wI y) = wI (x &&& y) := iand32 x y
theorem wor (x y : W) : ior .u32 (wI x) (wI y) = wI (x ||| y) := ior32 x y
theorem wadd (x y : W) : iadd .u32 (wI x) (wI y) = wI (x + y) := iadd32 x y
theorem wnot (x : W) : inot .u32 (wI x) = wI (~~~ x) := inot32 x
theorem wshr (x : W) (n : Nat) (hn : n ≤ 32) : ishr .u32 (wI x) (n : Int) = wI (x >>> n) := ishr32 x n hn
theorem wshl (x : W) (n : Nat) (hn : n ≤ 32) : ishl .u32 (wI x) (n : Int) = wI (x <<< n) := ishl32 x n hn
theorem wwrap (n : Int) : IntKind.wrap .u32 n = wI (BitVec.ofInt 32 n) := wrap32 n
theorem rotL (x : W) (n k : Nat) (h : k + n = 32) : ior .u32 (ishl .u32 (wI x) (k : Int)) (ishr .u32 (wI x) (n : Int)) = wI (rotr x n) := by
  rw [wshl x k (by omega), wshr x n (by omega), wor, rotr, BitVec.or_comm, show 32 - n = k by omega]
theorem rotR (x : W) (n k : Nat) (h : k + n = 32) : ior .u32 (ishr .u32 (wI x) (n : Int)) (ishl .u32 (wI x) (k : Int)) = wI (rotr x n) := by
  rw [wshl x k (by omega), wshr x n (by omega), wor, rotr, show 32 - n = k by omega]
/-- one more of a row is written -/
theorem set_grow {α : Type} (l : List α) (z : α) (m i : Nat) (x : α) (hl : l.length = i) : (l ++ List.replicate (m + 1) z).set i x = (l ++ [x]) ++ List.replicate m z := by
  subst hl
  rw [List.set_append_right _ _ (Nat.le_refl _), Nat.sub_self]
  simp [List.replicate_succ]
theorem getD_app {α : Type} (a b : List α) (i : Nat) (d : α) (h : i < a.length) : (a ++ b).getD i d = a.getD i d := by
  simp only [List.getD_eq_getElem?_getD, List.getElem?_append_left h]
theorem sched_succ : ∀ (n : Nat) (l : List W), sched (n + 1) l = sched n l ++ [wNext (sched n l)]
  | 0, l => rfl
  | n + 1, l => by
    show sched (n + 1) (l ++ [wNext l]) = _
    rw [sched_succ n]; rfl
theorem sched_length : ∀ (n : Nat) (l : List W), (sched n l).length = l.length + n
  | 0, l => rfl
  | n + 1, l => by show (sched n (l ++ [wNext l])).length = _; rw [sched_length n]; simp; omega
theorem words_length (p : List Int) : (words p).length = 16 := by simp [words]
theorem words_take (p : List Int) (i : Nat) (h : i < 16) : (words p).take (i + 1) = (words p).take i ++ [word p i] := by
  rw [List.take_succ_eq_append_getElem (by rw [words_length]; exact h)]
  congr 2
  simp [words]
theorem rounds_append : ∀ (l m : List (W × W)) (v : V8), rounds (l ++ m) v = rounds m (rounds l v)
  | [], m, v => rfl
  | (k, w) :: r, m, v => rounds_append r m (rnd k w v)
theorem V8.len (v : V8) : v.list.length = 8 := rfl
end Go.Px.Pu
