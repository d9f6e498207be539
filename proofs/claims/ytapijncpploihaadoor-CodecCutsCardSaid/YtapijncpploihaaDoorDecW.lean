/- codec.Decode walked. -/
import Derived.Test.YtapijncpploihaaDoorDecA
set_option linter.unusedVariables false
set_option linter.unusedSimpArgs false
namespace Go.Px.CodC
open Go Go.RowKit Go.Proofs Go.Px Go.Px.Pu
theorem decO_bad {P : List Int} (h : decV P = none) : decO P = ([], 3, ()) := by unfold decO; rw [h]
theorem decO_ok {P : List Int} {l : List Val} (h : decV P = some l) : decO P = (l, 0, ()) := by unfold decO; rw [h]
abbrev LObj : Obj := .cells #[.slice none 0 0] 39
abbrev EObj : Obj := .cells #[.int .i64 0] 25
abbrev RObj (a : Option Addr) (n cap : Nat) : Obj := .cells #[.slice a n cap, .int .i64 0] 70
/-- the variables of the function, at its start -/
structure Vars (w W : World) (lv : Value) (a : Option Addr) (n cap k : Nat) : Prop where
  low : Below w.heap.size w W
  l : Has1 W w.heap.size lv 39
  e : Has1 W (w.heap.size + 1) (.int .i64 0) 25
  r : Rd W (w.heap.size + 1 + 1) a n cap k
theorem vars_start (w : World) (a : Option Addr) (n cap : Nat) : Vars w (((w.alloc LObj).alloc EObj).alloc (RObj a n cap)) (.slice none 0 0) a n cap 0 := by
  have s1 : (w.alloc LObj).heap.size = w.heap.size + 1 := by simp
  have s2 : ((w.alloc LObj).alloc EObj).heap.size = w.heap.size + 1 + 1 := by simp
  have b1 := alloc_below w LObj
  have b2 := alloc_below (w.alloc LObj) EObj
  have b3 := alloc_below ((w.alloc LObj).alloc EObj) (RObj a n cap)
  have h1 : Has1 (w.alloc LObj) w.heap.size (.slice none 0 0) 39 := ⟨heap_alloc_new w _⟩
  have h2 : Has1 ((w.alloc LObj).alloc EObj) (w.heap.size + 1) (.int .i64 0) 25 := ⟨by rw [← s1]; exact heap_alloc_new _ _⟩
  exact ⟨b1.trans ((b2.mono (by omega)).trans (b3.mono (by omega))), (h1.keep b2).keep b3, h2.keep b3, ⟨by rw [← s2]; exact heap_alloc_new _ _⟩⟩
theorem Vars.keep {w W W' : World} {lv : Value} {a : Option Addr} {n cap k : Nat} (h : Vars w W lv a n cap k) (hb : Below W.heap.size W W') : Vars w W' lv a n cap k :=
  ⟨h.low.trans (hb.mono h.low.size), h.l.keep hb, h.e.keep hb, h.r.keep (hb.block _ h.r.lt)⟩
theorem res22' : Tryd.f22.results = #[.cell 2 39, .cell 3 25] := by kernel_rfl
set_option maxHeartbeats 2000000 in
set_option maxRecDepth 1000000 in
theorem decode_empty (a : Option Addr) (cap : Nat) (w : World) : Calls Tryd.prog 22 #[.slice a 0 cap] w (DecPost w (decO [])) := by
  have hv := vars_start w a 0 cap
  have hd : decO [] = ([], 3, ()) := decO_bad rfl
  go_enter_defers Tryd.func22, Tryd.ntmps22
  go_wp2_with (go_at_call 35; refine (next_dies _ (w.heap.size + 1 + 1) a 0 cap 0 1 hv.r (by omega) (by omega) (by omega) (by omega)).mono ?_)
  rintro e w1 ⟨rfl, b1⟩
  have h1 := hv.keep b1
  refine leave_dead res22' rfl rfl h1.l h1.e (by omega) fun w' hb => post_bad hd (h1.low.trans (hb _ (by omega) (by omega)))
end Go.Px.CodC
