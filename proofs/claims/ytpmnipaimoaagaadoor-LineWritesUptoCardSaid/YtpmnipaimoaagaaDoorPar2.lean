/- line.Parse: what it hands back. -/
import Derived.Test.YtpmnipaimoaagaaDoorPar
import Derived.Deep.QuietTactic
import Derived.BigQuiet
import Derived.RegionTactic
set_option linter.unusedVariables false
set_option linter.unusedSimpArgs false
namespace Go.Px.LinC
open Go Go.RowKit Go.Proofs Go.Px

def bs (l : List UInt8) : ByteArray := ⟨l.toArray⟩
/-- the forms of requests -/
def formsT : List (ByteArray × Int × Int) := [(⟨#[99, 114, 101, 97, 116, 101]⟩, 1, 4), (⟨#[100, 114, 111, 112]⟩, 2, 2), (⟨#[108, 111, 103, 105, 110]⟩, 3, 2), (⟨#[99, 104, 101, 99, 107]⟩, 4, 1), (⟨#[114, 101, 118, 111, 107, 101]⟩, 5, 1), (⟨#[112, 97, 115, 115]⟩, 6, 3), (⟨#[114, 111, 108, 101]⟩, 7, 3), (⟨#[117, 110, 108, 111, 99, 107]⟩, 8, 2), (⟨#[119, 104, 111]⟩, 9, 2), (⟨#[108, 105, 115, 116]⟩, 10, 1), (⟨#[97, 117, 100, 105, 116]⟩, 11, 2)]
def formC (f : ByteArray × Int × Int) : List Value := [.string f.1, .int .u8 f.2.1, .int .i64 f.2.2]
def formsV : List Value := formsT.flatMap formC
def formAt (k : Nat) : ByteArray × Int × Int := formsT.getD k (ByteArray.empty, 0, 0)
def Forms (w : World) : Prop := 0 < w.heap.size ∧ ∃ cur e fr, w.heap[0]? = some (.cells cur e fr) ∧ Has cur 0 formsV
theorem Forms.keep {w w' : World} (h : Forms w) (hb : Below w.heap.size w w') : Forms w' := by
  obtain ⟨h0, cur, e, fr, h1, h2⟩ := h
  exact ⟨Nat.lt_of_lt_of_le h0 hb.size, cur, e, fr, by rw [hb.block 0 h0]; exact h1, h2⟩
theorem tok47 : TOk Tryd.prog 47 (.ar (.strc [.str, .int .u8, .int .i64]) 11 46 352) := tok_ar (C := .strc [.str, .int .u8, .int .i64]) (n := 11) (e := 46) (b := 352) (by kernel_rfl) (by kernel_rfl) (by kernel_rfl) (by kernel_rfl)
theorem load_forms {w : World} (h : Forms w) : (Instr.loadAt 47 (.pointer (some ⟨0, 0, none⟩))).run Tryd.prog w = .ok (.agg formsV.toArray) w := by
  obtain ⟨_, cur, e, fr, h1, h2⟩ := h
  exact load_row (X := ⟨Tryd.prog, 0, fun _ => none, noM⟩) (xs := formsV) tok47 rfl h1 h2 (by kernel_rfl)
theorem index_forms (k : Nat) (hk : k < 11) (w : World) : (Instr.index 47 (.agg formsV.toArray) (.int .i64 (k : Int))).run Tryd.prog w = .ok (.agg #[.string (formAt k).1, .int .u8 (formAt k).2.1, .int .i64 (formAt k).2.2]) w := by
  have h : k = 0 ∨ k = 1 ∨ k = 2 ∨ k = 3 ∨ k = 4 ∨ k = 5 ∨ k = 6 ∨ k = 7 ∨ k = 8 ∨ k = 9 ∨ k = 10 := by omega
  rcases h with rfl | rfl | rfl | rfl | rfl | rfl | rfl | rfl | rfl | rfl | rfl
  all_goals rfl
theorem wpList_load47 {w : World} {ops : Array Oper} {rest : List Oper} {o : Oper} {a : Act} {Q : Exit → Act → World → Prop} (hgd : o.guard = none) (ho : o.op = .load 47 (.global 0)) (hF : Forms w)
    (h : wpList Tryd.prog ops Q rest (a.put o.dst (.agg formsV.toArray)) w) : wpList Tryd.prog ops Q (o :: rest) a w :=
  wpList_plain hgd fun _ hK => Px.wp_run (by
    have := load_forms hF
    simp [execOp, ho, Act.eval, this]) (hK _ _ h)
theorem wpList_index47 {w : World} {ops : Array Oper} {rest : List Oper} {o : Oper} {a : Act} {Q : Exit → Act → World → Prop} (hgd : o.guard = none) (x i : Operand) (ho : o.op = .index 47 x i) (hx : a.eval x = .agg formsV.toArray) (k : Nat) (hi : a.eval i = .int .i64 (k : Int)) (hk : k < 11)
    (h : wpList Tryd.prog ops Q rest (a.put o.dst (.agg #[.string (formAt k).1, .int .u8 (formAt k).2.1, .int .i64 (formAt k).2.2])) w) : wpList Tryd.prog ops Q (o :: rest) a w :=
  wpList_plain hgd fun _ hK => Px.wp_run (by
    have := index_forms k hk w
    simp [execOp, ho, hx, hi, this]) (hK _ _ h)
theorem abs_world {P : Program} {c : Code} {Q : Exit → Act → World → Prop} {a : Act} {w' : World} (F : World → Prop) (hF : F w') (h : ∀ W, F W → Code.wp P c Q a W) : Code.wp P c Q a w' := h w' hF
theorem set3 {w2 : World} {B : Nat} {T : TypeId} {a b c x y z : Value} (h : w2.heap[B]? = some (.cells #[a, b, c] T (0, 0))) : (((w2.setCell ⟨B, 0, none⟩ x).setCell ⟨B, 1, none⟩ y).setCell ⟨B, 2, none⟩ z).heap[B]? = some (.cells #[x, y, z] T (0, 0)) := by
  simp [World.setCell, Array.getElem?_modify, h]
theorem store3 (wr : World) (T : TypeId) (a b c x y z : Value) : Below wr.heap.size wr ((((wr.alloc (.cells #[a, b, c] T)).setCell ⟨wr.heap.size, 0, none⟩ x).setCell ⟨wr.heap.size, 1, none⟩ y).setCell ⟨wr.heap.size, 2, none⟩ z) ∧
    ((((wr.alloc (.cells #[a, b, c] T)).setCell ⟨wr.heap.size, 0, none⟩ x).setCell ⟨wr.heap.size, 1, none⟩ y).setCell ⟨wr.heap.size, 2, none⟩ z).heap[wr.heap.size]? = some (.cells #[x, y, z] T (0, 0)) := by
  refine ⟨low_set (low_set (low_set (alloc_below wr _) (Nat.le_refl _) _) (Nat.le_refl _) _) (Nat.le_refl _) _, ?_⟩
  have h0 : (wr.alloc (.cells #[a, b, c] T)).heap[wr.heap.size]? = some (.cells #[a, b, c] T (0, 0)) := by
    show (wr.heap.push _)[wr.heap.size]? = _
    simp
  exact set3 h0
end Go.Px.LinC
