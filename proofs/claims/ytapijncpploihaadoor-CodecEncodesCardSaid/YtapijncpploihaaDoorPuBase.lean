/- Plain laws for the twins: loops by what they answer, numbers that fit. -/
import Derived.Test.YtapijncpploihaaDoorPxA
import Derived.IntWalk
set_option linter.unusedVariables false
set_option linter.unusedSimpArgs false
namespace Go.Px.Pu
open Go Go.Px

section
variable {ρ σ : Type}
theorem loopN_eq {step : σ → (σ → Option ρ) → Option ρ} (R : σ → Option ρ) (I : σ → Prop) (μ : σ → Nat)
    (h : ∀ s, I s → ∀ κ : σ → Option ρ, (∀ s', I s' → μ s' < μ s → κ s' = R s') → step s κ = R s) : ∀ n s, I s → μ s < n → loopN n step s = R s
  | 0, s, _, hn => absurd hn (Nat.not_lt_zero _)
  | n + 1, s, hi, hn => h s hi (loopN n step) fun s' hi' hm => loopN_eq R I μ h n s' hi' (by omega)
theorem loopN_pos {step : σ → (σ → Option ρ) → Option ρ} {n : Nat} {s : σ} (h : 0 < n) : loopN n step s = step s (loopN (n - 1) step) := by
  cases n with
  | zero => omega
  | succ n => rfl
theorem chk_true {b : Bool} {k : Option ρ} (h : b = true) : chk b k = k := by rw [h]; rfl
theorem cond_t {α : Type} {b : Bool} {x y : α} (h : b = true) : cond b x y = x := by rw [h]; rfl
theorem cond_f {α : Type} {b : Bool} {x y : α} (h : b = false) : cond b x y = y := by rw [h]; rfl
end
theorem ilt_iff {a b : Int} : ilt a b = true ↔ a < b := by simp [ilt]
theorem ile_iff {a b : Int} : ile a b = true ↔ a ≤ b := by simp [ile]
theorem igt_iff {a b : Int} : igt a b = true ↔ b < a := by simp [igt]
theorem ige_iff {a b : Int} : ige a b = true ↔ b ≤ a := by simp [ige]
theorem ieq_iff {a b : Int} : ieq a b = true ↔ a = b := by simp [ieq]
theorem ine_iff {a b : Int} : ine a b = true ↔ a ≠ b := by simp [ine]
theorem ilt_f {a b : Int} : ilt a b = false ↔ b ≤ a := by simp [ilt]
theorem ile_f {a b : Int} : ile a b = false ↔ b < a := by simp [ile]
theorem igt_f {a b : Int} : igt a b = false ↔ a ≤ b := by simp [igt]
theorem ige_f {a b : Int} : ige a b = false ↔ a < b := by simp [ige]
theorem ieq_f {a b : Int} : ieq a b = false ↔ a ≠ b := by simp [ieq]
theorem ine_f {a b : Int} : ine a b = false ↔ a = b := by simp [ine]
theorem inB_iff {a b : Int} : inB a b = true ↔ 0 ≤ a ∧ a < b := by simp [inB]
theorem leB_iff {a b : Int} : leB a b = true ↔ a ≤ b := by simp [leB]
theorem fits_iff {b n : Nat} : fits b n = true ↔ n * b < 140737488355328 := by simp [fits]
theorem seq_iff {a b : ByteArray} : seq a b = true ↔ a.toList = b.toList := by simp [seq]
theorem seq_self (a : ByteArray) : seq a a = true := by simp [seq]
theorem iadd64 {a b : Int} (h : -9223372036854775808 ≤ a + b ∧ a + b ≤ 9223372036854775807) : iadd .i64 a b = a + b := IntWalk.i64_in _ h
theorem isub64 {a b : Int} (h : -9223372036854775808 ≤ a - b ∧ a - b ≤ 9223372036854775807) : isub .i64 a b = a - b := IntWalk.i64_in _ h
theorem imul64 {a b : Int} (h : -9223372036854775808 ≤ a * b ∧ a * b ≤ 9223372036854775807) : imul .i64 a b = a * b := IntWalk.i64_in _ h
/-- a byte -/
def byte (n : Int) : Prop := 0 ≤ n ∧ n ≤ 255
theorem byte_wf {n : Int} (h : (Lit.int .u8 n).wf = true) : byte n := by
  simp [Lit.wf, IntKind.min, IntKind.max, IntKind.signed, IntKind.bits] at h
  exact ⟨h.1, by omega⟩
theorem i64_wf {n : Int} (h : (Lit.int .i64 n).wf = true) : -9223372036854775808 ≤ n ∧ n ≤ 9223372036854775807 := by
  simp [Lit.wf, IntKind.min, IntKind.max, IntKind.signed, IntKind.bits] at h
  omega
theorem getD_mem {α : Type} {l : List α} {i : Nat} {d : α} (h : i < l.length) : l.getD i d ∈ l := by
  rw [List.getD_eq_getElem?_getD, List.getElem?_eq_getElem h]; exact List.getElem_mem h
end Go.Px.Pu
