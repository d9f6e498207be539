/- OctetRunsUpto: numbers and texts written one behind the other are read again in turn. Conditions: the guards of the statement; arguments of no more bulk than the bound that the statement names. -/
import Derived.Test.YtoneacebiaekkaaRows
import Derived.Test.YtoneacebiaekkaaCtoct
import Derived.Test.YtoneacebiaekkaaPuOctetRuns
import Derived.Test.YtoneacebiaekkaaPx17
import Derived.WalkKit
import Derived.ProofKit
import Derived.OpenShut
import Derived.ShutString
import Derived.ChangeOld
import Derived.Below
import Derived.SizedLaws
import Derived.Deep.CondSized
import Derived.JoinedCond
set_option linter.unusedVariables false
set_option linter.unusedSimpArgs false
namespace Go.Proofs.Ytoneacebiaekkaa.octetRuns
open Go.ChangeShapes Go.WideShapes Go.ChangeAt Go.RowKit
open Go.ChangeMaps (open_string shut_string)
theorem own : ownKnob Try.prog.godebug = none := by kernel_rfl
theorem laidOut : laidOutB Try.prog = true := by kernel_rfl
theorem bulk_ints {H : Type} (k : IntKind) : (l : List Int) → l.length ≤ Rows.uptoBulkAll (lits (H := H) k l)
  | [] => Nat.zero_le _
  | a :: r => by
    have h := bulk_ints (H := H) k r
    simp only [lits, List.map_cons, Rows.uptoBulkAll, Rows.uptoBulk, List.length_cons] at h ⊢
    omega
theorem bulk_strs {H : Type} : (l : List ByteArray) → l.length + (l.map ByteArray.size).sum ≤ Rows.uptoBulkAll (strs (H := H) l)
  | [] => Nat.le_refl _
  | a :: r => by
    have h := bulk_strs (H := H) r
    have e : a.data.toList.length = a.size := by rw [Array.length_toList]; rfl
    simp only [strs, List.map_cons, Rows.uptoBulkAll, Rows.uptoBulk, List.length_cons, List.sum_cons] at h ⊢
    omega
set_option maxRecDepth 100000 in
theorem lifted (os : Os) (started : os.Started) (H : Type) (enc : TypeId × Value → H) (F : Stop.Interp) :
    ReturnsInHanded {} Try.checked os 10 .any ((Rows.OpenSpec.upto Rows.octetRunsSpec).pre6 enc Try.prog Try.f10 Rows.octetRunsUptoRow.domain false) (((Rows.OpenSpec.upto Rows.octetRunsSpec).at F).post enc Try.prog Try.f10 false true false false) := by
  refine returnsInHanded_of_cond_sized (C := Try.checked) (s := Rows.OpenSpec.upto Rows.octetRunsSpec) (k := Rows.uptoSmall) rfl own started (by kernel_rfl) Try.func10
    (OpenSpec.witness (enc := enc) (C := Try.checked) (s := Rows.OpenSpec.upto Rows.octetRunsSpec) (k := Rows.uptoSmall) rfl false ⟨#[], #[.slice none 0 0, .slice none 0 0], []⟩ 8 (by kernel_rfl) (by kernel_rfl) (by kernel_rfl) (x := ([.nil, .nil], [], [])) (by kernel_rfl) rfl (by kernel_rfl)) ?_
  intro W base args ds gs before hval0 hW hcnd hk hsz0 _
  have hsz : (DataW.weightsEach Try.prog (Try.f10.params.toList ++ Rows.octetRunsSpec.plain.varTypes Try.prog) (ds ++ gs)).all (· ≤ reachBytes) = true := hsz0
  have hval : ∀ (j : Nat) t v, Try.f10.params[j]? = some t → args[j]? = some v → Value.okWide Try.prog W .any base t v := hval0
  have hW' := hW
  obtain ⟨p, q, hA0, hV, rfl, hfz, hnd⟩ := hW
  have hA : DataW.TrodAll enc Try.prog W 0 (fun _ => true) true Try.f10.params.toList args.toList ds p := hA0
  rw [Try.params10] at hA hval hsz
  obtain ⟨v0, vs0, d0, ds0, p0, q0, hargs, rfl, rfl, h0, r0⟩ := trodAll_cons hA
  obtain ⟨v1, vs1, d1, ds1, p1, q1, rfl, rfl, rfl, h1, r1⟩ := trodAll_cons r0
  obtain ⟨rfl, rfl, rfl⟩ := trodAll_nil r1
  obtain rfl : args = #[v0, v1] := by cases args; simp_all
  obtain ⟨rfl, rfl⟩ := trodVars_none hV
  obtain ⟨a0, len0, cap0, rfl⟩ := okWide_slice Try.underlying32 (hval 0 32 v0 rfl rfl)
  have k0 := h0
  have lt0 : ∀ x ∈ p0, x.block < W.heap.size := by obtain ⟨m, hm⟩ := k0; exact DataW.trod_lt m _ _ _ hm
  obtain ⟨z0, o0, y0, u0⟩ := Go.Px.arg_strs hsz (j := 0) (t := 32) rfl rfl Try.underlying32 Try.underlying9 (by kernel_rfl) (B := 16) (by kernel_rfl) h0
  have e0 : z0.length + (z0.map ByteArray.size).sum ≤ Rows.uptoBulk d0 := by
    rcases u0 with rfl | ⟨sp, rfl⟩
    · exact Nat.zero_le _
    · have h := bulk_strs (H := H) z0
      simp only [Rows.uptoBulk]
      omega
  obtain ⟨a1, len1, cap1, rfl⟩ := okWide_slice Try.underlying55 (hval 1 55 v1 rfl rfl)
  have k1 := h1
  have lt1 : ∀ x ∈ p1, x.block < W.heap.size := by obtain ⟨m, hm⟩ := k1; exact DataW.trod_lt m _ _ _ hm
  obtain ⟨z1, o1, y1, w1, u1⟩ := Go.Px.arg_ints hsz (j := 1) (t := 55) rfl rfl Try.underlying55 Try.underlying2 (by kernel_rfl) (B := 8) (by kernel_rfl) h1
  have e1 : z1.length ≤ Rows.uptoBulk d1 := by
    rcases u1 with rfl | ⟨sp, rfl⟩
    · exact Nat.zero_le _
    · have h := bulk_ints (H := H) .i64 z1
      simp only [Rows.uptoBulk]
      omega
  have hb := of_decide_eq_true hk
  simp only [List.append_nil, List.cons_append, List.nil_append, Rows.uptoBulkAll, Rows.uptoBulk] at hb
  clear hA0 hval0 hsz0 hsz
  refine (Go.Px.law_calls Go.Px.oct.fun10_ok Go.Px.oct.glob_ok (z0, z1, ()) (Go.Px.pure_OctetRuns z0 y0 z1 y1 w1 (by omega)) [.slice a0 len0 cap0, .slice a1 len1 cap1] ⟨o0, o1, trivial⟩).mono fun e W' ⟨he, bel⟩ => ?_
  subst he
  exact ⟨_, rfl, _, _, _, [], _, [], hW', trodAll_mk1 (shut_bool Try.underlying4 _), (trodAll_cons_mk (Below.trod laidOut (by kernel_rfl) (of_decide_eq_true (by kernel_rfl)) k0 bel lt0) (trodAll_cons_mk (Below.trod laidOut (by kernel_rfl) (of_decide_eq_true (by kernel_rfl)) k1 bel lt1) trodAll_mk0)), rfl, bel.frame _, fun h => by cases h⟩
theorem over : Rows.octetRunsUptoRow.holds Try.pinned (Rows.OpenSpec.upto Rows.octetRunsSpec) :=
  OpenClaim.holds_of_cond 10 Try.f10 rfl rfl rfl rfl rfl rfl rfl ⟨rfl, rfl, rfl, rfl, rfl⟩ rfl rfl rfl rfl rfl (by kernel_rfl) Try.func10 (by kernel_rfl)
    (of_decide_eq_true (by kernel_rfl)) (by unfold Func.isWrapper; first | (rw [if_pos (by decide +kernel)]; kernel_rfl) | (rw [if_neg (by decide +kernel)]; exact ⟨rfl, rfl⟩))
    (fun os started H enc _ F => lifted os started H enc F)
theorem proved : Rows.OctetRunsUptoSaid := over
#print axioms proved
end Go.Proofs.Ytoneacebiaekkaa.octetRuns
namespace Go.Proofs.Ytoneacebiaekkaa
/-- The row, under a short name, for the claim. -/
theorem octetRunsUpto_holds : Rows.OctetRunsUptoSaid := octetRuns.proved
end Go.Proofs.Ytoneacebiaekkaa
