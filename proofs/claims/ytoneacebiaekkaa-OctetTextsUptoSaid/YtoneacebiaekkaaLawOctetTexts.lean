/- OctetTextsUpto: any text written as bytes is read back, whatever bytes stand ahead of it and behind it. Conditions: the guards of the statement; arguments of no more bulk than the bound that the statement names. -/
import Derived.Test.YtoneacebiaekkaaRows
import Derived.Test.YtoneacebiaekkaaCtoct
import Derived.Test.YtoneacebiaekkaaPuOctetTexts
import Derived.Test.YtoneacebiaekkaaPx17
import Derived.WalkKit
import Derived.ProofKit
import Derived.OpenShut
import Derived.ShutString
import Derived.ChangeOld
import Derived.Below
import Derived.SizedLaws
import Derived.Deep.CondSized
import Derived.JoinedCond
set_option linter.unusedVariables false
set_option linter.unusedSimpArgs false
namespace Go.Proofs.Ytoneacebiaekkaa.octetTexts
open Go.ChangeShapes Go.WideShapes Go.ChangeAt Go.RowKit
open Go.ChangeMaps (open_string shut_string)
theorem own : ownKnob Try.prog.godebug = none := by kernel_rfl
theorem laidOut : laidOutB Try.prog = true := by kernel_rfl
theorem bulk_ints {H : Type} (k : IntKind) : (l : List Int) → l.length ≤ Rows.uptoBulkAll (lits (H := H) k l)
  | [] => Nat.zero_le _
  | a :: r => by
    have h := bulk_ints (H := H) k r
    simp only [lits, List.map_cons, Rows.uptoBulkAll, Rows.uptoBulk, List.length_cons] at h ⊢
    omega
theorem bulk_strs {H : Type} : (l : List ByteArray) → l.length + (l.map ByteArray.size).sum ≤ Rows.uptoBulkAll (strs (H := H) l)
  | [] => Nat.le_refl _
  | a :: r => by
    have h := bulk_strs (H := H) r
    have e : a.data.toList.length = a.size := by rw [Array.length_toList]; rfl
    simp only [strs, List.map_cons, Rows.uptoBulkAll, Rows.uptoBulk, List.length_cons, List.sum_cons] at h ⊢
    omega
set_option maxRecDepth 100000 in
theorem lifted (os : Os) (started : os.Started) (H : Type) (enc : TypeId × Value → H) (F : Stop.Interp) :
    ReturnsInHanded {} Try.checked os 7 .any ((Rows.OpenSpec.upto Rows.octetTextsSpec).pre6 enc Try.prog Try.f7 Rows.octetTextsUptoRow.domain false) (((Rows.OpenSpec.upto Rows.octetTextsSpec).at F).post enc Try.prog Try.f7 false true false false) := by
  refine returnsInHanded_of_cond_sized (C := Try.checked) (s := Rows.OpenSpec.upto Rows.octetTextsSpec) (k := Rows.uptoSmall) rfl own started (by kernel_rfl) Try.func7
    (OpenSpec.witness (enc := enc) (C := Try.checked) (s := Rows.OpenSpec.upto Rows.octetTextsSpec) (k := Rows.uptoSmall) rfl false ⟨#[], #[.slice none 0 0, .string ByteArray.empty, .slice none 0 0], []⟩ 8 (by kernel_rfl) (by kernel_rfl) (by kernel_rfl) (x := ([.nil, .lit (.string []), .nil], [], [])) (by kernel_rfl) rfl (by kernel_rfl)) ?_
  intro W base args ds gs before hval0 hW hcnd hk hsz0 _
  have hsz : (DataW.weightsEach Try.prog (Try.f7.params.toList ++ Rows.octetTextsSpec.plain.varTypes Try.prog) (ds ++ gs)).all (· ≤ reachBytes) = true := hsz0
  have hval : ∀ (j : Nat) t v, Try.f7.params[j]? = some t → args[j]? = some v → Value.okWide Try.prog W .any base t v := hval0
  have hW' := hW
  obtain ⟨p, q, hA0, hV, rfl, hfz, hnd⟩ := hW
  have hA : DataW.TrodAll enc Try.prog W 0 (fun _ => true) true Try.f7.params.toList args.toList ds p := hA0
  rw [Try.params7] at hA hval hsz
  obtain ⟨v0, vs0, d0, ds0, p0, q0, hargs, rfl, rfl, h0, r0⟩ := trodAll_cons hA
  obtain ⟨v1, vs1, d1, ds1, p1, q1, rfl, rfl, rfl, h1, r1⟩ := trodAll_cons r0
  obtain ⟨v2, vs2, d2, ds2, p2, q2, rfl, rfl, rfl, h2, r2⟩ := trodAll_cons r1
  obtain ⟨rfl, rfl, rfl⟩ := trodAll_nil r2
  obtain rfl : args = #[v0, v1, v2] := by cases args; simp_all
  obtain ⟨rfl, rfl⟩ := trodVars_none hV
  obtain ⟨a0, len0, cap0, rfl⟩ := okWide_slice Try.underlying22 (hval 0 22 v0 rfl rfl)
  have k0 := h0
  have lt0 : ∀ x ∈ p0, x.block < W.heap.size := by obtain ⟨m, hm⟩ := k0; exact DataW.trod_lt m _ _ _ hm
  obtain ⟨z0, o0, y0, w0, u0⟩ := Go.Px.arg_ints hsz (j := 0) (t := 22) rfl rfl Try.underlying22 Try.underlying5 (by kernel_rfl) (B := 1) (by kernel_rfl) h0
  have e0 : z0.length ≤ Rows.uptoBulk d0 := by
    rcases u0 with rfl | ⟨sp, rfl⟩
    · exact Nat.zero_le _
    · have h := bulk_ints (H := H) .u8 z0
      simp only [Rows.uptoBulk]
      omega
  obtain ⟨a1, rfl, rfl, rfl, y1⟩ := open_string Try.underlying9 (hval 1 9 v1 rfl rfl) h1
  have w1 : a1.size ≤ 140737488351232 := by
    have z := sized_string hsz (j := 1) (t := 9) rfl rfl
    rw [Array.length_toList] at z
    exact z
  have e1 : a1.size = a1.data.toList.length := by rw [Array.length_toList]; rfl
  obtain ⟨a2, len2, cap2, rfl⟩ := okWide_slice Try.underlying22 (hval 2 22 v2 rfl rfl)
  have k2 := h2
  have lt2 : ∀ x ∈ p2, x.block < W.heap.size := by obtain ⟨m, hm⟩ := k2; exact DataW.trod_lt m _ _ _ hm
  obtain ⟨z2, o2, y2, w2, u2⟩ := Go.Px.arg_ints hsz (j := 2) (t := 22) rfl rfl Try.underlying22 Try.underlying5 (by kernel_rfl) (B := 1) (by kernel_rfl) h2
  have e2 : z2.length ≤ Rows.uptoBulk d2 := by
    rcases u2 with rfl | ⟨sp, rfl⟩
    · exact Nat.zero_le _
    · have h := bulk_ints (H := H) .u8 z2
      simp only [Rows.uptoBulk]
      omega
  have hb := of_decide_eq_true hk
  simp only [List.append_nil, List.cons_append, List.nil_append, Rows.uptoBulkAll, Rows.uptoBulk] at hb
  clear hA0 hval0 hsz0 hsz
  refine (Go.Px.law_calls Go.Px.oct.fun7_ok Go.Px.oct.glob_ok (z0, a1, z2, ()) (Go.Px.pure_OctetTexts z0 y0 w0 a1 w1 z2 y2 w2 (by omega)) [.slice a0 len0 cap0, .string a1, .slice a2 len2 cap2] ⟨o0, rfl, o2, trivial⟩).mono fun e W' ⟨he, bel⟩ => ?_
  subst he
  exact ⟨_, rfl, _, _, _, [], _, [], hW', trodAll_mk1 (shut_bool Try.underlying4 _), (trodAll_cons_mk (Below.trod laidOut (by kernel_rfl) (of_decide_eq_true (by kernel_rfl)) k0 bel lt0) (trodAll_cons_mk (shut_string Try.underlying9 y1) (trodAll_cons_mk (Below.trod laidOut (by kernel_rfl) (of_decide_eq_true (by kernel_rfl)) k2 bel lt2) trodAll_mk0))), rfl, bel.frame _, fun h => by cases h⟩
theorem over : Rows.octetTextsUptoRow.holds Try.pinned (Rows.OpenSpec.upto Rows.octetTextsSpec) :=
  OpenClaim.holds_of_cond 7 Try.f7 rfl rfl rfl rfl rfl rfl rfl ⟨rfl, rfl, rfl, rfl, rfl⟩ rfl rfl rfl rfl rfl (by kernel_rfl) Try.func7 (by kernel_rfl)
    (of_decide_eq_true (by kernel_rfl)) (by unfold Func.isWrapper; first | (rw [if_pos (by decide +kernel)]; kernel_rfl) | (rw [if_neg (by decide +kernel)]; exact ⟨rfl, rfl⟩))
    (fun os started H enc _ F => lifted os started H enc F)
theorem proved : Rows.OctetTextsUptoSaid := over
#print axioms proved
end Go.Proofs.Ytoneacebiaekkaa.octetTexts
namespace Go.Proofs.Ytoneacebiaekkaa
/-- The row, under a short name, for the claim. -/
theorem octetTextsUpto_holds : Rows.OctetTextsUptoSaid := octetTexts.proved
end Go.Proofs.Ytoneacebiaekkaa
