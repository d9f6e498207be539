/- LineWritesUpto: line.Write writes any request as the reference does, and line.Parse reads it back. Conditions: the guards of the statement; arguments of no more bulk than the bound that the statement names; the package variables that the row lists hold what the text of the program lays in them. -/
import Derived.Test.YtpmnipaimoaagaaDoorCards
import Derived.Test.YtpmnipaimoaagaaDoorTie
import Derived.Test.YtpmnipaimoaagaaDoorCt
import Derived.Test.YtpmnipaimoaagaaDoorPuLineWrites
import Derived.Test.YtpmnipaimoaagaaDoorPxC
import Derived.Test.YtpmnipaimoaagaaDoorFrm
import Derived.Shelf.Vars
import Derived.Test.YtpmnipaimoaagaaDoorArgReq
import Derived.Test.YtpmnipaimoaagaaDoorPxD
import Derived.WalkKit
import Derived.ProofKit
import Derived.OpenShut
import Derived.ShutString
import Derived.ChangeOld
import Derived.Below
import Derived.SizedLaws
import Derived.Deep.DeepHandedRow
import Derived.Lib.LaidU8T
import Derived.PinnedBridge
import Derived.JoinedCond
set_option linter.unusedVariables false
set_option linter.unusedSimpArgs false
namespace Go.Proofs.YtpmnipaimoaagaaDoor.lineWrites
open Go.ChangeShapes Go.WideShapes Go.ChangeAt Go.RowKit
open Go.ChangeMaps (open_string shut_string)
theorem own : ownKnob Tryd.prog.godebug = none := by kernel_rfl
theorem laidOut : laidOutB Tryd.prog = true := by kernel_rfl
theorem bulk_ints {H : Type} (k : IntKind) : (l : List Int) → l.length ≤ Rows.uptoBulkAll (lits (H := H) k l)
  | [] => Nat.zero_le _
  | a :: r => by
    have h := bulk_ints (H := H) k r
    simp only [lits, List.map_cons, Rows.uptoBulkAll, Rows.uptoBulk, List.length_cons] at h ⊢
    omega
theorem bulk_agg {H : Type} : (ds : List (DataW H)) → (i : Nat) → (l : List UInt8) → ds[i]? = some (.lit (.string l)) → l.length ≤ Rows.uptoBulkAll ds
  | [], i, l, h => by simp at h
  | d :: r, 0, l, h => by simp at h; subst h; simp [Rows.uptoBulkAll, Rows.uptoBulk]; omega
  | d :: r, i + 1, l, h => by have := bulk_agg r i l (by simpa using h); simp only [Rows.uptoBulkAll]; omega
theorem bulk_strs {H : Type} : (l : List ByteArray) → l.length + (l.map ByteArray.size).sum ≤ Rows.uptoBulkAll (strs (H := H) l)
  | [] => Nat.le_refl _
  | a :: r => by
    have h := bulk_strs (H := H) r
    have e : a.data.toList.length = a.size := by rw [Array.length_toList]; rfl
    simp only [strs, List.map_cons, Rows.uptoBulkAll, Rows.uptoBulk, List.length_cons, List.sum_cons] at h ⊢
    omega
def args0 : Array Value := #[.agg #[.int .u8 0, .slice none 0 0]]
open Go.Px
def u8ren : Go.Shelf.Ren := ⟨fun n => n, fun | 5 => 5 | 119 => 82 | 138 => 85 | 139 => 86 | n => n, fun | 3 => 1 | 4 => 2 | n => n⟩
open Go.Lib in
theorem u8ty : U8Types Tryd.prog u8ren := ⟨by kernel_rfl, by kernel_rfl, by kernel_rfl, by kernel_rfl⟩
open Go.Lib in
theorem extra : U8Extra Tryd.prog u8ren := ⟨by kernel_rfl, by kernel_rfl, by kernel_rfl, by kernel_rfl, by kernel_rfl, by kernel_rfl, by kernel_rfl⟩
open Go.Lib in
theorem tabs {W : World} (h : laidMetH Tryd.prog Rows.lineWritesUptoRow.laid W) : Lib.Utf8Tabs 1 2 W := by
  have h' : laidMet Tryd.prog Rows.lineWritesUptoRow.laid W := h
  obtain ⟨ps, hl, _⟩ := h'
  have r4 : VarReads Tryd.prog W "unicode/utf8.acceptRanges" Rows.laid_unicode_utf8_acceptRanges := LaidVars_reads hl _ _ (List.Mem.head _)
  have r3 : VarReads Tryd.prog W "unicode/utf8.first" Go.Pinned.utf8First := LaidVars_reads hl _ _ (List.Mem.tail _ (List.Mem.tail _ (List.Mem.head _)))
  rw [Pinned.utf8First_eq] at r3
  rw [show (Rows.laid_unicode_utf8_acceptRanges : DataW Unit) = acceptData by kernel_rfl] at r4
  exact utf8Tabs_of_readsT u8ty extra r3 r4
theorem gents {W : World} (h : laidMetH Tryd.prog Rows.lineWritesUptoRow.laid W) : AllP (GEnt W) Go.Px.linr.globL := by
  have h' : laidMet Tryd.prog Rows.lineWritesUptoRow.laid W := h
  obtain ⟨ps, hl, _⟩ := h'
  exact ⟨(gent_u8 (P := Tryd.prog) (by decide) (tabs h)).1, (gent_u8 (P := Tryd.prog) (by decide) (tabs h)).2, trivial⟩
theorem frm {W : World} (h : laidMetH Tryd.prog Rows.lineWritesUptoRow.laid W) : Go.Px.LinC.Forms W := by
  have h' : laidMet Tryd.prog Rows.lineWritesUptoRow.laid W := h
  obtain ⟨ps, hl, _⟩ := h'
  have r0 : Lib.VarReads Tryd.prog W "muniment/line.forms" Rows.laid_muniment_line_forms := Lib.LaidVars_reads hl _ _ (List.Mem.tail _ (List.Mem.head _))
  exact Go.Px.LinC.forms_of_reads r0 (by kernel_rfl)
noncomputable def laidWorld (os : Os) : World :=
  let w := World.holding Tryd.prog os ⟨#[], #[], []⟩
  { w with heap := (((w.heap.modify 0 (fun o => match o with | .cells _ t frozen => .cells (Go.Px.LinC.formsV).toArray t frozen | o => o)).modify 1 (fun o => match o with | .cells _ t frozen => .cells (Lib.firstTab.map fun z => Value.int .u8 z).toArray t frozen | o => o)).modify 2 (fun o => match o with | .cells _ t frozen => .cells ((List.range 16).flatMap fun i => [Value.int .u8 (Lib.accLo i), Value.int .u8 (Lib.accHi i)]).toArray t frozen | o => o)) }
theorem laid_met (os : Os) : laidMet Tryd.prog Rows.lineWritesUptoRow.laid ((laidWorld os).forCall (fun _ _ => 0) ⟨#[], args0, []⟩).memory :=
  laidMet_of_run' 8 (by kernel_rfl) (by kernel_rfl)
theorem reads (os : Os) {H : Type} (enc : TypeId × Value → H) : ∃ places, DataW.whole enc Tryd.prog ((laidWorld os).forCall (fun _ _ => 0) ⟨#[], args0, []⟩).memory Tryd.f8.params.toList Rows.lineWritesSpec.vars false args0.toList 8 = some ([.agg [.lit (.int .u8 0), .nil]], [], places) :=
  ⟨[], by kernel_rfl⟩
set_option maxRecDepth 100000 in
theorem lifted (os : Os) (started : os.Started) (H : Type) (enc : TypeId × Value → H) (F : Stop.Interp) :
    ReturnsInHanded {} Tryd.checked os 8 .any ((Rows.OpenSpec.upto Rows.lineWritesSpec).preRow enc Tryd.prog Tryd.f8 Rows.lineWritesUptoRow.domain false Rows.lineWritesUptoRow.laid) (((Rows.OpenSpec.upto Rows.lineWritesSpec).at F).post enc Tryd.prog Tryd.f8 false true false false) := by
  obtain ⟨places, hx⟩ := reads os enc
  refine returnsInHanded_of_row (C := Tryd.checked) (s := Rows.OpenSpec.upto Rows.lineWritesSpec) own started (by kernel_rfl) Tryd.func8
    (witness_row_at (enc := enc) (C := Tryd.checked) false (laidWorld os) args0 rfl (by kernel_rfl) (by kernel_rfl) (by kernel_rfl)
      (OpenSpec.preRow_of_cond 8 hx (by kernel_rfl) (fun k hk => by cases hk; kernel_rfl) (by kernel_rfl) (laid_met os))) ?_
  intro W base args ds gs before hval0 hW hcnd hcond hsz0 hL hsh _
  have hk := hcond _ rfl
  have mxl : ∃ m, W.cell? ⟨3, 0, none⟩ = some (.int .i64 m) := cell_of_shapedOpen_int (P := Tryd.prog) (g := 3) (t := 3) (zero := #[.int .i64 0]) hsh (of_decide_eq_true (by kernel_rfl)) (by kernel_rfl) rfl (by kernel_rfl) (by kernel_rfl) Tryd.underlying3
  have hsz : (DataW.weightsEach Tryd.prog (Tryd.f8.params.toList ++ Rows.lineWritesSpec.plain.varTypes Tryd.prog) (ds ++ gs)).all (· ≤ reachBytes) = true := hsz0
  have hval : ∀ (j : Nat) t v, Tryd.f8.params[j]? = some t → args[j]? = some v → Value.okWide Tryd.prog W .any base t v := hval0
  have hW' := hW
  obtain ⟨p, q, hA0, hV, rfl, hfz, hnd⟩ := hW
  have hA : DataW.TrodAll enc Tryd.prog W 0 (fun _ => true) true Tryd.f8.params.toList args.toList ds p := hA0
  rw [Tryd.params8] at hA hval hsz
  obtain ⟨v0, vs0, d0, ds0, p0, q0, hargs, rfl, rfl, h0, r0⟩ := trodAll_cons hA
  obtain ⟨rfl, rfl, rfl⟩ := trodAll_nil r0
  obtain rfl : args = #[v0] := by cases args; simp_all
  obtain ⟨rfl, rfl⟩ := trodVars_none hV
  have k0 := h0
  have lt0 : ∀ x ∈ p0, x.block < W.heap.size := by obtain ⟨m, hm⟩ := k0; exact DataW.trod_lt m _ _ _ hm
  obtain ⟨n0, l0, a0, c0, e0s, rfl, w0, s0, rfl, u0⟩ := Go.Px.LinC.arg_req (hval 0 25 v0 rfl rfl) h0
  have e0 : l0.length + (l0.map ByteArray.size).sum ≤ Rows.uptoBulk e0s := by
    rcases u0 with rfl | ⟨sp, rfl⟩
    · exact Nat.zero_le _
    · have h := bulk_strs (H := H) l0
      simp only [Rows.uptoBulk]
      omega
  have hb := of_decide_eq_true hk
  simp only [List.append_nil, List.cons_append, List.nil_append, Rows.uptoBulkAll, Rows.uptoBulk] at hb
  clear hA0 hval0 hsz0 hsz
  refine (Go.Px.LinC.pure_LineWrites n0 w0 l0 a0 c0 (by omega) W (Go.Px.linr.glob_ok (gents hL)) (frm hL) mxl s0).mono fun e W' ⟨he, bel⟩ => ?_
  subst he
  exact ⟨_, rfl, _, _, _, [], _, [], hW', trodAll_mk1 (shut_bool Tryd.underlying4 _), (trodAll_cons_mk (Below.trod laidOut (by kernel_rfl) (of_decide_eq_true (by kernel_rfl)) k0 bel lt0) trodAll_mk0), rfl, bel.frame _, fun h => by cases h⟩
theorem said : Rows.LineWritesUptoSaid :=
  OpenClaim.holds_of_cond 8 Tryd.f8 rfl rfl rfl rfl rfl rfl rfl ⟨rfl, rfl, rfl, rfl, rfl⟩ rfl rfl rfl rfl rfl (by kernel_rfl) Tryd.func8 (by kernel_rfl)
    (of_decide_eq_true (by kernel_rfl)) (by unfold Func.isWrapper; first | (rw [if_pos (by decide +kernel)]; kernel_rfl) | (rw [if_neg (by decide +kernel)]; exact ⟨rfl, rfl⟩))
    (fun os started H enc _ F => by rw [OpenClaim.pre_eq_preRow]; exact lifted os started H enc F)
theorem plain (f : FuncId) (fn : Func) (hf : Tryd.pinned.checked.prog.funcNamed "muniment/munimentlaw05.LineWrites" = some f) (hfn : Tryd.pinned.checked.prog.funcs[f]? = some fn) :
    false = Tryd.pinned.checked.prog.looks [] ∧ ∀ (j : Nat) t, fn.params[j]? = some t → Tryd.pinned.checked.prog.wantsStandIn t = false := by
  obtain rfl : f = 8 := Option.some.inj ((show Tryd.prog.funcNamed "muniment/munimentlaw05.LineWrites" = some 8 by kernel_rfl).symm.trans hf) |>.symm
  obtain rfl : fn = Tryd.f8 := (Option.some.inj (Tryd.func8.symm.trans hfn)).symm
  refine ⟨by kernel_rfl, fun j t ht => ?_⟩
  rw [Tryd.params8] at ht
  have hm := Array.mem_toList_iff.2 (Array.mem_of_getElem? ht)
  have ha : (#[25] : Array TypeId).toList.all (fun t => !Tryd.prog.wantsStandIn t) = true := by kernel_rfl
  have g := List.all_eq_true.1 ha t hm
  simp only [Bool.not_eq_true'] at g
  exact g
theorem card : Rows.LineWritesUptoCardSaid :=
  Claim7.holds_tied_plain_at .later [] _ _ _ _ said (fun _ h => by cases h) (by kernel_rfl) (fun _ h => by cases h) lineWritesUpto_row_tie rfl ⟨rfl, rfl⟩ (by kernel_rfl) rfl plain (by kernel_rfl)
#print axioms card
end Go.Proofs.YtpmnipaimoaagaaDoor.lineWrites
namespace Go.Proofs.YtpmnipaimoaagaaDoor
/-- The card, under a short name, for the claim. -/
theorem lineWritesUpto_holds : Rows.LineWritesUptoCardSaid := lineWrites.card
end Go.Proofs.YtpmnipaimoaagaaDoor
