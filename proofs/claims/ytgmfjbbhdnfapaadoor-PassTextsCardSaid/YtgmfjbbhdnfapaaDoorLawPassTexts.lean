/- PassTexts: any secret written as a text is read back, and any text is read as the reference reads it. Conditions: the guards of the statement; arguments of any size that a caller can hand over; the package variables that the row lists hold what the text of the program lays in them. -/
import Derived.Test.YtgmfjbbhdnfapaaDoorCards
import Derived.Test.YtgmfjbbhdnfapaaDoorTie
import Derived.Test.YtgmfjbbhdnfapaaDoorCt
import Derived.Test.YtgmfjbbhdnfapaaDoorPuPassTexts
import Derived.Test.YtgmfjbbhdnfapaaDoorPx17
import Derived.Test.YtgmfjbbhdnfapaaDoorPx24
import Derived.WalkKit
import Derived.ProofKit
import Derived.OpenShut
import Derived.ShutString
import Derived.ChangeOld
import Derived.Below
import Derived.SizedLaws
import Derived.Deep.DeepHandedRow
import Derived.Lib.LaidU8T
import Derived.PinnedBridge
import Derived.JoinedCond
set_option linter.unusedVariables false
set_option linter.unusedSimpArgs false
namespace Go.Proofs.YtgmfjbbhdnfapaaDoor.passTexts
open Go.ChangeShapes Go.WideShapes Go.ChangeAt Go.RowKit
open Go.ChangeMaps (open_string shut_string)
theorem own : ownKnob Tryd.prog.godebug = none := by kernel_rfl
theorem laidOut : laidOutB Tryd.prog = true := by kernel_rfl
def args0 : Array Value := #[.agg ([.int .u64 0] ++ [.int .i64 0] ++ List.replicate 32 (.int .u8 0) : List Value).toArray, .string ByteArray.empty]
open Go.Px
theorem gents {W : World} (h : laidMetH Tryd.prog Rows.passTextsRow.laid W) : AllP (GEnt W) Go.Px.pat.globL := by
  have h' : laidMet Tryd.prog Rows.passTextsRow.laid W := h
  obtain ⟨ps, hl, _⟩ := h'
  have r0 : Lib.VarReads Tryd.prog W "muniment/digest.first" Rows.laid_muniment_digest_first := Lib.LaidVars_reads hl _ _ (List.Mem.head _)
  rw [show (Rows.laid_muniment_digest_first : DataW Unit) = Lib.tabData .u32 gv_dfirst by kernel_rfl] at r0
  have t0 : Lib.TabIs Tryd.prog W "muniment/digest.first" .u32 gv_dfirst := Go.Px.tabIs_of_reads (g := 0) (t := 32) (e := 31) (n := 8) (by kernel_rfl) (by kernel_rfl) (by kernel_rfl) (by kernel_rfl) (by kernel_rfl) (by kernel_rfl) r0
  have r1 : Lib.VarReads Tryd.prog W "muniment/digest.parts" Rows.laid_muniment_digest_parts := Lib.LaidVars_reads hl _ _ (List.Mem.tail _ (List.Mem.head _))
  rw [show (Rows.laid_muniment_digest_parts : DataW Unit) = Lib.tabData .u32 gv_dparts by kernel_rfl] at r1
  have t1 : Lib.TabIs Tryd.prog W "muniment/digest.parts" .u32 gv_dparts := Go.Px.tabIs_of_reads (g := 1) (t := 33) (e := 31) (n := 64) (by kernel_rfl) (by kernel_rfl) (by kernel_rfl) (by kernel_rfl) (by kernel_rfl) (by kernel_rfl) r1
  exact ⟨Go.Px.gent_tab (P := Tryd.prog) (by kernel_rfl) (by kernel_rfl) t0, Go.Px.gent_tab (P := Tryd.prog) (by kernel_rfl) (by kernel_rfl) t1, trivial⟩
noncomputable def laidWorld (os : Os) : World :=
  let w := World.holding Tryd.prog os ⟨#[], #[], []⟩
  { w with heap := ((w.heap.modify 0 (fun o => match o with | .cells _ t frozen => .cells (gv_dfirst.map fun z => Value.int .u32 z).toArray t frozen | o => o)).modify 1 (fun o => match o with | .cells _ t frozen => .cells (gv_dparts.map fun z => Value.int .u32 z).toArray t frozen | o => o)) }
theorem laid_met (os : Os) : laidMet Tryd.prog Rows.passTextsRow.laid ((laidWorld os).forCall (fun _ _ => 0) ⟨#[], args0, []⟩).memory :=
  laidMet_of_run' 8 (by kernel_rfl) (by kernel_rfl)
theorem reads (os : Os) {H : Type} (enc : TypeId × Value → H) : ∃ places, DataW.whole enc Tryd.prog ((laidWorld os).forCall (fun _ _ => 0) ⟨#[], args0, []⟩).memory Tryd.f6.params.toList Rows.passTextsSpec.vars false args0.toList 8 = some ([.agg [.lit (.int .u64 0), .lit (.int .i64 0), .agg (List.replicate 32 (.lit (.int .u8 0)))], .lit (.string [])], [], places) :=
  ⟨[], by kernel_rfl⟩
set_option maxRecDepth 100000 in
theorem lifted (os : Os) (started : os.Started) (H : Type) (enc : TypeId × Value → H) (F : Stop.Interp) :
    ReturnsInHanded {} Tryd.checked os 6 .any ((OpenSpec.ofChange Rows.passTextsSpec).preRow enc Tryd.prog Tryd.f6 Rows.passTextsRow.domain false Rows.passTextsRow.laid) (((OpenSpec.ofChange Rows.passTextsSpec).at F).post enc Tryd.prog Tryd.f6 false true false false) := by
  obtain ⟨places, hx⟩ := reads os enc
  refine returnsInHanded_of_row (C := Tryd.checked) (s := OpenSpec.ofChange Rows.passTextsSpec) own started (by kernel_rfl) Tryd.func6
    (witness_row_at (enc := enc) (C := Tryd.checked) false (laidWorld os) args0 rfl (by kernel_rfl) (by kernel_rfl) (by kernel_rfl)
      (OpenSpec.preRow_of_cond 8 hx (by kernel_rfl) (fun k hk => by cases hk) (by kernel_rfl) (laid_met os))) ?_
  intro W base args ds gs before hval0 hW hcnd hcond hsz0 hL _ _
  have hsz : (DataW.weightsEach Tryd.prog (Tryd.f6.params.toList ++ Rows.passTextsSpec.plain.varTypes Tryd.prog) (ds ++ gs)).all (· ≤ reachBytes) = true := hsz0
  have hval : ∀ (j : Nat) t v, Tryd.f6.params[j]? = some t → args[j]? = some v → Value.okWide Tryd.prog W .any base t v := hval0
  have hW' := hW
  obtain ⟨p, q, hA0, hV, rfl, hfz, hnd⟩ := hW
  have hA : DataW.TrodAll enc Tryd.prog W 0 (fun _ => true) true Tryd.f6.params.toList args.toList ds p := hA0
  rw [Tryd.params6] at hA hval hsz
  obtain ⟨v0, vs0, d0, ds0, p0, q0, hargs, rfl, rfl, h0, r0⟩ := trodAll_cons hA
  obtain ⟨v1, vs1, d1, ds1, p1, q1, rfl, rfl, rfl, h1, r1⟩ := trodAll_cons r0
  obtain ⟨rfl, rfl, rfl⟩ := trodAll_nil r1
  obtain rfl : args = #[v0, v1] := by cases args; simp_all
  obtain ⟨rfl, rfl⟩ := trodVars_none hV
  have k0 := h0
  have lt0 : ∀ x ∈ p0, x.block < W.heap.size := by obtain ⟨m, hm⟩ := k0; exact DataW.trod_lt m _ _ _ hm
  obtain ⟨x0, o0, y0⟩ := Go.Px.arg_strc (ss := [.one (.int .u64), .one (.int .i64), .arr (.sc (.int .u8)) 32]) Tryd.underlying26 (by kernel_rfl) (hval 0 26 v0 rfl rfl) h0
  obtain ⟨a1, rfl, rfl, rfl, y1⟩ := open_string Tryd.underlying9 (hval 1 9 v1 rfl rfl) h1
  have w1 : a1.size ≤ 140737488351232 := by
    have z := sized_string hsz (j := 1) (t := 9) rfl rfl
    rw [Array.length_toList] at z
    exact z
  clear hA0 hval0 hsz0 hsz
  refine (Go.Px.law_calls Go.Px.pat.fun6_ok (Go.Px.pat.glob_ok (gents hL)) (x0, a1, ()) (Go.Px.pure_PassTexts x0 y0 a1 w1) [v0, .string a1] ⟨o0, rfl, trivial⟩).mono fun e W' ⟨he, bel⟩ => ?_
  subst he
  exact ⟨_, rfl, _, _, _, [], _, [], hW', trodAll_mk1 (shut_bool Tryd.underlying4 _), (trodAll_cons_mk (Below.trod laidOut (by kernel_rfl) (of_decide_eq_true (by kernel_rfl)) k0 bel lt0) (trodAll_cons_mk (shut_string Tryd.underlying9 y1) trodAll_mk0)), rfl, bel.frame _, fun h => by cases h⟩
theorem said : Rows.PassTextsSaid :=
  OpenClaim.holds_of_cond 6 Tryd.f6 rfl rfl rfl rfl rfl rfl rfl ⟨rfl, rfl, rfl, rfl, rfl⟩ rfl rfl rfl rfl rfl (by kernel_rfl) Tryd.func6 (by kernel_rfl)
    (of_decide_eq_true (by kernel_rfl)) (by unfold Func.isWrapper; first | (rw [if_pos (by decide +kernel)]; kernel_rfl) | (rw [if_neg (by decide +kernel)]; exact ⟨rfl, rfl⟩))
    (fun os started H enc _ F => by rw [OpenClaim.pre_eq_preRow]; exact lifted os started H enc F)
theorem plain (f : FuncId) (fn : Func) (hf : Tryd.pinned.checked.prog.funcNamed "muniment/munimentlaw18.PassTexts" = some f) (hfn : Tryd.pinned.checked.prog.funcs[f]? = some fn) :
    false = Tryd.pinned.checked.prog.looks [] ∧ ∀ (j : Nat) t, fn.params[j]? = some t → Tryd.pinned.checked.prog.wantsStandIn t = false := by
  obtain rfl : f = 6 := Option.some.inj ((show Tryd.prog.funcNamed "muniment/munimentlaw18.PassTexts" = some 6 by kernel_rfl).symm.trans hf) |>.symm
  obtain rfl : fn = Tryd.f6 := (Option.some.inj (Tryd.func6.symm.trans hfn)).symm
  refine ⟨by kernel_rfl, fun j t ht => ?_⟩
  rw [Tryd.params6] at ht
  have hm := Array.mem_toList_iff.2 (Array.mem_of_getElem? ht)
  have ha : (#[26, 9] : Array TypeId).toList.all (fun t => !Tryd.prog.wantsStandIn t) = true := by kernel_rfl
  have g := List.all_eq_true.1 ha t hm
  simp only [Bool.not_eq_true'] at g
  exact g
theorem card : Rows.PassTextsCardSaid :=
  Claim7.holds_tied_plain_at .later [] _ _ _ _ said (fun _ h => by cases h) (by kernel_rfl) (fun _ h => by cases h) passTexts_row_tie rfl ⟨rfl, rfl⟩ (by kernel_rfl) rfl plain (by kernel_rfl)
#print axioms card
end Go.Proofs.YtgmfjbbhdnfapaaDoor.passTexts
namespace Go.Proofs.YtgmfjbbhdnfapaaDoor
/-- The card, under a short name, for the claim. -/
theorem passTexts_holds : Rows.PassTextsCardSaid := passTexts.card
end Go.Proofs.YtgmfjbbhdnfapaaDoor
