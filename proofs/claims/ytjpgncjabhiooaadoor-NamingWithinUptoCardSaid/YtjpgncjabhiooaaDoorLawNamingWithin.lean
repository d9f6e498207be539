/- NamingWithinUpto: a password that holds a name of three characters or more, in great or small letters, is weak. Conditions: the guards of the statement; arguments of no more bulk than the bound that the statement names; the package variables that the row lists hold what the text of the program lays in them. -/
import Derived.Test.YtjpgncjabhiooaaDoorCards
import Derived.Test.YtjpgncjabhiooaaDoorTie
import Derived.Test.YtjpgncjabhiooaaDoorCt
import Derived.Test.YtjpgncjabhiooaaDoorPuNamingWithin
import Derived.Test.YtjpgncjabhiooaaDoorPx17
import Derived.WalkKit
import Derived.ProofKit
import Derived.OpenShut
import Derived.ShutString
import Derived.ChangeOld
import Derived.Below
import Derived.SizedLaws
import Derived.Deep.DeepHandedRow
import Derived.Lib.LaidU8T
import Derived.PinnedBridge
import Derived.JoinedCond
set_option linter.unusedVariables false
set_option linter.unusedSimpArgs false
namespace Go.Proofs.YtjpgncjabhiooaaDoor.namingWithin
open Go.ChangeShapes Go.WideShapes Go.ChangeAt Go.RowKit
open Go.ChangeMaps (open_string shut_string)
theorem own : ownKnob Tryd.prog.godebug = none := by kernel_rfl
theorem laidOut : laidOutB Tryd.prog = true := by kernel_rfl
theorem bulk_ints {H : Type} (k : IntKind) : (l : List Int) → l.length ≤ Rows.uptoBulkAll (lits (H := H) k l)
  | [] => Nat.zero_le _
  | a :: r => by
    have h := bulk_ints (H := H) k r
    simp only [lits, List.map_cons, Rows.uptoBulkAll, Rows.uptoBulk, List.length_cons] at h ⊢
    omega
theorem bulk_strs {H : Type} : (l : List ByteArray) → l.length + (l.map ByteArray.size).sum ≤ Rows.uptoBulkAll (strs (H := H) l)
  | [] => Nat.le_refl _
  | a :: r => by
    have h := bulk_strs (H := H) r
    have e : a.data.toList.length = a.size := by rw [Array.length_toList]; rfl
    simp only [strs, List.map_cons, Rows.uptoBulkAll, Rows.uptoBulk, List.length_cons, List.sum_cons] at h ⊢
    omega
open Go.Px
def u8ren : Go.Shelf.Ren := ⟨fun n => n, fun | 5 => 5 | 119 => 51 | 138 => 53 | 139 => 54 | n => n, fun | 3 => 0 | 4 => 1 | n => n⟩
open Go.Lib in
theorem u8ty : U8Types Tryd.prog u8ren := ⟨by kernel_rfl, by kernel_rfl, by kernel_rfl, by kernel_rfl⟩
open Go.Lib in
theorem extra : U8Extra Tryd.prog u8ren := ⟨by kernel_rfl, by kernel_rfl, by kernel_rfl, by kernel_rfl, by kernel_rfl, by kernel_rfl, by kernel_rfl⟩
open Go.Lib in
theorem tabs {W : World} (h : laidMetH Tryd.prog Rows.namingWithinUptoRow.laid W) : Lib.Utf8Tabs 0 1 W := by
  have h' : laidMet Tryd.prog Rows.namingWithinUptoRow.laid W := h
  obtain ⟨ps, hl, _⟩ := h'
  have r4 : VarReads Tryd.prog W "unicode/utf8.acceptRanges" Rows.laid_unicode_utf8_acceptRanges := LaidVars_reads hl _ _ (List.Mem.head _)
  have r3 : VarReads Tryd.prog W "unicode/utf8.first" Go.Pinned.utf8First := LaidVars_reads hl _ _ (List.Mem.tail _ (List.Mem.head _))
  rw [Pinned.utf8First_eq] at r3
  rw [show (Rows.laid_unicode_utf8_acceptRanges : DataW Unit) = acceptData by kernel_rfl] at r4
  exact utf8Tabs_of_readsT u8ty extra r3 r4
theorem gents {W : World} (h : laidMetH Tryd.prog Rows.namingWithinUptoRow.laid W) : AllP (GEnt W) Go.Px.nam5.globL := by
  have h' : laidMet Tryd.prog Rows.namingWithinUptoRow.laid W := h
  obtain ⟨ps, hl, _⟩ := h'
  exact ⟨(gent_u8 (P := Tryd.prog) (by decide) (tabs h)).1, (gent_u8 (P := Tryd.prog) (by decide) (tabs h)).2, trivial⟩
noncomputable def laidWorld (os : Os) : World :=
  let w := World.holding Tryd.prog os ⟨#[], #[], []⟩
  { w with heap := ((w.heap.modify 0 (fun o => match o with | .cells _ t frozen => .cells (Lib.firstTab.map fun z => Value.int .u8 z).toArray t frozen | o => o)).modify 1 (fun o => match o with | .cells _ t frozen => .cells ((List.range 16).flatMap fun i => [Value.int .u8 (Lib.accLo i), Value.int .u8 (Lib.accHi i)]).toArray t frozen | o => o)) }
theorem laid_met (os : Os) : laidMet Tryd.prog Rows.namingWithinUptoRow.laid ((laidWorld os).forCall (fun _ _ => 0) ⟨#[], #[.string ByteArray.empty, .string ByteArray.empty, .string ByteArray.empty], []⟩).memory :=
  laidMet_of_run' 8 (by kernel_rfl) (by kernel_rfl)
theorem reads (os : Os) {H : Type} (enc : TypeId × Value → H) : ∃ places, DataW.whole enc Tryd.prog ((laidWorld os).forCall (fun _ _ => 0) ⟨#[], #[.string ByteArray.empty, .string ByteArray.empty, .string ByteArray.empty], []⟩).memory Tryd.f5.params.toList Rows.namingWithinSpec.vars false #[.string ByteArray.empty, .string ByteArray.empty, .string ByteArray.empty].toList 8 = some ([.lit (.string []), .lit (.string []), .lit (.string [])], [], places) :=
  ⟨[], by kernel_rfl⟩
set_option maxRecDepth 100000 in
theorem lifted (os : Os) (started : os.Started) (H : Type) (enc : TypeId × Value → H) (F : Stop.Interp) :
    ReturnsInHanded {} Tryd.checked os 5 .any ((Rows.OpenSpec.upto Rows.namingWithinSpec).preRow enc Tryd.prog Tryd.f5 Rows.namingWithinUptoRow.domain false Rows.namingWithinUptoRow.laid) (((Rows.OpenSpec.upto Rows.namingWithinSpec).at F).post enc Tryd.prog Tryd.f5 false true false false) := by
  obtain ⟨places, hx⟩ := reads os enc
  refine returnsInHanded_of_row (C := Tryd.checked) (s := Rows.OpenSpec.upto Rows.namingWithinSpec) own started (by kernel_rfl) Tryd.func5
    (witness_row_at (enc := enc) (C := Tryd.checked) false (laidWorld os) #[.string ByteArray.empty, .string ByteArray.empty, .string ByteArray.empty] rfl (by kernel_rfl) (by kernel_rfl) (by kernel_rfl)
      (OpenSpec.preRow_of_cond 8 hx (by kernel_rfl) (fun k hk => by cases hk; kernel_rfl) (by kernel_rfl) (laid_met os))) ?_
  intro W base args ds gs before hval0 hW hcnd hcond hsz0 hL _ _
  have hk := hcond _ rfl
  have hsz : (DataW.weightsEach Tryd.prog (Tryd.f5.params.toList ++ Rows.namingWithinSpec.plain.varTypes Tryd.prog) (ds ++ gs)).all (· ≤ reachBytes) = true := hsz0
  have hval : ∀ (j : Nat) t v, Tryd.f5.params[j]? = some t → args[j]? = some v → Value.okWide Tryd.prog W .any base t v := hval0
  have hW' := hW
  obtain ⟨p, q, hA0, hV, rfl, hfz, hnd⟩ := hW
  have hA : DataW.TrodAll enc Tryd.prog W 0 (fun _ => true) true Tryd.f5.params.toList args.toList ds p := hA0
  rw [Tryd.params5] at hA hval hsz
  obtain ⟨v0, vs0, d0, ds0, p0, q0, hargs, rfl, rfl, h0, r0⟩ := trodAll_cons hA
  obtain ⟨v1, vs1, d1, ds1, p1, q1, rfl, rfl, rfl, h1, r1⟩ := trodAll_cons r0
  obtain ⟨v2, vs2, d2, ds2, p2, q2, rfl, rfl, rfl, h2, r2⟩ := trodAll_cons r1
  obtain ⟨rfl, rfl, rfl⟩ := trodAll_nil r2
  obtain rfl : args = #[v0, v1, v2] := by cases args; simp_all
  obtain ⟨rfl, rfl⟩ := trodVars_none hV
  obtain ⟨a0, rfl, rfl, rfl, y0⟩ := open_string Tryd.underlying9 (hval 0 9 v0 rfl rfl) h0
  have w0 : a0.size ≤ 140737488351232 := by
    have z := sized_string hsz (j := 0) (t := 9) rfl rfl
    rw [Array.length_toList] at z
    exact z
  have e0 : a0.size = a0.data.toList.length := by rw [Array.length_toList]; rfl
  obtain ⟨a1, rfl, rfl, rfl, y1⟩ := open_string Tryd.underlying9 (hval 1 9 v1 rfl rfl) h1
  have w1 : a1.size ≤ 140737488351232 := by
    have z := sized_string hsz (j := 1) (t := 9) rfl rfl
    rw [Array.length_toList] at z
    exact z
  have e1 : a1.size = a1.data.toList.length := by rw [Array.length_toList]; rfl
  obtain ⟨a2, rfl, rfl, rfl, y2⟩ := open_string Tryd.underlying9 (hval 2 9 v2 rfl rfl) h2
  have w2 : a2.size ≤ 140737488351232 := by
    have z := sized_string hsz (j := 2) (t := 9) rfl rfl
    rw [Array.length_toList] at z
    exact z
  have e2 : a2.size = a2.data.toList.length := by rw [Array.length_toList]; rfl
  have hb := of_decide_eq_true hk
  simp only [List.append_nil, List.cons_append, List.nil_append, Rows.uptoBulkAll, Rows.uptoBulk] at hb
  clear hA0 hval0 hsz0 hsz
  refine (Go.Px.law_calls Go.Px.nam5.fun5_ok (Go.Px.nam5.glob_ok (gents hL)) (a0, a1, a2, ()) (Go.Px.pure_NamingWithin a0 w0 a1 w1 a2 w2 (by omega)) [.string a0, .string a1, .string a2] ⟨rfl, rfl, rfl, trivial⟩).mono fun e W' ⟨he, bel⟩ => ?_
  subst he
  exact ⟨_, rfl, _, _, _, [], _, [], hW', trodAll_mk1 (shut_bool Tryd.underlying4 _), (trodAll_cons_mk (shut_string Tryd.underlying9 y0) (trodAll_cons_mk (shut_string Tryd.underlying9 y1) (trodAll_cons_mk (shut_string Tryd.underlying9 y2) trodAll_mk0))), rfl, bel.frame _, fun h => by cases h⟩
theorem said : Rows.NamingWithinUptoSaid :=
  OpenClaim.holds_of_cond 5 Tryd.f5 rfl rfl rfl rfl rfl rfl rfl ⟨rfl, rfl, rfl, rfl, rfl⟩ rfl rfl rfl rfl rfl (by kernel_rfl) Tryd.func5 (by kernel_rfl)
    (of_decide_eq_true (by kernel_rfl)) (by unfold Func.isWrapper; first | (rw [if_pos (by decide +kernel)]; kernel_rfl) | (rw [if_neg (by decide +kernel)]; exact ⟨rfl, rfl⟩))
    (fun os started H enc _ F => by rw [OpenClaim.pre_eq_preRow]; exact lifted os started H enc F)
theorem plain (f : FuncId) (fn : Func) (hf : Tryd.pinned.checked.prog.funcNamed "muniment/munimentlaw03.NamingWithin" = some f) (hfn : Tryd.pinned.checked.prog.funcs[f]? = some fn) :
    false = Tryd.pinned.checked.prog.looks [] ∧ ∀ (j : Nat) t, fn.params[j]? = some t → Tryd.pinned.checked.prog.wantsStandIn t = false := by
  obtain rfl : f = 5 := Option.some.inj ((show Tryd.prog.funcNamed "muniment/munimentlaw03.NamingWithin" = some 5 by kernel_rfl).symm.trans hf) |>.symm
  obtain rfl : fn = Tryd.f5 := (Option.some.inj (Tryd.func5.symm.trans hfn)).symm
  refine ⟨by kernel_rfl, fun j t ht => ?_⟩
  rw [Tryd.params5] at ht
  have hm := Array.mem_toList_iff.2 (Array.mem_of_getElem? ht)
  have ha : (#[9, 9, 9] : Array TypeId).toList.all (fun t => !Tryd.prog.wantsStandIn t) = true := by kernel_rfl
  have g := List.all_eq_true.1 ha t hm
  simp only [Bool.not_eq_true'] at g
  exact g
theorem card : Rows.NamingWithinUptoCardSaid :=
  Claim7.holds_tied_plain_at .later [] _ _ _ _ said (fun _ h => by cases h) (by kernel_rfl) (fun _ h => by cases h) namingWithinUpto_row_tie rfl ⟨rfl, rfl⟩ (by kernel_rfl) rfl plain (by kernel_rfl)
#print axioms card
end Go.Proofs.YtjpgncjabhiooaaDoor.namingWithin
namespace Go.Proofs.YtjpgncjabhiooaaDoor
/-- The card, under a short name, for the claim. -/
theorem namingWithinUpto_holds : Rows.NamingWithinUptoCardSaid := namingWithin.card
end Go.Proofs.YtjpgncjabhiooaaDoor
