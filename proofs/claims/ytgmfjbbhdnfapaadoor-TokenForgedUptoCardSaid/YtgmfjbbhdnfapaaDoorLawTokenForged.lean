/- TokenForgedUpto: a token with one sign turned is refused, or its tag is the tag of other bytes too. Conditions: the guards of the statement; arguments of no more bulk than the bound that the statement names; the package variables that the row lists hold what the text of the program lays in them. -/
import Derived.Test.YtgmfjbbhdnfapaaDoorCards
import Derived.Test.YtgmfjbbhdnfapaaDoorTie
import Derived.Test.YtgmfjbbhdnfapaaDoorCt
import Derived.Test.YtgmfjbbhdnfapaaDoorPuTokenForged
import Derived.Test.YtgmfjbbhdnfapaaDoorPxC
import Derived.WalkKit
import Derived.ProofKit
import Derived.OpenShut
import Derived.ShutString
import Derived.ChangeOld
import Derived.Below
import Derived.SizedLaws
import Derived.Deep.DeepHandedRow
import Derived.Lib.LaidU8T
import Derived.PinnedBridge
import Derived.JoinedCond
set_option linter.unusedVariables false
set_option linter.unusedSimpArgs false
namespace Go.Proofs.YtgmfjbbhdnfapaaDoor.tokenForged
open Go.ChangeShapes Go.WideShapes Go.ChangeAt Go.RowKit
open Go.ChangeMaps (open_string shut_string)
theorem own : ownKnob Tryd.prog.godebug = none := by kernel_rfl
theorem laidOut : laidOutB Tryd.prog = true := by kernel_rfl
theorem bulk_ints {H : Type} (k : IntKind) : (l : List Int) → l.length ≤ Rows.uptoBulkAll (lits (H := H) k l)
  | [] => Nat.zero_le _
  | a :: r => by
    have h := bulk_ints (H := H) k r
    simp only [lits, List.map_cons, Rows.uptoBulkAll, Rows.uptoBulk, List.length_cons] at h ⊢
    omega
theorem bulk_agg {H : Type} : (ds : List (DataW H)) → (i : Nat) → (l : List UInt8) → ds[i]? = some (.lit (.string l)) → l.length ≤ Rows.uptoBulkAll ds
  | [], i, l, h => by simp at h
  | d :: r, 0, l, h => by simp at h; subst h; simp [Rows.uptoBulkAll, Rows.uptoBulk]; omega
  | d :: r, i + 1, l, h => by have := bulk_agg r i l (by simpa using h); simp only [Rows.uptoBulkAll]; omega
theorem bulk_strs {H : Type} : (l : List ByteArray) → l.length + (l.map ByteArray.size).sum ≤ Rows.uptoBulkAll (strs (H := H) l)
  | [] => Nat.le_refl _
  | a :: r => by
    have h := bulk_strs (H := H) r
    have e : a.data.toList.length = a.size := by rw [Array.length_toList]; rfl
    simp only [strs, List.map_cons, Rows.uptoBulkAll, Rows.uptoBulk, List.length_cons, List.sum_cons] at h ⊢
    omega
def args0 : Array Value := #[.slice none 0 0, .agg ([.int .u64 0] ++ [.string ByteArray.empty] ++ [.int .u8 0] ++ [.int .u64 0] ++ [.int .i64 0] ++ [.int .i64 0] : List Value).toArray, .int .u16 0, .int .u8 0]
open Go.Px
def u8ren : Go.Shelf.Ren := ⟨fun n => n, fun | 5 => 5 | 119 => 122 | 138 => 124 | 139 => 125 | n => n, fun | 3 => 2 | 4 => 3 | n => n⟩
open Go.Lib in
theorem u8ty : U8Types Tryd.prog u8ren := ⟨by kernel_rfl, by kernel_rfl, by kernel_rfl, by kernel_rfl⟩
open Go.Lib in
theorem extra : U8Extra Tryd.prog u8ren := ⟨by kernel_rfl, by kernel_rfl, by kernel_rfl, by kernel_rfl, by kernel_rfl, by kernel_rfl, by kernel_rfl⟩
open Go.Lib in
theorem tabs {W : World} (h : laidMetH Tryd.prog Rows.tokenForgedUptoRow.laid W) : Lib.Utf8Tabs 2 3 W := by
  have h' : laidMet Tryd.prog Rows.tokenForgedUptoRow.laid W := h
  obtain ⟨ps, hl, _⟩ := h'
  have r4 : VarReads Tryd.prog W "unicode/utf8.acceptRanges" Rows.laid_unicode_utf8_acceptRanges := LaidVars_reads hl _ _ (List.Mem.tail _ (List.Mem.tail _ (List.Mem.head _)))
  have r3 : VarReads Tryd.prog W "unicode/utf8.first" Go.Pinned.utf8First := LaidVars_reads hl _ _ (List.Mem.tail _ (List.Mem.tail _ (List.Mem.tail _ (List.Mem.head _))))
  rw [Pinned.utf8First_eq] at r3
  rw [show (Rows.laid_unicode_utf8_acceptRanges : DataW Unit) = acceptData by kernel_rfl] at r4
  exact utf8Tabs_of_readsT u8ty extra r3 r4
theorem gents {W : World} (h : laidMetH Tryd.prog Rows.tokenForgedUptoRow.laid W) : AllP (GEnt W) Go.Px.tok.globL := by
  have h' : laidMet Tryd.prog Rows.tokenForgedUptoRow.laid W := h
  obtain ⟨ps, hl, _⟩ := h'
  have r0 : Lib.VarReads Tryd.prog W "muniment/digest.first" Rows.laid_muniment_digest_first := Lib.LaidVars_reads hl _ _ (List.Mem.head _)
  rw [show (Rows.laid_muniment_digest_first : DataW Unit) = Lib.tabData .u32 gv_dfirst by kernel_rfl] at r0
  have t0 : Lib.TabIs Tryd.prog W "muniment/digest.first" .u32 gv_dfirst := Go.Px.tabIs_of_reads (g := 0) (t := 32) (e := 31) (n := 8) (by kernel_rfl) (by kernel_rfl) (by kernel_rfl) (by kernel_rfl) (by kernel_rfl) (by kernel_rfl) r0
  have r1 : Lib.VarReads Tryd.prog W "muniment/digest.parts" Rows.laid_muniment_digest_parts := Lib.LaidVars_reads hl _ _ (List.Mem.tail _ (List.Mem.head _))
  rw [show (Rows.laid_muniment_digest_parts : DataW Unit) = Lib.tabData .u32 gv_dparts by kernel_rfl] at r1
  have t1 : Lib.TabIs Tryd.prog W "muniment/digest.parts" .u32 gv_dparts := Go.Px.tabIs_of_reads (g := 1) (t := 33) (e := 31) (n := 64) (by kernel_rfl) (by kernel_rfl) (by kernel_rfl) (by kernel_rfl) (by kernel_rfl) (by kernel_rfl) r1
  exact ⟨Go.Px.gent_tab (P := Tryd.prog) (by kernel_rfl) (by kernel_rfl) t0, Go.Px.gent_tab (P := Tryd.prog) (by kernel_rfl) (by kernel_rfl) t1, (gent_u8 (P := Tryd.prog) (by decide) (tabs h)).1, (gent_u8 (P := Tryd.prog) (by decide) (tabs h)).2, trivial⟩
noncomputable def laidWorld (os : Os) : World :=
  let w := World.holding Tryd.prog os ⟨#[], #[], []⟩
  { w with heap := ((((w.heap.modify 0 (fun o => match o with | .cells _ t frozen => .cells (gv_dfirst.map fun z => Value.int .u32 z).toArray t frozen | o => o)).modify 1 (fun o => match o with | .cells _ t frozen => .cells (gv_dparts.map fun z => Value.int .u32 z).toArray t frozen | o => o)).modify 2 (fun o => match o with | .cells _ t frozen => .cells (Lib.firstTab.map fun z => Value.int .u8 z).toArray t frozen | o => o)).modify 3 (fun o => match o with | .cells _ t frozen => .cells ((List.range 16).flatMap fun i => [Value.int .u8 (Lib.accLo i), Value.int .u8 (Lib.accHi i)]).toArray t frozen | o => o)) }
theorem laid_met (os : Os) : laidMet Tryd.prog Rows.tokenForgedUptoRow.laid ((laidWorld os).forCall (fun _ _ => 0) ⟨#[], args0, []⟩).memory :=
  laidMet_of_run' 8 (by kernel_rfl) (by kernel_rfl)
theorem reads (os : Os) {H : Type} (enc : TypeId × Value → H) : ∃ places, DataW.whole enc Tryd.prog ((laidWorld os).forCall (fun _ _ => 0) ⟨#[], args0, []⟩).memory Tryd.f11.params.toList Rows.tokenForgedSpec.vars false args0.toList 8 = some ([.nil, .agg [.lit (.int .u64 0), .lit (.string []), .lit (.int .u8 0), .lit (.int .u64 0), .lit (.int .i64 0), .lit (.int .i64 0)], .lit (.int .u16 0), .lit (.int .u8 0)], [], places) :=
  ⟨[], by kernel_rfl⟩
set_option maxRecDepth 100000 in
theorem lifted (os : Os) (started : os.Started) (H : Type) (enc : TypeId × Value → H) (F : Stop.Interp) :
    ReturnsInHanded {} Tryd.checked os 11 .any ((Rows.OpenSpec.upto Rows.tokenForgedSpec).preRow enc Tryd.prog Tryd.f11 Rows.tokenForgedUptoRow.domain false Rows.tokenForgedUptoRow.laid) (((Rows.OpenSpec.upto Rows.tokenForgedSpec).at F).post enc Tryd.prog Tryd.f11 false true false false) := by
  obtain ⟨places, hx⟩ := reads os enc
  refine returnsInHanded_of_row (C := Tryd.checked) (s := Rows.OpenSpec.upto Rows.tokenForgedSpec) own started (by kernel_rfl) Tryd.func11
    (witness_row_at (enc := enc) (C := Tryd.checked) false (laidWorld os) args0 rfl (by kernel_rfl) (by kernel_rfl) (by kernel_rfl)
      (OpenSpec.preRow_of_cond 8 hx (by kernel_rfl) (fun k hk => by cases hk; kernel_rfl) (by kernel_rfl) (laid_met os))) ?_
  intro W base args ds gs before hval0 hW hcnd hcond hsz0 hL _ _
  have hk := hcond _ rfl
  have hsz : (DataW.weightsEach Tryd.prog (Tryd.f11.params.toList ++ Rows.tokenForgedSpec.plain.varTypes Tryd.prog) (ds ++ gs)).all (· ≤ reachBytes) = true := hsz0
  have hval : ∀ (j : Nat) t v, Tryd.f11.params[j]? = some t → args[j]? = some v → Value.okWide Tryd.prog W .any base t v := hval0
  have hW' := hW
  obtain ⟨p, q, hA0, hV, rfl, hfz, hnd⟩ := hW
  have hA : DataW.TrodAll enc Tryd.prog W 0 (fun _ => true) true Tryd.f11.params.toList args.toList ds p := hA0
  rw [Tryd.params11] at hA hval hsz
  obtain ⟨v0, vs0, d0, ds0, p0, q0, hargs, rfl, rfl, h0, r0⟩ := trodAll_cons hA
  obtain ⟨v1, vs1, d1, ds1, p1, q1, rfl, rfl, rfl, h1, r1⟩ := trodAll_cons r0
  obtain ⟨v2, vs2, d2, ds2, p2, q2, rfl, rfl, rfl, h2, r2⟩ := trodAll_cons r1
  obtain ⟨v3, vs3, d3, ds3, p3, q3, rfl, rfl, rfl, h3, r3⟩ := trodAll_cons r2
  obtain ⟨rfl, rfl, rfl⟩ := trodAll_nil r3
  obtain rfl : args = #[v0, v1, v2, v3] := by cases args; simp_all
  obtain ⟨rfl, rfl⟩ := trodVars_none hV
  obtain ⟨a0, len0, cap0, rfl⟩ := okWide_slice Tryd.underlying37 (hval 0 37 v0 rfl rfl)
  have k0 := h0
  have lt0 : ∀ x ∈ p0, x.block < W.heap.size := by obtain ⟨m, hm⟩ := k0; exact DataW.trod_lt m _ _ _ hm
  obtain ⟨z0, o0, y0, w0, u0⟩ := Go.Px.arg_ints hsz (j := 0) (t := 37) rfl rfl Tryd.underlying37 Tryd.underlying5 (by kernel_rfl) (B := 1) (by kernel_rfl) h0
  have e0 : z0.length ≤ Rows.uptoBulk d0 := by
    rcases u0 with rfl | ⟨sp, rfl⟩
    · exact Nat.zero_le _
    · have h := bulk_ints (H := H) .u8 z0
      simp only [Rows.uptoBulk]
      omega
  have k1 := h1
  have lt1 : ∀ x ∈ p1, x.block < W.heap.size := by obtain ⟨m, hm⟩ := k1; exact DataW.trod_lt m _ _ _ hm
  obtain ⟨x1, o1, y1, e1s, rfl, g1⟩ := Go.Px.arg_strcB (ss := [.one (.int .u64), .one .str, .one (.int .u8), .one (.int .u64), .one (.int .i64), .one (.int .i64)]) Tryd.underlying53 (by kernel_rfl) 1 _ rfl Tryd.underlying9 (by kernel_rfl) (hval 1 53 v1 rfl rfl) h1
  have e1 : x1.2.1.size ≤ Rows.uptoBulkAll e1s := by
    have q := bulk_agg e1s 1 _ (g1 x1.2.1 rfl)
    have q2 : x1.2.1.data.toList.length = x1.2.1.size := by rfl
    omega
  obtain ⟨a2, rfl, rfl, rfl, w2⟩ := open_int Tryd.underlying70 (hval 2 70 v2 rfl rfl) h2
  obtain ⟨a3, rfl, rfl, rfl, w3⟩ := open_int Tryd.underlying5 (hval 3 5 v3 rfl rfl) h3
  have hb := of_decide_eq_true hk
  simp only [List.append_nil, List.cons_append, List.nil_append, Rows.uptoBulkAll, Rows.uptoBulk] at hb
  clear hA0 hval0 hsz0 hsz
  refine (Go.Px.law_calls Go.Px.tok.fun11_ok (Go.Px.tok.glob_ok (gents hL)) (z0, x1, a2, a3, ()) (Go.Px.pure_TokenForged z0 y0 w0 x1 y1 a2 w2 a3 w3 (by omega)) [.slice a0 len0 cap0, v1, .int .u16 a2, .int .u8 a3] ⟨o0, o1, rfl, rfl, trivial⟩).mono fun e W' ⟨he, bel⟩ => ?_
  subst he
  exact ⟨_, rfl, _, _, _, [], _, [], hW', trodAll_mk1 (shut_bool Tryd.underlying4 _), (trodAll_cons_mk (Below.trod laidOut (by kernel_rfl) (of_decide_eq_true (by kernel_rfl)) k0 bel lt0) (trodAll_cons_mk (Below.trod laidOut (by kernel_rfl) (of_decide_eq_true (by kernel_rfl)) k1 bel lt1) (trodAll_cons_mk (shut_int Tryd.underlying70 w2) (trodAll_cons_mk (shut_int Tryd.underlying5 w3) trodAll_mk0)))), rfl, bel.frame _, fun h => by cases h⟩
theorem said : Rows.TokenForgedUptoSaid :=
  OpenClaim.holds_of_cond 11 Tryd.f11 rfl rfl rfl rfl rfl rfl rfl ⟨rfl, rfl, rfl, rfl, rfl⟩ rfl rfl rfl rfl rfl (by kernel_rfl) Tryd.func11 (by kernel_rfl)
    (of_decide_eq_true (by kernel_rfl)) (by unfold Func.isWrapper; first | (rw [if_pos (by decide +kernel)]; kernel_rfl) | (rw [if_neg (by decide +kernel)]; exact ⟨rfl, rfl⟩))
    (fun os started H enc _ F => by rw [OpenClaim.pre_eq_preRow]; exact lifted os started H enc F)
theorem plain (f : FuncId) (fn : Func) (hf : Tryd.pinned.checked.prog.funcNamed "muniment/munimentlaw19.TokenForged" = some f) (hfn : Tryd.pinned.checked.prog.funcs[f]? = some fn) :
    false = Tryd.pinned.checked.prog.looks [] ∧ ∀ (j : Nat) t, fn.params[j]? = some t → Tryd.pinned.checked.prog.wantsStandIn t = false := by
  obtain rfl : f = 11 := Option.some.inj ((show Tryd.prog.funcNamed "muniment/munimentlaw19.TokenForged" = some 11 by kernel_rfl).symm.trans hf) |>.symm
  obtain rfl : fn = Tryd.f11 := (Option.some.inj (Tryd.func11.symm.trans hfn)).symm
  refine ⟨by kernel_rfl, fun j t ht => ?_⟩
  rw [Tryd.params11] at ht
  have hm := Array.mem_toList_iff.2 (Array.mem_of_getElem? ht)
  have ha : (#[37, 53, 70, 5] : Array TypeId).toList.all (fun t => !Tryd.prog.wantsStandIn t) = true := by kernel_rfl
  have g := List.all_eq_true.1 ha t hm
  simp only [Bool.not_eq_true'] at g
  exact g
theorem card : Rows.TokenForgedUptoCardSaid :=
  Claim7.holds_tied_plain_at .later [] _ _ _ _ said (fun _ h => by cases h) (by kernel_rfl) (fun _ h => by cases h) tokenForgedUpto_row_tie rfl ⟨rfl, rfl⟩ (by kernel_rfl) rfl plain (by kernel_rfl)
#print axioms card
end Go.Proofs.YtgmfjbbhdnfapaaDoor.tokenForged
namespace Go.Proofs.YtgmfjbbhdnfapaaDoor
/-- The card, under a short name, for the claim. -/
theorem tokenForgedUpto_holds : Rows.TokenForgedUptoCardSaid := tokenForged.card
end Go.Proofs.YtgmfjbbhdnfapaaDoor
