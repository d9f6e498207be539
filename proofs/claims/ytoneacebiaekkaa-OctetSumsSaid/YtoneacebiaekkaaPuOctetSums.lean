/- OctetSums: the sum of any bytes, which every single turned bit changes. -/
import Derived.Test.YtoneacebiaekkaaPuOctSum
import Derived.Test.YtoneacebiaekkaaPuOctAwake
set_option linter.unusedVariables false
set_option linter.unusedSimpArgs false
namespace Go.Px.Pu
open Go Go.Px
theorem turned {v x2 : Int} (hv : byte v) (h2 : (Lit.int .u8 x2).wf = true) : byte (ixor .u8 v (ishl .u8 1 (irem .u8 x2 8))) ∧ ixor .u8 v (ishl .u8 1 (irem .u8 x2 8)) ≠ v := by
  obtain ⟨b0, b1⟩ := byte_wf h2
  obtain ⟨s, hs, hs8⟩ : ∃ s : Nat, irem .u8 x2 8 = s ∧ s < 8 := ⟨(x2 % 8).toNat, by unfold irem; rw [Int.tmod_eq_emod_of_nonneg b0]; omega, by omega⟩
  rw [hs]
  have e1 : v = ((BitVec.ofInt 8 v).toNat : Int) := bv_of hv.1 (by have := hv.2; omega)
  have e2 : ishl .u8 1 (s : Int) = ((1#8 <<< s).toNat : Int) := ishlB (k := .u8) rfl 1#8 s (by have : IntKind.bits .u8 = 8 := rfl; omega)
  rw [e2]
  generalize hx : BitVec.ofInt 8 v = x at e1
  rw [e1]
  have e3 : ixor .u8 (x.toNat : Int) ((1#8 <<< s).toNat : Int) = ((x ^^^ (1#8 <<< s)).toNat : Int) := ixorB (k := .u8) rfl x (1#8 <<< s)
  rw [e3]
  refine ⟨⟨by omega, by have := (x ^^^ (1#8 <<< s)).isLt; omega⟩, fun e => ?_⟩
  have e := toNat_inj.1 e
  have e4 : 1#8 <<< s = 0#8 := by
    have := congrArg (fun t => x ^^^ t) e
    simpa [← BitVec.xor_assoc] using this
  have g := congrArg (fun z => BitVec.getLsbD z s) e4
  simp [BitVec.getLsbD_shiftLeft, hs8] at g
theorem ofInt_ne {m n : Int} (hm : byte m) (hn : byte n) (h : m ≠ n) : BitVec.ofInt 32 m ≠ BitVec.ofInt 32 n := fun e => by
  have h1 : m = ((BitVec.ofInt 32 m).toNat : Int) := bv_of hm.1 (by have := hm.2; omega)
  have h2 : n = ((BitVec.ofInt 32 n).toNat : Int) := bv_of hn.1 (by have := hn.2; omega)
  rw [e, ← h2] at h1
  exact h h1
end Go.Px.Pu
namespace Go.Px
open Go Go.Px.Pu
theorem pure_OctetSums (x0 : List Int) (y0 : x0.length * 1 ≤ 140737488351232) (w0 : ∀ n ∈ x0, (Lit.int .u8 n).wf = true) (x1 : Int) (w1 : (Lit.int .u16 x1).wf = true) (x2 : Int) (w2 : (Lit.int .u8 x2).wf = true) : w02_OctetSums (x0, x1, x2, ()) = some true := by
  have hp : x0.length ≤ 140737488351232 := by omega
  have hb : ∀ n ∈ x0, byte n := fun n hn => byte_wf (w0 n hn)
  unfold w02_OctetSums
  simp only [w02_OctetSums.b, w02_awake_eq, Option.bind_some, Bool.not_true, cond_false, octet_Sum_eq hp, r02_Sum_eq hp hb]
  rw [cond_f (ine_f.2 rfl)]
  by_cases h0 : x0.length = 0
  · rw [cond_t (ieq_iff.2 (by omega))]
  · rw [cond_f (ieq_f.2 (by omega)), chk_true (fits_iff.2 (by omega)), chk_true (decide_eq_true (by omega))]
    simp [Lit.wf, IntKind.min, IntKind.max, IntKind.signed, IntKind.bits] at w1
    obtain ⟨k, hk, hlt⟩ : ∃ k : Nat, irem .i64 (IntKind.wrap .i64 x1) (x0.length : Int) = k ∧ k < x0.length := by
      refine ⟨(x1 % x0.length).toNat, ?_, ?_⟩
      · rw [IntWalk.i64_in _ ⟨by omega, by omega⟩]
        unfold irem
        rw [Int.tmod_eq_emod_of_nonneg (by omega)]
        have := Int.emod_nonneg x1 (b := (x0.length : Int)) (by omega)
        omega
      · have := Int.emod_lt_of_pos x1 (b := (x0.length : Int)) (by omega)
        have := Int.emod_nonneg x1 (b := (x0.length : Int)) (by omega)
        omega
    rw [hk, chk_true (inB_iff.2 (by omega))]
    have hs : ile 0 (irem .u8 x2 8) = true := ile_iff.2 (by
      obtain ⟨b0, b1⟩ := byte_wf w2
      unfold irem; rw [Int.tmod_eq_emod_of_nonneg b0]; omega)
    rw [chk_true hs, chk_true (inB_iff.2 (by omega))]
    simp only [Int.toNat_natCast]
    obtain ⟨ht1, ht2⟩ := turned (hb _ (getD_mem (d := 0) hlt)) w2
    generalize ixor .u8 (x0.getD k 0) (ishl .u8 1 (irem .u8 x2 8)) = v at ht1 ht2
    rw [octet_Sum_eq (p := x0.set k v) (by rw [List.length_set]; exact hp)]
    simp only [Option.bind_some]
    have e1 : x0.set k v = x0.take k ++ v :: x0.drop (k + 1) := List.set_eq_take_append_cons_drop.trans (if_pos hlt)
    have e2 : x0 = x0.take k ++ x0.getD k 0 :: x0.drop (k + 1) := by
      conv => lhs; rw [← List.take_append_drop k x0]
      rw [drop_cons hlt]
    have hne : sumI (x0.set k v) ≠ sumI x0 := by
      rw [e1]
      conv => rhs; rw [e2]
      exact sumI_ne _ _ (ofInt_ne ht1 (hb _ (getD_mem hlt)) ht2)
    rw [ine_iff.2 hne]
end Go.Px
