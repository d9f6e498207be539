/- The plain law of DigestHex, for what is small. -/
import Derived.Test.YtcbknapjchlogaaDoorPuDigAwake
import Derived.Test.YtcbknapjchlogaaDoorPuEqual
import Derived.Test.YtcbknapjchlogaaDoorPuLex
set_option linter.unusedVariables false
set_option linter.unusedSimpArgs false
namespace Go.Px.Pu
open Go Go.Px
theorem hex_digits : ∀ i : Fin 256, ishr .u8 ((i.val : Nat) : Int) 4 = iquo .u8 ((i.val : Nat) : Int) 16 ∧ iand .u8 ((i.val : Nat) : Int) 15 = irem .u8 ((i.val : Nat) : Int) 16 ∧
    inB (iquo .u8 ((i.val : Nat) : Int) 16) 16 = true ∧ inB (irem .u8 ((i.val : Nat) : Int) 16) 16 = true := by decide +kernel
theorem hex_of {n : Int} (h : byte n) : ishr .u8 n 4 = iquo .u8 n 16 ∧ iand .u8 n 15 = irem .u8 n 16 ∧ inB (iquo .u8 n 16) 16 = true ∧ inB (irem .u8 n 16) 16 = true := by
  have := hex_digits ⟨n.toNat, by have := h.1; have := h.2; omega⟩
  rw [show (((⟨n.toNat, by have := h.1; have := h.2; omega⟩ : Fin 256).val : Nat) : Int) = n from by have := h.1; simp; omega] at this
  exact this
abbrev hexT : ByteArray := ⟨#[48, 49, 50, 51, 52, 53, 54, 55, 56, 57, 97, 98, 99, 100, 101, 102]⟩
def hexG (n : Int) : List Int := [byteAt hexT (iquo .u8 n 16).toNat, byteAt hexT (irem .u8 n 16).toNat]
def hexL (l : List Int) (i : Nat) : List Int := (l.take i).flatMap hexG
theorem hexL_len (l : List Int) : ∀ i, i ≤ l.length → (hexL l i).length = 2 * i
  | 0, _ => rfl
  | i + 1, h => by
    have := hexL_len l i (by omega)
    unfold hexL at this ⊢
    rw [List.take_succ_eq_append_getElem (by omega), List.flatMap_append, List.length_append, this]
    simp [hexG]; omega
theorem hexL_succ (l : List Int) (i : Nat) (h : i < l.length) : hexL l (i + 1) = hexL l i ++ hexG (l.getD i 0) := by
  unfold hexL
  rw [List.take_succ_eq_append_getElem h, List.flatMap_append, List.getD_eq_getElem?_getD, List.getElem?_eq_getElem h]
  simp
theorem hex_step (l : List Int) (hb : ∀ n ∈ l, byte n) (i : Nat) (h : i < l.length) : byte (l.getD i 0) := hb _ (getD_mem h)
theorem dhex_l0 (l : List Int) (hb : ∀ n ∈ l, byte n) (hs : l.length ≤ 1048576) (kx) (m : Nat) (hm : l.length < m) : loopN m (digest_Hex.s0b kx) ([], l, (l.length : Int), 0, ()) = kx (hexL l l.length, ()) := by
  refine traj (fun i => (hexL l i, l, (l.length : Int), (i : Int), ())) _ l.length (fun i hi κ => ?_) (fun κ => ?_) m hm
  · have e4 : iadd .i64 (i : Int) 1 = ((i + 1 : Nat) : Int) := by rw [iadd64 (by omega)]; omega
    obtain ⟨h1, h2, h3, h4⟩ := hex_of (hex_step l hb i hi)
    have h3' : inB (iquo .u8 (l.getD i 0) 16) hexT.size = true := h3
    have h4' : inB (irem .u8 (l.getD i 0) 16) hexT.size = true := h4
    simp only [digest_Hex.s0b, e4, Int.toNat_natCast, h1, h2]
    rw [cond_t (ilt_iff.2 (by omega)), chk_true (inB_iff.2 (by omega)), chk_true h3', chk_true h4', chk_true (fits_iff.2 (by rw [hexL_len l i (by omega)]; omega)), hexL_succ l i hi]
    rfl
  · simp only [digest_Hex.s0b]
    rw [cond_f (ilt_f.2 (by omega))]
theorem rhex_l0 (l : List Int) (hb : ∀ n ∈ l, byte n) (hs : l.length ≤ 1048576) (kx) (m : Nat) (hm : l.length < m) : loopN m (r01_Hex.s0b kx) (l, [], 0, ()) = kx (hexL l l.length, ()) := by
  refine traj (fun i => (l, hexL l i, (i : Int), ())) _ l.length (fun i hi κ => ?_) (fun κ => ?_) m hm
  · have e4 : iadd .i64 (i : Int) 1 = ((i + 1 : Nat) : Int) := by rw [iadd64 (by omega)]; omega
    obtain ⟨h1, h2, h3, h4⟩ := hex_of (hex_step l hb i hi)
    have h3' : inB (iquo .u8 (l.getD i 0) 16) hexT.size = true := h3
    have h4' : inB (irem .u8 (l.getD i 0) 16) hexT.size = true := h4
    simp only [r01_Hex.s0b, e4, Int.toNat_natCast]
    rw [cond_t (ilt_iff.2 (by omega)), chk_true (inB_iff.2 (by omega)), chk_true h3', chk_true (inB_iff.2 (by omega)), chk_true h4', chk_true (fits_iff.2 (by rw [hexL_len l i (by omega)]; omega)), hexL_succ l i hi]
    rfl
  · simp only [r01_Hex.s0b]
    rw [cond_f (ilt_f.2 (by omega))]
theorem dhex_main (l0) (l : List Int) (h : ∀ kx, l0 ([], l, (l.length : Int), 0, ()) kx = kx (hexL l l.length, ())) : digest_Hex.b l0 (l, ()) = some (strOf (hexL l l.length)) := by
  simp only [digest_Hex.b, h]
theorem rhex_main (l0) (l : List Int) (h : ∀ kx, l0 (l, [], 0, ()) kx = kx (hexL l l.length, ())) : r01_Hex.b l0 (l, ()) = some (strOf (hexL l l.length)) := by
  simp only [r01_Hex.b, h]
theorem dhex_eq (l : List Int) (hb : ∀ n ∈ l, byte n) (hs : l.length ≤ 1048576) : digest_Hex (l, ()) = some (strOf (hexL l l.length)) :=
  dhex_main _ l fun kx => by
    have := dhex_l0 l hb hs kx (digest_Hex.n0 ([], l, (l.length : Int), 0, ())) (by show l.length < _ + _ + _ + _ + 1048576; omega)
    unfold digest_Hex.l0 digest_Hex.s0
    exact this
theorem rhex_eq (l : List Int) (hb : ∀ n ∈ l, byte n) (hs : l.length ≤ 1048576) : r01_Hex (l, ()) = some (strOf (hexL l l.length)) :=
  rhex_main _ l fun kx => by
    have := rhex_l0 l hb hs kx (r01_Hex.n0 (l, [], 0, ())) (by show l.length < _ + _ + _ + 1048576; omega)
    unfold r01_Hex.l0 r01_Hex.s0
    exact this
theorem seq_leq (a b : List Int) (ha : ∀ n ∈ a, byte n) (hb : ∀ n ∈ b, byte n) : seq (strOf a) (strOf b) = leq a b := by
  rw [Bool.eq_iff_iff, seq_iff, strOf_list, strOf_list]
  show _ ↔ (a == b) = true
  rw [beq_iff_eq]
  constructor
  · intro h
    have hl : a.length = b.length := by have := congrArg List.length h; simpa using this
    apply List.ext_getElem hl
    intro i h1 h2
    have g : (a.map fun n => UInt8.ofNat n.toNat)[i]? = (b.map fun n => UInt8.ofNat n.toNat)[i]? := by rw [h]
    rw [List.getElem?_map, List.getElem?_map, List.getElem?_eq_getElem h1, List.getElem?_eq_getElem h2] at g
    simp only [Option.map_some, Option.some.injEq] at g
    have b1 := ha _ (List.getElem_mem h1)
    have b2 := hb _ (List.getElem_mem h2)
    have g2 := congrArg UInt8.toNat g
    simp only [UInt8.toNat_ofNat'] at g2
    unfold byte at b1 b2
    omega
  · intro h; rw [h]
theorem main_DigestHex (f10 f14 f15 f16) (h10 : f10 () = some true) (h14 : ∀ l : List Int, (∀ n ∈ l, byte n) → l.length ≤ 1048576 → f14 (l, ()) = some (strOf (hexL l l.length))) (h15 : ∀ l : List Int, (∀ n ∈ l, byte n) → l.length ≤ 1048576 → f15 (l, ()) = some (strOf (hexL l l.length)))
    (h16 : ∀ a b : List Int, (∀ n ∈ a, byte n) → (∀ n ∈ b, byte n) → a.length ≤ 140737488355328 → f16 (a, b, ()) = some (leq a b)) (x0 x1 : List Int) (w0 : ∀ n ∈ x0, byte n) (w1 : ∀ n ∈ x1, byte n) (hb : x0.length + x1.length ≤ 1048576) : w01_DigestHex.b f10 f14 f15 f16 (x0, x1, ()) = some true := by
  simp only [w01_DigestHex.b, h10, Option.bind_some, cond_true]
  rw [h14 x0 w0 (by omega), h15 x0 w0 (by omega)]
  simp only [Option.bind_some]
  rw [cond_t (seq_iff.2 rfl), h16 x0 x1 w0 w1 (by omega), h16 x0 x0 w0 w0 (by omega)]
  simp only [Option.bind_some]
  rw [cond_t (by rw [seq_leq x0 x1 w0 w1]; simp), leq_self]
theorem _root_.Go.Px.pure_DigestHex (x0 : List Int) (y0 : x0.length * 1 ≤ 140737488351232) (w0 : ∀ n ∈ x0, (Lit.int .u8 n).wf = true) (x1 : List Int) (y1 : x1.length * 1 ≤ 140737488351232) (w1 : ∀ n ∈ x1, (Lit.int .u8 n).wf = true) (hb : x0.length + x1.length ≤ 1048576) : w01_DigestHex (x0, x1, ()) = some true :=
  main_DigestHex _ _ _ _ dig_awake (fun l hb hs => dhex_eq l hb hs) (fun l hb hs => rhex_eq l hb hs) equal_eq x0 x1 (bytes_wf w0) (bytes_wf w1) hb
end Go.Px.Pu
