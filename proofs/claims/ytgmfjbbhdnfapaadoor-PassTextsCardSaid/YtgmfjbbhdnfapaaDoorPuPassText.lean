/- pass.Write and pass.Read. -/
import Derived.Test.YtgmfjbbhdnfapaaDoorPuPas
import Derived.Test.YtgmfjbbhdnfapaaDoorPuB64r
import Derived.Test.YtgmfjbbhdnfapaaDoorPuReadU
set_option linter.unusedVariables false
set_option linter.unusedSimpArgs false
namespace Go.Px.Pu
open Go Go.Px

def secL (s n : Int) (d : List Int) : List Int := digs 8 s ++ [n] ++ d
def secT (s n : Int) (d : List Int) : ByteArray := strOf ((encF (encL (secL s n d))).map ch)
theorem secL_byte {s n : Int} {d : List Int} (h1 : 1 ≤ n) (h2 : n ≤ 64) (hd : ∀ x ∈ d, byte x) : ∀ x ∈ secL s n d, byte x := fun x hx => by
  unfold secL at hx
  rcases List.mem_append.1 hx with hx | hx
  · rcases List.mem_append.1 hx with hx | hx
    · exact digs8_byte s x hx
    · simp at hx; subst hx; unfold byte; omega
  · exact hd x hx
theorem secL_len {s n : Int} {d : List Int} (hl : d.length = 32) : (secL s n d).length = 41 := by unfold secL; simp [digs8_len, hl]
theorem write_main (f36 f41) (h36 : ∀ u : Int, f36 (u, ()) = some (digs 8 u)) (h41 : ∀ l : List Int, l.length ≤ 1000000 → (∀ n ∈ l, byte n) → f41 (l, ()) = some (strOf ((encF (encL l)).map ch)))
    (s n : Int) (d : List Int) (h1 : 1 ≤ n) (h2 : n ≤ 64) (hl : d.length = 32) (hd : ∀ x ∈ d, byte x) : pass_Write.b f36 f41 ((s, n, d, ()), ()) = some (secT s n d, 0, ()) := by
  simp only [pass_Write.b]
  have hw : IntKind.wrap .u8 n = n := by simp [IntKind.wrap, IntKind.signed, IntKind.bits]; omega
  have hL := secL_len (s := s) (n := n) hl
  rw [cond_f (ilt_f.2 h1), cond_f (igt_f.2 h2), h36]
  simp only [Option.bind_some]
  rw [hw, chk_true (fits64 (by rw [digs8_len]; omega)), chk_true (fits64 (by simp [digs8_len, hl])), show digs 8 s ++ [n] ++ d = secL s n d from rfl, h41 _ (by omega) (secL_byte h1 h2 hd)]
  rfl
theorem write_pass (s n : Int) (d : List Int) (h1 : 1 ≤ n) (h2 : n ≤ 64) (hl : d.length = 32) (hd : ∀ x ∈ d, byte x) : pass_Write ((s, n, d, ()), ()) = some (secT s n d, 0, ()) :=
  write_main _ _ octet_Uint_eq (fun l hl hb => base_eq l hl hb) s n d h1 h2 hl hd
theorem read_pass_main (f42 f43) (t : ByteArray) (l : List Int) (hlen : l.length = 41) (h42 : f42 (t, ()) = some (l, 0, ())) (s : Int) (h43 : f43 (l, 0, ()) = some (s, 8, 0, ())) (hb : ∀ x ∈ l, byte x) :
    pass_Read.b f42 f43 (t, ()) = if l.getD 8 0 < 1 ∨ 64 < l.getD 8 0 then some ((0, 0, List.replicate 32 0, ()), 3, ()) else some ((s, l.getD 8 0, (l.drop 9).take 32, ()), 0, ()) := by
  have h8 : byte (l.getD 8 0) := hb _ (getD_mem (by omega))
  unfold byte at h8
  have hw : IntKind.wrap .i64 (l.getD 8 0) = l.getD 8 0 := by
    generalize l.getD 8 0 = x at h8
    simp [IntKind.wrap, IntKind.signed, IntKind.bits]; omega
  simp only [pass_Read.b]
  rw [h42]
  simp only [Option.bind_some]
  rw [cond_f (ine_f.2 rfl), cond_f (ine_f.2 (by omega)), chk_true (inB_iff.2 (by omega)), chk_true (by simp [leB]; omega), chk_true (by simp; omega), chk_true (by simp; omega), h43]
  simp only [Option.bind_some]
  rw [hw]
  by_cases h1 : l.getD 8 0 < 1
  · rw [cond_t (ilt_iff.2 h1), if_pos (.inl h1)]
  · rw [cond_f (ilt_f.2 (by omega))]
    by_cases h2 : 64 < l.getD 8 0
    · rw [cond_t (igt_iff.2 h2), if_pos (.inr h2)]
    · rw [cond_f (igt_f.2 (by omega)), if_neg (by omega)]
theorem be_sec {s n : Int} {d : List Int} (hs : 0 ≤ s ∧ s < 18446744073709551616) : be (((secL s n d).drop (0 : Int).toNat).take 8) = s := by
  have : ((secL s n d).drop (0 : Int).toNat).take 8 = digs 8 s := by
    show (digs 8 s ++ [n] ++ d).take 8 = _
    rw [List.append_assoc, List.take_append_of_le_length (by rw [digs8_len]; omega), List.take_of_length_le (by rw [digs8_len]; omega)]
  rw [this]
  exact be_digs 8 s hs.1 (by show s < 18446744073709551616; exact hs.2)
theorem read_pass (s n : Int) (d : List Int) (hs : 0 ≤ s ∧ s < 18446744073709551616) (h1 : 1 ≤ n) (h2 : n ≤ 64) (hl : d.length = 32) (hd : ∀ x ∈ d, byte x) : pass_Read (secT s n d, ()) = some ((s, n, d, ()), 0, ()) := by
  have hL := secL_len (s := s) (n := n) hl
  have hB := secL_byte (s := s) h1 h2 hd
  have := read_pass_main codec_ReadBase octet_ReadUint (secT s n d) (secL s n d) hL (read_back _ (by omega) hB) s (by
    rw [octet_ReadUint_eq (by omega) hB 0]
    unfold readU
    rw [if_neg (by omega), if_neg (by omega), if_neg (by omega), be_sec hs]
    rfl) hB
  have e8 : (secL s n d).getD 8 0 = n := by
    unfold secL
    rw [List.append_assoc, List.getD_eq_getElem?_getD, List.getElem?_append_right (by rw [digs8_len]; omega), digs8_len]
    simp
  have e9 : ((secL s n d).drop 9).take 32 = d := by
    unfold secL
    rw [List.drop_append, List.drop_eq_nil_of_le (by simp [digs8_len]), show 9 - (digs 8 s ++ [n]).length = 0 by simp [digs8_len], List.nil_append, List.drop_zero, List.take_of_length_le (by omega)]
  rw [e8, e9, if_neg (by omega)] at this
  exact this
end Go.Px.Pu
