/- pass.Make and pass.Check. -/
import Derived.Test.YtgmfjbbhdnfapaaDoorPuShaX
import Derived.Test.YtgmfjbbhdnfapaaDoorPuUint
import Derived.Test.YtgmfjbbhdnfapaaDoorPuEqual
import Derived.Test.YtgmfjbbhdnfapaaDoorPuLex
set_option linter.unusedVariables false
set_option linter.unusedSimpArgs false
namespace Go.Px.Pu
open Go Go.Px

theorem leq_self (a : List Int) : leq a a = true := by simp [leq]
def strD (p : ByteArray) (salt : Int) (n : Int) : List Int := stretch (bytesOf p) (digs 8 salt) n.toNat
theorem str_bs (p : ByteArray) : ∀ n ∈ bytesOf p, byte n := fun n hn => bys_of p n hn
theorem stretch_bytes (pass salt : List Int) (n : Nat) : ∀ x ∈ stretch pass salt n, byte x := by
  have key : ∀ u0 : List Int, (∀ x ∈ u0, byte x) → ∀ n, ∀ x ∈ (sIt pass u0 n).2, byte x := fun u0 h n => by
    cases n with
    | zero => exact h
    | succ n =>
      intro x hx
      have hx : x ∈ List.zipWith (ixor .u8) _ _ := hx
      obtain ⟨i, hi, rfl⟩ := List.getElem_of_mem hx
      rw [List.getElem_zipWith]
      exact xor8_byte _ _
  exact key _ (tag_byte _ _) _
theorem stretch_len (pass salt : List Int) (n : Nat) : (stretch pass salt n).length = 32 := (sIt_len pass _ (tag_len _ _) _).2
theorem make_main (f35 f36) (h36 : ∀ u : Int, f36 (u, ()) = some (digs 8 u)) (h35 : ∀ k p : List Int, k.length ≤ 2000 → p.length ≤ 2000 → ∀ n : Int, f35 (k, p, n, ()) = if 1 ≤ n ∧ n ≤ 64 then some (stretch k p n.toNat, 0, ()) else some (List.replicate 32 0, 1, ()))
    (p : ByteArray) (hp : p.size ≤ 2000) (salt n : Int) : pass_Make.b f35 f36 (p, salt, n, ()) = if 1 ≤ n ∧ n ≤ 64 then some ((salt, n, strD p salt n, ()), 0, ()) else some ((0, 0, List.replicate 32 0, ()), 1, ()) := by
  simp only [pass_Make.b]
  rw [chk_true (by simp; omega), h36]
  simp only [Option.bind_some]
  rw [h35 _ _ (by rw [bytesOf_len]; omega) (by rw [digs8_len]; omega)]
  split
  · simp only [Option.bind_some]
    rw [cond_f (ine_f.2 rfl)]
    rfl
  · simp only [Option.bind_some]
    rw [cond_t (ine_iff.2 (by decide))]
theorem make_pass (p : ByteArray) (hp : p.size ≤ 2000) (salt n : Int) : pass_Make (p, salt, n, ()) = if 1 ≤ n ∧ n ≤ 64 then some ((salt, n, strD p salt n, ()), 0, ()) else some ((0, 0, List.replicate 32 0, ()), 1, ()) :=
  make_main _ _ octet_Uint_eq (fun k p hk hp n => stretch_eq k p (by omega) (by omega) n) p hp salt n
theorem check_main (f35 f36 f40) (h36 : ∀ u : Int, f36 (u, ()) = some (digs 8 u)) (h35 : ∀ k p : List Int, k.length ≤ 2000 → p.length ≤ 2000 → ∀ n : Int, f35 (k, p, n, ()) = if 1 ≤ n ∧ n ≤ 64 then some (stretch k p n.toNat, 0, ()) else some (List.replicate 32 0, 1, ()))
    (h40 : ∀ a b : List Int, (∀ n ∈ a, byte n) → (∀ n ∈ b, byte n) → a.length ≤ 140737488355328 → f40 (a, b, ()) = some (leq a b))
    (p : ByteArray) (hp : p.size ≤ 2000) (salt n r : Int) (d : List Int) (hd : ∀ n ∈ d, byte n) :
    pass_Check.b f35 f36 f40 ((salt, n, d, ()), p, r, ()) = some (if 1 ≤ n ∧ n ≤ 64 ∧ leq (strD p salt n) d = true then (true, ilt n r, ()) else (false, false, ())) := by
  simp only [pass_Check.b]
  rw [chk_true (by simp; omega), h36]
  simp only [Option.bind_some]
  rw [h35 _ _ (by rw [bytesOf_len]; omega) (by rw [digs8_len]; omega)]
  by_cases h : 1 ≤ n ∧ n ≤ 64
  · rw [if_pos h]
    simp only [Option.bind_some]
    rw [cond_f (ine_f.2 rfl), h40 _ _ (stretch_bytes _ _ _) hd (by rw [stretch_len]; omega)]
    simp only [Option.bind_some]
    show cond (!leq (strD p salt n) d) _ _ = _
    cases hq : leq (strD p salt n) d with
    | true =>
      rw [if_pos ⟨h.1, h.2, rfl⟩]; rfl
    | false =>
      rw [if_neg (by simp)]; rfl
  · rw [if_neg h]
    simp only [Option.bind_some]
    rw [cond_t (ine_iff.2 (by decide)), if_neg (fun hh => h ⟨hh.1, hh.2.1⟩)]
theorem check_pass (p : ByteArray) (hp : p.size ≤ 2000) (salt n r : Int) (d : List Int) (hd : ∀ n ∈ d, byte n) :
    pass_Check ((salt, n, d, ()), p, r, ()) = some (if 1 ≤ n ∧ n ≤ 64 ∧ leq (strD p salt n) d = true then (true, ilt n r, ()) else (false, false, ())) :=
  check_main _ _ _ octet_Uint_eq (fun k p hk hp n => stretch_eq k p (by omega) (by omega) n) equal_eq p hp salt n r d hd
theorem ab_i97 : x54 (kB [97]) = [87, 54, 54, 54, 54, 54, 54, 54, 54, 54, 54, 54, 54, 54, 54, 54, 54, 54, 54, 54, 54, 54, 54, 54, 54, 54, 54, 54, 54, 54, 54, 54, 54, 54, 54, 54, 54, 54, 54, 54, 54, 54, 54, 54, 54, 54, 54, 54, 54, 54, 54, 54, 54, 54, 54, 54, 54, 54, 54, 54, 54, 54, 54, 54] := by kernel_rfl
theorem ab_o97 : x92 (kB [97]) = [61, 92, 92, 92, 92, 92, 92, 92, 92, 92, 92, 92, 92, 92, 92, 92, 92, 92, 92, 92, 92, 92, 92, 92, 92, 92, 92, 92, 92, 92, 92, 92, 92, 92, 92, 92, 92, 92, 92, 92, 92, 92, 92, 92, 92, 92, 92, 92, 92, 92, 92, 92, 92, 92, 92, 92, 92, 92, 92, 92, 92, 92, 92, 92] := by kernel_rfl
theorem ab_a97i : sha ([87, 54, 54, 54, 54, 54, 54, 54, 54, 54, 54, 54, 54, 54, 54, 54, 54, 54, 54, 54, 54, 54, 54, 54, 54, 54, 54, 54, 54, 54, 54, 54, 54, 54, 54, 54, 54, 54, 54, 54, 54, 54, 54, 54, 54, 54, 54, 54, 54, 54, 54, 54, 54, 54, 54, 54, 54, 54, 54, 54, 54, 54, 54, 54] ++ [0, 0, 0, 0, 0, 0, 0, 1, 0, 0, 0, 1]) = [221, 244, 86, 163, 91, 122, 226, 211, 213, 211, 49, 250, 138, 85, 67, 75, 76, 106, 160, 9, 84, 164, 149, 63, 194, 72, 15, 102, 246, 175, 181, 181] := by kernel_rfl
theorem ab_a97o : sha ([61, 92, 92, 92, 92, 92, 92, 92, 92, 92, 92, 92, 92, 92, 92, 92, 92, 92, 92, 92, 92, 92, 92, 92, 92, 92, 92, 92, 92, 92, 92, 92, 92, 92, 92, 92, 92, 92, 92, 92, 92, 92, 92, 92, 92, 92, 92, 92, 92, 92, 92, 92, 92, 92, 92, 92, 92, 92, 92, 92, 92, 92, 92, 92] ++ [221, 244, 86, 163, 91, 122, 226, 211, 213, 211, 49, 250, 138, 85, 67, 75, 76, 106, 160, 9, 84, 164, 149, 63, 194, 72, 15, 102, 246, 175, 181, 181]) = [45, 79, 144, 95, 177, 60, 120, 23, 14, 152, 79, 54, 77, 142, 163, 194, 48, 226, 125, 99, 38, 110, 94, 188, 56, 18, 53, 151, 71, 108, 60, 216] := by kernel_rfl
theorem ab_a97 : tag [97] [0, 0, 0, 0, 0, 0, 0, 1, 0, 0, 0, 1] = [45, 79, 144, 95, 177, 60, 120, 23, 14, 152, 79, 54, 77, 142, 163, 194, 48, 226, 125, 99, 38, 110, 94, 188, 56, 18, 53, 151, 71, 108, 60, 216] := by
  unfold tag
  rw [ab_i97, ab_o97, ab_a97i, ab_a97o]
theorem ab_b97i : sha ([87, 54, 54, 54, 54, 54, 54, 54, 54, 54, 54, 54, 54, 54, 54, 54, 54, 54, 54, 54, 54, 54, 54, 54, 54, 54, 54, 54, 54, 54, 54, 54, 54, 54, 54, 54, 54, 54, 54, 54, 54, 54, 54, 54, 54, 54, 54, 54, 54, 54, 54, 54, 54, 54, 54, 54, 54, 54, 54, 54, 54, 54, 54, 54] ++ [45, 79, 144, 95, 177, 60, 120, 23, 14, 152, 79, 54, 77, 142, 163, 194, 48, 226, 125, 99, 38, 110, 94, 188, 56, 18, 53, 151, 71, 108, 60, 216]) = [208, 203, 193, 183, 147, 125, 154, 57, 75, 80, 230, 83, 146, 36, 143, 134, 71, 228, 238, 150, 139, 26, 242, 223, 108, 10, 36, 102, 103, 15, 149, 117] := by kernel_rfl
theorem ab_b97o : sha ([61, 92, 92, 92, 92, 92, 92, 92, 92, 92, 92, 92, 92, 92, 92, 92, 92, 92, 92, 92, 92, 92, 92, 92, 92, 92, 92, 92, 92, 92, 92, 92, 92, 92, 92, 92, 92, 92, 92, 92, 92, 92, 92, 92, 92, 92, 92, 92, 92, 92, 92, 92, 92, 92, 92, 92, 92, 92, 92, 92, 92, 92, 92, 92] ++ [208, 203, 193, 183, 147, 125, 154, 57, 75, 80, 230, 83, 146, 36, 143, 134, 71, 228, 238, 150, 139, 26, 242, 223, 108, 10, 36, 102, 103, 15, 149, 117]) = [53, 239, 173, 81, 234, 106, 220, 170, 149, 130, 34, 111, 211, 234, 241, 15, 0, 232, 165, 248, 8, 252, 68, 14, 98, 159, 90, 112, 112, 226, 176, 240] := by kernel_rfl
theorem ab_b97 : tag [97] [45, 79, 144, 95, 177, 60, 120, 23, 14, 152, 79, 54, 77, 142, 163, 194, 48, 226, 125, 99, 38, 110, 94, 188, 56, 18, 53, 151, 71, 108, 60, 216] = [53, 239, 173, 81, 234, 106, 220, 170, 149, 130, 34, 111, 211, 234, 241, 15, 0, 232, 165, 248, 8, 252, 68, 14, 98, 159, 90, 112, 112, 226, 176, 240] := by
  unfold tag
  rw [ab_i97, ab_o97, ab_b97i, ab_b97o]
theorem ab_s97 : strD ⟨#[97]⟩ 1 2 = [24, 160, 61, 14, 91, 86, 164, 189, 155, 26, 109, 89, 158, 100, 82, 205, 48, 10, 216, 155, 46, 146, 26, 178, 90, 141, 111, 231, 55, 142, 140, 40] := by
  unfold strD stretch first1
  rw [show bytesOf ⟨#[97]⟩ = [97] from rfl, show digs 8 1 ++ [0, 0, 0, 1] = [0, 0, 0, 0, 0, 0, 0, 1, 0, 0, 0, 1] by decide +kernel, show (2 : Int).toNat - 1 = 1 from rfl]
  simp only [sIt]
  rw [ab_a97, ab_b97]
  kernel_rfl
theorem ab_i98 : x54 (kB [98]) = [84, 54, 54, 54, 54, 54, 54, 54, 54, 54, 54, 54, 54, 54, 54, 54, 54, 54, 54, 54, 54, 54, 54, 54, 54, 54, 54, 54, 54, 54, 54, 54, 54, 54, 54, 54, 54, 54, 54, 54, 54, 54, 54, 54, 54, 54, 54, 54, 54, 54, 54, 54, 54, 54, 54, 54, 54, 54, 54, 54, 54, 54, 54, 54] := by kernel_rfl
theorem ab_o98 : x92 (kB [98]) = [62, 92, 92, 92, 92, 92, 92, 92, 92, 92, 92, 92, 92, 92, 92, 92, 92, 92, 92, 92, 92, 92, 92, 92, 92, 92, 92, 92, 92, 92, 92, 92, 92, 92, 92, 92, 92, 92, 92, 92, 92, 92, 92, 92, 92, 92, 92, 92, 92, 92, 92, 92, 92, 92, 92, 92, 92, 92, 92, 92, 92, 92, 92, 92] := by kernel_rfl
theorem ab_a98i : sha ([84, 54, 54, 54, 54, 54, 54, 54, 54, 54, 54, 54, 54, 54, 54, 54, 54, 54, 54, 54, 54, 54, 54, 54, 54, 54, 54, 54, 54, 54, 54, 54, 54, 54, 54, 54, 54, 54, 54, 54, 54, 54, 54, 54, 54, 54, 54, 54, 54, 54, 54, 54, 54, 54, 54, 54, 54, 54, 54, 54, 54, 54, 54, 54] ++ [0, 0, 0, 0, 0, 0, 0, 1, 0, 0, 0, 1]) = [234, 169, 104, 32, 34, 197, 137, 25, 212, 64, 11, 218, 197, 248, 51, 187, 119, 17, 30, 85, 161, 60, 109, 122, 195, 77, 16, 244, 15, 188, 171, 225] := by kernel_rfl
theorem ab_a98o : sha ([62, 92, 92, 92, 92, 92, 92, 92, 92, 92, 92, 92, 92, 92, 92, 92, 92, 92, 92, 92, 92, 92, 92, 92, 92, 92, 92, 92, 92, 92, 92, 92, 92, 92, 92, 92, 92, 92, 92, 92, 92, 92, 92, 92, 92, 92, 92, 92, 92, 92, 92, 92, 92, 92, 92, 92, 92, 92, 92, 92, 92, 92, 92, 92] ++ [234, 169, 104, 32, 34, 197, 137, 25, 212, 64, 11, 218, 197, 248, 51, 187, 119, 17, 30, 85, 161, 60, 109, 122, 195, 77, 16, 244, 15, 188, 171, 225]) = [247, 54, 202, 164, 15, 91, 36, 62, 23, 178, 66, 203, 130, 111, 45, 207, 62, 147, 243, 236, 63, 117, 97, 163, 205, 59, 228, 68, 109, 67, 162, 56] := by kernel_rfl
theorem ab_a98 : tag [98] [0, 0, 0, 0, 0, 0, 0, 1, 0, 0, 0, 1] = [247, 54, 202, 164, 15, 91, 36, 62, 23, 178, 66, 203, 130, 111, 45, 207, 62, 147, 243, 236, 63, 117, 97, 163, 205, 59, 228, 68, 109, 67, 162, 56] := by
  unfold tag
  rw [ab_i98, ab_o98, ab_a98i, ab_a98o]
theorem ab_b98i : sha ([84, 54, 54, 54, 54, 54, 54, 54, 54, 54, 54, 54, 54, 54, 54, 54, 54, 54, 54, 54, 54, 54, 54, 54, 54, 54, 54, 54, 54, 54, 54, 54, 54, 54, 54, 54, 54, 54, 54, 54, 54, 54, 54, 54, 54, 54, 54, 54, 54, 54, 54, 54, 54, 54, 54, 54, 54, 54, 54, 54, 54, 54, 54, 54] ++ [247, 54, 202, 164, 15, 91, 36, 62, 23, 178, 66, 203, 130, 111, 45, 207, 62, 147, 243, 236, 63, 117, 97, 163, 205, 59, 228, 68, 109, 67, 162, 56]) = [100, 50, 121, 216, 163, 72, 236, 63, 99, 94, 188, 26, 104, 19, 120, 108, 188, 206, 46, 197, 14, 191, 106, 144, 190, 85, 203, 174, 34, 223, 35, 226] := by kernel_rfl
theorem ab_b98o : sha ([62, 92, 92, 92, 92, 92, 92, 92, 92, 92, 92, 92, 92, 92, 92, 92, 92, 92, 92, 92, 92, 92, 92, 92, 92, 92, 92, 92, 92, 92, 92, 92, 92, 92, 92, 92, 92, 92, 92, 92, 92, 92, 92, 92, 92, 92, 92, 92, 92, 92, 92, 92, 92, 92, 92, 92, 92, 92, 92, 92, 92, 92, 92, 92] ++ [100, 50, 121, 216, 163, 72, 236, 63, 99, 94, 188, 26, 104, 19, 120, 108, 188, 206, 46, 197, 14, 191, 106, 144, 190, 85, 203, 174, 34, 223, 35, 226]) = [252, 143, 173, 117, 154, 97, 78, 164, 33, 56, 232, 168, 87, 245, 48, 121, 37, 195, 83, 60, 55, 109, 109, 119, 220, 107, 51, 230, 4, 105, 203, 218] := by kernel_rfl
theorem ab_b98 : tag [98] [247, 54, 202, 164, 15, 91, 36, 62, 23, 178, 66, 203, 130, 111, 45, 207, 62, 147, 243, 236, 63, 117, 97, 163, 205, 59, 228, 68, 109, 67, 162, 56] = [252, 143, 173, 117, 154, 97, 78, 164, 33, 56, 232, 168, 87, 245, 48, 121, 37, 195, 83, 60, 55, 109, 109, 119, 220, 107, 51, 230, 4, 105, 203, 218] := by
  unfold tag
  rw [ab_i98, ab_o98, ab_b98i, ab_b98o]
theorem ab_s98 : strD ⟨#[98]⟩ 1 2 = [11, 185, 103, 209, 149, 58, 106, 154, 54, 138, 170, 99, 213, 154, 29, 182, 27, 80, 160, 208, 8, 24, 12, 212, 17, 80, 215, 162, 105, 42, 105, 226] := by
  unfold strD stretch first1
  rw [show bytesOf ⟨#[98]⟩ = [98] from rfl, show digs 8 1 ++ [0, 0, 0, 1] = [0, 0, 0, 0, 0, 0, 0, 1, 0, 0, 0, 1] by decide +kernel, show (2 : Int).toNat - 1 = 1 from rfl]
  simp only [sIt]
  rw [ab_a98, ab_b98]
  kernel_rfl
theorem ab_not : leq (strD ⟨#[98]⟩ 1 2) (strD ⟨#[97]⟩ 1 2) = false := by
  rw [ab_s97, ab_s98]
  decide +kernel
theorem pas_main (f15 f19) (D : List Int) (h1 : f15 ((⟨#[97]⟩ : ByteArray), 1, 2, ()) = some ((1, 2, D, ()), 0, ())) (h2 : f19 ((1, 2, D, ()), (⟨#[97]⟩ : ByteArray), 3, ()) = some (true, true, ())) (h3 : f19 ((1, 2, D, ()), (⟨#[97]⟩ : ByteArray), 2, ()) = some (true, false, ())) (h4 : f19 ((1, 2, D, ()), (⟨#[98]⟩ : ByteArray), 2, ()) = some (false, false, ())) : w18_awake.b f15 f19 () = some true := by
  simp only [w18_awake.b]
  rw [h1]
  simp only [Option.bind_some]
  rw [h2, h3, h4]
  rfl
theorem pas_awake : w18_awake () = some true := by
  have h1 := make_pass ⟨#[97]⟩ (by decide) 1 2
  rw [if_pos (by decide)] at h1
  have hb : ∀ n ∈ strD ⟨#[97]⟩ 1 2, byte n := stretch_bytes _ _ _
  have h2 := check_pass ⟨#[97]⟩ (by decide) 1 2 3 _ hb
  have h3 := check_pass ⟨#[97]⟩ (by decide) 1 2 2 _ hb
  have h4 := check_pass ⟨#[98]⟩ (by decide) 1 2 2 _ hb
  rw [leq_self] at h2 h3
  rw [ab_not] at h4
  rw [if_pos ⟨by decide, by decide, rfl⟩] at h2 h3
  rw [if_neg (by simp)] at h4
  exact pas_main _ _ _ h1 h2 h3 h4
end Go.Px.Pu
