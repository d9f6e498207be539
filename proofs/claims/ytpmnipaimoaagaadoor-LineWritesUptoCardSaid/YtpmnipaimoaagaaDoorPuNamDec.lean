/- Decoding, of a part and of two texts one behind the other. -/
import Derived.Test.YtpmnipaimoaagaaDoorPuLex
import Derived.Lib.DecodeN
import Derived.Lib.TrimU
set_option linter.unusedVariables false
set_option linter.unusedSimpArgs false
namespace Go.Px.Pu
open Go Go.Px
theorem get_list (s : ByteArray) (i : Nat) : s.get! i = (s.data.toList[i]?).getD 0 := by
  cases s with
  | mk d =>
    show d[i]! = _
    rw [Array.getElem!_eq_getD, Array.getD_eq_getD_getElem?, Array.getElem?_toList]; rfl
theorem get_app (a b : ByteArray) (i : Nat) : (a ++ b).get! i = if i < a.size then a.get! i else b.get! (i - a.size) := by
  rw [get_list, get_list, get_list]
  have e : (a ++ b).data.toList = a.data.toList ++ b.data.toList := by rw [ByteArray.data_append, Array.toList_append]
  have hs : a.size = a.data.toList.length := by rw [Array.length_toList]; rfl
  rw [e, hs]
  split
  · rename_i h; rw [List.getElem?_append_left h]
  · rename_i h; rw [List.getElem?_append_right (by omega)]
theorem decodeN_le (n b0 b1 b2 b3 : Nat) (h : 0 < n) : (Lib.decodeN n b0 b1 b2 b3).2 ≤ n := by
  unfold Lib.decodeN
  repeat' split
  all_goals (simp only; omega)
theorem dec_w (s : ByteArray) (p : Nat) : 1 ≤ (Utf8.decode s p).2 := by rw [Lib.decode_at]; exact Lib.decodeN_ge1 _ _ _ _ _
theorem dec_le (s : ByteArray) (p : Nat) (h : p < s.size) : p + (Utf8.decode s p).2 ≤ s.size := by
  have := decodeN_le (s.size - p) (s.get! p).toNat (s.get! (p + 1)).toNat (s.get! (p + 2)).toNat (s.get! (p + 3)).toNat (by omega)
  rw [← Lib.decode_at] at this; omega
theorem decodeN_ext {n m b0 b1 b2 b3 c1 c2 c3 : Nat} (hn : 0 < n) (hm : n ≤ m) (h1 : 1 < n → c1 = b1) (h2 : 2 < n → c2 = b2) (h3 : 3 < n → c3 = b3) (h : Lib.decodeN n b0 b1 b2 b3 ≠ (65533, 1)) : Lib.decodeN m b0 c1 c2 c3 = Lib.decodeN n b0 b1 b2 b3 := by
  by_cases g1 : 1 < n
  · obtain rfl := h1 g1
    by_cases g2 : 2 < n
    · obtain rfl := h2 g2
      by_cases g3 : 3 < n
      · obtain rfl := h3 g3
        have e1 : 1 < m := by omega
        have e2 : 2 < m := by omega
        have e3 : 3 < m := by omega
        simp only [Lib.decodeN, g1, g2, g3, e1, e2, e3]
      · have e1 : 1 < m := by omega
        have e2 : 2 < m := by omega
        simp only [Lib.decodeN, g1, g2, g3, e1, e2, true_and, false_and, and_false, if_false] at h ⊢
        repeat' split at h
        all_goals first
          | (exact absurd rfl h)
          | simp_all
    · have e1 : 1 < m := by omega
      simp only [Lib.decodeN, g1, g2, e1, true_and, false_and, and_false, if_false] at h ⊢
      repeat' split at h
      all_goals first
        | (exact absurd rfl h)
        | simp_all
  · simp only [Lib.decodeN, g1, false_and, and_false, if_false] at h ⊢
    split at h
    · rename_i g; rw [if_pos g, if_pos g]
    · exact absurd rfl h
theorem dec_app_lt (a b : ByteArray) (p : Nat) (hp : p < a.size) (h : Utf8.decode a p ≠ (65533, 1)) : Utf8.decode (a ++ b) p = Utf8.decode a p := by
  have hsz : (a ++ b).size = a.size + b.size := by simp
  rw [Lib.decode_at a] at h
  rw [Lib.decode_at, Lib.decode_at a, hsz]
  have g : ∀ k, p + k < a.size → ((a ++ b).get! (p + k)).toNat = (a.get! (p + k)).toNat := fun k hk => by rw [get_app, if_pos hk]
  have g0 := g 0 (by omega)
  simp only [Nat.add_zero] at g0
  rw [g0]
  exact decodeN_ext (by omega) (by omega) (fun h1 => g 1 (by omega)) (fun h1 => g 2 (by omega)) (fun h1 => g 3 (by omega)) h
theorem dec_app_ge (a b : ByteArray) (q : Nat) : Utf8.decode (a ++ b) (a.size + q) = Utf8.decode b q := by
  have hsz : (a ++ b).size = a.size + b.size := by simp
  rw [Lib.decode_at, Lib.decode_at b, hsz]
  have g : ∀ k, ((a ++ b).get! (a.size + q + k)) = b.get! (q + k) := fun k => by
    rw [get_app, if_neg (by omega), show a.size + q + k - a.size = q + k by omega]
  have g0 := g 0
  simp only [Nat.add_zero] at g0
  rw [g0, g 1, g 2, g 3, show a.size + b.size - (a.size + q) = b.size - q by omega]
theorem dec_sub (s : ByteArray) (p : Nat) (hp : p ≤ s.size) : Utf8.decode (subStr s (p : Int) (s.size : Int)) 0 = Utf8.decode s p := by
  have e : s = s.extract 0 p ++ subStr s (p : Int) (s.size : Int) := by
    apply ByteArray.ext
    simp [subStr]
  have hz : (s.extract 0 p).size = p := by simp; omega
  conv => rhs; rw [e]
  have := dec_app_ge (s.extract 0 p) (subStr s (p : Int) (s.size : Int)) 0
  rw [hz, Nat.add_zero] at this
  exact this.symm
end Go.Px.Pu
