/- Bytes and how they stand. -/
import Derived.Test.YtapijncpploihaaDoorPuBase
import Derived.Laws.Strings
set_option linter.unusedVariables false
set_option linter.unusedSimpArgs false
namespace Go.Px.Pu
open Go Go.Px

/-- lists of numbers, by the first unlike place -/
def lless : List Int → List Int → Bool
  | _, [] => false
  | [], _ :: _ => true
  | a :: x, b :: y => decide (a < b) || (a == b && lless x y)
def bys (l : List Int) : Prop := ∀ n ∈ l, byte n
theorem bys_nil : bys [] := fun _ h => by cases h
theorem bys_cons {n : Int} {l : List Int} : bys (n :: l) ↔ byte n ∧ bys l := by simp [bys]
theorem bys_app {a b : List Int} : bys (a ++ b) ↔ bys a ∧ bys b := by
  constructor
  · intro h; exact ⟨fun n hn => h n (by simp [hn]), fun n hn => h n (by simp [hn])⟩
  · rintro ⟨h1, h2⟩ n hn
    rcases List.mem_append.1 hn with hn | hn
    · exact h1 n hn
    · exact h2 n hn
theorem strOf_list (l : List Int) : (strOf l).toList = l.map fun n => UInt8.ofNat n.toNat := by
  rw [ByteArray.toList_eq]; simp [strOf]
theorem u8_lt {a b : Int} (ha : byte a) (hb : byte b) : (UInt8.ofNat a.toNat < UInt8.ofNat b.toNat) ↔ a < b := by
  obtain ⟨h1, h2⟩ := ha; obtain ⟨h3, h4⟩ := hb
  rw [UInt8.lt_iff_toNat_lt]
  have e1 : (UInt8.ofNat a.toNat).toNat = a.toNat := by simp; omega
  have e2 : (UInt8.ofNat b.toNat).toNat = b.toNat := by simp; omega
  rw [e1, e2]; omega
theorem u8_eq {a b : Int} (ha : byte a) (hb : byte b) : (UInt8.ofNat a.toNat = UInt8.ofNat b.toNat) ↔ a = b := by
  obtain ⟨h1, h2⟩ := ha; obtain ⟨h3, h4⟩ := hb
  constructor
  · intro h
    have := congrArg UInt8.toNat h
    have e1 : (UInt8.ofNat a.toNat).toNat = a.toNat := by simp; omega
    have e2 : (UInt8.ofNat b.toNat).toNat = b.toNat := by simp; omega
    rw [e1, e2] at this; omega
  · intro h; rw [h]
theorem slt_list : (a b : List Int) → bys a → bys b → Op.bytesLess (a.map fun n => UInt8.ofNat n.toNat) (b.map fun n => UInt8.ofNat n.toNat) = lless a b
  | _, [], _, _ => by simp [Op.bytesLess, lless]
  | [], _ :: _, _, _ => by simp [Op.bytesLess, lless]
  | a :: x, b :: y, hx, hy => by
    obtain ⟨ha, hx⟩ := bys_cons.1 hx
    obtain ⟨hb, hy⟩ := bys_cons.1 hy
    simp only [List.map_cons, Op.bytesLess, lless, slt_list x y hx hy]
    have e1 : decide (UInt8.ofNat a.toNat < UInt8.ofNat b.toNat) = decide (a < b) := by simp only [u8_lt ha hb]
    have e2 : (UInt8.ofNat a.toNat == UInt8.ofNat b.toNat) = (a == b) := by
      rw [Bool.eq_iff_iff, beq_iff_eq, beq_iff_eq]; exact u8_eq ha hb
    rw [e1, e2]
theorem slt_str {a b : List Int} (ha : bys a) (hb : bys b) : slt (strOf a) (strOf b) = lless a b := by
  unfold slt; rw [strOf_list, strOf_list]; exact slt_list a b ha hb
theorem map_inj : (a b : List Int) → bys a → bys b → (a.map fun n => UInt8.ofNat n.toNat) = (b.map fun n => UInt8.ofNat n.toNat) → a = b
  | [], [], _, _, _ => rfl
  | [], _ :: _, _, _, h => by simp at h
  | _ :: _, [], _, _, h => by simp at h
  | a :: x, b :: y, hx, hy, h => by
    obtain ⟨ha, hx⟩ := bys_cons.1 hx
    obtain ⟨hb, hy⟩ := bys_cons.1 hy
    simp only [List.map_cons, List.cons.injEq] at h
    rw [(u8_eq ha hb).1 h.1, map_inj x y hx hy h.2]
theorem seq_str {a b : List Int} (ha : bys a) (hb : bys b) : seq (strOf a) (strOf b) = decide (a = b) := by
  rw [Bool.eq_iff_iff, seq_iff, strOf_list, strOf_list, decide_eq_true_eq]
  exact ⟨map_inj a b ha hb, fun h => by rw [h]⟩
theorem sne_seq (a b : ByteArray) : sne a b = !(seq a b) := rfl
theorem sge_slt (a b : ByteArray) : sge a b = !(slt a b) := rfl
theorem strOf_app (a b : List Int) : strOf a ++ strOf b = strOf (a ++ b) := by
  apply ByteArray.ext
  simp [strOf]
theorem strOf_size (a : List Int) : (strOf a).size = a.length := by simp [strOf, ByteArray.size]
/-- a text as numbers -/
theorem bys_of (s : ByteArray) : bys (bytesOf s) := fun n hn => by
  simp only [bytesOf, List.mem_map] at hn
  obtain ⟨b, _, rfl⟩ := hn
  have := UInt8.toNat_lt b
  exact ⟨by omega, by omega⟩
theorem str_bytes (s : ByteArray) : strOf (bytesOf s) = s := by
  apply ByteArray.ext
  have e : ((fun n : Int => UInt8.ofNat n.toNat) ∘ fun b : UInt8 => (b.toNat : Int)) = id := by
    funext b; simp
  simp [strOf, bytesOf, e]
theorem bytesOf_len (s : ByteArray) : (bytesOf s).length = s.size := by simp [bytesOf]
theorem bytes_str {l : List Int} (h : bys l) : bytesOf (strOf l) = l := map_inj _ _ (bys_of _) h (by
  have e : ∀ s : ByteArray, (bytesOf s).map (fun n => UInt8.ofNat n.toNat) = s.toList := fun s => by
    have e : ((fun n : Int => UInt8.ofNat n.toNat) ∘ fun b : UInt8 => (b.toNat : Int)) = id := by
      funext b; simp
    rw [ByteArray.toList_eq]; simp [bytesOf, e]
  rw [e, strOf_list])
theorem byteAt_get (s : ByteArray) (i : Nat) : byteAt s i = (bytesOf s).getD i 0 := by
  simp only [byteAt, bytesOf, List.getD_eq_getElem?_getD, List.getElem?_map]
  cases s.data.toList[i]? <;> rfl
theorem slt_bytes (s t : ByteArray) : slt s t = lless (bytesOf s) (bytesOf t) := by
  rw [← slt_str (bys_of s) (bys_of t), str_bytes, str_bytes]
theorem seq_bytes (s t : ByteArray) : seq s t = decide (s = t) := by
  have h := seq_str (bys_of s) (bys_of t)
  rw [str_bytes, str_bytes] at h
  rw [h, Bool.eq_iff_iff, decide_eq_true_eq, decide_eq_true_eq]
  exact ⟨fun e => by rw [← str_bytes s, e, str_bytes], fun e => by rw [e]⟩
theorem lless_app (l a b : List Int) : lless (l ++ a) (l ++ b) = lless a b := by
  induction l with
  | nil => rfl
  | cons x l ih => simp [lless, ih]
theorem lless_irr (l : List Int) : lless l l = false := by
  induction l with
  | nil => rfl
  | cons x l ih => simp [lless, ih]
theorem lless_pre (a b : List Int) (x : Int) : lless a (a ++ x :: b) = true := by
  have := lless_app a [] (x :: b)
  rw [List.append_nil] at this
  rw [this]; rfl
end Go.Px.Pu
