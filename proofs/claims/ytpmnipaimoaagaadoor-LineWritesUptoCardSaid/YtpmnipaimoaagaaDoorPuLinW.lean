/- The words of a line, as a walk over positions: the reference's states. -/
import Derived.Test.YtpmnipaimoaagaaDoorPuLinBare
import Derived.Test.YtpmnipaimoaagaaDoorPuNamChars
import Derived.Lib.MapLaws
set_option linter.unusedVariables false
set_option linter.unusedSimpArgs false
namespace Go.Px.Pu
open Go Go.Px
abbrev WL := List ByteArray × Int × Int × Unit
/-- may a character stand in a word -/
def plainB (s : ByteArray) (p : Nat) : Bool := decide (32 ≤ (Utf8.decode s p).1) && (decide ((Utf8.decode s p).1 ≠ 127) && !wrongB s p)
def here (s : ByteArray) (p : Nat) : ByteArray := s.extract p (p + (Utf8.decode s p).2)
def errW (p : Nat) : WL := ([], (p : Int), 4, ())
def endW (s : ByteArray) (st : Nat) (out : List ByteArray) (w : ByteArray) : WL :=
  if st = 2 ∨ st = 3 then errW s.size else if st = 0 then (out, 0, 0, ()) else (out ++ [w], 0, 0, ())
/-- one character: what is gathered, or the fault -/
def stepW (s : ByteArray) (p st : Nat) (out : List ByteArray) (w : ByteArray) : Option (Nat × List ByteArray × ByteArray) :=
  let r := (Utf8.decode s p).1
  match st with
  | 0 => if r = 32 then some (0, out, w) else if plainB s p = false ∨ r = 92 then none else if r = 34 then some (2, out, w) else some (1, out, w ++ here s p)
  | 1 => if r = 32 then some (0, out ++ [w], ⟨#[]⟩) else if plainB s p = false ∨ r = 34 ∨ r = 92 then none else some (1, out, w ++ here s p)
  | 2 => if plainB s p = false then none else if r = 34 then some (4, out, w) else if r = 92 then some (3, out, w) else some (2, out, w ++ here s p)
  | 3 => if r = 34 ∨ r = 92 then some (2, out, w ++ here s p) else none
  | _ => if r = 32 then some (0, out ++ [w], ⟨#[]⟩) else none
def wS : Nat → ByteArray → Nat → Nat → List ByteArray → ByteArray → WL
  | 0, s, _, st, out, w => endW s st out w
  | k + 1, s, p, st, out, w => if p < s.size then
      match stepW s p st out w with
      | none => errW p
      | some (st', out', w') => wS k s (p + (Utf8.decode s p).2) st' out' w'
    else endW s st out w
theorem wS_end (k : Nat) (s : ByteArray) (p st : Nat) (out : List ByteArray) (w : ByteArray) (h : s.size ≤ p) : wS k s p st out w = endW s st out w := by
  cases k with
  | zero => rfl
  | succ k => simp only [wS]; rw [if_neg (by omega)]
theorem wS_fuel : (k j : Nat) → (s : ByteArray) → (p st : Nat) → (out : List ByteArray) → (w : ByteArray) → s.size - p ≤ k → s.size - p ≤ j → wS k s p st out w = wS j s p st out w
  | 0, j, s, p, st, out, w, h, _ => by rw [wS_end 0 s p st out w (by omega), wS_end j s p st out w (by omega)]
  | k + 1, 0, s, p, st, out, w, _, h => by rw [wS_end 0 s p st out w (by omega), wS_end (k + 1) s p st out w (by omega)]
  | k + 1, j + 1, s, p, st, out, w, h1, h2 => by
    simp only [wS]
    split
    · have := dec_w s p
      cases stepW s p st out w with
      | none => rfl
      | some x => exact wS_fuel k j s _ _ _ _ (by omega) (by omega)
    · rfl
/-- with fuel enough -/
def wF (s : ByteArray) (p st : Nat) (out : List ByteArray) (w : ByteArray) : WL := wS s.size s p st out w
theorem wF_step (s : ByteArray) (p st : Nat) (out : List ByteArray) (w : ByteArray) (h : p < s.size) : wF s p st out w = match stepW s p st out w with
      | none => errW p
      | some (st', out', w') => wF s (p + (Utf8.decode s p).2) st' out' w' := by
  have hw := dec_w s p
  unfold wF
  rw [wS_fuel s.size (s.size - p - 1 + 1) s p st out w (by omega) (by omega)]
  simp only [wS]
  rw [if_pos h]
  cases stepW s p st out w with
  | none => rfl
  | some x => exact wS_fuel _ _ s _ _ _ _ (by omega) (by omega)
theorem wF_end (s : ByteArray) (p st : Nat) (out : List ByteArray) (w : ByteArray) (h : s.size ≤ p) : wF s p st out w = endW s st out w := wS_end _ _ _ _ _ _ h
end Go.Px.Pu
