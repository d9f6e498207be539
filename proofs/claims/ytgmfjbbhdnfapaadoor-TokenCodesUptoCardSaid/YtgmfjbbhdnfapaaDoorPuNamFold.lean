/- naming.letter, naming.Fold as a plain walk over the characters. -/
import Derived.Test.YtgmfjbbhdnfapaaDoorSh
import Derived.Test.YtgmfjbbhdnfapaaDoorPuNamDec
set_option linter.unusedVariables false
set_option linter.unusedSimpArgs false
namespace Go.Px.Pu
open Go Go.Px

def lettB (r : Int) (u : Int) (b1 b2 b3 b4 b5 b6 b7 b8 b9 b10 b11 : Bool) : Int × Bool :=
  cond (b1 && b2) (u, true) (cond ((b3 && b4) || (b5 && b6) || b7 || b8 || b9) (r, true) (r, b10 && b11))
def lett (r : Int) : Int × Bool := lettB r (isub .i32 (iadd .i32 r 97) 65) (ige r 65) (ile r 90) (ige r 97) (ile r 122) (ige r 48) (ile r 57) (ieq r 46) (ieq r 45) (ieq r 95) (ige r 128) (ine r 65533)
theorem naming_letter_eq (r : Int) : naming_letter (r, ()) = some ((lett r).1, (lett r).2, ()) := by
  unfold naming_letter lett
  simp only [naming_letter.b]
  generalize isub .i32 (iadd .i32 r 97) 65 = u
  generalize ige r 65 = b1
  generalize ile r 90 = b2
  generalize ige r 97 = b3
  generalize ile r 122 = b4
  generalize ige r 48 = b5
  generalize ile r 57 = b6
  generalize ieq r 46 = b7
  generalize ieq r 45 = b8
  generalize ieq r 95 = b9
  generalize ige r 128 = b10
  generalize ine r 65533 = b11
  cases b1 <;> cases b2 <;> first
    | rfl
    | (cases b3 <;> cases b4 <;> first
        | rfl
        | (cases b5 <;> cases b6 <;> first
            | rfl
            | (cases b7 <;> first
                | rfl
                | (cases b8 <;> first
                    | rfl
                    | (cases b9 <;> first
                        | rfl
                        | (cases b10 <;> cases b11 <;> rfl))))))
/-- one character of a name -/
theorem fold_step (f16 : (Int × Unit) → Option (Int × Bool × Unit)) (hf : ∀ r, f16 (r, ()) = some ((lett r).1, (lett r).2, ())) (kx : (List Int × Unit) → Option (ByteArray × Int × Int × Unit)) (κ : (List Int × (ByteArray × Nat) × Unit) → Option (ByteArray × Int × Int × Unit)) (t : List Int) (s : ByteArray) (p : Nat) :
    naming_Fold.s0b f16 kx (t, (s, p), ()) κ = cond (decide (p < s.size))
      (cond (!(lett (Utf8.decode s p).1).2 || (ieq (p : Int) 0 && (ieq (lett (Utf8.decode s p).1).1 46 || ieq (lett (Utf8.decode s p).1).1 45))) (some ((⟨#[]⟩ : ByteArray), (p : Int), 4, ()))
        (cond (ieq (t.length : Int) 16) (some ((⟨#[]⟩ : ByteArray), (p : Int), 2, ()))
          (chk (fits 4 (t.length + 1)) <| κ (t ++ [(lett (Utf8.decode s p).1).1], (s, p + (Utf8.decode s p).2), ()))))
      (kx (t, ())) := by
  simp only [naming_Fold.s0b, hf, Option.bind_some]
  generalize (lett (Utf8.decode s p).1).2 = b1
  generalize ieq (p : Int) 0 = b2
  generalize ieq (lett (Utf8.decode s p).1).1 46 = b3
  generalize ieq (lett (Utf8.decode s p).1).1 45 = b4
  cases b1 <;> cases b2 <;> cases b3 <;> cases b4 <;> rfl
end Go.Px.Pu
