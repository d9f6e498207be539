/- strings.ReplaceAll at one byte: each is put in place. -/
import Derived.Lib.Replace
import Derived.Lib.ReplaceLaws
set_option linter.unusedVariables false
set_option linter.unusedSimpArgs false
namespace Go.Px.Pu
open Go
/-- each byte c, told by d -/
def replB (c : UInt8) (new : List UInt8) (l : List UInt8) : List UInt8 := l.flatMap fun b => if b = c then new else [b]
theorem index_one (c : UInt8) : ∀ (l : List UInt8), (∀ b ∈ l, b ≠ c) ∧ Lib.index l [c] = -1 ∨ ∃ i r, l = i ++ c :: r ∧ (∀ b ∈ i, b ≠ c) ∧ Lib.index l [c] = i.length
  | [] => .inl ⟨(fun b hb => by cases hb), rfl⟩
  | b :: l => by
    by_cases hb : b = c
    · subst hb
      refine .inr ⟨[], l, rfl, (fun b hb => by cases hb), ?_⟩
      simp [Lib.index, List.isPrefixOf]
    · have hp : List.isPrefixOf [c] (b :: l) = false := by simp [List.isPrefixOf, Ne.symm hb]
      rcases index_one c l with ⟨h1, h2⟩ | ⟨i, r, h1, h2, h3⟩
      · refine .inl ⟨fun x hx => ?_, ?_⟩
        · rcases List.mem_cons.1 hx with rfl | hx
          · exact hb
          · exact h1 x hx
        · simp [Lib.index, hp, h2]
      · refine .inr ⟨b :: i, r, by rw [h1]; rfl, fun x hx => ?_, ?_⟩
        · rcases List.mem_cons.1 hx with rfl | hx
          · exact hb
          · exact h2 x hx
        · have hne : (Lib.index l [c] == -1) = false := by rw [h3]; simp
          simp only [Lib.index, hp, hne]
          rw [h3]; simp
theorem replB_none (c : UInt8) (new : List UInt8) : ∀ (l : List UInt8), (∀ b ∈ l, b ≠ c) → replB c new l = l
  | [], _ => rfl
  | b :: l, h => by
    have ih := replB_none c new l (fun x hx => h x (List.mem_cons_of_mem _ hx))
    unfold replB at ih ⊢
    simp only [List.flatMap_cons, if_neg (h b (List.mem_cons_self)), ih]; rfl
theorem replB_app (c : UInt8) (new a b : List UInt8) : replB c new (a ++ b) = replB c new a ++ replB c new b := by unfold replB; rw [List.flatMap_append]
theorem replK_eq (c : UInt8) (new : List UInt8) : ∀ (k : Nat) (l : List UInt8), Lib.count l [c] ≤ k → Lib.replaceK [c] new k l = replB c new l
  | 0, l, hk => by
    rcases index_one c l with ⟨h1, h2⟩ | ⟨i, r, h1, h2, h3⟩
    · rw [replB_none c new l h1]; rfl
    · have := Lib.count_hit (s := l) (sub := [c]) (by simp) h3
      omega
  | k + 1, l, hk => by
    rcases index_one c l with ⟨h1, h2⟩ | ⟨i, r, h1, h2, h3⟩
    · rw [replB_none c new l h1]
      simp only [Lib.replaceK, h2]; rfl
    · have hc := Lib.count_hit (s := l) (sub := [c]) (by simp) h3
      have hd : l.drop (i.length + 1) = r := by rw [h1]; simp
      rw [show ([c] : List UInt8).length = 1 from rfl, hd] at hc
      rw [Lib.replaceK_hit [c] new k l i.length h3, show ([c] : List UInt8).length = 1 from rfl, hd, replK_eq c new k r (by omega), h1, replB_app, replB_none c new i h2]
      have e1 : (i ++ c :: r).take i.length = i := by simp
      rw [e1]
      unfold replB
      simp
theorem replaceAll_eq (c : UInt8) (new l : List UInt8) (hn : [c] ≠ new) : Lib.replaceAll l [c] new = replB c new l := by
  unfold Lib.replaceAll Lib.replace
  rw [if_neg (by simpa using hn)]
  refine replK_eq c new _ l ?_
  unfold Lib.replaceNum
  rw [if_pos (.inl (by decide))]
  exact Nat.le_refl _
theorem replB_len (c x y : UInt8) : ∀ l : List UInt8, (replB c [x, y] l).length ≤ 2 * l.length
  | [] => Nat.le_refl _
  | b :: l => by
    have ih := replB_len c x y l
    have e : replB c [x, y] (b :: l) = (if b = c then [x, y] else [b]) ++ replB c [x, y] l := rfl
    rw [e, List.length_append, List.length_cons]
    split
    · simp only [List.length_cons, List.length_nil]; omega
    · simp only [List.length_cons, List.length_nil]; omega
end Go.Px.Pu
