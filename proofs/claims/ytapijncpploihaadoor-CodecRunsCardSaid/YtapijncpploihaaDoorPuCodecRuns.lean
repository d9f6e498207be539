/- CodecRuns: keys of values one behind the other are read again, one by one, and stand as the lists of the values do. -/
import Derived.Test.YtapijncpploihaaDoorPuCodRead
import Derived.Test.YtapijncpploihaaDoorPuCodAwake
import Derived.Test.YtapijncpploihaaDoorPx26
set_option linter.unusedVariables false
set_option linter.unusedSimpArgs false
namespace Go.Px.Pu
open Go Go.Px
def fv (z : Val) : Bool := formR z.1 z.2.1 z.2.2.1
def kv (z : Val) : List Int := keyB z.1 z.2.1 z.2.2.1
def okV (z : Val) : Prop := byte z.1 ∧ i64 z.2.1
def catV : List Val → List Int
  | [] => []
  | z :: r => kv z ++ catV r
theorem catV_app : (a b : List Val) → catV (a ++ b) = catV a ++ catV b
  | [], _ => rfl
  | z :: r, b => by simp [catV, catV_app r b]
theorem catV_len : (a : List Val) → (∀ z ∈ a, fv z = true) → (catV a).length ≤ 123 * a.length
  | [], _ => Nat.le_refl _
  | z :: r, h => by
    have ih := catV_len r fun y hy => h y (by simp [hy])
    have : (kv z).length ≤ 123 := keyB_len (h z (by simp))
    simp [catV]; omega
theorem catV_bys : (a : List Val) → (∀ z ∈ a, fv z = true) → bys (catV a)
  | [], _ => bys_nil
  | z :: r, h => bys_app.2 ⟨keyB_bys (h z (by simp)), catV_bys r fun y hy => h y (by simp [hy])⟩
theorem kv_ne (z : Val) : ∃ m, kv z = z.1 :: m := by
  unfold kv keyB
  split
  · exact ⟨_, rfl⟩
  split
  · exact ⟨_, rfl⟩
  split
  · exact ⟨_, rfl⟩
  · exact ⟨_, rfl⟩
theorem same_iff (z w : Val) : ((ieq z.1 w.1) && ((ieq z.2.1 w.2.1) && ((seq z.2.2.1 w.2.2.1) && true))) = true ↔ z = w := by
  obtain ⟨k, n, s, _⟩ := z
  obtain ⟨k', n', s', _⟩ := w
  simp only [Bool.and_eq_true, Bool.and_true, ieq_iff, seq_bytes, decide_eq_true_eq, Prod.mk.injEq, and_true]
theorem getD_mid {α : Type} (a : List α) (z : α) (b : List α) (d : α) : (a ++ z :: b).getD a.length d = z := by
  simp [List.getD_eq_getElem?_getD]
theorem key_at {z : Val} (h : okV z) : codec_Key ((z.1, z.2.1, z.2.2.1, ()), ()) = some (if fv z = true then (kv z, 0, ()) else ([], 3, ())) := codec_Key_eq h.1 h.2 z.2.2.1
section
variable {a b : List Val} (hl : a.length + b.length ≤ 60) (ha : ∀ z ∈ a, okV z) (hb : ∀ z ∈ b, okV z)
include hl
include ha in
theorem runs_go0 (kx : (List Val × List Val × List Int × List Int × Unit) → Option Bool) (q : List Int) (hkx : (∀ z ∈ a, fv z = true) → kx (a, b, catV a, q, ()) = some true) :
    (rest done : List Val) → (n : Nat) → a = done ++ rest → rest.length < n → (∀ z ∈ done, fv z = true) → loopN n (w04_CodecRuns.s0b r04_Form codec_Key kx) (a, b, catV done, q, (done.length : Int), ()) = some true
  | rest, done, 0, _, h, _ => absurd h (Nat.not_lt_zero _)
  | [], done, n + 1, e, _, hd => by
    rw [List.append_nil] at e
    subst e
    simp only [loopN, w04_CodecRuns.s0b]
    rw [cond_f (ilt_f.2 (by omega))]; exact hkx hd
  | z :: rest, done, n + 1, e, hn, hd => by
    have hlen : a.length = done.length + (rest.length + 1) := by rw [e]; simp
    have hz : okV z := ha z (by rw [e]; simp)
    have hg : a.getD done.length ((0 : Int), (0 : Int), ByteArray.empty, ()) = z := by rw [e]; exact getD_mid _ _ _ _
    have hi : iadd .i64 (done.length : Int) 1 = ((done ++ [z]).length : Int) := by rw [iadd64 (by omega)]; simp
    have hc := catV_len done hd
    simp only [loopN, w04_CodecRuns.s0b, Int.toNat_natCast, hg, hi]
    rw [cond_t (ilt_iff.2 (by omega)), chk_true (inB_iff.2 (by omega)), key_at hz]
    simp only [Option.bind_some]
    cases hf : fv z with
    | false =>
      rw [if_neg (by decide), cond_t (ine_iff.2 (by decide)), chk_true (inB_iff.2 (by omega)), r04_Form_eq, show formR z.1 z.2.1 z.2.2.1 = false from hf]; rfl
    | true =>
      have hkl : (kv z).length ≤ 123 := keyB_len hf
      have hcz : catV (done ++ [z]) = catV done ++ kv z := by rw [catV_app]; simp [catV]
      rw [if_pos rfl, cond_f (ine_f.2 rfl), chk_true (fits_iff.2 (by dsimp only; omega)), ← hcz]
      exact runs_go0 kx q hkx rest (done ++ [z]) n (by rw [e]; simp) (by simpa using hn) (fun y hy => by
        rcases List.mem_append.1 hy with hy | hy
        · exact hd y hy
        · rw [List.mem_singleton] at hy; rw [hy]; exact hf)
include hb in
theorem runs_go2 (kx : (List Val × List Val × List Int × List Int × Unit) → Option Bool) (q : List Int) (hkx : (∀ z ∈ b, fv z = true) → kx (a, b, q, catV b, ()) = some true) :
    (rest done : List Val) → (n : Nat) → b = done ++ rest → rest.length < n → (∀ z ∈ done, fv z = true) → loopN n (w04_CodecRuns.s2b r04_Form codec_Key kx) (a, b, q, catV done, (done.length : Int), ()) = some true
  | rest, done, 0, _, h, _ => absurd h (Nat.not_lt_zero _)
  | [], done, n + 1, e, _, hd => by
    rw [List.append_nil] at e
    subst e
    simp only [loopN, w04_CodecRuns.s2b]
    rw [cond_f (ilt_f.2 (by omega))]; exact hkx hd
  | z :: rest, done, n + 1, e, hn, hd => by
    have hlen : b.length = done.length + (rest.length + 1) := by rw [e]; simp
    have hz : okV z := hb z (by rw [e]; simp)
    have hg : b.getD done.length ((0 : Int), (0 : Int), ByteArray.empty, ()) = z := by rw [e]; exact getD_mid _ _ _ _
    have hi : iadd .i64 (done.length : Int) 1 = ((done ++ [z]).length : Int) := by rw [iadd64 (by omega)]; simp
    have hc := catV_len done hd
    simp only [loopN, w04_CodecRuns.s2b, Int.toNat_natCast, hg, hi]
    rw [cond_t (ilt_iff.2 (by omega)), chk_true (inB_iff.2 (by omega)), key_at hz]
    simp only [Option.bind_some]
    cases hf : fv z with
    | false =>
      rw [if_neg (by decide), cond_t (ine_iff.2 (by decide)), chk_true (inB_iff.2 (by omega)), r04_Form_eq, show formR z.1 z.2.1 z.2.2.1 = false from hf]; rfl
    | true =>
      have hkl : (kv z).length ≤ 123 := keyB_len hf
      have hcz : catV (done ++ [z]) = catV done ++ kv z := by rw [catV_app]; simp [catV]
      rw [if_pos rfl, cond_f (ine_f.2 rfl), chk_true (fits_iff.2 (by dsimp only; omega)), ← hcz]
      exact runs_go2 kx q hkx rest (done ++ [z]) n (by rw [e]; simp) (by simpa using hn) (fun y hy => by
        rcases List.mem_append.1 hy with hy | hy
        · exact hd y hy
        · rw [List.mem_singleton] at hy; rw [hy]; exact hf)
include ha in
theorem runs_go4 (hf : ∀ z ∈ a, fv z = true) (kx : (List Val × List Val × List Int × List Int × Int × Unit) → Option Bool) (q : List Int) (hkx : kx (a, b, catV a, q, ((catV a).length : Int), ()) = some true) :
    (rest done : List Val) → (n : Nat) → a = done ++ rest → rest.length < n → loopN n (w04_CodecRuns.s4b codec_ReadKey kx) (a, b, catV a, q, ((catV done).length : Int), (done.length : Int), ()) = some true
  | rest, done, 0, _, h => absurd h (Nat.not_lt_zero _)
  | [], done, n + 1, e, _ => by
    rw [List.append_nil] at e
    subst e
    simp only [loopN, w04_CodecRuns.s4b]
    rw [cond_f (ilt_f.2 (by omega))]; exact hkx
  | z :: rest, done, n + 1, e, hn => by
    have hlen : a.length = done.length + (rest.length + 1) := by rw [e]; simp
    have hz : okV z := ha z (by rw [e]; simp)
    have hfz : fv z = true := hf z (by rw [e]; simp)
    have hg : a.getD done.length ((0 : Int), (0 : Int), ByteArray.empty, ()) = z := by rw [e]; exact getD_mid _ _ _ _
    have hi : iadd .i64 (done.length : Int) 1 = ((done ++ [z]).length : Int) := by rw [iadd64 (by omega)]; simp
    have hc := catV_len a hf
    have hca : catV a = catV done ++ (kv z ++ catV rest) := by rw [e, catV_app]; rfl
    have hcz : catV (done ++ [z]) = catV done ++ kv z := by rw [catV_app]; simp [catV]
    have hr := readKey_at (catV a) (catV done) (catV rest) (k := z.1) (n := z.2.1) (s := z.2.2.1) hz.2 hfz hca
    simp only [loopN, w04_CodecRuns.s4b, Int.toNat_natCast, hg, hi]
    rw [cond_t (ilt_iff.2 (by omega)), codec_ReadKey_eq (by omega) (catV_bys a hf), hr]
    simp only [Option.bind_some]
    rw [cond_f (ine_f.2 rfl), chk_true (inB_iff.2 (by omega)), cond_f (by rw [seq_self, ieq_iff.2 rfl, ieq_iff.2 rfl]; rfl), show keyB z.1 z.2.1 z.2.2.1 = kv z from rfl, ← hcz]
    exact runs_go4 hf kx q hkx rest (done ++ [z]) n (by rw [e]; simp) (by simpa using hn)
/-- where two lists part -/
def parts (a b : List Val) (i : Nat) : Prop := ∃ pre ra rb, a = pre ++ ra ∧ b = pre ++ rb ∧ i = pre.length ∧ (ra = [] ∨ rb = [] ∨ ∃ z ra' w rb', ra = z :: ra' ∧ rb = w :: rb' ∧ z ≠ w)
theorem runs_go6 (kx : (List Val × List Val × List Int × List Int × Int × Int × Unit) → Option Bool) (p q : List Int) (t : Int) (hkx : ∀ i : Nat, parts a b i → kx (a, b, p, q, t, (i : Int), ()) = some true) :
    (ra rb pre : List Val) → (n : Nat) → a = pre ++ ra → b = pre ++ rb → ra.length < n → loopN n (w04_CodecRuns.s6b kx) (a, b, p, q, t, (pre.length : Int), ()) = some true
  | _, _, _, 0, _, _, h => absurd h (Nat.not_lt_zero _)
  | [], rb, pre, n + 1, ea, eb, _ => by
    have h1 : a.length = pre.length := by rw [ea]; simp
    simp only [loopN, w04_CodecRuns.s6b]
    rw [cond_f (ilt_f.2 (by omega))]
    exact hkx _ ⟨pre, [], rb, ea, eb, rfl, .inl rfl⟩
  | z :: ra, [], pre, n + 1, ea, eb, _ => by
    have h1 : a.length = pre.length + (ra.length + 1) := by rw [ea]; simp
    have h2 : b.length = pre.length := by rw [eb]; simp
    simp only [loopN, w04_CodecRuns.s6b]
    rw [cond_t (ilt_iff.2 (by omega)), cond_f (ilt_f.2 (by omega))]
    exact hkx _ ⟨pre, z :: ra, [], ea, eb, rfl, .inr (.inl rfl)⟩
  | z :: ra, w :: rb, pre, n + 1, ea, eb, hn => by
    have h1 : a.length = pre.length + (ra.length + 1) := by rw [ea]; simp
    have h2 : b.length = pre.length + (rb.length + 1) := by rw [eb]; simp
    have hga : a.getD pre.length ((0 : Int), (0 : Int), ByteArray.empty, ()) = z := by rw [ea]; exact getD_mid _ _ _ _
    have hgb : b.getD pre.length ((0 : Int), (0 : Int), ByteArray.empty, ()) = w := by rw [eb]; exact getD_mid _ _ _ _
    have hi : iadd .i64 (pre.length : Int) 1 = ((pre ++ [z]).length : Int) := by rw [iadd64 (by omega)]; simp
    simp only [loopN, w04_CodecRuns.s6b, Int.toNat_natCast, hga, hgb, hi]
    rw [cond_t (ilt_iff.2 (by omega)), cond_t (ilt_iff.2 (by omega)), chk_true (inB_iff.2 (by omega)), chk_true (inB_iff.2 (by omega))]
    by_cases hzw : z = w
    · rw [cond_t ((same_iff z w).2 hzw)]
      exact runs_go6 kx p q t hkx ra rb (pre ++ [z]) n (by rw [ea]; simp) (by rw [eb, hzw]; simp) (by simpa using hn)
    · rw [cond_f (by
        cases hs : ((ieq z.1 w.1) && ((ieq z.2.1 w.2.1) && ((seq z.2.2.1 w.2.2.1) && true))) with
        | false => rfl
        | true => exact absurd ((same_iff z w).1 hs) hzw)]
      exact hkx _ ⟨pre, z :: ra, w :: rb, ea, eb, rfl, .inr (.inr ⟨z, ra, w, rb, rfl, rfl, hzw⟩)⟩
end
theorem runs_main {a b : List Val} (hla : a.length ≤ 1000000000000000) (hlb : b.length ≤ 1000000000000000) (ha : ∀ z ∈ a, okV z) (hb : ∀ z ∈ b, okV z) (f11 : Unit → Option Bool) (f18 : ((Int × Int × ByteArray × Unit) × (Int × Int × ByteArray × Unit) × Unit) → Option Bool)
    (l0 l2 : (List Val × List Val × List Int × List Int × Int × Unit) → ((List Val × List Val × List Int × List Int × Unit) → Option Bool) → Option Bool) (l4 : (List Val × List Val × List Int × List Int × Int × Int × Unit) → ((List Val × List Val × List Int × List Int × Int × Unit) → Option Bool) → Option Bool)
    (l6 : (List Val × List Val × List Int × List Int × Int × Int × Unit) → ((List Val × List Val × List Int × List Int × Int × Int × Unit) → Option Bool) → Option Bool)
    (h11 : f11 () = some true) (h18 : ∀ z w : Val, f18 ((z.1, z.2.1, z.2.2.1, ()), (w.1, w.2.1, w.2.2.1, ()), ()) = some (lessV z.1 z.2.1 z.2.2.1 w.1 w.2.1 w.2.2.1))
    (h0 : a.length + b.length ≤ 60 → ∀ kx q, ((∀ z ∈ a, fv z = true) → kx (a, b, catV a, q, ()) = some true) → l0 (a, b, [], q, 0, ()) kx = some true)
    (h2 : a.length + b.length ≤ 60 → ∀ kx q, ((∀ z ∈ b, fv z = true) → kx (a, b, q, catV b, ()) = some true) → l2 (a, b, q, [], 0, ()) kx = some true)
    (h4 : a.length + b.length ≤ 60 → (∀ z ∈ a, fv z = true) → ∀ kx q, kx (a, b, catV a, q, ((catV a).length : Int), ()) = some true → l4 (a, b, catV a, q, 0, 0, ()) kx = some true)
    (h6 : a.length + b.length ≤ 60 → ∀ kx p q t, (∀ i : Nat, parts a b i → kx (a, b, p, q, t, (i : Int), ()) = some true) → l6 (a, b, p, q, t, 0, ()) kx = some true) :
    w04_CodecRuns.b f11 f18 l0 l2 l4 l6 (a, b, ()) = some true := by
  simp only [w04_CodecRuns.b, h11, Option.bind_some, Bool.not_true, cond_false]
  rw [iadd64 (by omega)]
  by_cases hl : a.length + b.length ≤ 60
  · rw [cond_f (igt_f.2 (by omega))]
    refine h0 hl _ _ fun fa => ?_
    dsimp only
    refine h2 hl _ _ fun fb => ?_
    dsimp only
    refine h4 hl fa _ _ ?_
    dsimp only
    refine h6 hl _ _ _ _ fun i hp => ?_
    dsimp only
    rw [slt_str (catV_bys a fa) (catV_bys b fb)]
    obtain ⟨pre, ra, rb, ea, eb, rfl, hc⟩ := hp
    have hla' : a.length = pre.length + ra.length := by rw [ea]; simp
    have hlb' : b.length = pre.length + rb.length := by rw [eb]; simp
    have e : lless (catV a) (catV b) = lless (catV ra) (catV rb) := by rw [ea, eb, catV_app, catV_app, lless_app]
    rw [e, ieq_iff.2 (rfl : ((catV a).length : Int) = _)]
    simp only [cond_true]
    cases rb with
    | nil =>
      rw [cond_f (ilt_f.2 (by simp at hlb'; omega))]
      cases catV ra <;> rfl
    | cons w rb =>
      simp only [List.length_cons] at hlb'
      rw [cond_t (ilt_iff.2 (by omega))]
      cases ra with
      | nil =>
        simp only [List.length_nil] at hla'
        rw [cond_t (ieq_iff.2 (by omega))]
        obtain ⟨m, hm⟩ := kv_ne w
        simp only [catV, hm, List.cons_append]; rfl
      | cons z ra =>
        simp only [List.length_cons] at hla'
        rw [cond_f (ieq_f.2 (by omega)), chk_true (inB_iff.2 (by omega)), chk_true (inB_iff.2 (by omega)), Int.toNat_natCast]
        have hga : a.getD pre.length ((0 : Int), (0 : Int), ByteArray.empty, ()) = z := by rw [ea]; exact getD_mid _ _ _ _
        have hgb : b.getD pre.length ((0 : Int), (0 : Int), ByteArray.empty, ()) = w := by rw [eb]; exact getD_mid _ _ _ _
        rw [hga, hgb, h18]
        simp only [Option.bind_some]
        have hza : z ∈ a := by rw [ea]; simp
        have hwb : w ∈ b := by rw [eb]; simp
        have hzw : z ≠ w := by
          rcases hc with hc | hc | ⟨z', ra', w', rb', e1, e2, h⟩
          · cases hc
          · cases hc
          · cases e1; cases e2; exact h
        have hkl := key_less (k := z.1) (n := z.2.1) (s := z.2.2.1) (k' := w.1) (n' := w.2.1) (s' := w.2.2.1) (ha z hza).2 (hb w hwb).2 (fa z hza) (fb w hwb) (fun h => hzw (by
          obtain ⟨k, n, s, _⟩ := z; obtain ⟨k', n', s', _⟩ := w
          obtain ⟨h1, h2, h3⟩ := h
          simp only at h1 h2 h3; subst h1 h2 h3; rfl)) (catV ra) (catV rb)
        simp only [catV]
        rw [show kv z = keyB z.1 z.2.1 z.2.2.1 from rfl, show kv w = keyB w.1 w.2.1 w.2.2.1 from rfl, hkl]
        simp
  · rw [cond_t (igt_iff.2 (by omega))]
theorem _root_.Go.Px.pure_CodecRuns (x0 : List (recα [.int .u8, .int .i64, .str])) (y0 : x0.length * 32 ≤ 140737488351232) (w0 : ∀ z ∈ x0, recWf [.int .u8, .int .i64, .str] z) (x1 : List (recα [.int .u8, .int .i64, .str])) (y1 : x1.length * 32 ≤ 140737488351232) (w1 : ∀ z ∈ x1, recWf [.int .u8, .int .i64, .str] z) : w04_CodecRuns (x0, x1, ()) = some true := by
  have ok : ∀ l : List (recα [.int .u8, .int .i64, .str]), (∀ z ∈ l, recWf [.int .u8, .int .i64, .str] z) → ∀ z ∈ l, okV z := fun l h z hz => by
    obtain ⟨h1, h2, _⟩ := h z hz
    exact ⟨byte_wf h1, i64_wf h2⟩
  exact runs_main (a := x0) (b := x1) (by omega) (by omega) (ok x0 w0) (ok x1 w1) w04_awake r04_Less w04_CodecRuns.l0 w04_CodecRuns.l2 w04_CodecRuns.l4 w04_CodecRuns.l6 cod_awake (fun z w => r04_Less_eq _ _ _ _ _ _)
    (fun hl kx q h => runs_go0 hl (ok x0 w0) kx q h x0 [] (w04_CodecRuns.n0 _) rfl (by simp only [w04_CodecRuns.n0]; omega) (fun z hz => by cases hz))
    (fun hl kx q h => runs_go2 hl (ok x1 w1) kx q h x1 [] (w04_CodecRuns.n2 _) rfl (by simp only [w04_CodecRuns.n2]; omega) (fun z hz => by cases hz))
    (fun hl hf kx q h => runs_go4 hl (ok x0 w0) hf kx q h x0 [] (w04_CodecRuns.n4 _) rfl (by simp only [w04_CodecRuns.n4]; omega))
    (fun hl kx p q t h => runs_go6 hl kx p q t h x0 x1 [] (w04_CodecRuns.n6 _) rfl rfl (by simp only [w04_CodecRuns.n6]; omega))
end Go.Px.Pu
