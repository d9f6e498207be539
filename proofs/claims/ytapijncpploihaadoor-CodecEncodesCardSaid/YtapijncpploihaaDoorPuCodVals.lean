/- Values as bytes: written, read, cut. -/
import Derived.Test.YtapijncpploihaaDoorPuCodKey
set_option linter.unusedVariables false
set_option linter.unusedSimpArgs false
namespace Go.Px.Pu
open Go Go.Px
def encOne (v : Val) : List Int := v.1 :: (if v.1 = 1 then intB v.2.1 else if v.1 = 2 then (v.2.2.1.size : Int) :: bytesOf v.2.2.1 else if v.1 = 3 then [v.2.1] else [])
def encB (l : List Val) : List Int := (l.length : Int) :: l.flatMap encOne
def okV (v : Val) : Bool := formR v.1 v.2.1 v.2.2.1
/-- a value at a place, its form not looked at -/
def rdVal (P : List Int) (k : Nat) : Option (Val × Nat) :=
  if k < P.length then
    if P.getD k 0 = 1 then (if k + 9 ≤ P.length then some ((1, (readI ((P.drop (k + 1)).take 8) 0).1, ByteArray.empty, ()), k + 9) else none)
    else if P.getD k 0 = 2 then (if k + 1 < P.length then (if k + 2 + (P.getD (k + 1) 0).toNat ≤ P.length then some ((2, 0, strOf ((P.drop (k + 2)).take (P.getD (k + 1) 0).toNat), ()), k + 2 + (P.getD (k + 1) 0).toNat) else none) else none)
    else if P.getD k 0 = 3 then (if k + 1 < P.length then some ((3, P.getD (k + 1) 0, ByteArray.empty, ()), k + 2) else none)
    else some ((P.getD k 0, 0, ByteArray.empty, ()), k + 1)
  else none
def rdF (P : List Int) (k : Nat) : Option (Val × Nat) := match rdVal P k with
  | some x => if okV x.1 = true then some x else none
  | none => none
def rdN : Nat → List Int → Nat → List Val → Option (List Val × Nat)
  | 0, _, k, acc => some (acc, k)
  | n + 1, P, k, acc => match rdF P k with
    | some x => rdN n P x.2 (acc ++ [x.1])
    | none => none
/-- the values of bytes -/
def decV (P : List Int) : Option (List Val) :=
  if P.length = 0 then none else if 12 < P.getD 0 0 then none else match rdN (P.getD 0 0).toNat P 1 [] with
    | some x => if x.2 = P.length then some x.1 else none
    | none => none
theorem b1' : byte 1 := ⟨by decide, by decide⟩
theorem b2' : byte 2 := ⟨by decide, by decide⟩
theorem b3' : byte 3 := ⟨by decide, by decide⟩
theorem i0' : i64 0 := ⟨by decide, by decide⟩
theorem be_lt : (l : List Int) → bys l → 0 ≤ be l ∧ be l < 256 ^ l.length := fun l hb => by
  obtain ⟨h1, h2⟩ := be_aux l 0 0 hb (Int.le_refl 0) (by decide)
  rw [Nat.zero_add] at h2
  exact ⟨h1, h2⟩
theorem digs_be : (k : Nat) → (l : List Int) → l.length = k → bys l → digs k (be l) = l
  | 0, [], _, _ => rfl
  | k + 1, l, hl, hb => by
    have hne : l ≠ [] := fun e => by rw [e] at hl; simp at hl
    obtain ⟨m, x, rfl⟩ : ∃ m x, l = m ++ [x] := ⟨l.dropLast, l.getLast hne, (List.dropLast_concat_getLast hne).symm⟩
    have hm : m.length = k := by simpa using hl
    obtain ⟨b1, b2⟩ := bys_app.1 hb
    have hx := (bys_cons.1 b2).1
    have hx1 := hx.1
    have hx2 := hx.2
    rw [be_snoc, digs, show (be m * 256 + x) / 256 = be m by omega, show (be m * 256 + x) % 256 = x by omega, digs_be k m hm b1]
/-- eight bytes are a number's -/
theorem int_bytes (q : List Int) (hl : q.length = 8) (hb : bys q) : intB (readI q 0).1 = q ∧ i64 (readI q 0).1 := by
  obtain ⟨h0, h1⟩ := be_lt q hb
  rw [hl] at h1
  have hr : readU q 0 = (be q, 8, 0, ()) := by
    unfold readU
    rw [if_neg (by omega), if_neg (by omega), if_neg (by omega)]
    simp [hl, List.take_of_length_le]
  have hN : (readI q 0).1 = be q - 9223372036854775808 := by
    unfold readI
    rw [hr]
    simp only []
    rw [if_neg (by simp)]
    simp only [IntKind.wrap, IntKind.signed, IntKind.bits]
    have h1' : be q < 18446744073709551616 := h1
    simp
    split <;> omega
  rw [hN]
  refine ⟨?_, ?_⟩
  · unfold intB lift
    rw [show be q - 9223372036854775808 + 9223372036854775808 = be q by omega, digs_be 8 q hl hb]
  · have h1' : be q < 18446744073709551616 := h1
    unfold i64; omega
theorem drop_at {P : List Int} {k : Nat} (h : k < P.length) : P.drop k = P.getD k 0 :: P.drop (k + 1) := by
  rw [List.drop_eq_getElem_cons h, List.getD_eq_getElem?_getD, List.getElem?_eq_getElem h]; rfl
theorem getD_bys {P : List Int} (hb : bys P) (k : Nat) : byte (P.getD k 0) := by
  rcases Nat.lt_or_ge k P.length with h | h
  · exact hb _ (getD_mem h)
  · rw [List.getD_eq_getElem?_getD, List.getElem?_eq_none h]; exact ⟨by decide, by decide⟩
theorem bys_sub {P : List Int} (hb : bys P) (a n : Nat) : bys ((P.drop a).take n) := fun x hx => hb x (List.mem_of_mem_drop (List.mem_of_mem_take hx))
/-- what was read stands there -/
theorem rd_enc {P : List Int} (hb : bys P) {k : Nat} {v : Val} {k' : Nat} (h : rdVal P k = some (v, k')) : k < k' ∧ k' ≤ P.length ∧ i64 v.2.1 ∧ byte v.1 ∧ (okV v = true → P.drop k = encOne v ++ P.drop k') := by
  unfold rdVal at h
  by_cases hk : k < P.length
  · rw [if_pos hk] at h
    have hd := drop_at hk
    have hbk := getD_bys hb k
    by_cases h1 : P.getD k 0 = 1
    · rw [if_pos h1] at h
      by_cases h9 : k + 9 ≤ P.length
      · rw [if_pos h9] at h
        cases h
        have hq := int_bytes ((P.drop (k + 1)).take 8) (by simp; omega) (bys_sub hb _ _)
        refine ⟨by omega, h9, hq.2, b1', fun _ => ?_⟩
        unfold encOne
        simp only [if_true]
        rw [hq.1, hd, h1]
        have : P.drop (k + 9) = (P.drop (k + 1)).drop 8 := by rw [List.drop_drop]
        rw [this, List.cons_append, List.take_append_drop]
      · rw [if_neg h9] at h; cases h
    · rw [if_neg h1] at h
      by_cases h2 : P.getD k 0 = 2
      · rw [if_pos h2] at h
        by_cases hk1 : k + 1 < P.length
        · rw [if_pos hk1] at h
          have hbm := getD_bys hb (k + 1)
          have hd1 := drop_at hk1
          by_cases h9 : k + 2 + (P.getD (k + 1) 0).toNat ≤ P.length
          · rw [if_pos h9] at h
            cases h
            refine ⟨by omega, h9, i0', b2', fun _ => ?_⟩
            unfold encOne
            simp only [show ¬ ((2 : Int) = 1) by decide, if_false, if_true]
            rw [bytes_str (bys_sub hb _ _), strOf_size, hd, h2, hd1]
            have hl : ((P.drop (k + 2)).take (P.getD (k + 1) 0).toNat).length = (P.getD (k + 1) 0).toNat := by rw [List.length_take, List.length_drop]; omega
            rw [hl]
            have : P.drop (k + 2 + (P.getD (k + 1) 0).toNat) = (P.drop (k + 2)).drop (P.getD (k + 1) 0).toNat := by rw [List.drop_drop]
            rw [this, List.cons_append, List.cons_append, List.take_append_drop, Int.toNat_of_nonneg hbm.1]
          · rw [if_neg h9] at h; cases h
        · rw [if_neg hk1] at h; cases h
      · rw [if_neg h2] at h
        by_cases h3 : P.getD k 0 = 3
        · rw [if_pos h3] at h
          by_cases hk1 : k + 1 < P.length
          · rw [if_pos hk1] at h
            cases h
            have hbm := getD_bys hb (k + 1)
            have hm1 := hbm.1
            have hm2 := hbm.2
            refine ⟨by omega, by omega, ⟨by dsimp only; omega, by dsimp only; omega⟩, b3', fun _ => ?_⟩
            unfold encOne
            simp only [show ¬ ((3 : Int) = 1) by decide, show ¬ ((3 : Int) = 2) by decide, if_false, if_true]
            rw [hd, h3, drop_at hk1]; rfl
          · rw [if_neg hk1] at h; cases h
        · rw [if_neg h3] at h
          cases h
          refine ⟨by omega, by omega, i0', hbk, fun _ => ?_⟩
          unfold encOne
          dsimp only
          rw [if_neg h1, if_neg h2, if_neg h3, hd]; rfl
  · rw [if_neg hk] at h; cases h
theorem drop_app' (a z : List Int) (n : Nat) (h : a.length = n) : (a ++ z).drop n = z := by subst h; simp
theorem getD_app (a : List Int) (x : Int) (z : List Int) : (a ++ (x :: z)).getD a.length 0 = x := by simp [List.getD_eq_getElem?_getD]
/-- what is written is read -/
theorem enc_rd (a z : List Int) (v : Val) (hv : okV v = true) (hn : i64 v.2.1) : rdVal (a ++ (encOne v ++ z)) a.length = some (v, (a ++ encOne v).length) := by
  obtain ⟨k, n, s, ⟨⟩⟩ := v
  unfold okV at hv
  dsimp only at hv hn
  have hP : a ++ (encOne (k, n, s, ()) ++ z) = a ++ (k :: ((encOne (k, n, s, ())).tail ++ z)) := rfl
  have hg : (a ++ (encOne (k, n, s, ()) ++ z)).getD a.length 0 = k := by rw [hP]; exact getD_app _ _ _
  have hlen : (a ++ (encOne (k, n, s, ()) ++ z)).length = a.length + 1 + ((encOne (k, n, s, ())).tail.length + z.length) := by rw [hP]; simp; omega
  unfold rdVal
  rw [if_pos (by rw [hlen]; omega), hg]
  rcases form_k hv with rfl | rfl | rfl | rfl
  · rw [if_neg (by decide), if_neg (by decide), if_neg (by decide)]
    have f := form0 hv
    obtain rfl := f.1
    obtain rfl := size0 f.2
    simp [encOne]
  · obtain rfl := size0 (form1 hv)
    have ht : (encOne (1, n, ByteArray.empty, ())).tail = intB n := by simp [encOne]
    have hl := intB_len n
    rw [ht, hl] at hlen
    rw [if_pos rfl, if_pos (by rw [hlen]; omega)]
    have e1 : (a ++ (encOne (1, n, ByteArray.empty, ()) ++ z)).drop (a.length + 1) = intB n ++ z := by
      rw [hP, ht, show a ++ (1 :: (intB n ++ z)) = (a ++ [1]) ++ (intB n ++ z) by simp]
      exact drop_app' _ _ _ (by simp)
    rw [e1, List.take_append_of_le_length (by omega), List.take_of_length_le (by omega)]
    have := readI_at (intB n) [] [] n (by simp) hn
    rw [show (([] : List Int).length : Int) = 0 from rfl] at this
    rw [this]
    simp [encOne, hl]
  · have f := form2 hv
    obtain rfl := f.1
    have ht : (encOne (2, 0, s, ())).tail = (s.size : Int) :: bytesOf s := by simp [encOne]
    have hl := bytesOf_len s
    rw [ht, List.length_cons, hl] at hlen
    rw [if_neg (by decide), if_pos rfl, if_pos (by rw [hlen]; omega)]
    have hP2 : a ++ (encOne (2, 0, s, ()) ++ z) = (a ++ [2]) ++ ((s.size : Int) :: (bytesOf s ++ z)) := by rw [hP, ht]; simp
    have hg1 : (a ++ (encOne (2, 0, s, ()) ++ z)).getD (a.length + 1) 0 = (s.size : Int) := by
      rw [hP2]
      have := getD_app (a ++ [2]) (s.size : Int) (bytesOf s ++ z)
      rw [show (a ++ [(2 : Int)]).length = a.length + 1 by simp] at this
      exact this
    rw [hg1, Int.toNat_natCast, if_pos (by rw [hlen]; omega)]
    have e1 : (a ++ (encOne (2, 0, s, ()) ++ z)).drop (a.length + 2) = bytesOf s ++ z := by
      rw [hP2, show (a ++ [2]) ++ ((s.size : Int) :: (bytesOf s ++ z)) = (a ++ [2, (s.size : Int)]) ++ (bytesOf s ++ z) by simp]
      exact drop_app' _ _ _ (by simp)
    rw [e1, List.take_append_of_le_length (by omega), List.take_of_length_le (by omega), str_bytes]
    simp [encOne, hl]
    omega
  · have f := form3 hv
    obtain rfl := size0 f.1
    have ht : (encOne (3, n, ByteArray.empty, ())).tail = [n] := by simp [encOne]
    rw [ht] at hlen
    simp only [List.length_cons, List.length_nil] at hlen
    have hP2 : a ++ (encOne (3, n, ByteArray.empty, ()) ++ z) = (a ++ [3]) ++ (n :: z) := by rw [hP, ht]; simp
    have hg1 : (a ++ (encOne (3, n, ByteArray.empty, ()) ++ z)).getD (a.length + 1) 0 = n := by
      rw [hP2]
      have := getD_app (a ++ [3]) n z
      rw [show (a ++ [(3 : Int)]).length = a.length + 1 by simp] at this
      exact this
    rw [if_neg (by decide), if_neg (by decide), if_pos rfl, if_pos (by rw [hlen]; omega), hg1]
    simp [encOne]
theorem enc_rdF (a z : List Int) (v : Val) (hv : okV v = true) (hn : i64 v.2.1) : rdF (a ++ (encOne v ++ z)) a.length = some (v, (a ++ encOne v).length) := by
  unfold rdF
  rw [enc_rd a z v hv hn]
  dsimp only
  rw [if_pos hv]
theorem enc_rdN : ∀ (l : List Val) (a z : List Int) (acc : List Val), (∀ v ∈ l, okV v = true ∧ i64 v.2.1) → rdN l.length (a ++ (l.flatMap encOne ++ z)) a.length acc = some (acc ++ l, (a ++ l.flatMap encOne).length)
  | [], a, z, acc, _ => by simp [rdN]
  | v :: l, a, z, acc, h => by
    have hv := h v (List.mem_cons_self)
    have e1 : a ++ ((v :: l).flatMap encOne ++ z) = a ++ (encOne v ++ (l.flatMap encOne ++ z)) := by simp
    have e2 : a ++ ((v :: l).flatMap encOne ++ z) = (a ++ encOne v) ++ (l.flatMap encOne ++ z) := by simp
    simp only [List.length_cons, rdN]
    rw [e1, enc_rdF a _ v hv.1 hv.2]
    dsimp only
    rw [← e1, e2, enc_rdN l (a ++ encOne v) z _ (fun x hx => h x (List.mem_cons_of_mem _ hx))]
    simp
/-- what was read stands there, all of it -/
theorem rdN_enc {P : List Int} (hb : bys P) : ∀ (n k : Nat) (acc l : List Val) (k' : Nat), k ≤ P.length → rdN n P k acc = some (l, k') → ∃ m, l = acc ++ m ∧ m.length = n ∧ (∀ v ∈ m, okV v = true ∧ i64 v.2.1) ∧ k' ≤ P.length ∧ P.drop k = m.flatMap encOne ++ P.drop k'
  | 0, k, acc, l, k', hk, h => by
    simp only [rdN, Option.some.injEq, Prod.mk.injEq] at h
    obtain ⟨rfl, rfl⟩ := h
    exact ⟨[], by simp, rfl, (fun v hv => by cases hv), hk, rfl⟩
  | n + 1, k, acc, l, k', hk, h => by
    simp only [rdN, rdF] at h
    cases hr : rdVal P k with
    | none => rw [hr] at h; cases h
    | some x =>
      obtain ⟨v, k1⟩ := x
      rw [hr] at h
      dsimp only at h
      cases hv : okV v with
      | false => rw [hv, if_neg (by decide)] at h; cases h
      | true =>
        rw [hv, if_pos rfl] at h
        obtain ⟨g1, g2, g3, g4, g5⟩ := rd_enc hb hr
        obtain ⟨m, rfl, m2, m3, m4, m5⟩ := rdN_enc hb n k1 _ l k' g2 h
        refine ⟨v :: m, by simp, by simp [m2], fun x hx => ?_, m4, ?_⟩
        · rcases List.mem_cons.1 hx with rfl | hx
          · exact ⟨hv, g3⟩
          · exact m3 x hx
        · rw [g5 hv, m5]; simp
/-- values as bytes, and back -/
theorem dec_enc (l : List Val) (h12 : l.length ≤ 12) (h : ∀ v ∈ l, okV v = true ∧ i64 v.2.1) : decV (encB l) = some l := by
  unfold decV
  have h0 : (encB l).getD 0 0 = (l.length : Int) := rfl
  rw [if_neg (by simp [encB]), h0, if_neg (by omega), Int.toNat_natCast]
  have := enc_rdN l [(l.length : Int)] [] [] h
  simp only [List.append_nil, List.length_cons, List.length_nil, List.nil_append] at this
  rw [show encB l = [(l.length : Int)] ++ l.flatMap encOne from rfl, this]
  dsimp only
  rw [if_pos (by simp)]
/-- the only values whose bytes they are -/
theorem enc_dec {P : List Int} (hb : bys P) {l : List Val} (h : decV P = some l) : P = encB l ∧ l.length ≤ 12 ∧ ∀ v ∈ l, okV v = true ∧ i64 v.2.1 := by
  unfold decV at h
  by_cases h0 : P.length = 0
  · rw [if_pos h0] at h; cases h
  · rw [if_neg h0] at h
    by_cases h12 : 12 < P.getD 0 0
    · rw [if_pos h12] at h; cases h
    · rw [if_neg h12] at h
      have hb0 := getD_bys hb 0
      have hb1 := hb0.1
      cases hr : rdN (P.getD 0 0).toNat P 1 [] with
      | none => rw [hr] at h; cases h
      | some x =>
        obtain ⟨m, k'⟩ := x
        rw [hr] at h
        dsimp only at h
        by_cases hk : k' = P.length
        · rw [if_pos hk] at h
          cases h
          obtain ⟨m', m1, m2, m3, m4, m5⟩ := rdN_enc hb _ 1 [] _ k' (by omega) hr
          rw [List.nil_append] at m1
          subst m1
          rw [hk, List.drop_length, List.append_nil] at m5
          refine ⟨?_, by omega, m3⟩
          have hd := drop_at (P := P) (k := 0) (by omega)
          rw [List.drop_zero] at hd
          rw [hd, m5]
          unfold encB
          rw [m2, Int.toNat_of_nonneg hb1]
        · rw [if_neg hk] at h; cases h
/-- no values' bytes begin with others' -/
theorem enc_prefix (l m : List Val) (z : List Int) (hl : l.length ≤ 12) (hm : m.length ≤ 12) (h1 : ∀ v ∈ l, okV v = true ∧ i64 v.2.1) (h2 : ∀ v ∈ m, okV v = true ∧ i64 v.2.1) (h : encB m ++ z = encB l) : z = [] := by
  have e0 : (m.length : Int) = (l.length : Int) := (List.cons.inj h).1
  have r1 := enc_rdN l [(l.length : Int)] [] [] h1
  have r2 := enc_rdN m [(m.length : Int)] z [] h2
  have hP : [(m.length : Int)] ++ (m.flatMap encOne ++ z) = [(l.length : Int)] ++ (l.flatMap encOne ++ []) := by rw [List.append_nil]; exact h
  rw [hP, show m.length = l.length by omega] at r2
  have r3 := r2.symm.trans r1
  have hk : ([(m.length : Int)] ++ m.flatMap encOne).length = ([(l.length : Int)] ++ l.flatMap encOne).length := by
    have := congrArg Prod.snd (Option.some.inj r3)
    rw [show m.length = l.length by omega]
    exact this
  have hlen := congrArg List.length h
  have a1 : (encB m).length = ([(m.length : Int)] ++ m.flatMap encOne).length := rfl
  have a2 : (encB l).length = ([(l.length : Int)] ++ l.flatMap encOne).length := rfl
  rw [List.length_append, a1, a2, hk] at hlen
  exact List.length_eq_zero_iff.1 (by omega)
end Go.Px.Pu
