/- Conversions, texts walked, assignments. -/
import Derived.Test.YtpmnipaimoaagaaDoorPx8
set_option linter.unusedVariables false
set_option linter.unusedSimpArgs false
namespace Go.Px
open Go Go.RowKit

theorem strOf_eq (l : List Int) : l.foldl (fun r n => r.push (UInt8.ofNat n.toNat)) ByteArray.empty = strOf l := by
  have key : ∀ (l : List Int) (r : ByteArray), l.foldl (fun r n => r.push (UInt8.ofNat n.toNat)) r = ⟨r.data ++ (l.map fun n => UInt8.ofNat n.toNat).toArray⟩ := by
    intro l
    induction l with
    | nil => intro r; simp
    | cons n l ih => intro r; simp only [List.foldl_cons, List.map_cons]; rw [ih]; simp [ByteArray.push]
  rw [key]
  unfold strOf
  congr 1
  show #[] ++ _ = _
  simp
theorem flat_sc (t : T0) (l : List t.α) : flat (.sc t) l = l.map t.val := by
  induction l with
  | nil => rfl
  | cons x l ih => rw [flat_cons, ih]; rfl

section
variable {X : Cx} {ρ : Type} {w0 : World} {S : St} {a : Act} {w : World} {loc : Nat → Nat → Option (Nat × Nat)} {E : Env ρ} {K : St → Option ρ} {r : ρ} {o : Oper} {Q : Exit → Act → World → Prop}

theorem codOf_ok (hE : EnvOk X E) {t : TypeId} {C : Cod} {by_ : Nat} (h : codOf E t = some (C, by_)) : ∃ e te, X.P.underlying t = some (.slice e) ∧ TOk X.P e te ∧ te.cod = some C ∧ te.size = C.sz ∧ te.bytes = by_ := by
  unfold codOf at h
  split at h
  · rename_i ti ht
    split at h
    · rename_i e hd
      split at h
      · rename_i te hte
        split at h
        · rename_i C' hc
          split at h
          · rename_i hs
            simp only [Option.some.injEq, Prod.mk.injEq] at h
            obtain ⟨rfl, rfl⟩ := h
            have hu := (hE.T t ti ht).und
            rw [hd] at hu
            exact ⟨e, te, hu, hE.T e te hte, hc, hs, rfl⟩
          · cases h
        · cases h
      · cases h
    · cases h
  · cases h
theorem sl_load {C : Cod} {l : List C.α} {ad : Addr} {n cap : Nat} (h : SlRep w C l (.slice (some ad) n cap)) (P : Program) (m : Nat) (hm : m ≤ l.length) : n = l.length ∧ (loadCells ad (m * C.sz)).run P w = .ok (flat C (l.take m)).toArray w := by
  obtain ⟨ad', cap', h1, h2, h3⟩ := h
  cases h1
  refine ⟨rfl, ?_⟩
  have hlen : (flat C (l.take m)).length = m * C.sz := by rw [flat_length, List.length_take, Nat.min_eq_left hm]
  rw [← hlen]
  refine run_loadCells_list (P := P) w ad _ (fun j u hj => ?_)
  rcases h3 with rfl | ⟨b, o, cur, e, fr, h4, h5, h6, h7⟩
  · simp [flat] at hj
  · cases h4
    rw [add_lit, cell_of w h6]
    rw [flat_take] at hj
    exact (h7.take _) j u hj
theorem sl_nil {C : Cod} {l : List C.α} {n cap : Nat} (h : SlRep w C l (.slice none n cap)) : l = [] ∧ n = 0 := by
  obtain ⟨ad', cap', h1, h2, h3⟩ := h
  cases h1
  rcases h3 with rfl | ⟨b, o, cur, e, fr, h4, _⟩
  · exact ⟨rfl, rfl⟩
  · cases h4
theorem heap_pushed (w : World) (ob : Obj) : (w.drew.alloc ob).heap[w.heap.size]? = some ob := by
  show (w.heap.push ob)[w.heap.size]? = some ob
  simp
theorem run_cv {s d : TypeId} {x : Operand} (ho : o.op = .convert s d x) {v z : Value} {w' : World} (hx : a.eval x = v) (hl : (convert s d v).run X.P w = .ok z w') : (execOp a.eval o).run X.P w = .ok (.value z) w' := by
  simp [execOp, ho, hx, hl]
theorem freeze_heap (w : World) {b : Nat} {cur : Array Value} {e : TypeId} {fr : Nat × Nat} (n : Nat) (h : w.heap[b]? = some (.cells cur e fr)) :
    (w.freeze ⟨b, n, none⟩ 1).heap[b]? = some (.cells cur e (if fr.1 == fr.2 then (n, n + 1) else (min fr.1 n, max fr.2 (n + 1)))) := by
  have hlt := (Array.getElem?_eq_some_iff.1 h).1
  simp only [World.freeze, Nat.one_ne_zero, if_false]
  rw [Array.getElem?_modify, if_pos rfl, h]
  rfl
theorem freeze_other (w : World) {b c : Nat} (n : Nat) (hc : c ≠ b) : (w.freeze ⟨b, n, none⟩ 1).heap[c]? = w.heap[c]? := by
  simp only [World.freeze, Nat.one_ne_zero, if_false]
  rw [Array.getElem?_modify, if_neg (Ne.symm hc)]
theorem harm_freeze {fr : Nat × Nat} {n : Nat} (h : Harm fr n) : Harm (if fr.1 == fr.2 then (n, n + 1) else (min fr.1 n, max fr.2 (n + 1))) n := by
  obtain ⟨h1, h2⟩ := h
  by_cases he : fr.1 = fr.2
  · simp only [he, beq_self_eq_true, if_true]
    exact ⟨Nat.le_succ _, fun j hj hh => by simp at hh; omega⟩
  · have hb : (fr.1 == fr.2) = false := by simpa using he
    simp only [hb, Bool.false_eq_true, if_false]
    have hle : n ≤ fr.1 := by
      rcases Nat.lt_or_ge fr.1 n with h' | h'
      · exact absurd ⟨Nat.le_refl _, by omega⟩ (h2 _ h')
      · exact h'
    refine ⟨by simp only []; omega, fun j hj hh => ?_⟩
    simp only [] at hh
    omega
/-- a literal's row is marked; it goes on as it is -/
theorem convert_same {t e : TypeId} {x : Operand} {k : Nat} {l : List Int} {v : Value} (h : Sim X w0 S a w loc) (ho : o.op = .convert t t x) (hx : a.eval x = v) (hs : get S k = .own (.sc (.int .u8)) l) (hpos : 0 < l.length)
    (hp : Rep X w S a.tmps loc (fun _ => none) (.alias k) v) (hb : X.P.underlying t = some (.slice e)) (hue : X.P.underlying e = some (.int .u8)) (hr : fin o.dst K (.alias k) S = some r) : o.wp X.P a w (Post X w0 K r) Q := by
  have hown : (get S k).owns = true := by rw [hs]; rfl
  have h1 := alias_val h hp hown
  rw [hs] at h1
  rcases h1 with ⟨_, _, h3⟩ | ⟨b, of, cap, cur, e', fr, q1, q2, q3, q4, q5, q6, q7, q8⟩
  · rw [h3] at hpos; cases hpos
  · have hrun : (convert t t v).run X.P w = .ok v (w.freeze ⟨b, cur.size, none⟩ 1) := by
      rw [q2]
      have hsh : w.shape? b = some (e', cur.size) := by unfold World.shape?; rw [q4]
      simp [convert, run_underlying hb, run_underlying hue, markStringish, hsh]
    have hbs : ∀ c, blkSize w c ≤ blkSize (w.freeze ⟨b, cur.size, none⟩ 1) c := fun c => by
      by_cases hc : c = b
      · subst hc; simp only [blkSize, q4, freeze_heap w cur.size q4]; exact Nat.le_refl _
      · simp only [blkSize, freeze_other w cur.size hc]; exact Nat.le_refl _
    have hsim := h.updG (pk := .own (.sc (.int .u8)) l) (w' := w.freeze ⟨b, cur.size, none⟩ 1) hown q1 (fun c _ hc => freeze_other w _ hc) (by simp [World.freeze]) (by simp [World.freeze]) (by simp [World.freeze]) (by simp [World.freeze]) hbs
      (fun g => by rw [hs]) (by rw [hs]) rfl rfl (fun u hu => by
        have : a.tmps[k]? = some v := hp
        rw [this] at hu; cases hu
        exact .inr ⟨b, of, cap, cur, e', _, q1, q2, q3, freeze_heap w _ q4, harm_freeze q5, q6, q7, q8⟩)
    have hset : S.set k (.own (.sc (.int .u8)) l) = S := by
      rw [← hs]
      apply List.ext_getElem?
      intro i
      by_cases hi : k = i
      · subst hi
        have := get_of_ne (i := k) (S := S) (by rw [hs]; simp)
        have hk : k < S.length := (List.getElem?_eq_some_iff.1 this).1
        rw [List.getElem?_set_self hk, this]
      · rw [List.getElem?_set_ne hi]
    rw [hset] at hsim
    exact wp0 (run_cv ho hx hrun) hsim hr rfl hp (fun j hj => by cases hj; exact hown)
theorem evConvert_ok {s d : TypeId} {x : Operand} {p : PV} {v : Value} (hE : EnvOk X E) (h : Sim X w0 S a w loc) (ho : o.op = .convert s d x) (hx : a.eval x = v) (hpo : p.owns = false)
    (hp : Rep X w S a.tmps loc (fun _ => none) p v) (hown : ∀ k, p.ref = some k → (get S k).owns = true) (hr : evConvert E S s d p (fun q => fin o.dst K q S) = some r) : o.wp X.P a w (Post X w0 K r) Q := by
  unfold evConvert at hr
  split at hr
  · rename_i ta tb hta htb
    have ha := (hE.T s ta hta).und
    have hb := (hE.T d tb htb).und
    split at hr
    · rename_i k kk n hd
      rw [hd] at hb
      have hv : v = .int kk n := hp
      refine wp_raw (run_cv ho (hx.trans hv) ?_) h hr
      simp [convert, run_underlying ha, run_underlying hb, Conv.intToInt]
    · rename_i hd
      rw [hd] at hb
      split at hr
      · rename_i hd'
        split at hr
        · rename_i st
          have hv : v = .string st := hp
          refine wp_raw (run_cv ho (hx.trans hv) ?_) h hr
          simp [convert, run_underlying ha, run_underlying hb]
        · cases hr
      · rename_i e0 hd'
        rw [hd'] at ha
        split at hr
        · rename_i bb hco
          obtain ⟨e, te, q1, q2, q3, q4, q5⟩ := codOf_ok hE hco
          rw [ha] at q1; cases q1
          have hue := q2.und
          rw [(q2.scal _ q3).2.2] at hue
          split at hr
          · rename_i l hc
            have hs := contentT_sl h hc hpo hp hown
            obtain ⟨ad, cap, h1, h2, h3⟩ := id hs
            refine wp_raw (run_cv ho (hx.trans h1) ?_) h hr
            rw [h1] at hs
            simp only [convert, Sem.run_bind, run_underlying ha, run_underlying hb, Result.andThen_ok, run_underlying hue]
            cases ad with
            | none =>
              obtain ⟨rfl, _⟩ := sl_nil hs
              rfl
            | some ad =>
              have hld := (sl_load hs X.P l.length (Nat.le_refl _)).2
              rw [List.take_length, flat_sc] at hld
              simp only [Cod.sz, Nat.mul_one] at hld
              rw [← strOf_eq]
              exact run_bytesToString w ad l.length cap l hld
          · cases hr
        · rename_i bb hco
          obtain ⟨e, te, q1, q2, q3, q4, q5⟩ := codOf_ok hE hco
          rw [ha] at q1; cases q1
          have hue := q2.und
          rw [(q2.scal _ q3).2.2] at hue
          split at hr
          · rename_i l hc
            have hs := contentT_sl h hc hpo hp hown
            obtain ⟨ad, cap, h1, h2, h3⟩ := id hs
            refine wp_raw (run_cv ho (hx.trans h1) ?_) h hr
            rw [h1] at hs
            simp only [convert, Sem.run_bind, run_underlying ha, run_underlying hb, Result.andThen_ok, run_underlying hue]
            cases ad with
            | none =>
              obtain ⟨rfl, _⟩ := sl_nil hs
              rfl
            | some ad =>
              have hld := (sl_load hs X.P l.length (Nat.le_refl _)).2
              rw [List.take_length, flat_sc] at hld
              simp only [Cod.sz, Nat.mul_one] at hld
              exact run_runesToString w ad l.length cap l hld
          · cases hr
        · cases hr
      · cases hr
    · rename_i e0 hd
      rw [hd] at hb
      split at hr
      · rename_i e1 k hd'
        split at hr
        · rename_i bb l hco hs
          split at hr
          · rename_i hsd
            subst hsd
            obtain ⟨hpos, hr⟩ := chk_some hr
            have hpos : 0 < l.length := of_decide_eq_true hpos
            obtain ⟨e, te, q1, q2, q3, q4, q5⟩ := codOf_ok hE hco
            rw [hb] at q1; cases q1
            have hue := q2.und
            rw [(q2.scal _ q3).2.2] at hue
            exact convert_same h ho hx hs hpos hp hb hue hr
          · cases hr
        · cases hr
      case h_3 => cases hr
      rename_i st hd'
      have ha' := ha
      rw [hd'] at ha'
      split at hr
      · rename_i bb hco
        obtain ⟨e, te, q1, q2, q3, q4, q5⟩ := codOf_ok hE hco
        rw [hb] at q1; cases q1
        have hue := q2.und
        rw [(q2.scal _ q3).2.2] at hue
        obtain ⟨hsz, hr⟩ := chk_some hr
        have hv : v = .string st := hp
        have hrun := run_bytes_of_string (P := X.P) w s d e0 st ha' hb hue
        have hge := grownCap_ge w st.size 0 e0
        generalize grownCap w st.size 0 e0 = cap at hrun hge
        have hbs : (bytesRow st cap).size = cap := by simp [bytesRow]; omega
        have hext : Below w.heap.size w (w.drew.alloc (.cells (bytesRow st cap) e0 ((bytesRow st cap).size, (bytesRow st cap).size + 1))) := ((Below.refl _ w).drew).alloc (Nat.le_refl _) _
        refine wp1 w.heap.size 0 (run_cv ho (hx.trans hv) hrun) (h.ext hext) hr rfl rfl ?_ ⟨by simp, .inl h.hB, fun i j' o' e0 => Nat.lt_irrefl _ (h.lt i j' _ o' e0).1⟩
        have hbl : (bytesOf st).length = st.size := by simp [bytesOf]
        refine .inr ⟨w.heap.size, 0, cap, bytesRow st cap, e0, _, by simp, by rw [hbl], .inl h.hB, heap_pushed _ _, ⟨Nat.le_succ _, fun j hj hh => by simp at hh; omega⟩, by rw [hbl]; exact hge, by rw [hbs]; simp [Cod.sz], ?_⟩
        intro j x hj
        rw [flat_sc] at hj
        have hjl : j < st.data.size := by
          have := (List.getElem?_eq_some_iff.1 hj).1
          simp [bytesOf] at this; exact this
        rw [Nat.zero_add]
        simp only [bytesRow]
        rw [Array.getElem?_append_left (by simpa using hjl)]
        simp only [bytesOf, List.map_map] at hj
        simp only [Array.getElem?_map]
        rw [List.getElem?_map] at hj
        simpa [T0.val] using hj
      · cases hr
    · cases hr
  · cases hr

/-! ### parts of values; texts walked -/
theorem op_nilCheck {x : Operand} (h : Sim X w0 S a w loc) (ho : o.op = .nilCheck x) (hr : evOp E S o.dst o.op o.type (fin o.dst K) = some r) : o.wp X.P a w (Post X w0 K r) Q := by
  rw [ho] at hr
  simp only [evOp] at hr
  have key : ∀ {k : Nat} {ss : List Seg}, get S k = .obj ss → Rep X w S a.tmps loc (fun _ => none) (.alias k) (a.eval x) → fin o.dst K (.alias k) S = some r → o.wp X.P a w (Post X w0 K r) Q := fun {k ss} hs hp hf => by
    have ho' : (get S k).owns = true := by rw [hs]; rfl
    have hv := alias_val h hp ho'
    rw [hs] at hv
    obtain ⟨b, cur, e', fr, g1, g2, g3⟩ := hv
    refine wp0 (v := a.eval x) ?_ h hf rfl hp (fun k' hk' => by cases hk'; exact ho')
    simp [execOp, ho, g2]
  split at hr
  · rename_i s
    split at hr
    · rename_i ss hs
      exact key hs (alias_rep h (by rw [hs]; rfl)) hr
    · rename_i j hs
      split at hr
      · rename_i ss hj
        have := copy_rep h (s := s) (by rw [hs]; rfl)
        rw [hs] at this
        exact key hj this hr
      · cases hr
    · cases hr
  · cases hr
theorem op_index {t : TypeId} {x y : Operand} (hE : EnvOk X E) (h : Sim X w0 S a w loc) (ho : o.op = .index t x y) (hr : evOp E S o.dst o.op o.type (fin o.dst K) = some r) : o.wp X.P a w (Post X w0 K r) Q := by
  rw [ho] at hr
  simp only [evOp] at hr
  split at hr
  · rename_i i ti hi hti
    obtain ⟨k, hy⟩ := asI_val h hi
    have ht := hE.T t ti hti
    split at hr
    · rename_i st hd hx
      have hu := ht.und
      rw [hd] at hu
      have hv := opd_raw h hx
      obtain ⟨hb, hr⟩ := chk_some hr
      have hb := inB_iff hb
      refine wp_raw ?_ h hr
      have hlt : i.toNat < st.size := by omega
      have hge : st[i.toNat]? = some (st.data[i.toNat]'hlt) := by
        rw [getElem?_pos st i.toNat hlt]; rfl
      have hbv : byteAt st i.toNat = ((st.data[i.toNat]'hlt).toNat : Int) := by
        simp [byteAt, List.getElem?_eq_getElem (show i.toNat < st.data.toList.length by simpa using hlt)]
      simp only [execOp, ho, Sem.run_bind, Instr.index, hy, hv, asIntOf, Sem.run_pure, Result.andThen_ok, run_underlying hu, hb.1, if_true, hge, hbv]
    · rename_i n e0 t0 n' l hd hx
      have hu := ht.und
      rw [hd] at hu
      split at hr
      · rename_i hn
        obtain ⟨rfl, hn1, hn2⟩ := hn
        obtain ⟨hb, hr⟩ := chk_some hr
        have hb := inB_iff hb
        refine wp_raw ?_ h hr
        have hv : l.length = n ∧ a.eval x = .agg (flat (.sc t0) l).toArray := by
          cases x with
          | tmp s => rw [opd_tmp] at hx; have := copy_rep h (s := s) (by rw [hx]; rfl); rw [hx] at this; exact this
          | const c => simp [opd] at hx
          | global g => simp [opd] at hx
          | func f => simp [opd] at hx
        cases hte : E.T e0 with
        | none => rw [hte] at hn1; simp at hn1
        | some te =>
          rw [hte] at hn1; simp at hn1
          have hag := isAgg_run (hE.T e0 te hte) w
          rw [hn1] at hag
          have hat : (flat (.sc t0) l)[i.toNat]? = some (t0.val (l.getD i.toNat t0.dflt)) := by
            have := flat_at (.sc t0) l i.toNat 0 (by omega) (by simp [Cod.sz])
            simp only [Cod.sz, Nat.mul_one, Nat.add_zero] at this
            exact this
          simp only [execOp, ho, Sem.run_bind, Instr.index, hy, hv.2, asIntOf, Sem.run_pure, Result.andThen_ok, run_underlying hu, hb.1, hb.2, and_self, if_true, esz_ok hE hn2 w, part, hag, Nat.mul_one, List.getElem?_toArray, hat, Bool.false_eq_true, if_false]
      · cases hr
    · cases hr
  · cases hr
theorem op_range {t : TypeId} {x : Operand} (hE : EnvOk X E) (h : Sim X w0 S a w loc) (ho : o.op = .range t x) (hr : evOp E S o.dst o.op o.type (fin o.dst K) = some r) : o.wp X.P a w (Post X w0 K r) Q := by
  rw [ho] at hr
  simp only [evOp] at hr
  split at hr
  · rename_i ti hti
    have ht := hE.T t ti hti
    split at hr
    · rename_i st hd hx
      have hu := ht.und
      rw [hd] at hu
      have hv := opd_raw h hx
      have hrun : (execOp a.eval o).run X.P w = .ok (.value (.pointer (some ⟨w.heap.size, 0, none⟩))) { w with heap := w.heap.push (.stringIter st 0) } := by
        simp [execOp, ho, Instr.range, run_underlying hu, hv]
      refine wp1 w.heap.size 0 hrun (h.ext (below_alloc' w _)) hr rfl rfl ?_ (new_block h _)
      exact ⟨w.heap.size, by simp, rfl, .inl h.hB, by simp⟩
    · cases hr
  · cases hr
theorem op_extract {x : Operand} {i : Nat} (h : Sim X w0 S a w loc) (ho : o.op = .extract x i) (hr : evOp E S o.dst o.op o.type (fin o.dst K) = some r) : o.wp X.P a w (Post X w0 K r) Q := by
  rw [ho] at hr
  simp only [evOp] at hr
  split at hr
  · rename_i s
    split at hr
    · rename_i vs hs
      split at hr
      · rename_i v hv
        obtain ⟨u, h1, h2, h3⟩ := opd_get h hs (by simp)
        have h3 : u = .tuple vs := h3
        refine wp_raw ?_ h hr
        simp [execOp, ho, Instr.extract, h2, h3, hv]
      · cases hr
    · rename_i ds hs
      obtain ⟨u, h1, h2, h3⟩ := opd_get h hs (by simp)
      obtain ⟨vs, q1, q2, q3⟩ := h3
      split at hr
      · rename_i d hd
        obtain ⟨v, hv, hrep⟩ := q3 i d hd
        have hrun : (execOp a.eval o).run X.P w = .ok (.value v) w := by simp [execOp, ho, Instr.extract, h2, q1, hv]
        split at hr
        · rename_i how
          obtain ⟨loc2, hk2, hf2, hl, hnew⟩ := h.take s (by rw [hs]; rfl)
          have hsl : s < (Px.kill S s).length := by
            rw [kill_length]
            exact (List.getElem?_eq_some_iff.1 (get_of_ne (i := s) (S := S) (by rw [hs]; simp))).1
          have hnew2 : ∀ j b o, loc s j = some (b, o) → ∀ i j' o', loc2 i j' ≠ some (b, o') := fun j b o hj => (hnew j b o hj).2.2
          have hset := hk2.set hsl hf2 (fun j => if j = i then none else if (PV.tup (ds.set i .junk)).owns then loc s j else none) (.tup (ds.set i .junk)) u
            (by
              refine ⟨vs, q1, by simpa using q2, fun j d' hj => ?_⟩
              by_cases hji : j = i
              · subst hji
                refine ⟨v, hv, ?_⟩
                have : j < ds.length := (List.getElem?_eq_some_iff.1 hd).1
                simp [this] at hj; subst hj; trivial
              · rw [List.getElem?_set_ne (Ne.symm hji)] at hj
                obtain ⟨u', g1, g2⟩ := q3 j d' hj
                refine ⟨u', g1, ?_⟩
                simp only [if_neg hji]
                cases hd' : d'.owns with
                | false => cases d' <;> first | exact g2 | simp [D1.owns] at hd'
                | true =>
                  have : (PV.tup (ds.set i .junk)).owns = true := by
                    simp only [PV.owns, List.any_eq_true]
                    refine ⟨d', List.mem_of_getElem? (i := j) ?_, hd'⟩
                    rw [List.getElem?_set_ne (Ne.symm hji)]; exact hj
                  rw [if_pos this]; exact g2)
            (fun k hk => by cases hk) (fun ho' j => by simp only [ho']; split <;> rfl)
            (fun j j' b o o' e1 e2 => by
              split at e1
              · cases e1
              · split at e2
                · cases e2
                · split at e1
                  · rename_i hh; rw [if_pos hh] at e2; exact (h.sep s j s j' b o o' e1 e2).2
                  · cases e1)
            (fun j b o e1 => by
              split at e1
              · cases e1
              · split at e1
                · exact ⟨(h.lt s j b o e1).1, (h.lt s j b o e1).2, hnew2 j b o e1⟩
                · cases e1)
          have hact : ({ a with tmps := a.tmps.setIfInBounds s u } : Act) = a := by
            have : a.tmps.setIfInBounds s u = a.tmps := by
              apply Array.ext_getElem?
              intro m
              by_cases hm : m = s
              · subst hm; rw [Array.getElem?_setIfInBounds_self]; obtain ⟨hlt, he⟩ := Array.getElem?_eq_some_iff.1 h1; simp [hlt, he]
              · rw [Array.getElem?_setIfInBounds_ne (Ne.symm hm)]
            rw [this]
          rw [hact] at hset
          cases d with
          | own C l =>
            refine wpG (fun j => if j = 0 then loc s i else none) hrun hset hr rfl rfl hrep (fun j j' b o o' e1 e2 => by
              split at e1
              · split at e2
                · omega
                · cases e2
              · cases e1) (fun j b o e1 => by
              split at e1
              · refine ⟨(h.lt s i b o e1).1, (h.lt s i b o e1).2, fun i' j' o' e2 => ?_⟩
                by_cases his : i' = s
                · subst his
                  rw [locPut_same] at e2
                  split at e2
                  · cases e2
                  · split at e2
                    · rename_i hji _; exact hji (h.sep i' j' i' i b o' o e2 e1).2
                    · cases e2
                · rw [locPut_ne his] at e2; exact hnew2 i b o e1 i' j' o' e2
              · cases e1)
          | _ => simp [D1.owns] at how
        · rename_i how
          refine wp0 hrun h hr ?_ ?_ (fun k hk => by cases d <;> simp [D1.toPV, PV.ref] at hk)
          · cases d <;> first | rfl | simp [D1.owns] at how
          · cases d <;> first | exact hrep | exact ⟨hrep.1 _ _, hrep.2⟩ | simp [D1.owns] at how
      · cases hr
    · cases hr
  · cases hr
theorem op_next {x : Operand} {ty : TypeId} (h : Sim X w0 S a w loc) (ho : o.op = .next x true) (hr : evOp E S o.dst o.op o.type (fin o.dst K) = some r) : o.wp X.P a w (Post X w0 K r) Q := by
  rw [ho] at hr
  simp only [evOp] at hr
  split at hr
  · rename_i k
    split at hr
    · rename_i st pos hs
      obtain ⟨u, h1, h2, h3⟩ := opd_get h hs (by simp)
      obtain ⟨b, g1, g2, g3, g4⟩ := h3
      by_cases hp : pos < st.size
      · rw [decide_eq_true hp] at hr
        simp only [cond_true] at hr
        have hbl := (h.lt k 0 b 0 g1).1
        have hrun : (execOp a.eval o).run X.P w = .ok (.value (.tuple #[.bool true, .int .i64 pos, .int .i32 (Utf8.decode st pos).1])) { w with heap := w.heap.setIfInBounds b (.stringIter st (pos + (Utf8.decode st pos).2)) } := by
          simp [execOp, ho, h2, g2, Instr.next, getObj, setObj, Sem.run, g4, hp, goInt]
        have hupd := h.updG (k := k) (b := b) (ob := 0) (pk := .iter st (pos + (Utf8.decode st pos).2)) (w' := { w with heap := w.heap.setIfInBounds b (.stringIter st (pos + (Utf8.decode st pos).2)) })
          (by rw [hs]; rfl) g1 (fun c _ hc => by show (w.heap.setIfInBounds b _)[c]? = _; rw [Array.getElem?_setIfInBounds_ne (Ne.symm hc)]) (by simp) rfl rfl rfl
          (fun c => by
            by_cases hc : c = b
            · subst hc; simp [blkSize, g4]
            · refine Nat.le_of_eq (blkSize_of_eq ?_).symm
              show (w.heap.setIfInBounds b _)[c]? = _; rw [Array.getElem?_setIfInBounds_ne (Ne.symm hc)])
          (fun g => by rw [hs]; rfl) (by rw [hs]; rfl) rfl rfl
          (fun v hv => by
            rw [h1] at hv; cases hv
            exact ⟨b, g1, g2, g3, by show (w.heap.setIfInBounds b _)[b]? = _; rw [Array.getElem?_setIfInBounds_self]; simp [hbl]⟩)
        exact wp_raw hrun hupd hr
      · rw [decide_eq_false hp] at hr
        simp only [cond_false] at hr
        refine wp_raw ?_ h hr
        simp [execOp, ho, h2, g2, Instr.next, getObj, Sem.run, g4, hp]
    · cases hr
  · cases hr
end
end Go.Px
