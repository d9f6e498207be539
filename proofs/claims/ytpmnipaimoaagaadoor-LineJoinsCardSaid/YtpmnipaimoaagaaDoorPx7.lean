/- Addresses, pieces, texts. -/
import Derived.Test.YtpmnipaimoaagaaDoorPx6
set_option linter.unusedVariables false
set_option linter.unusedSimpArgs false
namespace Go.Px
open Go Go.RowKit

section
variable {X : Cx} {ρ : Type} {w0 : World} {S : St} {a : Act} {w : World} {loc : Nat → Nat → Option (Nat × Nat)} {E : Env ρ} {K : St → Option ρ} {r : ρ} {o : Oper} {Q : Exit → Act → World → Prop}

theorem asI_val (h : Sim X w0 S a w loc) {x : Operand} {n : Int} (hx : asI (opd S x) = some n) : ∃ k, a.eval x = .int k n := by
  unfold asI at hx
  split at hx
  · rename_i k m hm
    cases hx
    exact ⟨k, opd_raw h hm⟩
  · cases hx
theorem esz_ok (hE : EnvOk X E) {t : TypeId} {n : Nat} (h : esz E t = some n) (w : World) : (Go.sizeOf t).run X.P w = .ok n w := by
  unfold esz at h
  cases ht : E.T t with
  | none => rw [ht] at h; cases h
  | some i => rw [ht] at h; simp at h; rw [sizeOf_run (hE.T t i ht), h]
theorem inB_iff {i n : Int} (h : inB i n = true) : 0 ≤ i ∧ i < n := by simpa [inB] using h
theorem leB_iff {i n : Int} (h : leB i n = true) : i ≤ n := by simpa [leB] using h

theorem run_indexAt_arr {P : Program} {t e : TypeId} {n sz : Nat} (hu : P.underlying t = some (.array n e)) (hs : ∀ w : World, (Go.sizeOf e).run P w = .ok sz w) {b off : Nat} {k : IntKind} {i : Int} (hi : 0 ≤ i ∧ i < n) (w : World) :
    (Instr.indexAt t (.pointer (some ⟨b, off, none⟩)) (.int k i)).run P w = .ok (.pointer (some ⟨b, off + i.toNat * sz, none⟩)) w := by
  simp [Instr.indexAt, asIntOf, run_underlying hu, Instr.sureAddr, hi.1, hi.2, hs, add_lit]
theorem run_indexAt_sl {P : Program} {t e : TypeId} {n sz c : Nat} (hu : P.underlying t = some (.slice e)) (hs : ∀ w : World, (Go.sizeOf e).run P w = .ok sz w) {b off : Nat} {k : IntKind} {i : Int} (hi : 0 ≤ i ∧ i < n) (w : World) :
    (Instr.indexAt t (.slice (some ⟨b, off, none⟩) n c) (.int k i)).run P w = .ok (.pointer (some ⟨b, off + i.toNat * sz, none⟩)) w := by
  simp [Instr.indexAt, asIntOf, run_underlying hu, hi.1, hi.2, hs, add_lit]
theorem run_ix {t : TypeId} {x y : Operand} (ho : o.op = .indexAddr t x y) {v u z : Value} (hx : a.eval x = v) (hy : a.eval y = u) (hl : (Instr.indexAt t v u).run X.P w = .ok z w) : (execOp a.eval o).run X.P w = .ok (.value z) w := by
  simp [execOp, ho, hx, hy, hl]
theorem run_arrAt {t : TypeId} {x : Operand} (ho : o.op = .sliceToArrayPointer t x) {n : Nat} {e : TypeId} (ht : X.P.underlying t = some (.array n e)) {ad : Option Addr} {len cap : Nat} (hx : a.eval x = .slice ad len cap) (hl : n ≤ len) : (execOp a.eval o).run X.P w = .ok (.value (.pointer ad)) w := by
  have h1 : ¬ len < n := by omega
  simp [execOp, ho, hx, Instr.arrayAt, run_underlying ht, h1]
theorem evArrAt_ok {t : TypeId} {x : Operand} {p : PV} {v : Value} (hE : EnvOk X E) (h : Sim X w0 S a w loc) (ho : o.op = .sliceToArrayPointer t x) (hx : a.eval x = v)
    (hp : Rep X w S a.tmps loc (fun _ => none) p v) (hown : ∀ k, p.ref = some k → (get S k).owns = true) (hr : evArrAt E S t p (fun q => fin o.dst K q S) = some r) : o.wp X.P a w (Post X w0 K r) Q := by
  unfold evArrAt at hr
  cases hti : E.T t with
  | none => rw [hti] at hr; cases hr
  | some ti =>
    rw [hti] at hr
    have ht := hE.T t ti hti
    dsimp only at hr
    split at hr
    · rename_i n e hd
      have hu := ht.und
      rw [hd] at hu
      split at hr
      · rename_i k g off len
        split at hr
        · rename_i C l hg
          split at hr
          · rename_i hc
            obtain ⟨hle, hr⟩ := chk_some hr
            have hle : n ≤ len := of_decide_eq_true hle
            obtain ⟨base, sz, cnt, e1, e2, e3⟩ := hp
            have hsz : sz = C.sz := by
              rw [hg] at e1
              cases g with
              | zero => simp [shp] at e1; exact e1.2.1.symm
              | succ g => simp [shp] at e1
            rcases e3 with ⟨_, _, q⟩ | ⟨b, o1, o2, cap, q1, q2, q3, q4, _⟩
            · omega
            · have q4 : o2 = o1 + base + off * sz := by rcases q4 with q4 | q4 <;> omega
              refine wp0 (p := .ptr k g off 0) (run_arrAt ho hu (hx.trans q2) hle) h hr rfl ⟨base, sz, cnt, b, o1, e1, q1, by omega, by omega, by rw [q4]; rfl⟩ (fun k' hk' => by cases hk'; exact hown k rfl)
          · cases hr
        · cases hr
      · cases hr
    · cases hr
theorem evIndexAddr_ok {t : TypeId} {x y : Operand} {p : PV} {v : Value} {i : Int} {ki : IntKind} (hE : EnvOk X E) (h : Sim X w0 S a w loc) (ho : o.op = .indexAddr t x y) (hx : a.eval x = v) (hy : a.eval y = .int ki i)
    (hp : Rep X w S a.tmps loc (fun _ => none) p v) (hown : ∀ k, p.ref = some k → (get S k).owns = true) (hr : evIndexAddr E S t p i (fun q => fin o.dst K q S) = some r) : o.wp X.P a w (Post X w0 K r) Q := by
  unfold evIndexAddr at hr
  cases hti : E.T t with
  | none => rw [hti] at hr; cases hr
  | some ti =>
    rw [hti] at hr
    have ht := hE.T t ti hti
    dsimp only at hr
    split at hr
    · rename_i n e k hd
      have hu := ht.und
      rw [hd] at hu
      split at hr
      · rename_i C n' l hs
        split at hr
        · rename_i hc
          obtain ⟨rfl, hc1, hc2⟩ := hc
          obtain ⟨hi, hr⟩ := chk_some hr
          have hi := inB_iff hi
          have hv := alias_val h hp (hown k rfl)
          rw [hs] at hv
          obtain ⟨b, cur, e', fr, g1, g2, g3, g4, g5, g6, g7⟩ := hv
          exact wp0 (run_ix ho (hx.trans g2) hy (run_indexAt_arr hu (esz_ok hE hc1) hi w)) h hr rfl
            ⟨0, C.sz, n, b, 0, by rw [hs]; rfl, g1, by omega, hc2, by simp⟩ (fun k' hk' => by cases hk'; exact hown k rfl)
        · cases hr
      · cases hr
    · rename_i n e g hd
      have hu := ht.und
      rw [hd] at hu
      rw [hE.G] at hr
      split at hr
      · rename_i C n' l hs
        split at hr
        · rename_i hc
          obtain ⟨rfl, hc1, hc2⟩ := hc
          obtain ⟨hi, hr⟩ := chk_some hr
          have hi := inB_iff hi
          have hv : v = .pointer (some ⟨g, 0, none⟩) := hp
          exact wp0 (run_ix ho (hx.trans hv) hy (run_indexAt_arr hu (esz_ok hE hc1) hi w)) h hr rfl
            ⟨_, 0, C.sz, n, hs, rfl, by omega, hc2, by simp⟩ (fun k' hk' => by cases hk')
        · cases hr
      · cases hr
    · rename_i n e k g hd
      have hu := ht.und
      rw [hd] at hu
      split at hr
      · rename_i ss hs
        split at hr
        · rename_i C n' l hg
          split at hr
          · rename_i hc
            obtain ⟨rfl, hc1, hc2⟩ := hc
            obtain ⟨hi, hr⟩ := chk_some hr
            have hi := inB_iff hi
            obtain ⟨base, sz, cnt, b, o', e1, e2, e3, e4, e5⟩ := hp
            have e1' := e1
            rw [hs] at e1'
            simp [shp, hg] at e1'
            obtain ⟨q1, q2, q3⟩ := e1'
            simp only [Nat.zero_mul, Nat.add_zero] at e5
            exact wp0 (run_ix ho (hx.trans e5) hy (run_indexAt_arr hu (esz_ok hE hc1) hi w)) h hr rfl
              ⟨base, sz, cnt, b, o', e1, e2, by omega, e4, by rw [← q2]; simp⟩ (fun k' hk' => by cases hk'; exact hown k rfl)
          · cases hr
        · cases hr
      · cases hr
    · rename_i e k hd
      have hu := ht.und
      rw [hd] at hu
      split at hr
      · rename_i C l hs
        split at hr
        · rename_i hc
          obtain ⟨hc1, hc2⟩ := hc
          obtain ⟨hi, hr⟩ := chk_some hr
          have hi := inB_iff hi
          have hv := alias_val h hp (hown k rfl)
          rw [hs] at hv
          rcases hv with ⟨_, _, rfl⟩ | ⟨b, o2, cap, cur, e', fr, q4, q5, q6, q7, q8, q9, q11, q12⟩
          · simp at hi; omega
          · exact wp0 (run_ix ho (hx.trans q5) hy (run_indexAt_sl hu (esz_ok hE hc1) hi w)) h hr rfl
              ⟨0, C.sz, l.length, b, o2, by rw [hs]; rfl, q4, by omega, hc2, by simp⟩ (fun k' hk' => by cases hk'; exact hown k rfl)
        · cases hr
      · cases hr
    · rename_i e k g off len hd
      have hu := ht.und
      rw [hd] at hu
      split at hr
      · rename_i base' sz cnt' hs
        split at hr
        · rename_i hc
          obtain ⟨hc1, hc2⟩ := hc
          obtain ⟨hi, hr⟩ := chk_some hr
          have hi := inB_iff hi
          obtain ⟨base, sz', cnt, e1, e2, e3⟩ := hp
          rw [hs] at e1; cases e1
          rcases e3 with ⟨_, _, rfl⟩ | ⟨b, o2, o3, cap, q1, q2, q3, q4, q5, q6⟩
          · simp at hi; omega
          · have q4 := q4.resolve_left (by intro e0; subst e0; simp at hi; omega)
            exact wp0 (run_ix ho (hx.trans q2) hy (run_indexAt_sl hu (esz_ok hE hc1) hi w)) h hr rfl
              ⟨base', sz, cnt', b, o2, hs, q1, by omega, hc2, by rw [q4, Nat.add_mul]; simp [Nat.add_assoc]⟩ (fun k' hk' => by cases hk'; exact hown k rfl)
        · cases hr
      · cases hr
    · rename_i e C l hd
      have hu := ht.und
      rw [hd] at hu
      split at hr
      · rename_i hc
        obtain ⟨hc1, hc2⟩ := hc
        obtain ⟨hi, hr⟩ := chk_some hr
        have hi := inB_iff hi
        obtain ⟨ad, cap, q1, q2, q3⟩ := hp
        rcases q3 with rfl | ⟨b, o2, cur, e', fr, rfl, q5, q6, q7⟩
        · simp at hi; omega
        · exact wp0 (run_ix ho (hx.trans q1) hy (run_indexAt_sl hu (esz_ok hE hc1) hi w)) h hr rfl
            ⟨b, o2, cur, e', fr, by omega, hc2, by simp, q5, q6, q7⟩ (fun k' hk' => by cases hk')
      · cases hr
    · cases hr

theorem run_fieldAt {P : Program} {t : TypeId} {fs : Array Field} {f : Nat} {fd : Field} {sz : Nat} (hu : P.underlying t = some (.struct fs)) (hf : fs[f]? = some fd) (hs : ∀ w : World, (Go.sizeOf fd.type).run P w = .ok sz w) (hz : sz ≠ 0) {b off : Nat} (w : World) :
    (Instr.fieldAt t (.pointer (some ⟨b, off, none⟩)) f).run P w = .ok (.pointer (some ⟨b, off + fd.offset, none⟩)) w := by
  simp [Instr.fieldAt, run_underlying hu, hf, Instr.sureAddr, fieldPlace, hs, hz, add_lit]
theorem run_fa {t : TypeId} {x : Operand} {f : Nat} (ho : o.op = .fieldAddr t x f) {v z : Value} (hx : a.eval x = v) (hl : (Instr.fieldAt t v f).run X.P w = .ok z w) : (execOp a.eval o).run X.P w = .ok (.value z) w := by
  simp [execOp, ho, hx, hl]
theorem evFieldAddr_ok {t : TypeId} {x : Operand} {p : PV} {v : Value} {f : Nat} (hE : EnvOk X E) (h : Sim X w0 S a w loc) (ho : o.op = .fieldAddr t x f) (hx : a.eval x = v)
    (hp : Rep X w S a.tmps loc (fun _ => none) p v) (hown : ∀ k, p.ref = some k → (get S k).owns = true) (hr : evFieldAddr E S t p f (fun q => fin o.dst K q S) = some r) : o.wp X.P a w (Post X w0 K r) Q := by
  unfold evFieldAddr at hr
  cases hti : E.T t with
  | none => rw [hti] at hr; cases hr
  | some ti =>
    rw [hti] at hr
    have ht := hE.T t ti hti
    dsimp only at hr
    split at hr
    · rename_i fs hd
      have hu := ht.und
      rw [hd] at hu
      split at hr
      · cases hr
      · rename_i fd hf
        cases htf : E.T fd.type with
        | none => rw [htf] at hr; cases hr
        | some tf =>
          rw [htf] at hr
          dsimp only at hr
          split at hr
          · cases hr
          · rename_i hz
            have hsz : ∀ w : World, (Go.sizeOf fd.type).run X.P w = .ok tf.size w := fun w => sizeOf_run (hE.T _ _ htf) w
            split at hr
            · rename_i k
              split at hr
              · rename_i ss hs
                split at hr
                · rename_i sg hsf
                  split at hr
                  · rename_i hoff
                    obtain ⟨hoff, hk1, hk2⟩ := hoff
                    have hv := alias_val h hp (hown k rfl)
                    rw [hs] at hv
                    obtain ⟨b, cur, e', fr, g1, g2, g3, g4, g5, g6, g7⟩ := hv
                    exact wp0 (run_fa ho (hx.trans g2) (run_fieldAt hu hf hsz hz w)) h hr rfl ⟨_, _, _, b, 0, by rw [hs, shp_obj, hsf]; rfl, g1, hk2, hk1, by simp [hoff]⟩ (fun k' hk' => by cases hk'; exact hown k rfl)
                  · cases hr
                · cases hr
              · cases hr
            · rename_i k g idx
              split at hr
              · rename_i fs' l hs
                split at hr
                · rename_i hoff
                  obtain ⟨hoff, hfl, rfl⟩ := hoff
                  obtain ⟨base, sz, cnt, b, o', e1, e2, e3, e4, e5⟩ := hp
                  simp only [Nat.add_zero] at e5
                  have e1' := e1
                  rw [hs] at e1'
                  simp only [shp, Option.some.injEq, Prod.mk.injEq] at e1'
                  refine wp0 (run_fa ho (hx.trans e5) (run_fieldAt hu hf hsz hz w)) h hr rfl ⟨base, sz, cnt, b, o', e1, e2, e3, ?_, by rw [hoff]⟩ (fun k' hk' => by cases hk'; exact hown k rfl)
                  rw [← e1'.2.1]; exact hfl
                · cases hr
              · cases hr
            · rename_i fs' l idx
              split at hr
              · rename_i hoff
                obtain ⟨hoff, hfl⟩ := hoff
                obtain ⟨b, o', cur, e', fr, e1, e2, e3, e4, e5, e6⟩ := hp
                simp only [Nat.add_zero] at e3
                exact wp0 (run_fa ho (hx.trans e3) (run_fieldAt hu hf hsz hz w)) h hr rfl ⟨b, o', cur, e', fr, e1, hfl, by rw [hoff], e4, e5, e6⟩ (fun k' hk' => by cases hk')
              · cases hr
            · rename_i g s idx
              obtain ⟨ss, base, sz, cnt, e0, e1, e3, e4, e5⟩ := hp
              rw [hE.G, e0] at hr
              dsimp only at hr
              split at hr
              · rename_i fs' n l hsg
                split at hr
                · rename_i hoff
                  obtain ⟨hoff, hfl⟩ := hoff
                  simp only [Nat.add_zero] at e5
                  have e1' := e1
                  rw [shp_obj, hsg] at e1'
                  simp only [Option.map_some, Option.some.injEq, Prod.mk.injEq, Seg.kind] at e1'
                  refine wp0 (run_fa ho (hx.trans e5) (run_fieldAt hu hf hsz hz w)) h hr rfl ⟨ss, base, sz, cnt, e0, e1, e3, ?_, by rw [hoff]⟩ (fun k' hk' => by cases hk')
                  rw [← e1'.2.1]; exact hfl
                · cases hr
              · cases hr
            · cases hr
    · cases hr
end
end Go.Px
