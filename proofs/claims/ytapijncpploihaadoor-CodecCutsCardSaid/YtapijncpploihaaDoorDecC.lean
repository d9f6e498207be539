/- codec.Decode: its contract. -/
import Derived.Test.YtapijncpploihaaDoorDecW2
import Derived.Test.YtapijncpploihaaDoorDecD
import Derived.Test.YtapijncpploihaaDoorPxC
set_option linter.unusedVariables false
set_option linter.unusedSimpArgs false
namespace Go.Px.CodC
open Go Go.RowKit Go.Proofs Go.Px Go.Px.Pu
theorem decode_calls {P : List Int} (hb : bys P) (hlen : P.length ≤ 140737488351232) (w : World) (hG : GW w) {v : Value} (h : BySl w w.heap.size P v) : Calls Tryd.prog 22 #[v] w (DecPost w (decO P)) := by
  obtain ⟨a, cap, rfl, h1, h2⟩ := h.open
  by_cases hP : P = []
  · subst hP; exact decode_empty a cap w
  · obtain ⟨b, o, rfl, -, -⟩ := h2 hP
    exact decode_full hb hlen (List.length_pos_iff.2 hP) b o cap w hG h h1
/-- its contract -/
theorem decode_ok : FunOk Tryd.prog codd.glob 22 (mkFun [.own (.sc (.int .u8))] (.tup [.own HC, .sc (.int .i64)]) codec_Decode) := by
  refine con_ok (pa := [.own (.sc (.int .u8))]) (pr := .tup [.own HC, .sc (.int .i64)]) codec_Decode fun x y hy w vs hG hsz ha => ?_
  obtain ⟨P, ⟨⟩⟩ := x
  obtain ⟨v0, hv0, hr0⟩ := ha 0 _ rfl
  have hvs : vs = #[v0] := by
    apply Array.ext_getElem?
    intro i
    match i with
    | 0 => rw [hv0]; rfl
    | i + 1 => rw [Array.getElem?_eq_none (by rw [hsz]; exact Nat.le_add_left 1 i), Array.getElem?_eq_none (by simp)]
  subst hvs
  have hr0 : BySl w w.heap.size P v0 := hr0
  unfold codec_Decode at hy
  split at hy
  · rename_i hc
    cases hy
    refine (decode_calls (bys_all.1 hc.1) hc.2 w hG hr0).mono ?_
    rintro e w' ⟨v, rfl, hb, ℓ, h1, h2⟩
    refine ⟨_, rfl, hb, (fun j => if j = 0 then ℓ else none), ?_, ?_, ?_, _, rfl, rfl, fun j d hd => ?_⟩
    · intro j b o hj
      dsimp only at hj
      split at hj
      · refine ⟨?_, h1 b o hj⟩
        rcases h2 with ⟨rfl, _⟩ | ⟨b', o', _, _, _, _, rfl, _, hm, _⟩
        · cases hj
        · cases hj; exact hm
      · cases hj
    · intro j j' b o o' hj hj'
      dsimp only at hj hj'
      split at hj
      · split at hj'
        · omega
        · cases hj'
      · cases hj
    · intro h; cases h
    · match j with
      | 0 => cases hd; exact ⟨_, rfl, h2⟩
      | 1 => cases hd; exact ⟨_, rfl, rfl⟩
      | j + 2 => cases hd
  · cases hy
end Go.Px.CodC
