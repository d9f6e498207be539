/- SHA-256, plain: words of 32 bits. -/
import Derived.Test.YtgmfjbbhdnfapaaDoorPxA
import Derived.Test.YtgmfjbbhdnfapaaDoorPxC
import Derived.KernelRfl
set_option linter.unusedVariables false
set_option linter.unusedSimpArgs false
namespace Go.Px.Pu
open Go Go.Px

abbrev W := BitVec 32
def rotr (x : W) (n : Nat) : W := x >>> n ||| x <<< (32 - n)
def sg0 (x : W) : W := rotr x 7 ^^^ rotr x 18 ^^^ x >>> 3
def sg1 (x : W) : W := rotr x 17 ^^^ rotr x 19 ^^^ x >>> 10
def bs0 (x : W) : W := rotr x 2 ^^^ rotr x 13 ^^^ rotr x 22
def bs1 (x : W) : W := rotr x 6 ^^^ rotr x 11 ^^^ rotr x 25
def chW (e f g : W) : W := (e &&& f) ^^^ (~~~ e &&& g)
def majW (a b c : W) : W := (a &&& b) ^^^ (a &&& c) ^^^ (b &&& c)
/-- the next word of the row -/
def wNext (l : List W) : W := l.getD (l.length - 16) 0 + sg0 (l.getD (l.length - 15) 0) + l.getD (l.length - 7) 0 + sg1 (l.getD (l.length - 2) 0)
def sched : Nat → List W → List W
  | 0, l => l
  | n + 1, l => sched n (l ++ [wNext l])
def word (p : List Int) (i : Nat) : W := BitVec.ofInt 32 (p.getD (4 * i) 0) <<< 24 ||| BitVec.ofInt 32 (p.getD (4 * i + 1) 0) <<< 16 ||| BitVec.ofInt 32 (p.getD (4 * i + 2) 0) <<< 8 ||| BitVec.ofInt 32 (p.getD (4 * i + 3) 0)
def words (p : List Int) : List W := (List.range 16).map (word p)
abbrev V8 := W × W × W × W × W × W × W × W
def rnd (k w : W) : V8 → V8
  | (a, b, c, d, e, f, g, h) =>
    let t := h + bs1 e + chW e f g + k + w
    (t + bs0 a + majW a b c, a, b, c, d + t, e, f, g)
def rounds : List (W × W) → V8 → V8
  | [], v => v
  | (k, w) :: r, v => rounds r (rnd k w v)
def V8.add : V8 → V8 → V8
  | (a, b, c, d, e, f, g, h), (a', b', c', d', e', f', g', h') => (a + a', b + b', c + c', d + d', e + e', f + f', g + g', h + h')
def V8.list : V8 → List W
  | (a, b, c, d, e, f, g, h) => [a, b, c, d, e, f, g, h]
def kW : List W := gv_dparts.map (BitVec.ofInt 32)
def iv : V8 := (0x6a09e667#32, 0xbb67ae85#32, 0x3c6ef372#32, 0xa54ff53a#32, 0x510e527f#32, 0x9b05688c#32, 0x1f83d9ab#32, 0x5be0cd19#32)
def blockW (v : V8) (p : List Int) : V8 := v.add (rounds (kW.zip (sched 48 (words p))) v)
def blocksW : Nat → V8 → List Int → V8
  | 0, v, _ => v
  | n + 1, v, q => blocksW n (blockW v (q.take 64)) (q.drop 64)
/-- how many noughts stand behind 128 -/
def padN (n : Nat) : Nat := (119 - n % 64) % 64
def lenB (n : Nat) : List Int := [56, 48, 40, 32, 24, 16, 8, 0].map fun up => ((n * 8 / 2 ^ up % 256 : Nat) : Int)
def padded (p : List Int) : List Int := p ++ [128] ++ List.replicate (padN p.length) 0 ++ lenB p.length
def outB (w : W) : List Int := [24, 16, 8, 0].map fun s => ((w.toNat / 2 ^ s % 256 : Nat) : Int)
def sha (p : List Int) : List Int := (blocksW ((padded p).length / 64) iv (padded p)).list.flatMap outB
theorem sha_abc : sha [97, 98, 99] = [186, 120, 22, 191, 143, 1, 207, 234, 65, 65, 64, 222, 93, 174, 34, 35, 176, 3, 97, 163, 150, 23, 122, 156, 180, 16, 255, 97, 242, 0, 21, 173] := by kernel_rfl
end Go.Px.Pu
