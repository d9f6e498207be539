import Derived.Test.YtapijncpploihaaDoorSh
import Derived.Test.YtapijncpploihaaDoorPx16
import Derived.Test.YtapijncpploihaaDoorPx23
import Derived.Test.YtapijncpploihaaDoorPx21
import Derived.Test.YtapijncpploihaaDoorPx24
import Derived.Test.YtapijncpploihaaDoorProg
import Derived.KernelRfl
set_option linter.unusedVariables false
set_option linter.unusedSimpArgs false
set_option maxRecDepth 100000
namespace Go.Px.cod
open Go Go.Proofs Go.Px
def globL : List (Nat × List Seg) := [(0, [.arr (.sc (.int .u8)) 256 gvFirst]), (1, [.arr (.strc [(.int .u8), (.int .u8)]) 16 gvAccept])]
def glob : Nat → Option (List Seg) := assoc globL
theorem glob_ok {w : World} (h : AllP (GEnt w) globL) : GOk ⟨Tryd.prog, w.heap.size, glob, noM⟩ w := gok_of h
def tyT : List (Nat × TI) := [(2, .sc (.int .i64) 8),
  (3, .sc (.int .i64) 8),
  (4, .sc .bool 1),
  (5, .sc (.int .u8) 1),
  (9, .sc .str 16),
  (12, .sc (.int .u64) 8),
  (22, .sl 5),
  (25, .sc (.int .i64) 8),
  (31, .sc (.int .u16) 2),
  (34, .st (.struct #[{ name := "Kind", type := 5, offset := 0, embedded := false, tag := "", pkgPath := "", byteOffset := 0 }, { name := "N", type := 2, offset := 1, embedded := false, tag := "", pkgPath := "", byteOffset := 8 }, { name := "S", type := 9, offset := 2, embedded := false, tag := "", pkgPath := "", byteOffset := 16 }]) [(.int .u8), (.int .i64), .str] 32),
  (39, .sl 34),
  (82, .ar (.sc (.int .u8)) 256 5 256),
  (84, .st (.struct #[{ name := "lo", type := 5, offset := 0, embedded := false, tag := "", pkgPath := "unicode/utf8", byteOffset := 0 }, { name := "hi", type := 5, offset := 1, embedded := false, tag := "", pkgPath := "unicode/utf8", byteOffset := 1 }]) [(.int .u8), (.int .u8)] 2),
  (85, .ar (.strc [(.int .u8), (.int .u8)]) 16 84 32),
  (87, .sc (.int .u64) 8),
  (92, .ar (.sc (.int .u8)) 8 5 8)]
theorem tyT_ok : AllP (fun x => TOk Tryd.prog x.1 x.2) tyT := ⟨tok_sc (.int .i64) 8 (by kernel_rfl) (by kernel_rfl),
  tok_sc (.int .i64) 8 (by kernel_rfl) (by kernel_rfl),
  tok_sc .bool 1 (by kernel_rfl) (by kernel_rfl),
  tok_sc (.int .u8) 1 (by kernel_rfl) (by kernel_rfl),
  tok_sc .str 16 (by kernel_rfl) (by kernel_rfl),
  tok_sc (.int .u64) 8 (by kernel_rfl) (by kernel_rfl),
  tok_sl 5 (by kernel_rfl) (by kernel_rfl),
  tok_sc (.int .i64) 8 (by kernel_rfl) (by kernel_rfl),
  tok_sc (.int .u16) 2 (by kernel_rfl) (by kernel_rfl),
  tok_st (by kernel_rfl) (by kernel_rfl) ⟨_, rfl⟩ (by kernel_rfl) (by kernel_rfl),
  tok_sl 34 (by kernel_rfl) (by kernel_rfl),
  tok_ar (C := (.sc (.int .u8))) (n := 256) (e := 5) (b := 256) (by kernel_rfl) (by kernel_rfl) (by kernel_rfl) (by kernel_rfl),
  tok_st (by kernel_rfl) (by kernel_rfl) ⟨_, rfl⟩ (by kernel_rfl) (by kernel_rfl),
  tok_ar (C := (.strc [(.int .u8), (.int .u8)])) (n := 16) (e := 84) (b := 32) (by kernel_rfl) (by kernel_rfl) (by kernel_rfl) (by kernel_rfl),
  tok_sc (.int .u64) 8 (by kernel_rfl) (by kernel_rfl),
  tok_ar (C := (.sc (.int .u8))) (n := 8) (e := 5) (b := 8) (by kernel_rfl) (by kernel_rfl) (by kernel_rfl) (by kernel_rfl), trivial⟩
theorem mixed_ok : Tryd.prog.follows .mixedOrders = true := by kernel_rfl
/-! muniment/codec.Base -/
abbrev pa12 : List DP := [.own (.sc (.int .u8))]
abbrev pr12 : RP := (.one (.sc .str))
def fun12 (f : dpα pa12 → Option pr12.α) : Fun := mkFun pa12 pr12 f
abbrev pi12_2 : List IP := [.junk, .junk, .junk, .own (.sc (.int .u8)), .sc (.int .i64), .sc (.int .i64), .junk, .junk, .ros (.sc (.int .u8)), .sc (.int .i64), .sc (.int .i64), .junk, .junk, .junk, .junk, .junk, .junk, .junk, .junk, .junk, .junk, .junk, .junk, .junk, .junk, .junk, .junk, .junk, .junk, .junk, .junk, .junk, .junk, .junk, .junk, .junk, .junk, .junk, .junk, .junk, .junk, .junk, .junk, .junk, .junk, .junk, .junk, .junk, .junk, .junk, .junk, .junk]
abbrev px12_2 : List IP := [.junk, .junk, .junk, .own (.sc (.int .u8)), .sc (.int .i64), .sc (.int .i64), .junk, .junk, .ros (.sc (.int .u8)), .sc (.int .i64), .sc (.int .i64), .junk, .junk, .junk, .junk, .junk, .junk, .junk, .junk, .junk, .junk, .junk, .junk, .junk, .junk, .junk, .junk, .junk, .junk, .junk, .junk, .junk, .junk, .junk, .junk, .junk, .junk, .junk, .junk, .junk, .junk, .junk, .junk, .junk, .junk, .junk, .junk, .junk, .junk, .junk, .junk, .junk]
abbrev pi12_0 : List IP := [.junk, .junk, .junk, .own (.sc (.int .u8)), .sc (.int .i64), .sc (.int .i64), .junk, .junk, .ros (.sc (.int .u8)), .sc (.int .i64), .sc (.int .i64), .junk, .junk, .junk, .junk, .junk, .junk, .junk, .junk, .junk, .junk, .junk, .junk, .junk, .junk, .junk, .junk, .junk, .junk, .junk, .junk, .junk, .junk, .junk, .junk, .junk, .junk, .junk, .junk, .junk, .junk, .junk, .junk, .junk, .junk, .junk, .junk, .junk, .junk, .junk, .junk, .junk]
abbrev px12_0 : List IP := [.junk, .junk, .junk, .own (.sc (.int .u8)), .sc (.int .i64), .sc (.int .i64), .junk, .junk, .junk, .junk, .junk, .junk, .junk, .junk, .junk, .junk, .junk, .junk, .junk, .junk, .junk, .junk, .junk, .junk, .junk, .junk, .junk, .junk, .junk, .junk, .junk, .junk, .junk, .junk, .junk, .junk, .junk, .junk, .junk, .junk, .junk, .junk, .junk, .junk, .junk, .junk, .junk, .junk, .junk, .junk, .junk, .junk]
def gam12 : List (Nat × Fun) := []
def rgam12 : List (Nat × FunR) := []
def lam12 (l2 : ipα pi12_2 → (ipα px12_2 → Option pr12.α) → Option pr12.α) (l0 : ipα pi12_0 → (ipα px12_0 → Option pr12.α) → Option pr12.α) : List (Nat × LoopC pr12.α) := [(2, mkLoop pi12_2 px12_2 l2), (0, mkLoop pi12_0 px12_0 l0)]
def env12 (l2 : ipα pi12_2 → (ipα px12_2 → Option pr12.α) → Option pr12.α) (l0 : ipα pi12_0 → (ipα px12_0 → Option pr12.α) → Option pr12.α) : Env pr12.α := mkEnv pr12.α tyT gam12 rgam12 glob (lam12 l2 l0)
theorem env12_ok {X : Cx} (hP : X.P = Tryd.prog) (hG : X.G = glob) : EnvOk X (env12 codec_Base.l2 codec_Base.l0) := envOk_of hP hG mixed_ok tyT_ok trivial trivial
theorem st12_2 (l2 : ipα pi12_2 → (ipα px12_2 → Option pr12.α) → Option pr12.α) (l0 : ipα pi12_0 → (ipα px12_0 → Option pr12.α) → Option pr12.α) : ∀ s kx κ, codec_Base.s2b kx s κ = ev (env12 l2 l0) (innerOf 2 (bodyOf Tryd.f12)) (ipInj pi12_2 s) (roundK pi12_2 px12_2 2 (endK (env12 l2 l0) Tryd.f12.results.toList pr12 .ret) kx κ) := by
  intro s kx κ; kernel_rfl
theorem lo12_2 {X : Cx} {w0 : World} (hP : X.P = Tryd.prog) (hG : X.G = glob) : LoopOk X w0 (mkLoop pi12_2 px12_2 codec_Base.l2) (.loop (innerOf 2 (bodyOf Tryd.f12))) 2 (endK (env12 codec_Base.l2 codec_Base.l0) Tryd.f12.results.toList pr12 .ret) :=
  loop_ok (env12_ok hP hG) (by kernel_rfl) (by kernel_rfl) codec_Base.s2 codec_Base.n2 (fun _ _ => rfl) (loopsOk_of [] (by kernel_rfl) trivial) (st12_2 codec_Base.l2 codec_Base.l0 )
theorem st12_0 (l2 : ipα pi12_2 → (ipα px12_2 → Option pr12.α) → Option pr12.α) (l0 : ipα pi12_0 → (ipα px12_0 → Option pr12.α) → Option pr12.α) : ∀ s kx κ, codec_Base.s0b l2 kx s κ = ev (env12 l2 l0) (innerOf 0 (bodyOf Tryd.f12)) (ipInj pi12_0 s) (roundK pi12_0 px12_0 0 (endK (env12 l2 l0) Tryd.f12.results.toList pr12 .ret) kx κ) := by
  intro s kx κ; kernel_rfl
theorem lo12_0 {X : Cx} {w0 : World} (hP : X.P = Tryd.prog) (hG : X.G = glob) : LoopOk X w0 (mkLoop pi12_0 px12_0 codec_Base.l0) (.loop (innerOf 0 (bodyOf Tryd.f12))) 0 (endK (env12 codec_Base.l2 codec_Base.l0) Tryd.f12.results.toList pr12 .ret) :=
  loop_ok (env12_ok hP hG) (by kernel_rfl) (by kernel_rfl) codec_Base.s0 codec_Base.n0 (fun _ _ => rfl) (loopsOk_of [(2, .loop (innerOf 2 (bodyOf Tryd.f12)))] (by kernel_rfl) ⟨⟨_, by kernel_rfl, lo12_2 hP hG⟩, trivial⟩) (st12_0 codec_Base.l2 codec_Base.l0 )
theorem ev12 (l2 : ipα pi12_2 → (ipα px12_2 → Option pr12.α) → Option pr12.α) (l0 : ipα pi12_0 → (ipα px12_0 → Option pr12.α) → Option pr12.α) : ∀ x, codec_Base.b l0 x = ev (env12 l2 l0) (bodyOf Tryd.f12) (start pa12 (Tryd.f12.ntmps - pa12.length) x) (endK (env12 l2 l0) Tryd.f12.results.toList pr12) := by
  intro x; kernel_rfl
theorem fun12_ok : FunOk Tryd.prog glob 12 (fun12 codec_Base) :=
  fun_ok (pa := pa12) (pr := pr12) codec_Base (env12 codec_Base.l2 codec_Base.l0) Tryd.func12 (by kernel_rfl) (fun X hP hG => env12_ok hP hG) (fun X w0 hP hG => loopsOk_of [(0, .loop (innerOf 0 (bodyOf Tryd.f12)))] (by kernel_rfl) ⟨⟨_, by kernel_rfl, lo12_0 hP hG⟩, trivial⟩) (ev12 codec_Base.l2 codec_Base.l0 )
/-! unicode/utf8.word[string] -/
abbrev pa42 : List DP := [.sc .str]
abbrev pr42 : RP := (.one (.sc (.int .u64)))
def fun42 (f : dpα pa42 → Option pr42.α) : Fun := mkFun pa42 pr42 f
def gam42 : List (Nat × Fun) := []
def rgam42 : List (Nat × FunR) := []
def lam42 : List (Nat × LoopC pr42.α) := []
def env42 : Env pr42.α := mkEnv pr42.α tyT gam42 rgam42 glob lam42
theorem env42_ok {X : Cx} (hP : X.P = Tryd.prog) (hG : X.G = glob) : EnvOk X env42 := envOk_of hP hG mixed_ok tyT_ok trivial trivial
theorem ev42 : ∀ x, unicode_utf8_word_string.b x = ev env42 (bodyOf Tryd.f42) (start pa42 (Tryd.f42.ntmps - pa42.length) x) (endK env42 Tryd.f42.results.toList pr42) := by
  intro x; kernel_rfl
theorem fun42_ok : FunOk Tryd.prog glob 42 (fun42 unicode_utf8_word_string) :=
  fun_ok (pa := pa42) (pr := pr42) unicode_utf8_word_string env42 Tryd.func42 (by kernel_rfl) (fun X hP hG => env42_ok hP hG) (fun X w0 hP hG => loopsOk_of [] (by kernel_rfl) trivial) (ev42 )
/-! unicode/utf8.ValidString -/
abbrev pa29 : List DP := [.sc .str]
abbrev pr29 : RP := (.one (.sc .bool))
def fun29 (f : dpα pa29 → Option pr29.α) : Fun := mkFun pa29 pr29 f
abbrev pi29_2 : List IP := [.sc .str, .junk, .junk, .junk, .junk, .junk, .junk, .junk, .junk, .junk, .junk, .junk, .junk, .junk, .junk, .junk, .junk, .junk, .junk, .junk, .junk, .junk, .junk, .junk, .junk, .junk, .junk, .junk, .junk, .junk, .junk, .junk, .junk, .junk, .junk, .junk, .junk, .junk, .junk, .junk, .junk, .junk, .junk, .junk, .junk, .junk, .junk, .junk, .junk, .junk, .junk, .junk, .junk, .junk, .junk, .junk, .junk, .junk, .junk, .junk, .junk, .junk, .junk, .junk, .junk, .junk, .junk, .junk, .junk, .junk, .junk, .junk, .junk, .junk, .junk, .junk, .junk, .junk, .junk, .junk, .junk, .junk, .junk, .junk, .junk, .junk, .junk, .junk, .junk, .junk, .junk, .junk, .junk, .junk, .junk, .junk, .junk, .junk, .junk, .junk, .junk, .junk, .junk, .junk, .junk, .junk, .junk, .junk, .junk, .junk, .junk, .junk, .junk, .junk, .junk, .junk, .junk, .junk, .junk, .junk, .junk, .junk, .junk, .junk, .junk, .junk, .junk, .junk, .junk, .junk, .junk, .junk, .junk, .junk, .junk, .junk, .junk, .junk, .junk, .junk, .junk, .junk, .junk, .junk, .junk, .junk, .junk, .junk, .junk, .junk, .junk, .junk, .junk, .junk, .junk, .junk, .junk, .junk, .junk, .junk, .junk, .junk, .junk, .junk, .junk, .junk, .junk, .junk, .junk]
abbrev px29_2 : List IP := [.sc .str, .junk, .junk, .junk, .junk, .junk, .junk, .junk, .junk, .junk, .junk, .junk, .junk, .junk, .junk, .junk, .junk, .junk, .junk, .junk, .junk, .junk, .junk, .junk, .junk, .junk, .junk, .junk, .junk, .junk, .junk, .junk, .junk, .junk, .junk, .junk, .junk, .junk, .junk, .junk, .junk, .junk, .junk, .junk, .junk, .junk, .junk, .junk, .junk, .junk, .junk, .junk, .junk, .junk, .junk, .junk, .junk, .junk, .junk, .junk, .junk, .junk, .junk, .junk, .junk, .junk, .junk, .junk, .junk, .junk, .junk, .junk, .junk, .junk, .junk, .junk, .junk, .junk, .junk, .junk, .junk, .junk, .junk, .junk, .junk, .junk, .junk, .junk, .junk, .junk, .junk, .junk, .junk, .junk, .junk, .junk, .junk, .junk, .junk, .junk, .junk, .junk, .junk, .junk, .junk, .junk, .junk, .junk, .junk, .junk, .junk, .junk, .junk, .junk, .junk, .junk, .junk, .junk, .junk, .junk, .junk, .junk, .junk, .junk, .junk, .junk, .junk, .junk, .junk, .junk, .junk, .junk, .junk, .junk, .junk, .junk, .junk, .junk, .junk, .junk, .junk, .junk, .junk, .junk, .junk, .junk, .junk, .junk, .junk, .junk, .junk, .junk, .junk, .junk, .junk, .junk, .junk, .junk, .junk, .junk, .junk, .junk, .junk, .junk, .junk, .junk, .junk, .junk, .junk]
abbrev pi29_0 : List IP := [.sc .str, .junk, .junk, .junk, .junk, .junk, .junk, .junk, .junk, .junk, .junk, .junk, .junk, .junk, .junk, .junk, .junk, .junk, .junk, .junk, .junk, .junk, .junk, .junk, .junk, .junk, .junk, .junk, .junk, .junk, .junk, .junk, .junk, .junk, .junk, .junk, .junk, .junk, .junk, .junk, .junk, .junk, .junk, .junk, .junk, .junk, .junk, .junk, .junk, .junk, .junk, .junk, .junk, .junk, .junk, .junk, .junk, .junk, .junk, .junk, .junk, .junk, .junk, .junk, .junk, .junk, .junk, .junk, .junk, .junk, .junk, .junk, .junk, .junk, .junk, .junk, .junk, .junk, .junk, .junk, .junk, .junk, .junk, .junk, .junk, .junk, .junk, .junk, .junk, .junk, .junk, .junk, .junk, .junk, .junk, .junk, .junk, .junk, .junk, .junk, .junk, .junk, .junk, .junk, .junk, .junk, .junk, .junk, .junk, .junk, .junk, .junk, .junk, .junk, .junk, .junk, .junk, .junk, .junk, .junk, .junk, .junk, .junk, .junk, .junk, .junk, .junk, .junk, .junk, .junk, .junk, .junk, .junk, .junk, .junk, .junk, .junk, .junk, .junk, .junk, .junk, .junk, .junk, .junk, .junk, .junk, .junk, .junk, .junk, .junk, .junk, .junk, .junk, .junk, .junk, .junk, .junk, .junk, .junk, .junk, .junk, .junk, .junk, .junk, .junk, .junk, .junk, .junk, .junk]
abbrev px29_0 : List IP := [.junk, .junk, .junk, .junk, .junk, .junk, .junk, .junk, .junk, .junk, .junk, .junk, .junk, .junk, .junk, .junk, .junk, .junk, .junk, .junk, .junk, .junk, .junk, .junk, .junk, .junk, .junk, .junk, .junk, .junk, .junk, .junk, .junk, .junk, .junk, .junk, .junk, .junk, .junk, .junk, .junk, .junk, .junk, .junk, .junk, .junk, .junk, .junk, .junk, .junk, .junk, .junk, .junk, .junk, .junk, .junk, .junk, .junk, .junk, .junk, .junk, .junk, .junk, .junk, .junk, .junk, .junk, .junk, .junk, .junk, .junk, .junk, .junk, .junk, .junk, .junk, .junk, .junk, .junk, .junk, .junk, .junk, .junk, .junk, .junk, .junk, .junk, .junk, .junk, .junk, .junk, .junk, .junk, .junk, .junk, .junk, .junk, .junk, .junk, .junk, .junk, .junk, .junk, .junk, .junk, .junk, .junk, .junk, .junk, .junk, .junk, .junk, .junk, .junk, .junk, .junk, .junk, .junk, .junk, .junk, .junk, .junk, .junk, .junk, .junk, .junk, .junk, .junk, .junk, .junk, .junk, .junk, .junk, .junk, .junk, .junk, .junk, .junk, .junk, .junk, .junk, .junk, .junk, .junk, .junk, .junk, .junk, .junk, .junk, .junk, .junk, .junk, .junk, .junk, .junk, .junk, .junk, .junk, .junk, .junk, .junk, .junk, .junk, .junk, .junk, .junk, .junk, .junk, .junk]
def gam29 (f42 : dpα pa42 → Option pr42.α) : List (Nat × Fun) := [(42, fun42 f42)]
def rgam29 (f42 : dpα pa42 → Option pr42.α) : List (Nat × FunR) := []
def lam29 (l2 : ipα pi29_2 → (ipα px29_2 → Option pr29.α) → Option pr29.α) (l0 : ipα pi29_0 → (ipα px29_0 → Option pr29.α) → Option pr29.α) : List (Nat × LoopC pr29.α) := [(2, mkLoop pi29_2 px29_2 l2), (0, mkLoop pi29_0 px29_0 l0)]
def env29 (f42 : dpα pa42 → Option pr42.α) (l2 : ipα pi29_2 → (ipα px29_2 → Option pr29.α) → Option pr29.α) (l0 : ipα pi29_0 → (ipα px29_0 → Option pr29.α) → Option pr29.α) : Env pr29.α := mkEnv pr29.α tyT (gam29 f42) (rgam29 f42) glob (lam29 l2 l0)
theorem env29_ok {X : Cx} (hP : X.P = Tryd.prog) (hG : X.G = glob) : EnvOk X (env29 unicode_utf8_word_string unicode_utf8_ValidString.l2 unicode_utf8_ValidString.l0) := envOk_of hP hG mixed_ok tyT_ok ⟨⟨fun42_ok, _, Tryd.func42, by kernel_rfl, by kernel_rfl⟩, trivial⟩ trivial
theorem st29_2 (f42 : dpα pa42 → Option pr42.α) (l2 : ipα pi29_2 → (ipα px29_2 → Option pr29.α) → Option pr29.α) (l0 : ipα pi29_0 → (ipα px29_0 → Option pr29.α) → Option pr29.α) : ∀ s kx κ, unicode_utf8_ValidString.s2b f42 kx s κ = ev (env29 f42 l2 l0) (innerOf 2 (bodyOf Tryd.f29)) (ipInj pi29_2 s) (roundK pi29_2 px29_2 2 (endK (env29 f42 l2 l0) Tryd.f29.results.toList pr29 .ret) kx κ) := by
  intro s kx κ; kernel_rfl
theorem lo29_2 {X : Cx} {w0 : World} (hP : X.P = Tryd.prog) (hG : X.G = glob) : LoopOk X w0 (mkLoop pi29_2 px29_2 unicode_utf8_ValidString.l2) (.loop (innerOf 2 (bodyOf Tryd.f29))) 2 (endK (env29 unicode_utf8_word_string unicode_utf8_ValidString.l2 unicode_utf8_ValidString.l0) Tryd.f29.results.toList pr29 .ret) :=
  loop_ok (env29_ok hP hG) (by kernel_rfl) (by kernel_rfl) unicode_utf8_ValidString.s2 unicode_utf8_ValidString.n2 (fun _ _ => rfl) (loopsOk_of [] (by kernel_rfl) trivial) (st29_2 unicode_utf8_word_string unicode_utf8_ValidString.l2 unicode_utf8_ValidString.l0 )
theorem st29_0 (f42 : dpα pa42 → Option pr42.α) (l2 : ipα pi29_2 → (ipα px29_2 → Option pr29.α) → Option pr29.α) (l0 : ipα pi29_0 → (ipα px29_0 → Option pr29.α) → Option pr29.α) : ∀ s kx κ, unicode_utf8_ValidString.s0b f42 l2 kx s κ = ev (env29 f42 l2 l0) (innerOf 0 (bodyOf Tryd.f29)) (ipInj pi29_0 s) (roundK pi29_0 px29_0 0 (endK (env29 f42 l2 l0) Tryd.f29.results.toList pr29 .ret) kx κ) := by
  intro s kx κ; kernel_rfl
theorem lo29_0 {X : Cx} {w0 : World} (hP : X.P = Tryd.prog) (hG : X.G = glob) : LoopOk X w0 (mkLoop pi29_0 px29_0 unicode_utf8_ValidString.l0) (.loop (innerOf 0 (bodyOf Tryd.f29))) 0 (endK (env29 unicode_utf8_word_string unicode_utf8_ValidString.l2 unicode_utf8_ValidString.l0) Tryd.f29.results.toList pr29 .ret) :=
  loop_ok (env29_ok hP hG) (by kernel_rfl) (by kernel_rfl) unicode_utf8_ValidString.s0 unicode_utf8_ValidString.n0 (fun _ _ => rfl) (loopsOk_of [(2, .loop (innerOf 2 (bodyOf Tryd.f29)))] (by kernel_rfl) ⟨⟨_, by kernel_rfl, lo29_2 hP hG⟩, trivial⟩) (st29_0 unicode_utf8_word_string unicode_utf8_ValidString.l2 unicode_utf8_ValidString.l0 )
theorem ev29 (f42 : dpα pa42 → Option pr42.α) (l2 : ipα pi29_2 → (ipα px29_2 → Option pr29.α) → Option pr29.α) (l0 : ipα pi29_0 → (ipα px29_0 → Option pr29.α) → Option pr29.α) : ∀ x, unicode_utf8_ValidString.b l0 x = ev (env29 f42 l2 l0) (bodyOf Tryd.f29) (start pa29 (Tryd.f29.ntmps - pa29.length) x) (endK (env29 f42 l2 l0) Tryd.f29.results.toList pr29) := by
  intro x; kernel_rfl
theorem fun29_ok : FunOk Tryd.prog glob 29 (fun29 unicode_utf8_ValidString) :=
  fun_ok (pa := pa29) (pr := pr29) unicode_utf8_ValidString (env29 unicode_utf8_word_string unicode_utf8_ValidString.l2 unicode_utf8_ValidString.l0) Tryd.func29 (by kernel_rfl) (fun X hP hG => env29_ok hP hG) (fun X w0 hP hG => loopsOk_of [(0, .loop (innerOf 0 (bodyOf Tryd.f29)))] (by kernel_rfl) ⟨⟨_, by kernel_rfl, lo29_0 hP hG⟩, trivial⟩) (ev29 unicode_utf8_word_string unicode_utf8_ValidString.l2 unicode_utf8_ValidString.l0 )
/-! muniment/codec.cast -/
abbrev pa30 : List DP := [.strc [.one (.int .u8), .one (.int .i64), .one .str]]
abbrev pr30 : RP := (.tup [.dyn, .sc .bool])
def fun30 (f : dpα pa30 → Option pr30.α) : Fun := mkFun pa30 pr30 f
def gam30 (f29 : dpα pa29 → Option pr29.α) : List (Nat × Fun) := [(29, fun29 f29)]
def rgam30 (f29 : dpα pa29 → Option pr29.α) : List (Nat × FunR) := []
def lam30 : List (Nat × LoopC pr30.α) := []
def env30 (f29 : dpα pa29 → Option pr29.α) : Env pr30.α := mkEnv pr30.α tyT (gam30 f29) (rgam30 f29) glob lam30
theorem env30_ok {X : Cx} (hP : X.P = Tryd.prog) (hG : X.G = glob) : EnvOk X (env30 unicode_utf8_ValidString) := envOk_of hP hG mixed_ok tyT_ok ⟨⟨fun29_ok, _, Tryd.func29, by kernel_rfl, by kernel_rfl⟩, trivial⟩ trivial
theorem ev30_1 : ev (env30 unicode_utf8_ValidString) (bodyOf Tryd.f30) (start pa30 (Tryd.f30.ntmps - pa30.length) (((1 : Int), (1 : Int), (⟨#[]⟩ : ByteArray), ()), ())) (endK (env30 unicode_utf8_ValidString) Tryd.f30.results.toList pr30) = some (Dyn.int 2 .i64 1, true, ()) := by kernel_rfl
theorem ev30_2 : ev (env30 unicode_utf8_ValidString) (bodyOf Tryd.f30) (start pa30 (Tryd.f30.ntmps - pa30.length) (((2 : Int), (0 : Int), (⟨#[97]⟩ : ByteArray), ()), ())) (endK (env30 unicode_utf8_ValidString) Tryd.f30.results.toList pr30) = some (Dyn.str 9 ⟨#[97]⟩, true, ()) := by kernel_rfl
theorem ev30_3 : ev (env30 unicode_utf8_ValidString) (bodyOf Tryd.f30) (start pa30 (Tryd.f30.ntmps - pa30.length) (((0 : Int), (0 : Int), (⟨#[]⟩ : ByteArray), ()), ())) (endK (env30 unicode_utf8_ValidString) Tryd.f30.results.toList pr30) = some (Dyn.nil, true, ()) := by kernel_rfl
theorem ev30 : ∀ x y, codec_cast x = some y → ev (env30 unicode_utf8_ValidString) (bodyOf Tryd.f30) (start pa30 (Tryd.f30.ntmps - pa30.length) x) (endK (env30 unicode_utf8_ValidString) Tryd.f30.results.toList pr30) = some y := by
  rintro ⟨⟨a, b, c, _⟩, _⟩ y h
  unfold codec_cast at h
  split at h
  · rename_i g
    obtain ⟨g1, g2, g3⟩ := g
    simp only at g1 g2 g3
    subst g1 g2
    rw [bytes_is g3]
    rw [← h]; exact ev30_1
  · split at h
    · rename_i g
      obtain ⟨g1, g2, g3⟩ := g
      simp only at g1 g2 g3
      subst g1 g2
      rw [bytes_is g3]
      rw [← h]; exact ev30_2
    · split at h
      · rename_i g
        obtain ⟨g1, g2, g3⟩ := g
        simp only at g1 g2 g3
        subst g1 g2
        rw [bytes_is g3]
        rw [← h]; exact ev30_3
      · cases h
theorem fun30_ok : FunOk Tryd.prog glob 30 (fun30 codec_cast) :=
  fun_ok_of (pa := pa30) (pr := pr30) codec_cast (env30 unicode_utf8_ValidString) Tryd.func30 (by kernel_rfl) (fun X hP hG => env30_ok hP hG) (fun X w0 hP hG => loopsOk_of [] (by kernel_rfl) trivial) ev30
/-! muniment/octet.Uint -/
abbrev pa43 : List DP := [.sc (.int .u64)]
abbrev pr43 : RP := (.one (.own (.sc (.int .u8))))
def fun43 (f : dpα pa43 → Option pr43.α) : Fun := mkFun pa43 pr43 f
abbrev pi43_0 : List IP := [.sc (.int .u64), .junk, .junk, .obj [.arr (.sc (.int .u8)) 8], .junk, .sc (.int .i64), .junk, .junk, .junk, .junk, .junk, .junk, .junk, .junk, .junk, .junk, .junk, .junk]
abbrev px43_0 : List IP := [.junk, .junk, .junk, .obj [.arr (.sc (.int .u8)) 8], .junk, .junk, .junk, .junk, .junk, .junk, .junk, .junk, .junk, .junk, .junk, .junk, .junk, .junk]
def gam43 : List (Nat × Fun) := []
def rgam43 : List (Nat × FunR) := []
def lam43 (l0 : ipα pi43_0 → (ipα px43_0 → Option pr43.α) → Option pr43.α) : List (Nat × LoopC pr43.α) := [(0, mkLoop pi43_0 px43_0 l0)]
def env43 (l0 : ipα pi43_0 → (ipα px43_0 → Option pr43.α) → Option pr43.α) : Env pr43.α := mkEnv pr43.α tyT gam43 rgam43 glob (lam43 l0)
theorem env43_ok {X : Cx} (hP : X.P = Tryd.prog) (hG : X.G = glob) : EnvOk X (env43 octet_Uint.l0) := envOk_of hP hG mixed_ok tyT_ok trivial trivial
theorem st43_0 (l0 : ipα pi43_0 → (ipα px43_0 → Option pr43.α) → Option pr43.α) : ∀ s kx κ, octet_Uint.s0b kx s κ = ev (env43 l0) (innerOf 0 (bodyOf Tryd.f43)) (ipInj pi43_0 s) (roundK pi43_0 px43_0 0 (endK (env43 l0) Tryd.f43.results.toList pr43 .ret) kx κ) := by
  intro s kx κ; kernel_rfl
theorem lo43_0 {X : Cx} {w0 : World} (hP : X.P = Tryd.prog) (hG : X.G = glob) : LoopOk X w0 (mkLoop pi43_0 px43_0 octet_Uint.l0) (.loop (innerOf 0 (bodyOf Tryd.f43))) 0 (endK (env43 octet_Uint.l0) Tryd.f43.results.toList pr43 .ret) :=
  loop_ok (env43_ok hP hG) (by kernel_rfl) (by kernel_rfl) octet_Uint.s0 octet_Uint.n0 (fun _ _ => rfl) (loopsOk_of [] (by kernel_rfl) trivial) (st43_0 octet_Uint.l0 )
theorem ev43 (l0 : ipα pi43_0 → (ipα px43_0 → Option pr43.α) → Option pr43.α) : ∀ x, octet_Uint.b l0 x = ev (env43 l0) (bodyOf Tryd.f43) (start pa43 (Tryd.f43.ntmps - pa43.length) x) (endK (env43 l0) Tryd.f43.results.toList pr43) := by
  intro x; kernel_rfl
theorem fun43_ok : FunOk Tryd.prog glob 43 (fun43 octet_Uint) :=
  fun_ok (pa := pa43) (pr := pr43) octet_Uint (env43 octet_Uint.l0) Tryd.func43 (by kernel_rfl) (fun X hP hG => env43_ok hP hG) (fun X w0 hP hG => loopsOk_of [(0, .loop (innerOf 0 (bodyOf Tryd.f43)))] (by kernel_rfl) ⟨⟨_, by kernel_rfl, lo43_0 hP hG⟩, trivial⟩) (ev43 octet_Uint.l0 )
/-! muniment/octet.Int -/
abbrev pa31 : List DP := [.sc (.int .i64)]
abbrev pr31 : RP := (.one (.own (.sc (.int .u8))))
def fun31 (f : dpα pa31 → Option pr31.α) : Fun := mkFun pa31 pr31 f
def gam31 (f43 : dpα pa43 → Option pr43.α) : List (Nat × Fun) := [(43, fun43 f43)]
def rgam31 (f43 : dpα pa43 → Option pr43.α) : List (Nat × FunR) := []
def lam31 : List (Nat × LoopC pr31.α) := []
def env31 (f43 : dpα pa43 → Option pr43.α) : Env pr31.α := mkEnv pr31.α tyT (gam31 f43) (rgam31 f43) glob lam31
theorem env31_ok {X : Cx} (hP : X.P = Tryd.prog) (hG : X.G = glob) : EnvOk X (env31 octet_Uint) := envOk_of hP hG mixed_ok tyT_ok ⟨⟨fun43_ok, _, Tryd.func43, by kernel_rfl, by kernel_rfl⟩, trivial⟩ trivial
theorem ev31 (f43 : dpα pa43 → Option pr43.α) : ∀ x, octet_Int.b f43 x = ev (env31 f43) (bodyOf Tryd.f31) (start pa31 (Tryd.f31.ntmps - pa31.length) x) (endK (env31 f43) Tryd.f31.results.toList pr31) := by
  intro x; kernel_rfl
theorem fun31_ok : FunOk Tryd.prog glob 31 (fun31 octet_Int) :=
  fun_ok (pa := pa31) (pr := pr31) octet_Int (env31 octet_Uint) Tryd.func31 (by kernel_rfl) (fun X hP hG => env31_ok hP hG) (fun X w0 hP hG => loopsOk_of [] (by kernel_rfl) trivial) (ev31 octet_Uint )
/-! muniment/codec.Encode -/
abbrev pa20 : List DP := [.own (.strc [(.int .u8), (.int .i64), .str])]
abbrev pr20 : RP := (.tup [.own (.sc (.int .u8)), .sc (.int .i64)])
def fun20 (f : dpα pa20 → Option pr20.α) : Fun := mkFun pa20 pr20 f
abbrev pi20_0 : List IP := [.junk, .junk, .junk, .junk, .own (.sc (.int .u8)), .junk, .junk, .junk, .junk, .junk, .junk, .junk, .junk, .junk, .junk, .junk, .junk, .junk, .junk, .junk, .junk, .junk, .ros (.strc [(.int .u8), (.int .i64), .str]), .sc (.int .i64), .sc (.int .i64), .junk, .junk, .junk, .junk, .junk, .junk, .junk, .junk, .junk, .junk, .junk, .junk, .junk, .junk, .junk, .junk, .junk, .junk, .junk, .junk, .junk, .junk, .junk, .junk, .junk, .junk, .junk, .junk, .junk, .junk, .junk, .junk, .junk, .junk, .junk, .junk, .junk, .junk, .junk, .junk, .junk, .junk, .junk, .junk, .junk, .junk, .junk, .junk, .junk, .junk, .junk, .junk, .junk, .junk, .junk, .junk]
abbrev px20_0 : List IP := [.junk, .junk, .junk, .junk, .own (.sc (.int .u8)), .junk, .junk, .junk, .junk, .junk, .junk, .junk, .junk, .junk, .junk, .junk, .junk, .junk, .junk, .junk, .junk, .junk, .junk, .junk, .junk, .junk, .junk, .junk, .junk, .junk, .junk, .junk, .junk, .junk, .junk, .junk, .junk, .junk, .junk, .junk, .junk, .junk, .junk, .junk, .junk, .junk, .junk, .junk, .junk, .junk, .junk, .junk, .junk, .junk, .junk, .junk, .junk, .junk, .junk, .junk, .junk, .junk, .junk, .junk, .junk, .junk, .junk, .junk, .junk, .junk, .junk, .junk, .junk, .junk, .junk, .junk, .junk, .junk, .junk, .junk, .junk]
def gam20 (f30 : dpα pa30 → Option pr30.α) (f31 : dpα pa31 → Option pr31.α) : List (Nat × Fun) := [(30, fun30 f30), (31, fun31 f31)]
def rgam20 (f30 : dpα pa30 → Option pr30.α) (f31 : dpα pa31 → Option pr31.α) : List (Nat × FunR) := []
def lam20 (l0 : ipα pi20_0 → (ipα px20_0 → Option pr20.α) → Option pr20.α) : List (Nat × LoopC pr20.α) := [(0, mkLoop pi20_0 px20_0 l0)]
def env20 (f30 : dpα pa30 → Option pr30.α) (f31 : dpα pa31 → Option pr31.α) (l0 : ipα pi20_0 → (ipα px20_0 → Option pr20.α) → Option pr20.α) : Env pr20.α := mkEnv pr20.α tyT (gam20 f30 f31) (rgam20 f30 f31) glob (lam20 l0)
theorem env20_ok {X : Cx} (hP : X.P = Tryd.prog) (hG : X.G = glob) : EnvOk X (env20 codec_cast octet_Int codec_Encode.l0) := envOk_of hP hG mixed_ok tyT_ok ⟨⟨fun30_ok, _, Tryd.func30, by kernel_rfl, by kernel_rfl⟩, ⟨fun31_ok, _, Tryd.func31, by kernel_rfl, by kernel_rfl⟩, trivial⟩ trivial
theorem st20_0 (f30 : dpα pa30 → Option pr30.α) (f31 : dpα pa31 → Option pr31.α) (l0 : ipα pi20_0 → (ipα px20_0 → Option pr20.α) → Option pr20.α) : ∀ s kx κ, codec_Encode.s0b f30 f31 kx s κ = ev (env20 f30 f31 l0) (innerOf 0 (bodyOf Tryd.f20)) (ipInj pi20_0 s) (roundK pi20_0 px20_0 0 (endK (env20 f30 f31 l0) Tryd.f20.results.toList pr20 .ret) kx κ) := by
  intro s kx κ; kernel_rfl
theorem lo20_0 {X : Cx} {w0 : World} (hP : X.P = Tryd.prog) (hG : X.G = glob) : LoopOk X w0 (mkLoop pi20_0 px20_0 codec_Encode.l0) (.loop (innerOf 0 (bodyOf Tryd.f20))) 0 (endK (env20 codec_cast octet_Int codec_Encode.l0) Tryd.f20.results.toList pr20 .ret) :=
  loop_ok (env20_ok hP hG) (by kernel_rfl) (by kernel_rfl) codec_Encode.s0 codec_Encode.n0 (fun _ _ => rfl) (loopsOk_of [] (by kernel_rfl) trivial) (st20_0 codec_cast octet_Int codec_Encode.l0 )
theorem ev20 (f30 : dpα pa30 → Option pr30.α) (f31 : dpα pa31 → Option pr31.α) (l0 : ipα pi20_0 → (ipα px20_0 → Option pr20.α) → Option pr20.α) : ∀ x, codec_Encode.b l0 x = ev (env20 f30 f31 l0) (bodyOf Tryd.f20) (start pa20 (Tryd.f20.ntmps - pa20.length) x) (endK (env20 f30 f31 l0) Tryd.f20.results.toList pr20) := by
  intro x; kernel_rfl
theorem fun20_ok : FunOk Tryd.prog glob 20 (fun20 codec_Encode) :=
  fun_ok (pa := pa20) (pr := pr20) codec_Encode (env20 codec_cast octet_Int codec_Encode.l0) Tryd.func20 (by kernel_rfl) (fun X hP hG => env20_ok hP hG) (fun X w0 hP hG => loopsOk_of [(0, .loop (innerOf 0 (bodyOf Tryd.f20)))] (by kernel_rfl) ⟨⟨_, by kernel_rfl, lo20_0 hP hG⟩, trivial⟩) (ev20 codec_cast octet_Int codec_Encode.l0 )
/-! muniment/munimentlaw04.awake -/
abbrev pa11 : List DP := []
abbrev pr11 : RP := (.one (.sc .bool))
def fun11 (f : dpα pa11 → Option pr11.α) : Fun := mkFun pa11 pr11 f
def gam11 (f12 : dpα pa12 → Option pr12.α) (f20 : dpα pa20 → Option pr20.α) : List (Nat × Fun) := [(12, fun12 f12), (20, fun20 f20)]
def rgam11 (f12 : dpα pa12 → Option pr12.α) (f20 : dpα pa20 → Option pr20.α) : List (Nat × FunR) := []
def lam11 : List (Nat × LoopC pr11.α) := []
def env11 (f12 : dpα pa12 → Option pr12.α) (f20 : dpα pa20 → Option pr20.α) : Env pr11.α := mkEnv pr11.α tyT (gam11 f12 f20) (rgam11 f12 f20) glob lam11
theorem env11_ok {X : Cx} (hP : X.P = Tryd.prog) (hG : X.G = glob) : EnvOk X (env11 codec_Base codec_Encode) := envOk_of hP hG mixed_ok tyT_ok ⟨⟨fun12_ok, _, Tryd.func12, by kernel_rfl, by kernel_rfl⟩, ⟨fun20_ok, _, Tryd.func20, by kernel_rfl, by kernel_rfl⟩, trivial⟩ trivial
theorem ev11 (f12 : dpα pa12 → Option pr12.α) (f20 : dpα pa20 → Option pr20.α) : ∀ x, w04_awake.b f12 f20 x = ev (env11 f12 f20) (bodyOf Tryd.f11) (start pa11 (Tryd.f11.ntmps - pa11.length) x) (endK (env11 f12 f20) Tryd.f11.results.toList pr11) := by
  intro x; kernel_rfl
theorem fun11_ok : FunOk Tryd.prog glob 11 (fun11 w04_awake) :=
  fun_ok (pa := pa11) (pr := pr11) w04_awake (env11 codec_Base codec_Encode) Tryd.func11 (by kernel_rfl) (fun X hP hG => env11_ok hP hG) (fun X w0 hP hG => loopsOk_of [] (by kernel_rfl) trivial) (ev11 codec_Base codec_Encode )
/-! muniment/codec.ReadBase -/
abbrev pa13 : List DP := [.sc .str]
abbrev pr13 : RP := (.tup [.own (.sc (.int .u8)), .sc (.int .i64)])
def fun13 (f : dpα pa13 → Option pr13.α) : Fun := mkFun pa13 pr13 f
abbrev pi13_2 : List IP := [.sc .str, .junk, .junk, .junk, .own (.sc (.int .u8)), .sc (.int .i64), .sc (.int .i64), .sc (.int .i64), .sc (.int .i64), .junk, .sc (.int .i64), .sc (.int .i64), .junk, .junk, .junk, .junk, .junk, .junk, .junk, .junk, .junk, .junk, .junk, .junk, .junk, .junk, .junk, .junk, .junk, .junk, .junk, .junk, .junk, .junk, .junk, .junk, .junk, .junk, .junk, .junk, .junk, .junk, .junk, .junk, .junk, .junk, .junk, .junk, .junk, .junk, .junk, .junk, .junk, .junk, .junk, .junk, .junk, .junk]
abbrev px13_2 : List IP := [.sc .str, .junk, .junk, .junk, .own (.sc (.int .u8)), .sc (.int .i64), .sc (.int .i64), .junk, .sc (.int .i64), .junk, .sc (.int .i64), .sc (.int .i64), .junk, .junk, .junk, .junk, .junk, .junk, .junk, .junk, .junk, .junk, .junk, .junk, .junk, .junk, .junk, .junk, .junk, .junk, .junk, .junk, .junk, .junk, .junk, .junk, .junk, .junk, .junk, .junk, .junk, .junk, .junk, .junk, .junk, .junk, .junk, .junk, .junk, .junk, .junk, .junk, .junk, .junk, .junk, .junk, .junk, .junk]
abbrev pi13_0 : List IP := [.sc .str, .junk, .junk, .junk, .own (.sc (.int .u8)), .sc (.int .i64), .sc (.int .i64), .junk, .junk, .junk, .sc (.int .i64), .sc (.int .i64), .junk, .junk, .junk, .junk, .junk, .junk, .junk, .junk, .junk, .junk, .junk, .junk, .junk, .junk, .junk, .junk, .junk, .junk, .junk, .junk, .junk, .junk, .junk, .junk, .junk, .junk, .junk, .junk, .junk, .junk, .junk, .junk, .junk, .junk, .junk, .junk, .junk, .junk, .junk, .junk, .junk, .junk, .junk, .junk, .junk, .junk]
abbrev px13_0 : List IP := [.junk, .junk, .junk, .junk, .own (.sc (.int .u8)), .sc (.int .i64), .sc (.int .i64), .junk, .junk, .junk, .junk, .junk, .junk, .junk, .junk, .junk, .junk, .junk, .junk, .junk, .junk, .junk, .junk, .junk, .junk, .junk, .junk, .junk, .junk, .junk, .junk, .junk, .junk, .junk, .junk, .junk, .junk, .junk, .junk, .junk, .junk, .junk, .junk, .junk, .junk, .junk, .junk, .junk, .junk, .junk, .junk, .junk, .junk, .junk, .junk, .junk, .junk, .junk]
def gam13 : List (Nat × Fun) := []
def rgam13 : List (Nat × FunR) := []
def lam13 (l2 : ipα pi13_2 → (ipα px13_2 → Option pr13.α) → Option pr13.α) (l0 : ipα pi13_0 → (ipα px13_0 → Option pr13.α) → Option pr13.α) : List (Nat × LoopC pr13.α) := [(2, mkLoop pi13_2 px13_2 l2), (0, mkLoop pi13_0 px13_0 l0)]
def env13 (l2 : ipα pi13_2 → (ipα px13_2 → Option pr13.α) → Option pr13.α) (l0 : ipα pi13_0 → (ipα px13_0 → Option pr13.α) → Option pr13.α) : Env pr13.α := mkEnv pr13.α tyT gam13 rgam13 glob (lam13 l2 l0)
theorem env13_ok {X : Cx} (hP : X.P = Tryd.prog) (hG : X.G = glob) : EnvOk X (env13 codec_ReadBase.l2 codec_ReadBase.l0) := envOk_of hP hG mixed_ok tyT_ok trivial trivial
theorem st13_2 (l2 : ipα pi13_2 → (ipα px13_2 → Option pr13.α) → Option pr13.α) (l0 : ipα pi13_0 → (ipα px13_0 → Option pr13.α) → Option pr13.α) : ∀ s kx κ, codec_ReadBase.s2b kx s κ = ev (env13 l2 l0) (innerOf 2 (bodyOf Tryd.f13)) (ipInj pi13_2 s) (roundK pi13_2 px13_2 2 (endK (env13 l2 l0) Tryd.f13.results.toList pr13 .ret) kx κ) := by
  intro s kx κ; kernel_rfl
theorem lo13_2 {X : Cx} {w0 : World} (hP : X.P = Tryd.prog) (hG : X.G = glob) : LoopOk X w0 (mkLoop pi13_2 px13_2 codec_ReadBase.l2) (.loop (innerOf 2 (bodyOf Tryd.f13))) 2 (endK (env13 codec_ReadBase.l2 codec_ReadBase.l0) Tryd.f13.results.toList pr13 .ret) :=
  loop_ok (env13_ok hP hG) (by kernel_rfl) (by kernel_rfl) codec_ReadBase.s2 codec_ReadBase.n2 (fun _ _ => rfl) (loopsOk_of [] (by kernel_rfl) trivial) (st13_2 codec_ReadBase.l2 codec_ReadBase.l0 )
theorem st13_0 (l2 : ipα pi13_2 → (ipα px13_2 → Option pr13.α) → Option pr13.α) (l0 : ipα pi13_0 → (ipα px13_0 → Option pr13.α) → Option pr13.α) : ∀ s kx κ, codec_ReadBase.s0b l2 kx s κ = ev (env13 l2 l0) (innerOf 0 (bodyOf Tryd.f13)) (ipInj pi13_0 s) (roundK pi13_0 px13_0 0 (endK (env13 l2 l0) Tryd.f13.results.toList pr13 .ret) kx κ) := by
  intro s kx κ; kernel_rfl
theorem lo13_0 {X : Cx} {w0 : World} (hP : X.P = Tryd.prog) (hG : X.G = glob) : LoopOk X w0 (mkLoop pi13_0 px13_0 codec_ReadBase.l0) (.loop (innerOf 0 (bodyOf Tryd.f13))) 0 (endK (env13 codec_ReadBase.l2 codec_ReadBase.l0) Tryd.f13.results.toList pr13 .ret) :=
  loop_ok (env13_ok hP hG) (by kernel_rfl) (by kernel_rfl) codec_ReadBase.s0 codec_ReadBase.n0 (fun _ _ => rfl) (loopsOk_of [(2, .loop (innerOf 2 (bodyOf Tryd.f13)))] (by kernel_rfl) ⟨⟨_, by kernel_rfl, lo13_2 hP hG⟩, trivial⟩) (st13_0 codec_ReadBase.l2 codec_ReadBase.l0 )
theorem ev13 (l2 : ipα pi13_2 → (ipα px13_2 → Option pr13.α) → Option pr13.α) (l0 : ipα pi13_0 → (ipα px13_0 → Option pr13.α) → Option pr13.α) : ∀ x, codec_ReadBase.b l0 x = ev (env13 l2 l0) (bodyOf Tryd.f13) (start pa13 (Tryd.f13.ntmps - pa13.length) x) (endK (env13 l2 l0) Tryd.f13.results.toList pr13) := by
  intro x; kernel_rfl
theorem fun13_ok : FunOk Tryd.prog glob 13 (fun13 codec_ReadBase) :=
  fun_ok (pa := pa13) (pr := pr13) codec_ReadBase (env13 codec_ReadBase.l2 codec_ReadBase.l0) Tryd.func13 (by kernel_rfl) (fun X hP hG => env13_ok hP hG) (fun X w0 hP hG => loopsOk_of [(0, .loop (innerOf 0 (bodyOf Tryd.f13)))] (by kernel_rfl) ⟨⟨_, by kernel_rfl, lo13_0 hP hG⟩, trivial⟩) (ev13 codec_ReadBase.l2 codec_ReadBase.l0 )
/-! muniment/munimentref04.sign -/
abbrev pa28 : List DP := [.sc (.int .i64)]
abbrev pr28 : RP := (.one (.sc (.int .u8)))
def fun28 (f : dpα pa28 → Option pr28.α) : Fun := mkFun pa28 pr28 f
def gam28 : List (Nat × Fun) := []
def rgam28 : List (Nat × FunR) := []
def lam28 : List (Nat × LoopC pr28.α) := []
def env28 : Env pr28.α := mkEnv pr28.α tyT gam28 rgam28 glob lam28
theorem env28_ok {X : Cx} (hP : X.P = Tryd.prog) (hG : X.G = glob) : EnvOk X env28 := envOk_of hP hG mixed_ok tyT_ok trivial trivial
theorem ev28 : ∀ x, r04_sign.b x = ev env28 (bodyOf Tryd.f28) (start pa28 (Tryd.f28.ntmps - pa28.length) x) (endK env28 Tryd.f28.results.toList pr28) := by
  intro x; kernel_rfl
theorem fun28_ok : FunOk Tryd.prog glob 28 (fun28 r04_sign) :=
  fun_ok (pa := pa28) (pr := pr28) r04_sign env28 Tryd.func28 (by kernel_rfl) (fun X hP hG => env28_ok hP hG) (fun X w0 hP hG => loopsOk_of [] (by kernel_rfl) trivial) (ev28 )
/-! muniment/munimentref04.Base -/
abbrev pa15 : List DP := [.own (.sc (.int .u8))]
abbrev pr15 : RP := (.one (.sc .str))
def fun15 (f : dpα pa15 → Option pr15.α) : Fun := mkFun pa15 pr15 f
abbrev pi15_2 : List IP := [.ros (.sc (.int .u8)), .junk, .junk, .own (.sc (.int .u8)), .sc (.int .i64), .sc (.int .i64), .sc (.int .i64), .junk, .junk, .junk, .junk, .junk, .junk, .junk, .junk, .junk, .junk, .junk, .junk, .junk, .junk, .junk, .junk, .junk, .junk, .junk, .junk, .junk, .junk, .junk, .junk, .junk, .junk, .junk, .junk, .junk, .junk, .junk, .junk, .junk, .junk, .junk, .junk, .junk, .junk, .junk, .junk, .junk, .junk, .junk, .junk]
abbrev px15_2 : List IP := [.ros (.sc (.int .u8)), .junk, .junk, .own (.sc (.int .u8)), .sc (.int .i64), .sc (.int .i64), .junk, .junk, .junk, .junk, .junk, .junk, .junk, .junk, .junk, .junk, .junk, .junk, .junk, .junk, .junk, .junk, .junk, .junk, .junk, .junk, .junk, .junk, .junk, .junk, .junk, .junk, .junk, .junk, .junk, .junk, .junk, .junk, .junk, .junk, .junk, .junk, .junk, .junk, .junk, .junk, .junk, .junk, .junk, .junk, .junk]
abbrev pi15_0 : List IP := [.ros (.sc (.int .u8)), .junk, .junk, .own (.sc (.int .u8)), .sc (.int .i64), .junk, .junk, .junk, .junk, .junk, .junk, .junk, .junk, .junk, .junk, .junk, .junk, .junk, .junk, .junk, .junk, .junk, .junk, .junk, .junk, .junk, .junk, .junk, .junk, .junk, .junk, .junk, .junk, .junk, .junk, .junk, .junk, .junk, .junk, .junk, .junk, .junk, .junk, .junk, .junk, .junk, .junk, .junk, .junk, .junk, .junk]
abbrev px15_0 : List IP := [.junk, .junk, .junk, .own (.sc (.int .u8)), .junk, .junk, .junk, .junk, .junk, .junk, .junk, .junk, .junk, .junk, .junk, .junk, .junk, .junk, .junk, .junk, .junk, .junk, .junk, .junk, .junk, .junk, .junk, .junk, .junk, .junk, .junk, .junk, .junk, .junk, .junk, .junk, .junk, .junk, .junk, .junk, .junk, .junk, .junk, .junk, .junk, .junk, .junk, .junk, .junk, .junk, .junk]
def gam15 (f28 : dpα pa28 → Option pr28.α) : List (Nat × Fun) := [(28, fun28 f28)]
def rgam15 (f28 : dpα pa28 → Option pr28.α) : List (Nat × FunR) := []
def lam15 (l2 : ipα pi15_2 → (ipα px15_2 → Option pr15.α) → Option pr15.α) (l0 : ipα pi15_0 → (ipα px15_0 → Option pr15.α) → Option pr15.α) : List (Nat × LoopC pr15.α) := [(2, mkLoop pi15_2 px15_2 l2), (0, mkLoop pi15_0 px15_0 l0)]
def env15 (f28 : dpα pa28 → Option pr28.α) (l2 : ipα pi15_2 → (ipα px15_2 → Option pr15.α) → Option pr15.α) (l0 : ipα pi15_0 → (ipα px15_0 → Option pr15.α) → Option pr15.α) : Env pr15.α := mkEnv pr15.α tyT (gam15 f28) (rgam15 f28) glob (lam15 l2 l0)
theorem env15_ok {X : Cx} (hP : X.P = Tryd.prog) (hG : X.G = glob) : EnvOk X (env15 r04_sign r04_Base.l2 r04_Base.l0) := envOk_of hP hG mixed_ok tyT_ok ⟨⟨fun28_ok, _, Tryd.func28, by kernel_rfl, by kernel_rfl⟩, trivial⟩ trivial
theorem st15_2 (f28 : dpα pa28 → Option pr28.α) (l2 : ipα pi15_2 → (ipα px15_2 → Option pr15.α) → Option pr15.α) (l0 : ipα pi15_0 → (ipα px15_0 → Option pr15.α) → Option pr15.α) : ∀ s kx κ, r04_Base.s2b kx s κ = ev (env15 f28 l2 l0) (innerOf 2 (bodyOf Tryd.f15)) (ipInj pi15_2 s) (roundK pi15_2 px15_2 2 (endK (env15 f28 l2 l0) Tryd.f15.results.toList pr15 .ret) kx κ) := by
  intro s kx κ; kernel_rfl
theorem lo15_2 {X : Cx} {w0 : World} (hP : X.P = Tryd.prog) (hG : X.G = glob) : LoopOk X w0 (mkLoop pi15_2 px15_2 r04_Base.l2) (.loop (innerOf 2 (bodyOf Tryd.f15))) 2 (endK (env15 r04_sign r04_Base.l2 r04_Base.l0) Tryd.f15.results.toList pr15 .ret) :=
  loop_ok (env15_ok hP hG) (by kernel_rfl) (by kernel_rfl) r04_Base.s2 r04_Base.n2 (fun _ _ => rfl) (loopsOk_of [] (by kernel_rfl) trivial) (st15_2 r04_sign r04_Base.l2 r04_Base.l0 )
theorem st15_0 (f28 : dpα pa28 → Option pr28.α) (l2 : ipα pi15_2 → (ipα px15_2 → Option pr15.α) → Option pr15.α) (l0 : ipα pi15_0 → (ipα px15_0 → Option pr15.α) → Option pr15.α) : ∀ s kx κ, r04_Base.s0b f28 l2 kx s κ = ev (env15 f28 l2 l0) (innerOf 0 (bodyOf Tryd.f15)) (ipInj pi15_0 s) (roundK pi15_0 px15_0 0 (endK (env15 f28 l2 l0) Tryd.f15.results.toList pr15 .ret) kx κ) := by
  intro s kx κ; kernel_rfl
theorem lo15_0 {X : Cx} {w0 : World} (hP : X.P = Tryd.prog) (hG : X.G = glob) : LoopOk X w0 (mkLoop pi15_0 px15_0 r04_Base.l0) (.loop (innerOf 0 (bodyOf Tryd.f15))) 0 (endK (env15 r04_sign r04_Base.l2 r04_Base.l0) Tryd.f15.results.toList pr15 .ret) :=
  loop_ok (env15_ok hP hG) (by kernel_rfl) (by kernel_rfl) r04_Base.s0 r04_Base.n0 (fun _ _ => rfl) (loopsOk_of [(2, .loop (innerOf 2 (bodyOf Tryd.f15)))] (by kernel_rfl) ⟨⟨_, by kernel_rfl, lo15_2 hP hG⟩, trivial⟩) (st15_0 r04_sign r04_Base.l2 r04_Base.l0 )
theorem ev15 (f28 : dpα pa28 → Option pr28.α) (l2 : ipα pi15_2 → (ipα px15_2 → Option pr15.α) → Option pr15.α) (l0 : ipα pi15_0 → (ipα px15_0 → Option pr15.α) → Option pr15.α) : ∀ x, r04_Base.b l0 x = ev (env15 f28 l2 l0) (bodyOf Tryd.f15) (start pa15 (Tryd.f15.ntmps - pa15.length) x) (endK (env15 f28 l2 l0) Tryd.f15.results.toList pr15) := by
  intro x; kernel_rfl
theorem fun15_ok : FunOk Tryd.prog glob 15 (fun15 r04_Base) :=
  fun_ok (pa := pa15) (pr := pr15) r04_Base (env15 r04_sign r04_Base.l2 r04_Base.l0) Tryd.func15 (by kernel_rfl) (fun X hP hG => env15_ok hP hG) (fun X w0 hP hG => loopsOk_of [(0, .loop (innerOf 0 (bodyOf Tryd.f15)))] (by kernel_rfl) ⟨⟨_, by kernel_rfl, lo15_0 hP hG⟩, trivial⟩) (ev15 r04_sign r04_Base.l2 r04_Base.l0 )
/-! muniment/munimentref04.ReadBase -/
abbrev pa14 : List DP := [.sc .str]
abbrev pr14 : RP := (.tup [.own (.sc (.int .u8)), .sc (.int .i64)])
def fun14 (f : dpα pa14 → Option pr14.α) : Fun := mkFun pa14 pr14 f
abbrev pi14_2 : List IP := [.sc .str, .junk, .junk, .junk, .own (.sc (.int .u8)), .sc (.int .i64), .sc (.int .i64), .sc (.int .i64), .junk, .junk, .junk, .junk, .junk, .junk, .junk, .junk, .junk, .junk, .junk, .junk, .junk, .junk, .junk, .junk, .junk, .junk, .junk, .junk, .junk, .junk, .junk, .junk, .junk, .junk, .junk, .junk, .junk, .junk, .junk, .junk, .junk, .junk, .junk, .junk, .junk, .junk, .junk, .junk, .junk, .junk, .junk, .junk, .junk, .junk, .junk, .junk, .junk, .junk, .junk, .junk, .junk, .junk, .junk, .junk, .junk, .junk, .junk, .junk, .junk, .junk, .junk, .junk, .junk]
abbrev px14_2 : List IP := [.sc .str, .junk, .junk, .junk, .own (.sc (.int .u8)), .sc (.int .i64), .sc (.int .i64), .junk, .junk, .junk, .junk, .junk, .junk, .junk, .junk, .junk, .junk, .junk, .junk, .junk, .junk, .junk, .junk, .junk, .junk, .junk, .junk, .junk, .junk, .junk, .junk, .junk, .junk, .junk, .junk, .junk, .junk, .junk, .junk, .junk, .junk, .junk, .junk, .junk, .junk, .junk, .junk, .junk, .junk, .junk, .junk, .junk, .junk, .junk, .junk, .junk, .junk, .junk, .junk, .junk, .junk, .junk, .junk, .junk, .junk, .junk, .junk, .junk, .junk, .junk, .junk, .junk, .junk]
abbrev pi14_4 : List IP := [.sc .str, .junk, .junk, .junk, .own (.sc (.int .u8)), .sc (.int .i64), .sc (.int .i64), .junk, .sc (.int .i64), .junk, .junk, .junk, .junk, .junk, .junk, .junk, .junk, .junk, .junk, .junk, .junk, .junk, .junk, .junk, .junk, .junk, .junk, .junk, .junk, .junk, .junk, .junk, .junk, .junk, .junk, .junk, .junk, .junk, .junk, .junk, .junk, .junk, .junk, .junk, .junk, .junk, .junk, .junk, .junk, .junk, .junk, .junk, .junk, .junk, .junk, .junk, .junk, .junk, .junk, .junk, .junk, .junk, .junk, .junk, .junk, .junk, .junk, .junk, .junk, .junk, .junk, .junk, .junk]
abbrev px14_4 : List IP := [.sc .str, .junk, .junk, .junk, .own (.sc (.int .u8)), .sc (.int .i64), .junk, .junk, .junk, .junk, .junk, .junk, .junk, .junk, .junk, .junk, .junk, .junk, .junk, .junk, .junk, .junk, .junk, .junk, .junk, .junk, .junk, .junk, .junk, .junk, .junk, .junk, .junk, .junk, .junk, .junk, .junk, .junk, .junk, .junk, .junk, .junk, .junk, .junk, .junk, .junk, .junk, .junk, .junk, .junk, .junk, .junk, .junk, .junk, .junk, .junk, .junk, .junk, .junk, .junk, .junk, .junk, .junk, .junk, .junk, .junk, .junk, .junk, .junk, .junk, .junk, .junk, .junk]
abbrev pi14_0 : List IP := [.sc .str, .junk, .junk, .junk, .own (.sc (.int .u8)), .sc (.int .i64), .junk, .junk, .junk, .junk, .junk, .junk, .junk, .junk, .junk, .junk, .junk, .junk, .junk, .junk, .junk, .junk, .junk, .junk, .junk, .junk, .junk, .junk, .junk, .junk, .junk, .junk, .junk, .junk, .junk, .junk, .junk, .junk, .junk, .junk, .junk, .junk, .junk, .junk, .junk, .junk, .junk, .junk, .junk, .junk, .junk, .junk, .junk, .junk, .junk, .junk, .junk, .junk, .junk, .junk, .junk, .junk, .junk, .junk, .junk, .junk, .junk, .junk, .junk, .junk, .junk, .junk, .junk]
abbrev px14_0 : List IP := [.sc .str, .junk, .junk, .junk, .own (.sc (.int .u8)), .junk, .junk, .junk, .junk, .junk, .junk, .junk, .junk, .junk, .junk, .junk, .junk, .junk, .junk, .junk, .junk, .junk, .junk, .junk, .junk, .junk, .junk, .junk, .junk, .junk, .junk, .junk, .junk, .junk, .junk, .junk, .junk, .junk, .junk, .junk, .junk, .junk, .junk, .junk, .junk, .junk, .junk, .junk, .junk, .junk, .junk, .junk, .junk, .junk, .junk, .junk, .junk, .junk, .junk, .junk, .junk, .junk, .junk, .junk, .junk, .junk, .junk, .junk, .junk, .junk, .junk, .junk, .junk]
abbrev pi14_8 : List IP := [.sc .str, .junk, .junk, .junk, .own (.sc (.int .u8)), .junk, .junk, .junk, .junk, .own (.sc (.int .u8)), .sc (.int .i64), .sc (.int .u8), .sc (.int .i64), .junk, .junk, .junk, .junk, .junk, .junk, .junk, .junk, .junk, .junk, .junk, .junk, .junk, .junk, .junk, .junk, .junk, .junk, .junk, .junk, .junk, .junk, .junk, .junk, .junk, .junk, .junk, .junk, .junk, .junk, .junk, .junk, .junk, .junk, .junk, .junk, .junk, .junk, .junk, .junk, .junk, .junk, .junk, .junk, .junk, .junk, .junk, .junk, .junk, .junk, .junk, .junk, .junk, .junk, .junk, .junk, .junk, .junk, .junk, .junk]
abbrev px14_8 : List IP := [.sc .str, .junk, .junk, .junk, .own (.sc (.int .u8)), .junk, .junk, .junk, .junk, .own (.sc (.int .u8)), .sc (.int .i64), .sc (.int .u8), .junk, .junk, .junk, .junk, .junk, .junk, .junk, .junk, .junk, .junk, .junk, .junk, .junk, .junk, .junk, .junk, .junk, .junk, .junk, .junk, .junk, .junk, .junk, .junk, .junk, .junk, .junk, .junk, .junk, .junk, .junk, .junk, .junk, .junk, .junk, .junk, .junk, .junk, .junk, .junk, .junk, .junk, .junk, .junk, .junk, .junk, .junk, .junk, .junk, .junk, .junk, .junk, .junk, .junk, .junk, .junk, .junk, .junk, .junk, .junk, .junk]
abbrev pi14_6 : List IP := [.sc .str, .junk, .junk, .junk, .own (.sc (.int .u8)), .junk, .junk, .junk, .junk, .own (.sc (.int .u8)), .sc (.int .i64), .junk, .junk, .junk, .junk, .junk, .junk, .junk, .junk, .junk, .junk, .junk, .junk, .junk, .junk, .junk, .junk, .junk, .junk, .junk, .junk, .junk, .junk, .junk, .junk, .junk, .junk, .junk, .junk, .junk, .junk, .junk, .junk, .junk, .junk, .junk, .junk, .junk, .junk, .junk, .junk, .junk, .junk, .junk, .junk, .junk, .junk, .junk, .junk, .junk, .junk, .junk, .junk, .junk, .junk, .junk, .junk, .junk, .junk, .junk, .junk, .junk, .junk]
abbrev px14_6 : List IP := [.sc .str, .junk, .junk, .junk, .junk, .junk, .junk, .junk, .junk, .own (.sc (.int .u8)), .junk, .junk, .junk, .junk, .junk, .junk, .junk, .junk, .junk, .junk, .junk, .junk, .junk, .junk, .junk, .junk, .junk, .junk, .junk, .junk, .junk, .junk, .junk, .junk, .junk, .junk, .junk, .junk, .junk, .junk, .junk, .junk, .junk, .junk, .junk, .junk, .junk, .junk, .junk, .junk, .junk, .junk, .junk, .junk, .junk, .junk, .junk, .junk, .junk, .junk, .junk, .junk, .junk, .junk, .junk, .junk, .junk, .junk, .junk, .junk, .junk, .junk, .junk]
def gam14 (f15 : dpα pa15 → Option pr15.α) (f28 : dpα pa28 → Option pr28.α) : List (Nat × Fun) := [(15, fun15 f15), (28, fun28 f28)]
def rgam14 (f15 : dpα pa15 → Option pr15.α) (f28 : dpα pa28 → Option pr28.α) : List (Nat × FunR) := []
def lam14 (l2 : ipα pi14_2 → (ipα px14_2 → Option pr14.α) → Option pr14.α) (l4 : ipα pi14_4 → (ipα px14_4 → Option pr14.α) → Option pr14.α) (l0 : ipα pi14_0 → (ipα px14_0 → Option pr14.α) → Option pr14.α) (l8 : ipα pi14_8 → (ipα px14_8 → Option pr14.α) → Option pr14.α) (l6 : ipα pi14_6 → (ipα px14_6 → Option pr14.α) → Option pr14.α) : List (Nat × LoopC pr14.α) := [(2, mkLoop pi14_2 px14_2 l2), (4, mkLoop pi14_4 px14_4 l4), (0, mkLoop pi14_0 px14_0 l0), (8, mkLoop pi14_8 px14_8 l8), (6, mkLoop pi14_6 px14_6 l6)]
def env14 (f15 : dpα pa15 → Option pr15.α) (f28 : dpα pa28 → Option pr28.α) (l2 : ipα pi14_2 → (ipα px14_2 → Option pr14.α) → Option pr14.α) (l4 : ipα pi14_4 → (ipα px14_4 → Option pr14.α) → Option pr14.α) (l0 : ipα pi14_0 → (ipα px14_0 → Option pr14.α) → Option pr14.α) (l8 : ipα pi14_8 → (ipα px14_8 → Option pr14.α) → Option pr14.α) (l6 : ipα pi14_6 → (ipα px14_6 → Option pr14.α) → Option pr14.α) : Env pr14.α := mkEnv pr14.α tyT (gam14 f15 f28) (rgam14 f15 f28) glob (lam14 l2 l4 l0 l8 l6)
theorem env14_ok {X : Cx} (hP : X.P = Tryd.prog) (hG : X.G = glob) : EnvOk X (env14 r04_Base r04_sign r04_ReadBase.l2 r04_ReadBase.l4 r04_ReadBase.l0 r04_ReadBase.l8 r04_ReadBase.l6) := envOk_of hP hG mixed_ok tyT_ok ⟨⟨fun15_ok, _, Tryd.func15, by kernel_rfl, by kernel_rfl⟩, ⟨fun28_ok, _, Tryd.func28, by kernel_rfl, by kernel_rfl⟩, trivial⟩ trivial
theorem st14_2 (f15 : dpα pa15 → Option pr15.α) (f28 : dpα pa28 → Option pr28.α) (l2 : ipα pi14_2 → (ipα px14_2 → Option pr14.α) → Option pr14.α) (l4 : ipα pi14_4 → (ipα px14_4 → Option pr14.α) → Option pr14.α) (l0 : ipα pi14_0 → (ipα px14_0 → Option pr14.α) → Option pr14.α) (l8 : ipα pi14_8 → (ipα px14_8 → Option pr14.α) → Option pr14.α) (l6 : ipα pi14_6 → (ipα px14_6 → Option pr14.α) → Option pr14.α) : ∀ s kx κ, r04_ReadBase.s2b f28 kx s κ = ev (env14 f15 f28 l2 l4 l0 l8 l6) (innerOf 2 (bodyOf Tryd.f14)) (ipInj pi14_2 s) (roundK pi14_2 px14_2 2 (endK (env14 f15 f28 l2 l4 l0 l8 l6) Tryd.f14.results.toList pr14 .ret) kx κ) := by
  intro s kx κ; kernel_rfl
theorem lo14_2 {X : Cx} {w0 : World} (hP : X.P = Tryd.prog) (hG : X.G = glob) : LoopOk X w0 (mkLoop pi14_2 px14_2 r04_ReadBase.l2) (.loop (innerOf 2 (bodyOf Tryd.f14))) 2 (endK (env14 r04_Base r04_sign r04_ReadBase.l2 r04_ReadBase.l4 r04_ReadBase.l0 r04_ReadBase.l8 r04_ReadBase.l6) Tryd.f14.results.toList pr14 .ret) :=
  loop_ok (env14_ok hP hG) (by kernel_rfl) (by kernel_rfl) r04_ReadBase.s2 r04_ReadBase.n2 (fun _ _ => rfl) (loopsOk_of [] (by kernel_rfl) trivial) (st14_2 r04_Base r04_sign r04_ReadBase.l2 r04_ReadBase.l4 r04_ReadBase.l0 r04_ReadBase.l8 r04_ReadBase.l6 )
theorem st14_4 (f15 : dpα pa15 → Option pr15.α) (f28 : dpα pa28 → Option pr28.α) (l2 : ipα pi14_2 → (ipα px14_2 → Option pr14.α) → Option pr14.α) (l4 : ipα pi14_4 → (ipα px14_4 → Option pr14.α) → Option pr14.α) (l0 : ipα pi14_0 → (ipα px14_0 → Option pr14.α) → Option pr14.α) (l8 : ipα pi14_8 → (ipα px14_8 → Option pr14.α) → Option pr14.α) (l6 : ipα pi14_6 → (ipα px14_6 → Option pr14.α) → Option pr14.α) : ∀ s kx κ, r04_ReadBase.s4b kx s κ = ev (env14 f15 f28 l2 l4 l0 l8 l6) (innerOf 4 (bodyOf Tryd.f14)) (ipInj pi14_4 s) (roundK pi14_4 px14_4 4 (endK (env14 f15 f28 l2 l4 l0 l8 l6) Tryd.f14.results.toList pr14 .ret) kx κ) := by
  intro s kx κ; kernel_rfl
theorem lo14_4 {X : Cx} {w0 : World} (hP : X.P = Tryd.prog) (hG : X.G = glob) : LoopOk X w0 (mkLoop pi14_4 px14_4 r04_ReadBase.l4) (.loop (innerOf 4 (bodyOf Tryd.f14))) 4 (endK (env14 r04_Base r04_sign r04_ReadBase.l2 r04_ReadBase.l4 r04_ReadBase.l0 r04_ReadBase.l8 r04_ReadBase.l6) Tryd.f14.results.toList pr14 .ret) :=
  loop_ok (env14_ok hP hG) (by kernel_rfl) (by kernel_rfl) r04_ReadBase.s4 r04_ReadBase.n4 (fun _ _ => rfl) (loopsOk_of [] (by kernel_rfl) trivial) (st14_4 r04_Base r04_sign r04_ReadBase.l2 r04_ReadBase.l4 r04_ReadBase.l0 r04_ReadBase.l8 r04_ReadBase.l6 )
theorem st14_0 (f15 : dpα pa15 → Option pr15.α) (f28 : dpα pa28 → Option pr28.α) (l2 : ipα pi14_2 → (ipα px14_2 → Option pr14.α) → Option pr14.α) (l4 : ipα pi14_4 → (ipα px14_4 → Option pr14.α) → Option pr14.α) (l0 : ipα pi14_0 → (ipα px14_0 → Option pr14.α) → Option pr14.α) (l8 : ipα pi14_8 → (ipα px14_8 → Option pr14.α) → Option pr14.α) (l6 : ipα pi14_6 → (ipα px14_6 → Option pr14.α) → Option pr14.α) : ∀ s kx κ, r04_ReadBase.s0b l2 l4 kx s κ = ev (env14 f15 f28 l2 l4 l0 l8 l6) (innerOf 0 (bodyOf Tryd.f14)) (ipInj pi14_0 s) (roundK pi14_0 px14_0 0 (endK (env14 f15 f28 l2 l4 l0 l8 l6) Tryd.f14.results.toList pr14 .ret) kx κ) := by
  intro s kx κ; kernel_rfl
theorem lo14_0 {X : Cx} {w0 : World} (hP : X.P = Tryd.prog) (hG : X.G = glob) : LoopOk X w0 (mkLoop pi14_0 px14_0 r04_ReadBase.l0) (.loop (innerOf 0 (bodyOf Tryd.f14))) 0 (endK (env14 r04_Base r04_sign r04_ReadBase.l2 r04_ReadBase.l4 r04_ReadBase.l0 r04_ReadBase.l8 r04_ReadBase.l6) Tryd.f14.results.toList pr14 .ret) :=
  loop_ok (env14_ok hP hG) (by kernel_rfl) (by kernel_rfl) r04_ReadBase.s0 r04_ReadBase.n0 (fun _ _ => rfl) (loopsOk_of [(2, .loop (innerOf 2 (bodyOf Tryd.f14))), (4, .loop (innerOf 4 (bodyOf Tryd.f14)))] (by kernel_rfl) ⟨⟨_, by kernel_rfl, lo14_2 hP hG⟩, ⟨_, by kernel_rfl, lo14_4 hP hG⟩, trivial⟩) (st14_0 r04_Base r04_sign r04_ReadBase.l2 r04_ReadBase.l4 r04_ReadBase.l0 r04_ReadBase.l8 r04_ReadBase.l6 )
theorem st14_8 (f15 : dpα pa15 → Option pr15.α) (f28 : dpα pa28 → Option pr28.α) (l2 : ipα pi14_2 → (ipα px14_2 → Option pr14.α) → Option pr14.α) (l4 : ipα pi14_4 → (ipα px14_4 → Option pr14.α) → Option pr14.α) (l0 : ipα pi14_0 → (ipα px14_0 → Option pr14.α) → Option pr14.α) (l8 : ipα pi14_8 → (ipα px14_8 → Option pr14.α) → Option pr14.α) (l6 : ipα pi14_6 → (ipα px14_6 → Option pr14.α) → Option pr14.α) : ∀ s kx κ, r04_ReadBase.s8b kx s κ = ev (env14 f15 f28 l2 l4 l0 l8 l6) (innerOf 8 (bodyOf Tryd.f14)) (ipInj pi14_8 s) (roundK pi14_8 px14_8 8 (endK (env14 f15 f28 l2 l4 l0 l8 l6) Tryd.f14.results.toList pr14 .ret) kx κ) := by
  intro s kx κ; kernel_rfl
theorem lo14_8 {X : Cx} {w0 : World} (hP : X.P = Tryd.prog) (hG : X.G = glob) : LoopOk X w0 (mkLoop pi14_8 px14_8 r04_ReadBase.l8) (.loop (innerOf 8 (bodyOf Tryd.f14))) 8 (endK (env14 r04_Base r04_sign r04_ReadBase.l2 r04_ReadBase.l4 r04_ReadBase.l0 r04_ReadBase.l8 r04_ReadBase.l6) Tryd.f14.results.toList pr14 .ret) :=
  loop_ok (env14_ok hP hG) (by kernel_rfl) (by kernel_rfl) r04_ReadBase.s8 r04_ReadBase.n8 (fun _ _ => rfl) (loopsOk_of [] (by kernel_rfl) trivial) (st14_8 r04_Base r04_sign r04_ReadBase.l2 r04_ReadBase.l4 r04_ReadBase.l0 r04_ReadBase.l8 r04_ReadBase.l6 )
theorem st14_6 (f15 : dpα pa15 → Option pr15.α) (f28 : dpα pa28 → Option pr28.α) (l2 : ipα pi14_2 → (ipα px14_2 → Option pr14.α) → Option pr14.α) (l4 : ipα pi14_4 → (ipα px14_4 → Option pr14.α) → Option pr14.α) (l0 : ipα pi14_0 → (ipα px14_0 → Option pr14.α) → Option pr14.α) (l8 : ipα pi14_8 → (ipα px14_8 → Option pr14.α) → Option pr14.α) (l6 : ipα pi14_6 → (ipα px14_6 → Option pr14.α) → Option pr14.α) : ∀ s kx κ, r04_ReadBase.s6b l8 kx s κ = ev (env14 f15 f28 l2 l4 l0 l8 l6) (innerOf 6 (bodyOf Tryd.f14)) (ipInj pi14_6 s) (roundK pi14_6 px14_6 6 (endK (env14 f15 f28 l2 l4 l0 l8 l6) Tryd.f14.results.toList pr14 .ret) kx κ) := by
  intro s kx κ; kernel_rfl
theorem lo14_6 {X : Cx} {w0 : World} (hP : X.P = Tryd.prog) (hG : X.G = glob) : LoopOk X w0 (mkLoop pi14_6 px14_6 r04_ReadBase.l6) (.loop (innerOf 6 (bodyOf Tryd.f14))) 6 (endK (env14 r04_Base r04_sign r04_ReadBase.l2 r04_ReadBase.l4 r04_ReadBase.l0 r04_ReadBase.l8 r04_ReadBase.l6) Tryd.f14.results.toList pr14 .ret) :=
  loop_ok (env14_ok hP hG) (by kernel_rfl) (by kernel_rfl) r04_ReadBase.s6 r04_ReadBase.n6 (fun _ _ => rfl) (loopsOk_of [(8, .loop (innerOf 8 (bodyOf Tryd.f14)))] (by kernel_rfl) ⟨⟨_, by kernel_rfl, lo14_8 hP hG⟩, trivial⟩) (st14_6 r04_Base r04_sign r04_ReadBase.l2 r04_ReadBase.l4 r04_ReadBase.l0 r04_ReadBase.l8 r04_ReadBase.l6 )
theorem ev14 (f15 : dpα pa15 → Option pr15.α) (f28 : dpα pa28 → Option pr28.α) (l2 : ipα pi14_2 → (ipα px14_2 → Option pr14.α) → Option pr14.α) (l4 : ipα pi14_4 → (ipα px14_4 → Option pr14.α) → Option pr14.α) (l0 : ipα pi14_0 → (ipα px14_0 → Option pr14.α) → Option pr14.α) (l8 : ipα pi14_8 → (ipα px14_8 → Option pr14.α) → Option pr14.α) (l6 : ipα pi14_6 → (ipα px14_6 → Option pr14.α) → Option pr14.α) : ∀ x, r04_ReadBase.b f15 l0 l6 x = ev (env14 f15 f28 l2 l4 l0 l8 l6) (bodyOf Tryd.f14) (start pa14 (Tryd.f14.ntmps - pa14.length) x) (endK (env14 f15 f28 l2 l4 l0 l8 l6) Tryd.f14.results.toList pr14) := by
  intro x; kernel_rfl
theorem fun14_ok : FunOk Tryd.prog glob 14 (fun14 r04_ReadBase) :=
  fun_ok (pa := pa14) (pr := pr14) r04_ReadBase (env14 r04_Base r04_sign r04_ReadBase.l2 r04_ReadBase.l4 r04_ReadBase.l0 r04_ReadBase.l8 r04_ReadBase.l6) Tryd.func14 (by kernel_rfl) (fun X hP hG => env14_ok hP hG) (fun X w0 hP hG => loopsOk_of [(0, .loop (innerOf 0 (bodyOf Tryd.f14))), (6, .loop (innerOf 6 (bodyOf Tryd.f14)))] (by kernel_rfl) ⟨⟨_, by kernel_rfl, lo14_0 hP hG⟩, ⟨_, by kernel_rfl, lo14_6 hP hG⟩, trivial⟩) (ev14 r04_Base r04_sign r04_ReadBase.l2 r04_ReadBase.l4 r04_ReadBase.l0 r04_ReadBase.l8 r04_ReadBase.l6 )
/-! muniment/munimentlaw04.CodecBases -/
abbrev pa3 : List DP := [.own (.sc (.int .u8)), .sc .str]
abbrev pr3 : RP := (.one (.sc .bool))
def fun3 (f : dpα pa3 → Option pr3.α) : Fun := mkFun pa3 pr3 f
def gam3 (f11 : dpα pa11 → Option pr11.α) (f12 : dpα pa12 → Option pr12.α) (f13 : dpα pa13 → Option pr13.α) (f14 : dpα pa14 → Option pr14.α) (f15 : dpα pa15 → Option pr15.α) : List (Nat × Fun) := [(11, fun11 f11), (12, fun12 f12), (13, fun13 f13), (14, fun14 f14), (15, fun15 f15)]
def rgam3 (f11 : dpα pa11 → Option pr11.α) (f12 : dpα pa12 → Option pr12.α) (f13 : dpα pa13 → Option pr13.α) (f14 : dpα pa14 → Option pr14.α) (f15 : dpα pa15 → Option pr15.α) : List (Nat × FunR) := []
def lam3 : List (Nat × LoopC pr3.α) := []
def env3 (f11 : dpα pa11 → Option pr11.α) (f12 : dpα pa12 → Option pr12.α) (f13 : dpα pa13 → Option pr13.α) (f14 : dpα pa14 → Option pr14.α) (f15 : dpα pa15 → Option pr15.α) : Env pr3.α := mkEnv pr3.α tyT (gam3 f11 f12 f13 f14 f15) (rgam3 f11 f12 f13 f14 f15) glob lam3
theorem env3_ok {X : Cx} (hP : X.P = Tryd.prog) (hG : X.G = glob) : EnvOk X (env3 w04_awake codec_Base codec_ReadBase r04_ReadBase r04_Base) := envOk_of hP hG mixed_ok tyT_ok ⟨⟨fun11_ok, _, Tryd.func11, by kernel_rfl, by kernel_rfl⟩, ⟨fun12_ok, _, Tryd.func12, by kernel_rfl, by kernel_rfl⟩, ⟨fun13_ok, _, Tryd.func13, by kernel_rfl, by kernel_rfl⟩, ⟨fun14_ok, _, Tryd.func14, by kernel_rfl, by kernel_rfl⟩, ⟨fun15_ok, _, Tryd.func15, by kernel_rfl, by kernel_rfl⟩, trivial⟩ trivial
theorem ev3 (f11 : dpα pa11 → Option pr11.α) (f12 : dpα pa12 → Option pr12.α) (f13 : dpα pa13 → Option pr13.α) (f14 : dpα pa14 → Option pr14.α) (f15 : dpα pa15 → Option pr15.α) : ∀ x, w04_CodecBases.b f11 f12 f13 f14 f15 x = ev (env3 f11 f12 f13 f14 f15) (bodyOf Tryd.f3) (start pa3 (Tryd.f3.ntmps - pa3.length) x) (endK (env3 f11 f12 f13 f14 f15) Tryd.f3.results.toList pr3) := by
  intro x; kernel_rfl
theorem fun3_ok : FunOk Tryd.prog glob 3 (fun3 w04_CodecBases) :=
  fun_ok (pa := pa3) (pr := pr3) w04_CodecBases (env3 w04_awake codec_Base codec_ReadBase r04_ReadBase r04_Base) Tryd.func3 (by kernel_rfl) (fun X hP hG => env3_ok hP hG) (fun X w0 hP hG => loopsOk_of [] (by kernel_rfl) trivial) (ev3 w04_awake codec_Base codec_ReadBase r04_ReadBase r04_Base )
/-! muniment/munimentlaw04.CodecSigns -/
abbrev pa4 : List DP := [.own (.sc (.int .u8)), .sc (.int .u16), .sc (.int .u8)]
abbrev pr4 : RP := (.one (.sc .bool))
def fun4 (f : dpα pa4 → Option pr4.α) : Fun := mkFun pa4 pr4 f
def gam4 (f11 : dpα pa11 → Option pr11.α) (f12 : dpα pa12 → Option pr12.α) (f13 : dpα pa13 → Option pr13.α) : List (Nat × Fun) := [(11, fun11 f11), (12, fun12 f12), (13, fun13 f13)]
def rgam4 (f11 : dpα pa11 → Option pr11.α) (f12 : dpα pa12 → Option pr12.α) (f13 : dpα pa13 → Option pr13.α) : List (Nat × FunR) := []
def lam4 : List (Nat × LoopC pr4.α) := []
def env4 (f11 : dpα pa11 → Option pr11.α) (f12 : dpα pa12 → Option pr12.α) (f13 : dpα pa13 → Option pr13.α) : Env pr4.α := mkEnv pr4.α tyT (gam4 f11 f12 f13) (rgam4 f11 f12 f13) glob lam4
theorem env4_ok {X : Cx} (hP : X.P = Tryd.prog) (hG : X.G = glob) : EnvOk X (env4 w04_awake codec_Base codec_ReadBase) := envOk_of hP hG mixed_ok tyT_ok ⟨⟨fun11_ok, _, Tryd.func11, by kernel_rfl, by kernel_rfl⟩, ⟨fun12_ok, _, Tryd.func12, by kernel_rfl, by kernel_rfl⟩, ⟨fun13_ok, _, Tryd.func13, by kernel_rfl, by kernel_rfl⟩, trivial⟩ trivial
theorem ev4 (f11 : dpα pa11 → Option pr11.α) (f12 : dpα pa12 → Option pr12.α) (f13 : dpα pa13 → Option pr13.α) : ∀ x, w04_CodecSigns.b f11 f12 f13 x = ev (env4 f11 f12 f13) (bodyOf Tryd.f4) (start pa4 (Tryd.f4.ntmps - pa4.length) x) (endK (env4 f11 f12 f13) Tryd.f4.results.toList pr4) := by
  intro x; kernel_rfl
theorem fun4_ok : FunOk Tryd.prog glob 4 (fun4 w04_CodecSigns) :=
  fun_ok (pa := pa4) (pr := pr4) w04_CodecSigns (env4 w04_awake codec_Base codec_ReadBase) Tryd.func4 (by kernel_rfl) (fun X hP hG => env4_ok hP hG) (fun X w0 hP hG => loopsOk_of [] (by kernel_rfl) trivial) (ev4 w04_awake codec_Base codec_ReadBase )
end Go.Px.cod
