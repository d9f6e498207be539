import Derived.Test.YtapijncpploihaaDoorSh
import Derived.Test.YtapijncpploihaaDoorPxC
import Derived.Test.YtapijncpploihaaDoorProg
import Derived.KernelRfl
set_option linter.unusedVariables false
set_option linter.unusedSimpArgs false
set_option maxRecDepth 100000
namespace Go.Px.codd
open Go Go.Proofs Go.Px
def globL : List (Nat × List Seg) := [(0, [.arr (.sc (.int .u8)) 256 gvFirst]), (1, [.arr (.strc [(.int .u8), (.int .u8)]) 16 gvAccept])]
def glob : Nat → Option (List Seg) := assoc globL
theorem glob_ok {w : World} (h : AllP (GEnt w) globL) : GOk ⟨Tryd.prog, w.heap.size, glob, noM⟩ w := gok_of h
def tyT : List (Nat × TI) := [(2, .sc (.int .i64) 8),
  (3, .sc (.int .i64) 8),
  (4, .sc .bool 1),
  (5, .sc (.int .u8) 1),
  (9, .sc .str 16),
  (12, .sc (.int .u64) 8),
  (22, .sl 5),
  (25, .sc (.int .i64) 8),
  (34, .st (.struct #[{ name := "Kind", type := 5, offset := 0, embedded := false, tag := "", pkgPath := "", byteOffset := 0 }, { name := "N", type := 2, offset := 1, embedded := false, tag := "", pkgPath := "", byteOffset := 8 }, { name := "S", type := 9, offset := 2, embedded := false, tag := "", pkgPath := "", byteOffset := 16 }]) [(.int .u8), (.int .i64), .str] 32),
  (39, .sl 34),
  (82, .ar (.sc (.int .u8)) 256 5 256),
  (84, .st (.struct #[{ name := "lo", type := 5, offset := 0, embedded := false, tag := "", pkgPath := "unicode/utf8", byteOffset := 0 }, { name := "hi", type := 5, offset := 1, embedded := false, tag := "", pkgPath := "unicode/utf8", byteOffset := 1 }]) [(.int .u8), (.int .u8)] 2),
  (85, .ar (.strc [(.int .u8), (.int .u8)]) 16 84 32),
  (87, .sc (.int .u64) 8),
  (92, .ar (.sc (.int .u8)) 8 5 8)]
theorem tyT_ok : AllP (fun x => TOk Tryd.prog x.1 x.2) tyT := ⟨tok_sc (.int .i64) 8 (by kernel_rfl) (by kernel_rfl),
  tok_sc (.int .i64) 8 (by kernel_rfl) (by kernel_rfl),
  tok_sc .bool 1 (by kernel_rfl) (by kernel_rfl),
  tok_sc (.int .u8) 1 (by kernel_rfl) (by kernel_rfl),
  tok_sc .str 16 (by kernel_rfl) (by kernel_rfl),
  tok_sc (.int .u64) 8 (by kernel_rfl) (by kernel_rfl),
  tok_sl 5 (by kernel_rfl) (by kernel_rfl),
  tok_sc (.int .i64) 8 (by kernel_rfl) (by kernel_rfl),
  tok_st (by kernel_rfl) (by kernel_rfl) ⟨_, rfl⟩ (by kernel_rfl) (by kernel_rfl),
  tok_sl 34 (by kernel_rfl) (by kernel_rfl),
  tok_ar (C := (.sc (.int .u8))) (n := 256) (e := 5) (b := 256) (by kernel_rfl) (by kernel_rfl) (by kernel_rfl) (by kernel_rfl),
  tok_st (by kernel_rfl) (by kernel_rfl) ⟨_, rfl⟩ (by kernel_rfl) (by kernel_rfl),
  tok_ar (C := (.strc [(.int .u8), (.int .u8)])) (n := 16) (e := 84) (b := 32) (by kernel_rfl) (by kernel_rfl) (by kernel_rfl) (by kernel_rfl),
  tok_sc (.int .u64) 8 (by kernel_rfl) (by kernel_rfl),
  tok_ar (C := (.sc (.int .u8))) (n := 8) (e := 5) (b := 8) (by kernel_rfl) (by kernel_rfl) (by kernel_rfl) (by kernel_rfl), trivial⟩
theorem mixed_ok : Tryd.prog.follows .mixedOrders = true := by kernel_rfl
/-! muniment/codec.Base -/
abbrev pa12 : List DP := [.own (.sc (.int .u8))]
abbrev pr12 : RP := (.one (.sc .str))
def fun12 (f : dpα pa12 → Option pr12.α) : Fun := mkFun pa12 pr12 f
abbrev pi12_2 : List IP := [.junk, .junk, .junk, .own (.sc (.int .u8)), .sc (.int .i64), .sc (.int .i64), .junk, .junk, .ros (.sc (.int .u8)), .sc (.int .i64), .sc (.int .i64), .junk, .junk, .junk, .junk, .junk, .junk, .junk, .junk, .junk, .junk, .junk, .junk, .junk, .junk, .junk, .junk, .junk, .junk, .junk, .junk, .junk, .junk, .junk, .junk, .junk, .junk, .junk, .junk, .junk, .junk, .junk, .junk, .junk, .junk, .junk, .junk, .junk, .junk, .junk, .junk, .junk]
abbrev px12_2 : List IP := [.junk, .junk, .junk, .own (.sc (.int .u8)), .sc (.int .i64), .sc (.int .i64), .junk, .junk, .ros (.sc (.int .u8)), .sc (.int .i64), .sc (.int .i64), .junk, .junk, .junk, .junk, .junk, .junk, .junk, .junk, .junk, .junk, .junk, .junk, .junk, .junk, .junk, .junk, .junk, .junk, .junk, .junk, .junk, .junk, .junk, .junk, .junk, .junk, .junk, .junk, .junk, .junk, .junk, .junk, .junk, .junk, .junk, .junk, .junk, .junk, .junk, .junk, .junk]
abbrev pi12_0 : List IP := [.junk, .junk, .junk, .own (.sc (.int .u8)), .sc (.int .i64), .sc (.int .i64), .junk, .junk, .ros (.sc (.int .u8)), .sc (.int .i64), .sc (.int .i64), .junk, .junk, .junk, .junk, .junk, .junk, .junk, .junk, .junk, .junk, .junk, .junk, .junk, .junk, .junk, .junk, .junk, .junk, .junk, .junk, .junk, .junk, .junk, .junk, .junk, .junk, .junk, .junk, .junk, .junk, .junk, .junk, .junk, .junk, .junk, .junk, .junk, .junk, .junk, .junk, .junk]
abbrev px12_0 : List IP := [.junk, .junk, .junk, .own (.sc (.int .u8)), .sc (.int .i64), .sc (.int .i64), .junk, .junk, .junk, .junk, .junk, .junk, .junk, .junk, .junk, .junk, .junk, .junk, .junk, .junk, .junk, .junk, .junk, .junk, .junk, .junk, .junk, .junk, .junk, .junk, .junk, .junk, .junk, .junk, .junk, .junk, .junk, .junk, .junk, .junk, .junk, .junk, .junk, .junk, .junk, .junk, .junk, .junk, .junk, .junk, .junk, .junk]
def gam12 : List (Nat × Fun) := []
def agam12 : List (Nat × FunA) := []
def rgam12 : List (Nat × FunR) := []
def lam12 (l2 : ipα pi12_2 → (ipα px12_2 → Option pr12.α) → Option pr12.α) (l0 : ipα pi12_0 → (ipα px12_0 → Option pr12.α) → Option pr12.α) : List (Nat × LoopC pr12.α) := [(2, mkLoop pi12_2 px12_2 l2), (0, mkLoop pi12_0 px12_0 l0)]
def env12 (l2 : ipα pi12_2 → (ipα px12_2 → Option pr12.α) → Option pr12.α) (l0 : ipα pi12_0 → (ipα px12_0 → Option pr12.α) → Option pr12.α) : Env pr12.α := mkEnv pr12.α tyT gam12 rgam12 agam12 glob (lam12 l2 l0)
theorem env12_ok {X : Cx} (hP : X.P = Tryd.prog) (hG : X.G = glob) : EnvOk X (env12 codec_Base.l2 codec_Base.l0) := envOk_of hP hG mixed_ok tyT_ok trivial trivial trivial
theorem st12_2 (l2 : ipα pi12_2 → (ipα px12_2 → Option pr12.α) → Option pr12.α) (l0 : ipα pi12_0 → (ipα px12_0 → Option pr12.α) → Option pr12.α) : ∀ s kx κ, codec_Base.s2b kx s κ = ev (env12 l2 l0) (innerOf 2 (bodyOf Tryd.f12)) (ipInj pi12_2 s) (roundK pi12_2 px12_2 2 (endK (env12 l2 l0) Tryd.f12.results.toList pr12 .ret) kx κ) := by
  intro s kx κ; kernel_rfl
theorem lo12_2 {X : Cx} {w0 : World} (hP : X.P = Tryd.prog) (hG : X.G = glob) : LoopOk X w0 (mkLoop pi12_2 px12_2 codec_Base.l2) (.loop (innerOf 2 (bodyOf Tryd.f12))) 2 (endK (env12 codec_Base.l2 codec_Base.l0) Tryd.f12.results.toList pr12 .ret) :=
  loop_ok (env12_ok hP hG) (by kernel_rfl) (by kernel_rfl) codec_Base.s2 codec_Base.n2 (fun _ _ => rfl) (loopsOk_of [] (by kernel_rfl) trivial) (st12_2 codec_Base.l2 codec_Base.l0 )
theorem st12_0 (l2 : ipα pi12_2 → (ipα px12_2 → Option pr12.α) → Option pr12.α) (l0 : ipα pi12_0 → (ipα px12_0 → Option pr12.α) → Option pr12.α) : ∀ s kx κ, codec_Base.s0b l2 kx s κ = ev (env12 l2 l0) (innerOf 0 (bodyOf Tryd.f12)) (ipInj pi12_0 s) (roundK pi12_0 px12_0 0 (endK (env12 l2 l0) Tryd.f12.results.toList pr12 .ret) kx κ) := by
  intro s kx κ; kernel_rfl
theorem lo12_0 {X : Cx} {w0 : World} (hP : X.P = Tryd.prog) (hG : X.G = glob) : LoopOk X w0 (mkLoop pi12_0 px12_0 codec_Base.l0) (.loop (innerOf 0 (bodyOf Tryd.f12))) 0 (endK (env12 codec_Base.l2 codec_Base.l0) Tryd.f12.results.toList pr12 .ret) :=
  loop_ok (env12_ok hP hG) (by kernel_rfl) (by kernel_rfl) codec_Base.s0 codec_Base.n0 (fun _ _ => rfl) (loopsOk_of [(2, .loop (innerOf 2 (bodyOf Tryd.f12)))] (by kernel_rfl) ⟨⟨_, by kernel_rfl, lo12_2 hP hG⟩, trivial⟩) (st12_0 codec_Base.l2 codec_Base.l0 )
theorem ev12 (l2 : ipα pi12_2 → (ipα px12_2 → Option pr12.α) → Option pr12.α) (l0 : ipα pi12_0 → (ipα px12_0 → Option pr12.α) → Option pr12.α) : ∀ x, codec_Base.b l0 x = ev (env12 l2 l0) (bodyOf Tryd.f12) (start pa12 (Tryd.f12.ntmps - pa12.length) x) (endK (env12 l2 l0) Tryd.f12.results.toList pr12) := by
  intro x; kernel_rfl
theorem fun12_ok : FunOk Tryd.prog glob 12 (fun12 codec_Base) :=
  fun_ok (pa := pa12) (pr := pr12) codec_Base (env12 codec_Base.l2 codec_Base.l0) Tryd.func12 (by kernel_rfl) (fun X hP hG => env12_ok hP hG) (fun X w0 hP hG => loopsOk_of [(0, .loop (innerOf 0 (bodyOf Tryd.f12)))] (by kernel_rfl) ⟨⟨_, by kernel_rfl, lo12_0 hP hG⟩, trivial⟩) (ev12 codec_Base.l2 codec_Base.l0 )
/-! unicode/utf8.word[string] -/
abbrev pa42 : List DP := [.sc .str]
abbrev pr42 : RP := (.one (.sc (.int .u64)))
def fun42 (f : dpα pa42 → Option pr42.α) : Fun := mkFun pa42 pr42 f
def gam42 : List (Nat × Fun) := []
def agam42 : List (Nat × FunA) := []
def rgam42 : List (Nat × FunR) := []
def lam42 : List (Nat × LoopC pr42.α) := []
def env42 : Env pr42.α := mkEnv pr42.α tyT gam42 rgam42 agam42 glob lam42
theorem env42_ok {X : Cx} (hP : X.P = Tryd.prog) (hG : X.G = glob) : EnvOk X env42 := envOk_of hP hG mixed_ok tyT_ok trivial trivial trivial
theorem ev42 : ∀ x, unicode_utf8_word_string.b x = ev env42 (bodyOf Tryd.f42) (start pa42 (Tryd.f42.ntmps - pa42.length) x) (endK env42 Tryd.f42.results.toList pr42) := by
  intro x; kernel_rfl
theorem fun42_ok : FunOk Tryd.prog glob 42 (fun42 unicode_utf8_word_string) :=
  fun_ok (pa := pa42) (pr := pr42) unicode_utf8_word_string env42 Tryd.func42 (by kernel_rfl) (fun X hP hG => env42_ok hP hG) (fun X w0 hP hG => loopsOk_of [] (by kernel_rfl) trivial) (ev42 )
/-! unicode/utf8.ValidString -/
abbrev pa29 : List DP := [.sc .str]
abbrev pr29 : RP := (.one (.sc .bool))
def fun29 (f : dpα pa29 → Option pr29.α) : Fun := mkFun pa29 pr29 f
abbrev pi29_2 : List IP := [.sc .str, .junk, .junk, .junk, .junk, .junk, .junk, .junk, .junk, .junk, .junk, .junk, .junk, .junk, .junk, .junk, .junk, .junk, .junk, .junk, .junk, .junk, .junk, .junk, .junk, .junk, .junk, .junk, .junk, .junk, .junk, .junk, .junk, .junk, .junk, .junk, .junk, .junk, .junk, .junk, .junk, .junk, .junk, .junk, .junk, .junk, .junk, .junk, .junk, .junk, .junk, .junk, .junk, .junk, .junk, .junk, .junk, .junk, .junk, .junk, .junk, .junk, .junk, .junk, .junk, .junk, .junk, .junk, .junk, .junk, .junk, .junk, .junk, .junk, .junk, .junk, .junk, .junk, .junk, .junk, .junk, .junk, .junk, .junk, .junk, .junk, .junk, .junk, .junk, .junk, .junk, .junk, .junk, .junk, .junk, .junk, .junk, .junk, .junk, .junk, .junk, .junk, .junk, .junk, .junk, .junk, .junk, .junk, .junk, .junk, .junk, .junk, .junk, .junk, .junk, .junk, .junk, .junk, .junk, .junk, .junk, .junk, .junk, .junk, .junk, .junk, .junk, .junk, .junk, .junk, .junk, .junk, .junk, .junk, .junk, .junk, .junk, .junk, .junk, .junk, .junk, .junk, .junk, .junk, .junk, .junk, .junk, .junk, .junk, .junk, .junk, .junk, .junk, .junk, .junk, .junk, .junk, .junk, .junk, .junk, .junk, .junk, .junk, .junk, .junk, .junk, .junk, .junk, .junk]
abbrev px29_2 : List IP := [.sc .str, .junk, .junk, .junk, .junk, .junk, .junk, .junk, .junk, .junk, .junk, .junk, .junk, .junk, .junk, .junk, .junk, .junk, .junk, .junk, .junk, .junk, .junk, .junk, .junk, .junk, .junk, .junk, .junk, .junk, .junk, .junk, .junk, .junk, .junk, .junk, .junk, .junk, .junk, .junk, .junk, .junk, .junk, .junk, .junk, .junk, .junk, .junk, .junk, .junk, .junk, .junk, .junk, .junk, .junk, .junk, .junk, .junk, .junk, .junk, .junk, .junk, .junk, .junk, .junk, .junk, .junk, .junk, .junk, .junk, .junk, .junk, .junk, .junk, .junk, .junk, .junk, .junk, .junk, .junk, .junk, .junk, .junk, .junk, .junk, .junk, .junk, .junk, .junk, .junk, .junk, .junk, .junk, .junk, .junk, .junk, .junk, .junk, .junk, .junk, .junk, .junk, .junk, .junk, .junk, .junk, .junk, .junk, .junk, .junk, .junk, .junk, .junk, .junk, .junk, .junk, .junk, .junk, .junk, .junk, .junk, .junk, .junk, .junk, .junk, .junk, .junk, .junk, .junk, .junk, .junk, .junk, .junk, .junk, .junk, .junk, .junk, .junk, .junk, .junk, .junk, .junk, .junk, .junk, .junk, .junk, .junk, .junk, .junk, .junk, .junk, .junk, .junk, .junk, .junk, .junk, .junk, .junk, .junk, .junk, .junk, .junk, .junk, .junk, .junk, .junk, .junk, .junk, .junk]
abbrev pi29_0 : List IP := [.sc .str, .junk, .junk, .junk, .junk, .junk, .junk, .junk, .junk, .junk, .junk, .junk, .junk, .junk, .junk, .junk, .junk, .junk, .junk, .junk, .junk, .junk, .junk, .junk, .junk, .junk, .junk, .junk, .junk, .junk, .junk, .junk, .junk, .junk, .junk, .junk, .junk, .junk, .junk, .junk, .junk, .junk, .junk, .junk, .junk, .junk, .junk, .junk, .junk, .junk, .junk, .junk, .junk, .junk, .junk, .junk, .junk, .junk, .junk, .junk, .junk, .junk, .junk, .junk, .junk, .junk, .junk, .junk, .junk, .junk, .junk, .junk, .junk, .junk, .junk, .junk, .junk, .junk, .junk, .junk, .junk, .junk, .junk, .junk, .junk, .junk, .junk, .junk, .junk, .junk, .junk, .junk, .junk, .junk, .junk, .junk, .junk, .junk, .junk, .junk, .junk, .junk, .junk, .junk, .junk, .junk, .junk, .junk, .junk, .junk, .junk, .junk, .junk, .junk, .junk, .junk, .junk, .junk, .junk, .junk, .junk, .junk, .junk, .junk, .junk, .junk, .junk, .junk, .junk, .junk, .junk, .junk, .junk, .junk, .junk, .junk, .junk, .junk, .junk, .junk, .junk, .junk, .junk, .junk, .junk, .junk, .junk, .junk, .junk, .junk, .junk, .junk, .junk, .junk, .junk, .junk, .junk, .junk, .junk, .junk, .junk, .junk, .junk, .junk, .junk, .junk, .junk, .junk, .junk]
abbrev px29_0 : List IP := [.junk, .junk, .junk, .junk, .junk, .junk, .junk, .junk, .junk, .junk, .junk, .junk, .junk, .junk, .junk, .junk, .junk, .junk, .junk, .junk, .junk, .junk, .junk, .junk, .junk, .junk, .junk, .junk, .junk, .junk, .junk, .junk, .junk, .junk, .junk, .junk, .junk, .junk, .junk, .junk, .junk, .junk, .junk, .junk, .junk, .junk, .junk, .junk, .junk, .junk, .junk, .junk, .junk, .junk, .junk, .junk, .junk, .junk, .junk, .junk, .junk, .junk, .junk, .junk, .junk, .junk, .junk, .junk, .junk, .junk, .junk, .junk, .junk, .junk, .junk, .junk, .junk, .junk, .junk, .junk, .junk, .junk, .junk, .junk, .junk, .junk, .junk, .junk, .junk, .junk, .junk, .junk, .junk, .junk, .junk, .junk, .junk, .junk, .junk, .junk, .junk, .junk, .junk, .junk, .junk, .junk, .junk, .junk, .junk, .junk, .junk, .junk, .junk, .junk, .junk, .junk, .junk, .junk, .junk, .junk, .junk, .junk, .junk, .junk, .junk, .junk, .junk, .junk, .junk, .junk, .junk, .junk, .junk, .junk, .junk, .junk, .junk, .junk, .junk, .junk, .junk, .junk, .junk, .junk, .junk, .junk, .junk, .junk, .junk, .junk, .junk, .junk, .junk, .junk, .junk, .junk, .junk, .junk, .junk, .junk, .junk, .junk, .junk, .junk, .junk, .junk, .junk, .junk, .junk]
def gam29 (f42 : dpα pa42 → Option pr42.α) : List (Nat × Fun) := [(42, fun42 f42)]
def agam29 (f42 : dpα pa42 → Option pr42.α) : List (Nat × FunA) := []
def rgam29 (f42 : dpα pa42 → Option pr42.α) : List (Nat × FunR) := []
def lam29 (l2 : ipα pi29_2 → (ipα px29_2 → Option pr29.α) → Option pr29.α) (l0 : ipα pi29_0 → (ipα px29_0 → Option pr29.α) → Option pr29.α) : List (Nat × LoopC pr29.α) := [(2, mkLoop pi29_2 px29_2 l2), (0, mkLoop pi29_0 px29_0 l0)]
def env29 (f42 : dpα pa42 → Option pr42.α) (l2 : ipα pi29_2 → (ipα px29_2 → Option pr29.α) → Option pr29.α) (l0 : ipα pi29_0 → (ipα px29_0 → Option pr29.α) → Option pr29.α) : Env pr29.α := mkEnv pr29.α tyT (gam29 f42) (rgam29 f42) (agam29 f42) glob (lam29 l2 l0)
theorem env29_ok {X : Cx} (hP : X.P = Tryd.prog) (hG : X.G = glob) : EnvOk X (env29 unicode_utf8_word_string unicode_utf8_ValidString.l2 unicode_utf8_ValidString.l0) := envOk_of hP hG mixed_ok tyT_ok ⟨⟨fun42_ok, _, Tryd.func42, by kernel_rfl, by kernel_rfl⟩, trivial⟩ trivial trivial
theorem st29_2 (f42 : dpα pa42 → Option pr42.α) (l2 : ipα pi29_2 → (ipα px29_2 → Option pr29.α) → Option pr29.α) (l0 : ipα pi29_0 → (ipα px29_0 → Option pr29.α) → Option pr29.α) : ∀ s kx κ, unicode_utf8_ValidString.s2b f42 kx s κ = ev (env29 f42 l2 l0) (innerOf 2 (bodyOf Tryd.f29)) (ipInj pi29_2 s) (roundK pi29_2 px29_2 2 (endK (env29 f42 l2 l0) Tryd.f29.results.toList pr29 .ret) kx κ) := by
  intro s kx κ; kernel_rfl
theorem lo29_2 {X : Cx} {w0 : World} (hP : X.P = Tryd.prog) (hG : X.G = glob) : LoopOk X w0 (mkLoop pi29_2 px29_2 unicode_utf8_ValidString.l2) (.loop (innerOf 2 (bodyOf Tryd.f29))) 2 (endK (env29 unicode_utf8_word_string unicode_utf8_ValidString.l2 unicode_utf8_ValidString.l0) Tryd.f29.results.toList pr29 .ret) :=
  loop_ok (env29_ok hP hG) (by kernel_rfl) (by kernel_rfl) unicode_utf8_ValidString.s2 unicode_utf8_ValidString.n2 (fun _ _ => rfl) (loopsOk_of [] (by kernel_rfl) trivial) (st29_2 unicode_utf8_word_string unicode_utf8_ValidString.l2 unicode_utf8_ValidString.l0 )
theorem st29_0 (f42 : dpα pa42 → Option pr42.α) (l2 : ipα pi29_2 → (ipα px29_2 → Option pr29.α) → Option pr29.α) (l0 : ipα pi29_0 → (ipα px29_0 → Option pr29.α) → Option pr29.α) : ∀ s kx κ, unicode_utf8_ValidString.s0b f42 l2 kx s κ = ev (env29 f42 l2 l0) (innerOf 0 (bodyOf Tryd.f29)) (ipInj pi29_0 s) (roundK pi29_0 px29_0 0 (endK (env29 f42 l2 l0) Tryd.f29.results.toList pr29 .ret) kx κ) := by
  intro s kx κ; kernel_rfl
theorem lo29_0 {X : Cx} {w0 : World} (hP : X.P = Tryd.prog) (hG : X.G = glob) : LoopOk X w0 (mkLoop pi29_0 px29_0 unicode_utf8_ValidString.l0) (.loop (innerOf 0 (bodyOf Tryd.f29))) 0 (endK (env29 unicode_utf8_word_string unicode_utf8_ValidString.l2 unicode_utf8_ValidString.l0) Tryd.f29.results.toList pr29 .ret) :=
  loop_ok (env29_ok hP hG) (by kernel_rfl) (by kernel_rfl) unicode_utf8_ValidString.s0 unicode_utf8_ValidString.n0 (fun _ _ => rfl) (loopsOk_of [(2, .loop (innerOf 2 (bodyOf Tryd.f29)))] (by kernel_rfl) ⟨⟨_, by kernel_rfl, lo29_2 hP hG⟩, trivial⟩) (st29_0 unicode_utf8_word_string unicode_utf8_ValidString.l2 unicode_utf8_ValidString.l0 )
theorem ev29 (f42 : dpα pa42 → Option pr42.α) (l2 : ipα pi29_2 → (ipα px29_2 → Option pr29.α) → Option pr29.α) (l0 : ipα pi29_0 → (ipα px29_0 → Option pr29.α) → Option pr29.α) : ∀ x, unicode_utf8_ValidString.b l0 x = ev (env29 f42 l2 l0) (bodyOf Tryd.f29) (start pa29 (Tryd.f29.ntmps - pa29.length) x) (endK (env29 f42 l2 l0) Tryd.f29.results.toList pr29) := by
  intro x; kernel_rfl
theorem fun29_ok : FunOk Tryd.prog glob 29 (fun29 unicode_utf8_ValidString) :=
  fun_ok (pa := pa29) (pr := pr29) unicode_utf8_ValidString (env29 unicode_utf8_word_string unicode_utf8_ValidString.l2 unicode_utf8_ValidString.l0) Tryd.func29 (by kernel_rfl) (fun X hP hG => env29_ok hP hG) (fun X w0 hP hG => loopsOk_of [(0, .loop (innerOf 0 (bodyOf Tryd.f29)))] (by kernel_rfl) ⟨⟨_, by kernel_rfl, lo29_0 hP hG⟩, trivial⟩) (ev29 unicode_utf8_word_string unicode_utf8_ValidString.l2 unicode_utf8_ValidString.l0 )
/-! muniment/codec.cast -/
abbrev pa30 : List DP := [.strc [.one (.int .u8), .one (.int .i64), .one .str]]
abbrev pr30 : RP := (.tup [.dyn, .sc .bool])
def fun30 (f : dpα pa30 → Option pr30.α) : Fun := mkFun pa30 pr30 f
def gam30 (f29 : dpα pa29 → Option pr29.α) : List (Nat × Fun) := [(29, fun29 f29)]
def agam30 (f29 : dpα pa29 → Option pr29.α) : List (Nat × FunA) := []
def rgam30 (f29 : dpα pa29 → Option pr29.α) : List (Nat × FunR) := []
def lam30 : List (Nat × LoopC pr30.α) := []
def env30 (f29 : dpα pa29 → Option pr29.α) : Env pr30.α := mkEnv pr30.α tyT (gam30 f29) (rgam30 f29) (agam30 f29) glob lam30
theorem env30_ok {X : Cx} (hP : X.P = Tryd.prog) (hG : X.G = glob) : EnvOk X (env30 unicode_utf8_ValidString) := envOk_of hP hG mixed_ok tyT_ok ⟨⟨fun29_ok, _, Tryd.func29, by kernel_rfl, by kernel_rfl⟩, trivial⟩ trivial trivial
noncomputable def evc (f29 : dpα pa29 → Option pr29.α) (k n : Int) (s : ByteArray) : Option pr30.α := ev (env30 f29) (bodyOf Tryd.f30) (start pa30 (Tryd.f30.ntmps - pa30.length) ((k, n, s, ()), ())) (endK (env30 f29) Tryd.f30.results.toList pr30)
theorem evk_0 (f29 : dpα pa29 → Option pr29.α) (n : Int) (s : ByteArray) : evc f29 0 n s = cond (ieq n 0) (cond (seq s (⟨#[]⟩ : ByteArray)) (some (Dyn.nil, true, ())) (some (Dyn.nil, false, ()))) (some (Dyn.nil, false, ())) := by kernel_rfl
theorem evk_1 (f29 : dpα pa29 → Option pr29.α) (n : Int) (s : ByteArray) : evc f29 1 n s = cond (seq s (⟨#[]⟩ : ByteArray)) (some (Dyn.int 2 .i64 n, true, ())) (some (Dyn.nil, false, ())) := by kernel_rfl
theorem evk_2 (f29 : dpα pa29 → Option pr29.α) (n : Int) (s : ByteArray) : evc f29 2 n s = cond (ieq n 0) (cond (ile (s.size : Int) 60) ((f29 (s, ())).bind fun v => cond v (some (Dyn.str 9 s, true, ())) (some (Dyn.nil, false, ()))) (some (Dyn.nil, false, ()))) (some (Dyn.nil, false, ())) := by kernel_rfl
theorem evk_3 (f29 : dpα pa29 → Option pr29.α) (n : Int) (s : ByteArray) : evc f29 3 n s = cond (seq s (⟨#[]⟩ : ByteArray)) (cond (ieq n 0) (some (Dyn.bool 4 (ieq n 1), true, ())) (cond (ieq n 1) (some (Dyn.bool 4 (ieq n 1), true, ())) (some (Dyn.nil, false, ())))) (some (Dyn.nil, false, ())) := by kernel_rfl
theorem evk_4 (f29 : dpα pa29 → Option pr29.α) (n : Int) (s : ByteArray) : evc f29 ((4 : Nat) : Int) n s = some (Dyn.nil, false, ()) := by kernel_rfl
theorem evk_5 (f29 : dpα pa29 → Option pr29.α) (n : Int) (s : ByteArray) : evc f29 ((5 : Nat) : Int) n s = some (Dyn.nil, false, ()) := by kernel_rfl
theorem evk_6 (f29 : dpα pa29 → Option pr29.α) (n : Int) (s : ByteArray) : evc f29 ((6 : Nat) : Int) n s = some (Dyn.nil, false, ()) := by kernel_rfl
theorem evk_7 (f29 : dpα pa29 → Option pr29.α) (n : Int) (s : ByteArray) : evc f29 ((7 : Nat) : Int) n s = some (Dyn.nil, false, ()) := by kernel_rfl
theorem evk_8 (f29 : dpα pa29 → Option pr29.α) (n : Int) (s : ByteArray) : evc f29 ((8 : Nat) : Int) n s = some (Dyn.nil, false, ()) := by kernel_rfl
theorem evk_9 (f29 : dpα pa29 → Option pr29.α) (n : Int) (s : ByteArray) : evc f29 ((9 : Nat) : Int) n s = some (Dyn.nil, false, ()) := by kernel_rfl
theorem evk_10 (f29 : dpα pa29 → Option pr29.α) (n : Int) (s : ByteArray) : evc f29 ((10 : Nat) : Int) n s = some (Dyn.nil, false, ()) := by kernel_rfl
theorem evk_11 (f29 : dpα pa29 → Option pr29.α) (n : Int) (s : ByteArray) : evc f29 ((11 : Nat) : Int) n s = some (Dyn.nil, false, ()) := by kernel_rfl
theorem evk_12 (f29 : dpα pa29 → Option pr29.α) (n : Int) (s : ByteArray) : evc f29 ((12 : Nat) : Int) n s = some (Dyn.nil, false, ()) := by kernel_rfl
theorem evk_13 (f29 : dpα pa29 → Option pr29.α) (n : Int) (s : ByteArray) : evc f29 ((13 : Nat) : Int) n s = some (Dyn.nil, false, ()) := by kernel_rfl
theorem evk_14 (f29 : dpα pa29 → Option pr29.α) (n : Int) (s : ByteArray) : evc f29 ((14 : Nat) : Int) n s = some (Dyn.nil, false, ()) := by kernel_rfl
theorem evk_15 (f29 : dpα pa29 → Option pr29.α) (n : Int) (s : ByteArray) : evc f29 ((15 : Nat) : Int) n s = some (Dyn.nil, false, ()) := by kernel_rfl
theorem evk_16 (f29 : dpα pa29 → Option pr29.α) (n : Int) (s : ByteArray) : evc f29 ((16 : Nat) : Int) n s = some (Dyn.nil, false, ()) := by kernel_rfl
theorem evk_17 (f29 : dpα pa29 → Option pr29.α) (n : Int) (s : ByteArray) : evc f29 ((17 : Nat) : Int) n s = some (Dyn.nil, false, ()) := by kernel_rfl
theorem evk_18 (f29 : dpα pa29 → Option pr29.α) (n : Int) (s : ByteArray) : evc f29 ((18 : Nat) : Int) n s = some (Dyn.nil, false, ()) := by kernel_rfl
theorem evk_19 (f29 : dpα pa29 → Option pr29.α) (n : Int) (s : ByteArray) : evc f29 ((19 : Nat) : Int) n s = some (Dyn.nil, false, ()) := by kernel_rfl
theorem evk_20 (f29 : dpα pa29 → Option pr29.α) (n : Int) (s : ByteArray) : evc f29 ((20 : Nat) : Int) n s = some (Dyn.nil, false, ()) := by kernel_rfl
theorem evk_21 (f29 : dpα pa29 → Option pr29.α) (n : Int) (s : ByteArray) : evc f29 ((21 : Nat) : Int) n s = some (Dyn.nil, false, ()) := by kernel_rfl
theorem evk_22 (f29 : dpα pa29 → Option pr29.α) (n : Int) (s : ByteArray) : evc f29 ((22 : Nat) : Int) n s = some (Dyn.nil, false, ()) := by kernel_rfl
theorem evk_23 (f29 : dpα pa29 → Option pr29.α) (n : Int) (s : ByteArray) : evc f29 ((23 : Nat) : Int) n s = some (Dyn.nil, false, ()) := by kernel_rfl
theorem evk_24 (f29 : dpα pa29 → Option pr29.α) (n : Int) (s : ByteArray) : evc f29 ((24 : Nat) : Int) n s = some (Dyn.nil, false, ()) := by kernel_rfl
theorem evk_25 (f29 : dpα pa29 → Option pr29.α) (n : Int) (s : ByteArray) : evc f29 ((25 : Nat) : Int) n s = some (Dyn.nil, false, ()) := by kernel_rfl
theorem evk_26 (f29 : dpα pa29 → Option pr29.α) (n : Int) (s : ByteArray) : evc f29 ((26 : Nat) : Int) n s = some (Dyn.nil, false, ()) := by kernel_rfl
theorem evk_27 (f29 : dpα pa29 → Option pr29.α) (n : Int) (s : ByteArray) : evc f29 ((27 : Nat) : Int) n s = some (Dyn.nil, false, ()) := by kernel_rfl
theorem evk_28 (f29 : dpα pa29 → Option pr29.α) (n : Int) (s : ByteArray) : evc f29 ((28 : Nat) : Int) n s = some (Dyn.nil, false, ()) := by kernel_rfl
theorem evk_29 (f29 : dpα pa29 → Option pr29.α) (n : Int) (s : ByteArray) : evc f29 ((29 : Nat) : Int) n s = some (Dyn.nil, false, ()) := by kernel_rfl
theorem evk_30 (f29 : dpα pa29 → Option pr29.α) (n : Int) (s : ByteArray) : evc f29 ((30 : Nat) : Int) n s = some (Dyn.nil, false, ()) := by kernel_rfl
theorem evk_31 (f29 : dpα pa29 → Option pr29.α) (n : Int) (s : ByteArray) : evc f29 ((31 : Nat) : Int) n s = some (Dyn.nil, false, ()) := by kernel_rfl
theorem evk_32 (f29 : dpα pa29 → Option pr29.α) (n : Int) (s : ByteArray) : evc f29 ((32 : Nat) : Int) n s = some (Dyn.nil, false, ()) := by kernel_rfl
theorem evk_33 (f29 : dpα pa29 → Option pr29.α) (n : Int) (s : ByteArray) : evc f29 ((33 : Nat) : Int) n s = some (Dyn.nil, false, ()) := by kernel_rfl
theorem evk_34 (f29 : dpα pa29 → Option pr29.α) (n : Int) (s : ByteArray) : evc f29 ((34 : Nat) : Int) n s = some (Dyn.nil, false, ()) := by kernel_rfl
theorem evk_35 (f29 : dpα pa29 → Option pr29.α) (n : Int) (s : ByteArray) : evc f29 ((35 : Nat) : Int) n s = some (Dyn.nil, false, ()) := by kernel_rfl
theorem evk_36 (f29 : dpα pa29 → Option pr29.α) (n : Int) (s : ByteArray) : evc f29 ((36 : Nat) : Int) n s = some (Dyn.nil, false, ()) := by kernel_rfl
theorem evk_37 (f29 : dpα pa29 → Option pr29.α) (n : Int) (s : ByteArray) : evc f29 ((37 : Nat) : Int) n s = some (Dyn.nil, false, ()) := by kernel_rfl
theorem evk_38 (f29 : dpα pa29 → Option pr29.α) (n : Int) (s : ByteArray) : evc f29 ((38 : Nat) : Int) n s = some (Dyn.nil, false, ()) := by kernel_rfl
theorem evk_39 (f29 : dpα pa29 → Option pr29.α) (n : Int) (s : ByteArray) : evc f29 ((39 : Nat) : Int) n s = some (Dyn.nil, false, ()) := by kernel_rfl
theorem evk_40 (f29 : dpα pa29 → Option pr29.α) (n : Int) (s : ByteArray) : evc f29 ((40 : Nat) : Int) n s = some (Dyn.nil, false, ()) := by kernel_rfl
theorem evk_41 (f29 : dpα pa29 → Option pr29.α) (n : Int) (s : ByteArray) : evc f29 ((41 : Nat) : Int) n s = some (Dyn.nil, false, ()) := by kernel_rfl
theorem evk_42 (f29 : dpα pa29 → Option pr29.α) (n : Int) (s : ByteArray) : evc f29 ((42 : Nat) : Int) n s = some (Dyn.nil, false, ()) := by kernel_rfl
theorem evk_43 (f29 : dpα pa29 → Option pr29.α) (n : Int) (s : ByteArray) : evc f29 ((43 : Nat) : Int) n s = some (Dyn.nil, false, ()) := by kernel_rfl
theorem evk_44 (f29 : dpα pa29 → Option pr29.α) (n : Int) (s : ByteArray) : evc f29 ((44 : Nat) : Int) n s = some (Dyn.nil, false, ()) := by kernel_rfl
theorem evk_45 (f29 : dpα pa29 → Option pr29.α) (n : Int) (s : ByteArray) : evc f29 ((45 : Nat) : Int) n s = some (Dyn.nil, false, ()) := by kernel_rfl
theorem evk_46 (f29 : dpα pa29 → Option pr29.α) (n : Int) (s : ByteArray) : evc f29 ((46 : Nat) : Int) n s = some (Dyn.nil, false, ()) := by kernel_rfl
theorem evk_47 (f29 : dpα pa29 → Option pr29.α) (n : Int) (s : ByteArray) : evc f29 ((47 : Nat) : Int) n s = some (Dyn.nil, false, ()) := by kernel_rfl
theorem evk_48 (f29 : dpα pa29 → Option pr29.α) (n : Int) (s : ByteArray) : evc f29 ((48 : Nat) : Int) n s = some (Dyn.nil, false, ()) := by kernel_rfl
theorem evk_49 (f29 : dpα pa29 → Option pr29.α) (n : Int) (s : ByteArray) : evc f29 ((49 : Nat) : Int) n s = some (Dyn.nil, false, ()) := by kernel_rfl
theorem evk_50 (f29 : dpα pa29 → Option pr29.α) (n : Int) (s : ByteArray) : evc f29 ((50 : Nat) : Int) n s = some (Dyn.nil, false, ()) := by kernel_rfl
theorem evk_51 (f29 : dpα pa29 → Option pr29.α) (n : Int) (s : ByteArray) : evc f29 ((51 : Nat) : Int) n s = some (Dyn.nil, false, ()) := by kernel_rfl
theorem evk_52 (f29 : dpα pa29 → Option pr29.α) (n : Int) (s : ByteArray) : evc f29 ((52 : Nat) : Int) n s = some (Dyn.nil, false, ()) := by kernel_rfl
theorem evk_53 (f29 : dpα pa29 → Option pr29.α) (n : Int) (s : ByteArray) : evc f29 ((53 : Nat) : Int) n s = some (Dyn.nil, false, ()) := by kernel_rfl
theorem evk_54 (f29 : dpα pa29 → Option pr29.α) (n : Int) (s : ByteArray) : evc f29 ((54 : Nat) : Int) n s = some (Dyn.nil, false, ()) := by kernel_rfl
theorem evk_55 (f29 : dpα pa29 → Option pr29.α) (n : Int) (s : ByteArray) : evc f29 ((55 : Nat) : Int) n s = some (Dyn.nil, false, ()) := by kernel_rfl
theorem evk_56 (f29 : dpα pa29 → Option pr29.α) (n : Int) (s : ByteArray) : evc f29 ((56 : Nat) : Int) n s = some (Dyn.nil, false, ()) := by kernel_rfl
theorem evk_57 (f29 : dpα pa29 → Option pr29.α) (n : Int) (s : ByteArray) : evc f29 ((57 : Nat) : Int) n s = some (Dyn.nil, false, ()) := by kernel_rfl
theorem evk_58 (f29 : dpα pa29 → Option pr29.α) (n : Int) (s : ByteArray) : evc f29 ((58 : Nat) : Int) n s = some (Dyn.nil, false, ()) := by kernel_rfl
theorem evk_59 (f29 : dpα pa29 → Option pr29.α) (n : Int) (s : ByteArray) : evc f29 ((59 : Nat) : Int) n s = some (Dyn.nil, false, ()) := by kernel_rfl
theorem evk_60 (f29 : dpα pa29 → Option pr29.α) (n : Int) (s : ByteArray) : evc f29 ((60 : Nat) : Int) n s = some (Dyn.nil, false, ()) := by kernel_rfl
theorem evk_61 (f29 : dpα pa29 → Option pr29.α) (n : Int) (s : ByteArray) : evc f29 ((61 : Nat) : Int) n s = some (Dyn.nil, false, ()) := by kernel_rfl
theorem evk_62 (f29 : dpα pa29 → Option pr29.α) (n : Int) (s : ByteArray) : evc f29 ((62 : Nat) : Int) n s = some (Dyn.nil, false, ()) := by kernel_rfl
theorem evk_63 (f29 : dpα pa29 → Option pr29.α) (n : Int) (s : ByteArray) : evc f29 ((63 : Nat) : Int) n s = some (Dyn.nil, false, ()) := by kernel_rfl
theorem evk_64 (f29 : dpα pa29 → Option pr29.α) (n : Int) (s : ByteArray) : evc f29 ((64 : Nat) : Int) n s = some (Dyn.nil, false, ()) := by kernel_rfl
theorem evk_65 (f29 : dpα pa29 → Option pr29.α) (n : Int) (s : ByteArray) : evc f29 ((65 : Nat) : Int) n s = some (Dyn.nil, false, ()) := by kernel_rfl
theorem evk_66 (f29 : dpα pa29 → Option pr29.α) (n : Int) (s : ByteArray) : evc f29 ((66 : Nat) : Int) n s = some (Dyn.nil, false, ()) := by kernel_rfl
theorem evk_67 (f29 : dpα pa29 → Option pr29.α) (n : Int) (s : ByteArray) : evc f29 ((67 : Nat) : Int) n s = some (Dyn.nil, false, ()) := by kernel_rfl
theorem evk_68 (f29 : dpα pa29 → Option pr29.α) (n : Int) (s : ByteArray) : evc f29 ((68 : Nat) : Int) n s = some (Dyn.nil, false, ()) := by kernel_rfl
theorem evk_69 (f29 : dpα pa29 → Option pr29.α) (n : Int) (s : ByteArray) : evc f29 ((69 : Nat) : Int) n s = some (Dyn.nil, false, ()) := by kernel_rfl
theorem evk_70 (f29 : dpα pa29 → Option pr29.α) (n : Int) (s : ByteArray) : evc f29 ((70 : Nat) : Int) n s = some (Dyn.nil, false, ()) := by kernel_rfl
theorem evk_71 (f29 : dpα pa29 → Option pr29.α) (n : Int) (s : ByteArray) : evc f29 ((71 : Nat) : Int) n s = some (Dyn.nil, false, ()) := by kernel_rfl
theorem evk_72 (f29 : dpα pa29 → Option pr29.α) (n : Int) (s : ByteArray) : evc f29 ((72 : Nat) : Int) n s = some (Dyn.nil, false, ()) := by kernel_rfl
theorem evk_73 (f29 : dpα pa29 → Option pr29.α) (n : Int) (s : ByteArray) : evc f29 ((73 : Nat) : Int) n s = some (Dyn.nil, false, ()) := by kernel_rfl
theorem evk_74 (f29 : dpα pa29 → Option pr29.α) (n : Int) (s : ByteArray) : evc f29 ((74 : Nat) : Int) n s = some (Dyn.nil, false, ()) := by kernel_rfl
theorem evk_75 (f29 : dpα pa29 → Option pr29.α) (n : Int) (s : ByteArray) : evc f29 ((75 : Nat) : Int) n s = some (Dyn.nil, false, ()) := by kernel_rfl
theorem evk_76 (f29 : dpα pa29 → Option pr29.α) (n : Int) (s : ByteArray) : evc f29 ((76 : Nat) : Int) n s = some (Dyn.nil, false, ()) := by kernel_rfl
theorem evk_77 (f29 : dpα pa29 → Option pr29.α) (n : Int) (s : ByteArray) : evc f29 ((77 : Nat) : Int) n s = some (Dyn.nil, false, ()) := by kernel_rfl
theorem evk_78 (f29 : dpα pa29 → Option pr29.α) (n : Int) (s : ByteArray) : evc f29 ((78 : Nat) : Int) n s = some (Dyn.nil, false, ()) := by kernel_rfl
theorem evk_79 (f29 : dpα pa29 → Option pr29.α) (n : Int) (s : ByteArray) : evc f29 ((79 : Nat) : Int) n s = some (Dyn.nil, false, ()) := by kernel_rfl
theorem evk_80 (f29 : dpα pa29 → Option pr29.α) (n : Int) (s : ByteArray) : evc f29 ((80 : Nat) : Int) n s = some (Dyn.nil, false, ()) := by kernel_rfl
theorem evk_81 (f29 : dpα pa29 → Option pr29.α) (n : Int) (s : ByteArray) : evc f29 ((81 : Nat) : Int) n s = some (Dyn.nil, false, ()) := by kernel_rfl
theorem evk_82 (f29 : dpα pa29 → Option pr29.α) (n : Int) (s : ByteArray) : evc f29 ((82 : Nat) : Int) n s = some (Dyn.nil, false, ()) := by kernel_rfl
theorem evk_83 (f29 : dpα pa29 → Option pr29.α) (n : Int) (s : ByteArray) : evc f29 ((83 : Nat) : Int) n s = some (Dyn.nil, false, ()) := by kernel_rfl
theorem evk_84 (f29 : dpα pa29 → Option pr29.α) (n : Int) (s : ByteArray) : evc f29 ((84 : Nat) : Int) n s = some (Dyn.nil, false, ()) := by kernel_rfl
theorem evk_85 (f29 : dpα pa29 → Option pr29.α) (n : Int) (s : ByteArray) : evc f29 ((85 : Nat) : Int) n s = some (Dyn.nil, false, ()) := by kernel_rfl
theorem evk_86 (f29 : dpα pa29 → Option pr29.α) (n : Int) (s : ByteArray) : evc f29 ((86 : Nat) : Int) n s = some (Dyn.nil, false, ()) := by kernel_rfl
theorem evk_87 (f29 : dpα pa29 → Option pr29.α) (n : Int) (s : ByteArray) : evc f29 ((87 : Nat) : Int) n s = some (Dyn.nil, false, ()) := by kernel_rfl
theorem evk_88 (f29 : dpα pa29 → Option pr29.α) (n : Int) (s : ByteArray) : evc f29 ((88 : Nat) : Int) n s = some (Dyn.nil, false, ()) := by kernel_rfl
theorem evk_89 (f29 : dpα pa29 → Option pr29.α) (n : Int) (s : ByteArray) : evc f29 ((89 : Nat) : Int) n s = some (Dyn.nil, false, ()) := by kernel_rfl
theorem evk_90 (f29 : dpα pa29 → Option pr29.α) (n : Int) (s : ByteArray) : evc f29 ((90 : Nat) : Int) n s = some (Dyn.nil, false, ()) := by kernel_rfl
theorem evk_91 (f29 : dpα pa29 → Option pr29.α) (n : Int) (s : ByteArray) : evc f29 ((91 : Nat) : Int) n s = some (Dyn.nil, false, ()) := by kernel_rfl
theorem evk_92 (f29 : dpα pa29 → Option pr29.α) (n : Int) (s : ByteArray) : evc f29 ((92 : Nat) : Int) n s = some (Dyn.nil, false, ()) := by kernel_rfl
theorem evk_93 (f29 : dpα pa29 → Option pr29.α) (n : Int) (s : ByteArray) : evc f29 ((93 : Nat) : Int) n s = some (Dyn.nil, false, ()) := by kernel_rfl
theorem evk_94 (f29 : dpα pa29 → Option pr29.α) (n : Int) (s : ByteArray) : evc f29 ((94 : Nat) : Int) n s = some (Dyn.nil, false, ()) := by kernel_rfl
theorem evk_95 (f29 : dpα pa29 → Option pr29.α) (n : Int) (s : ByteArray) : evc f29 ((95 : Nat) : Int) n s = some (Dyn.nil, false, ()) := by kernel_rfl
theorem evk_96 (f29 : dpα pa29 → Option pr29.α) (n : Int) (s : ByteArray) : evc f29 ((96 : Nat) : Int) n s = some (Dyn.nil, false, ()) := by kernel_rfl
theorem evk_97 (f29 : dpα pa29 → Option pr29.α) (n : Int) (s : ByteArray) : evc f29 ((97 : Nat) : Int) n s = some (Dyn.nil, false, ()) := by kernel_rfl
theorem evk_98 (f29 : dpα pa29 → Option pr29.α) (n : Int) (s : ByteArray) : evc f29 ((98 : Nat) : Int) n s = some (Dyn.nil, false, ()) := by kernel_rfl
theorem evk_99 (f29 : dpα pa29 → Option pr29.α) (n : Int) (s : ByteArray) : evc f29 ((99 : Nat) : Int) n s = some (Dyn.nil, false, ()) := by kernel_rfl
theorem evk_100 (f29 : dpα pa29 → Option pr29.α) (n : Int) (s : ByteArray) : evc f29 ((100 : Nat) : Int) n s = some (Dyn.nil, false, ()) := by kernel_rfl
theorem evk_101 (f29 : dpα pa29 → Option pr29.α) (n : Int) (s : ByteArray) : evc f29 ((101 : Nat) : Int) n s = some (Dyn.nil, false, ()) := by kernel_rfl
theorem evk_102 (f29 : dpα pa29 → Option pr29.α) (n : Int) (s : ByteArray) : evc f29 ((102 : Nat) : Int) n s = some (Dyn.nil, false, ()) := by kernel_rfl
theorem evk_103 (f29 : dpα pa29 → Option pr29.α) (n : Int) (s : ByteArray) : evc f29 ((103 : Nat) : Int) n s = some (Dyn.nil, false, ()) := by kernel_rfl
theorem evk_104 (f29 : dpα pa29 → Option pr29.α) (n : Int) (s : ByteArray) : evc f29 ((104 : Nat) : Int) n s = some (Dyn.nil, false, ()) := by kernel_rfl
theorem evk_105 (f29 : dpα pa29 → Option pr29.α) (n : Int) (s : ByteArray) : evc f29 ((105 : Nat) : Int) n s = some (Dyn.nil, false, ()) := by kernel_rfl
theorem evk_106 (f29 : dpα pa29 → Option pr29.α) (n : Int) (s : ByteArray) : evc f29 ((106 : Nat) : Int) n s = some (Dyn.nil, false, ()) := by kernel_rfl
theorem evk_107 (f29 : dpα pa29 → Option pr29.α) (n : Int) (s : ByteArray) : evc f29 ((107 : Nat) : Int) n s = some (Dyn.nil, false, ()) := by kernel_rfl
theorem evk_108 (f29 : dpα pa29 → Option pr29.α) (n : Int) (s : ByteArray) : evc f29 ((108 : Nat) : Int) n s = some (Dyn.nil, false, ()) := by kernel_rfl
theorem evk_109 (f29 : dpα pa29 → Option pr29.α) (n : Int) (s : ByteArray) : evc f29 ((109 : Nat) : Int) n s = some (Dyn.nil, false, ()) := by kernel_rfl
theorem evk_110 (f29 : dpα pa29 → Option pr29.α) (n : Int) (s : ByteArray) : evc f29 ((110 : Nat) : Int) n s = some (Dyn.nil, false, ()) := by kernel_rfl
theorem evk_111 (f29 : dpα pa29 → Option pr29.α) (n : Int) (s : ByteArray) : evc f29 ((111 : Nat) : Int) n s = some (Dyn.nil, false, ()) := by kernel_rfl
theorem evk_112 (f29 : dpα pa29 → Option pr29.α) (n : Int) (s : ByteArray) : evc f29 ((112 : Nat) : Int) n s = some (Dyn.nil, false, ()) := by kernel_rfl
theorem evk_113 (f29 : dpα pa29 → Option pr29.α) (n : Int) (s : ByteArray) : evc f29 ((113 : Nat) : Int) n s = some (Dyn.nil, false, ()) := by kernel_rfl
theorem evk_114 (f29 : dpα pa29 → Option pr29.α) (n : Int) (s : ByteArray) : evc f29 ((114 : Nat) : Int) n s = some (Dyn.nil, false, ()) := by kernel_rfl
theorem evk_115 (f29 : dpα pa29 → Option pr29.α) (n : Int) (s : ByteArray) : evc f29 ((115 : Nat) : Int) n s = some (Dyn.nil, false, ()) := by kernel_rfl
theorem evk_116 (f29 : dpα pa29 → Option pr29.α) (n : Int) (s : ByteArray) : evc f29 ((116 : Nat) : Int) n s = some (Dyn.nil, false, ()) := by kernel_rfl
theorem evk_117 (f29 : dpα pa29 → Option pr29.α) (n : Int) (s : ByteArray) : evc f29 ((117 : Nat) : Int) n s = some (Dyn.nil, false, ()) := by kernel_rfl
theorem evk_118 (f29 : dpα pa29 → Option pr29.α) (n : Int) (s : ByteArray) : evc f29 ((118 : Nat) : Int) n s = some (Dyn.nil, false, ()) := by kernel_rfl
theorem evk_119 (f29 : dpα pa29 → Option pr29.α) (n : Int) (s : ByteArray) : evc f29 ((119 : Nat) : Int) n s = some (Dyn.nil, false, ()) := by kernel_rfl
theorem evk_120 (f29 : dpα pa29 → Option pr29.α) (n : Int) (s : ByteArray) : evc f29 ((120 : Nat) : Int) n s = some (Dyn.nil, false, ()) := by kernel_rfl
theorem evk_121 (f29 : dpα pa29 → Option pr29.α) (n : Int) (s : ByteArray) : evc f29 ((121 : Nat) : Int) n s = some (Dyn.nil, false, ()) := by kernel_rfl
theorem evk_122 (f29 : dpα pa29 → Option pr29.α) (n : Int) (s : ByteArray) : evc f29 ((122 : Nat) : Int) n s = some (Dyn.nil, false, ()) := by kernel_rfl
theorem evk_123 (f29 : dpα pa29 → Option pr29.α) (n : Int) (s : ByteArray) : evc f29 ((123 : Nat) : Int) n s = some (Dyn.nil, false, ()) := by kernel_rfl
theorem evk_124 (f29 : dpα pa29 → Option pr29.α) (n : Int) (s : ByteArray) : evc f29 ((124 : Nat) : Int) n s = some (Dyn.nil, false, ()) := by kernel_rfl
theorem evk_125 (f29 : dpα pa29 → Option pr29.α) (n : Int) (s : ByteArray) : evc f29 ((125 : Nat) : Int) n s = some (Dyn.nil, false, ()) := by kernel_rfl
theorem evk_126 (f29 : dpα pa29 → Option pr29.α) (n : Int) (s : ByteArray) : evc f29 ((126 : Nat) : Int) n s = some (Dyn.nil, false, ()) := by kernel_rfl
theorem evk_127 (f29 : dpα pa29 → Option pr29.α) (n : Int) (s : ByteArray) : evc f29 ((127 : Nat) : Int) n s = some (Dyn.nil, false, ()) := by kernel_rfl
theorem evk_128 (f29 : dpα pa29 → Option pr29.α) (n : Int) (s : ByteArray) : evc f29 ((128 : Nat) : Int) n s = some (Dyn.nil, false, ()) := by kernel_rfl
theorem evk_129 (f29 : dpα pa29 → Option pr29.α) (n : Int) (s : ByteArray) : evc f29 ((129 : Nat) : Int) n s = some (Dyn.nil, false, ()) := by kernel_rfl
theorem evk_130 (f29 : dpα pa29 → Option pr29.α) (n : Int) (s : ByteArray) : evc f29 ((130 : Nat) : Int) n s = some (Dyn.nil, false, ()) := by kernel_rfl
theorem evk_131 (f29 : dpα pa29 → Option pr29.α) (n : Int) (s : ByteArray) : evc f29 ((131 : Nat) : Int) n s = some (Dyn.nil, false, ()) := by kernel_rfl
theorem evk_132 (f29 : dpα pa29 → Option pr29.α) (n : Int) (s : ByteArray) : evc f29 ((132 : Nat) : Int) n s = some (Dyn.nil, false, ()) := by kernel_rfl
theorem evk_133 (f29 : dpα pa29 → Option pr29.α) (n : Int) (s : ByteArray) : evc f29 ((133 : Nat) : Int) n s = some (Dyn.nil, false, ()) := by kernel_rfl
theorem evk_134 (f29 : dpα pa29 → Option pr29.α) (n : Int) (s : ByteArray) : evc f29 ((134 : Nat) : Int) n s = some (Dyn.nil, false, ()) := by kernel_rfl
theorem evk_135 (f29 : dpα pa29 → Option pr29.α) (n : Int) (s : ByteArray) : evc f29 ((135 : Nat) : Int) n s = some (Dyn.nil, false, ()) := by kernel_rfl
theorem evk_136 (f29 : dpα pa29 → Option pr29.α) (n : Int) (s : ByteArray) : evc f29 ((136 : Nat) : Int) n s = some (Dyn.nil, false, ()) := by kernel_rfl
theorem evk_137 (f29 : dpα pa29 → Option pr29.α) (n : Int) (s : ByteArray) : evc f29 ((137 : Nat) : Int) n s = some (Dyn.nil, false, ()) := by kernel_rfl
theorem evk_138 (f29 : dpα pa29 → Option pr29.α) (n : Int) (s : ByteArray) : evc f29 ((138 : Nat) : Int) n s = some (Dyn.nil, false, ()) := by kernel_rfl
theorem evk_139 (f29 : dpα pa29 → Option pr29.α) (n : Int) (s : ByteArray) : evc f29 ((139 : Nat) : Int) n s = some (Dyn.nil, false, ()) := by kernel_rfl
theorem evk_140 (f29 : dpα pa29 → Option pr29.α) (n : Int) (s : ByteArray) : evc f29 ((140 : Nat) : Int) n s = some (Dyn.nil, false, ()) := by kernel_rfl
theorem evk_141 (f29 : dpα pa29 → Option pr29.α) (n : Int) (s : ByteArray) : evc f29 ((141 : Nat) : Int) n s = some (Dyn.nil, false, ()) := by kernel_rfl
theorem evk_142 (f29 : dpα pa29 → Option pr29.α) (n : Int) (s : ByteArray) : evc f29 ((142 : Nat) : Int) n s = some (Dyn.nil, false, ()) := by kernel_rfl
theorem evk_143 (f29 : dpα pa29 → Option pr29.α) (n : Int) (s : ByteArray) : evc f29 ((143 : Nat) : Int) n s = some (Dyn.nil, false, ()) := by kernel_rfl
theorem evk_144 (f29 : dpα pa29 → Option pr29.α) (n : Int) (s : ByteArray) : evc f29 ((144 : Nat) : Int) n s = some (Dyn.nil, false, ()) := by kernel_rfl
theorem evk_145 (f29 : dpα pa29 → Option pr29.α) (n : Int) (s : ByteArray) : evc f29 ((145 : Nat) : Int) n s = some (Dyn.nil, false, ()) := by kernel_rfl
theorem evk_146 (f29 : dpα pa29 → Option pr29.α) (n : Int) (s : ByteArray) : evc f29 ((146 : Nat) : Int) n s = some (Dyn.nil, false, ()) := by kernel_rfl
theorem evk_147 (f29 : dpα pa29 → Option pr29.α) (n : Int) (s : ByteArray) : evc f29 ((147 : Nat) : Int) n s = some (Dyn.nil, false, ()) := by kernel_rfl
theorem evk_148 (f29 : dpα pa29 → Option pr29.α) (n : Int) (s : ByteArray) : evc f29 ((148 : Nat) : Int) n s = some (Dyn.nil, false, ()) := by kernel_rfl
theorem evk_149 (f29 : dpα pa29 → Option pr29.α) (n : Int) (s : ByteArray) : evc f29 ((149 : Nat) : Int) n s = some (Dyn.nil, false, ()) := by kernel_rfl
theorem evk_150 (f29 : dpα pa29 → Option pr29.α) (n : Int) (s : ByteArray) : evc f29 ((150 : Nat) : Int) n s = some (Dyn.nil, false, ()) := by kernel_rfl
theorem evk_151 (f29 : dpα pa29 → Option pr29.α) (n : Int) (s : ByteArray) : evc f29 ((151 : Nat) : Int) n s = some (Dyn.nil, false, ()) := by kernel_rfl
theorem evk_152 (f29 : dpα pa29 → Option pr29.α) (n : Int) (s : ByteArray) : evc f29 ((152 : Nat) : Int) n s = some (Dyn.nil, false, ()) := by kernel_rfl
theorem evk_153 (f29 : dpα pa29 → Option pr29.α) (n : Int) (s : ByteArray) : evc f29 ((153 : Nat) : Int) n s = some (Dyn.nil, false, ()) := by kernel_rfl
theorem evk_154 (f29 : dpα pa29 → Option pr29.α) (n : Int) (s : ByteArray) : evc f29 ((154 : Nat) : Int) n s = some (Dyn.nil, false, ()) := by kernel_rfl
theorem evk_155 (f29 : dpα pa29 → Option pr29.α) (n : Int) (s : ByteArray) : evc f29 ((155 : Nat) : Int) n s = some (Dyn.nil, false, ()) := by kernel_rfl
theorem evk_156 (f29 : dpα pa29 → Option pr29.α) (n : Int) (s : ByteArray) : evc f29 ((156 : Nat) : Int) n s = some (Dyn.nil, false, ()) := by kernel_rfl
theorem evk_157 (f29 : dpα pa29 → Option pr29.α) (n : Int) (s : ByteArray) : evc f29 ((157 : Nat) : Int) n s = some (Dyn.nil, false, ()) := by kernel_rfl
theorem evk_158 (f29 : dpα pa29 → Option pr29.α) (n : Int) (s : ByteArray) : evc f29 ((158 : Nat) : Int) n s = some (Dyn.nil, false, ()) := by kernel_rfl
theorem evk_159 (f29 : dpα pa29 → Option pr29.α) (n : Int) (s : ByteArray) : evc f29 ((159 : Nat) : Int) n s = some (Dyn.nil, false, ()) := by kernel_rfl
theorem evk_160 (f29 : dpα pa29 → Option pr29.α) (n : Int) (s : ByteArray) : evc f29 ((160 : Nat) : Int) n s = some (Dyn.nil, false, ()) := by kernel_rfl
theorem evk_161 (f29 : dpα pa29 → Option pr29.α) (n : Int) (s : ByteArray) : evc f29 ((161 : Nat) : Int) n s = some (Dyn.nil, false, ()) := by kernel_rfl
theorem evk_162 (f29 : dpα pa29 → Option pr29.α) (n : Int) (s : ByteArray) : evc f29 ((162 : Nat) : Int) n s = some (Dyn.nil, false, ()) := by kernel_rfl
theorem evk_163 (f29 : dpα pa29 → Option pr29.α) (n : Int) (s : ByteArray) : evc f29 ((163 : Nat) : Int) n s = some (Dyn.nil, false, ()) := by kernel_rfl
theorem evk_164 (f29 : dpα pa29 → Option pr29.α) (n : Int) (s : ByteArray) : evc f29 ((164 : Nat) : Int) n s = some (Dyn.nil, false, ()) := by kernel_rfl
theorem evk_165 (f29 : dpα pa29 → Option pr29.α) (n : Int) (s : ByteArray) : evc f29 ((165 : Nat) : Int) n s = some (Dyn.nil, false, ()) := by kernel_rfl
theorem evk_166 (f29 : dpα pa29 → Option pr29.α) (n : Int) (s : ByteArray) : evc f29 ((166 : Nat) : Int) n s = some (Dyn.nil, false, ()) := by kernel_rfl
theorem evk_167 (f29 : dpα pa29 → Option pr29.α) (n : Int) (s : ByteArray) : evc f29 ((167 : Nat) : Int) n s = some (Dyn.nil, false, ()) := by kernel_rfl
theorem evk_168 (f29 : dpα pa29 → Option pr29.α) (n : Int) (s : ByteArray) : evc f29 ((168 : Nat) : Int) n s = some (Dyn.nil, false, ()) := by kernel_rfl
theorem evk_169 (f29 : dpα pa29 → Option pr29.α) (n : Int) (s : ByteArray) : evc f29 ((169 : Nat) : Int) n s = some (Dyn.nil, false, ()) := by kernel_rfl
theorem evk_170 (f29 : dpα pa29 → Option pr29.α) (n : Int) (s : ByteArray) : evc f29 ((170 : Nat) : Int) n s = some (Dyn.nil, false, ()) := by kernel_rfl
theorem evk_171 (f29 : dpα pa29 → Option pr29.α) (n : Int) (s : ByteArray) : evc f29 ((171 : Nat) : Int) n s = some (Dyn.nil, false, ()) := by kernel_rfl
theorem evk_172 (f29 : dpα pa29 → Option pr29.α) (n : Int) (s : ByteArray) : evc f29 ((172 : Nat) : Int) n s = some (Dyn.nil, false, ()) := by kernel_rfl
theorem evk_173 (f29 : dpα pa29 → Option pr29.α) (n : Int) (s : ByteArray) : evc f29 ((173 : Nat) : Int) n s = some (Dyn.nil, false, ()) := by kernel_rfl
theorem evk_174 (f29 : dpα pa29 → Option pr29.α) (n : Int) (s : ByteArray) : evc f29 ((174 : Nat) : Int) n s = some (Dyn.nil, false, ()) := by kernel_rfl
theorem evk_175 (f29 : dpα pa29 → Option pr29.α) (n : Int) (s : ByteArray) : evc f29 ((175 : Nat) : Int) n s = some (Dyn.nil, false, ()) := by kernel_rfl
theorem evk_176 (f29 : dpα pa29 → Option pr29.α) (n : Int) (s : ByteArray) : evc f29 ((176 : Nat) : Int) n s = some (Dyn.nil, false, ()) := by kernel_rfl
theorem evk_177 (f29 : dpα pa29 → Option pr29.α) (n : Int) (s : ByteArray) : evc f29 ((177 : Nat) : Int) n s = some (Dyn.nil, false, ()) := by kernel_rfl
theorem evk_178 (f29 : dpα pa29 → Option pr29.α) (n : Int) (s : ByteArray) : evc f29 ((178 : Nat) : Int) n s = some (Dyn.nil, false, ()) := by kernel_rfl
theorem evk_179 (f29 : dpα pa29 → Option pr29.α) (n : Int) (s : ByteArray) : evc f29 ((179 : Nat) : Int) n s = some (Dyn.nil, false, ()) := by kernel_rfl
theorem evk_180 (f29 : dpα pa29 → Option pr29.α) (n : Int) (s : ByteArray) : evc f29 ((180 : Nat) : Int) n s = some (Dyn.nil, false, ()) := by kernel_rfl
theorem evk_181 (f29 : dpα pa29 → Option pr29.α) (n : Int) (s : ByteArray) : evc f29 ((181 : Nat) : Int) n s = some (Dyn.nil, false, ()) := by kernel_rfl
theorem evk_182 (f29 : dpα pa29 → Option pr29.α) (n : Int) (s : ByteArray) : evc f29 ((182 : Nat) : Int) n s = some (Dyn.nil, false, ()) := by kernel_rfl
theorem evk_183 (f29 : dpα pa29 → Option pr29.α) (n : Int) (s : ByteArray) : evc f29 ((183 : Nat) : Int) n s = some (Dyn.nil, false, ()) := by kernel_rfl
theorem evk_184 (f29 : dpα pa29 → Option pr29.α) (n : Int) (s : ByteArray) : evc f29 ((184 : Nat) : Int) n s = some (Dyn.nil, false, ()) := by kernel_rfl
theorem evk_185 (f29 : dpα pa29 → Option pr29.α) (n : Int) (s : ByteArray) : evc f29 ((185 : Nat) : Int) n s = some (Dyn.nil, false, ()) := by kernel_rfl
theorem evk_186 (f29 : dpα pa29 → Option pr29.α) (n : Int) (s : ByteArray) : evc f29 ((186 : Nat) : Int) n s = some (Dyn.nil, false, ()) := by kernel_rfl
theorem evk_187 (f29 : dpα pa29 → Option pr29.α) (n : Int) (s : ByteArray) : evc f29 ((187 : Nat) : Int) n s = some (Dyn.nil, false, ()) := by kernel_rfl
theorem evk_188 (f29 : dpα pa29 → Option pr29.α) (n : Int) (s : ByteArray) : evc f29 ((188 : Nat) : Int) n s = some (Dyn.nil, false, ()) := by kernel_rfl
theorem evk_189 (f29 : dpα pa29 → Option pr29.α) (n : Int) (s : ByteArray) : evc f29 ((189 : Nat) : Int) n s = some (Dyn.nil, false, ()) := by kernel_rfl
theorem evk_190 (f29 : dpα pa29 → Option pr29.α) (n : Int) (s : ByteArray) : evc f29 ((190 : Nat) : Int) n s = some (Dyn.nil, false, ()) := by kernel_rfl
theorem evk_191 (f29 : dpα pa29 → Option pr29.α) (n : Int) (s : ByteArray) : evc f29 ((191 : Nat) : Int) n s = some (Dyn.nil, false, ()) := by kernel_rfl
theorem evk_192 (f29 : dpα pa29 → Option pr29.α) (n : Int) (s : ByteArray) : evc f29 ((192 : Nat) : Int) n s = some (Dyn.nil, false, ()) := by kernel_rfl
theorem evk_193 (f29 : dpα pa29 → Option pr29.α) (n : Int) (s : ByteArray) : evc f29 ((193 : Nat) : Int) n s = some (Dyn.nil, false, ()) := by kernel_rfl
theorem evk_194 (f29 : dpα pa29 → Option pr29.α) (n : Int) (s : ByteArray) : evc f29 ((194 : Nat) : Int) n s = some (Dyn.nil, false, ()) := by kernel_rfl
theorem evk_195 (f29 : dpα pa29 → Option pr29.α) (n : Int) (s : ByteArray) : evc f29 ((195 : Nat) : Int) n s = some (Dyn.nil, false, ()) := by kernel_rfl
theorem evk_196 (f29 : dpα pa29 → Option pr29.α) (n : Int) (s : ByteArray) : evc f29 ((196 : Nat) : Int) n s = some (Dyn.nil, false, ()) := by kernel_rfl
theorem evk_197 (f29 : dpα pa29 → Option pr29.α) (n : Int) (s : ByteArray) : evc f29 ((197 : Nat) : Int) n s = some (Dyn.nil, false, ()) := by kernel_rfl
theorem evk_198 (f29 : dpα pa29 → Option pr29.α) (n : Int) (s : ByteArray) : evc f29 ((198 : Nat) : Int) n s = some (Dyn.nil, false, ()) := by kernel_rfl
theorem evk_199 (f29 : dpα pa29 → Option pr29.α) (n : Int) (s : ByteArray) : evc f29 ((199 : Nat) : Int) n s = some (Dyn.nil, false, ()) := by kernel_rfl
theorem evk_200 (f29 : dpα pa29 → Option pr29.α) (n : Int) (s : ByteArray) : evc f29 ((200 : Nat) : Int) n s = some (Dyn.nil, false, ()) := by kernel_rfl
theorem evk_201 (f29 : dpα pa29 → Option pr29.α) (n : Int) (s : ByteArray) : evc f29 ((201 : Nat) : Int) n s = some (Dyn.nil, false, ()) := by kernel_rfl
theorem evk_202 (f29 : dpα pa29 → Option pr29.α) (n : Int) (s : ByteArray) : evc f29 ((202 : Nat) : Int) n s = some (Dyn.nil, false, ()) := by kernel_rfl
theorem evk_203 (f29 : dpα pa29 → Option pr29.α) (n : Int) (s : ByteArray) : evc f29 ((203 : Nat) : Int) n s = some (Dyn.nil, false, ()) := by kernel_rfl
theorem evk_204 (f29 : dpα pa29 → Option pr29.α) (n : Int) (s : ByteArray) : evc f29 ((204 : Nat) : Int) n s = some (Dyn.nil, false, ()) := by kernel_rfl
theorem evk_205 (f29 : dpα pa29 → Option pr29.α) (n : Int) (s : ByteArray) : evc f29 ((205 : Nat) : Int) n s = some (Dyn.nil, false, ()) := by kernel_rfl
theorem evk_206 (f29 : dpα pa29 → Option pr29.α) (n : Int) (s : ByteArray) : evc f29 ((206 : Nat) : Int) n s = some (Dyn.nil, false, ()) := by kernel_rfl
theorem evk_207 (f29 : dpα pa29 → Option pr29.α) (n : Int) (s : ByteArray) : evc f29 ((207 : Nat) : Int) n s = some (Dyn.nil, false, ()) := by kernel_rfl
theorem evk_208 (f29 : dpα pa29 → Option pr29.α) (n : Int) (s : ByteArray) : evc f29 ((208 : Nat) : Int) n s = some (Dyn.nil, false, ()) := by kernel_rfl
theorem evk_209 (f29 : dpα pa29 → Option pr29.α) (n : Int) (s : ByteArray) : evc f29 ((209 : Nat) : Int) n s = some (Dyn.nil, false, ()) := by kernel_rfl
theorem evk_210 (f29 : dpα pa29 → Option pr29.α) (n : Int) (s : ByteArray) : evc f29 ((210 : Nat) : Int) n s = some (Dyn.nil, false, ()) := by kernel_rfl
theorem evk_211 (f29 : dpα pa29 → Option pr29.α) (n : Int) (s : ByteArray) : evc f29 ((211 : Nat) : Int) n s = some (Dyn.nil, false, ()) := by kernel_rfl
theorem evk_212 (f29 : dpα pa29 → Option pr29.α) (n : Int) (s : ByteArray) : evc f29 ((212 : Nat) : Int) n s = some (Dyn.nil, false, ()) := by kernel_rfl
theorem evk_213 (f29 : dpα pa29 → Option pr29.α) (n : Int) (s : ByteArray) : evc f29 ((213 : Nat) : Int) n s = some (Dyn.nil, false, ()) := by kernel_rfl
theorem evk_214 (f29 : dpα pa29 → Option pr29.α) (n : Int) (s : ByteArray) : evc f29 ((214 : Nat) : Int) n s = some (Dyn.nil, false, ()) := by kernel_rfl
theorem evk_215 (f29 : dpα pa29 → Option pr29.α) (n : Int) (s : ByteArray) : evc f29 ((215 : Nat) : Int) n s = some (Dyn.nil, false, ()) := by kernel_rfl
theorem evk_216 (f29 : dpα pa29 → Option pr29.α) (n : Int) (s : ByteArray) : evc f29 ((216 : Nat) : Int) n s = some (Dyn.nil, false, ()) := by kernel_rfl
theorem evk_217 (f29 : dpα pa29 → Option pr29.α) (n : Int) (s : ByteArray) : evc f29 ((217 : Nat) : Int) n s = some (Dyn.nil, false, ()) := by kernel_rfl
theorem evk_218 (f29 : dpα pa29 → Option pr29.α) (n : Int) (s : ByteArray) : evc f29 ((218 : Nat) : Int) n s = some (Dyn.nil, false, ()) := by kernel_rfl
theorem evk_219 (f29 : dpα pa29 → Option pr29.α) (n : Int) (s : ByteArray) : evc f29 ((219 : Nat) : Int) n s = some (Dyn.nil, false, ()) := by kernel_rfl
theorem evk_220 (f29 : dpα pa29 → Option pr29.α) (n : Int) (s : ByteArray) : evc f29 ((220 : Nat) : Int) n s = some (Dyn.nil, false, ()) := by kernel_rfl
theorem evk_221 (f29 : dpα pa29 → Option pr29.α) (n : Int) (s : ByteArray) : evc f29 ((221 : Nat) : Int) n s = some (Dyn.nil, false, ()) := by kernel_rfl
theorem evk_222 (f29 : dpα pa29 → Option pr29.α) (n : Int) (s : ByteArray) : evc f29 ((222 : Nat) : Int) n s = some (Dyn.nil, false, ()) := by kernel_rfl
theorem evk_223 (f29 : dpα pa29 → Option pr29.α) (n : Int) (s : ByteArray) : evc f29 ((223 : Nat) : Int) n s = some (Dyn.nil, false, ()) := by kernel_rfl
theorem evk_224 (f29 : dpα pa29 → Option pr29.α) (n : Int) (s : ByteArray) : evc f29 ((224 : Nat) : Int) n s = some (Dyn.nil, false, ()) := by kernel_rfl
theorem evk_225 (f29 : dpα pa29 → Option pr29.α) (n : Int) (s : ByteArray) : evc f29 ((225 : Nat) : Int) n s = some (Dyn.nil, false, ()) := by kernel_rfl
theorem evk_226 (f29 : dpα pa29 → Option pr29.α) (n : Int) (s : ByteArray) : evc f29 ((226 : Nat) : Int) n s = some (Dyn.nil, false, ()) := by kernel_rfl
theorem evk_227 (f29 : dpα pa29 → Option pr29.α) (n : Int) (s : ByteArray) : evc f29 ((227 : Nat) : Int) n s = some (Dyn.nil, false, ()) := by kernel_rfl
theorem evk_228 (f29 : dpα pa29 → Option pr29.α) (n : Int) (s : ByteArray) : evc f29 ((228 : Nat) : Int) n s = some (Dyn.nil, false, ()) := by kernel_rfl
theorem evk_229 (f29 : dpα pa29 → Option pr29.α) (n : Int) (s : ByteArray) : evc f29 ((229 : Nat) : Int) n s = some (Dyn.nil, false, ()) := by kernel_rfl
theorem evk_230 (f29 : dpα pa29 → Option pr29.α) (n : Int) (s : ByteArray) : evc f29 ((230 : Nat) : Int) n s = some (Dyn.nil, false, ()) := by kernel_rfl
theorem evk_231 (f29 : dpα pa29 → Option pr29.α) (n : Int) (s : ByteArray) : evc f29 ((231 : Nat) : Int) n s = some (Dyn.nil, false, ()) := by kernel_rfl
theorem evk_232 (f29 : dpα pa29 → Option pr29.α) (n : Int) (s : ByteArray) : evc f29 ((232 : Nat) : Int) n s = some (Dyn.nil, false, ()) := by kernel_rfl
theorem evk_233 (f29 : dpα pa29 → Option pr29.α) (n : Int) (s : ByteArray) : evc f29 ((233 : Nat) : Int) n s = some (Dyn.nil, false, ()) := by kernel_rfl
theorem evk_234 (f29 : dpα pa29 → Option pr29.α) (n : Int) (s : ByteArray) : evc f29 ((234 : Nat) : Int) n s = some (Dyn.nil, false, ()) := by kernel_rfl
theorem evk_235 (f29 : dpα pa29 → Option pr29.α) (n : Int) (s : ByteArray) : evc f29 ((235 : Nat) : Int) n s = some (Dyn.nil, false, ()) := by kernel_rfl
theorem evk_236 (f29 : dpα pa29 → Option pr29.α) (n : Int) (s : ByteArray) : evc f29 ((236 : Nat) : Int) n s = some (Dyn.nil, false, ()) := by kernel_rfl
theorem evk_237 (f29 : dpα pa29 → Option pr29.α) (n : Int) (s : ByteArray) : evc f29 ((237 : Nat) : Int) n s = some (Dyn.nil, false, ()) := by kernel_rfl
theorem evk_238 (f29 : dpα pa29 → Option pr29.α) (n : Int) (s : ByteArray) : evc f29 ((238 : Nat) : Int) n s = some (Dyn.nil, false, ()) := by kernel_rfl
theorem evk_239 (f29 : dpα pa29 → Option pr29.α) (n : Int) (s : ByteArray) : evc f29 ((239 : Nat) : Int) n s = some (Dyn.nil, false, ()) := by kernel_rfl
theorem evk_240 (f29 : dpα pa29 → Option pr29.α) (n : Int) (s : ByteArray) : evc f29 ((240 : Nat) : Int) n s = some (Dyn.nil, false, ()) := by kernel_rfl
theorem evk_241 (f29 : dpα pa29 → Option pr29.α) (n : Int) (s : ByteArray) : evc f29 ((241 : Nat) : Int) n s = some (Dyn.nil, false, ()) := by kernel_rfl
theorem evk_242 (f29 : dpα pa29 → Option pr29.α) (n : Int) (s : ByteArray) : evc f29 ((242 : Nat) : Int) n s = some (Dyn.nil, false, ()) := by kernel_rfl
theorem evk_243 (f29 : dpα pa29 → Option pr29.α) (n : Int) (s : ByteArray) : evc f29 ((243 : Nat) : Int) n s = some (Dyn.nil, false, ()) := by kernel_rfl
theorem evk_244 (f29 : dpα pa29 → Option pr29.α) (n : Int) (s : ByteArray) : evc f29 ((244 : Nat) : Int) n s = some (Dyn.nil, false, ()) := by kernel_rfl
theorem evk_245 (f29 : dpα pa29 → Option pr29.α) (n : Int) (s : ByteArray) : evc f29 ((245 : Nat) : Int) n s = some (Dyn.nil, false, ()) := by kernel_rfl
theorem evk_246 (f29 : dpα pa29 → Option pr29.α) (n : Int) (s : ByteArray) : evc f29 ((246 : Nat) : Int) n s = some (Dyn.nil, false, ()) := by kernel_rfl
theorem evk_247 (f29 : dpα pa29 → Option pr29.α) (n : Int) (s : ByteArray) : evc f29 ((247 : Nat) : Int) n s = some (Dyn.nil, false, ()) := by kernel_rfl
theorem evk_248 (f29 : dpα pa29 → Option pr29.α) (n : Int) (s : ByteArray) : evc f29 ((248 : Nat) : Int) n s = some (Dyn.nil, false, ()) := by kernel_rfl
theorem evk_249 (f29 : dpα pa29 → Option pr29.α) (n : Int) (s : ByteArray) : evc f29 ((249 : Nat) : Int) n s = some (Dyn.nil, false, ()) := by kernel_rfl
theorem evk_250 (f29 : dpα pa29 → Option pr29.α) (n : Int) (s : ByteArray) : evc f29 ((250 : Nat) : Int) n s = some (Dyn.nil, false, ()) := by kernel_rfl
theorem evk_251 (f29 : dpα pa29 → Option pr29.α) (n : Int) (s : ByteArray) : evc f29 ((251 : Nat) : Int) n s = some (Dyn.nil, false, ()) := by kernel_rfl
theorem evk_252 (f29 : dpα pa29 → Option pr29.α) (n : Int) (s : ByteArray) : evc f29 ((252 : Nat) : Int) n s = some (Dyn.nil, false, ()) := by kernel_rfl
theorem evk_253 (f29 : dpα pa29 → Option pr29.α) (n : Int) (s : ByteArray) : evc f29 ((253 : Nat) : Int) n s = some (Dyn.nil, false, ()) := by kernel_rfl
theorem evk_254 (f29 : dpα pa29 → Option pr29.α) (n : Int) (s : ByteArray) : evc f29 ((254 : Nat) : Int) n s = some (Dyn.nil, false, ()) := by kernel_rfl
theorem evk_255 (f29 : dpα pa29 → Option pr29.α) (n : Int) (s : ByteArray) : evc f29 ((255 : Nat) : Int) n s = some (Dyn.nil, false, ()) := by kernel_rfl
theorem evo_4 (f29 : dpα pa29 → Option pr29.α) (n : Int) (s : ByteArray) (j : Nat) (h1 : 4 ≤ j) (h2 : j < 22) : evc f29 (j : Int) n s = some (Dyn.nil, false, ()) := by
  have h : j = 4 ∨ j = 5 ∨ j = 6 ∨ j = 7 ∨ j = 8 ∨ j = 9 ∨ j = 10 ∨ j = 11 ∨ j = 12 ∨ j = 13 ∨ j = 14 ∨ j = 15 ∨ j = 16 ∨ j = 17 ∨ j = 18 ∨ j = 19 ∨ j = 20 ∨ j = 21 := by omega
  rcases h with rfl | rfl | rfl | rfl | rfl | rfl | rfl | rfl | rfl | rfl | rfl | rfl | rfl | rfl | rfl | rfl | rfl | rfl
  · exact evk_4 f29 n s
  · exact evk_5 f29 n s
  · exact evk_6 f29 n s
  · exact evk_7 f29 n s
  · exact evk_8 f29 n s
  · exact evk_9 f29 n s
  · exact evk_10 f29 n s
  · exact evk_11 f29 n s
  · exact evk_12 f29 n s
  · exact evk_13 f29 n s
  · exact evk_14 f29 n s
  · exact evk_15 f29 n s
  · exact evk_16 f29 n s
  · exact evk_17 f29 n s
  · exact evk_18 f29 n s
  · exact evk_19 f29 n s
  · exact evk_20 f29 n s
  · exact evk_21 f29 n s
theorem evo_22 (f29 : dpα pa29 → Option pr29.α) (n : Int) (s : ByteArray) (j : Nat) (h1 : 22 ≤ j) (h2 : j < 40) : evc f29 (j : Int) n s = some (Dyn.nil, false, ()) := by
  have h : j = 22 ∨ j = 23 ∨ j = 24 ∨ j = 25 ∨ j = 26 ∨ j = 27 ∨ j = 28 ∨ j = 29 ∨ j = 30 ∨ j = 31 ∨ j = 32 ∨ j = 33 ∨ j = 34 ∨ j = 35 ∨ j = 36 ∨ j = 37 ∨ j = 38 ∨ j = 39 := by omega
  rcases h with rfl | rfl | rfl | rfl | rfl | rfl | rfl | rfl | rfl | rfl | rfl | rfl | rfl | rfl | rfl | rfl | rfl | rfl
  · exact evk_22 f29 n s
  · exact evk_23 f29 n s
  · exact evk_24 f29 n s
  · exact evk_25 f29 n s
  · exact evk_26 f29 n s
  · exact evk_27 f29 n s
  · exact evk_28 f29 n s
  · exact evk_29 f29 n s
  · exact evk_30 f29 n s
  · exact evk_31 f29 n s
  · exact evk_32 f29 n s
  · exact evk_33 f29 n s
  · exact evk_34 f29 n s
  · exact evk_35 f29 n s
  · exact evk_36 f29 n s
  · exact evk_37 f29 n s
  · exact evk_38 f29 n s
  · exact evk_39 f29 n s
theorem evo_40 (f29 : dpα pa29 → Option pr29.α) (n : Int) (s : ByteArray) (j : Nat) (h1 : 40 ≤ j) (h2 : j < 58) : evc f29 (j : Int) n s = some (Dyn.nil, false, ()) := by
  have h : j = 40 ∨ j = 41 ∨ j = 42 ∨ j = 43 ∨ j = 44 ∨ j = 45 ∨ j = 46 ∨ j = 47 ∨ j = 48 ∨ j = 49 ∨ j = 50 ∨ j = 51 ∨ j = 52 ∨ j = 53 ∨ j = 54 ∨ j = 55 ∨ j = 56 ∨ j = 57 := by omega
  rcases h with rfl | rfl | rfl | rfl | rfl | rfl | rfl | rfl | rfl | rfl | rfl | rfl | rfl | rfl | rfl | rfl | rfl | rfl
  · exact evk_40 f29 n s
  · exact evk_41 f29 n s
  · exact evk_42 f29 n s
  · exact evk_43 f29 n s
  · exact evk_44 f29 n s
  · exact evk_45 f29 n s
  · exact evk_46 f29 n s
  · exact evk_47 f29 n s
  · exact evk_48 f29 n s
  · exact evk_49 f29 n s
  · exact evk_50 f29 n s
  · exact evk_51 f29 n s
  · exact evk_52 f29 n s
  · exact evk_53 f29 n s
  · exact evk_54 f29 n s
  · exact evk_55 f29 n s
  · exact evk_56 f29 n s
  · exact evk_57 f29 n s
theorem evo_58 (f29 : dpα pa29 → Option pr29.α) (n : Int) (s : ByteArray) (j : Nat) (h1 : 58 ≤ j) (h2 : j < 76) : evc f29 (j : Int) n s = some (Dyn.nil, false, ()) := by
  have h : j = 58 ∨ j = 59 ∨ j = 60 ∨ j = 61 ∨ j = 62 ∨ j = 63 ∨ j = 64 ∨ j = 65 ∨ j = 66 ∨ j = 67 ∨ j = 68 ∨ j = 69 ∨ j = 70 ∨ j = 71 ∨ j = 72 ∨ j = 73 ∨ j = 74 ∨ j = 75 := by omega
  rcases h with rfl | rfl | rfl | rfl | rfl | rfl | rfl | rfl | rfl | rfl | rfl | rfl | rfl | rfl | rfl | rfl | rfl | rfl
  · exact evk_58 f29 n s
  · exact evk_59 f29 n s
  · exact evk_60 f29 n s
  · exact evk_61 f29 n s
  · exact evk_62 f29 n s
  · exact evk_63 f29 n s
  · exact evk_64 f29 n s
  · exact evk_65 f29 n s
  · exact evk_66 f29 n s
  · exact evk_67 f29 n s
  · exact evk_68 f29 n s
  · exact evk_69 f29 n s
  · exact evk_70 f29 n s
  · exact evk_71 f29 n s
  · exact evk_72 f29 n s
  · exact evk_73 f29 n s
  · exact evk_74 f29 n s
  · exact evk_75 f29 n s
theorem evo_76 (f29 : dpα pa29 → Option pr29.α) (n : Int) (s : ByteArray) (j : Nat) (h1 : 76 ≤ j) (h2 : j < 94) : evc f29 (j : Int) n s = some (Dyn.nil, false, ()) := by
  have h : j = 76 ∨ j = 77 ∨ j = 78 ∨ j = 79 ∨ j = 80 ∨ j = 81 ∨ j = 82 ∨ j = 83 ∨ j = 84 ∨ j = 85 ∨ j = 86 ∨ j = 87 ∨ j = 88 ∨ j = 89 ∨ j = 90 ∨ j = 91 ∨ j = 92 ∨ j = 93 := by omega
  rcases h with rfl | rfl | rfl | rfl | rfl | rfl | rfl | rfl | rfl | rfl | rfl | rfl | rfl | rfl | rfl | rfl | rfl | rfl
  · exact evk_76 f29 n s
  · exact evk_77 f29 n s
  · exact evk_78 f29 n s
  · exact evk_79 f29 n s
  · exact evk_80 f29 n s
  · exact evk_81 f29 n s
  · exact evk_82 f29 n s
  · exact evk_83 f29 n s
  · exact evk_84 f29 n s
  · exact evk_85 f29 n s
  · exact evk_86 f29 n s
  · exact evk_87 f29 n s
  · exact evk_88 f29 n s
  · exact evk_89 f29 n s
  · exact evk_90 f29 n s
  · exact evk_91 f29 n s
  · exact evk_92 f29 n s
  · exact evk_93 f29 n s
theorem evo_94 (f29 : dpα pa29 → Option pr29.α) (n : Int) (s : ByteArray) (j : Nat) (h1 : 94 ≤ j) (h2 : j < 112) : evc f29 (j : Int) n s = some (Dyn.nil, false, ()) := by
  have h : j = 94 ∨ j = 95 ∨ j = 96 ∨ j = 97 ∨ j = 98 ∨ j = 99 ∨ j = 100 ∨ j = 101 ∨ j = 102 ∨ j = 103 ∨ j = 104 ∨ j = 105 ∨ j = 106 ∨ j = 107 ∨ j = 108 ∨ j = 109 ∨ j = 110 ∨ j = 111 := by omega
  rcases h with rfl | rfl | rfl | rfl | rfl | rfl | rfl | rfl | rfl | rfl | rfl | rfl | rfl | rfl | rfl | rfl | rfl | rfl
  · exact evk_94 f29 n s
  · exact evk_95 f29 n s
  · exact evk_96 f29 n s
  · exact evk_97 f29 n s
  · exact evk_98 f29 n s
  · exact evk_99 f29 n s
  · exact evk_100 f29 n s
  · exact evk_101 f29 n s
  · exact evk_102 f29 n s
  · exact evk_103 f29 n s
  · exact evk_104 f29 n s
  · exact evk_105 f29 n s
  · exact evk_106 f29 n s
  · exact evk_107 f29 n s
  · exact evk_108 f29 n s
  · exact evk_109 f29 n s
  · exact evk_110 f29 n s
  · exact evk_111 f29 n s
theorem evo_112 (f29 : dpα pa29 → Option pr29.α) (n : Int) (s : ByteArray) (j : Nat) (h1 : 112 ≤ j) (h2 : j < 130) : evc f29 (j : Int) n s = some (Dyn.nil, false, ()) := by
  have h : j = 112 ∨ j = 113 ∨ j = 114 ∨ j = 115 ∨ j = 116 ∨ j = 117 ∨ j = 118 ∨ j = 119 ∨ j = 120 ∨ j = 121 ∨ j = 122 ∨ j = 123 ∨ j = 124 ∨ j = 125 ∨ j = 126 ∨ j = 127 ∨ j = 128 ∨ j = 129 := by omega
  rcases h with rfl | rfl | rfl | rfl | rfl | rfl | rfl | rfl | rfl | rfl | rfl | rfl | rfl | rfl | rfl | rfl | rfl | rfl
  · exact evk_112 f29 n s
  · exact evk_113 f29 n s
  · exact evk_114 f29 n s
  · exact evk_115 f29 n s
  · exact evk_116 f29 n s
  · exact evk_117 f29 n s
  · exact evk_118 f29 n s
  · exact evk_119 f29 n s
  · exact evk_120 f29 n s
  · exact evk_121 f29 n s
  · exact evk_122 f29 n s
  · exact evk_123 f29 n s
  · exact evk_124 f29 n s
  · exact evk_125 f29 n s
  · exact evk_126 f29 n s
  · exact evk_127 f29 n s
  · exact evk_128 f29 n s
  · exact evk_129 f29 n s
theorem evo_130 (f29 : dpα pa29 → Option pr29.α) (n : Int) (s : ByteArray) (j : Nat) (h1 : 130 ≤ j) (h2 : j < 148) : evc f29 (j : Int) n s = some (Dyn.nil, false, ()) := by
  have h : j = 130 ∨ j = 131 ∨ j = 132 ∨ j = 133 ∨ j = 134 ∨ j = 135 ∨ j = 136 ∨ j = 137 ∨ j = 138 ∨ j = 139 ∨ j = 140 ∨ j = 141 ∨ j = 142 ∨ j = 143 ∨ j = 144 ∨ j = 145 ∨ j = 146 ∨ j = 147 := by omega
  rcases h with rfl | rfl | rfl | rfl | rfl | rfl | rfl | rfl | rfl | rfl | rfl | rfl | rfl | rfl | rfl | rfl | rfl | rfl
  · exact evk_130 f29 n s
  · exact evk_131 f29 n s
  · exact evk_132 f29 n s
  · exact evk_133 f29 n s
  · exact evk_134 f29 n s
  · exact evk_135 f29 n s
  · exact evk_136 f29 n s
  · exact evk_137 f29 n s
  · exact evk_138 f29 n s
  · exact evk_139 f29 n s
  · exact evk_140 f29 n s
  · exact evk_141 f29 n s
  · exact evk_142 f29 n s
  · exact evk_143 f29 n s
  · exact evk_144 f29 n s
  · exact evk_145 f29 n s
  · exact evk_146 f29 n s
  · exact evk_147 f29 n s
theorem evo_148 (f29 : dpα pa29 → Option pr29.α) (n : Int) (s : ByteArray) (j : Nat) (h1 : 148 ≤ j) (h2 : j < 166) : evc f29 (j : Int) n s = some (Dyn.nil, false, ()) := by
  have h : j = 148 ∨ j = 149 ∨ j = 150 ∨ j = 151 ∨ j = 152 ∨ j = 153 ∨ j = 154 ∨ j = 155 ∨ j = 156 ∨ j = 157 ∨ j = 158 ∨ j = 159 ∨ j = 160 ∨ j = 161 ∨ j = 162 ∨ j = 163 ∨ j = 164 ∨ j = 165 := by omega
  rcases h with rfl | rfl | rfl | rfl | rfl | rfl | rfl | rfl | rfl | rfl | rfl | rfl | rfl | rfl | rfl | rfl | rfl | rfl
  · exact evk_148 f29 n s
  · exact evk_149 f29 n s
  · exact evk_150 f29 n s
  · exact evk_151 f29 n s
  · exact evk_152 f29 n s
  · exact evk_153 f29 n s
  · exact evk_154 f29 n s
  · exact evk_155 f29 n s
  · exact evk_156 f29 n s
  · exact evk_157 f29 n s
  · exact evk_158 f29 n s
  · exact evk_159 f29 n s
  · exact evk_160 f29 n s
  · exact evk_161 f29 n s
  · exact evk_162 f29 n s
  · exact evk_163 f29 n s
  · exact evk_164 f29 n s
  · exact evk_165 f29 n s
theorem evo_166 (f29 : dpα pa29 → Option pr29.α) (n : Int) (s : ByteArray) (j : Nat) (h1 : 166 ≤ j) (h2 : j < 184) : evc f29 (j : Int) n s = some (Dyn.nil, false, ()) := by
  have h : j = 166 ∨ j = 167 ∨ j = 168 ∨ j = 169 ∨ j = 170 ∨ j = 171 ∨ j = 172 ∨ j = 173 ∨ j = 174 ∨ j = 175 ∨ j = 176 ∨ j = 177 ∨ j = 178 ∨ j = 179 ∨ j = 180 ∨ j = 181 ∨ j = 182 ∨ j = 183 := by omega
  rcases h with rfl | rfl | rfl | rfl | rfl | rfl | rfl | rfl | rfl | rfl | rfl | rfl | rfl | rfl | rfl | rfl | rfl | rfl
  · exact evk_166 f29 n s
  · exact evk_167 f29 n s
  · exact evk_168 f29 n s
  · exact evk_169 f29 n s
  · exact evk_170 f29 n s
  · exact evk_171 f29 n s
  · exact evk_172 f29 n s
  · exact evk_173 f29 n s
  · exact evk_174 f29 n s
  · exact evk_175 f29 n s
  · exact evk_176 f29 n s
  · exact evk_177 f29 n s
  · exact evk_178 f29 n s
  · exact evk_179 f29 n s
  · exact evk_180 f29 n s
  · exact evk_181 f29 n s
  · exact evk_182 f29 n s
  · exact evk_183 f29 n s
theorem evo_184 (f29 : dpα pa29 → Option pr29.α) (n : Int) (s : ByteArray) (j : Nat) (h1 : 184 ≤ j) (h2 : j < 202) : evc f29 (j : Int) n s = some (Dyn.nil, false, ()) := by
  have h : j = 184 ∨ j = 185 ∨ j = 186 ∨ j = 187 ∨ j = 188 ∨ j = 189 ∨ j = 190 ∨ j = 191 ∨ j = 192 ∨ j = 193 ∨ j = 194 ∨ j = 195 ∨ j = 196 ∨ j = 197 ∨ j = 198 ∨ j = 199 ∨ j = 200 ∨ j = 201 := by omega
  rcases h with rfl | rfl | rfl | rfl | rfl | rfl | rfl | rfl | rfl | rfl | rfl | rfl | rfl | rfl | rfl | rfl | rfl | rfl
  · exact evk_184 f29 n s
  · exact evk_185 f29 n s
  · exact evk_186 f29 n s
  · exact evk_187 f29 n s
  · exact evk_188 f29 n s
  · exact evk_189 f29 n s
  · exact evk_190 f29 n s
  · exact evk_191 f29 n s
  · exact evk_192 f29 n s
  · exact evk_193 f29 n s
  · exact evk_194 f29 n s
  · exact evk_195 f29 n s
  · exact evk_196 f29 n s
  · exact evk_197 f29 n s
  · exact evk_198 f29 n s
  · exact evk_199 f29 n s
  · exact evk_200 f29 n s
  · exact evk_201 f29 n s
theorem evo_202 (f29 : dpα pa29 → Option pr29.α) (n : Int) (s : ByteArray) (j : Nat) (h1 : 202 ≤ j) (h2 : j < 220) : evc f29 (j : Int) n s = some (Dyn.nil, false, ()) := by
  have h : j = 202 ∨ j = 203 ∨ j = 204 ∨ j = 205 ∨ j = 206 ∨ j = 207 ∨ j = 208 ∨ j = 209 ∨ j = 210 ∨ j = 211 ∨ j = 212 ∨ j = 213 ∨ j = 214 ∨ j = 215 ∨ j = 216 ∨ j = 217 ∨ j = 218 ∨ j = 219 := by omega
  rcases h with rfl | rfl | rfl | rfl | rfl | rfl | rfl | rfl | rfl | rfl | rfl | rfl | rfl | rfl | rfl | rfl | rfl | rfl
  · exact evk_202 f29 n s
  · exact evk_203 f29 n s
  · exact evk_204 f29 n s
  · exact evk_205 f29 n s
  · exact evk_206 f29 n s
  · exact evk_207 f29 n s
  · exact evk_208 f29 n s
  · exact evk_209 f29 n s
  · exact evk_210 f29 n s
  · exact evk_211 f29 n s
  · exact evk_212 f29 n s
  · exact evk_213 f29 n s
  · exact evk_214 f29 n s
  · exact evk_215 f29 n s
  · exact evk_216 f29 n s
  · exact evk_217 f29 n s
  · exact evk_218 f29 n s
  · exact evk_219 f29 n s
theorem evo_220 (f29 : dpα pa29 → Option pr29.α) (n : Int) (s : ByteArray) (j : Nat) (h1 : 220 ≤ j) (h2 : j < 238) : evc f29 (j : Int) n s = some (Dyn.nil, false, ()) := by
  have h : j = 220 ∨ j = 221 ∨ j = 222 ∨ j = 223 ∨ j = 224 ∨ j = 225 ∨ j = 226 ∨ j = 227 ∨ j = 228 ∨ j = 229 ∨ j = 230 ∨ j = 231 ∨ j = 232 ∨ j = 233 ∨ j = 234 ∨ j = 235 ∨ j = 236 ∨ j = 237 := by omega
  rcases h with rfl | rfl | rfl | rfl | rfl | rfl | rfl | rfl | rfl | rfl | rfl | rfl | rfl | rfl | rfl | rfl | rfl | rfl
  · exact evk_220 f29 n s
  · exact evk_221 f29 n s
  · exact evk_222 f29 n s
  · exact evk_223 f29 n s
  · exact evk_224 f29 n s
  · exact evk_225 f29 n s
  · exact evk_226 f29 n s
  · exact evk_227 f29 n s
  · exact evk_228 f29 n s
  · exact evk_229 f29 n s
  · exact evk_230 f29 n s
  · exact evk_231 f29 n s
  · exact evk_232 f29 n s
  · exact evk_233 f29 n s
  · exact evk_234 f29 n s
  · exact evk_235 f29 n s
  · exact evk_236 f29 n s
  · exact evk_237 f29 n s
theorem evo_238 (f29 : dpα pa29 → Option pr29.α) (n : Int) (s : ByteArray) (j : Nat) (h1 : 238 ≤ j) (h2 : j < 256) : evc f29 (j : Int) n s = some (Dyn.nil, false, ()) := by
  have h : j = 238 ∨ j = 239 ∨ j = 240 ∨ j = 241 ∨ j = 242 ∨ j = 243 ∨ j = 244 ∨ j = 245 ∨ j = 246 ∨ j = 247 ∨ j = 248 ∨ j = 249 ∨ j = 250 ∨ j = 251 ∨ j = 252 ∨ j = 253 ∨ j = 254 ∨ j = 255 := by omega
  rcases h with rfl | rfl | rfl | rfl | rfl | rfl | rfl | rfl | rfl | rfl | rfl | rfl | rfl | rfl | rfl | rfl | rfl | rfl
  · exact evk_238 f29 n s
  · exact evk_239 f29 n s
  · exact evk_240 f29 n s
  · exact evk_241 f29 n s
  · exact evk_242 f29 n s
  · exact evk_243 f29 n s
  · exact evk_244 f29 n s
  · exact evk_245 f29 n s
  · exact evk_246 f29 n s
  · exact evk_247 f29 n s
  · exact evk_248 f29 n s
  · exact evk_249 f29 n s
  · exact evk_250 f29 n s
  · exact evk_251 f29 n s
  · exact evk_252 f29 n s
  · exact evk_253 f29 n s
  · exact evk_254 f29 n s
  · exact evk_255 f29 n s
theorem evo (f29 : dpα pa29 → Option pr29.α) (n : Int) (s : ByteArray) (j : Nat) (h1 : 4 ≤ j) (h2 : j < 256) : evc f29 (j : Int) n s = some (Dyn.nil, false, ()) := by
  by_cases h4 : j < 22
  · exact evo_4 f29 n s j (by omega) h4
  by_cases h22 : j < 40
  · exact evo_22 f29 n s j (by omega) h22
  by_cases h40 : j < 58
  · exact evo_40 f29 n s j (by omega) h40
  by_cases h58 : j < 76
  · exact evo_58 f29 n s j (by omega) h58
  by_cases h76 : j < 94
  · exact evo_76 f29 n s j (by omega) h76
  by_cases h94 : j < 112
  · exact evo_94 f29 n s j (by omega) h94
  by_cases h112 : j < 130
  · exact evo_112 f29 n s j (by omega) h112
  by_cases h130 : j < 148
  · exact evo_130 f29 n s j (by omega) h130
  by_cases h148 : j < 166
  · exact evo_148 f29 n s j (by omega) h148
  by_cases h166 : j < 184
  · exact evo_166 f29 n s j (by omega) h166
  by_cases h184 : j < 202
  · exact evo_184 f29 n s j (by omega) h184
  by_cases h202 : j < 220
  · exact evo_202 f29 n s j (by omega) h202
  by_cases h220 : j < 238
  · exact evo_220 f29 n s j (by omega) h220
  exact evo_238 f29 n s j (by omega) h2
theorem ev30 (f29 : dpα pa29 → Option pr29.α) : ∀ x y, codec_cast.b f29 x = some y → ev (env30 f29) (bodyOf Tryd.f30) (start pa30 (Tryd.f30.ntmps - pa30.length) x) (endK (env30 f29) Tryd.f30.results.toList pr30) = some y := by
  rintro ⟨⟨k, n, s, _⟩, _⟩ y h
  show evc f29 k n s = some y
  rw [← h]
  simp only [codec_cast.b] at h ⊢
  by_cases h0 : k = 0
  · subst h0; exact evk_0 f29 n s
  · rw [if_neg h0] at h ⊢
    by_cases h1 : k = 1
    · subst h1; exact evk_1 f29 n s
    · rw [if_neg h1] at h ⊢
      by_cases h2 : k = 2
      · subst h2; exact evk_2 f29 n s
      · rw [if_neg h2] at h ⊢
        by_cases h3 : k = 3
        · subst h3; exact evk_3 f29 n s
        · rw [if_neg h3] at h ⊢
          by_cases h4 : 4 ≤ k ∧ k ≤ 255
          · rw [if_pos h4]
            obtain ⟨j, rfl⟩ : ∃ j : Nat, k = (j : Int) := ⟨k.toNat, by omega⟩
            exact evo f29 n s j (by omega) (by omega)
          · rw [if_neg h4] at h; cases h
theorem fun30_ok : FunOk Tryd.prog glob 30 (fun30 codec_cast) :=
  fun_ok_of (pa := pa30) (pr := pr30) codec_cast (env30 unicode_utf8_ValidString) Tryd.func30 (by kernel_rfl) (fun X hP hG => env30_ok hP hG) (fun X w0 hP hG => loopsOk_of [] (by kernel_rfl) trivial) (ev30 unicode_utf8_ValidString)
/-! muniment/octet.Uint -/
abbrev pa43 : List DP := [.sc (.int .u64)]
abbrev pr43 : RP := (.one (.own (.sc (.int .u8))))
def fun43 (f : dpα pa43 → Option pr43.α) : Fun := mkFun pa43 pr43 f
abbrev pi43_0 : List IP := [.sc (.int .u64), .junk, .junk, .obj [.arr (.sc (.int .u8)) 8], .junk, .sc (.int .i64), .junk, .junk, .junk, .junk, .junk, .junk, .junk, .junk, .junk, .junk, .junk, .junk]
abbrev px43_0 : List IP := [.junk, .junk, .junk, .obj [.arr (.sc (.int .u8)) 8], .junk, .junk, .junk, .junk, .junk, .junk, .junk, .junk, .junk, .junk, .junk, .junk, .junk, .junk]
def gam43 : List (Nat × Fun) := []
def agam43 : List (Nat × FunA) := []
def rgam43 : List (Nat × FunR) := []
def lam43 (l0 : ipα pi43_0 → (ipα px43_0 → Option pr43.α) → Option pr43.α) : List (Nat × LoopC pr43.α) := [(0, mkLoop pi43_0 px43_0 l0)]
def env43 (l0 : ipα pi43_0 → (ipα px43_0 → Option pr43.α) → Option pr43.α) : Env pr43.α := mkEnv pr43.α tyT gam43 rgam43 agam43 glob (lam43 l0)
theorem env43_ok {X : Cx} (hP : X.P = Tryd.prog) (hG : X.G = glob) : EnvOk X (env43 octet_Uint.l0) := envOk_of hP hG mixed_ok tyT_ok trivial trivial trivial
theorem st43_0 (l0 : ipα pi43_0 → (ipα px43_0 → Option pr43.α) → Option pr43.α) : ∀ s kx κ, octet_Uint.s0b kx s κ = ev (env43 l0) (innerOf 0 (bodyOf Tryd.f43)) (ipInj pi43_0 s) (roundK pi43_0 px43_0 0 (endK (env43 l0) Tryd.f43.results.toList pr43 .ret) kx κ) := by
  intro s kx κ; kernel_rfl
theorem lo43_0 {X : Cx} {w0 : World} (hP : X.P = Tryd.prog) (hG : X.G = glob) : LoopOk X w0 (mkLoop pi43_0 px43_0 octet_Uint.l0) (.loop (innerOf 0 (bodyOf Tryd.f43))) 0 (endK (env43 octet_Uint.l0) Tryd.f43.results.toList pr43 .ret) :=
  loop_ok (env43_ok hP hG) (by kernel_rfl) (by kernel_rfl) octet_Uint.s0 octet_Uint.n0 (fun _ _ => rfl) (loopsOk_of [] (by kernel_rfl) trivial) (st43_0 octet_Uint.l0 )
theorem ev43 (l0 : ipα pi43_0 → (ipα px43_0 → Option pr43.α) → Option pr43.α) : ∀ x, octet_Uint.b l0 x = ev (env43 l0) (bodyOf Tryd.f43) (start pa43 (Tryd.f43.ntmps - pa43.length) x) (endK (env43 l0) Tryd.f43.results.toList pr43) := by
  intro x; kernel_rfl
theorem fun43_ok : FunOk Tryd.prog glob 43 (fun43 octet_Uint) :=
  fun_ok (pa := pa43) (pr := pr43) octet_Uint (env43 octet_Uint.l0) Tryd.func43 (by kernel_rfl) (fun X hP hG => env43_ok hP hG) (fun X w0 hP hG => loopsOk_of [(0, .loop (innerOf 0 (bodyOf Tryd.f43)))] (by kernel_rfl) ⟨⟨_, by kernel_rfl, lo43_0 hP hG⟩, trivial⟩) (ev43 octet_Uint.l0 )
/-! muniment/octet.Int -/
abbrev pa31 : List DP := [.sc (.int .i64)]
abbrev pr31 : RP := (.one (.own (.sc (.int .u8))))
def fun31 (f : dpα pa31 → Option pr31.α) : Fun := mkFun pa31 pr31 f
def gam31 (f43 : dpα pa43 → Option pr43.α) : List (Nat × Fun) := [(43, fun43 f43)]
def agam31 (f43 : dpα pa43 → Option pr43.α) : List (Nat × FunA) := []
def rgam31 (f43 : dpα pa43 → Option pr43.α) : List (Nat × FunR) := []
def lam31 : List (Nat × LoopC pr31.α) := []
def env31 (f43 : dpα pa43 → Option pr43.α) : Env pr31.α := mkEnv pr31.α tyT (gam31 f43) (rgam31 f43) (agam31 f43) glob lam31
theorem env31_ok {X : Cx} (hP : X.P = Tryd.prog) (hG : X.G = glob) : EnvOk X (env31 octet_Uint) := envOk_of hP hG mixed_ok tyT_ok ⟨⟨fun43_ok, _, Tryd.func43, by kernel_rfl, by kernel_rfl⟩, trivial⟩ trivial trivial
theorem ev31 (f43 : dpα pa43 → Option pr43.α) : ∀ x, octet_Int.b f43 x = ev (env31 f43) (bodyOf Tryd.f31) (start pa31 (Tryd.f31.ntmps - pa31.length) x) (endK (env31 f43) Tryd.f31.results.toList pr31) := by
  intro x; kernel_rfl
theorem fun31_ok : FunOk Tryd.prog glob 31 (fun31 octet_Int) :=
  fun_ok (pa := pa31) (pr := pr31) octet_Int (env31 octet_Uint) Tryd.func31 (by kernel_rfl) (fun X hP hG => env31_ok hP hG) (fun X w0 hP hG => loopsOk_of [] (by kernel_rfl) trivial) (ev31 octet_Uint )
/-! muniment/codec.Encode -/
abbrev pa20 : List DP := [.own (.strc [(.int .u8), (.int .i64), .str])]
abbrev pr20 : RP := (.tup [.own (.sc (.int .u8)), .sc (.int .i64)])
def fun20 (f : dpα pa20 → Option pr20.α) : Fun := mkFun pa20 pr20 f
abbrev pi20_0 : List IP := [.junk, .junk, .junk, .junk, .own (.sc (.int .u8)), .junk, .junk, .junk, .junk, .junk, .junk, .junk, .junk, .junk, .junk, .junk, .junk, .junk, .junk, .junk, .junk, .junk, .ros (.strc [(.int .u8), (.int .i64), .str]), .sc (.int .i64), .sc (.int .i64), .junk, .junk, .junk, .junk, .junk, .junk, .junk, .junk, .junk, .junk, .junk, .junk, .junk, .junk, .junk, .junk, .junk, .junk, .junk, .junk, .junk, .junk, .junk, .junk, .junk, .junk, .junk, .junk, .junk, .junk, .junk, .junk, .junk, .junk, .junk, .junk, .junk, .junk, .junk, .junk, .junk, .junk, .junk, .junk, .junk, .junk, .junk, .junk, .junk, .junk, .junk, .junk, .junk, .junk, .junk, .junk]
abbrev px20_0 : List IP := [.junk, .junk, .junk, .junk, .own (.sc (.int .u8)), .junk, .junk, .junk, .junk, .junk, .junk, .junk, .junk, .junk, .junk, .junk, .junk, .junk, .junk, .junk, .junk, .junk, .junk, .junk, .junk, .junk, .junk, .junk, .junk, .junk, .junk, .junk, .junk, .junk, .junk, .junk, .junk, .junk, .junk, .junk, .junk, .junk, .junk, .junk, .junk, .junk, .junk, .junk, .junk, .junk, .junk, .junk, .junk, .junk, .junk, .junk, .junk, .junk, .junk, .junk, .junk, .junk, .junk, .junk, .junk, .junk, .junk, .junk, .junk, .junk, .junk, .junk, .junk, .junk, .junk, .junk, .junk, .junk, .junk, .junk, .junk]
def gam20 (f30 : dpα pa30 → Option pr30.α) (f31 : dpα pa31 → Option pr31.α) : List (Nat × Fun) := [(30, fun30 f30), (31, fun31 f31)]
def agam20 (f30 : dpα pa30 → Option pr30.α) (f31 : dpα pa31 → Option pr31.α) : List (Nat × FunA) := []
def rgam20 (f30 : dpα pa30 → Option pr30.α) (f31 : dpα pa31 → Option pr31.α) : List (Nat × FunR) := []
def lam20 (l0 : ipα pi20_0 → (ipα px20_0 → Option pr20.α) → Option pr20.α) : List (Nat × LoopC pr20.α) := [(0, mkLoop pi20_0 px20_0 l0)]
def env20 (f30 : dpα pa30 → Option pr30.α) (f31 : dpα pa31 → Option pr31.α) (l0 : ipα pi20_0 → (ipα px20_0 → Option pr20.α) → Option pr20.α) : Env pr20.α := mkEnv pr20.α tyT (gam20 f30 f31) (rgam20 f30 f31) (agam20 f30 f31) glob (lam20 l0)
theorem env20_ok {X : Cx} (hP : X.P = Tryd.prog) (hG : X.G = glob) : EnvOk X (env20 codec_cast octet_Int codec_Encode.l0) := envOk_of hP hG mixed_ok tyT_ok ⟨⟨fun30_ok, _, Tryd.func30, by kernel_rfl, by kernel_rfl⟩, ⟨fun31_ok, _, Tryd.func31, by kernel_rfl, by kernel_rfl⟩, trivial⟩ trivial trivial
theorem st20_0 (f30 : dpα pa30 → Option pr30.α) (f31 : dpα pa31 → Option pr31.α) (l0 : ipα pi20_0 → (ipα px20_0 → Option pr20.α) → Option pr20.α) : ∀ s kx κ, codec_Encode.s0b f30 f31 kx s κ = ev (env20 f30 f31 l0) (innerOf 0 (bodyOf Tryd.f20)) (ipInj pi20_0 s) (roundK pi20_0 px20_0 0 (endK (env20 f30 f31 l0) Tryd.f20.results.toList pr20 .ret) kx κ) := by
  intro s kx κ; kernel_rfl
theorem lo20_0 {X : Cx} {w0 : World} (hP : X.P = Tryd.prog) (hG : X.G = glob) : LoopOk X w0 (mkLoop pi20_0 px20_0 codec_Encode.l0) (.loop (innerOf 0 (bodyOf Tryd.f20))) 0 (endK (env20 codec_cast octet_Int codec_Encode.l0) Tryd.f20.results.toList pr20 .ret) :=
  loop_ok (env20_ok hP hG) (by kernel_rfl) (by kernel_rfl) codec_Encode.s0 codec_Encode.n0 (fun _ _ => rfl) (loopsOk_of [] (by kernel_rfl) trivial) (st20_0 codec_cast octet_Int codec_Encode.l0 )
theorem ev20 (f30 : dpα pa30 → Option pr30.α) (f31 : dpα pa31 → Option pr31.α) (l0 : ipα pi20_0 → (ipα px20_0 → Option pr20.α) → Option pr20.α) : ∀ x, codec_Encode.b l0 x = ev (env20 f30 f31 l0) (bodyOf Tryd.f20) (start pa20 (Tryd.f20.ntmps - pa20.length) x) (endK (env20 f30 f31 l0) Tryd.f20.results.toList pr20) := by
  intro x; kernel_rfl
theorem fun20_ok : FunOk Tryd.prog glob 20 (fun20 codec_Encode) :=
  fun_ok (pa := pa20) (pr := pr20) codec_Encode (env20 codec_cast octet_Int codec_Encode.l0) Tryd.func20 (by kernel_rfl) (fun X hP hG => env20_ok hP hG) (fun X w0 hP hG => loopsOk_of [(0, .loop (innerOf 0 (bodyOf Tryd.f20)))] (by kernel_rfl) ⟨⟨_, by kernel_rfl, lo20_0 hP hG⟩, trivial⟩) (ev20 codec_cast octet_Int codec_Encode.l0 )
/-! muniment/munimentlaw04.awake -/
abbrev pa11 : List DP := []
abbrev pr11 : RP := (.one (.sc .bool))
def fun11 (f : dpα pa11 → Option pr11.α) : Fun := mkFun pa11 pr11 f
def gam11 (f12 : dpα pa12 → Option pr12.α) (f20 : dpα pa20 → Option pr20.α) : List (Nat × Fun) := [(12, fun12 f12), (20, fun20 f20)]
def agam11 (f12 : dpα pa12 → Option pr12.α) (f20 : dpα pa20 → Option pr20.α) : List (Nat × FunA) := []
def rgam11 (f12 : dpα pa12 → Option pr12.α) (f20 : dpα pa20 → Option pr20.α) : List (Nat × FunR) := []
def lam11 : List (Nat × LoopC pr11.α) := []
def env11 (f12 : dpα pa12 → Option pr12.α) (f20 : dpα pa20 → Option pr20.α) : Env pr11.α := mkEnv pr11.α tyT (gam11 f12 f20) (rgam11 f12 f20) (agam11 f12 f20) glob lam11
theorem env11_ok {X : Cx} (hP : X.P = Tryd.prog) (hG : X.G = glob) : EnvOk X (env11 codec_Base codec_Encode) := envOk_of hP hG mixed_ok tyT_ok ⟨⟨fun12_ok, _, Tryd.func12, by kernel_rfl, by kernel_rfl⟩, ⟨fun20_ok, _, Tryd.func20, by kernel_rfl, by kernel_rfl⟩, trivial⟩ trivial trivial
theorem ev11 (f12 : dpα pa12 → Option pr12.α) (f20 : dpα pa20 → Option pr20.α) : ∀ x, w04_awake.b f12 f20 x = ev (env11 f12 f20) (bodyOf Tryd.f11) (start pa11 (Tryd.f11.ntmps - pa11.length) x) (endK (env11 f12 f20) Tryd.f11.results.toList pr11) := by
  intro x; kernel_rfl
theorem fun11_ok : FunOk Tryd.prog glob 11 (fun11 w04_awake) :=
  fun_ok (pa := pa11) (pr := pr11) w04_awake (env11 codec_Base codec_Encode) Tryd.func11 (by kernel_rfl) (fun X hP hG => env11_ok hP hG) (fun X w0 hP hG => loopsOk_of [] (by kernel_rfl) trivial) (ev11 codec_Base codec_Encode )
/-! muniment/munimentref04.Form -/
abbrev pa16 : List DP := [.strc [.one (.int .u8), .one (.int .i64), .one .str]]
abbrev pr16 : RP := (.one (.sc .bool))
def fun16 (f : dpα pa16 → Option pr16.α) : Fun := mkFun pa16 pr16 f
def gam16 (f29 : dpα pa29 → Option pr29.α) : List (Nat × Fun) := [(29, fun29 f29)]
def agam16 (f29 : dpα pa29 → Option pr29.α) : List (Nat × FunA) := []
def rgam16 (f29 : dpα pa29 → Option pr29.α) : List (Nat × FunR) := []
def lam16 : List (Nat × LoopC pr16.α) := []
def env16 (f29 : dpα pa29 → Option pr29.α) : Env pr16.α := mkEnv pr16.α tyT (gam16 f29) (rgam16 f29) (agam16 f29) glob lam16
theorem env16_ok {X : Cx} (hP : X.P = Tryd.prog) (hG : X.G = glob) : EnvOk X (env16 unicode_utf8_ValidString) := envOk_of hP hG mixed_ok tyT_ok ⟨⟨fun29_ok, _, Tryd.func29, by kernel_rfl, by kernel_rfl⟩, trivial⟩ trivial trivial
theorem ev16 (f29 : dpα pa29 → Option pr29.α) : ∀ x, r04_Form.b f29 x = ev (env16 f29) (bodyOf Tryd.f16) (start pa16 (Tryd.f16.ntmps - pa16.length) x) (endK (env16 f29) Tryd.f16.results.toList pr16) := by
  intro x; kernel_rfl
theorem fun16_ok : FunOk Tryd.prog glob 16 (fun16 r04_Form) :=
  fun_ok (pa := pa16) (pr := pr16) r04_Form (env16 unicode_utf8_ValidString) Tryd.func16 (by kernel_rfl) (fun X hP hG => env16_ok hP hG) (fun X w0 hP hG => loopsOk_of [] (by kernel_rfl) trivial) (ev16 unicode_utf8_ValidString )
/-! muniment/octet.Text -/
abbrev pa32 : List DP := [.sc .str]
abbrev pr32 : RP := (.one (.own (.sc (.int .u8))))
def fun32 (f : dpα pa32 → Option pr32.α) : Fun := mkFun pa32 pr32 f
abbrev pi32_0 : List IP := [.sc .str, .junk, .junk, .own (.sc (.int .u8)), .junk, .junk, .sc (.int .i64), .sc (.int .i64), .junk, .junk, .junk, .junk, .junk, .junk, .junk, .junk, .junk, .junk, .junk, .junk, .junk, .junk, .junk, .junk, .junk, .junk, .junk]
abbrev px32_0 : List IP := [.junk, .junk, .junk, .own (.sc (.int .u8)), .junk, .junk, .junk, .junk, .junk, .junk, .junk, .junk, .junk, .junk, .junk, .junk, .junk, .junk, .junk, .junk, .junk, .junk, .junk, .junk, .junk, .junk, .junk]
def gam32 : List (Nat × Fun) := []
def agam32 : List (Nat × FunA) := []
def rgam32 : List (Nat × FunR) := []
def lam32 (l0 : ipα pi32_0 → (ipα px32_0 → Option pr32.α) → Option pr32.α) : List (Nat × LoopC pr32.α) := [(0, mkLoop pi32_0 px32_0 l0)]
def env32 (l0 : ipα pi32_0 → (ipα px32_0 → Option pr32.α) → Option pr32.α) : Env pr32.α := mkEnv pr32.α tyT gam32 rgam32 agam32 glob (lam32 l0)
theorem env32_ok {X : Cx} (hP : X.P = Tryd.prog) (hG : X.G = glob) : EnvOk X (env32 octet_Text.l0) := envOk_of hP hG mixed_ok tyT_ok trivial trivial trivial
theorem st32_0 (l0 : ipα pi32_0 → (ipα px32_0 → Option pr32.α) → Option pr32.α) : ∀ s kx κ, octet_Text.s0b kx s κ = ev (env32 l0) (innerOf 0 (bodyOf Tryd.f32)) (ipInj pi32_0 s) (roundK pi32_0 px32_0 0 (endK (env32 l0) Tryd.f32.results.toList pr32 .ret) kx κ) := by
  intro s kx κ; kernel_rfl
theorem lo32_0 {X : Cx} {w0 : World} (hP : X.P = Tryd.prog) (hG : X.G = glob) : LoopOk X w0 (mkLoop pi32_0 px32_0 octet_Text.l0) (.loop (innerOf 0 (bodyOf Tryd.f32))) 0 (endK (env32 octet_Text.l0) Tryd.f32.results.toList pr32 .ret) :=
  loop_ok (env32_ok hP hG) (by kernel_rfl) (by kernel_rfl) octet_Text.s0 octet_Text.n0 (fun _ _ => rfl) (loopsOk_of [] (by kernel_rfl) trivial) (st32_0 octet_Text.l0 )
theorem ev32 (l0 : ipα pi32_0 → (ipα px32_0 → Option pr32.α) → Option pr32.α) : ∀ x, octet_Text.b l0 x = ev (env32 l0) (bodyOf Tryd.f32) (start pa32 (Tryd.f32.ntmps - pa32.length) x) (endK (env32 l0) Tryd.f32.results.toList pr32) := by
  intro x; kernel_rfl
theorem fun32_ok : FunOk Tryd.prog glob 32 (fun32 octet_Text) :=
  fun_ok (pa := pa32) (pr := pr32) octet_Text (env32 octet_Text.l0) Tryd.func32 (by kernel_rfl) (fun X hP hG => env32_ok hP hG) (fun X w0 hP hG => loopsOk_of [(0, .loop (innerOf 0 (bodyOf Tryd.f32)))] (by kernel_rfl) ⟨⟨_, by kernel_rfl, lo32_0 hP hG⟩, trivial⟩) (ev32 octet_Text.l0 )
/-! muniment/codec.Key -/
abbrev pa17 : List DP := [.strc [.one (.int .u8), .one (.int .i64), .one .str]]
abbrev pr17 : RP := (.tup [.own (.sc (.int .u8)), .sc (.int .i64)])
def fun17 (f : dpα pa17 → Option pr17.α) : Fun := mkFun pa17 pr17 f
def gam17 (f30 : dpα pa30 → Option pr30.α) (f31 : dpα pa31 → Option pr31.α) (f32 : dpα pa32 → Option pr32.α) : List (Nat × Fun) := [(30, fun30 f30), (31, fun31 f31), (32, fun32 f32)]
def agam17 (f30 : dpα pa30 → Option pr30.α) (f31 : dpα pa31 → Option pr31.α) (f32 : dpα pa32 → Option pr32.α) : List (Nat × FunA) := []
def rgam17 (f30 : dpα pa30 → Option pr30.α) (f31 : dpα pa31 → Option pr31.α) (f32 : dpα pa32 → Option pr32.α) : List (Nat × FunR) := []
def lam17 : List (Nat × LoopC pr17.α) := []
def env17 (f30 : dpα pa30 → Option pr30.α) (f31 : dpα pa31 → Option pr31.α) (f32 : dpα pa32 → Option pr32.α) : Env pr17.α := mkEnv pr17.α tyT (gam17 f30 f31 f32) (rgam17 f30 f31 f32) (agam17 f30 f31 f32) glob lam17
theorem env17_ok {X : Cx} (hP : X.P = Tryd.prog) (hG : X.G = glob) : EnvOk X (env17 codec_cast octet_Int octet_Text) := envOk_of hP hG mixed_ok tyT_ok ⟨⟨fun30_ok, _, Tryd.func30, by kernel_rfl, by kernel_rfl⟩, ⟨fun31_ok, _, Tryd.func31, by kernel_rfl, by kernel_rfl⟩, ⟨fun32_ok, _, Tryd.func32, by kernel_rfl, by kernel_rfl⟩, trivial⟩ trivial trivial
theorem ev17 (f30 : dpα pa30 → Option pr30.α) (f31 : dpα pa31 → Option pr31.α) (f32 : dpα pa32 → Option pr32.α) : ∀ x, codec_Key.b f30 f31 f32 x = ev (env17 f30 f31 f32) (bodyOf Tryd.f17) (start pa17 (Tryd.f17.ntmps - pa17.length) x) (endK (env17 f30 f31 f32) Tryd.f17.results.toList pr17) := by
  intro x; kernel_rfl
theorem fun17_ok : FunOk Tryd.prog glob 17 (fun17 codec_Key) :=
  fun_ok (pa := pa17) (pr := pr17) codec_Key (env17 codec_cast octet_Int octet_Text) Tryd.func17 (by kernel_rfl) (fun X hP hG => env17_ok hP hG) (fun X w0 hP hG => loopsOk_of [] (by kernel_rfl) trivial) (ev17 codec_cast octet_Int octet_Text )
/-! muniment/munimentref04.Less -/
abbrev pa18 : List DP := [.strc [.one (.int .u8), .one (.int .i64), .one .str], .strc [.one (.int .u8), .one (.int .i64), .one .str]]
abbrev pr18 : RP := (.one (.sc .bool))
def fun18 (f : dpα pa18 → Option pr18.α) : Fun := mkFun pa18 pr18 f
def gam18 : List (Nat × Fun) := []
def agam18 : List (Nat × FunA) := []
def rgam18 : List (Nat × FunR) := []
def lam18 : List (Nat × LoopC pr18.α) := []
def env18 : Env pr18.α := mkEnv pr18.α tyT gam18 rgam18 agam18 glob lam18
theorem env18_ok {X : Cx} (hP : X.P = Tryd.prog) (hG : X.G = glob) : EnvOk X env18 := envOk_of hP hG mixed_ok tyT_ok trivial trivial trivial
theorem ev18 : ∀ x, r04_Less.b x = ev env18 (bodyOf Tryd.f18) (start pa18 (Tryd.f18.ntmps - pa18.length) x) (endK env18 Tryd.f18.results.toList pr18) := by
  intro x; kernel_rfl
theorem fun18_ok : FunOk Tryd.prog glob 18 (fun18 r04_Less) :=
  fun_ok (pa := pa18) (pr := pr18) r04_Less env18 Tryd.func18 (by kernel_rfl) (fun X hP hG => env18_ok hP hG) (fun X w0 hP hG => loopsOk_of [] (by kernel_rfl) trivial) (ev18 )
/-! muniment/codec.Form -/
abbrev pa19 : List DP := [.strc [.one (.int .u8), .one (.int .i64), .one .str]]
abbrev pr19 : RP := (.one (.sc .bool))
def fun19 (f : dpα pa19 → Option pr19.α) : Fun := mkFun pa19 pr19 f
def gam19 (f30 : dpα pa30 → Option pr30.α) : List (Nat × Fun) := [(30, fun30 f30)]
def agam19 (f30 : dpα pa30 → Option pr30.α) : List (Nat × FunA) := []
def rgam19 (f30 : dpα pa30 → Option pr30.α) : List (Nat × FunR) := []
def lam19 : List (Nat × LoopC pr19.α) := []
def env19 (f30 : dpα pa30 → Option pr30.α) : Env pr19.α := mkEnv pr19.α tyT (gam19 f30) (rgam19 f30) (agam19 f30) glob lam19
theorem env19_ok {X : Cx} (hP : X.P = Tryd.prog) (hG : X.G = glob) : EnvOk X (env19 codec_cast) := envOk_of hP hG mixed_ok tyT_ok ⟨⟨fun30_ok, _, Tryd.func30, by kernel_rfl, by kernel_rfl⟩, trivial⟩ trivial trivial
theorem ev19 (f30 : dpα pa30 → Option pr30.α) : ∀ x, codec_Form.b f30 x = ev (env19 f30) (bodyOf Tryd.f19) (start pa19 (Tryd.f19.ntmps - pa19.length) x) (endK (env19 f30) Tryd.f19.results.toList pr19) := by
  intro x; kernel_rfl
theorem fun19_ok : FunOk Tryd.prog glob 19 (fun19 codec_Form) :=
  fun_ok (pa := pa19) (pr := pr19) codec_Form (env19 codec_cast) Tryd.func19 (by kernel_rfl) (fun X hP hG => env19_ok hP hG) (fun X w0 hP hG => loopsOk_of [] (by kernel_rfl) trivial) (ev19 codec_cast )
/-! muniment/munimentref02.Uint -/
abbrev pa44 : List DP := [.sc (.int .u64)]
abbrev pr44 : RP := (.one (.own (.sc (.int .u8))))
def fun44 (f : dpα pa44 → Option pr44.α) : Fun := mkFun pa44 pr44 f
abbrev pi44_0 : List IP := [.sc (.int .u64), .junk, .junk, .own (.sc (.int .u8)), .sc (.int .i64), .junk, .junk, .junk, .junk, .junk, .junk, .junk, .junk, .junk, .junk, .junk, .junk, .junk]
abbrev px44_0 : List IP := [.junk, .junk, .junk, .own (.sc (.int .u8)), .junk, .junk, .junk, .junk, .junk, .junk, .junk, .junk, .junk, .junk, .junk, .junk, .junk, .junk]
def gam44 : List (Nat × Fun) := []
def agam44 : List (Nat × FunA) := []
def rgam44 : List (Nat × FunR) := []
def lam44 (l0 : ipα pi44_0 → (ipα px44_0 → Option pr44.α) → Option pr44.α) : List (Nat × LoopC pr44.α) := [(0, mkLoop pi44_0 px44_0 l0)]
def env44 (l0 : ipα pi44_0 → (ipα px44_0 → Option pr44.α) → Option pr44.α) : Env pr44.α := mkEnv pr44.α tyT gam44 rgam44 agam44 glob (lam44 l0)
theorem env44_ok {X : Cx} (hP : X.P = Tryd.prog) (hG : X.G = glob) : EnvOk X (env44 r02_Uint.l0) := envOk_of hP hG mixed_ok tyT_ok trivial trivial trivial
theorem st44_0 (l0 : ipα pi44_0 → (ipα px44_0 → Option pr44.α) → Option pr44.α) : ∀ s kx κ, r02_Uint.s0b kx s κ = ev (env44 l0) (innerOf 0 (bodyOf Tryd.f44)) (ipInj pi44_0 s) (roundK pi44_0 px44_0 0 (endK (env44 l0) Tryd.f44.results.toList pr44 .ret) kx κ) := by
  intro s kx κ; kernel_rfl
theorem lo44_0 {X : Cx} {w0 : World} (hP : X.P = Tryd.prog) (hG : X.G = glob) : LoopOk X w0 (mkLoop pi44_0 px44_0 r02_Uint.l0) (.loop (innerOf 0 (bodyOf Tryd.f44))) 0 (endK (env44 r02_Uint.l0) Tryd.f44.results.toList pr44 .ret) :=
  loop_ok (env44_ok hP hG) (by kernel_rfl) (by kernel_rfl) r02_Uint.s0 r02_Uint.n0 (fun _ _ => rfl) (loopsOk_of [] (by kernel_rfl) trivial) (st44_0 r02_Uint.l0 )
theorem ev44 (l0 : ipα pi44_0 → (ipα px44_0 → Option pr44.α) → Option pr44.α) : ∀ x, r02_Uint.b l0 x = ev (env44 l0) (bodyOf Tryd.f44) (start pa44 (Tryd.f44.ntmps - pa44.length) x) (endK (env44 l0) Tryd.f44.results.toList pr44) := by
  intro x; kernel_rfl
theorem fun44_ok : FunOk Tryd.prog glob 44 (fun44 r02_Uint) :=
  fun_ok (pa := pa44) (pr := pr44) r02_Uint (env44 r02_Uint.l0) Tryd.func44 (by kernel_rfl) (fun X hP hG => env44_ok hP hG) (fun X w0 hP hG => loopsOk_of [(0, .loop (innerOf 0 (bodyOf Tryd.f44)))] (by kernel_rfl) ⟨⟨_, by kernel_rfl, lo44_0 hP hG⟩, trivial⟩) (ev44 r02_Uint.l0 )
/-! muniment/munimentref02.Int -/
abbrev pa33 : List DP := [.sc (.int .i64)]
abbrev pr33 : RP := (.one (.own (.sc (.int .u8))))
def fun33 (f : dpα pa33 → Option pr33.α) : Fun := mkFun pa33 pr33 f
def gam33 (f44 : dpα pa44 → Option pr44.α) : List (Nat × Fun) := [(44, fun44 f44)]
def agam33 (f44 : dpα pa44 → Option pr44.α) : List (Nat × FunA) := []
def rgam33 (f44 : dpα pa44 → Option pr44.α) : List (Nat × FunR) := []
def lam33 : List (Nat × LoopC pr33.α) := []
def env33 (f44 : dpα pa44 → Option pr44.α) : Env pr33.α := mkEnv pr33.α tyT (gam33 f44) (rgam33 f44) (agam33 f44) glob lam33
theorem env33_ok {X : Cx} (hP : X.P = Tryd.prog) (hG : X.G = glob) : EnvOk X (env33 r02_Uint) := envOk_of hP hG mixed_ok tyT_ok ⟨⟨fun44_ok, _, Tryd.func44, by kernel_rfl, by kernel_rfl⟩, trivial⟩ trivial trivial
theorem ev33 (f44 : dpα pa44 → Option pr44.α) : ∀ x, r02_Int.b f44 x = ev (env33 f44) (bodyOf Tryd.f33) (start pa33 (Tryd.f33.ntmps - pa33.length) x) (endK (env33 f44) Tryd.f33.results.toList pr33) := by
  intro x; kernel_rfl
theorem fun33_ok : FunOk Tryd.prog glob 33 (fun33 r02_Int) :=
  fun_ok (pa := pa33) (pr := pr33) r02_Int (env33 r02_Uint) Tryd.func33 (by kernel_rfl) (fun X hP hG => env33_ok hP hG) (fun X w0 hP hG => loopsOk_of [] (by kernel_rfl) trivial) (ev33 r02_Uint )
/-! muniment/munimentref04.Encode -/
abbrev pa21 : List DP := [.own (.strc [(.int .u8), (.int .i64), .str])]
abbrev pr21 : RP := (.tup [.own (.sc (.int .u8)), .sc (.int .i64)])
def fun21 (f : dpα pa21 → Option pr21.α) : Fun := mkFun pa21 pr21 f
abbrev pi21_0 : List IP := [.ros (.strc [(.int .u8), (.int .i64), .str]), .junk, .junk, .junk, .own (.sc (.int .u8)), .sc (.int .i64), .junk, .junk, .junk, .junk, .junk, .junk, .junk, .junk, .junk, .junk, .junk, .junk, .junk, .junk, .junk, .junk, .junk, .junk, .junk, .junk, .junk, .junk, .junk, .junk, .junk, .junk, .junk, .junk, .junk, .junk, .junk, .junk, .junk, .junk, .junk, .junk, .junk, .junk, .junk, .junk, .junk, .junk, .junk, .junk, .junk, .junk, .junk, .junk, .junk, .junk, .junk, .junk, .junk, .junk, .junk, .junk, .junk]
abbrev px21_0 : List IP := [.junk, .junk, .junk, .junk, .own (.sc (.int .u8)), .junk, .junk, .junk, .junk, .junk, .junk, .junk, .junk, .junk, .junk, .junk, .junk, .junk, .junk, .junk, .junk, .junk, .junk, .junk, .junk, .junk, .junk, .junk, .junk, .junk, .junk, .junk, .junk, .junk, .junk, .junk, .junk, .junk, .junk, .junk, .junk, .junk, .junk, .junk, .junk, .junk, .junk, .junk, .junk, .junk, .junk, .junk, .junk, .junk, .junk, .junk, .junk, .junk, .junk, .junk, .junk, .junk, .junk]
def gam21 (f16 : dpα pa16 → Option pr16.α) (f33 : dpα pa33 → Option pr33.α) : List (Nat × Fun) := [(16, fun16 f16), (33, fun33 f33)]
def agam21 (f16 : dpα pa16 → Option pr16.α) (f33 : dpα pa33 → Option pr33.α) : List (Nat × FunA) := []
def rgam21 (f16 : dpα pa16 → Option pr16.α) (f33 : dpα pa33 → Option pr33.α) : List (Nat × FunR) := []
def lam21 (l0 : ipα pi21_0 → (ipα px21_0 → Option pr21.α) → Option pr21.α) : List (Nat × LoopC pr21.α) := [(0, mkLoop pi21_0 px21_0 l0)]
def env21 (f16 : dpα pa16 → Option pr16.α) (f33 : dpα pa33 → Option pr33.α) (l0 : ipα pi21_0 → (ipα px21_0 → Option pr21.α) → Option pr21.α) : Env pr21.α := mkEnv pr21.α tyT (gam21 f16 f33) (rgam21 f16 f33) (agam21 f16 f33) glob (lam21 l0)
theorem env21_ok {X : Cx} (hP : X.P = Tryd.prog) (hG : X.G = glob) : EnvOk X (env21 r04_Form r02_Int r04_Encode.l0) := envOk_of hP hG mixed_ok tyT_ok ⟨⟨fun16_ok, _, Tryd.func16, by kernel_rfl, by kernel_rfl⟩, ⟨fun33_ok, _, Tryd.func33, by kernel_rfl, by kernel_rfl⟩, trivial⟩ trivial trivial
theorem st21_0 (f16 : dpα pa16 → Option pr16.α) (f33 : dpα pa33 → Option pr33.α) (l0 : ipα pi21_0 → (ipα px21_0 → Option pr21.α) → Option pr21.α) : ∀ s kx κ, r04_Encode.s0b f16 f33 kx s κ = ev (env21 f16 f33 l0) (innerOf 0 (bodyOf Tryd.f21)) (ipInj pi21_0 s) (roundK pi21_0 px21_0 0 (endK (env21 f16 f33 l0) Tryd.f21.results.toList pr21 .ret) kx κ) := by
  intro s kx κ; kernel_rfl
theorem lo21_0 {X : Cx} {w0 : World} (hP : X.P = Tryd.prog) (hG : X.G = glob) : LoopOk X w0 (mkLoop pi21_0 px21_0 r04_Encode.l0) (.loop (innerOf 0 (bodyOf Tryd.f21))) 0 (endK (env21 r04_Form r02_Int r04_Encode.l0) Tryd.f21.results.toList pr21 .ret) :=
  loop_ok (env21_ok hP hG) (by kernel_rfl) (by kernel_rfl) r04_Encode.s0 r04_Encode.n0 (fun _ _ => rfl) (loopsOk_of [] (by kernel_rfl) trivial) (st21_0 r04_Form r02_Int r04_Encode.l0 )
theorem ev21 (f16 : dpα pa16 → Option pr16.α) (f33 : dpα pa33 → Option pr33.α) (l0 : ipα pi21_0 → (ipα px21_0 → Option pr21.α) → Option pr21.α) : ∀ x, r04_Encode.b l0 x = ev (env21 f16 f33 l0) (bodyOf Tryd.f21) (start pa21 (Tryd.f21.ntmps - pa21.length) x) (endK (env21 f16 f33 l0) Tryd.f21.results.toList pr21) := by
  intro x; kernel_rfl
theorem fun21_ok : FunOk Tryd.prog glob 21 (fun21 r04_Encode) :=
  fun_ok (pa := pa21) (pr := pr21) r04_Encode (env21 r04_Form r02_Int r04_Encode.l0) Tryd.func21 (by kernel_rfl) (fun X hP hG => env21_ok hP hG) (fun X w0 hP hG => loopsOk_of [(0, .loop (innerOf 0 (bodyOf Tryd.f21)))] (by kernel_rfl) ⟨⟨_, by kernel_rfl, lo21_0 hP hG⟩, trivial⟩) (ev21 r04_Form r02_Int r04_Encode.l0 )
/-! muniment/munimentref04.Same -/
abbrev pa23 : List DP := [.own (.strc [(.int .u8), (.int .i64), .str]), .own (.strc [(.int .u8), (.int .i64), .str])]
abbrev pr23 : RP := (.one (.sc .bool))
def fun23 (f : dpα pa23 → Option pr23.α) : Fun := mkFun pa23 pr23 f
abbrev pi23_0 : List IP := [.ros (.strc [(.int .u8), (.int .i64), .str]), .ros (.strc [(.int .u8), (.int .i64), .str]), .junk, .junk, .junk, .sc (.int .i64), .junk, .junk, .junk, .junk, .junk, .junk, .junk, .junk, .junk, .junk, .junk, .junk, .junk, .junk, .junk, .junk, .junk, .junk, .junk, .junk]
abbrev px23_0 : List IP := [.junk, .junk, .junk, .junk, .junk, .junk, .junk, .junk, .junk, .junk, .junk, .junk, .junk, .junk, .junk, .junk, .junk, .junk, .junk, .junk, .junk, .junk, .junk, .junk, .junk, .junk]
def gam23 : List (Nat × Fun) := []
def agam23 : List (Nat × FunA) := []
def rgam23 : List (Nat × FunR) := []
def lam23 (l0 : ipα pi23_0 → (ipα px23_0 → Option pr23.α) → Option pr23.α) : List (Nat × LoopC pr23.α) := [(0, mkLoop pi23_0 px23_0 l0)]
def env23 (l0 : ipα pi23_0 → (ipα px23_0 → Option pr23.α) → Option pr23.α) : Env pr23.α := mkEnv pr23.α tyT gam23 rgam23 agam23 glob (lam23 l0)
theorem env23_ok {X : Cx} (hP : X.P = Tryd.prog) (hG : X.G = glob) : EnvOk X (env23 r04_Same.l0) := envOk_of hP hG mixed_ok tyT_ok trivial trivial trivial
theorem st23_0 (l0 : ipα pi23_0 → (ipα px23_0 → Option pr23.α) → Option pr23.α) : ∀ s kx κ, r04_Same.s0b kx s κ = ev (env23 l0) (innerOf 0 (bodyOf Tryd.f23)) (ipInj pi23_0 s) (roundK pi23_0 px23_0 0 (endK (env23 l0) Tryd.f23.results.toList pr23 .ret) kx κ) := by
  intro s kx κ; kernel_rfl
theorem lo23_0 {X : Cx} {w0 : World} (hP : X.P = Tryd.prog) (hG : X.G = glob) : LoopOk X w0 (mkLoop pi23_0 px23_0 r04_Same.l0) (.loop (innerOf 0 (bodyOf Tryd.f23))) 0 (endK (env23 r04_Same.l0) Tryd.f23.results.toList pr23 .ret) :=
  loop_ok (env23_ok hP hG) (by kernel_rfl) (by kernel_rfl) r04_Same.s0 r04_Same.n0 (fun _ _ => rfl) (loopsOk_of [] (by kernel_rfl) trivial) (st23_0 r04_Same.l0 )
theorem ev23 (l0 : ipα pi23_0 → (ipα px23_0 → Option pr23.α) → Option pr23.α) : ∀ x, r04_Same.b l0 x = ev (env23 l0) (bodyOf Tryd.f23) (start pa23 (Tryd.f23.ntmps - pa23.length) x) (endK (env23 l0) Tryd.f23.results.toList pr23) := by
  intro x; kernel_rfl
theorem fun23_ok : FunOk Tryd.prog glob 23 (fun23 r04_Same) :=
  fun_ok (pa := pa23) (pr := pr23) r04_Same (env23 r04_Same.l0) Tryd.func23 (by kernel_rfl) (fun X hP hG => env23_ok hP hG) (fun X w0 hP hG => loopsOk_of [(0, .loop (innerOf 0 (bodyOf Tryd.f23)))] (by kernel_rfl) ⟨⟨_, by kernel_rfl, lo23_0 hP hG⟩, trivial⟩) (ev23 r04_Same.l0 )
/-! muniment/munimentref02.ReadUint -/
abbrev pa45 : List DP := [.own (.sc (.int .u8)), .sc (.int .i64)]
abbrev pr45 : RP := (.tup [.sc (.int .u64), .sc (.int .i64), .sc (.int .i64)])
def fun45 (f : dpα pa45 → Option pr45.α) : Fun := mkFun pa45 pr45 f
abbrev pi45_0 : List IP := [.ros (.sc (.int .u8)), .sc (.int .i64), .junk, .junk, .junk, .junk, .junk, .sc (.int .u64), .sc (.int .i64), .junk, .junk, .junk, .junk, .junk, .junk, .junk, .junk, .junk, .junk, .junk, .junk, .junk, .junk, .junk, .junk, .junk, .junk, .junk, .junk, .junk, .junk, .junk, .junk, .junk, .junk, .junk, .junk, .junk, .junk]
abbrev px45_0 : List IP := [.junk, .sc (.int .i64), .junk, .junk, .junk, .junk, .junk, .sc (.int .u64), .junk, .junk, .junk, .junk, .junk, .junk, .junk, .junk, .junk, .junk, .junk, .junk, .junk, .junk, .junk, .junk, .junk, .junk, .junk, .junk, .junk, .junk, .junk, .junk, .junk, .junk, .junk, .junk, .junk, .junk, .junk]
def gam45 : List (Nat × Fun) := []
def agam45 : List (Nat × FunA) := []
def rgam45 : List (Nat × FunR) := []
def lam45 (l0 : ipα pi45_0 → (ipα px45_0 → Option pr45.α) → Option pr45.α) : List (Nat × LoopC pr45.α) := [(0, mkLoop pi45_0 px45_0 l0)]
def env45 (l0 : ipα pi45_0 → (ipα px45_0 → Option pr45.α) → Option pr45.α) : Env pr45.α := mkEnv pr45.α tyT gam45 rgam45 agam45 glob (lam45 l0)
theorem env45_ok {X : Cx} (hP : X.P = Tryd.prog) (hG : X.G = glob) : EnvOk X (env45 r02_ReadUint.l0) := envOk_of hP hG mixed_ok tyT_ok trivial trivial trivial
theorem st45_0 (l0 : ipα pi45_0 → (ipα px45_0 → Option pr45.α) → Option pr45.α) : ∀ s kx κ, r02_ReadUint.s0b kx s κ = ev (env45 l0) (innerOf 0 (bodyOf Tryd.f45)) (ipInj pi45_0 s) (roundK pi45_0 px45_0 0 (endK (env45 l0) Tryd.f45.results.toList pr45 .ret) kx κ) := by
  intro s kx κ; kernel_rfl
theorem lo45_0 {X : Cx} {w0 : World} (hP : X.P = Tryd.prog) (hG : X.G = glob) : LoopOk X w0 (mkLoop pi45_0 px45_0 r02_ReadUint.l0) (.loop (innerOf 0 (bodyOf Tryd.f45))) 0 (endK (env45 r02_ReadUint.l0) Tryd.f45.results.toList pr45 .ret) :=
  loop_ok (env45_ok hP hG) (by kernel_rfl) (by kernel_rfl) r02_ReadUint.s0 r02_ReadUint.n0 (fun _ _ => rfl) (loopsOk_of [] (by kernel_rfl) trivial) (st45_0 r02_ReadUint.l0 )
theorem ev45 (l0 : ipα pi45_0 → (ipα px45_0 → Option pr45.α) → Option pr45.α) : ∀ x, r02_ReadUint.b l0 x = ev (env45 l0) (bodyOf Tryd.f45) (start pa45 (Tryd.f45.ntmps - pa45.length) x) (endK (env45 l0) Tryd.f45.results.toList pr45) := by
  intro x; kernel_rfl
theorem fun45_ok : FunOk Tryd.prog glob 45 (fun45 r02_ReadUint) :=
  fun_ok (pa := pa45) (pr := pr45) r02_ReadUint (env45 r02_ReadUint.l0) Tryd.func45 (by kernel_rfl) (fun X hP hG => env45_ok hP hG) (fun X w0 hP hG => loopsOk_of [(0, .loop (innerOf 0 (bodyOf Tryd.f45)))] (by kernel_rfl) ⟨⟨_, by kernel_rfl, lo45_0 hP hG⟩, trivial⟩) (ev45 r02_ReadUint.l0 )
/-! muniment/munimentref02.ReadInt -/
abbrev pa37 : List DP := [.own (.sc (.int .u8)), .sc (.int .i64)]
abbrev pr37 : RP := (.tup [.sc (.int .i64), .sc (.int .i64), .sc (.int .i64)])
def fun37 (f : dpα pa37 → Option pr37.α) : Fun := mkFun pa37 pr37 f
def gam37 (f45 : dpα pa45 → Option pr45.α) : List (Nat × Fun) := [(45, fun45 f45)]
def agam37 (f45 : dpα pa45 → Option pr45.α) : List (Nat × FunA) := []
def rgam37 (f45 : dpα pa45 → Option pr45.α) : List (Nat × FunR) := []
def lam37 : List (Nat × LoopC pr37.α) := []
def env37 (f45 : dpα pa45 → Option pr45.α) : Env pr37.α := mkEnv pr37.α tyT (gam37 f45) (rgam37 f45) (agam37 f45) glob lam37
theorem env37_ok {X : Cx} (hP : X.P = Tryd.prog) (hG : X.G = glob) : EnvOk X (env37 r02_ReadUint) := envOk_of hP hG mixed_ok tyT_ok ⟨⟨fun45_ok, _, Tryd.func45, by kernel_rfl, by kernel_rfl⟩, trivial⟩ trivial trivial
theorem ev37 (f45 : dpα pa45 → Option pr45.α) : ∀ x, r02_ReadInt.b f45 x = ev (env37 f45) (bodyOf Tryd.f37) (start pa37 (Tryd.f37.ntmps - pa37.length) x) (endK (env37 f45) Tryd.f37.results.toList pr37) := by
  intro x; kernel_rfl
theorem fun37_ok : FunOk Tryd.prog glob 37 (fun37 r02_ReadInt) :=
  fun_ok (pa := pa37) (pr := pr37) r02_ReadInt (env37 r02_ReadUint) Tryd.func37 (by kernel_rfl) (fun X hP hG => env37_ok hP hG) (fun X w0 hP hG => loopsOk_of [] (by kernel_rfl) trivial) (ev37 r02_ReadUint )
/-! muniment/munimentref04.Decode -/
abbrev pa24 : List DP := [.own (.sc (.int .u8))]
abbrev pr24 : RP := (.tup [.own (.strc [(.int .u8), (.int .i64), .str]), .sc (.int .i64)])
def fun24 (f : dpα pa24 → Option pr24.α) : Fun := mkFun pa24 pr24 f
abbrev pi24_0 : List IP := [.ros (.sc (.int .u8)), .junk, .junk, .junk, .own (.strc [(.int .u8), (.int .i64), .str]), .sc (.int .i64), .sc (.int .i64), .junk, .junk, .junk, .junk, .junk, .junk, .junk, .junk, .junk, .junk, .junk, .junk, .junk, .junk, .junk, .junk, .junk, .junk, .junk, .junk, .junk, .junk, .junk, .junk, .junk, .junk, .junk, .junk, .junk, .junk, .junk, .junk, .junk, .junk, .junk, .junk, .junk, .junk, .junk, .junk, .junk, .junk, .junk, .junk, .junk, .junk, .junk, .junk, .junk, .junk, .junk, .junk, .junk, .junk, .junk, .junk, .junk, .junk, .junk, .junk, .junk, .junk, .junk, .junk, .junk, .junk, .junk, .junk, .junk, .junk, .junk, .junk, .junk, .junk, .junk, .junk, .junk, .junk, .junk, .junk, .junk, .junk, .junk, .junk, .junk, .junk, .junk, .junk, .junk, .junk, .junk, .junk, .junk, .junk, .junk, .junk, .junk, .junk, .junk, .junk, .junk, .junk, .junk]
abbrev px24_0 : List IP := [.ros (.sc (.int .u8)), .junk, .junk, .junk, .own (.strc [(.int .u8), (.int .i64), .str]), .junk, .junk, .junk, .junk, .junk, .junk, .junk, .junk, .junk, .junk, .junk, .junk, .junk, .junk, .junk, .junk, .junk, .junk, .junk, .junk, .junk, .junk, .junk, .junk, .junk, .junk, .junk, .junk, .junk, .junk, .junk, .junk, .junk, .junk, .junk, .junk, .junk, .junk, .junk, .junk, .junk, .junk, .junk, .junk, .junk, .junk, .junk, .junk, .junk, .junk, .junk, .junk, .junk, .junk, .junk, .junk, .junk, .junk, .junk, .junk, .junk, .junk, .junk, .junk, .junk, .junk, .junk, .junk, .junk, .junk, .junk, .junk, .junk, .junk, .junk, .junk, .junk, .junk, .junk, .junk, .junk, .junk, .junk, .junk, .junk, .junk, .junk, .junk, .junk, .junk, .junk, .junk, .junk, .junk, .junk, .junk, .junk, .junk, .junk, .junk, .junk, .junk, .junk, .junk, .junk]
def gam24 (f21 : dpα pa21 → Option pr21.α) (f37 : dpα pa37 → Option pr37.α) : List (Nat × Fun) := [(21, fun21 f21), (37, fun37 f37)]
def agam24 (f21 : dpα pa21 → Option pr21.α) (f37 : dpα pa37 → Option pr37.α) : List (Nat × FunA) := []
def rgam24 (f21 : dpα pa21 → Option pr21.α) (f37 : dpα pa37 → Option pr37.α) : List (Nat × FunR) := []
def lam24 (l0 : ipα pi24_0 → (ipα px24_0 → Option pr24.α) → Option pr24.α) : List (Nat × LoopC pr24.α) := [(0, mkLoop pi24_0 px24_0 l0)]
def env24 (f21 : dpα pa21 → Option pr21.α) (f37 : dpα pa37 → Option pr37.α) (l0 : ipα pi24_0 → (ipα px24_0 → Option pr24.α) → Option pr24.α) : Env pr24.α := mkEnv pr24.α tyT (gam24 f21 f37) (rgam24 f21 f37) (agam24 f21 f37) glob (lam24 l0)
theorem env24_ok {X : Cx} (hP : X.P = Tryd.prog) (hG : X.G = glob) : EnvOk X (env24 r04_Encode r02_ReadInt r04_Decode.l0) := envOk_of hP hG mixed_ok tyT_ok ⟨⟨fun21_ok, _, Tryd.func21, by kernel_rfl, by kernel_rfl⟩, ⟨fun37_ok, _, Tryd.func37, by kernel_rfl, by kernel_rfl⟩, trivial⟩ trivial trivial
theorem st24_0 (f21 : dpα pa21 → Option pr21.α) (f37 : dpα pa37 → Option pr37.α) (l0 : ipα pi24_0 → (ipα px24_0 → Option pr24.α) → Option pr24.α) : ∀ s kx κ, r04_Decode.s0b f37 kx s κ = ev (env24 f21 f37 l0) (innerOf 0 (bodyOf Tryd.f24)) (ipInj pi24_0 s) (roundK pi24_0 px24_0 0 (endK (env24 f21 f37 l0) Tryd.f24.results.toList pr24 .ret) kx κ) := by
  intro s kx κ; kernel_rfl
theorem lo24_0 {X : Cx} {w0 : World} (hP : X.P = Tryd.prog) (hG : X.G = glob) : LoopOk X w0 (mkLoop pi24_0 px24_0 r04_Decode.l0) (.loop (innerOf 0 (bodyOf Tryd.f24))) 0 (endK (env24 r04_Encode r02_ReadInt r04_Decode.l0) Tryd.f24.results.toList pr24 .ret) :=
  loop_ok (env24_ok hP hG) (by kernel_rfl) (by kernel_rfl) r04_Decode.s0 r04_Decode.n0 (fun _ _ => rfl) (loopsOk_of [] (by kernel_rfl) trivial) (st24_0 r04_Encode r02_ReadInt r04_Decode.l0 )
theorem ev24 (f21 : dpα pa21 → Option pr21.α) (f37 : dpα pa37 → Option pr37.α) (l0 : ipα pi24_0 → (ipα px24_0 → Option pr24.α) → Option pr24.α) : ∀ x, r04_Decode.b f21 l0 x = ev (env24 f21 f37 l0) (bodyOf Tryd.f24) (start pa24 (Tryd.f24.ntmps - pa24.length) x) (endK (env24 f21 f37 l0) Tryd.f24.results.toList pr24) := by
  intro x; kernel_rfl
theorem fun24_ok : FunOk Tryd.prog glob 24 (fun24 r04_Decode) :=
  fun_ok (pa := pa24) (pr := pr24) r04_Decode (env24 r04_Encode r02_ReadInt r04_Decode.l0) Tryd.func24 (by kernel_rfl) (fun X hP hG => env24_ok hP hG) (fun X w0 hP hG => loopsOk_of [(0, .loop (innerOf 0 (bodyOf Tryd.f24)))] (by kernel_rfl) ⟨⟨_, by kernel_rfl, lo24_0 hP hG⟩, trivial⟩) (ev24 r04_Encode r02_ReadInt r04_Decode.l0 )
/-! muniment/munimentref02.Text -/
abbrev pa40 : List DP := [.sc .str]
abbrev pr40 : RP := (.one (.own (.sc (.int .u8))))
def fun40 (f : dpα pa40 → Option pr40.α) : Fun := mkFun pa40 pr40 f
abbrev pi40_0 : List IP := [.sc .str, .junk, .junk, .own (.sc (.int .u8)), .sc (.int .i64), .junk, .junk, .junk, .junk, .junk, .junk, .junk, .junk, .junk, .junk, .junk, .junk, .junk, .junk, .junk, .junk, .junk, .junk, .junk, .junk, .junk, .junk]
abbrev px40_0 : List IP := [.junk, .junk, .junk, .own (.sc (.int .u8)), .junk, .junk, .junk, .junk, .junk, .junk, .junk, .junk, .junk, .junk, .junk, .junk, .junk, .junk, .junk, .junk, .junk, .junk, .junk, .junk, .junk, .junk, .junk]
def gam40 : List (Nat × Fun) := []
def agam40 : List (Nat × FunA) := []
def rgam40 : List (Nat × FunR) := []
def lam40 (l0 : ipα pi40_0 → (ipα px40_0 → Option pr40.α) → Option pr40.α) : List (Nat × LoopC pr40.α) := [(0, mkLoop pi40_0 px40_0 l0)]
def env40 (l0 : ipα pi40_0 → (ipα px40_0 → Option pr40.α) → Option pr40.α) : Env pr40.α := mkEnv pr40.α tyT gam40 rgam40 agam40 glob (lam40 l0)
theorem env40_ok {X : Cx} (hP : X.P = Tryd.prog) (hG : X.G = glob) : EnvOk X (env40 r02_Text.l0) := envOk_of hP hG mixed_ok tyT_ok trivial trivial trivial
theorem st40_0 (l0 : ipα pi40_0 → (ipα px40_0 → Option pr40.α) → Option pr40.α) : ∀ s kx κ, r02_Text.s0b kx s κ = ev (env40 l0) (innerOf 0 (bodyOf Tryd.f40)) (ipInj pi40_0 s) (roundK pi40_0 px40_0 0 (endK (env40 l0) Tryd.f40.results.toList pr40 .ret) kx κ) := by
  intro s kx κ; kernel_rfl
theorem lo40_0 {X : Cx} {w0 : World} (hP : X.P = Tryd.prog) (hG : X.G = glob) : LoopOk X w0 (mkLoop pi40_0 px40_0 r02_Text.l0) (.loop (innerOf 0 (bodyOf Tryd.f40))) 0 (endK (env40 r02_Text.l0) Tryd.f40.results.toList pr40 .ret) :=
  loop_ok (env40_ok hP hG) (by kernel_rfl) (by kernel_rfl) r02_Text.s0 r02_Text.n0 (fun _ _ => rfl) (loopsOk_of [] (by kernel_rfl) trivial) (st40_0 r02_Text.l0 )
theorem ev40 (l0 : ipα pi40_0 → (ipα px40_0 → Option pr40.α) → Option pr40.α) : ∀ x, r02_Text.b l0 x = ev (env40 l0) (bodyOf Tryd.f40) (start pa40 (Tryd.f40.ntmps - pa40.length) x) (endK (env40 l0) Tryd.f40.results.toList pr40) := by
  intro x; kernel_rfl
theorem fun40_ok : FunOk Tryd.prog glob 40 (fun40 r02_Text) :=
  fun_ok (pa := pa40) (pr := pr40) r02_Text (env40 r02_Text.l0) Tryd.func40 (by kernel_rfl) (fun X hP hG => env40_ok hP hG) (fun X w0 hP hG => loopsOk_of [(0, .loop (innerOf 0 (bodyOf Tryd.f40)))] (by kernel_rfl) ⟨⟨_, by kernel_rfl, lo40_0 hP hG⟩, trivial⟩) (ev40 r02_Text.l0 )
/-! muniment/munimentref04.Key -/
abbrev pa26 : List DP := [.strc [.one (.int .u8), .one (.int .i64), .one .str]]
abbrev pr26 : RP := (.one (.own (.sc (.int .u8))))
def fun26 (f : dpα pa26 → Option pr26.α) : Fun := mkFun pa26 pr26 f
def gam26 (f33 : dpα pa33 → Option pr33.α) (f40 : dpα pa40 → Option pr40.α) : List (Nat × Fun) := [(33, fun33 f33), (40, fun40 f40)]
def agam26 (f33 : dpα pa33 → Option pr33.α) (f40 : dpα pa40 → Option pr40.α) : List (Nat × FunA) := []
def rgam26 (f33 : dpα pa33 → Option pr33.α) (f40 : dpα pa40 → Option pr40.α) : List (Nat × FunR) := []
def lam26 : List (Nat × LoopC pr26.α) := []
def env26 (f33 : dpα pa33 → Option pr33.α) (f40 : dpα pa40 → Option pr40.α) : Env pr26.α := mkEnv pr26.α tyT (gam26 f33 f40) (rgam26 f33 f40) (agam26 f33 f40) glob lam26
theorem env26_ok {X : Cx} (hP : X.P = Tryd.prog) (hG : X.G = glob) : EnvOk X (env26 r02_Int r02_Text) := envOk_of hP hG mixed_ok tyT_ok ⟨⟨fun33_ok, _, Tryd.func33, by kernel_rfl, by kernel_rfl⟩, ⟨fun40_ok, _, Tryd.func40, by kernel_rfl, by kernel_rfl⟩, trivial⟩ trivial trivial
theorem ev26 (f33 : dpα pa33 → Option pr33.α) (f40 : dpα pa40 → Option pr40.α) : ∀ x, r04_Key.b f33 f40 x = ev (env26 f33 f40) (bodyOf Tryd.f26) (start pa26 (Tryd.f26.ntmps - pa26.length) x) (endK (env26 f33 f40) Tryd.f26.results.toList pr26) := by
  intro x; kernel_rfl
theorem fun26_ok : FunOk Tryd.prog glob 26 (fun26 r04_Key) :=
  fun_ok (pa := pa26) (pr := pr26) r04_Key (env26 r02_Int r02_Text) Tryd.func26 (by kernel_rfl) (fun X hP hG => env26_ok hP hG) (fun X w0 hP hG => loopsOk_of [] (by kernel_rfl) trivial) (ev26 r02_Int r02_Text )
/-! muniment/octet.ReadUint -/
abbrev pa46 : List DP := [.own (.sc (.int .u8)), .sc (.int .i64)]
abbrev pr46 : RP := (.tup [.sc (.int .u64), .sc (.int .i64), .sc (.int .i64)])
def fun46 (f : dpα pa46 → Option pr46.α) : Fun := mkFun pa46 pr46 f
abbrev pi46_0 : List IP := [.junk, .sc (.int .i64), .junk, .junk, .junk, .junk, .junk, .sc (.int .u64), .junk, .junk, .junk, .junk, .junk, .junk, .junk, .junk, .junk, .junk, .junk, .junk, .junk, .junk, .junk, .junk, .junk, .junk, .junk, .ros (.sc (.int .u8)), .sc (.int .i64), .sc (.int .i64), .junk, .junk, .junk, .junk, .junk, .junk, .junk, .junk, .junk, .junk, .junk, .junk]
abbrev px46_0 : List IP := [.junk, .sc (.int .i64), .junk, .junk, .junk, .junk, .junk, .sc (.int .u64), .junk, .junk, .junk, .junk, .junk, .junk, .junk, .junk, .junk, .junk, .junk, .junk, .junk, .junk, .junk, .junk, .junk, .junk, .junk, .junk, .junk, .junk, .junk, .junk, .junk, .junk, .junk, .junk, .junk, .junk, .junk, .junk, .junk, .junk]
def gam46 : List (Nat × Fun) := []
def agam46 : List (Nat × FunA) := []
def rgam46 : List (Nat × FunR) := []
def lam46 (l0 : ipα pi46_0 → (ipα px46_0 → Option pr46.α) → Option pr46.α) : List (Nat × LoopC pr46.α) := [(0, mkLoop pi46_0 px46_0 l0)]
def env46 (l0 : ipα pi46_0 → (ipα px46_0 → Option pr46.α) → Option pr46.α) : Env pr46.α := mkEnv pr46.α tyT gam46 rgam46 agam46 glob (lam46 l0)
theorem env46_ok {X : Cx} (hP : X.P = Tryd.prog) (hG : X.G = glob) : EnvOk X (env46 octet_ReadUint.l0) := envOk_of hP hG mixed_ok tyT_ok trivial trivial trivial
theorem st46_0 (l0 : ipα pi46_0 → (ipα px46_0 → Option pr46.α) → Option pr46.α) : ∀ s kx κ, octet_ReadUint.s0b kx s κ = ev (env46 l0) (innerOf 0 (bodyOf Tryd.f46)) (ipInj pi46_0 s) (roundK pi46_0 px46_0 0 (endK (env46 l0) Tryd.f46.results.toList pr46 .ret) kx κ) := by
  intro s kx κ; kernel_rfl
theorem lo46_0 {X : Cx} {w0 : World} (hP : X.P = Tryd.prog) (hG : X.G = glob) : LoopOk X w0 (mkLoop pi46_0 px46_0 octet_ReadUint.l0) (.loop (innerOf 0 (bodyOf Tryd.f46))) 0 (endK (env46 octet_ReadUint.l0) Tryd.f46.results.toList pr46 .ret) :=
  loop_ok (env46_ok hP hG) (by kernel_rfl) (by kernel_rfl) octet_ReadUint.s0 octet_ReadUint.n0 (fun _ _ => rfl) (loopsOk_of [] (by kernel_rfl) trivial) (st46_0 octet_ReadUint.l0 )
theorem ev46 (l0 : ipα pi46_0 → (ipα px46_0 → Option pr46.α) → Option pr46.α) : ∀ x, octet_ReadUint.b l0 x = ev (env46 l0) (bodyOf Tryd.f46) (start pa46 (Tryd.f46.ntmps - pa46.length) x) (endK (env46 l0) Tryd.f46.results.toList pr46) := by
  intro x; kernel_rfl
theorem fun46_ok : FunOk Tryd.prog glob 46 (fun46 octet_ReadUint) :=
  fun_ok (pa := pa46) (pr := pr46) octet_ReadUint (env46 octet_ReadUint.l0) Tryd.func46 (by kernel_rfl) (fun X hP hG => env46_ok hP hG) (fun X w0 hP hG => loopsOk_of [(0, .loop (innerOf 0 (bodyOf Tryd.f46)))] (by kernel_rfl) ⟨⟨_, by kernel_rfl, lo46_0 hP hG⟩, trivial⟩) (ev46 octet_ReadUint.l0 )
/-! muniment/octet.ReadInt -/
abbrev pa38 : List DP := [.own (.sc (.int .u8)), .sc (.int .i64)]
abbrev pr38 : RP := (.tup [.sc (.int .i64), .sc (.int .i64), .sc (.int .i64)])
def fun38 (f : dpα pa38 → Option pr38.α) : Fun := mkFun pa38 pr38 f
def gam38 (f46 : dpα pa46 → Option pr46.α) : List (Nat × Fun) := [(46, fun46 f46)]
def agam38 (f46 : dpα pa46 → Option pr46.α) : List (Nat × FunA) := []
def rgam38 (f46 : dpα pa46 → Option pr46.α) : List (Nat × FunR) := []
def lam38 : List (Nat × LoopC pr38.α) := []
def env38 (f46 : dpα pa46 → Option pr46.α) : Env pr38.α := mkEnv pr38.α tyT (gam38 f46) (rgam38 f46) (agam38 f46) glob lam38
theorem env38_ok {X : Cx} (hP : X.P = Tryd.prog) (hG : X.G = glob) : EnvOk X (env38 octet_ReadUint) := envOk_of hP hG mixed_ok tyT_ok ⟨⟨fun46_ok, _, Tryd.func46, by kernel_rfl, by kernel_rfl⟩, trivial⟩ trivial trivial
theorem ev38 (f46 : dpα pa46 → Option pr46.α) : ∀ x, octet_ReadInt.b f46 x = ev (env38 f46) (bodyOf Tryd.f38) (start pa38 (Tryd.f38.ntmps - pa38.length) x) (endK (env38 f46) Tryd.f38.results.toList pr38) := by
  intro x; kernel_rfl
theorem fun38_ok : FunOk Tryd.prog glob 38 (fun38 octet_ReadInt) :=
  fun_ok (pa := pa38) (pr := pr38) octet_ReadInt (env38 octet_ReadUint) Tryd.func38 (by kernel_rfl) (fun X hP hG => env38_ok hP hG) (fun X w0 hP hG => loopsOk_of [] (by kernel_rfl) trivial) (ev38 octet_ReadUint )
/-! muniment/octet.ReadText -/
abbrev pa39 : List DP := [.own (.sc (.int .u8)), .sc (.int .i64)]
abbrev pr39 : RP := (.tup [.sc .str, .sc (.int .i64), .sc (.int .i64)])
def fun39 (f : dpα pa39 → Option pr39.α) : Fun := mkFun pa39 pr39 f
abbrev pi39_0 : List IP := [.ros (.sc (.int .u8)), .junk, .junk, .junk, .junk, .junk, .junk, .own (.sc (.int .u8)), .sc (.int .i64), .junk, .junk, .junk, .junk, .junk, .junk, .junk, .junk, .junk, .junk, .junk, .junk, .junk, .junk, .junk, .junk, .junk, .junk, .junk, .junk, .junk, .junk, .junk, .junk, .junk, .junk, .junk, .junk, .junk, .junk, .junk, .junk, .junk, .junk, .junk, .junk, .junk, .junk, .junk, .junk, .junk, .junk, .junk, .junk, .junk, .junk, .junk, .junk]
abbrev px39_0 : List IP := [.junk, .junk, .junk, .junk, .junk, .junk, .junk, .junk, .junk, .junk, .junk, .junk, .junk, .junk, .junk, .junk, .junk, .junk, .junk, .junk, .junk, .junk, .junk, .junk, .junk, .junk, .junk, .junk, .junk, .junk, .junk, .junk, .junk, .junk, .junk, .junk, .junk, .junk, .junk, .junk, .junk, .junk, .junk, .junk, .junk, .junk, .junk, .junk, .junk, .junk, .junk, .junk, .junk, .junk, .junk, .junk, .junk]
def gam39 : List (Nat × Fun) := []
def agam39 : List (Nat × FunA) := []
def rgam39 : List (Nat × FunR) := []
def lam39 (l0 : ipα pi39_0 → (ipα px39_0 → Option pr39.α) → Option pr39.α) : List (Nat × LoopC pr39.α) := [(0, mkLoop pi39_0 px39_0 l0)]
def env39 (l0 : ipα pi39_0 → (ipα px39_0 → Option pr39.α) → Option pr39.α) : Env pr39.α := mkEnv pr39.α tyT gam39 rgam39 agam39 glob (lam39 l0)
theorem env39_ok {X : Cx} (hP : X.P = Tryd.prog) (hG : X.G = glob) : EnvOk X (env39 octet_ReadText.l0) := envOk_of hP hG mixed_ok tyT_ok trivial trivial trivial
theorem st39_0 (l0 : ipα pi39_0 → (ipα px39_0 → Option pr39.α) → Option pr39.α) : ∀ s kx κ, octet_ReadText.s0b kx s κ = ev (env39 l0) (innerOf 0 (bodyOf Tryd.f39)) (ipInj pi39_0 s) (roundK pi39_0 px39_0 0 (endK (env39 l0) Tryd.f39.results.toList pr39 .ret) kx κ) := by
  intro s kx κ; kernel_rfl
theorem lo39_0 {X : Cx} {w0 : World} (hP : X.P = Tryd.prog) (hG : X.G = glob) : LoopOk X w0 (mkLoop pi39_0 px39_0 octet_ReadText.l0) (.loop (innerOf 0 (bodyOf Tryd.f39))) 0 (endK (env39 octet_ReadText.l0) Tryd.f39.results.toList pr39 .ret) :=
  loop_ok (env39_ok hP hG) (by kernel_rfl) (by kernel_rfl) octet_ReadText.s0 octet_ReadText.n0 (fun _ _ => rfl) (loopsOk_of [] (by kernel_rfl) trivial) (st39_0 octet_ReadText.l0 )
theorem ev39 (l0 : ipα pi39_0 → (ipα px39_0 → Option pr39.α) → Option pr39.α) : ∀ x, octet_ReadText.b l0 x = ev (env39 l0) (bodyOf Tryd.f39) (start pa39 (Tryd.f39.ntmps - pa39.length) x) (endK (env39 l0) Tryd.f39.results.toList pr39) := by
  intro x; kernel_rfl
theorem fun39_ok : FunOk Tryd.prog glob 39 (fun39 octet_ReadText) :=
  fun_ok (pa := pa39) (pr := pr39) octet_ReadText (env39 octet_ReadText.l0) Tryd.func39 (by kernel_rfl) (fun X hP hG => env39_ok hP hG) (fun X w0 hP hG => loopsOk_of [(0, .loop (innerOf 0 (bodyOf Tryd.f39)))] (by kernel_rfl) ⟨⟨_, by kernel_rfl, lo39_0 hP hG⟩, trivial⟩) (ev39 octet_ReadText.l0 )
/-! muniment/munimentref02.ReadText -/
abbrev pa41 : List DP := [.own (.sc (.int .u8)), .sc (.int .i64)]
abbrev pr41 : RP := (.tup [.sc .str, .sc (.int .i64), .sc (.int .i64)])
def fun41 (f : dpα pa41 → Option pr41.α) : Fun := mkFun pa41 pr41 f
abbrev pi41_0 : List IP := [.ros (.sc (.int .u8)), .junk, .junk, .junk, .junk, .junk, .junk, .own (.sc (.int .u8)), .sc (.int .i64), .junk, .junk, .junk, .junk, .junk, .junk, .junk, .junk, .junk, .junk, .junk, .junk, .junk, .junk, .junk, .junk, .junk, .junk, .junk, .junk, .junk, .junk, .junk, .junk, .junk, .junk, .junk, .junk, .junk, .junk, .junk, .junk, .junk, .junk, .junk, .junk, .junk, .junk, .junk, .junk, .junk, .junk, .junk, .junk, .junk, .junk, .junk, .junk, .junk, .junk, .junk, .junk, .junk]
abbrev px41_0 : List IP := [.junk, .junk, .junk, .junk, .junk, .junk, .junk, .junk, .junk, .junk, .junk, .junk, .junk, .junk, .junk, .junk, .junk, .junk, .junk, .junk, .junk, .junk, .junk, .junk, .junk, .junk, .junk, .junk, .junk, .junk, .junk, .junk, .junk, .junk, .junk, .junk, .junk, .junk, .junk, .junk, .junk, .junk, .junk, .junk, .junk, .junk, .junk, .junk, .junk, .junk, .junk, .junk, .junk, .junk, .junk, .junk, .junk, .junk, .junk, .junk, .junk, .junk]
def gam41 : List (Nat × Fun) := []
def agam41 : List (Nat × FunA) := []
def rgam41 : List (Nat × FunR) := []
def lam41 (l0 : ipα pi41_0 → (ipα px41_0 → Option pr41.α) → Option pr41.α) : List (Nat × LoopC pr41.α) := [(0, mkLoop pi41_0 px41_0 l0)]
def env41 (l0 : ipα pi41_0 → (ipα px41_0 → Option pr41.α) → Option pr41.α) : Env pr41.α := mkEnv pr41.α tyT gam41 rgam41 agam41 glob (lam41 l0)
theorem env41_ok {X : Cx} (hP : X.P = Tryd.prog) (hG : X.G = glob) : EnvOk X (env41 r02_ReadText.l0) := envOk_of hP hG mixed_ok tyT_ok trivial trivial trivial
theorem st41_0 (l0 : ipα pi41_0 → (ipα px41_0 → Option pr41.α) → Option pr41.α) : ∀ s kx κ, r02_ReadText.s0b kx s κ = ev (env41 l0) (innerOf 0 (bodyOf Tryd.f41)) (ipInj pi41_0 s) (roundK pi41_0 px41_0 0 (endK (env41 l0) Tryd.f41.results.toList pr41 .ret) kx κ) := by
  intro s kx κ; kernel_rfl
theorem lo41_0 {X : Cx} {w0 : World} (hP : X.P = Tryd.prog) (hG : X.G = glob) : LoopOk X w0 (mkLoop pi41_0 px41_0 r02_ReadText.l0) (.loop (innerOf 0 (bodyOf Tryd.f41))) 0 (endK (env41 r02_ReadText.l0) Tryd.f41.results.toList pr41 .ret) :=
  loop_ok (env41_ok hP hG) (by kernel_rfl) (by kernel_rfl) r02_ReadText.s0 r02_ReadText.n0 (fun _ _ => rfl) (loopsOk_of [] (by kernel_rfl) trivial) (st41_0 r02_ReadText.l0 )
theorem ev41 (l0 : ipα pi41_0 → (ipα px41_0 → Option pr41.α) → Option pr41.α) : ∀ x, r02_ReadText.b l0 x = ev (env41 l0) (bodyOf Tryd.f41) (start pa41 (Tryd.f41.ntmps - pa41.length) x) (endK (env41 l0) Tryd.f41.results.toList pr41) := by
  intro x; kernel_rfl
theorem fun41_ok : FunOk Tryd.prog glob 41 (fun41 r02_ReadText) :=
  fun_ok (pa := pa41) (pr := pr41) r02_ReadText (env41 r02_ReadText.l0) Tryd.func41 (by kernel_rfl) (fun X hP hG => env41_ok hP hG) (fun X w0 hP hG => loopsOk_of [(0, .loop (innerOf 0 (bodyOf Tryd.f41)))] (by kernel_rfl) ⟨⟨_, by kernel_rfl, lo41_0 hP hG⟩, trivial⟩) (ev41 r02_ReadText.l0 )
end Go.Px.codd
