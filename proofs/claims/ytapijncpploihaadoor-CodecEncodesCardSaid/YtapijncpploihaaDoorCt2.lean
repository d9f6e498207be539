import Derived.Test.YtapijncpploihaaDoorSh2
import Derived.Test.YtapijncpploihaaDoorDecC
import Derived.Test.YtapijncpploihaaDoorCt
set_option linter.unusedVariables false
set_option linter.unusedSimpArgs false
set_option maxRecDepth 100000
namespace Go.Px.codl
open Go Go.Proofs Go.Px
abbrev globL : List (Nat × List Seg) := codd.globL
abbrev glob : Nat → Option (List Seg) := codd.glob
theorem glob_ok {w : World} (h : AllP (GEnt w) globL) : GOk ⟨Tryd.prog, w.heap.size, glob, noM⟩ w := codd.glob_ok h
def tyT : List (Nat × TI) := [(3, .sc (.int .i64) 8),
  (4, .sc .bool 1),
  (5, .sc (.int .u8) 1),
  (9, .sc .str 16),
  (22, .sl 5),
  (25, .sc (.int .i64) 8),
  (31, .sc (.int .u16) 2),
  (34, .st (.struct #[{ name := "Kind", type := 5, offset := 0, embedded := false, tag := "", pkgPath := "", byteOffset := 0 }, { name := "N", type := 2, offset := 1, embedded := false, tag := "", pkgPath := "", byteOffset := 8 }, { name := "S", type := 9, offset := 2, embedded := false, tag := "", pkgPath := "", byteOffset := 16 }]) [(.int .u8), (.int .i64), .str] 32),
  (39, .sl 34)]
theorem tyT_ok : AllP (fun x => TOk Tryd.prog x.1 x.2) tyT := ⟨tok_sc (.int .i64) 8 (by kernel_rfl) (by kernel_rfl),
  tok_sc .bool 1 (by kernel_rfl) (by kernel_rfl),
  tok_sc (.int .u8) 1 (by kernel_rfl) (by kernel_rfl),
  tok_sc .str 16 (by kernel_rfl) (by kernel_rfl),
  tok_sl 5 (by kernel_rfl) (by kernel_rfl),
  tok_sc (.int .i64) 8 (by kernel_rfl) (by kernel_rfl),
  tok_sc (.int .u16) 2 (by kernel_rfl) (by kernel_rfl),
  tok_st (by kernel_rfl) (by kernel_rfl) ⟨_, rfl⟩ (by kernel_rfl) (by kernel_rfl),
  tok_sl 34 (by kernel_rfl) (by kernel_rfl), trivial⟩
theorem mixed_ok : Tryd.prog.follows .mixedOrders = true := by kernel_rfl
/-! muniment/munimentlaw04.awake -/
abbrev pa11 : List DP := []
abbrev pr11 : RP := (.one (.sc .bool))
def fun11 (f : dpα pa11 → Option pr11.α) : Fun := mkFun pa11 pr11 f
theorem fun11_ok : FunOk Tryd.prog glob 11 (fun11 w04_awake) :=
  codd.fun11_ok
/-! muniment/munimentref04.Form -/
abbrev pa16 : List DP := [.strc [.one (.int .u8), .one (.int .i64), .one .str]]
abbrev pr16 : RP := (.one (.sc .bool))
def fun16 (f : dpα pa16 → Option pr16.α) : Fun := mkFun pa16 pr16 f
theorem fun16_ok : FunOk Tryd.prog glob 16 (fun16 r04_Form) :=
  codd.fun16_ok
/-! muniment/codec.Form -/
abbrev pa19 : List DP := [.strc [.one (.int .u8), .one (.int .i64), .one .str]]
abbrev pr19 : RP := (.one (.sc .bool))
def fun19 (f : dpα pa19 → Option pr19.α) : Fun := mkFun pa19 pr19 f
theorem fun19_ok : FunOk Tryd.prog glob 19 (fun19 codec_Form) :=
  codd.fun19_ok
/-! muniment/codec.Encode -/
abbrev pa20 : List DP := [.own (.strc [(.int .u8), (.int .i64), .str])]
abbrev pr20 : RP := (.tup [.own (.sc (.int .u8)), .sc (.int .i64)])
def fun20 (f : dpα pa20 → Option pr20.α) : Fun := mkFun pa20 pr20 f
theorem fun20_ok : FunOk Tryd.prog glob 20 (fun20 codec_Encode) :=
  codd.fun20_ok
/-! muniment/munimentref04.Encode -/
abbrev pa21 : List DP := [.own (.strc [(.int .u8), (.int .i64), .str])]
abbrev pr21 : RP := (.tup [.own (.sc (.int .u8)), .sc (.int .i64)])
def fun21 (f : dpα pa21 → Option pr21.α) : Fun := mkFun pa21 pr21 f
theorem fun21_ok : FunOk Tryd.prog glob 21 (fun21 r04_Encode) :=
  codd.fun21_ok
/-! muniment/codec.Decode -/
abbrev pa22 : List DP := [.own (.sc (.int .u8))]
abbrev pr22 : RP := (.tup [.own (.strc [(.int .u8), (.int .i64), .str]), .sc (.int .i64)])
def fun22 (f : dpα pa22 → Option pr22.α) : Fun := mkFun pa22 pr22 f
theorem fun22_ok : FunOk Tryd.prog glob 22 (fun22 codec_Decode) :=
  CodC.decode_ok
/-! muniment/munimentref04.Same -/
abbrev pa23 : List DP := [.own (.strc [(.int .u8), (.int .i64), .str]), .own (.strc [(.int .u8), (.int .i64), .str])]
abbrev pr23 : RP := (.one (.sc .bool))
def fun23 (f : dpα pa23 → Option pr23.α) : Fun := mkFun pa23 pr23 f
theorem fun23_ok : FunOk Tryd.prog glob 23 (fun23 r04_Same) :=
  codd.fun23_ok
/-! muniment/munimentlaw04.CodecEncodes -/
abbrev pa6 : List DP := [.own (.strc [(.int .u8), (.int .i64), .str])]
abbrev pr6 : RP := (.one (.sc .bool))
def fun6 (f : dpα pa6 → Option pr6.α) : Fun := mkFun pa6 pr6 f
abbrev pi6_0 : List IP := [.ros (.strc [(.int .u8), (.int .i64), .str]), .junk, .junk, .sc (.int .i64), .junk, .junk, .junk, .junk, .junk, .junk, .junk, .junk, .junk, .junk, .junk, .junk, .junk, .junk, .junk, .junk, .junk, .junk, .junk, .junk, .junk, .junk, .junk, .junk, .junk, .junk, .junk, .junk, .junk, .junk, .junk, .junk, .junk, .junk, .junk, .junk, .junk, .junk, .junk, .junk, .junk, .junk, .junk, .junk, .junk, .junk, .junk, .junk, .junk, .junk, .junk, .junk, .junk, .junk, .junk, .junk, .junk, .junk, .junk, .junk, .junk, .junk, .junk, .junk, .junk, .junk, .junk]
abbrev px6_0 : List IP := [.ros (.strc [(.int .u8), (.int .i64), .str]), .junk, .junk, .junk, .junk, .junk, .junk, .junk, .junk, .junk, .junk, .junk, .junk, .junk, .junk, .junk, .junk, .junk, .junk, .junk, .junk, .junk, .junk, .junk, .junk, .junk, .junk, .junk, .junk, .junk, .junk, .junk, .junk, .junk, .junk, .junk, .junk, .junk, .junk, .junk, .junk, .junk, .junk, .junk, .junk, .junk, .junk, .junk, .junk, .junk, .junk, .junk, .junk, .junk, .junk, .junk, .junk, .junk, .junk, .junk, .junk, .junk, .junk, .junk, .junk, .junk, .junk, .junk, .junk, .junk, .junk]
def gam6 (f11 : dpα pa11 → Option pr11.α) (f16 : dpα pa16 → Option pr16.α) (f19 : dpα pa19 → Option pr19.α) (f20 : dpα pa20 → Option pr20.α) (f21 : dpα pa21 → Option pr21.α) (f22 : dpα pa22 → Option pr22.α) (f23 : dpα pa23 → Option pr23.α) : List (Nat × Fun) := [(11, fun11 f11), (16, fun16 f16), (19, fun19 f19), (20, fun20 f20), (21, fun21 f21), (22, fun22 f22), (23, fun23 f23)]
def agam6 (f11 : dpα pa11 → Option pr11.α) (f16 : dpα pa16 → Option pr16.α) (f19 : dpα pa19 → Option pr19.α) (f20 : dpα pa20 → Option pr20.α) (f21 : dpα pa21 → Option pr21.α) (f22 : dpα pa22 → Option pr22.α) (f23 : dpα pa23 → Option pr23.α) : List (Nat × FunA) := []
def rgam6 (f11 : dpα pa11 → Option pr11.α) (f16 : dpα pa16 → Option pr16.α) (f19 : dpα pa19 → Option pr19.α) (f20 : dpα pa20 → Option pr20.α) (f21 : dpα pa21 → Option pr21.α) (f22 : dpα pa22 → Option pr22.α) (f23 : dpα pa23 → Option pr23.α) : List (Nat × FunR) := []
def lam6 (l0 : ipα pi6_0 → (ipα px6_0 → Option pr6.α) → Option pr6.α) : List (Nat × LoopC pr6.α) := [(0, mkLoop pi6_0 px6_0 l0)]
def env6 (f11 : dpα pa11 → Option pr11.α) (f16 : dpα pa16 → Option pr16.α) (f19 : dpα pa19 → Option pr19.α) (f20 : dpα pa20 → Option pr20.α) (f21 : dpα pa21 → Option pr21.α) (f22 : dpα pa22 → Option pr22.α) (f23 : dpα pa23 → Option pr23.α) (l0 : ipα pi6_0 → (ipα px6_0 → Option pr6.α) → Option pr6.α) : Env pr6.α := mkEnv pr6.α tyT (gam6 f11 f16 f19 f20 f21 f22 f23) (rgam6 f11 f16 f19 f20 f21 f22 f23) (agam6 f11 f16 f19 f20 f21 f22 f23) glob (lam6 l0)
theorem env6_ok {X : Cx} (hP : X.P = Tryd.prog) (hG : X.G = glob) : EnvOk X (env6 w04_awake r04_Form codec_Form codec_Encode r04_Encode codec_Decode r04_Same w04_CodecEncodes.l0) := envOk_of hP hG mixed_ok tyT_ok ⟨⟨fun11_ok, _, Tryd.func11, by kernel_rfl, by kernel_rfl⟩, ⟨fun16_ok, _, Tryd.func16, by kernel_rfl, by kernel_rfl⟩, ⟨fun19_ok, _, Tryd.func19, by kernel_rfl, by kernel_rfl⟩, ⟨fun20_ok, _, Tryd.func20, by kernel_rfl, by kernel_rfl⟩, ⟨fun21_ok, _, Tryd.func21, by kernel_rfl, by kernel_rfl⟩, ⟨fun22_ok, _, Tryd.func22, by kernel_rfl, by kernel_rfl⟩, ⟨fun23_ok, _, Tryd.func23, by kernel_rfl, by kernel_rfl⟩, trivial⟩ trivial trivial
theorem st6_0 (f11 : dpα pa11 → Option pr11.α) (f16 : dpα pa16 → Option pr16.α) (f19 : dpα pa19 → Option pr19.α) (f20 : dpα pa20 → Option pr20.α) (f21 : dpα pa21 → Option pr21.α) (f22 : dpα pa22 → Option pr22.α) (f23 : dpα pa23 → Option pr23.α) (l0 : ipα pi6_0 → (ipα px6_0 → Option pr6.α) → Option pr6.α) : ∀ s kx κ, w04_CodecEncodes.s0b f16 f19 kx s κ = ev (env6 f11 f16 f19 f20 f21 f22 f23 l0) (innerOf 0 (bodyOf Tryd.f6)) (ipInj pi6_0 s) (roundK pi6_0 px6_0 0 (endK (env6 f11 f16 f19 f20 f21 f22 f23 l0) Tryd.f6.results.toList pr6 .ret) kx κ) := by
  intro s kx κ; kernel_rfl
theorem lo6_0 {X : Cx} {w0 : World} (hP : X.P = Tryd.prog) (hG : X.G = glob) : LoopOk X w0 (mkLoop pi6_0 px6_0 w04_CodecEncodes.l0) (.loop (innerOf 0 (bodyOf Tryd.f6))) 0 (endK (env6 w04_awake r04_Form codec_Form codec_Encode r04_Encode codec_Decode r04_Same w04_CodecEncodes.l0) Tryd.f6.results.toList pr6 .ret) :=
  loop_ok (env6_ok hP hG) (by kernel_rfl) (by kernel_rfl) w04_CodecEncodes.s0 w04_CodecEncodes.n0 (fun _ _ => rfl) (loopsOk_of [] (by kernel_rfl) trivial) (st6_0 w04_awake r04_Form codec_Form codec_Encode r04_Encode codec_Decode r04_Same w04_CodecEncodes.l0 )
theorem ev6 (f11 : dpα pa11 → Option pr11.α) (f16 : dpα pa16 → Option pr16.α) (f19 : dpα pa19 → Option pr19.α) (f20 : dpα pa20 → Option pr20.α) (f21 : dpα pa21 → Option pr21.α) (f22 : dpα pa22 → Option pr22.α) (f23 : dpα pa23 → Option pr23.α) (l0 : ipα pi6_0 → (ipα px6_0 → Option pr6.α) → Option pr6.α) : ∀ x, w04_CodecEncodes.b f11 f20 f21 f22 f23 l0 x = ev (env6 f11 f16 f19 f20 f21 f22 f23 l0) (bodyOf Tryd.f6) (start pa6 (Tryd.f6.ntmps - pa6.length) x) (endK (env6 f11 f16 f19 f20 f21 f22 f23 l0) Tryd.f6.results.toList pr6) := by
  intro x; kernel_rfl
theorem fun6_ok : FunOk Tryd.prog glob 6 (fun6 w04_CodecEncodes) :=
  fun_ok (pa := pa6) (pr := pr6) w04_CodecEncodes (env6 w04_awake r04_Form codec_Form codec_Encode r04_Encode codec_Decode r04_Same w04_CodecEncodes.l0) Tryd.func6 (by kernel_rfl) (fun X hP hG => env6_ok hP hG) (fun X w0 hP hG => loopsOk_of [(0, .loop (innerOf 0 (bodyOf Tryd.f6)))] (by kernel_rfl) ⟨⟨_, by kernel_rfl, lo6_0 hP hG⟩, trivial⟩) (ev6 w04_awake r04_Form codec_Form codec_Encode r04_Encode codec_Decode r04_Same w04_CodecEncodes.l0 )
/-! muniment/munimentref04.Decode -/
abbrev pa24 : List DP := [.own (.sc (.int .u8))]
abbrev pr24 : RP := (.tup [.own (.strc [(.int .u8), (.int .i64), .str]), .sc (.int .i64)])
def fun24 (f : dpα pa24 → Option pr24.α) : Fun := mkFun pa24 pr24 f
theorem fun24_ok : FunOk Tryd.prog glob 24 (fun24 r04_Decode) :=
  codd.fun24_ok
/-! muniment/munimentlaw04.CodecDecodes -/
abbrev pa7 : List DP := [.own (.sc (.int .u8))]
abbrev pr7 : RP := (.one (.sc .bool))
def fun7 (f : dpα pa7 → Option pr7.α) : Fun := mkFun pa7 pr7 f
def gam7 (f11 : dpα pa11 → Option pr11.α) (f22 : dpα pa22 → Option pr22.α) (f23 : dpα pa23 → Option pr23.α) (f24 : dpα pa24 → Option pr24.α) : List (Nat × Fun) := [(11, fun11 f11), (22, fun22 f22), (23, fun23 f23), (24, fun24 f24)]
def agam7 (f11 : dpα pa11 → Option pr11.α) (f22 : dpα pa22 → Option pr22.α) (f23 : dpα pa23 → Option pr23.α) (f24 : dpα pa24 → Option pr24.α) : List (Nat × FunA) := []
def rgam7 (f11 : dpα pa11 → Option pr11.α) (f22 : dpα pa22 → Option pr22.α) (f23 : dpα pa23 → Option pr23.α) (f24 : dpα pa24 → Option pr24.α) : List (Nat × FunR) := []
def lam7 : List (Nat × LoopC pr7.α) := []
def env7 (f11 : dpα pa11 → Option pr11.α) (f22 : dpα pa22 → Option pr22.α) (f23 : dpα pa23 → Option pr23.α) (f24 : dpα pa24 → Option pr24.α) : Env pr7.α := mkEnv pr7.α tyT (gam7 f11 f22 f23 f24) (rgam7 f11 f22 f23 f24) (agam7 f11 f22 f23 f24) glob lam7
theorem env7_ok {X : Cx} (hP : X.P = Tryd.prog) (hG : X.G = glob) : EnvOk X (env7 w04_awake codec_Decode r04_Same r04_Decode) := envOk_of hP hG mixed_ok tyT_ok ⟨⟨fun11_ok, _, Tryd.func11, by kernel_rfl, by kernel_rfl⟩, ⟨fun22_ok, _, Tryd.func22, by kernel_rfl, by kernel_rfl⟩, ⟨fun23_ok, _, Tryd.func23, by kernel_rfl, by kernel_rfl⟩, ⟨fun24_ok, _, Tryd.func24, by kernel_rfl, by kernel_rfl⟩, trivial⟩ trivial trivial
theorem ev7 (f11 : dpα pa11 → Option pr11.α) (f22 : dpα pa22 → Option pr22.α) (f23 : dpα pa23 → Option pr23.α) (f24 : dpα pa24 → Option pr24.α) : ∀ x, w04_CodecDecodes.b f11 f22 f23 f24 x = ev (env7 f11 f22 f23 f24) (bodyOf Tryd.f7) (start pa7 (Tryd.f7.ntmps - pa7.length) x) (endK (env7 f11 f22 f23 f24) Tryd.f7.results.toList pr7) := by
  intro x; kernel_rfl
theorem fun7_ok : FunOk Tryd.prog glob 7 (fun7 w04_CodecDecodes) :=
  fun_ok (pa := pa7) (pr := pr7) w04_CodecDecodes (env7 w04_awake codec_Decode r04_Same r04_Decode) Tryd.func7 (by kernel_rfl) (fun X hP hG => env7_ok hP hG) (fun X w0 hP hG => loopsOk_of [] (by kernel_rfl) trivial) (ev7 w04_awake codec_Decode r04_Same r04_Decode )
/-! muniment/munimentlaw04.CodecCuts -/
abbrev pa8 : List DP := [.own (.strc [(.int .u8), (.int .i64), .str]), .sc (.int .u16), .sc (.int .u8)]
abbrev pr8 : RP := (.one (.sc .bool))
def fun8 (f : dpα pa8 → Option pr8.α) : Fun := mkFun pa8 pr8 f
def gam8 (f11 : dpα pa11 → Option pr11.α) (f20 : dpα pa20 → Option pr20.α) (f22 : dpα pa22 → Option pr22.α) : List (Nat × Fun) := [(11, fun11 f11), (20, fun20 f20), (22, fun22 f22)]
def agam8 (f11 : dpα pa11 → Option pr11.α) (f20 : dpα pa20 → Option pr20.α) (f22 : dpα pa22 → Option pr22.α) : List (Nat × FunA) := []
def rgam8 (f11 : dpα pa11 → Option pr11.α) (f20 : dpα pa20 → Option pr20.α) (f22 : dpα pa22 → Option pr22.α) : List (Nat × FunR) := []
def lam8 : List (Nat × LoopC pr8.α) := []
def env8 (f11 : dpα pa11 → Option pr11.α) (f20 : dpα pa20 → Option pr20.α) (f22 : dpα pa22 → Option pr22.α) : Env pr8.α := mkEnv pr8.α tyT (gam8 f11 f20 f22) (rgam8 f11 f20 f22) (agam8 f11 f20 f22) glob lam8
theorem env8_ok {X : Cx} (hP : X.P = Tryd.prog) (hG : X.G = glob) : EnvOk X (env8 w04_awake codec_Encode codec_Decode) := envOk_of hP hG mixed_ok tyT_ok ⟨⟨fun11_ok, _, Tryd.func11, by kernel_rfl, by kernel_rfl⟩, ⟨fun20_ok, _, Tryd.func20, by kernel_rfl, by kernel_rfl⟩, ⟨fun22_ok, _, Tryd.func22, by kernel_rfl, by kernel_rfl⟩, trivial⟩ trivial trivial
theorem ev8 (f11 : dpα pa11 → Option pr11.α) (f20 : dpα pa20 → Option pr20.α) (f22 : dpα pa22 → Option pr22.α) : ∀ x, w04_CodecCuts.b f11 f20 f22 x = ev (env8 f11 f20 f22) (bodyOf Tryd.f8) (start pa8 (Tryd.f8.ntmps - pa8.length) x) (endK (env8 f11 f20 f22) Tryd.f8.results.toList pr8) := by
  intro x; kernel_rfl
theorem fun8_ok : FunOk Tryd.prog glob 8 (fun8 w04_CodecCuts) :=
  fun_ok (pa := pa8) (pr := pr8) w04_CodecCuts (env8 w04_awake codec_Encode codec_Decode) Tryd.func8 (by kernel_rfl) (fun X hP hG => env8_ok hP hG) (fun X w0 hP hG => loopsOk_of [] (by kernel_rfl) trivial) (ev8 w04_awake codec_Encode codec_Decode )
end Go.Px.codl
