import Derived.Test.YtpmnipaimoaagaaDoorSh
import Derived.Test.YtpmnipaimoaagaaDoorPxC
import Derived.Test.YtpmnipaimoaagaaDoorQuo
import Derived.Test.YtpmnipaimoaagaaDoorShelf
import Derived.Test.YtpmnipaimoaagaaDoorProg
import Derived.KernelRfl
set_option linter.unusedVariables false
set_option linter.unusedSimpArgs false
set_option maxRecDepth 100000
namespace Go.Px.linr
open Go Go.Proofs Go.Px
def globL : List (Nat × List Seg) := [(1, [.arr (.sc (.int .u8)) 256 gvFirst]), (2, [.arr (.strc [(.int .u8), (.int .u8)]) 16 gvAccept])]
def glob : Nat → Option (List Seg) := assoc globL
theorem glob_ok {w : World} (h : AllP (GEnt w) globL) : GOk ⟨Tryd.prog, w.heap.size, glob, noM⟩ w := gok_of h
def tyT : List (Nat × TI) := [(3, .sc (.int .i64) 8),
  (4, .sc .bool 1),
  (5, .sc (.int .u8) 1),
  (9, .sc .str 16),
  (21, .sc (.int .i32) 4),
  (23, .sl 9),
  (25, .sx (.struct #[{ name := "Verb", type := 5, offset := 0, embedded := false, tag := "", pkgPath := "", byteOffset := 0 }, { name := "Args", type := 23, offset := 1, embedded := false, tag := "", pkgPath := "", byteOffset := 8 }]) [.one (.int .u8), .ro (.sc .str)] 32),
  (26, .sc (.int .i64) 8),
  (33, .sl 3),
  (51, .sl 54),
  (54, .st (.struct #[{ name := "R", type := 21, offset := 0, embedded := false, tag := "", pkgPath := "", byteOffset := 0 }, { name := "At", type := 3, offset := 1, embedded := false, tag := "", pkgPath := "", byteOffset := 8 }, { name := "Ok", type := 4, offset := 2, embedded := false, tag := "", pkgPath := "", byteOffset := 16 }]) [(.int .i32), (.int .i64), .bool] 24)]
theorem tyT_ok : AllP (fun x => TOk Tryd.prog x.1 x.2) tyT := ⟨tok_sc (.int .i64) 8 (by kernel_rfl) (by kernel_rfl),
  tok_sc .bool 1 (by kernel_rfl) (by kernel_rfl),
  tok_sc (.int .u8) 1 (by kernel_rfl) (by kernel_rfl),
  tok_sc .str 16 (by kernel_rfl) (by kernel_rfl),
  tok_sc (.int .i32) 4 (by kernel_rfl) (by kernel_rfl),
  tok_sl 9 (by kernel_rfl) (by kernel_rfl),
  tok_sx (by kernel_rfl) (by kernel_rfl) ⟨_, rfl⟩ (by kernel_rfl) (by kernel_rfl),
  tok_sc (.int .i64) 8 (by kernel_rfl) (by kernel_rfl),
  tok_sl 3 (by kernel_rfl) (by kernel_rfl),
  tok_sl 54 (by kernel_rfl) (by kernel_rfl),
  tok_st (by kernel_rfl) (by kernel_rfl) ⟨_, rfl⟩ (by kernel_rfl) (by kernel_rfl), trivial⟩
theorem mixed_ok : Tryd.prog.follows .mixedOrders = true := by kernel_rfl
/-! muniment/line.quoted -/
abbrev pa20 : List DP := [.sc .str, .sc (.int .i64)]
abbrev pr20 : RP := (.tup [.sc .str, .sc (.int .i64), .sc .bool])
def fun20 (f : dpα pa20 → Option pr20.α) : Fun := mkFun pa20 pr20 f
theorem fun20_ok : FunOk Tryd.prog glob 20 (fun20 line_quoted) :=
  Quo.quoted_ok (G := glob) rfl rfl
/-! unicode/utf8.DecodeRuneInString -/
abbrev pa30 : List DP := [.sc .str]
abbrev pr30 : RP := (.tup [.sc (.int .i32), .sc (.int .i64)])
def fun30 (f : dpα pa30 → Option pr30.α) : Fun := mkFun pa30 pr30 f
theorem fun30_ok : FunOk Tryd.prog glob 30 (fun30 unicode_utf8_DecodeRuneInString) :=
  decode_ok rfl rfl (fun s w h => Go.Proofs.Tryd.utf8_DecodeRuneInString s w h)
/-! muniment/line.wrong -/
abbrev pa26 : List DP := [.sc .str, .sc (.int .i64), .sc (.int .i32)]
abbrev pr26 : RP := (.one (.sc .bool))
def fun26 (f : dpα pa26 → Option pr26.α) : Fun := mkFun pa26 pr26 f
def gam26 (f30 : dpα pa30 → Option pr30.α) : List (Nat × Fun) := [(30, fun30 f30)]
def agam26 (f30 : dpα pa30 → Option pr30.α) : List (Nat × FunA) := []
def rgam26 (f30 : dpα pa30 → Option pr30.α) : List (Nat × FunR) := []
def lam26 : List (Nat × LoopC pr26.α) := []
def env26 (f30 : dpα pa30 → Option pr30.α) : Env pr26.α := mkEnv pr26.α tyT (gam26 f30) (rgam26 f30) (agam26 f30) glob lam26
theorem env26_ok {X : Cx} (hP : X.P = Tryd.prog) (hG : X.G = glob) : EnvOk X (env26 unicode_utf8_DecodeRuneInString) := envOk_of hP hG mixed_ok tyT_ok ⟨⟨fun30_ok, _, Tryd.func30, by kernel_rfl, by kernel_rfl⟩, trivial⟩ trivial trivial
theorem ev26 (f30 : dpα pa30 → Option pr30.α) : ∀ x, line_wrong.b f30 x = ev (env26 f30) (bodyOf Tryd.f26) (start pa26 (Tryd.f26.ntmps - pa26.length) x) (endK (env26 f30) Tryd.f26.results.toList pr26) := by
  intro x; kernel_rfl
theorem fun26_ok : FunOk Tryd.prog glob 26 (fun26 line_wrong) :=
  fun_ok (pa := pa26) (pr := pr26) line_wrong (env26 unicode_utf8_DecodeRuneInString) Tryd.func26 (by kernel_rfl) (fun X hP hG => env26_ok hP hG) (fun X w0 hP hG => loopsOk_of [] (by kernel_rfl) trivial) (ev26 unicode_utf8_DecodeRuneInString )
/-! muniment/line.bare -/
abbrev pa21 : List DP := [.sc .str, .sc (.int .i64)]
abbrev pr21 : RP := (.tup [.sc .str, .sc (.int .i64), .sc .bool])
def fun21 (f : dpα pa21 → Option pr21.α) : Fun := mkFun pa21 pr21 f
abbrev pi21_0 : List IP := [.sc .str, .sc (.int .i64), .junk, .junk, .junk, .junk, .junk, .junk, .junk, .junk, .junk, .junk, .iter, .junk, .junk, .junk, .junk, .junk, .junk, .junk, .junk, .junk, .junk, .junk, .junk, .junk, .junk, .junk, .junk, .junk, .junk, .junk, .junk, .junk, .junk, .junk, .junk, .junk, .junk, .junk, .junk, .junk, .junk, .junk, .junk, .junk, .junk, .junk, .junk, .junk, .junk, .junk]
abbrev px21_0 : List IP := [.sc .str, .sc (.int .i64), .junk, .junk, .junk, .junk, .junk, .junk, .junk, .junk, .junk, .junk, .junk, .junk, .junk, .junk, .junk, .junk, .junk, .junk, .junk, .junk, .junk, .junk, .junk, .junk, .junk, .junk, .junk, .junk, .junk, .junk, .junk, .junk, .junk, .junk, .junk, .junk, .junk, .junk, .junk, .junk, .junk, .junk, .junk, .junk, .junk, .junk, .junk, .junk, .junk, .junk]
def gam21 (f26 : dpα pa26 → Option pr26.α) : List (Nat × Fun) := [(26, fun26 f26)]
def agam21 (f26 : dpα pa26 → Option pr26.α) : List (Nat × FunA) := []
def rgam21 (f26 : dpα pa26 → Option pr26.α) : List (Nat × FunR) := []
def lam21 (l0 : ipα pi21_0 → (ipα px21_0 → Option pr21.α) → Option pr21.α) : List (Nat × LoopC pr21.α) := [(0, mkLoop pi21_0 px21_0 l0)]
def env21 (f26 : dpα pa26 → Option pr26.α) (l0 : ipα pi21_0 → (ipα px21_0 → Option pr21.α) → Option pr21.α) : Env pr21.α := mkEnv pr21.α tyT (gam21 f26) (rgam21 f26) (agam21 f26) glob (lam21 l0)
theorem env21_ok {X : Cx} (hP : X.P = Tryd.prog) (hG : X.G = glob) : EnvOk X (env21 line_wrong line_bare.l0) := envOk_of hP hG mixed_ok tyT_ok ⟨⟨fun26_ok, _, Tryd.func26, by kernel_rfl, by kernel_rfl⟩, trivial⟩ trivial trivial
theorem st21_0 (f26 : dpα pa26 → Option pr26.α) (l0 : ipα pi21_0 → (ipα px21_0 → Option pr21.α) → Option pr21.α) : ∀ s kx κ, line_bare.s0b f26 kx s κ = ev (env21 f26 l0) (innerOf 0 (bodyOf Tryd.f21)) (ipInj pi21_0 s) (roundK pi21_0 px21_0 0 (endK (env21 f26 l0) Tryd.f21.results.toList pr21 .ret) kx κ) := by
  intro s kx κ; kernel_rfl
theorem lo21_0 {X : Cx} {w0 : World} (hP : X.P = Tryd.prog) (hG : X.G = glob) : LoopOk X w0 (mkLoop pi21_0 px21_0 line_bare.l0) (.loop (innerOf 0 (bodyOf Tryd.f21))) 0 (endK (env21 line_wrong line_bare.l0) Tryd.f21.results.toList pr21 .ret) :=
  loop_ok (env21_ok hP hG) (by kernel_rfl) (by kernel_rfl) line_bare.s0 line_bare.n0 (fun _ _ => rfl) (loopsOk_of [] (by kernel_rfl) trivial) (st21_0 line_wrong line_bare.l0 )
theorem ev21 (f26 : dpα pa26 → Option pr26.α) (l0 : ipα pi21_0 → (ipα px21_0 → Option pr21.α) → Option pr21.α) : ∀ x, line_bare.b l0 x = ev (env21 f26 l0) (bodyOf Tryd.f21) (start pa21 (Tryd.f21.ntmps - pa21.length) x) (endK (env21 f26 l0) Tryd.f21.results.toList pr21) := by
  intro x; kernel_rfl
theorem fun21_ok : FunOk Tryd.prog glob 21 (fun21 line_bare) :=
  fun_ok (pa := pa21) (pr := pr21) line_bare (env21 line_wrong line_bare.l0) Tryd.func21 (by kernel_rfl) (fun X hP hG => env21_ok hP hG) (fun X w0 hP hG => loopsOk_of [(0, .loop (innerOf 0 (bodyOf Tryd.f21)))] (by kernel_rfl) ⟨⟨_, by kernel_rfl, lo21_0 hP hG⟩, trivial⟩) (ev21 line_wrong line_bare.l0 )
/-! muniment/line.Words -/
abbrev pa13 : List DP := [.sc .str]
abbrev pr13 : RP := (.tup [.own (.sc .str), .sc (.int .i64), .sc (.int .i64)])
def fun13 (f : dpα pa13 → Option pr13.α) : Fun := mkFun pa13 pr13 f
abbrev pi13_2 : List IP := [.sc .str, .junk, .junk, .junk, .junk, .own (.sc .str), .sc (.int .i64), .junk, .junk, .junk, .junk, .junk, .junk, .junk, .junk, .junk, .junk, .junk, .junk, .junk, .junk, .junk, .junk, .junk, .junk, .junk, .junk, .junk, .junk, .junk, .junk, .junk, .junk, .junk, .junk, .junk, .junk, .junk, .junk, .junk, .junk, .junk, .junk, .junk, .junk, .junk, .junk, .junk, .junk, .junk, .junk, .junk, .junk, .junk, .junk]
abbrev px13_2 : List IP := [.sc .str, .junk, .junk, .junk, .junk, .own (.sc .str), .sc (.int .i64), .junk, .junk, .junk, .junk, .junk, .junk, .junk, .junk, .junk, .junk, .junk, .junk, .junk, .junk, .junk, .junk, .junk, .junk, .junk, .junk, .junk, .junk, .junk, .junk, .junk, .junk, .junk, .junk, .junk, .junk, .junk, .junk, .junk, .junk, .junk, .junk, .junk, .junk, .junk, .junk, .junk, .junk, .junk, .junk, .junk, .junk, .junk, .junk]
abbrev pi13_0 : List IP := [.sc .str, .junk, .junk, .junk, .junk, .own (.sc .str), .sc (.int .i64), .junk, .junk, .junk, .junk, .junk, .junk, .junk, .junk, .junk, .junk, .junk, .junk, .junk, .junk, .junk, .junk, .junk, .junk, .junk, .junk, .junk, .junk, .junk, .junk, .junk, .junk, .junk, .junk, .junk, .junk, .junk, .junk, .junk, .junk, .junk, .junk, .junk, .junk, .junk, .junk, .junk, .junk, .junk, .junk, .junk, .junk, .junk, .junk]
abbrev px13_0 : List IP := [.junk, .junk, .junk, .junk, .junk, .junk, .junk, .junk, .junk, .junk, .junk, .junk, .junk, .junk, .junk, .junk, .junk, .junk, .junk, .junk, .junk, .junk, .junk, .junk, .junk, .junk, .junk, .junk, .junk, .junk, .junk, .junk, .junk, .junk, .junk, .junk, .junk, .junk, .junk, .junk, .junk, .junk, .junk, .junk, .junk, .junk, .junk, .junk, .junk, .junk, .junk, .junk, .junk, .junk, .junk]
def gam13 (f20 : dpα pa20 → Option pr20.α) (f21 : dpα pa21 → Option pr21.α) : List (Nat × Fun) := [(20, fun20 f20), (21, fun21 f21)]
def agam13 (f20 : dpα pa20 → Option pr20.α) (f21 : dpα pa21 → Option pr21.α) : List (Nat × FunA) := []
def rgam13 (f20 : dpα pa20 → Option pr20.α) (f21 : dpα pa21 → Option pr21.α) : List (Nat × FunR) := []
def lam13 (l2 : ipα pi13_2 → (ipα px13_2 → Option pr13.α) → Option pr13.α) (l0 : ipα pi13_0 → (ipα px13_0 → Option pr13.α) → Option pr13.α) : List (Nat × LoopC pr13.α) := [(2, mkLoop pi13_2 px13_2 l2), (0, mkLoop pi13_0 px13_0 l0)]
def env13 (f20 : dpα pa20 → Option pr20.α) (f21 : dpα pa21 → Option pr21.α) (l2 : ipα pi13_2 → (ipα px13_2 → Option pr13.α) → Option pr13.α) (l0 : ipα pi13_0 → (ipα px13_0 → Option pr13.α) → Option pr13.α) : Env pr13.α := mkEnv pr13.α tyT (gam13 f20 f21) (rgam13 f20 f21) (agam13 f20 f21) glob (lam13 l2 l0)
theorem env13_ok {X : Cx} (hP : X.P = Tryd.prog) (hG : X.G = glob) : EnvOk X (env13 line_quoted line_bare line_Words.l2 line_Words.l0) := envOk_of hP hG mixed_ok tyT_ok ⟨⟨fun20_ok, _, Tryd.func20, by kernel_rfl, by kernel_rfl⟩, ⟨fun21_ok, _, Tryd.func21, by kernel_rfl, by kernel_rfl⟩, trivial⟩ trivial trivial
theorem st13_2 (f20 : dpα pa20 → Option pr20.α) (f21 : dpα pa21 → Option pr21.α) (l2 : ipα pi13_2 → (ipα px13_2 → Option pr13.α) → Option pr13.α) (l0 : ipα pi13_0 → (ipα px13_0 → Option pr13.α) → Option pr13.α) : ∀ s kx κ, line_Words.s2b kx s κ = ev (env13 f20 f21 l2 l0) (innerOf 2 (bodyOf Tryd.f13)) (ipInj pi13_2 s) (roundK pi13_2 px13_2 2 (endK (env13 f20 f21 l2 l0) Tryd.f13.results.toList pr13 .ret) kx κ) := by
  intro s kx κ; kernel_rfl
theorem lo13_2 {X : Cx} {w0 : World} (hP : X.P = Tryd.prog) (hG : X.G = glob) : LoopOk X w0 (mkLoop pi13_2 px13_2 line_Words.l2) (.loop (innerOf 2 (bodyOf Tryd.f13))) 2 (endK (env13 line_quoted line_bare line_Words.l2 line_Words.l0) Tryd.f13.results.toList pr13 .ret) :=
  loop_ok (env13_ok hP hG) (by kernel_rfl) (by kernel_rfl) line_Words.s2 line_Words.n2 (fun _ _ => rfl) (loopsOk_of [] (by kernel_rfl) trivial) (st13_2 line_quoted line_bare line_Words.l2 line_Words.l0 )
theorem st13_0 (f20 : dpα pa20 → Option pr20.α) (f21 : dpα pa21 → Option pr21.α) (l2 : ipα pi13_2 → (ipα px13_2 → Option pr13.α) → Option pr13.α) (l0 : ipα pi13_0 → (ipα px13_0 → Option pr13.α) → Option pr13.α) : ∀ s kx κ, line_Words.s0b f20 f21 l2 kx s κ = ev (env13 f20 f21 l2 l0) (innerOf 0 (bodyOf Tryd.f13)) (ipInj pi13_0 s) (roundK pi13_0 px13_0 0 (endK (env13 f20 f21 l2 l0) Tryd.f13.results.toList pr13 .ret) kx κ) := by
  intro s kx κ; kernel_rfl
theorem lo13_0 {X : Cx} {w0 : World} (hP : X.P = Tryd.prog) (hG : X.G = glob) : LoopOk X w0 (mkLoop pi13_0 px13_0 line_Words.l0) (.loop (innerOf 0 (bodyOf Tryd.f13))) 0 (endK (env13 line_quoted line_bare line_Words.l2 line_Words.l0) Tryd.f13.results.toList pr13 .ret) :=
  loop_ok (env13_ok hP hG) (by kernel_rfl) (by kernel_rfl) line_Words.s0 line_Words.n0 (fun _ _ => rfl) (loopsOk_of [(2, .loop (innerOf 2 (bodyOf Tryd.f13)))] (by kernel_rfl) ⟨⟨_, by kernel_rfl, lo13_2 hP hG⟩, trivial⟩) (st13_0 line_quoted line_bare line_Words.l2 line_Words.l0 )
theorem ev13 (f20 : dpα pa20 → Option pr20.α) (f21 : dpα pa21 → Option pr21.α) (l2 : ipα pi13_2 → (ipα px13_2 → Option pr13.α) → Option pr13.α) (l0 : ipα pi13_0 → (ipα px13_0 → Option pr13.α) → Option pr13.α) : ∀ x, line_Words.b l0 x = ev (env13 f20 f21 l2 l0) (bodyOf Tryd.f13) (start pa13 (Tryd.f13.ntmps - pa13.length) x) (endK (env13 f20 f21 l2 l0) Tryd.f13.results.toList pr13) := by
  intro x; kernel_rfl
theorem fun13_ok : FunOk Tryd.prog glob 13 (fun13 line_Words) :=
  fun_ok (pa := pa13) (pr := pr13) line_Words (env13 line_quoted line_bare line_Words.l2 line_Words.l0) Tryd.func13 (by kernel_rfl) (fun X hP hG => env13_ok hP hG) (fun X w0 hP hG => loopsOk_of [(0, .loop (innerOf 0 (bodyOf Tryd.f13)))] (by kernel_rfl) ⟨⟨_, by kernel_rfl, lo13_0 hP hG⟩, trivial⟩) (ev13 line_quoted line_bare line_Words.l2 line_Words.l0 )
/-! muniment/munimentlaw05.awake -/
abbrev pa9 : List DP := []
abbrev pr9 : RP := (.one (.sc .bool))
def fun9 (f : dpα pa9 → Option pr9.α) : Fun := mkFun pa9 pr9 f
def gam9 (f13 : dpα pa13 → Option pr13.α) : List (Nat × Fun) := [(13, fun13 f13)]
def agam9 (f13 : dpα pa13 → Option pr13.α) : List (Nat × FunA) := []
def rgam9 (f13 : dpα pa13 → Option pr13.α) : List (Nat × FunR) := []
def lam9 : List (Nat × LoopC pr9.α) := []
def env9 (f13 : dpα pa13 → Option pr13.α) : Env pr9.α := mkEnv pr9.α tyT (gam9 f13) (rgam9 f13) (agam9 f13) glob lam9
theorem env9_ok {X : Cx} (hP : X.P = Tryd.prog) (hG : X.G = glob) : EnvOk X (env9 line_Words) := envOk_of hP hG mixed_ok tyT_ok ⟨⟨fun13_ok, _, Tryd.func13, by kernel_rfl, by kernel_rfl⟩, trivial⟩ trivial trivial
theorem ev9 (f13 : dpα pa13 → Option pr13.α) : ∀ x, w05_awake.b f13 x = ev (env9 f13) (bodyOf Tryd.f9) (start pa9 (Tryd.f9.ntmps - pa9.length) x) (endK (env9 f13) Tryd.f9.results.toList pr9) := by
  intro x; kernel_rfl
theorem fun9_ok : FunOk Tryd.prog glob 9 (fun9 w05_awake) :=
  fun_ok (pa := pa9) (pr := pr9) w05_awake (env9 line_Words) Tryd.func9 (by kernel_rfl) (fun X hP hG => env9_ok hP hG) (fun X w0 hP hG => loopsOk_of [] (by kernel_rfl) trivial) (ev9 line_Words )
/-! muniment/munimentref03.Chars -/
abbrev pa22 : List DP := [.sc .str]
abbrev pr22 : RP := (.one (.own (.strc [(.int .i32), (.int .i64), .bool])))
def fun22 (f : dpα pa22 → Option pr22.α) : Fun := mkFun pa22 pr22 f
abbrev pi22_0 : List IP := [.sc .str, .junk, .junk, .own (.strc [(.int .i32), (.int .i64), .bool]), .sc (.int .i64), .junk, .junk, .junk, .junk, .junk, .junk, .junk, .junk, .junk, .junk, .junk, .junk, .junk, .junk, .junk, .junk, .junk, .junk, .junk, .junk, .junk, .junk, .junk, .junk, .junk, .junk, .junk, .junk, .junk]
abbrev px22_0 : List IP := [.junk, .junk, .junk, .own (.strc [(.int .i32), (.int .i64), .bool]), .junk, .junk, .junk, .junk, .junk, .junk, .junk, .junk, .junk, .junk, .junk, .junk, .junk, .junk, .junk, .junk, .junk, .junk, .junk, .junk, .junk, .junk, .junk, .junk, .junk, .junk, .junk, .junk, .junk, .junk]
def gam22 (f30 : dpα pa30 → Option pr30.α) : List (Nat × Fun) := [(30, fun30 f30)]
def agam22 (f30 : dpα pa30 → Option pr30.α) : List (Nat × FunA) := []
def rgam22 (f30 : dpα pa30 → Option pr30.α) : List (Nat × FunR) := []
def lam22 (l0 : ipα pi22_0 → (ipα px22_0 → Option pr22.α) → Option pr22.α) : List (Nat × LoopC pr22.α) := [(0, mkLoop pi22_0 px22_0 l0)]
def env22 (f30 : dpα pa30 → Option pr30.α) (l0 : ipα pi22_0 → (ipα px22_0 → Option pr22.α) → Option pr22.α) : Env pr22.α := mkEnv pr22.α tyT (gam22 f30) (rgam22 f30) (agam22 f30) glob (lam22 l0)
theorem env22_ok {X : Cx} (hP : X.P = Tryd.prog) (hG : X.G = glob) : EnvOk X (env22 unicode_utf8_DecodeRuneInString r03_Chars.l0) := envOk_of hP hG mixed_ok tyT_ok ⟨⟨fun30_ok, _, Tryd.func30, by kernel_rfl, by kernel_rfl⟩, trivial⟩ trivial trivial
theorem st22_0 (f30 : dpα pa30 → Option pr30.α) (l0 : ipα pi22_0 → (ipα px22_0 → Option pr22.α) → Option pr22.α) : ∀ s kx κ, r03_Chars.s0b f30 kx s κ = ev (env22 f30 l0) (innerOf 0 (bodyOf Tryd.f22)) (ipInj pi22_0 s) (roundK pi22_0 px22_0 0 (endK (env22 f30 l0) Tryd.f22.results.toList pr22 .ret) kx κ) := by
  intro s kx κ; kernel_rfl
theorem lo22_0 {X : Cx} {w0 : World} (hP : X.P = Tryd.prog) (hG : X.G = glob) : LoopOk X w0 (mkLoop pi22_0 px22_0 r03_Chars.l0) (.loop (innerOf 0 (bodyOf Tryd.f22))) 0 (endK (env22 unicode_utf8_DecodeRuneInString r03_Chars.l0) Tryd.f22.results.toList pr22 .ret) :=
  loop_ok (env22_ok hP hG) (by kernel_rfl) (by kernel_rfl) r03_Chars.s0 r03_Chars.n0 (fun _ _ => rfl) (loopsOk_of [] (by kernel_rfl) trivial) (st22_0 unicode_utf8_DecodeRuneInString r03_Chars.l0 )
theorem ev22 (f30 : dpα pa30 → Option pr30.α) (l0 : ipα pi22_0 → (ipα px22_0 → Option pr22.α) → Option pr22.α) : ∀ x, r03_Chars.b l0 x = ev (env22 f30 l0) (bodyOf Tryd.f22) (start pa22 (Tryd.f22.ntmps - pa22.length) x) (endK (env22 f30 l0) Tryd.f22.results.toList pr22) := by
  intro x; kernel_rfl
theorem fun22_ok : FunOk Tryd.prog glob 22 (fun22 r03_Chars) :=
  fun_ok (pa := pa22) (pr := pr22) r03_Chars (env22 unicode_utf8_DecodeRuneInString r03_Chars.l0) Tryd.func22 (by kernel_rfl) (fun X hP hG => env22_ok hP hG) (fun X w0 hP hG => loopsOk_of [(0, .loop (innerOf 0 (bodyOf Tryd.f22)))] (by kernel_rfl) ⟨⟨_, by kernel_rfl, lo22_0 hP hG⟩, trivial⟩) (ev22 unicode_utf8_DecodeRuneInString r03_Chars.l0 )
/-! muniment/munimentref05.plain -/
abbrev pa23 : List DP := [.strc [.one (.int .i32), .one (.int .i64), .one .bool]]
abbrev pr23 : RP := (.one (.sc .bool))
def fun23 (f : dpα pa23 → Option pr23.α) : Fun := mkFun pa23 pr23 f
def gam23 : List (Nat × Fun) := []
def agam23 : List (Nat × FunA) := []
def rgam23 : List (Nat × FunR) := []
def lam23 : List (Nat × LoopC pr23.α) := []
def env23 : Env pr23.α := mkEnv pr23.α tyT gam23 rgam23 agam23 glob lam23
theorem env23_ok {X : Cx} (hP : X.P = Tryd.prog) (hG : X.G = glob) : EnvOk X env23 := envOk_of hP hG mixed_ok tyT_ok trivial trivial trivial
theorem ev23 : ∀ x, r05_plain.b x = ev env23 (bodyOf Tryd.f23) (start pa23 (Tryd.f23.ntmps - pa23.length) x) (endK env23 Tryd.f23.results.toList pr23) := by
  intro x; kernel_rfl
theorem fun23_ok : FunOk Tryd.prog glob 23 (fun23 r05_plain) :=
  fun_ok (pa := pa23) (pr := pr23) r05_plain env23 Tryd.func23 (by kernel_rfl) (fun X hP hG => env23_ok hP hG) (fun X w0 hP hG => loopsOk_of [] (by kernel_rfl) trivial) (ev23 )
/-! muniment/munimentref05.Words -/
abbrev pa14 : List DP := [.sc .str]
abbrev pr14 : RP := (.tup [.own (.sc .str), .sc (.int .i64), .sc (.int .i64)])
def fun14 (f : dpα pa14 → Option pr14.α) : Fun := mkFun pa14 pr14 f
abbrev pi14_0 : List IP := [.sc .str, .junk, .junk, .junk, .junk, .own (.strc [(.int .i32), (.int .i64), .bool]), .own (.sc .str), .sc .str, .sc (.int .i64), .sc (.int .i64), .junk, .junk, .junk, .junk, .junk, .junk, .junk, .junk, .junk, .junk, .junk, .junk, .junk, .junk, .junk, .junk, .junk, .junk, .junk, .junk, .junk, .junk, .junk, .junk, .junk, .junk, .junk, .junk, .junk, .junk, .junk, .junk, .junk, .junk, .junk, .junk, .junk, .junk, .junk, .junk, .junk, .junk, .junk, .junk, .junk, .junk, .junk, .junk, .junk, .junk, .junk, .junk, .junk, .junk, .junk, .junk, .junk, .junk, .junk, .junk, .junk, .junk, .junk, .junk, .junk, .junk, .junk, .junk, .junk, .junk, .junk, .junk, .junk, .junk, .junk, .junk, .junk, .junk, .junk, .junk, .junk, .junk, .junk, .junk, .junk, .junk, .junk, .junk, .junk, .junk, .junk, .junk, .junk, .junk, .junk, .junk, .junk, .junk, .junk, .junk, .junk, .junk, .junk, .junk, .junk, .junk, .junk, .junk, .junk, .junk, .junk, .junk, .junk, .junk, .junk, .junk, .junk, .junk, .junk, .junk, .junk, .junk, .junk, .junk, .junk, .junk, .junk, .junk, .junk, .junk]
abbrev px14_0 : List IP := [.sc .str, .junk, .junk, .junk, .junk, .junk, .own (.sc .str), .sc .str, .sc (.int .i64), .junk, .junk, .junk, .junk, .junk, .junk, .junk, .junk, .junk, .junk, .junk, .junk, .junk, .junk, .junk, .junk, .junk, .junk, .junk, .junk, .junk, .junk, .junk, .junk, .junk, .junk, .junk, .junk, .junk, .junk, .junk, .junk, .junk, .junk, .junk, .junk, .junk, .junk, .junk, .junk, .junk, .junk, .junk, .junk, .junk, .junk, .junk, .junk, .junk, .junk, .junk, .junk, .junk, .junk, .junk, .junk, .junk, .junk, .junk, .junk, .junk, .junk, .junk, .junk, .junk, .junk, .junk, .junk, .junk, .junk, .junk, .junk, .junk, .junk, .junk, .junk, .junk, .junk, .junk, .junk, .junk, .junk, .junk, .junk, .junk, .junk, .junk, .junk, .junk, .junk, .junk, .junk, .junk, .junk, .junk, .junk, .junk, .junk, .junk, .junk, .junk, .junk, .junk, .junk, .junk, .junk, .junk, .junk, .junk, .junk, .junk, .junk, .junk, .junk, .junk, .junk, .junk, .junk, .junk, .junk, .junk, .junk, .junk, .junk, .junk, .junk, .junk, .junk, .junk, .junk, .junk]
def gam14 (f22 : dpα pa22 → Option pr22.α) (f23 : dpα pa23 → Option pr23.α) : List (Nat × Fun) := [(22, fun22 f22), (23, fun23 f23)]
def agam14 (f22 : dpα pa22 → Option pr22.α) (f23 : dpα pa23 → Option pr23.α) : List (Nat × FunA) := []
def rgam14 (f22 : dpα pa22 → Option pr22.α) (f23 : dpα pa23 → Option pr23.α) : List (Nat × FunR) := []
def lam14 (l0 : ipα pi14_0 → (ipα px14_0 → Option pr14.α) → Option pr14.α) : List (Nat × LoopC pr14.α) := [(0, mkLoop pi14_0 px14_0 l0)]
def env14 (f22 : dpα pa22 → Option pr22.α) (f23 : dpα pa23 → Option pr23.α) (l0 : ipα pi14_0 → (ipα px14_0 → Option pr14.α) → Option pr14.α) : Env pr14.α := mkEnv pr14.α tyT (gam14 f22 f23) (rgam14 f22 f23) (agam14 f22 f23) glob (lam14 l0)
theorem env14_ok {X : Cx} (hP : X.P = Tryd.prog) (hG : X.G = glob) : EnvOk X (env14 r03_Chars r05_plain r05_Words.l0) := envOk_of hP hG mixed_ok tyT_ok ⟨⟨fun22_ok, _, Tryd.func22, by kernel_rfl, by kernel_rfl⟩, ⟨fun23_ok, _, Tryd.func23, by kernel_rfl, by kernel_rfl⟩, trivial⟩ trivial trivial
theorem st14_0 (f22 : dpα pa22 → Option pr22.α) (f23 : dpα pa23 → Option pr23.α) (l0 : ipα pi14_0 → (ipα px14_0 → Option pr14.α) → Option pr14.α) : ∀ s kx κ, r05_Words.s0b f23 kx s κ = ev (env14 f22 f23 l0) (innerOf 0 (bodyOf Tryd.f14)) (ipInj pi14_0 s) (roundK pi14_0 px14_0 0 (endK (env14 f22 f23 l0) Tryd.f14.results.toList pr14 .ret) kx κ) := by
  intro s kx κ; kernel_rfl
theorem lo14_0 {X : Cx} {w0 : World} (hP : X.P = Tryd.prog) (hG : X.G = glob) : LoopOk X w0 (mkLoop pi14_0 px14_0 r05_Words.l0) (.loop (innerOf 0 (bodyOf Tryd.f14))) 0 (endK (env14 r03_Chars r05_plain r05_Words.l0) Tryd.f14.results.toList pr14 .ret) :=
  loop_ok (env14_ok hP hG) (by kernel_rfl) (by kernel_rfl) r05_Words.s0 r05_Words.n0 (fun _ _ => rfl) (loopsOk_of [] (by kernel_rfl) trivial) (st14_0 r03_Chars r05_plain r05_Words.l0 )
theorem ev14 (f22 : dpα pa22 → Option pr22.α) (f23 : dpα pa23 → Option pr23.α) (l0 : ipα pi14_0 → (ipα px14_0 → Option pr14.α) → Option pr14.α) : ∀ x, r05_Words.b f22 l0 x = ev (env14 f22 f23 l0) (bodyOf Tryd.f14) (start pa14 (Tryd.f14.ntmps - pa14.length) x) (endK (env14 f22 f23 l0) Tryd.f14.results.toList pr14) := by
  intro x; kernel_rfl
theorem fun14_ok : FunOk Tryd.prog glob 14 (fun14 r05_Words) :=
  fun_ok (pa := pa14) (pr := pr14) r05_Words (env14 r03_Chars r05_plain r05_Words.l0) Tryd.func14 (by kernel_rfl) (fun X hP hG => env14_ok hP hG) (fun X w0 hP hG => loopsOk_of [(0, .loop (innerOf 0 (bodyOf Tryd.f14)))] (by kernel_rfl) ⟨⟨_, by kernel_rfl, lo14_0 hP hG⟩, trivial⟩) (ev14 r03_Chars r05_plain r05_Words.l0 )
/-! muniment/munimentref05.Same -/
abbrev pa11 : List DP := [.strc [.one (.int .u8), .ro (.sc .str)], .strc [.one (.int .u8), .ro (.sc .str)]]
abbrev pr11 : RP := (.one (.sc .bool))
def fun11 (f : dpα pa11 → Option pr11.α) : Fun := mkFun pa11 pr11 f
abbrev pi11_0 : List IP := [.junk, .junk, .obj [.one (.int .u8), .ro (.sc .str)], .obj [.one (.int .u8), .ro (.sc .str)], .junk, .sc (.int .i64), .junk, .junk, .junk, .junk, .junk, .junk, .junk, .junk, .junk, .junk, .junk, .junk, .junk, .junk, .junk, .junk, .junk, .junk, .junk, .junk, .junk, .junk, .junk, .junk, .junk, .junk, .junk, .junk, .junk, .junk, .junk, .junk]
abbrev px11_0 : List IP := [.junk, .junk, .junk, .junk, .junk, .junk, .junk, .junk, .junk, .junk, .junk, .junk, .junk, .junk, .junk, .junk, .junk, .junk, .junk, .junk, .junk, .junk, .junk, .junk, .junk, .junk, .junk, .junk, .junk, .junk, .junk, .junk, .junk, .junk, .junk, .junk, .junk, .junk]
def gam11 : List (Nat × Fun) := []
def agam11 : List (Nat × FunA) := []
def rgam11 : List (Nat × FunR) := []
def lam11 (l0 : ipα pi11_0 → (ipα px11_0 → Option pr11.α) → Option pr11.α) : List (Nat × LoopC pr11.α) := [(0, mkLoop pi11_0 px11_0 l0)]
def env11 (l0 : ipα pi11_0 → (ipα px11_0 → Option pr11.α) → Option pr11.α) : Env pr11.α := mkEnv pr11.α tyT gam11 rgam11 agam11 glob (lam11 l0)
theorem env11_ok {X : Cx} (hP : X.P = Tryd.prog) (hG : X.G = glob) : EnvOk X (env11 r05_Same.l0) := envOk_of hP hG mixed_ok tyT_ok trivial trivial trivial
theorem st11_0 (l0 : ipα pi11_0 → (ipα px11_0 → Option pr11.α) → Option pr11.α) : ∀ s kx κ, r05_Same.s0b kx s κ = ev (env11 l0) (innerOf 0 (bodyOf Tryd.f11)) (ipInj pi11_0 s) (roundK pi11_0 px11_0 0 (endK (env11 l0) Tryd.f11.results.toList pr11 .ret) kx κ) := by
  intro s kx κ; kernel_rfl
theorem lo11_0 {X : Cx} {w0 : World} (hP : X.P = Tryd.prog) (hG : X.G = glob) : LoopOk X w0 (mkLoop pi11_0 px11_0 r05_Same.l0) (.loop (innerOf 0 (bodyOf Tryd.f11))) 0 (endK (env11 r05_Same.l0) Tryd.f11.results.toList pr11 .ret) :=
  loop_ok (env11_ok hP hG) (by kernel_rfl) (by kernel_rfl) r05_Same.s0 r05_Same.n0 (fun _ _ => rfl) (loopsOk_of [] (by kernel_rfl) trivial) (st11_0 r05_Same.l0 )
theorem ev11 (l0 : ipα pi11_0 → (ipα px11_0 → Option pr11.α) → Option pr11.α) : ∀ x, r05_Same.b l0 x = ev (env11 l0) (bodyOf Tryd.f11) (start pa11 (Tryd.f11.ntmps - pa11.length) x) (endK (env11 l0) Tryd.f11.results.toList pr11) := by
  intro x; kernel_rfl
theorem fun11_ok : FunOk Tryd.prog glob 11 (fun11 r05_Same) :=
  fun_ok (pa := pa11) (pr := pr11) r05_Same (env11 r05_Same.l0) Tryd.func11 (by kernel_rfl) (fun X hP hG => env11_ok hP hG) (fun X w0 hP hG => loopsOk_of [(0, .loop (innerOf 0 (bodyOf Tryd.f11)))] (by kernel_rfl) ⟨⟨_, by kernel_rfl, lo11_0 hP hG⟩, trivial⟩) (ev11 r05_Same.l0 )
/-! muniment/munimentref05.verb -/
abbrev pa24 : List DP := [.sc .str]
abbrev pr24 : RP := (.tup [.sc (.int .u8), .sc (.int .i64)])
def fun24 (f : dpα pa24 → Option pr24.α) : Fun := mkFun pa24 pr24 f
abbrev pi24_0 : List IP := [.sc .str, .junk, .junk, .junk, .own (.sc .str), .own (.sc (.int .i64)), .sc (.int .i64), .junk, .junk, .junk, .junk, .junk, .junk, .junk, .junk, .junk, .junk, .junk, .junk, .junk, .junk, .junk, .junk, .junk, .junk, .junk]
abbrev px24_0 : List IP := [.junk, .junk, .junk, .junk, .junk, .junk, .junk, .junk, .junk, .junk, .junk, .junk, .junk, .junk, .junk, .junk, .junk, .junk, .junk, .junk, .junk, .junk, .junk, .junk, .junk, .junk]
def gam24 : List (Nat × Fun) := []
def agam24 : List (Nat × FunA) := []
def rgam24 : List (Nat × FunR) := []
def lam24 (l0 : ipα pi24_0 → (ipα px24_0 → Option pr24.α) → Option pr24.α) : List (Nat × LoopC pr24.α) := [(0, mkLoop pi24_0 px24_0 l0)]
def env24 (l0 : ipα pi24_0 → (ipα px24_0 → Option pr24.α) → Option pr24.α) : Env pr24.α := mkEnv pr24.α tyT gam24 rgam24 agam24 glob (lam24 l0)
theorem env24_ok {X : Cx} (hP : X.P = Tryd.prog) (hG : X.G = glob) : EnvOk X (env24 r05_verb.l0) := envOk_of hP hG mixed_ok tyT_ok trivial trivial trivial
theorem st24_0 (l0 : ipα pi24_0 → (ipα px24_0 → Option pr24.α) → Option pr24.α) : ∀ s kx κ, r05_verb.s0b kx s κ = ev (env24 l0) (innerOf 0 (bodyOf Tryd.f24)) (ipInj pi24_0 s) (roundK pi24_0 px24_0 0 (endK (env24 l0) Tryd.f24.results.toList pr24 .ret) kx κ) := by
  intro s kx κ; kernel_rfl
theorem lo24_0 {X : Cx} {w0 : World} (hP : X.P = Tryd.prog) (hG : X.G = glob) : LoopOk X w0 (mkLoop pi24_0 px24_0 r05_verb.l0) (.loop (innerOf 0 (bodyOf Tryd.f24))) 0 (endK (env24 r05_verb.l0) Tryd.f24.results.toList pr24 .ret) :=
  loop_ok (env24_ok hP hG) (by kernel_rfl) (by kernel_rfl) r05_verb.s0 r05_verb.n0 (fun _ _ => rfl) (loopsOk_of [] (by kernel_rfl) trivial) (st24_0 r05_verb.l0 )
theorem ev24 (l0 : ipα pi24_0 → (ipα px24_0 → Option pr24.α) → Option pr24.α) : ∀ x, r05_verb.b l0 x = ev (env24 l0) (bodyOf Tryd.f24) (start pa24 (Tryd.f24.ntmps - pa24.length) x) (endK (env24 l0) Tryd.f24.results.toList pr24) := by
  intro x; kernel_rfl
theorem fun24_ok : FunOk Tryd.prog glob 24 (fun24 r05_verb) :=
  fun_ok (pa := pa24) (pr := pr24) r05_verb (env24 r05_verb.l0) Tryd.func24 (by kernel_rfl) (fun X hP hG => env24_ok hP hG) (fun X w0 hP hG => loopsOk_of [(0, .loop (innerOf 0 (bodyOf Tryd.f24)))] (by kernel_rfl) ⟨⟨_, by kernel_rfl, lo24_0 hP hG⟩, trivial⟩) (ev24 r05_verb.l0 )
/-! muniment/munimentref05.word -/
abbrev pa25 : List DP := [.sc .str]
abbrev pr25 : RP := (.one (.sc .str))
def fun25 (f : dpα pa25 → Option pr25.α) : Fun := mkFun pa25 pr25 f
abbrev pi25_0 : List IP := [.sc .str, .junk, .junk, .sc .bool, .sc .str, .sc (.int .i64), .junk, .junk, .junk, .junk, .junk, .junk, .junk, .junk, .junk, .junk, .junk, .junk, .junk, .junk, .junk, .junk, .junk, .junk, .junk, .junk, .junk, .junk, .junk, .junk, .junk, .junk, .junk, .junk, .junk, .junk, .junk, .junk, .junk, .junk, .junk, .junk, .junk, .junk, .junk, .junk, .junk, .junk, .junk, .junk, .junk, .junk, .junk]
abbrev px25_0 : List IP := [.sc .str, .junk, .junk, .sc .bool, .sc .str, .junk, .junk, .junk, .junk, .junk, .junk, .junk, .junk, .junk, .junk, .junk, .junk, .junk, .junk, .junk, .junk, .junk, .junk, .junk, .junk, .junk, .junk, .junk, .junk, .junk, .junk, .junk, .junk, .junk, .junk, .junk, .junk, .junk, .junk, .junk, .junk, .junk, .junk, .junk, .junk, .junk, .junk, .junk, .junk, .junk, .junk, .junk, .junk]
def gam25 : List (Nat × Fun) := []
def agam25 : List (Nat × FunA) := []
def rgam25 : List (Nat × FunR) := []
def lam25 (l0 : ipα pi25_0 → (ipα px25_0 → Option pr25.α) → Option pr25.α) : List (Nat × LoopC pr25.α) := [(0, mkLoop pi25_0 px25_0 l0)]
def env25 (l0 : ipα pi25_0 → (ipα px25_0 → Option pr25.α) → Option pr25.α) : Env pr25.α := mkEnv pr25.α tyT gam25 rgam25 agam25 glob (lam25 l0)
theorem env25_ok {X : Cx} (hP : X.P = Tryd.prog) (hG : X.G = glob) : EnvOk X (env25 r05_word.l0) := envOk_of hP hG mixed_ok tyT_ok trivial trivial trivial
theorem st25_0 (l0 : ipα pi25_0 → (ipα px25_0 → Option pr25.α) → Option pr25.α) : ∀ s kx κ, r05_word.s0b kx s κ = ev (env25 l0) (innerOf 0 (bodyOf Tryd.f25)) (ipInj pi25_0 s) (roundK pi25_0 px25_0 0 (endK (env25 l0) Tryd.f25.results.toList pr25 .ret) kx κ) := by
  intro s kx κ; kernel_rfl
theorem lo25_0 {X : Cx} {w0 : World} (hP : X.P = Tryd.prog) (hG : X.G = glob) : LoopOk X w0 (mkLoop pi25_0 px25_0 r05_word.l0) (.loop (innerOf 0 (bodyOf Tryd.f25))) 0 (endK (env25 r05_word.l0) Tryd.f25.results.toList pr25 .ret) :=
  loop_ok (env25_ok hP hG) (by kernel_rfl) (by kernel_rfl) r05_word.s0 r05_word.n0 (fun _ _ => rfl) (loopsOk_of [] (by kernel_rfl) trivial) (st25_0 r05_word.l0 )
theorem ev25 (l0 : ipα pi25_0 → (ipα px25_0 → Option pr25.α) → Option pr25.α) : ∀ x, r05_word.b l0 x = ev (env25 l0) (bodyOf Tryd.f25) (start pa25 (Tryd.f25.ntmps - pa25.length) x) (endK (env25 l0) Tryd.f25.results.toList pr25) := by
  intro x; kernel_rfl
theorem fun25_ok : FunOk Tryd.prog glob 25 (fun25 r05_word) :=
  fun_ok (pa := pa25) (pr := pr25) r05_word (env25 r05_word.l0) Tryd.func25 (by kernel_rfl) (fun X hP hG => env25_ok hP hG) (fun X w0 hP hG => loopsOk_of [(0, .loop (innerOf 0 (bodyOf Tryd.f25)))] (by kernel_rfl) ⟨⟨_, by kernel_rfl, lo25_0 hP hG⟩, trivial⟩) (ev25 r05_word.l0 )
/-! muniment/munimentref05.Write -/
abbrev pa16 : List DP := [.strc [.one (.int .u8), .ro (.sc .str)]]
abbrev pr16 : RP := (.tup [.sc .str, .sc (.int .i64)])
def fun16 (f : dpα pa16 → Option pr16.α) : Fun := mkFun pa16 pr16 f
abbrev pi16_2 : List IP := [.junk, .obj [.one (.int .u8), .ro (.sc .str)], .junk, .junk, .sc .str, .junk, .junk, .sc (.int .i64), .sc (.int .i64), .own (.strc [(.int .i32), (.int .i64), .bool]), .sc (.int .i64), .junk, .junk, .junk, .junk, .junk, .junk, .junk, .junk, .junk, .junk, .junk, .junk, .junk, .junk, .junk, .junk, .junk, .junk, .junk, .junk, .junk, .junk, .junk, .junk, .junk, .junk, .junk, .junk, .junk, .junk, .junk, .junk, .junk, .junk, .junk, .junk, .junk, .junk, .junk, .junk, .junk, .junk, .junk, .junk, .junk, .junk, .junk, .junk, .junk, .junk, .junk, .junk, .junk, .junk, .junk, .junk, .junk, .junk, .junk, .junk, .junk, .junk, .junk, .junk, .junk, .junk, .junk, .junk, .junk, .junk, .junk, .junk, .junk, .junk]
abbrev px16_2 : List IP := [.junk, .obj [.one (.int .u8), .ro (.sc .str)], .junk, .junk, .sc .str, .junk, .junk, .sc (.int .i64), .sc (.int .i64), .junk, .junk, .junk, .junk, .junk, .junk, .junk, .junk, .junk, .junk, .junk, .junk, .junk, .junk, .junk, .junk, .junk, .junk, .junk, .junk, .junk, .junk, .junk, .junk, .junk, .junk, .junk, .junk, .junk, .junk, .junk, .junk, .junk, .junk, .junk, .junk, .junk, .junk, .junk, .junk, .junk, .junk, .junk, .junk, .junk, .junk, .junk, .junk, .junk, .junk, .junk, .junk, .junk, .junk, .junk, .junk, .junk, .junk, .junk, .junk, .junk, .junk, .junk, .junk, .junk, .junk, .junk, .junk, .junk, .junk, .junk, .junk, .junk, .junk, .junk, .junk]
abbrev pi16_0 : List IP := [.junk, .obj [.one (.int .u8), .ro (.sc .str)], .junk, .junk, .sc .str, .junk, .junk, .sc (.int .i64), .sc (.int .i64), .junk, .junk, .junk, .junk, .junk, .junk, .junk, .junk, .junk, .junk, .junk, .junk, .junk, .junk, .junk, .junk, .junk, .junk, .junk, .junk, .junk, .junk, .junk, .junk, .junk, .junk, .junk, .junk, .junk, .junk, .junk, .junk, .junk, .junk, .junk, .junk, .junk, .junk, .junk, .junk, .junk, .junk, .junk, .junk, .junk, .junk, .junk, .junk, .junk, .junk, .junk, .junk, .junk, .junk, .junk, .junk, .junk, .junk, .junk, .junk, .junk, .junk, .junk, .junk, .junk, .junk, .junk, .junk, .junk, .junk, .junk, .junk, .junk, .junk, .junk, .junk]
abbrev px16_0 : List IP := [.junk, .obj [.one (.int .u8), .ro (.sc .str)], .junk, .junk, .sc .str, .junk, .junk, .sc (.int .i64), .junk, .junk, .junk, .junk, .junk, .junk, .junk, .junk, .junk, .junk, .junk, .junk, .junk, .junk, .junk, .junk, .junk, .junk, .junk, .junk, .junk, .junk, .junk, .junk, .junk, .junk, .junk, .junk, .junk, .junk, .junk, .junk, .junk, .junk, .junk, .junk, .junk, .junk, .junk, .junk, .junk, .junk, .junk, .junk, .junk, .junk, .junk, .junk, .junk, .junk, .junk, .junk, .junk, .junk, .junk, .junk, .junk, .junk, .junk, .junk, .junk, .junk, .junk, .junk, .junk, .junk, .junk, .junk, .junk, .junk, .junk, .junk, .junk, .junk, .junk, .junk, .junk]
abbrev pi16_4 : List IP := [.junk, .obj [.one (.int .u8), .ro (.sc .str)], .junk, .junk, .sc .str, .junk, .junk, .sc (.int .i64), .junk, .junk, .junk, .sc (.int .i64), .junk, .junk, .junk, .junk, .junk, .junk, .junk, .junk, .junk, .junk, .junk, .junk, .junk, .junk, .junk, .junk, .junk, .junk, .junk, .junk, .junk, .junk, .junk, .junk, .junk, .junk, .junk, .junk, .junk, .junk, .junk, .junk, .junk, .junk, .junk, .junk, .junk, .junk, .junk, .junk, .junk, .junk, .junk, .junk, .junk, .junk, .junk, .junk, .junk, .junk, .junk, .junk, .junk, .junk, .junk, .junk, .junk, .junk, .junk, .junk, .junk, .junk, .junk, .junk, .junk, .junk, .junk, .junk, .junk, .junk, .junk, .junk, .junk]
abbrev px16_4 : List IP := [.junk, .junk, .junk, .junk, .sc .str, .junk, .junk, .junk, .junk, .junk, .junk, .junk, .junk, .junk, .junk, .junk, .junk, .junk, .junk, .junk, .junk, .junk, .junk, .junk, .junk, .junk, .junk, .junk, .junk, .junk, .junk, .junk, .junk, .junk, .junk, .junk, .junk, .junk, .junk, .junk, .junk, .junk, .junk, .junk, .junk, .junk, .junk, .junk, .junk, .junk, .junk, .junk, .junk, .junk, .junk, .junk, .junk, .junk, .junk, .junk, .junk, .junk, .junk, .junk, .junk, .junk, .junk, .junk, .junk, .junk, .junk, .junk, .junk, .junk, .junk, .junk, .junk, .junk, .junk, .junk, .junk, .junk, .junk, .junk, .junk]
def gam16 (f22 : dpα pa22 → Option pr22.α) (f23 : dpα pa23 → Option pr23.α) (f24 : dpα pa24 → Option pr24.α) (f25 : dpα pa25 → Option pr25.α) : List (Nat × Fun) := [(22, fun22 f22), (23, fun23 f23), (24, fun24 f24), (25, fun25 f25)]
def agam16 (f22 : dpα pa22 → Option pr22.α) (f23 : dpα pa23 → Option pr23.α) (f24 : dpα pa24 → Option pr24.α) (f25 : dpα pa25 → Option pr25.α) : List (Nat × FunA) := []
def rgam16 (f22 : dpα pa22 → Option pr22.α) (f23 : dpα pa23 → Option pr23.α) (f24 : dpα pa24 → Option pr24.α) (f25 : dpα pa25 → Option pr25.α) : List (Nat × FunR) := []
def lam16 (l2 : ipα pi16_2 → (ipα px16_2 → Option pr16.α) → Option pr16.α) (l0 : ipα pi16_0 → (ipα px16_0 → Option pr16.α) → Option pr16.α) (l4 : ipα pi16_4 → (ipα px16_4 → Option pr16.α) → Option pr16.α) : List (Nat × LoopC pr16.α) := [(2, mkLoop pi16_2 px16_2 l2), (0, mkLoop pi16_0 px16_0 l0), (4, mkLoop pi16_4 px16_4 l4)]
def env16 (f22 : dpα pa22 → Option pr22.α) (f23 : dpα pa23 → Option pr23.α) (f24 : dpα pa24 → Option pr24.α) (f25 : dpα pa25 → Option pr25.α) (l2 : ipα pi16_2 → (ipα px16_2 → Option pr16.α) → Option pr16.α) (l0 : ipα pi16_0 → (ipα px16_0 → Option pr16.α) → Option pr16.α) (l4 : ipα pi16_4 → (ipα px16_4 → Option pr16.α) → Option pr16.α) : Env pr16.α := mkEnv pr16.α tyT (gam16 f22 f23 f24 f25) (rgam16 f22 f23 f24 f25) (agam16 f22 f23 f24 f25) glob (lam16 l2 l0 l4)
theorem env16_ok {X : Cx} (hP : X.P = Tryd.prog) (hG : X.G = glob) : EnvOk X (env16 r03_Chars r05_plain r05_verb r05_word r05_Write.l2 r05_Write.l0 r05_Write.l4) := envOk_of hP hG mixed_ok tyT_ok ⟨⟨fun22_ok, _, Tryd.func22, by kernel_rfl, by kernel_rfl⟩, ⟨fun23_ok, _, Tryd.func23, by kernel_rfl, by kernel_rfl⟩, ⟨fun24_ok, _, Tryd.func24, by kernel_rfl, by kernel_rfl⟩, ⟨fun25_ok, _, Tryd.func25, by kernel_rfl, by kernel_rfl⟩, trivial⟩ trivial trivial
theorem st16_2 (f22 : dpα pa22 → Option pr22.α) (f23 : dpα pa23 → Option pr23.α) (f24 : dpα pa24 → Option pr24.α) (f25 : dpα pa25 → Option pr25.α) (l2 : ipα pi16_2 → (ipα px16_2 → Option pr16.α) → Option pr16.α) (l0 : ipα pi16_0 → (ipα px16_0 → Option pr16.α) → Option pr16.α) (l4 : ipα pi16_4 → (ipα px16_4 → Option pr16.α) → Option pr16.α) : ∀ s kx κ, r05_Write.s2b f23 kx s κ = ev (env16 f22 f23 f24 f25 l2 l0 l4) (innerOf 2 (bodyOf Tryd.f16)) (ipInj pi16_2 s) (roundK pi16_2 px16_2 2 (endK (env16 f22 f23 f24 f25 l2 l0 l4) Tryd.f16.results.toList pr16 .ret) kx κ) := by
  intro s kx κ; kernel_rfl
theorem lo16_2 {X : Cx} {w0 : World} (hP : X.P = Tryd.prog) (hG : X.G = glob) : LoopOk X w0 (mkLoop pi16_2 px16_2 r05_Write.l2) (.loop (innerOf 2 (bodyOf Tryd.f16))) 2 (endK (env16 r03_Chars r05_plain r05_verb r05_word r05_Write.l2 r05_Write.l0 r05_Write.l4) Tryd.f16.results.toList pr16 .ret) :=
  loop_ok (env16_ok hP hG) (by kernel_rfl) (by kernel_rfl) r05_Write.s2 r05_Write.n2 (fun _ _ => rfl) (loopsOk_of [] (by kernel_rfl) trivial) (st16_2 r03_Chars r05_plain r05_verb r05_word r05_Write.l2 r05_Write.l0 r05_Write.l4 )
theorem st16_0 (f22 : dpα pa22 → Option pr22.α) (f23 : dpα pa23 → Option pr23.α) (f24 : dpα pa24 → Option pr24.α) (f25 : dpα pa25 → Option pr25.α) (l2 : ipα pi16_2 → (ipα px16_2 → Option pr16.α) → Option pr16.α) (l0 : ipα pi16_0 → (ipα px16_0 → Option pr16.α) → Option pr16.α) (l4 : ipα pi16_4 → (ipα px16_4 → Option pr16.α) → Option pr16.α) : ∀ s kx κ, r05_Write.s0b f22 l2 kx s κ = ev (env16 f22 f23 f24 f25 l2 l0 l4) (innerOf 0 (bodyOf Tryd.f16)) (ipInj pi16_0 s) (roundK pi16_0 px16_0 0 (endK (env16 f22 f23 f24 f25 l2 l0 l4) Tryd.f16.results.toList pr16 .ret) kx κ) := by
  intro s kx κ; kernel_rfl
theorem lo16_0 {X : Cx} {w0 : World} (hP : X.P = Tryd.prog) (hG : X.G = glob) : LoopOk X w0 (mkLoop pi16_0 px16_0 r05_Write.l0) (.loop (innerOf 0 (bodyOf Tryd.f16))) 0 (endK (env16 r03_Chars r05_plain r05_verb r05_word r05_Write.l2 r05_Write.l0 r05_Write.l4) Tryd.f16.results.toList pr16 .ret) :=
  loop_ok (env16_ok hP hG) (by kernel_rfl) (by kernel_rfl) r05_Write.s0 r05_Write.n0 (fun _ _ => rfl) (loopsOk_of [(2, .loop (innerOf 2 (bodyOf Tryd.f16)))] (by kernel_rfl) ⟨⟨_, by kernel_rfl, lo16_2 hP hG⟩, trivial⟩) (st16_0 r03_Chars r05_plain r05_verb r05_word r05_Write.l2 r05_Write.l0 r05_Write.l4 )
theorem st16_4 (f22 : dpα pa22 → Option pr22.α) (f23 : dpα pa23 → Option pr23.α) (f24 : dpα pa24 → Option pr24.α) (f25 : dpα pa25 → Option pr25.α) (l2 : ipα pi16_2 → (ipα px16_2 → Option pr16.α) → Option pr16.α) (l0 : ipα pi16_0 → (ipα px16_0 → Option pr16.α) → Option pr16.α) (l4 : ipα pi16_4 → (ipα px16_4 → Option pr16.α) → Option pr16.α) : ∀ s kx κ, r05_Write.s4b f25 kx s κ = ev (env16 f22 f23 f24 f25 l2 l0 l4) (innerOf 4 (bodyOf Tryd.f16)) (ipInj pi16_4 s) (roundK pi16_4 px16_4 4 (endK (env16 f22 f23 f24 f25 l2 l0 l4) Tryd.f16.results.toList pr16 .ret) kx κ) := by
  intro s kx κ; kernel_rfl
theorem lo16_4 {X : Cx} {w0 : World} (hP : X.P = Tryd.prog) (hG : X.G = glob) : LoopOk X w0 (mkLoop pi16_4 px16_4 r05_Write.l4) (.loop (innerOf 4 (bodyOf Tryd.f16))) 4 (endK (env16 r03_Chars r05_plain r05_verb r05_word r05_Write.l2 r05_Write.l0 r05_Write.l4) Tryd.f16.results.toList pr16 .ret) :=
  loop_ok (env16_ok hP hG) (by kernel_rfl) (by kernel_rfl) r05_Write.s4 r05_Write.n4 (fun _ _ => rfl) (loopsOk_of [] (by kernel_rfl) trivial) (st16_4 r03_Chars r05_plain r05_verb r05_word r05_Write.l2 r05_Write.l0 r05_Write.l4 )
theorem ev16 (f22 : dpα pa22 → Option pr22.α) (f23 : dpα pa23 → Option pr23.α) (f24 : dpα pa24 → Option pr24.α) (f25 : dpα pa25 → Option pr25.α) (l2 : ipα pi16_2 → (ipα px16_2 → Option pr16.α) → Option pr16.α) (l0 : ipα pi16_0 → (ipα px16_0 → Option pr16.α) → Option pr16.α) (l4 : ipα pi16_4 → (ipα px16_4 → Option pr16.α) → Option pr16.α) : ∀ x, r05_Write.b f24 l0 l4 x = ev (env16 f22 f23 f24 f25 l2 l0 l4) (bodyOf Tryd.f16) (start pa16 (Tryd.f16.ntmps - pa16.length) x) (endK (env16 f22 f23 f24 f25 l2 l0 l4) Tryd.f16.results.toList pr16) := by
  intro x; kernel_rfl
theorem fun16_ok : FunOk Tryd.prog glob 16 (fun16 r05_Write) :=
  fun_ok (pa := pa16) (pr := pr16) r05_Write (env16 r03_Chars r05_plain r05_verb r05_word r05_Write.l2 r05_Write.l0 r05_Write.l4) Tryd.func16 (by kernel_rfl) (fun X hP hG => env16_ok hP hG) (fun X w0 hP hG => loopsOk_of [(0, .loop (innerOf 0 (bodyOf Tryd.f16))), (4, .loop (innerOf 4 (bodyOf Tryd.f16)))] (by kernel_rfl) ⟨⟨_, by kernel_rfl, lo16_0 hP hG⟩, ⟨_, by kernel_rfl, lo16_4 hP hG⟩, trivial⟩) (ev16 r03_Chars r05_plain r05_verb r05_word r05_Write.l2 r05_Write.l0 r05_Write.l4 )
/-! muniment/line.fine -/
abbrev pa17 : List DP := [.sc .str]
abbrev pr17 : RP := (.one (.sc .bool))
def fun17 (f : dpα pa17 → Option pr17.α) : Fun := mkFun pa17 pr17 f
abbrev pi17_0 : List IP := [.sc .str, .junk, .junk, .junk, .junk, .junk, .iter, .junk, .junk, .junk, .junk, .junk, .junk, .junk, .junk, .junk, .junk, .junk, .junk, .junk, .junk, .junk, .junk]
abbrev px17_0 : List IP := [.junk, .junk, .junk, .junk, .junk, .junk, .junk, .junk, .junk, .junk, .junk, .junk, .junk, .junk, .junk, .junk, .junk, .junk, .junk, .junk, .junk, .junk, .junk]
def gam17 (f26 : dpα pa26 → Option pr26.α) : List (Nat × Fun) := [(26, fun26 f26)]
def agam17 (f26 : dpα pa26 → Option pr26.α) : List (Nat × FunA) := []
def rgam17 (f26 : dpα pa26 → Option pr26.α) : List (Nat × FunR) := []
def lam17 (l0 : ipα pi17_0 → (ipα px17_0 → Option pr17.α) → Option pr17.α) : List (Nat × LoopC pr17.α) := [(0, mkLoop pi17_0 px17_0 l0)]
def env17 (f26 : dpα pa26 → Option pr26.α) (l0 : ipα pi17_0 → (ipα px17_0 → Option pr17.α) → Option pr17.α) : Env pr17.α := mkEnv pr17.α tyT (gam17 f26) (rgam17 f26) (agam17 f26) glob (lam17 l0)
theorem env17_ok {X : Cx} (hP : X.P = Tryd.prog) (hG : X.G = glob) : EnvOk X (env17 line_wrong line_fine.l0) := envOk_of hP hG mixed_ok tyT_ok ⟨⟨fun26_ok, _, Tryd.func26, by kernel_rfl, by kernel_rfl⟩, trivial⟩ trivial trivial
theorem st17_0 (f26 : dpα pa26 → Option pr26.α) (l0 : ipα pi17_0 → (ipα px17_0 → Option pr17.α) → Option pr17.α) : ∀ s kx κ, line_fine.s0b f26 kx s κ = ev (env17 f26 l0) (innerOf 0 (bodyOf Tryd.f17)) (ipInj pi17_0 s) (roundK pi17_0 px17_0 0 (endK (env17 f26 l0) Tryd.f17.results.toList pr17 .ret) kx κ) := by
  intro s kx κ; kernel_rfl
theorem lo17_0 {X : Cx} {w0 : World} (hP : X.P = Tryd.prog) (hG : X.G = glob) : LoopOk X w0 (mkLoop pi17_0 px17_0 line_fine.l0) (.loop (innerOf 0 (bodyOf Tryd.f17))) 0 (endK (env17 line_wrong line_fine.l0) Tryd.f17.results.toList pr17 .ret) :=
  loop_ok (env17_ok hP hG) (by kernel_rfl) (by kernel_rfl) line_fine.s0 line_fine.n0 (fun _ _ => rfl) (loopsOk_of [] (by kernel_rfl) trivial) (st17_0 line_wrong line_fine.l0 )
theorem ev17 (f26 : dpα pa26 → Option pr26.α) (l0 : ipα pi17_0 → (ipα px17_0 → Option pr17.α) → Option pr17.α) : ∀ x, line_fine.b l0 x = ev (env17 f26 l0) (bodyOf Tryd.f17) (start pa17 (Tryd.f17.ntmps - pa17.length) x) (endK (env17 f26 l0) Tryd.f17.results.toList pr17) := by
  intro x; kernel_rfl
theorem fun17_ok : FunOk Tryd.prog glob 17 (fun17 line_fine) :=
  fun_ok (pa := pa17) (pr := pr17) line_fine (env17 line_wrong line_fine.l0) Tryd.func17 (by kernel_rfl) (fun X hP hG => env17_ok hP hG) (fun X w0 hP hG => loopsOk_of [(0, .loop (innerOf 0 (bodyOf Tryd.f17)))] (by kernel_rfl) ⟨⟨_, by kernel_rfl, lo17_0 hP hG⟩, trivial⟩) (ev17 line_wrong line_fine.l0 )
/-! muniment/line.plain -/
abbrev pa18 : List DP := [.sc .str]
abbrev pr18 : RP := (.one (.sc .bool))
def fun18 (f : dpα pa18 → Option pr18.α) : Fun := mkFun pa18 pr18 f
def gam18 (f21 : dpα pa21 → Option pr21.α) : List (Nat × Fun) := [(21, fun21 f21)]
def agam18 (f21 : dpα pa21 → Option pr21.α) : List (Nat × FunA) := []
def rgam18 (f21 : dpα pa21 → Option pr21.α) : List (Nat × FunR) := []
def lam18 : List (Nat × LoopC pr18.α) := []
def env18 (f21 : dpα pa21 → Option pr21.α) : Env pr18.α := mkEnv pr18.α tyT (gam18 f21) (rgam18 f21) (agam18 f21) glob lam18
theorem env18_ok {X : Cx} (hP : X.P = Tryd.prog) (hG : X.G = glob) : EnvOk X (env18 line_bare) := envOk_of hP hG mixed_ok tyT_ok ⟨⟨fun21_ok, _, Tryd.func21, by kernel_rfl, by kernel_rfl⟩, trivial⟩ trivial trivial
theorem ev18 (f21 : dpα pa21 → Option pr21.α) : ∀ x, line_plain.b f21 x = ev (env18 f21) (bodyOf Tryd.f18) (start pa18 (Tryd.f18.ntmps - pa18.length) x) (endK (env18 f21) Tryd.f18.results.toList pr18) := by
  intro x; kernel_rfl
theorem fun18_ok : FunOk Tryd.prog glob 18 (fun18 line_plain) :=
  fun_ok (pa := pa18) (pr := pr18) line_plain (env18 line_bare) Tryd.func18 (by kernel_rfl) (fun X hP hG => env18_ok hP hG) (fun X w0 hP hG => loopsOk_of [] (by kernel_rfl) trivial) (ev18 line_bare )
end Go.Px.linr
