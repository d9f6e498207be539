import Derived.Test.YtpmnipaimoaagaaDoorSh
import Derived.Test.YtpmnipaimoaagaaDoorPx16
import Derived.Test.YtpmnipaimoaagaaDoorPx23
import Derived.Test.YtpmnipaimoaagaaDoorQuo
import Derived.Test.YtpmnipaimoaagaaDoorShelf
import Derived.Test.YtpmnipaimoaagaaDoorPx21
import Derived.Test.YtpmnipaimoaagaaDoorPx25
import Derived.Test.YtpmnipaimoaagaaDoorProg
import Derived.KernelRfl
set_option linter.unusedVariables false
set_option linter.unusedSimpArgs false
set_option maxRecDepth 100000
namespace Go.Px.linw
open Go Go.Proofs Go.Px
def globL : List (Nat × List Seg) := [(1, [.arr (.sc (.int .u8)) 256 gvFirst]), (2, [.arr (.strc [(.int .u8), (.int .u8)]) 16 gvAccept])]
def glob : Nat → Option (List Seg) := assoc globL
theorem glob_ok {w : World} (h : AllP (GEnt w) globL) : GOk ⟨Tryd.prog, w.heap.size, glob, noM⟩ w := gok_of h
def tyT : List (Nat × TI) := [(3, .sc (.int .i64) 8),
  (4, .sc .bool 1),
  (5, .sc (.int .u8) 1),
  (9, .sc .str 16),
  (21, .sc (.int .i32) 4),
  (23, .sl 9),
  (26, .sc (.int .i64) 8),
  (51, .sl 54),
  (54, .st (.struct #[{ name := "R", type := 21, offset := 0, embedded := false, tag := "", pkgPath := "", byteOffset := 0 }, { name := "At", type := 3, offset := 1, embedded := false, tag := "", pkgPath := "", byteOffset := 8 }, { name := "Ok", type := 4, offset := 2, embedded := false, tag := "", pkgPath := "", byteOffset := 16 }]) [(.int .i32), (.int .i64), .bool] 24)]
theorem tyT_ok : AllP (fun x => TOk Tryd.prog x.1 x.2) tyT := ⟨tok_sc (.int .i64) 8 (by kernel_rfl) (by kernel_rfl),
  tok_sc .bool 1 (by kernel_rfl) (by kernel_rfl),
  tok_sc (.int .u8) 1 (by kernel_rfl) (by kernel_rfl),
  tok_sc .str 16 (by kernel_rfl) (by kernel_rfl),
  tok_sc (.int .i32) 4 (by kernel_rfl) (by kernel_rfl),
  tok_sl 9 (by kernel_rfl) (by kernel_rfl),
  tok_sc (.int .i64) 8 (by kernel_rfl) (by kernel_rfl),
  tok_sl 54 (by kernel_rfl) (by kernel_rfl),
  tok_st (by kernel_rfl) (by kernel_rfl) ⟨_, rfl⟩ (by kernel_rfl) (by kernel_rfl), trivial⟩
theorem mixed_ok : Tryd.prog.follows .mixedOrders = true := by kernel_rfl
/-! muniment/line.quoted -/
abbrev pa20 : List DP := [.sc .str, .sc (.int .i64)]
abbrev pr20 : RP := (.tup [.sc .str, .sc (.int .i64), .sc .bool])
def fun20 (f : dpα pa20 → Option pr20.α) : Fun := mkFun pa20 pr20 f
theorem fun20_ok : FunOk Tryd.prog glob 20 (fun20 line_quoted) :=
  Quo.quoted_ok (G := glob) rfl rfl
/-! unicode/utf8.DecodeRuneInString -/
abbrev pa30 : List DP := [.sc .str]
abbrev pr30 : RP := (.tup [.sc (.int .i32), .sc (.int .i64)])
def fun30 (f : dpα pa30 → Option pr30.α) : Fun := mkFun pa30 pr30 f
theorem fun30_ok : FunOk Tryd.prog glob 30 (fun30 unicode_utf8_DecodeRuneInString) :=
  decode_ok rfl rfl (fun s w h => Go.Proofs.Tryd.utf8_DecodeRuneInString s w h)
/-! muniment/line.wrong -/
abbrev pa26 : List DP := [.sc .str, .sc (.int .i64), .sc (.int .i32)]
abbrev pr26 : RP := (.one (.sc .bool))
def fun26 (f : dpα pa26 → Option pr26.α) : Fun := mkFun pa26 pr26 f
def gam26 (f30 : dpα pa30 → Option pr30.α) : List (Nat × Fun) := [(30, fun30 f30)]
def agam26 (f30 : dpα pa30 → Option pr30.α) : List (Nat × FunA) := []
def rgam26 (f30 : dpα pa30 → Option pr30.α) : List (Nat × FunR) := []
def lam26 : List (Nat × LoopC pr26.α) := []
def env26 (f30 : dpα pa30 → Option pr30.α) : Env pr26.α := mkEnv pr26.α tyT (gam26 f30) (rgam26 f30) (agam26 f30) glob lam26
theorem env26_ok {X : Cx} (hP : X.P = Tryd.prog) (hG : X.G = glob) : EnvOk X (env26 unicode_utf8_DecodeRuneInString) := envOk_of hP hG mixed_ok tyT_ok ⟨⟨fun30_ok, _, Tryd.func30, by kernel_rfl, by kernel_rfl⟩, trivial⟩ trivial trivial
theorem ev26 (f30 : dpα pa30 → Option pr30.α) : ∀ x, line_wrong.b f30 x = ev (env26 f30) (bodyOf Tryd.f26) (start pa26 (Tryd.f26.ntmps - pa26.length) x) (endK (env26 f30) Tryd.f26.results.toList pr26) := by
  intro x; kernel_rfl
theorem fun26_ok : FunOk Tryd.prog glob 26 (fun26 line_wrong) :=
  fun_ok (pa := pa26) (pr := pr26) line_wrong (env26 unicode_utf8_DecodeRuneInString) Tryd.func26 (by kernel_rfl) (fun X hP hG => env26_ok hP hG) (fun X w0 hP hG => loopsOk_of [] (by kernel_rfl) trivial) (ev26 unicode_utf8_DecodeRuneInString )
/-! muniment/line.bare -/
abbrev pa21 : List DP := [.sc .str, .sc (.int .i64)]
abbrev pr21 : RP := (.tup [.sc .str, .sc (.int .i64), .sc .bool])
def fun21 (f : dpα pa21 → Option pr21.α) : Fun := mkFun pa21 pr21 f
abbrev pi21_0 : List IP := [.sc .str, .sc (.int .i64), .junk, .junk, .junk, .junk, .junk, .junk, .junk, .junk, .junk, .junk, .iter, .junk, .junk, .junk, .junk, .junk, .junk, .junk, .junk, .junk, .junk, .junk, .junk, .junk, .junk, .junk, .junk, .junk, .junk, .junk, .junk, .junk, .junk, .junk, .junk, .junk, .junk, .junk, .junk, .junk, .junk, .junk, .junk, .junk, .junk, .junk, .junk, .junk, .junk, .junk]
abbrev px21_0 : List IP := [.sc .str, .sc (.int .i64), .junk, .junk, .junk, .junk, .junk, .junk, .junk, .junk, .junk, .junk, .junk, .junk, .junk, .junk, .junk, .junk, .junk, .junk, .junk, .junk, .junk, .junk, .junk, .junk, .junk, .junk, .junk, .junk, .junk, .junk, .junk, .junk, .junk, .junk, .junk, .junk, .junk, .junk, .junk, .junk, .junk, .junk, .junk, .junk, .junk, .junk, .junk, .junk, .junk, .junk]
def gam21 (f26 : dpα pa26 → Option pr26.α) : List (Nat × Fun) := [(26, fun26 f26)]
def agam21 (f26 : dpα pa26 → Option pr26.α) : List (Nat × FunA) := []
def rgam21 (f26 : dpα pa26 → Option pr26.α) : List (Nat × FunR) := []
def lam21 (l0 : ipα pi21_0 → (ipα px21_0 → Option pr21.α) → Option pr21.α) : List (Nat × LoopC pr21.α) := [(0, mkLoop pi21_0 px21_0 l0)]
def env21 (f26 : dpα pa26 → Option pr26.α) (l0 : ipα pi21_0 → (ipα px21_0 → Option pr21.α) → Option pr21.α) : Env pr21.α := mkEnv pr21.α tyT (gam21 f26) (rgam21 f26) (agam21 f26) glob (lam21 l0)
theorem env21_ok {X : Cx} (hP : X.P = Tryd.prog) (hG : X.G = glob) : EnvOk X (env21 line_wrong line_bare.l0) := envOk_of hP hG mixed_ok tyT_ok ⟨⟨fun26_ok, _, Tryd.func26, by kernel_rfl, by kernel_rfl⟩, trivial⟩ trivial trivial
theorem st21_0 (f26 : dpα pa26 → Option pr26.α) (l0 : ipα pi21_0 → (ipα px21_0 → Option pr21.α) → Option pr21.α) : ∀ s kx κ, line_bare.s0b f26 kx s κ = ev (env21 f26 l0) (innerOf 0 (bodyOf Tryd.f21)) (ipInj pi21_0 s) (roundK pi21_0 px21_0 0 (endK (env21 f26 l0) Tryd.f21.results.toList pr21 .ret) kx κ) := by
  intro s kx κ; kernel_rfl
theorem lo21_0 {X : Cx} {w0 : World} (hP : X.P = Tryd.prog) (hG : X.G = glob) : LoopOk X w0 (mkLoop pi21_0 px21_0 line_bare.l0) (.loop (innerOf 0 (bodyOf Tryd.f21))) 0 (endK (env21 line_wrong line_bare.l0) Tryd.f21.results.toList pr21 .ret) :=
  loop_ok (env21_ok hP hG) (by kernel_rfl) (by kernel_rfl) line_bare.s0 line_bare.n0 (fun _ _ => rfl) (loopsOk_of [] (by kernel_rfl) trivial) (st21_0 line_wrong line_bare.l0 )
theorem ev21 (f26 : dpα pa26 → Option pr26.α) (l0 : ipα pi21_0 → (ipα px21_0 → Option pr21.α) → Option pr21.α) : ∀ x, line_bare.b l0 x = ev (env21 f26 l0) (bodyOf Tryd.f21) (start pa21 (Tryd.f21.ntmps - pa21.length) x) (endK (env21 f26 l0) Tryd.f21.results.toList pr21) := by
  intro x; kernel_rfl
theorem fun21_ok : FunOk Tryd.prog glob 21 (fun21 line_bare) :=
  fun_ok (pa := pa21) (pr := pr21) line_bare (env21 line_wrong line_bare.l0) Tryd.func21 (by kernel_rfl) (fun X hP hG => env21_ok hP hG) (fun X w0 hP hG => loopsOk_of [(0, .loop (innerOf 0 (bodyOf Tryd.f21)))] (by kernel_rfl) ⟨⟨_, by kernel_rfl, lo21_0 hP hG⟩, trivial⟩) (ev21 line_wrong line_bare.l0 )
/-! muniment/line.Words -/
abbrev pa13 : List DP := [.sc .str]
abbrev pr13 : RP := (.tup [.own (.sc .str), .sc (.int .i64), .sc (.int .i64)])
def fun13 (f : dpα pa13 → Option pr13.α) : Fun := mkFun pa13 pr13 f
abbrev pi13_2 : List IP := [.sc .str, .junk, .junk, .junk, .junk, .own (.sc .str), .sc (.int .i64), .junk, .junk, .junk, .junk, .junk, .junk, .junk, .junk, .junk, .junk, .junk, .junk, .junk, .junk, .junk, .junk, .junk, .junk, .junk, .junk, .junk, .junk, .junk, .junk, .junk, .junk, .junk, .junk, .junk, .junk, .junk, .junk, .junk, .junk, .junk, .junk, .junk, .junk, .junk, .junk, .junk, .junk, .junk, .junk, .junk, .junk, .junk, .junk]
abbrev px13_2 : List IP := [.sc .str, .junk, .junk, .junk, .junk, .own (.sc .str), .sc (.int .i64), .junk, .junk, .junk, .junk, .junk, .junk, .junk, .junk, .junk, .junk, .junk, .junk, .junk, .junk, .junk, .junk, .junk, .junk, .junk, .junk, .junk, .junk, .junk, .junk, .junk, .junk, .junk, .junk, .junk, .junk, .junk, .junk, .junk, .junk, .junk, .junk, .junk, .junk, .junk, .junk, .junk, .junk, .junk, .junk, .junk, .junk, .junk, .junk]
abbrev pi13_0 : List IP := [.sc .str, .junk, .junk, .junk, .junk, .own (.sc .str), .sc (.int .i64), .junk, .junk, .junk, .junk, .junk, .junk, .junk, .junk, .junk, .junk, .junk, .junk, .junk, .junk, .junk, .junk, .junk, .junk, .junk, .junk, .junk, .junk, .junk, .junk, .junk, .junk, .junk, .junk, .junk, .junk, .junk, .junk, .junk, .junk, .junk, .junk, .junk, .junk, .junk, .junk, .junk, .junk, .junk, .junk, .junk, .junk, .junk, .junk]
abbrev px13_0 : List IP := [.junk, .junk, .junk, .junk, .junk, .junk, .junk, .junk, .junk, .junk, .junk, .junk, .junk, .junk, .junk, .junk, .junk, .junk, .junk, .junk, .junk, .junk, .junk, .junk, .junk, .junk, .junk, .junk, .junk, .junk, .junk, .junk, .junk, .junk, .junk, .junk, .junk, .junk, .junk, .junk, .junk, .junk, .junk, .junk, .junk, .junk, .junk, .junk, .junk, .junk, .junk, .junk, .junk, .junk, .junk]
def gam13 (f20 : dpα pa20 → Option pr20.α) (f21 : dpα pa21 → Option pr21.α) : List (Nat × Fun) := [(20, fun20 f20), (21, fun21 f21)]
def agam13 (f20 : dpα pa20 → Option pr20.α) (f21 : dpα pa21 → Option pr21.α) : List (Nat × FunA) := []
def rgam13 (f20 : dpα pa20 → Option pr20.α) (f21 : dpα pa21 → Option pr21.α) : List (Nat × FunR) := []
def lam13 (l2 : ipα pi13_2 → (ipα px13_2 → Option pr13.α) → Option pr13.α) (l0 : ipα pi13_0 → (ipα px13_0 → Option pr13.α) → Option pr13.α) : List (Nat × LoopC pr13.α) := [(2, mkLoop pi13_2 px13_2 l2), (0, mkLoop pi13_0 px13_0 l0)]
def env13 (f20 : dpα pa20 → Option pr20.α) (f21 : dpα pa21 → Option pr21.α) (l2 : ipα pi13_2 → (ipα px13_2 → Option pr13.α) → Option pr13.α) (l0 : ipα pi13_0 → (ipα px13_0 → Option pr13.α) → Option pr13.α) : Env pr13.α := mkEnv pr13.α tyT (gam13 f20 f21) (rgam13 f20 f21) (agam13 f20 f21) glob (lam13 l2 l0)
theorem env13_ok {X : Cx} (hP : X.P = Tryd.prog) (hG : X.G = glob) : EnvOk X (env13 line_quoted line_bare line_Words.l2 line_Words.l0) := envOk_of hP hG mixed_ok tyT_ok ⟨⟨fun20_ok, _, Tryd.func20, by kernel_rfl, by kernel_rfl⟩, ⟨fun21_ok, _, Tryd.func21, by kernel_rfl, by kernel_rfl⟩, trivial⟩ trivial trivial
theorem st13_2 (f20 : dpα pa20 → Option pr20.α) (f21 : dpα pa21 → Option pr21.α) (l2 : ipα pi13_2 → (ipα px13_2 → Option pr13.α) → Option pr13.α) (l0 : ipα pi13_0 → (ipα px13_0 → Option pr13.α) → Option pr13.α) : ∀ s kx κ, line_Words.s2b kx s κ = ev (env13 f20 f21 l2 l0) (innerOf 2 (bodyOf Tryd.f13)) (ipInj pi13_2 s) (roundK pi13_2 px13_2 2 (endK (env13 f20 f21 l2 l0) Tryd.f13.results.toList pr13 .ret) kx κ) := by
  intro s kx κ; kernel_rfl
theorem lo13_2 {X : Cx} {w0 : World} (hP : X.P = Tryd.prog) (hG : X.G = glob) : LoopOk X w0 (mkLoop pi13_2 px13_2 line_Words.l2) (.loop (innerOf 2 (bodyOf Tryd.f13))) 2 (endK (env13 line_quoted line_bare line_Words.l2 line_Words.l0) Tryd.f13.results.toList pr13 .ret) :=
  loop_ok (env13_ok hP hG) (by kernel_rfl) (by kernel_rfl) line_Words.s2 line_Words.n2 (fun _ _ => rfl) (loopsOk_of [] (by kernel_rfl) trivial) (st13_2 line_quoted line_bare line_Words.l2 line_Words.l0 )
theorem st13_0 (f20 : dpα pa20 → Option pr20.α) (f21 : dpα pa21 → Option pr21.α) (l2 : ipα pi13_2 → (ipα px13_2 → Option pr13.α) → Option pr13.α) (l0 : ipα pi13_0 → (ipα px13_0 → Option pr13.α) → Option pr13.α) : ∀ s kx κ, line_Words.s0b f20 f21 l2 kx s κ = ev (env13 f20 f21 l2 l0) (innerOf 0 (bodyOf Tryd.f13)) (ipInj pi13_0 s) (roundK pi13_0 px13_0 0 (endK (env13 f20 f21 l2 l0) Tryd.f13.results.toList pr13 .ret) kx κ) := by
  intro s kx κ; kernel_rfl
theorem lo13_0 {X : Cx} {w0 : World} (hP : X.P = Tryd.prog) (hG : X.G = glob) : LoopOk X w0 (mkLoop pi13_0 px13_0 line_Words.l0) (.loop (innerOf 0 (bodyOf Tryd.f13))) 0 (endK (env13 line_quoted line_bare line_Words.l2 line_Words.l0) Tryd.f13.results.toList pr13 .ret) :=
  loop_ok (env13_ok hP hG) (by kernel_rfl) (by kernel_rfl) line_Words.s0 line_Words.n0 (fun _ _ => rfl) (loopsOk_of [(2, .loop (innerOf 2 (bodyOf Tryd.f13)))] (by kernel_rfl) ⟨⟨_, by kernel_rfl, lo13_2 hP hG⟩, trivial⟩) (st13_0 line_quoted line_bare line_Words.l2 line_Words.l0 )
theorem ev13 (f20 : dpα pa20 → Option pr20.α) (f21 : dpα pa21 → Option pr21.α) (l2 : ipα pi13_2 → (ipα px13_2 → Option pr13.α) → Option pr13.α) (l0 : ipα pi13_0 → (ipα px13_0 → Option pr13.α) → Option pr13.α) : ∀ x, line_Words.b l0 x = ev (env13 f20 f21 l2 l0) (bodyOf Tryd.f13) (start pa13 (Tryd.f13.ntmps - pa13.length) x) (endK (env13 f20 f21 l2 l0) Tryd.f13.results.toList pr13) := by
  intro x; kernel_rfl
theorem fun13_ok : FunOk Tryd.prog glob 13 (fun13 line_Words) :=
  fun_ok (pa := pa13) (pr := pr13) line_Words (env13 line_quoted line_bare line_Words.l2 line_Words.l0) Tryd.func13 (by kernel_rfl) (fun X hP hG => env13_ok hP hG) (fun X w0 hP hG => loopsOk_of [(0, .loop (innerOf 0 (bodyOf Tryd.f13)))] (by kernel_rfl) ⟨⟨_, by kernel_rfl, lo13_0 hP hG⟩, trivial⟩) (ev13 line_quoted line_bare line_Words.l2 line_Words.l0 )
/-! muniment/munimentlaw05.awake -/
abbrev pa9 : List DP := []
abbrev pr9 : RP := (.one (.sc .bool))
def fun9 (f : dpα pa9 → Option pr9.α) : Fun := mkFun pa9 pr9 f
def gam9 (f13 : dpα pa13 → Option pr13.α) : List (Nat × Fun) := [(13, fun13 f13)]
def agam9 (f13 : dpα pa13 → Option pr13.α) : List (Nat × FunA) := []
def rgam9 (f13 : dpα pa13 → Option pr13.α) : List (Nat × FunR) := []
def lam9 : List (Nat × LoopC pr9.α) := []
def env9 (f13 : dpα pa13 → Option pr13.α) : Env pr9.α := mkEnv pr9.α tyT (gam9 f13) (rgam9 f13) (agam9 f13) glob lam9
theorem env9_ok {X : Cx} (hP : X.P = Tryd.prog) (hG : X.G = glob) : EnvOk X (env9 line_Words) := envOk_of hP hG mixed_ok tyT_ok ⟨⟨fun13_ok, _, Tryd.func13, by kernel_rfl, by kernel_rfl⟩, trivial⟩ trivial trivial
theorem ev9 (f13 : dpα pa13 → Option pr13.α) : ∀ x, w05_awake.b f13 x = ev (env9 f13) (bodyOf Tryd.f9) (start pa9 (Tryd.f9.ntmps - pa9.length) x) (endK (env9 f13) Tryd.f9.results.toList pr9) := by
  intro x; kernel_rfl
theorem fun9_ok : FunOk Tryd.prog glob 9 (fun9 w05_awake) :=
  fun_ok (pa := pa9) (pr := pr9) w05_awake (env9 line_Words) Tryd.func9 (by kernel_rfl) (fun X hP hG => env9_ok hP hG) (fun X w0 hP hG => loopsOk_of [] (by kernel_rfl) trivial) (ev9 line_Words )
/-! muniment/munimentref03.Chars -/
abbrev pa22 : List DP := [.sc .str]
abbrev pr22 : RP := (.one (.own (.strc [(.int .i32), (.int .i64), .bool])))
def fun22 (f : dpα pa22 → Option pr22.α) : Fun := mkFun pa22 pr22 f
abbrev pi22_0 : List IP := [.sc .str, .junk, .junk, .own (.strc [(.int .i32), (.int .i64), .bool]), .sc (.int .i64), .junk, .junk, .junk, .junk, .junk, .junk, .junk, .junk, .junk, .junk, .junk, .junk, .junk, .junk, .junk, .junk, .junk, .junk, .junk, .junk, .junk, .junk, .junk, .junk, .junk, .junk, .junk, .junk, .junk]
abbrev px22_0 : List IP := [.junk, .junk, .junk, .own (.strc [(.int .i32), (.int .i64), .bool]), .junk, .junk, .junk, .junk, .junk, .junk, .junk, .junk, .junk, .junk, .junk, .junk, .junk, .junk, .junk, .junk, .junk, .junk, .junk, .junk, .junk, .junk, .junk, .junk, .junk, .junk, .junk, .junk, .junk, .junk]
def gam22 (f30 : dpα pa30 → Option pr30.α) : List (Nat × Fun) := [(30, fun30 f30)]
def agam22 (f30 : dpα pa30 → Option pr30.α) : List (Nat × FunA) := []
def rgam22 (f30 : dpα pa30 → Option pr30.α) : List (Nat × FunR) := []
def lam22 (l0 : ipα pi22_0 → (ipα px22_0 → Option pr22.α) → Option pr22.α) : List (Nat × LoopC pr22.α) := [(0, mkLoop pi22_0 px22_0 l0)]
def env22 (f30 : dpα pa30 → Option pr30.α) (l0 : ipα pi22_0 → (ipα px22_0 → Option pr22.α) → Option pr22.α) : Env pr22.α := mkEnv pr22.α tyT (gam22 f30) (rgam22 f30) (agam22 f30) glob (lam22 l0)
theorem env22_ok {X : Cx} (hP : X.P = Tryd.prog) (hG : X.G = glob) : EnvOk X (env22 unicode_utf8_DecodeRuneInString r03_Chars.l0) := envOk_of hP hG mixed_ok tyT_ok ⟨⟨fun30_ok, _, Tryd.func30, by kernel_rfl, by kernel_rfl⟩, trivial⟩ trivial trivial
theorem st22_0 (f30 : dpα pa30 → Option pr30.α) (l0 : ipα pi22_0 → (ipα px22_0 → Option pr22.α) → Option pr22.α) : ∀ s kx κ, r03_Chars.s0b f30 kx s κ = ev (env22 f30 l0) (innerOf 0 (bodyOf Tryd.f22)) (ipInj pi22_0 s) (roundK pi22_0 px22_0 0 (endK (env22 f30 l0) Tryd.f22.results.toList pr22 .ret) kx κ) := by
  intro s kx κ; kernel_rfl
theorem lo22_0 {X : Cx} {w0 : World} (hP : X.P = Tryd.prog) (hG : X.G = glob) : LoopOk X w0 (mkLoop pi22_0 px22_0 r03_Chars.l0) (.loop (innerOf 0 (bodyOf Tryd.f22))) 0 (endK (env22 unicode_utf8_DecodeRuneInString r03_Chars.l0) Tryd.f22.results.toList pr22 .ret) :=
  loop_ok (env22_ok hP hG) (by kernel_rfl) (by kernel_rfl) r03_Chars.s0 r03_Chars.n0 (fun _ _ => rfl) (loopsOk_of [] (by kernel_rfl) trivial) (st22_0 unicode_utf8_DecodeRuneInString r03_Chars.l0 )
theorem ev22 (f30 : dpα pa30 → Option pr30.α) (l0 : ipα pi22_0 → (ipα px22_0 → Option pr22.α) → Option pr22.α) : ∀ x, r03_Chars.b l0 x = ev (env22 f30 l0) (bodyOf Tryd.f22) (start pa22 (Tryd.f22.ntmps - pa22.length) x) (endK (env22 f30 l0) Tryd.f22.results.toList pr22) := by
  intro x; kernel_rfl
theorem fun22_ok : FunOk Tryd.prog glob 22 (fun22 r03_Chars) :=
  fun_ok (pa := pa22) (pr := pr22) r03_Chars (env22 unicode_utf8_DecodeRuneInString r03_Chars.l0) Tryd.func22 (by kernel_rfl) (fun X hP hG => env22_ok hP hG) (fun X w0 hP hG => loopsOk_of [(0, .loop (innerOf 0 (bodyOf Tryd.f22)))] (by kernel_rfl) ⟨⟨_, by kernel_rfl, lo22_0 hP hG⟩, trivial⟩) (ev22 unicode_utf8_DecodeRuneInString r03_Chars.l0 )
/-! muniment/munimentref05.plain -/
abbrev pa23 : List DP := [.strc [.one (.int .i32), .one (.int .i64), .one .bool]]
abbrev pr23 : RP := (.one (.sc .bool))
def fun23 (f : dpα pa23 → Option pr23.α) : Fun := mkFun pa23 pr23 f
def gam23 : List (Nat × Fun) := []
def agam23 : List (Nat × FunA) := []
def rgam23 : List (Nat × FunR) := []
def lam23 : List (Nat × LoopC pr23.α) := []
def env23 : Env pr23.α := mkEnv pr23.α tyT gam23 rgam23 agam23 glob lam23
theorem env23_ok {X : Cx} (hP : X.P = Tryd.prog) (hG : X.G = glob) : EnvOk X env23 := envOk_of hP hG mixed_ok tyT_ok trivial trivial trivial
theorem ev23 : ∀ x, r05_plain.b x = ev env23 (bodyOf Tryd.f23) (start pa23 (Tryd.f23.ntmps - pa23.length) x) (endK env23 Tryd.f23.results.toList pr23) := by
  intro x; kernel_rfl
theorem fun23_ok : FunOk Tryd.prog glob 23 (fun23 r05_plain) :=
  fun_ok (pa := pa23) (pr := pr23) r05_plain env23 Tryd.func23 (by kernel_rfl) (fun X hP hG => env23_ok hP hG) (fun X w0 hP hG => loopsOk_of [] (by kernel_rfl) trivial) (ev23 )
/-! muniment/munimentref05.Words -/
abbrev pa14 : List DP := [.sc .str]
abbrev pr14 : RP := (.tup [.own (.sc .str), .sc (.int .i64), .sc (.int .i64)])
def fun14 (f : dpα pa14 → Option pr14.α) : Fun := mkFun pa14 pr14 f
abbrev pi14_0 : List IP := [.sc .str, .junk, .junk, .junk, .junk, .own (.strc [(.int .i32), (.int .i64), .bool]), .own (.sc .str), .sc .str, .sc (.int .i64), .sc (.int .i64), .junk, .junk, .junk, .junk, .junk, .junk, .junk, .junk, .junk, .junk, .junk, .junk, .junk, .junk, .junk, .junk, .junk, .junk, .junk, .junk, .junk, .junk, .junk, .junk, .junk, .junk, .junk, .junk, .junk, .junk, .junk, .junk, .junk, .junk, .junk, .junk, .junk, .junk, .junk, .junk, .junk, .junk, .junk, .junk, .junk, .junk, .junk, .junk, .junk, .junk, .junk, .junk, .junk, .junk, .junk, .junk, .junk, .junk, .junk, .junk, .junk, .junk, .junk, .junk, .junk, .junk, .junk, .junk, .junk, .junk, .junk, .junk, .junk, .junk, .junk, .junk, .junk, .junk, .junk, .junk, .junk, .junk, .junk, .junk, .junk, .junk, .junk, .junk, .junk, .junk, .junk, .junk, .junk, .junk, .junk, .junk, .junk, .junk, .junk, .junk, .junk, .junk, .junk, .junk, .junk, .junk, .junk, .junk, .junk, .junk, .junk, .junk, .junk, .junk, .junk, .junk, .junk, .junk, .junk, .junk, .junk, .junk, .junk, .junk, .junk, .junk, .junk, .junk, .junk, .junk]
abbrev px14_0 : List IP := [.sc .str, .junk, .junk, .junk, .junk, .junk, .own (.sc .str), .sc .str, .sc (.int .i64), .junk, .junk, .junk, .junk, .junk, .junk, .junk, .junk, .junk, .junk, .junk, .junk, .junk, .junk, .junk, .junk, .junk, .junk, .junk, .junk, .junk, .junk, .junk, .junk, .junk, .junk, .junk, .junk, .junk, .junk, .junk, .junk, .junk, .junk, .junk, .junk, .junk, .junk, .junk, .junk, .junk, .junk, .junk, .junk, .junk, .junk, .junk, .junk, .junk, .junk, .junk, .junk, .junk, .junk, .junk, .junk, .junk, .junk, .junk, .junk, .junk, .junk, .junk, .junk, .junk, .junk, .junk, .junk, .junk, .junk, .junk, .junk, .junk, .junk, .junk, .junk, .junk, .junk, .junk, .junk, .junk, .junk, .junk, .junk, .junk, .junk, .junk, .junk, .junk, .junk, .junk, .junk, .junk, .junk, .junk, .junk, .junk, .junk, .junk, .junk, .junk, .junk, .junk, .junk, .junk, .junk, .junk, .junk, .junk, .junk, .junk, .junk, .junk, .junk, .junk, .junk, .junk, .junk, .junk, .junk, .junk, .junk, .junk, .junk, .junk, .junk, .junk, .junk, .junk, .junk, .junk]
def gam14 (f22 : dpα pa22 → Option pr22.α) (f23 : dpα pa23 → Option pr23.α) : List (Nat × Fun) := [(22, fun22 f22), (23, fun23 f23)]
def agam14 (f22 : dpα pa22 → Option pr22.α) (f23 : dpα pa23 → Option pr23.α) : List (Nat × FunA) := []
def rgam14 (f22 : dpα pa22 → Option pr22.α) (f23 : dpα pa23 → Option pr23.α) : List (Nat × FunR) := []
def lam14 (l0 : ipα pi14_0 → (ipα px14_0 → Option pr14.α) → Option pr14.α) : List (Nat × LoopC pr14.α) := [(0, mkLoop pi14_0 px14_0 l0)]
def env14 (f22 : dpα pa22 → Option pr22.α) (f23 : dpα pa23 → Option pr23.α) (l0 : ipα pi14_0 → (ipα px14_0 → Option pr14.α) → Option pr14.α) : Env pr14.α := mkEnv pr14.α tyT (gam14 f22 f23) (rgam14 f22 f23) (agam14 f22 f23) glob (lam14 l0)
theorem env14_ok {X : Cx} (hP : X.P = Tryd.prog) (hG : X.G = glob) : EnvOk X (env14 r03_Chars r05_plain r05_Words.l0) := envOk_of hP hG mixed_ok tyT_ok ⟨⟨fun22_ok, _, Tryd.func22, by kernel_rfl, by kernel_rfl⟩, ⟨fun23_ok, _, Tryd.func23, by kernel_rfl, by kernel_rfl⟩, trivial⟩ trivial trivial
theorem st14_0 (f22 : dpα pa22 → Option pr22.α) (f23 : dpα pa23 → Option pr23.α) (l0 : ipα pi14_0 → (ipα px14_0 → Option pr14.α) → Option pr14.α) : ∀ s kx κ, r05_Words.s0b f23 kx s κ = ev (env14 f22 f23 l0) (innerOf 0 (bodyOf Tryd.f14)) (ipInj pi14_0 s) (roundK pi14_0 px14_0 0 (endK (env14 f22 f23 l0) Tryd.f14.results.toList pr14 .ret) kx κ) := by
  intro s kx κ; kernel_rfl
theorem lo14_0 {X : Cx} {w0 : World} (hP : X.P = Tryd.prog) (hG : X.G = glob) : LoopOk X w0 (mkLoop pi14_0 px14_0 r05_Words.l0) (.loop (innerOf 0 (bodyOf Tryd.f14))) 0 (endK (env14 r03_Chars r05_plain r05_Words.l0) Tryd.f14.results.toList pr14 .ret) :=
  loop_ok (env14_ok hP hG) (by kernel_rfl) (by kernel_rfl) r05_Words.s0 r05_Words.n0 (fun _ _ => rfl) (loopsOk_of [] (by kernel_rfl) trivial) (st14_0 r03_Chars r05_plain r05_Words.l0 )
theorem ev14 (f22 : dpα pa22 → Option pr22.α) (f23 : dpα pa23 → Option pr23.α) (l0 : ipα pi14_0 → (ipα px14_0 → Option pr14.α) → Option pr14.α) : ∀ x, r05_Words.b f22 l0 x = ev (env14 f22 f23 l0) (bodyOf Tryd.f14) (start pa14 (Tryd.f14.ntmps - pa14.length) x) (endK (env14 f22 f23 l0) Tryd.f14.results.toList pr14) := by
  intro x; kernel_rfl
theorem fun14_ok : FunOk Tryd.prog glob 14 (fun14 r05_Words) :=
  fun_ok (pa := pa14) (pr := pr14) r05_Words (env14 r03_Chars r05_plain r05_Words.l0) Tryd.func14 (by kernel_rfl) (fun X hP hG => env14_ok hP hG) (fun X w0 hP hG => loopsOk_of [(0, .loop (innerOf 0 (bodyOf Tryd.f14)))] (by kernel_rfl) ⟨⟨_, by kernel_rfl, lo14_0 hP hG⟩, trivial⟩) (ev14 r03_Chars r05_plain r05_Words.l0 )
/-! muniment/munimentlaw05.LineWords -/
abbrev pa5 : List DP := [.sc .str]
abbrev pr5 : RP := (.one (.sc .bool))
def fun5 (f : dpα pa5 → Option pr5.α) : Fun := mkFun pa5 pr5 f
abbrev pi5_0 : List IP := [.junk, .junk, .junk, .own (.sc .str), .junk, .junk, .own (.sc .str), .junk, .junk, .sc (.int .i64), .junk, .junk, .junk, .junk, .junk, .junk, .junk, .junk, .junk, .junk, .junk, .junk, .junk, .junk, .junk, .junk, .junk, .junk, .junk, .junk, .junk, .junk, .junk, .junk, .junk, .junk, .junk, .junk, .junk, .junk, .junk, .junk, .junk, .junk, .junk, .junk, .junk, .junk, .junk, .junk, .junk, .junk, .junk, .junk, .junk, .junk]
abbrev px5_0 : List IP := [.junk, .junk, .junk, .junk, .junk, .junk, .junk, .junk, .junk, .junk, .junk, .junk, .junk, .junk, .junk, .junk, .junk, .junk, .junk, .junk, .junk, .junk, .junk, .junk, .junk, .junk, .junk, .junk, .junk, .junk, .junk, .junk, .junk, .junk, .junk, .junk, .junk, .junk, .junk, .junk, .junk, .junk, .junk, .junk, .junk, .junk, .junk, .junk, .junk, .junk, .junk, .junk, .junk, .junk, .junk, .junk]
def gam5 (f9 : dpα pa9 → Option pr9.α) (f13 : dpα pa13 → Option pr13.α) (f14 : dpα pa14 → Option pr14.α) : List (Nat × Fun) := [(9, fun9 f9), (13, fun13 f13), (14, fun14 f14)]
def agam5 (f9 : dpα pa9 → Option pr9.α) (f13 : dpα pa13 → Option pr13.α) (f14 : dpα pa14 → Option pr14.α) : List (Nat × FunA) := []
def rgam5 (f9 : dpα pa9 → Option pr9.α) (f13 : dpα pa13 → Option pr13.α) (f14 : dpα pa14 → Option pr14.α) : List (Nat × FunR) := []
def lam5 (l0 : ipα pi5_0 → (ipα px5_0 → Option pr5.α) → Option pr5.α) : List (Nat × LoopC pr5.α) := [(0, mkLoop pi5_0 px5_0 l0)]
def env5 (f9 : dpα pa9 → Option pr9.α) (f13 : dpα pa13 → Option pr13.α) (f14 : dpα pa14 → Option pr14.α) (l0 : ipα pi5_0 → (ipα px5_0 → Option pr5.α) → Option pr5.α) : Env pr5.α := mkEnv pr5.α tyT (gam5 f9 f13 f14) (rgam5 f9 f13 f14) (agam5 f9 f13 f14) glob (lam5 l0)
theorem env5_ok {X : Cx} (hP : X.P = Tryd.prog) (hG : X.G = glob) : EnvOk X (env5 w05_awake line_Words r05_Words w05_LineWords.l0) := envOk_of hP hG mixed_ok tyT_ok ⟨⟨fun9_ok, _, Tryd.func9, by kernel_rfl, by kernel_rfl⟩, ⟨fun13_ok, _, Tryd.func13, by kernel_rfl, by kernel_rfl⟩, ⟨fun14_ok, _, Tryd.func14, by kernel_rfl, by kernel_rfl⟩, trivial⟩ trivial trivial
theorem st5_0 (f9 : dpα pa9 → Option pr9.α) (f13 : dpα pa13 → Option pr13.α) (f14 : dpα pa14 → Option pr14.α) (l0 : ipα pi5_0 → (ipα px5_0 → Option pr5.α) → Option pr5.α) : ∀ s kx κ, w05_LineWords.s0b kx s κ = ev (env5 f9 f13 f14 l0) (innerOf 0 (bodyOf Tryd.f5)) (ipInj pi5_0 s) (roundK pi5_0 px5_0 0 (endK (env5 f9 f13 f14 l0) Tryd.f5.results.toList pr5 .ret) kx κ) := by
  intro s kx κ; kernel_rfl
theorem lo5_0 {X : Cx} {w0 : World} (hP : X.P = Tryd.prog) (hG : X.G = glob) : LoopOk X w0 (mkLoop pi5_0 px5_0 w05_LineWords.l0) (.loop (innerOf 0 (bodyOf Tryd.f5))) 0 (endK (env5 w05_awake line_Words r05_Words w05_LineWords.l0) Tryd.f5.results.toList pr5 .ret) :=
  loop_ok (env5_ok hP hG) (by kernel_rfl) (by kernel_rfl) w05_LineWords.s0 w05_LineWords.n0 (fun _ _ => rfl) (loopsOk_of [] (by kernel_rfl) trivial) (st5_0 w05_awake line_Words r05_Words w05_LineWords.l0 )
theorem ev5 (f9 : dpα pa9 → Option pr9.α) (f13 : dpα pa13 → Option pr13.α) (f14 : dpα pa14 → Option pr14.α) (l0 : ipα pi5_0 → (ipα px5_0 → Option pr5.α) → Option pr5.α) : ∀ x, w05_LineWords.b f9 f13 f14 l0 x = ev (env5 f9 f13 f14 l0) (bodyOf Tryd.f5) (start pa5 (Tryd.f5.ntmps - pa5.length) x) (endK (env5 f9 f13 f14 l0) Tryd.f5.results.toList pr5) := by
  intro x; kernel_rfl
theorem fun5_ok : FunOk Tryd.prog glob 5 (fun5 w05_LineWords) :=
  fun_ok (pa := pa5) (pr := pr5) w05_LineWords (env5 w05_awake line_Words r05_Words w05_LineWords.l0) Tryd.func5 (by kernel_rfl) (fun X hP hG => env5_ok hP hG) (fun X w0 hP hG => loopsOk_of [(0, .loop (innerOf 0 (bodyOf Tryd.f5)))] (by kernel_rfl) ⟨⟨_, by kernel_rfl, lo5_0 hP hG⟩, trivial⟩) (ev5 w05_awake line_Words r05_Words w05_LineWords.l0 )
/-! muniment/munimentlaw05.LineJoins -/
abbrev pa6 : List DP := [.sc .str, .sc .str]
abbrev pr6 : RP := (.one (.sc .bool))
def fun6 (f : dpα pa6 → Option pr6.α) : Fun := mkFun pa6 pr6 f
abbrev pi6_0 : List IP := [.junk, .junk, .junk, .junk, .junk, .own (.sc .str), .junk, .junk, .own (.sc .str), .junk, .junk, .own (.sc .str), .junk, .junk, .sc (.int .i64), .junk, .junk, .junk, .junk, .junk, .junk, .junk, .junk, .junk, .junk, .junk, .junk, .junk, .junk, .junk, .junk, .junk, .junk, .junk, .junk, .junk, .junk, .junk, .junk, .junk, .junk, .junk, .junk, .junk, .junk, .junk, .junk, .junk, .junk, .junk, .junk, .junk, .junk, .junk, .junk, .junk, .junk, .junk, .junk, .junk, .junk, .junk, .junk, .junk, .junk, .junk, .junk, .junk, .junk, .junk, .junk, .junk, .junk, .junk, .junk, .junk, .junk, .junk, .junk, .junk, .junk, .junk, .junk, .junk, .junk, .junk, .junk, .junk, .junk, .junk, .junk, .junk, .junk, .junk, .junk, .junk, .junk, .junk, .junk, .junk, .junk, .junk, .junk, .junk, .junk, .junk, .junk, .junk, .junk, .junk, .junk, .junk]
abbrev px6_0 : List IP := [.junk, .junk, .junk, .junk, .junk, .junk, .junk, .junk, .junk, .junk, .junk, .junk, .junk, .junk, .junk, .junk, .junk, .junk, .junk, .junk, .junk, .junk, .junk, .junk, .junk, .junk, .junk, .junk, .junk, .junk, .junk, .junk, .junk, .junk, .junk, .junk, .junk, .junk, .junk, .junk, .junk, .junk, .junk, .junk, .junk, .junk, .junk, .junk, .junk, .junk, .junk, .junk, .junk, .junk, .junk, .junk, .junk, .junk, .junk, .junk, .junk, .junk, .junk, .junk, .junk, .junk, .junk, .junk, .junk, .junk, .junk, .junk, .junk, .junk, .junk, .junk, .junk, .junk, .junk, .junk, .junk, .junk, .junk, .junk, .junk, .junk, .junk, .junk, .junk, .junk, .junk, .junk, .junk, .junk, .junk, .junk, .junk, .junk, .junk, .junk, .junk, .junk, .junk, .junk, .junk, .junk, .junk, .junk, .junk, .junk, .junk, .junk]
def gam6 (f9 : dpα pa9 → Option pr9.α) (f13 : dpα pa13 → Option pr13.α) : List (Nat × Fun) := [(9, fun9 f9), (13, fun13 f13)]
def agam6 (f9 : dpα pa9 → Option pr9.α) (f13 : dpα pa13 → Option pr13.α) : List (Nat × FunA) := []
def rgam6 (f9 : dpα pa9 → Option pr9.α) (f13 : dpα pa13 → Option pr13.α) : List (Nat × FunR) := []
def lam6 (l0 : ipα pi6_0 → (ipα px6_0 → Option pr6.α) → Option pr6.α) : List (Nat × LoopC pr6.α) := [(0, mkLoop pi6_0 px6_0 l0)]
def env6 (f9 : dpα pa9 → Option pr9.α) (f13 : dpα pa13 → Option pr13.α) (l0 : ipα pi6_0 → (ipα px6_0 → Option pr6.α) → Option pr6.α) : Env pr6.α := mkEnv pr6.α tyT (gam6 f9 f13) (rgam6 f9 f13) (agam6 f9 f13) glob (lam6 l0)
theorem env6_ok {X : Cx} (hP : X.P = Tryd.prog) (hG : X.G = glob) : EnvOk X (env6 w05_awake line_Words w05_LineJoins.l0) := envOk_of hP hG mixed_ok tyT_ok ⟨⟨fun9_ok, _, Tryd.func9, by kernel_rfl, by kernel_rfl⟩, ⟨fun13_ok, _, Tryd.func13, by kernel_rfl, by kernel_rfl⟩, trivial⟩ trivial trivial
theorem st6_0 (f9 : dpα pa9 → Option pr9.α) (f13 : dpα pa13 → Option pr13.α) (l0 : ipα pi6_0 → (ipα px6_0 → Option pr6.α) → Option pr6.α) : ∀ s kx κ, w05_LineJoins.s0b kx s κ = ev (env6 f9 f13 l0) (innerOf 0 (bodyOf Tryd.f6)) (ipInj pi6_0 s) (roundK pi6_0 px6_0 0 (endK (env6 f9 f13 l0) Tryd.f6.results.toList pr6 .ret) kx κ) := by
  intro s kx κ; kernel_rfl
theorem lo6_0 {X : Cx} {w0 : World} (hP : X.P = Tryd.prog) (hG : X.G = glob) : LoopOk X w0 (mkLoop pi6_0 px6_0 w05_LineJoins.l0) (.loop (innerOf 0 (bodyOf Tryd.f6))) 0 (endK (env6 w05_awake line_Words w05_LineJoins.l0) Tryd.f6.results.toList pr6 .ret) :=
  loop_ok (env6_ok hP hG) (by kernel_rfl) (by kernel_rfl) w05_LineJoins.s0 w05_LineJoins.n0 (fun _ _ => rfl) (loopsOk_of [] (by kernel_rfl) trivial) (st6_0 w05_awake line_Words w05_LineJoins.l0 )
theorem ev6 (f9 : dpα pa9 → Option pr9.α) (f13 : dpα pa13 → Option pr13.α) (l0 : ipα pi6_0 → (ipα px6_0 → Option pr6.α) → Option pr6.α) : ∀ x, w05_LineJoins.b f9 f13 l0 x = ev (env6 f9 f13 l0) (bodyOf Tryd.f6) (start pa6 (Tryd.f6.ntmps - pa6.length) x) (endK (env6 f9 f13 l0) Tryd.f6.results.toList pr6) := by
  intro x; kernel_rfl
theorem fun6_ok : FunOk Tryd.prog glob 6 (fun6 w05_LineJoins) :=
  fun_ok (pa := pa6) (pr := pr6) w05_LineJoins (env6 w05_awake line_Words w05_LineJoins.l0) Tryd.func6 (by kernel_rfl) (fun X hP hG => env6_ok hP hG) (fun X w0 hP hG => loopsOk_of [(0, .loop (innerOf 0 (bodyOf Tryd.f6)))] (by kernel_rfl) ⟨⟨_, by kernel_rfl, lo6_0 hP hG⟩, trivial⟩) (ev6 w05_awake line_Words w05_LineJoins.l0 )
end Go.Px.linw
