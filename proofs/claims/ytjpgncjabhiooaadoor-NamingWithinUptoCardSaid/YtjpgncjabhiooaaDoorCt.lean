import Derived.Test.YtjpgncjabhiooaaDoorSh
import Derived.Test.YtjpgncjabhiooaaDoorPx16
import Derived.Test.YtjpgncjabhiooaaDoorPx23
import Derived.Test.YtjpgncjabhiooaaDoorShelf
import Derived.Test.YtjpgncjabhiooaaDoorPx21
import Derived.Test.YtjpgncjabhiooaaDoorPx25
import Derived.Test.YtjpgncjabhiooaaDoorProg
import Derived.KernelRfl
set_option linter.unusedVariables false
set_option linter.unusedSimpArgs false
set_option maxRecDepth 100000
namespace Go.Px.nam5
open Go Go.Proofs Go.Px
def globL : List (Nat × List Seg) := [(0, [.arr (.sc (.int .u8)) 256 gvFirst]), (1, [.arr (.strc [(.int .u8), (.int .u8)]) 16 gvAccept])]
def glob : Nat → Option (List Seg) := assoc globL
theorem glob_ok {w : World} (h : AllP (GEnt w) globL) : GOk ⟨Tryd.prog, w.heap.size, glob, noM⟩ w := gok_of h
def tyT : List (Nat × TI) := [(3, .sc (.int .i64) 8),
  (4, .sc .bool 1),
  (5, .sc (.int .u8) 1),
  (9, .sc .str 16),
  (21, .sc (.int .i32) 4),
  (23, .sc (.int .i64) 8),
  (26, .sl 5),
  (30, .sl 44),
  (37, .sl 21),
  (44, .st (.struct #[{ name := "R", type := 21, offset := 0, embedded := false, tag := "", pkgPath := "", byteOffset := 0 }, { name := "At", type := 3, offset := 1, embedded := false, tag := "", pkgPath := "", byteOffset := 8 }, { name := "Ok", type := 4, offset := 2, embedded := false, tag := "", pkgPath := "", byteOffset := 16 }]) [(.int .i32), (.int .i64), .bool] 24)]
theorem tyT_ok : AllP (fun x => TOk Tryd.prog x.1 x.2) tyT := ⟨tok_sc (.int .i64) 8 (by kernel_rfl) (by kernel_rfl),
  tok_sc .bool 1 (by kernel_rfl) (by kernel_rfl),
  tok_sc (.int .u8) 1 (by kernel_rfl) (by kernel_rfl),
  tok_sc .str 16 (by kernel_rfl) (by kernel_rfl),
  tok_sc (.int .i32) 4 (by kernel_rfl) (by kernel_rfl),
  tok_sc (.int .i64) 8 (by kernel_rfl) (by kernel_rfl),
  tok_sl 5 (by kernel_rfl) (by kernel_rfl),
  tok_sl 44 (by kernel_rfl) (by kernel_rfl),
  tok_sl 21 (by kernel_rfl) (by kernel_rfl),
  tok_st (by kernel_rfl) (by kernel_rfl) ⟨_, rfl⟩ (by kernel_rfl) (by kernel_rfl), trivial⟩
theorem mixed_ok : Tryd.prog.follows .mixedOrders = true := by kernel_rfl
/-! muniment/naming.letter -/
abbrev pa16 : List DP := [.sc (.int .i32)]
abbrev pr16 : RP := (.tup [.sc (.int .i32), .sc .bool])
def fun16 (f : dpα pa16 → Option pr16.α) : Fun := mkFun pa16 pr16 f
def gam16 : List (Nat × Fun) := []
def agam16 : List (Nat × FunA) := []
def rgam16 : List (Nat × FunR) := []
def lam16 : List (Nat × LoopC pr16.α) := []
def env16 : Env pr16.α := mkEnv pr16.α tyT gam16 rgam16 agam16 glob lam16
theorem env16_ok {X : Cx} (hP : X.P = Tryd.prog) (hG : X.G = glob) : EnvOk X env16 := envOk_of hP hG mixed_ok tyT_ok trivial trivial trivial
theorem ev16 : ∀ x, naming_letter.b x = ev env16 (bodyOf Tryd.f16) (start pa16 (Tryd.f16.ntmps - pa16.length) x) (endK env16 Tryd.f16.results.toList pr16) := by
  intro x; kernel_rfl
theorem fun16_ok : FunOk Tryd.prog glob 16 (fun16 naming_letter) :=
  fun_ok (pa := pa16) (pr := pr16) naming_letter env16 Tryd.func16 (by kernel_rfl) (fun X hP hG => env16_ok hP hG) (fun X w0 hP hG => loopsOk_of [] (by kernel_rfl) trivial) (ev16 )
/-! muniment/naming.Fold -/
abbrev pa10 : List DP := [.sc .str]
abbrev pr10 : RP := (.tup [.sc .str, .sc (.int .i64), .sc (.int .i64)])
def fun10 (f : dpα pa10 → Option pr10.α) : Fun := mkFun pa10 pr10 f
abbrev pi10_0 : List IP := [.junk, .junk, .junk, .junk, .junk, .own (.sc (.int .i32)), .junk, .junk, .junk, .junk, .junk, .junk, .iter, .junk, .junk, .junk, .junk, .junk, .junk, .junk, .junk, .junk, .junk, .junk, .junk, .junk, .junk, .junk, .junk, .junk, .junk, .junk, .junk, .junk, .junk, .junk, .junk, .junk, .junk, .junk, .junk, .junk, .junk, .junk, .junk, .junk, .junk, .junk, .junk, .junk, .junk, .junk, .junk, .junk]
abbrev px10_0 : List IP := [.junk, .junk, .junk, .junk, .junk, .own (.sc (.int .i32)), .junk, .junk, .junk, .junk, .junk, .junk, .junk, .junk, .junk, .junk, .junk, .junk, .junk, .junk, .junk, .junk, .junk, .junk, .junk, .junk, .junk, .junk, .junk, .junk, .junk, .junk, .junk, .junk, .junk, .junk, .junk, .junk, .junk, .junk, .junk, .junk, .junk, .junk, .junk, .junk, .junk, .junk, .junk, .junk, .junk, .junk, .junk, .junk]
def gam10 (f16 : dpα pa16 → Option pr16.α) : List (Nat × Fun) := [(16, fun16 f16)]
def agam10 (f16 : dpα pa16 → Option pr16.α) : List (Nat × FunA) := []
def rgam10 (f16 : dpα pa16 → Option pr16.α) : List (Nat × FunR) := []
def lam10 (l0 : ipα pi10_0 → (ipα px10_0 → Option pr10.α) → Option pr10.α) : List (Nat × LoopC pr10.α) := [(0, mkLoop pi10_0 px10_0 l0)]
def env10 (f16 : dpα pa16 → Option pr16.α) (l0 : ipα pi10_0 → (ipα px10_0 → Option pr10.α) → Option pr10.α) : Env pr10.α := mkEnv pr10.α tyT (gam10 f16) (rgam10 f16) (agam10 f16) glob (lam10 l0)
theorem env10_ok {X : Cx} (hP : X.P = Tryd.prog) (hG : X.G = glob) : EnvOk X (env10 naming_letter naming_Fold.l0) := envOk_of hP hG mixed_ok tyT_ok ⟨⟨fun16_ok, _, Tryd.func16, by kernel_rfl, by kernel_rfl⟩, trivial⟩ trivial trivial
theorem st10_0 (f16 : dpα pa16 → Option pr16.α) (l0 : ipα pi10_0 → (ipα px10_0 → Option pr10.α) → Option pr10.α) : ∀ s kx κ, naming_Fold.s0b f16 kx s κ = ev (env10 f16 l0) (innerOf 0 (bodyOf Tryd.f10)) (ipInj pi10_0 s) (roundK pi10_0 px10_0 0 (endK (env10 f16 l0) Tryd.f10.results.toList pr10 .ret) kx κ) := by
  intro s kx κ; kernel_rfl
theorem lo10_0 {X : Cx} {w0 : World} (hP : X.P = Tryd.prog) (hG : X.G = glob) : LoopOk X w0 (mkLoop pi10_0 px10_0 naming_Fold.l0) (.loop (innerOf 0 (bodyOf Tryd.f10))) 0 (endK (env10 naming_letter naming_Fold.l0) Tryd.f10.results.toList pr10 .ret) :=
  loop_ok (env10_ok hP hG) (by kernel_rfl) (by kernel_rfl) naming_Fold.s0 naming_Fold.n0 (fun _ _ => rfl) (loopsOk_of [] (by kernel_rfl) trivial) (st10_0 naming_letter naming_Fold.l0 )
theorem ev10 (f16 : dpα pa16 → Option pr16.α) (l0 : ipα pi10_0 → (ipα px10_0 → Option pr10.α) → Option pr10.α) : ∀ x, naming_Fold.b l0 x = ev (env10 f16 l0) (bodyOf Tryd.f10) (start pa10 (Tryd.f10.ntmps - pa10.length) x) (endK (env10 f16 l0) Tryd.f10.results.toList pr10) := by
  intro x; kernel_rfl
theorem fun10_ok : FunOk Tryd.prog glob 10 (fun10 naming_Fold) :=
  fun_ok (pa := pa10) (pr := pr10) naming_Fold (env10 naming_letter naming_Fold.l0) Tryd.func10 (by kernel_rfl) (fun X hP hG => env10_ok hP hG) (fun X w0 hP hG => loopsOk_of [(0, .loop (innerOf 0 (bodyOf Tryd.f10)))] (by kernel_rfl) ⟨⟨_, by kernel_rfl, lo10_0 hP hG⟩, trivial⟩) (ev10 naming_letter naming_Fold.l0 )
/-! unicode/utf8.DecodeRuneInString -/
abbrev pa17 : List DP := [.sc .str]
abbrev pr17 : RP := (.tup [.sc (.int .i32), .sc (.int .i64)])
def fun17 (f : dpα pa17 → Option pr17.α) : Fun := mkFun pa17 pr17 f
theorem fun17_ok : FunOk Tryd.prog glob 17 (fun17 unicode_utf8_DecodeRuneInString) :=
  decode_ok rfl rfl (fun s w h => Go.Proofs.Tryd.utf8_DecodeRuneInString s w h)
/-! muniment/naming.Classes -/
abbrev pa11 : List DP := [.sc .str]
abbrev pr11 : RP := (.tup [.sc (.int .i64), .sc (.int .i64), .sc .bool])
def fun11 (f : dpα pa11 → Option pr11.α) : Fun := mkFun pa11 pr11 f
abbrev pi11_0 : List IP := [.sc .str, .junk, .junk, .junk, .junk, .sc (.int .i64), .sc (.int .i64), .junk, .junk, .junk, .junk, .junk, .iter, .junk, .junk, .junk, .junk, .junk, .junk, .junk, .junk, .junk, .junk, .junk, .junk, .junk, .junk, .junk, .junk, .junk, .junk, .junk, .junk, .junk, .junk, .junk, .junk, .junk, .junk, .junk, .junk, .junk, .junk, .junk, .junk, .junk, .junk, .junk, .junk, .junk, .junk, .junk, .junk, .junk, .junk, .junk, .junk, .junk, .junk, .junk, .junk, .junk, .junk, .junk, .junk, .junk]
abbrev px11_0 : List IP := [.junk, .junk, .junk, .junk, .junk, .sc (.int .i64), .sc (.int .i64), .junk, .junk, .junk, .junk, .junk, .junk, .junk, .junk, .junk, .junk, .junk, .junk, .junk, .junk, .junk, .junk, .junk, .junk, .junk, .junk, .junk, .junk, .junk, .junk, .junk, .junk, .junk, .junk, .junk, .junk, .junk, .junk, .junk, .junk, .junk, .junk, .junk, .junk, .junk, .junk, .junk, .junk, .junk, .junk, .junk, .junk, .junk, .junk, .junk, .junk, .junk, .junk, .junk, .junk, .junk, .junk, .junk, .junk, .junk]
def gam11 (f17 : dpα pa17 → Option pr17.α) : List (Nat × Fun) := [(17, fun17 f17)]
def agam11 (f17 : dpα pa17 → Option pr17.α) : List (Nat × FunA) := []
def rgam11 (f17 : dpα pa17 → Option pr17.α) : List (Nat × FunR) := []
def lam11 (l0 : ipα pi11_0 → (ipα px11_0 → Option pr11.α) → Option pr11.α) : List (Nat × LoopC pr11.α) := [(0, mkLoop pi11_0 px11_0 l0)]
def env11 (f17 : dpα pa17 → Option pr17.α) (l0 : ipα pi11_0 → (ipα px11_0 → Option pr11.α) → Option pr11.α) : Env pr11.α := mkEnv pr11.α tyT (gam11 f17) (rgam11 f17) (agam11 f17) glob (lam11 l0)
theorem env11_ok {X : Cx} (hP : X.P = Tryd.prog) (hG : X.G = glob) : EnvOk X (env11 unicode_utf8_DecodeRuneInString naming_Classes.l0) := envOk_of hP hG mixed_ok tyT_ok ⟨⟨fun17_ok, _, Tryd.func17, by kernel_rfl, by kernel_rfl⟩, trivial⟩ trivial trivial
theorem st11_0 (f17 : dpα pa17 → Option pr17.α) (l0 : ipα pi11_0 → (ipα px11_0 → Option pr11.α) → Option pr11.α) : ∀ s kx κ, naming_Classes.s0b f17 kx s κ = ev (env11 f17 l0) (innerOf 0 (bodyOf Tryd.f11)) (ipInj pi11_0 s) (roundK pi11_0 px11_0 0 (endK (env11 f17 l0) Tryd.f11.results.toList pr11 .ret) kx κ) := by
  intro s kx κ; kernel_rfl
theorem lo11_0 {X : Cx} {w0 : World} (hP : X.P = Tryd.prog) (hG : X.G = glob) : LoopOk X w0 (mkLoop pi11_0 px11_0 naming_Classes.l0) (.loop (innerOf 0 (bodyOf Tryd.f11))) 0 (endK (env11 unicode_utf8_DecodeRuneInString naming_Classes.l0) Tryd.f11.results.toList pr11 .ret) :=
  loop_ok (env11_ok hP hG) (by kernel_rfl) (by kernel_rfl) naming_Classes.s0 naming_Classes.n0 (fun _ _ => rfl) (loopsOk_of [] (by kernel_rfl) trivial) (st11_0 unicode_utf8_DecodeRuneInString naming_Classes.l0 )
theorem ev11 (f17 : dpα pa17 → Option pr17.α) (l0 : ipα pi11_0 → (ipα px11_0 → Option pr11.α) → Option pr11.α) : ∀ x, naming_Classes.b l0 x = ev (env11 f17 l0) (bodyOf Tryd.f11) (start pa11 (Tryd.f11.ntmps - pa11.length) x) (endK (env11 f17 l0) Tryd.f11.results.toList pr11) := by
  intro x; kernel_rfl
theorem fun11_ok : FunOk Tryd.prog glob 11 (fun11 naming_Classes) :=
  fun_ok (pa := pa11) (pr := pr11) naming_Classes (env11 unicode_utf8_DecodeRuneInString naming_Classes.l0) Tryd.func11 (by kernel_rfl) (fun X hP hG => env11_ok hP hG) (fun X w0 hP hG => loopsOk_of [(0, .loop (innerOf 0 (bodyOf Tryd.f11)))] (by kernel_rfl) ⟨⟨_, by kernel_rfl, lo11_0 hP hG⟩, trivial⟩) (ev11 unicode_utf8_DecodeRuneInString naming_Classes.l0 )
/-! muniment/naming.low -/
abbrev pa23 : List DP := [.sc .str]
abbrev pr23 : RP := (.one (.own (.sc (.int .i32))))
def fun23 (f : dpα pa23 → Option pr23.α) : Fun := mkFun pa23 pr23 f
abbrev pi23_0 : List IP := [.junk, .junk, .junk, .own (.sc (.int .i32)), .junk, .junk, .junk, .iter, .junk, .junk, .junk, .junk, .junk, .junk, .junk, .junk, .junk, .junk, .junk, .junk, .junk, .junk, .junk, .junk]
abbrev px23_0 : List IP := [.junk, .junk, .junk, .own (.sc (.int .i32)), .junk, .junk, .junk, .junk, .junk, .junk, .junk, .junk, .junk, .junk, .junk, .junk, .junk, .junk, .junk, .junk, .junk, .junk, .junk, .junk]
def gam23 : List (Nat × Fun) := []
def agam23 : List (Nat × FunA) := []
def rgam23 : List (Nat × FunR) := []
def lam23 (l0 : ipα pi23_0 → (ipα px23_0 → Option pr23.α) → Option pr23.α) : List (Nat × LoopC pr23.α) := [(0, mkLoop pi23_0 px23_0 l0)]
def env23 (l0 : ipα pi23_0 → (ipα px23_0 → Option pr23.α) → Option pr23.α) : Env pr23.α := mkEnv pr23.α tyT gam23 rgam23 agam23 glob (lam23 l0)
theorem env23_ok {X : Cx} (hP : X.P = Tryd.prog) (hG : X.G = glob) : EnvOk X (env23 naming_low.l0) := envOk_of hP hG mixed_ok tyT_ok trivial trivial trivial
theorem st23_0 (l0 : ipα pi23_0 → (ipα px23_0 → Option pr23.α) → Option pr23.α) : ∀ s kx κ, naming_low.s0b kx s κ = ev (env23 l0) (innerOf 0 (bodyOf Tryd.f23)) (ipInj pi23_0 s) (roundK pi23_0 px23_0 0 (endK (env23 l0) Tryd.f23.results.toList pr23 .ret) kx κ) := by
  intro s kx κ; kernel_rfl
theorem lo23_0 {X : Cx} {w0 : World} (hP : X.P = Tryd.prog) (hG : X.G = glob) : LoopOk X w0 (mkLoop pi23_0 px23_0 naming_low.l0) (.loop (innerOf 0 (bodyOf Tryd.f23))) 0 (endK (env23 naming_low.l0) Tryd.f23.results.toList pr23 .ret) :=
  loop_ok (env23_ok hP hG) (by kernel_rfl) (by kernel_rfl) naming_low.s0 naming_low.n0 (fun _ _ => rfl) (loopsOk_of [] (by kernel_rfl) trivial) (st23_0 naming_low.l0 )
theorem ev23 (l0 : ipα pi23_0 → (ipα px23_0 → Option pr23.α) → Option pr23.α) : ∀ x, naming_low.b l0 x = ev (env23 l0) (bodyOf Tryd.f23) (start pa23 (Tryd.f23.ntmps - pa23.length) x) (endK (env23 l0) Tryd.f23.results.toList pr23) := by
  intro x; kernel_rfl
theorem fun23_ok : FunOk Tryd.prog glob 23 (fun23 naming_low) :=
  fun_ok (pa := pa23) (pr := pr23) naming_low (env23 naming_low.l0) Tryd.func23 (by kernel_rfl) (fun X hP hG => env23_ok hP hG) (fun X w0 hP hG => loopsOk_of [(0, .loop (innerOf 0 (bodyOf Tryd.f23)))] (by kernel_rfl) ⟨⟨_, by kernel_rfl, lo23_0 hP hG⟩, trivial⟩) (ev23 naming_low.l0 )
/-! muniment/naming.within -/
abbrev pa18 : List DP := [.sc .str, .sc .str]
abbrev pr18 : RP := (.one (.sc .bool))
def fun18 (f : dpα pa18 → Option pr18.α) : Fun := mkFun pa18 pr18 f
abbrev pi18_0 : List IP := [.junk, .junk, .junk, .junk, .junk, .own (.sc (.int .i32)), .own (.sc (.int .i32)), .sc (.int .i64), .junk, .junk, .junk, .junk, .junk, .junk, .junk, .junk, .junk, .junk, .junk, .junk, .junk, .junk, .junk, .junk, .junk, .junk, .junk, .junk, .junk, .junk, .junk, .junk, .junk, .junk, .junk]
abbrev px18_0 : List IP := [.junk, .junk, .junk, .junk, .junk, .junk, .junk, .junk, .junk, .junk, .junk, .junk, .junk, .junk, .junk, .junk, .junk, .junk, .junk, .junk, .junk, .junk, .junk, .junk, .junk, .junk, .junk, .junk, .junk, .junk, .junk, .junk, .junk, .junk, .junk]
def gam18 (f23 : dpα pa23 → Option pr23.α) : List (Nat × Fun) := [(23, fun23 f23)]
def agam18 (f23 : dpα pa23 → Option pr23.α) : List (Nat × FunA) := []
def rgam18 (f23 : dpα pa23 → Option pr23.α) : List (Nat × FunR) := []
def lam18 (l0 : ipα pi18_0 → (ipα px18_0 → Option pr18.α) → Option pr18.α) : List (Nat × LoopC pr18.α) := [(0, mkLoop pi18_0 px18_0 l0)]
def env18 (f23 : dpα pa23 → Option pr23.α) (l0 : ipα pi18_0 → (ipα px18_0 → Option pr18.α) → Option pr18.α) : Env pr18.α := mkEnv pr18.α tyT (gam18 f23) (rgam18 f23) (agam18 f23) glob (lam18 l0)
theorem env18_ok {X : Cx} (hP : X.P = Tryd.prog) (hG : X.G = glob) : EnvOk X (env18 naming_low naming_within.l0) := envOk_of hP hG mixed_ok tyT_ok ⟨⟨fun23_ok, _, Tryd.func23, by kernel_rfl, by kernel_rfl⟩, trivial⟩ trivial trivial
theorem st18_0 (f23 : dpα pa23 → Option pr23.α) (l0 : ipα pi18_0 → (ipα px18_0 → Option pr18.α) → Option pr18.α) : ∀ s kx κ, naming_within.s0b kx s κ = ev (env18 f23 l0) (innerOf 0 (bodyOf Tryd.f18)) (ipInj pi18_0 s) (roundK pi18_0 px18_0 0 (endK (env18 f23 l0) Tryd.f18.results.toList pr18 .ret) kx κ) := by
  intro s kx κ; kernel_rfl
theorem lo18_0 {X : Cx} {w0 : World} (hP : X.P = Tryd.prog) (hG : X.G = glob) : LoopOk X w0 (mkLoop pi18_0 px18_0 naming_within.l0) (.loop (innerOf 0 (bodyOf Tryd.f18))) 0 (endK (env18 naming_low naming_within.l0) Tryd.f18.results.toList pr18 .ret) :=
  loop_ok (env18_ok hP hG) (by kernel_rfl) (by kernel_rfl) naming_within.s0 naming_within.n0 (fun _ _ => rfl) (loopsOk_of [] (by kernel_rfl) trivial) (st18_0 naming_low naming_within.l0 )
theorem ev18 (f23 : dpα pa23 → Option pr23.α) (l0 : ipα pi18_0 → (ipα px18_0 → Option pr18.α) → Option pr18.α) : ∀ x, naming_within.b f23 l0 x = ev (env18 f23 l0) (bodyOf Tryd.f18) (start pa18 (Tryd.f18.ntmps - pa18.length) x) (endK (env18 f23 l0) Tryd.f18.results.toList pr18) := by
  intro x; kernel_rfl
theorem fun18_ok : FunOk Tryd.prog glob 18 (fun18 naming_within) :=
  fun_ok (pa := pa18) (pr := pr18) naming_within (env18 naming_low naming_within.l0) Tryd.func18 (by kernel_rfl) (fun X hP hG => env18_ok hP hG) (fun X w0 hP hG => loopsOk_of [(0, .loop (innerOf 0 (bodyOf Tryd.f18)))] (by kernel_rfl) ⟨⟨_, by kernel_rfl, lo18_0 hP hG⟩, trivial⟩) (ev18 naming_low naming_within.l0 )
/-! muniment/naming.Strong -/
abbrev pa14 : List DP := [.sc .str, .sc .str]
abbrev pr14 : RP := (.one (.sc (.int .i64)))
def fun14 (f : dpα pa14 → Option pr14.α) : Fun := mkFun pa14 pr14 f
abbrev pi14_1 : List IP := [.sc .str, .sc .str, .junk, .junk, .junk, .junk, .junk, .junk, .sc (.int .i64), .sc (.int .i64), .junk, .junk, .junk, .junk, .junk, .junk, .junk, .junk, .junk, .junk, .junk, .junk, .junk, .junk, .junk, .junk, .junk, .junk, .junk, .junk, .junk, .junk, .junk, .junk, .junk, .junk, .junk, .junk, .junk, .junk, .junk]
abbrev px14_1 : List IP := [.sc .str, .sc .str, .junk, .junk, .junk, .junk, .junk, .junk, .sc (.int .i64), .junk, .junk, .junk, .junk, .junk, .junk, .junk, .junk, .junk, .junk, .junk, .junk, .junk, .junk, .junk, .junk, .junk, .junk, .junk, .junk, .junk, .junk, .junk, .junk, .junk, .junk, .junk, .junk, .junk, .junk, .junk, .junk]
def gam14 (f11 : dpα pa11 → Option pr11.α) (f18 : dpα pa18 → Option pr18.α) : List (Nat × Fun) := [(11, fun11 f11), (18, fun18 f18)]
def agam14 (f11 : dpα pa11 → Option pr11.α) (f18 : dpα pa18 → Option pr18.α) : List (Nat × FunA) := []
def rgam14 (f11 : dpα pa11 → Option pr11.α) (f18 : dpα pa18 → Option pr18.α) : List (Nat × FunR) := []
def lam14 (l1 : ipα pi14_1 → (ipα px14_1 → Option pr14.α) → Option pr14.α) : List (Nat × LoopC pr14.α) := [(1, mkLoop pi14_1 px14_1 l1)]
def env14 (f11 : dpα pa11 → Option pr11.α) (f18 : dpα pa18 → Option pr18.α) (l1 : ipα pi14_1 → (ipα px14_1 → Option pr14.α) → Option pr14.α) : Env pr14.α := mkEnv pr14.α tyT (gam14 f11 f18) (rgam14 f11 f18) (agam14 f11 f18) glob (lam14 l1)
theorem env14_ok {X : Cx} (hP : X.P = Tryd.prog) (hG : X.G = glob) : EnvOk X (env14 naming_Classes naming_within naming_Strong.l1) := envOk_of hP hG mixed_ok tyT_ok ⟨⟨fun11_ok, _, Tryd.func11, by kernel_rfl, by kernel_rfl⟩, ⟨fun18_ok, _, Tryd.func18, by kernel_rfl, by kernel_rfl⟩, trivial⟩ trivial trivial
theorem st14_1 (f11 : dpα pa11 → Option pr11.α) (f18 : dpα pa18 → Option pr18.α) (l1 : ipα pi14_1 → (ipα px14_1 → Option pr14.α) → Option pr14.α) : ∀ s kx κ, naming_Strong.s1b kx s κ = ev (env14 f11 f18 l1) (innerOf 1 (bodyOf Tryd.f14)) (ipInj pi14_1 s) (roundK pi14_1 px14_1 1 (endK (env14 f11 f18 l1) Tryd.f14.results.toList pr14 .ret) kx κ) := by
  intro s kx κ; kernel_rfl
theorem lo14_1 {X : Cx} {w0 : World} (hP : X.P = Tryd.prog) (hG : X.G = glob) : LoopOk X w0 (mkLoop pi14_1 px14_1 naming_Strong.l1) (.loop (innerOf 1 (bodyOf Tryd.f14))) 1 (endK (env14 naming_Classes naming_within naming_Strong.l1) Tryd.f14.results.toList pr14 .ret) :=
  loop_ok (env14_ok hP hG) (by kernel_rfl) (by kernel_rfl) naming_Strong.s1 naming_Strong.n1 (fun _ _ => rfl) (loopsOk_of [] (by kernel_rfl) trivial) (st14_1 naming_Classes naming_within naming_Strong.l1 )
theorem ev14 (f11 : dpα pa11 → Option pr11.α) (f18 : dpα pa18 → Option pr18.α) (l1 : ipα pi14_1 → (ipα px14_1 → Option pr14.α) → Option pr14.α) : ∀ x, naming_Strong.b f11 f18 l1 x = ev (env14 f11 f18 l1) (bodyOf Tryd.f14) (start pa14 (Tryd.f14.ntmps - pa14.length) x) (endK (env14 f11 f18 l1) Tryd.f14.results.toList pr14) := by
  intro x; kernel_rfl
theorem fun14_ok : FunOk Tryd.prog glob 14 (fun14 naming_Strong) :=
  fun_ok (pa := pa14) (pr := pr14) naming_Strong (env14 naming_Classes naming_within naming_Strong.l1) Tryd.func14 (by kernel_rfl) (fun X hP hG => env14_ok hP hG) (fun X w0 hP hG => loopsOk_of [(1, .loop (innerOf 1 (bodyOf Tryd.f14)))] (by kernel_rfl) ⟨⟨_, by kernel_rfl, lo14_1 hP hG⟩, trivial⟩) (ev14 naming_Classes naming_within naming_Strong.l1 )
/-! muniment/munimentlaw03.awake -/
abbrev pa9 : List DP := []
abbrev pr9 : RP := (.one (.sc .bool))
def fun9 (f : dpα pa9 → Option pr9.α) : Fun := mkFun pa9 pr9 f
def gam9 (f10 : dpα pa10 → Option pr10.α) (f14 : dpα pa14 → Option pr14.α) : List (Nat × Fun) := [(10, fun10 f10), (14, fun14 f14)]
def agam9 (f10 : dpα pa10 → Option pr10.α) (f14 : dpα pa14 → Option pr14.α) : List (Nat × FunA) := []
def rgam9 (f10 : dpα pa10 → Option pr10.α) (f14 : dpα pa14 → Option pr14.α) : List (Nat × FunR) := []
def lam9 : List (Nat × LoopC pr9.α) := []
def env9 (f10 : dpα pa10 → Option pr10.α) (f14 : dpα pa14 → Option pr14.α) : Env pr9.α := mkEnv pr9.α tyT (gam9 f10 f14) (rgam9 f10 f14) (agam9 f10 f14) glob lam9
theorem env9_ok {X : Cx} (hP : X.P = Tryd.prog) (hG : X.G = glob) : EnvOk X (env9 naming_Fold naming_Strong) := envOk_of hP hG mixed_ok tyT_ok ⟨⟨fun10_ok, _, Tryd.func10, by kernel_rfl, by kernel_rfl⟩, ⟨fun14_ok, _, Tryd.func14, by kernel_rfl, by kernel_rfl⟩, trivial⟩ trivial trivial
theorem ev9 (f10 : dpα pa10 → Option pr10.α) (f14 : dpα pa14 → Option pr14.α) : ∀ x, w03_awake.b f10 f14 x = ev (env9 f10 f14) (bodyOf Tryd.f9) (start pa9 (Tryd.f9.ntmps - pa9.length) x) (endK (env9 f10 f14) Tryd.f9.results.toList pr9) := by
  intro x; kernel_rfl
theorem fun9_ok : FunOk Tryd.prog glob 9 (fun9 w03_awake) :=
  fun_ok (pa := pa9) (pr := pr9) w03_awake (env9 naming_Fold naming_Strong) Tryd.func9 (by kernel_rfl) (fun X hP hG => env9_ok hP hG) (fun X w0 hP hG => loopsOk_of [] (by kernel_rfl) trivial) (ev9 naming_Fold naming_Strong )
/-! muniment/munimentlaw03.NamingOnce -/
abbrev pa3 : List DP := [.sc .str]
abbrev pr3 : RP := (.one (.sc .bool))
def fun3 (f : dpα pa3 → Option pr3.α) : Fun := mkFun pa3 pr3 f
abbrev pi3_0 : List IP := [.junk, .junk, .junk, .sc .str, .junk, .junk, .sc .str, .junk, .sc (.int .i64), .own (.sc (.int .u8)), .sc (.int .i64), .junk, .junk, .junk, .junk, .junk, .junk, .junk, .junk, .junk, .junk, .junk, .junk, .junk, .junk, .junk, .junk, .junk, .junk, .junk, .junk, .junk, .junk, .junk, .junk, .junk, .junk, .junk, .junk, .junk, .junk, .junk, .junk, .junk, .junk, .junk, .junk, .junk, .junk, .junk, .junk, .junk, .junk, .junk, .junk, .junk, .junk, .junk, .junk, .junk, .junk, .junk, .junk, .junk, .junk, .junk, .junk, .junk, .junk, .junk, .junk, .junk, .junk, .junk, .junk, .junk, .junk, .junk, .junk, .junk, .junk, .junk, .junk, .junk, .junk, .junk, .junk, .junk, .junk, .junk, .junk]
abbrev px3_0 : List IP := [.junk, .junk, .junk, .sc .str, .junk, .junk, .sc .str, .junk, .sc (.int .i64), .own (.sc (.int .u8)), .junk, .junk, .junk, .junk, .junk, .junk, .junk, .junk, .junk, .junk, .junk, .junk, .junk, .junk, .junk, .junk, .junk, .junk, .junk, .junk, .junk, .junk, .junk, .junk, .junk, .junk, .junk, .junk, .junk, .junk, .junk, .junk, .junk, .junk, .junk, .junk, .junk, .junk, .junk, .junk, .junk, .junk, .junk, .junk, .junk, .junk, .junk, .junk, .junk, .junk, .junk, .junk, .junk, .junk, .junk, .junk, .junk, .junk, .junk, .junk, .junk, .junk, .junk, .junk, .junk, .junk, .junk, .junk, .junk, .junk, .junk, .junk, .junk, .junk, .junk, .junk, .junk, .junk, .junk, .junk, .junk]
def gam3 (f9 : dpα pa9 → Option pr9.α) (f10 : dpα pa10 → Option pr10.α) : List (Nat × Fun) := [(9, fun9 f9), (10, fun10 f10)]
def agam3 (f9 : dpα pa9 → Option pr9.α) (f10 : dpα pa10 → Option pr10.α) : List (Nat × FunA) := []
def rgam3 (f9 : dpα pa9 → Option pr9.α) (f10 : dpα pa10 → Option pr10.α) : List (Nat × FunR) := []
def lam3 (l0 : ipα pi3_0 → (ipα px3_0 → Option pr3.α) → Option pr3.α) : List (Nat × LoopC pr3.α) := [(0, mkLoop pi3_0 px3_0 l0)]
def env3 (f9 : dpα pa9 → Option pr9.α) (f10 : dpα pa10 → Option pr10.α) (l0 : ipα pi3_0 → (ipα px3_0 → Option pr3.α) → Option pr3.α) : Env pr3.α := mkEnv pr3.α tyT (gam3 f9 f10) (rgam3 f9 f10) (agam3 f9 f10) glob (lam3 l0)
theorem env3_ok {X : Cx} (hP : X.P = Tryd.prog) (hG : X.G = glob) : EnvOk X (env3 w03_awake naming_Fold w03_NamingOnce.l0) := envOk_of hP hG mixed_ok tyT_ok ⟨⟨fun9_ok, _, Tryd.func9, by kernel_rfl, by kernel_rfl⟩, ⟨fun10_ok, _, Tryd.func10, by kernel_rfl, by kernel_rfl⟩, trivial⟩ trivial trivial
theorem st3_0 (f9 : dpα pa9 → Option pr9.α) (f10 : dpα pa10 → Option pr10.α) (l0 : ipα pi3_0 → (ipα px3_0 → Option pr3.α) → Option pr3.α) : ∀ s kx κ, w03_NamingOnce.s0b kx s κ = ev (env3 f9 f10 l0) (innerOf 0 (bodyOf Tryd.f3)) (ipInj pi3_0 s) (roundK pi3_0 px3_0 0 (endK (env3 f9 f10 l0) Tryd.f3.results.toList pr3 .ret) kx κ) := by
  intro s kx κ; kernel_rfl
theorem lo3_0 {X : Cx} {w0 : World} (hP : X.P = Tryd.prog) (hG : X.G = glob) : LoopOk X w0 (mkLoop pi3_0 px3_0 w03_NamingOnce.l0) (.loop (innerOf 0 (bodyOf Tryd.f3))) 0 (endK (env3 w03_awake naming_Fold w03_NamingOnce.l0) Tryd.f3.results.toList pr3 .ret) :=
  loop_ok (env3_ok hP hG) (by kernel_rfl) (by kernel_rfl) w03_NamingOnce.s0 w03_NamingOnce.n0 (fun _ _ => rfl) (loopsOk_of [] (by kernel_rfl) trivial) (st3_0 w03_awake naming_Fold w03_NamingOnce.l0 )
theorem ev3 (f9 : dpα pa9 → Option pr9.α) (f10 : dpα pa10 → Option pr10.α) (l0 : ipα pi3_0 → (ipα px3_0 → Option pr3.α) → Option pr3.α) : ∀ x, w03_NamingOnce.b f9 f10 l0 x = ev (env3 f9 f10 l0) (bodyOf Tryd.f3) (start pa3 (Tryd.f3.ntmps - pa3.length) x) (endK (env3 f9 f10 l0) Tryd.f3.results.toList pr3) := by
  intro x; kernel_rfl
theorem fun3_ok : FunOk Tryd.prog glob 3 (fun3 w03_NamingOnce) :=
  fun_ok (pa := pa3) (pr := pr3) w03_NamingOnce (env3 w03_awake naming_Fold w03_NamingOnce.l0) Tryd.func3 (by kernel_rfl) (fun X hP hG => env3_ok hP hG) (fun X w0 hP hG => loopsOk_of [(0, .loop (innerOf 0 (bodyOf Tryd.f3)))] (by kernel_rfl) ⟨⟨_, by kernel_rfl, lo3_0 hP hG⟩, trivial⟩) (ev3 w03_awake naming_Fold w03_NamingOnce.l0 )
/-! muniment/munimentref03.Chars -/
abbrev pa13 : List DP := [.sc .str]
abbrev pr13 : RP := (.one (.own (.strc [(.int .i32), (.int .i64), .bool])))
def fun13 (f : dpα pa13 → Option pr13.α) : Fun := mkFun pa13 pr13 f
abbrev pi13_0 : List IP := [.sc .str, .junk, .junk, .own (.strc [(.int .i32), (.int .i64), .bool]), .sc (.int .i64), .junk, .junk, .junk, .junk, .junk, .junk, .junk, .junk, .junk, .junk, .junk, .junk, .junk, .junk, .junk, .junk, .junk, .junk, .junk, .junk, .junk, .junk, .junk, .junk, .junk, .junk, .junk, .junk, .junk]
abbrev px13_0 : List IP := [.junk, .junk, .junk, .own (.strc [(.int .i32), (.int .i64), .bool]), .junk, .junk, .junk, .junk, .junk, .junk, .junk, .junk, .junk, .junk, .junk, .junk, .junk, .junk, .junk, .junk, .junk, .junk, .junk, .junk, .junk, .junk, .junk, .junk, .junk, .junk, .junk, .junk, .junk, .junk]
def gam13 (f17 : dpα pa17 → Option pr17.α) : List (Nat × Fun) := [(17, fun17 f17)]
def agam13 (f17 : dpα pa17 → Option pr17.α) : List (Nat × FunA) := []
def rgam13 (f17 : dpα pa17 → Option pr17.α) : List (Nat × FunR) := []
def lam13 (l0 : ipα pi13_0 → (ipα px13_0 → Option pr13.α) → Option pr13.α) : List (Nat × LoopC pr13.α) := [(0, mkLoop pi13_0 px13_0 l0)]
def env13 (f17 : dpα pa17 → Option pr17.α) (l0 : ipα pi13_0 → (ipα px13_0 → Option pr13.α) → Option pr13.α) : Env pr13.α := mkEnv pr13.α tyT (gam13 f17) (rgam13 f17) (agam13 f17) glob (lam13 l0)
theorem env13_ok {X : Cx} (hP : X.P = Tryd.prog) (hG : X.G = glob) : EnvOk X (env13 unicode_utf8_DecodeRuneInString r03_Chars.l0) := envOk_of hP hG mixed_ok tyT_ok ⟨⟨fun17_ok, _, Tryd.func17, by kernel_rfl, by kernel_rfl⟩, trivial⟩ trivial trivial
theorem st13_0 (f17 : dpα pa17 → Option pr17.α) (l0 : ipα pi13_0 → (ipα px13_0 → Option pr13.α) → Option pr13.α) : ∀ s kx κ, r03_Chars.s0b f17 kx s κ = ev (env13 f17 l0) (innerOf 0 (bodyOf Tryd.f13)) (ipInj pi13_0 s) (roundK pi13_0 px13_0 0 (endK (env13 f17 l0) Tryd.f13.results.toList pr13 .ret) kx κ) := by
  intro s kx κ; kernel_rfl
theorem lo13_0 {X : Cx} {w0 : World} (hP : X.P = Tryd.prog) (hG : X.G = glob) : LoopOk X w0 (mkLoop pi13_0 px13_0 r03_Chars.l0) (.loop (innerOf 0 (bodyOf Tryd.f13))) 0 (endK (env13 unicode_utf8_DecodeRuneInString r03_Chars.l0) Tryd.f13.results.toList pr13 .ret) :=
  loop_ok (env13_ok hP hG) (by kernel_rfl) (by kernel_rfl) r03_Chars.s0 r03_Chars.n0 (fun _ _ => rfl) (loopsOk_of [] (by kernel_rfl) trivial) (st13_0 unicode_utf8_DecodeRuneInString r03_Chars.l0 )
theorem ev13 (f17 : dpα pa17 → Option pr17.α) (l0 : ipα pi13_0 → (ipα px13_0 → Option pr13.α) → Option pr13.α) : ∀ x, r03_Chars.b l0 x = ev (env13 f17 l0) (bodyOf Tryd.f13) (start pa13 (Tryd.f13.ntmps - pa13.length) x) (endK (env13 f17 l0) Tryd.f13.results.toList pr13) := by
  intro x; kernel_rfl
theorem fun13_ok : FunOk Tryd.prog glob 13 (fun13 r03_Chars) :=
  fun_ok (pa := pa13) (pr := pr13) r03_Chars (env13 unicode_utf8_DecodeRuneInString r03_Chars.l0) Tryd.func13 (by kernel_rfl) (fun X hP hG => env13_ok hP hG) (fun X w0 hP hG => loopsOk_of [(0, .loop (innerOf 0 (bodyOf Tryd.f13)))] (by kernel_rfl) ⟨⟨_, by kernel_rfl, lo13_0 hP hG⟩, trivial⟩) (ev13 unicode_utf8_DecodeRuneInString r03_Chars.l0 )
/-! muniment/munimentlaw03.NamingWithin -/
abbrev pa5 : List DP := [.sc .str, .sc .str, .sc .str]
abbrev pr5 : RP := (.one (.sc .bool))
def fun5 (f : dpα pa5 → Option pr5.α) : Fun := mkFun pa5 pr5 f
def gam5 (f9 : dpα pa9 → Option pr9.α) (f10 : dpα pa10 → Option pr10.α) (f13 : dpα pa13 → Option pr13.α) (f14 : dpα pa14 → Option pr14.α) : List (Nat × Fun) := [(9, fun9 f9), (10, fun10 f10), (13, fun13 f13), (14, fun14 f14)]
def agam5 (f9 : dpα pa9 → Option pr9.α) (f10 : dpα pa10 → Option pr10.α) (f13 : dpα pa13 → Option pr13.α) (f14 : dpα pa14 → Option pr14.α) : List (Nat × FunA) := []
def rgam5 (f9 : dpα pa9 → Option pr9.α) (f10 : dpα pa10 → Option pr10.α) (f13 : dpα pa13 → Option pr13.α) (f14 : dpα pa14 → Option pr14.α) : List (Nat × FunR) := []
def lam5 : List (Nat × LoopC pr5.α) := []
def env5 (f9 : dpα pa9 → Option pr9.α) (f10 : dpα pa10 → Option pr10.α) (f13 : dpα pa13 → Option pr13.α) (f14 : dpα pa14 → Option pr14.α) : Env pr5.α := mkEnv pr5.α tyT (gam5 f9 f10 f13 f14) (rgam5 f9 f10 f13 f14) (agam5 f9 f10 f13 f14) glob lam5
theorem env5_ok {X : Cx} (hP : X.P = Tryd.prog) (hG : X.G = glob) : EnvOk X (env5 w03_awake naming_Fold r03_Chars naming_Strong) := envOk_of hP hG mixed_ok tyT_ok ⟨⟨fun9_ok, _, Tryd.func9, by kernel_rfl, by kernel_rfl⟩, ⟨fun10_ok, _, Tryd.func10, by kernel_rfl, by kernel_rfl⟩, ⟨fun13_ok, _, Tryd.func13, by kernel_rfl, by kernel_rfl⟩, ⟨fun14_ok, _, Tryd.func14, by kernel_rfl, by kernel_rfl⟩, trivial⟩ trivial trivial
theorem ev5 (f9 : dpα pa9 → Option pr9.α) (f10 : dpα pa10 → Option pr10.α) (f13 : dpα pa13 → Option pr13.α) (f14 : dpα pa14 → Option pr14.α) : ∀ x, w03_NamingWithin.b f9 f10 f13 f14 x = ev (env5 f9 f10 f13 f14) (bodyOf Tryd.f5) (start pa5 (Tryd.f5.ntmps - pa5.length) x) (endK (env5 f9 f10 f13 f14) Tryd.f5.results.toList pr5) := by
  intro x; kernel_rfl
theorem fun5_ok : FunOk Tryd.prog glob 5 (fun5 w03_NamingWithin) :=
  fun_ok (pa := pa5) (pr := pr5) w03_NamingWithin (env5 w03_awake naming_Fold r03_Chars naming_Strong) Tryd.func5 (by kernel_rfl) (fun X hP hG => env5_ok hP hG) (fun X w0 hP hG => loopsOk_of [] (by kernel_rfl) trivial) (ev5 w03_awake naming_Fold r03_Chars naming_Strong )
end Go.Px.nam5
