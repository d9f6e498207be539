import Derived.Test.YtjpgncjabhiooaaDoorSh
import Derived.Test.YtjpgncjabhiooaaDoorPx16
import Derived.Test.YtjpgncjabhiooaaDoorPx23
import Derived.Test.YtjpgncjabhiooaaDoorShelf
import Derived.Test.YtjpgncjabhiooaaDoorPx21
import Derived.Test.YtjpgncjabhiooaaDoorPx25
import Derived.Test.YtjpgncjabhiooaaDoorProg
import Derived.KernelRfl
set_option linter.unusedVariables false
set_option linter.unusedSimpArgs false
set_option maxRecDepth 100000
namespace Go.Px.nam2
open Go Go.Proofs Go.Px
def globL : List (Nat × List Seg) := [(0, [.arr (.sc (.int .u8)) 256 gvFirst]), (1, [.arr (.strc [(.int .u8), (.int .u8)]) 16 gvAccept])]
def glob : Nat → Option (List Seg) := assoc globL
theorem glob_ok {w : World} (h : AllP (GEnt w) globL) : GOk ⟨Tryd.prog, w.heap.size, glob, noM⟩ w := gok_of h
def tyT : List (Nat × TI) := [(3, .sc (.int .i64) 8),
  (4, .sc .bool 1),
  (5, .sc (.int .u8) 1),
  (9, .sc .str 16),
  (21, .sc (.int .i32) 4),
  (23, .sc (.int .i64) 8),
  (26, .sl 5),
  (30, .sl 44),
  (37, .sl 21),
  (44, .st (.struct #[{ name := "R", type := 21, offset := 0, embedded := false, tag := "", pkgPath := "", byteOffset := 0 }, { name := "At", type := 3, offset := 1, embedded := false, tag := "", pkgPath := "", byteOffset := 8 }, { name := "Ok", type := 4, offset := 2, embedded := false, tag := "", pkgPath := "", byteOffset := 16 }]) [(.int .i32), (.int .i64), .bool] 24),
  (50, .sc (.int .u32) 4)]
theorem tyT_ok : AllP (fun x => TOk Tryd.prog x.1 x.2) tyT := ⟨tok_sc (.int .i64) 8 (by kernel_rfl) (by kernel_rfl),
  tok_sc .bool 1 (by kernel_rfl) (by kernel_rfl),
  tok_sc (.int .u8) 1 (by kernel_rfl) (by kernel_rfl),
  tok_sc .str 16 (by kernel_rfl) (by kernel_rfl),
  tok_sc (.int .i32) 4 (by kernel_rfl) (by kernel_rfl),
  tok_sc (.int .i64) 8 (by kernel_rfl) (by kernel_rfl),
  tok_sl 5 (by kernel_rfl) (by kernel_rfl),
  tok_sl 44 (by kernel_rfl) (by kernel_rfl),
  tok_sl 21 (by kernel_rfl) (by kernel_rfl),
  tok_st (by kernel_rfl) (by kernel_rfl) ⟨_, rfl⟩ (by kernel_rfl) (by kernel_rfl),
  tok_sc (.int .u32) 4 (by kernel_rfl) (by kernel_rfl), trivial⟩
theorem mixed_ok : Tryd.prog.follows .mixedOrders = true := by kernel_rfl
/-! muniment/naming.letter -/
abbrev pa16 : List DP := [.sc (.int .i32)]
abbrev pr16 : RP := (.tup [.sc (.int .i32), .sc .bool])
def fun16 (f : dpα pa16 → Option pr16.α) : Fun := mkFun pa16 pr16 f
def gam16 : List (Nat × Fun) := []
def agam16 : List (Nat × FunA) := []
def rgam16 : List (Nat × FunR) := []
def lam16 : List (Nat × LoopC pr16.α) := []
def env16 : Env pr16.α := mkEnv pr16.α tyT gam16 rgam16 agam16 glob lam16
theorem env16_ok {X : Cx} (hP : X.P = Tryd.prog) (hG : X.G = glob) : EnvOk X env16 := envOk_of hP hG mixed_ok tyT_ok trivial trivial trivial
theorem ev16 : ∀ x, naming_letter.b x = ev env16 (bodyOf Tryd.f16) (start pa16 (Tryd.f16.ntmps - pa16.length) x) (endK env16 Tryd.f16.results.toList pr16) := by
  intro x; kernel_rfl
theorem fun16_ok : FunOk Tryd.prog glob 16 (fun16 naming_letter) :=
  fun_ok (pa := pa16) (pr := pr16) naming_letter env16 Tryd.func16 (by kernel_rfl) (fun X hP hG => env16_ok hP hG) (fun X w0 hP hG => loopsOk_of [] (by kernel_rfl) trivial) (ev16 )
/-! muniment/naming.Fold -/
abbrev pa10 : List DP := [.sc .str]
abbrev pr10 : RP := (.tup [.sc .str, .sc (.int .i64), .sc (.int .i64)])
def fun10 (f : dpα pa10 → Option pr10.α) : Fun := mkFun pa10 pr10 f
abbrev pi10_0 : List IP := [.junk, .junk, .junk, .junk, .junk, .own (.sc (.int .i32)), .junk, .junk, .junk, .junk, .junk, .junk, .iter, .junk, .junk, .junk, .junk, .junk, .junk, .junk, .junk, .junk, .junk, .junk, .junk, .junk, .junk, .junk, .junk, .junk, .junk, .junk, .junk, .junk, .junk, .junk, .junk, .junk, .junk, .junk, .junk, .junk, .junk, .junk, .junk, .junk, .junk, .junk, .junk, .junk, .junk, .junk, .junk, .junk]
abbrev px10_0 : List IP := [.junk, .junk, .junk, .junk, .junk, .own (.sc (.int .i32)), .junk, .junk, .junk, .junk, .junk, .junk, .junk, .junk, .junk, .junk, .junk, .junk, .junk, .junk, .junk, .junk, .junk, .junk, .junk, .junk, .junk, .junk, .junk, .junk, .junk, .junk, .junk, .junk, .junk, .junk, .junk, .junk, .junk, .junk, .junk, .junk, .junk, .junk, .junk, .junk, .junk, .junk, .junk, .junk, .junk, .junk, .junk, .junk]
def gam10 (f16 : dpα pa16 → Option pr16.α) : List (Nat × Fun) := [(16, fun16 f16)]
def agam10 (f16 : dpα pa16 → Option pr16.α) : List (Nat × FunA) := []
def rgam10 (f16 : dpα pa16 → Option pr16.α) : List (Nat × FunR) := []
def lam10 (l0 : ipα pi10_0 → (ipα px10_0 → Option pr10.α) → Option pr10.α) : List (Nat × LoopC pr10.α) := [(0, mkLoop pi10_0 px10_0 l0)]
def env10 (f16 : dpα pa16 → Option pr16.α) (l0 : ipα pi10_0 → (ipα px10_0 → Option pr10.α) → Option pr10.α) : Env pr10.α := mkEnv pr10.α tyT (gam10 f16) (rgam10 f16) (agam10 f16) glob (lam10 l0)
theorem env10_ok {X : Cx} (hP : X.P = Tryd.prog) (hG : X.G = glob) : EnvOk X (env10 naming_letter naming_Fold.l0) := envOk_of hP hG mixed_ok tyT_ok ⟨⟨fun16_ok, _, Tryd.func16, by kernel_rfl, by kernel_rfl⟩, trivial⟩ trivial trivial
theorem st10_0 (f16 : dpα pa16 → Option pr16.α) (l0 : ipα pi10_0 → (ipα px10_0 → Option pr10.α) → Option pr10.α) : ∀ s kx κ, naming_Fold.s0b f16 kx s κ = ev (env10 f16 l0) (innerOf 0 (bodyOf Tryd.f10)) (ipInj pi10_0 s) (roundK pi10_0 px10_0 0 (endK (env10 f16 l0) Tryd.f10.results.toList pr10 .ret) kx κ) := by
  intro s kx κ; kernel_rfl
theorem lo10_0 {X : Cx} {w0 : World} (hP : X.P = Tryd.prog) (hG : X.G = glob) : LoopOk X w0 (mkLoop pi10_0 px10_0 naming_Fold.l0) (.loop (innerOf 0 (bodyOf Tryd.f10))) 0 (endK (env10 naming_letter naming_Fold.l0) Tryd.f10.results.toList pr10 .ret) :=
  loop_ok (env10_ok hP hG) (by kernel_rfl) (by kernel_rfl) naming_Fold.s0 naming_Fold.n0 (fun _ _ => rfl) (loopsOk_of [] (by kernel_rfl) trivial) (st10_0 naming_letter naming_Fold.l0 )
theorem ev10 (f16 : dpα pa16 → Option pr16.α) (l0 : ipα pi10_0 → (ipα px10_0 → Option pr10.α) → Option pr10.α) : ∀ x, naming_Fold.b l0 x = ev (env10 f16 l0) (bodyOf Tryd.f10) (start pa10 (Tryd.f10.ntmps - pa10.length) x) (endK (env10 f16 l0) Tryd.f10.results.toList pr10) := by
  intro x; kernel_rfl
theorem fun10_ok : FunOk Tryd.prog glob 10 (fun10 naming_Fold) :=
  fun_ok (pa := pa10) (pr := pr10) naming_Fold (env10 naming_letter naming_Fold.l0) Tryd.func10 (by kernel_rfl) (fun X hP hG => env10_ok hP hG) (fun X w0 hP hG => loopsOk_of [(0, .loop (innerOf 0 (bodyOf Tryd.f10)))] (by kernel_rfl) ⟨⟨_, by kernel_rfl, lo10_0 hP hG⟩, trivial⟩) (ev10 naming_letter naming_Fold.l0 )
/-! unicode/utf8.DecodeRuneInString -/
abbrev pa17 : List DP := [.sc .str]
abbrev pr17 : RP := (.tup [.sc (.int .i32), .sc (.int .i64)])
def fun17 (f : dpα pa17 → Option pr17.α) : Fun := mkFun pa17 pr17 f
theorem fun17_ok : FunOk Tryd.prog glob 17 (fun17 unicode_utf8_DecodeRuneInString) :=
  decode_ok rfl rfl (fun s w h => Go.Proofs.Tryd.utf8_DecodeRuneInString s w h)
/-! muniment/naming.Classes -/
abbrev pa11 : List DP := [.sc .str]
abbrev pr11 : RP := (.tup [.sc (.int .i64), .sc (.int .i64), .sc .bool])
def fun11 (f : dpα pa11 → Option pr11.α) : Fun := mkFun pa11 pr11 f
abbrev pi11_0 : List IP := [.sc .str, .junk, .junk, .junk, .junk, .sc (.int .i64), .sc (.int .i64), .junk, .junk, .junk, .junk, .junk, .iter, .junk, .junk, .junk, .junk, .junk, .junk, .junk, .junk, .junk, .junk, .junk, .junk, .junk, .junk, .junk, .junk, .junk, .junk, .junk, .junk, .junk, .junk, .junk, .junk, .junk, .junk, .junk, .junk, .junk, .junk, .junk, .junk, .junk, .junk, .junk, .junk, .junk, .junk, .junk, .junk, .junk, .junk, .junk, .junk, .junk, .junk, .junk, .junk, .junk, .junk, .junk, .junk, .junk]
abbrev px11_0 : List IP := [.junk, .junk, .junk, .junk, .junk, .sc (.int .i64), .sc (.int .i64), .junk, .junk, .junk, .junk, .junk, .junk, .junk, .junk, .junk, .junk, .junk, .junk, .junk, .junk, .junk, .junk, .junk, .junk, .junk, .junk, .junk, .junk, .junk, .junk, .junk, .junk, .junk, .junk, .junk, .junk, .junk, .junk, .junk, .junk, .junk, .junk, .junk, .junk, .junk, .junk, .junk, .junk, .junk, .junk, .junk, .junk, .junk, .junk, .junk, .junk, .junk, .junk, .junk, .junk, .junk, .junk, .junk, .junk, .junk]
def gam11 (f17 : dpα pa17 → Option pr17.α) : List (Nat × Fun) := [(17, fun17 f17)]
def agam11 (f17 : dpα pa17 → Option pr17.α) : List (Nat × FunA) := []
def rgam11 (f17 : dpα pa17 → Option pr17.α) : List (Nat × FunR) := []
def lam11 (l0 : ipα pi11_0 → (ipα px11_0 → Option pr11.α) → Option pr11.α) : List (Nat × LoopC pr11.α) := [(0, mkLoop pi11_0 px11_0 l0)]
def env11 (f17 : dpα pa17 → Option pr17.α) (l0 : ipα pi11_0 → (ipα px11_0 → Option pr11.α) → Option pr11.α) : Env pr11.α := mkEnv pr11.α tyT (gam11 f17) (rgam11 f17) (agam11 f17) glob (lam11 l0)
theorem env11_ok {X : Cx} (hP : X.P = Tryd.prog) (hG : X.G = glob) : EnvOk X (env11 unicode_utf8_DecodeRuneInString naming_Classes.l0) := envOk_of hP hG mixed_ok tyT_ok ⟨⟨fun17_ok, _, Tryd.func17, by kernel_rfl, by kernel_rfl⟩, trivial⟩ trivial trivial
theorem st11_0 (f17 : dpα pa17 → Option pr17.α) (l0 : ipα pi11_0 → (ipα px11_0 → Option pr11.α) → Option pr11.α) : ∀ s kx κ, naming_Classes.s0b f17 kx s κ = ev (env11 f17 l0) (innerOf 0 (bodyOf Tryd.f11)) (ipInj pi11_0 s) (roundK pi11_0 px11_0 0 (endK (env11 f17 l0) Tryd.f11.results.toList pr11 .ret) kx κ) := by
  intro s kx κ; kernel_rfl
theorem lo11_0 {X : Cx} {w0 : World} (hP : X.P = Tryd.prog) (hG : X.G = glob) : LoopOk X w0 (mkLoop pi11_0 px11_0 naming_Classes.l0) (.loop (innerOf 0 (bodyOf Tryd.f11))) 0 (endK (env11 unicode_utf8_DecodeRuneInString naming_Classes.l0) Tryd.f11.results.toList pr11 .ret) :=
  loop_ok (env11_ok hP hG) (by kernel_rfl) (by kernel_rfl) naming_Classes.s0 naming_Classes.n0 (fun _ _ => rfl) (loopsOk_of [] (by kernel_rfl) trivial) (st11_0 unicode_utf8_DecodeRuneInString naming_Classes.l0 )
theorem ev11 (f17 : dpα pa17 → Option pr17.α) (l0 : ipα pi11_0 → (ipα px11_0 → Option pr11.α) → Option pr11.α) : ∀ x, naming_Classes.b l0 x = ev (env11 f17 l0) (bodyOf Tryd.f11) (start pa11 (Tryd.f11.ntmps - pa11.length) x) (endK (env11 f17 l0) Tryd.f11.results.toList pr11) := by
  intro x; kernel_rfl
theorem fun11_ok : FunOk Tryd.prog glob 11 (fun11 naming_Classes) :=
  fun_ok (pa := pa11) (pr := pr11) naming_Classes (env11 unicode_utf8_DecodeRuneInString naming_Classes.l0) Tryd.func11 (by kernel_rfl) (fun X hP hG => env11_ok hP hG) (fun X w0 hP hG => loopsOk_of [(0, .loop (innerOf 0 (bodyOf Tryd.f11)))] (by kernel_rfl) ⟨⟨_, by kernel_rfl, lo11_0 hP hG⟩, trivial⟩) (ev11 unicode_utf8_DecodeRuneInString naming_Classes.l0 )
/-! muniment/naming.low -/
abbrev pa23 : List DP := [.sc .str]
abbrev pr23 : RP := (.one (.own (.sc (.int .i32))))
def fun23 (f : dpα pa23 → Option pr23.α) : Fun := mkFun pa23 pr23 f
abbrev pi23_0 : List IP := [.junk, .junk, .junk, .own (.sc (.int .i32)), .junk, .junk, .junk, .iter, .junk, .junk, .junk, .junk, .junk, .junk, .junk, .junk, .junk, .junk, .junk, .junk, .junk, .junk, .junk, .junk]
abbrev px23_0 : List IP := [.junk, .junk, .junk, .own (.sc (.int .i32)), .junk, .junk, .junk, .junk, .junk, .junk, .junk, .junk, .junk, .junk, .junk, .junk, .junk, .junk, .junk, .junk, .junk, .junk, .junk, .junk]
def gam23 : List (Nat × Fun) := []
def agam23 : List (Nat × FunA) := []
def rgam23 : List (Nat × FunR) := []
def lam23 (l0 : ipα pi23_0 → (ipα px23_0 → Option pr23.α) → Option pr23.α) : List (Nat × LoopC pr23.α) := [(0, mkLoop pi23_0 px23_0 l0)]
def env23 (l0 : ipα pi23_0 → (ipα px23_0 → Option pr23.α) → Option pr23.α) : Env pr23.α := mkEnv pr23.α tyT gam23 rgam23 agam23 glob (lam23 l0)
theorem env23_ok {X : Cx} (hP : X.P = Tryd.prog) (hG : X.G = glob) : EnvOk X (env23 naming_low.l0) := envOk_of hP hG mixed_ok tyT_ok trivial trivial trivial
theorem st23_0 (l0 : ipα pi23_0 → (ipα px23_0 → Option pr23.α) → Option pr23.α) : ∀ s kx κ, naming_low.s0b kx s κ = ev (env23 l0) (innerOf 0 (bodyOf Tryd.f23)) (ipInj pi23_0 s) (roundK pi23_0 px23_0 0 (endK (env23 l0) Tryd.f23.results.toList pr23 .ret) kx κ) := by
  intro s kx κ; kernel_rfl
theorem lo23_0 {X : Cx} {w0 : World} (hP : X.P = Tryd.prog) (hG : X.G = glob) : LoopOk X w0 (mkLoop pi23_0 px23_0 naming_low.l0) (.loop (innerOf 0 (bodyOf Tryd.f23))) 0 (endK (env23 naming_low.l0) Tryd.f23.results.toList pr23 .ret) :=
  loop_ok (env23_ok hP hG) (by kernel_rfl) (by kernel_rfl) naming_low.s0 naming_low.n0 (fun _ _ => rfl) (loopsOk_of [] (by kernel_rfl) trivial) (st23_0 naming_low.l0 )
theorem ev23 (l0 : ipα pi23_0 → (ipα px23_0 → Option pr23.α) → Option pr23.α) : ∀ x, naming_low.b l0 x = ev (env23 l0) (bodyOf Tryd.f23) (start pa23 (Tryd.f23.ntmps - pa23.length) x) (endK (env23 l0) Tryd.f23.results.toList pr23) := by
  intro x; kernel_rfl
theorem fun23_ok : FunOk Tryd.prog glob 23 (fun23 naming_low) :=
  fun_ok (pa := pa23) (pr := pr23) naming_low (env23 naming_low.l0) Tryd.func23 (by kernel_rfl) (fun X hP hG => env23_ok hP hG) (fun X w0 hP hG => loopsOk_of [(0, .loop (innerOf 0 (bodyOf Tryd.f23)))] (by kernel_rfl) ⟨⟨_, by kernel_rfl, lo23_0 hP hG⟩, trivial⟩) (ev23 naming_low.l0 )
/-! muniment/naming.within -/
abbrev pa18 : List DP := [.sc .str, .sc .str]
abbrev pr18 : RP := (.one (.sc .bool))
def fun18 (f : dpα pa18 → Option pr18.α) : Fun := mkFun pa18 pr18 f
abbrev pi18_0 : List IP := [.junk, .junk, .junk, .junk, .junk, .own (.sc (.int .i32)), .own (.sc (.int .i32)), .sc (.int .i64), .junk, .junk, .junk, .junk, .junk, .junk, .junk, .junk, .junk, .junk, .junk, .junk, .junk, .junk, .junk, .junk, .junk, .junk, .junk, .junk, .junk, .junk, .junk, .junk, .junk, .junk, .junk]
abbrev px18_0 : List IP := [.junk, .junk, .junk, .junk, .junk, .junk, .junk, .junk, .junk, .junk, .junk, .junk, .junk, .junk, .junk, .junk, .junk, .junk, .junk, .junk, .junk, .junk, .junk, .junk, .junk, .junk, .junk, .junk, .junk, .junk, .junk, .junk, .junk, .junk, .junk]
def gam18 (f23 : dpα pa23 → Option pr23.α) : List (Nat × Fun) := [(23, fun23 f23)]
def agam18 (f23 : dpα pa23 → Option pr23.α) : List (Nat × FunA) := []
def rgam18 (f23 : dpα pa23 → Option pr23.α) : List (Nat × FunR) := []
def lam18 (l0 : ipα pi18_0 → (ipα px18_0 → Option pr18.α) → Option pr18.α) : List (Nat × LoopC pr18.α) := [(0, mkLoop pi18_0 px18_0 l0)]
def env18 (f23 : dpα pa23 → Option pr23.α) (l0 : ipα pi18_0 → (ipα px18_0 → Option pr18.α) → Option pr18.α) : Env pr18.α := mkEnv pr18.α tyT (gam18 f23) (rgam18 f23) (agam18 f23) glob (lam18 l0)
theorem env18_ok {X : Cx} (hP : X.P = Tryd.prog) (hG : X.G = glob) : EnvOk X (env18 naming_low naming_within.l0) := envOk_of hP hG mixed_ok tyT_ok ⟨⟨fun23_ok, _, Tryd.func23, by kernel_rfl, by kernel_rfl⟩, trivial⟩ trivial trivial
theorem st18_0 (f23 : dpα pa23 → Option pr23.α) (l0 : ipα pi18_0 → (ipα px18_0 → Option pr18.α) → Option pr18.α) : ∀ s kx κ, naming_within.s0b kx s κ = ev (env18 f23 l0) (innerOf 0 (bodyOf Tryd.f18)) (ipInj pi18_0 s) (roundK pi18_0 px18_0 0 (endK (env18 f23 l0) Tryd.f18.results.toList pr18 .ret) kx κ) := by
  intro s kx κ; kernel_rfl
theorem lo18_0 {X : Cx} {w0 : World} (hP : X.P = Tryd.prog) (hG : X.G = glob) : LoopOk X w0 (mkLoop pi18_0 px18_0 naming_within.l0) (.loop (innerOf 0 (bodyOf Tryd.f18))) 0 (endK (env18 naming_low naming_within.l0) Tryd.f18.results.toList pr18 .ret) :=
  loop_ok (env18_ok hP hG) (by kernel_rfl) (by kernel_rfl) naming_within.s0 naming_within.n0 (fun _ _ => rfl) (loopsOk_of [] (by kernel_rfl) trivial) (st18_0 naming_low naming_within.l0 )
theorem ev18 (f23 : dpα pa23 → Option pr23.α) (l0 : ipα pi18_0 → (ipα px18_0 → Option pr18.α) → Option pr18.α) : ∀ x, naming_within.b f23 l0 x = ev (env18 f23 l0) (bodyOf Tryd.f18) (start pa18 (Tryd.f18.ntmps - pa18.length) x) (endK (env18 f23 l0) Tryd.f18.results.toList pr18) := by
  intro x; kernel_rfl
theorem fun18_ok : FunOk Tryd.prog glob 18 (fun18 naming_within) :=
  fun_ok (pa := pa18) (pr := pr18) naming_within (env18 naming_low naming_within.l0) Tryd.func18 (by kernel_rfl) (fun X hP hG => env18_ok hP hG) (fun X w0 hP hG => loopsOk_of [(0, .loop (innerOf 0 (bodyOf Tryd.f18)))] (by kernel_rfl) ⟨⟨_, by kernel_rfl, lo18_0 hP hG⟩, trivial⟩) (ev18 naming_low naming_within.l0 )
/-! muniment/naming.Strong -/
abbrev pa14 : List DP := [.sc .str, .sc .str]
abbrev pr14 : RP := (.one (.sc (.int .i64)))
def fun14 (f : dpα pa14 → Option pr14.α) : Fun := mkFun pa14 pr14 f
abbrev pi14_1 : List IP := [.sc .str, .sc .str, .junk, .junk, .junk, .junk, .junk, .junk, .sc (.int .i64), .sc (.int .i64), .junk, .junk, .junk, .junk, .junk, .junk, .junk, .junk, .junk, .junk, .junk, .junk, .junk, .junk, .junk, .junk, .junk, .junk, .junk, .junk, .junk, .junk, .junk, .junk, .junk, .junk, .junk, .junk, .junk, .junk, .junk]
abbrev px14_1 : List IP := [.sc .str, .sc .str, .junk, .junk, .junk, .junk, .junk, .junk, .sc (.int .i64), .junk, .junk, .junk, .junk, .junk, .junk, .junk, .junk, .junk, .junk, .junk, .junk, .junk, .junk, .junk, .junk, .junk, .junk, .junk, .junk, .junk, .junk, .junk, .junk, .junk, .junk, .junk, .junk, .junk, .junk, .junk, .junk]
def gam14 (f11 : dpα pa11 → Option pr11.α) (f18 : dpα pa18 → Option pr18.α) : List (Nat × Fun) := [(11, fun11 f11), (18, fun18 f18)]
def agam14 (f11 : dpα pa11 → Option pr11.α) (f18 : dpα pa18 → Option pr18.α) : List (Nat × FunA) := []
def rgam14 (f11 : dpα pa11 → Option pr11.α) (f18 : dpα pa18 → Option pr18.α) : List (Nat × FunR) := []
def lam14 (l1 : ipα pi14_1 → (ipα px14_1 → Option pr14.α) → Option pr14.α) : List (Nat × LoopC pr14.α) := [(1, mkLoop pi14_1 px14_1 l1)]
def env14 (f11 : dpα pa11 → Option pr11.α) (f18 : dpα pa18 → Option pr18.α) (l1 : ipα pi14_1 → (ipα px14_1 → Option pr14.α) → Option pr14.α) : Env pr14.α := mkEnv pr14.α tyT (gam14 f11 f18) (rgam14 f11 f18) (agam14 f11 f18) glob (lam14 l1)
theorem env14_ok {X : Cx} (hP : X.P = Tryd.prog) (hG : X.G = glob) : EnvOk X (env14 naming_Classes naming_within naming_Strong.l1) := envOk_of hP hG mixed_ok tyT_ok ⟨⟨fun11_ok, _, Tryd.func11, by kernel_rfl, by kernel_rfl⟩, ⟨fun18_ok, _, Tryd.func18, by kernel_rfl, by kernel_rfl⟩, trivial⟩ trivial trivial
theorem st14_1 (f11 : dpα pa11 → Option pr11.α) (f18 : dpα pa18 → Option pr18.α) (l1 : ipα pi14_1 → (ipα px14_1 → Option pr14.α) → Option pr14.α) : ∀ s kx κ, naming_Strong.s1b kx s κ = ev (env14 f11 f18 l1) (innerOf 1 (bodyOf Tryd.f14)) (ipInj pi14_1 s) (roundK pi14_1 px14_1 1 (endK (env14 f11 f18 l1) Tryd.f14.results.toList pr14 .ret) kx κ) := by
  intro s kx κ; kernel_rfl
theorem lo14_1 {X : Cx} {w0 : World} (hP : X.P = Tryd.prog) (hG : X.G = glob) : LoopOk X w0 (mkLoop pi14_1 px14_1 naming_Strong.l1) (.loop (innerOf 1 (bodyOf Tryd.f14))) 1 (endK (env14 naming_Classes naming_within naming_Strong.l1) Tryd.f14.results.toList pr14 .ret) :=
  loop_ok (env14_ok hP hG) (by kernel_rfl) (by kernel_rfl) naming_Strong.s1 naming_Strong.n1 (fun _ _ => rfl) (loopsOk_of [] (by kernel_rfl) trivial) (st14_1 naming_Classes naming_within naming_Strong.l1 )
theorem ev14 (f11 : dpα pa11 → Option pr11.α) (f18 : dpα pa18 → Option pr18.α) (l1 : ipα pi14_1 → (ipα px14_1 → Option pr14.α) → Option pr14.α) : ∀ x, naming_Strong.b f11 f18 l1 x = ev (env14 f11 f18 l1) (bodyOf Tryd.f14) (start pa14 (Tryd.f14.ntmps - pa14.length) x) (endK (env14 f11 f18 l1) Tryd.f14.results.toList pr14) := by
  intro x; kernel_rfl
theorem fun14_ok : FunOk Tryd.prog glob 14 (fun14 naming_Strong) :=
  fun_ok (pa := pa14) (pr := pr14) naming_Strong (env14 naming_Classes naming_within naming_Strong.l1) Tryd.func14 (by kernel_rfl) (fun X hP hG => env14_ok hP hG) (fun X w0 hP hG => loopsOk_of [(1, .loop (innerOf 1 (bodyOf Tryd.f14)))] (by kernel_rfl) ⟨⟨_, by kernel_rfl, lo14_1 hP hG⟩, trivial⟩) (ev14 naming_Classes naming_within naming_Strong.l1 )
/-! muniment/munimentlaw03.awake -/
abbrev pa9 : List DP := []
abbrev pr9 : RP := (.one (.sc .bool))
def fun9 (f : dpα pa9 → Option pr9.α) : Fun := mkFun pa9 pr9 f
def gam9 (f10 : dpα pa10 → Option pr10.α) (f14 : dpα pa14 → Option pr14.α) : List (Nat × Fun) := [(10, fun10 f10), (14, fun14 f14)]
def agam9 (f10 : dpα pa10 → Option pr10.α) (f14 : dpα pa14 → Option pr14.α) : List (Nat × FunA) := []
def rgam9 (f10 : dpα pa10 → Option pr10.α) (f14 : dpα pa14 → Option pr14.α) : List (Nat × FunR) := []
def lam9 : List (Nat × LoopC pr9.α) := []
def env9 (f10 : dpα pa10 → Option pr10.α) (f14 : dpα pa14 → Option pr14.α) : Env pr9.α := mkEnv pr9.α tyT (gam9 f10 f14) (rgam9 f10 f14) (agam9 f10 f14) glob lam9
theorem env9_ok {X : Cx} (hP : X.P = Tryd.prog) (hG : X.G = glob) : EnvOk X (env9 naming_Fold naming_Strong) := envOk_of hP hG mixed_ok tyT_ok ⟨⟨fun10_ok, _, Tryd.func10, by kernel_rfl, by kernel_rfl⟩, ⟨fun14_ok, _, Tryd.func14, by kernel_rfl, by kernel_rfl⟩, trivial⟩ trivial trivial
theorem ev9 (f10 : dpα pa10 → Option pr10.α) (f14 : dpα pa14 → Option pr14.α) : ∀ x, w03_awake.b f10 f14 x = ev (env9 f10 f14) (bodyOf Tryd.f9) (start pa9 (Tryd.f9.ntmps - pa9.length) x) (endK (env9 f10 f14) Tryd.f9.results.toList pr9) := by
  intro x; kernel_rfl
theorem fun9_ok : FunOk Tryd.prog glob 9 (fun9 w03_awake) :=
  fun_ok (pa := pa9) (pr := pr9) w03_awake (env9 naming_Fold naming_Strong) Tryd.func9 (by kernel_rfl) (fun X hP hG => env9_ok hP hG) (fun X w0 hP hG => loopsOk_of [] (by kernel_rfl) trivial) (ev9 naming_Fold naming_Strong )
/-! muniment/munimentref03.Chars -/
abbrev pa13 : List DP := [.sc .str]
abbrev pr13 : RP := (.one (.own (.strc [(.int .i32), (.int .i64), .bool])))
def fun13 (f : dpα pa13 → Option pr13.α) : Fun := mkFun pa13 pr13 f
abbrev pi13_0 : List IP := [.sc .str, .junk, .junk, .own (.strc [(.int .i32), (.int .i64), .bool]), .sc (.int .i64), .junk, .junk, .junk, .junk, .junk, .junk, .junk, .junk, .junk, .junk, .junk, .junk, .junk, .junk, .junk, .junk, .junk, .junk, .junk, .junk, .junk, .junk, .junk, .junk, .junk, .junk, .junk, .junk, .junk]
abbrev px13_0 : List IP := [.junk, .junk, .junk, .own (.strc [(.int .i32), (.int .i64), .bool]), .junk, .junk, .junk, .junk, .junk, .junk, .junk, .junk, .junk, .junk, .junk, .junk, .junk, .junk, .junk, .junk, .junk, .junk, .junk, .junk, .junk, .junk, .junk, .junk, .junk, .junk, .junk, .junk, .junk, .junk]
def gam13 (f17 : dpα pa17 → Option pr17.α) : List (Nat × Fun) := [(17, fun17 f17)]
def agam13 (f17 : dpα pa17 → Option pr17.α) : List (Nat × FunA) := []
def rgam13 (f17 : dpα pa17 → Option pr17.α) : List (Nat × FunR) := []
def lam13 (l0 : ipα pi13_0 → (ipα px13_0 → Option pr13.α) → Option pr13.α) : List (Nat × LoopC pr13.α) := [(0, mkLoop pi13_0 px13_0 l0)]
def env13 (f17 : dpα pa17 → Option pr17.α) (l0 : ipα pi13_0 → (ipα px13_0 → Option pr13.α) → Option pr13.α) : Env pr13.α := mkEnv pr13.α tyT (gam13 f17) (rgam13 f17) (agam13 f17) glob (lam13 l0)
theorem env13_ok {X : Cx} (hP : X.P = Tryd.prog) (hG : X.G = glob) : EnvOk X (env13 unicode_utf8_DecodeRuneInString r03_Chars.l0) := envOk_of hP hG mixed_ok tyT_ok ⟨⟨fun17_ok, _, Tryd.func17, by kernel_rfl, by kernel_rfl⟩, trivial⟩ trivial trivial
theorem st13_0 (f17 : dpα pa17 → Option pr17.α) (l0 : ipα pi13_0 → (ipα px13_0 → Option pr13.α) → Option pr13.α) : ∀ s kx κ, r03_Chars.s0b f17 kx s κ = ev (env13 f17 l0) (innerOf 0 (bodyOf Tryd.f13)) (ipInj pi13_0 s) (roundK pi13_0 px13_0 0 (endK (env13 f17 l0) Tryd.f13.results.toList pr13 .ret) kx κ) := by
  intro s kx κ; kernel_rfl
theorem lo13_0 {X : Cx} {w0 : World} (hP : X.P = Tryd.prog) (hG : X.G = glob) : LoopOk X w0 (mkLoop pi13_0 px13_0 r03_Chars.l0) (.loop (innerOf 0 (bodyOf Tryd.f13))) 0 (endK (env13 unicode_utf8_DecodeRuneInString r03_Chars.l0) Tryd.f13.results.toList pr13 .ret) :=
  loop_ok (env13_ok hP hG) (by kernel_rfl) (by kernel_rfl) r03_Chars.s0 r03_Chars.n0 (fun _ _ => rfl) (loopsOk_of [] (by kernel_rfl) trivial) (st13_0 unicode_utf8_DecodeRuneInString r03_Chars.l0 )
theorem ev13 (f17 : dpα pa17 → Option pr17.α) (l0 : ipα pi13_0 → (ipα px13_0 → Option pr13.α) → Option pr13.α) : ∀ x, r03_Chars.b l0 x = ev (env13 f17 l0) (bodyOf Tryd.f13) (start pa13 (Tryd.f13.ntmps - pa13.length) x) (endK (env13 f17 l0) Tryd.f13.results.toList pr13) := by
  intro x; kernel_rfl
theorem fun13_ok : FunOk Tryd.prog glob 13 (fun13 r03_Chars) :=
  fun_ok (pa := pa13) (pr := pr13) r03_Chars (env13 unicode_utf8_DecodeRuneInString r03_Chars.l0) Tryd.func13 (by kernel_rfl) (fun X hP hG => env13_ok hP hG) (fun X w0 hP hG => loopsOk_of [(0, .loop (innerOf 0 (bodyOf Tryd.f13)))] (by kernel_rfl) ⟨⟨_, by kernel_rfl, lo13_0 hP hG⟩, trivial⟩) (ev13 unicode_utf8_DecodeRuneInString r03_Chars.l0 )
/-! muniment/munimentlaw03.NamingWithin -/
abbrev pa5 : List DP := [.sc .str, .sc .str, .sc .str]
abbrev pr5 : RP := (.one (.sc .bool))
def fun5 (f : dpα pa5 → Option pr5.α) : Fun := mkFun pa5 pr5 f
def gam5 (f9 : dpα pa9 → Option pr9.α) (f10 : dpα pa10 → Option pr10.α) (f13 : dpα pa13 → Option pr13.α) (f14 : dpα pa14 → Option pr14.α) : List (Nat × Fun) := [(9, fun9 f9), (10, fun10 f10), (13, fun13 f13), (14, fun14 f14)]
def agam5 (f9 : dpα pa9 → Option pr9.α) (f10 : dpα pa10 → Option pr10.α) (f13 : dpα pa13 → Option pr13.α) (f14 : dpα pa14 → Option pr14.α) : List (Nat × FunA) := []
def rgam5 (f9 : dpα pa9 → Option pr9.α) (f10 : dpα pa10 → Option pr10.α) (f13 : dpα pa13 → Option pr13.α) (f14 : dpα pa14 → Option pr14.α) : List (Nat × FunR) := []
def lam5 : List (Nat × LoopC pr5.α) := []
def env5 (f9 : dpα pa9 → Option pr9.α) (f10 : dpα pa10 → Option pr10.α) (f13 : dpα pa13 → Option pr13.α) (f14 : dpα pa14 → Option pr14.α) : Env pr5.α := mkEnv pr5.α tyT (gam5 f9 f10 f13 f14) (rgam5 f9 f10 f13 f14) (agam5 f9 f10 f13 f14) glob lam5
theorem env5_ok {X : Cx} (hP : X.P = Tryd.prog) (hG : X.G = glob) : EnvOk X (env5 w03_awake naming_Fold r03_Chars naming_Strong) := envOk_of hP hG mixed_ok tyT_ok ⟨⟨fun9_ok, _, Tryd.func9, by kernel_rfl, by kernel_rfl⟩, ⟨fun10_ok, _, Tryd.func10, by kernel_rfl, by kernel_rfl⟩, ⟨fun13_ok, _, Tryd.func13, by kernel_rfl, by kernel_rfl⟩, ⟨fun14_ok, _, Tryd.func14, by kernel_rfl, by kernel_rfl⟩, trivial⟩ trivial trivial
theorem ev5 (f9 : dpα pa9 → Option pr9.α) (f10 : dpα pa10 → Option pr10.α) (f13 : dpα pa13 → Option pr13.α) (f14 : dpα pa14 → Option pr14.α) : ∀ x, w03_NamingWithin.b f9 f10 f13 f14 x = ev (env5 f9 f10 f13 f14) (bodyOf Tryd.f5) (start pa5 (Tryd.f5.ntmps - pa5.length) x) (endK (env5 f9 f10 f13 f14) Tryd.f5.results.toList pr5) := by
  intro x; kernel_rfl
theorem fun5_ok : FunOk Tryd.prog glob 5 (fun5 w03_NamingWithin) :=
  fun_ok (pa := pa5) (pr := pr5) w03_NamingWithin (env5 w03_awake naming_Fold r03_Chars naming_Strong) Tryd.func5 (by kernel_rfl) (fun X hP hG => env5_ok hP hG) (fun X w0 hP hG => loopsOk_of [] (by kernel_rfl) trivial) (ev5 w03_awake naming_Fold r03_Chars naming_Strong )
/-! muniment/munimentref03.small -/
abbrev pa21 : List DP := [.sc (.int .i32)]
abbrev pr21 : RP := (.one (.sc (.int .i32)))
def fun21 (f : dpα pa21 → Option pr21.α) : Fun := mkFun pa21 pr21 f
def gam21 : List (Nat × Fun) := []
def agam21 : List (Nat × FunA) := []
def rgam21 : List (Nat × FunR) := []
def lam21 : List (Nat × LoopC pr21.α) := []
def env21 : Env pr21.α := mkEnv pr21.α tyT gam21 rgam21 agam21 glob lam21
theorem env21_ok {X : Cx} (hP : X.P = Tryd.prog) (hG : X.G = glob) : EnvOk X env21 := envOk_of hP hG mixed_ok tyT_ok trivial trivial trivial
theorem ev21 : ∀ x, r03_small.b x = ev env21 (bodyOf Tryd.f21) (start pa21 (Tryd.f21.ntmps - pa21.length) x) (endK env21 Tryd.f21.results.toList pr21) := by
  intro x; kernel_rfl
theorem fun21_ok : FunOk Tryd.prog glob 21 (fun21 r03_small) :=
  fun_ok (pa := pa21) (pr := pr21) r03_small env21 Tryd.func21 (by kernel_rfl) (fun X hP hG => env21_ok hP hG) (fun X w0 hP hG => loopsOk_of [] (by kernel_rfl) trivial) (ev21 )
/-! muniment/munimentref03.named -/
abbrev pa19 : List DP := [.strc [.one (.int .i32), .one (.int .i64), .one .bool]]
abbrev pr19 : RP := (.one (.sc .bool))
def fun19 (f : dpα pa19 → Option pr19.α) : Fun := mkFun pa19 pr19 f
def gam19 (f21 : dpα pa21 → Option pr21.α) : List (Nat × Fun) := [(21, fun21 f21)]
def agam19 (f21 : dpα pa21 → Option pr21.α) : List (Nat × FunA) := []
def rgam19 (f21 : dpα pa21 → Option pr21.α) : List (Nat × FunR) := []
def lam19 : List (Nat × LoopC pr19.α) := []
def env19 (f21 : dpα pa21 → Option pr21.α) : Env pr19.α := mkEnv pr19.α tyT (gam19 f21) (rgam19 f21) (agam19 f21) glob lam19
theorem env19_ok {X : Cx} (hP : X.P = Tryd.prog) (hG : X.G = glob) : EnvOk X (env19 r03_small) := envOk_of hP hG mixed_ok tyT_ok ⟨⟨fun21_ok, _, Tryd.func21, by kernel_rfl, by kernel_rfl⟩, trivial⟩ trivial trivial
theorem ev19 (f21 : dpα pa21 → Option pr21.α) : ∀ x, r03_named.b f21 x = ev (env19 f21) (bodyOf Tryd.f19) (start pa19 (Tryd.f19.ntmps - pa19.length) x) (endK (env19 f21) Tryd.f19.results.toList pr19) := by
  intro x; kernel_rfl
theorem fun19_ok : FunOk Tryd.prog glob 19 (fun19 r03_named) :=
  fun_ok (pa := pa19) (pr := pr19) r03_named (env19 r03_small) Tryd.func19 (by kernel_rfl) (fun X hP hG => env19_ok hP hG) (fun X w0 hP hG => loopsOk_of [] (by kernel_rfl) trivial) (ev19 r03_small )
/-! unicode/utf8.appendRuneNonASCII -/
abbrev pa24 : List DP := [.sc (.int .i32)]
abbrev pr24 : RP := (.one (.own (.sc (.int .u8))))
def fun24 (f : List (Cod.α (.sc (.int .u8))) × dpα pa24 → Option pr24.α) : FunA := mkFunA (.sc (.int .u8)) pa24 pr24 f
def gam24 : List (Nat × Fun) := []
def agam24 : List (Nat × FunA) := []
def rgam24 : List (Nat × FunR) := []
def lam24 : List (Nat × LoopC pr24.α) := []
def env24 : Env pr24.α := mkEnv pr24.α tyT gam24 rgam24 agam24 glob lam24
theorem env24_ok {X : Cx} (hP : X.P = Tryd.prog) (hG : X.G = glob) : EnvOk X env24 := envOk_of hP hG mixed_ok tyT_ok trivial trivial trivial
theorem ev24 : ∀ x, unicode_utf8_appendRuneNonASCII.b x = ev env24 (bodyOf Tryd.f24) (startA (.sc (.int .u8)) pa24 (Tryd.f24.ntmps - (pa24.length + 1)) x) (endK env24 Tryd.f24.results.toList pr24) := by
  intro x; kernel_rfl
theorem fun24_ok : FunAOk Tryd.prog glob 24 (fun24 unicode_utf8_appendRuneNonASCII) :=
  funA_ok (C := (.sc (.int .u8))) (pa := pa24) (pr := pr24) unicode_utf8_appendRuneNonASCII env24 Tryd.func24 (by kernel_rfl) (fun X hP hG => env24_ok hP hG) (fun X w0 hP hG => loopsOk_of [] (by kernel_rfl) trivial) (ev24 )
/-! unicode/utf8.AppendRune -/
abbrev pa20 : List DP := [.sc (.int .i32)]
abbrev pr20 : RP := (.one (.own (.sc (.int .u8))))
def fun20 (f : List (Cod.α (.sc (.int .u8))) × dpα pa20 → Option pr20.α) : FunA := mkFunA (.sc (.int .u8)) pa20 pr20 f
def gam20 (f24 : List (Cod.α (.sc (.int .u8))) × dpα pa24 → Option pr24.α) : List (Nat × Fun) := []
def agam20 (f24 : List (Cod.α (.sc (.int .u8))) × dpα pa24 → Option pr24.α) : List (Nat × FunA) := [(24, fun24 f24)]
def rgam20 (f24 : List (Cod.α (.sc (.int .u8))) × dpα pa24 → Option pr24.α) : List (Nat × FunR) := []
def lam20 : List (Nat × LoopC pr20.α) := []
def env20 (f24 : List (Cod.α (.sc (.int .u8))) × dpα pa24 → Option pr24.α) : Env pr20.α := mkEnv pr20.α tyT (gam20 f24) (rgam20 f24) (agam20 f24) glob lam20
theorem env20_ok {X : Cx} (hP : X.P = Tryd.prog) (hG : X.G = glob) : EnvOk X (env20 unicode_utf8_appendRuneNonASCII) := envOk_of hP hG mixed_ok tyT_ok trivial trivial ⟨⟨fun24_ok, _, Tryd.func24, by kernel_rfl, by kernel_rfl⟩, trivial⟩
theorem ev20 (f24 : List (Cod.α (.sc (.int .u8))) × dpα pa24 → Option pr24.α) : ∀ x, unicode_utf8_AppendRune.b f24 x = ev (env20 f24) (bodyOf Tryd.f20) (startA (.sc (.int .u8)) pa20 (Tryd.f20.ntmps - (pa20.length + 1)) x) (endK (env20 f24) Tryd.f20.results.toList pr20) := by
  intro x; kernel_rfl
theorem fun20_ok : FunAOk Tryd.prog glob 20 (fun20 unicode_utf8_AppendRune) :=
  funA_ok (C := (.sc (.int .u8))) (pa := pa20) (pr := pr20) unicode_utf8_AppendRune (env20 unicode_utf8_appendRuneNonASCII) Tryd.func20 (by kernel_rfl) (fun X hP hG => env20_ok hP hG) (fun X w0 hP hG => loopsOk_of [] (by kernel_rfl) trivial) (ev20 unicode_utf8_appendRuneNonASCII )
/-! muniment/munimentref03.Fold -/
abbrev pa15 : List DP := [.sc .str]
abbrev pr15 : RP := (.tup [.sc .str, .sc (.int .i64), .sc (.int .i64)])
def fun15 (f : dpα pa15 → Option pr15.α) : Fun := mkFun pa15 pr15 f
abbrev pi15_0 : List IP := [.junk, .junk, .junk, .junk, .junk, .own (.strc [(.int .i32), (.int .i64), .bool]), .own (.sc (.int .u8)), .sc (.int .i64), .junk, .junk, .junk, .junk, .junk, .junk, .junk, .junk, .junk, .junk, .junk, .junk, .junk, .junk, .junk, .junk, .junk, .junk, .junk, .junk, .junk, .junk, .junk, .junk, .junk, .junk, .junk, .junk, .junk, .junk, .junk, .junk, .junk, .junk, .junk, .junk, .junk, .junk, .junk, .junk, .junk, .junk, .junk, .junk, .junk, .junk, .junk, .junk, .junk, .junk, .junk, .junk, .junk, .junk, .junk, .junk, .junk, .junk, .junk, .junk, .junk, .junk]
abbrev px15_0 : List IP := [.junk, .junk, .junk, .junk, .junk, .own (.strc [(.int .i32), (.int .i64), .bool]), .own (.sc (.int .u8)), .junk, .junk, .junk, .junk, .junk, .junk, .junk, .junk, .junk, .junk, .junk, .junk, .junk, .junk, .junk, .junk, .junk, .junk, .junk, .junk, .junk, .junk, .junk, .junk, .junk, .junk, .junk, .junk, .junk, .junk, .junk, .junk, .junk, .junk, .junk, .junk, .junk, .junk, .junk, .junk, .junk, .junk, .junk, .junk, .junk, .junk, .junk, .junk, .junk, .junk, .junk, .junk, .junk, .junk, .junk, .junk, .junk, .junk, .junk, .junk, .junk, .junk, .junk]
def gam15 (f13 : dpα pa13 → Option pr13.α) (f19 : dpα pa19 → Option pr19.α) (f20 : List (Cod.α (.sc (.int .u8))) × dpα pa20 → Option pr20.α) (f21 : dpα pa21 → Option pr21.α) : List (Nat × Fun) := [(13, fun13 f13), (19, fun19 f19), (21, fun21 f21)]
def agam15 (f13 : dpα pa13 → Option pr13.α) (f19 : dpα pa19 → Option pr19.α) (f20 : List (Cod.α (.sc (.int .u8))) × dpα pa20 → Option pr20.α) (f21 : dpα pa21 → Option pr21.α) : List (Nat × FunA) := [(20, fun20 f20)]
def rgam15 (f13 : dpα pa13 → Option pr13.α) (f19 : dpα pa19 → Option pr19.α) (f20 : List (Cod.α (.sc (.int .u8))) × dpα pa20 → Option pr20.α) (f21 : dpα pa21 → Option pr21.α) : List (Nat × FunR) := []
def lam15 (l0 : ipα pi15_0 → (ipα px15_0 → Option pr15.α) → Option pr15.α) : List (Nat × LoopC pr15.α) := [(0, mkLoop pi15_0 px15_0 l0)]
def env15 (f13 : dpα pa13 → Option pr13.α) (f19 : dpα pa19 → Option pr19.α) (f20 : List (Cod.α (.sc (.int .u8))) × dpα pa20 → Option pr20.α) (f21 : dpα pa21 → Option pr21.α) (l0 : ipα pi15_0 → (ipα px15_0 → Option pr15.α) → Option pr15.α) : Env pr15.α := mkEnv pr15.α tyT (gam15 f13 f19 f20 f21) (rgam15 f13 f19 f20 f21) (agam15 f13 f19 f20 f21) glob (lam15 l0)
theorem env15_ok {X : Cx} (hP : X.P = Tryd.prog) (hG : X.G = glob) : EnvOk X (env15 r03_Chars r03_named unicode_utf8_AppendRune r03_small r03_Fold.l0) := envOk_of hP hG mixed_ok tyT_ok ⟨⟨fun13_ok, _, Tryd.func13, by kernel_rfl, by kernel_rfl⟩, ⟨fun19_ok, _, Tryd.func19, by kernel_rfl, by kernel_rfl⟩, ⟨fun21_ok, _, Tryd.func21, by kernel_rfl, by kernel_rfl⟩, trivial⟩ trivial ⟨⟨fun20_ok, _, Tryd.func20, by kernel_rfl, by kernel_rfl⟩, trivial⟩
theorem st15_0 (f13 : dpα pa13 → Option pr13.α) (f19 : dpα pa19 → Option pr19.α) (f20 : List (Cod.α (.sc (.int .u8))) × dpα pa20 → Option pr20.α) (f21 : dpα pa21 → Option pr21.α) (l0 : ipα pi15_0 → (ipα px15_0 → Option pr15.α) → Option pr15.α) : ∀ s kx κ, r03_Fold.s0b f19 f20 f21 kx s κ = ev (env15 f13 f19 f20 f21 l0) (innerOf 0 (bodyOf Tryd.f15)) (ipInj pi15_0 s) (roundK pi15_0 px15_0 0 (endK (env15 f13 f19 f20 f21 l0) Tryd.f15.results.toList pr15 .ret) kx κ) := by
  intro s kx κ; kernel_rfl
theorem lo15_0 {X : Cx} {w0 : World} (hP : X.P = Tryd.prog) (hG : X.G = glob) : LoopOk X w0 (mkLoop pi15_0 px15_0 r03_Fold.l0) (.loop (innerOf 0 (bodyOf Tryd.f15))) 0 (endK (env15 r03_Chars r03_named unicode_utf8_AppendRune r03_small r03_Fold.l0) Tryd.f15.results.toList pr15 .ret) :=
  loop_ok (env15_ok hP hG) (by kernel_rfl) (by kernel_rfl) r03_Fold.s0 r03_Fold.n0 (fun _ _ => rfl) (loopsOk_of [] (by kernel_rfl) trivial) (st15_0 r03_Chars r03_named unicode_utf8_AppendRune r03_small r03_Fold.l0 )
theorem ev15 (f13 : dpα pa13 → Option pr13.α) (f19 : dpα pa19 → Option pr19.α) (f20 : List (Cod.α (.sc (.int .u8))) × dpα pa20 → Option pr20.α) (f21 : dpα pa21 → Option pr21.α) (l0 : ipα pi15_0 → (ipα px15_0 → Option pr15.α) → Option pr15.α) : ∀ x, r03_Fold.b f13 l0 x = ev (env15 f13 f19 f20 f21 l0) (bodyOf Tryd.f15) (start pa15 (Tryd.f15.ntmps - pa15.length) x) (endK (env15 f13 f19 f20 f21 l0) Tryd.f15.results.toList pr15) := by
  intro x; kernel_rfl
theorem fun15_ok : FunOk Tryd.prog glob 15 (fun15 r03_Fold) :=
  fun_ok (pa := pa15) (pr := pr15) r03_Fold (env15 r03_Chars r03_named unicode_utf8_AppendRune r03_small r03_Fold.l0) Tryd.func15 (by kernel_rfl) (fun X hP hG => env15_ok hP hG) (fun X w0 hP hG => loopsOk_of [(0, .loop (innerOf 0 (bodyOf Tryd.f15)))] (by kernel_rfl) ⟨⟨_, by kernel_rfl, lo15_0 hP hG⟩, trivial⟩) (ev15 r03_Chars r03_named unicode_utf8_AppendRune r03_small r03_Fold.l0 )
/-! muniment/munimentlaw03.NamingFolds -/
abbrev pa8 : List DP := [.sc .str]
abbrev pr8 : RP := (.one (.sc .bool))
def fun8 (f : dpα pa8 → Option pr8.α) : Fun := mkFun pa8 pr8 f
def gam8 (f9 : dpα pa9 → Option pr9.α) (f10 : dpα pa10 → Option pr10.α) (f15 : dpα pa15 → Option pr15.α) : List (Nat × Fun) := [(9, fun9 f9), (10, fun10 f10), (15, fun15 f15)]
def agam8 (f9 : dpα pa9 → Option pr9.α) (f10 : dpα pa10 → Option pr10.α) (f15 : dpα pa15 → Option pr15.α) : List (Nat × FunA) := []
def rgam8 (f9 : dpα pa9 → Option pr9.α) (f10 : dpα pa10 → Option pr10.α) (f15 : dpα pa15 → Option pr15.α) : List (Nat × FunR) := []
def lam8 : List (Nat × LoopC pr8.α) := []
def env8 (f9 : dpα pa9 → Option pr9.α) (f10 : dpα pa10 → Option pr10.α) (f15 : dpα pa15 → Option pr15.α) : Env pr8.α := mkEnv pr8.α tyT (gam8 f9 f10 f15) (rgam8 f9 f10 f15) (agam8 f9 f10 f15) glob lam8
theorem env8_ok {X : Cx} (hP : X.P = Tryd.prog) (hG : X.G = glob) : EnvOk X (env8 w03_awake naming_Fold r03_Fold) := envOk_of hP hG mixed_ok tyT_ok ⟨⟨fun9_ok, _, Tryd.func9, by kernel_rfl, by kernel_rfl⟩, ⟨fun10_ok, _, Tryd.func10, by kernel_rfl, by kernel_rfl⟩, ⟨fun15_ok, _, Tryd.func15, by kernel_rfl, by kernel_rfl⟩, trivial⟩ trivial trivial
theorem ev8 (f9 : dpα pa9 → Option pr9.α) (f10 : dpα pa10 → Option pr10.α) (f15 : dpα pa15 → Option pr15.α) : ∀ x, w03_NamingFolds.b f9 f10 f15 x = ev (env8 f9 f10 f15) (bodyOf Tryd.f8) (start pa8 (Tryd.f8.ntmps - pa8.length) x) (endK (env8 f9 f10 f15) Tryd.f8.results.toList pr8) := by
  intro x; kernel_rfl
theorem fun8_ok : FunOk Tryd.prog glob 8 (fun8 w03_NamingFolds) :=
  fun_ok (pa := pa8) (pr := pr8) w03_NamingFolds (env8 w03_awake naming_Fold r03_Fold) Tryd.func8 (by kernel_rfl) (fun X hP hG => env8_ok hP hG) (fun X w0 hP hG => loopsOk_of [] (by kernel_rfl) trivial) (ev8 w03_awake naming_Fold r03_Fold )
end Go.Px.nam2
