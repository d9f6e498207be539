import Derived.Test.YtoneacebiaekkaaShoct
import Derived.Test.YtoneacebiaekkaaPx16
import Derived.Test.YtoneacebiaekkaaProg
import Derived.KernelRfl
set_option linter.unusedVariables false
set_option linter.unusedSimpArgs false
set_option maxRecDepth 100000
namespace Go.Px.oct
open Go Go.Proofs Go.Px
def glob : Nat → Option (List Seg) := fun _ => none
theorem glob_ok {P : Program} {B : Nat} {w : World} : GOk ⟨P, B, glob⟩ w := fun g ss h => by cases h
def tyT : List (Nat × TI) := [(2, .sc (.int .i64) 8),
  (3, .sc (.int .i64) 8),
  (4, .sc .bool 1),
  (5, .sc (.int .u8) 1),
  (9, .sc .str 16),
  (22, .sl 5),
  (28, .sc (.int .u16) 2),
  (29, .sc (.int .u32) 4),
  (32, .sl 9),
  (37, .sc (.int .i64) 8),
  (41, .sc (.int .u64) 8),
  (55, .sl 2),
  (58, .ar (.sc (.int .u8)) 8 5 8)]
theorem tyT_ok : AllP (fun x => TOk Try.prog x.1 x.2) tyT := ⟨tok_sc (.int .i64) 8 (by kernel_rfl) (by kernel_rfl),
  tok_sc (.int .i64) 8 (by kernel_rfl) (by kernel_rfl),
  tok_sc .bool 1 (by kernel_rfl) (by kernel_rfl),
  tok_sc (.int .u8) 1 (by kernel_rfl) (by kernel_rfl),
  tok_sc .str 16 (by kernel_rfl) (by kernel_rfl),
  tok_sl 5 (by kernel_rfl) (by kernel_rfl),
  tok_sc (.int .u16) 2 (by kernel_rfl) (by kernel_rfl),
  tok_sc (.int .u32) 4 (by kernel_rfl) (by kernel_rfl),
  tok_sl 9 (by kernel_rfl) (by kernel_rfl),
  tok_sc (.int .i64) 8 (by kernel_rfl) (by kernel_rfl),
  tok_sc (.int .u64) 8 (by kernel_rfl) (by kernel_rfl),
  tok_sl 2 (by kernel_rfl) (by kernel_rfl),
  tok_ar (C := (.sc (.int .u8))) (n := 8) (e := 5) (b := 8) (by kernel_rfl) (by kernel_rfl), trivial⟩
theorem mixed_ok : Try.prog.follows .mixedOrders = true := by kernel_rfl
/-! muniment/octet.Above -/
abbrev pa12 : List DP := [.own (.sc (.int .u8))]
abbrev pr12 : RP := (.tup [.own (.sc (.int .u8)), .sc .bool])
def fun12 (f : dpα pa12 → Option pr12.α) : Fun := mkFun pa12 pr12 f
abbrev pi12_0 : List IP := [.ros (.sc (.int .u8)), .junk, .junk, .junk, .sc (.int .i64), .junk, .junk, .junk, .junk, .junk, .junk, .junk, .junk, .junk, .junk, .junk, .junk, .junk, .junk, .junk, .junk, .junk, .junk, .junk, .junk, .junk, .junk, .junk, .junk, .junk, .junk, .junk, .junk, .junk]
abbrev px12_0 : List IP := [.ros (.sc (.int .u8)), .junk, .junk, .junk, .sc (.int .i64), .junk, .junk, .junk, .junk, .junk, .junk, .junk, .junk, .junk, .junk, .junk, .junk, .junk, .junk, .junk, .junk, .junk, .junk, .junk, .junk, .junk, .junk, .junk, .junk, .junk, .junk, .junk, .junk, .junk]
def gam12 : List (Nat × Fun) := []
def lam12 (l0 : ipα pi12_0 → (ipα px12_0 → Option pr12.α) → Option pr12.α) : List (Nat × LoopC pr12.α) := [(0, mkLoop pi12_0 px12_0 l0)]
def env12 (l0 : ipα pi12_0 → (ipα px12_0 → Option pr12.α) → Option pr12.α) : Env pr12.α := mkEnv pr12.α tyT gam12 glob (lam12 l0)
theorem env12_ok {X : Cx} (hP : X.P = Try.prog) (hG : X.G = glob) : EnvOk X (env12 octet_Above.l0) := envOk_of hP hG mixed_ok tyT_ok trivial
theorem st12_0 (l0 : ipα pi12_0 → (ipα px12_0 → Option pr12.α) → Option pr12.α) : ∀ s kx κ, octet_Above.s0b kx s κ = ev (env12 l0) (innerOf 0 (bodyOf Try.f12)) (ipInj pi12_0 s) (roundK pi12_0 px12_0 0 (endK (env12 l0) Try.f12.results.toList pr12 .ret) kx κ) := by
  intro s kx κ; kernel_rfl
theorem lo12_0 {X : Cx} {w0 : World} (hP : X.P = Try.prog) (hG : X.G = glob) : LoopOk X w0 (mkLoop pi12_0 px12_0 octet_Above.l0) (.loop (innerOf 0 (bodyOf Try.f12))) 0 (endK (env12 octet_Above.l0) Try.f12.results.toList pr12 .ret) :=
  loop_ok (env12_ok hP hG) (by kernel_rfl) (by kernel_rfl) octet_Above.s0 octet_Above.n0 (fun _ _ => rfl) (loopsOk_of [] (by kernel_rfl) trivial) (st12_0 octet_Above.l0 )
theorem ev12 (l0 : ipα pi12_0 → (ipα px12_0 → Option pr12.α) → Option pr12.α) : ∀ x, octet_Above.b l0 x = ev (env12 l0) (bodyOf Try.f12) (start pa12 (Try.f12.ntmps - pa12.length) x) (endK (env12 l0) Try.f12.results.toList pr12) := by
  intro x; kernel_rfl
theorem fun12_ok : FunOk Try.prog glob 12 (fun12 octet_Above) :=
  fun_ok (pa := pa12) (pr := pr12) octet_Above (env12 octet_Above.l0) Try.func12 (by kernel_rfl) (fun X hP hG => env12_ok hP hG) (fun X w0 hP hG => loopsOk_of [(0, .loop (innerOf 0 (bodyOf Try.f12)))] (by kernel_rfl) ⟨⟨_, by kernel_rfl, lo12_0 hP hG⟩, trivial⟩) (ev12 octet_Above.l0 )
/-! muniment/octet.Sum -/
abbrev pa14 : List DP := [.own (.sc (.int .u8))]
abbrev pr14 : RP := (.one (.sc (.int .u32)))
def fun14 (f : dpα pa14 → Option pr14.α) : Fun := mkFun pa14 pr14 f
abbrev pi14_2 : List IP := [.junk, .junk, .junk, .sc (.int .u32), .junk, .junk, .ros (.sc (.int .u8)), .sc (.int .i64), .sc (.int .i64), .junk, .junk, .junk, .junk, .junk, .junk, .junk, .sc (.int .i64), .junk, .junk, .junk, .junk, .junk, .junk, .junk, .junk, .junk, .junk, .junk, .junk]
abbrev px14_2 : List IP := [.junk, .junk, .junk, .sc (.int .u32), .junk, .junk, .ros (.sc (.int .u8)), .sc (.int .i64), .sc (.int .i64), .junk, .junk, .junk, .junk, .junk, .junk, .junk, .junk, .junk, .junk, .junk, .junk, .junk, .junk, .junk, .junk, .junk, .junk, .junk, .junk]
abbrev pi14_0 : List IP := [.junk, .junk, .junk, .sc (.int .u32), .junk, .junk, .ros (.sc (.int .u8)), .sc (.int .i64), .sc (.int .i64), .junk, .junk, .junk, .junk, .junk, .junk, .junk, .junk, .junk, .junk, .junk, .junk, .junk, .junk, .junk, .junk, .junk, .junk, .junk, .junk]
abbrev px14_0 : List IP := [.junk, .junk, .junk, .sc (.int .u32), .junk, .junk, .junk, .junk, .junk, .junk, .junk, .junk, .junk, .junk, .junk, .junk, .junk, .junk, .junk, .junk, .junk, .junk, .junk, .junk, .junk, .junk, .junk, .junk, .junk]
def gam14 : List (Nat × Fun) := []
def lam14 (l2 : ipα pi14_2 → (ipα px14_2 → Option pr14.α) → Option pr14.α) (l0 : ipα pi14_0 → (ipα px14_0 → Option pr14.α) → Option pr14.α) : List (Nat × LoopC pr14.α) := [(2, mkLoop pi14_2 px14_2 l2), (0, mkLoop pi14_0 px14_0 l0)]
def env14 (l2 : ipα pi14_2 → (ipα px14_2 → Option pr14.α) → Option pr14.α) (l0 : ipα pi14_0 → (ipα px14_0 → Option pr14.α) → Option pr14.α) : Env pr14.α := mkEnv pr14.α tyT gam14 glob (lam14 l2 l0)
theorem env14_ok {X : Cx} (hP : X.P = Try.prog) (hG : X.G = glob) : EnvOk X (env14 octet_Sum.l2 octet_Sum.l0) := envOk_of hP hG mixed_ok tyT_ok trivial
theorem st14_2 (l2 : ipα pi14_2 → (ipα px14_2 → Option pr14.α) → Option pr14.α) (l0 : ipα pi14_0 → (ipα px14_0 → Option pr14.α) → Option pr14.α) : ∀ s kx κ, octet_Sum.s2b kx s κ = ev (env14 l2 l0) (innerOf 2 (bodyOf Try.f14)) (ipInj pi14_2 s) (roundK pi14_2 px14_2 2 (endK (env14 l2 l0) Try.f14.results.toList pr14 .ret) kx κ) := by
  intro s kx κ; kernel_rfl
theorem lo14_2 {X : Cx} {w0 : World} (hP : X.P = Try.prog) (hG : X.G = glob) : LoopOk X w0 (mkLoop pi14_2 px14_2 octet_Sum.l2) (.loop (innerOf 2 (bodyOf Try.f14))) 2 (endK (env14 octet_Sum.l2 octet_Sum.l0) Try.f14.results.toList pr14 .ret) :=
  loop_ok (env14_ok hP hG) (by kernel_rfl) (by kernel_rfl) octet_Sum.s2 octet_Sum.n2 (fun _ _ => rfl) (loopsOk_of [] (by kernel_rfl) trivial) (st14_2 octet_Sum.l2 octet_Sum.l0 )
theorem st14_0 (l2 : ipα pi14_2 → (ipα px14_2 → Option pr14.α) → Option pr14.α) (l0 : ipα pi14_0 → (ipα px14_0 → Option pr14.α) → Option pr14.α) : ∀ s kx κ, octet_Sum.s0b l2 kx s κ = ev (env14 l2 l0) (innerOf 0 (bodyOf Try.f14)) (ipInj pi14_0 s) (roundK pi14_0 px14_0 0 (endK (env14 l2 l0) Try.f14.results.toList pr14 .ret) kx κ) := by
  intro s kx κ; kernel_rfl
theorem lo14_0 {X : Cx} {w0 : World} (hP : X.P = Try.prog) (hG : X.G = glob) : LoopOk X w0 (mkLoop pi14_0 px14_0 octet_Sum.l0) (.loop (innerOf 0 (bodyOf Try.f14))) 0 (endK (env14 octet_Sum.l2 octet_Sum.l0) Try.f14.results.toList pr14 .ret) :=
  loop_ok (env14_ok hP hG) (by kernel_rfl) (by kernel_rfl) octet_Sum.s0 octet_Sum.n0 (fun _ _ => rfl) (loopsOk_of [(2, .loop (innerOf 2 (bodyOf Try.f14)))] (by kernel_rfl) ⟨⟨_, by kernel_rfl, lo14_2 hP hG⟩, trivial⟩) (st14_0 octet_Sum.l2 octet_Sum.l0 )
theorem ev14 (l2 : ipα pi14_2 → (ipα px14_2 → Option pr14.α) → Option pr14.α) (l0 : ipα pi14_0 → (ipα px14_0 → Option pr14.α) → Option pr14.α) : ∀ x, octet_Sum.b l0 x = ev (env14 l2 l0) (bodyOf Try.f14) (start pa14 (Try.f14.ntmps - pa14.length) x) (endK (env14 l2 l0) Try.f14.results.toList pr14) := by
  intro x; kernel_rfl
theorem fun14_ok : FunOk Try.prog glob 14 (fun14 octet_Sum) :=
  fun_ok (pa := pa14) (pr := pr14) octet_Sum (env14 octet_Sum.l2 octet_Sum.l0) Try.func14 (by kernel_rfl) (fun X hP hG => env14_ok hP hG) (fun X w0 hP hG => loopsOk_of [(0, .loop (innerOf 0 (bodyOf Try.f14)))] (by kernel_rfl) ⟨⟨_, by kernel_rfl, lo14_0 hP hG⟩, trivial⟩) (ev14 octet_Sum.l2 octet_Sum.l0 )
/-! muniment/octet.Text -/
abbrev pa16 : List DP := [.sc .str]
abbrev pr16 : RP := (.one (.own (.sc (.int .u8))))
def fun16 (f : dpα pa16 → Option pr16.α) : Fun := mkFun pa16 pr16 f
abbrev pi16_0 : List IP := [.sc .str, .junk, .junk, .own (.sc (.int .u8)), .junk, .junk, .sc (.int .i64), .sc (.int .i64), .junk, .junk, .junk, .junk, .junk, .junk, .junk, .junk, .junk, .junk, .junk, .junk, .junk, .junk, .junk, .junk, .junk, .junk, .junk]
abbrev px16_0 : List IP := [.junk, .junk, .junk, .own (.sc (.int .u8)), .junk, .junk, .junk, .junk, .junk, .junk, .junk, .junk, .junk, .junk, .junk, .junk, .junk, .junk, .junk, .junk, .junk, .junk, .junk, .junk, .junk, .junk, .junk]
def gam16 : List (Nat × Fun) := []
def lam16 (l0 : ipα pi16_0 → (ipα px16_0 → Option pr16.α) → Option pr16.α) : List (Nat × LoopC pr16.α) := [(0, mkLoop pi16_0 px16_0 l0)]
def env16 (l0 : ipα pi16_0 → (ipα px16_0 → Option pr16.α) → Option pr16.α) : Env pr16.α := mkEnv pr16.α tyT gam16 glob (lam16 l0)
theorem env16_ok {X : Cx} (hP : X.P = Try.prog) (hG : X.G = glob) : EnvOk X (env16 octet_Text.l0) := envOk_of hP hG mixed_ok tyT_ok trivial
theorem st16_0 (l0 : ipα pi16_0 → (ipα px16_0 → Option pr16.α) → Option pr16.α) : ∀ s kx κ, octet_Text.s0b kx s κ = ev (env16 l0) (innerOf 0 (bodyOf Try.f16)) (ipInj pi16_0 s) (roundK pi16_0 px16_0 0 (endK (env16 l0) Try.f16.results.toList pr16 .ret) kx κ) := by
  intro s kx κ; kernel_rfl
theorem lo16_0 {X : Cx} {w0 : World} (hP : X.P = Try.prog) (hG : X.G = glob) : LoopOk X w0 (mkLoop pi16_0 px16_0 octet_Text.l0) (.loop (innerOf 0 (bodyOf Try.f16))) 0 (endK (env16 octet_Text.l0) Try.f16.results.toList pr16 .ret) :=
  loop_ok (env16_ok hP hG) (by kernel_rfl) (by kernel_rfl) octet_Text.s0 octet_Text.n0 (fun _ _ => rfl) (loopsOk_of [] (by kernel_rfl) trivial) (st16_0 octet_Text.l0 )
theorem ev16 (l0 : ipα pi16_0 → (ipα px16_0 → Option pr16.α) → Option pr16.α) : ∀ x, octet_Text.b l0 x = ev (env16 l0) (bodyOf Try.f16) (start pa16 (Try.f16.ntmps - pa16.length) x) (endK (env16 l0) Try.f16.results.toList pr16) := by
  intro x; kernel_rfl
theorem fun16_ok : FunOk Try.prog glob 16 (fun16 octet_Text) :=
  fun_ok (pa := pa16) (pr := pr16) octet_Text (env16 octet_Text.l0) Try.func16 (by kernel_rfl) (fun X hP hG => env16_ok hP hG) (fun X w0 hP hG => loopsOk_of [(0, .loop (innerOf 0 (bodyOf Try.f16)))] (by kernel_rfl) ⟨⟨_, by kernel_rfl, lo16_0 hP hG⟩, trivial⟩) (ev16 octet_Text.l0 )
/-! muniment/munimentlaw02.awake -/
abbrev pa11 : List DP := []
abbrev pr11 : RP := (.one (.sc .bool))
def fun11 (f : dpα pa11 → Option pr11.α) : Fun := mkFun pa11 pr11 f
def gam11 (f12 : dpα pa12 → Option pr12.α) (f14 : dpα pa14 → Option pr14.α) (f16 : dpα pa16 → Option pr16.α) : List (Nat × Fun) := [(12, fun12 f12), (14, fun14 f14), (16, fun16 f16)]
def lam11 : List (Nat × LoopC pr11.α) := []
def env11 (f12 : dpα pa12 → Option pr12.α) (f14 : dpα pa14 → Option pr14.α) (f16 : dpα pa16 → Option pr16.α) : Env pr11.α := mkEnv pr11.α tyT (gam11 f12 f14 f16) glob lam11
theorem env11_ok {X : Cx} (hP : X.P = Try.prog) (hG : X.G = glob) : EnvOk X (env11 octet_Above octet_Sum octet_Text) := envOk_of hP hG mixed_ok tyT_ok ⟨⟨fun12_ok, _, Try.func12, by kernel_rfl, by kernel_rfl⟩, ⟨fun14_ok, _, Try.func14, by kernel_rfl, by kernel_rfl⟩, ⟨fun16_ok, _, Try.func16, by kernel_rfl, by kernel_rfl⟩, trivial⟩
theorem ev11 (f12 : dpα pa12 → Option pr12.α) (f14 : dpα pa14 → Option pr14.α) (f16 : dpα pa16 → Option pr16.α) : ∀ x, w02_awake.b f12 f14 f16 x = ev (env11 f12 f14 f16) (bodyOf Try.f11) (start pa11 (Try.f11.ntmps - pa11.length) x) (endK (env11 f12 f14 f16) Try.f11.results.toList pr11) := by
  intro x; kernel_rfl
theorem fun11_ok : FunOk Try.prog glob 11 (fun11 w02_awake) :=
  fun_ok (pa := pa11) (pr := pr11) w02_awake (env11 octet_Above octet_Sum octet_Text) Try.func11 (by kernel_rfl) (fun X hP hG => env11_ok hP hG) (fun X w0 hP hG => loopsOk_of [] (by kernel_rfl) trivial) (ev11 octet_Above octet_Sum octet_Text )
/-! muniment/munimentref02.Above -/
abbrev pa13 : List DP := [.own (.sc (.int .u8))]
abbrev pr13 : RP := (.one (.own (.sc (.int .u8))))
def fun13 (f : dpα pa13 → Option pr13.α) : Fun := mkFun pa13 pr13 f
abbrev pi13_0 : List IP := [.ros (.sc (.int .u8)), .junk, .junk, .sc (.int .i64), .junk, .junk, .junk, .junk, .junk, .junk, .junk, .junk, .junk, .junk, .junk, .junk, .junk, .junk, .junk, .junk, .junk, .junk, .junk, .junk, .junk, .junk, .junk, .junk, .junk, .junk]
abbrev px13_0 : List IP := [.junk, .junk, .junk, .junk, .junk, .junk, .junk, .junk, .junk, .junk, .junk, .junk, .junk, .junk, .junk, .junk, .junk, .junk, .junk, .junk, .junk, .junk, .junk, .junk, .junk, .junk, .junk, .junk, .junk, .junk]
def gam13 : List (Nat × Fun) := []
def lam13 (l0 : ipα pi13_0 → (ipα px13_0 → Option pr13.α) → Option pr13.α) : List (Nat × LoopC pr13.α) := [(0, mkLoop pi13_0 px13_0 l0)]
def env13 (l0 : ipα pi13_0 → (ipα px13_0 → Option pr13.α) → Option pr13.α) : Env pr13.α := mkEnv pr13.α tyT gam13 glob (lam13 l0)
theorem env13_ok {X : Cx} (hP : X.P = Try.prog) (hG : X.G = glob) : EnvOk X (env13 r02_Above.l0) := envOk_of hP hG mixed_ok tyT_ok trivial
theorem st13_0 (l0 : ipα pi13_0 → (ipα px13_0 → Option pr13.α) → Option pr13.α) : ∀ s kx κ, r02_Above.s0b kx s κ = ev (env13 l0) (innerOf 0 (bodyOf Try.f13)) (ipInj pi13_0 s) (roundK pi13_0 px13_0 0 (endK (env13 l0) Try.f13.results.toList pr13 .ret) kx κ) := by
  intro s kx κ; kernel_rfl
theorem lo13_0 {X : Cx} {w0 : World} (hP : X.P = Try.prog) (hG : X.G = glob) : LoopOk X w0 (mkLoop pi13_0 px13_0 r02_Above.l0) (.loop (innerOf 0 (bodyOf Try.f13))) 0 (endK (env13 r02_Above.l0) Try.f13.results.toList pr13 .ret) :=
  loop_ok (env13_ok hP hG) (by kernel_rfl) (by kernel_rfl) r02_Above.s0 r02_Above.n0 (fun _ _ => rfl) (loopsOk_of [] (by kernel_rfl) trivial) (st13_0 r02_Above.l0 )
theorem ev13 (l0 : ipα pi13_0 → (ipα px13_0 → Option pr13.α) → Option pr13.α) : ∀ x, r02_Above.b l0 x = ev (env13 l0) (bodyOf Try.f13) (start pa13 (Try.f13.ntmps - pa13.length) x) (endK (env13 l0) Try.f13.results.toList pr13) := by
  intro x; kernel_rfl
theorem fun13_ok : FunOk Try.prog glob 13 (fun13 r02_Above) :=
  fun_ok (pa := pa13) (pr := pr13) r02_Above (env13 r02_Above.l0) Try.func13 (by kernel_rfl) (fun X hP hG => env13_ok hP hG) (fun X w0 hP hG => loopsOk_of [(0, .loop (innerOf 0 (bodyOf Try.f13)))] (by kernel_rfl) ⟨⟨_, by kernel_rfl, lo13_0 hP hG⟩, trivial⟩) (ev13 r02_Above.l0 )
/-! muniment/munimentlaw02.OctetAbove -/
abbrev pa3 : List DP := [.own (.sc (.int .u8)), .own (.sc (.int .u8)), .own (.sc (.int .u8))]
abbrev pr3 : RP := (.one (.sc .bool))
def fun3 (f : dpα pa3 → Option pr3.α) : Fun := mkFun pa3 pr3 f
def gam3 (f11 : dpα pa11 → Option pr11.α) (f12 : dpα pa12 → Option pr12.α) (f13 : dpα pa13 → Option pr13.α) : List (Nat × Fun) := [(11, fun11 f11), (12, fun12 f12), (13, fun13 f13)]
def lam3 : List (Nat × LoopC pr3.α) := []
def env3 (f11 : dpα pa11 → Option pr11.α) (f12 : dpα pa12 → Option pr12.α) (f13 : dpα pa13 → Option pr13.α) : Env pr3.α := mkEnv pr3.α tyT (gam3 f11 f12 f13) glob lam3
theorem env3_ok {X : Cx} (hP : X.P = Try.prog) (hG : X.G = glob) : EnvOk X (env3 w02_awake octet_Above r02_Above) := envOk_of hP hG mixed_ok tyT_ok ⟨⟨fun11_ok, _, Try.func11, by kernel_rfl, by kernel_rfl⟩, ⟨fun12_ok, _, Try.func12, by kernel_rfl, by kernel_rfl⟩, ⟨fun13_ok, _, Try.func13, by kernel_rfl, by kernel_rfl⟩, trivial⟩
theorem ev3 (f11 : dpα pa11 → Option pr11.α) (f12 : dpα pa12 → Option pr12.α) (f13 : dpα pa13 → Option pr13.α) : ∀ x, w02_OctetAbove.b f11 f12 f13 x = ev (env3 f11 f12 f13) (bodyOf Try.f3) (start pa3 (Try.f3.ntmps - pa3.length) x) (endK (env3 f11 f12 f13) Try.f3.results.toList pr3) := by
  intro x; kernel_rfl
theorem fun3_ok : FunOk Try.prog glob 3 (fun3 w02_OctetAbove) :=
  fun_ok (pa := pa3) (pr := pr3) w02_OctetAbove (env3 w02_awake octet_Above r02_Above) Try.func3 (by kernel_rfl) (fun X hP hG => env3_ok hP hG) (fun X w0 hP hG => loopsOk_of [] (by kernel_rfl) trivial) (ev3 w02_awake octet_Above r02_Above )
/-! muniment/munimentref02.Sum -/
abbrev pa15 : List DP := [.own (.sc (.int .u8))]
abbrev pr15 : RP := (.one (.sc (.int .u32)))
def fun15 (f : dpα pa15 → Option pr15.α) : Fun := mkFun pa15 pr15 f
abbrev pi15_2 : List IP := [.ros (.sc (.int .u8)), .junk, .junk, .sc (.int .u32), .sc (.int .i64), .sc (.int .i64), .junk, .junk, .junk, .junk, .junk, .junk, .junk, .junk, .junk, .junk, .junk, .junk, .junk, .junk, .junk, .junk, .junk, .junk, .junk, .junk, .junk, .junk, .junk, .junk, .junk, .junk, .junk, .junk, .junk, .junk]
abbrev px15_2 : List IP := [.ros (.sc (.int .u8)), .junk, .junk, .sc (.int .u32), .sc (.int .i64), .junk, .junk, .junk, .junk, .junk, .junk, .junk, .junk, .junk, .junk, .junk, .junk, .junk, .junk, .junk, .junk, .junk, .junk, .junk, .junk, .junk, .junk, .junk, .junk, .junk, .junk, .junk, .junk, .junk, .junk, .junk]
abbrev pi15_0 : List IP := [.ros (.sc (.int .u8)), .junk, .junk, .sc (.int .u32), .sc (.int .i64), .junk, .junk, .junk, .junk, .junk, .junk, .junk, .junk, .junk, .junk, .junk, .junk, .junk, .junk, .junk, .junk, .junk, .junk, .junk, .junk, .junk, .junk, .junk, .junk, .junk, .junk, .junk, .junk, .junk, .junk, .junk]
abbrev px15_0 : List IP := [.junk, .junk, .junk, .sc (.int .u32), .junk, .junk, .junk, .junk, .junk, .junk, .junk, .junk, .junk, .junk, .junk, .junk, .junk, .junk, .junk, .junk, .junk, .junk, .junk, .junk, .junk, .junk, .junk, .junk, .junk, .junk, .junk, .junk, .junk, .junk, .junk, .junk]
def gam15 : List (Nat × Fun) := []
def lam15 (l2 : ipα pi15_2 → (ipα px15_2 → Option pr15.α) → Option pr15.α) (l0 : ipα pi15_0 → (ipα px15_0 → Option pr15.α) → Option pr15.α) : List (Nat × LoopC pr15.α) := [(2, mkLoop pi15_2 px15_2 l2), (0, mkLoop pi15_0 px15_0 l0)]
def env15 (l2 : ipα pi15_2 → (ipα px15_2 → Option pr15.α) → Option pr15.α) (l0 : ipα pi15_0 → (ipα px15_0 → Option pr15.α) → Option pr15.α) : Env pr15.α := mkEnv pr15.α tyT gam15 glob (lam15 l2 l0)
theorem env15_ok {X : Cx} (hP : X.P = Try.prog) (hG : X.G = glob) : EnvOk X (env15 r02_Sum.l2 r02_Sum.l0) := envOk_of hP hG mixed_ok tyT_ok trivial
theorem st15_2 (l2 : ipα pi15_2 → (ipα px15_2 → Option pr15.α) → Option pr15.α) (l0 : ipα pi15_0 → (ipα px15_0 → Option pr15.α) → Option pr15.α) : ∀ s kx κ, r02_Sum.s2b kx s κ = ev (env15 l2 l0) (innerOf 2 (bodyOf Try.f15)) (ipInj pi15_2 s) (roundK pi15_2 px15_2 2 (endK (env15 l2 l0) Try.f15.results.toList pr15 .ret) kx κ) := by
  intro s kx κ; kernel_rfl
theorem lo15_2 {X : Cx} {w0 : World} (hP : X.P = Try.prog) (hG : X.G = glob) : LoopOk X w0 (mkLoop pi15_2 px15_2 r02_Sum.l2) (.loop (innerOf 2 (bodyOf Try.f15))) 2 (endK (env15 r02_Sum.l2 r02_Sum.l0) Try.f15.results.toList pr15 .ret) :=
  loop_ok (env15_ok hP hG) (by kernel_rfl) (by kernel_rfl) r02_Sum.s2 r02_Sum.n2 (fun _ _ => rfl) (loopsOk_of [] (by kernel_rfl) trivial) (st15_2 r02_Sum.l2 r02_Sum.l0 )
theorem st15_0 (l2 : ipα pi15_2 → (ipα px15_2 → Option pr15.α) → Option pr15.α) (l0 : ipα pi15_0 → (ipα px15_0 → Option pr15.α) → Option pr15.α) : ∀ s kx κ, r02_Sum.s0b l2 kx s κ = ev (env15 l2 l0) (innerOf 0 (bodyOf Try.f15)) (ipInj pi15_0 s) (roundK pi15_0 px15_0 0 (endK (env15 l2 l0) Try.f15.results.toList pr15 .ret) kx κ) := by
  intro s kx κ; kernel_rfl
theorem lo15_0 {X : Cx} {w0 : World} (hP : X.P = Try.prog) (hG : X.G = glob) : LoopOk X w0 (mkLoop pi15_0 px15_0 r02_Sum.l0) (.loop (innerOf 0 (bodyOf Try.f15))) 0 (endK (env15 r02_Sum.l2 r02_Sum.l0) Try.f15.results.toList pr15 .ret) :=
  loop_ok (env15_ok hP hG) (by kernel_rfl) (by kernel_rfl) r02_Sum.s0 r02_Sum.n0 (fun _ _ => rfl) (loopsOk_of [(2, .loop (innerOf 2 (bodyOf Try.f15)))] (by kernel_rfl) ⟨⟨_, by kernel_rfl, lo15_2 hP hG⟩, trivial⟩) (st15_0 r02_Sum.l2 r02_Sum.l0 )
theorem ev15 (l2 : ipα pi15_2 → (ipα px15_2 → Option pr15.α) → Option pr15.α) (l0 : ipα pi15_0 → (ipα px15_0 → Option pr15.α) → Option pr15.α) : ∀ x, r02_Sum.b l0 x = ev (env15 l2 l0) (bodyOf Try.f15) (start pa15 (Try.f15.ntmps - pa15.length) x) (endK (env15 l2 l0) Try.f15.results.toList pr15) := by
  intro x; kernel_rfl
theorem fun15_ok : FunOk Try.prog glob 15 (fun15 r02_Sum) :=
  fun_ok (pa := pa15) (pr := pr15) r02_Sum (env15 r02_Sum.l2 r02_Sum.l0) Try.func15 (by kernel_rfl) (fun X hP hG => env15_ok hP hG) (fun X w0 hP hG => loopsOk_of [(0, .loop (innerOf 0 (bodyOf Try.f15)))] (by kernel_rfl) ⟨⟨_, by kernel_rfl, lo15_0 hP hG⟩, trivial⟩) (ev15 r02_Sum.l2 r02_Sum.l0 )
/-! muniment/munimentlaw02.OctetSums -/
abbrev pa4 : List DP := [.own (.sc (.int .u8)), .sc (.int .u16), .sc (.int .u8)]
abbrev pr4 : RP := (.one (.sc .bool))
def fun4 (f : dpα pa4 → Option pr4.α) : Fun := mkFun pa4 pr4 f
def gam4 (f11 : dpα pa11 → Option pr11.α) (f14 : dpα pa14 → Option pr14.α) (f15 : dpα pa15 → Option pr15.α) : List (Nat × Fun) := [(11, fun11 f11), (14, fun14 f14), (15, fun15 f15)]
def lam4 : List (Nat × LoopC pr4.α) := []
def env4 (f11 : dpα pa11 → Option pr11.α) (f14 : dpα pa14 → Option pr14.α) (f15 : dpα pa15 → Option pr15.α) : Env pr4.α := mkEnv pr4.α tyT (gam4 f11 f14 f15) glob lam4
theorem env4_ok {X : Cx} (hP : X.P = Try.prog) (hG : X.G = glob) : EnvOk X (env4 w02_awake octet_Sum r02_Sum) := envOk_of hP hG mixed_ok tyT_ok ⟨⟨fun11_ok, _, Try.func11, by kernel_rfl, by kernel_rfl⟩, ⟨fun14_ok, _, Try.func14, by kernel_rfl, by kernel_rfl⟩, ⟨fun15_ok, _, Try.func15, by kernel_rfl, by kernel_rfl⟩, trivial⟩
theorem ev4 (f11 : dpα pa11 → Option pr11.α) (f14 : dpα pa14 → Option pr14.α) (f15 : dpα pa15 → Option pr15.α) : ∀ x, w02_OctetSums.b f11 f14 f15 x = ev (env4 f11 f14 f15) (bodyOf Try.f4) (start pa4 (Try.f4.ntmps - pa4.length) x) (endK (env4 f11 f14 f15) Try.f4.results.toList pr4) := by
  intro x; kernel_rfl
theorem fun4_ok : FunOk Try.prog glob 4 (fun4 w02_OctetSums) :=
  fun_ok (pa := pa4) (pr := pr4) w02_OctetSums (env4 w02_awake octet_Sum r02_Sum) Try.func4 (by kernel_rfl) (fun X hP hG => env4_ok hP hG) (fun X w0 hP hG => loopsOk_of [] (by kernel_rfl) trivial) (ev4 w02_awake octet_Sum r02_Sum )
/-! muniment/munimentlaw02.OctetLists -/
abbrev pa5 : List DP := [.own (.sc .str), .own (.sc .str)]
abbrev pr5 : RP := (.one (.sc .bool))
def fun5 (f : dpα pa5 → Option pr5.α) : Fun := mkFun pa5 pr5 f
abbrev pi5_0 : List IP := [.ros (.sc .str), .ros (.sc .str), .junk, .junk, .junk, .own (.sc (.int .u8)), .own (.sc (.int .u8)), .sc (.int .i64), .junk, .junk, .junk, .junk, .junk, .junk, .junk, .junk, .junk, .junk, .junk, .junk, .junk, .junk, .junk, .junk, .junk, .junk, .junk, .junk, .junk, .junk, .junk, .junk, .junk, .junk, .junk, .junk, .junk, .junk, .junk, .junk, .junk, .junk, .junk, .junk, .junk, .junk, .junk, .junk, .junk, .junk, .junk, .junk, .junk, .junk, .junk, .junk, .junk, .junk, .junk, .junk, .junk, .junk, .junk, .junk, .junk, .junk, .junk, .junk, .junk, .junk, .junk, .junk, .junk, .junk, .junk, .junk, .junk, .junk, .junk, .junk, .junk, .junk, .junk, .junk, .junk, .junk, .junk, .junk, .junk, .junk, .junk, .junk, .junk, .junk, .junk, .junk, .junk, .junk, .junk]
abbrev px5_0 : List IP := [.ros (.sc .str), .ros (.sc .str), .junk, .junk, .junk, .own (.sc (.int .u8)), .own (.sc (.int .u8)), .junk, .junk, .junk, .junk, .junk, .junk, .junk, .junk, .junk, .junk, .junk, .junk, .junk, .junk, .junk, .junk, .junk, .junk, .junk, .junk, .junk, .junk, .junk, .junk, .junk, .junk, .junk, .junk, .junk, .junk, .junk, .junk, .junk, .junk, .junk, .junk, .junk, .junk, .junk, .junk, .junk, .junk, .junk, .junk, .junk, .junk, .junk, .junk, .junk, .junk, .junk, .junk, .junk, .junk, .junk, .junk, .junk, .junk, .junk, .junk, .junk, .junk, .junk, .junk, .junk, .junk, .junk, .junk, .junk, .junk, .junk, .junk, .junk, .junk, .junk, .junk, .junk, .junk, .junk, .junk, .junk, .junk, .junk, .junk, .junk, .junk, .junk, .junk, .junk, .junk, .junk, .junk]
abbrev pi5_2 : List IP := [.ros (.sc .str), .ros (.sc .str), .junk, .junk, .junk, .own (.sc (.int .u8)), .own (.sc (.int .u8)), .junk, .sc (.int .i64), .junk, .junk, .junk, .junk, .junk, .junk, .junk, .junk, .junk, .junk, .junk, .junk, .junk, .junk, .junk, .junk, .junk, .junk, .junk, .junk, .junk, .junk, .junk, .junk, .junk, .junk, .junk, .junk, .junk, .junk, .junk, .junk, .junk, .junk, .junk, .junk, .junk, .junk, .junk, .junk, .junk, .junk, .junk, .junk, .junk, .junk, .junk, .junk, .junk, .junk, .junk, .junk, .junk, .junk, .junk, .junk, .junk, .junk, .junk, .junk, .junk, .junk, .junk, .junk, .junk, .junk, .junk, .junk, .junk, .junk, .junk, .junk, .junk, .junk, .junk, .junk, .junk, .junk, .junk, .junk, .junk, .junk, .junk, .junk, .junk, .junk, .junk, .junk, .junk, .junk]
abbrev px5_2 : List IP := [.ros (.sc .str), .ros (.sc .str), .junk, .junk, .junk, .own (.sc (.int .u8)), .own (.sc (.int .u8)), .junk, .junk, .junk, .junk, .junk, .junk, .junk, .junk, .junk, .junk, .junk, .junk, .junk, .junk, .junk, .junk, .junk, .junk, .junk, .junk, .junk, .junk, .junk, .junk, .junk, .junk, .junk, .junk, .junk, .junk, .junk, .junk, .junk, .junk, .junk, .junk, .junk, .junk, .junk, .junk, .junk, .junk, .junk, .junk, .junk, .junk, .junk, .junk, .junk, .junk, .junk, .junk, .junk, .junk, .junk, .junk, .junk, .junk, .junk, .junk, .junk, .junk, .junk, .junk, .junk, .junk, .junk, .junk, .junk, .junk, .junk, .junk, .junk, .junk, .junk, .junk, .junk, .junk, .junk, .junk, .junk, .junk, .junk, .junk, .junk, .junk, .junk, .junk, .junk, .junk, .junk, .junk]
abbrev pi5_4 : List IP := [.ros (.sc .str), .ros (.sc .str), .junk, .junk, .junk, .own (.sc (.int .u8)), .own (.sc (.int .u8)), .junk, .junk, .sc (.int .i64), .junk, .junk, .junk, .junk, .junk, .junk, .junk, .junk, .junk, .junk, .junk, .junk, .junk, .junk, .junk, .junk, .junk, .junk, .junk, .junk, .junk, .junk, .junk, .junk, .junk, .junk, .junk, .junk, .junk, .junk, .junk, .junk, .junk, .junk, .junk, .junk, .junk, .junk, .junk, .junk, .junk, .junk, .junk, .junk, .junk, .junk, .junk, .junk, .junk, .junk, .junk, .junk, .junk, .junk, .junk, .junk, .junk, .junk, .junk, .junk, .junk, .junk, .junk, .junk, .junk, .junk, .junk, .junk, .junk, .junk, .junk, .junk, .junk, .junk, .junk, .junk, .junk, .junk, .junk, .junk, .junk, .junk, .junk, .junk, .junk, .junk, .junk, .junk, .junk]
abbrev px5_4 : List IP := [.ros (.sc .str), .ros (.sc .str), .junk, .junk, .junk, .own (.sc (.int .u8)), .own (.sc (.int .u8)), .junk, .junk, .sc (.int .i64), .junk, .junk, .junk, .junk, .junk, .junk, .junk, .junk, .junk, .junk, .junk, .junk, .junk, .junk, .junk, .junk, .junk, .junk, .junk, .junk, .junk, .junk, .junk, .junk, .junk, .junk, .junk, .junk, .junk, .junk, .junk, .junk, .junk, .junk, .junk, .junk, .junk, .junk, .junk, .junk, .junk, .junk, .junk, .junk, .junk, .junk, .junk, .junk, .junk, .junk, .junk, .junk, .junk, .junk, .junk, .junk, .junk, .junk, .junk, .junk, .junk, .junk, .junk, .junk, .junk, .junk, .junk, .junk, .junk, .junk, .junk, .junk, .junk, .junk, .junk, .junk, .junk, .junk, .junk, .junk, .junk, .junk, .junk, .junk, .junk, .junk, .junk, .junk, .junk]
def gam5 (f11 : dpα pa11 → Option pr11.α) (f16 : dpα pa16 → Option pr16.α) : List (Nat × Fun) := [(11, fun11 f11), (16, fun16 f16)]
def lam5 (l0 : ipα pi5_0 → (ipα px5_0 → Option pr5.α) → Option pr5.α) (l2 : ipα pi5_2 → (ipα px5_2 → Option pr5.α) → Option pr5.α) (l4 : ipα pi5_4 → (ipα px5_4 → Option pr5.α) → Option pr5.α) : List (Nat × LoopC pr5.α) := [(0, mkLoop pi5_0 px5_0 l0), (2, mkLoop pi5_2 px5_2 l2), (4, mkLoop pi5_4 px5_4 l4)]
def env5 (f11 : dpα pa11 → Option pr11.α) (f16 : dpα pa16 → Option pr16.α) (l0 : ipα pi5_0 → (ipα px5_0 → Option pr5.α) → Option pr5.α) (l2 : ipα pi5_2 → (ipα px5_2 → Option pr5.α) → Option pr5.α) (l4 : ipα pi5_4 → (ipα px5_4 → Option pr5.α) → Option pr5.α) : Env pr5.α := mkEnv pr5.α tyT (gam5 f11 f16) glob (lam5 l0 l2 l4)
theorem env5_ok {X : Cx} (hP : X.P = Try.prog) (hG : X.G = glob) : EnvOk X (env5 w02_awake octet_Text w02_OctetLists.l0 w02_OctetLists.l2 w02_OctetLists.l4) := envOk_of hP hG mixed_ok tyT_ok ⟨⟨fun11_ok, _, Try.func11, by kernel_rfl, by kernel_rfl⟩, ⟨fun16_ok, _, Try.func16, by kernel_rfl, by kernel_rfl⟩, trivial⟩
theorem st5_0 (f11 : dpα pa11 → Option pr11.α) (f16 : dpα pa16 → Option pr16.α) (l0 : ipα pi5_0 → (ipα px5_0 → Option pr5.α) → Option pr5.α) (l2 : ipα pi5_2 → (ipα px5_2 → Option pr5.α) → Option pr5.α) (l4 : ipα pi5_4 → (ipα px5_4 → Option pr5.α) → Option pr5.α) : ∀ s kx κ, w02_OctetLists.s0b f16 kx s κ = ev (env5 f11 f16 l0 l2 l4) (innerOf 0 (bodyOf Try.f5)) (ipInj pi5_0 s) (roundK pi5_0 px5_0 0 (endK (env5 f11 f16 l0 l2 l4) Try.f5.results.toList pr5 .ret) kx κ) := by
  intro s kx κ; kernel_rfl
theorem lo5_0 {X : Cx} {w0 : World} (hP : X.P = Try.prog) (hG : X.G = glob) : LoopOk X w0 (mkLoop pi5_0 px5_0 w02_OctetLists.l0) (.loop (innerOf 0 (bodyOf Try.f5))) 0 (endK (env5 w02_awake octet_Text w02_OctetLists.l0 w02_OctetLists.l2 w02_OctetLists.l4) Try.f5.results.toList pr5 .ret) :=
  loop_ok (env5_ok hP hG) (by kernel_rfl) (by kernel_rfl) w02_OctetLists.s0 w02_OctetLists.n0 (fun _ _ => rfl) (loopsOk_of [] (by kernel_rfl) trivial) (st5_0 w02_awake octet_Text w02_OctetLists.l0 w02_OctetLists.l2 w02_OctetLists.l4 )
theorem st5_2 (f11 : dpα pa11 → Option pr11.α) (f16 : dpα pa16 → Option pr16.α) (l0 : ipα pi5_0 → (ipα px5_0 → Option pr5.α) → Option pr5.α) (l2 : ipα pi5_2 → (ipα px5_2 → Option pr5.α) → Option pr5.α) (l4 : ipα pi5_4 → (ipα px5_4 → Option pr5.α) → Option pr5.α) : ∀ s kx κ, w02_OctetLists.s2b f16 kx s κ = ev (env5 f11 f16 l0 l2 l4) (innerOf 2 (bodyOf Try.f5)) (ipInj pi5_2 s) (roundK pi5_2 px5_2 2 (endK (env5 f11 f16 l0 l2 l4) Try.f5.results.toList pr5 .ret) kx κ) := by
  intro s kx κ; kernel_rfl
theorem lo5_2 {X : Cx} {w0 : World} (hP : X.P = Try.prog) (hG : X.G = glob) : LoopOk X w0 (mkLoop pi5_2 px5_2 w02_OctetLists.l2) (.loop (innerOf 2 (bodyOf Try.f5))) 2 (endK (env5 w02_awake octet_Text w02_OctetLists.l0 w02_OctetLists.l2 w02_OctetLists.l4) Try.f5.results.toList pr5 .ret) :=
  loop_ok (env5_ok hP hG) (by kernel_rfl) (by kernel_rfl) w02_OctetLists.s2 w02_OctetLists.n2 (fun _ _ => rfl) (loopsOk_of [] (by kernel_rfl) trivial) (st5_2 w02_awake octet_Text w02_OctetLists.l0 w02_OctetLists.l2 w02_OctetLists.l4 )
theorem st5_4 (f11 : dpα pa11 → Option pr11.α) (f16 : dpα pa16 → Option pr16.α) (l0 : ipα pi5_0 → (ipα px5_0 → Option pr5.α) → Option pr5.α) (l2 : ipα pi5_2 → (ipα px5_2 → Option pr5.α) → Option pr5.α) (l4 : ipα pi5_4 → (ipα px5_4 → Option pr5.α) → Option pr5.α) : ∀ s kx κ, w02_OctetLists.s4b kx s κ = ev (env5 f11 f16 l0 l2 l4) (innerOf 4 (bodyOf Try.f5)) (ipInj pi5_4 s) (roundK pi5_4 px5_4 4 (endK (env5 f11 f16 l0 l2 l4) Try.f5.results.toList pr5 .ret) kx κ) := by
  intro s kx κ; kernel_rfl
theorem lo5_4 {X : Cx} {w0 : World} (hP : X.P = Try.prog) (hG : X.G = glob) : LoopOk X w0 (mkLoop pi5_4 px5_4 w02_OctetLists.l4) (.loop (innerOf 4 (bodyOf Try.f5))) 4 (endK (env5 w02_awake octet_Text w02_OctetLists.l0 w02_OctetLists.l2 w02_OctetLists.l4) Try.f5.results.toList pr5 .ret) :=
  loop_ok (env5_ok hP hG) (by kernel_rfl) (by kernel_rfl) w02_OctetLists.s4 w02_OctetLists.n4 (fun _ _ => rfl) (loopsOk_of [] (by kernel_rfl) trivial) (st5_4 w02_awake octet_Text w02_OctetLists.l0 w02_OctetLists.l2 w02_OctetLists.l4 )
theorem ev5 (f11 : dpα pa11 → Option pr11.α) (f16 : dpα pa16 → Option pr16.α) (l0 : ipα pi5_0 → (ipα px5_0 → Option pr5.α) → Option pr5.α) (l2 : ipα pi5_2 → (ipα px5_2 → Option pr5.α) → Option pr5.α) (l4 : ipα pi5_4 → (ipα px5_4 → Option pr5.α) → Option pr5.α) : ∀ x, w02_OctetLists.b f11 l0 l2 l4 x = ev (env5 f11 f16 l0 l2 l4) (bodyOf Try.f5) (start pa5 (Try.f5.ntmps - pa5.length) x) (endK (env5 f11 f16 l0 l2 l4) Try.f5.results.toList pr5) := by
  intro x; kernel_rfl
theorem fun5_ok : FunOk Try.prog glob 5 (fun5 w02_OctetLists) :=
  fun_ok (pa := pa5) (pr := pr5) w02_OctetLists (env5 w02_awake octet_Text w02_OctetLists.l0 w02_OctetLists.l2 w02_OctetLists.l4) Try.func5 (by kernel_rfl) (fun X hP hG => env5_ok hP hG) (fun X w0 hP hG => loopsOk_of [(0, .loop (innerOf 0 (bodyOf Try.f5))), (2, .loop (innerOf 2 (bodyOf Try.f5))), (4, .loop (innerOf 4 (bodyOf Try.f5)))] (by kernel_rfl) ⟨⟨_, by kernel_rfl, lo5_0 hP hG⟩, ⟨_, by kernel_rfl, lo5_2 hP hG⟩, ⟨_, by kernel_rfl, lo5_4 hP hG⟩, trivial⟩) (ev5 w02_awake octet_Text w02_OctetLists.l0 w02_OctetLists.l2 w02_OctetLists.l4 )
/-! muniment/octet.Uint -/
abbrev pa21 : List DP := [.sc (.int .u64)]
abbrev pr21 : RP := (.one (.own (.sc (.int .u8))))
def fun21 (f : dpα pa21 → Option pr21.α) : Fun := mkFun pa21 pr21 f
abbrev pi21_0 : List IP := [.sc (.int .u64), .junk, .junk, .obj [.arr (.sc (.int .u8)) 8], .junk, .sc (.int .i64), .junk, .junk, .junk, .junk, .junk, .junk, .junk, .junk, .junk, .junk, .junk, .junk]
abbrev px21_0 : List IP := [.junk, .junk, .junk, .obj [.arr (.sc (.int .u8)) 8], .junk, .junk, .junk, .junk, .junk, .junk, .junk, .junk, .junk, .junk, .junk, .junk, .junk, .junk]
def gam21 : List (Nat × Fun) := []
def lam21 (l0 : ipα pi21_0 → (ipα px21_0 → Option pr21.α) → Option pr21.α) : List (Nat × LoopC pr21.α) := [(0, mkLoop pi21_0 px21_0 l0)]
def env21 (l0 : ipα pi21_0 → (ipα px21_0 → Option pr21.α) → Option pr21.α) : Env pr21.α := mkEnv pr21.α tyT gam21 glob (lam21 l0)
theorem env21_ok {X : Cx} (hP : X.P = Try.prog) (hG : X.G = glob) : EnvOk X (env21 octet_Uint.l0) := envOk_of hP hG mixed_ok tyT_ok trivial
theorem st21_0 (l0 : ipα pi21_0 → (ipα px21_0 → Option pr21.α) → Option pr21.α) : ∀ s kx κ, octet_Uint.s0b kx s κ = ev (env21 l0) (innerOf 0 (bodyOf Try.f21)) (ipInj pi21_0 s) (roundK pi21_0 px21_0 0 (endK (env21 l0) Try.f21.results.toList pr21 .ret) kx κ) := by
  intro s kx κ; kernel_rfl
theorem lo21_0 {X : Cx} {w0 : World} (hP : X.P = Try.prog) (hG : X.G = glob) : LoopOk X w0 (mkLoop pi21_0 px21_0 octet_Uint.l0) (.loop (innerOf 0 (bodyOf Try.f21))) 0 (endK (env21 octet_Uint.l0) Try.f21.results.toList pr21 .ret) :=
  loop_ok (env21_ok hP hG) (by kernel_rfl) (by kernel_rfl) octet_Uint.s0 octet_Uint.n0 (fun _ _ => rfl) (loopsOk_of [] (by kernel_rfl) trivial) (st21_0 octet_Uint.l0 )
theorem ev21 (l0 : ipα pi21_0 → (ipα px21_0 → Option pr21.α) → Option pr21.α) : ∀ x, octet_Uint.b l0 x = ev (env21 l0) (bodyOf Try.f21) (start pa21 (Try.f21.ntmps - pa21.length) x) (endK (env21 l0) Try.f21.results.toList pr21) := by
  intro x; kernel_rfl
theorem fun21_ok : FunOk Try.prog glob 21 (fun21 octet_Uint) :=
  fun_ok (pa := pa21) (pr := pr21) octet_Uint (env21 octet_Uint.l0) Try.func21 (by kernel_rfl) (fun X hP hG => env21_ok hP hG) (fun X w0 hP hG => loopsOk_of [(0, .loop (innerOf 0 (bodyOf Try.f21)))] (by kernel_rfl) ⟨⟨_, by kernel_rfl, lo21_0 hP hG⟩, trivial⟩) (ev21 octet_Uint.l0 )
/-! muniment/octet.Int -/
abbrev pa17 : List DP := [.sc (.int .i64)]
abbrev pr17 : RP := (.one (.own (.sc (.int .u8))))
def fun17 (f : dpα pa17 → Option pr17.α) : Fun := mkFun pa17 pr17 f
def gam17 (f21 : dpα pa21 → Option pr21.α) : List (Nat × Fun) := [(21, fun21 f21)]
def lam17 : List (Nat × LoopC pr17.α) := []
def env17 (f21 : dpα pa21 → Option pr21.α) : Env pr17.α := mkEnv pr17.α tyT (gam17 f21) glob lam17
theorem env17_ok {X : Cx} (hP : X.P = Try.prog) (hG : X.G = glob) : EnvOk X (env17 octet_Uint) := envOk_of hP hG mixed_ok tyT_ok ⟨⟨fun21_ok, _, Try.func21, by kernel_rfl, by kernel_rfl⟩, trivial⟩
theorem ev17 (f21 : dpα pa21 → Option pr21.α) : ∀ x, octet_Int.b f21 x = ev (env17 f21) (bodyOf Try.f17) (start pa17 (Try.f17.ntmps - pa17.length) x) (endK (env17 f21) Try.f17.results.toList pr17) := by
  intro x; kernel_rfl
theorem fun17_ok : FunOk Try.prog glob 17 (fun17 octet_Int) :=
  fun_ok (pa := pa17) (pr := pr17) octet_Int (env17 octet_Uint) Try.func17 (by kernel_rfl) (fun X hP hG => env17_ok hP hG) (fun X w0 hP hG => loopsOk_of [] (by kernel_rfl) trivial) (ev17 octet_Uint )
/-! muniment/munimentlaw02.OctetStands -/
abbrev pa6 : List DP := [.sc (.int .i64), .sc (.int .i64), .sc .str, .sc .str, .own (.sc (.int .u8)), .own (.sc (.int .u8))]
abbrev pr6 : RP := (.one (.sc .bool))
def fun6 (f : dpα pa6 → Option pr6.α) : Fun := mkFun pa6 pr6 f
def gam6 (f11 : dpα pa11 → Option pr11.α) (f16 : dpα pa16 → Option pr16.α) (f17 : dpα pa17 → Option pr17.α) : List (Nat × Fun) := [(11, fun11 f11), (16, fun16 f16), (17, fun17 f17)]
def lam6 : List (Nat × LoopC pr6.α) := []
def env6 (f11 : dpα pa11 → Option pr11.α) (f16 : dpα pa16 → Option pr16.α) (f17 : dpα pa17 → Option pr17.α) : Env pr6.α := mkEnv pr6.α tyT (gam6 f11 f16 f17) glob lam6
theorem env6_ok {X : Cx} (hP : X.P = Try.prog) (hG : X.G = glob) : EnvOk X (env6 w02_awake octet_Text octet_Int) := envOk_of hP hG mixed_ok tyT_ok ⟨⟨fun11_ok, _, Try.func11, by kernel_rfl, by kernel_rfl⟩, ⟨fun16_ok, _, Try.func16, by kernel_rfl, by kernel_rfl⟩, ⟨fun17_ok, _, Try.func17, by kernel_rfl, by kernel_rfl⟩, trivial⟩
theorem ev6 (f11 : dpα pa11 → Option pr11.α) (f16 : dpα pa16 → Option pr16.α) (f17 : dpα pa17 → Option pr17.α) : ∀ x, w02_OctetStands.b f11 f16 f17 x = ev (env6 f11 f16 f17) (bodyOf Try.f6) (start pa6 (Try.f6.ntmps - pa6.length) x) (endK (env6 f11 f16 f17) Try.f6.results.toList pr6) := by
  intro x; kernel_rfl
theorem fun6_ok : FunOk Try.prog glob 6 (fun6 w02_OctetStands) :=
  fun_ok (pa := pa6) (pr := pr6) w02_OctetStands (env6 w02_awake octet_Text octet_Int) Try.func6 (by kernel_rfl) (fun X hP hG => env6_ok hP hG) (fun X w0 hP hG => loopsOk_of [] (by kernel_rfl) trivial) (ev6 w02_awake octet_Text octet_Int )
/-! muniment/octet.ReadText -/
abbrev pa18 : List DP := [.own (.sc (.int .u8)), .sc (.int .i64)]
abbrev pr18 : RP := (.tup [.sc .str, .sc (.int .i64), .sc (.int .i64)])
def fun18 (f : dpα pa18 → Option pr18.α) : Fun := mkFun pa18 pr18 f
abbrev pi18_0 : List IP := [.ros (.sc (.int .u8)), .junk, .junk, .junk, .junk, .junk, .junk, .own (.sc (.int .u8)), .sc (.int .i64), .junk, .junk, .junk, .junk, .junk, .junk, .junk, .junk, .junk, .junk, .junk, .junk, .junk, .junk, .junk, .junk, .junk, .junk, .junk, .junk, .junk, .junk, .junk, .junk, .junk, .junk, .junk, .junk, .junk, .junk, .junk, .junk, .junk, .junk, .junk, .junk, .junk, .junk, .junk, .junk, .junk, .junk, .junk, .junk, .junk, .junk, .junk, .junk]
abbrev px18_0 : List IP := [.junk, .junk, .junk, .junk, .junk, .junk, .junk, .junk, .junk, .junk, .junk, .junk, .junk, .junk, .junk, .junk, .junk, .junk, .junk, .junk, .junk, .junk, .junk, .junk, .junk, .junk, .junk, .junk, .junk, .junk, .junk, .junk, .junk, .junk, .junk, .junk, .junk, .junk, .junk, .junk, .junk, .junk, .junk, .junk, .junk, .junk, .junk, .junk, .junk, .junk, .junk, .junk, .junk, .junk, .junk, .junk, .junk]
def gam18 : List (Nat × Fun) := []
def lam18 (l0 : ipα pi18_0 → (ipα px18_0 → Option pr18.α) → Option pr18.α) : List (Nat × LoopC pr18.α) := [(0, mkLoop pi18_0 px18_0 l0)]
def env18 (l0 : ipα pi18_0 → (ipα px18_0 → Option pr18.α) → Option pr18.α) : Env pr18.α := mkEnv pr18.α tyT gam18 glob (lam18 l0)
theorem env18_ok {X : Cx} (hP : X.P = Try.prog) (hG : X.G = glob) : EnvOk X (env18 octet_ReadText.l0) := envOk_of hP hG mixed_ok tyT_ok trivial
theorem st18_0 (l0 : ipα pi18_0 → (ipα px18_0 → Option pr18.α) → Option pr18.α) : ∀ s kx κ, octet_ReadText.s0b kx s κ = ev (env18 l0) (innerOf 0 (bodyOf Try.f18)) (ipInj pi18_0 s) (roundK pi18_0 px18_0 0 (endK (env18 l0) Try.f18.results.toList pr18 .ret) kx κ) := by
  intro s kx κ; kernel_rfl
theorem lo18_0 {X : Cx} {w0 : World} (hP : X.P = Try.prog) (hG : X.G = glob) : LoopOk X w0 (mkLoop pi18_0 px18_0 octet_ReadText.l0) (.loop (innerOf 0 (bodyOf Try.f18))) 0 (endK (env18 octet_ReadText.l0) Try.f18.results.toList pr18 .ret) :=
  loop_ok (env18_ok hP hG) (by kernel_rfl) (by kernel_rfl) octet_ReadText.s0 octet_ReadText.n0 (fun _ _ => rfl) (loopsOk_of [] (by kernel_rfl) trivial) (st18_0 octet_ReadText.l0 )
theorem ev18 (l0 : ipα pi18_0 → (ipα px18_0 → Option pr18.α) → Option pr18.α) : ∀ x, octet_ReadText.b l0 x = ev (env18 l0) (bodyOf Try.f18) (start pa18 (Try.f18.ntmps - pa18.length) x) (endK (env18 l0) Try.f18.results.toList pr18) := by
  intro x; kernel_rfl
theorem fun18_ok : FunOk Try.prog glob 18 (fun18 octet_ReadText) :=
  fun_ok (pa := pa18) (pr := pr18) octet_ReadText (env18 octet_ReadText.l0) Try.func18 (by kernel_rfl) (fun X hP hG => env18_ok hP hG) (fun X w0 hP hG => loopsOk_of [(0, .loop (innerOf 0 (bodyOf Try.f18)))] (by kernel_rfl) ⟨⟨_, by kernel_rfl, lo18_0 hP hG⟩, trivial⟩) (ev18 octet_ReadText.l0 )
/-! muniment/munimentref02.Text -/
abbrev pa19 : List DP := [.sc .str]
abbrev pr19 : RP := (.one (.own (.sc (.int .u8))))
def fun19 (f : dpα pa19 → Option pr19.α) : Fun := mkFun pa19 pr19 f
abbrev pi19_0 : List IP := [.sc .str, .junk, .junk, .own (.sc (.int .u8)), .sc (.int .i64), .junk, .junk, .junk, .junk, .junk, .junk, .junk, .junk, .junk, .junk, .junk, .junk, .junk, .junk, .junk, .junk, .junk, .junk, .junk, .junk, .junk, .junk]
abbrev px19_0 : List IP := [.junk, .junk, .junk, .own (.sc (.int .u8)), .junk, .junk, .junk, .junk, .junk, .junk, .junk, .junk, .junk, .junk, .junk, .junk, .junk, .junk, .junk, .junk, .junk, .junk, .junk, .junk, .junk, .junk, .junk]
def gam19 : List (Nat × Fun) := []
def lam19 (l0 : ipα pi19_0 → (ipα px19_0 → Option pr19.α) → Option pr19.α) : List (Nat × LoopC pr19.α) := [(0, mkLoop pi19_0 px19_0 l0)]
def env19 (l0 : ipα pi19_0 → (ipα px19_0 → Option pr19.α) → Option pr19.α) : Env pr19.α := mkEnv pr19.α tyT gam19 glob (lam19 l0)
theorem env19_ok {X : Cx} (hP : X.P = Try.prog) (hG : X.G = glob) : EnvOk X (env19 r02_Text.l0) := envOk_of hP hG mixed_ok tyT_ok trivial
theorem st19_0 (l0 : ipα pi19_0 → (ipα px19_0 → Option pr19.α) → Option pr19.α) : ∀ s kx κ, r02_Text.s0b kx s κ = ev (env19 l0) (innerOf 0 (bodyOf Try.f19)) (ipInj pi19_0 s) (roundK pi19_0 px19_0 0 (endK (env19 l0) Try.f19.results.toList pr19 .ret) kx κ) := by
  intro s kx κ; kernel_rfl
theorem lo19_0 {X : Cx} {w0 : World} (hP : X.P = Try.prog) (hG : X.G = glob) : LoopOk X w0 (mkLoop pi19_0 px19_0 r02_Text.l0) (.loop (innerOf 0 (bodyOf Try.f19))) 0 (endK (env19 r02_Text.l0) Try.f19.results.toList pr19 .ret) :=
  loop_ok (env19_ok hP hG) (by kernel_rfl) (by kernel_rfl) r02_Text.s0 r02_Text.n0 (fun _ _ => rfl) (loopsOk_of [] (by kernel_rfl) trivial) (st19_0 r02_Text.l0 )
theorem ev19 (l0 : ipα pi19_0 → (ipα px19_0 → Option pr19.α) → Option pr19.α) : ∀ x, r02_Text.b l0 x = ev (env19 l0) (bodyOf Try.f19) (start pa19 (Try.f19.ntmps - pa19.length) x) (endK (env19 l0) Try.f19.results.toList pr19) := by
  intro x; kernel_rfl
theorem fun19_ok : FunOk Try.prog glob 19 (fun19 r02_Text) :=
  fun_ok (pa := pa19) (pr := pr19) r02_Text (env19 r02_Text.l0) Try.func19 (by kernel_rfl) (fun X hP hG => env19_ok hP hG) (fun X w0 hP hG => loopsOk_of [(0, .loop (innerOf 0 (bodyOf Try.f19)))] (by kernel_rfl) ⟨⟨_, by kernel_rfl, lo19_0 hP hG⟩, trivial⟩) (ev19 r02_Text.l0 )
/-! muniment/munimentlaw02.OctetTexts -/
abbrev pa7 : List DP := [.own (.sc (.int .u8)), .sc .str, .own (.sc (.int .u8))]
abbrev pr7 : RP := (.one (.sc .bool))
def fun7 (f : dpα pa7 → Option pr7.α) : Fun := mkFun pa7 pr7 f
def gam7 (f11 : dpα pa11 → Option pr11.α) (f16 : dpα pa16 → Option pr16.α) (f18 : dpα pa18 → Option pr18.α) (f19 : dpα pa19 → Option pr19.α) : List (Nat × Fun) := [(11, fun11 f11), (16, fun16 f16), (18, fun18 f18), (19, fun19 f19)]
def lam7 : List (Nat × LoopC pr7.α) := []
def env7 (f11 : dpα pa11 → Option pr11.α) (f16 : dpα pa16 → Option pr16.α) (f18 : dpα pa18 → Option pr18.α) (f19 : dpα pa19 → Option pr19.α) : Env pr7.α := mkEnv pr7.α tyT (gam7 f11 f16 f18 f19) glob lam7
theorem env7_ok {X : Cx} (hP : X.P = Try.prog) (hG : X.G = glob) : EnvOk X (env7 w02_awake octet_Text octet_ReadText r02_Text) := envOk_of hP hG mixed_ok tyT_ok ⟨⟨fun11_ok, _, Try.func11, by kernel_rfl, by kernel_rfl⟩, ⟨fun16_ok, _, Try.func16, by kernel_rfl, by kernel_rfl⟩, ⟨fun18_ok, _, Try.func18, by kernel_rfl, by kernel_rfl⟩, ⟨fun19_ok, _, Try.func19, by kernel_rfl, by kernel_rfl⟩, trivial⟩
theorem ev7 (f11 : dpα pa11 → Option pr11.α) (f16 : dpα pa16 → Option pr16.α) (f18 : dpα pa18 → Option pr18.α) (f19 : dpα pa19 → Option pr19.α) : ∀ x, w02_OctetTexts.b f11 f16 f18 f19 x = ev (env7 f11 f16 f18 f19) (bodyOf Try.f7) (start pa7 (Try.f7.ntmps - pa7.length) x) (endK (env7 f11 f16 f18 f19) Try.f7.results.toList pr7) := by
  intro x; kernel_rfl
theorem fun7_ok : FunOk Try.prog glob 7 (fun7 w02_OctetTexts) :=
  fun_ok (pa := pa7) (pr := pr7) w02_OctetTexts (env7 w02_awake octet_Text octet_ReadText r02_Text) Try.func7 (by kernel_rfl) (fun X hP hG => env7_ok hP hG) (fun X w0 hP hG => loopsOk_of [] (by kernel_rfl) trivial) (ev7 w02_awake octet_Text octet_ReadText r02_Text )
/-! muniment/octet.ReadUint -/
abbrev pa20 : List DP := [.own (.sc (.int .u8)), .sc (.int .i64)]
abbrev pr20 : RP := (.tup [.sc (.int .u64), .sc (.int .i64), .sc (.int .i64)])
def fun20 (f : dpα pa20 → Option pr20.α) : Fun := mkFun pa20 pr20 f
abbrev pi20_0 : List IP := [.junk, .sc (.int .i64), .junk, .junk, .junk, .junk, .junk, .sc (.int .u64), .junk, .junk, .junk, .junk, .junk, .junk, .junk, .junk, .junk, .junk, .junk, .junk, .junk, .junk, .junk, .junk, .junk, .junk, .junk, .ros (.sc (.int .u8)), .sc (.int .i64), .sc (.int .i64), .junk, .junk, .junk, .junk, .junk, .junk, .junk, .junk, .junk, .junk, .junk, .junk]
abbrev px20_0 : List IP := [.junk, .sc (.int .i64), .junk, .junk, .junk, .junk, .junk, .sc (.int .u64), .junk, .junk, .junk, .junk, .junk, .junk, .junk, .junk, .junk, .junk, .junk, .junk, .junk, .junk, .junk, .junk, .junk, .junk, .junk, .junk, .junk, .junk, .junk, .junk, .junk, .junk, .junk, .junk, .junk, .junk, .junk, .junk, .junk, .junk]
def gam20 : List (Nat × Fun) := []
def lam20 (l0 : ipα pi20_0 → (ipα px20_0 → Option pr20.α) → Option pr20.α) : List (Nat × LoopC pr20.α) := [(0, mkLoop pi20_0 px20_0 l0)]
def env20 (l0 : ipα pi20_0 → (ipα px20_0 → Option pr20.α) → Option pr20.α) : Env pr20.α := mkEnv pr20.α tyT gam20 glob (lam20 l0)
theorem env20_ok {X : Cx} (hP : X.P = Try.prog) (hG : X.G = glob) : EnvOk X (env20 octet_ReadUint.l0) := envOk_of hP hG mixed_ok tyT_ok trivial
theorem st20_0 (l0 : ipα pi20_0 → (ipα px20_0 → Option pr20.α) → Option pr20.α) : ∀ s kx κ, octet_ReadUint.s0b kx s κ = ev (env20 l0) (innerOf 0 (bodyOf Try.f20)) (ipInj pi20_0 s) (roundK pi20_0 px20_0 0 (endK (env20 l0) Try.f20.results.toList pr20 .ret) kx κ) := by
  intro s kx κ; kernel_rfl
theorem lo20_0 {X : Cx} {w0 : World} (hP : X.P = Try.prog) (hG : X.G = glob) : LoopOk X w0 (mkLoop pi20_0 px20_0 octet_ReadUint.l0) (.loop (innerOf 0 (bodyOf Try.f20))) 0 (endK (env20 octet_ReadUint.l0) Try.f20.results.toList pr20 .ret) :=
  loop_ok (env20_ok hP hG) (by kernel_rfl) (by kernel_rfl) octet_ReadUint.s0 octet_ReadUint.n0 (fun _ _ => rfl) (loopsOk_of [] (by kernel_rfl) trivial) (st20_0 octet_ReadUint.l0 )
theorem ev20 (l0 : ipα pi20_0 → (ipα px20_0 → Option pr20.α) → Option pr20.α) : ∀ x, octet_ReadUint.b l0 x = ev (env20 l0) (bodyOf Try.f20) (start pa20 (Try.f20.ntmps - pa20.length) x) (endK (env20 l0) Try.f20.results.toList pr20) := by
  intro x; kernel_rfl
theorem fun20_ok : FunOk Try.prog glob 20 (fun20 octet_ReadUint) :=
  fun_ok (pa := pa20) (pr := pr20) octet_ReadUint (env20 octet_ReadUint.l0) Try.func20 (by kernel_rfl) (fun X hP hG => env20_ok hP hG) (fun X w0 hP hG => loopsOk_of [(0, .loop (innerOf 0 (bodyOf Try.f20)))] (by kernel_rfl) ⟨⟨_, by kernel_rfl, lo20_0 hP hG⟩, trivial⟩) (ev20 octet_ReadUint.l0 )
/-! muniment/octet.ReadInt -/
abbrev pa22 : List DP := [.own (.sc (.int .u8)), .sc (.int .i64)]
abbrev pr22 : RP := (.tup [.sc (.int .i64), .sc (.int .i64), .sc (.int .i64)])
def fun22 (f : dpα pa22 → Option pr22.α) : Fun := mkFun pa22 pr22 f
def gam22 (f20 : dpα pa20 → Option pr20.α) : List (Nat × Fun) := [(20, fun20 f20)]
def lam22 : List (Nat × LoopC pr22.α) := []
def env22 (f20 : dpα pa20 → Option pr20.α) : Env pr22.α := mkEnv pr22.α tyT (gam22 f20) glob lam22
theorem env22_ok {X : Cx} (hP : X.P = Try.prog) (hG : X.G = glob) : EnvOk X (env22 octet_ReadUint) := envOk_of hP hG mixed_ok tyT_ok ⟨⟨fun20_ok, _, Try.func20, by kernel_rfl, by kernel_rfl⟩, trivial⟩
theorem ev22 (f20 : dpα pa20 → Option pr20.α) : ∀ x, octet_ReadInt.b f20 x = ev (env22 f20) (bodyOf Try.f22) (start pa22 (Try.f22.ntmps - pa22.length) x) (endK (env22 f20) Try.f22.results.toList pr22) := by
  intro x; kernel_rfl
theorem fun22_ok : FunOk Try.prog glob 22 (fun22 octet_ReadInt) :=
  fun_ok (pa := pa22) (pr := pr22) octet_ReadInt (env22 octet_ReadUint) Try.func22 (by kernel_rfl) (fun X hP hG => env22_ok hP hG) (fun X w0 hP hG => loopsOk_of [] (by kernel_rfl) trivial) (ev22 octet_ReadUint )
/-! muniment/munimentref02.Uint -/
abbrev pa23 : List DP := [.sc (.int .u64)]
abbrev pr23 : RP := (.one (.own (.sc (.int .u8))))
def fun23 (f : dpα pa23 → Option pr23.α) : Fun := mkFun pa23 pr23 f
abbrev pi23_0 : List IP := [.sc (.int .u64), .junk, .junk, .own (.sc (.int .u8)), .sc (.int .i64), .junk, .junk, .junk, .junk, .junk, .junk, .junk, .junk, .junk, .junk, .junk, .junk, .junk]
abbrev px23_0 : List IP := [.junk, .junk, .junk, .own (.sc (.int .u8)), .junk, .junk, .junk, .junk, .junk, .junk, .junk, .junk, .junk, .junk, .junk, .junk, .junk, .junk]
def gam23 : List (Nat × Fun) := []
def lam23 (l0 : ipα pi23_0 → (ipα px23_0 → Option pr23.α) → Option pr23.α) : List (Nat × LoopC pr23.α) := [(0, mkLoop pi23_0 px23_0 l0)]
def env23 (l0 : ipα pi23_0 → (ipα px23_0 → Option pr23.α) → Option pr23.α) : Env pr23.α := mkEnv pr23.α tyT gam23 glob (lam23 l0)
theorem env23_ok {X : Cx} (hP : X.P = Try.prog) (hG : X.G = glob) : EnvOk X (env23 r02_Uint.l0) := envOk_of hP hG mixed_ok tyT_ok trivial
theorem st23_0 (l0 : ipα pi23_0 → (ipα px23_0 → Option pr23.α) → Option pr23.α) : ∀ s kx κ, r02_Uint.s0b kx s κ = ev (env23 l0) (innerOf 0 (bodyOf Try.f23)) (ipInj pi23_0 s) (roundK pi23_0 px23_0 0 (endK (env23 l0) Try.f23.results.toList pr23 .ret) kx κ) := by
  intro s kx κ; kernel_rfl
theorem lo23_0 {X : Cx} {w0 : World} (hP : X.P = Try.prog) (hG : X.G = glob) : LoopOk X w0 (mkLoop pi23_0 px23_0 r02_Uint.l0) (.loop (innerOf 0 (bodyOf Try.f23))) 0 (endK (env23 r02_Uint.l0) Try.f23.results.toList pr23 .ret) :=
  loop_ok (env23_ok hP hG) (by kernel_rfl) (by kernel_rfl) r02_Uint.s0 r02_Uint.n0 (fun _ _ => rfl) (loopsOk_of [] (by kernel_rfl) trivial) (st23_0 r02_Uint.l0 )
theorem ev23 (l0 : ipα pi23_0 → (ipα px23_0 → Option pr23.α) → Option pr23.α) : ∀ x, r02_Uint.b l0 x = ev (env23 l0) (bodyOf Try.f23) (start pa23 (Try.f23.ntmps - pa23.length) x) (endK (env23 l0) Try.f23.results.toList pr23) := by
  intro x; kernel_rfl
theorem fun23_ok : FunOk Try.prog glob 23 (fun23 r02_Uint) :=
  fun_ok (pa := pa23) (pr := pr23) r02_Uint (env23 r02_Uint.l0) Try.func23 (by kernel_rfl) (fun X hP hG => env23_ok hP hG) (fun X w0 hP hG => loopsOk_of [(0, .loop (innerOf 0 (bodyOf Try.f23)))] (by kernel_rfl) ⟨⟨_, by kernel_rfl, lo23_0 hP hG⟩, trivial⟩) (ev23 r02_Uint.l0 )
/-! muniment/munimentref02.Int -/
abbrev pa24 : List DP := [.sc (.int .i64)]
abbrev pr24 : RP := (.one (.own (.sc (.int .u8))))
def fun24 (f : dpα pa24 → Option pr24.α) : Fun := mkFun pa24 pr24 f
def gam24 (f23 : dpα pa23 → Option pr23.α) : List (Nat × Fun) := [(23, fun23 f23)]
def lam24 : List (Nat × LoopC pr24.α) := []
def env24 (f23 : dpα pa23 → Option pr23.α) : Env pr24.α := mkEnv pr24.α tyT (gam24 f23) glob lam24
theorem env24_ok {X : Cx} (hP : X.P = Try.prog) (hG : X.G = glob) : EnvOk X (env24 r02_Uint) := envOk_of hP hG mixed_ok tyT_ok ⟨⟨fun23_ok, _, Try.func23, by kernel_rfl, by kernel_rfl⟩, trivial⟩
theorem ev24 (f23 : dpα pa23 → Option pr23.α) : ∀ x, r02_Int.b f23 x = ev (env24 f23) (bodyOf Try.f24) (start pa24 (Try.f24.ntmps - pa24.length) x) (endK (env24 f23) Try.f24.results.toList pr24) := by
  intro x; kernel_rfl
theorem fun24_ok : FunOk Try.prog glob 24 (fun24 r02_Int) :=
  fun_ok (pa := pa24) (pr := pr24) r02_Int (env24 r02_Uint) Try.func24 (by kernel_rfl) (fun X hP hG => env24_ok hP hG) (fun X w0 hP hG => loopsOk_of [] (by kernel_rfl) trivial) (ev24 r02_Uint )
/-! muniment/munimentlaw02.OctetNumbers -/
abbrev pa8 : List DP := [.sc (.int .u64), .sc (.int .i64)]
abbrev pr8 : RP := (.one (.sc .bool))
def fun8 (f : dpα pa8 → Option pr8.α) : Fun := mkFun pa8 pr8 f
def gam8 (f11 : dpα pa11 → Option pr11.α) (f17 : dpα pa17 → Option pr17.α) (f20 : dpα pa20 → Option pr20.α) (f21 : dpα pa21 → Option pr21.α) (f22 : dpα pa22 → Option pr22.α) (f23 : dpα pa23 → Option pr23.α) (f24 : dpα pa24 → Option pr24.α) : List (Nat × Fun) := [(11, fun11 f11), (17, fun17 f17), (20, fun20 f20), (21, fun21 f21), (22, fun22 f22), (23, fun23 f23), (24, fun24 f24)]
def lam8 : List (Nat × LoopC pr8.α) := []
def env8 (f11 : dpα pa11 → Option pr11.α) (f17 : dpα pa17 → Option pr17.α) (f20 : dpα pa20 → Option pr20.α) (f21 : dpα pa21 → Option pr21.α) (f22 : dpα pa22 → Option pr22.α) (f23 : dpα pa23 → Option pr23.α) (f24 : dpα pa24 → Option pr24.α) : Env pr8.α := mkEnv pr8.α tyT (gam8 f11 f17 f20 f21 f22 f23 f24) glob lam8
theorem env8_ok {X : Cx} (hP : X.P = Try.prog) (hG : X.G = glob) : EnvOk X (env8 w02_awake octet_Int octet_ReadUint octet_Uint octet_ReadInt r02_Uint r02_Int) := envOk_of hP hG mixed_ok tyT_ok ⟨⟨fun11_ok, _, Try.func11, by kernel_rfl, by kernel_rfl⟩, ⟨fun17_ok, _, Try.func17, by kernel_rfl, by kernel_rfl⟩, ⟨fun20_ok, _, Try.func20, by kernel_rfl, by kernel_rfl⟩, ⟨fun21_ok, _, Try.func21, by kernel_rfl, by kernel_rfl⟩, ⟨fun22_ok, _, Try.func22, by kernel_rfl, by kernel_rfl⟩, ⟨fun23_ok, _, Try.func23, by kernel_rfl, by kernel_rfl⟩, ⟨fun24_ok, _, Try.func24, by kernel_rfl, by kernel_rfl⟩, trivial⟩
theorem ev8 (f11 : dpα pa11 → Option pr11.α) (f17 : dpα pa17 → Option pr17.α) (f20 : dpα pa20 → Option pr20.α) (f21 : dpα pa21 → Option pr21.α) (f22 : dpα pa22 → Option pr22.α) (f23 : dpα pa23 → Option pr23.α) (f24 : dpα pa24 → Option pr24.α) : ∀ x, w02_OctetNumbers.b f11 f17 f20 f21 f22 f23 f24 x = ev (env8 f11 f17 f20 f21 f22 f23 f24) (bodyOf Try.f8) (start pa8 (Try.f8.ntmps - pa8.length) x) (endK (env8 f11 f17 f20 f21 f22 f23 f24) Try.f8.results.toList pr8) := by
  intro x; kernel_rfl
theorem fun8_ok : FunOk Try.prog glob 8 (fun8 w02_OctetNumbers) :=
  fun_ok (pa := pa8) (pr := pr8) w02_OctetNumbers (env8 w02_awake octet_Int octet_ReadUint octet_Uint octet_ReadInt r02_Uint r02_Int) Try.func8 (by kernel_rfl) (fun X hP hG => env8_ok hP hG) (fun X w0 hP hG => loopsOk_of [] (by kernel_rfl) trivial) (ev8 w02_awake octet_Int octet_ReadUint octet_Uint octet_ReadInt r02_Uint r02_Int )
/-! muniment/munimentref02.ReadUint -/
abbrev pa25 : List DP := [.own (.sc (.int .u8)), .sc (.int .i64)]
abbrev pr25 : RP := (.tup [.sc (.int .u64), .sc (.int .i64), .sc (.int .i64)])
def fun25 (f : dpα pa25 → Option pr25.α) : Fun := mkFun pa25 pr25 f
abbrev pi25_0 : List IP := [.ros (.sc (.int .u8)), .sc (.int .i64), .junk, .junk, .junk, .junk, .junk, .sc (.int .u64), .sc (.int .i64), .junk, .junk, .junk, .junk, .junk, .junk, .junk, .junk, .junk, .junk, .junk, .junk, .junk, .junk, .junk, .junk, .junk, .junk, .junk, .junk, .junk, .junk, .junk, .junk, .junk, .junk, .junk, .junk, .junk, .junk]
abbrev px25_0 : List IP := [.junk, .sc (.int .i64), .junk, .junk, .junk, .junk, .junk, .sc (.int .u64), .junk, .junk, .junk, .junk, .junk, .junk, .junk, .junk, .junk, .junk, .junk, .junk, .junk, .junk, .junk, .junk, .junk, .junk, .junk, .junk, .junk, .junk, .junk, .junk, .junk, .junk, .junk, .junk, .junk, .junk, .junk]
def gam25 : List (Nat × Fun) := []
def lam25 (l0 : ipα pi25_0 → (ipα px25_0 → Option pr25.α) → Option pr25.α) : List (Nat × LoopC pr25.α) := [(0, mkLoop pi25_0 px25_0 l0)]
def env25 (l0 : ipα pi25_0 → (ipα px25_0 → Option pr25.α) → Option pr25.α) : Env pr25.α := mkEnv pr25.α tyT gam25 glob (lam25 l0)
theorem env25_ok {X : Cx} (hP : X.P = Try.prog) (hG : X.G = glob) : EnvOk X (env25 r02_ReadUint.l0) := envOk_of hP hG mixed_ok tyT_ok trivial
theorem st25_0 (l0 : ipα pi25_0 → (ipα px25_0 → Option pr25.α) → Option pr25.α) : ∀ s kx κ, r02_ReadUint.s0b kx s κ = ev (env25 l0) (innerOf 0 (bodyOf Try.f25)) (ipInj pi25_0 s) (roundK pi25_0 px25_0 0 (endK (env25 l0) Try.f25.results.toList pr25 .ret) kx κ) := by
  intro s kx κ; kernel_rfl
theorem lo25_0 {X : Cx} {w0 : World} (hP : X.P = Try.prog) (hG : X.G = glob) : LoopOk X w0 (mkLoop pi25_0 px25_0 r02_ReadUint.l0) (.loop (innerOf 0 (bodyOf Try.f25))) 0 (endK (env25 r02_ReadUint.l0) Try.f25.results.toList pr25 .ret) :=
  loop_ok (env25_ok hP hG) (by kernel_rfl) (by kernel_rfl) r02_ReadUint.s0 r02_ReadUint.n0 (fun _ _ => rfl) (loopsOk_of [] (by kernel_rfl) trivial) (st25_0 r02_ReadUint.l0 )
theorem ev25 (l0 : ipα pi25_0 → (ipα px25_0 → Option pr25.α) → Option pr25.α) : ∀ x, r02_ReadUint.b l0 x = ev (env25 l0) (bodyOf Try.f25) (start pa25 (Try.f25.ntmps - pa25.length) x) (endK (env25 l0) Try.f25.results.toList pr25) := by
  intro x; kernel_rfl
theorem fun25_ok : FunOk Try.prog glob 25 (fun25 r02_ReadUint) :=
  fun_ok (pa := pa25) (pr := pr25) r02_ReadUint (env25 r02_ReadUint.l0) Try.func25 (by kernel_rfl) (fun X hP hG => env25_ok hP hG) (fun X w0 hP hG => loopsOk_of [(0, .loop (innerOf 0 (bodyOf Try.f25)))] (by kernel_rfl) ⟨⟨_, by kernel_rfl, lo25_0 hP hG⟩, trivial⟩) (ev25 r02_ReadUint.l0 )
/-! muniment/munimentref02.ReadInt -/
abbrev pa26 : List DP := [.own (.sc (.int .u8)), .sc (.int .i64)]
abbrev pr26 : RP := (.tup [.sc (.int .i64), .sc (.int .i64), .sc (.int .i64)])
def fun26 (f : dpα pa26 → Option pr26.α) : Fun := mkFun pa26 pr26 f
def gam26 (f25 : dpα pa25 → Option pr25.α) : List (Nat × Fun) := [(25, fun25 f25)]
def lam26 : List (Nat × LoopC pr26.α) := []
def env26 (f25 : dpα pa25 → Option pr25.α) : Env pr26.α := mkEnv pr26.α tyT (gam26 f25) glob lam26
theorem env26_ok {X : Cx} (hP : X.P = Try.prog) (hG : X.G = glob) : EnvOk X (env26 r02_ReadUint) := envOk_of hP hG mixed_ok tyT_ok ⟨⟨fun25_ok, _, Try.func25, by kernel_rfl, by kernel_rfl⟩, trivial⟩
theorem ev26 (f25 : dpα pa25 → Option pr25.α) : ∀ x, r02_ReadInt.b f25 x = ev (env26 f25) (bodyOf Try.f26) (start pa26 (Try.f26.ntmps - pa26.length) x) (endK (env26 f25) Try.f26.results.toList pr26) := by
  intro x; kernel_rfl
theorem fun26_ok : FunOk Try.prog glob 26 (fun26 r02_ReadInt) :=
  fun_ok (pa := pa26) (pr := pr26) r02_ReadInt (env26 r02_ReadUint) Try.func26 (by kernel_rfl) (fun X hP hG => env26_ok hP hG) (fun X w0 hP hG => loopsOk_of [] (by kernel_rfl) trivial) (ev26 r02_ReadUint )
/-! muniment/munimentref02.ReadText -/
abbrev pa27 : List DP := [.own (.sc (.int .u8)), .sc (.int .i64)]
abbrev pr27 : RP := (.tup [.sc .str, .sc (.int .i64), .sc (.int .i64)])
def fun27 (f : dpα pa27 → Option pr27.α) : Fun := mkFun pa27 pr27 f
abbrev pi27_0 : List IP := [.ros (.sc (.int .u8)), .junk, .junk, .junk, .junk, .junk, .junk, .own (.sc (.int .u8)), .sc (.int .i64), .junk, .junk, .junk, .junk, .junk, .junk, .junk, .junk, .junk, .junk, .junk, .junk, .junk, .junk, .junk, .junk, .junk, .junk, .junk, .junk, .junk, .junk, .junk, .junk, .junk, .junk, .junk, .junk, .junk, .junk, .junk, .junk, .junk, .junk, .junk, .junk, .junk, .junk, .junk, .junk, .junk, .junk, .junk, .junk, .junk, .junk, .junk, .junk, .junk, .junk, .junk, .junk, .junk]
abbrev px27_0 : List IP := [.junk, .junk, .junk, .junk, .junk, .junk, .junk, .junk, .junk, .junk, .junk, .junk, .junk, .junk, .junk, .junk, .junk, .junk, .junk, .junk, .junk, .junk, .junk, .junk, .junk, .junk, .junk, .junk, .junk, .junk, .junk, .junk, .junk, .junk, .junk, .junk, .junk, .junk, .junk, .junk, .junk, .junk, .junk, .junk, .junk, .junk, .junk, .junk, .junk, .junk, .junk, .junk, .junk, .junk, .junk, .junk, .junk, .junk, .junk, .junk, .junk, .junk]
def gam27 : List (Nat × Fun) := []
def lam27 (l0 : ipα pi27_0 → (ipα px27_0 → Option pr27.α) → Option pr27.α) : List (Nat × LoopC pr27.α) := [(0, mkLoop pi27_0 px27_0 l0)]
def env27 (l0 : ipα pi27_0 → (ipα px27_0 → Option pr27.α) → Option pr27.α) : Env pr27.α := mkEnv pr27.α tyT gam27 glob (lam27 l0)
theorem env27_ok {X : Cx} (hP : X.P = Try.prog) (hG : X.G = glob) : EnvOk X (env27 r02_ReadText.l0) := envOk_of hP hG mixed_ok tyT_ok trivial
theorem st27_0 (l0 : ipα pi27_0 → (ipα px27_0 → Option pr27.α) → Option pr27.α) : ∀ s kx κ, r02_ReadText.s0b kx s κ = ev (env27 l0) (innerOf 0 (bodyOf Try.f27)) (ipInj pi27_0 s) (roundK pi27_0 px27_0 0 (endK (env27 l0) Try.f27.results.toList pr27 .ret) kx κ) := by
  intro s kx κ; kernel_rfl
theorem lo27_0 {X : Cx} {w0 : World} (hP : X.P = Try.prog) (hG : X.G = glob) : LoopOk X w0 (mkLoop pi27_0 px27_0 r02_ReadText.l0) (.loop (innerOf 0 (bodyOf Try.f27))) 0 (endK (env27 r02_ReadText.l0) Try.f27.results.toList pr27 .ret) :=
  loop_ok (env27_ok hP hG) (by kernel_rfl) (by kernel_rfl) r02_ReadText.s0 r02_ReadText.n0 (fun _ _ => rfl) (loopsOk_of [] (by kernel_rfl) trivial) (st27_0 r02_ReadText.l0 )
theorem ev27 (l0 : ipα pi27_0 → (ipα px27_0 → Option pr27.α) → Option pr27.α) : ∀ x, r02_ReadText.b l0 x = ev (env27 l0) (bodyOf Try.f27) (start pa27 (Try.f27.ntmps - pa27.length) x) (endK (env27 l0) Try.f27.results.toList pr27) := by
  intro x; kernel_rfl
theorem fun27_ok : FunOk Try.prog glob 27 (fun27 r02_ReadText) :=
  fun_ok (pa := pa27) (pr := pr27) r02_ReadText (env27 r02_ReadText.l0) Try.func27 (by kernel_rfl) (fun X hP hG => env27_ok hP hG) (fun X w0 hP hG => loopsOk_of [(0, .loop (innerOf 0 (bodyOf Try.f27)))] (by kernel_rfl) ⟨⟨_, by kernel_rfl, lo27_0 hP hG⟩, trivial⟩) (ev27 r02_ReadText.l0 )
/-! muniment/munimentlaw02.OctetReads -/
abbrev pa9 : List DP := [.own (.sc (.int .u8)), .sc (.int .i64)]
abbrev pr9 : RP := (.one (.sc .bool))
def fun9 (f : dpα pa9 → Option pr9.α) : Fun := mkFun pa9 pr9 f
def gam9 (f11 : dpα pa11 → Option pr11.α) (f18 : dpα pa18 → Option pr18.α) (f20 : dpα pa20 → Option pr20.α) (f22 : dpα pa22 → Option pr22.α) (f25 : dpα pa25 → Option pr25.α) (f26 : dpα pa26 → Option pr26.α) (f27 : dpα pa27 → Option pr27.α) : List (Nat × Fun) := [(11, fun11 f11), (18, fun18 f18), (20, fun20 f20), (22, fun22 f22), (25, fun25 f25), (26, fun26 f26), (27, fun27 f27)]
def lam9 : List (Nat × LoopC pr9.α) := []
def env9 (f11 : dpα pa11 → Option pr11.α) (f18 : dpα pa18 → Option pr18.α) (f20 : dpα pa20 → Option pr20.α) (f22 : dpα pa22 → Option pr22.α) (f25 : dpα pa25 → Option pr25.α) (f26 : dpα pa26 → Option pr26.α) (f27 : dpα pa27 → Option pr27.α) : Env pr9.α := mkEnv pr9.α tyT (gam9 f11 f18 f20 f22 f25 f26 f27) glob lam9
theorem env9_ok {X : Cx} (hP : X.P = Try.prog) (hG : X.G = glob) : EnvOk X (env9 w02_awake octet_ReadText octet_ReadUint octet_ReadInt r02_ReadUint r02_ReadInt r02_ReadText) := envOk_of hP hG mixed_ok tyT_ok ⟨⟨fun11_ok, _, Try.func11, by kernel_rfl, by kernel_rfl⟩, ⟨fun18_ok, _, Try.func18, by kernel_rfl, by kernel_rfl⟩, ⟨fun20_ok, _, Try.func20, by kernel_rfl, by kernel_rfl⟩, ⟨fun22_ok, _, Try.func22, by kernel_rfl, by kernel_rfl⟩, ⟨fun25_ok, _, Try.func25, by kernel_rfl, by kernel_rfl⟩, ⟨fun26_ok, _, Try.func26, by kernel_rfl, by kernel_rfl⟩, ⟨fun27_ok, _, Try.func27, by kernel_rfl, by kernel_rfl⟩, trivial⟩
theorem ev9 (f11 : dpα pa11 → Option pr11.α) (f18 : dpα pa18 → Option pr18.α) (f20 : dpα pa20 → Option pr20.α) (f22 : dpα pa22 → Option pr22.α) (f25 : dpα pa25 → Option pr25.α) (f26 : dpα pa26 → Option pr26.α) (f27 : dpα pa27 → Option pr27.α) : ∀ x, w02_OctetReads.b f11 f18 f20 f22 f25 f26 f27 x = ev (env9 f11 f18 f20 f22 f25 f26 f27) (bodyOf Try.f9) (start pa9 (Try.f9.ntmps - pa9.length) x) (endK (env9 f11 f18 f20 f22 f25 f26 f27) Try.f9.results.toList pr9) := by
  intro x; kernel_rfl
theorem fun9_ok : FunOk Try.prog glob 9 (fun9 w02_OctetReads) :=
  fun_ok (pa := pa9) (pr := pr9) w02_OctetReads (env9 w02_awake octet_ReadText octet_ReadUint octet_ReadInt r02_ReadUint r02_ReadInt r02_ReadText) Try.func9 (by kernel_rfl) (fun X hP hG => env9_ok hP hG) (fun X w0 hP hG => loopsOk_of [] (by kernel_rfl) trivial) (ev9 w02_awake octet_ReadText octet_ReadUint octet_ReadInt r02_ReadUint r02_ReadInt r02_ReadText )
/-! muniment/munimentlaw02.OctetRuns -/
abbrev pa10 : List DP := [.own (.sc .str), .own (.sc (.int .i64))]
abbrev pr10 : RP := (.one (.sc .bool))
def fun10 (f : dpα pa10 → Option pr10.α) : Fun := mkFun pa10 pr10 f
abbrev pi10_0 : List IP := [.ros (.sc .str), .ros (.sc (.int .i64)), .junk, .junk, .junk, .own (.sc (.int .u8)), .sc (.int .i64), .junk, .junk, .junk, .junk, .junk, .junk, .junk, .junk, .junk, .junk, .junk, .junk, .junk, .junk, .junk, .junk, .junk, .junk, .junk, .junk, .junk, .junk, .junk, .junk, .junk, .junk, .junk, .junk, .junk, .junk, .junk, .junk, .junk, .junk, .junk, .junk, .junk, .junk, .junk, .junk, .junk, .junk, .junk, .junk, .junk, .junk, .junk, .junk, .junk, .junk, .junk, .junk, .junk, .junk, .junk, .junk, .junk, .junk, .junk, .junk, .junk, .junk, .junk, .junk, .junk, .junk, .junk, .junk, .junk, .junk, .junk, .junk, .junk, .junk, .junk, .junk, .junk, .junk, .junk, .junk, .junk, .junk, .junk, .junk, .junk, .junk, .junk, .junk, .junk, .junk, .junk, .junk, .junk]
abbrev px10_0 : List IP := [.ros (.sc .str), .ros (.sc (.int .i64)), .junk, .junk, .junk, .own (.sc (.int .u8)), .junk, .junk, .junk, .junk, .junk, .junk, .junk, .junk, .junk, .junk, .junk, .junk, .junk, .junk, .junk, .junk, .junk, .junk, .junk, .junk, .junk, .junk, .junk, .junk, .junk, .junk, .junk, .junk, .junk, .junk, .junk, .junk, .junk, .junk, .junk, .junk, .junk, .junk, .junk, .junk, .junk, .junk, .junk, .junk, .junk, .junk, .junk, .junk, .junk, .junk, .junk, .junk, .junk, .junk, .junk, .junk, .junk, .junk, .junk, .junk, .junk, .junk, .junk, .junk, .junk, .junk, .junk, .junk, .junk, .junk, .junk, .junk, .junk, .junk, .junk, .junk, .junk, .junk, .junk, .junk, .junk, .junk, .junk, .junk, .junk, .junk, .junk, .junk, .junk, .junk, .junk, .junk, .junk, .junk]
abbrev pi10_2 : List IP := [.ros (.sc .str), .ros (.sc (.int .i64)), .junk, .junk, .junk, .own (.sc (.int .u8)), .junk, .sc (.int .i64), .sc (.int .i64), .junk, .junk, .junk, .junk, .junk, .junk, .junk, .junk, .junk, .junk, .junk, .junk, .junk, .junk, .junk, .junk, .junk, .junk, .junk, .junk, .junk, .junk, .junk, .junk, .junk, .junk, .junk, .junk, .junk, .junk, .junk, .junk, .junk, .junk, .junk, .junk, .junk, .junk, .junk, .junk, .junk, .junk, .junk, .junk, .junk, .junk, .junk, .junk, .junk, .junk, .junk, .junk, .junk, .junk, .junk, .junk, .junk, .junk, .junk, .junk, .junk, .junk, .junk, .junk, .junk, .junk, .junk, .junk, .junk, .junk, .junk, .junk, .junk, .junk, .junk, .junk, .junk, .junk, .junk, .junk, .junk, .junk, .junk, .junk, .junk, .junk, .junk, .junk, .junk, .junk, .junk]
abbrev px10_2 : List IP := [.junk, .junk, .junk, .junk, .junk, .own (.sc (.int .u8)), .junk, .sc (.int .i64), .junk, .junk, .junk, .junk, .junk, .junk, .junk, .junk, .junk, .junk, .junk, .junk, .junk, .junk, .junk, .junk, .junk, .junk, .junk, .junk, .junk, .junk, .junk, .junk, .junk, .junk, .junk, .junk, .junk, .junk, .junk, .junk, .junk, .junk, .junk, .junk, .junk, .junk, .junk, .junk, .junk, .junk, .junk, .junk, .junk, .junk, .junk, .junk, .junk, .junk, .junk, .junk, .junk, .junk, .junk, .junk, .junk, .junk, .junk, .junk, .junk, .junk, .junk, .junk, .junk, .junk, .junk, .junk, .junk, .junk, .junk, .junk, .junk, .junk, .junk, .junk, .junk, .junk, .junk, .junk, .junk, .junk, .junk, .junk, .junk, .junk, .junk, .junk, .junk, .junk, .junk, .junk]
def gam10 (f11 : dpα pa11 → Option pr11.α) (f16 : dpα pa16 → Option pr16.α) (f17 : dpα pa17 → Option pr17.α) (f18 : dpα pa18 → Option pr18.α) (f22 : dpα pa22 → Option pr22.α) : List (Nat × Fun) := [(11, fun11 f11), (16, fun16 f16), (17, fun17 f17), (18, fun18 f18), (22, fun22 f22)]
def lam10 (l0 : ipα pi10_0 → (ipα px10_0 → Option pr10.α) → Option pr10.α) (l2 : ipα pi10_2 → (ipα px10_2 → Option pr10.α) → Option pr10.α) : List (Nat × LoopC pr10.α) := [(0, mkLoop pi10_0 px10_0 l0), (2, mkLoop pi10_2 px10_2 l2)]
def env10 (f11 : dpα pa11 → Option pr11.α) (f16 : dpα pa16 → Option pr16.α) (f17 : dpα pa17 → Option pr17.α) (f18 : dpα pa18 → Option pr18.α) (f22 : dpα pa22 → Option pr22.α) (l0 : ipα pi10_0 → (ipα px10_0 → Option pr10.α) → Option pr10.α) (l2 : ipα pi10_2 → (ipα px10_2 → Option pr10.α) → Option pr10.α) : Env pr10.α := mkEnv pr10.α tyT (gam10 f11 f16 f17 f18 f22) glob (lam10 l0 l2)
theorem env10_ok {X : Cx} (hP : X.P = Try.prog) (hG : X.G = glob) : EnvOk X (env10 w02_awake octet_Text octet_Int octet_ReadText octet_ReadInt w02_OctetRuns.l0 w02_OctetRuns.l2) := envOk_of hP hG mixed_ok tyT_ok ⟨⟨fun11_ok, _, Try.func11, by kernel_rfl, by kernel_rfl⟩, ⟨fun16_ok, _, Try.func16, by kernel_rfl, by kernel_rfl⟩, ⟨fun17_ok, _, Try.func17, by kernel_rfl, by kernel_rfl⟩, ⟨fun18_ok, _, Try.func18, by kernel_rfl, by kernel_rfl⟩, ⟨fun22_ok, _, Try.func22, by kernel_rfl, by kernel_rfl⟩, trivial⟩
theorem st10_0 (f11 : dpα pa11 → Option pr11.α) (f16 : dpα pa16 → Option pr16.α) (f17 : dpα pa17 → Option pr17.α) (f18 : dpα pa18 → Option pr18.α) (f22 : dpα pa22 → Option pr22.α) (l0 : ipα pi10_0 → (ipα px10_0 → Option pr10.α) → Option pr10.α) (l2 : ipα pi10_2 → (ipα px10_2 → Option pr10.α) → Option pr10.α) : ∀ s kx κ, w02_OctetRuns.s0b f16 f17 kx s κ = ev (env10 f11 f16 f17 f18 f22 l0 l2) (innerOf 0 (bodyOf Try.f10)) (ipInj pi10_0 s) (roundK pi10_0 px10_0 0 (endK (env10 f11 f16 f17 f18 f22 l0 l2) Try.f10.results.toList pr10 .ret) kx κ) := by
  intro s kx κ; kernel_rfl
theorem lo10_0 {X : Cx} {w0 : World} (hP : X.P = Try.prog) (hG : X.G = glob) : LoopOk X w0 (mkLoop pi10_0 px10_0 w02_OctetRuns.l0) (.loop (innerOf 0 (bodyOf Try.f10))) 0 (endK (env10 w02_awake octet_Text octet_Int octet_ReadText octet_ReadInt w02_OctetRuns.l0 w02_OctetRuns.l2) Try.f10.results.toList pr10 .ret) :=
  loop_ok (env10_ok hP hG) (by kernel_rfl) (by kernel_rfl) w02_OctetRuns.s0 w02_OctetRuns.n0 (fun _ _ => rfl) (loopsOk_of [] (by kernel_rfl) trivial) (st10_0 w02_awake octet_Text octet_Int octet_ReadText octet_ReadInt w02_OctetRuns.l0 w02_OctetRuns.l2 )
theorem st10_2 (f11 : dpα pa11 → Option pr11.α) (f16 : dpα pa16 → Option pr16.α) (f17 : dpα pa17 → Option pr17.α) (f18 : dpα pa18 → Option pr18.α) (f22 : dpα pa22 → Option pr22.α) (l0 : ipα pi10_0 → (ipα px10_0 → Option pr10.α) → Option pr10.α) (l2 : ipα pi10_2 → (ipα px10_2 → Option pr10.α) → Option pr10.α) : ∀ s kx κ, w02_OctetRuns.s2b f18 f22 kx s κ = ev (env10 f11 f16 f17 f18 f22 l0 l2) (innerOf 2 (bodyOf Try.f10)) (ipInj pi10_2 s) (roundK pi10_2 px10_2 2 (endK (env10 f11 f16 f17 f18 f22 l0 l2) Try.f10.results.toList pr10 .ret) kx κ) := by
  intro s kx κ; kernel_rfl
theorem lo10_2 {X : Cx} {w0 : World} (hP : X.P = Try.prog) (hG : X.G = glob) : LoopOk X w0 (mkLoop pi10_2 px10_2 w02_OctetRuns.l2) (.loop (innerOf 2 (bodyOf Try.f10))) 2 (endK (env10 w02_awake octet_Text octet_Int octet_ReadText octet_ReadInt w02_OctetRuns.l0 w02_OctetRuns.l2) Try.f10.results.toList pr10 .ret) :=
  loop_ok (env10_ok hP hG) (by kernel_rfl) (by kernel_rfl) w02_OctetRuns.s2 w02_OctetRuns.n2 (fun _ _ => rfl) (loopsOk_of [] (by kernel_rfl) trivial) (st10_2 w02_awake octet_Text octet_Int octet_ReadText octet_ReadInt w02_OctetRuns.l0 w02_OctetRuns.l2 )
theorem ev10 (f11 : dpα pa11 → Option pr11.α) (f16 : dpα pa16 → Option pr16.α) (f17 : dpα pa17 → Option pr17.α) (f18 : dpα pa18 → Option pr18.α) (f22 : dpα pa22 → Option pr22.α) (l0 : ipα pi10_0 → (ipα px10_0 → Option pr10.α) → Option pr10.α) (l2 : ipα pi10_2 → (ipα px10_2 → Option pr10.α) → Option pr10.α) : ∀ x, w02_OctetRuns.b f11 l0 l2 x = ev (env10 f11 f16 f17 f18 f22 l0 l2) (bodyOf Try.f10) (start pa10 (Try.f10.ntmps - pa10.length) x) (endK (env10 f11 f16 f17 f18 f22 l0 l2) Try.f10.results.toList pr10) := by
  intro x; kernel_rfl
theorem fun10_ok : FunOk Try.prog glob 10 (fun10 w02_OctetRuns) :=
  fun_ok (pa := pa10) (pr := pr10) w02_OctetRuns (env10 w02_awake octet_Text octet_Int octet_ReadText octet_ReadInt w02_OctetRuns.l0 w02_OctetRuns.l2) Try.func10 (by kernel_rfl) (fun X hP hG => env10_ok hP hG) (fun X w0 hP hG => loopsOk_of [(0, .loop (innerOf 0 (bodyOf Try.f10))), (2, .loop (innerOf 2 (bodyOf Try.f10)))] (by kernel_rfl) ⟨⟨_, by kernel_rfl, lo10_0 hP hG⟩, ⟨_, by kernel_rfl, lo10_2 hP hG⟩, trivial⟩) (ev10 w02_awake octet_Text octet_Int octet_ReadText octet_ReadInt w02_OctetRuns.l0 w02_OctetRuns.l2 )
end Go.Px.oct
