/-
  NARROWER THAN 'FOR EVERY INPUT', by the rows' own cells (each row's printed sentence says how): PassMakes: laid · PassChecks: laid · PassSalts: laid · PassTexts: laid · PassRounds: laid · TokenCodes: laid · TokenSigns: laid · TokenVerifies: laid · TokenForged: laid · TokenKeys: laid · TokenTold: laid.
  DERIVED. THE GIVEN ROWS OF THIS SEAT. 11 by the template 'for every input the law returns true; each argument reads behind the call as it read before'; 0 by the template 'total and deterministic' (their statements: YtgmfjbbhdnfapaaDoorTotals.lean).
  GIVEN WITH THE SEED: the statements are not yours to turn. If you find one false, say at which input.
  Laid BY PROGRAM, IN A SANDBOX (cutbox-rows.mjs): the forced cells as the released guide's own fill.sh prints them over the translation df7b8d0fa38494ed… (all of the seat's roots in one cut). By AI agents, Wed Nov 11 2026. No macro, syntax, notation, axiom, sorry.
-/
import Derived.Test.YtgmfjbbhdnfapaaDoorChecked
import GoSem.PinnedTables
import GoSem.Claim
import GoSem.ClaimJoined
import GoSem.ClaimMapViews
import Derived.JoinedTies
import Derived.KernelRfl
namespace Go.Proofs.YtgmfjbbhdnfapaaDoor
/- THE CELL 'sum', in the pinned program and in every row, IS THE sha256 OF THE DUMP (.gsa) THAT YtgmfjbbhdnfapaaDoorProg.lean LOADS. Nothing in Lean hashes anything: it is a label: what it is worth is what the hold of that sum in a sandbox is worth. -/
noncomputable def Tryd.pinned : Pinned := { name := "ytgmfjbbhdnfapaadoor", sum := "df7b8d0fa38494ede2922e677c42a33e94832c93cb4b6b634efd0a882184e712", checked := Tryd.checked }
namespace Rows
def none {H : Type} : Left H := { results := [], args := [] }

/- WHAT THE LISTED PACKAGE-LEVEL VARIABLES READ AS WHEN THE CALL BEGINS. Each datum BY PROGRAM (the guide's laid-datum.mjs) off the statement by which the dump's own 'gosem.cut.vars' lays the variable. In a bare row this is a premise. The card (YtgmfjbbhdnfapaaDoorCards.lean) ties it to the program's text. -/
def laid_muniment_digest_first {H : Type} : DataW H := .agg [.lit (.int .u32 1779033703), .lit (.int .u32 3144134277), .lit (.int .u32 1013904242), .lit (.int .u32 2773480762), .lit (.int .u32 1359893119), .lit (.int .u32 2600822924), .lit (.int .u32 528734635), .lit (.int .u32 1541459225)]
def laid_muniment_digest_parts {H : Type} : DataW H := .agg [.lit (.int .u32 1116352408), .lit (.int .u32 1899447441), .lit (.int .u32 3049323471), .lit (.int .u32 3921009573), .lit (.int .u32 961987163), .lit (.int .u32 1508970993), .lit (.int .u32 2453635748), .lit (.int .u32 2870763221), .lit (.int .u32 3624381080), .lit (.int .u32 310598401), .lit (.int .u32 607225278), .lit (.int .u32 1426881987), .lit (.int .u32 1925078388), .lit (.int .u32 2162078206), .lit (.int .u32 2614888103), .lit (.int .u32 3248222580), .lit (.int .u32 3835390401), .lit (.int .u32 4022224774), .lit (.int .u32 264347078), .lit (.int .u32 604807628), .lit (.int .u32 770255983), .lit (.int .u32 1249150122), .lit (.int .u32 1555081692), .lit (.int .u32 1996064986), .lit (.int .u32 2554220882), .lit (.int .u32 2821834349), .lit (.int .u32 2952996808), .lit (.int .u32 3210313671), .lit (.int .u32 3336571891), .lit (.int .u32 3584528711), .lit (.int .u32 113926993), .lit (.int .u32 338241895), .lit (.int .u32 666307205), .lit (.int .u32 773529912), .lit (.int .u32 1294757372), .lit (.int .u32 1396182291), .lit (.int .u32 1695183700), .lit (.int .u32 1986661051), .lit (.int .u32 2177026350), .lit (.int .u32 2456956037), .lit (.int .u32 2730485921), .lit (.int .u32 2820302411), .lit (.int .u32 3259730800), .lit (.int .u32 3345764771), .lit (.int .u32 3516065817), .lit (.int .u32 3600352804), .lit (.int .u32 4094571909), .lit (.int .u32 275423344), .lit (.int .u32 430227734), .lit (.int .u32 506948616), .lit (.int .u32 659060556), .lit (.int .u32 883997877), .lit (.int .u32 958139571), .lit (.int .u32 1322822218), .lit (.int .u32 1537002063), .lit (.int .u32 1747873779), .lit (.int .u32 1955562222), .lit (.int .u32 2024104815), .lit (.int .u32 2227730452), .lit (.int .u32 2361852424), .lit (.int .u32 2428436474), .lit (.int .u32 2756734187), .lit (.int .u32 3204031479), .lit (.int .u32 3329325298)]
def laid_unicode_utf8_acceptRanges {H : Type} : DataW H := .agg [.agg [.lit (.int .u8 128), .lit (.int .u8 191)], .agg [.lit (.int .u8 160), .lit (.int .u8 191)], .agg [.lit (.int .u8 128), .lit (.int .u8 159)], .agg [.lit (.int .u8 144), .lit (.int .u8 191)], .agg [.lit (.int .u8 128), .lit (.int .u8 143)], .agg [.lit (.int .u8 0), .lit (.int .u8 0)], .agg [.lit (.int .u8 0), .lit (.int .u8 0)], .agg [.lit (.int .u8 0), .lit (.int .u8 0)], .agg [.lit (.int .u8 0), .lit (.int .u8 0)], .agg [.lit (.int .u8 0), .lit (.int .u8 0)], .agg [.lit (.int .u8 0), .lit (.int .u8 0)], .agg [.lit (.int .u8 0), .lit (.int .u8 0)], .agg [.lit (.int .u8 0), .lit (.int .u8 0)], .agg [.lit (.int .u8 0), .lit (.int .u8 0)], .agg [.lit (.int .u8 0), .lit (.int .u8 0)], .agg [.lit (.int .u8 0), .lit (.int .u8 0)]]
/-- One of Go's own tables, pinned by name: the form's constant. -/
def laid_unicode_utf8_first : DataW Unit := Go.Pinned.utf8First

/-- 'munimentlaw18.PassMakes': WHATEVER THE INPUT: true; the input reads as it did. -/
def passMakesSpec : ChangeSpec := { name := "passMakes", fn := fun _ => fun
  | [d1, d2, d3] => { results := [.lit (.bool true)], args := [d1, d2, d3] }
  | _ => none }
def passMakesRow : OpenClaim := { program := "ytgmfjbbhdnfapaadoor", sum := "df7b8d0fa38494ede2922e677c42a33e94832c93cb4b6b634efd0a882184e712", func := "muniment/munimentlaw18.PassMakes", spec := "passMakes", named := ["muniment/digest.first", "muniment/digest.parts"], apart := false, laid := [("muniment/digest.first", laid_muniment_digest_first), ("muniment/digest.parts", laid_muniment_digest_parts)] }
def PassMakesSaid : Prop := passMakesRow.holds Tryd.pinned (OpenSpec.ofChange passMakesSpec)

/-- ITS FALSE NEIGHBOUR: 'it returns false'. Refute it at one input. -/
def passMakesWrong : ChangeSpec := { name := "passMakes", fn := fun _ => fun
  | [d1, d2, d3] => { results := [.lit (.bool false)], args := [d1, d2, d3] }
  | _ => none }
def PassMakesWrongFalsely : Prop := passMakesRow.holds Tryd.pinned (OpenSpec.ofChange passMakesWrong)

/-- 'munimentlaw18.PassChecks': WHATEVER THE INPUT: true; the input reads as it did. -/
def passChecksSpec : ChangeSpec := { name := "passChecks", fn := fun _ => fun
  | [d1, d2, d3, d4] => { results := [.lit (.bool true)], args := [d1, d2, d3, d4] }
  | _ => none }
def passChecksRow : OpenClaim := { program := "ytgmfjbbhdnfapaadoor", sum := "df7b8d0fa38494ede2922e677c42a33e94832c93cb4b6b634efd0a882184e712", func := "muniment/munimentlaw18.PassChecks", spec := "passChecks", named := ["muniment/digest.first", "muniment/digest.parts"], apart := false, laid := [("muniment/digest.first", laid_muniment_digest_first), ("muniment/digest.parts", laid_muniment_digest_parts)] }
def PassChecksSaid : Prop := passChecksRow.holds Tryd.pinned (OpenSpec.ofChange passChecksSpec)

/-- ITS FALSE NEIGHBOUR: 'it returns false'. Refute it at one input. -/
def passChecksWrong : ChangeSpec := { name := "passChecks", fn := fun _ => fun
  | [d1, d2, d3, d4] => { results := [.lit (.bool false)], args := [d1, d2, d3, d4] }
  | _ => none }
def PassChecksWrongFalsely : Prop := passChecksRow.holds Tryd.pinned (OpenSpec.ofChange passChecksWrong)

/-- 'munimentlaw18.PassSalts': WHATEVER THE INPUT: true; the input reads as it did. -/
def passSaltsSpec : ChangeSpec := { name := "passSalts", fn := fun _ => fun
  | [d1, d2, d3, d4] => { results := [.lit (.bool true)], args := [d1, d2, d3, d4] }
  | _ => none }
def passSaltsRow : OpenClaim := { program := "ytgmfjbbhdnfapaadoor", sum := "df7b8d0fa38494ede2922e677c42a33e94832c93cb4b6b634efd0a882184e712", func := "muniment/munimentlaw18.PassSalts", spec := "passSalts", named := ["muniment/digest.first", "muniment/digest.parts"], apart := false, laid := [("muniment/digest.first", laid_muniment_digest_first), ("muniment/digest.parts", laid_muniment_digest_parts)] }
def PassSaltsSaid : Prop := passSaltsRow.holds Tryd.pinned (OpenSpec.ofChange passSaltsSpec)

/-- ITS FALSE NEIGHBOUR: 'it returns false'. Refute it at one input. -/
def passSaltsWrong : ChangeSpec := { name := "passSalts", fn := fun _ => fun
  | [d1, d2, d3, d4] => { results := [.lit (.bool false)], args := [d1, d2, d3, d4] }
  | _ => none }
def PassSaltsWrongFalsely : Prop := passSaltsRow.holds Tryd.pinned (OpenSpec.ofChange passSaltsWrong)

/-- 'munimentlaw18.PassTexts': WHATEVER THE INPUT: true; the input reads as it did. -/
def passTextsSpec : ChangeSpec := { name := "passTexts", fn := fun _ => fun
  | [d1, d2] => { results := [.lit (.bool true)], args := [d1, d2] }
  | _ => none }
def passTextsRow : OpenClaim := { program := "ytgmfjbbhdnfapaadoor", sum := "df7b8d0fa38494ede2922e677c42a33e94832c93cb4b6b634efd0a882184e712", func := "muniment/munimentlaw18.PassTexts", spec := "passTexts", named := ["muniment/digest.first", "muniment/digest.parts"], apart := false, laid := [("muniment/digest.first", laid_muniment_digest_first), ("muniment/digest.parts", laid_muniment_digest_parts)] }
def PassTextsSaid : Prop := passTextsRow.holds Tryd.pinned (OpenSpec.ofChange passTextsSpec)

/-- ITS FALSE NEIGHBOUR: 'it returns false'. Refute it at one input. -/
def passTextsWrong : ChangeSpec := { name := "passTexts", fn := fun _ => fun
  | [d1, d2] => { results := [.lit (.bool false)], args := [d1, d2] }
  | _ => none }
def PassTextsWrongFalsely : Prop := passTextsRow.holds Tryd.pinned (OpenSpec.ofChange passTextsWrong)

/-- 'munimentlaw18.PassRounds': WHATEVER THE INPUT: true; the input reads as it did. -/
def passRoundsSpec : ChangeSpec := { name := "passRounds", fn := fun _ => fun
  | [d1, d2, d3, d4] => { results := [.lit (.bool true)], args := [d1, d2, d3, d4] }
  | _ => none }
def passRoundsRow : OpenClaim := { program := "ytgmfjbbhdnfapaadoor", sum := "df7b8d0fa38494ede2922e677c42a33e94832c93cb4b6b634efd0a882184e712", func := "muniment/munimentlaw18.PassRounds", spec := "passRounds", named := ["muniment/digest.first", "muniment/digest.parts"], apart := false, laid := [("muniment/digest.first", laid_muniment_digest_first), ("muniment/digest.parts", laid_muniment_digest_parts)] }
def PassRoundsSaid : Prop := passRoundsRow.holds Tryd.pinned (OpenSpec.ofChange passRoundsSpec)

/-- ITS FALSE NEIGHBOUR: 'it returns false'. Refute it at one input. -/
def passRoundsWrong : ChangeSpec := { name := "passRounds", fn := fun _ => fun
  | [d1, d2, d3, d4] => { results := [.lit (.bool false)], args := [d1, d2, d3, d4] }
  | _ => none }
def PassRoundsWrongFalsely : Prop := passRoundsRow.holds Tryd.pinned (OpenSpec.ofChange passRoundsWrong)

/-- 'munimentlaw19.TokenCodes': WHATEVER THE INPUT: true; the input reads as it did. -/
def tokenCodesSpec : ChangeSpec := { name := "tokenCodes", fn := fun _ => fun
  | [d1, d2] => { results := [.lit (.bool true)], args := [d1, d2] }
  | _ => none }
def tokenCodesRow : OpenClaim := { program := "ytgmfjbbhdnfapaadoor", sum := "df7b8d0fa38494ede2922e677c42a33e94832c93cb4b6b634efd0a882184e712", func := "muniment/munimentlaw19.TokenCodes", spec := "tokenCodes", named := ["muniment/digest.first", "muniment/digest.parts", "unicode/utf8.first", "unicode/utf8.acceptRanges"], apart := false, laid := [("muniment/digest.first", laid_muniment_digest_first), ("muniment/digest.parts", laid_muniment_digest_parts), ("unicode/utf8.acceptRanges", laid_unicode_utf8_acceptRanges), ("unicode/utf8.first", laid_unicode_utf8_first)] }
def TokenCodesSaid : Prop := tokenCodesRow.holds Tryd.pinned (OpenSpec.ofChange tokenCodesSpec)

/-- ITS FALSE NEIGHBOUR: 'it returns false'. Refute it at one input. -/
def tokenCodesWrong : ChangeSpec := { name := "tokenCodes", fn := fun _ => fun
  | [d1, d2] => { results := [.lit (.bool false)], args := [d1, d2] }
  | _ => none }
def TokenCodesWrongFalsely : Prop := tokenCodesRow.holds Tryd.pinned (OpenSpec.ofChange tokenCodesWrong)

/-- 'munimentlaw19.TokenSigns': WHATEVER THE INPUT: true; the input reads as it did. -/
def tokenSignsSpec : ChangeSpec := { name := "tokenSigns", fn := fun _ => fun
  | [d1, d2, d3] => { results := [.lit (.bool true)], args := [d1, d2, d3] }
  | _ => none }
def tokenSignsRow : OpenClaim := { program := "ytgmfjbbhdnfapaadoor", sum := "df7b8d0fa38494ede2922e677c42a33e94832c93cb4b6b634efd0a882184e712", func := "muniment/munimentlaw19.TokenSigns", spec := "tokenSigns", named := ["muniment/digest.first", "muniment/digest.parts", "unicode/utf8.first", "unicode/utf8.acceptRanges"], apart := false, laid := [("muniment/digest.first", laid_muniment_digest_first), ("muniment/digest.parts", laid_muniment_digest_parts), ("unicode/utf8.acceptRanges", laid_unicode_utf8_acceptRanges), ("unicode/utf8.first", laid_unicode_utf8_first)] }
def TokenSignsSaid : Prop := tokenSignsRow.holds Tryd.pinned (OpenSpec.ofChange tokenSignsSpec)

/-- ITS FALSE NEIGHBOUR: 'it returns false'. Refute it at one input. -/
def tokenSignsWrong : ChangeSpec := { name := "tokenSigns", fn := fun _ => fun
  | [d1, d2, d3] => { results := [.lit (.bool false)], args := [d1, d2, d3] }
  | _ => none }
def TokenSignsWrongFalsely : Prop := tokenSignsRow.holds Tryd.pinned (OpenSpec.ofChange tokenSignsWrong)

/-- 'munimentlaw19.TokenVerifies': WHATEVER THE INPUT: true; the input reads as it did. -/
def tokenVerifiesSpec : ChangeSpec := { name := "tokenVerifies", fn := fun _ => fun
  | [d1, d2, d3] => { results := [.lit (.bool true)], args := [d1, d2, d3] }
  | _ => none }
def tokenVerifiesRow : OpenClaim := { program := "ytgmfjbbhdnfapaadoor", sum := "df7b8d0fa38494ede2922e677c42a33e94832c93cb4b6b634efd0a882184e712", func := "muniment/munimentlaw19.TokenVerifies", spec := "tokenVerifies", named := ["muniment/digest.first", "muniment/digest.parts", "unicode/utf8.first", "unicode/utf8.acceptRanges"], apart := false, laid := [("muniment/digest.first", laid_muniment_digest_first), ("muniment/digest.parts", laid_muniment_digest_parts), ("unicode/utf8.acceptRanges", laid_unicode_utf8_acceptRanges), ("unicode/utf8.first", laid_unicode_utf8_first)] }
def TokenVerifiesSaid : Prop := tokenVerifiesRow.holds Tryd.pinned (OpenSpec.ofChange tokenVerifiesSpec)

/-- ITS FALSE NEIGHBOUR: 'it returns false'. Refute it at one input. -/
def tokenVerifiesWrong : ChangeSpec := { name := "tokenVerifies", fn := fun _ => fun
  | [d1, d2, d3] => { results := [.lit (.bool false)], args := [d1, d2, d3] }
  | _ => none }
def TokenVerifiesWrongFalsely : Prop := tokenVerifiesRow.holds Tryd.pinned (OpenSpec.ofChange tokenVerifiesWrong)

/-- 'munimentlaw19.TokenForged': WHATEVER THE INPUT: true; the input reads as it did. -/
def tokenForgedSpec : ChangeSpec := { name := "tokenForged", fn := fun _ => fun
  | [d1, d2, d3, d4] => { results := [.lit (.bool true)], args := [d1, d2, d3, d4] }
  | _ => none }
def tokenForgedRow : OpenClaim := { program := "ytgmfjbbhdnfapaadoor", sum := "df7b8d0fa38494ede2922e677c42a33e94832c93cb4b6b634efd0a882184e712", func := "muniment/munimentlaw19.TokenForged", spec := "tokenForged", named := ["muniment/digest.first", "muniment/digest.parts", "unicode/utf8.first", "unicode/utf8.acceptRanges"], apart := false, laid := [("muniment/digest.first", laid_muniment_digest_first), ("muniment/digest.parts", laid_muniment_digest_parts), ("unicode/utf8.acceptRanges", laid_unicode_utf8_acceptRanges), ("unicode/utf8.first", laid_unicode_utf8_first)] }
def TokenForgedSaid : Prop := tokenForgedRow.holds Tryd.pinned (OpenSpec.ofChange tokenForgedSpec)

/-- ITS FALSE NEIGHBOUR: 'it returns false'. Refute it at one input. -/
def tokenForgedWrong : ChangeSpec := { name := "tokenForged", fn := fun _ => fun
  | [d1, d2, d3, d4] => { results := [.lit (.bool false)], args := [d1, d2, d3, d4] }
  | _ => none }
def TokenForgedWrongFalsely : Prop := tokenForgedRow.holds Tryd.pinned (OpenSpec.ofChange tokenForgedWrong)

/-- 'munimentlaw19.TokenKeys': WHATEVER THE INPUT: true; the input reads as it did. -/
def tokenKeysSpec : ChangeSpec := { name := "tokenKeys", fn := fun _ => fun
  | [d1, d2, d3] => { results := [.lit (.bool true)], args := [d1, d2, d3] }
  | _ => none }
def tokenKeysRow : OpenClaim := { program := "ytgmfjbbhdnfapaadoor", sum := "df7b8d0fa38494ede2922e677c42a33e94832c93cb4b6b634efd0a882184e712", func := "muniment/munimentlaw19.TokenKeys", spec := "tokenKeys", named := ["muniment/digest.first", "muniment/digest.parts", "unicode/utf8.first", "unicode/utf8.acceptRanges"], apart := false, laid := [("muniment/digest.first", laid_muniment_digest_first), ("muniment/digest.parts", laid_muniment_digest_parts), ("unicode/utf8.acceptRanges", laid_unicode_utf8_acceptRanges), ("unicode/utf8.first", laid_unicode_utf8_first)] }
def TokenKeysSaid : Prop := tokenKeysRow.holds Tryd.pinned (OpenSpec.ofChange tokenKeysSpec)

/-- ITS FALSE NEIGHBOUR: 'it returns false'. Refute it at one input. -/
def tokenKeysWrong : ChangeSpec := { name := "tokenKeys", fn := fun _ => fun
  | [d1, d2, d3] => { results := [.lit (.bool false)], args := [d1, d2, d3] }
  | _ => none }
def TokenKeysWrongFalsely : Prop := tokenKeysRow.holds Tryd.pinned (OpenSpec.ofChange tokenKeysWrong)

/-- 'munimentlaw19.TokenTold': WHATEVER THE INPUT: true; the input reads as it did. -/
def tokenToldSpec : ChangeSpec := { name := "tokenTold", fn := fun _ => fun
  | [d1, d2, d3] => { results := [.lit (.bool true)], args := [d1, d2, d3] }
  | _ => none }
def tokenToldRow : OpenClaim := { program := "ytgmfjbbhdnfapaadoor", sum := "df7b8d0fa38494ede2922e677c42a33e94832c93cb4b6b634efd0a882184e712", func := "muniment/munimentlaw19.TokenTold", spec := "tokenTold", named := ["muniment/digest.first", "muniment/digest.parts", "unicode/utf8.first", "unicode/utf8.acceptRanges"], apart := false, laid := [("muniment/digest.first", laid_muniment_digest_first), ("muniment/digest.parts", laid_muniment_digest_parts), ("unicode/utf8.acceptRanges", laid_unicode_utf8_acceptRanges), ("unicode/utf8.first", laid_unicode_utf8_first)] }
def TokenToldSaid : Prop := tokenToldRow.holds Tryd.pinned (OpenSpec.ofChange tokenToldSpec)

/-- ITS FALSE NEIGHBOUR: 'it returns false'. Refute it at one input. -/
def tokenToldWrong : ChangeSpec := { name := "tokenTold", fn := fun _ => fun
  | [d1, d2, d3] => { results := [.lit (.bool false)], args := [d1, d2, d3] }
  | _ => none }
def TokenToldWrongFalsely : Prop := tokenToldRow.holds Tryd.pinned (OpenSpec.ofChange tokenToldWrong)

/- THE SECOND FORM. 'bulk': how many values and letters a reading holds, each counted each time it is reached (what is shared counts as often as it is met; a slice's spare places count too). A statement '..UptoSaid' is the law's where the arguments, and the package variables that the reading takes, are together of bulk at most 1048576: NARROWER than '..Said'. Prove '..Said' where nothing that the law and all that it calls make is longer than what came in: it says more and counts as full. Else prove '..UptoSaid'. A law counts once. -/
mutual
def uptoBulk {H : Type} : DataW H → Nat
  | .lit (.string bytes) => bytes.length + 1
  | .lit _ => 1
  | .nil => 1
  | .ptr d => uptoBulk d + 1
  | .slice elems spare => uptoBulkAll elems + uptoBulkAll spare + 1
  | .agg parts => uptoBulkAll parts + 1
  | .iface _ d => uptoBulk d + 1
  | .map entries => uptoBulkEntries entries + 1
  | .held _ => 1
def uptoBulkAll {H : Type} : List (DataW H) → Nat
  | [] => 0
  | d :: r => uptoBulk d + uptoBulkAll r
def uptoBulkEntries {H : Type} : List (Lit × DataW H) → Nat
  | [] => 0
  | x :: r => uptoBulkEntry x + uptoBulkEntries r
def uptoBulkEntry {H : Type} : Lit × DataW H → Nat
  | (.string bytes, d) => bytes.length + uptoBulk d + 1
  | (_, d) => uptoBulk d + 1
 end
def uptoSmall : (H : Type) → List (DataW H) → Bool := fun _ ds => decide (uptoBulkAll ds ≤ 1048576)
def OpenSpec.upto (s : _root_.Go.ChangeSpec) : _root_.Go.OpenSpec := { _root_.Go.OpenSpec.ofChange s with cond := some uptoSmall }

/-- 'munimentlaw18.PassMakes', WHERE WHAT IT READS IS OF BULK AT MOST 1048576: true; the input reads as it did. -/
def passMakesUptoRow : OpenClaim := { program := "ytgmfjbbhdnfapaadoor", sum := "df7b8d0fa38494ede2922e677c42a33e94832c93cb4b6b634efd0a882184e712", func := "muniment/munimentlaw18.PassMakes", spec := "passMakes", named := ["muniment/digest.first", "muniment/digest.parts"], apart := false, laid := [("muniment/digest.first", laid_muniment_digest_first), ("muniment/digest.parts", laid_muniment_digest_parts)], narrowed := true }
def PassMakesUptoSaid : Prop := passMakesUptoRow.holds Tryd.pinned (OpenSpec.upto passMakesSpec)

/-- 'munimentlaw18.PassChecks', WHERE WHAT IT READS IS OF BULK AT MOST 1048576: true; the input reads as it did. -/
def passChecksUptoRow : OpenClaim := { program := "ytgmfjbbhdnfapaadoor", sum := "df7b8d0fa38494ede2922e677c42a33e94832c93cb4b6b634efd0a882184e712", func := "muniment/munimentlaw18.PassChecks", spec := "passChecks", named := ["muniment/digest.first", "muniment/digest.parts"], apart := false, laid := [("muniment/digest.first", laid_muniment_digest_first), ("muniment/digest.parts", laid_muniment_digest_parts)], narrowed := true }
def PassChecksUptoSaid : Prop := passChecksUptoRow.holds Tryd.pinned (OpenSpec.upto passChecksSpec)

/-- 'munimentlaw18.PassSalts', WHERE WHAT IT READS IS OF BULK AT MOST 1048576: true; the input reads as it did. -/
def passSaltsUptoRow : OpenClaim := { program := "ytgmfjbbhdnfapaadoor", sum := "df7b8d0fa38494ede2922e677c42a33e94832c93cb4b6b634efd0a882184e712", func := "muniment/munimentlaw18.PassSalts", spec := "passSalts", named := ["muniment/digest.first", "muniment/digest.parts"], apart := false, laid := [("muniment/digest.first", laid_muniment_digest_first), ("muniment/digest.parts", laid_muniment_digest_parts)], narrowed := true }
def PassSaltsUptoSaid : Prop := passSaltsUptoRow.holds Tryd.pinned (OpenSpec.upto passSaltsSpec)

/-- 'munimentlaw18.PassTexts', WHERE WHAT IT READS IS OF BULK AT MOST 1048576: true; the input reads as it did. -/
def passTextsUptoRow : OpenClaim := { program := "ytgmfjbbhdnfapaadoor", sum := "df7b8d0fa38494ede2922e677c42a33e94832c93cb4b6b634efd0a882184e712", func := "muniment/munimentlaw18.PassTexts", spec := "passTexts", named := ["muniment/digest.first", "muniment/digest.parts"], apart := false, laid := [("muniment/digest.first", laid_muniment_digest_first), ("muniment/digest.parts", laid_muniment_digest_parts)], narrowed := true }
def PassTextsUptoSaid : Prop := passTextsUptoRow.holds Tryd.pinned (OpenSpec.upto passTextsSpec)

/-- 'munimentlaw18.PassRounds', WHERE WHAT IT READS IS OF BULK AT MOST 1048576: true; the input reads as it did. -/
def passRoundsUptoRow : OpenClaim := { program := "ytgmfjbbhdnfapaadoor", sum := "df7b8d0fa38494ede2922e677c42a33e94832c93cb4b6b634efd0a882184e712", func := "muniment/munimentlaw18.PassRounds", spec := "passRounds", named := ["muniment/digest.first", "muniment/digest.parts"], apart := false, laid := [("muniment/digest.first", laid_muniment_digest_first), ("muniment/digest.parts", laid_muniment_digest_parts)], narrowed := true }
def PassRoundsUptoSaid : Prop := passRoundsUptoRow.holds Tryd.pinned (OpenSpec.upto passRoundsSpec)

/-- 'munimentlaw19.TokenCodes', WHERE WHAT IT READS IS OF BULK AT MOST 1048576: true; the input reads as it did. -/
def tokenCodesUptoRow : OpenClaim := { program := "ytgmfjbbhdnfapaadoor", sum := "df7b8d0fa38494ede2922e677c42a33e94832c93cb4b6b634efd0a882184e712", func := "muniment/munimentlaw19.TokenCodes", spec := "tokenCodes", named := ["muniment/digest.first", "muniment/digest.parts", "unicode/utf8.first", "unicode/utf8.acceptRanges"], apart := false, laid := [("muniment/digest.first", laid_muniment_digest_first), ("muniment/digest.parts", laid_muniment_digest_parts), ("unicode/utf8.acceptRanges", laid_unicode_utf8_acceptRanges), ("unicode/utf8.first", laid_unicode_utf8_first)], narrowed := true }
def TokenCodesUptoSaid : Prop := tokenCodesUptoRow.holds Tryd.pinned (OpenSpec.upto tokenCodesSpec)

/-- 'munimentlaw19.TokenSigns', WHERE WHAT IT READS IS OF BULK AT MOST 1048576: true; the input reads as it did. -/
def tokenSignsUptoRow : OpenClaim := { program := "ytgmfjbbhdnfapaadoor", sum := "df7b8d0fa38494ede2922e677c42a33e94832c93cb4b6b634efd0a882184e712", func := "muniment/munimentlaw19.TokenSigns", spec := "tokenSigns", named := ["muniment/digest.first", "muniment/digest.parts", "unicode/utf8.first", "unicode/utf8.acceptRanges"], apart := false, laid := [("muniment/digest.first", laid_muniment_digest_first), ("muniment/digest.parts", laid_muniment_digest_parts), ("unicode/utf8.acceptRanges", laid_unicode_utf8_acceptRanges), ("unicode/utf8.first", laid_unicode_utf8_first)], narrowed := true }
def TokenSignsUptoSaid : Prop := tokenSignsUptoRow.holds Tryd.pinned (OpenSpec.upto tokenSignsSpec)

/-- 'munimentlaw19.TokenVerifies', WHERE WHAT IT READS IS OF BULK AT MOST 1048576: true; the input reads as it did. -/
def tokenVerifiesUptoRow : OpenClaim := { program := "ytgmfjbbhdnfapaadoor", sum := "df7b8d0fa38494ede2922e677c42a33e94832c93cb4b6b634efd0a882184e712", func := "muniment/munimentlaw19.TokenVerifies", spec := "tokenVerifies", named := ["muniment/digest.first", "muniment/digest.parts", "unicode/utf8.first", "unicode/utf8.acceptRanges"], apart := false, laid := [("muniment/digest.first", laid_muniment_digest_first), ("muniment/digest.parts", laid_muniment_digest_parts), ("unicode/utf8.acceptRanges", laid_unicode_utf8_acceptRanges), ("unicode/utf8.first", laid_unicode_utf8_first)], narrowed := true }
def TokenVerifiesUptoSaid : Prop := tokenVerifiesUptoRow.holds Tryd.pinned (OpenSpec.upto tokenVerifiesSpec)

/-- 'munimentlaw19.TokenForged', WHERE WHAT IT READS IS OF BULK AT MOST 1048576: true; the input reads as it did. -/
def tokenForgedUptoRow : OpenClaim := { program := "ytgmfjbbhdnfapaadoor", sum := "df7b8d0fa38494ede2922e677c42a33e94832c93cb4b6b634efd0a882184e712", func := "muniment/munimentlaw19.TokenForged", spec := "tokenForged", named := ["muniment/digest.first", "muniment/digest.parts", "unicode/utf8.first", "unicode/utf8.acceptRanges"], apart := false, laid := [("muniment/digest.first", laid_muniment_digest_first), ("muniment/digest.parts", laid_muniment_digest_parts), ("unicode/utf8.acceptRanges", laid_unicode_utf8_acceptRanges), ("unicode/utf8.first", laid_unicode_utf8_first)], narrowed := true }
def TokenForgedUptoSaid : Prop := tokenForgedUptoRow.holds Tryd.pinned (OpenSpec.upto tokenForgedSpec)

/-- 'munimentlaw19.TokenKeys', WHERE WHAT IT READS IS OF BULK AT MOST 1048576: true; the input reads as it did. -/
def tokenKeysUptoRow : OpenClaim := { program := "ytgmfjbbhdnfapaadoor", sum := "df7b8d0fa38494ede2922e677c42a33e94832c93cb4b6b634efd0a882184e712", func := "muniment/munimentlaw19.TokenKeys", spec := "tokenKeys", named := ["muniment/digest.first", "muniment/digest.parts", "unicode/utf8.first", "unicode/utf8.acceptRanges"], apart := false, laid := [("muniment/digest.first", laid_muniment_digest_first), ("muniment/digest.parts", laid_muniment_digest_parts), ("unicode/utf8.acceptRanges", laid_unicode_utf8_acceptRanges), ("unicode/utf8.first", laid_unicode_utf8_first)], narrowed := true }
def TokenKeysUptoSaid : Prop := tokenKeysUptoRow.holds Tryd.pinned (OpenSpec.upto tokenKeysSpec)

/-- 'munimentlaw19.TokenTold', WHERE WHAT IT READS IS OF BULK AT MOST 1048576: true; the input reads as it did. -/
def tokenToldUptoRow : OpenClaim := { program := "ytgmfjbbhdnfapaadoor", sum := "df7b8d0fa38494ede2922e677c42a33e94832c93cb4b6b634efd0a882184e712", func := "muniment/munimentlaw19.TokenTold", spec := "tokenTold", named := ["muniment/digest.first", "muniment/digest.parts", "unicode/utf8.first", "unicode/utf8.acceptRanges"], apart := false, laid := [("muniment/digest.first", laid_muniment_digest_first), ("muniment/digest.parts", laid_muniment_digest_parts), ("unicode/utf8.acceptRanges", laid_unicode_utf8_acceptRanges), ("unicode/utf8.first", laid_unicode_utf8_first)], narrowed := true }
def TokenToldUptoSaid : Prop := tokenToldUptoRow.holds Tryd.pinned (OpenSpec.upto tokenToldSpec)

end Rows
end Go.Proofs.YtgmfjbbhdnfapaaDoor
