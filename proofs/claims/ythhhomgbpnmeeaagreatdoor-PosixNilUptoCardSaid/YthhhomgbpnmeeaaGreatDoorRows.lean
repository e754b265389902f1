/-
  NARROWER THAN 'FOR EVERY INPUT', by the rows' own cells (each row's printed sentence says how): PosixKinds: laid · PosixNil: laid · ImageSaves: laid · PosixPlays: laid · PosixBuilds: laid · PosixSpoils: laid · ImageHomes: laid · ImageBack: laid · ImageTurned: laid.
  DERIVED. THE GIVEN ROWS OF THIS SEAT. 9 by the template 'for every input the law returns true; each argument reads behind the call as it read before'; 0 by the template 'total and deterministic' (their statements: YthhhomgbpnmeeaaGreatDoorTotals.lean).
  GIVEN WITH THE SEED: the statements are not yours to turn. If you find one false, say at which input.
  Laid BY PROGRAM, IN A SANDBOX (cutbox-rows.mjs): the forced cells as the released guide's own fill.sh prints them over the translation f44cec79d8a710fd… (all of the seat's roots in one cut). By AI agents, Wed Nov 11 2026. No macro, syntax, notation, axiom, sorry.
-/
import Derived.Test.YthhhomgbpnmeeaaGreatDoorChecked
import GoSem.PinnedTables
import GoSem.Claim
import GoSem.ClaimJoined
import GoSem.ClaimMapViews
import Derived.JoinedTies
import Derived.KernelRfl
namespace Go.Proofs.YthhhomgbpnmeeaaGreatDoor
/- THE CELL 'sum', in the pinned program and in every row, IS THE sha256 OF THE DUMP (.gsa) THAT YthhhomgbpnmeeaaGreatDoorProg.lean LOADS. Nothing in Lean hashes anything: it is a label: what it is worth is what the hold of that sum in a sandbox is worth. -/
noncomputable def Tryz.pinned : Pinned := { name := "ythhhomgbpnmeeaagreatdoor", sum := "f44cec79d8a710fd9eeea7c1ace7b641b1cc698f23230007360ee2dbb2c212c8", checked := Tryz.checked }
namespace Rows
def none {H : Type} : Left H := { results := [], args := [] }

/- WHAT THE LISTED PACKAGE-LEVEL VARIABLES READ AS WHEN THE CALL BEGINS. Each datum BY PROGRAM (the guide's laid-datum.mjs) off the statement by which the dump's own 'gosem.cut.vars' lays the variable. In a bare row this is a premise. The card (YthhhomgbpnmeeaaGreatDoorCards.lean) ties it to the program's text. -/
def laid_cloister_sha_keys {H : Type} : DataW H := .agg [.lit (.int .u32 1116352408), .lit (.int .u32 1899447441), .lit (.int .u32 3049323471), .lit (.int .u32 3921009573), .lit (.int .u32 961987163), .lit (.int .u32 1508970993), .lit (.int .u32 2453635748), .lit (.int .u32 2870763221), .lit (.int .u32 3624381080), .lit (.int .u32 310598401), .lit (.int .u32 607225278), .lit (.int .u32 1426881987), .lit (.int .u32 1925078388), .lit (.int .u32 2162078206), .lit (.int .u32 2614888103), .lit (.int .u32 3248222580), .lit (.int .u32 3835390401), .lit (.int .u32 4022224774), .lit (.int .u32 264347078), .lit (.int .u32 604807628), .lit (.int .u32 770255983), .lit (.int .u32 1249150122), .lit (.int .u32 1555081692), .lit (.int .u32 1996064986), .lit (.int .u32 2554220882), .lit (.int .u32 2821834349), .lit (.int .u32 2952996808), .lit (.int .u32 3210313671), .lit (.int .u32 3336571891), .lit (.int .u32 3584528711), .lit (.int .u32 113926993), .lit (.int .u32 338241895), .lit (.int .u32 666307205), .lit (.int .u32 773529912), .lit (.int .u32 1294757372), .lit (.int .u32 1396182291), .lit (.int .u32 1695183700), .lit (.int .u32 1986661051), .lit (.int .u32 2177026350), .lit (.int .u32 2456956037), .lit (.int .u32 2730485921), .lit (.int .u32 2820302411), .lit (.int .u32 3259730800), .lit (.int .u32 3345764771), .lit (.int .u32 3516065817), .lit (.int .u32 3600352804), .lit (.int .u32 4094571909), .lit (.int .u32 275423344), .lit (.int .u32 430227734), .lit (.int .u32 506948616), .lit (.int .u32 659060556), .lit (.int .u32 883997877), .lit (.int .u32 958139571), .lit (.int .u32 1322822218), .lit (.int .u32 1537002063), .lit (.int .u32 1747873779), .lit (.int .u32 1955562222), .lit (.int .u32 2024104815), .lit (.int .u32 2227730452), .lit (.int .u32 2361852424), .lit (.int .u32 2428436474), .lit (.int .u32 2756734187), .lit (.int .u32 3204031479), .lit (.int .u32 3329325298)]
def laid_unicode_utf8_acceptRanges {H : Type} : DataW H := .agg [.agg [.lit (.int .u8 128), .lit (.int .u8 191)], .agg [.lit (.int .u8 160), .lit (.int .u8 191)], .agg [.lit (.int .u8 128), .lit (.int .u8 159)], .agg [.lit (.int .u8 144), .lit (.int .u8 191)], .agg [.lit (.int .u8 128), .lit (.int .u8 143)], .agg [.lit (.int .u8 0), .lit (.int .u8 0)], .agg [.lit (.int .u8 0), .lit (.int .u8 0)], .agg [.lit (.int .u8 0), .lit (.int .u8 0)], .agg [.lit (.int .u8 0), .lit (.int .u8 0)], .agg [.lit (.int .u8 0), .lit (.int .u8 0)], .agg [.lit (.int .u8 0), .lit (.int .u8 0)], .agg [.lit (.int .u8 0), .lit (.int .u8 0)], .agg [.lit (.int .u8 0), .lit (.int .u8 0)], .agg [.lit (.int .u8 0), .lit (.int .u8 0)], .agg [.lit (.int .u8 0), .lit (.int .u8 0)], .agg [.lit (.int .u8 0), .lit (.int .u8 0)]]
/-- One of Go's own tables, pinned by name: the form's constant. -/
def laid_unicode_utf8_first : DataW Unit := Go.Pinned.utf8First
def laid_cloister_cloisterref01_k {H : Type} : DataW H := .agg [.lit (.int .u32 1116352408), .lit (.int .u32 1899447441), .lit (.int .u32 3049323471), .lit (.int .u32 3921009573), .lit (.int .u32 961987163), .lit (.int .u32 1508970993), .lit (.int .u32 2453635748), .lit (.int .u32 2870763221), .lit (.int .u32 3624381080), .lit (.int .u32 310598401), .lit (.int .u32 607225278), .lit (.int .u32 1426881987), .lit (.int .u32 1925078388), .lit (.int .u32 2162078206), .lit (.int .u32 2614888103), .lit (.int .u32 3248222580), .lit (.int .u32 3835390401), .lit (.int .u32 4022224774), .lit (.int .u32 264347078), .lit (.int .u32 604807628), .lit (.int .u32 770255983), .lit (.int .u32 1249150122), .lit (.int .u32 1555081692), .lit (.int .u32 1996064986), .lit (.int .u32 2554220882), .lit (.int .u32 2821834349), .lit (.int .u32 2952996808), .lit (.int .u32 3210313671), .lit (.int .u32 3336571891), .lit (.int .u32 3584528711), .lit (.int .u32 113926993), .lit (.int .u32 338241895), .lit (.int .u32 666307205), .lit (.int .u32 773529912), .lit (.int .u32 1294757372), .lit (.int .u32 1396182291), .lit (.int .u32 1695183700), .lit (.int .u32 1986661051), .lit (.int .u32 2177026350), .lit (.int .u32 2456956037), .lit (.int .u32 2730485921), .lit (.int .u32 2820302411), .lit (.int .u32 3259730800), .lit (.int .u32 3345764771), .lit (.int .u32 3516065817), .lit (.int .u32 3600352804), .lit (.int .u32 4094571909), .lit (.int .u32 275423344), .lit (.int .u32 430227734), .lit (.int .u32 506948616), .lit (.int .u32 659060556), .lit (.int .u32 883997877), .lit (.int .u32 958139571), .lit (.int .u32 1322822218), .lit (.int .u32 1537002063), .lit (.int .u32 1747873779), .lit (.int .u32 1955562222), .lit (.int .u32 2024104815), .lit (.int .u32 2227730452), .lit (.int .u32 2361852424), .lit (.int .u32 2428436474), .lit (.int .u32 2756734187), .lit (.int .u32 3204031479), .lit (.int .u32 3329325298)]

/-- 'cloisterlaw22.PosixKinds': WHATEVER THE INPUT: true; the input reads as it did. -/
def posixKindsSpec : ChangeSpec := { name := "posixKinds", fn := fun _ => fun
  | [d1, d2] => { results := [.lit (.bool true)], args := [d1, d2] }
  | _ => none }
def posixKindsRow : OpenClaim := { program := "ythhhomgbpnmeeaagreatdoor", sum := "f44cec79d8a710fd9eeea7c1ace7b641b1cc698f23230007360ee2dbb2c212c8", func := "cloister/cloisterlaw22.PosixKinds", spec := "posixKinds", inPlace := ["slices.overlaps[cloister/api.Usage]", "internal/bytealg.IndexByteString", "internal/bytealg.IndexString", "internal/bytealg.CountString", "slices.overlaps[cloister/api.Entry]", "math.Float64frombits", "math.Float64bits", "internal/bytealg.abigen_runtime_cmpstring", "slices.overlaps[cloister/api.Xattr]"], unfollowed := true, recurses := true, named := ["internal/bytealg.MaxLen", "unicode/utf8.first", "unicode/utf8.acceptRanges", "cloister/sha.keys"], apart := false, laid := [("cloister/sha.keys", laid_cloister_sha_keys), ("unicode/utf8.acceptRanges", laid_unicode_utf8_acceptRanges), ("unicode/utf8.first", laid_unicode_utf8_first)] }
def PosixKindsSaid : Prop := posixKindsRow.holds Tryz.pinned (OpenSpec.ofChange posixKindsSpec)

/-- ITS FALSE NEIGHBOUR: 'it returns false'. Refute it at one input. -/
def posixKindsWrong : ChangeSpec := { name := "posixKinds", fn := fun _ => fun
  | [d1, d2] => { results := [.lit (.bool false)], args := [d1, d2] }
  | _ => none }
def PosixKindsWrongFalsely : Prop := posixKindsRow.holds Tryz.pinned (OpenSpec.ofChange posixKindsWrong)

/-- 'cloisterlaw22.PosixNil': WHATEVER THE INPUT: true; the input reads as it did. -/
def posixNilSpec : ChangeSpec := { name := "posixNil", fn := fun _ => fun
  | [d] => { results := [.lit (.bool true)], args := [d] }
  | _ => none }
def posixNilRow : OpenClaim := { program := "ythhhomgbpnmeeaagreatdoor", sum := "f44cec79d8a710fd9eeea7c1ace7b641b1cc698f23230007360ee2dbb2c212c8", func := "cloister/cloisterlaw22.PosixNil", spec := "posixNil", inPlace := ["slices.overlaps[cloister/api.Usage]", "internal/bytealg.IndexByteString", "internal/bytealg.IndexString", "internal/bytealg.CountString", "slices.overlaps[cloister/api.Entry]", "math.Float64frombits", "math.Float64bits", "internal/bytealg.abigen_runtime_cmpstring", "slices.overlaps[cloister/api.Xattr]"], unfollowed := true, recurses := true, named := ["internal/bytealg.MaxLen", "unicode/utf8.first", "unicode/utf8.acceptRanges", "cloister/sha.keys"], apart := false, laid := [("cloister/sha.keys", laid_cloister_sha_keys), ("unicode/utf8.acceptRanges", laid_unicode_utf8_acceptRanges), ("unicode/utf8.first", laid_unicode_utf8_first)] }
def PosixNilSaid : Prop := posixNilRow.holds Tryz.pinned (OpenSpec.ofChange posixNilSpec)

/-- ITS FALSE NEIGHBOUR: 'it returns false'. Refute it at one input. -/
def posixNilWrong : ChangeSpec := { name := "posixNil", fn := fun _ => fun
  | [d] => { results := [.lit (.bool false)], args := [d] }
  | _ => none }
def PosixNilWrongFalsely : Prop := posixNilRow.holds Tryz.pinned (OpenSpec.ofChange posixNilWrong)

/-- 'cloisterlaw23.ImageSaves': WHATEVER THE INPUT: true; the input reads as it did. -/
def imageSavesSpec : ChangeSpec := { name := "imageSaves", fn := fun _ => fun
  | [d1, d2] => { results := [.lit (.bool true)], args := [d1, d2] }
  | _ => none }
def imageSavesRow : OpenClaim := { program := "ythhhomgbpnmeeaagreatdoor", sum := "f44cec79d8a710fd9eeea7c1ace7b641b1cc698f23230007360ee2dbb2c212c8", func := "cloister/cloisterlaw23.ImageSaves", spec := "imageSaves", inPlace := ["slices.overlaps[cloister/api.Usage]", "internal/bytealg.IndexByteString", "internal/bytealg.IndexString", "internal/bytealg.CountString", "slices.overlaps[cloister/api.Entry]", "math.Float64frombits", "math.Float64bits", "internal/bytealg.abigen_runtime_cmpstring", "slices.overlaps[cloister/api.Xattr]"], unfollowed := true, recurses := true, named := ["internal/bytealg.MaxLen", "unicode/utf8.first", "unicode/utf8.acceptRanges", "cloister/sha.keys"], apart := false, laid := [("cloister/sha.keys", laid_cloister_sha_keys), ("unicode/utf8.acceptRanges", laid_unicode_utf8_acceptRanges), ("unicode/utf8.first", laid_unicode_utf8_first)] }
def ImageSavesSaid : Prop := imageSavesRow.holds Tryz.pinned (OpenSpec.ofChange imageSavesSpec)

/-- ITS FALSE NEIGHBOUR: 'it returns false'. Refute it at one input. -/
def imageSavesWrong : ChangeSpec := { name := "imageSaves", fn := fun _ => fun
  | [d1, d2] => { results := [.lit (.bool false)], args := [d1, d2] }
  | _ => none }
def ImageSavesWrongFalsely : Prop := imageSavesRow.holds Tryz.pinned (OpenSpec.ofChange imageSavesWrong)

/-- 'cloisterlaw22.PosixPlays': WHATEVER THE INPUT: true; the input reads as it did. -/
def posixPlaysSpec : ChangeSpec := { name := "posixPlays", fn := fun _ => fun
  | [d1, d2, d3] => { results := [.lit (.bool true)], args := [d1, d2, d3] }
  | _ => none }
def posixPlaysRow : OpenClaim := { program := "ythhhomgbpnmeeaagreatdoor", sum := "f44cec79d8a710fd9eeea7c1ace7b641b1cc698f23230007360ee2dbb2c212c8", func := "cloister/cloisterlaw22.PosixPlays", spec := "posixPlays", inPlace := ["slices.overlaps[cloister/api.Usage]", "internal/bytealg.IndexByteString", "internal/bytealg.IndexString", "internal/bytealg.CountString", "slices.overlaps[cloister/api.Entry]", "math.Float64frombits", "math.Float64bits", "internal/bytealg.abigen_runtime_cmpstring", "slices.overlaps[cloister/api.Xattr]"], unfollowed := true, recurses := true, named := ["internal/bytealg.MaxLen", "unicode/utf8.first", "unicode/utf8.acceptRanges", "cloister/sha.keys", "cloister/cloisterref01.k"], apart := false, laid := [("cloister/cloisterref01.k", laid_cloister_cloisterref01_k), ("cloister/sha.keys", laid_cloister_sha_keys), ("unicode/utf8.acceptRanges", laid_unicode_utf8_acceptRanges), ("unicode/utf8.first", laid_unicode_utf8_first)] }
def PosixPlaysSaid : Prop := posixPlaysRow.holds Tryz.pinned (OpenSpec.ofChange posixPlaysSpec)

/-- ITS FALSE NEIGHBOUR: 'it returns false'. Refute it at one input. -/
def posixPlaysWrong : ChangeSpec := { name := "posixPlays", fn := fun _ => fun
  | [d1, d2, d3] => { results := [.lit (.bool false)], args := [d1, d2, d3] }
  | _ => none }
def PosixPlaysWrongFalsely : Prop := posixPlaysRow.holds Tryz.pinned (OpenSpec.ofChange posixPlaysWrong)

/-- 'cloisterlaw22.PosixBuilds': WHATEVER THE INPUT: true; the input reads as it did. -/
def posixBuildsSpec : ChangeSpec := { name := "posixBuilds", fn := fun _ => fun
  | [d1, d2] => { results := [.lit (.bool true)], args := [d1, d2] }
  | _ => none }
def posixBuildsRow : OpenClaim := { program := "ythhhomgbpnmeeaagreatdoor", sum := "f44cec79d8a710fd9eeea7c1ace7b641b1cc698f23230007360ee2dbb2c212c8", func := "cloister/cloisterlaw22.PosixBuilds", spec := "posixBuilds", inPlace := ["slices.overlaps[cloister/api.Usage]", "internal/bytealg.IndexByteString", "internal/bytealg.IndexString", "internal/bytealg.CountString", "slices.overlaps[cloister/api.Entry]", "math.Float64frombits", "math.Float64bits", "internal/bytealg.abigen_runtime_cmpstring", "slices.overlaps[cloister/api.Xattr]"], unfollowed := true, recurses := true, named := ["internal/bytealg.MaxLen", "unicode/utf8.first", "unicode/utf8.acceptRanges", "cloister/sha.keys"], apart := false, laid := [("cloister/sha.keys", laid_cloister_sha_keys), ("unicode/utf8.acceptRanges", laid_unicode_utf8_acceptRanges), ("unicode/utf8.first", laid_unicode_utf8_first)] }
def PosixBuildsSaid : Prop := posixBuildsRow.holds Tryz.pinned (OpenSpec.ofChange posixBuildsSpec)

/-- ITS FALSE NEIGHBOUR: 'it returns false'. Refute it at one input. -/
def posixBuildsWrong : ChangeSpec := { name := "posixBuilds", fn := fun _ => fun
  | [d1, d2] => { results := [.lit (.bool false)], args := [d1, d2] }
  | _ => none }
def PosixBuildsWrongFalsely : Prop := posixBuildsRow.holds Tryz.pinned (OpenSpec.ofChange posixBuildsWrong)

/-- 'cloisterlaw22.PosixSpoils': WHATEVER THE INPUT: true; the input reads as it did. -/
def posixSpoilsSpec : ChangeSpec := { name := "posixSpoils", fn := fun _ => fun
  | [d1, d2, d3, d4] => { results := [.lit (.bool true)], args := [d1, d2, d3, d4] }
  | _ => none }
def posixSpoilsRow : OpenClaim := { program := "ythhhomgbpnmeeaagreatdoor", sum := "f44cec79d8a710fd9eeea7c1ace7b641b1cc698f23230007360ee2dbb2c212c8", func := "cloister/cloisterlaw22.PosixSpoils", spec := "posixSpoils", inPlace := ["slices.overlaps[cloister/api.Usage]", "internal/bytealg.IndexByteString", "internal/bytealg.IndexString", "internal/bytealg.CountString", "slices.overlaps[cloister/api.Entry]", "math.Float64frombits", "math.Float64bits", "internal/bytealg.abigen_runtime_cmpstring", "slices.overlaps[cloister/api.Xattr]"], unfollowed := true, recurses := true, named := ["internal/bytealg.MaxLen", "unicode/utf8.first", "unicode/utf8.acceptRanges", "cloister/sha.keys"], apart := false, laid := [("cloister/sha.keys", laid_cloister_sha_keys), ("unicode/utf8.acceptRanges", laid_unicode_utf8_acceptRanges), ("unicode/utf8.first", laid_unicode_utf8_first)] }
def PosixSpoilsSaid : Prop := posixSpoilsRow.holds Tryz.pinned (OpenSpec.ofChange posixSpoilsSpec)

/-- ITS FALSE NEIGHBOUR: 'it returns false'. Refute it at one input. -/
def posixSpoilsWrong : ChangeSpec := { name := "posixSpoils", fn := fun _ => fun
  | [d1, d2, d3, d4] => { results := [.lit (.bool false)], args := [d1, d2, d3, d4] }
  | _ => none }
def PosixSpoilsWrongFalsely : Prop := posixSpoilsRow.holds Tryz.pinned (OpenSpec.ofChange posixSpoilsWrong)

/-- 'cloisterlaw23.ImageHomes': WHATEVER THE INPUT: true; the input reads as it did. -/
def imageHomesSpec : ChangeSpec := { name := "imageHomes", fn := fun _ => fun
  | [d1, d2] => { results := [.lit (.bool true)], args := [d1, d2] }
  | _ => none }
def imageHomesRow : OpenClaim := { program := "ythhhomgbpnmeeaagreatdoor", sum := "f44cec79d8a710fd9eeea7c1ace7b641b1cc698f23230007360ee2dbb2c212c8", func := "cloister/cloisterlaw23.ImageHomes", spec := "imageHomes", inPlace := ["slices.overlaps[cloister/api.Usage]", "internal/bytealg.IndexByteString", "internal/bytealg.IndexString", "internal/bytealg.CountString", "slices.overlaps[cloister/api.Entry]", "math.Float64frombits", "math.Float64bits", "internal/bytealg.abigen_runtime_cmpstring", "slices.overlaps[cloister/api.Xattr]"], unfollowed := true, recurses := true, named := ["internal/bytealg.MaxLen", "unicode/utf8.first", "unicode/utf8.acceptRanges", "cloister/sha.keys"], apart := false, laid := [("cloister/sha.keys", laid_cloister_sha_keys), ("unicode/utf8.acceptRanges", laid_unicode_utf8_acceptRanges), ("unicode/utf8.first", laid_unicode_utf8_first)] }
def ImageHomesSaid : Prop := imageHomesRow.holds Tryz.pinned (OpenSpec.ofChange imageHomesSpec)

/-- ITS FALSE NEIGHBOUR: 'it returns false'. Refute it at one input. -/
def imageHomesWrong : ChangeSpec := { name := "imageHomes", fn := fun _ => fun
  | [d1, d2] => { results := [.lit (.bool false)], args := [d1, d2] }
  | _ => none }
def ImageHomesWrongFalsely : Prop := imageHomesRow.holds Tryz.pinned (OpenSpec.ofChange imageHomesWrong)

/-- 'cloisterlaw23.ImageBack': WHATEVER THE INPUT: true; the input reads as it did. -/
def imageBackSpec : ChangeSpec := { name := "imageBack", fn := fun _ => fun
  | [d1, d2, d3] => { results := [.lit (.bool true)], args := [d1, d2, d3] }
  | _ => none }
def imageBackRow : OpenClaim := { program := "ythhhomgbpnmeeaagreatdoor", sum := "f44cec79d8a710fd9eeea7c1ace7b641b1cc698f23230007360ee2dbb2c212c8", func := "cloister/cloisterlaw23.ImageBack", spec := "imageBack", inPlace := ["slices.overlaps[cloister/api.Usage]", "internal/bytealg.IndexByteString", "internal/bytealg.IndexString", "internal/bytealg.CountString", "slices.overlaps[cloister/api.Entry]", "math.Float64frombits", "math.Float64bits", "internal/bytealg.abigen_runtime_cmpstring", "slices.overlaps[cloister/api.Xattr]"], unfollowed := true, recurses := true, named := ["internal/bytealg.MaxLen", "unicode/utf8.first", "unicode/utf8.acceptRanges", "cloister/sha.keys"], apart := false, laid := [("cloister/sha.keys", laid_cloister_sha_keys), ("unicode/utf8.acceptRanges", laid_unicode_utf8_acceptRanges), ("unicode/utf8.first", laid_unicode_utf8_first)] }
def ImageBackSaid : Prop := imageBackRow.holds Tryz.pinned (OpenSpec.ofChange imageBackSpec)

/-- ITS FALSE NEIGHBOUR: 'it returns false'. Refute it at one input. -/
def imageBackWrong : ChangeSpec := { name := "imageBack", fn := fun _ => fun
  | [d1, d2, d3] => { results := [.lit (.bool false)], args := [d1, d2, d3] }
  | _ => none }
def ImageBackWrongFalsely : Prop := imageBackRow.holds Tryz.pinned (OpenSpec.ofChange imageBackWrong)

/-- 'cloisterlaw23.ImageTurned': WHATEVER THE INPUT: true; the input reads as it did. -/
def imageTurnedSpec : ChangeSpec := { name := "imageTurned", fn := fun _ => fun
  | [d1, d2, d3, d4, d5] => { results := [.lit (.bool true)], args := [d1, d2, d3, d4, d5] }
  | _ => none }
def imageTurnedRow : OpenClaim := { program := "ythhhomgbpnmeeaagreatdoor", sum := "f44cec79d8a710fd9eeea7c1ace7b641b1cc698f23230007360ee2dbb2c212c8", func := "cloister/cloisterlaw23.ImageTurned", spec := "imageTurned", inPlace := ["slices.overlaps[cloister/api.Usage]", "internal/bytealg.IndexByteString", "internal/bytealg.IndexString", "internal/bytealg.CountString", "slices.overlaps[cloister/api.Entry]", "math.Float64frombits", "math.Float64bits", "internal/bytealg.abigen_runtime_cmpstring", "slices.overlaps[cloister/api.Xattr]"], unfollowed := true, recurses := true, named := ["internal/bytealg.MaxLen", "unicode/utf8.first", "unicode/utf8.acceptRanges", "cloister/sha.keys"], apart := false, laid := [("cloister/sha.keys", laid_cloister_sha_keys), ("unicode/utf8.acceptRanges", laid_unicode_utf8_acceptRanges), ("unicode/utf8.first", laid_unicode_utf8_first)] }
def ImageTurnedSaid : Prop := imageTurnedRow.holds Tryz.pinned (OpenSpec.ofChange imageTurnedSpec)

/-- ITS FALSE NEIGHBOUR: 'it returns false'. Refute it at one input. -/
def imageTurnedWrong : ChangeSpec := { name := "imageTurned", fn := fun _ => fun
  | [d1, d2, d3, d4, d5] => { results := [.lit (.bool false)], args := [d1, d2, d3, d4, d5] }
  | _ => none }
def ImageTurnedWrongFalsely : Prop := imageTurnedRow.holds Tryz.pinned (OpenSpec.ofChange imageTurnedWrong)

/- THE SECOND FORM. 'bulk': how many values and letters a reading holds, each counted each time it is reached (what is shared counts as often as it is met; a slice's spare places count too). A statement '..UptoSaid' is the law's where the arguments, and the package variables that the reading takes, are together of bulk at most 1048576: NARROWER than '..Said'. Prove '..Said' where nothing that the law and all that it calls make is longer than what came in: it says more and counts as full. Else prove '..UptoSaid'. A law counts once. -/
mutual
def uptoBulk {H : Type} : DataW H → Nat
  | .lit (.string bytes) => bytes.length + 1
  | .lit _ => 1
  | .nil => 1
  | .ptr d => uptoBulk d + 1
  | .slice elems spare => uptoBulkAll elems + uptoBulkAll spare + 1
  | .agg parts => uptoBulkAll parts + 1
  | .iface _ d => uptoBulk d + 1
  | .map entries => uptoBulkEntries entries + 1
  | .held _ => 1
def uptoBulkAll {H : Type} : List (DataW H) → Nat
  | [] => 0
  | d :: r => uptoBulk d + uptoBulkAll r
def uptoBulkEntries {H : Type} : List (Lit × DataW H) → Nat
  | [] => 0
  | x :: r => uptoBulkEntry x + uptoBulkEntries r
def uptoBulkEntry {H : Type} : Lit × DataW H → Nat
  | (.string bytes, d) => bytes.length + uptoBulk d + 1
  | (_, d) => uptoBulk d + 1
 end
def uptoSmall : (H : Type) → List (DataW H) → Bool := fun _ ds => decide (uptoBulkAll ds ≤ 1048576)
def OpenSpec.upto (s : _root_.Go.ChangeSpec) : _root_.Go.OpenSpec := { _root_.Go.OpenSpec.ofChange s with cond := some uptoSmall }

/-- 'cloisterlaw22.PosixKinds', WHERE WHAT IT READS IS OF BULK AT MOST 1048576: true; the input reads as it did. -/
def posixKindsUptoRow : OpenClaim := { program := "ythhhomgbpnmeeaagreatdoor", sum := "f44cec79d8a710fd9eeea7c1ace7b641b1cc698f23230007360ee2dbb2c212c8", func := "cloister/cloisterlaw22.PosixKinds", spec := "posixKinds", inPlace := ["slices.overlaps[cloister/api.Usage]", "internal/bytealg.IndexByteString", "internal/bytealg.IndexString", "internal/bytealg.CountString", "slices.overlaps[cloister/api.Entry]", "math.Float64frombits", "math.Float64bits", "internal/bytealg.abigen_runtime_cmpstring", "slices.overlaps[cloister/api.Xattr]"], unfollowed := true, recurses := true, named := ["internal/bytealg.MaxLen", "unicode/utf8.first", "unicode/utf8.acceptRanges", "cloister/sha.keys"], apart := false, laid := [("cloister/sha.keys", laid_cloister_sha_keys), ("unicode/utf8.acceptRanges", laid_unicode_utf8_acceptRanges), ("unicode/utf8.first", laid_unicode_utf8_first)], narrowed := true }
def PosixKindsUptoSaid : Prop := posixKindsUptoRow.holds Tryz.pinned (OpenSpec.upto posixKindsSpec)

/-- 'cloisterlaw22.PosixNil', WHERE WHAT IT READS IS OF BULK AT MOST 1048576: true; the input reads as it did. -/
def posixNilUptoRow : OpenClaim := { program := "ythhhomgbpnmeeaagreatdoor", sum := "f44cec79d8a710fd9eeea7c1ace7b641b1cc698f23230007360ee2dbb2c212c8", func := "cloister/cloisterlaw22.PosixNil", spec := "posixNil", inPlace := ["slices.overlaps[cloister/api.Usage]", "internal/bytealg.IndexByteString", "internal/bytealg.IndexString", "internal/bytealg.CountString", "slices.overlaps[cloister/api.Entry]", "math.Float64frombits", "math.Float64bits", "internal/bytealg.abigen_runtime_cmpstring", "slices.overlaps[cloister/api.Xattr]"], unfollowed := true, recurses := true, named := ["internal/bytealg.MaxLen", "unicode/utf8.first", "unicode/utf8.acceptRanges", "cloister/sha.keys"], apart := false, laid := [("cloister/sha.keys", laid_cloister_sha_keys), ("unicode/utf8.acceptRanges", laid_unicode_utf8_acceptRanges), ("unicode/utf8.first", laid_unicode_utf8_first)], narrowed := true }
def PosixNilUptoSaid : Prop := posixNilUptoRow.holds Tryz.pinned (OpenSpec.upto posixNilSpec)

/-- 'cloisterlaw23.ImageSaves', WHERE WHAT IT READS IS OF BULK AT MOST 1048576: true; the input reads as it did. -/
def imageSavesUptoRow : OpenClaim := { program := "ythhhomgbpnmeeaagreatdoor", sum := "f44cec79d8a710fd9eeea7c1ace7b641b1cc698f23230007360ee2dbb2c212c8", func := "cloister/cloisterlaw23.ImageSaves", spec := "imageSaves", inPlace := ["slices.overlaps[cloister/api.Usage]", "internal/bytealg.IndexByteString", "internal/bytealg.IndexString", "internal/bytealg.CountString", "slices.overlaps[cloister/api.Entry]", "math.Float64frombits", "math.Float64bits", "internal/bytealg.abigen_runtime_cmpstring", "slices.overlaps[cloister/api.Xattr]"], unfollowed := true, recurses := true, named := ["internal/bytealg.MaxLen", "unicode/utf8.first", "unicode/utf8.acceptRanges", "cloister/sha.keys"], apart := false, laid := [("cloister/sha.keys", laid_cloister_sha_keys), ("unicode/utf8.acceptRanges", laid_unicode_utf8_acceptRanges), ("unicode/utf8.first", laid_unicode_utf8_first)], narrowed := true }
def ImageSavesUptoSaid : Prop := imageSavesUptoRow.holds Tryz.pinned (OpenSpec.upto imageSavesSpec)

/-- 'cloisterlaw22.PosixPlays', WHERE WHAT IT READS IS OF BULK AT MOST 1048576: true; the input reads as it did. -/
def posixPlaysUptoRow : OpenClaim := { program := "ythhhomgbpnmeeaagreatdoor", sum := "f44cec79d8a710fd9eeea7c1ace7b641b1cc698f23230007360ee2dbb2c212c8", func := "cloister/cloisterlaw22.PosixPlays", spec := "posixPlays", inPlace := ["slices.overlaps[cloister/api.Usage]", "internal/bytealg.IndexByteString", "internal/bytealg.IndexString", "internal/bytealg.CountString", "slices.overlaps[cloister/api.Entry]", "math.Float64frombits", "math.Float64bits", "internal/bytealg.abigen_runtime_cmpstring", "slices.overlaps[cloister/api.Xattr]"], unfollowed := true, recurses := true, named := ["internal/bytealg.MaxLen", "unicode/utf8.first", "unicode/utf8.acceptRanges", "cloister/sha.keys", "cloister/cloisterref01.k"], apart := false, laid := [("cloister/cloisterref01.k", laid_cloister_cloisterref01_k), ("cloister/sha.keys", laid_cloister_sha_keys), ("unicode/utf8.acceptRanges", laid_unicode_utf8_acceptRanges), ("unicode/utf8.first", laid_unicode_utf8_first)], narrowed := true }
def PosixPlaysUptoSaid : Prop := posixPlaysUptoRow.holds Tryz.pinned (OpenSpec.upto posixPlaysSpec)

/-- 'cloisterlaw22.PosixBuilds', WHERE WHAT IT READS IS OF BULK AT MOST 1048576: true; the input reads as it did. -/
def posixBuildsUptoRow : OpenClaim := { program := "ythhhomgbpnmeeaagreatdoor", sum := "f44cec79d8a710fd9eeea7c1ace7b641b1cc698f23230007360ee2dbb2c212c8", func := "cloister/cloisterlaw22.PosixBuilds", spec := "posixBuilds", inPlace := ["slices.overlaps[cloister/api.Usage]", "internal/bytealg.IndexByteString", "internal/bytealg.IndexString", "internal/bytealg.CountString", "slices.overlaps[cloister/api.Entry]", "math.Float64frombits", "math.Float64bits", "internal/bytealg.abigen_runtime_cmpstring", "slices.overlaps[cloister/api.Xattr]"], unfollowed := true, recurses := true, named := ["internal/bytealg.MaxLen", "unicode/utf8.first", "unicode/utf8.acceptRanges", "cloister/sha.keys"], apart := false, laid := [("cloister/sha.keys", laid_cloister_sha_keys), ("unicode/utf8.acceptRanges", laid_unicode_utf8_acceptRanges), ("unicode/utf8.first", laid_unicode_utf8_first)], narrowed := true }
def PosixBuildsUptoSaid : Prop := posixBuildsUptoRow.holds Tryz.pinned (OpenSpec.upto posixBuildsSpec)

/-- 'cloisterlaw22.PosixSpoils', WHERE WHAT IT READS IS OF BULK AT MOST 1048576: true; the input reads as it did. -/
def posixSpoilsUptoRow : OpenClaim := { program := "ythhhomgbpnmeeaagreatdoor", sum := "f44cec79d8a710fd9eeea7c1ace7b641b1cc698f23230007360ee2dbb2c212c8", func := "cloister/cloisterlaw22.PosixSpoils", spec := "posixSpoils", inPlace := ["slices.overlaps[cloister/api.Usage]", "internal/bytealg.IndexByteString", "internal/bytealg.IndexString", "internal/bytealg.CountString", "slices.overlaps[cloister/api.Entry]", "math.Float64frombits", "math.Float64bits", "internal/bytealg.abigen_runtime_cmpstring", "slices.overlaps[cloister/api.Xattr]"], unfollowed := true, recurses := true, named := ["internal/bytealg.MaxLen", "unicode/utf8.first", "unicode/utf8.acceptRanges", "cloister/sha.keys"], apart := false, laid := [("cloister/sha.keys", laid_cloister_sha_keys), ("unicode/utf8.acceptRanges", laid_unicode_utf8_acceptRanges), ("unicode/utf8.first", laid_unicode_utf8_first)], narrowed := true }
def PosixSpoilsUptoSaid : Prop := posixSpoilsUptoRow.holds Tryz.pinned (OpenSpec.upto posixSpoilsSpec)

/-- 'cloisterlaw23.ImageHomes', WHERE WHAT IT READS IS OF BULK AT MOST 1048576: true; the input reads as it did. -/
def imageHomesUptoRow : OpenClaim := { program := "ythhhomgbpnmeeaagreatdoor", sum := "f44cec79d8a710fd9eeea7c1ace7b641b1cc698f23230007360ee2dbb2c212c8", func := "cloister/cloisterlaw23.ImageHomes", spec := "imageHomes", inPlace := ["slices.overlaps[cloister/api.Usage]", "internal/bytealg.IndexByteString", "internal/bytealg.IndexString", "internal/bytealg.CountString", "slices.overlaps[cloister/api.Entry]", "math.Float64frombits", "math.Float64bits", "internal/bytealg.abigen_runtime_cmpstring", "slices.overlaps[cloister/api.Xattr]"], unfollowed := true, recurses := true, named := ["internal/bytealg.MaxLen", "unicode/utf8.first", "unicode/utf8.acceptRanges", "cloister/sha.keys"], apart := false, laid := [("cloister/sha.keys", laid_cloister_sha_keys), ("unicode/utf8.acceptRanges", laid_unicode_utf8_acceptRanges), ("unicode/utf8.first", laid_unicode_utf8_first)], narrowed := true }
def ImageHomesUptoSaid : Prop := imageHomesUptoRow.holds Tryz.pinned (OpenSpec.upto imageHomesSpec)

/-- 'cloisterlaw23.ImageBack', WHERE WHAT IT READS IS OF BULK AT MOST 1048576: true; the input reads as it did. -/
def imageBackUptoRow : OpenClaim := { program := "ythhhomgbpnmeeaagreatdoor", sum := "f44cec79d8a710fd9eeea7c1ace7b641b1cc698f23230007360ee2dbb2c212c8", func := "cloister/cloisterlaw23.ImageBack", spec := "imageBack", inPlace := ["slices.overlaps[cloister/api.Usage]", "internal/bytealg.IndexByteString", "internal/bytealg.IndexString", "internal/bytealg.CountString", "slices.overlaps[cloister/api.Entry]", "math.Float64frombits", "math.Float64bits", "internal/bytealg.abigen_runtime_cmpstring", "slices.overlaps[cloister/api.Xattr]"], unfollowed := true, recurses := true, named := ["internal/bytealg.MaxLen", "unicode/utf8.first", "unicode/utf8.acceptRanges", "cloister/sha.keys"], apart := false, laid := [("cloister/sha.keys", laid_cloister_sha_keys), ("unicode/utf8.acceptRanges", laid_unicode_utf8_acceptRanges), ("unicode/utf8.first", laid_unicode_utf8_first)], narrowed := true }
def ImageBackUptoSaid : Prop := imageBackUptoRow.holds Tryz.pinned (OpenSpec.upto imageBackSpec)

/-- 'cloisterlaw23.ImageTurned', WHERE WHAT IT READS IS OF BULK AT MOST 1048576: true; the input reads as it did. -/
def imageTurnedUptoRow : OpenClaim := { program := "ythhhomgbpnmeeaagreatdoor", sum := "f44cec79d8a710fd9eeea7c1ace7b641b1cc698f23230007360ee2dbb2c212c8", func := "cloister/cloisterlaw23.ImageTurned", spec := "imageTurned", inPlace := ["slices.overlaps[cloister/api.Usage]", "internal/bytealg.IndexByteString", "internal/bytealg.IndexString", "internal/bytealg.CountString", "slices.overlaps[cloister/api.Entry]", "math.Float64frombits", "math.Float64bits", "internal/bytealg.abigen_runtime_cmpstring", "slices.overlaps[cloister/api.Xattr]"], unfollowed := true, recurses := true, named := ["internal/bytealg.MaxLen", "unicode/utf8.first", "unicode/utf8.acceptRanges", "cloister/sha.keys"], apart := false, laid := [("cloister/sha.keys", laid_cloister_sha_keys), ("unicode/utf8.acceptRanges", laid_unicode_utf8_acceptRanges), ("unicode/utf8.first", laid_unicode_utf8_first)], narrowed := true }
def ImageTurnedUptoSaid : Prop := imageTurnedUptoRow.holds Tryz.pinned (OpenSpec.upto imageTurnedSpec)

end Rows
end Go.Proofs.YthhhomgbpnmeeaaGreatDoor
