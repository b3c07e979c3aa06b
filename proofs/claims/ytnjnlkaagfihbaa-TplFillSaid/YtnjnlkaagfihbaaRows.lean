/-
  No cell of these rows narrows 'for every input' (looked for: loops, veiled, ifaces, maps, wideKeys, modest, calm, conditions, laid).
  DERIVED. THE GIVEN ROWS OF THIS SEAT. 11 by the template 'for every input the law returns true; each argument reads behind the call as it read before'; 0 by the template 'total and deterministic' (their statements: YtnjnlkaagfihbaaTotals.lean).
  GIVEN WITH THE SEED: the statements are not yours to turn. If you find one false, say at which input.
  Laid BY PROGRAM, IN A SANDBOX (cutbox-rows.mjs): the forced cells as the released guide's own fill.sh prints them over the translation 154fbf3d32681ba1… (all of the seat's roots in one cut). By AI agents, Wed Nov 11 2026. No macro, syntax, notation, axiom, sorry.
-/
import Derived.Test.YtnjnlkaagfihbaaChecked
import GoSem.Claim
import GoSem.ClaimJoined
import GoSem.ClaimMapViews
import Derived.JoinedTies
import Derived.KernelRfl
namespace Go.Proofs.Ytnjnlkaagfihbaa
/- THE CELL 'sum', in the pinned program and in every row, IS THE sha256 OF THE DUMP (.gsa) THAT YtnjnlkaagfihbaaProg.lean LOADS. Nothing in Lean hashes anything: it is a label: what it is worth is what the hold of that sum in a sandbox is worth. -/
noncomputable def Try.pinned : Pinned := { name := "ytnjnlkaagfihbaa", sum := "154fbf3d32681ba1800d5ebabcc8c2edb2d18424b1ef17b397f40523faafadbb", checked := Try.checked }
namespace Rows
def none {H : Type} : Left H := { results := [], args := [] }

/-- 'glosslaw6.FindText': WHATEVER THE INPUT: true; the input reads as it did. -/
def findTextSpec : ChangeSpec := { name := "findText", fn := fun _ => fun
  | [d1, d2] => { results := [.lit (.bool true)], args := [d1, d2] }
  | _ => none }
def findTextRow : OpenClaim := { program := "ytnjnlkaagfihbaa", sum := "154fbf3d32681ba1800d5ebabcc8c2edb2d18424b1ef17b397f40523faafadbb", func := "gloss/glosslaw6.FindText", spec := "findText", inPlace := ["internal/bytealg.IndexByteString", "internal/bytealg.IndexString"], unfollowed := true, recurses := true, named := ["internal/bytealg.MaxLen"], plainKeys := false, apart := false }
def FindTextSaid : Prop := findTextRow.holds Try.pinned (OpenSpec.ofChange findTextSpec)

/-- ITS FALSE NEIGHBOUR: 'it returns false'. Refute it at one input. -/
def findTextWrong : ChangeSpec := { name := "findText", fn := fun _ => fun
  | [d1, d2] => { results := [.lit (.bool false)], args := [d1, d2] }
  | _ => none }
def FindTextWrongFalsely : Prop := findTextRow.holds Try.pinned (OpenSpec.ofChange findTextWrong)

/-- 'glosslaw6.FindAnchors': WHATEVER THE INPUT: true; the input reads as it did. -/
def findAnchorsSpec : ChangeSpec := { name := "findAnchors", fn := fun _ => fun
  | [d] => { results := [.lit (.bool true)], args := [d] }
  | _ => none }
def findAnchorsRow : OpenClaim := { program := "ytnjnlkaagfihbaa", sum := "154fbf3d32681ba1800d5ebabcc8c2edb2d18424b1ef17b397f40523faafadbb", func := "gloss/glosslaw6.FindAnchors", spec := "findAnchors", inPlace := ["internal/bytealg.IndexByteString", "internal/bytealg.IndexString"], unfollowed := true, recurses := true, named := ["internal/bytealg.MaxLen"], plainKeys := false, apart := false }
def FindAnchorsSaid : Prop := findAnchorsRow.holds Try.pinned (OpenSpec.ofChange findAnchorsSpec)

/-- ITS FALSE NEIGHBOUR: 'it returns false'. Refute it at one input. -/
def findAnchorsWrong : ChangeSpec := { name := "findAnchors", fn := fun _ => fun
  | [d] => { results := [.lit (.bool false)], args := [d] }
  | _ => none }
def FindAnchorsWrongFalsely : Prop := findAnchorsRow.holds Try.pinned (OpenSpec.ofChange findAnchorsWrong)

/-- 'glosslaw7.TplLaws': WHATEVER THE INPUT: true; the input reads as it did. -/
def tplLawsSpec : ChangeSpec := { name := "tplLaws", fn := fun _ => fun
  | [d1, d2, d3] => { results := [.lit (.bool true)], args := [d1, d2, d3] }
  | _ => none }
def tplLawsRow : OpenClaim := { program := "ytnjnlkaagfihbaa", sum := "154fbf3d32681ba1800d5ebabcc8c2edb2d18424b1ef17b397f40523faafadbb", func := "gloss/glosslaw7.TplLaws", spec := "tplLaws", inPlace := ["internal/abi.NoEscape", "internal/bytealg.IndexByteString", "internal/bytealg.IndexString"], unfollowed := true, recurses := true, named := ["internal/bytealg.MaxLen"], plainKeys := false, apart := false }
def TplLawsSaid : Prop := tplLawsRow.holds Try.pinned (OpenSpec.ofChange tplLawsSpec)

/-- ITS FALSE NEIGHBOUR: 'it returns false'. Refute it at one input. -/
def tplLawsWrong : ChangeSpec := { name := "tplLaws", fn := fun _ => fun
  | [d1, d2, d3] => { results := [.lit (.bool false)], args := [d1, d2, d3] }
  | _ => none }
def TplLawsWrongFalsely : Prop := tplLawsRow.holds Try.pinned (OpenSpec.ofChange tplLawsWrong)

/-- 'glosslaw7.TplNth': WHATEVER THE INPUT: true; the input reads as it did. -/
def tplNthSpec : ChangeSpec := { name := "tplNth", fn := fun _ => fun
  | [d1, d2] => { results := [.lit (.bool true)], args := [d1, d2] }
  | _ => none }
def tplNthRow : OpenClaim := { program := "ytnjnlkaagfihbaa", sum := "154fbf3d32681ba1800d5ebabcc8c2edb2d18424b1ef17b397f40523faafadbb", func := "gloss/glosslaw7.TplNth", spec := "tplNth", inPlace := ["internal/abi.NoEscape", "internal/bytealg.IndexByteString", "internal/bytealg.IndexString"], unfollowed := true, recurses := true, named := ["internal/bytealg.MaxLen"], plainKeys := false, apart := false }
def TplNthSaid : Prop := tplNthRow.holds Try.pinned (OpenSpec.ofChange tplNthSpec)

/-- ITS FALSE NEIGHBOUR: 'it returns false'. Refute it at one input. -/
def tplNthWrong : ChangeSpec := { name := "tplNth", fn := fun _ => fun
  | [d1, d2] => { results := [.lit (.bool false)], args := [d1, d2] }
  | _ => none }
def TplNthWrongFalsely : Prop := tplNthRow.holds Try.pinned (OpenSpec.ofChange tplNthWrong)

/-- 'glosslaw7.TplFill': WHATEVER THE INPUT: true; the input reads as it did. -/
def tplFillSpec : ChangeSpec := { name := "tplFill", fn := fun _ => fun
  | [d1, d2, d3, d4] => { results := [.lit (.bool true)], args := [d1, d2, d3, d4] }
  | _ => none }
def tplFillRow : OpenClaim := { program := "ytnjnlkaagfihbaa", sum := "154fbf3d32681ba1800d5ebabcc8c2edb2d18424b1ef17b397f40523faafadbb", func := "gloss/glosslaw7.TplFill", spec := "tplFill", inPlace := ["internal/abi.NoEscape", "internal/bytealg.IndexByteString", "internal/bytealg.IndexString"], unfollowed := true, recurses := true, named := ["internal/bytealg.MaxLen"], plainKeys := false, apart := false }
def TplFillSaid : Prop := tplFillRow.holds Try.pinned (OpenSpec.ofChange tplFillSpec)

/-- ITS FALSE NEIGHBOUR: 'it returns false'. Refute it at one input. -/
def tplFillWrong : ChangeSpec := { name := "tplFill", fn := fun _ => fun
  | [d1, d2, d3, d4] => { results := [.lit (.bool false)], args := [d1, d2, d3, d4] }
  | _ => none }
def TplFillWrongFalsely : Prop := tplFillRow.holds Try.pinned (OpenSpec.ofChange tplFillWrong)

/-- 'glosslaw7.TplSubst': WHATEVER THE INPUT: true; the input reads as it did. -/
def tplSubstSpec : ChangeSpec := { name := "tplSubst", fn := fun _ => fun
  | [d1, d2, d3, d4, d5, d6] => { results := [.lit (.bool true)], args := [d1, d2, d3, d4, d5, d6] }
  | _ => none }
def tplSubstRow : OpenClaim := { program := "ytnjnlkaagfihbaa", sum := "154fbf3d32681ba1800d5ebabcc8c2edb2d18424b1ef17b397f40523faafadbb", func := "gloss/glosslaw7.TplSubst", spec := "tplSubst", inPlace := ["internal/bytealg.IndexByteString", "internal/bytealg.IndexString", "internal/abi.NoEscape"], unfollowed := true, recurses := true, named := ["internal/bytealg.MaxLen"], plainKeys := false, apart := false }
def TplSubstSaid : Prop := tplSubstRow.holds Try.pinned (OpenSpec.ofChange tplSubstSpec)

/-- ITS FALSE NEIGHBOUR: 'it returns false'. Refute it at one input. -/
def tplSubstWrong : ChangeSpec := { name := "tplSubst", fn := fun _ => fun
  | [d1, d2, d3, d4, d5, d6] => { results := [.lit (.bool false)], args := [d1, d2, d3, d4, d5, d6] }
  | _ => none }
def TplSubstWrongFalsely : Prop := tplSubstRow.holds Try.pinned (OpenSpec.ofChange tplSubstWrong)

/-- 'glosslaw5.WayLaws': WHATEVER THE INPUT: true; the input reads as it did. -/
def wayLawsSpec : ChangeSpec := { name := "wayLaws", fn := fun _ => fun
  | [d1, d2, d3, d4] => { results := [.lit (.bool true)], args := [d1, d2, d3, d4] }
  | _ => none }
def wayLawsRow : OpenClaim := { program := "ytnjnlkaagfihbaa", sum := "154fbf3d32681ba1800d5ebabcc8c2edb2d18424b1ef17b397f40523faafadbb", func := "gloss/glosslaw5.WayLaws", spec := "wayLaws", inPlace := ["internal/bytealg.IndexByteString", "internal/bytealg.IndexString"], unfollowed := true, recurses := true, named := ["internal/bytealg.MaxLen"], plainKeys := false, apart := false }
def WayLawsSaid : Prop := wayLawsRow.holds Try.pinned (OpenSpec.ofChange wayLawsSpec)

/-- ITS FALSE NEIGHBOUR: 'it returns false'. Refute it at one input. -/
def wayLawsWrong : ChangeSpec := { name := "wayLaws", fn := fun _ => fun
  | [d1, d2, d3, d4] => { results := [.lit (.bool false)], args := [d1, d2, d3, d4] }
  | _ => none }
def WayLawsWrongFalsely : Prop := wayLawsRow.holds Try.pinned (OpenSpec.ofChange wayLawsWrong)

/-- 'glosslaw5.WayOnce': WHATEVER THE INPUT: true; the input reads as it did. -/
def wayOnceSpec : ChangeSpec := { name := "wayOnce", fn := fun _ => fun
  | [d1, d2, d3, d4] => { results := [.lit (.bool true)], args := [d1, d2, d3, d4] }
  | _ => none }
def wayOnceRow : OpenClaim := { program := "ytnjnlkaagfihbaa", sum := "154fbf3d32681ba1800d5ebabcc8c2edb2d18424b1ef17b397f40523faafadbb", func := "gloss/glosslaw5.WayOnce", spec := "wayOnce", inPlace := ["internal/bytealg.IndexByteString", "internal/bytealg.IndexString"], unfollowed := true, recurses := true, named := ["internal/bytealg.MaxLen"], plainKeys := false, apart := false }
def WayOnceSaid : Prop := wayOnceRow.holds Try.pinned (OpenSpec.ofChange wayOnceSpec)

/-- ITS FALSE NEIGHBOUR: 'it returns false'. Refute it at one input. -/
def wayOnceWrong : ChangeSpec := { name := "wayOnce", fn := fun _ => fun
  | [d1, d2, d3, d4] => { results := [.lit (.bool false)], args := [d1, d2, d3, d4] }
  | _ => none }
def WayOnceWrongFalsely : Prop := wayOnceRow.holds Try.pinned (OpenSpec.ofChange wayOnceWrong)

/-- 'glosslaw5.WayTimes': WHATEVER THE INPUT: true; the input reads as it did. -/
def wayTimesSpec : ChangeSpec := { name := "wayTimes", fn := fun _ => fun
  | [d1, d2, d3, d4] => { results := [.lit (.bool true)], args := [d1, d2, d3, d4] }
  | _ => none }
def wayTimesRow : OpenClaim := { program := "ytnjnlkaagfihbaa", sum := "154fbf3d32681ba1800d5ebabcc8c2edb2d18424b1ef17b397f40523faafadbb", func := "gloss/glosslaw5.WayTimes", spec := "wayTimes", inPlace := ["internal/bytealg.IndexByteString", "internal/bytealg.IndexString"], unfollowed := true, recurses := true, named := ["internal/bytealg.MaxLen"], plainKeys := false, apart := false }
def WayTimesSaid : Prop := wayTimesRow.holds Try.pinned (OpenSpec.ofChange wayTimesSpec)

/-- ITS FALSE NEIGHBOUR: 'it returns false'. Refute it at one input. -/
def wayTimesWrong : ChangeSpec := { name := "wayTimes", fn := fun _ => fun
  | [d1, d2, d3, d4] => { results := [.lit (.bool false)], args := [d1, d2, d3, d4] }
  | _ => none }
def WayTimesWrongFalsely : Prop := wayTimesRow.holds Try.pinned (OpenSpec.ofChange wayTimesWrong)

/-- 'glosslaw5.WayBack': WHATEVER THE INPUT: true; the input reads as it did. -/
def wayBackSpec : ChangeSpec := { name := "wayBack", fn := fun _ => fun
  | [d1, d2] => { results := [.lit (.bool true)], args := [d1, d2] }
  | _ => none }
def wayBackRow : OpenClaim := { program := "ytnjnlkaagfihbaa", sum := "154fbf3d32681ba1800d5ebabcc8c2edb2d18424b1ef17b397f40523faafadbb", func := "gloss/glosslaw5.WayBack", spec := "wayBack", inPlace := ["internal/bytealg.IndexByteString", "internal/bytealg.IndexString"], unfollowed := true, recurses := true, named := ["internal/bytealg.MaxLen"], plainKeys := false, apart := false }
def WayBackSaid : Prop := wayBackRow.holds Try.pinned (OpenSpec.ofChange wayBackSpec)

/-- ITS FALSE NEIGHBOUR: 'it returns false'. Refute it at one input. -/
def wayBackWrong : ChangeSpec := { name := "wayBack", fn := fun _ => fun
  | [d1, d2] => { results := [.lit (.bool false)], args := [d1, d2] }
  | _ => none }
def WayBackWrongFalsely : Prop := wayBackRow.holds Try.pinned (OpenSpec.ofChange wayBackWrong)

/-- 'glosslaw6.FindParts': WHATEVER THE INPUT: true; the input reads as it did. -/
def findPartsSpec : ChangeSpec := { name := "findParts", fn := fun _ => fun
  | [d1, d2, d3, d4] => { results := [.lit (.bool true)], args := [d1, d2, d3, d4] }
  | _ => none }
def findPartsRow : OpenClaim := { program := "ytnjnlkaagfihbaa", sum := "154fbf3d32681ba1800d5ebabcc8c2edb2d18424b1ef17b397f40523faafadbb", func := "gloss/glosslaw6.FindParts", spec := "findParts", inPlace := ["internal/bytealg.IndexByteString", "internal/bytealg.IndexString"], unfollowed := true, recurses := true, named := ["internal/bytealg.MaxLen"], plainKeys := false, apart := false }
def FindPartsSaid : Prop := findPartsRow.holds Try.pinned (OpenSpec.ofChange findPartsSpec)

/-- ITS FALSE NEIGHBOUR: 'it returns false'. Refute it at one input. -/
def findPartsWrong : ChangeSpec := { name := "findParts", fn := fun _ => fun
  | [d1, d2, d3, d4] => { results := [.lit (.bool false)], args := [d1, d2, d3, d4] }
  | _ => none }
def FindPartsWrongFalsely : Prop := findPartsRow.holds Try.pinned (OpenSpec.ofChange findPartsWrong)

/- THE SECOND FORM. 'bulk': how many values and letters a reading holds, each counted each time it is reached (what is shared counts as often as it is met; a slice's spare places count too). A statement '..UptoSaid' is the law's where the arguments, and the package variables that the reading takes, are together of bulk at most 1048576: NARROWER than '..Said'. Prove '..Said' where nothing that the law and all that it calls make is longer than what came in: it says more and counts as full. Else prove '..UptoSaid'. A law counts once. -/
mutual
def uptoBulk {H : Type} : DataW H → Nat
  | .lit (.string bytes) => bytes.length + 1
  | .lit _ => 1
  | .nil => 1
  | .ptr d => uptoBulk d + 1
  | .slice elems spare => uptoBulkAll elems + uptoBulkAll spare + 1
  | .agg parts => uptoBulkAll parts + 1
  | .iface _ d => uptoBulk d + 1
  | .map entries => uptoBulkEntries entries + 1
  | .held _ => 1
def uptoBulkAll {H : Type} : List (DataW H) → Nat
  | [] => 0
  | d :: r => uptoBulk d + uptoBulkAll r
def uptoBulkEntries {H : Type} : List (Lit × DataW H) → Nat
  | [] => 0
  | x :: r => uptoBulkEntry x + uptoBulkEntries r
def uptoBulkEntry {H : Type} : Lit × DataW H → Nat
  | (.string bytes, d) => bytes.length + uptoBulk d + 1
  | (_, d) => uptoBulk d + 1
 end
def uptoSmall : (H : Type) → List (DataW H) → Bool := fun _ ds => decide (uptoBulkAll ds ≤ 1048576)
def OpenSpec.upto (s : _root_.Go.ChangeSpec) : _root_.Go.OpenSpec := { _root_.Go.OpenSpec.ofChange s with cond := some uptoSmall }

/-- 'glosslaw6.FindText', WHERE WHAT IT READS IS OF BULK AT MOST 1048576: true; the input reads as it did. -/
def findTextUptoRow : OpenClaim := { program := "ytnjnlkaagfihbaa", sum := "154fbf3d32681ba1800d5ebabcc8c2edb2d18424b1ef17b397f40523faafadbb", func := "gloss/glosslaw6.FindText", spec := "findText", inPlace := ["internal/bytealg.IndexByteString", "internal/bytealg.IndexString"], unfollowed := true, recurses := true, named := ["internal/bytealg.MaxLen"], plainKeys := false, apart := false, narrowed := true }
def FindTextUptoSaid : Prop := findTextUptoRow.holds Try.pinned (OpenSpec.upto findTextSpec)

/-- 'glosslaw6.FindAnchors', WHERE WHAT IT READS IS OF BULK AT MOST 1048576: true; the input reads as it did. -/
def findAnchorsUptoRow : OpenClaim := { program := "ytnjnlkaagfihbaa", sum := "154fbf3d32681ba1800d5ebabcc8c2edb2d18424b1ef17b397f40523faafadbb", func := "gloss/glosslaw6.FindAnchors", spec := "findAnchors", inPlace := ["internal/bytealg.IndexByteString", "internal/bytealg.IndexString"], unfollowed := true, recurses := true, named := ["internal/bytealg.MaxLen"], plainKeys := false, apart := false, narrowed := true }
def FindAnchorsUptoSaid : Prop := findAnchorsUptoRow.holds Try.pinned (OpenSpec.upto findAnchorsSpec)

/-- 'glosslaw7.TplLaws', WHERE WHAT IT READS IS OF BULK AT MOST 1048576: true; the input reads as it did. -/
def tplLawsUptoRow : OpenClaim := { program := "ytnjnlkaagfihbaa", sum := "154fbf3d32681ba1800d5ebabcc8c2edb2d18424b1ef17b397f40523faafadbb", func := "gloss/glosslaw7.TplLaws", spec := "tplLaws", inPlace := ["internal/abi.NoEscape", "internal/bytealg.IndexByteString", "internal/bytealg.IndexString"], unfollowed := true, recurses := true, named := ["internal/bytealg.MaxLen"], plainKeys := false, apart := false, narrowed := true }
def TplLawsUptoSaid : Prop := tplLawsUptoRow.holds Try.pinned (OpenSpec.upto tplLawsSpec)

/-- 'glosslaw7.TplNth', WHERE WHAT IT READS IS OF BULK AT MOST 1048576: true; the input reads as it did. -/
def tplNthUptoRow : OpenClaim := { program := "ytnjnlkaagfihbaa", sum := "154fbf3d32681ba1800d5ebabcc8c2edb2d18424b1ef17b397f40523faafadbb", func := "gloss/glosslaw7.TplNth", spec := "tplNth", inPlace := ["internal/abi.NoEscape", "internal/bytealg.IndexByteString", "internal/bytealg.IndexString"], unfollowed := true, recurses := true, named := ["internal/bytealg.MaxLen"], plainKeys := false, apart := false, narrowed := true }
def TplNthUptoSaid : Prop := tplNthUptoRow.holds Try.pinned (OpenSpec.upto tplNthSpec)

/-- 'glosslaw7.TplFill', WHERE WHAT IT READS IS OF BULK AT MOST 1048576: true; the input reads as it did. -/
def tplFillUptoRow : OpenClaim := { program := "ytnjnlkaagfihbaa", sum := "154fbf3d32681ba1800d5ebabcc8c2edb2d18424b1ef17b397f40523faafadbb", func := "gloss/glosslaw7.TplFill", spec := "tplFill", inPlace := ["internal/abi.NoEscape", "internal/bytealg.IndexByteString", "internal/bytealg.IndexString"], unfollowed := true, recurses := true, named := ["internal/bytealg.MaxLen"], plainKeys := false, apart := false, narrowed := true }
def TplFillUptoSaid : Prop := tplFillUptoRow.holds Try.pinned (OpenSpec.upto tplFillSpec)

/-- 'glosslaw7.TplSubst', WHERE WHAT IT READS IS OF BULK AT MOST 1048576: true; the input reads as it did. -/
def tplSubstUptoRow : OpenClaim := { program := "ytnjnlkaagfihbaa", sum := "154fbf3d32681ba1800d5ebabcc8c2edb2d18424b1ef17b397f40523faafadbb", func := "gloss/glosslaw7.TplSubst", spec := "tplSubst", inPlace := ["internal/bytealg.IndexByteString", "internal/bytealg.IndexString", "internal/abi.NoEscape"], unfollowed := true, recurses := true, named := ["internal/bytealg.MaxLen"], plainKeys := false, apart := false, narrowed := true }
def TplSubstUptoSaid : Prop := tplSubstUptoRow.holds Try.pinned (OpenSpec.upto tplSubstSpec)

/-- 'glosslaw5.WayLaws', WHERE WHAT IT READS IS OF BULK AT MOST 1048576: true; the input reads as it did. -/
def wayLawsUptoRow : OpenClaim := { program := "ytnjnlkaagfihbaa", sum := "154fbf3d32681ba1800d5ebabcc8c2edb2d18424b1ef17b397f40523faafadbb", func := "gloss/glosslaw5.WayLaws", spec := "wayLaws", inPlace := ["internal/bytealg.IndexByteString", "internal/bytealg.IndexString"], unfollowed := true, recurses := true, named := ["internal/bytealg.MaxLen"], plainKeys := false, apart := false, narrowed := true }
def WayLawsUptoSaid : Prop := wayLawsUptoRow.holds Try.pinned (OpenSpec.upto wayLawsSpec)

/-- 'glosslaw5.WayOnce', WHERE WHAT IT READS IS OF BULK AT MOST 1048576: true; the input reads as it did. -/
def wayOnceUptoRow : OpenClaim := { program := "ytnjnlkaagfihbaa", sum := "154fbf3d32681ba1800d5ebabcc8c2edb2d18424b1ef17b397f40523faafadbb", func := "gloss/glosslaw5.WayOnce", spec := "wayOnce", inPlace := ["internal/bytealg.IndexByteString", "internal/bytealg.IndexString"], unfollowed := true, recurses := true, named := ["internal/bytealg.MaxLen"], plainKeys := false, apart := false, narrowed := true }
def WayOnceUptoSaid : Prop := wayOnceUptoRow.holds Try.pinned (OpenSpec.upto wayOnceSpec)

/-- 'glosslaw5.WayTimes', WHERE WHAT IT READS IS OF BULK AT MOST 1048576: true; the input reads as it did. -/
def wayTimesUptoRow : OpenClaim := { program := "ytnjnlkaagfihbaa", sum := "154fbf3d32681ba1800d5ebabcc8c2edb2d18424b1ef17b397f40523faafadbb", func := "gloss/glosslaw5.WayTimes", spec := "wayTimes", inPlace := ["internal/bytealg.IndexByteString", "internal/bytealg.IndexString"], unfollowed := true, recurses := true, named := ["internal/bytealg.MaxLen"], plainKeys := false, apart := false, narrowed := true }
def WayTimesUptoSaid : Prop := wayTimesUptoRow.holds Try.pinned (OpenSpec.upto wayTimesSpec)

/-- 'glosslaw5.WayBack', WHERE WHAT IT READS IS OF BULK AT MOST 1048576: true; the input reads as it did. -/
def wayBackUptoRow : OpenClaim := { program := "ytnjnlkaagfihbaa", sum := "154fbf3d32681ba1800d5ebabcc8c2edb2d18424b1ef17b397f40523faafadbb", func := "gloss/glosslaw5.WayBack", spec := "wayBack", inPlace := ["internal/bytealg.IndexByteString", "internal/bytealg.IndexString"], unfollowed := true, recurses := true, named := ["internal/bytealg.MaxLen"], plainKeys := false, apart := false, narrowed := true }
def WayBackUptoSaid : Prop := wayBackUptoRow.holds Try.pinned (OpenSpec.upto wayBackSpec)

/-- 'glosslaw6.FindParts', WHERE WHAT IT READS IS OF BULK AT MOST 1048576: true; the input reads as it did. -/
def findPartsUptoRow : OpenClaim := { program := "ytnjnlkaagfihbaa", sum := "154fbf3d32681ba1800d5ebabcc8c2edb2d18424b1ef17b397f40523faafadbb", func := "gloss/glosslaw6.FindParts", spec := "findParts", inPlace := ["internal/bytealg.IndexByteString", "internal/bytealg.IndexString"], unfollowed := true, recurses := true, named := ["internal/bytealg.MaxLen"], plainKeys := false, apart := false, narrowed := true }
def FindPartsUptoSaid : Prop := findPartsUptoRow.holds Try.pinned (OpenSpec.upto findPartsSpec)

end Rows
end Go.Proofs.Ytnjnlkaagfihbaa
