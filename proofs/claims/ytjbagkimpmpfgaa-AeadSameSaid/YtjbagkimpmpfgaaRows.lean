/-
  No cell of these rows narrows 'for every input' (looked for: loops, veiled, ifaces, maps, wideKeys, modest, calm, conditions, laid).
  DERIVED. THE GIVEN ROWS OF THIS SEAT. 26 by the template 'for every input the law returns true; each argument reads behind the call as it read before'; 0 by the template 'total and deterministic' (their statements: YtjbagkimpmpfgaaTotals.lean).
  GIVEN WITH THE SEED: the statements are not yours to turn. If you find one false, say at which input.
  Laid BY PROGRAM, IN A SANDBOX (cutbox-rows.mjs): the forced cells as the released guide's own fill.sh prints them over the translation fe7b730c880aac37… (all of the seat's roots in one cut). By AI agents, Wed Nov 11 2026. No macro, syntax, notation, axiom, sorry.
-/
import Derived.Test.YtjbagkimpmpfgaaChecked
import GoSem.Claim
import GoSem.ClaimJoined
import GoSem.ClaimMapViews
import Derived.JoinedTies
import Derived.KernelRfl
namespace Go.Proofs.Ytjbagkimpmpfgaa
/- THE CELL 'sum', in the pinned program and in every row, IS THE sha256 OF THE DUMP (.gsa) THAT YtjbagkimpmpfgaaProg.lean LOADS. Nothing in Lean hashes anything: it is a label: what it is worth is what the hold of that sum in a sandbox is worth. -/
noncomputable def Try.pinned : Pinned := { name := "ytjbagkimpmpfgaa", sum := "fe7b730c880aac37666f4d5ed8af9b17114a1cde5af6147120f95671ef4d9f67", checked := Try.checked }
namespace Rows
def none {H : Type} : Left H := { results := [], args := [] }

/-- 'aditlaw03.ChachaQuarters': WHATEVER THE INPUT: true; the input reads as it did. -/
def chachaQuartersSpec : ChangeSpec := { name := "chachaQuarters", fn := fun _ => fun
  | [d1, d2, d3, d4] => { results := [.lit (.bool true)], args := [d1, d2, d3, d4] }
  | _ => none }
def chachaQuartersRow : OpenClaim := { program := "ytjbagkimpmpfgaa", sum := "fe7b730c880aac37666f4d5ed8af9b17114a1cde5af6147120f95671ef4d9f67", func := "adit/aditlaw03.ChachaQuarters", spec := "chachaQuarters", apart := false }
def ChachaQuartersSaid : Prop := chachaQuartersRow.holds Try.pinned (OpenSpec.ofChange chachaQuartersSpec)

/-- ITS FALSE NEIGHBOUR: 'it returns false'. Refute it at one input. -/
def chachaQuartersWrong : ChangeSpec := { name := "chachaQuarters", fn := fun _ => fun
  | [d1, d2, d3, d4] => { results := [.lit (.bool false)], args := [d1, d2, d3, d4] }
  | _ => none }
def ChachaQuartersWrongFalsely : Prop := chachaQuartersRow.holds Try.pinned (OpenSpec.ofChange chachaQuartersWrong)

/-- 'aditlaw03.ChachaTurnsBack': WHATEVER THE INPUT: true; the input reads as it did. -/
def chachaTurnsBackSpec : ChangeSpec := { name := "chachaTurnsBack", fn := fun _ => fun
  | [d1, d2, d3, d4] => { results := [.lit (.bool true)], args := [d1, d2, d3, d4] }
  | _ => none }
def chachaTurnsBackRow : OpenClaim := { program := "ytjbagkimpmpfgaa", sum := "fe7b730c880aac37666f4d5ed8af9b17114a1cde5af6147120f95671ef4d9f67", func := "adit/aditlaw03.ChachaTurnsBack", spec := "chachaTurnsBack", apart := false }
def ChachaTurnsBackSaid : Prop := chachaTurnsBackRow.holds Try.pinned (OpenSpec.ofChange chachaTurnsBackSpec)

/-- ITS FALSE NEIGHBOUR: 'it returns false'. Refute it at one input. -/
def chachaTurnsBackWrong : ChangeSpec := { name := "chachaTurnsBack", fn := fun _ => fun
  | [d1, d2, d3, d4] => { results := [.lit (.bool false)], args := [d1, d2, d3, d4] }
  | _ => none }
def ChachaTurnsBackWrongFalsely : Prop := chachaTurnsBackRow.holds Try.pinned (OpenSpec.ofChange chachaTurnsBackWrong)

/-- 'aditlaw03.ChachaBlocks': WHATEVER THE INPUT: true; the input reads as it did. -/
def chachaBlocksSpec : ChangeSpec := { name := "chachaBlocks", fn := fun _ => fun
  | [d1, d2, d3] => { results := [.lit (.bool true)], args := [d1, d2, d3] }
  | _ => none }
def chachaBlocksRow : OpenClaim := { program := "ytjbagkimpmpfgaa", sum := "fe7b730c880aac37666f4d5ed8af9b17114a1cde5af6147120f95671ef4d9f67", func := "adit/aditlaw03.ChachaBlocks", spec := "chachaBlocks", apart := false }
def ChachaBlocksSaid : Prop := chachaBlocksRow.holds Try.pinned (OpenSpec.ofChange chachaBlocksSpec)

/-- ITS FALSE NEIGHBOUR: 'it returns false'. Refute it at one input. -/
def chachaBlocksWrong : ChangeSpec := { name := "chachaBlocks", fn := fun _ => fun
  | [d1, d2, d3] => { results := [.lit (.bool false)], args := [d1, d2, d3] }
  | _ => none }
def ChachaBlocksWrongFalsely : Prop := chachaBlocksRow.holds Try.pinned (OpenSpec.ofChange chachaBlocksWrong)

/-- 'aditlaw03.ChachaStreams': WHATEVER THE INPUT: true; the input reads as it did. -/
def chachaStreamsSpec : ChangeSpec := { name := "chachaStreams", fn := fun _ => fun
  | [d1, d2, d3] => { results := [.lit (.bool true)], args := [d1, d2, d3] }
  | _ => none }
def chachaStreamsRow : OpenClaim := { program := "ytjbagkimpmpfgaa", sum := "fe7b730c880aac37666f4d5ed8af9b17114a1cde5af6147120f95671ef4d9f67", func := "adit/aditlaw03.ChachaStreams", spec := "chachaStreams", apart := false }
def ChachaStreamsSaid : Prop := chachaStreamsRow.holds Try.pinned (OpenSpec.ofChange chachaStreamsSpec)

/-- ITS FALSE NEIGHBOUR: 'it returns false'. Refute it at one input. -/
def chachaStreamsWrong : ChangeSpec := { name := "chachaStreams", fn := fun _ => fun
  | [d1, d2, d3] => { results := [.lit (.bool false)], args := [d1, d2, d3] }
  | _ => none }
def ChachaStreamsWrongFalsely : Prop := chachaStreamsRow.holds Try.pinned (OpenSpec.ofChange chachaStreamsWrong)

/-- 'aditlaw03.ChachaPieces': WHATEVER THE INPUT: true; the input reads as it did. -/
def chachaPiecesSpec : ChangeSpec := { name := "chachaPieces", fn := fun _ => fun
  | [d1, d2, d3, d4] => { results := [.lit (.bool true)], args := [d1, d2, d3, d4] }
  | _ => none }
def chachaPiecesRow : OpenClaim := { program := "ytjbagkimpmpfgaa", sum := "fe7b730c880aac37666f4d5ed8af9b17114a1cde5af6147120f95671ef4d9f67", func := "adit/aditlaw03.ChachaPieces", spec := "chachaPieces", apart := false }
def ChachaPiecesSaid : Prop := chachaPiecesRow.holds Try.pinned (OpenSpec.ofChange chachaPiecesSpec)

/-- ITS FALSE NEIGHBOUR: 'it returns false'. Refute it at one input. -/
def chachaPiecesWrong : ChangeSpec := { name := "chachaPieces", fn := fun _ => fun
  | [d1, d2, d3, d4] => { results := [.lit (.bool false)], args := [d1, d2, d3, d4] }
  | _ => none }
def ChachaPiecesWrongFalsely : Prop := chachaPiecesRow.holds Try.pinned (OpenSpec.ofChange chachaPiecesWrong)

/-- 'aditlaw08.ReplaySmall': WHATEVER THE INPUT: true; the input reads as it did. -/
def replaySmallSpec : ChangeSpec := { name := "replaySmall", fn := fun _ => fun
  | [d1, d2] => { results := [.lit (.bool true)], args := [d1, d2] }
  | _ => none }
def replaySmallRow : OpenClaim := { program := "ytjbagkimpmpfgaa", sum := "fe7b730c880aac37666f4d5ed8af9b17114a1cde5af6147120f95671ef4d9f67", func := "adit/aditlaw08.ReplaySmall", spec := "replaySmall", apart := false }
def ReplaySmallSaid : Prop := replaySmallRow.holds Try.pinned (OpenSpec.ofChange replaySmallSpec)

/-- ITS FALSE NEIGHBOUR: 'it returns false'. Refute it at one input. -/
def replaySmallWrong : ChangeSpec := { name := "replaySmall", fn := fun _ => fun
  | [d1, d2] => { results := [.lit (.bool false)], args := [d1, d2] }
  | _ => none }
def ReplaySmallWrongFalsely : Prop := replaySmallRow.holds Try.pinned (OpenSpec.ofChange replaySmallWrong)

/-- 'aditlaw08.ReplayOnce': WHATEVER THE INPUT: true; the input reads as it did. -/
def replayOnceSpec : ChangeSpec := { name := "replayOnce", fn := fun _ => fun
  | [d1, d2, d3] => { results := [.lit (.bool true)], args := [d1, d2, d3] }
  | _ => none }
def replayOnceRow : OpenClaim := { program := "ytjbagkimpmpfgaa", sum := "fe7b730c880aac37666f4d5ed8af9b17114a1cde5af6147120f95671ef4d9f67", func := "adit/aditlaw08.ReplayOnce", spec := "replayOnce", apart := false }
def ReplayOnceSaid : Prop := replayOnceRow.holds Try.pinned (OpenSpec.ofChange replayOnceSpec)

/-- ITS FALSE NEIGHBOUR: 'it returns false'. Refute it at one input. -/
def replayOnceWrong : ChangeSpec := { name := "replayOnce", fn := fun _ => fun
  | [d1, d2, d3] => { results := [.lit (.bool false)], args := [d1, d2, d3] }
  | _ => none }
def ReplayOnceWrongFalsely : Prop := replayOnceRow.holds Try.pinned (OpenSpec.ofChange replayOnceWrong)

/-- 'aditlaw08.ReplayPlays': WHATEVER THE INPUT: true; the input reads as it did. -/
def replayPlaysSpec : ChangeSpec := { name := "replayPlays", fn := fun _ => fun
  | [d1, d2] => { results := [.lit (.bool true)], args := [d1, d2] }
  | _ => none }
def replayPlaysRow : OpenClaim := { program := "ytjbagkimpmpfgaa", sum := "fe7b730c880aac37666f4d5ed8af9b17114a1cde5af6147120f95671ef4d9f67", func := "adit/aditlaw08.ReplayPlays", spec := "replayPlays", apart := false }
def ReplayPlaysSaid : Prop := replayPlaysRow.holds Try.pinned (OpenSpec.ofChange replayPlaysSpec)

/-- ITS FALSE NEIGHBOUR: 'it returns false'. Refute it at one input. -/
def replayPlaysWrong : ChangeSpec := { name := "replayPlays", fn := fun _ => fun
  | [d1, d2] => { results := [.lit (.bool false)], args := [d1, d2] }
  | _ => none }
def ReplayPlaysWrongFalsely : Prop := replayPlaysRow.holds Try.pinned (OpenSpec.ofChange replayPlaysWrong)

/-- 'aditlaw08.ReplayNil': WHATEVER THE INPUT: true; the input reads as it did. -/
def replayNilSpec : ChangeSpec := { name := "replayNil", fn := fun _ => fun
  | [d] => { results := [.lit (.bool true)], args := [d] }
  | _ => none }
def replayNilRow : OpenClaim := { program := "ytjbagkimpmpfgaa", sum := "fe7b730c880aac37666f4d5ed8af9b17114a1cde5af6147120f95671ef4d9f67", func := "adit/aditlaw08.ReplayNil", spec := "replayNil", apart := false }
def ReplayNilSaid : Prop := replayNilRow.holds Try.pinned (OpenSpec.ofChange replayNilSpec)

/-- ITS FALSE NEIGHBOUR: 'it returns false'. Refute it at one input. -/
def replayNilWrong : ChangeSpec := { name := "replayNil", fn := fun _ => fun
  | [d] => { results := [.lit (.bool false)], args := [d] }
  | _ => none }
def ReplayNilWrongFalsely : Prop := replayNilRow.holds Try.pinned (OpenSpec.ofChange replayNilWrong)

/-- 'aditlaw08.ReplayLate': WHATEVER THE INPUT: true; the input reads as it did. -/
def replayLateSpec : ChangeSpec := { name := "replayLate", fn := fun _ => fun
  | [d1, d2, d3] => { results := [.lit (.bool true)], args := [d1, d2, d3] }
  | _ => none }
def replayLateRow : OpenClaim := { program := "ytjbagkimpmpfgaa", sum := "fe7b730c880aac37666f4d5ed8af9b17114a1cde5af6147120f95671ef4d9f67", func := "adit/aditlaw08.ReplayLate", spec := "replayLate", apart := false }
def ReplayLateSaid : Prop := replayLateRow.holds Try.pinned (OpenSpec.ofChange replayLateSpec)

/-- ITS FALSE NEIGHBOUR: 'it returns false'. Refute it at one input. -/
def replayLateWrong : ChangeSpec := { name := "replayLate", fn := fun _ => fun
  | [d1, d2, d3] => { results := [.lit (.bool false)], args := [d1, d2, d3] }
  | _ => none }
def ReplayLateWrongFalsely : Prop := replayLateRow.holds Try.pinned (OpenSpec.ofChange replayLateWrong)

/-- 'aditlaw04.PolyTags': WHATEVER THE INPUT: true; the input reads as it did. -/
def polyTagsSpec : ChangeSpec := { name := "polyTags", fn := fun _ => fun
  | [d1, d2] => { results := [.lit (.bool true)], args := [d1, d2] }
  | _ => none }
def polyTagsRow : OpenClaim := { program := "ytjbagkimpmpfgaa", sum := "fe7b730c880aac37666f4d5ed8af9b17114a1cde5af6147120f95671ef4d9f67", func := "adit/aditlaw04.PolyTags", spec := "polyTags", unfollowed := true, recurses := true, apart := false }
def PolyTagsSaid : Prop := polyTagsRow.holds Try.pinned (OpenSpec.ofChange polyTagsSpec)

/-- ITS FALSE NEIGHBOUR: 'it returns false'. Refute it at one input. -/
def polyTagsWrong : ChangeSpec := { name := "polyTags", fn := fun _ => fun
  | [d1, d2] => { results := [.lit (.bool false)], args := [d1, d2] }
  | _ => none }
def PolyTagsWrongFalsely : Prop := polyTagsRow.holds Try.pinned (OpenSpec.ofChange polyTagsWrong)

/-- 'aditlaw04.PolyPieces': WHATEVER THE INPUT: true; the input reads as it did. -/
def polyPiecesSpec : ChangeSpec := { name := "polyPieces", fn := fun _ => fun
  | [d1, d2] => { results := [.lit (.bool true)], args := [d1, d2] }
  | _ => none }
def polyPiecesRow : OpenClaim := { program := "ytjbagkimpmpfgaa", sum := "fe7b730c880aac37666f4d5ed8af9b17114a1cde5af6147120f95671ef4d9f67", func := "adit/aditlaw04.PolyPieces", spec := "polyPieces", unfollowed := true, recurses := true, apart := false }
def PolyPiecesSaid : Prop := polyPiecesRow.holds Try.pinned (OpenSpec.ofChange polyPiecesSpec)

/-- ITS FALSE NEIGHBOUR: 'it returns false'. Refute it at one input. -/
def polyPiecesWrong : ChangeSpec := { name := "polyPieces", fn := fun _ => fun
  | [d1, d2] => { results := [.lit (.bool false)], args := [d1, d2] }
  | _ => none }
def PolyPiecesWrongFalsely : Prop := polyPiecesRow.holds Try.pinned (OpenSpec.ofChange polyPiecesWrong)

/-- 'aditlaw04.PolyGoes': WHATEVER THE INPUT: true; the input reads as it did. -/
def polyGoesSpec : ChangeSpec := { name := "polyGoes", fn := fun _ => fun
  | [d1, d2, d3] => { results := [.lit (.bool true)], args := [d1, d2, d3] }
  | _ => none }
def polyGoesRow : OpenClaim := { program := "ytjbagkimpmpfgaa", sum := "fe7b730c880aac37666f4d5ed8af9b17114a1cde5af6147120f95671ef4d9f67", func := "adit/aditlaw04.PolyGoes", spec := "polyGoes", unfollowed := true, recurses := true, apart := false }
def PolyGoesSaid : Prop := polyGoesRow.holds Try.pinned (OpenSpec.ofChange polyGoesSpec)

/-- ITS FALSE NEIGHBOUR: 'it returns false'. Refute it at one input. -/
def polyGoesWrong : ChangeSpec := { name := "polyGoes", fn := fun _ => fun
  | [d1, d2, d3] => { results := [.lit (.bool false)], args := [d1, d2, d3] }
  | _ => none }
def PolyGoesWrongFalsely : Prop := polyGoesRow.holds Try.pinned (OpenSpec.ofChange polyGoesWrong)

/-- 'aditlaw04.PolyCuts': WHATEVER THE INPUT: true; the input reads as it did. -/
def polyCutsSpec : ChangeSpec := { name := "polyCuts", fn := fun _ => fun
  | [d1, d2, d3] => { results := [.lit (.bool true)], args := [d1, d2, d3] }
  | _ => none }
def polyCutsRow : OpenClaim := { program := "ytjbagkimpmpfgaa", sum := "fe7b730c880aac37666f4d5ed8af9b17114a1cde5af6147120f95671ef4d9f67", func := "adit/aditlaw04.PolyCuts", spec := "polyCuts", unfollowed := true, recurses := true, apart := false }
def PolyCutsSaid : Prop := polyCutsRow.holds Try.pinned (OpenSpec.ofChange polyCutsSpec)

/-- ITS FALSE NEIGHBOUR: 'it returns false'. Refute it at one input. -/
def polyCutsWrong : ChangeSpec := { name := "polyCuts", fn := fun _ => fun
  | [d1, d2, d3] => { results := [.lit (.bool false)], args := [d1, d2, d3] }
  | _ => none }
def PolyCutsWrongFalsely : Prop := polyCutsRow.holds Try.pinned (OpenSpec.ofChange polyCutsWrong)

/-- 'aditlaw04.PolyNobody': WHATEVER THE INPUT: true; the input reads as it did. -/
def polyNobodySpec : ChangeSpec := { name := "polyNobody", fn := fun _ => fun
  | [d] => { results := [.lit (.bool true)], args := [d] }
  | _ => none }
def polyNobodyRow : OpenClaim := { program := "ytjbagkimpmpfgaa", sum := "fe7b730c880aac37666f4d5ed8af9b17114a1cde5af6147120f95671ef4d9f67", func := "adit/aditlaw04.PolyNobody", spec := "polyNobody", unfollowed := true, recurses := true, apart := false }
def PolyNobodySaid : Prop := polyNobodyRow.holds Try.pinned (OpenSpec.ofChange polyNobodySpec)

/-- ITS FALSE NEIGHBOUR: 'it returns false'. Refute it at one input. -/
def polyNobodyWrong : ChangeSpec := { name := "polyNobody", fn := fun _ => fun
  | [d] => { results := [.lit (.bool false)], args := [d] }
  | _ => none }
def PolyNobodyWrongFalsely : Prop := polyNobodyRow.holds Try.pinned (OpenSpec.ofChange polyNobodyWrong)

/-- 'aditlaw05.AeadSame': WHATEVER THE INPUT: true; the input reads as it did. -/
def aeadSameSpec : ChangeSpec := { name := "aeadSame", fn := fun _ => fun
  | [d1, d2, d3] => { results := [.lit (.bool true)], args := [d1, d2, d3] }
  | _ => none }
def aeadSameRow : OpenClaim := { program := "ytjbagkimpmpfgaa", sum := "fe7b730c880aac37666f4d5ed8af9b17114a1cde5af6147120f95671ef4d9f67", func := "adit/aditlaw05.AeadSame", spec := "aeadSame", unfollowed := true, recurses := true, apart := false }
def AeadSameSaid : Prop := aeadSameRow.holds Try.pinned (OpenSpec.ofChange aeadSameSpec)

/-- ITS FALSE NEIGHBOUR: 'it returns false'. Refute it at one input. -/
def aeadSameWrong : ChangeSpec := { name := "aeadSame", fn := fun _ => fun
  | [d1, d2, d3] => { results := [.lit (.bool false)], args := [d1, d2, d3] }
  | _ => none }
def AeadSameWrongFalsely : Prop := aeadSameRow.holds Try.pinned (OpenSpec.ofChange aeadSameWrong)

/-- 'aditlaw05.AeadMarks': WHATEVER THE INPUT: true; the input reads as it did. -/
def aeadMarksSpec : ChangeSpec := { name := "aeadMarks", fn := fun _ => fun
  | [d1, d2, d3, d4, d5, d6] => { results := [.lit (.bool true)], args := [d1, d2, d3, d4, d5, d6] }
  | _ => none }
def aeadMarksRow : OpenClaim := { program := "ytjbagkimpmpfgaa", sum := "fe7b730c880aac37666f4d5ed8af9b17114a1cde5af6147120f95671ef4d9f67", func := "adit/aditlaw05.AeadMarks", spec := "aeadMarks", unfollowed := true, recurses := true, apart := false }
def AeadMarksSaid : Prop := aeadMarksRow.holds Try.pinned (OpenSpec.ofChange aeadMarksSpec)

/-- ITS FALSE NEIGHBOUR: 'it returns false'. Refute it at one input. -/
def aeadMarksWrong : ChangeSpec := { name := "aeadMarks", fn := fun _ => fun
  | [d1, d2, d3, d4, d5, d6] => { results := [.lit (.bool false)], args := [d1, d2, d3, d4, d5, d6] }
  | _ => none }
def AeadMarksWrongFalsely : Prop := aeadMarksRow.holds Try.pinned (OpenSpec.ofChange aeadMarksWrong)

/-- 'aditlaw05.AeadTurned': WHATEVER THE INPUT: true; the input reads as it did. -/
def aeadTurnedSpec : ChangeSpec := { name := "aeadTurned", fn := fun _ => fun
  | [d1, d2, d3, d4, d5, d6] => { results := [.lit (.bool true)], args := [d1, d2, d3, d4, d5, d6] }
  | _ => none }
def aeadTurnedRow : OpenClaim := { program := "ytjbagkimpmpfgaa", sum := "fe7b730c880aac37666f4d5ed8af9b17114a1cde5af6147120f95671ef4d9f67", func := "adit/aditlaw05.AeadTurned", spec := "aeadTurned", unfollowed := true, recurses := true, apart := false }
def AeadTurnedSaid : Prop := aeadTurnedRow.holds Try.pinned (OpenSpec.ofChange aeadTurnedSpec)

/-- ITS FALSE NEIGHBOUR: 'it returns false'. Refute it at one input. -/
def aeadTurnedWrong : ChangeSpec := { name := "aeadTurned", fn := fun _ => fun
  | [d1, d2, d3, d4, d5, d6] => { results := [.lit (.bool false)], args := [d1, d2, d3, d4, d5, d6] }
  | _ => none }
def AeadTurnedWrongFalsely : Prop := aeadTurnedRow.holds Try.pinned (OpenSpec.ofChange aeadTurnedWrong)

/-- 'aditlaw05.AeadOpens': WHATEVER THE INPUT: true; the input reads as it did. -/
def aeadOpensSpec : ChangeSpec := { name := "aeadOpens", fn := fun _ => fun
  | [d1, d2, d3, d4] => { results := [.lit (.bool true)], args := [d1, d2, d3, d4] }
  | _ => none }
def aeadOpensRow : OpenClaim := { program := "ytjbagkimpmpfgaa", sum := "fe7b730c880aac37666f4d5ed8af9b17114a1cde5af6147120f95671ef4d9f67", func := "adit/aditlaw05.AeadOpens", spec := "aeadOpens", unfollowed := true, recurses := true, apart := false }
def AeadOpensSaid : Prop := aeadOpensRow.holds Try.pinned (OpenSpec.ofChange aeadOpensSpec)

/-- ITS FALSE NEIGHBOUR: 'it returns false'. Refute it at one input. -/
def aeadOpensWrong : ChangeSpec := { name := "aeadOpens", fn := fun _ => fun
  | [d1, d2, d3, d4] => { results := [.lit (.bool false)], args := [d1, d2, d3, d4] }
  | _ => none }
def AeadOpensWrongFalsely : Prop := aeadOpensRow.holds Try.pinned (OpenSpec.ofChange aeadOpensWrong)

/-- 'aditlaw05.AeadSeals': WHATEVER THE INPUT: true; the input reads as it did. -/
def aeadSealsSpec : ChangeSpec := { name := "aeadSeals", fn := fun _ => fun
  | [d1, d2, d3, d4] => { results := [.lit (.bool true)], args := [d1, d2, d3, d4] }
  | _ => none }
def aeadSealsRow : OpenClaim := { program := "ytjbagkimpmpfgaa", sum := "fe7b730c880aac37666f4d5ed8af9b17114a1cde5af6147120f95671ef4d9f67", func := "adit/aditlaw05.AeadSeals", spec := "aeadSeals", unfollowed := true, recurses := true, apart := false }
def AeadSealsSaid : Prop := aeadSealsRow.holds Try.pinned (OpenSpec.ofChange aeadSealsSpec)

/-- ITS FALSE NEIGHBOUR: 'it returns false'. Refute it at one input. -/
def aeadSealsWrong : ChangeSpec := { name := "aeadSeals", fn := fun _ => fun
  | [d1, d2, d3, d4] => { results := [.lit (.bool false)], args := [d1, d2, d3, d4] }
  | _ => none }
def AeadSealsWrongFalsely : Prop := aeadSealsRow.holds Try.pinned (OpenSpec.ofChange aeadSealsWrong)

/-- 'aditlaw09.SessionRetires': WHATEVER THE INPUT: true; the input reads as it did. -/
def sessionRetiresSpec : ChangeSpec := { name := "sessionRetires", fn := fun _ => fun
  | [d1, d2] => { results := [.lit (.bool true)], args := [d1, d2] }
  | _ => none }
def sessionRetiresRow : OpenClaim := { program := "ytjbagkimpmpfgaa", sum := "fe7b730c880aac37666f4d5ed8af9b17114a1cde5af6147120f95671ef4d9f67", func := "adit/aditlaw09.SessionRetires", spec := "sessionRetires", unfollowed := true, recurses := true, apart := false }
def SessionRetiresSaid : Prop := sessionRetiresRow.holds Try.pinned (OpenSpec.ofChange sessionRetiresSpec)

/-- ITS FALSE NEIGHBOUR: 'it returns false'. Refute it at one input. -/
def sessionRetiresWrong : ChangeSpec := { name := "sessionRetires", fn := fun _ => fun
  | [d1, d2] => { results := [.lit (.bool false)], args := [d1, d2] }
  | _ => none }
def SessionRetiresWrongFalsely : Prop := sessionRetiresRow.holds Try.pinned (OpenSpec.ofChange sessionRetiresWrong)

/-- 'aditlaw09.SessionOnce': WHATEVER THE INPUT: true; the input reads as it did. -/
def sessionOnceSpec : ChangeSpec := { name := "sessionOnce", fn := fun _ => fun
  | [d] => { results := [.lit (.bool true)], args := [d] }
  | _ => none }
def sessionOnceRow : OpenClaim := { program := "ytjbagkimpmpfgaa", sum := "fe7b730c880aac37666f4d5ed8af9b17114a1cde5af6147120f95671ef4d9f67", func := "adit/aditlaw09.SessionOnce", spec := "sessionOnce", unfollowed := true, recurses := true, apart := false }
def SessionOnceSaid : Prop := sessionOnceRow.holds Try.pinned (OpenSpec.ofChange sessionOnceSpec)

/-- ITS FALSE NEIGHBOUR: 'it returns false'. Refute it at one input. -/
def sessionOnceWrong : ChangeSpec := { name := "sessionOnce", fn := fun _ => fun
  | [d] => { results := [.lit (.bool false)], args := [d] }
  | _ => none }
def SessionOnceWrongFalsely : Prop := sessionOnceRow.holds Try.pinned (OpenSpec.ofChange sessionOnceWrong)

/-- 'aditlaw09.SessionEpochs': WHATEVER THE INPUT: true; the input reads as it did. -/
def sessionEpochsSpec : ChangeSpec := { name := "sessionEpochs", fn := fun _ => fun
  | [d] => { results := [.lit (.bool true)], args := [d] }
  | _ => none }
def sessionEpochsRow : OpenClaim := { program := "ytjbagkimpmpfgaa", sum := "fe7b730c880aac37666f4d5ed8af9b17114a1cde5af6147120f95671ef4d9f67", func := "adit/aditlaw09.SessionEpochs", spec := "sessionEpochs", unfollowed := true, recurses := true, apart := false }
def SessionEpochsSaid : Prop := sessionEpochsRow.holds Try.pinned (OpenSpec.ofChange sessionEpochsSpec)

/-- ITS FALSE NEIGHBOUR: 'it returns false'. Refute it at one input. -/
def sessionEpochsWrong : ChangeSpec := { name := "sessionEpochs", fn := fun _ => fun
  | [d] => { results := [.lit (.bool false)], args := [d] }
  | _ => none }
def SessionEpochsWrongFalsely : Prop := sessionEpochsRow.holds Try.pinned (OpenSpec.ofChange sessionEpochsWrong)

/-- 'aditlaw09.SessionDies': WHATEVER THE INPUT: true; the input reads as it did. -/
def sessionDiesSpec : ChangeSpec := { name := "sessionDies", fn := fun _ => fun
  | [d1, d2] => { results := [.lit (.bool true)], args := [d1, d2] }
  | _ => none }
def sessionDiesRow : OpenClaim := { program := "ytjbagkimpmpfgaa", sum := "fe7b730c880aac37666f4d5ed8af9b17114a1cde5af6147120f95671ef4d9f67", func := "adit/aditlaw09.SessionDies", spec := "sessionDies", unfollowed := true, recurses := true, apart := false }
def SessionDiesSaid : Prop := sessionDiesRow.holds Try.pinned (OpenSpec.ofChange sessionDiesSpec)

/-- ITS FALSE NEIGHBOUR: 'it returns false'. Refute it at one input. -/
def sessionDiesWrong : ChangeSpec := { name := "sessionDies", fn := fun _ => fun
  | [d1, d2] => { results := [.lit (.bool false)], args := [d1, d2] }
  | _ => none }
def SessionDiesWrongFalsely : Prop := sessionDiesRow.holds Try.pinned (OpenSpec.ofChange sessionDiesWrong)

/-- 'aditlaw09.SessionPlays': WHATEVER THE INPUT: true; the input reads as it did. -/
def sessionPlaysSpec : ChangeSpec := { name := "sessionPlays", fn := fun _ => fun
  | [d] => { results := [.lit (.bool true)], args := [d] }
  | _ => none }
def sessionPlaysRow : OpenClaim := { program := "ytjbagkimpmpfgaa", sum := "fe7b730c880aac37666f4d5ed8af9b17114a1cde5af6147120f95671ef4d9f67", func := "adit/aditlaw09.SessionPlays", spec := "sessionPlays", unfollowed := true, recurses := true, apart := false }
def SessionPlaysSaid : Prop := sessionPlaysRow.holds Try.pinned (OpenSpec.ofChange sessionPlaysSpec)

/-- ITS FALSE NEIGHBOUR: 'it returns false'. Refute it at one input. -/
def sessionPlaysWrong : ChangeSpec := { name := "sessionPlays", fn := fun _ => fun
  | [d] => { results := [.lit (.bool false)], args := [d] }
  | _ => none }
def SessionPlaysWrongFalsely : Prop := sessionPlaysRow.holds Try.pinned (OpenSpec.ofChange sessionPlaysWrong)

/-- 'aditlaw09.SessionNil': WHATEVER THE INPUT: true; the input reads as it did. -/
def sessionNilSpec : ChangeSpec := { name := "sessionNil", fn := fun _ => fun
  | [d1, d2] => { results := [.lit (.bool true)], args := [d1, d2] }
  | _ => none }
def sessionNilRow : OpenClaim := { program := "ytjbagkimpmpfgaa", sum := "fe7b730c880aac37666f4d5ed8af9b17114a1cde5af6147120f95671ef4d9f67", func := "adit/aditlaw09.SessionNil", spec := "sessionNil", unfollowed := true, recurses := true, apart := false }
def SessionNilSaid : Prop := sessionNilRow.holds Try.pinned (OpenSpec.ofChange sessionNilSpec)

/-- ITS FALSE NEIGHBOUR: 'it returns false'. Refute it at one input. -/
def sessionNilWrong : ChangeSpec := { name := "sessionNil", fn := fun _ => fun
  | [d1, d2] => { results := [.lit (.bool false)], args := [d1, d2] }
  | _ => none }
def SessionNilWrongFalsely : Prop := sessionNilRow.holds Try.pinned (OpenSpec.ofChange sessionNilWrong)

/- THE SECOND FORM. 'bulk': how many values and letters a reading holds, each counted each time it is reached (what is shared counts as often as it is met; a slice's spare places count too). A statement '..UptoSaid' is the law's where the arguments, and the package variables that the reading takes, are together of bulk at most 1048576: NARROWER than '..Said'. Prove '..Said' where nothing that the law and all that it calls make is longer than what came in: it says more and counts as full. Else prove '..UptoSaid'. A law counts once. -/
mutual
def uptoBulk {H : Type} : DataW H → Nat
  | .lit (.string bytes) => bytes.length + 1
  | .lit _ => 1
  | .nil => 1
  | .ptr d => uptoBulk d + 1
  | .slice elems spare => uptoBulkAll elems + uptoBulkAll spare + 1
  | .agg parts => uptoBulkAll parts + 1
  | .iface _ d => uptoBulk d + 1
  | .map entries => uptoBulkEntries entries + 1
  | .held _ => 1
def uptoBulkAll {H : Type} : List (DataW H) → Nat
  | [] => 0
  | d :: r => uptoBulk d + uptoBulkAll r
def uptoBulkEntries {H : Type} : List (Lit × DataW H) → Nat
  | [] => 0
  | x :: r => uptoBulkEntry x + uptoBulkEntries r
def uptoBulkEntry {H : Type} : Lit × DataW H → Nat
  | (.string bytes, d) => bytes.length + uptoBulk d + 1
  | (_, d) => uptoBulk d + 1
 end
def uptoSmall : (H : Type) → List (DataW H) → Bool := fun _ ds => decide (uptoBulkAll ds ≤ 1048576)
def OpenSpec.upto (s : _root_.Go.ChangeSpec) : _root_.Go.OpenSpec := { _root_.Go.OpenSpec.ofChange s with cond := some uptoSmall }

/-- 'aditlaw03.ChachaQuarters', WHERE WHAT IT READS IS OF BULK AT MOST 1048576: true; the input reads as it did. -/
def chachaQuartersUptoRow : OpenClaim := { program := "ytjbagkimpmpfgaa", sum := "fe7b730c880aac37666f4d5ed8af9b17114a1cde5af6147120f95671ef4d9f67", func := "adit/aditlaw03.ChachaQuarters", spec := "chachaQuarters", apart := false, narrowed := true }
def ChachaQuartersUptoSaid : Prop := chachaQuartersUptoRow.holds Try.pinned (OpenSpec.upto chachaQuartersSpec)

/-- 'aditlaw03.ChachaTurnsBack', WHERE WHAT IT READS IS OF BULK AT MOST 1048576: true; the input reads as it did. -/
def chachaTurnsBackUptoRow : OpenClaim := { program := "ytjbagkimpmpfgaa", sum := "fe7b730c880aac37666f4d5ed8af9b17114a1cde5af6147120f95671ef4d9f67", func := "adit/aditlaw03.ChachaTurnsBack", spec := "chachaTurnsBack", apart := false, narrowed := true }
def ChachaTurnsBackUptoSaid : Prop := chachaTurnsBackUptoRow.holds Try.pinned (OpenSpec.upto chachaTurnsBackSpec)

/-- 'aditlaw03.ChachaBlocks', WHERE WHAT IT READS IS OF BULK AT MOST 1048576: true; the input reads as it did. -/
def chachaBlocksUptoRow : OpenClaim := { program := "ytjbagkimpmpfgaa", sum := "fe7b730c880aac37666f4d5ed8af9b17114a1cde5af6147120f95671ef4d9f67", func := "adit/aditlaw03.ChachaBlocks", spec := "chachaBlocks", apart := false, narrowed := true }
def ChachaBlocksUptoSaid : Prop := chachaBlocksUptoRow.holds Try.pinned (OpenSpec.upto chachaBlocksSpec)

/-- 'aditlaw03.ChachaStreams', WHERE WHAT IT READS IS OF BULK AT MOST 1048576: true; the input reads as it did. -/
def chachaStreamsUptoRow : OpenClaim := { program := "ytjbagkimpmpfgaa", sum := "fe7b730c880aac37666f4d5ed8af9b17114a1cde5af6147120f95671ef4d9f67", func := "adit/aditlaw03.ChachaStreams", spec := "chachaStreams", apart := false, narrowed := true }
def ChachaStreamsUptoSaid : Prop := chachaStreamsUptoRow.holds Try.pinned (OpenSpec.upto chachaStreamsSpec)

/-- 'aditlaw03.ChachaPieces', WHERE WHAT IT READS IS OF BULK AT MOST 1048576: true; the input reads as it did. -/
def chachaPiecesUptoRow : OpenClaim := { program := "ytjbagkimpmpfgaa", sum := "fe7b730c880aac37666f4d5ed8af9b17114a1cde5af6147120f95671ef4d9f67", func := "adit/aditlaw03.ChachaPieces", spec := "chachaPieces", apart := false, narrowed := true }
def ChachaPiecesUptoSaid : Prop := chachaPiecesUptoRow.holds Try.pinned (OpenSpec.upto chachaPiecesSpec)

/-- 'aditlaw08.ReplaySmall', WHERE WHAT IT READS IS OF BULK AT MOST 1048576: true; the input reads as it did. -/
def replaySmallUptoRow : OpenClaim := { program := "ytjbagkimpmpfgaa", sum := "fe7b730c880aac37666f4d5ed8af9b17114a1cde5af6147120f95671ef4d9f67", func := "adit/aditlaw08.ReplaySmall", spec := "replaySmall", apart := false, narrowed := true }
def ReplaySmallUptoSaid : Prop := replaySmallUptoRow.holds Try.pinned (OpenSpec.upto replaySmallSpec)

/-- 'aditlaw08.ReplayOnce', WHERE WHAT IT READS IS OF BULK AT MOST 1048576: true; the input reads as it did. -/
def replayOnceUptoRow : OpenClaim := { program := "ytjbagkimpmpfgaa", sum := "fe7b730c880aac37666f4d5ed8af9b17114a1cde5af6147120f95671ef4d9f67", func := "adit/aditlaw08.ReplayOnce", spec := "replayOnce", apart := false, narrowed := true }
def ReplayOnceUptoSaid : Prop := replayOnceUptoRow.holds Try.pinned (OpenSpec.upto replayOnceSpec)

/-- 'aditlaw08.ReplayPlays', WHERE WHAT IT READS IS OF BULK AT MOST 1048576: true; the input reads as it did. -/
def replayPlaysUptoRow : OpenClaim := { program := "ytjbagkimpmpfgaa", sum := "fe7b730c880aac37666f4d5ed8af9b17114a1cde5af6147120f95671ef4d9f67", func := "adit/aditlaw08.ReplayPlays", spec := "replayPlays", apart := false, narrowed := true }
def ReplayPlaysUptoSaid : Prop := replayPlaysUptoRow.holds Try.pinned (OpenSpec.upto replayPlaysSpec)

/-- 'aditlaw08.ReplayNil', WHERE WHAT IT READS IS OF BULK AT MOST 1048576: true; the input reads as it did. -/
def replayNilUptoRow : OpenClaim := { program := "ytjbagkimpmpfgaa", sum := "fe7b730c880aac37666f4d5ed8af9b17114a1cde5af6147120f95671ef4d9f67", func := "adit/aditlaw08.ReplayNil", spec := "replayNil", apart := false, narrowed := true }
def ReplayNilUptoSaid : Prop := replayNilUptoRow.holds Try.pinned (OpenSpec.upto replayNilSpec)

/-- 'aditlaw08.ReplayLate', WHERE WHAT IT READS IS OF BULK AT MOST 1048576: true; the input reads as it did. -/
def replayLateUptoRow : OpenClaim := { program := "ytjbagkimpmpfgaa", sum := "fe7b730c880aac37666f4d5ed8af9b17114a1cde5af6147120f95671ef4d9f67", func := "adit/aditlaw08.ReplayLate", spec := "replayLate", apart := false, narrowed := true }
def ReplayLateUptoSaid : Prop := replayLateUptoRow.holds Try.pinned (OpenSpec.upto replayLateSpec)

/-- 'aditlaw04.PolyTags', WHERE WHAT IT READS IS OF BULK AT MOST 1048576: true; the input reads as it did. -/
def polyTagsUptoRow : OpenClaim := { program := "ytjbagkimpmpfgaa", sum := "fe7b730c880aac37666f4d5ed8af9b17114a1cde5af6147120f95671ef4d9f67", func := "adit/aditlaw04.PolyTags", spec := "polyTags", unfollowed := true, recurses := true, apart := false, narrowed := true }
def PolyTagsUptoSaid : Prop := polyTagsUptoRow.holds Try.pinned (OpenSpec.upto polyTagsSpec)

/-- 'aditlaw04.PolyPieces', WHERE WHAT IT READS IS OF BULK AT MOST 1048576: true; the input reads as it did. -/
def polyPiecesUptoRow : OpenClaim := { program := "ytjbagkimpmpfgaa", sum := "fe7b730c880aac37666f4d5ed8af9b17114a1cde5af6147120f95671ef4d9f67", func := "adit/aditlaw04.PolyPieces", spec := "polyPieces", unfollowed := true, recurses := true, apart := false, narrowed := true }
def PolyPiecesUptoSaid : Prop := polyPiecesUptoRow.holds Try.pinned (OpenSpec.upto polyPiecesSpec)

/-- 'aditlaw04.PolyGoes', WHERE WHAT IT READS IS OF BULK AT MOST 1048576: true; the input reads as it did. -/
def polyGoesUptoRow : OpenClaim := { program := "ytjbagkimpmpfgaa", sum := "fe7b730c880aac37666f4d5ed8af9b17114a1cde5af6147120f95671ef4d9f67", func := "adit/aditlaw04.PolyGoes", spec := "polyGoes", unfollowed := true, recurses := true, apart := false, narrowed := true }
def PolyGoesUptoSaid : Prop := polyGoesUptoRow.holds Try.pinned (OpenSpec.upto polyGoesSpec)

/-- 'aditlaw04.PolyCuts', WHERE WHAT IT READS IS OF BULK AT MOST 1048576: true; the input reads as it did. -/
def polyCutsUptoRow : OpenClaim := { program := "ytjbagkimpmpfgaa", sum := "fe7b730c880aac37666f4d5ed8af9b17114a1cde5af6147120f95671ef4d9f67", func := "adit/aditlaw04.PolyCuts", spec := "polyCuts", unfollowed := true, recurses := true, apart := false, narrowed := true }
def PolyCutsUptoSaid : Prop := polyCutsUptoRow.holds Try.pinned (OpenSpec.upto polyCutsSpec)

/-- 'aditlaw04.PolyNobody', WHERE WHAT IT READS IS OF BULK AT MOST 1048576: true; the input reads as it did. -/
def polyNobodyUptoRow : OpenClaim := { program := "ytjbagkimpmpfgaa", sum := "fe7b730c880aac37666f4d5ed8af9b17114a1cde5af6147120f95671ef4d9f67", func := "adit/aditlaw04.PolyNobody", spec := "polyNobody", unfollowed := true, recurses := true, apart := false, narrowed := true }
def PolyNobodyUptoSaid : Prop := polyNobodyUptoRow.holds Try.pinned (OpenSpec.upto polyNobodySpec)

/-- 'aditlaw05.AeadSame', WHERE WHAT IT READS IS OF BULK AT MOST 1048576: true; the input reads as it did. -/
def aeadSameUptoRow : OpenClaim := { program := "ytjbagkimpmpfgaa", sum := "fe7b730c880aac37666f4d5ed8af9b17114a1cde5af6147120f95671ef4d9f67", func := "adit/aditlaw05.AeadSame", spec := "aeadSame", unfollowed := true, recurses := true, apart := false, narrowed := true }
def AeadSameUptoSaid : Prop := aeadSameUptoRow.holds Try.pinned (OpenSpec.upto aeadSameSpec)

/-- 'aditlaw05.AeadMarks', WHERE WHAT IT READS IS OF BULK AT MOST 1048576: true; the input reads as it did. -/
def aeadMarksUptoRow : OpenClaim := { program := "ytjbagkimpmpfgaa", sum := "fe7b730c880aac37666f4d5ed8af9b17114a1cde5af6147120f95671ef4d9f67", func := "adit/aditlaw05.AeadMarks", spec := "aeadMarks", unfollowed := true, recurses := true, apart := false, narrowed := true }
def AeadMarksUptoSaid : Prop := aeadMarksUptoRow.holds Try.pinned (OpenSpec.upto aeadMarksSpec)

/-- 'aditlaw05.AeadTurned', WHERE WHAT IT READS IS OF BULK AT MOST 1048576: true; the input reads as it did. -/
def aeadTurnedUptoRow : OpenClaim := { program := "ytjbagkimpmpfgaa", sum := "fe7b730c880aac37666f4d5ed8af9b17114a1cde5af6147120f95671ef4d9f67", func := "adit/aditlaw05.AeadTurned", spec := "aeadTurned", unfollowed := true, recurses := true, apart := false, narrowed := true }
def AeadTurnedUptoSaid : Prop := aeadTurnedUptoRow.holds Try.pinned (OpenSpec.upto aeadTurnedSpec)

/-- 'aditlaw05.AeadOpens', WHERE WHAT IT READS IS OF BULK AT MOST 1048576: true; the input reads as it did. -/
def aeadOpensUptoRow : OpenClaim := { program := "ytjbagkimpmpfgaa", sum := "fe7b730c880aac37666f4d5ed8af9b17114a1cde5af6147120f95671ef4d9f67", func := "adit/aditlaw05.AeadOpens", spec := "aeadOpens", unfollowed := true, recurses := true, apart := false, narrowed := true }
def AeadOpensUptoSaid : Prop := aeadOpensUptoRow.holds Try.pinned (OpenSpec.upto aeadOpensSpec)

/-- 'aditlaw05.AeadSeals', WHERE WHAT IT READS IS OF BULK AT MOST 1048576: true; the input reads as it did. -/
def aeadSealsUptoRow : OpenClaim := { program := "ytjbagkimpmpfgaa", sum := "fe7b730c880aac37666f4d5ed8af9b17114a1cde5af6147120f95671ef4d9f67", func := "adit/aditlaw05.AeadSeals", spec := "aeadSeals", unfollowed := true, recurses := true, apart := false, narrowed := true }
def AeadSealsUptoSaid : Prop := aeadSealsUptoRow.holds Try.pinned (OpenSpec.upto aeadSealsSpec)

/-- 'aditlaw09.SessionRetires', WHERE WHAT IT READS IS OF BULK AT MOST 1048576: true; the input reads as it did. -/
def sessionRetiresUptoRow : OpenClaim := { program := "ytjbagkimpmpfgaa", sum := "fe7b730c880aac37666f4d5ed8af9b17114a1cde5af6147120f95671ef4d9f67", func := "adit/aditlaw09.SessionRetires", spec := "sessionRetires", unfollowed := true, recurses := true, apart := false, narrowed := true }
def SessionRetiresUptoSaid : Prop := sessionRetiresUptoRow.holds Try.pinned (OpenSpec.upto sessionRetiresSpec)

/-- 'aditlaw09.SessionOnce', WHERE WHAT IT READS IS OF BULK AT MOST 1048576: true; the input reads as it did. -/
def sessionOnceUptoRow : OpenClaim := { program := "ytjbagkimpmpfgaa", sum := "fe7b730c880aac37666f4d5ed8af9b17114a1cde5af6147120f95671ef4d9f67", func := "adit/aditlaw09.SessionOnce", spec := "sessionOnce", unfollowed := true, recurses := true, apart := false, narrowed := true }
def SessionOnceUptoSaid : Prop := sessionOnceUptoRow.holds Try.pinned (OpenSpec.upto sessionOnceSpec)

/-- 'aditlaw09.SessionEpochs', WHERE WHAT IT READS IS OF BULK AT MOST 1048576: true; the input reads as it did. -/
def sessionEpochsUptoRow : OpenClaim := { program := "ytjbagkimpmpfgaa", sum := "fe7b730c880aac37666f4d5ed8af9b17114a1cde5af6147120f95671ef4d9f67", func := "adit/aditlaw09.SessionEpochs", spec := "sessionEpochs", unfollowed := true, recurses := true, apart := false, narrowed := true }
def SessionEpochsUptoSaid : Prop := sessionEpochsUptoRow.holds Try.pinned (OpenSpec.upto sessionEpochsSpec)

/-- 'aditlaw09.SessionDies', WHERE WHAT IT READS IS OF BULK AT MOST 1048576: true; the input reads as it did. -/
def sessionDiesUptoRow : OpenClaim := { program := "ytjbagkimpmpfgaa", sum := "fe7b730c880aac37666f4d5ed8af9b17114a1cde5af6147120f95671ef4d9f67", func := "adit/aditlaw09.SessionDies", spec := "sessionDies", unfollowed := true, recurses := true, apart := false, narrowed := true }
def SessionDiesUptoSaid : Prop := sessionDiesUptoRow.holds Try.pinned (OpenSpec.upto sessionDiesSpec)

/-- 'aditlaw09.SessionPlays', WHERE WHAT IT READS IS OF BULK AT MOST 1048576: true; the input reads as it did. -/
def sessionPlaysUptoRow : OpenClaim := { program := "ytjbagkimpmpfgaa", sum := "fe7b730c880aac37666f4d5ed8af9b17114a1cde5af6147120f95671ef4d9f67", func := "adit/aditlaw09.SessionPlays", spec := "sessionPlays", unfollowed := true, recurses := true, apart := false, narrowed := true }
def SessionPlaysUptoSaid : Prop := sessionPlaysUptoRow.holds Try.pinned (OpenSpec.upto sessionPlaysSpec)

/-- 'aditlaw09.SessionNil', WHERE WHAT IT READS IS OF BULK AT MOST 1048576: true; the input reads as it did. -/
def sessionNilUptoRow : OpenClaim := { program := "ytjbagkimpmpfgaa", sum := "fe7b730c880aac37666f4d5ed8af9b17114a1cde5af6147120f95671ef4d9f67", func := "adit/aditlaw09.SessionNil", spec := "sessionNil", unfollowed := true, recurses := true, apart := false, narrowed := true }
def SessionNilUptoSaid : Prop := sessionNilUptoRow.holds Try.pinned (OpenSpec.upto sessionNilSpec)

end Rows
end Go.Proofs.Ytjbagkimpmpfgaa
