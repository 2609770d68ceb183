/-
  No cell of these rows narrows 'for every input' (looked for: loops, veiled, ifaces, maps, wideKeys, modest, calm, conditions, laid).
  DERIVED. THE GIVEN ROWS OF THIS SEAT. 13 by the template 'for every input the law returns true; each argument reads behind the call as it read before'; 0 by the template 'total and deterministic' (their statements: YtkblnhnjagemlaaGreatTotals.lean).
  GIVEN WITH THE SEED: the statements are not yours to turn. If you find one false, say at which input.
  Laid BY PROGRAM, IN A SANDBOX (cutbox-rows.mjs): the forced cells as the released guide's own fill.sh prints them over the translation 4d5fa263c4cbee8e… (all of the seat's roots in one cut). By AI agents, Wed Nov 11 2026. No macro, syntax, notation, axiom, sorry.
-/
import Derived.Test.YtkblnhnjagemlaaGreatChecked
import GoSem.Claim
import GoSem.ClaimJoined
import GoSem.ClaimMapViews
import Derived.JoinedTies
import Derived.KernelRfl
namespace Go.Proofs.YtkblnhnjagemlaaGreat
/- THE CELL 'sum', in the pinned program and in every row, IS THE sha256 OF THE DUMP (.gsa) THAT YtkblnhnjagemlaaGreatProg.lean LOADS. Nothing in Lean hashes anything: it is a label: what it is worth is what the hold of that sum in a sandbox is worth. -/
noncomputable def Tryz.pinned : Pinned := { name := "ytkblnhnjagemlaagreat", sum := "4d5fa263c4cbee8e5cb0134342e7a2ae278b85cb84a7cfa889457e70bd19178b", checked := Tryz.checked }
namespace Rows
def none {H : Type} : Left H := { results := [], args := [] }

/-- 'pinnacelaw12.QueryWhole': WHATEVER THE INPUT: true; the input reads as it did. -/
def queryWholeSpec : ChangeSpec := { name := "queryWhole", fn := fun _ => fun
  | [d] => { results := [.lit (.bool true)], args := [d] }
  | _ => none }
def queryWholeRow : OpenClaim := { program := "ytkblnhnjagemlaagreat", sum := "4d5fa263c4cbee8e5cb0134342e7a2ae278b85cb84a7cfa889457e70bd19178b", func := "pinnace/pinnacelaw12.QueryWhole", spec := "queryWhole", unfollowed := true, recurses := true, plainKeys := false, apart := false }
def QueryWholeSaid : Prop := queryWholeRow.holds Tryz.pinned (OpenSpec.ofChange queryWholeSpec)

/-- ITS FALSE NEIGHBOUR: 'it returns false'. Refute it at one input. -/
def queryWholeWrong : ChangeSpec := { name := "queryWhole", fn := fun _ => fun
  | [d] => { results := [.lit (.bool false)], args := [d] }
  | _ => none }
def QueryWholeWrongFalsely : Prop := queryWholeRow.holds Tryz.pinned (OpenSpec.ofChange queryWholeWrong)

/-- 'pinnacelaw12.QuerySums': WHATEVER THE INPUT: true; the input reads as it did. -/
def querySumsSpec : ChangeSpec := { name := "querySums", fn := fun _ => fun
  | [d1, d2, d3, d4, d5] => { results := [.lit (.bool true)], args := [d1, d2, d3, d4, d5] }
  | _ => none }
def querySumsRow : OpenClaim := { program := "ytkblnhnjagemlaagreat", sum := "4d5fa263c4cbee8e5cb0134342e7a2ae278b85cb84a7cfa889457e70bd19178b", func := "pinnace/pinnacelaw12.QuerySums", spec := "querySums", unfollowed := true, recurses := true, plainKeys := false, apart := false }
def QuerySumsSaid : Prop := querySumsRow.holds Tryz.pinned (OpenSpec.ofChange querySumsSpec)

/-- ITS FALSE NEIGHBOUR: 'it returns false'. Refute it at one input. -/
def querySumsWrong : ChangeSpec := { name := "querySums", fn := fun _ => fun
  | [d1, d2, d3, d4, d5] => { results := [.lit (.bool false)], args := [d1, d2, d3, d4, d5] }
  | _ => none }
def QuerySumsWrongFalsely : Prop := querySumsRow.holds Tryz.pinned (OpenSpec.ofChange querySumsWrong)

/-- 'pinnacelaw14.SystemsChild': WHATEVER THE INPUT: true; the input reads as it did. -/
def systemsChildSpec : ChangeSpec := { name := "systemsChild", fn := fun _ => fun
  | [d1, d2, d3] => { results := [.lit (.bool true)], args := [d1, d2, d3] }
  | _ => none }
def systemsChildRow : OpenClaim := { program := "ytkblnhnjagemlaagreat", sum := "4d5fa263c4cbee8e5cb0134342e7a2ae278b85cb84a7cfa889457e70bd19178b", func := "pinnace/pinnacelaw14.SystemsChild", spec := "systemsChild", unfollowed := true, recurses := true, plainKeys := false, apart := false }
def SystemsChildSaid : Prop := systemsChildRow.holds Tryz.pinned (OpenSpec.ofChange systemsChildSpec)

/-- ITS FALSE NEIGHBOUR: 'it returns false'. Refute it at one input. -/
def systemsChildWrong : ChangeSpec := { name := "systemsChild", fn := fun _ => fun
  | [d1, d2, d3] => { results := [.lit (.bool false)], args := [d1, d2, d3] }
  | _ => none }
def SystemsChildWrongFalsely : Prop := systemsChildRow.holds Tryz.pinned (OpenSpec.ofChange systemsChildWrong)

/-- 'pinnacelaw14.SystemsMove': WHATEVER THE INPUT: true; the input reads as it did. -/
def systemsMoveSpec : ChangeSpec := { name := "systemsMove", fn := fun _ => fun
  | [d1, d2] => { results := [.lit (.bool true)], args := [d1, d2] }
  | _ => none }
def systemsMoveRow : OpenClaim := { program := "ytkblnhnjagemlaagreat", sum := "4d5fa263c4cbee8e5cb0134342e7a2ae278b85cb84a7cfa889457e70bd19178b", func := "pinnace/pinnacelaw14.SystemsMove", spec := "systemsMove", unfollowed := true, recurses := true, plainKeys := false, apart := false }
def SystemsMoveSaid : Prop := systemsMoveRow.holds Tryz.pinned (OpenSpec.ofChange systemsMoveSpec)

/-- ITS FALSE NEIGHBOUR: 'it returns false'. Refute it at one input. -/
def systemsMoveWrong : ChangeSpec := { name := "systemsMove", fn := fun _ => fun
  | [d1, d2] => { results := [.lit (.bool false)], args := [d1, d2] }
  | _ => none }
def SystemsMoveWrongFalsely : Prop := systemsMoveRow.holds Tryz.pinned (OpenSpec.ofChange systemsMoveWrong)

/-- 'pinnacelaw14.SystemsAge': WHATEVER THE INPUT: true; the input reads as it did. -/
def systemsAgeSpec : ChangeSpec := { name := "systemsAge", fn := fun _ => fun
  | [d1, d2] => { results := [.lit (.bool true)], args := [d1, d2] }
  | _ => none }
def systemsAgeRow : OpenClaim := { program := "ytkblnhnjagemlaagreat", sum := "4d5fa263c4cbee8e5cb0134342e7a2ae278b85cb84a7cfa889457e70bd19178b", func := "pinnace/pinnacelaw14.SystemsAge", spec := "systemsAge", unfollowed := true, recurses := true, plainKeys := false, apart := false }
def SystemsAgeSaid : Prop := systemsAgeRow.holds Tryz.pinned (OpenSpec.ofChange systemsAgeSpec)

/-- ITS FALSE NEIGHBOUR: 'it returns false'. Refute it at one input. -/
def systemsAgeWrong : ChangeSpec := { name := "systemsAge", fn := fun _ => fun
  | [d1, d2] => { results := [.lit (.bool false)], args := [d1, d2] }
  | _ => none }
def SystemsAgeWrongFalsely : Prop := systemsAgeRow.holds Tryz.pinned (OpenSpec.ofChange systemsAgeWrong)

/-- 'pinnacelaw14.SystemsWithin': WHATEVER THE INPUT: true; the input reads as it did. -/
def systemsWithinSpec : ChangeSpec := { name := "systemsWithin", fn := fun _ => fun
  | [d1, d2, d3] => { results := [.lit (.bool true)], args := [d1, d2, d3] }
  | _ => none }
def systemsWithinRow : OpenClaim := { program := "ytkblnhnjagemlaagreat", sum := "4d5fa263c4cbee8e5cb0134342e7a2ae278b85cb84a7cfa889457e70bd19178b", func := "pinnace/pinnacelaw14.SystemsWithin", spec := "systemsWithin", unfollowed := true, recurses := true, plainKeys := false, apart := false }
def SystemsWithinSaid : Prop := systemsWithinRow.holds Tryz.pinned (OpenSpec.ofChange systemsWithinSpec)

/-- ITS FALSE NEIGHBOUR: 'it returns false'. Refute it at one input. -/
def systemsWithinWrong : ChangeSpec := { name := "systemsWithin", fn := fun _ => fun
  | [d1, d2, d3] => { results := [.lit (.bool false)], args := [d1, d2, d3] }
  | _ => none }
def SystemsWithinWrongFalsely : Prop := systemsWithinRow.holds Tryz.pinned (OpenSpec.ofChange systemsWithinWrong)

/-- 'pinnacelaw14.SystemsBreed': WHATEVER THE INPUT: true; the input reads as it did. -/
def systemsBreedSpec : ChangeSpec := { name := "systemsBreed", fn := fun _ => fun
  | [d1, d2, d3] => { results := [.lit (.bool true)], args := [d1, d2, d3] }
  | _ => none }
def systemsBreedRow : OpenClaim := { program := "ytkblnhnjagemlaagreat", sum := "4d5fa263c4cbee8e5cb0134342e7a2ae278b85cb84a7cfa889457e70bd19178b", func := "pinnace/pinnacelaw14.SystemsBreed", spec := "systemsBreed", unfollowed := true, recurses := true, plainKeys := false, apart := false }
def SystemsBreedSaid : Prop := systemsBreedRow.holds Tryz.pinned (OpenSpec.ofChange systemsBreedSpec)

/-- ITS FALSE NEIGHBOUR: 'it returns false'. Refute it at one input. -/
def systemsBreedWrong : ChangeSpec := { name := "systemsBreed", fn := fun _ => fun
  | [d1, d2, d3] => { results := [.lit (.bool false)], args := [d1, d2, d3] }
  | _ => none }
def SystemsBreedWrongFalsely : Prop := systemsBreedRow.holds Tryz.pinned (OpenSpec.ofChange systemsBreedWrong)

/-- 'pinnacelaw15.WorldPlaces': WHATEVER THE INPUT: true; the input reads as it did. -/
def worldPlacesSpec : ChangeSpec := { name := "worldPlaces", fn := fun _ => fun
  | [d] => { results := [.lit (.bool true)], args := [d] }
  | _ => none }
def worldPlacesRow : OpenClaim := { program := "ytkblnhnjagemlaagreat", sum := "4d5fa263c4cbee8e5cb0134342e7a2ae278b85cb84a7cfa889457e70bd19178b", func := "pinnace/pinnacelaw15.WorldPlaces", spec := "worldPlaces", inPlace := ["slices.overlaps[pinnace/api.Comp]"], unfollowed := true, recurses := true, plainKeys := false, apart := false }
def WorldPlacesSaid : Prop := worldPlacesRow.holds Tryz.pinned (OpenSpec.ofChange worldPlacesSpec)

/-- ITS FALSE NEIGHBOUR: 'it returns false'. Refute it at one input. -/
def worldPlacesWrong : ChangeSpec := { name := "worldPlaces", fn := fun _ => fun
  | [d] => { results := [.lit (.bool false)], args := [d] }
  | _ => none }
def WorldPlacesWrongFalsely : Prop := worldPlacesRow.holds Tryz.pinned (OpenSpec.ofChange worldPlacesWrong)

/-- 'pinnacelaw15.WorldEnds': WHATEVER THE INPUT: true; the input reads as it did. -/
def worldEndsSpec : ChangeSpec := { name := "worldEnds", fn := fun _ => fun
  | [d1, d2] => { results := [.lit (.bool true)], args := [d1, d2] }
  | _ => none }
def worldEndsRow : OpenClaim := { program := "ytkblnhnjagemlaagreat", sum := "4d5fa263c4cbee8e5cb0134342e7a2ae278b85cb84a7cfa889457e70bd19178b", func := "pinnace/pinnacelaw15.WorldEnds", spec := "worldEnds", inPlace := ["slices.overlaps[pinnace/api.Comp]"], unfollowed := true, recurses := true, plainKeys := false, apart := false }
def WorldEndsSaid : Prop := worldEndsRow.holds Tryz.pinned (OpenSpec.ofChange worldEndsSpec)

/-- ITS FALSE NEIGHBOUR: 'it returns false'. Refute it at one input. -/
def worldEndsWrong : ChangeSpec := { name := "worldEnds", fn := fun _ => fun
  | [d1, d2] => { results := [.lit (.bool false)], args := [d1, d2] }
  | _ => none }
def WorldEndsWrongFalsely : Prop := worldEndsRow.holds Tryz.pinned (OpenSpec.ofChange worldEndsWrong)

/-- 'pinnacelaw15.WorldTwins': WHATEVER THE INPUT: true; the input reads as it did. -/
def worldTwinsSpec : ChangeSpec := { name := "worldTwins", fn := fun _ => fun
  | [d] => { results := [.lit (.bool true)], args := [d] }
  | _ => none }
def worldTwinsRow : OpenClaim := { program := "ytkblnhnjagemlaagreat", sum := "4d5fa263c4cbee8e5cb0134342e7a2ae278b85cb84a7cfa889457e70bd19178b", func := "pinnace/pinnacelaw15.WorldTwins", spec := "worldTwins", inPlace := ["slices.overlaps[pinnace/api.Comp]"], unfollowed := true, recurses := true, plainKeys := false, apart := false }
def WorldTwinsSaid : Prop := worldTwinsRow.holds Tryz.pinned (OpenSpec.ofChange worldTwinsSpec)

/-- ITS FALSE NEIGHBOUR: 'it returns false'. Refute it at one input. -/
def worldTwinsWrong : ChangeSpec := { name := "worldTwins", fn := fun _ => fun
  | [d] => { results := [.lit (.bool false)], args := [d] }
  | _ => none }
def WorldTwinsWrongFalsely : Prop := worldTwinsRow.holds Tryz.pinned (OpenSpec.ofChange worldTwinsWrong)

/-- 'pinnacelaw15.WorldRoom': WHATEVER THE INPUT: true; the input reads as it did. -/
def worldRoomSpec : ChangeSpec := { name := "worldRoom", fn := fun _ => fun
  | [d] => { results := [.lit (.bool true)], args := [d] }
  | _ => none }
def worldRoomRow : OpenClaim := { program := "ytkblnhnjagemlaagreat", sum := "4d5fa263c4cbee8e5cb0134342e7a2ae278b85cb84a7cfa889457e70bd19178b", func := "pinnace/pinnacelaw15.WorldRoom", spec := "worldRoom", inPlace := ["slices.overlaps[pinnace/api.Comp]"], unfollowed := true, recurses := true, plainKeys := false, apart := false }
def WorldRoomSaid : Prop := worldRoomRow.holds Tryz.pinned (OpenSpec.ofChange worldRoomSpec)

/-- ITS FALSE NEIGHBOUR: 'it returns false'. Refute it at one input. -/
def worldRoomWrong : ChangeSpec := { name := "worldRoom", fn := fun _ => fun
  | [d] => { results := [.lit (.bool false)], args := [d] }
  | _ => none }
def WorldRoomWrongFalsely : Prop := worldRoomRow.holds Tryz.pinned (OpenSpec.ofChange worldRoomWrong)

/-- 'pinnacelaw15.WorldQuiet': WHATEVER THE INPUT: true; the input reads as it did. -/
def worldQuietSpec : ChangeSpec := { name := "worldQuiet", fn := fun _ => fun
  | [d1, d2] => { results := [.lit (.bool true)], args := [d1, d2] }
  | _ => none }
def worldQuietRow : OpenClaim := { program := "ytkblnhnjagemlaagreat", sum := "4d5fa263c4cbee8e5cb0134342e7a2ae278b85cb84a7cfa889457e70bd19178b", func := "pinnace/pinnacelaw15.WorldQuiet", spec := "worldQuiet", inPlace := ["slices.overlaps[pinnace/api.Comp]"], unfollowed := true, recurses := true, plainKeys := false, apart := false }
def WorldQuietSaid : Prop := worldQuietRow.holds Tryz.pinned (OpenSpec.ofChange worldQuietSpec)

/-- ITS FALSE NEIGHBOUR: 'it returns false'. Refute it at one input. -/
def worldQuietWrong : ChangeSpec := { name := "worldQuiet", fn := fun _ => fun
  | [d1, d2] => { results := [.lit (.bool false)], args := [d1, d2] }
  | _ => none }
def WorldQuietWrongFalsely : Prop := worldQuietRow.holds Tryz.pinned (OpenSpec.ofChange worldQuietWrong)

/-- 'pinnacelaw15.WorldPlays': WHATEVER THE INPUT: true; the input reads as it did. -/
def worldPlaysSpec : ChangeSpec := { name := "worldPlays", fn := fun _ => fun
  | [d1, d2, d3, d4] => { results := [.lit (.bool true)], args := [d1, d2, d3, d4] }
  | _ => none }
def worldPlaysRow : OpenClaim := { program := "ytkblnhnjagemlaagreat", sum := "4d5fa263c4cbee8e5cb0134342e7a2ae278b85cb84a7cfa889457e70bd19178b", func := "pinnace/pinnacelaw15.WorldPlays", spec := "worldPlays", inPlace := ["slices.overlaps[pinnace/api.Comp]"], unfollowed := true, recurses := true, plainKeys := false, apart := false }
def WorldPlaysSaid : Prop := worldPlaysRow.holds Tryz.pinned (OpenSpec.ofChange worldPlaysSpec)

/-- ITS FALSE NEIGHBOUR: 'it returns false'. Refute it at one input. -/
def worldPlaysWrong : ChangeSpec := { name := "worldPlays", fn := fun _ => fun
  | [d1, d2, d3, d4] => { results := [.lit (.bool false)], args := [d1, d2, d3, d4] }
  | _ => none }
def WorldPlaysWrongFalsely : Prop := worldPlaysRow.holds Tryz.pinned (OpenSpec.ofChange worldPlaysWrong)

/- THE SECOND FORM. 'bulk': how many values and letters a reading holds, each counted each time it is reached (what is shared counts as often as it is met; a slice's spare places count too). A statement '..UptoSaid' is the law's where the arguments, and the package variables that the reading takes, are together of bulk at most 1048576: NARROWER than '..Said'. Prove '..Said' where nothing that the law and all that it calls make is longer than what came in: it says more and counts as full. Else prove '..UptoSaid'. A law counts once. -/
mutual
def uptoBulk {H : Type} : DataW H → Nat
  | .lit (.string bytes) => bytes.length + 1
  | .lit _ => 1
  | .nil => 1
  | .ptr d => uptoBulk d + 1
  | .slice elems spare => uptoBulkAll elems + uptoBulkAll spare + 1
  | .agg parts => uptoBulkAll parts + 1
  | .iface _ d => uptoBulk d + 1
  | .map entries => uptoBulkEntries entries + 1
  | .held _ => 1
def uptoBulkAll {H : Type} : List (DataW H) → Nat
  | [] => 0
  | d :: r => uptoBulk d + uptoBulkAll r
def uptoBulkEntries {H : Type} : List (Lit × DataW H) → Nat
  | [] => 0
  | x :: r => uptoBulkEntry x + uptoBulkEntries r
def uptoBulkEntry {H : Type} : Lit × DataW H → Nat
  | (.string bytes, d) => bytes.length + uptoBulk d + 1
  | (_, d) => uptoBulk d + 1
 end
def uptoSmall : (H : Type) → List (DataW H) → Bool := fun _ ds => decide (uptoBulkAll ds ≤ 1048576)
def OpenSpec.upto (s : _root_.Go.ChangeSpec) : _root_.Go.OpenSpec := { _root_.Go.OpenSpec.ofChange s with cond := some uptoSmall }

/-- 'pinnacelaw12.QueryWhole', WHERE WHAT IT READS IS OF BULK AT MOST 1048576: true; the input reads as it did. -/
def queryWholeUptoRow : OpenClaim := { program := "ytkblnhnjagemlaagreat", sum := "4d5fa263c4cbee8e5cb0134342e7a2ae278b85cb84a7cfa889457e70bd19178b", func := "pinnace/pinnacelaw12.QueryWhole", spec := "queryWhole", unfollowed := true, recurses := true, plainKeys := false, apart := false, narrowed := true }
def QueryWholeUptoSaid : Prop := queryWholeUptoRow.holds Tryz.pinned (OpenSpec.upto queryWholeSpec)

/-- 'pinnacelaw12.QuerySums', WHERE WHAT IT READS IS OF BULK AT MOST 1048576: true; the input reads as it did. -/
def querySumsUptoRow : OpenClaim := { program := "ytkblnhnjagemlaagreat", sum := "4d5fa263c4cbee8e5cb0134342e7a2ae278b85cb84a7cfa889457e70bd19178b", func := "pinnace/pinnacelaw12.QuerySums", spec := "querySums", unfollowed := true, recurses := true, plainKeys := false, apart := false, narrowed := true }
def QuerySumsUptoSaid : Prop := querySumsUptoRow.holds Tryz.pinned (OpenSpec.upto querySumsSpec)

/-- 'pinnacelaw14.SystemsChild', WHERE WHAT IT READS IS OF BULK AT MOST 1048576: true; the input reads as it did. -/
def systemsChildUptoRow : OpenClaim := { program := "ytkblnhnjagemlaagreat", sum := "4d5fa263c4cbee8e5cb0134342e7a2ae278b85cb84a7cfa889457e70bd19178b", func := "pinnace/pinnacelaw14.SystemsChild", spec := "systemsChild", unfollowed := true, recurses := true, plainKeys := false, apart := false, narrowed := true }
def SystemsChildUptoSaid : Prop := systemsChildUptoRow.holds Tryz.pinned (OpenSpec.upto systemsChildSpec)

/-- 'pinnacelaw14.SystemsMove', WHERE WHAT IT READS IS OF BULK AT MOST 1048576: true; the input reads as it did. -/
def systemsMoveUptoRow : OpenClaim := { program := "ytkblnhnjagemlaagreat", sum := "4d5fa263c4cbee8e5cb0134342e7a2ae278b85cb84a7cfa889457e70bd19178b", func := "pinnace/pinnacelaw14.SystemsMove", spec := "systemsMove", unfollowed := true, recurses := true, plainKeys := false, apart := false, narrowed := true }
def SystemsMoveUptoSaid : Prop := systemsMoveUptoRow.holds Tryz.pinned (OpenSpec.upto systemsMoveSpec)

/-- 'pinnacelaw14.SystemsAge', WHERE WHAT IT READS IS OF BULK AT MOST 1048576: true; the input reads as it did. -/
def systemsAgeUptoRow : OpenClaim := { program := "ytkblnhnjagemlaagreat", sum := "4d5fa263c4cbee8e5cb0134342e7a2ae278b85cb84a7cfa889457e70bd19178b", func := "pinnace/pinnacelaw14.SystemsAge", spec := "systemsAge", unfollowed := true, recurses := true, plainKeys := false, apart := false, narrowed := true }
def SystemsAgeUptoSaid : Prop := systemsAgeUptoRow.holds Tryz.pinned (OpenSpec.upto systemsAgeSpec)

/-- 'pinnacelaw14.SystemsWithin', WHERE WHAT IT READS IS OF BULK AT MOST 1048576: true; the input reads as it did. -/
def systemsWithinUptoRow : OpenClaim := { program := "ytkblnhnjagemlaagreat", sum := "4d5fa263c4cbee8e5cb0134342e7a2ae278b85cb84a7cfa889457e70bd19178b", func := "pinnace/pinnacelaw14.SystemsWithin", spec := "systemsWithin", unfollowed := true, recurses := true, plainKeys := false, apart := false, narrowed := true }
def SystemsWithinUptoSaid : Prop := systemsWithinUptoRow.holds Tryz.pinned (OpenSpec.upto systemsWithinSpec)

/-- 'pinnacelaw14.SystemsBreed', WHERE WHAT IT READS IS OF BULK AT MOST 1048576: true; the input reads as it did. -/
def systemsBreedUptoRow : OpenClaim := { program := "ytkblnhnjagemlaagreat", sum := "4d5fa263c4cbee8e5cb0134342e7a2ae278b85cb84a7cfa889457e70bd19178b", func := "pinnace/pinnacelaw14.SystemsBreed", spec := "systemsBreed", unfollowed := true, recurses := true, plainKeys := false, apart := false, narrowed := true }
def SystemsBreedUptoSaid : Prop := systemsBreedUptoRow.holds Tryz.pinned (OpenSpec.upto systemsBreedSpec)

/-- 'pinnacelaw15.WorldPlaces', WHERE WHAT IT READS IS OF BULK AT MOST 1048576: true; the input reads as it did. -/
def worldPlacesUptoRow : OpenClaim := { program := "ytkblnhnjagemlaagreat", sum := "4d5fa263c4cbee8e5cb0134342e7a2ae278b85cb84a7cfa889457e70bd19178b", func := "pinnace/pinnacelaw15.WorldPlaces", spec := "worldPlaces", inPlace := ["slices.overlaps[pinnace/api.Comp]"], unfollowed := true, recurses := true, plainKeys := false, apart := false, narrowed := true }
def WorldPlacesUptoSaid : Prop := worldPlacesUptoRow.holds Tryz.pinned (OpenSpec.upto worldPlacesSpec)

/-- 'pinnacelaw15.WorldEnds', WHERE WHAT IT READS IS OF BULK AT MOST 1048576: true; the input reads as it did. -/
def worldEndsUptoRow : OpenClaim := { program := "ytkblnhnjagemlaagreat", sum := "4d5fa263c4cbee8e5cb0134342e7a2ae278b85cb84a7cfa889457e70bd19178b", func := "pinnace/pinnacelaw15.WorldEnds", spec := "worldEnds", inPlace := ["slices.overlaps[pinnace/api.Comp]"], unfollowed := true, recurses := true, plainKeys := false, apart := false, narrowed := true }
def WorldEndsUptoSaid : Prop := worldEndsUptoRow.holds Tryz.pinned (OpenSpec.upto worldEndsSpec)

/-- 'pinnacelaw15.WorldTwins', WHERE WHAT IT READS IS OF BULK AT MOST 1048576: true; the input reads as it did. -/
def worldTwinsUptoRow : OpenClaim := { program := "ytkblnhnjagemlaagreat", sum := "4d5fa263c4cbee8e5cb0134342e7a2ae278b85cb84a7cfa889457e70bd19178b", func := "pinnace/pinnacelaw15.WorldTwins", spec := "worldTwins", inPlace := ["slices.overlaps[pinnace/api.Comp]"], unfollowed := true, recurses := true, plainKeys := false, apart := false, narrowed := true }
def WorldTwinsUptoSaid : Prop := worldTwinsUptoRow.holds Tryz.pinned (OpenSpec.upto worldTwinsSpec)

/-- 'pinnacelaw15.WorldRoom', WHERE WHAT IT READS IS OF BULK AT MOST 1048576: true; the input reads as it did. -/
def worldRoomUptoRow : OpenClaim := { program := "ytkblnhnjagemlaagreat", sum := "4d5fa263c4cbee8e5cb0134342e7a2ae278b85cb84a7cfa889457e70bd19178b", func := "pinnace/pinnacelaw15.WorldRoom", spec := "worldRoom", inPlace := ["slices.overlaps[pinnace/api.Comp]"], unfollowed := true, recurses := true, plainKeys := false, apart := false, narrowed := true }
def WorldRoomUptoSaid : Prop := worldRoomUptoRow.holds Tryz.pinned (OpenSpec.upto worldRoomSpec)

/-- 'pinnacelaw15.WorldQuiet', WHERE WHAT IT READS IS OF BULK AT MOST 1048576: true; the input reads as it did. -/
def worldQuietUptoRow : OpenClaim := { program := "ytkblnhnjagemlaagreat", sum := "4d5fa263c4cbee8e5cb0134342e7a2ae278b85cb84a7cfa889457e70bd19178b", func := "pinnace/pinnacelaw15.WorldQuiet", spec := "worldQuiet", inPlace := ["slices.overlaps[pinnace/api.Comp]"], unfollowed := true, recurses := true, plainKeys := false, apart := false, narrowed := true }
def WorldQuietUptoSaid : Prop := worldQuietUptoRow.holds Tryz.pinned (OpenSpec.upto worldQuietSpec)

/-- 'pinnacelaw15.WorldPlays', WHERE WHAT IT READS IS OF BULK AT MOST 1048576: true; the input reads as it did. -/
def worldPlaysUptoRow : OpenClaim := { program := "ytkblnhnjagemlaagreat", sum := "4d5fa263c4cbee8e5cb0134342e7a2ae278b85cb84a7cfa889457e70bd19178b", func := "pinnace/pinnacelaw15.WorldPlays", spec := "worldPlays", inPlace := ["slices.overlaps[pinnace/api.Comp]"], unfollowed := true, recurses := true, plainKeys := false, apart := false, narrowed := true }
def WorldPlaysUptoSaid : Prop := worldPlaysUptoRow.holds Tryz.pinned (OpenSpec.upto worldPlaysSpec)

end Rows
end Go.Proofs.YtkblnhnjagemlaaGreat
