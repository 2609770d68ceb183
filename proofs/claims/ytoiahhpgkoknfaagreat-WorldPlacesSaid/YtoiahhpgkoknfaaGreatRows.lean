/-
  No cell of these rows narrows 'for every input' (looked for: loops, veiled, ifaces, maps, wideKeys, modest, calm, conditions, laid).
  DERIVED. THE GIVEN ROWS OF THIS SEAT. 12 by the template 'for every input the law returns true; each argument reads behind the call as it read before'; 0 by the template 'total and deterministic' (their statements: YtoiahhpgkoknfaaGreatTotals.lean).
  GIVEN WITH THE SEED: the statements are not yours to turn. If you find one false, say at which input.
  Laid BY PROGRAM, IN A SANDBOX (cutbox-rows.mjs): the forced cells as the released guide's own fill.sh prints them over the translation a10401aa23655d00… (all of the seat's roots in one cut). By AI agents, Wed Nov 11 2026. No macro, syntax, notation, axiom, sorry.
-/
import Derived.Test.YtoiahhpgkoknfaaGreatChecked
import GoSem.Claim
import GoSem.ClaimJoined
import GoSem.ClaimMapViews
import Derived.JoinedTies
import Derived.KernelRfl
namespace Go.Proofs.YtoiahhpgkoknfaaGreat
/- THE CELL 'sum', in the pinned program and in every row, IS THE sha256 OF THE DUMP (.gsa) THAT YtoiahhpgkoknfaaGreatProg.lean LOADS. Nothing in Lean hashes anything: it is a label: what it is worth is what the hold of that sum in a sandbox is worth. -/
noncomputable def Tryz.pinned : Pinned := { name := "ytoiahhpgkoknfaagreat", sum := "a10401aa23655d004f136f8b5ddc8e54503de6155418662ae9fa8cf11a826875", checked := Tryz.checked }
namespace Rows
def none {H : Type} : Left H := { results := [], args := [] }

/-- 'pinnacelaw15.WorldPlaces': WHATEVER THE INPUT: true; the input reads as it did. -/
def worldPlacesSpec : ChangeSpec := { name := "worldPlaces", fn := fun _ => fun
  | [d] => { results := [.lit (.bool true)], args := [d] }
  | _ => none }
def worldPlacesRow : OpenClaim := { program := "ytoiahhpgkoknfaagreat", sum := "a10401aa23655d004f136f8b5ddc8e54503de6155418662ae9fa8cf11a826875", func := "pinnace/pinnacelaw15.WorldPlaces", spec := "worldPlaces", inPlace := ["slices.overlaps[pinnace/api.Comp]"], unfollowed := true, recurses := true, plainKeys := false, apart := false }
def WorldPlacesSaid : Prop := worldPlacesRow.holds Tryz.pinned (OpenSpec.ofChange worldPlacesSpec)

/-- ITS FALSE NEIGHBOUR: 'it returns false'. Refute it at one input. -/
def worldPlacesWrong : ChangeSpec := { name := "worldPlaces", fn := fun _ => fun
  | [d] => { results := [.lit (.bool false)], args := [d] }
  | _ => none }
def WorldPlacesWrongFalsely : Prop := worldPlacesRow.holds Tryz.pinned (OpenSpec.ofChange worldPlacesWrong)

/-- 'pinnacelaw15.WorldEnds': WHATEVER THE INPUT: true; the input reads as it did. -/
def worldEndsSpec : ChangeSpec := { name := "worldEnds", fn := fun _ => fun
  | [d1, d2] => { results := [.lit (.bool true)], args := [d1, d2] }
  | _ => none }
def worldEndsRow : OpenClaim := { program := "ytoiahhpgkoknfaagreat", sum := "a10401aa23655d004f136f8b5ddc8e54503de6155418662ae9fa8cf11a826875", func := "pinnace/pinnacelaw15.WorldEnds", spec := "worldEnds", inPlace := ["slices.overlaps[pinnace/api.Comp]"], unfollowed := true, recurses := true, plainKeys := false, apart := false }
def WorldEndsSaid : Prop := worldEndsRow.holds Tryz.pinned (OpenSpec.ofChange worldEndsSpec)

/-- ITS FALSE NEIGHBOUR: 'it returns false'. Refute it at one input. -/
def worldEndsWrong : ChangeSpec := { name := "worldEnds", fn := fun _ => fun
  | [d1, d2] => { results := [.lit (.bool false)], args := [d1, d2] }
  | _ => none }
def WorldEndsWrongFalsely : Prop := worldEndsRow.holds Tryz.pinned (OpenSpec.ofChange worldEndsWrong)

/-- 'pinnacelaw15.WorldTwins': WHATEVER THE INPUT: true; the input reads as it did. -/
def worldTwinsSpec : ChangeSpec := { name := "worldTwins", fn := fun _ => fun
  | [d] => { results := [.lit (.bool true)], args := [d] }
  | _ => none }
def worldTwinsRow : OpenClaim := { program := "ytoiahhpgkoknfaagreat", sum := "a10401aa23655d004f136f8b5ddc8e54503de6155418662ae9fa8cf11a826875", func := "pinnace/pinnacelaw15.WorldTwins", spec := "worldTwins", inPlace := ["slices.overlaps[pinnace/api.Comp]"], unfollowed := true, recurses := true, plainKeys := false, apart := false }
def WorldTwinsSaid : Prop := worldTwinsRow.holds Tryz.pinned (OpenSpec.ofChange worldTwinsSpec)

/-- ITS FALSE NEIGHBOUR: 'it returns false'. Refute it at one input. -/
def worldTwinsWrong : ChangeSpec := { name := "worldTwins", fn := fun _ => fun
  | [d] => { results := [.lit (.bool false)], args := [d] }
  | _ => none }
def WorldTwinsWrongFalsely : Prop := worldTwinsRow.holds Tryz.pinned (OpenSpec.ofChange worldTwinsWrong)

/-- 'pinnacelaw15.WorldRoom': WHATEVER THE INPUT: true; the input reads as it did. -/
def worldRoomSpec : ChangeSpec := { name := "worldRoom", fn := fun _ => fun
  | [d] => { results := [.lit (.bool true)], args := [d] }
  | _ => none }
def worldRoomRow : OpenClaim := { program := "ytoiahhpgkoknfaagreat", sum := "a10401aa23655d004f136f8b5ddc8e54503de6155418662ae9fa8cf11a826875", func := "pinnace/pinnacelaw15.WorldRoom", spec := "worldRoom", inPlace := ["slices.overlaps[pinnace/api.Comp]"], unfollowed := true, recurses := true, plainKeys := false, apart := false }
def WorldRoomSaid : Prop := worldRoomRow.holds Tryz.pinned (OpenSpec.ofChange worldRoomSpec)

/-- ITS FALSE NEIGHBOUR: 'it returns false'. Refute it at one input. -/
def worldRoomWrong : ChangeSpec := { name := "worldRoom", fn := fun _ => fun
  | [d] => { results := [.lit (.bool false)], args := [d] }
  | _ => none }
def WorldRoomWrongFalsely : Prop := worldRoomRow.holds Tryz.pinned (OpenSpec.ofChange worldRoomWrong)

/-- 'pinnacelaw15.WorldQuiet': WHATEVER THE INPUT: true; the input reads as it did. -/
def worldQuietSpec : ChangeSpec := { name := "worldQuiet", fn := fun _ => fun
  | [d1, d2] => { results := [.lit (.bool true)], args := [d1, d2] }
  | _ => none }
def worldQuietRow : OpenClaim := { program := "ytoiahhpgkoknfaagreat", sum := "a10401aa23655d004f136f8b5ddc8e54503de6155418662ae9fa8cf11a826875", func := "pinnace/pinnacelaw15.WorldQuiet", spec := "worldQuiet", inPlace := ["slices.overlaps[pinnace/api.Comp]"], unfollowed := true, recurses := true, plainKeys := false, apart := false }
def WorldQuietSaid : Prop := worldQuietRow.holds Tryz.pinned (OpenSpec.ofChange worldQuietSpec)

/-- ITS FALSE NEIGHBOUR: 'it returns false'. Refute it at one input. -/
def worldQuietWrong : ChangeSpec := { name := "worldQuiet", fn := fun _ => fun
  | [d1, d2] => { results := [.lit (.bool false)], args := [d1, d2] }
  | _ => none }
def WorldQuietWrongFalsely : Prop := worldQuietRow.holds Tryz.pinned (OpenSpec.ofChange worldQuietWrong)

/-- 'pinnacelaw15.WorldPlays': WHATEVER THE INPUT: true; the input reads as it did. -/
def worldPlaysSpec : ChangeSpec := { name := "worldPlays", fn := fun _ => fun
  | [d1, d2, d3, d4] => { results := [.lit (.bool true)], args := [d1, d2, d3, d4] }
  | _ => none }
def worldPlaysRow : OpenClaim := { program := "ytoiahhpgkoknfaagreat", sum := "a10401aa23655d004f136f8b5ddc8e54503de6155418662ae9fa8cf11a826875", func := "pinnace/pinnacelaw15.WorldPlays", spec := "worldPlays", inPlace := ["slices.overlaps[pinnace/api.Comp]"], unfollowed := true, recurses := true, plainKeys := false, apart := false }
def WorldPlaysSaid : Prop := worldPlaysRow.holds Tryz.pinned (OpenSpec.ofChange worldPlaysSpec)

/-- ITS FALSE NEIGHBOUR: 'it returns false'. Refute it at one input. -/
def worldPlaysWrong : ChangeSpec := { name := "worldPlays", fn := fun _ => fun
  | [d1, d2, d3, d4] => { results := [.lit (.bool false)], args := [d1, d2, d3, d4] }
  | _ => none }
def WorldPlaysWrongFalsely : Prop := worldPlaysRow.holds Tryz.pinned (OpenSpec.ofChange worldPlaysWrong)

/-- 'pinnacelaw18.SnapTold': WHATEVER THE INPUT: true; the input reads as it did. -/
def snapToldSpec : ChangeSpec := { name := "snapTold", fn := fun _ => fun
  | [d] => { results := [.lit (.bool true)], args := [d] }
  | _ => none }
def snapToldRow : OpenClaim := { program := "ytoiahhpgkoknfaagreat", sum := "a10401aa23655d004f136f8b5ddc8e54503de6155418662ae9fa8cf11a826875", func := "pinnace/pinnacelaw18.SnapTold", spec := "snapTold", inPlace := ["slices.overlaps[pinnace/api.Comp]"], unfollowed := true, recurses := true, plainKeys := false, apart := false }
def SnapToldSaid : Prop := snapToldRow.holds Tryz.pinned (OpenSpec.ofChange snapToldSpec)

/-- ITS FALSE NEIGHBOUR: 'it returns false'. Refute it at one input. -/
def snapToldWrong : ChangeSpec := { name := "snapTold", fn := fun _ => fun
  | [d] => { results := [.lit (.bool false)], args := [d] }
  | _ => none }
def SnapToldWrongFalsely : Prop := snapToldRow.holds Tryz.pinned (OpenSpec.ofChange snapToldWrong)

/-- 'pinnacelaw18.SnapIDs': WHATEVER THE INPUT: true; the input reads as it did. -/
def snapIDsSpec : ChangeSpec := { name := "snapIDs", fn := fun _ => fun
  | [d] => { results := [.lit (.bool true)], args := [d] }
  | _ => none }
def snapIDsRow : OpenClaim := { program := "ytoiahhpgkoknfaagreat", sum := "a10401aa23655d004f136f8b5ddc8e54503de6155418662ae9fa8cf11a826875", func := "pinnace/pinnacelaw18.SnapIDs", spec := "snapIDs", inPlace := ["slices.overlaps[pinnace/api.Comp]"], unfollowed := true, recurses := true, plainKeys := false, apart := false }
def SnapIDsSaid : Prop := snapIDsRow.holds Tryz.pinned (OpenSpec.ofChange snapIDsSpec)

/-- ITS FALSE NEIGHBOUR: 'it returns false'. Refute it at one input. -/
def snapIDsWrong : ChangeSpec := { name := "snapIDs", fn := fun _ => fun
  | [d] => { results := [.lit (.bool false)], args := [d] }
  | _ => none }
def SnapIDsWrongFalsely : Prop := snapIDsRow.holds Tryz.pinned (OpenSpec.ofChange snapIDsWrong)

/-- 'pinnacelaw18.SnapTakes': WHATEVER THE INPUT: true; the input reads as it did. -/
def snapTakesSpec : ChangeSpec := { name := "snapTakes", fn := fun _ => fun
  | [d1, d2] => { results := [.lit (.bool true)], args := [d1, d2] }
  | _ => none }
def snapTakesRow : OpenClaim := { program := "ytoiahhpgkoknfaagreat", sum := "a10401aa23655d004f136f8b5ddc8e54503de6155418662ae9fa8cf11a826875", func := "pinnace/pinnacelaw18.SnapTakes", spec := "snapTakes", inPlace := ["slices.overlaps[pinnace/api.Comp]"], unfollowed := true, recurses := true, plainKeys := false, apart := false }
def SnapTakesSaid : Prop := snapTakesRow.holds Tryz.pinned (OpenSpec.ofChange snapTakesSpec)

/-- ITS FALSE NEIGHBOUR: 'it returns false'. Refute it at one input. -/
def snapTakesWrong : ChangeSpec := { name := "snapTakes", fn := fun _ => fun
  | [d1, d2] => { results := [.lit (.bool false)], args := [d1, d2] }
  | _ => none }
def SnapTakesWrongFalsely : Prop := snapTakesRow.holds Tryz.pinned (OpenSpec.ofChange snapTakesWrong)

/-- 'pinnacelaw18.SnapCopies': WHATEVER THE INPUT: true; the input reads as it did. -/
def snapCopiesSpec : ChangeSpec := { name := "snapCopies", fn := fun _ => fun
  | [d1, d2] => { results := [.lit (.bool true)], args := [d1, d2] }
  | _ => none }
def snapCopiesRow : OpenClaim := { program := "ytoiahhpgkoknfaagreat", sum := "a10401aa23655d004f136f8b5ddc8e54503de6155418662ae9fa8cf11a826875", func := "pinnace/pinnacelaw18.SnapCopies", spec := "snapCopies", inPlace := ["slices.overlaps[pinnace/api.Comp]"], unfollowed := true, recurses := true, plainKeys := false, apart := false }
def SnapCopiesSaid : Prop := snapCopiesRow.holds Tryz.pinned (OpenSpec.ofChange snapCopiesSpec)

/-- ITS FALSE NEIGHBOUR: 'it returns false'. Refute it at one input. -/
def snapCopiesWrong : ChangeSpec := { name := "snapCopies", fn := fun _ => fun
  | [d1, d2] => { results := [.lit (.bool false)], args := [d1, d2] }
  | _ => none }
def SnapCopiesWrongFalsely : Prop := snapCopiesRow.holds Tryz.pinned (OpenSpec.ofChange snapCopiesWrong)

/-- 'pinnacelaw18.SnapForms': WHATEVER THE INPUT: true; the input reads as it did. -/
def snapFormsSpec : ChangeSpec := { name := "snapForms", fn := fun _ => fun
  | [d1, d2] => { results := [.lit (.bool true)], args := [d1, d2] }
  | _ => none }
def snapFormsRow : OpenClaim := { program := "ytoiahhpgkoknfaagreat", sum := "a10401aa23655d004f136f8b5ddc8e54503de6155418662ae9fa8cf11a826875", func := "pinnace/pinnacelaw18.SnapForms", spec := "snapForms", inPlace := ["slices.overlaps[pinnace/api.Comp]"], unfollowed := true, recurses := true, plainKeys := false, apart := false }
def SnapFormsSaid : Prop := snapFormsRow.holds Tryz.pinned (OpenSpec.ofChange snapFormsSpec)

/-- ITS FALSE NEIGHBOUR: 'it returns false'. Refute it at one input. -/
def snapFormsWrong : ChangeSpec := { name := "snapForms", fn := fun _ => fun
  | [d1, d2] => { results := [.lit (.bool false)], args := [d1, d2] }
  | _ => none }
def SnapFormsWrongFalsely : Prop := snapFormsRow.holds Tryz.pinned (OpenSpec.ofChange snapFormsWrong)

/-- 'pinnacelaw18.SnapDirect': WHATEVER THE INPUT: true; the input reads as it did. -/
def snapDirectSpec : ChangeSpec := { name := "snapDirect", fn := fun _ => fun
  | [d1, d2] => { results := [.lit (.bool true)], args := [d1, d2] }
  | _ => none }
def snapDirectRow : OpenClaim := { program := "ytoiahhpgkoknfaagreat", sum := "a10401aa23655d004f136f8b5ddc8e54503de6155418662ae9fa8cf11a826875", func := "pinnace/pinnacelaw18.SnapDirect", spec := "snapDirect", inPlace := ["slices.overlaps[pinnace/api.Comp]"], unfollowed := true, recurses := true, plainKeys := false, apart := false }
def SnapDirectSaid : Prop := snapDirectRow.holds Tryz.pinned (OpenSpec.ofChange snapDirectSpec)

/-- ITS FALSE NEIGHBOUR: 'it returns false'. Refute it at one input. -/
def snapDirectWrong : ChangeSpec := { name := "snapDirect", fn := fun _ => fun
  | [d1, d2] => { results := [.lit (.bool false)], args := [d1, d2] }
  | _ => none }
def SnapDirectWrongFalsely : Prop := snapDirectRow.holds Tryz.pinned (OpenSpec.ofChange snapDirectWrong)

/- THE SECOND FORM. 'bulk': how many values and letters a reading holds, each counted each time it is reached (what is shared counts as often as it is met; a slice's spare places count too). A statement '..UptoSaid' is the law's where the arguments, and the package variables that the reading takes, are together of bulk at most 1048576: NARROWER than '..Said'. Prove '..Said' where nothing that the law and all that it calls make is longer than what came in: it says more and counts as full. Else prove '..UptoSaid'. A law counts once. -/
mutual
def uptoBulk {H : Type} : DataW H → Nat
  | .lit (.string bytes) => bytes.length + 1
  | .lit _ => 1
  | .nil => 1
  | .ptr d => uptoBulk d + 1
  | .slice elems spare => uptoBulkAll elems + uptoBulkAll spare + 1
  | .agg parts => uptoBulkAll parts + 1
  | .iface _ d => uptoBulk d + 1
  | .map entries => uptoBulkEntries entries + 1
  | .held _ => 1
def uptoBulkAll {H : Type} : List (DataW H) → Nat
  | [] => 0
  | d :: r => uptoBulk d + uptoBulkAll r
def uptoBulkEntries {H : Type} : List (Lit × DataW H) → Nat
  | [] => 0
  | x :: r => uptoBulkEntry x + uptoBulkEntries r
def uptoBulkEntry {H : Type} : Lit × DataW H → Nat
  | (.string bytes, d) => bytes.length + uptoBulk d + 1
  | (_, d) => uptoBulk d + 1
 end
def uptoSmall : (H : Type) → List (DataW H) → Bool := fun _ ds => decide (uptoBulkAll ds ≤ 1048576)
def OpenSpec.upto (s : _root_.Go.ChangeSpec) : _root_.Go.OpenSpec := { _root_.Go.OpenSpec.ofChange s with cond := some uptoSmall }

/-- 'pinnacelaw15.WorldPlaces', WHERE WHAT IT READS IS OF BULK AT MOST 1048576: true; the input reads as it did. -/
def worldPlacesUptoRow : OpenClaim := { program := "ytoiahhpgkoknfaagreat", sum := "a10401aa23655d004f136f8b5ddc8e54503de6155418662ae9fa8cf11a826875", func := "pinnace/pinnacelaw15.WorldPlaces", spec := "worldPlaces", inPlace := ["slices.overlaps[pinnace/api.Comp]"], unfollowed := true, recurses := true, plainKeys := false, apart := false, narrowed := true }
def WorldPlacesUptoSaid : Prop := worldPlacesUptoRow.holds Tryz.pinned (OpenSpec.upto worldPlacesSpec)

/-- 'pinnacelaw15.WorldEnds', WHERE WHAT IT READS IS OF BULK AT MOST 1048576: true; the input reads as it did. -/
def worldEndsUptoRow : OpenClaim := { program := "ytoiahhpgkoknfaagreat", sum := "a10401aa23655d004f136f8b5ddc8e54503de6155418662ae9fa8cf11a826875", func := "pinnace/pinnacelaw15.WorldEnds", spec := "worldEnds", inPlace := ["slices.overlaps[pinnace/api.Comp]"], unfollowed := true, recurses := true, plainKeys := false, apart := false, narrowed := true }
def WorldEndsUptoSaid : Prop := worldEndsUptoRow.holds Tryz.pinned (OpenSpec.upto worldEndsSpec)

/-- 'pinnacelaw15.WorldTwins', WHERE WHAT IT READS IS OF BULK AT MOST 1048576: true; the input reads as it did. -/
def worldTwinsUptoRow : OpenClaim := { program := "ytoiahhpgkoknfaagreat", sum := "a10401aa23655d004f136f8b5ddc8e54503de6155418662ae9fa8cf11a826875", func := "pinnace/pinnacelaw15.WorldTwins", spec := "worldTwins", inPlace := ["slices.overlaps[pinnace/api.Comp]"], unfollowed := true, recurses := true, plainKeys := false, apart := false, narrowed := true }
def WorldTwinsUptoSaid : Prop := worldTwinsUptoRow.holds Tryz.pinned (OpenSpec.upto worldTwinsSpec)

/-- 'pinnacelaw15.WorldRoom', WHERE WHAT IT READS IS OF BULK AT MOST 1048576: true; the input reads as it did. -/
def worldRoomUptoRow : OpenClaim := { program := "ytoiahhpgkoknfaagreat", sum := "a10401aa23655d004f136f8b5ddc8e54503de6155418662ae9fa8cf11a826875", func := "pinnace/pinnacelaw15.WorldRoom", spec := "worldRoom", inPlace := ["slices.overlaps[pinnace/api.Comp]"], unfollowed := true, recurses := true, plainKeys := false, apart := false, narrowed := true }
def WorldRoomUptoSaid : Prop := worldRoomUptoRow.holds Tryz.pinned (OpenSpec.upto worldRoomSpec)

/-- 'pinnacelaw15.WorldQuiet', WHERE WHAT IT READS IS OF BULK AT MOST 1048576: true; the input reads as it did. -/
def worldQuietUptoRow : OpenClaim := { program := "ytoiahhpgkoknfaagreat", sum := "a10401aa23655d004f136f8b5ddc8e54503de6155418662ae9fa8cf11a826875", func := "pinnace/pinnacelaw15.WorldQuiet", spec := "worldQuiet", inPlace := ["slices.overlaps[pinnace/api.Comp]"], unfollowed := true, recurses := true, plainKeys := false, apart := false, narrowed := true }
def WorldQuietUptoSaid : Prop := worldQuietUptoRow.holds Tryz.pinned (OpenSpec.upto worldQuietSpec)

/-- 'pinnacelaw15.WorldPlays', WHERE WHAT IT READS IS OF BULK AT MOST 1048576: true; the input reads as it did. -/
def worldPlaysUptoRow : OpenClaim := { program := "ytoiahhpgkoknfaagreat", sum := "a10401aa23655d004f136f8b5ddc8e54503de6155418662ae9fa8cf11a826875", func := "pinnace/pinnacelaw15.WorldPlays", spec := "worldPlays", inPlace := ["slices.overlaps[pinnace/api.Comp]"], unfollowed := true, recurses := true, plainKeys := false, apart := false, narrowed := true }
def WorldPlaysUptoSaid : Prop := worldPlaysUptoRow.holds Tryz.pinned (OpenSpec.upto worldPlaysSpec)

/-- 'pinnacelaw18.SnapTold', WHERE WHAT IT READS IS OF BULK AT MOST 1048576: true; the input reads as it did. -/
def snapToldUptoRow : OpenClaim := { program := "ytoiahhpgkoknfaagreat", sum := "a10401aa23655d004f136f8b5ddc8e54503de6155418662ae9fa8cf11a826875", func := "pinnace/pinnacelaw18.SnapTold", spec := "snapTold", inPlace := ["slices.overlaps[pinnace/api.Comp]"], unfollowed := true, recurses := true, plainKeys := false, apart := false, narrowed := true }
def SnapToldUptoSaid : Prop := snapToldUptoRow.holds Tryz.pinned (OpenSpec.upto snapToldSpec)

/-- 'pinnacelaw18.SnapIDs', WHERE WHAT IT READS IS OF BULK AT MOST 1048576: true; the input reads as it did. -/
def snapIDsUptoRow : OpenClaim := { program := "ytoiahhpgkoknfaagreat", sum := "a10401aa23655d004f136f8b5ddc8e54503de6155418662ae9fa8cf11a826875", func := "pinnace/pinnacelaw18.SnapIDs", spec := "snapIDs", inPlace := ["slices.overlaps[pinnace/api.Comp]"], unfollowed := true, recurses := true, plainKeys := false, apart := false, narrowed := true }
def SnapIDsUptoSaid : Prop := snapIDsUptoRow.holds Tryz.pinned (OpenSpec.upto snapIDsSpec)

/-- 'pinnacelaw18.SnapTakes', WHERE WHAT IT READS IS OF BULK AT MOST 1048576: true; the input reads as it did. -/
def snapTakesUptoRow : OpenClaim := { program := "ytoiahhpgkoknfaagreat", sum := "a10401aa23655d004f136f8b5ddc8e54503de6155418662ae9fa8cf11a826875", func := "pinnace/pinnacelaw18.SnapTakes", spec := "snapTakes", inPlace := ["slices.overlaps[pinnace/api.Comp]"], unfollowed := true, recurses := true, plainKeys := false, apart := false, narrowed := true }
def SnapTakesUptoSaid : Prop := snapTakesUptoRow.holds Tryz.pinned (OpenSpec.upto snapTakesSpec)

/-- 'pinnacelaw18.SnapCopies', WHERE WHAT IT READS IS OF BULK AT MOST 1048576: true; the input reads as it did. -/
def snapCopiesUptoRow : OpenClaim := { program := "ytoiahhpgkoknfaagreat", sum := "a10401aa23655d004f136f8b5ddc8e54503de6155418662ae9fa8cf11a826875", func := "pinnace/pinnacelaw18.SnapCopies", spec := "snapCopies", inPlace := ["slices.overlaps[pinnace/api.Comp]"], unfollowed := true, recurses := true, plainKeys := false, apart := false, narrowed := true }
def SnapCopiesUptoSaid : Prop := snapCopiesUptoRow.holds Tryz.pinned (OpenSpec.upto snapCopiesSpec)

/-- 'pinnacelaw18.SnapForms', WHERE WHAT IT READS IS OF BULK AT MOST 1048576: true; the input reads as it did. -/
def snapFormsUptoRow : OpenClaim := { program := "ytoiahhpgkoknfaagreat", sum := "a10401aa23655d004f136f8b5ddc8e54503de6155418662ae9fa8cf11a826875", func := "pinnace/pinnacelaw18.SnapForms", spec := "snapForms", inPlace := ["slices.overlaps[pinnace/api.Comp]"], unfollowed := true, recurses := true, plainKeys := false, apart := false, narrowed := true }
def SnapFormsUptoSaid : Prop := snapFormsUptoRow.holds Tryz.pinned (OpenSpec.upto snapFormsSpec)

/-- 'pinnacelaw18.SnapDirect', WHERE WHAT IT READS IS OF BULK AT MOST 1048576: true; the input reads as it did. -/
def snapDirectUptoRow : OpenClaim := { program := "ytoiahhpgkoknfaagreat", sum := "a10401aa23655d004f136f8b5ddc8e54503de6155418662ae9fa8cf11a826875", func := "pinnace/pinnacelaw18.SnapDirect", spec := "snapDirect", inPlace := ["slices.overlaps[pinnace/api.Comp]"], unfollowed := true, recurses := true, plainKeys := false, apart := false, narrowed := true }
def SnapDirectUptoSaid : Prop := snapDirectUptoRow.holds Tryz.pinned (OpenSpec.upto snapDirectSpec)

end Rows
end Go.Proofs.YtoiahhpgkoknfaaGreat
