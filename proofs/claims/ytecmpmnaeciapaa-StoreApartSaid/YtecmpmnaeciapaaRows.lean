/-
  No cell of these rows narrows 'for every input' (looked for: loops, veiled, ifaces, maps, wideKeys, modest, calm, conditions, laid).
  DERIVED. THE GIVEN ROWS OF THIS SEAT. 9 by the template 'for every input the law returns true; each argument reads behind the call as it read before'; 0 by the template 'total and deterministic' (their statements: YtecmpmnaeciapaaTotals.lean).
  GIVEN WITH THE SEED: the statements are not yours to turn. If you find one false, say at which input.
  Laid BY PROGRAM, IN A SANDBOX (cutbox-rows.mjs): the forced cells as the released guide's own fill.sh prints them over the translation 2a2c2380044612b6… (all of the seat's roots in one cut). By AI agents, Wed Nov 11 2026. No macro, syntax, notation, axiom, sorry.
-/
import Derived.Test.YtecmpmnaeciapaaChecked
import GoSem.Claim
import GoSem.ClaimJoined
import GoSem.ClaimMapViews
import Derived.JoinedTies
import Derived.KernelRfl
namespace Go.Proofs.Ytecmpmnaeciapaa
/- THE CELL 'sum', in the pinned program and in every row, IS THE sha256 OF THE DUMP (.gsa) THAT YtecmpmnaeciapaaProg.lean LOADS. Nothing in Lean hashes anything: it is a label: what it is worth is what the hold of that sum in a sandbox is worth. -/
noncomputable def Try.pinned : Pinned := { name := "ytecmpmnaeciapaa", sum := "2a2c2380044612b66ef16bb28ac015c5e0a5ae0b9ca898c0c05c550caabe7f2d", checked := Try.checked }
namespace Rows
def none {H : Type} : Left H := { results := [], args := [] }

/-- 'pinnacelaw20.PacketShort': WHATEVER THE INPUT: true; the input reads as it did. -/
def packetShortSpec : ChangeSpec := { name := "packetShort", fn := fun _ => fun
  | [d1, d2] => { results := [.lit (.bool true)], args := [d1, d2] }
  | _ => none }
def packetShortRow : OpenClaim := { program := "ytecmpmnaeciapaa", sum := "2a2c2380044612b66ef16bb28ac015c5e0a5ae0b9ca898c0c05c550caabe7f2d", func := "pinnace/pinnacelaw20.PacketShort", spec := "packetShort", unfollowed := true, recurses := true, apart := false }
def PacketShortSaid : Prop := packetShortRow.holds Try.pinned (OpenSpec.ofChange packetShortSpec)

/-- ITS FALSE NEIGHBOUR: 'it returns false'. Refute it at one input. -/
def packetShortWrong : ChangeSpec := { name := "packetShort", fn := fun _ => fun
  | [d1, d2] => { results := [.lit (.bool false)], args := [d1, d2] }
  | _ => none }
def PacketShortWrongFalsely : Prop := packetShortRow.holds Try.pinned (OpenSpec.ofChange packetShortWrong)

/-- 'pinnacelaw20.PacketApart': WHATEVER THE INPUT: true; the input reads as it did. -/
def packetApartSpec : ChangeSpec := { name := "packetApart", fn := fun _ => fun
  | [d1, d2, d3, d4, d5] => { results := [.lit (.bool true)], args := [d1, d2, d3, d4, d5] }
  | _ => none }
def packetApartRow : OpenClaim := { program := "ytecmpmnaeciapaa", sum := "2a2c2380044612b66ef16bb28ac015c5e0a5ae0b9ca898c0c05c550caabe7f2d", func := "pinnace/pinnacelaw20.PacketApart", spec := "packetApart", unfollowed := true, recurses := true, apart := false }
def PacketApartSaid : Prop := packetApartRow.holds Try.pinned (OpenSpec.ofChange packetApartSpec)

/-- ITS FALSE NEIGHBOUR: 'it returns false'. Refute it at one input. -/
def packetApartWrong : ChangeSpec := { name := "packetApart", fn := fun _ => fun
  | [d1, d2, d3, d4, d5] => { results := [.lit (.bool false)], args := [d1, d2, d3, d4, d5] }
  | _ => none }
def PacketApartWrongFalsely : Prop := packetApartRow.holds Try.pinned (OpenSpec.ofChange packetApartWrong)

/-- 'pinnacelaw13.OrdersNone': WHATEVER THE INPUT: true; the input reads as it did. -/
def ordersNoneSpec : ChangeSpec := { name := "ordersNone", fn := fun _ => fun
  | [d] => { results := [.lit (.bool true)], args := [d] }
  | _ => none }
def ordersNoneRow : OpenClaim := { program := "ytecmpmnaeciapaa", sum := "2a2c2380044612b66ef16bb28ac015c5e0a5ae0b9ca898c0c05c550caabe7f2d", func := "pinnace/pinnacelaw13.OrdersNone", spec := "ordersNone", inPlace := ["slices.overlaps[pinnace/api.Comp]"], unfollowed := true, recurses := true, apart := false }
def OrdersNoneSaid : Prop := ordersNoneRow.holds Try.pinned (OpenSpec.ofChange ordersNoneSpec)

/-- ITS FALSE NEIGHBOUR: 'it returns false'. Refute it at one input. -/
def ordersNoneWrong : ChangeSpec := { name := "ordersNone", fn := fun _ => fun
  | [d] => { results := [.lit (.bool false)], args := [d] }
  | _ => none }
def OrdersNoneWrongFalsely : Prop := ordersNoneRow.holds Try.pinned (OpenSpec.ofChange ordersNoneWrong)

/-- 'pinnacelaw13.OrdersChecks': WHATEVER THE INPUT: true; the input reads as it did. -/
def ordersChecksSpec : ChangeSpec := { name := "ordersChecks", fn := fun _ => fun
  | [d] => { results := [.lit (.bool true)], args := [d] }
  | _ => none }
def ordersChecksRow : OpenClaim := { program := "ytecmpmnaeciapaa", sum := "2a2c2380044612b66ef16bb28ac015c5e0a5ae0b9ca898c0c05c550caabe7f2d", func := "pinnace/pinnacelaw13.OrdersChecks", spec := "ordersChecks", inPlace := ["slices.overlaps[pinnace/api.Comp]"], unfollowed := true, recurses := true, apart := false }
def OrdersChecksSaid : Prop := ordersChecksRow.holds Try.pinned (OpenSpec.ofChange ordersChecksSpec)

/-- ITS FALSE NEIGHBOUR: 'it returns false'. Refute it at one input. -/
def ordersChecksWrong : ChangeSpec := { name := "ordersChecks", fn := fun _ => fun
  | [d] => { results := [.lit (.bool false)], args := [d] }
  | _ => none }
def OrdersChecksWrongFalsely : Prop := ordersChecksRow.holds Try.pinned (OpenSpec.ofChange ordersChecksWrong)

/-- 'pinnacelaw13.OrdersFull': WHATEVER THE INPUT: true; the input reads as it did. -/
def ordersFullSpec : ChangeSpec := { name := "ordersFull", fn := fun _ => fun
  | [d] => { results := [.lit (.bool true)], args := [d] }
  | _ => none }
def ordersFullRow : OpenClaim := { program := "ytecmpmnaeciapaa", sum := "2a2c2380044612b66ef16bb28ac015c5e0a5ae0b9ca898c0c05c550caabe7f2d", func := "pinnace/pinnacelaw13.OrdersFull", spec := "ordersFull", inPlace := ["slices.overlaps[pinnace/api.Comp]"], unfollowed := true, recurses := true, apart := false }
def OrdersFullSaid : Prop := ordersFullRow.holds Try.pinned (OpenSpec.ofChange ordersFullSpec)

/-- ITS FALSE NEIGHBOUR: 'it returns false'. Refute it at one input. -/
def ordersFullWrong : ChangeSpec := { name := "ordersFull", fn := fun _ => fun
  | [d] => { results := [.lit (.bool false)], args := [d] }
  | _ => none }
def OrdersFullWrongFalsely : Prop := ordersFullRow.holds Try.pinned (OpenSpec.ofChange ordersFullWrong)

/-- 'pinnacelaw13.OrdersParts': WHATEVER THE INPUT: true; the input reads as it did. -/
def ordersPartsSpec : ChangeSpec := { name := "ordersParts", fn := fun _ => fun
  | [d1, d2] => { results := [.lit (.bool true)], args := [d1, d2] }
  | _ => none }
def ordersPartsRow : OpenClaim := { program := "ytecmpmnaeciapaa", sum := "2a2c2380044612b66ef16bb28ac015c5e0a5ae0b9ca898c0c05c550caabe7f2d", func := "pinnace/pinnacelaw13.OrdersParts", spec := "ordersParts", inPlace := ["slices.overlaps[pinnace/api.Comp]"], unfollowed := true, recurses := true, apart := false }
def OrdersPartsSaid : Prop := ordersPartsRow.holds Try.pinned (OpenSpec.ofChange ordersPartsSpec)

/-- ITS FALSE NEIGHBOUR: 'it returns false'. Refute it at one input. -/
def ordersPartsWrong : ChangeSpec := { name := "ordersParts", fn := fun _ => fun
  | [d1, d2] => { results := [.lit (.bool false)], args := [d1, d2] }
  | _ => none }
def OrdersPartsWrongFalsely : Prop := ordersPartsRow.holds Try.pinned (OpenSpec.ofChange ordersPartsWrong)

/-- 'pinnacelaw11.StoreFull': WHATEVER THE INPUT: true; the input reads as it did. -/
def storeFullSpec : ChangeSpec := { name := "storeFull", fn := fun _ => fun
  | [d1, d2] => { results := [.lit (.bool true)], args := [d1, d2] }
  | _ => none }
def storeFullRow : OpenClaim := { program := "ytecmpmnaeciapaa", sum := "2a2c2380044612b66ef16bb28ac015c5e0a5ae0b9ca898c0c05c550caabe7f2d", func := "pinnace/pinnacelaw11.StoreFull", spec := "storeFull", inPlace := ["slices.overlaps[pinnace/api.Comp]"], unfollowed := true, recurses := true, apart := false }
def StoreFullSaid : Prop := storeFullRow.holds Try.pinned (OpenSpec.ofChange storeFullSpec)

/-- ITS FALSE NEIGHBOUR: 'it returns false'. Refute it at one input. -/
def storeFullWrong : ChangeSpec := { name := "storeFull", fn := fun _ => fun
  | [d1, d2] => { results := [.lit (.bool false)], args := [d1, d2] }
  | _ => none }
def StoreFullWrongFalsely : Prop := storeFullRow.holds Try.pinned (OpenSpec.ofChange storeFullWrong)

/-- 'pinnacelaw11.StoreMoves': WHATEVER THE INPUT: true; the input reads as it did. -/
def storeMovesSpec : ChangeSpec := { name := "storeMoves", fn := fun _ => fun
  | [d1, d2, d3] => { results := [.lit (.bool true)], args := [d1, d2, d3] }
  | _ => none }
def storeMovesRow : OpenClaim := { program := "ytecmpmnaeciapaa", sum := "2a2c2380044612b66ef16bb28ac015c5e0a5ae0b9ca898c0c05c550caabe7f2d", func := "pinnace/pinnacelaw11.StoreMoves", spec := "storeMoves", inPlace := ["slices.overlaps[pinnace/api.Comp]"], unfollowed := true, recurses := true, apart := false }
def StoreMovesSaid : Prop := storeMovesRow.holds Try.pinned (OpenSpec.ofChange storeMovesSpec)

/-- ITS FALSE NEIGHBOUR: 'it returns false'. Refute it at one input. -/
def storeMovesWrong : ChangeSpec := { name := "storeMoves", fn := fun _ => fun
  | [d1, d2, d3] => { results := [.lit (.bool false)], args := [d1, d2, d3] }
  | _ => none }
def StoreMovesWrongFalsely : Prop := storeMovesRow.holds Try.pinned (OpenSpec.ofChange storeMovesWrong)

/-- 'pinnacelaw11.StoreApart': WHATEVER THE INPUT: true; the input reads as it did. -/
def storeApartSpec : ChangeSpec := { name := "storeApart", fn := fun _ => fun
  | [d1, d2] => { results := [.lit (.bool true)], args := [d1, d2] }
  | _ => none }
def storeApartRow : OpenClaim := { program := "ytecmpmnaeciapaa", sum := "2a2c2380044612b66ef16bb28ac015c5e0a5ae0b9ca898c0c05c550caabe7f2d", func := "pinnace/pinnacelaw11.StoreApart", spec := "storeApart", inPlace := ["slices.overlaps[pinnace/api.Comp]"], unfollowed := true, recurses := true, apart := false }
def StoreApartSaid : Prop := storeApartRow.holds Try.pinned (OpenSpec.ofChange storeApartSpec)

/-- ITS FALSE NEIGHBOUR: 'it returns false'. Refute it at one input. -/
def storeApartWrong : ChangeSpec := { name := "storeApart", fn := fun _ => fun
  | [d1, d2] => { results := [.lit (.bool false)], args := [d1, d2] }
  | _ => none }
def StoreApartWrongFalsely : Prop := storeApartRow.holds Try.pinned (OpenSpec.ofChange storeApartWrong)

/- THE SECOND FORM. 'bulk': how many values and letters a reading holds, each counted each time it is reached (what is shared counts as often as it is met; a slice's spare places count too). A statement '..UptoSaid' is the law's where the arguments, and the package variables that the reading takes, are together of bulk at most 1048576: NARROWER than '..Said'. Prove '..Said' where nothing that the law and all that it calls make is longer than what came in: it says more and counts as full. Else prove '..UptoSaid'. A law counts once. -/
mutual
def uptoBulk {H : Type} : DataW H → Nat
  | .lit (.string bytes) => bytes.length + 1
  | .lit _ => 1
  | .nil => 1
  | .ptr d => uptoBulk d + 1
  | .slice elems spare => uptoBulkAll elems + uptoBulkAll spare + 1
  | .agg parts => uptoBulkAll parts + 1
  | .iface _ d => uptoBulk d + 1
  | .map entries => uptoBulkEntries entries + 1
  | .held _ => 1
def uptoBulkAll {H : Type} : List (DataW H) → Nat
  | [] => 0
  | d :: r => uptoBulk d + uptoBulkAll r
def uptoBulkEntries {H : Type} : List (Lit × DataW H) → Nat
  | [] => 0
  | x :: r => uptoBulkEntry x + uptoBulkEntries r
def uptoBulkEntry {H : Type} : Lit × DataW H → Nat
  | (.string bytes, d) => bytes.length + uptoBulk d + 1
  | (_, d) => uptoBulk d + 1
 end
def uptoSmall : (H : Type) → List (DataW H) → Bool := fun _ ds => decide (uptoBulkAll ds ≤ 1048576)
def OpenSpec.upto (s : _root_.Go.ChangeSpec) : _root_.Go.OpenSpec := { _root_.Go.OpenSpec.ofChange s with cond := some uptoSmall }

/-- 'pinnacelaw20.PacketShort', WHERE WHAT IT READS IS OF BULK AT MOST 1048576: true; the input reads as it did. -/
def packetShortUptoRow : OpenClaim := { program := "ytecmpmnaeciapaa", sum := "2a2c2380044612b66ef16bb28ac015c5e0a5ae0b9ca898c0c05c550caabe7f2d", func := "pinnace/pinnacelaw20.PacketShort", spec := "packetShort", unfollowed := true, recurses := true, apart := false, narrowed := true }
def PacketShortUptoSaid : Prop := packetShortUptoRow.holds Try.pinned (OpenSpec.upto packetShortSpec)

/-- 'pinnacelaw20.PacketApart', WHERE WHAT IT READS IS OF BULK AT MOST 1048576: true; the input reads as it did. -/
def packetApartUptoRow : OpenClaim := { program := "ytecmpmnaeciapaa", sum := "2a2c2380044612b66ef16bb28ac015c5e0a5ae0b9ca898c0c05c550caabe7f2d", func := "pinnace/pinnacelaw20.PacketApart", spec := "packetApart", unfollowed := true, recurses := true, apart := false, narrowed := true }
def PacketApartUptoSaid : Prop := packetApartUptoRow.holds Try.pinned (OpenSpec.upto packetApartSpec)

/-- 'pinnacelaw13.OrdersNone', WHERE WHAT IT READS IS OF BULK AT MOST 1048576: true; the input reads as it did. -/
def ordersNoneUptoRow : OpenClaim := { program := "ytecmpmnaeciapaa", sum := "2a2c2380044612b66ef16bb28ac015c5e0a5ae0b9ca898c0c05c550caabe7f2d", func := "pinnace/pinnacelaw13.OrdersNone", spec := "ordersNone", inPlace := ["slices.overlaps[pinnace/api.Comp]"], unfollowed := true, recurses := true, apart := false, narrowed := true }
def OrdersNoneUptoSaid : Prop := ordersNoneUptoRow.holds Try.pinned (OpenSpec.upto ordersNoneSpec)

/-- 'pinnacelaw13.OrdersChecks', WHERE WHAT IT READS IS OF BULK AT MOST 1048576: true; the input reads as it did. -/
def ordersChecksUptoRow : OpenClaim := { program := "ytecmpmnaeciapaa", sum := "2a2c2380044612b66ef16bb28ac015c5e0a5ae0b9ca898c0c05c550caabe7f2d", func := "pinnace/pinnacelaw13.OrdersChecks", spec := "ordersChecks", inPlace := ["slices.overlaps[pinnace/api.Comp]"], unfollowed := true, recurses := true, apart := false, narrowed := true }
def OrdersChecksUptoSaid : Prop := ordersChecksUptoRow.holds Try.pinned (OpenSpec.upto ordersChecksSpec)

/-- 'pinnacelaw13.OrdersFull', WHERE WHAT IT READS IS OF BULK AT MOST 1048576: true; the input reads as it did. -/
def ordersFullUptoRow : OpenClaim := { program := "ytecmpmnaeciapaa", sum := "2a2c2380044612b66ef16bb28ac015c5e0a5ae0b9ca898c0c05c550caabe7f2d", func := "pinnace/pinnacelaw13.OrdersFull", spec := "ordersFull", inPlace := ["slices.overlaps[pinnace/api.Comp]"], unfollowed := true, recurses := true, apart := false, narrowed := true }
def OrdersFullUptoSaid : Prop := ordersFullUptoRow.holds Try.pinned (OpenSpec.upto ordersFullSpec)

/-- 'pinnacelaw13.OrdersParts', WHERE WHAT IT READS IS OF BULK AT MOST 1048576: true; the input reads as it did. -/
def ordersPartsUptoRow : OpenClaim := { program := "ytecmpmnaeciapaa", sum := "2a2c2380044612b66ef16bb28ac015c5e0a5ae0b9ca898c0c05c550caabe7f2d", func := "pinnace/pinnacelaw13.OrdersParts", spec := "ordersParts", inPlace := ["slices.overlaps[pinnace/api.Comp]"], unfollowed := true, recurses := true, apart := false, narrowed := true }
def OrdersPartsUptoSaid : Prop := ordersPartsUptoRow.holds Try.pinned (OpenSpec.upto ordersPartsSpec)

/-- 'pinnacelaw11.StoreFull', WHERE WHAT IT READS IS OF BULK AT MOST 1048576: true; the input reads as it did. -/
def storeFullUptoRow : OpenClaim := { program := "ytecmpmnaeciapaa", sum := "2a2c2380044612b66ef16bb28ac015c5e0a5ae0b9ca898c0c05c550caabe7f2d", func := "pinnace/pinnacelaw11.StoreFull", spec := "storeFull", inPlace := ["slices.overlaps[pinnace/api.Comp]"], unfollowed := true, recurses := true, apart := false, narrowed := true }
def StoreFullUptoSaid : Prop := storeFullUptoRow.holds Try.pinned (OpenSpec.upto storeFullSpec)

/-- 'pinnacelaw11.StoreMoves', WHERE WHAT IT READS IS OF BULK AT MOST 1048576: true; the input reads as it did. -/
def storeMovesUptoRow : OpenClaim := { program := "ytecmpmnaeciapaa", sum := "2a2c2380044612b66ef16bb28ac015c5e0a5ae0b9ca898c0c05c550caabe7f2d", func := "pinnace/pinnacelaw11.StoreMoves", spec := "storeMoves", inPlace := ["slices.overlaps[pinnace/api.Comp]"], unfollowed := true, recurses := true, apart := false, narrowed := true }
def StoreMovesUptoSaid : Prop := storeMovesUptoRow.holds Try.pinned (OpenSpec.upto storeMovesSpec)

/-- 'pinnacelaw11.StoreApart', WHERE WHAT IT READS IS OF BULK AT MOST 1048576: true; the input reads as it did. -/
def storeApartUptoRow : OpenClaim := { program := "ytecmpmnaeciapaa", sum := "2a2c2380044612b66ef16bb28ac015c5e0a5ae0b9ca898c0c05c550caabe7f2d", func := "pinnace/pinnacelaw11.StoreApart", spec := "storeApart", inPlace := ["slices.overlaps[pinnace/api.Comp]"], unfollowed := true, recurses := true, apart := false, narrowed := true }
def StoreApartUptoSaid : Prop := storeApartUptoRow.holds Try.pinned (OpenSpec.upto storeApartSpec)

end Rows
end Go.Proofs.Ytecmpmnaeciapaa
