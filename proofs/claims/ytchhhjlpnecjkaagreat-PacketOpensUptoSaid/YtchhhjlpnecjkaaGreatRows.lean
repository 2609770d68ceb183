/-
  No cell of these rows narrows 'for every input' (looked for: loops, veiled, ifaces, maps, wideKeys, modest, calm, conditions, laid).
  DERIVED. THE GIVEN ROWS OF THIS SEAT. 5 by the template 'for every input the law returns true; each argument reads behind the call as it read before'; 0 by the template 'total and deterministic' (their statements: YtchhhjlpnecjkaaGreatTotals.lean).
  GIVEN WITH THE SEED: the statements are not yours to turn. If you find one false, say at which input.
  Laid BY PROGRAM, IN A SANDBOX (cutbox-rows.mjs): the forced cells as the released guide's own fill.sh prints them over the translation d31635c34af7316e… (all of the seat's roots in one cut). By AI agents, Wed Nov 11 2026. No macro, syntax, notation, axiom, sorry.
-/
import Derived.Test.YtchhhjlpnecjkaaGreatChecked
import GoSem.Claim
import GoSem.ClaimJoined
import GoSem.ClaimMapViews
import Derived.JoinedTies
import Derived.KernelRfl
namespace Go.Proofs.YtchhhjlpnecjkaaGreat
/- THE CELL 'sum', in the pinned program and in every row, IS THE sha256 OF THE DUMP (.gsa) THAT YtchhhjlpnecjkaaGreatProg.lean LOADS. Nothing in Lean hashes anything: it is a label: what it is worth is what the hold of that sum in a sandbox is worth. -/
noncomputable def Tryz.pinned : Pinned := { name := "ytchhhjlpnecjkaagreat", sum := "d31635c34af7316e2a0108ecc2a18f2987cff965aa6bc27094e864136ce0aadd", checked := Tryz.checked }
namespace Rows
def none {H : Type} : Left H := { results := [], args := [] }

/-- 'pinnacelaw20.PacketBodies': WHATEVER THE INPUT: true; the input reads as it did. -/
def packetBodiesSpec : ChangeSpec := { name := "packetBodies", fn := fun _ => fun
  | [d1, d2] => { results := [.lit (.bool true)], args := [d1, d2] }
  | _ => none }
def packetBodiesRow : OpenClaim := { program := "ytchhhjlpnecjkaagreat", sum := "d31635c34af7316e2a0108ecc2a18f2987cff965aa6bc27094e864136ce0aadd", func := "pinnace/pinnacelaw20.PacketBodies", spec := "packetBodies", unfollowed := true, recurses := true, apart := false }
def PacketBodiesSaid : Prop := packetBodiesRow.holds Tryz.pinned (OpenSpec.ofChange packetBodiesSpec)

/-- ITS FALSE NEIGHBOUR: 'it returns false'. Refute it at one input. -/
def packetBodiesWrong : ChangeSpec := { name := "packetBodies", fn := fun _ => fun
  | [d1, d2] => { results := [.lit (.bool false)], args := [d1, d2] }
  | _ => none }
def PacketBodiesWrongFalsely : Prop := packetBodiesRow.holds Tryz.pinned (OpenSpec.ofChange packetBodiesWrong)

/-- 'pinnacelaw20.PacketHeads': WHATEVER THE INPUT: true; the input reads as it did. -/
def packetHeadsSpec : ChangeSpec := { name := "packetHeads", fn := fun _ => fun
  | [d] => { results := [.lit (.bool true)], args := [d] }
  | _ => none }
def packetHeadsRow : OpenClaim := { program := "ytchhhjlpnecjkaagreat", sum := "d31635c34af7316e2a0108ecc2a18f2987cff965aa6bc27094e864136ce0aadd", func := "pinnace/pinnacelaw20.PacketHeads", spec := "packetHeads", unfollowed := true, recurses := true, apart := false }
def PacketHeadsSaid : Prop := packetHeadsRow.holds Tryz.pinned (OpenSpec.ofChange packetHeadsSpec)

/-- ITS FALSE NEIGHBOUR: 'it returns false'. Refute it at one input. -/
def packetHeadsWrong : ChangeSpec := { name := "packetHeads", fn := fun _ => fun
  | [d] => { results := [.lit (.bool false)], args := [d] }
  | _ => none }
def PacketHeadsWrongFalsely : Prop := packetHeadsRow.holds Tryz.pinned (OpenSpec.ofChange packetHeadsWrong)

/-- 'pinnacelaw20.PacketSeals': WHATEVER THE INPUT: true; the input reads as it did. -/
def packetSealsSpec : ChangeSpec := { name := "packetSeals", fn := fun _ => fun
  | [d1, d2, d3] => { results := [.lit (.bool true)], args := [d1, d2, d3] }
  | _ => none }
def packetSealsRow : OpenClaim := { program := "ytchhhjlpnecjkaagreat", sum := "d31635c34af7316e2a0108ecc2a18f2987cff965aa6bc27094e864136ce0aadd", func := "pinnace/pinnacelaw20.PacketSeals", spec := "packetSeals", unfollowed := true, recurses := true, apart := false }
def PacketSealsSaid : Prop := packetSealsRow.holds Tryz.pinned (OpenSpec.ofChange packetSealsSpec)

/-- ITS FALSE NEIGHBOUR: 'it returns false'. Refute it at one input. -/
def packetSealsWrong : ChangeSpec := { name := "packetSeals", fn := fun _ => fun
  | [d1, d2, d3] => { results := [.lit (.bool false)], args := [d1, d2, d3] }
  | _ => none }
def PacketSealsWrongFalsely : Prop := packetSealsRow.holds Tryz.pinned (OpenSpec.ofChange packetSealsWrong)

/-- 'pinnacelaw20.PacketOpens': WHATEVER THE INPUT: true; the input reads as it did. -/
def packetOpensSpec : ChangeSpec := { name := "packetOpens", fn := fun _ => fun
  | [d1, d2] => { results := [.lit (.bool true)], args := [d1, d2] }
  | _ => none }
def packetOpensRow : OpenClaim := { program := "ytchhhjlpnecjkaagreat", sum := "d31635c34af7316e2a0108ecc2a18f2987cff965aa6bc27094e864136ce0aadd", func := "pinnace/pinnacelaw20.PacketOpens", spec := "packetOpens", unfollowed := true, recurses := true, apart := false }
def PacketOpensSaid : Prop := packetOpensRow.holds Tryz.pinned (OpenSpec.ofChange packetOpensSpec)

/-- ITS FALSE NEIGHBOUR: 'it returns false'. Refute it at one input. -/
def packetOpensWrong : ChangeSpec := { name := "packetOpens", fn := fun _ => fun
  | [d1, d2] => { results := [.lit (.bool false)], args := [d1, d2] }
  | _ => none }
def PacketOpensWrongFalsely : Prop := packetOpensRow.holds Tryz.pinned (OpenSpec.ofChange packetOpensWrong)

/-- 'pinnacelaw20.PacketBursts': WHATEVER THE INPUT: true; the input reads as it did. -/
def packetBurstsSpec : ChangeSpec := { name := "packetBursts", fn := fun _ => fun
  | [d1, d2, d3, d4, d5] => { results := [.lit (.bool true)], args := [d1, d2, d3, d4, d5] }
  | _ => none }
def packetBurstsRow : OpenClaim := { program := "ytchhhjlpnecjkaagreat", sum := "d31635c34af7316e2a0108ecc2a18f2987cff965aa6bc27094e864136ce0aadd", func := "pinnace/pinnacelaw20.PacketBursts", spec := "packetBursts", unfollowed := true, recurses := true, apart := false }
def PacketBurstsSaid : Prop := packetBurstsRow.holds Tryz.pinned (OpenSpec.ofChange packetBurstsSpec)

/-- ITS FALSE NEIGHBOUR: 'it returns false'. Refute it at one input. -/
def packetBurstsWrong : ChangeSpec := { name := "packetBursts", fn := fun _ => fun
  | [d1, d2, d3, d4, d5] => { results := [.lit (.bool false)], args := [d1, d2, d3, d4, d5] }
  | _ => none }
def PacketBurstsWrongFalsely : Prop := packetBurstsRow.holds Tryz.pinned (OpenSpec.ofChange packetBurstsWrong)

/- THE SECOND FORM. 'bulk': how many values and letters a reading holds, each counted each time it is reached (what is shared counts as often as it is met; a slice's spare places count too). A statement '..UptoSaid' is the law's where the arguments, and the package variables that the reading takes, are together of bulk at most 1048576: NARROWER than '..Said'. Prove '..Said' where nothing that the law and all that it calls make is longer than what came in: it says more and counts as full. Else prove '..UptoSaid'. A law counts once. -/
mutual
def uptoBulk {H : Type} : DataW H → Nat
  | .lit (.string bytes) => bytes.length + 1
  | .lit _ => 1
  | .nil => 1
  | .ptr d => uptoBulk d + 1
  | .slice elems spare => uptoBulkAll elems + uptoBulkAll spare + 1
  | .agg parts => uptoBulkAll parts + 1
  | .iface _ d => uptoBulk d + 1
  | .map entries => uptoBulkEntries entries + 1
  | .held _ => 1
def uptoBulkAll {H : Type} : List (DataW H) → Nat
  | [] => 0
  | d :: r => uptoBulk d + uptoBulkAll r
def uptoBulkEntries {H : Type} : List (Lit × DataW H) → Nat
  | [] => 0
  | x :: r => uptoBulkEntry x + uptoBulkEntries r
def uptoBulkEntry {H : Type} : Lit × DataW H → Nat
  | (.string bytes, d) => bytes.length + uptoBulk d + 1
  | (_, d) => uptoBulk d + 1
 end
def uptoSmall : (H : Type) → List (DataW H) → Bool := fun _ ds => decide (uptoBulkAll ds ≤ 1048576)
def OpenSpec.upto (s : _root_.Go.ChangeSpec) : _root_.Go.OpenSpec := { _root_.Go.OpenSpec.ofChange s with cond := some uptoSmall }

/-- 'pinnacelaw20.PacketBodies', WHERE WHAT IT READS IS OF BULK AT MOST 1048576: true; the input reads as it did. -/
def packetBodiesUptoRow : OpenClaim := { program := "ytchhhjlpnecjkaagreat", sum := "d31635c34af7316e2a0108ecc2a18f2987cff965aa6bc27094e864136ce0aadd", func := "pinnace/pinnacelaw20.PacketBodies", spec := "packetBodies", unfollowed := true, recurses := true, apart := false, narrowed := true }
def PacketBodiesUptoSaid : Prop := packetBodiesUptoRow.holds Tryz.pinned (OpenSpec.upto packetBodiesSpec)

/-- 'pinnacelaw20.PacketHeads', WHERE WHAT IT READS IS OF BULK AT MOST 1048576: true; the input reads as it did. -/
def packetHeadsUptoRow : OpenClaim := { program := "ytchhhjlpnecjkaagreat", sum := "d31635c34af7316e2a0108ecc2a18f2987cff965aa6bc27094e864136ce0aadd", func := "pinnace/pinnacelaw20.PacketHeads", spec := "packetHeads", unfollowed := true, recurses := true, apart := false, narrowed := true }
def PacketHeadsUptoSaid : Prop := packetHeadsUptoRow.holds Tryz.pinned (OpenSpec.upto packetHeadsSpec)

/-- 'pinnacelaw20.PacketSeals', WHERE WHAT IT READS IS OF BULK AT MOST 1048576: true; the input reads as it did. -/
def packetSealsUptoRow : OpenClaim := { program := "ytchhhjlpnecjkaagreat", sum := "d31635c34af7316e2a0108ecc2a18f2987cff965aa6bc27094e864136ce0aadd", func := "pinnace/pinnacelaw20.PacketSeals", spec := "packetSeals", unfollowed := true, recurses := true, apart := false, narrowed := true }
def PacketSealsUptoSaid : Prop := packetSealsUptoRow.holds Tryz.pinned (OpenSpec.upto packetSealsSpec)

/-- 'pinnacelaw20.PacketOpens', WHERE WHAT IT READS IS OF BULK AT MOST 1048576: true; the input reads as it did. -/
def packetOpensUptoRow : OpenClaim := { program := "ytchhhjlpnecjkaagreat", sum := "d31635c34af7316e2a0108ecc2a18f2987cff965aa6bc27094e864136ce0aadd", func := "pinnace/pinnacelaw20.PacketOpens", spec := "packetOpens", unfollowed := true, recurses := true, apart := false, narrowed := true }
def PacketOpensUptoSaid : Prop := packetOpensUptoRow.holds Tryz.pinned (OpenSpec.upto packetOpensSpec)

/-- 'pinnacelaw20.PacketBursts', WHERE WHAT IT READS IS OF BULK AT MOST 1048576: true; the input reads as it did. -/
def packetBurstsUptoRow : OpenClaim := { program := "ytchhhjlpnecjkaagreat", sum := "d31635c34af7316e2a0108ecc2a18f2987cff965aa6bc27094e864136ce0aadd", func := "pinnace/pinnacelaw20.PacketBursts", spec := "packetBursts", unfollowed := true, recurses := true, apart := false, narrowed := true }
def PacketBurstsUptoSaid : Prop := packetBurstsUptoRow.holds Tryz.pinned (OpenSpec.upto packetBurstsSpec)

end Rows
end Go.Proofs.YtchhhjlpnecjkaaGreat
