/-
  math/bits.Len of this program, by the library's contract.
-/
import Derived.Shelf.Lays
import Derived.Shelf.Small.Bits
import Derived.Test.YtecmpmnaeciapaaK
import Derived.Test.YtecmpmnaeciapaaLib
namespace Go.Proofs.Ytecmpmnaeciapaa
open Go Go.RowKit Go.Shelf Go.Proofs.Ytecmpmnaeciapaa.Den
variable {R : Type} {Q : R → World → Prop} {w : World}
def bitsRen : Ren where
  f := fun x => match x with
    | 125 => 158
    | 128 => 181
    | 129 => 161
    | n => n
  t := fun x => match x with
    | 46 => 96
    | 3 => 3
    | 51 => 23
    | 53 => 162
    | 4 => 4
    | 5 => 5
    | 9 => 9
    | n => n
  g := fun n => n
theorem bitsLays : Lays.n125 Try.prog bitsRen :=
  { mixed := rfl, f125 := Eq.trans Try.func158 rfl, f128 := Eq.trans Try.func181 rfl, f129 := Eq.trans Try.func161 rfl, t3 := Try.underlying3,
    a3 := Try.isAgg3, z3 := Try.sizeOf3, v3 := Try.zeroValue3, t4 := Try.underlying4, a4 := Try.isAgg4, z4 := Try.sizeOf4,
    v4 := Try.zeroValue4, t5 := Try.underlying5, a5 := Try.isAgg5, z5 := Try.sizeOf5, v5 := Try.zeroValue5,
    t9 := Try.underlying9, a9 := Try.isAgg9, z9 := Try.sizeOf9, v9 := Try.zeroValue9, t46 := Try.underlying96,
    a46 := Try.isAgg96, z46 := Try.sizeOf96, v46 := Try.zeroValue96, t51 := Try.underlying23, a51 := Try.isAgg23,
    z51 := Try.sizeOf23, v51 := Try.zeroValue23, t53 := Try.underlying162, a53 := Try.isAgg162, z53 := Try.sizeOf162,
    v53 := Try.zeroValue162 }
theorem spec_bits_Len {x : Int} (h0 : 0 ≤ x) (h1 : x ≤ 18446744073709551615) {K : Res [.sc (.int .i64)] → W R} (hk : K (Lib.bitLen x.toNat : Int) Q w) : callW Try.prog k_math_bits_Len [.int .u64 x] [.sc (.int .i64)] K Q w :=
  (Any.bits_Len bitsLays x w h0 h1).mono fun e w' ⟨h1, h2⟩ => by
    subst h2
    exact ⟨_, h1, hk⟩

end Go.Proofs.Ytecmpmnaeciapaa
