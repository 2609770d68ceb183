/-
  math/bits.Len of this program, by the library's contract.
-/
import Derived.Shelf.Lays
import Derived.Shelf.Small.Bits
import Derived.Test.YtkblnhnjagemlaaGreatK
import Derived.Test.YtkblnhnjagemlaaGreatLib
namespace Go.Proofs.YtkblnhnjagemlaaGreat
open Go Go.RowKit Go.Shelf Go.Proofs.YtkblnhnjagemlaaGreat.Den
variable {R : Type} {Q : R → World → Prop} {w : World}
def bitsRen : Ren where
  f := fun x => match x with
    | 125 => 182
    | 128 => 205
    | 129 => 206
    | n => n
  t := fun x => match x with
    | 46 => 289
    | 3 => 3
    | 51 => 30
    | 53 => 162
    | 4 => 4
    | 5 => 5
    | 9 => 9
    | n => n
  g := fun n => n
theorem bitsLays : Lays.n125 Tryz.prog bitsRen :=
  { mixed := rfl, f125 := Eq.trans Tryz.func182 rfl, f128 := Eq.trans Tryz.func205 rfl, f129 := Eq.trans Tryz.func206 rfl, t3 := Tryz.underlying3,
    a3 := Tryz.isAgg3, z3 := Tryz.sizeOf3, v3 := Tryz.zeroValue3, t4 := Tryz.underlying4, a4 := Tryz.isAgg4, z4 := Tryz.sizeOf4,
    v4 := Tryz.zeroValue4, t5 := Tryz.underlying5, a5 := Tryz.isAgg5, z5 := Tryz.sizeOf5, v5 := Tryz.zeroValue5,
    t9 := Tryz.underlying9, a9 := Tryz.isAgg9, z9 := Tryz.sizeOf9, v9 := Tryz.zeroValue9, t46 := Tryz.underlying289,
    a46 := Tryz.isAgg289, z46 := Tryz.sizeOf289, v46 := Tryz.zeroValue289, t51 := Tryz.underlying30, a51 := Tryz.isAgg30,
    z51 := Tryz.sizeOf30, v51 := Tryz.zeroValue30, t53 := Tryz.underlying162, a53 := Tryz.isAgg162, z53 := Tryz.sizeOf162,
    v53 := Tryz.zeroValue162 }
theorem spec_bits_Len {x : Int} (h0 : 0 ≤ x) (h1 : x ≤ 18446744073709551615) {K : Res [.sc (.int .i64)] → W R} (hk : K (Lib.bitLen x.toNat : Int) Q w) : callW Tryz.prog k_math_bits_Len [.int .u64 x] [.sc (.int .i64)] K Q w :=
  (Any.bits_Len bitsLays x w h0 h1).mono fun e w' ⟨h1, h2⟩ => by
    subst h2
    exact ⟨_, h1, hk⟩

end Go.Proofs.YtkblnhnjagemlaaGreat
