/-
  A bit of a component is turned.
-/
import Derived.Test.YtecmpmnaeciapaaGreatComp
import Derived.Test.YtecmpmnaeciapaaGreatBase
namespace Go.Proofs.YtecmpmnaeciapaaGreat
open Go Go.RowKit Go.Proofs.YtecmpmnaeciapaaGreat.Den
variable {R : Type} {Q : R → World → Prop} {w : World}

/-- a bit of a component of a list of one's own is turned. -/
theorem flipS {S : Nat → Prop} {s : Sl} {l : List Comp} (ho : Own S w 60 compT s l) {i : Int} {j : Nat} (hi : i = j) (hj : j < l.length) {K : W R} (hk : ∀ w' l', l'.length = l.length → Own S w' 60 compT s l' → Fr (fun k => s.v.ownBlock = some k) w w' → K Q w') :
    (idxW s.a s.n 4 i fun x_95 =>
        idxW (some (Addr.add x_95 1)) 3 1 0 fun x_96 =>
        ld (.sc (.int .i32)) x_96 fun (x_97 : Int) =>
        idxW s.a s.n 4 i fun x_98 =>
        idxW (some (Addr.add x_98 1)) 3 1 0 fun x_99 =>
        stoL x_99 [.int .i32 (bXor .i32 x_97 1)] 0 K) Q w := by
  subst hi
  refine ho.idx rfl (by omega) (by omega) fun g c hg hc hrd => ?_
  have hc : l[j]? = some c := by simpa using hc
  refine idxA (by omega) (by omega) ?_
  rw [addA]
  refine hrd.fld (s := .int .i32) (y := c.2.1) rfl ?_
  refine ho.idx rfl (by omega) (by omega) fun g2 c2 hg2 hc2 _ => ?_
  refine idxA (by omega) (by omega) ?_
  rw [addA, add_lit]
  refine ho.setFld (i := j) (j := 1) (x' := (c.1, bXor .i32 c.2.1 1, c.2.2.1, c.2.2.2)) hc hg2 (show 1 < 4 by omega) rfl rfl fun w2 o2 f2 s2 => ?_
  exact hk w2 _ (by rw [List.length_set]) o2 f2

end Go.Proofs.YtecmpmnaeciapaaGreat
