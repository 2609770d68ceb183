/-
  snap: what is a snapshot.
-/
import Derived.Test.YtcahnbflfehonaaRef10
import Derived.Test.YtcahnbflfehonaaF2
import Derived.Test.YtcahnbflfehonaaSlo
namespace Go.Proofs.Ytcahnbflfehonaa
open Go Go.RowKit Go.Proofs.Ytcahnbflfehonaa.Den
variable {R : Type} {Q : R → World → Prop} {w : World}

theorem spec_schema_Told {k : Int} {K : Res [.sc .bool] → W R} (hk : ∀ w', Fr None w w' → K (toldM k) Q w') : callW Try.prog k_schema_Told [.int .u8 k] [.sc .bool] K Q w := by
  refine C_schema_Told _ K Q w ?_
  unfold F_schema_Told
  exact spec_schema_of fun s w1 _ f1 => hk w1 f1
theorem spec_snap_secret {c : Comp} {K : Res [.sc .bool] → W R} (hk : ∀ w', Fr None w w' → K (!toldM c.1) Q w') : callW Try.prog k_snap_secret [.agg ⟨compC c⟩] [.sc .bool] K Q w := by
  refine C_snap_secret c K Q w ?_
  unfold F_snap_secret
  exact newI fun w1 B1 f1 s1 => fldI B1 (i := 0) (x := c.1) rfl (spec_schema_Told fun w2 f2 => hk w2 (f1.then0 f2))
def secretM (l : List Comp) : Bool := l.any fun c => !toldM c.1
theorem spec_snap_anySecret {ok : Nat → Prop} {s : Sl} {l : List Comp} (hS : SlT ok w compT s l) (hm : l.length ≤ 9223372036854775807) {K : Res [.sc .bool] → W R} (hk : ∀ w', Fr None w w' → K (secretM l) Q w') :
    callW Try.prog k_slices_ContainsFunc_Comp [.slice s.a s.n s.c, .func (.func 36) #[] #[]] [.sc .bool] K Q w := by
  refine C_slices_ContainsFunc_Comp__snap_secret s K Q w ?_
  unfold F_slices_ContainsFunc_Comp__snap_secret
  refine C_slices_IndexFunc_Comp__snap_secret s _ _ w ?_
  unfold F_slices_IndexFunc_Comp__snap_secret
  have hlen := hS.len
  refine forI (N := s.n) (fun s : Int => s) (fun j i w' => i = j ∧ Fr None w w' ∧ secretM (l.take j) = false) ⟨rfl, Fr.refl _ _, rfl⟩ (fun j s w' h => h.1) ?_ ?_
  · rintro j i w1 K' hj ⟨rfl, f1, hno⟩ - hK
    refine (hS.fr0 f1).get rfl rfl (by omega) fun c hc => spec_snap_secret fun w2 f2 => ?_
    have e : secretM (l.take (j + 1)) = (secretM (l.take j) || !toldM c.1) := by unfold secretM; rw [take_at hc, List.any_append]; simp
    refine condI (fun h => ?_) fun h => ?_
    · have : secretM l = true := by
        unfold secretM
        exact List.any_eq_true.2 ⟨c, List.mem_of_getElem? hc, h⟩
      have hk := hk w2 (f1.then0 f2)
      rw [this] at hk
      have e2 : decide ((j : Int) ≥ 0) = true := decide_eq_true (by omega)
      rw [← e2] at hk
      exact hk
    · exact hK _ _ ⟨wsucc hj (by omega), f1.then0 f2, by rw [e, hno, h]; rfl⟩
  · rintro i w1 ⟨rfl, f1, hno⟩
    rw [List.take_of_length_le (by omega)] at hno
    have hk := hk w1 f1
    rw [hno] at hk
    exact hk


/-! ### a snapshot -/
def oneM (e : Ent) : Int := if genOf e.1 < 1 ∨ 4194303 < genOf e.1 then 4 else listE e.2
theorem spec_snap_one {ok : Nat → Prop} {r : Int × Sl} {e : Ent} (h1 : r.1 = e.1) (hS : SlT ok w compT r.2 e.2) (hm : Small e.2) (hid : IdOk e.1) {K : Res [.sc (.int .i64)] → W R} (hk : ∀ w', Fr None w w' → K (oneM e) Q w') :
    callW Try.prog k_snap_one [.agg ⟨[.int .u32 r.1, .slice r.2.a r.2.n r.2.c]⟩] [.sc (.int .i64)] K Q w := by
  refine C_snap_one r K Q w ?_
  unfold F_snap_one
  unfold oneM at hk
  refine newI fun w1 B1 f1 s1 => fldI B1 (i := 0) (x := r.1) rfl ?_
  rw [h1]
  refine spec_slots_Gen hid ?_
  refine joinI (fun z w' => z = decide (genOf e.1 < 1 ∨ 4194303 < genOf e.1) ∧ w' = w1) ?_ ?_
  · refine condD (fun h => ⟨by simp [h], rfl⟩) fun h => ⟨?_, rfl⟩
    simp [h]
  rintro z w2 ⟨rfl, rfl⟩
  refine condD (fun h => ?_) fun h => ?_
  · rw [if_pos h] at hk
    exact hk w2 f1
  · rw [if_neg h] at hk
    exact fldI B1 (i := 1) (x := r.2) rfl (spec_schema_List (hS.fr0 f1) hm fun w3 f3 => hk w3 (f1.then0 f3))
def formM : Int → List Ent → Int
  | _, [] => 0
  | last, e :: r => if e.1 ≤ last then 4 else if oneM e ≠ 0 then oneM e else if secretM e.2 = true then 4 else formM e.1 r
/-- what has come is right, so far. -/
def lastE (l : List Ent) (j : Nat) : Int := match j with
  | 0 => 0
  | j + 1 => ((l[j]?).map (·.1)).getD 0
theorem spec_snap_Form {ok : Nat → Prop} {s : Sl} {raws : List (Int × Sl)} {L : List Ent} (hS : SlT ok w entT s raws) (hE : EntsR ok w raws L) (hm : L.length ≤ 9223372036854775807) (hL : ∀ e ∈ L, IdOk e.1 ∧ Small e.2) {K : Res [.sc (.int .i64)] → W R} (hk : ∀ w', Fr None w w' → K (formM 0 L) Q w') :
    callW Try.prog k_snap_Form [.slice s.a s.n s.c] [.sc (.int .i64)] K Q w := by
  refine C_snap_Form s K Q w ?_
  unfold F_snap_Form
  have hlen := hS.len
  have hel := hE.len
  refine forI (N := s.n) (fun s : Int × Int => s.2) (fun j s w' => s = (lastE L j, (j : Int)) ∧ Fr None w w' ∧ formM 0 L = formM (lastE L j) (L.drop j)) ⟨rfl, Fr.refl _ _, rfl⟩ (fun j s w' h => by rw [h.1]) ?_ ?_
  · rintro j s1 w1 K' hj ⟨rfl, f1, hf⟩ - hK
    obtain ⟨e, he⟩ : ∃ e, L[j]? = some e := ⟨_, List.getElem?_eq_getElem (by omega)⟩
    obtain ⟨r1, hr1, ha1, ha2⟩ := hE.get he
    obtain ⟨hid, hsm⟩ := hL e (List.mem_of_getElem? he)
    have hdrop : L.drop j = e :: L.drop (j + 1) := by
      obtain ⟨hl, hg⟩ := List.getElem?_eq_some_iff.1 he
      rw [List.drop_eq_getElem_cons hl, hg]
    rw [hdrop, formM] at hf
    rw [hf] at hk
    refine (hS.fr0 f1).get rfl rfl (by omega) fun y hy => ?_
    rw [hr1] at hy
    cases hy
    refine newI fun w2 B2 f2 s2 => stoAll B2 rfl rfl fun w3 B3 f3 s3 => fldI B3 (i := 0) (x := r1.1) rfl ?_
    have f13 : Fr None w1 w3 := f2.newer f3 fun k e => by omega
    have f03 := f1.then0 f13
    rw [ha1]
    refine condD (fun h => ?_) fun h => ?_
    · rw [if_pos h] at hk
      exact hk w3 f03
    rw [if_neg h] at hk hf
    refine fldI B3 (i := 0) (x := r1.1) rfl (aggI B3 (x := r1) rfl (spec_snap_one ha1 (ha2.fr0 f03) hsm hid fun w4 f4 => ?_))
    have f04 := f03.then0 f4
    refine condN (fun hne => ?_) fun heq => ?_
    · rw [if_pos hne] at hk
      exact hk w4 f04
    rw [if_neg (by omega)] at hk hf
    refine fldI (B3.fr f4 fun h => h) (i := 1) (x := r1.2) rfl (spec_snap_anySecret (ha2.fr0 f04) (Nat.le_trans hsm (by decide)) fun w5 f5 => ?_)
    have f05 := f04.then0 f5
    refine condI (fun h => ?_) fun h => ?_
    · rw [if_pos h] at hk
      exact hk w5 f05
    · rw [if_neg (by rw [h]; decide)] at hk hf
      have hlast : lastE L (j + 1) = e.1 := by
        show ((L[j]?).map (·.1)).getD 0 = e.1
        rw [he]; rfl
      refine hK _ _ ⟨?_, f05, by rw [hlast]; exact hf⟩
      rw [wsucc hj (by omega), hlast, ha1]
  · rintro s1 w1 ⟨rfl, f1, hf⟩
    rw [List.drop_of_length_le (by omega), formM] at hf
    have hk := hk w1 f1
    rw [hf] at hk
    exact hk

end Go.Proofs.Ytcahnbflfehonaa
