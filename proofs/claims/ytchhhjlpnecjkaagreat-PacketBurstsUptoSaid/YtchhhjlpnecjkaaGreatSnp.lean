/-
  snap: what is a snapshot.
-/
import Derived.Test.YtchhhjlpnecjkaaGreatRef10
import Derived.Test.YtchhhjlpnecjkaaGreatF2
import Derived.Test.YtchhhjlpnecjkaaGreatSlo
import Derived.Test.YtchhhjlpnecjkaaGreatBitM
import Derived.Test.YtchhhjlpnecjkaaGreatFQ
import Derived.Test.YtchhhjlpnecjkaaGreatRng
namespace Go.Proofs.YtchhhjlpnecjkaaGreat
open Go Go.RowKit Go.Proofs.YtchhhjlpnecjkaaGreat.Den
variable {R : Type} {Q : R → World → Prop} {w : World}

theorem spec_schema_Told {k : Int} {K : Res [.sc .bool] → W R} (hk : ∀ w', Fr None w w' → K (toldM k) Q w') : callW Tryz.prog k_schema_Told [.int .u8 k] [.sc .bool] K Q w := by
  refine C_schema_Told _ K Q w ?_
  unfold F_schema_Told
  exact spec_schema_of fun s w1 _ f1 => hk w1 f1
theorem spec_snap_secret {c : Comp} {K : Res [.sc .bool] → W R} (hk : ∀ w', Fr None w w' → K (!toldM c.1) Q w') : callW Tryz.prog k_snap_secret [.agg ⟨compC c⟩] [.sc .bool] K Q w := by
  refine C_snap_secret c K Q w ?_
  unfold F_snap_secret
  exact newI fun w1 B1 f1 s1 => fldI B1 (i := 0) (x := c.1) rfl (spec_schema_Told fun w2 f2 => hk w2 (f1.then0 f2))
def secretM (l : List Comp) : Bool := l.any fun c => !toldM c.1
theorem spec_snap_anySecret {ok : Nat → Prop} {s : Sl} {l : List Comp} (hS : SlT ok w compT s l) (hm : l.length ≤ 9223372036854775807) {K : Res [.sc .bool] → W R} (hk : ∀ w', Fr None w w' → K (secretM l) Q w') :
    callW Tryz.prog k_slices_ContainsFunc_Comp [.slice s.a s.n s.c, .func (.func 71) #[] #[]] [.sc .bool] K Q w := by
  refine C_slices_ContainsFunc_Comp__snap_secret s K Q w ?_
  unfold F_slices_ContainsFunc_Comp__snap_secret
  refine C_slices_IndexFunc_Comp__snap_secret s _ _ w ?_
  unfold F_slices_IndexFunc_Comp__snap_secret
  have hlen := hS.len
  refine forI (N := s.n) (fun s : Int => s) (fun j i w' => i = j ∧ Fr None w w' ∧ secretM (l.take j) = false) ⟨rfl, Fr.refl _ _, rfl⟩ (fun j s w' h => h.1) ?_ ?_
  · rintro j i w1 K' hj ⟨rfl, f1, hno⟩ - hK
    refine (hS.fr0 f1).get rfl rfl (by omega) fun c hc => spec_snap_secret fun w2 f2 => ?_
    have e : secretM (l.take (j + 1)) = (secretM (l.take j) || !toldM c.1) := by unfold secretM; rw [take_at hc, List.any_append]; simp
    refine condI (fun h => ?_) fun h => ?_
    · have : secretM l = true := by
        unfold secretM
        exact List.any_eq_true.2 ⟨c, List.mem_of_getElem? hc, h⟩
      have hk := hk w2 (f1.then0 f2)
      rw [this] at hk
      have e2 : decide ((j : Int) ≥ 0) = true := decide_eq_true (by omega)
      rw [← e2] at hk
      exact hk
    · exact hK _ _ ⟨wsucc hj (by omega), f1.then0 f2, by rw [e, hno, h]; rfl⟩
  · rintro i w1 ⟨rfl, f1, hno⟩
    rw [List.take_of_length_le (by omega)] at hno
    have hk := hk w1 f1
    rw [hno] at hk
    exact hk


/-! ### a snapshot -/
def oneM (e : Ent) : Int := if genOf e.1 < 1 ∨ 4194303 < genOf e.1 then 4 else listE e.2
theorem spec_snap_one {ok : Nat → Prop} {r : Int × Sl} {e : Ent} (h1 : r.1 = e.1) (hS : SlT ok w compT r.2 e.2) (hm : Small e.2) (hid : IdOk e.1) {K : Res [.sc (.int .i64)] → W R} (hk : ∀ w', Fr None w w' → K (oneM e) Q w') :
    callW Tryz.prog k_snap_one [.agg ⟨[.int .u32 r.1, .slice r.2.a r.2.n r.2.c]⟩] [.sc (.int .i64)] K Q w := by
  refine C_snap_one r K Q w ?_
  unfold F_snap_one
  unfold oneM at hk
  refine newI fun w1 B1 f1 s1 => fldI B1 (i := 0) (x := r.1) rfl ?_
  rw [h1]
  refine spec_slots_Gen hid ?_
  refine joinI (fun z w' => z = decide (genOf e.1 < 1 ∨ 4194303 < genOf e.1) ∧ w' = w1) ?_ ?_
  · refine condD (fun h => ⟨by simp [h], rfl⟩) fun h => ⟨?_, rfl⟩
    simp [h]
  rintro z w2 ⟨rfl, rfl⟩
  refine condD (fun h => ?_) fun h => ?_
  · rw [if_pos h] at hk
    exact hk w2 f1
  · rw [if_neg h] at hk
    exact fldI B1 (i := 1) (x := r.2) rfl (spec_schema_List (hS.fr0 f1) hm fun w3 f3 => hk w3 (f1.then0 f3))
def formM : Int → List Ent → Int
  | _, [] => 0
  | last, e :: r => if e.1 ≤ last then 4 else if oneM e ≠ 0 then oneM e else if secretM e.2 = true then 4 else formM e.1 r
/-- what has come is right, so far. -/
def lastE (l : List Ent) (j : Nat) : Int := match j with
  | 0 => 0
  | j + 1 => ((l[j]?).map (·.1)).getD 0
theorem spec_snap_Form {ok : Nat → Prop} {s : Sl} {raws : List (Int × Sl)} {L : List Ent} (hS : SlT ok w entT s raws) (hE : EntsR ok w raws L) (hm : L.length ≤ 9223372036854775807) (hL : ∀ e ∈ L, IdOk e.1 ∧ Small e.2) {K : Res [.sc (.int .i64)] → W R} (hk : ∀ w', Fr None w w' → K (formM 0 L) Q w') :
    callW Tryz.prog k_snap_Form [.slice s.a s.n s.c] [.sc (.int .i64)] K Q w := by
  refine C_snap_Form s K Q w ?_
  unfold F_snap_Form
  have hlen := hS.len
  have hel := hE.len
  refine forI (N := s.n) (fun s : Int × Int => s.2) (fun j s w' => s = (lastE L j, (j : Int)) ∧ Fr None w w' ∧ formM 0 L = formM (lastE L j) (L.drop j)) ⟨rfl, Fr.refl _ _, rfl⟩ (fun j s w' h => by rw [h.1]) ?_ ?_
  · rintro j s1 w1 K' hj ⟨rfl, f1, hf⟩ - hK
    obtain ⟨e, he⟩ : ∃ e, L[j]? = some e := ⟨_, List.getElem?_eq_getElem (by omega)⟩
    obtain ⟨r1, hr1, ha1, ha2⟩ := hE.get he
    obtain ⟨hid, hsm⟩ := hL e (List.mem_of_getElem? he)
    have hdrop : L.drop j = e :: L.drop (j + 1) := by
      obtain ⟨hl, hg⟩ := List.getElem?_eq_some_iff.1 he
      rw [List.drop_eq_getElem_cons hl, hg]
    rw [hdrop, formM] at hf
    rw [hf] at hk
    refine (hS.fr0 f1).get rfl rfl (by omega) fun y hy => ?_
    rw [hr1] at hy
    cases hy
    refine newI fun w2 B2 f2 s2 => stoAll B2 rfl rfl fun w3 B3 f3 s3 => fldI B3 (i := 0) (x := r1.1) rfl ?_
    have f13 : Fr None w1 w3 := f2.newer f3 fun k e => by omega
    have f03 := f1.then0 f13
    rw [ha1]
    refine condD (fun h => ?_) fun h => ?_
    · rw [if_pos h] at hk
      exact hk w3 f03
    rw [if_neg h] at hk hf
    refine fldI B3 (i := 0) (x := r1.1) rfl (aggI B3 (x := r1) rfl (spec_snap_one ha1 (ha2.fr0 f03) hsm hid fun w4 f4 => ?_))
    have f04 := f03.then0 f4
    refine condN (fun hne => ?_) fun heq => ?_
    · rw [if_pos hne] at hk
      exact hk w4 f04
    rw [if_neg (by omega)] at hk hf
    refine fldI (B3.fr f4 fun h => h) (i := 1) (x := r1.2) rfl (spec_snap_anySecret (ha2.fr0 f04) (Nat.le_trans hsm (by decide)) fun w5 f5 => ?_)
    have f05 := f04.then0 f5
    refine condI (fun h => ?_) fun h => ?_
    · rw [if_pos h] at hk
      exact hk w5 f05
    · rw [if_neg (by rw [h]; decide)] at hk hf
      have hlast : lastE L (j + 1) = e.1 := by
        show ((L[j]?).map (·.1)).getD 0 = e.1
        rw [he]; rfl
      refine hK _ _ ⟨?_, f05, by rw [hlast]; exact hf⟩
      rw [wsucc hj (by omega), hlast, ha1]
  · rintro s1 w1 ⟨rfl, f1, hf⟩
    rw [List.drop_of_length_le (by omega), formM] at hf
    have hk := hk w1 f1
    rw [hf] at hk
    exact hk

end Go.Proofs.YtchhhjlpnecjkaaGreat

namespace Go.Proofs.YtchhhjlpnecjkaaGreat
open Go Go.RowKit Go.Proofs.YtchhhjlpnecjkaaGreat.Den
variable {R : Type} {Q : R → World → Prop} {w : World}

def cmp3 (x y : Int) : Int := if x < y then -1 else if x > y then 1 else 0
theorem half {i j : Nat} (h : i + j ≤ 9223372036854775807) : IntKind.wrap .i64 (shR .u64 (IntKind.wrap .u64 (IntKind.wrap .i64 ((i : Int) + (j : Int)))) 1) = (((i + j) / 2 : Nat) : Int) := by
  have e : IntKind.wrap .u64 (IntKind.wrap .i64 ((i : Int) + (j : Int))) = ((i + j : Nat) : Int) := by
    rw [w64 (by omega), IntKind.wrap_u64]; omega
  rw [e, show (1 : Int) = ((1 : Nat) : Int) from rfl, shR_div (by omega) (by decide), Int.toNat_natCast, w64 (by omega)]

theorem spec_Compare_ID {x y : Int} {K : Res [.sc (.int .i64)] → W R} (hk : K (cmp3 x y) Q w) : callW Tryz.prog k_cmp_Compare_ID [.int .u32 x, .int .u32 y] [.sc (.int .i64)] K Q w := by
  refine C_cmp_Compare_ID _ _ K Q w ?_
  unfold F_cmp_Compare_ID
  refine C_cmp_isNaN_ID _ _ _ _ ?_
  unfold F_cmp_isNaN_ID
  refine C_cmp_isNaN_ID _ _ _ _ ?_
  unfold F_cmp_isNaN_ID
  unfold cmp3 at hk
  refine condF (by simp) (condF (by simp) (condD (fun h => ?_) fun h => condD (fun h2 => ?_) fun h2 => ?_))
  · rw [if_pos h] at hk; exact hk
  · rw [if_neg h, if_pos h2] at hk; exact hk
  · rw [if_neg h, if_neg h2] at hk; exact hk
theorem spec_snap_Find_c1 {r : Int × Sl} {id : Int} {K : Res [.sc (.int .i64)] → W R} (hk : ∀ w', Fr None w w' → K (cmp3 r.1 id) Q w') : callW Tryz.prog k_snap_Find_c1 [.agg ⟨[.int .u32 r.1, .slice r.2.a r.2.n r.2.c]⟩, .int .u32 id] [.sc (.int .i64)] K Q w := by
  refine C_snap_Find_c1 r _ K Q w ?_
  unfold F_snap_Find_c1
  exact newI fun w1 B1 f1 s1 => fldI B1 (i := 0) (x := r.1) rfl (spec_Compare_ID (hk w1 f1))

def findE (L : List Ent) (id : Int) : Int := match L.findIdx? (fun e => e.1 == id) with
  | some i => i
  | none => -1
theorem cmp3_lt {x y : Int} : cmp3 x y < 0 ↔ x < y := by
  unfold cmp3
  split
  · simp; assumption
  · split
    · simp; omega
    · simp; omega
theorem cmp3_0 {x y : Int} : cmp3 x y = 0 ↔ x = y := by
  unfold cmp3
  split
  · simp; omega
  · split
    · simp; omega
    · simp; omega
theorem ids_lt {L : List Ent} (hs : L.Pairwise fun a b => a.1 < b.1) {p q : Nat} {a b : Ent} (hpq : p < q) (ha : L[p]? = some a) (hb : L[q]? = some b) : a.1 < b.1 := by
  obtain ⟨h1, rfl⟩ := List.getElem?_eq_some_iff.1 ha
  obtain ⟨h2, rfl⟩ := List.getElem?_eq_some_iff.1 hb
  exact List.pairwise_iff_getElem.1 hs p q h1 h2 hpq
theorem findE_some {L : List Ent} (hs : L.Pairwise fun a b => a.1 < b.1) {i : Nat} {e : Ent} (he : L[i]? = some e) : findE L e.1 = (i : Int) := by
  have : L.findIdx? (fun x => x.1 == e.1) = some i := by
    rw [List.findIdx?_eq_some_iff_getElem]
    obtain ⟨hl, hg⟩ := List.getElem?_eq_some_iff.1 he
    refine ⟨hl, by rw [hg]; simp, fun q hq => ?_⟩
    have := ids_lt hs hq (List.getElem?_eq_getElem (by omega)) he
    simp; omega
  rw [findE, this]
theorem findE_none {L : List Ent} {id : Int} (h : ∀ (q : Nat) e, L[q]? = some e → e.1 ≠ id) : findE L id = -1 := by
  have : L.findIdx? (fun x => x.1 == id) = none := by
    rw [List.findIdx?_eq_none_iff]
    intro x hx
    obtain ⟨q, hq⟩ := List.mem_iff_getElem?.1 hx
    simpa using h q x hq
  rw [findE, this]
theorem spec_snap_Find {ok : Nat → Prop} {s : Sl} {raws : List (Int × Sl)} {L : List Ent} (hS : SlT ok w entT s raws) (hE : EntsR ok w raws L) (hs : L.Pairwise fun a b => a.1 < b.1) (hm : L.length ≤ 4611686018427387903) {id : Int} {K : Res [.sc (.int .i64)] → W R} (hk : ∀ w', Fr None w w' → K (findE L id) Q w') :
    callW Tryz.prog k_snap_Find [.slice s.a s.n s.c, .int .u32 id] [.sc (.int .i64)] K Q w := by
  refine C_snap_Find s _ K Q w ?_
  unfold F_snap_Find
  refine C_slices_BinarySearchFunc_Ent__snap_Find_c1 s _ _ _ w ?_
  unfold F_slices_BinarySearchFunc_Ent__snap_Find_c1
  have hlen := hS.len
  have hel := hE.len
  refine loopI (fun (st : Int × Int) w' => ∃ i j : Nat, st = ((i : Int), (j : Int)) ∧ i ≤ j ∧ j ≤ L.length ∧ (∀ (q : Nat) e, q < i → L[q]? = some e → e.1 < id) ∧ (∀ (q : Nat) e, j ≤ q → L[q]? = some e → id ≤ e.1) ∧ Fr None w w') (fun st _ => (st.2 - st.1).toNat)
    ⟨0, s.n, rfl, by omega, by omega, fun q e h => absurd h (by omega), fun q e h he => by have := (List.getElem?_eq_some_iff.1 he).1; omega, Fr.refl _ _⟩ ?_
  rintro st w1 ⟨i, j, rfl, hij, hj, hlo, hhi, f1⟩
  dsimp only
  rw [half (i := i) (j := j) (by omega)]
  refine condD (fun hlt => ?_) fun hge => ?_
  · have hlt : (i : Int) < j := hlt
    obtain ⟨h, hh⟩ : ∃ h, (i + j) / 2 = h := ⟨_, rfl⟩
    rw [hh]
    have h1 : i ≤ h := by omega
    have h2 : h < j := by omega
    obtain ⟨e, he⟩ : ∃ e, L[h]? = some e := ⟨_, List.getElem?_eq_getElem (by omega)⟩
    obtain ⟨r1, hr1, ha1, _⟩ := hE.get he
    refine (hS.fr0 f1).get (j := h) rfl rfl (by omega) fun y hy => ?_
    rw [hr1] at hy
    cases hy
    refine spec_snap_Find_c1 fun w2 f2 => ?_
    rw [ha1]
    refine joinI (fun (z : Int × Int) w' => z = (if e.1 < id then (((h + 1 : Nat) : Int), (j : Int)) else ((i : Int), (h : Int))) ∧ w' = w2) ?_ ?_
    · refine condD (fun hc => ⟨?_, rfl⟩) fun hc => ⟨?_, rfl⟩
      · rw [if_pos (cmp3_lt.1 hc), w64 (by omega)]; rfl
      · rw [if_neg fun hx => hc (cmp3_lt.2 hx)]
    rintro z w3 ⟨rfl, rfl⟩
    by_cases hc : e.1 < id
    · rw [if_pos hc]
      refine ⟨⟨h + 1, j, rfl, by omega, hj, fun q e' hq he' => ?_, hhi, f1.then0 f2⟩, by dsimp only; omega⟩
      rcases Nat.lt_succ_iff_lt_or_eq.1 hq with hq | rfl
      · have := ids_lt hs hq he' he; omega
      · rw [he] at he'; cases he'; exact hc
    · rw [if_neg hc]
      refine ⟨⟨i, h, rfl, h1, by omega, hlo, fun q e' hq he' => ?_, f1.then0 f2⟩, by dsimp only; omega⟩
      rcases Nat.lt_or_eq_of_le hq with hq | rfl
      · have := ids_lt hs hq he he'; omega
      · rw [he] at he'; cases he'; omega
  · have hge : ¬ (i : Int) < j := hge
    have : i = j := by omega
    subst this
    refine joinI (fun (z : Int × Bool) w' => z.1 = (i : Int) ∧ (if z.2 = true then z.1 else -1) = findE L id ∧ Fr None w w') ?_ ?_
    · refine condD (fun hin => ?_) fun hout => ?_
      · have hin : (i : Int) < s.n := hin
        obtain ⟨e, he⟩ : ∃ e, L[i]? = some e := ⟨_, List.getElem?_eq_getElem (by omega)⟩
        obtain ⟨r1, hr1, ha1, _⟩ := hE.get he
        refine (hS.fr0 f1).get (j := i) rfl rfl (by omega) fun y hy => ?_
        rw [hr1] at hy
        cases hy
        refine spec_snap_Find_c1 fun w2 f2 => ⟨rfl, ?_, f1.then0 f2⟩
        rw [ha1]
        by_cases hc : e.1 = id
        · subst hc
          have : (cmp3 e.1 e.1 == 0) = true := by simpa using cmp3_0.2 rfl
          dsimp only
          rw [if_pos this, findE_some hs he]
        · have : ¬ (cmp3 e.1 id == 0) = true := by simpa using fun x => hc (cmp3_0.1 x)
          dsimp only
          rw [if_neg this, findE_none fun q e' he' => ?_]
          rcases Nat.lt_trichotomy q i with h | h | h
          · have := hlo q e' h he'; omega
          · subst h; rw [he] at he'; cases he'; exact hc
          · have := ids_lt hs h he he'; have := hhi i e (Nat.le_refl _) he; omega
      · have hout : ¬ (i : Int) < s.n := hout
        refine ⟨rfl, ?_, f1⟩
        dsimp only
        rw [if_neg (by decide), findE_none fun q e' he' => ?_]
        have := hlo q e' (by have := (List.getElem?_eq_some_iff.1 he').1; omega) he'
        omega
    rintro ⟨z1, z2⟩ w2 ⟨h1, h2, f2⟩
    dsimp only at h1 h2
    cases z2 with
    | true =>
      rw [if_pos rfl] at h2
      subst h2
      exact hk w2 f2
    | false =>
      rw [if_neg (by decide)] at h2
      have := hk w2 f2
      rw [← h2] at this
      exact this

end Go.Proofs.YtchhhjlpnecjkaaGreat

namespace Go.Proofs.YtchhhjlpnecjkaaGreat
open Go Go.RowKit Go.Proofs.YtchhhjlpnecjkaaGreat.Den
variable {R : Type} {Q : R → World → Prop} {w : World}

def oldM (L : List Ent) (id k : Int) : Comp := match L.findIdx? (fun e => e.1 == id) with
  | some i => (((L[i]?).bind fun e => e.2.find? fun c => c.1 == k)).getD (0, 0, 0, 0)
  | none => (0, 0, 0, 0)
theorem spec_packet_old {ok : Nat → Prop} {s : Sl} {raws : List (Int × Sl)} {L : List Ent} (hS : SlT ok w entT s raws) (hE : EntsR ok w raws L) (hs : L.Pairwise fun a b => a.1 < b.1) (hm : L.length ≤ 4611686018427387903) (hL : ∀ e ∈ L, e.2.length ≤ 9223372036854775807) {id k : Int} {K : Res [.agg [.int .u8, .int .i32, .int .i32, .int .i32]] → W R} (hk : ∀ w', Fr None w w' → K (oldM L id k) Q w') :
    callW Tryz.prog k_packet_old [.slice s.a s.n s.c, .int .u32 id, .int .u8 k] [.agg [.int .u8, .int .i32, .int .i32, .int .i32]] K Q w := by
  refine C_packet_old s _ _ K Q w ?_
  unfold F_packet_old
  refine newI fun w1 B1 f1 s1 => spec_snap_Find (hS.fr0 f1) (hE.fr f1 fun _ _ h => h) hs hm fun w2 f2 => ?_
  have B2 := B1.fr f2 fun h => h
  have f02 := f1.then0 f2
  have hs2 := f02.size
  unfold oldM at hk
  unfold findE
  cases hf : L.findIdx? (fun e => e.1 == id) with
  | none =>
    rw [hf] at hk
    refine condT rfl (stoAll B2 rfl rfl fun w3 B3 f3 s3 => aggI B3 (x := ((0, 0, 0, 0) : Comp)) rfl ?_)
    exact hk w3 (f02.newer f3 fun k e => by omega)
  | some i =>
    rw [hf] at hk
    dsimp only at hk
    have hil : i < L.length := by
      rw [List.findIdx?_eq_some_iff_getElem] at hf
      exact hf.1
    obtain ⟨e, he⟩ : ∃ e, L[i]? = some e := ⟨_, List.getElem?_eq_getElem hil⟩
    obtain ⟨r1, hr1, ha1, ha2⟩ := hE.get he
    rw [he] at hk
    refine condF (decide_eq_false (by show ¬ ((i : Int) < 0); omega)) ?_
    refine (hS.fr0 f02).readK rfl rfl hr1 fun ad had => (had _ (hS.fr0 f02)).fld (i := 1) (s := .sl) (y := r1.2) rfl ?_
    have hcl := ha2.len
    have hle := hL e (List.mem_of_getElem? he)
    refine forI (N := r1.2.n) (fun s : Int => s) (fun j t v => t = (j : Int) ∧ Fr None w2 v ∧ (∀ (q : Nat) c, q < j → e.2[q]? = some c → c.1 ≠ k)) ⟨rfl, Fr.refl _ _, fun q c h => absurd h (by omega)⟩ (fun j s w' h => h.1) ?_ ?_
    · rintro j t v K' hj ⟨rfl, fv, hno⟩ - hK
      refine ((ha2.fr0 f02).fr0 fv).get rfl rfl (by omega) fun c hc => ?_
      refine newI fun v1 C1 g1 t1 => stoAll C1 rfl rfl fun v2 C2 g2 t2 => fldI C2 (i := 0) (x := c.1) rfl ?_
      have gv : Fr None v v2 := g1.newer g2 fun k e => by omega
      have hsv := (fv.then0 gv).size
      refine condE (fun h => ?_) fun h => ?_
      · refine aggI C2 (x := c) rfl (stoAll ((B2.fr fv fun h => h).fr gv fun h => h) rfl rfl fun v3 C3 g3 t3 => aggI C3 (x := c) rfl ?_)
        have hfd : e.2.find? (fun c => c.1 == k) = some c := by
          rw [List.find?_eq_some_iff_getElem]
          obtain ⟨hl, hg⟩ := List.getElem?_eq_some_iff.1 hc
          refine ⟨by simpa using h, j, hl, hg, fun q hq => ?_⟩
          have := hno q _ hq (List.getElem?_eq_getElem (by omega))
          simpa using this
        have := hk v3 (((f02.then0 fv).then0 gv).newer g3 fun k e => by omega)
        simp only [Option.bind_some, hfd, Option.getD_some] at this
        exact this
      · refine hK _ _ ⟨wsucc hj (by omega), fv.then0 gv, fun q c' hq hc' => ?_⟩
        rcases Nat.lt_succ_iff_lt_or_eq.1 hq with h1 | h1
        · exact hno q c' h1 hc'
        · subst h1; rw [hc] at hc'; cases hc'; exact h
    · rintro t v ⟨_, fv, hno⟩
      have hfd : e.2.find? (fun c => c.1 == k) = none := by
        rw [List.find?_eq_none]
        intro x hx
        obtain ⟨q, hq⟩ := List.mem_iff_getElem?.1 hx
        have := hno q x (by have := (List.getElem?_eq_some_iff.1 hq).1; omega) hq
        simpa using this
      have hsv := fv.size
      refine stoAll (B2.fr fv fun h => h) rfl rfl fun v3 C3 g3 t3 => aggI C3 (x := ((0, 0, 0, 0) : Comp)) rfl ?_
      have := hk v3 ((f02.then0 fv).newer g3 fun k e => by omega)
      simp only [Option.bind_some, hfd, Option.getD_none] at this
      exact this

end Go.Proofs.YtchhhjlpnecjkaaGreat
