/-
  PacketApart: its Go text answers true, whatever the input of bulk at most 1048576.
-/
import Derived.Test.YtchhhjlpnecjkaaGreatL20
import Derived.Test.YtchhhjlpnecjkaaGreatApt
import Derived.Test.YtchhhjlpnecjkaaGreatArg0
import Derived.JoinedCond
namespace Go.Proofs.YtchhhjlpnecjkaaGreat
open Go Go.RowKit Go.ChangeShapes Go.WideShapes Go.ChangeAt Go.Proofs.YtchhhjlpnecjkaaGreat.Den
variable {R : Type} {Q : R → World → Prop} {w : World} {H : Type} {enc : TypeId × Value → H}

theorem spec_r10_SameEnts {ok ok2 : Nat → Prop} {s s2 : Sl} {raws raws2 : List (Int × Sl)} {L L2 : List Ent} (hS : SlT ok w entT s raws) (hE : EntsR ok w raws L) (hS2 : SlT ok2 w entT s2 raws2) (hE2 : EntsR ok2 w raws2 L2) (hm : L.length ≤ 1048576) (hL : ∀ e ∈ L, Small e.2) {K : Res [.sc .bool] → W R} (hk : ∀ w', Fr None w w' → K (decide (L = L2)) Q w') :
    callW Tryz.prog k_pinnaceref10_SameEnts [.slice s.a s.n s.c, .slice s2.a s2.n s2.c] [.sc .bool] K Q w := by
  refine C_pinnaceref10_SameEnts s s2 K Q w ?_
  unfold F_pinnaceref10_SameEnts
  have h1 := hS.len.trans hE.len
  have h2 := hS2.len.trans hE2.len
  refine condN (fun hne => ?_) fun heq => ?_
  · have e := hk w (Fr.refl _ _)
    rw [decide_eq_false (fun e => hne (by rw [h1, h2, e]))] at e
    exact e
  · refine forI (N := s.n) (fun s : Int => s) (fun j s w' => s = j ∧ Fr None w w' ∧ L.take j = L2.take j) ⟨rfl, Fr.refl _ _, rfl⟩ (fun j s w' h => h.1) ?_ ?_
    · rintro j i w1 K' hj ⟨rfl, f1, ht⟩ - hK
      have f1d := f1.drew
      obtain ⟨x, hx⟩ : ∃ x, L[j]? = some x := ⟨_, List.getElem?_eq_getElem (by omega)⟩
      obtain ⟨y, hy⟩ : ∃ y, L2[j]? = some y := ⟨_, List.getElem?_eq_getElem (by omega)⟩
      obtain ⟨r, hr, a1, a2⟩ := hE.get hx
      obtain ⟨q, hq, b1, b2⟩ := hE2.get hy
      refine (hS.fr0 f1d).get rfl rfl (by have := hE.len; omega) fun z hz => ?_
      rw [hr] at hz; cases hz
      refine (hS2.fr0 f1d).get rfl rfl (by have := hE2.len; omega) fun z hz => ?_
      rw [hq] at hz; cases hz
      refine spec_r10_SameEnt (id := r.1) (s := r.2) (id2 := q.1) (s2 := q.2) (a2.fr0 f1d) (b2.fr0 f1d) (hL x (List.mem_of_getElem? hx)) fun w2 f2 => ?_
      have f02 := f1d.then0 f2
      refine condI (fun hb => ?_) fun hb => ?_
      · have e := hk _ f02
        rw [decide_eq_false (fun e => by
          subst e; rw [hx] at hy; cases hy
          simp [a1, b1] at hb)] at e
        exact e
      · have hxy : x = y := by
          have : r.1 = q.1 ∧ x.2 = y.2 := by simpa using hb
          exact Prod.ext (by rw [← a1, ← b1]; exact this.1) this.2
        subst hxy
        exact hK _ _ ⟨wsucc hj (by omega), f02, by rw [take_at hx, take_at hy, ht]⟩
    · rintro i w1 ⟨rfl, f1, ht⟩
      have e := hk _ f1
      have heq : (s.n : Int) = (s2.n : Int) := heq
      rw [List.take_of_length_le (by omega), List.take_of_length_le (by omega)] at ht
      rw [decide_eq_true ht] at e
      exact e

/-! ### heads -/
theorem head_eq {x y : Head} : (x.1 == y.1 && (x.2.1 == y.2.1 && (x.2.2.1 == y.2.2.1 && (x.2.2.2.1 == y.2.2.2.1 && (x.2.2.2.2 == y.2.2.2.2 && true))))) = decide (x = y) := by
  rw [Bool.eq_iff_iff]
  simp [Prod.ext_iff]
abbrev headC (x : Head) : List Value := [.int .u8 x.1, .int .u8 x.2.1, .int .u32 x.2.2.1, .int .u32 x.2.2.2.1, .int .u32 x.2.2.2.2]
theorem eqV_head (x y : Head) : eqV Tryz.prog 9 30 (.agg ⟨headC x⟩) (.agg ⟨headC y⟩) = some (decide (x = y)) := by
  rw [← head_eq]
  kernel_rfl
theorem eqG_head : Tryz.prog.eqGuardType Tryz.prog.depth 30 = false := by kernel_rfl
theorem head_arg : AggArg Tryz.prog 30 [.int .u8, .int .u8, .int .u32, .int .u32, .int .u32] [5, 5, 28, 28, 28] := ⟨by kernel_rfl, by kernel_rfl, by kernel_rfl⟩
theorem head_in {x : Head} (h : AllLeaf enc Tryz.prog w [5, 5, 28, 28, 28] (headC x)) : HeadOk x := by
  obtain ⟨_, h⟩ := h
  obtain ⟨_, e, h0⟩ := (h 0 _ _ rfl rfl).int u8_und
  cases e
  obtain ⟨_, e, h1⟩ := (h 1 _ _ rfl rfl).int u8_und
  cases e
  obtain ⟨_, e, h2⟩ := (h 2 _ _ rfl rfl).int u32_und
  cases e
  obtain ⟨_, e, h3⟩ := (h 3 _ _ rfl rfl).int u32_und
  cases e
  obtain ⟨_, e, h4⟩ := (h 4 _ _ rfl rfl).int u32_und
  cases e
  exact ⟨wf_u8 h0, wf_u8 h1, wf_u32 h2, wf_u32 h3, wf_u32 h4⟩

/-! ### so many -/
theorem EntIn.fit {W : World} {raws : List (Int × Sl)} {L : List Ent} (h : All2 (EntIn W) raws L) (hb : (raws.map fun r => r.2.n + 1).sum ≤ 1048576) : L.length ≤ 1048576 ∧ ∀ e ∈ L, EntFit e := by
  have h1 : ∀ (l : List (Int × Sl)), l.length ≤ (l.map fun r => r.2.n + 1).sum := by
    intro l
    induction l with
    | nil => simp
    | cons a r ih => simp only [List.length_cons, List.map_cons, List.sum_cons]; omega
  have h2 : ∀ (l : List (Int × Sl)) r, r ∈ l → r.2.n ≤ (l.map fun r => r.2.n + 1).sum := by
    intro l
    induction l with
    | nil => intro r h; cases h
    | cons a q ih =>
      intro r hr
      simp only [List.map_cons, List.sum_cons]
      rcases List.mem_cons.1 hr with rfl | hr
      · omega
      · have := ih r hr; omega
  refine ⟨by have := h1 raws; have := h.len; omega, fun e he => ?_⟩
  obtain ⟨i, hi⟩ := List.mem_iff_getElem?.1 he
  obtain ⟨r, hr, hin⟩ := h.get hi
  have := h2 raws r (List.mem_of_getElem? hr)
  have := hin.sl.len
  exact ⟨hin.ok, by omega, hin.comps⟩

theorem spec_packet_Seal1 {ok1 ok2 : Nat → Prop} {h : Head} (hok : HeadOk h) {s1 s2 : Sl} {raws1 raws2 : List (Int × Sl)} {was now : List Ent} (hS1 : SlT ok1 w entT s1 raws1) (hE1 : EntsR ok1 w raws1 was) (hS2 : SlT ok2 w entT s2 raws2) (hE2 : EntsR ok2 w raws2 now)
    (hm1 : was.length ≤ 1048576) (hm2 : now.length ≤ 1048576) (hL1 : ∀ e ∈ was, EntFit e) (hL2 : ∀ e ∈ now, EntFit e) {K : Res [.sc .sl, .sc (.int .i64)] → W R}
    (hk : ∀ r w', (sealE h was now = 0 → Own (Up w.heap.size) w' 5 u8T r (sealB h was now)) → Fr None w w' → K (r, sealE h was now) Q w') :
    callW Tryz.prog k_packet_Seal [.agg ⟨[.int .u8 h.1, .int .u8 h.2.1, .int .u32 h.2.2.1, .int .u32 h.2.2.2.1, .int .u32 h.2.2.2.2]⟩, .slice s1.a s1.n s1.c, .slice s2.a s2.n s2.c] [.sc .sl, .sc (.int .i64)] K Q w :=
  spec_packet_Seal hok hS1 hE1 hS2 hE2 hm1 hm2 hL1 hL2 (fun hne w' f => hk _ w' (fun h0 => absurd h0 hne) f) fun h0 r w' o f => by
    have := hk r w' (fun _ => o) f
    rw [h0] at this
    exact this
/-! ### the row -/
end Go.Proofs.YtchhhjlpnecjkaaGreat
