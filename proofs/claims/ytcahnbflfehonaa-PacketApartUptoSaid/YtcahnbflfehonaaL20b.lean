/-
  PacketApart: its Go text answers true, whatever the input of bulk at most 1048576.
-/
import Derived.Test.YtcahnbflfehonaaL20
import Derived.Test.YtcahnbflfehonaaApt
import Derived.Test.YtcahnbflfehonaaBulk
import Derived.JoinedCond
namespace Go.Proofs.Ytcahnbflfehonaa
open Go Go.RowKit Go.ChangeShapes Go.WideShapes Go.ChangeAt Go.Proofs.Ytcahnbflfehonaa.Den
variable {R : Type} {Q : R → World → Prop} {w : World} {H : Type} {enc : TypeId × Value → H}

theorem spec_r10_SameEnts {ok ok2 : Nat → Prop} {s s2 : Sl} {raws raws2 : List (Int × Sl)} {L L2 : List Ent} (hS : SlT ok w entT s raws) (hE : EntsR ok w raws L) (hS2 : SlT ok2 w entT s2 raws2) (hE2 : EntsR ok2 w raws2 L2) (hm : L.length ≤ 1048576) (hL : ∀ e ∈ L, Small e.2) {K : Res [.sc .bool] → W R} (hk : ∀ w', Fr None w w' → K (decide (L = L2)) Q w') :
    callW Try.prog k_pinnaceref10_SameEnts [.slice s.a s.n s.c, .slice s2.a s2.n s2.c] [.sc .bool] K Q w := by
  refine C_pinnaceref10_SameEnts s s2 K Q w ?_
  unfold F_pinnaceref10_SameEnts
  have h1 := hS.len.trans hE.len
  have h2 := hS2.len.trans hE2.len
  refine condN (fun hne => ?_) fun heq => ?_
  · have e := hk w (Fr.refl _ _)
    rw [decide_eq_false (fun e => hne (by rw [h1, h2, e]))] at e
    exact e
  · refine forI (N := s.n) (fun s : Int => s) (fun j s w' => s = j ∧ Fr None w w' ∧ L.take j = L2.take j) ⟨rfl, Fr.refl _ _, rfl⟩ (fun j s w' h => h.1) ?_ ?_
    · rintro j i w1 K' hj ⟨rfl, f1, ht⟩ - hK
      have f1d := f1.drew
      obtain ⟨x, hx⟩ : ∃ x, L[j]? = some x := ⟨_, List.getElem?_eq_getElem (by omega)⟩
      obtain ⟨y, hy⟩ : ∃ y, L2[j]? = some y := ⟨_, List.getElem?_eq_getElem (by omega)⟩
      obtain ⟨r, hr, a1, a2⟩ := hE.get hx
      obtain ⟨q, hq, b1, b2⟩ := hE2.get hy
      refine (hS.fr0 f1d).get rfl rfl (by have := hE.len; omega) fun z hz => ?_
      rw [hr] at hz; cases hz
      refine (hS2.fr0 f1d).get rfl rfl (by have := hE2.len; omega) fun z hz => ?_
      rw [hq] at hz; cases hz
      refine spec_r10_SameEnt (id := r.1) (s := r.2) (id2 := q.1) (s2 := q.2) (a2.fr0 f1d) (b2.fr0 f1d) (hL x (List.mem_of_getElem? hx)) fun w2 f2 => ?_
      have f02 := f1d.then0 f2
      refine condI (fun hb => ?_) fun hb => ?_
      · have e := hk _ f02
        rw [decide_eq_false (fun e => by
          subst e; rw [hx] at hy; cases hy
          simp [a1, b1] at hb)] at e
        exact e
      · have hxy : x = y := by
          have : r.1 = q.1 ∧ x.2 = y.2 := by simpa using hb
          exact Prod.ext (by rw [← a1, ← b1]; exact this.1) this.2
        subst hxy
        exact hK _ _ ⟨wsucc hj (by omega), f02, by rw [take_at hx, take_at hy, ht]⟩
    · rintro i w1 ⟨rfl, f1, ht⟩
      have e := hk _ f1
      have heq : (s.n : Int) = (s2.n : Int) := heq
      rw [List.take_of_length_le (by omega), List.take_of_length_le (by omega)] at ht
      rw [decide_eq_true ht] at e
      exact e

/-! ### heads -/
theorem head_eq {x y : Head} : (x.1 == y.1 && (x.2.1 == y.2.1 && (x.2.2.1 == y.2.2.1 && (x.2.2.2.1 == y.2.2.2.1 && (x.2.2.2.2 == y.2.2.2.2 && true))))) = decide (x = y) := by
  rw [Bool.eq_iff_iff]
  simp [Prod.ext_iff]
abbrev headC (x : Head) : List Value := [.int .u8 x.1, .int .u8 x.2.1, .int .u32 x.2.2.1, .int .u32 x.2.2.2.1, .int .u32 x.2.2.2.2]
theorem eqV_head (x y : Head) : eqV Try.prog 9 28 (.agg ⟨headC x⟩) (.agg ⟨headC y⟩) = some (decide (x = y)) := by
  rw [← head_eq]
  kernel_rfl
theorem eqG_head : Try.prog.eqGuardType Try.prog.depth 28 = false := by kernel_rfl
theorem head_arg : AggArg Try.prog 28 [.int .u8, .int .u8, .int .u32, .int .u32, .int .u32] [5, 5, 23, 23, 23] := ⟨by kernel_rfl, by kernel_rfl, by kernel_rfl⟩
theorem head_in {x : Head} (h : AllLeaf enc Try.prog w [5, 5, 23, 23, 23] (headC x)) : HeadOk x := by
  obtain ⟨_, h⟩ := h
  obtain ⟨_, e, h0⟩ := (h 0 _ _ rfl rfl).int u8_und
  cases e
  obtain ⟨_, e, h1⟩ := (h 1 _ _ rfl rfl).int u8_und
  cases e
  obtain ⟨_, e, h2⟩ := (h 2 _ _ rfl rfl).int u32_und
  cases e
  obtain ⟨_, e, h3⟩ := (h 3 _ _ rfl rfl).int u32_und
  cases e
  obtain ⟨_, e, h4⟩ := (h 4 _ _ rfl rfl).int u32_und
  cases e
  exact ⟨wf_u8 h0, wf_u8 h1, wf_u32 h2, wf_u32 h3, wf_u32 h4⟩

/-! ### so many -/
theorem EntIn.fit {W : World} {raws : List (Int × Sl)} {L : List Ent} (h : All2 (EntIn W) raws L) (hb : (raws.map fun r => r.2.n + 1).sum ≤ 1048576) : L.length ≤ 1048576 ∧ ∀ e ∈ L, EntFit e := by
  have h1 : ∀ (l : List (Int × Sl)), l.length ≤ (l.map fun r => r.2.n + 1).sum := by
    intro l
    induction l with
    | nil => simp
    | cons a r ih => simp only [List.length_cons, List.map_cons, List.sum_cons]; omega
  have h2 : ∀ (l : List (Int × Sl)) r, r ∈ l → r.2.n ≤ (l.map fun r => r.2.n + 1).sum := by
    intro l
    induction l with
    | nil => intro r h; cases h
    | cons a q ih =>
      intro r hr
      simp only [List.map_cons, List.sum_cons]
      rcases List.mem_cons.1 hr with rfl | hr
      · omega
      · have := ih r hr; omega
  refine ⟨by have := h1 raws; have := h.len; omega, fun e he => ?_⟩
  obtain ⟨i, hi⟩ := List.mem_iff_getElem?.1 he
  obtain ⟨r, hr, hin⟩ := h.get hi
  have := h2 raws r (List.mem_of_getElem? hr)
  have := hin.sl.len
  exact ⟨hin.ok, by omega, hin.comps⟩

theorem spec_packet_Seal1 {ok1 ok2 : Nat → Prop} {h : Head} (hok : HeadOk h) {s1 s2 : Sl} {raws1 raws2 : List (Int × Sl)} {was now : List Ent} (hS1 : SlT ok1 w entT s1 raws1) (hE1 : EntsR ok1 w raws1 was) (hS2 : SlT ok2 w entT s2 raws2) (hE2 : EntsR ok2 w raws2 now)
    (hm1 : was.length ≤ 1048576) (hm2 : now.length ≤ 1048576) (hL1 : ∀ e ∈ was, EntFit e) (hL2 : ∀ e ∈ now, EntFit e) {K : Res [.sc .sl, .sc (.int .i64)] → W R}
    (hk : ∀ r w', (sealE h was now = 0 → Own (Up w.heap.size) w' 5 u8T r (sealB h was now)) → Fr None w w' → K (r, sealE h was now) Q w') :
    callW Try.prog k_packet_Seal [.agg ⟨[.int .u8 h.1, .int .u8 h.2.1, .int .u32 h.2.2.1, .int .u32 h.2.2.2.1, .int .u32 h.2.2.2.2]⟩, .slice s1.a s1.n s1.c, .slice s2.a s2.n s2.c] [.sc .sl, .sc (.int .i64)] K Q w :=
  spec_packet_Seal hok hS1 hE1 hS2 hE2 hm1 hm2 hL1 hL2 (fun hne w' f => hk _ w' (fun h0 => absurd h0 hne) f) fun h0 r w' o f => by
    have := hk r w' (fun _ => o) f
    rw [h0] at this
    exact this
theorem law_PacketApart {W : World} {a b : Head} (ha : HeadOk a) (hb : HeadOk b) {s1 s2 s3 : Sl} {raws1 raws2 raws3 : List (Int × Sl)} {was x y : List Ent}
    (hS1 : SlT (Old W) W entT s1 raws1) (hE1 : All2 (EntIn W) raws1 was) (_c1 : s1.c ≤ maxLen) (hm1 : (raws1.map fun r => r.2.n + 1).sum ≤ 1048576)
    (hS2 : SlT (Old W) W entT s2 raws2) (hE2 : All2 (EntIn W) raws2 x) (_c2 : s2.c ≤ maxLen) (hm2 : (raws2.map fun r => r.2.n + 1).sum ≤ 1048576)
    (hS3 : SlT (Old W) W entT s3 raws3) (hE3 : All2 (EntIn W) raws3 y) (_c3 : s3.c ≤ maxLen) (hm3 : (raws3.map fun r => r.2.n + 1).sum ≤ 1048576) :
    Calls Try.prog 4 #[.agg ⟨headC a⟩, .agg ⟨headC b⟩, .slice s1.a s1.n s1.c, .slice s2.a s2.n s2.c, .slice s3.a s3.n s3.c] W (fun e w' => e = .returned (.bool true) ∧ Fr None W w') := by
  refine calls_of (C_pinnacelaw20_PacketApart a b s1 s2 s3 _ _ W ?_)
  unfold F_pinnacelaw20_PacketApart
  obtain ⟨n1, t1⟩ := EntIn.fit hE1 hm1
  obtain ⟨n2, t2⟩ := EntIn.fit hE2 hm2
  obtain ⟨n3, t3⟩ := EntIn.fit hE3 hm3
  have sm : ∀ {L : List Ent}, (∀ e ∈ L, EntFit e) → ∀ e ∈ L, Small e.2 := fun h e he => (h e he).2.1
  refine newI fun w1 Ba f1 z1 => newI fun w2 Bb f2 z2 => ?_
  have Ba := Ba.fr f2 fun h => h
  have f02 := f1.then0 f2
  refine spec_l20_awake fun w3 f3 => condF rfl ?_
  have f03 := f02.then0 f3
  refine joinI (fun _ v => Fr None w2 v) ?_ ?_
  · refine C_pinnacelaw20_few s2 s3 _ _ _ ?_
    unfold F_pinnacelaw20_few
    refine joinI (fun _ v => Fr None w2 v) ?_ ?_
    · refine spec_r18_Few (hS2.fr0 f03) (EntIn.later hE2 f03) (by omega) fun w4 f4 => ?_
      have f04 := f03.then0 f4
      refine condI (fun _ => ?_) fun _ => f3.then0 f4
      exact spec_r18_Few (hS3.fr0 f04) (EntIn.later hE3 f04) (by omega) fun w5 f5 => (f3.then0 f4).then0 f5
    · rintro z v fv
      have f0v := f02.then0 fv
      refine condI (fun _ => fv) fun _ => ?_
      exact spec_r18_Few (hS1.fr0 f0v) (EntIn.later hE1 f0v) (by omega) fun w5 f5 => fv.then0 f5
  rintro z v fv
  have f0v := f02.then0 fv
  refine condI (fun _ => ⟨rfl, f0v⟩) fun _ => ?_
  have rd : ∀ {u : World} {bk : Nat} {h : Head}, Blk u bk 28 (headC h) → Rd u ⟨bk, 0, none⟩ (.agg [.int .u8, .int .u8, .int .u32, .int .u32, .int .u32]) h := fun B => fun j u hj => by
    rw [add_lit, B.cell, Nat.zero_add]
    exact hj
  -- one packet
  have fd : Fr None v v.drew := (Fr.refl _ _).drew
  have g0 := fv.then0 fd
  have g0' := f0v.then0 fd
  refine aggI (Ba.fr g0 fun h => h) (x := a) rfl ?_
  refine spec_r10_Twins (hS1.fr0 g0') (EntIn.later hE1 g0') n1 (sm t1) fun r1 q1 w4 o4 E4 f4 => ?_
  have g4 := g0.then0 f4
  have g4' := g0'.then0 f4
  refine andI (rd (Ba.fr g4 fun h => h)) ?_
  refine spec_r10_Twins (hS2.fr0 g4') (EntIn.later hE2 g4') n2 (sm t2) fun r2 q2 w5 o5 E5 f5 => ?_
  have g5 := g4.then0 f5
  have g5' := g4'.then0 f5
  refine andI (rd (Ba.fr g5 fun h => h)) ?_
  refine spec_packet_Seal1 ha (o4.none f5).sl (E4.fr f5 fun _ _ h => h) o5.sl E5 n1 n2 t1 t2 fun p w6 op f6 => ?_
  have g6 := g5.then0 f6
  have g6' := g5'.then0 f6
  -- the other one
  have fd6 : Fr None w6 w6.drew := (Fr.refl _ _).drew
  have k0 := g6.then0 fd6
  have k0' := g6'.then0 fd6
  refine aggI (Bb.fr k0 fun h => h) (x := b) rfl ?_
  refine spec_r10_Twins (hS1.fr0 k0') (EntIn.later hE1 k0') n1 (sm t1) fun r3 q3 w7 o7 E7 f7 => ?_
  have k7 := k0.then0 f7
  have k7' := k0'.then0 f7
  refine andI (rd (Bb.fr k7 fun h => h)) ?_
  refine spec_r10_Twins (hS3.fr0 k7') (EntIn.later hE3 k7') n3 (sm t3) fun r4 q4 w8 o8 E8 f8 => ?_
  have k8 := k7.then0 f8
  have k8' := k7'.then0 f8
  refine andI (rd (Bb.fr k8 fun h => h)) ?_
  refine spec_packet_Seal1 hb (o7.none f8).sl (E7.fr f8 fun _ _ h => h) o8.sl E8 n1 n3 t1 t3 fun q w9 oq f9 => ?_
  have k9 := k8.then0 f9
  have k9' := k8'.then0 f9
  refine joinI (fun z u => (z = false → sealE a was x = 0 ∧ sealE b was y = 0) ∧ w9 = u) ?_ ?_
  · refine condN (fun _ => ⟨fun h => (by cases h), rfl⟩) fun h0 => ⟨fun h => ⟨h0, by simpa using h⟩, rfl⟩
  rintro z u ⟨hz, rfl⟩
  refine condI (fun _ => ⟨rfl, k9'⟩) fun hzf => ?_
  obtain ⟨e1, e2⟩ := hz hzf
  have op := op e1
  have oq := oq e2
  have f69 : Fr None w6 w9 := ((fd6.then0 f7).then0 f8).then0 f9
  have op := op.none f69
  have key : decide (sealB a was x = sealB b was y) = (decide (a = b) && decide (x = y)) := by
    by_cases h : sealB a was x = sealB b was y
    · obtain ⟨h1, h2⟩ := seal_inj ha hb n1 n2 n3 t1 t2 t3 e1 e2 h
      rw [decide_eq_true h, decide_eq_true h1, decide_eq_true h2]
      rfl
    · rw [decide_eq_false h]
      by_cases h1 : a = b
      · by_cases h2 : x = y
        · subst h1; subst h2; exact absurd rfl h
        · rw [decide_eq_false h2]; simp
      · rw [decide_eq_false h1]; simp
  have bo1 : BytesOk (sealB a was x) := sealF_ok (packM_ok _)
  have bo2 : BytesOk (sealB b was y) := sealF_ok (packM_ok _)
  refine joinI (fun z v => z = true ∧ Fr None W v) ?_ fun z v ⟨hz, f⟩ => by subst hz; exact ⟨rfl, f⟩
  have fd9 : Fr None w9 w9.drew := (Fr.refl _ _).drew
  have m0 := k9.then0 fd9
  have m0' := k9'.then0 fd9
  have Ba9 := Ba.fr m0 fun h => h
  have Bb9 := Bb.fr m0 fun h => h
  have fin : ∀ (X : Bool), X = decide (a = b) → (cond X (callW Try.prog k_pinnaceref10_SameEnts [.slice s2.a s2.n s2.c, .slice s3.a s3.n s3.c] [.sc .bool] fun (x_23 : Bool) => fun (_ : Bool → World → Prop) v => (decide (sealB a was x = sealB b was y) == x_23) = true ∧ Fr None W v)
      (fun (_ : Bool → World → Prop) v => (decide (sealB a was x = sealB b was y) == false) = true ∧ Fr None W v)) (fun z v => z = true ∧ Fr None W v) w9.drew := by
    intro X hX
    subst hX
    rw [key]
    by_cases h : a = b
    · refine condT (decide_eq_true h) ?_
      refine spec_r10_SameEnts (hS2.fr0 m0') (EntIn.later hE2 m0') (hS3.fr0 m0') (EntIn.later hE3 m0') n2 (sm t2) fun w10 f10 => ⟨?_, m0'.then0 f10⟩
      rw [decide_eq_true h]
      simp
    · refine condF (decide_eq_false h) ⟨?_, m0'⟩
      rw [decide_eq_false h]
      rfl
  refine bothI ?_ ?_
  · refine aggI Ba9 (x := a) rfl (aggI Bb9 (x := b) rfl ?_)
    refine spec_r1_Same (op.none fd9).sl (oq.none fd9).sl bo1 bo2 ?_
    refine andI (rd Bb9) (andI (rd Ba9) (eqlI eqG_head (eqV_head a b) ?_))
    exact fin _ rfl
  · refine aggI Ba9 (x := a) rfl (aggI Bb9 (x := b) rfl ?_)
    refine eqlI eqG_head (eqV_head a b) ?_
    refine spec_r1_Same (op.none fd9).sl (oq.none fd9).sl bo1 bo2 ?_
    refine andI (rd Bb9) (andI (rd Ba9) ?_)
    exact fin _ rfl

/-! ### the row -/
set_option maxRecDepth 100000 in
theorem packetApart_lifted (os : Os) (started : os.Started) (H : Type) (enc : TypeId × Value → H) (F : Stop.Interp) :
    ReturnsInHanded {} Try.checked os 4 .any ((Rows.OpenSpec.upto Rows.packetApartSpec).pre6 enc Try.prog Try.f4 Rows.packetApartUptoRow.domain false) (((Rows.OpenSpec.upto Rows.packetApartSpec).at F).post enc Try.prog Try.f4 false true false false) := by
  refine returnsInHanded_of_cond (C := Try.checked) (s := Rows.OpenSpec.upto Rows.packetApartSpec) (k := Rows.uptoSmall) rfl own_knob started (by kernel_rfl) Try.func4
    (OpenSpec.witness (enc := enc) (C := Try.checked) (s := Rows.OpenSpec.upto Rows.packetApartSpec) (k := Rows.uptoSmall) rfl false ⟨#[], #[.agg #[.int .u8 0, .int .u8 0, .int .u32 0, .int .u32 0, .int .u32 0], .agg #[.int .u8 0, .int .u8 0, .int .u32 0, .int .u32 0, .int .u32 0], .slice none 0 0, .slice none 0 0, .slice none 0 0], []⟩ 8 (by kernel_rfl) (by kernel_rfl) (by kernel_rfl)
      (x := ([.agg [.lit (.int .u8 0), .lit (.int .u8 0), .lit (.int .u32 0), .lit (.int .u32 0), .lit (.int .u32 0)], .agg [.lit (.int .u8 0), .lit (.int .u8 0), .lit (.int .u32 0), .lit (.int .u32 0), .lit (.int .u32 0)], .nil, .nil, .nil], [], [])) (by kernel_rfl) rfl (by kernel_rfl)) ?_
  intro W base args ds gs before hval0 hW _ hk _
  have hval : ∀ (j : Nat) t v, Try.f4.params[j]? = some t → args[j]? = some v → Value.okWide Try.prog W .any base t v := hval0
  have hW' := hW
  obtain ⟨p, q, hA0, hV, rfl, hfz, hnd⟩ := hW
  have hA : DataW.TrodAll enc Try.prog W 0 (fun _ => true) true Try.f4.params.toList args.toList ds p := hA0
  rw [Try.params4] at hA hval
  obtain ⟨v0, v1, v2, v3, v4, d0, d1, d2, d3, d4, p0, p1, p2, p3, p4, rfl, rfl, rfl, h0, h1, h2, h3, h4⟩ := trodAll_five hA
  have hb : Rows.uptoBulkAll ([d0, d1, d2, d3, d4] ++ gs) ≤ 1048576 := of_decide_eq_true hk
  simp only [List.cons_append, Rows.uptoBulkAll] at hb
  obtain ⟨x0, rfl, e0⟩ := arg_agg head_arg (hval 0 _ v0 rfl rfl) h0
  obtain ⟨x1, rfl, e1⟩ := arg_agg head_arg (hval 1 _ v1 rfl rfl) h1
  obtain ⟨s2, l2, rfl, S2, c2, e2⟩ := arg_slice ents_arg (hval 2 _ v2 rfl rfl) h2
  obtain ⟨L2, O2⟩ := ents_in fun r hr => e2 r hr
  obtain ⟨s3, l3, rfl, S3, c3, e3⟩ := arg_slice ents_arg (hval 3 _ v3 rfl rfl) h3
  obtain ⟨L3, O3⟩ := ents_in fun r hr => e3 r hr
  obtain ⟨s4, l4, rfl, S4, c4, e4⟩ := arg_slice ents_arg (hval 4 _ v4 rfl rfl) h4
  obtain ⟨L4, O4⟩ := ents_in fun r hr => e4 r hr
  have b2 := (ents_bulk h2 rfl S2)
  have b2k : Rows.uptoBulk d2 ≤ 1048576 := by omega
  have b3 := (ents_bulk h3 rfl S3)
  have b3k : Rows.uptoBulk d3 ≤ 1048576 := by omega
  have b4 := (ents_bulk h4 rfl S4)
  have b4k : Rows.uptoBulk d4 ≤ 1048576 := by omega
  refine (law_PacketApart (head_in e0) (head_in e1) S2 O2 c2 (Nat.le_trans b2 b2k) S3 O3 c3 (Nat.le_trans b3 b3k) S4 O4 c4 (Nat.le_trans b4 b4k)).mono fun e W' ⟨he, hf⟩ => ?_
  subst he
  exact ⟨_, rfl, law_post (s := Rows.packetApartSpec) laid_out bool_und (by kernel_rfl) (by rw [Try.params4]; decide +kernel) rfl ⟨rfl, rfl, rfl⟩ hW' hf⟩

set_option maxHeartbeats 4000000 in
theorem packetApart_holds : Rows.PacketApartUptoSaid :=
  OpenClaim.holds_of_cond 4 Try.f4 rfl rfl rfl rfl rfl rfl rfl ⟨rfl, rfl, rfl, rfl, rfl⟩ rfl rfl rfl rfl rfl (by kernel_rfl) Try.func4
    (by unfold joinedFacts; repeat' (with_reducible refine band ?_ ?_)
        all_goals first | with_reducible exact laid_out | with_reducible exact maps_rowed | with_reducible exact may_enter | (as_aux_lemma => kernel_rfl))
    (of_decide_eq_true (by kernel_rfl)) (by unfold Func.isWrapper; first | (rw [if_pos (by decide +kernel)]; kernel_rfl) | (rw [if_neg (by decide +kernel)]; exact ⟨rfl, rfl⟩))
    (fun os started H enc _ F => packetApart_lifted os started H enc F)

end Go.Proofs.Ytcahnbflfehonaa
