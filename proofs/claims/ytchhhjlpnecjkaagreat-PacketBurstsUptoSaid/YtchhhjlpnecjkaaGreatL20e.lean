/-
  PacketBursts: its Go text answers true, whatever the input of bulk at most 1048576.
-/
import Derived.Test.YtchhhjlpnecjkaaGreatBurM
import Derived.Test.YtchhhjlpnecjkaaGreatL20b
import Derived.JoinedCond
namespace Go.Proofs.YtchhhjlpnecjkaaGreat
open Go Go.RowKit Go.ChangeShapes Go.WideShapes Go.ChangeAt Go.Proofs.YtchhhjlpnecjkaaGreat.Den
variable {R : Type} {Q : R → World → Prop} {w : World} {H : Type} {enc : TypeId × Value → H}

theorem diffE_ok {was now : List Ent} (h : diffE was now = 0) : FormOk was ∧ FormOk now := by
  have fw : FormOk was := formOk.1 (by
    unfold diffE at h
    refine Classical.byContradiction fun hc => ?_
    rw [if_pos hc] at h
    exact hc h)
  refine ⟨fw, formOk.1 ?_⟩
  unfold diffE at h
  rw [if_neg (by rw [formOk.2 fw]; simp)] at h
  exact h
theorem refE_0 {h : Head} {was now : List Ent} (e : refE h was now = 0) : headE h = 0 ∧ formE h was now = 0 ∧ (packM (refBits h was now)).length ≤ 4096 := by
  unfold refE at e
  split at e
  · exact absurd e (by assumption)
  · rename_i h1
    split at e
    · exact absurd e (by assumption)
    · rename_i h2
      split at e
      · cases e
      · exact ⟨by omega, by omega, by omega⟩
theorem spec_l20_few {s1 s2 : Sl} {ok1 ok2 : Nat → Prop} {raws1 raws2 : List (Int × Sl)} {was now : List Ent} (hS1 : SlT ok1 w entT s1 raws1) (hE1 : EntsR ok1 w raws1 was) (hS2 : SlT ok2 w entT s2 raws2) (hE2 : EntsR ok2 w raws2 now) (n1 : was.length ≤ 1048576) (n2 : now.length ≤ 1048576) {K : Res [.sc .bool] → W R}
    (h0 : ∀ w', Fr None w w' → K false Q w') (hk : fewM was ≤ 400 → fewM now ≤ 400 → ∀ w', Fr None w w' → K true Q w') : callW Tryz.prog k_pinnacelaw20_few [.slice s1.a s1.n s1.c, .slice s2.a s2.n s2.c] [.sc .bool] K Q w := by
  refine C_pinnacelaw20_few s1 s2 K Q w ?_
  unfold F_pinnacelaw20_few
  refine joinI (fun z v => (z = true → fewM was ≤ 400 ∧ fewM now ≤ 400) ∧ Fr None w v) ?_ ?_
  · refine spec_r18_Few hS1 hE1 (by omega) fun w3 f3 => condD (fun a => ?_) fun a => ⟨fun h => (by cases h), f3⟩
    exact spec_r18_Few (hS2.fr0 f3) (hE2.fr f3 fun _ _ h => h) (by omega) fun w4 f4 => ⟨fun h => ⟨a, by simpa using h⟩, f3.then0 f4⟩
  · rintro z v ⟨hz, fv⟩
    cases z with
    | false => exact h0 v fv
    | true => exact hk (hz rfl).1 (hz rfl).2 v fv
theorem law_PacketBursts {W : World} {h : Head} (hok : HeadOk h) {s1 s2 : Sl} {raws1 raws2 : List (Int × Sl)} {was now : List Ent}
    (hS1 : SlT (Old W) W entT s1 raws1) (hE1 : All2 (EntIn W) raws1 was) (_c1 : s1.c ≤ maxLen) (hm1 : (raws1.map fun r => r.2.n + 1).sum ≤ 1048576)
    (hS2 : SlT (Old W) W entT s2 raws2) (hE2 : All2 (EntIn W) raws2 now) (_c2 : s2.c ≤ maxLen) (hm2 : (raws2.map fun r => r.2.n + 1).sum ≤ 1048576)
    {p3 p4 : Int} (h3 : 0 ≤ p3 ∧ p3 ≤ 65535) (_h4 : 0 ≤ p4 ∧ p4 ≤ 4294967295) :
    Calls Tryz.prog 7 #[.agg ⟨headC h⟩, .slice s1.a s1.n s1.c, .slice s2.a s2.n s2.c, .int .u16 p3, .int .u32 p4] W (fun e w' => e = .returned (.bool true) ∧ Fr None W w') := by
  refine calls_of (C_pinnacelaw20_PacketBursts h s1 s2 p3 p4 _ _ W ?_)
  unfold F_pinnacelaw20_PacketBursts
  obtain ⟨n1, t1⟩ := EntIn.fit hE1 hm1
  obtain ⟨n2, t2⟩ := EntIn.fit hE2 hm2
  refine newI fun w1 B1 f1 z1 => spec_l20_awake fun w2 f2 => condF rfl ?_
  have f02 := f1.then0 f2
  refine spec_l20_few (hS1.fr0 f02) (EntIn.later hE1 f02) (hS2.fr0 f02) (EntIn.later hE2 f02) n1 n2 (fun w3 f3 => condT rfl ⟨rfl, f02.then0 f3⟩) fun few1 few2 w3 f3 => condF rfl ?_
  have f03 := f02.then0 f3
  refine aggI ((B1.fr f2 fun h => h).fr f3 fun h => h) (x := h) rfl ?_
  refine spec_r20_Seal hok (hS1.fr0 f03) (EntIn.later hE1 f03) (hS2.fr0 f03) (EntIn.later hE2 f03) n1 n2 t1 t2 (fun _ h0 => (formOk.1 h0).few (fun e he => (t2 e he).1) few2) (fun _ h0 => ⟨(diffE_ok h0).1.few (fun e he => (t1 e he).1) few1, (diffE_ok h0).2.few (fun e he => (t2 e he).1) few2⟩)
    (fun hne w4 f4 => condT (by simpa using hne) ⟨rfl, f03.then0 f4⟩) fun h0 p w4 o4 f4 => condF rfl ?_
  obtain ⟨_, _, hl⟩ := refE_0 h0
  have f04 := f03.then0 f4
  obtain ⟨b, hb⟩ : ∃ b, b = packM (refBits h was now) := ⟨_, rfl⟩
  have hok8 : BytesOk b := by rw [hb]; exact packM_ok _
  rw [← hb] at hl
  have o4 : Own (Up w3.heap.size) w4 5 u8T p (sealF b) := by rw [hb]; exact o4
  have hpn := o4.len
  rw [sealF_len] at hpn
  have e8 : IntKind.wrap .i64 (8 * (p.n : Int)) = ((8 * p.n : Nat) : Int) := by rw [w64 (by omega)]; omega
  rw [e8]
  refine chkI (by omega) ?_
  obtain ⟨at_, hat⟩ : ∃ a, a = p3.toNat % (8 * p.n) := ⟨_, rfl⟩
  have hatl : at_ < 8 * p.n := by rw [hat]; exact Nat.mod_lt _ (by omega)
  have ea : Int.tmod (IntKind.wrap .i64 p3) ((8 * p.n : Nat) : Int) = (at_ : Int) := by
    rw [w64 (x := p3) (by omega), Int.tmod_eq_emod_of_nonneg h3.1, hat, Int.natCast_emod]
    congr 1
    omega
  obtain ⟨pat, hpat⟩ : ∃ x, x = (BitVec.ofInt 32 p4 ||| BitVec.ofInt 32 1).toNat := ⟨_, rfl⟩
  have hpl : pat < 4294967296 := by rw [hpat]; exact (BitVec.ofInt 32 p4 ||| BitVec.ofInt 32 1).isLt
  have ep : bOr .u32 p4 1 = (pat : Int) := by
    unfold bOr
    show IntKind.wrap .u32 (((BitVec.ofInt 32 p4 ||| BitVec.ofInt 32 1).toNat : Nat) : Int) = _
    rw [← hpat, wu32 (by omega)]
  have hbit : pat.testBit 0 = true := by
    rw [hpat]
    show (BitVec.ofInt 32 p4 ||| BitVec.ofInt 32 1).getLsbD 0 = true
    rw [BitVec.getLsbD_or, show (BitVec.ofInt 32 1).getLsbD 0 = true from by decide, Bool.or_true]
  rw [ea, ep]
  have hso := sealF_ok hok8
  have hsl := sealF_len b
  refine spec_r3_Turn o4.sl hso (by omega) (by omega) hpl fun q w5 o5 f5 => ?_
  have hqo := turnM_ok at_ pat hso 32
  have hql := turnM_len at_ pat (sealF b) 32
  have nf : NoFrame (turnM at_ pat (sealF b) 32) := ⟨by omega, by omega, burst_breaks hok8 hbit (by omega) fun x hx => hqo x (List.mem_of_mem_take hx)⟩
  refine spec_Peek_none o5.sl hqo nf fun w6 f6 => ?_
  refine newI fun w7 B7 f7 z7 => stoAll B7 rfl rfl fun w8 B8 f8 z8 => ?_
  have f68 : Fr None w6 w8 := f7.newer f8 fun k e => by omega
  have f08 := ((f04.then0 f5).then0 f6).then0 f68
  refine spec_r10_Twins (hS1.fr0 f08) (EntIn.later hE1 f08) n1 (fun e he => (t1 e he).2.1) fun r9 q9 w9 o9 E9 f9 => ?_
  refine spec_Open_none (((o5.none f6).none f68).none f9).sl hqo nf fun w10 f10 => ?_
  have B10 := (B8.fr f9 fun h => h).fr f10 fun h => h
  have f010 := (f08.then0 f9).then0 f10
  refine newI fun w11 B11 f11 z11 => stoAll B11 rfl rfl fun w12 B12 f12 z12 => ?_
  have f1012 : Fr None w10 w12 := f11.newer f12 fun k e => by omega
  have f012 := f010.then0 f1012
  refine joinI (fun z v => z = true ∧ Fr None W v) ?_ fun z v ⟨hz, f⟩ => by subst hz; exact ⟨rfl, f⟩
  refine condT rfl (condT rfl (aggI (B10.fr f1012 fun h => h) (x := ((0, 0, 0, 0, 0) : Head)) rfl ?_))
  refine eqlI eqG_head (eqV_head (0, 0, 0, 0, 0) (0, 0, 0, 0, 0)) (condT rfl ?_)
  refine aggI B12 (x := ((0, 0, 0, 0, 0) : Head)) rfl ?_
  exact eqlI eqG_head (eqV_head (0, 0, 0, 0, 0) (0, 0, 0, 0, 0)) (condT rfl ⟨rfl, f012⟩)

theorem u16_und : Tryz.prog.underlying 51 = some (.int .u16) := by kernel_rfl
theorem wf_u16 {n : Int} (h : (Lit.int .u16 n).wf = true) : 0 ≤ n ∧ n ≤ 65535 := by simpa [Lit.wf, IntKind.min, IntKind.max, IntKind.bits, IntKind.signed] using h

/-! ### the row -/
set_option maxRecDepth 100000 in
theorem packetBursts_lifted (os : Os) (started : os.Started) (H : Type) (enc : TypeId × Value → H) (F : Stop.Interp) :
    ReturnsInHanded {} Tryz.checked os 7 .any ((Rows.OpenSpec.upto Rows.packetBurstsSpec).pre6 enc Tryz.prog Tryz.f7 Rows.packetBurstsUptoRow.domain false) (((Rows.OpenSpec.upto Rows.packetBurstsSpec).at F).post enc Tryz.prog Tryz.f7 false true false false) := by
  refine returnsInHanded_of_cond (C := Tryz.checked) (s := Rows.OpenSpec.upto Rows.packetBurstsSpec) (k := Rows.uptoSmall) rfl own_knob started (by kernel_rfl) Tryz.func7
    (OpenSpec.witness (enc := enc) (C := Tryz.checked) (s := Rows.OpenSpec.upto Rows.packetBurstsSpec) (k := Rows.uptoSmall) rfl false ⟨#[], #[.agg #[.int .u8 0, .int .u8 0, .int .u32 0, .int .u32 0, .int .u32 0], .slice none 0 0, .slice none 0 0, .int .u16 0, .int .u32 0], []⟩ 8 (by kernel_rfl) (by kernel_rfl) (by kernel_rfl)
      (x := ([.agg [.lit (.int .u8 0), .lit (.int .u8 0), .lit (.int .u32 0), .lit (.int .u32 0), .lit (.int .u32 0)], .nil, .nil, .lit (.int .u16 0), .lit (.int .u32 0)], [], [])) (by kernel_rfl) rfl (by kernel_rfl)) ?_
  intro W base args ds gs before hval0 hW _ hk _
  have hval : ∀ (j : Nat) t v, Tryz.f7.params[j]? = some t → args[j]? = some v → Value.okWide Tryz.prog W .any base t v := hval0
  have hW' := hW
  obtain ⟨p, q, hA0, hV, rfl, hfz, hnd⟩ := hW
  have hA : DataW.TrodAll enc Tryz.prog W 0 (fun _ => true) true Tryz.f7.params.toList args.toList ds p := hA0
  rw [Tryz.params7] at hA hval
  obtain ⟨v0, v1, v2, v3, v4, d0, d1, d2, d3, d4, p0, p1, p2, p3, p4, rfl, rfl, rfl, h0, h1, h2, h3, h4⟩ := trodAll_five hA
  have hb : Rows.uptoBulkAll ([d0, d1, d2, d3, d4] ++ gs) ≤ 1048576 := of_decide_eq_true hk
  simp only [List.cons_append, Rows.uptoBulkAll] at hb
  obtain ⟨x0, rfl, e0⟩ := arg_agg head_arg (hval 0 _ v0 rfl rfl) h0
  obtain ⟨s1, l1, rfl, S1, c1, e1⟩ := arg_slice ents_arg (hval 1 _ v1 rfl rfl) h1
  obtain ⟨L1, O1⟩ := ents_in fun r hr => e1 r hr
  obtain ⟨s2, l2, rfl, S2, c2, e2⟩ := arg_slice ents_arg (hval 2 _ v2 rfl rfl) h2
  obtain ⟨L2, O2⟩ := ents_in fun r hr => e2 r hr
  obtain ⟨a3, rfl, w3⟩ := arg_int u16_und (hval 3 _ v3 rfl rfl) h3
  obtain ⟨a4, rfl, w4⟩ := arg_int u32_und (hval 4 _ v4 rfl rfl) h4
  have b1 := (ents_bulk h1 rfl S1)
  have b1k : Rows.uptoBulk d1 ≤ 1048576 := by omega
  have b2 := (ents_bulk h2 rfl S2)
  have b2k : Rows.uptoBulk d2 ≤ 1048576 := by omega
  refine (law_PacketBursts (head_in e0) S1 O1 c1 (Nat.le_trans b1 b1k) S2 O2 c2 (Nat.le_trans b2 b2k) (wf_u16 w3) (wf_u32 w4)).mono fun e W' ⟨he, hf⟩ => ?_
  subst he
  exact ⟨_, rfl, law_post (s := Rows.packetBurstsSpec) laid_out bool_und (by kernel_rfl) (by rw [Tryz.params7]; decide +kernel) rfl ⟨rfl, rfl, rfl⟩ hW' hf⟩

set_option maxHeartbeats 4000000 in
theorem packetBursts_holds : Rows.PacketBurstsUptoSaid :=
  OpenClaim.holds_of_cond 7 Tryz.f7 rfl rfl rfl rfl rfl rfl rfl ⟨rfl, rfl, rfl, rfl, rfl⟩ rfl rfl rfl rfl rfl (by kernel_rfl) Tryz.func7
    (by unfold joinedFacts; repeat' (with_reducible refine band ?_ ?_)
        all_goals first | with_reducible exact laid_out | with_reducible exact maps_rowed | with_reducible exact may_enter | (as_aux_lemma => kernel_rfl))
    (of_decide_eq_true (by kernel_rfl)) (by unfold Func.isWrapper; first | (rw [if_pos (by decide +kernel)]; kernel_rfl) | (rw [if_neg (by decide +kernel)]; exact ⟨rfl, rfl⟩))
    (fun os started H enc _ F => packetBursts_lifted os started H enc F)

end Go.Proofs.YtchhhjlpnecjkaaGreat
