/-
  OrdersDo: its Go text answers true, whatever the input.
-/
import Derived.Test.YtecmpmnaeciapaaGreatL13c
import Derived.Test.YtecmpmnaeciapaaGreatRef13
namespace Go.Proofs.YtecmpmnaeciapaaGreat
open Go Go.RowKit Go.ChangeShapes Go.WideShapes Go.ChangeAt Go.Proofs.YtecmpmnaeciapaaGreat.Den
variable {R : Type} {Q : R → World → Prop} {w : World}

theorem StOk.ent_live {x : StM} (h : StOk x) {id : Int} (hl : x.s.live id = true) : (x.ent id).1.1 = id ∧ (x.ent id).2 = 0 ∧ (x.ent id).1.2.length ≤ 6 := by
  have := h.at_live id
  rw [hl] at this
  obtain ⟨⟨m, i, e⟩, ha⟩ := Option.isSome_iff_exists.1 this
  obtain ⟨_, _, _, _, h3, hv, _⟩ := h.at_some ha
  rw [StM.ent_some ha]
  exact ⟨h3, rfl, hv.small⟩
theorem spec_l13_alike {F F2 : Nat → Prop} {b b2 : Nat} {x : StM} (h : Store b x F w) (h2 : R11 b2 x F2 w) {K : Res [.sc .bool] → W R} (hk : ∀ w', Fr None w w' → K true Q w') :
    callW Tryz.prog k_pinnacelaw13_alike [.pointer (some ⟨b, 0, none⟩), .pointer (some ⟨b2, 0, none⟩)] [.sc .bool] K Q w := by
  refine C_pinnacelaw13_alike _ _ K Q w ?_
  unfold F_pinnacelaw13_alike
  have hok := (Store.open_ h).1
  refine spec_r11_List h2 fun r raws w1 o1 hE f1 => ?_
  have hel : (entsM x).length = x.s.count := by unfold entsM; rw [List.length_map, SM.list_len hok.s.len]
  have hlist := hok.s.list_le
  have hrl := hE.len
  have hel2 : (entsM x).length = x.s.list.length := by unfold entsM; rw [List.length_map]
  have hrn : r.n = x.s.list.length := by rw [o1.len, hrl, hel2]
  refine spec_store_Len (Store.st.fr0 h f1) (condF ?_ ?_)
  · rw [hrn, ← hel2, hel]; simp
  refine forI (N := r.n) (fun s : Int => s) (fun j i w' => i = (j : Int) ∧ Fr None w1 w') ⟨rfl, Fr.refl _ _⟩ (fun j s w' h => h.1) ?_ fun i w' ⟨_, f⟩ => hk w' (f1.then0 f)
  rintro j i w2 K' hj ⟨rfl, f2⟩ - hK
  obtain ⟨id, hid⟩ : ∃ id, x.s.list[j]? = some id := ⟨_, List.getElem?_eq_getElem (by omega)⟩
  obtain ⟨hlive, hidok⟩ := hok.s.list_id (List.mem_of_getElem? hid)
  obtain ⟨e1, e2, e3⟩ := hok.ent_live hlive
  have hent : (entsM x)[j]? = some (x.ent id).1 := by unfold entsM; rw [List.getElem?_map, hid]; rfl
  obtain ⟨r0, hr0, ha1, ha2⟩ := hE.get hent
  rw [e1] at ha1
  have f12 := f1.then0 f2
  refine (o1.sl.fr0 f2).get rfl rfl (by omega) fun y hy => ?_
  rw [hr0] at hy
  cases hy
  refine newI fun w3 B3 f3 s3 => stoAll B3 rfl rfl fun w4 B4 f4 s4 => ?_
  have f24 : Fr None w2 w4 := f3.newer f4 fun k e => by omega
  refine fldI B4 (x := r0.1) rfl ?_
  rw [ha1]
  refine spec_store_EntM (Store.st.fr0 h (f12.then0 f24)) hidok fun sl w5 o5 f5 => ?_
  refine newI fun w6 B6 f6 s6 => stoAll B6 rfl rfl fun w7 B7 f7 s7 => ?_
  have f57 : Fr None w5 w7 := f6.newer f7 fun k e => by omega
  have f47 := f5.then0 f57
  have B47 := B4.fr f47 fun h => h
  refine joinI (fun z w' => z = false ∧ Fr None w7 w') ?_ fun z w8 ⟨hz, f8⟩ => by
    subst hz
    exact condF rfl (hK _ _ ⟨wsucc hj (by omega), f2.then0 ((f24.then0 f47).then0 f8)⟩)
  have fd : Fr None w7 w7.drew := (Fr.refl _ _).drew
  refine condF (by rw [e2]; rfl) (aggI B7.drew (x := ((x.ent id).1.1, sl)) rfl (aggI B47.drew (x := r0) rfl ?_))
  rw [e1]
  refine spec_r10_SameEnt (id := id) (id2 := r0.1) (s := sl) (s2 := r0.2) (o5.sl.fr0 (f57.then0 fd)) ((((ha2.fr0 f2).fr0 f24).fr0 f47).fr0 fd) (by show _ ≤ 1048576; omega) fun w8 f8 => ?_
  refine condF (by rw [ha1]; simp) (fldI ((B47.fr fd fun h => h).fr f8 fun h => h) (x := r0.1) rfl ?_)
  refine spec_store_List (Store.st.fr0 h ((f12.then0 (f24.then0 f47)).then0 (fd.then0 f8))) fun rl w9 l9 f9 => ?_
  have f79 := (fd.then0 f8).then0 f9
  refine andI ((B47.fr f79 fun h => h).rd (s := .int .u32) (i := 0) (x := r0.1) rfl) ?_
  refine l9.get rfl rfl (by omega) fun y hy => ?_
  rw [hid] at hy
  cases hy
  exact ⟨by rw [ha1]; simp, f79⟩

theorem law_OrdersDo {W : World} {n : Int} {s : Sl} {raws : List OrdRaw} {L : List Ordr} (hn : 0 ≤ n ∧ n ≤ 255) (hS : SlT (Old W) W ordT s raws) (hO : All2 (OrdIn W) raws L) (hc : s.c ≤ maxLen) :
    Calls Tryz.prog 3 #[.int .u8 n, .slice s.a s.n s.c] W (fun e w' => e = .returned (.bool true) ∧ Fr None W w') := by
  refine calls_of (C_pinnacelaw13_OrdersDo n s _ _ W ?_)
  unfold F_pinnacelaw13_OrdersDo
  have ek : IntKind.wrap .i64 (1 + IntKind.wrap .i64 (Int.tmod n 12)) = ((1 + n.toNat % 12 : Nat) : Int) := by
    have h1 : Int.tmod n 12 = n % 12 := Int.tmod_eq_emod_of_nonneg hn.1
    rw [h1, w64 (x := n % 12) (by omega), w64 (by omega)]
    omega
  rw [ek]
  generalize hkk : 1 + n.toNat % 12 = k
  have hk1 : 1 ≤ k ∧ k ≤ 12 := by omega
  refine spec_l13_awake fun w1 f1 => condF rfl ?_
  refine spec_few (n := 60) hS hO hc f1 (by decide) fun x2 rw2 LF w2 R2 hn2 hcap _ hlf hok f2 => ?_
  have f02 := f1.then0 f2
  have hs02 := f02.size
  have sm : ∀ o ∈ LF, OrdOk o ∧ Small o.2.2.2 := fun o ho => ⟨(hok o ho).1, by have := (hok o ho).2; show _ ≤ 1048576; omega⟩
  have z0 : Small LF := by show _ ≤ 1048576; omega
  refine spec_store_New (fun h => absurd (by omega) h) fun ba w3 _ sa3 f3 => ?_
  refine spec_r11_New (fun h => absurd (by omega) h) fun bb w4 _ sb4 f4 => ?_
  rw [Int.toNat_natCast] at sa3 sb4
  have hs3 := f3.size
  have hs4 := f4.size
  have f24 := f3.then0 f4
  refine spec_r13_Twins (R2.fr0' f24) z0 (fun o ho => (sm o ho).2) fun r5 rw5 lab5 w5 d5 f5 => ?_
  have hs5 := f5.size
  have f25 := f24.then0 f5
  have R5 : DR ordR (t := ordT) (fun k => w4.heap.size ≤ k ∧ k < w5.heap.size) w5 r5 rw5 LF := by
    have := d5.read ordO_st
    exact DR.mono' ⟨this.sl, this.all.imp fun _ _ => ordO.r⟩ fun k hk e => ⟨e, hk⟩
  have sa5 : Store ba (StM.new k 1) (fun r => w2.heap.size ≤ r ∧ r < w3.heap.size) w5 := Store.st.fr0 sa3.shut (f4.then0 f5)
  have sb5 : R11 bb (StM.new k 1) (fun r => w3.heap.size ≤ r ∧ r < w4.heap.size) w5 := R11.st.fr0 sb4.shut f5
  refine spec_orders_All sa5 R5 (fun r _ e e2 => by omega) sm z0 fun r6 w6 GA sa6 hGA o6 f6 => ?_
  have hs6 := f6.size
  have R26 : DR ordR (t := ordT) (fun k => k < w2.heap.size) w6 x2 rw2 LF := DR.st ordR_st (R2.fr0' f25) f6 fun r _ e => ⟨fun e2 => by omega, e⟩
  have R56 : DR ordR (t := ordT) (fun k => w4.heap.size ≤ k ∧ k < w5.heap.size) w6 r5 rw5 LF := DR.st ordR_st R5 f6 fun r _ e => ⟨fun e2 => by omega, e⟩
  have sb6 : R11 bb (StM.new k 1) (fun r => w3.heap.size ≤ r ∧ r < w4.heap.size) w6 := R11.st.fr sb5 f6 fun r e e2 => by omega
  have fW6 : Fr None W w6 := (f02.then0 f25).newer f6 fun r e => by omega
  have l2 := R26.all.len
  have l5 := R56.all.len
  have hrn := R56.sl.len
  refine forI (N := x2.n) (fun s : Int => s) (fun j i w' => i = (j : Int) ∧ Fr None w6 w') ⟨rfl, Fr.refl _ _⟩ (fun j s w' h => h.1) ?_ ?_
  · rintro j i w7 K' hj ⟨rfl, f7⟩ - hK
    have f7d := f7.drew
    refine (R56.sl.fr0 f7d).get rfl rfl (by omega) fun y hy => ?_
    refine (R26.sl.fr0 f7d).get rfl rfl (by omega) fun z hz => ?_
    obtain ⟨o, ho, h1⟩ := R56.all.getL hy
    have h2 := R26.all.at_ j z o hz ho
    refine spec_SameOrder (ordR_st y o h1 f7d fun _ _ e => ⟨fun h => h, e⟩) (ordR_st z o h2 f7d fun _ _ e => ⟨fun h => h, e⟩) (sm o (List.mem_of_getElem? ho)).2 fun w8 f8 => ?_
    exact condF (by simp) (hK _ _ ⟨wsucc hj (by omega), f7d.then0 f8⟩)
  rintro i w7 ⟨-, f7⟩
  have hs7 := f7.size
  refine joinI (fun z w' => z = true ∧ Fr None W w') ?_ fun z w8 ⟨hz, f8⟩ => by subst hz; exact ⟨rfl, f8⟩
  refine spec_r13_All (R11.st.fr0 sb6 f7) (R26.fr0' f7) (fun r _ e e2 => by omega) sm z0 fun r8 w8 GB sb8 hGB o8 f8 => ?_
  have hs8 := f8.size
  have lal := allM_len LF (StM.new k 1)
  have o68 : SlT (fun r => w5.heap.size ≤ r ∧ r < w6.heap.size) w8 resT r6 (allM (StM.new k 1) LF).1 := SlT.st (F := fun r => w5.heap.size ≤ r ∧ r < w6.heap.size) ((o6.sl.mono fun r hr e => ⟨e.1, hr⟩).fr0 f7) f8 fun r _ e => ⟨fun e2 => by omega, e⟩
  have sa8 : Store ba (allM (StM.new k 1) LF).2 GA w8 := Store.st.fr (Store.st.fr0 sa6 f7) f8 fun r e e2 => by
    have := hGA r e
    omega
  have fW8 : Fr None W w8 := (fW6.then0 f7).newer f8 fun r e => by omega
  refine spec_SameResults o68 o8.sl (by show _ ≤ 1048576; omega) fun w9 f9 => ?_
  refine condT (by simp) (spec_l13_alike (Store.st.fr0 sa8 f9) (R11.st.fr0 sb8 f9) fun w10 f10 => ⟨rfl, fW8.then0 (f9.then0 f10)⟩)

/-! ### the row -/
set_option maxRecDepth 100000 in
theorem ordersDo_lifted (os : Os) (started : os.Started) (H : Type) (enc : TypeId × Value → H) :
    ReturnsInHanded {} Tryz.checked os 3 .any (Rows.ordersDoSpec.pre6 enc Tryz.prog Tryz.f3 Rows.ordersDoRow.domain false) (Rows.ordersDoSpec.post enc Tryz.prog Tryz.f3 false true false false) := by
  refine returnsInHanded_of_change (C := Tryz.checked) own_knob started (by kernel_rfl) Tryz.func3
    (ChangeSpec.witness6 (enc := enc) (C := Tryz.checked) false ⟨#[], #[.int .u8 0, .slice none 0 0], []⟩ 8 (by kernel_rfl) (by kernel_rfl) (by kernel_rfl) (by kernel_rfl)) ?_
  intro W base args ds gs before hval0 hW hcnd _
  have hval : ∀ (j : Nat) t v, Tryz.f3.params[j]? = some t → args[j]? = some v → Value.okWide Tryz.prog W .any base t v := hval0
  have hW' := hW
  obtain ⟨p, q, hA0, hV, rfl, hfz, hnd⟩ := hW
  have hA : DataW.TrodAll enc Tryz.prog W 0 (fun _ => true) true Tryz.f3.params.toList args.toList ds p := hA0
  rw [Tryz.params3] at hA hval
  obtain ⟨v0, v1, d0, d1, p0, p1, rfl, rfl, rfl, h0, h1⟩ := trodAll_two hA
  obtain ⟨a0, rfl, w0⟩ := arg_int u8_und (hval 0 _ v0 rfl rfl) h0
  obtain ⟨s1, l1, rfl, S1, c1, e1⟩ := arg_slice orders_arg (hval 1 _ v1 rfl rfl) h1
  obtain ⟨L1, O1⟩ := orders_in fun r hr => e1 r hr
  refine (law_OrdersDo (wf_u8 w0) S1 O1 c1).mono fun e W' ⟨he, hf⟩ => ?_
  subst he
  exact ⟨_, rfl, law_post laid_out bool_und (by kernel_rfl) (by rw [Tryz.params3]; decide +kernel) rfl ⟨rfl, rfl, rfl⟩ hW' hf⟩

theorem ordersDo_holds : Rows.OrdersDoSaid :=
  OpenClaim.holds_of_wide 3 Tryz.f3 rfl rfl rfl rfl rfl rfl rfl ⟨rfl, rfl, rfl, rfl, rfl⟩ rfl rfl rfl rfl rfl (by kernel_rfl) Tryz.func3 (by kernel_rfl)
    (of_decide_eq_true (by kernel_rfl)) (by unfold Func.isWrapper; first | (rw [if_pos (by decide +kernel)]; kernel_rfl) | (rw [if_neg (by decide +kernel)]; exact ⟨rfl, rfl⟩))
    (fun os started H enc _ => ordersDo_lifted os started H enc)

end Go.Proofs.YtecmpmnaeciapaaGreat
