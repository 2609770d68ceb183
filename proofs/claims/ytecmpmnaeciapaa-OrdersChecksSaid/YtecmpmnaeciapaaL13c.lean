/-
  OrdersParts: its Go text answers true, whatever the input.
-/
import Derived.Test.YtecmpmnaeciapaaL13
import Derived.Test.YtecmpmnaeciapaaRef10
namespace Go.Proofs.Ytecmpmnaeciapaa
open Go Go.RowKit Go.ChangeShapes Go.WideShapes Go.ChangeAt Go.Proofs.Ytecmpmnaeciapaa.Den
variable {R : Type} {Q : R → World → Prop} {w : World}

theorem SM.ids_mem {s : SM} {id : Int} : ∀ {n : Nat}, id ∈ s.ids n → ∃ (j : Nat) (g : Int), j < n ∧ s.used[j]? = some true ∧ s.gen[j]? = some g ∧ id = idOf j g
  | 0, h => by simp [SM.ids] at h
  | n + 1, h => by
    rw [SM.ids, List.mem_append] at h
    rcases h with h | h
    · obtain ⟨j, g, h1, h2⟩ := SM.ids_mem h
      exact ⟨j, g, by omega, h2⟩
    · split at h
      · rename_i g hu hg
        simp at h
        exact ⟨n, g, by omega, hu, hg, h⟩
      · simp at h
theorem SMOk.list_id {s : SM} (h : SMOk s) {id : Int} (hl : id ∈ s.list) : s.live id = true ∧ IdOk id := by
  obtain ⟨j, g, h1, h2, h3, rfl⟩ := SM.ids_mem hl
  have := h.le
  have e := live_ex.2 ⟨j, g, rfl, by omega, h2, h3⟩
  exact ⟨e, (h.live_id e).1⟩
theorem SMOk.list_le {s : SM} (h : SMOk s) : s.list.length ≤ 1024 := by
  rw [SM.list_len h.len]
  have h1 : s.count ≤ s.used.length := List.countP_le_length
  have h2 := h.len
  have h3 := h.le
  omega
theorem StOk.ent_small {x : StM} (h : StOk x) (id : Int) : (x.ent id).1.2.length ≤ 6 := by
  unfold StM.ent
  cases ha : x.at id with
  | none => simp
  | some p => exact (h.at_some ha).2.2.2.2.2.1.small
/-- an entity, or none. -/
theorem spec_store_EntM {F : Nat → Prop} {b : Nat} {x : StM} (h : Store b x F w) {id : Int} (hid : IdOk id) {K : Res [.agg [.int .u32, .sl], .sc (.int .i64)] → W R}
    (hk : ∀ s w', Own (Up w.heap.size) w' 55 compT s (x.ent id).1.2 → Fr None w w' → K (((x.ent id).1.1, s), (x.ent id).2) Q w') :
    callW Try.prog k_store_Store_Ent [.pointer (some ⟨b, 0, none⟩), .int .u32 id] [.agg [.int .u32, .sl], .sc (.int .i64)] K Q w := by
  refine spec_store_Ent h hid (fun e w' f => ?_) fun m i e s w' ha o f => ?_
  · have := hk ⟨none, 0, 0⟩ w' (by rw [StM.ent, e]; exact Own.nil _ _ _ _) f
    rw [StM.ent, e] at this
    exact this
  · have := hk s w' (by rw [StM.ent, ha]; exact o) f
    rw [StM.ent, ha] at this
    exact this

theorem fewO_len (L : List Ordr) (n : Nat) : (fewO L n).length ≤ n := by simp [fewO]; omega
theorem fewO_ok {L : List Ordr} {n : Nat} (h : ∀ o ∈ L, OrdOk o) : ∀ o ∈ fewO L n, OrdOk o ∧ o.2.2.2.length ≤ 20 := fun o ho => by
  obtain ⟨p, hp, rfl⟩ := List.mem_map.1 ho
  have hk := h p (List.mem_of_mem_take hp)
  exact ⟨⟨hk.do_, hk.id, hk.kind, fun c hc => hk.comps c (List.mem_of_mem_take hc)⟩, by simp; omega⟩
theorem Den.DR.mono' {ok ok' : Nat → Prop} {s : Sl} {raws : List OrdRaw} {L : List Ordr} (h : DR ordR (t := ordT) ok w s raws L) (hk : ∀ k, k < w.heap.size → ok k → ok' k) : DR ordR (t := ordT) ok' w s raws L := DR.st ordR_st h (Fr.refl None w) fun k hl e => ⟨fun h => h, hk k hl e⟩
theorem Den.DR.fr0' {ok : Nat → Prop} {s : Sl} {raws : List OrdRaw} {L : List Ordr} (h : DR ordR (t := ordT) ok w s raws L) {w' : World} (f : Fr None w w') : DR ordR (t := ordT) ok w' s raws L := DR.st ordR_st h f fun _ _ e => ⟨fun h => h, e⟩
/-- orders, cut to what a law looks at. -/
theorem spec_few {V : World} {s : Sl} {raws : List OrdRaw} {L : List Ordr} (hS : SlT (Old V) V ordT s raws) (hO : All2 (OrdIn V) raws L) (hc : s.c ≤ maxLen) (f : Fr None V w) {n : Nat} (hn : n ≤ 1000) {K : Res [.sc .sl] → W R}
    (hk : ∀ r raws' LF w', DR ordR (t := ordT) (fun k => k < w'.heap.size) w' r raws' LF → r.n = LF.length → r.n ≤ r.c → LF = fewO L n → LF.length ≤ n → (∀ o ∈ LF, OrdOk o ∧ o.2.2.2.length ≤ 20) → Fr None w w' → K r Q w') : callW Try.prog k_pinnaceref13_Few [.slice s.a s.n s.c, .int .i64 (n : Int)] [.sc .sl] K Q w := by
  have hR : DR ordR (t := ordT) (Old V) w s raws L := DR.fr0' ⟨hS, hO.imp fun _ _ h => h.1⟩ f
  rw [maxLen_eq] at hc
  refine spec_r13_Few hR hc hn (fun r hr => ?_) fun r raws' w' o a f' => ?_
  · obtain ⟨i, hi⟩ := List.mem_iff_getElem?.1 hr
    obtain ⟨b, _, h⟩ := hO.getL hi
    have := h.2.2
    rwa [maxLen_eq] at this
  · have e : r.n = (fewO L n).length := by rw [o.len, a.len]
    refine hk r raws' _ w' ⟨o.sl.mono fun k hk _ => hk, a.imp fun x y h => St.mono (ordR_st x y) h fun k hk _ => hk⟩ e o.cap rfl (fewO_len L n) (fewO_ok fun o ho => ?_) f'
    obtain ⟨i, hi⟩ := List.mem_iff_getElem?.1 ho
    obtain ⟨b, _, h⟩ := hO.get hi
    exact h.2.1

theorem law_OrdersParts {W : World} {s : Sl} {raws : List OrdRaw} {L : List Ordr} {cut : Int} (hS : SlT (Old W) W ordT s raws) (hO : All2 (OrdIn W) raws L) (hc : s.c ≤ maxLen) (hcut : 0 ≤ cut ∧ cut ≤ 255) :
    Calls Try.prog 8 #[.slice s.a s.n s.c, .int .u8 cut] W (fun e w' => e = .returned (.bool true) ∧ Fr None W w') := by
  refine calls_of (C_pinnacelaw13_OrdersParts s cut _ _ W ?_)
  unfold F_pinnacelaw13_OrdersParts
  refine spec_l13_awake fun w1 f1 => condF rfl ?_
  refine spec_few (n := 40) hS hO hc f1 (by decide) fun x2 rw2 LF w2 R2 hn hcap _ hlf hok f2 => ?_
  have f02 := f1.then0 f2
  have en : IntKind.wrap .i64 ((x2.n : Int) + 1) = ((LF.length + 1 : Nat) : Int) := by rw [w64 (by omega), hn]; rfl
  have ec : IntKind.wrap .i64 cut = cut := w64 (by omega)
  rw [en, ec]
  have em : Int.tmod cut ((LF.length + 1 : Nat) : Int) = ((cut.toNat % (LF.length + 1) : Nat) : Int) := by
    rw [Int.tmod_eq_emod_of_nonneg hcut.1]
    have e : cut = ((cut.toNat : Nat) : Int) := by omega
    rw [e, Int.toNat_natCast]
    exact (Int.natCast_emod _ _).symm
  rw [em]
  have hm : cut.toNat % (LF.length + 1) ≤ LF.length := by have := Nat.mod_lt cut.toNat (show 0 < LF.length + 1 by omega); omega
  generalize cut.toNat % (LF.length + 1) = m at hm
  refine chkI (by omega) ?_
  have sm : ∀ o ∈ LF, OrdOk o ∧ Small o.2.2.2 := fun o ho => ⟨(hok o ho).1, by have := (hok o ho).2; show _ ≤ 1048576; omega⟩
  have smT : ∀ n, ∀ o ∈ LF.take n, OrdOk o ∧ Small o.2.2.2 := fun n o ho => sm o (List.mem_of_mem_take ho)
  have smD : ∀ n, ∀ o ∈ LF.drop n, OrdOk o ∧ Small o.2.2.2 := fun n o ho => sm o (List.mem_of_mem_drop ho)
  have z0 : Small LF := by show _ ≤ 1048576; omega
  have zT : ∀ n, Small (LF.take n) := fun n => by show _ ≤ 1048576; rw [List.length_take]; omega
  have zD : ∀ n, Small (LF.drop n) := fun n => by show _ ≤ 1048576; rw [List.length_drop]; omega
  refine spec_store_New (fun h => absurd (by decide) h) fun ba w3 _ sa3 f3 => ?_
  refine spec_store_New (fun h => absurd (by decide) h) fun bb w4 _ sb4 f4 => ?_
  rw [show Int.toNat 8 = 8 from rfl] at sa3 sb4
  have hs3 := f3.size
  have hs4 := f4.size
  have f24 := f3.then0 f4
  refine spec_r13_Twins (R2.fr0' f24) z0 (fun o ho => (sm o ho).2) fun r5 rw5 lab5 w5 d5 f5 => ?_
  have hs5 := f5.size
  have f25 := f24.then0 f5
  have R5 : DR ordR (t := ordT) (Up w4.heap.size) w5 r5 rw5 LF := by
    have := d5.read ordO_st
    exact ⟨this.sl, this.all.imp fun _ _ => ordO.r⟩
  have sa5 := Store.st.fr0 sa3.shut (f4.then0 f5)
  have sb5 := Store.st.fr0 sb4.shut f5
  refine spec_orders_All sa5 R5 (fun k _ e e2 => by have e : w4.heap.size ≤ k := e; omega) sm z0 fun r6 w6 GA sa6 hGA o6 f6 => ?_
  have hs6 := f6.size
  have R6 : DR ordR (t := ordT) (fun k => k < w2.heap.size) w6 x2 rw2 LF := DR.st ordR_st (R2.fr0' f25) f6 fun k _ e => ⟨fun e2 => by have e2 : w2.heap.size ≤ k := e2.1; omega, e⟩
  have hal := R6.all.len
  have fd : Fr None w6 w6.drew := (Fr.refl _ _).drew
  refine R6.sl.fr0 fd |>.cutI (n := m) rfl (by omega) fun x7 hx7c hx7 => ?_
  refine R6.sl.fr0 fd |>.from rfl (n := m) rfl (by omega) fun x8 hx8 hx8c => ?_
  have R7 : DR ordR (t := ordT) (fun k => k < w2.heap.size) w6.drew x7 (rw2.take m) (LF.take m) := ⟨hx7 _ _ (R6.sl.fr0 fd), (R6.fr0' fd).all.take m⟩
  have R8 : DR ordR (t := ordT) (fun k => k < w2.heap.size) w6.drew x8 (rw2.drop m) (LF.drop m) := ⟨hx8, (R6.fr0' fd).all.drop m⟩
  refine spec_r13_Twins R7 (zT m) (fun o ho => (smT m o ho).2) fun r7 rw7 lab7 w7 d7 f7 => ?_
  have hs7 : w6.heap.size ≤ w7.heap.size := f7.size
  have f57 : Fr (fun k => Up w2.heap.size k ∧ k < w3.heap.size) w5 w7 := f6.then (fd.then0 f7).any
  have D7 : DR ordR (t := ordT) (Up w6.heap.size) w7 r7 rw7 (LF.take m) := by
    have := d7.read ordO_st
    exact ⟨this.sl, this.all.imp fun _ _ => ordO.r⟩
  have sb7 : Store bb (StM.new 8 1) (fun k => Up w3.heap.size k ∧ k < w4.heap.size) w7 := Store.st.fr sb5 f57 fun k e e2 => by have e : w3.heap.size ≤ k := e.1; omega
  refine spec_orders_All sb7 D7 (fun k _ e e2 => by have e : w6.heap.size ≤ k := e; omega) (smT m) (zT m) fun r8 w8 GB sb8 hGB o8 f8 => ?_
  have hs8 := f8.size
  have R9 : DR ordR (t := ordT) (fun k => k < w2.heap.size) w8 x8 (rw2.drop m) (LF.drop m) := DR.st ordR_st (R8.fr0' f7) f8 fun k _ e => ⟨fun e2 => by have e2 : w3.heap.size ≤ k := e2.1; omega, e⟩
  refine spec_r13_Twins R9 (zD m) (fun o ho => (smD m o ho).2) fun r9 rw9 lab9 w9 d9 f9 => ?_
  have hs9 := f9.size
  have D9 : DR ordR (t := ordT) (Up w8.heap.size) w9 r9 rw9 (LF.drop m) := by
    have := d9.read ordO_st
    exact ⟨this.sl, this.all.imp fun _ _ => ordO.r⟩
  refine spec_orders_All (Store.st.fr0 sb8 f9) D9 (fun k _ e e2 => by have e : w8.heap.size ≤ k := e; have := (hGB k e2).2; omega) (smD m) (zD m) fun r10 w10 GC sb10 hGC o10 f10 => ?_
  have hs10 := f10.size
  have l8 := allM_len (LF.take m) (StM.new 8 1)
  have l10 := allM_len (LF.drop m) (allM (StM.new 8 1) (LF.take m)).2
  rw [List.length_take] at l8
  rw [List.length_drop] at l10
  have o8' : Own (fun k => w7.heap.size ≤ k ∧ ¬ GB k ∧ k < w8.heap.size) w10 43 resT r8 (allM (StM.new 8 1) (LF.take m)).1 := Own.st o8 (f9.any.then f10) fun k hk e => ⟨e.2, e.1, e.2, hk⟩
  refine appI (S' := fun k => (w7.heap.size ≤ k ∧ ¬ GB k ∧ k < w8.heap.size) ∨ w10.heap.size ≤ k) ress_ty o8' o10.sl (by rw [l8, l10]; omega) (by rw [l8, l10, maxLen_eq]; omega) (fun k e => .inl e) (.inr (Nat.le_refl _)) fun r13 w11 o11 f11 _ => ?_
  have hs11 := f11.size
  have e12 : (allM (StM.new 8 1) (LF.take m)).1 ++ (allM (allM (StM.new 8 1) (LF.take m)).2 (LF.drop m)).1 = (allM (StM.new 8 1) LF).1 := by
    have := allM_app (LF.take m) (LF.drop m) (StM.new 8 1)
    rw [List.take_append_drop] at this
    rw [this]
  have e13 : (allM (allM (StM.new 8 1) (LF.take m)).2 (LF.drop m)).2 = (allM (StM.new 8 1) LF).2 := by
    have := allM_app (LF.take m) (LF.drop m) (StM.new 8 1)
    rw [List.take_append_drop] at this
    rw [this]
  rw [e12] at o11
  rw [e13] at sb10
  have lal := allM_len LF (StM.new 8 1)
  generalize hM : allM (StM.new 8 1) LF = M at sa6 o6 sb10 o11 lal
  obtain ⟨res, y⟩ := M
  have f711 : Fr (fun k => (Up w3.heap.size k ∧ k < w4.heap.size) ∨ w7.heap.size ≤ k) w6 w11 := by
    have g1 : Fr (fun k => Up w3.heap.size k ∧ k < w4.heap.size) w6 w9 := (fd.then0 f7).any.then (f8.then f9.any)
    have g2 : Fr (fun k => (Up w3.heap.size k ∧ k < w4.heap.size) ∨ w7.heap.size ≤ k) w6 w10 := (g1.sub fun k e => .inl e).then (f10.sub fun k e => (hGB k e).1)
    refine g2.then (f11.sub fun k e => ?_)
    exact .inr (o8'.own k e).1
  have o6' : SlT (fun k => w5.heap.size ≤ k ∧ ¬ GA k) w11 resT r6 res := SlT.st o6.sl f711 fun k hk e => ⟨fun e2 => by rcases e2 with e2 | e2 <;> omega, e⟩
  have sa11 : Store ba y GA w11 := Store.st.fr sa6 f711 fun k e e2 => by
    have := hGA k e
    rcases e2 with e2 | e2
    · have e2' : w3.heap.size ≤ k := e2.1
      rcases this.1 with h | h <;> omega
    · omega
  have sb11 : Store bb y GC w11 := Store.st.fr sb10 f11 fun k e e2 => by
    obtain ⟨e3, e4, e5⟩ := o8'.own k e2
    rcases (hGC k e).1 with h | h
    · exact e4 h
    · omega
  have fin : Fr None W w11 := by
    have g0 : Fr None W w5 := f02.then0 f25
    have g1 : Fr None W w6 := g0.newer f6 fun k e => by have e : w2.heap.size ≤ k := e.1; have := f02.size; omega
    exact g1.newer f711 fun k e => by
      have := f02.size
      rcases e with e | e
      · have e : w3.heap.size ≤ k := e.1; omega
      · omega
  refine joinI (fun z w' => z = false ∧ Fr None w11 w') ?_ ?_
  · refine spec_SameResults o6' o11.sl (by show _ ≤ 1048576; simp only at lal; omega) fun w12 f12 => ?_
    refine condF (by simp) (spec_store_Len (Store.st.fr0 sa11 f12) (spec_store_Len (Store.st.fr0 sb11 f12) ⟨by simp, f12⟩))
  · rintro z w12 ⟨rfl, f12⟩
    refine condF rfl (spec_store_List (Store.st.fr0 sa11 f12) fun r19 w13 l19 f13 => ?_)
    have f1113 := f12.then0 f13
    have hoy := (Store.open_ sa11).1
    have hln := l19.len
    have hle := hoy.s.list_le
    refine forI (N := r19.n) (fun s : Int => s) (fun j i w' => i = (j : Int) ∧ Fr None w13 w') ⟨rfl, Fr.refl _ _⟩ (fun j s w' h => h.1) ?_ ?_
    · rintro j i w14 K' hj ⟨rfl, f14⟩ - hK
      refine (l19.fr0 f14).get rfl rfl (by omega) fun id hid => ?_
      have hidm := hoy.s.list_id (List.mem_of_getElem? hid)
      have g14 := f1113.then0 f14
      refine spec_store_EntM (Store.st.fr0 sa11 g14) hidm.2 fun s1 w15 o15 f15 => ?_
      refine newI fun w16 B16 f16 _ => stoAll B16 rfl rfl fun w17 B17 f17 s17 => ?_
      have f1517 : Fr None w15 w17 := f16.newer f17 fun k e => by omega
      refine spec_store_EntM (Store.st.fr0 sb11 (g14.then0 (f15.then0 f1517))) hidm.2 fun s2 w18 o18 f18 => ?_
      refine newI fun w19 B19 f19 _ => stoAll B19 rfl rfl fun w20 B20 f20 s20 => ?_
      have f1820 : Fr None w18 w20 := f19.newer f20 fun k e => by omega
      have B17' := B17.fr (f18.then0 f1820) fun h => h
      refine aggI B17' (x := ((y.ent id).1.1, s1)) rfl (aggI B20 (x := ((y.ent id).1.1, s2)) rfl ?_)
      have hsm := hoy.ent_small id
      refine spec_r10_SameEnt (id := (y.ent id).1.1) (id2 := (y.ent id).1.1) (s := s1) (s2 := s2) (o15.sl.fr0 (f1517.then0 (f18.then0 f1820))) (o18.sl.fr0 f1820) (by show _ ≤ 1048576; omega) fun w21 f21 => ?_
      refine condF (by simp) (hK _ _ ⟨wsucc hj (by omega), (f14.then0 f15).then0 ((f1517.then0 (f18.then0 f1820)).then0 f21)⟩)
    · rintro i w14 ⟨rfl, f14⟩
      exact ⟨rfl, fin.then0 (f1113.then0 f14)⟩

/-! ### the row -/
set_option maxRecDepth 100000 in
theorem ordersParts_lifted (os : Os) (started : os.Started) (H : Type) (enc : TypeId × Value → H) :
    ReturnsInHanded {} Try.checked os 8 .any (Rows.ordersPartsSpec.pre6 enc Try.prog Try.f8 Rows.ordersPartsRow.domain false) (Rows.ordersPartsSpec.post enc Try.prog Try.f8 false true false false) := by
  refine returnsInHanded_of_change (C := Try.checked) own_knob started (by kernel_rfl) Try.func8
    (ChangeSpec.witness6 (enc := enc) (C := Try.checked) false ⟨#[], #[.slice none 0 0, .int .u8 0], []⟩ 8 (by kernel_rfl) (by kernel_rfl) (by kernel_rfl) (by kernel_rfl)) ?_
  intro W base args ds gs before hval0 hW hcnd _
  have hval : ∀ (j : Nat) t v, Try.f8.params[j]? = some t → args[j]? = some v → Value.okWide Try.prog W .any base t v := hval0
  have hW' := hW
  obtain ⟨p, q, hA0, hV, rfl, hfz, hnd⟩ := hW
  have hA : DataW.TrodAll enc Try.prog W 0 (fun _ => true) true Try.f8.params.toList args.toList ds p := hA0
  rw [Try.params8] at hA hval
  obtain ⟨v0, v1, d0, d1, p0, p1, rfl, rfl, rfl, h0, h1⟩ := trodAll_two hA
  obtain ⟨s0, l0, rfl, S0, c0, e0⟩ := arg_slice orders_arg (hval 0 _ v0 rfl rfl) h0
  obtain ⟨L0, O0⟩ := orders_in fun r hr => e0 r hr
  obtain ⟨a1, rfl, w1⟩ := arg_int u8_und (hval 1 _ v1 rfl rfl) h1
  refine (law_OrdersParts S0 O0 c0 (wf_u8 w1)).mono fun e W' ⟨he, hf⟩ => ?_
  subst he
  exact ⟨_, rfl, law_post laid_out bool_und (by kernel_rfl) (by rw [Try.params8]; decide +kernel) rfl ⟨rfl, rfl, rfl⟩ hW' hf⟩

theorem ordersParts_holds : Rows.OrdersPartsSaid :=
  OpenClaim.holds_of_wide 8 Try.f8 rfl rfl rfl rfl rfl rfl rfl ⟨rfl, rfl, rfl, rfl, rfl⟩ rfl rfl rfl rfl rfl (by kernel_rfl) Try.func8 (by kernel_rfl)
    (of_decide_eq_true (by kernel_rfl)) (by unfold Func.isWrapper; first | (rw [if_pos (by decide +kernel)]; kernel_rfl) | (rw [if_neg (by decide +kernel)]; exact ⟨rfl, rfl⟩))
    (fun os started H enc _ => ordersParts_lifted os started H enc)

end Go.Proofs.Ytecmpmnaeciapaa
