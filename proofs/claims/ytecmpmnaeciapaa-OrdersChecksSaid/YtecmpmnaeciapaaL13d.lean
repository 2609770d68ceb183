/-
  OrdersChecks: its Go text answers true, whatever the input.
-/
import Derived.Test.YtecmpmnaeciapaaL13c
namespace Go.Proofs.Ytecmpmnaeciapaa
open Go Go.RowKit Go.ChangeShapes Go.WideShapes Go.ChangeAt Go.Proofs.Ytecmpmnaeciapaa.Den
variable {R : Type} {Q : R → World → Prop} {w : World}

/-- a bit of a component of a list of one's own is turned. -/
theorem flipS {S : Nat → Prop} {s : Sl} {l : List Comp} (ho : Own S w 55 compT s l) {i : Int} {j : Nat} (hi : i = j) (hj : j < l.length) {K : W R} (hk : ∀ w' l', l'.length = l.length → Own S w' 55 compT s l' → Fr (fun k => s.v.ownBlock = some k) w w' → K Q w') :
    (idxW s.a s.n 4 i fun x_95 =>
        idxW (some (Addr.add x_95 1)) 3 1 0 fun x_96 =>
        ld (.sc (.int .i32)) x_96 fun (x_97 : Int) =>
        idxW s.a s.n 4 i fun x_98 =>
        idxW (some (Addr.add x_98 1)) 3 1 0 fun x_99 =>
        stoL x_99 [.int .i32 (bXor .i32 x_97 1)] 0 K) Q w := by
  subst hi
  refine ho.idx rfl (by omega) (by omega) fun g c hg hc hrd => ?_
  have hc : l[j]? = some c := by simpa using hc
  refine idxA (by omega) (by omega) ?_
  rw [addA]
  refine hrd.fld (s := .int .i32) (y := c.2.1) rfl ?_
  refine ho.idx rfl (by omega) (by omega) fun g2 c2 hg2 hc2 _ => ?_
  refine idxA (by omega) (by omega) ?_
  rw [addA, add_lit]
  refine ho.setFld (i := j) (j := 1) (x' := (c.1, bXor .i32 c.2.1 1, c.2.2.1, c.2.2.2)) hc hg2 (show 1 < 4 by omega) rfl rfl fun w2 o2 f2 s2 => ?_
  exact hk w2 _ (by rw [List.length_set]) o2 f2

def goodL (L : List Ordr) : List Ordr := L.filter fun o => decide (ochk o = 0)
theorem goodL_len (L : List Ordr) : (goodL L).length ≤ L.length := List.length_filter_le _ _
theorem goodL_snoc (L : List Ordr) (o : Ordr) : goodL (L ++ [o]) = if ochk o = 0 then goodL L ++ [o] else goodL L := by
  rw [goodL, List.filter_append]
  by_cases h : ochk o = 0
  · rw [if_pos h, List.filter_cons_of_pos (by simpa using h)]; rfl
  · rw [if_neg h, List.filter_cons_of_neg (by simpa using h)]; simp [goodL]
theorem push_good {L : List Ordr} (h : L.length < 256) (o : Ordr) : pushE (goodL L) o = ochk o ∧ pushL (goodL L) o = goodL (L ++ [o]) := by
  have hl := goodL_len L
  have e : pushE (goodL L) o = ochk o := by
    rw [pushE]
    by_cases h0 : ochk o = 0
    · rw [if_neg (fun h => h h0), if_neg (by omega), h0]
    · rw [if_pos h0]
  exact ⟨e, by rw [pushL, e, goodL_snoc]⟩
theorem Buf.has {F : Nat → Prop} {b : Nat} {L : List Ordr} (h : Buf b L F w) : F b ∧ b < w.heap.size := by
  obtain ⟨_, _, _, h1, h2, _⟩ := h
  exact ⟨h1, h2.lt⟩

theorem law_OrdersChecks {W : World} {s : Sl} {raws : List OrdRaw} {L : List Ordr} (hS : SlT (Old W) W ordT s raws) (hO : All2 (OrdIn W) raws L) (hc : s.c ≤ maxLen) :
    Calls Try.prog 6 #[.slice s.a s.n s.c] W (fun e w' => e = .returned (.bool true) ∧ Fr None W w') := by
  refine calls_of (C_pinnacelaw13_OrdersChecks s _ _ W ?_)
  unfold F_pinnacelaw13_OrdersChecks
  refine spec_l13_awake fun w1 f1 => condF rfl ?_
  refine spec_few (n := 60) hS hO hc f1 (by decide) fun x2 rw2 LF w2 R2 hn hcap _ hlf hok f2 => ?_
  have f02 := f1.then0 f2
  have sm : ∀ o ∈ LF, OrdOk o ∧ Small o.2.2.2 := fun o ho => ⟨(hok o ho).1, by have := (hok o ho).2; show _ ≤ 1048576; omega⟩
  refine spec_orders_New fun b w3 bf3 f3 => ?_
  have hs3 := f3.size
  refine spec_r13_Twins (R2.fr0' f3) (by show _ ≤ 1048576; omega) (fun o ho => (sm o ho).2) fun r4 rw4 lab4 w4 d4 f4 => ?_
  have hs4 := f4.size
  have f24 := f3.then0 f4
  have hs02 := f02.size
  let Inv : Nat → Sl → World → Prop := fun j want w' => Fr (Up w2.heap.size) w4 w' ∧ ∃ G rwW, Buf b (goodL (LF.take j)) G w' ∧ (∀ k, G k → ((w2.heap.size ≤ k ∧ k < w3.heap.size) ∨ w4.heap.size ≤ k) ∧ k < w'.heap.size) ∧
    Own (fun k => w4.heap.size ≤ k ∧ ¬ G k) w' 41 ordT want rwW ∧ All2 (fun a b => ordR (fun k => k < w2.heap.size) w2 a b) rwW (goodL (LF.take j)) ∧
    Own (fun k => w3.heap.size ≤ k ∧ lab4 k = 0 ∧ k < w4.heap.size) w' 41 ordT r4 rw4 ∧
    ∀ i a b, j ≤ i → rw4[i]? = some a → LF[i]? = some b → ordO (fun k => w3.heap.size ≤ k ∧ lab4 k = i + 1 ∧ k < w4.heap.size) w' a b
  have keep2 : ∀ {w' : World}, Fr (Up w2.heap.size) w4 w' → DR ordR (t := ordT) (fun k => k < w2.heap.size) w' x2 rw2 LF := fun f => DR.st ordR_st R2 (f24.any.then f) fun k hk e => ⟨fun e2 => by have e2 : w2.heap.size ≤ k := e2; omega, e⟩
  have hrl := d4.len
  refine rangeC (t := ordT) (l := rw4) (ok := fun _ => True) (fun s : Sl × Int => s.2) (fun j st w' => st.2 = (j : Int) ∧ Inv j st.1 w') rfl rfl rfl ⟨rfl, Fr.refl _ _, (fun k => w2.heap.size ≤ k ∧ k < w3.heap.size), [], ?_, fun k e => ⟨.inl e, by omega⟩, Own.nil _ _ _ _, All2.nil _, ?_, fun i a b _ h1 h2 => ?_⟩ (fun j st w' h => h.1) (fun j st w' hp => ?_) ?_ ?_
  · rw [List.take_zero]
    exact Buf.st bf3 f4 fun k hk e => ⟨fun h => h, e, hk⟩
  · exact d4.own.mono fun k hk e => ⟨e.1, e.2, hk⟩
  · exact St.mono (ordO_st a b) (d4.at_ i a b h1 h2) fun k hk e => ⟨e.1, e.2, hk⟩
  · obtain ⟨_, _, _, _, _, _, _, _, h, _⟩ := hp
    exact h.sl.mono fun _ _ _ => trivial
  · rintro j x ⟨want, _⟩ w5 w6 K' hx ⟨rfl, f5, G, rwW, bf, hG, ow, aw, ot, tw⟩ - B6 f6 s6 hK
    have hjl := (List.getElem?_eq_some_iff.1 hx).1
    have hjL : j < LF.length := by omega
    obtain ⟨o, ho⟩ : ∃ o, LF[j]? = some o := ⟨_, List.getElem?_eq_getElem hjL⟩
    have hom := List.mem_of_getElem? ho
    have tx := tw j x o (Nat.le_refl _) hx ho
    have hs5 := f5.size
    have hs6 : w6.heap.size = w5.heap.size + 1 := s6
    have f46 : Fr (Up w2.heap.size) w4 w6 := f5.then f6.any
    have R6 := keep2 f46
    have hal := R6.all.len
    have hsl := R6.sl.len
    have e1 := push_good (L := LF.take j) (by rw [List.length_take]; omega) o
    rw [← take_at ho] at e1
    refine R6.sl.get (j := j) rfl rfl (by omega) fun x11 hx11 => ?_
    have rx := R6.all.at_ j x11 o hx11 ho
    refine spec_r13_Check rx (sm o hom).1 (sm o hom).2 fun w7 f7 => ?_
    refine joinI (fun z w' => z = false ∧ Buf b (goodL (LF.take (j + 1))) (Ex G w5) w' ∧ Fr G w6 w') ?_ ?_
    · have t7 := ordO_st x o tx (f6.then0 f7) fun k hk e => ⟨fun h => h, e⟩
      have B7 := B6.fr f7 fun h => h
      refine aggI B7 (x := x) rfl (spec_orders_Check t7.r (sm o hom).2 fun w8 f8 => ?_)
      refine condF (by simp) ?_
      have B8 := B7.fr f8 fun h => h
      have t8 := ordO_st x o t7 f8 fun k hk e => ⟨fun h => h, e⟩
      have f58 := f6.then0 (f7.then0 f8)
      have hl := goodL_len (LF.take j)
      rw [List.length_take] at hl
      refine aggI B8 (x := x) rfl (spec_Push (Buf.st.fr0 bf f58) (by omega) t8.r (sm o hom).2 fun w9 bf9 f9 => ?_)
      rw [e1.1]
      rw [e1.2] at bf9
      have B9 := B8.fr f9 fun e => by have := (hG _ e).2; omega
      refine condF (by simp) (aggI B9 (x := x) rfl (spec_Push0 fun w10 f10 => ⟨rfl, ?_, ?_⟩))
      · have hs8 := f58.size
        exact Buf.st bf9 f10 fun k _ e => ⟨fun h => h, by rcases e with e | e; exact .inl e; exact .inr (by omega)⟩
      · exact ((f7.then0 f8).any.then f9).then f10.any
    · rintro z w10 ⟨rfl, bf10, f10⟩
      refine condF rfl ?_
      have hs10 := f10.size
      have B10 := B6.fr f10 fun e => by have := (hG _ e).2; omega
      have f510 : Fr G w5 w10 := f6.any.then f10
      have f410 : Fr (Up w2.heap.size) w4 w10 := f46.then (f10.sub fun k e => by show w2.heap.size ≤ k; have := (hG k e).1; omega)
      have ow10 : Own (fun k => w4.heap.size ≤ k ∧ ¬ G k ∧ k < w5.heap.size) w10 41 ordT want rwW := Own.st ow f510 fun k hk e => ⟨e.2, e.1, e.2, hk⟩
      have t10 := ordO_st x o tx f510 (F' := fun k => w3.heap.size ≤ k ∧ lab4 k = j + 1 ∧ k < w4.heap.size) fun k hk e => ⟨fun e2 => by have := (hG k e2).1; omega, e⟩
      have haw := aw.len
      have hwl := goodL_len (LF.take j)
      rw [List.length_take] at hwl
      refine joinI (fun (z : Sl) w' => Fr (fun k => (w4.heap.size ≤ k ∧ ¬ G k ∧ k < w5.heap.size)) w10 w' ∧ ∃ rw', Own (fun k => (w4.heap.size ≤ k ∧ ¬ G k ∧ k < w5.heap.size) ∨ w10.heap.size ≤ k) w' 41 ordT z rw' ∧ All2 (fun a b => ordR (fun k => k < w2.heap.size) w2 a b) rw' (goodL (LF.take (j + 1)))) ?_ ?_
      · rw [take_at ho, goodL_snoc]
        refine condE (fun h0 => ?_) fun h0 => ?_
        · have R10 := keep2 f410
          rw [if_pos h0]
          refine R10.sl.get (j := j) rfl rfl (by have := R10.sl.len; omega) fun y hy => ?_
          rw [hx11] at hy
          cases hy
          refine appP (x := x11) ords_ty rfl (ow10.mono fun k _ e => .inl e : Own (fun k => (w4.heap.size ≤ k ∧ ¬ G k ∧ k < w5.heap.size) ∨ w10.heap.size ≤ k) w10 _ _ _ _) (fun k e => .inr e) (by omega) (by omega) fun r w11 o11 f11 => ⟨f11.sub fun k e => ow10.own k e, rwW ++ [x11], o11, aw.snoc (R2.all.at_ j x11 o hx11 ho)⟩
        · rw [if_neg h0]
          exact ⟨Fr.refl _ _, rwW, ow10.mono fun k _ e => .inl e, aw⟩
      · rintro z w11 ⟨f11, rw', o11, a11⟩
        have hs11 := f11.size
        have B11 := B10.fr f11 fun e => by omega
        refine fldI B11 (x := x.2.2.2) rfl ?_
        have t11 := ordO_st x o t10 f11 (F' := fun k => w3.heap.size ≤ k ∧ lab4 k = j + 1 ∧ k < w4.heap.size) fun k hk e => ⟨fun e2 => by omega, e⟩
        have hxn : x.2.2.2.n = o.2.2.2.length := t11.2.2.2.len
        have hcm := (sm o hom).2
        have hcm : o.2.2.2.length ≤ 1048576 := hcm
        refine forI (N := x.2.2.2.n) (fun s : Int => s) (fun q i w' => i = (q : Int) ∧ ∃ l' : List Comp, l'.length = o.2.2.2.length ∧ Own (fun k => w3.heap.size ≤ k ∧ lab4 k = j + 1 ∧ k < w4.heap.size) w' 55 compT x.2.2.2 l' ∧ Fr (fun k => w3.heap.size ≤ k ∧ lab4 k = j + 1 ∧ k < w4.heap.size) w11 w')
          ⟨rfl, _, rfl, t11.2.2.2, Fr.refl _ _⟩ (fun j s w' h => h.1) ?_ ?_
        · rintro q i w12 K2 hq ⟨rfl, l', hl', o12, f12⟩ - hK2
          have fd : Fr None w12 w12.drew := (Fr.refl _ _).drew
          have B12 := (B11.fr f12 fun e => by omega).fr fd fun h => h
          refine fldI B12 (x := x.2.2.2) rfl ?_
          refine flipS (o12.none fd) rfl (by omega) fun w13 l2 hl2 o13 f13 => ?_
          exact hK2 _ _ ⟨wsucc hq (by omega), l2, by omega, o13, (f12.then fd.any).then (f13.sub fun k e => o12.own k e)⟩
        · rintro i w12 ⟨-, l', _, _, f12⟩
          have hs12 := f12.size
          have f1012 : Fr (fun k => (w4.heap.size ≤ k ∧ ¬ G k ∧ k < w5.heap.size) ∨ (w3.heap.size ≤ k ∧ lab4 k = j + 1 ∧ k < w4.heap.size)) w10 w12 := (f11.sub fun k e => .inl e).then (f12.sub fun k e => .inr e)
          have bf12 : Buf b (goodL (LF.take (j + 1))) (fun k => Ex G w5 k ∧ k < w10.heap.size) w12 := Buf.st bf10 f1012 fun k hk e => ⟨fun e2 => ?_, e, hk⟩
          · refine spec_BufLen bf12 (condF ?_ (hK _ _ ⟨wsucc hjl (by omega), f410.then (f1012.sub fun k e => by show w2.heap.size ≤ k; omega), _, rw', bf12, fun k e => ?_, ?_, a11, ?_, ?_⟩))
            · have h1 : z.n = rw'.length := o11.len
              have h2 := a11.len
              simp [h1, h2]
            · rcases e.1 with h | h
              · exact ⟨(hG k h).1, by omega⟩
              · exact ⟨.inr (by omega), by omega⟩
            · refine Own.st o11 f12 fun k hk e => ⟨fun e2 => by omega, by omega, fun e2 => ?_⟩
              rcases e with e | e
              · rcases e2.1 with h | h
                · exact e.2.1 h
                · omega
              · omega
            · refine Own.st (Own.st ot f510 (F' := fun k => w3.heap.size ≤ k ∧ lab4 k = 0 ∧ k < w4.heap.size) fun k hk e => ⟨fun e2 => by have := (hG k e2).1; omega, e⟩) f1012 fun k hk e => ⟨fun e2 => by omega, e⟩
            · intro i a b2 hi h1 h2
              exact ordO_st a b2 (ordO_st a b2 (tw i a b2 (by omega) h1 h2) f510 (F' := fun k => w3.heap.size ≤ k ∧ lab4 k = i + 1 ∧ k < w4.heap.size) fun k hk e => ⟨fun e2 => by have := (hG k e2).1; omega, e⟩) f1012 fun k hk e => ⟨fun e2 => by omega, e⟩
          · rcases e with e | e
            · rcases e2 with e2 | e2
              · exact e2.2.1 e
              · have := (hG k e).1; omega
            · omega
  · rintro ⟨want, _⟩ w5 ⟨-, f5, G, rwW, bf, hG, ow, aw, _, _⟩
    rw [hrl, List.take_length] at bf aw
    have hGb := bf.has
    have hs5 := f5.size
    have haw := aw.len
    have hwn : want.n = rwW.length := ow.len
    have hwl := goodL_len LF
    refine spec_Take bf fun r raws5 w6 bf6 hR6 f6 => ?_
    have hrn : r.n = (goodL LF).length := by rw [hR6.sl.len, hR6.all.len]
    refine joinI (fun z w' => z = false ∧ Fr (fun k => k = b) w6 w') ?_ ?_
    · refine condF (by simp [hrn, hwn, haw]) (spec_BufLen bf6 (condF rfl (spec_Take bf6 fun r2 raws6 w7 bf7 hR7 f7 => ?_)))
      have : r2.n = 0 := by rw [hR7.sl.len, hR7.all.len]; rfl
      refine condF (by rw [this]; rfl) (spec_Take0 (condF rfl (spec_BufLen0 ⟨rfl, f7⟩)))
    · rintro z w7 ⟨rfl, f7⟩
      refine condF rfl ?_
      have f57 := f6.then f7
      have R7 : DR ordR (t := ordT) (fun k => G k ∧ k ≠ b) w7 r raws5 (goodL LF) := DR.st ordR_st hR6 f7 fun k _ e => ⟨e.2, e⟩
      have ow7 : SlT (fun k => w4.heap.size ≤ k ∧ ¬ G k) w7 ordT want rwW := SlT.st ow.sl f57 fun k hk e => ⟨fun e2 => by subst e2; exact e.2 hGb.1, e⟩
      have aw7 : All2 (fun a b => ordR (fun k => k < w2.heap.size) w7 a b) rwW (goodL LF) := aw.imp fun x y h => ordR_st x y h ((f24.any.then f5).then (f57.sub fun k e => by show w2.heap.size ≤ k; have := (hG _ hGb.1).1; omega)) fun k hk e => ⟨fun e2 => by have e2 : w2.heap.size ≤ k := e2; omega, e⟩
      have fin : Fr None W w7 := ((f02.then0 f24).newer f5 fun k e => by have e : w2.heap.size ≤ k := e; omega).newer f57 fun k e => by have := (hG _ hGb.1).1; omega
      refine forI (N := r.n) (fun s : Int => s) (fun j i w' => i = (j : Int) ∧ Fr None w7 w') ⟨rfl, Fr.refl _ _⟩ (fun j s w' h => h.1) ?_ ?_
      · rintro j i w8 K' hj ⟨rfl, f8⟩ - hK
        have f8d := f8.drew
        have hral := R7.all.len
        refine (R7.sl.fr0 f8d).get rfl rfl (by omega) fun x hx => ?_
        refine (ow7.fr0 f8d).get rfl rfl (by omega) fun y hy => ?_
        obtain ⟨o, ho, h1⟩ := R7.all.getL hx
        have h2 := aw7.at_ j y o hy ho
        refine spec_SameOrder (ordR_st x o h1 f8d fun _ _ e => ⟨fun h => h, e⟩) (ordR_st y o h2 f8d fun _ _ e => ⟨fun h => h, e⟩) ?_ fun w9 f9 => ?_
        · have : o ∈ LF := (List.mem_filter.1 (List.mem_of_getElem? ho)).1
          exact (sm o this).2
        · exact condF (by simp) (hK _ _ ⟨wsucc hj (by omega), f8d.then0 f9⟩)
      · rintro i w8 ⟨-, f8⟩
        exact ⟨rfl, fin.then0 f8⟩

/-! ### the row -/
set_option maxRecDepth 100000 in
theorem ordersChecks_lifted (os : Os) (started : os.Started) (H : Type) (enc : TypeId × Value → H) :
    ReturnsInHanded {} Try.checked os 6 .any (Rows.ordersChecksSpec.pre6 enc Try.prog Try.f6 Rows.ordersChecksRow.domain false) (Rows.ordersChecksSpec.post enc Try.prog Try.f6 false true false false) := by
  refine returnsInHanded_of_change (C := Try.checked) own_knob started (by kernel_rfl) Try.func6
    (ChangeSpec.witness6 (enc := enc) (C := Try.checked) false ⟨#[], #[.slice none 0 0], []⟩ 8 (by kernel_rfl) (by kernel_rfl) (by kernel_rfl) (by kernel_rfl)) ?_
  intro W base args ds gs before hval0 hW hcnd _
  have hval : ∀ (j : Nat) t v, Try.f6.params[j]? = some t → args[j]? = some v → Value.okWide Try.prog W .any base t v := hval0
  have hW' := hW
  obtain ⟨p, q, hA0, hV, rfl, hfz, hnd⟩ := hW
  have hA : DataW.TrodAll enc Try.prog W 0 (fun _ => true) true Try.f6.params.toList args.toList ds p := hA0
  rw [Try.params6] at hA hval
  obtain ⟨v0, d0, rfl, rfl, h0⟩ := trodAll_one hA
  obtain ⟨s0, l0, rfl, S0, c0, e0⟩ := arg_slice orders_arg (hval 0 _ v0 rfl rfl) h0
  obtain ⟨L0, O0⟩ := orders_in fun r hr => e0 r hr
  refine (law_OrdersChecks S0 O0 c0).mono fun e W' ⟨he, hf⟩ => ?_
  subst he
  exact ⟨_, rfl, law_post laid_out bool_und (by kernel_rfl) (by rw [Try.params6]; decide +kernel) rfl ⟨rfl, rfl, rfl⟩ hW' hf⟩

theorem ordersChecks_holds : Rows.OrdersChecksSaid :=
  OpenClaim.holds_of_wide 6 Try.f6 rfl rfl rfl rfl rfl rfl rfl ⟨rfl, rfl, rfl, rfl, rfl⟩ rfl rfl rfl rfl rfl (by kernel_rfl) Try.func6 (by kernel_rfl)
    (of_decide_eq_true (by kernel_rfl)) (by unfold Func.isWrapper; first | (rw [if_pos (by decide +kernel)]; kernel_rfl) | (rw [if_neg (by decide +kernel)]; exact ⟨rfl, rfl⟩))
    (fun os started H enc _ => ordersChecks_lifted os started H enc)

end Go.Proofs.Ytecmpmnaeciapaa
