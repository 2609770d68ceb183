/-
  OrdersNone: its Go text answers true, whatever the input.
-/
import Derived.Test.YtecmpmnaeciapaaArg
import Derived.Test.YtecmpmnaeciapaaOrd2
import Derived.Test.YtecmpmnaeciapaaFL13
namespace Go.Proofs.Ytecmpmnaeciapaa
open Go Go.RowKit Go.ChangeShapes Go.WideShapes Go.ChangeAt Go.Proofs.Ytecmpmnaeciapaa.Den
variable {R : Type} {Q : R → World → Prop} {w : World}

/-- a literal. -/
theorem Den.litI {E : TypeId} {t : Ty} {cs : List Value} {K : Addr → W R} (l : List t.T) (hc : cs = l.flatMap t.cells) (hm : l.length ≤ 1000) (hk : ∀ w', SlT (Up w.heap.size) w' t ⟨some ⟨w.heap.size, 0, none⟩, l.length, l.length⟩ l → Fr None w w' → K ⟨w.heap.size, 0, none⟩ Q w') : newW E cs K Q w := by
  refine newI fun w1 B1 f1 s1 => hk w1 ?_ f1
  subst hc
  exact (Own.mk' (S := Up w.heap.size) (w := w1) (E := E) (t := t) (l := l) (g := w.heap.size) (c := l.length) (cur := ⟨l.flatMap t.cells⟩) (Nat.le_refl _) B1 (Nat.le_refl _) (by rw [maxLen_eq]; omega) (show (l.flatMap t.cells).length = _ from flat_len l) (by rw [List.take_of_length_le]; rw [flat_len]; exact Nat.le_refl _)).sl

theorem spec_l13_awake {K : Res [.sc .bool] → W R} (hk : ∀ w', Fr None w w' → K true Q w') : callW Try.prog k_pinnacelaw13_awake [] [.sc .bool] K Q w := by
  refine C_pinnacelaw13_awake K Q w ?_
  unfold F_pinnacelaw13_awake
  refine spec_store_New (fun h => absurd (by decide) h) fun b w1 _ st1 f1 => ?_
  have hs1 := f1.size
  refine litI (t := ordT) (cs := _) [((1, 0, 0, ⟨none, 0, 0⟩) : OrdRaw), (2, 1024, 0, ⟨none, 0, 0⟩), (2, 1024, 0, ⟨none, 0, 0⟩)] rfl (by decide) fun w2 l2 f2 => ?_
  have hR : DR ordR (t := ordT) (Up w1.heap.size) w2 ⟨some ⟨w1.heap.size, 0, none⟩, 3, 3⟩ [((1, 0, 0, ⟨none, 0, 0⟩) : OrdRaw), (2, 1024, 0, ⟨none, 0, 0⟩), (2, 1024, 0, ⟨none, 0, 0⟩)] [(1, 0, 0, []), (2, 1024, 0, []), (2, 1024, 0, [])] := by
    refine ⟨l2, rfl, fun i a b h1 h2 => ?_⟩
    rcases i with _ | _ | _ | i
    · simp at h1 h2; subst h1; subst h2; exact ⟨rfl, rfl, rfl, SlT.nil _⟩
    · simp at h1 h2; subst h1; subst h2; exact ⟨rfl, rfl, rfl, SlT.nil _⟩
    · simp at h1 h2; subst h1; subst h2; exact ⟨rfl, rfl, rfl, SlT.nil _⟩
    · simp at h1
  refine spec_orders_All (Store.st.fr0 st1.shut f2) hR (fun k _ e e2 => by have e : w1.heap.size ≤ k := e; omega) (fun o ho => ?_) (by decide) fun r w3 G st3 hG o3 f3 => ?_
  · simp only [List.mem_cons, List.not_mem_nil, or_false] at ho
    rcases ho with rfl | rfl | rfl
    · exact ⟨⟨by decide, ⟨by decide, by decide⟩, by decide, by simp⟩, by decide⟩
    · exact ⟨⟨by decide, ⟨by decide, by decide⟩, by decide, by simp⟩, by decide⟩
    · exact ⟨⟨by decide, ⟨by decide, by decide⟩, by decide, by simp⟩, by decide⟩
  have e3 : (allM (StM.new 3 1) [(1, 0, 0, []), (2, 1024, 0, []), (2, 1024, 0, [])]).1 = [(0, 1024), (0, 1024), (7, 0)] := by kernel_rfl
  rw [show Int.toNat 3 = 3 from rfl, e3] at o3
  have f03 : Fr None w w3 := (f1.then0 f2).newer f3 fun k e => e.1
  refine joinK (litI (t := resT) [((0, 1024) : Int × Int), (0, 1024), (7, 0)] rfl (by decide) fun w4 l4 f4 => ?_)
  refine spec_SameResults (o3.sl.fr0 f4) l4 (by decide) fun w5 f5 => ?_
  refine condT (decide_eq_true rfl) (spec_orders_New fun b2 w6 bf6 f6 => ?_)
  refine spec_Push bf6 (by decide) (r := (3, 0, 0, ⟨none, 0, 0⟩)) (o := (3, 0, 0, [])) (ok := fun _ => False) ⟨rfl, rfl, rfl, SlT.nil _⟩ (by decide) fun w7 bf7 f7 => ?_
  have f06 := (((f03.then0 f4).then0 f5).then0 f6)
  have hs5 := ((f03.then0 f4).then0 f5).size
  exact hk w7 (f06.newer f7 fun k e => by have e : w5.heap.size ≤ k := e; omega)

theorem doN_ok (o : Ordr) : (doN o).2 = 0 ∧ ((ochk o ≠ 0 ∧ (doN o).1 = ochk o) ∨ (ochk o = 0 ∧ (doN o).1 = 10)) := by
  unfold doN
  by_cases h : ochk o ≠ 0
  · rw [if_pos h]; exact ⟨rfl, .inl ⟨h, rfl⟩⟩
  · rw [if_neg h]; exact ⟨rfl, .inr ⟨by simpa using h, rfl⟩⟩

theorem law_OrdersNone {W : World} {r : OrdRaw} {o : Ordr} (ho : OrdIn W r o) :
    Calls Try.prog 5 #[.agg ⟨ordC r⟩] W (fun e w' => e = .returned (.bool true) ∧ Fr None W w') := by
  refine calls_of (C_pinnacelaw13_OrdersNone r _ _ W ?_)
  unfold F_pinnacelaw13_OrdersNone
  obtain ⟨⟨h1, h2, h3, hS⟩, hok, hcap⟩ := ho
  rw [maxLen_eq] at hcap
  have hlen := hS.len
  have hsc := hS.cap
  refine newI fun w1 B1 f1 s1 => spec_l13_awake fun w2 f2 => condF rfl ?_
  have B2 := B1.fr f2 fun h => h
  have f02 := f1.then0 f2
  refine fldI B2 (x := r.2.2.2) rfl (fldI B2 (x := r.2.2.2) rfl ?_)
  refine (hS.fr0 f02).cutI (n := min o.2.2.2.length 20) (by split <;> omega) (by omega) fun sl _ hsl => ?_
  refine setA (i := 3) B2 (show 3 < 4 by omega) rfl fun w3 B3 f3 s3 => ?_
  have f03 : Fr None W w3 := f02.newer f3 fun k e => by omega
  have hS3 := (hsl _ _ hS).fr0 f03
  generalize hl20 : o.2.2.2.take (min o.2.2.2.length 20) = l20 at hS3
  have hsm : Small l20 := by subst hl20; simp [Small]; omega
  have hok' : OrdOk (o.1, o.2.1, o.2.2.1, l20) := ⟨hok.do_, hok.id, hok.kind, fun c hc => hok.comps c (by subst hl20; exact List.mem_of_mem_take hc)⟩
  have hr : ordR (Old W) w3 (r.1, r.2.1, r.2.2.1, sl) (o.1, o.2.1, o.2.2.1, l20) := ⟨h1, h2, h3, hS3⟩
  refine aggI B3 (x := (r.1, r.2.1, r.2.2.1, sl)) rfl (spec_orders_Do0 hr hsm fun w4 f4 => ?_)
  refine newI fun w5 B5 f5 s5 => stoAll B5 rfl rfl fun w6 B6 f6 s6 => ?_
  have f46 : Fr None w4 w6 := f5.newer f6 fun k e => by omega
  have f36 := f4.then0 f46
  refine aggI (B3.fr f36 fun h => h) (x := (r.1, r.2.1, r.2.2.1, sl)) rfl ?_
  refine spec_r13_Check (ordR_st _ _ hr f36 fun _ _ e => ⟨fun h => h, e⟩) hok' hsm fun w7 f7 => ?_
  have B7 := B6.fr f7 fun h => h
  obtain ⟨e1, e2⟩ := doN_ok (o.1, o.2.1, o.2.2.1, l20)
  have fin : Fr None W w7 := (f03.then0 f36).then0 f7
  refine joinK (fldI B7 (x := (doN (o.1, o.2.1, o.2.2.1, l20)).2) rfl (condT (by rw [e1]; rfl) ?_))
  rcases e2 with ⟨h, e2⟩ | ⟨h, e2⟩
  · refine condT (by simpa using h) (fldI B7 (x := (doN (o.1, o.2.1, o.2.2.1, l20)).1) rfl (condT (by rw [e2]; simp) ⟨rfl, fin⟩))
  · refine condF (by rw [h]; rfl) (condT (by rw [h]; rfl) (fldI B7 (x := (doN (o.1, o.2.1, o.2.2.1, l20)).1) rfl ⟨by rw [e2]; rfl, fin⟩))

/-! ### the row -/
set_option maxRecDepth 100000 in
theorem ordersNone_lifted (os : Os) (started : os.Started) (H : Type) (enc : TypeId × Value → H) :
    ReturnsInHanded {} Try.checked os 5 .any (Rows.ordersNoneSpec.pre6 enc Try.prog Try.f5 Rows.ordersNoneRow.domain false) (Rows.ordersNoneSpec.post enc Try.prog Try.f5 false true false false) := by
  refine returnsInHanded_of_change (C := Try.checked) own_knob started (by kernel_rfl) Try.func5
    (ChangeSpec.witness6 (enc := enc) (C := Try.checked) false ⟨#[], #[.agg #[.int .u8 0, .int .u32 0, .int .u8 0, .slice none 0 0]], []⟩ 8 (by kernel_rfl) (by kernel_rfl) (by kernel_rfl) (by kernel_rfl)) ?_
  intro W base args ds gs before hval0 hW hcnd _
  have hval : ∀ (j : Nat) t v, Try.f5.params[j]? = some t → args[j]? = some v → Value.okWide Try.prog W .any base t v := hval0
  have hW' := hW
  obtain ⟨p, q, hA0, hV, rfl, hfz, hnd⟩ := hW
  have hA : DataW.TrodAll enc Try.prog W 0 (fun _ => true) true Try.f5.params.toList args.toList ds p := hA0
  rw [Try.params5] at hA hval
  obtain ⟨v0, d0, rfl, rfl, h0⟩ := trodAll_one hA
  obtain ⟨x0, rfl, e0⟩ := arg_agg order_arg (hval 0 _ v0 rfl rfl) h0
  obtain ⟨o0, O0⟩ := order_in e0
  refine (law_OrdersNone O0).mono fun e W' ⟨he, hf⟩ => ?_
  subst he
  exact ⟨_, rfl, law_post laid_out bool_und (by kernel_rfl) (by rw [Try.params5]; decide +kernel) rfl ⟨rfl, rfl, rfl⟩ hW' hf⟩

theorem ordersNone_holds : Rows.OrdersNoneSaid :=
  OpenClaim.holds_of_wide 5 Try.f5 rfl rfl rfl rfl rfl rfl rfl ⟨rfl, rfl, rfl, rfl, rfl⟩ rfl rfl rfl rfl rfl (by kernel_rfl) Try.func5 (by kernel_rfl)
    (of_decide_eq_true (by kernel_rfl)) (by unfold Func.isWrapper; first | (rw [if_pos (by decide +kernel)]; kernel_rfl) | (rw [if_neg (by decide +kernel)]; exact ⟨rfl, rfl⟩))
    (fun os started H enc _ => ordersNone_lifted os started H enc)

end Go.Proofs.Ytecmpmnaeciapaa
