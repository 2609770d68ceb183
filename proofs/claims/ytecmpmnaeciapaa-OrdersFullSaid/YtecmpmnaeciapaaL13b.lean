/-
  OrdersFull: its Go text answers true, whatever the input.
-/
import Derived.Test.YtecmpmnaeciapaaL13
namespace Go.Proofs.Ytecmpmnaeciapaa
open Go Go.RowKit Go.ChangeShapes Go.WideShapes Go.ChangeAt Go.Proofs.Ytecmpmnaeciapaa.Den
variable {R : Type} {Q : R → World → Prop} {w : World}

theorem Buf.shut {F : Nat → Prop} {b : Nat} {L : List Ordr} (h : Buf b L F w) : Buf b L (fun k => F k ∧ k < w.heap.size) w := Buf.st.mono h fun _ hk e => ⟨e, hk⟩
abbrev ord1 : Ordr := (1, 0, 0, [])
theorem ord1_r {ok : Nat → Prop} : ordR ok w (1, 0, 0, ⟨none, 0, 0⟩) ord1 := ⟨rfl, rfl, rfl, SlT.nil _⟩
theorem push1 {L : List Ordr} : pushE L ord1 = if 256 ≤ L.length then 8 else 0 := by
  unfold pushE
  rw [if_neg (show ¬ ochk ord1 ≠ 0 from fun h => h rfl)]

theorem law_OrdersFull {W : World} {more : Int} (hm : 0 ≤ more ∧ more ≤ 255) :
    Calls Try.prog 7 #[.int .u8 more] W (fun e w' => e = .returned (.bool true) ∧ Fr None W w') := by
  refine calls_of (C_pinnacelaw13_OrdersFull more _ _ W ?_)
  unfold F_pinnacelaw13_OrdersFull
  refine spec_l13_awake fun w1 f1 => condF rfl (spec_orders_New fun b w2 bf2 f2 => ?_)
  have hs1 := f1.size
  have f02 := f1.then0 f2
  refine forI (N := 256) (fun s : Int => s) (fun j i w' => i = (j : Int) ∧ j ≤ 256 ∧ ∃ L, L.length = j ∧ Buf b L (Up W.heap.size) w' ∧ Fr None W w') ⟨rfl, by omega, [], rfl, Buf.st.mono bf2 fun k _ e => by have e : w1.heap.size ≤ k := e; show W.heap.size ≤ k; omega, f02⟩ (fun j s w' h => h.1) ?_ ?_
  · rintro j i w3 K' hj ⟨rfl, _, L, hL, bf, f3⟩ - hK
    have hs3 := f3.size
    refine spec_Push bf (by omega) (ord1_r (ok := fun _ => False)) (by decide) fun w4 bf4 f4 => ?_
    have e1 : pushE L ord1 = 0 := by rw [push1, if_neg (by omega)]
    have e2 : pushL L ord1 = L ++ [ord1] := by rw [pushL, e1]; rfl
    rw [e1]
    rw [e2] at bf4
    refine condF rfl (hK _ _ ⟨wsucc hj (by omega), hj, L ++ [ord1], by simp [hL], Buf.st.mono bf4 fun k _ e => ?_, f3.newer f4 fun k e => e⟩)
    rcases e with e | e
    · exact e
    · show W.heap.size ≤ k; omega
  · rintro i w3 ⟨rfl, _, L, hL, bf, f3⟩
    have e5 : IntKind.wrap .u8 (1 + Int.tmod more 5) = ((1 + more.toNat % 5 : Nat) : Int) := by
      have h1 : Int.tmod more 5 = more % 5 := Int.tmod_eq_emod_of_nonneg hm.1
      rw [h1, wu8 (by omega)]
      omega
    rw [e5]
    refine forI (N := 1 + more.toNat % 5) (fun s : Int => s) (fun j i w' => i = (j : Int) ∧ ∃ L, L.length = 256 ∧ Buf b L (Up W.heap.size) w' ∧ Fr None W w') ⟨rfl, L, hL, bf, f3⟩ (fun j s w' h => h.1) ?_ ?_
    · rintro j i w4 K' hj ⟨rfl, L, hL, bf, f4⟩ - hK
      have hs4 := f4.size
      refine joinI (fun z w' => z = false ∧ ∃ L, L.length = 256 ∧ Buf b L (Up W.heap.size) w' ∧ Fr None W w') ?_ ?_
      · refine spec_Push bf (by omega) (ord1_r (ok := fun _ => False)) (by decide) fun w5 bf5 f5 => ?_
        have e1 : pushE L ord1 = 8 := by rw [push1, if_pos (by omega)]
        have e2 : pushL L ord1 = L := by rw [pushL, e1]; rfl
        rw [e1]
        rw [e2] at bf5
        refine condF rfl (spec_BufLen bf5 ⟨by rw [hL]; rfl, L, hL, Buf.st.mono bf5 fun k _ e => ?_, f4.newer f5 fun k e => e⟩)
        rcases e with e | e
        · exact e
        · show W.heap.size ≤ k; omega
      · rintro z w5 ⟨rfl, h⟩
        refine condF rfl (hK _ _ ⟨?_, h⟩)
        show IntKind.wrap .u8 ((j : Int) + 1) = _
        rw [wu8 (by omega)]; rfl
    · rintro i w4 ⟨rfl, L, hL, bf, f4⟩
      refine joinK (spec_Take bf fun r raws w5 bf5 hR f5 => ?_)
      have hb : W.heap.size ≤ b := by obtain ⟨_, _, _, h, _⟩ := bf; exact h
      have hrn : r.n = 256 := by rw [hR.sl.len, hR.all.len, hL]
      refine condT (by rw [hrn]; rfl) (spec_Push bf5 (by decide) (ord1_r (ok := fun _ => False)) (by decide) fun w6 bf6 f6 => ?_)
      exact ⟨by rw [push1]; rfl, (f4.newer f5 fun k e => by omega).newer f6 fun k e => by omega⟩

/-! ### the row -/
set_option maxRecDepth 100000 in
theorem ordersFull_lifted (os : Os) (started : os.Started) (H : Type) (enc : TypeId × Value → H) :
    ReturnsInHanded {} Try.checked os 7 .any (Rows.ordersFullSpec.pre6 enc Try.prog Try.f7 Rows.ordersFullRow.domain false) (Rows.ordersFullSpec.post enc Try.prog Try.f7 false true false false) := by
  refine returnsInHanded_of_change (C := Try.checked) own_knob started (by kernel_rfl) Try.func7
    (ChangeSpec.witness6 (enc := enc) (C := Try.checked) false ⟨#[], #[.int .u8 0], []⟩ 8 (by kernel_rfl) (by kernel_rfl) (by kernel_rfl) (by kernel_rfl)) ?_
  intro W base args ds gs before hval0 hW hcnd _
  have hval : ∀ (j : Nat) t v, Try.f7.params[j]? = some t → args[j]? = some v → Value.okWide Try.prog W .any base t v := hval0
  have hW' := hW
  obtain ⟨p, q, hA0, hV, rfl, hfz, hnd⟩ := hW
  have hA : DataW.TrodAll enc Try.prog W 0 (fun _ => true) true Try.f7.params.toList args.toList ds p := hA0
  rw [Try.params7] at hA hval
  obtain ⟨v0, d0, rfl, rfl, h0⟩ := trodAll_one hA
  obtain ⟨a0, rfl, w0⟩ := arg_int u8_und (hval 0 _ v0 rfl rfl) h0
  refine (law_OrdersFull (wf_u8 w0)).mono fun e W' ⟨he, hf⟩ => ?_
  subst he
  exact ⟨_, rfl, law_post laid_out bool_und (by kernel_rfl) (by rw [Try.params7]; decide +kernel) rfl ⟨rfl, rfl, rfl⟩ hW' hf⟩

theorem ordersFull_holds : Rows.OrdersFullSaid :=
  OpenClaim.holds_of_wide 7 Try.f7 rfl rfl rfl rfl rfl rfl rfl ⟨rfl, rfl, rfl, rfl, rfl⟩ rfl rfl rfl rfl rfl (by kernel_rfl) Try.func7 (by kernel_rfl)
    (of_decide_eq_true (by kernel_rfl)) (by unfold Func.isWrapper; first | (rw [if_pos (by decide +kernel)]; kernel_rfl) | (rw [if_neg (by decide +kernel)]; exact ⟨rfl, rfl⟩))
    (fun os started H enc _ => ordersFull_lifted os started H enc)

end Go.Proofs.Ytecmpmnaeciapaa
