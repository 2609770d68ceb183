/-
  OrdersParts: its Go text answers true, whatever the input.
-/
import Derived.Test.YtecmpmnaeciapaaGreatL13
import Derived.Test.YtecmpmnaeciapaaGreatRef10
namespace Go.Proofs.YtecmpmnaeciapaaGreat
open Go Go.RowKit Go.ChangeShapes Go.WideShapes Go.ChangeAt Go.Proofs.YtecmpmnaeciapaaGreat.Den
variable {R : Type} {Q : R → World → Prop} {w : World}

theorem fewO_len (L : List Ordr) (n : Nat) : (fewO L n).length ≤ n := by simp [fewO]; omega
theorem fewO_ok {L : List Ordr} {n : Nat} (h : ∀ o ∈ L, OrdOk o) : ∀ o ∈ fewO L n, OrdOk o ∧ o.2.2.2.length ≤ 20 := fun o ho => by
  obtain ⟨p, hp, rfl⟩ := List.mem_map.1 ho
  have hk := h p (List.mem_of_mem_take hp)
  exact ⟨⟨hk.do_, hk.id, hk.kind, fun c hc => hk.comps c (List.mem_of_mem_take hc)⟩, by simp; omega⟩
theorem Den.DR.mono' {ok ok' : Nat → Prop} {s : Sl} {raws : List OrdRaw} {L : List Ordr} (h : DR ordR (t := ordT) ok w s raws L) (hk : ∀ k, k < w.heap.size → ok k → ok' k) : DR ordR (t := ordT) ok' w s raws L := DR.st ordR_st h (Fr.refl None w) fun k hl e => ⟨fun h => h, hk k hl e⟩
theorem Den.DR.fr0' {ok : Nat → Prop} {s : Sl} {raws : List OrdRaw} {L : List Ordr} (h : DR ordR (t := ordT) ok w s raws L) {w' : World} (f : Fr None w w') : DR ordR (t := ordT) ok w' s raws L := DR.st ordR_st h f fun _ _ e => ⟨fun h => h, e⟩
/-- orders, cut to what a law looks at. -/
theorem spec_few {V : World} {s : Sl} {raws : List OrdRaw} {L : List Ordr} (hS : SlT (Old V) V ordT s raws) (hO : All2 (OrdIn V) raws L) (hc : s.c ≤ maxLen) (f : Fr None V w) {n : Nat} (hn : n ≤ 1000) {K : Res [.sc .sl] → W R}
    (hk : ∀ r raws' LF w', DR ordR (t := ordT) (fun k => k < w'.heap.size) w' r raws' LF → r.n = LF.length → r.n ≤ r.c → LF = fewO L n → LF.length ≤ n → (∀ o ∈ LF, OrdOk o ∧ o.2.2.2.length ≤ 20) → Fr None w w' → K r Q w') : callW Tryz.prog k_pinnaceref13_Few [.slice s.a s.n s.c, .int .i64 (n : Int)] [.sc .sl] K Q w := by
  have hR : DR ordR (t := ordT) (Old V) w s raws L := DR.fr0' ⟨hS, hO.imp fun _ _ h => h.1⟩ f
  rw [maxLen_eq] at hc
  refine spec_r13_Few hR hc hn (fun r hr => ?_) fun r raws' w' o a f' => ?_
  · obtain ⟨i, hi⟩ := List.mem_iff_getElem?.1 hr
    obtain ⟨b, _, h⟩ := hO.getL hi
    have := h.2.2
    rwa [maxLen_eq] at this
  · have e : r.n = (fewO L n).length := by rw [o.len, a.len]
    refine hk r raws' _ w' ⟨o.sl.mono fun k hk _ => hk, a.imp fun x y h => St.mono (ordR_st x y) h fun k hk _ => hk⟩ e o.cap rfl (fewO_len L n) (fewO_ok fun o ho => ?_) f'
    obtain ⟨i, hi⟩ := List.mem_iff_getElem?.1 ho
    obtain ⟨b, _, h⟩ := hO.get hi
    exact h.2.1

/-! ### the row -/
end Go.Proofs.YtecmpmnaeciapaaGreat
