/-
  slices.Sort of bytes: the walks of the library's functions against the kit's plain layer of the sort (first part).
-/
import Derived.Test.YtkblnhnjagemlaaGreatSort
import Derived.Sort.AssemblyPlain
namespace Go.Proofs.YtkblnhnjagemlaaGreat
open Go Go.RowKit Go.Proofs.YtkblnhnjagemlaaGreat.Den
open Go.Sort (swp ltInt PermIn SortedIn)
variable {R : Type} {Q : R → World → Prop} {w : World}

abbrev DA (S : Nat → Prop) (w : World) (s : Sl) (d : Array Int) : Prop := Own S w 5 bT s d.toList
abbrev OwnB (s : Sl) : Nat → Prop := fun k => s.v.ownBlock = some k
theorem swo : Go.Sort.SWO ltInt := Go.Sort.swo_ltInt
section
variable {S : Nat → Prop} {s : Sl} {d : Array Int}
theorem DA.n (h : DA S w s d) : s.n = d.size := by rw [h.len]; rfl
theorem rdA (h : DA S w s d) {ie : Int} {j : Nat} (hi : ie = (j : Int)) (hj : j < d.size) {K : Int → W R} (hk : K d[j]! Q w) : idxW s.a s.n 1 ie (fun a => ld (.sc (.int .u8)) a K) Q w := by
  refine h.sl.get rfl hi (by simpa using hj) fun x hx => ?_
  rw [Array.getElem?_toList] at hx
  have e : d[j]! = x := by
    rw [getElem!_pos d j hj]
    exact (Array.getElem?_eq_some_iff.1 hx).2
  rw [e] at hk
  exact hk
theorem setI_toList (d : Array Int) (i : Nat) (x : Int) : (d.setIfInBounds i x).toList = d.toList.set i x := by simp
theorem swpA (h : DA S w s d) {ie je : Int} {i j : Nat} (ei : ie = (i : Int)) (ej : je = (j : Int)) (hi : i < d.size) (hj : j < d.size) {K : W R} (hk : ∀ w', DA S w' s (swp d i j) → Fr (OwnB s) w w' → K Q w') :
    (idxW s.a s.n 1 je fun a => ld (.sc (.int .u8)) a fun (x : Int) => idxW s.a s.n 1 ie fun b => ld (.sc (.int .u8)) b fun (y : Int) =>
      idxW s.a s.n 1 ie fun c => stoL c [.int .u8 x] 0 <| idxW s.a s.n 1 je fun e => stoL e [.int .u8 y] 0 K) Q w := by
  subst ei; subst ej
  refine rdA h rfl hj (rdA h rfl hi ?_)
  refine h.idx rfl (by omega) (by rw [Array.length_toList]; omega) fun g u hg hu _ => ?_
  refine h.set rfl (by rw [Array.length_toList]; omega) hg d[j]! fun w4 o4 f4 _ => ?_
  refine o4.idx rfl (by omega) (by rw [List.length_set, Array.length_toList]; omega) fun g2 u2 hg2 hu2 _ => ?_
  refine o4.set rfl (by rw [List.length_set, Array.length_toList]; omega) hg2 d[i]! fun w5 o5 f5 _ => ?_
  refine hk w5 ?_ (f4.then f5)
  show Own S w5 5 bT s (swp d i j).toList
  rw [swp, setI_toList, setI_toList]
  simpa using o5
theorem szs (d : Array Int) (i j : Nat) : (swp d i j).size = d.size := Go.Sort.size_swp d i j

/-! ### insertionSort -/
theorem spec_ins (h : DA S w s d) (hm : d.size ≤ 1048576) {a b : Nat} (hab : a ≤ b) (hb : b ≤ d.size) {K : Res [] → W R} (hk : ∀ w', DA S w' s (Go.Sort.insertionSort ltInt d a b) → Fr (OwnB s) w w' → K () Q w') :
    callW Tryz.prog k_slices_insertionSortOrdered_byte [.slice s.a s.n s.c, .int .i64 (a : Int), .int .i64 (b : Int)] [] K Q w := by
  refine C_slices_insertionSortOrdered_byte _ _ _ K Q w ?_
  unfold F_slices_insertionSortOrdered_byte
  have hn := h.n
  rw [show IntKind.wrap .i64 ((a : Int) + 1) = ((a + 1 : Nat) : Int) by rw [w64 (by omega)]; rfl]
  refine loopI (fun i w' => ∃ (n : Nat) (d' : Array Int), i = (n : Int) ∧ a < n ∧ DA S w' s d' ∧ d'.size = d.size ∧ Go.Sort.insOuter ltInt a b n d' = Go.Sort.insertionSort ltInt d a b ∧ Fr (OwnB s) w w') (fun i _ => b - i.toNat) ⟨a + 1, d, rfl, by omega, h, rfl, rfl, Fr.refl _ _⟩ ?_
  rintro i w1 ⟨n, d', rfl, hn1, o1, hz, he, f1⟩
  refine condD (fun hlt => ?_) fun hge => ?_
  · have hnb : n < b := by have : (n : Int) < (b : Int) := hlt; omega
    refine loopI (fun j w' => ∃ (q : Nat) (e : Array Int), j = (q : Int) ∧ q ≤ n ∧ DA S w' s e ∧ e.size = d.size ∧ Go.Sort.insInner ltInt a q e = Go.Sort.insInner ltInt a n d' ∧ Fr (OwnB s) w w') (fun j _ => j.toNat) ⟨n, d', rfl, Nat.le_refl _, o1, hz, rfl, f1⟩ ?_
    rintro j w2 ⟨q, e, rfl, hq, o2, hz2, he2, f2⟩
    have fd : Fr None w2 w2.drew := (Fr.refl _ _).drew
    have out : ∀ {w' : World}, Fr None w2 w' → Go.Sort.insInner ltInt a q e = e → ∃ (n' : Nat) (d' : Array Int), IntKind.wrap .i64 ((n : Int) + 1) = (n' : Int) ∧ a < n' ∧ DA S w' s d' ∧ d'.size = d.size ∧ Go.Sort.insOuter ltInt a b n' d' = Go.Sort.insertionSort ltInt d a b ∧ Fr (OwnB s) w w' := fun f h => by
      refine ⟨n + 1, e, wsucc hnb (by omega), by omega, o2.none f, hz2, ?_, f2.then f.any⟩
      rw [← he, ← h, he2]
      conv => rhs; rw [Go.Sort.insOuter, if_pos hnb]
    have meas : b - (IntKind.wrap .i64 ((n : Int) + 1)).toNat < b - (n : Int).toNat := by rw [wsucc hnb (by omega)]; omega
    refine joinI (fun z w' => w' = w2.drew ∧ ((z = true ∧ ∃ k, q = k + 1 ∧ Go.Sort.insInner ltInt a q e = Go.Sort.insInner ltInt a k (swp e (k + 1) k)) ∨ (z = false ∧ Go.Sort.insInner ltInt a q e = e))) ?_ ?_
    · refine condD (fun h0 => ?_) fun h0 => ⟨rfl, .inr ⟨rfl, ?_⟩⟩
      · have h0 : (q : Int) > (a : Int) := h0
        obtain ⟨k, rfl⟩ : ∃ k, q = k + 1 := ⟨q - 1, by omega⟩
        have e1 : IntKind.wrap .i64 (((k + 1 : Nat) : Int) - 1) = (k : Int) := by rw [w64 (by omega)]; omega
        refine rdA (o2.none fd) rfl (by omega) (rdA (o2.none fd) e1 (by omega) (spec_Less_byte ⟨rfl, ?_⟩))
        have hdef : Go.Sort.insInner ltInt a (k + 1) e = if k + 1 > a && ltInt e[k + 1]! e[k]! then Go.Sort.insInner ltInt a k (swp e (k + 1) k) else e := rfl
        have hka : k + 1 > a := by omega
        by_cases hl : e[k + 1]! < e[k]!
        · refine .inl ⟨decide_eq_true hl, k, rfl, ?_⟩
          rw [hdef, if_pos (by simp [ltInt, hl, hka])]
        · refine .inr ⟨decide_eq_false hl, ?_⟩
          rw [hdef, if_neg (by simp [ltInt, hl])]
      · have h0 : ¬ (q : Int) > (a : Int) := h0
        cases q with
        | zero => rfl
        | succ k => 
          have hdef : Go.Sort.insInner ltInt a (k + 1) e = if k + 1 > a && ltInt e[k + 1]! e[k]! then Go.Sort.insInner ltInt a k (swp e (k + 1) k) else e := rfl
          rw [hdef, if_neg (by simp; omega)]
    · rintro z w3 ⟨rfl, ⟨rfl, k, rfl, hx⟩ | ⟨rfl, hx⟩⟩
      · have e1 : IntKind.wrap .i64 (((k + 1 : Nat) : Int) - 1) = (k : Int) := by rw [w64 (by omega)]; omega
        have fdd := fd.then0 (Fr.refl None w2.drew).drew
        refine condT rfl (swpA (o2.none fdd) rfl e1 (by omega) (by omega) fun w4 o4 f4 => ?_)
        refine ⟨⟨k, _, e1, by omega, o4, by rw [szs]; exact hz2, by rw [← hx, he2], (f2.then fdd.any).then f4⟩, ?_⟩
        rw [e1]; omega
      · exact condF rfl ⟨out fd hx, meas⟩
  · have : ¬ n < b := fun h => hge (show (n : Int) < (b : Int) by omega)
    refine hk w1 ?_ f1
    rw [← he, Go.Sort.insOuter, if_neg this]
    exact o1
end

end Go.Proofs.YtkblnhnjagemlaaGreat
