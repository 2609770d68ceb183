/-
  StoreFull: its Go text answers true, whatever the input.
-/
import Derived.Test.YtecmpmnaeciapaaGreatGrp
import Derived.Test.YtecmpmnaeciapaaGreatArg
import Derived.Test.YtecmpmnaeciapaaGreatFL11
namespace Go.Proofs.YtecmpmnaeciapaaGreat
open Go Go.RowKit Go.ChangeShapes Go.WideShapes Go.ChangeAt Go.Proofs.YtecmpmnaeciapaaGreat.Den
variable {R : Type} {Q : R → World → Prop} {w : World}

/-- a literal. -/
theorem Den.litJ {E : TypeId} {t : Ty} {cs : List Value} {K : Addr → W R} (l : List t.T) (hc : cs = l.flatMap t.cells) (hm : l.length ≤ 1000) (hk : ∀ w', SlT (Up w.heap.size) w' t ⟨some ⟨w.heap.size, 0, none⟩, l.length, l.length⟩ l → Fr None w w' → w'.heap.size = w.heap.size + 1 → K ⟨w.heap.size, 0, none⟩ Q w') : newW E cs K Q w := by
  refine newI fun w1 B1 f1 s1 => hk w1 ?_ f1 s1
  subst hc
  exact (Own.mk' (S := Up w.heap.size) (w := w1) (E := E) (t := t) (l := l) (g := w.heap.size) (c := l.length) (cur := ⟨l.flatMap t.cells⟩) (Nat.le_refl _) B1 (Nat.le_refl _) (by rw [maxLen_eq]; omega) (show (l.flatMap t.cells).length = _ from flat_len l) (by rw [List.take_of_length_le]; rw [flat_len]; exact Nat.le_refl _)).sl
/-- a field of a thing in a list. -/
theorem Den.SlT.getF {ok : Nat → Prop} {t : Ty} {s : Sl} {l : List t.T} (h : SlT ok w t s l) {sz : Nat} (hsz : sz = t.size) {i : Int} {j : Nat} (hi : i = j) {x : t.T} (hj : l[j]? = some x) {q : Nat} {c : Sc} {y : c.T} (hq : (t.cells x)[q]? = some (c.e y)) {K : c.T → W R} (hk : K y Q w) :
    (idxW s.a s.n sz i fun a => ld (.sc c) (Addr.add a q) K) Q w := by
  subst hi; subst hsz
  have hjl := (List.getElem?_eq_some_iff.1 hj).1
  have hn := h.len
  rcases h.at_ with e | ⟨b, o, ha, _, _, hrd⟩
  · rw [e] at hjl; simp at hjl
  · rw [ha]
    refine ⟨_, rfl, by omega, by omega, ?_⟩
    have := hrd j x hj
    rw [add_lit, Int.toNat_natCast]
    exact ⟨y, (Rd.cells.1 this) q _ hq, hk⟩

/-- a thing of a list, with its place. -/
theorem Den.SlT.read {ok : Nat → Prop} {t : Ty} {s : Sl} {l : List t.T} (h : SlT ok w t s l) {sz : Nat} (hsz : sz = t.size) {i : Int} {j : Nat} (hi : i = j) {x : t.T} (hj : l[j]? = some x) {K : Addr → W R} (hk : ∀ a, Rd w a t x → K a Q w) :
    (idxW s.a s.n sz i K) Q w := by
  subst hi; subst hsz
  have hjl := (List.getElem?_eq_some_iff.1 hj).1
  have hn := h.len
  rcases h.at_ with e | ⟨b, o, ha, _, _, hrd⟩
  · rw [e] at hjl; simp at hjl
  · rw [ha]
    refine ⟨_, rfl, by omega, by omega, hk _ ?_⟩
    rw [add_lit, Int.toNat_natCast]
    exact hrd j x hj

theorem spec_l11_awake {K : Res [.sc .bool] → W R} (hk : ∀ w', Fr None w w' → K true Q w') : callW Tryz.prog k_pinnacelaw11_awake [] [.sc .bool] K Q w := by
  refine C_pinnacelaw11_awake K Q w ?_
  unfold F_pinnacelaw11_awake
  refine spec_store_New (fun h => absurd (by decide) h) fun b w1 _ st1 f1 => ?_
  have hs1 := f1.size
  rw [show Int.toNat 5 = 5 from rfl] at st1
  refine joinK (condF rfl (condF rfl (litJ (t := compT) [((0, 0, 0, 0) : Comp)] rfl (by decide) fun w2 l2 f2 s2 => ?_)))
  have hl2 : SlT (fun k => k = w1.heap.size) w2 compT ⟨some ⟨w1.heap.size, 0, none⟩, 1, 1⟩ [((0, 0, 0, 0) : Comp)] := l2.mono fun k hk h => by have h : w1.heap.size ≤ k := h; omega
  let G : Nat → Prop := fun k => w.heap.size ≤ k ∧ k ≠ w1.heap.size
  have st2 : Store b (StM.new 5 1) G w2 := Store.st st1 f2 fun k hk e => ⟨fun h => h, e, by omega⟩
  have hsm : Small [((0, 0, 0, 0) : Comp)] := by decide
  have hok : ∀ c ∈ [((0, 0, 0, 0) : Comp)], CompOk c := by simp [CompOk, i32]
  have again : ∀ {y : StM} {u v : World}, w2.heap.size ≤ u.heap.size → Store b y (Ex G u) v → Store b y G v := fun hu h => Store.st.mono h fun k _ e => by
    rcases e with e | e
    · exact e
    · exact ⟨by omega, by omega⟩
  have hfr : ∀ {u v : World}, Fr G u v → Fr (fun k => k ≠ w1.heap.size ∧ w.heap.size ≤ k) u v := fun f => f.sub fun k e => ⟨e.2, e.1⟩
  refine spec_store_Spawn st2 hl2 (fun k _ e e2 => e2.2 e) hsm hok fun w3 st3 f3 => ?_
  have st3 := again (Nat.le_refl _) st3
  have hs3 := f3.size
  refine spec_store_Spawn st3 (hl2.fr f3 fun k e e2 => e2.2 e) (fun k _ e e2 => e2.2 e) hsm hok fun w4 st4 f4 => ?_
  have st4 := again hs3 st4
  have hs4 := f4.size
  refine spec_store_Spawn st4 ((hl2.fr f3 fun k e e2 => e2.2 e).fr f4 fun k e e2 => e2.2 e) (fun k _ e e2 => e2.2 e) hsm hok fun w5 st5 f5 => ?_
  have st5 := again (Nat.le_trans hs3 hs4) st5
  have hs5 := f5.size
  have e1 : ((StM.new 5 1).spawn [(0, 0, 0, 0)]).1 = 1024 := by kernel_rfl
  have e2 : (((StM.new 5 1).spawn [(0, 0, 0, 0)]).2.2.spawn [(0, 0, 0, 0)]).1 = 1025 := by kernel_rfl
  have e3 : ((((StM.new 5 1).spawn [(0, 0, 0, 0)]).2.2.spawn [(0, 0, 0, 0)]).2.2.spawn [(0, 0, 0, 0)]).1 = 1026 := by kernel_rfl
  rw [e1, e2, e3]
  refine spec_store_Add st5 (id := 1024) (c := (2, 0, 0, 0)) ⟨by decide, by decide⟩ fun w6 st6 f6 => ?_
  have st6 := again (Nat.le_trans (Nat.le_trans hs3 hs4) hs5) st6
  have e4 : ((((((StM.new 5 1).spawn [(0, 0, 0, 0)]).2.2.spawn [(0, 0, 0, 0)]).2.2.spawn [(0, 0, 0, 0)]).2.2).add 1024 (2, 0, 0, 0)).1 = 0 := by kernel_rfl
  rw [e4]
  refine condF rfl (spec_store_Groups st6 fun r raws lab w7 hD f7 => ?_)
  have e5 : groupsM ((((((StM.new 5 1).spawn [(0, 0, 0, 0)]).2.2.spawn [(0, 0, 0, 0)]).2.2.spawn [(0, 0, 0, 0)]).2.2).add 1024 (2, 0, 0, 0)).2.tab = [(1, [1026, 1025]), (5, [1024])] := by kernel_rfl
  rw [e5] at hD
  have f06 : Fr None w w6 := ((((f1.then0 f2).newer f3 fun k e => e.1).newer f4 fun k e => e.1).newer f5 fun k e => e.1).newer f6 fun k e => e.1
  have f07 := f06.then0 f7
  have hl := hD.len
  have hrn : r.n = 2 := by rw [hD.own.len, hl]; rfl
  obtain ⟨r0, hr0⟩ : ∃ r0, raws[0]? = some r0 := ⟨_, List.getElem?_eq_getElem (by rw [hl]; decide)⟩
  obtain ⟨r1, hr1⟩ : ∃ r1, raws[1]? = some r1 := ⟨_, List.getElem?_eq_getElem (by rw [hl]; decide)⟩
  obtain ⟨a1, a2⟩ := hD.at_ 0 r0 (1, [1026, 1025]) hr0 rfl
  obtain ⟨b1, b2⟩ := hD.at_ 1 r1 (5, [1024]) hr1 rfl
  have a1 : r0.1 = 1 := a1
  refine joinI (fun z w' => z = true ∧ Fr None w7 w') ?_ fun z w8 ⟨hz, f8⟩ => by subst hz; exact hk w8 (f07.then0 f8)
  refine condT (by rw [hrn]; rfl) ?_
  refine hD.own.sl.getF (j := 0) rfl rfl hr0 (c := .int .u8) (q := 0) (y := r0.1) rfl ?_
  rw [a1]
  refine condT rfl ?_
  refine hD.own.sl.getF (j := 0) rfl rfl hr0 (c := .sl) (q := 1) (y := r0.2) rfl ?_
  refine litJ (t := idT) [(1026 : Int), 1025] rfl (by decide) fun w8 l8 f8 _ => ?_
  refine spec_r7_Same (a2.sl.fr0 f8) l8 (by decide) fun w9 f9 => ?_
  refine condT (decide_eq_true rfl) ?_
  have f79 := f8.then0 f9
  refine (hD.own.sl.fr0 f79).getF (j := 1) rfl rfl hr1 (c := .sl) (q := 1) (y := r1.2) rfl ?_
  refine litJ (t := idT) [(1024 : Int)] rfl (by decide) fun w10 l10 f10 _ => ?_
  refine spec_r7_Same (b2.sl.fr0 (f79.then0 f10)) l10 (by decide) fun w11 f11 => ?_
  exact ⟨decide_eq_true rfl, (f79.then0 f10).then0 f11⟩

/-! ### a store that fills -/
def FullS (k j : Nat) : SM := ⟨1, List.replicate j 1 ++ List.replicate (k - j) 0, List.replicate j true ++ List.replicate (k - j) false, [], j⟩
def manyT (l : List Comp) (n : Nat) : Nat → List Ent := fun m => if m = maskN l then (List.range n).map fun (i : Nat) => (idOf i 1, l) else []
theorem rep_set {α : Type} (a b : α) (j m : Nat) : (List.replicate j a ++ List.replicate (m + 1) b).set j a = List.replicate (j + 1) a ++ List.replicate m b := by
  rw [List.set_append_right _ _ (by simp), List.length_replicate, Nat.sub_self, List.replicate_succ, List.set_cons_zero, List.replicate_succ', List.append_assoc]; rfl
theorem FullS.n {k j : Nat} (h : j ≤ k) : (FullS k j).n = k := by simp [FullS, SM.n]; omega
theorem FullS.take {k j : Nat} (h : j < k) : (FullS k j).take = some (idOf j 1, FullS k (j + 1)) := by
  obtain ⟨m, hm⟩ : ∃ m, k - j = m + 1 := ⟨k - j - 1, by omega⟩
  have hm2 : k - (j + 1) = m := by omega
  have hn := FullS.n (Nat.le_of_lt h)
  unfold SM.take
  have e1 : (FullS k j).free.getLast? = none := rfl
  have e2 : (FullS k j).fresh = j := rfl
  have e3 : (FullS k j).first = 1 := rfl
  rw [e1]
  simp only [e2, e3, hn, if_pos h]
  congr 2
  simp only [FullS, SM.use, hm, hm2, rep_set]
theorem spawn_full {k j : Nat} (h : j < k) {l : List Comp} (hl : listE l = 0) : (⟨FullS k j, manyT l j⟩ : StM).spawn l = (idOf j 1, 0, ⟨FullS k (j + 1), manyT l (j + 1)⟩) := by
  have e : putT (manyT l j) (idOf j 1) l = manyT l (j + 1) := by
    funext m
    unfold putT upd manyT
    by_cases hm : m = maskN l
    · subst hm; simp [List.range_succ]
    · simp [hm]
  unfold StM.spawn
  rw [if_neg (fun h => h hl), FullS.take h]
  simp only [e]
theorem new_full (k : Nat) (l : List Comp) : StM.new k 1 = ⟨FullS k 0, manyT l 0⟩ := by
  unfold StM.new SM.new FullS manyT
  congr 1
  funext m
  split <;> simp
theorem listE_small {l : List Comp} (h : listE l = 0) : l.length ≤ 6 := (Valid.mk h rfl : Valid (maskN l) l).small

/-- n entities come, all with l. -/
theorem spawnLoop {k n : Nat} (hn : n ≤ k) (hk32 : k ≤ 1024) {nI : Int} (hnI : nI = (n : Int)) {W0 : World} {b : Nat} {l : List Comp} (hl : listE l = 0) (hok : ∀ c ∈ l, CompOk c) {s : Sl} {ok : Nat → Prop} (hS : SlT ok w compT s l) (hsk : ∀ r, ok r → r < W0.heap.size)
    (f0 : Fr None W0 w) (h : Store b (StM.new k 1) (fun r => W0.heap.size ≤ r ∧ r < w.heap.size) w) {Z : W R} {done : Sl × Int → W R}
    (hd : ∀ (out : Sl) G w', Store b ⟨FullS k n, manyT l n⟩ G w' → (∀ r, G r → W0.heap.size ≤ r ∧ r < w'.heap.size) → Own (fun r => W0.heap.size ≤ r ∧ ¬ G r) w' 37 idT out ((List.range n).map fun (i : Nat) => idOf i 1) → Fr None W0 w' → done (out, (n : Int)) Q w') :
    loopW (σ := Sl × Int) (fun K s_7 => cond (decide (s_7.2 < nI))
      (callW Tryz.prog k_pinnaceref05_Twin [.slice s.a s.n s.c] [.sc .sl] fun (x_8 : Sl) =>
    callW Tryz.prog k_store_Store_Spawn [.pointer (some ⟨b, 0, none⟩), .slice x_8.a x_8.n x_8.c] [.sc (.int .u32), .sc (.int .i64)] fun (x_9 : Int × Int) =>
    cond (x_9.2 != 0) Z
      (newW 37 [.int .u32 x_9.1] fun x_10 =>
    rawW Tryz.prog (Builtin.append_ #[46, 46] 46 #[.slice s_7.1.a s_7.1.n s_7.1.c, .slice (some x_10) 1 1]) [.sc .sl] fun (x_11 : Sl) =>
    K (x_11, IntKind.wrap .i64 (s_7.2 + 1)))) (done s_7)) (⟨none, 0, 0⟩, 0) Q w := by
  subst hnI
  have hsm : Small l := by have := listE_small hl; show _ ≤ 1048576; omega
  refine forI (N := n) (fun s : Sl × Int => s.2) (fun j st w' => st.2 = (j : Int) ∧ Fr None W0 w' ∧ ∃ G, Store b ⟨FullS k j, manyT l j⟩ G w' ∧ (∀ r, G r → W0.heap.size ≤ r ∧ r < w'.heap.size) ∧ Own (fun r => W0.heap.size ≤ r ∧ ¬ G r) w' 37 idT st.1 ((List.range j).map fun (i : Nat) => idOf i 1))
    ⟨rfl, f0, _, by rw [← new_full]; exact h, fun r e => e, Own.nil _ _ _ _⟩ (fun j s w' h => h.1) ?_ ?_
  · rintro j ⟨out, _⟩ w1 K' hj ⟨rfl, f1, G, hst, hG, ho⟩ - hK
    have hs1 := f1.size
    have hs0 := f0.size
    have hS1 : SlT (fun r => r < W0.heap.size) w1 compT s l := by
      have h1 : SlT (fun r => r < W0.heap.size) w compT s l := hS.mono fun r _ e => hsk r e
      rcases h1.at_ with e | ⟨b', o, ha, hb1, hb2, hrd⟩
      · exact ⟨h1.len, h1.cap, .inl e⟩
      · refine ⟨h1.len, h1.cap, .inr ⟨b', o, ha, hb1, by omega, fun i x hx => ?_⟩⟩
        have e1 := f1.block b' hb1 (fun h => h)
        have e2 := f0.block b' hb1 (fun h => h)
        exact (hrd i x hx).keep (e1.trans e2.symm)
    refine spec_r5_Twin hS1 hsm fun tw w2 o2 f2 => ?_
    have hs2 := f2.size
    refine spec_store_Spawn (Store.st.fr0 hst f2) o2.sl (fun r _ e e2 => by have := (hG r e2).2; omega) hsm hok fun w3 st3 f3 => ?_
    rw [spawn_full (by omega) hl] at st3 ⊢
    have hs3 := f3.size
    have o3 : Own (fun r => W0.heap.size ≤ r ∧ ¬ (Ex G w2 r ∧ r < w3.heap.size)) w3 37 idT out ((List.range j).map fun (i : Nat) => idOf i 1) := Own.st ho (f2.any.then f3) fun r hr e => ⟨e.2, e.1, fun e2 => by
      rcases e2.1 with h | h
      · exact e.2 h
      · omega⟩
    refine condF rfl ?_
    refine appP (x := idOf j 1) ids_ty rfl o3 (fun r e => ⟨by omega, fun e2 => by have := e2.2; omega⟩) (by simp; omega) (by simp; omega) fun r' w4 o4 f4 => ?_
    have hs4 := f4.size
    refine hK _ _ ⟨wsucc hj (by omega), ?_, fun r => Ex G w2 r ∧ r < w3.heap.size, ?_, fun r e => ⟨?_, ?_⟩, ?_⟩
    · exact ((f1.then0 f2).newer f3 fun r e => (hG r e).1).newer f4 fun r e => (o3.own r e).1
    · exact Store.st.fr (Store.shut st3) f4 fun r e e2 => (o3.own r e2).2 e
    · rcases e.1 with h | h
      · exact (hG r h).1
      · omega
    · have := e.2; omega
    · rw [List.range_succ, List.map_append]; exact o4
  · rintro ⟨out, _⟩ w1 ⟨rfl, f1, G, hst, hG, ho⟩
    exact hd out G w1 hst hG ho f1

theorem spec_r7_Slot {id : Int} (hid : IdOk id) {K : Res [.sc (.int .i64)] → W R} (hk : K (slotOf id) Q w) : callW Tryz.prog k_pinnaceref07_Slot [.int .u32 id] [.sc (.int .i64)] K Q w := by
  refine C_pinnaceref07_Slot _ K Q w ?_
  unfold F_pinnaceref07_Slot
  obtain ⟨h1, h2⟩ := hid
  have e : Int.tmod (IntKind.wrap .i64 id) 1024 = slotOf id := by rw [w64 (by omega), Int.tmod_eq_emod_of_nonneg h1]; rfl
  rw [e]
  exact hk

theorem full_live {k i : Nat} (h : i < k) (hk : k ≤ 1024) : (FullS k k).live (idOf i 1) = true := by
  refine live_ex.2 ⟨i, 1, rfl, by omega, ?_, ?_⟩
  · simp [FullS, h]
  · simp [FullS, h]
theorem full_room (k : Nat) : (FullS k k).room = 0 := by simp [SM.room, FullS, SM.n]
theorem full_count (k : Nat) : (FullS k k).count = k := by simp [SM.count, FullS, List.countP_replicate]
/-- behind one that went. -/
def FullA (k i : Nat) : SM := ⟨1, (List.replicate k 1).set i 2, ((List.replicate k true).set i false).set i true, [], k⟩
def FullF (k i : Nat) : SM := ⟨1, List.replicate k 1, (List.replicate k true).set i false, [(i : Int)], k⟩
theorem full_freed {k i : Nat} (h : i < k) (hk : k ≤ 1024) : (FullS k k).freed (idOf i 1) = FullF k i := by
  unfold SM.freed FullS FullF
  rw [slot_id (by omega), gen_id (by omega), Int.toNat_natCast, Nat.sub_self, if_pos (by decide)]
  simp
theorem fullF_take {k i : Nat} (h : i < k) : (FullF k i).take = some (idOf i 2, FullA k i) := by
  have e2 : (FullF k i).gen[i]? = some 1 := by
    show (List.replicate k (1 : Int))[i]? = some 1
    rw [List.getElem?_replicate, if_pos h]
  unfold SM.take
  rw [show (FullF k i).free.getLast? = some (i : Int) from rfl]
  simp only [Int.toNat_natCast, e2]
  rfl
theorem fullA_live {k i : Nat} (h : i < k) (hk : k ≤ 1024) : (FullA k i).live (idOf i 1) = false ∧ (FullA k i).live (idOf i 2) = true := by
  have e1 : (FullA k i).gen[i]? = some 2 := by
    show ((List.replicate k (1 : Int)).set i 2)[i]? = some 2
    rw [List.getElem?_set_self (by rw [List.length_replicate]; exact h)]
  have e2 : (FullA k i).used[i]? = some true := by
    show (((List.replicate k true).set i false).set i true)[i]? = some true
    rw [List.getElem?_set_self (by rw [List.length_set, List.length_replicate]; exact h)]
  constructor
  · unfold SM.live
    rw [slot_id (by omega), gen_id (by omega), Int.toNat_natCast, e1, e2]
    rfl
  · unfold SM.live
    rw [slot_id (by omega), gen_id (by omega), Int.toNat_natCast, e1, e2]
    rfl
theorem full_again {k i : Nat} (h : i < k) (hk : k ≤ 1024) : ∃ s', ((FullS k k).freed (idOf i 1)).take = some (idOf i 2, s') ∧ s'.live (idOf i 1) = false ∧ s'.live (idOf i 2) = true :=
  ⟨FullA k i, by rw [full_freed h hk]; exact fullF_take h, (fullA_live h hk).1, (fullA_live h hk).2⟩

/-! ### the row -/
end Go.Proofs.YtecmpmnaeciapaaGreat
