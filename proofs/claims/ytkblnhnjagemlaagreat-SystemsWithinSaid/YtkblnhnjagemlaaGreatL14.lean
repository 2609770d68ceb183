/-
  systems: what the laws share.
-/
import Derived.Test.YtkblnhnjagemlaaGreatPair
import Derived.Test.YtkblnhnjagemlaaGreatFL14
namespace Go.Proofs.YtkblnhnjagemlaaGreat
open Go Go.RowKit Go.ChangeShapes Go.WideShapes Go.ChangeAt Go.Proofs.YtkblnhnjagemlaaGreat.Den
variable {R : Type} {Q : R → World → Prop} {w : World}

theorem band {a b : Bool} (h1 : a = true) (h2 : b = true) : (a && b) = true := by rw [h1, h2]; rfl
theorem maps_rowed : mapsRowed Tryz.prog = true := by kernel_rfl
theorem may_enter : Tryz.prog.mayEnter = true := by kernel_rfl

theorem spec_l14_fill {n : Int} (hn : 0 ≤ n ∧ n ≤ 255) {s : Sl} {raws : List Sl} {L : List (List Comp)} (hS : SlT (Old w) w slT s raws) (hL : All2 (ListIn w) raws L) (hcap : s.c ≤ maxLen) {K : Res [.sc .ptr, .sc .ptr] → W R}
    (hk : ∀ b b2 w', PairAt w.heap.size b b2 (fillM (1 + n.toNat % 40) ((L.take 50).map (·.take 20))) (fillM (1 + n.toNat % 40) ((L.take 50).map (·.take 20))) w' → Fr None w w' → K (some ⟨b, 0, none⟩, some ⟨b2, 0, none⟩) Q w') :
    callW Tryz.prog k_pinnacelaw14_fill [.int .u8 n, .slice s.a s.n s.c] [.sc .ptr, .sc .ptr] K Q w := by
  refine C_pinnacelaw14_fill _ _ K Q w ?_
  unfold F_pinnacelaw14_fill
  have hlen := hS.len
  have hll := hL.len
  have hsc := hS.cap
  rw [maxLen_eq] at hcap
  have e : IntKind.wrap .i64 (1 + IntKind.wrap .i64 (Int.tmod n 40)) = ((1 + n.toNat % 40 : Nat) : Int) := by
    rw [Int.tmod_eq_emod_of_nonneg hn.1, w64 (x := n % 40) (by omega), w64 (by omega)]; omega
  rw [e]
  have hk1 : 1 ≤ 1 + n.toNat % 40 := by omega
  have hk2 : 1 + n.toNat % 40 ≤ 1024 := by omega
  generalize 1 + n.toNat % 40 = k at hk hk1 hk2
  refine spec_store_New (fun h => absurd ⟨by omega, by omega, by decide, by decide⟩ h) fun b w1 _ st1 f1 => ?_
  rw [Int.toNat_natCast] at st1
  have hs1 := f1.size
  refine spec_r11_New (fun h => absurd ⟨by omega, by omega, by decide, by decide⟩ h) fun b2 w2 _ st2 f2 => ?_
  rw [Int.toNat_natCast] at st2
  have hs2 := f2.size
  have pair : PairAt w.heap.size b b2 (StM.new k 1) (StM.new k 1) w2 := ⟨fun r => w.heap.size ≤ r ∧ r < w1.heap.size, fun r => w1.heap.size ≤ r ∧ r < w2.heap.size, _, Store.st st1 f2 fun r hr e => ⟨fun h => h, e, hr⟩, R11.st.mono st2 fun r hr e => ⟨e, hr⟩,
    fun r e => ⟨e.1, by omega⟩, fun r e => ⟨by omega, e.2⟩, fun r e e2 => by omega⟩
  have f02 := f1.then0 f2
  dsimp only
  refine joinI (fun (_ : Unit) w' => PairAt w.heap.size b b2 (fillM k ((L.take 50).map (·.take 20))) (fillM k ((L.take 50).map (·.take 20))) w' ∧ Fr None w w') ?_ fun _ w' ⟨h1, h2⟩ => hk b b2 w' h1 h2
  refine loopI (fun (s : Int) w' => ∃ j : Nat, s = (j : Int) ∧ j ≤ 50 ∧ j ≤ L.length ∧ PairAt w.heap.size b b2 (fillM k ((L.take j).map (·.take 20))) (fillM k ((L.take j).map (·.take 20))) w' ∧ Fr None w w') (fun s _ => (50 - s).toNat) ⟨0, rfl, by omega, by omega, by rw [List.take_zero]; exact pair, f02⟩ ?_
  rintro i w3 ⟨j, rfl, hj50, hjl, hp, f3⟩
  refine condD (fun hlt => ?_) fun hge => ?_
  · have hlt : j < L.length := by omega
    obtain ⟨l, hl⟩ : ∃ l, L[j]? = some l := ⟨_, List.getElem?_eq_getElem hlt⟩
    obtain ⟨r, hr, hl1, hl2, hl3⟩ := hL.get hl
    rw [maxLen_eq] at hl3
    have hln := hl1.len
    have hlcap := hl1.cap
    refine (hS.fr0 f3).get (j := j) rfl rfl (by omega) fun y hy => ?_
    rw [hr] at hy
    cases hy
    refine condD (fun h50 => ?_) fun h50 => ?_
    · have : j = 50 := by have h50 : (j : Int) ≥ 50 := h50; omega
      subst this
      exact ⟨hp, f3⟩
    · have h50 : ¬ (j : Int) ≥ 50 := h50
      refine (hl1.fr0 f3).cutI (n := min l.length 20) (by split <;> omega) (by omega) fun sl _ hsl => ?_
      have hcut := hsl _ _ (hl1.fr0 f3)
      have hm : l.take (min l.length 20) = l.take 20 := by
        rcases Nat.le_total l.length 20 with h | h
        · rw [Nat.min_eq_left h, List.take_of_length_le (Nat.le_refl _), List.take_of_length_le h]
        · rw [Nat.min_eq_right h]
      rw [hm] at hcut
      have hsm : Small (l.take 20) := by show _ ≤ 1048576; simp; omega
      have hck : ∀ c ∈ l.take 20, CompOk c := fun c hc => hl2 c (List.mem_of_mem_take hc)
      refine spec_r5_Twin hcut hsm fun tw w4 o4 f4 => ?_
      obtain ⟨G, H, C, h1, h2, h3, h4, h5⟩ := hp
      have hs3 := f3.size
      have hs4 := f4.size
      refine spec_store_Spawn (Store.st.fr0 h1 f4) o4.sl (fun r _ e e2 => by have e : w3.heap.size ≤ r := e; have := (h3 r e2).2; omega) hsm hck fun w5 st5 f5 => ?_
      have hs5 := f5.size
      have pp := PairAt.prog (n0 := w.heap.size) (R11.st.fr0 h2 f4) (fun r e => ⟨(h3 r e).1, by have := (h3 r e).2; omega⟩) (fun r e => ⟨(h4 r e).1, by have := (h4 r e).2; omega⟩) h5 (by omega) st5 (fun r e => e) f5
      have f35 : Fr G w3 w5 := f4.any.then f5
      have hcut5 : SlT (Old w) w5 compT sl (l.take 20) := hcut.fr f35 fun r e e2 => by have e : r < w.heap.size := e; have := (h3 r e2).1; omega
      obtain ⟨G2, H2, C2, g1, g2, g3, g4, g5⟩ := pp
      refine spec_r11_Spawn g2 hcut5 (fun r _ e e2 => by have e : r < w.heap.size := e; have := (g4 r e2).1; omega) hsm hck fun C3 w6 _ st6 f6 => ?_
      have p6 := PairAt.doc (n0 := w.heap.size) g1 g3 g4 g5 (by omega) st6 (fun r e => e) f6 fun r e => e.1
      have e2 : (L.take (j + 1)).map (·.take 20) = (L.take j).map (·.take 20) ++ [l.take 20] := by rw [take_at hl, List.map_append]; rfl
      refine ⟨⟨j + 1, wsucc (N := 50) (by omega) (by omega), by omega, by omega, by rw [e2, fillM_snoc]; exact p6, ?_⟩, ?_⟩
      · have f36 : Fr (fun r => w.heap.size ≤ r) w3 w6 := (f35.sub fun r e => (h3 r e).1).then (f6.sub fun r e => (g4 r e.1).1)
        exact f3.newer f36 fun r e => e
      · have : IntKind.wrap .i64 ((j : Int) + 1) = ((j + 1 : Nat) : Int) := wsucc (N := 50) (by omega) (by omega)
        rw [this]; omega
  · have hjL : j = L.length := by omega
    rw [List.take_of_length_le (by omega)] at hp
    rw [List.take_of_length_le (by omega)]
    exact ⟨hp, f3⟩

theorem spec_l14_alike {n0 b b2 : Nat} {x : StM} (hp : PairAt n0 b b2 x x w) {K : Res [.sc .bool] → W R} (hk : ∀ w', Fr None w w' → K true Q w') :
    callW Tryz.prog k_pinnacelaw14_alike [.pointer (some ⟨b, 0, none⟩), .pointer (some ⟨b2, 0, none⟩)] [.sc .bool] K Q w := by
  refine C_pinnacelaw14_alike _ _ K Q w ?_
  unfold F_pinnacelaw14_alike
  obtain ⟨G, H, C, h, h2, h3, h4, h5⟩ := hp
  have hok := (Store.open_ h).1
  refine spec_r11_List h2 fun re raws w1 o1 hE f1 => ?_
  have hel : (entsM x).length = x.s.list.length := by unfold entsM; rw [List.length_map]
  have hcl : x.s.list.length = x.s.count := SM.list_len hok.s.len
  have hrn : re.n = x.s.list.length := by rw [o1.len, hE.len, hel]
  have hlist := hok.s.list_le
  refine spec_store_Len (Store.st.fr0 h f1) (condF (by rw [hrn, hcl]; simp) ?_)
  refine forI (N := re.n) (fun s : Int => s) (fun j i w' => i = (j : Int) ∧ Fr None w1 w') ⟨rfl, Fr.refl _ _⟩ (fun j s w' h => h.1) ?_ ?_
  · rintro j i w4 K' hj ⟨rfl, f4⟩ - hK
    obtain ⟨id, hid⟩ : ∃ id, x.s.list[j]? = some id := ⟨_, List.getElem?_eq_getElem (by omega)⟩
    obtain ⟨hlive, hidok⟩ := hok.s.list_id (List.mem_of_getElem? hid)
    obtain ⟨e1, e2, e3, _⟩ := hok.ent_live3 hlive
    have hent : (entsM x)[j]? = some (x.ent id).1 := by unfold entsM; rw [List.getElem?_map, hid]; rfl
    obtain ⟨r0, hr0, ha1, ha2⟩ := hE.get hent
    rw [e1] at ha1
    refine (o1.sl.fr0 f4).get rfl rfl (by have := (List.getElem?_eq_some_iff.1 hr0).1; omega) fun y hy => ?_
    rw [hr0] at hy
    cases hy
    refine newI fun w5 B5 f5 s5 => stoAll B5 rfl rfl fun w6 B6 f6 s6 => ?_
    have f46 : Fr None w4 w6 := f5.newer f6 fun k e => by omega
    have f16 := f4.then0 f46
    refine fldI B6 (i := 0) (x := r0.1) rfl ?_
    rw [ha1]
    refine spec_store_EntM (Store.st.fr0 h (f1.then0 f16)) hidok fun sl w7 o7 f7 => ?_
    have hs7 := f7.size
    refine newI fun w8 B8 f8 s8 => stoAll B8 rfl rfl fun w9 B9 f9 s9 => ?_
    have f79 : Fr None w7 w9 := f8.newer f9 fun k e => by omega
    have fd : Fr None w9 w9.drew := (Fr.refl _ _).drew
    have f69 := (f7.then0 f79).then0 fd
    have o9 := o7.none (f79.then0 fd)
    have B69 := B6.fr f69 fun h => h
    have f19 := f16.then0 f69
    refine joinI (fun z w' => z = false ∧ Fr None w9.drew w') ?_ fun z w10 ⟨hz, f10⟩ => ?_
    · refine condF (by rw [e2]; rfl) (aggI (B9.fr fd fun h => h) (x := ((x.ent id).1.1, sl)) rfl (aggI B69 (x := r0) rfl ?_))
      rw [e1]
      refine spec_r10_SameEnt (id := id) (id2 := r0.1) (s := sl) (s2 := r0.2) o9.sl ((ha2.fr0 f4).fr0 (f46.then0 f69)) (by show _ ≤ 1048576; omega) fun w10 f10 => ?_
      refine condF (by rw [ha1]; simp) ?_
      have B610 := B69.fr f10 fun h => h
      refine fldI B610 (i := 0) (x := r0.1) rfl ?_
      refine spec_store_List (Store.st.fr0 h (f1.then0 (f19.then0 f10))) fun rl w11 l11 f11 => ?_
      refine andI ((B610.fr f11 fun h => h).rd (s := .int .u32) (i := 0) (x := r0.1) rfl) ?_
      refine l11.get (j := j) rfl rfl (by omega) fun y hy => ?_
      rw [hid] at hy
      cases hy
      exact ⟨by rw [ha1]; simp, f10.then0 f11⟩
    · subst hz
      exact condF rfl (hK _ _ ⟨wsucc hj (by omega), f19.then0 f10⟩)
  · rintro i w4 ⟨-, f4⟩
    exact hk w4 (f1.then0 f4)

theorem i3_eq {x y : F3} : (x.1 == y.1 && (x.2.1 == y.2.1 && (x.2.2 == y.2.2 && true))) = decide (x = y) := by
  rw [Bool.eq_iff_iff]
  simp [Prod.ext_iff]
theorem eqV_i3 (x y : F3) : eqV Tryz.prog 9 51 (.agg ⟨[.int .i32 x.1, .int .i32 x.2.1, .int .i32 x.2.2]⟩) (.agg ⟨[.int .i32 y.1, .int .i32 y.2.1, .int .i32 y.2.2]⟩) = some (decide (x = y)) := by
  rw [← i3_eq]
  kernel_rfl
theorem eqG_i3 : Tryz.prog.eqGuardType Tryz.prog.depth 51 = false := by kernel_rfl
def awake14 : StM := fillM 10 [[(0, 524280, 0, 0), (1, 16, -1, 0)], [(2, 0, 0, 0)]]
theorem awake14_1 : (moveM awake14).2 = [1024] := by kernel_rfl
theorem awake14_2 : (ageM (moveM awake14).1).2 = [1025] := by kernel_rfl
theorem awake14_3 : (ageM (moveM awake14).1).1.get 1024 0 = ((0, 524287, -1, 0), 0) := by kernel_rfl
theorem awake14_4 : (ageM (moveM awake14).1).1.get 1024 1 = ((1, -16, -1, 0), 0) := by kernel_rfl
theorem spec_l14_awake {K : Res [.sc .bool] → W R} (hk : ∀ w', Fr None w w' → K true Q w') : callW Tryz.prog k_pinnacelaw14_awake [] [.sc .bool] K Q w := by
  refine C_pinnacelaw14_awake K Q w ?_
  unfold F_pinnacelaw14_awake
  refine newI fun w1 B1 f1 s1 => newI fun w2 B2 f2 s2 => newI fun w3 B3 f3 s3 => ?_
  have f03 := (f1.then0 f2).then0 f3
  have S1 : SlT (Old w3) w3 compT ⟨some ⟨w.heap.size, 0, none⟩, 2, 2⟩ [((0, 524280, 0, 0) : Comp), (1, 16, -1, 0)] :=
    (Own.mk' (S := Old w3) (E := 53) (t := compT) (l := [((0, 524280, 0, 0) : Comp), (1, 16, -1, 0)]) (g := w.heap.size) (c := 2) (cur := ⟨_⟩) (by show w.heap.size < w3.heap.size; omega) ((B1.fr f2 fun h => h).fr f3 fun h => h) (by decide) (by rw [maxLen_eq]; decide) rfl rfl).sl
  have S2 : SlT (Old w3) w3 compT ⟨some ⟨w1.heap.size, 0, none⟩, 1, 1⟩ [((2, 0, 0, 0) : Comp)] :=
    (Own.mk' (S := Old w3) (E := 53) (t := compT) (l := [((2, 0, 0, 0) : Comp)]) (g := w1.heap.size) (c := 1) (cur := ⟨_⟩) (by show w1.heap.size < w3.heap.size; omega) (B2.fr f3 fun h => h) (by decide) (by rw [maxLen_eq]; decide) rfl rfl).sl
  have S3 : SlT (Old w3) w3 slT ⟨some ⟨w2.heap.size, 0, none⟩, 2, 2⟩ [⟨some ⟨w.heap.size, 0, none⟩, 2, 2⟩, ⟨some ⟨w1.heap.size, 0, none⟩, 1, 1⟩] :=
    (Own.mk' (S := Old w3) (E := 32) (t := slT) (l := [(⟨some ⟨w.heap.size, 0, none⟩, 2, 2⟩ : Sl), ⟨some ⟨w1.heap.size, 0, none⟩, 1, 1⟩]) (g := w2.heap.size) (c := 2) (cur := ⟨_⟩) (by show w2.heap.size < w3.heap.size; omega) B3 (by show 2 ≤ 2; decide) (by rw [maxLen_eq]; decide) rfl rfl).sl
  refine spec_l14_fill (by decide) S3 (L := [[(0, 524280, 0, 0), (1, 16, -1, 0)], [(2, 0, 0, 0)]]) ⟨rfl, fun i r l h1 h2 => ?_⟩ (by rw [maxLen_eq]; show 2 ≤ _; decide) fun b b2 w4 hp f4 => ?_
  · rcases i with _ | _ | i
    · simp at h1 h2; subst h1; subst h2
      exact ⟨S1, by simp [CompOk, i32], by rw [maxLen_eq]; show 2 ≤ _; decide⟩
    · simp at h1 h2; subst h1; subst h2
      exact ⟨S2, by simp [CompOk, i32], by rw [maxLen_eq]; show 1 ≤ _; decide⟩
    · simp at h1
  · have hp : PairAt w3.heap.size b b2 awake14 awake14 w4 := hp
    obtain ⟨G, H, C, h1, _, h3, _, _⟩ := hp
    have f04 := f03.then0 f4
    have hs4 := f4.size
    have hs3 := f03.size
    refine joinI (fun z w' => z = false ∧ Fr None w w' ∧ ∃ G', Store b (ageM (moveM awake14).1).1 G' w') ?_ ?_
    · refine spec_systems_Move h1 fun r w5 hE => ?_
      obtain ⟨G5, hA5, hG5, hl5, ho5, hf5⟩ := hE
      have f05 : Fr None w w5 := f04.newer hf5 fun k e => by have := (h3 k e).1; omega
      have hs5 := hf5.size
      refine litJ (t := idT) [(1024 : Int)] rfl (by decide) fun w6 l6 f6 _ => ?_
      refine spec_r7_Same (ho5.sl.fr0 f6) l6 (by show _ ≤ 1048576; rw [awake14_1]; decide) fun w7 f7 => ?_
      refine condF (by rw [awake14_1]; rfl) ?_
      refine spec_systems_Age (Store.st.fr0 hA5 (f6.then0 f7)) fun r2 w8 hE => ?_
      obtain ⟨G8, hA8, hG8, hl8, ho8, hf8⟩ := hE
      have f08 : Fr None w w8 := ((f05.then0 f6).then0 f7).newer hf8 fun k e => by
        rcases hG5 k e with e1 | e1
        · have := (h3 k e1).1; omega
        · omega
      refine litJ (t := idT) [(1025 : Int)] rfl (by decide) fun w9 l9 f9 _ => ?_
      refine spec_r7_Same (ho8.sl.fr0 f9) l9 (by show _ ≤ 1048576; rw [awake14_2]; decide) fun w10 f10 => ?_
      exact ⟨by rw [awake14_2]; rfl, (f08.then0 f9).then0 f10, G8, Store.st.fr0 hA8 (f9.then0 f10)⟩
    · rintro z w5 ⟨rfl, f5, G5, h5⟩
      refine condF rfl (spec_store_Get h5 (id := 1024) ⟨by decide, by decide⟩ fun w6 f6 => ?_)
      rw [awake14_3]
      refine newI fun w7 B7 f7 s7 => stoAll B7 rfl rfl fun w8 B8 f8 s8 => ?_
      have f68 : Fr None w6 w8 := f7.newer f8 fun k e => by omega
      refine spec_store_Get (Store.st.fr0 h5 (f6.then0 f68)) (id := 1024) ⟨by decide, by decide⟩ fun w9 f9 => ?_
      rw [awake14_4]
      refine newI fun w10 B10 f10 s10 => stoAll B10 rfl rfl fun w11 B11 f11 s11 => ?_
      have f911 : Fr None w9 w11 := f10.newer f11 fun k e => by omega
      have B8' := (B8.fr f9 fun h => h).fr f911 fun h => h
      have f511 := ((f6.then0 f68).then0 f9).then0 f911
      refine joinI (fun z w' => z = true ∧ w' = w11) ?_ fun z w' ⟨hz, hw⟩ => by subst hz; subst hw; exact hk _ (f5.then0 f511)
      rw [add_lit, add_lit]
      refine aggI' B8' (x := ((524287 : Int), (-1 : Int), (0 : Int))) (fun j u h => by rw [Nat.add_comm]; exact h) ?_
      refine eqlI eqG_i3 (eqV_i3 (524287, -1, 0) (524287, -1, 0)) (condT rfl ?_)
      refine aggI' B11 (x := ((-16 : Int), (-1 : Int), (0 : Int))) (fun j u h => by rw [Nat.add_comm]; exact h) ?_
      exact eqlI eqG_i3 (eqV_i3 (-16, -1, 0) (-16, -1, 0)) ⟨rfl, rfl⟩

theorem ListIn.later {W : World} {raws : List Sl} {L : List (List Comp)} (h : All2 (ListIn W) raws L) (f : Fr None W w) : All2 (ListIn w) raws L := h.imp fun r l ⟨h1, h2, h3⟩ => ⟨(h1.fr0 f).mono fun k _ e => by have e : k < W.heap.size := e; have := f.size; show k < w.heap.size; omega, h2, h3⟩
theorem SlT.later {W : World} {t : Ty} {s : Sl} {l : List t.T} (h : SlT (Old W) W t s l) (f : Fr None W w) : SlT (Old w) w t s l := (h.fr0 f).mono fun k _ e => by have e : k < W.heap.size := e; have := f.size; show k < w.heap.size; omega
theorem times12 {t : Int} (h : 0 ≤ t) : Int.tmod t 12 = ((t.toNat % 12 : Nat) : Int) := by rw [Int.tmod_eq_emod_of_nonneg h]; omega
/-- what a law of a system owes. -/
theorem pairLoop {n0 b b2 : Nat} {fP fR : Nat} {g : StM → SysP} (hlen : ∀ x, StOk x → (g x).2.length ≤ 1024) {W0 : World} (hW : W0.heap.size = n0)
    (hP : ∀ {x : StM} {F : Nat → Prop} {w : World} {K : Res [.sc .sl] → W R} {Q : R → World → Prop}, Store b x F w → (∀ r w', SysEnd (Store b) F F w (g x) r w' → K r Q w') → callW Tryz.prog fP [.pointer (some ⟨b, 0, none⟩)] [.sc .sl] K Q w)
    (hR : ∀ {x : StM} {C F : Nat → Prop} {w : World} {K : Res [.sc .sl] → W R} {Q : R → World → Prop}, R11 C b2 x F w → (∀ r w', SysEnd (A11 C w.heap.size b2) F (fun k => F k ∧ ¬ C k) w (g x) r w' → K r Q w') → callW Tryz.prog fR [.pointer (some ⟨b2, 0, none⟩)] [.sc .sl] K Q w)
    {x : StM} (hp : PairAt n0 b b2 x x w) (f0 : Fr None W0 w) {N : Nat} (hN : N ≤ 100) {tI : Int} (ht : tI = (N : Int)) {Z : W R} {done : W R} (hd : ∀ w', Fr None W0 w' → done Q w') :
    loopW (σ := Int) (fun K_3 s_4 => cond (decide (s_4 < tI))
      (joinW (σ := Bool) (fun J_5 =>
      callW Tryz.prog fP [.pointer (some ⟨b, 0, none⟩)] [.sc .sl] fun (x_6 : Sl) =>
      callW Tryz.prog fR [.pointer (some ⟨b2, 0, none⟩)] [.sc .sl] fun (x_7 : Sl) =>
      callW Tryz.prog k_pinnaceref07_Same [.slice x_6.a x_6.n x_6.c, .slice x_7.a x_7.n x_7.c] [.sc .bool] fun (x_8 : Bool) =>
      cond (!x_8)
        (J_5 true)
        (callW Tryz.prog k_pinnacelaw14_alike [.pointer (some ⟨b, 0, none⟩), .pointer (some ⟨b2, 0, none⟩)] [.sc .bool] fun (x_9 : Bool) =>
            J_5 (!x_9)))
    <| fun s_10 =>
    cond s_10 Z (K_3 (IntKind.wrap .u8 (s_4 + 1)))) done) 0 Q w := by
  subst ht
  refine forI (N := N) (fun s : Int => s) (fun j i w' => i = (j : Int) ∧ Fr None W0 w' ∧ ∃ y, PairAt n0 b b2 y y w') ⟨rfl, f0, x, hp⟩ (fun j s w' h => h.1) ?_ fun i w' ⟨_, f, _⟩ => hd w' f
  rintro j i w1 K' hj ⟨rfl, f1, y, hy⟩ - hK
  have hs1 := f1.size
  have ok := hy.ok.1
  refine joinI (fun z w' => z = false ∧ Fr None W0 w' ∧ ∃ y, PairAt n0 b b2 y y w') ?_ fun z w' ⟨hz, f, h⟩ => by
    subst hz
    exact condF rfl (hK _ _ ⟨by rw [wu8 (by omega)]; rfl, f, h⟩)
  refine hy.both (by omega) hP hR fun r r2 w2 hy2 hr hr2 f2 => ?_
  refine spec_r7_Same hr hr2 (by have := hlen y ok; show _ ≤ 1048576; omega) fun w3 f3 => ?_
  refine condF (by simp) (spec_l14_alike (hy2.fr0 f3) fun w4 f4 => ⟨rfl, ?_, (g y).1, (hy2.fr0 f3).fr0 f4⟩)
  exact ((f1.newer f2 fun k e => by omega).then0 f3).then0 f4

end Go.Proofs.YtkblnhnjagemlaaGreat
