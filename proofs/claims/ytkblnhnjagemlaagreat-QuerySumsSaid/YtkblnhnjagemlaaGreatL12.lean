/-
  query: what the laws share.
-/
import Derived.Test.YtkblnhnjagemlaaGreatPair
import Derived.Test.YtkblnhnjagemlaaGreatQry2
import Derived.Test.YtkblnhnjagemlaaGreatFL12
import Derived.Test.YtkblnhnjagemlaaGreatShut
namespace Go.Proofs.YtkblnhnjagemlaaGreat
open Go Go.RowKit Go.ChangeShapes Go.WideShapes Go.ChangeAt Go.Proofs.YtkblnhnjagemlaaGreat.Den
variable {R : Type} {Q : R → World → Prop} {w : World} {H : Type} {enc : TypeId × Value → H}

theorem SlT.later {W : World} {t : Ty} {s : Sl} {l : List t.T} (h : SlT (Old W) W t s l) (f : Fr None W w) : SlT (Old w) w t s l := (h.fr0 f).mono fun k _ e => by have e : k < W.heap.size := e; have := f.size; show k < w.heap.size; omega

/-! ### makes, that came in -/
abbrev MkRaw := Sl × Bool
abbrev mkT : Ty := .agg [.sl, .bool]
theorem makes_arg : SlArg Tryz.prog 22 122 mkT [32, 4] :=
  ⟨by kernel_rfl, by kernel_rfl, by decide, by kernel_rfl, ⟨[.sl, .bool], by kernel_rfl, .inl rfl⟩⟩
def MkIn (W : World) (r : MkRaw) (m : List Comp × Bool) : Prop := ListIn W r.1 m.1 ∧ r.2 = m.2
theorem makes_in {raws : List MkRaw} (h : ∀ r ∈ raws, AllLeaf enc Tryz.prog w [32, 4] (mkT.cells r)) : ∃ L, All2 (MkIn w) raws L := deep_of fun r hr => by
  obtain ⟨_, h⟩ := h r hr
  obtain ⟨l, hl⟩ := comps_leaf (s := r.1) (h 0 _ _ rfl rfl)
  exact ⟨(l, r.2), hl, rfl⟩
theorem MkIn.later {W : World} {raws : List MkRaw} {L : List (List Comp × Bool)} (h : All2 (MkIn W) raws L) (f : Fr None W w) : All2 (MkIn w) raws L := h.imp fun r l ⟨⟨h1, h2, h3⟩, h4⟩ => ⟨⟨SlT.later h1 f, h2, h3⟩, h4⟩

/-! ### what fills them -/
def mkStep (p : StM × List Int) (m : List Comp × Bool) : StM × List Int := ((p.1.spawn (m.1.take 20)).2.2, if m.2 = true then p.2 ++ [(p.1.spawn (m.1.take 20)).1] else p.2)
def made (L : List (List Comp × Bool)) : StM × List Int := L.foldl mkStep (StM.new 60 1, [])
def fill12 (L : List (List Comp × Bool)) : StM := (made (L.take 60)).2.foldl (fun y id => (y.despawn id).2) (made (L.take 60)).1
theorem fold_take' {α β : Type} {f : β → α → β} {b : β} {l : List α} {j : Nat} {a : α} (h : l[j]? = some a) : (l.take (j + 1)).foldl f b = f ((l.take j).foldl f b) a := by
  rw [take_at h, List.foldl_append]
  rfl
theorem made_len : ∀ (L : List (List Comp × Bool)) (p : StM × List Int), (L.foldl mkStep p).2.length ≤ p.2.length + L.length
  | [], p => Nat.le_refl _
  | m :: r, p => by
    have h1 := made_len r (mkStep p m)
    have h2 : (mkStep p m).2.length ≤ p.2.length + 1 := by
      unfold mkStep
      dsimp only
      split
      · simp
      · omega
    simp only [List.foldl_cons, List.length_cons]
    omega
theorem made_ok0 : ∀ (L : List (List Comp × Bool)) (p : StM × List Int), StOk p.1 → StOk (L.foldl mkStep p).1
  | [], _, h => h
  | m :: r, p, h => made_ok0 r (mkStep p m) (h.spawn _)
theorem made_ok (L : List (List Comp × Bool)) : StOk (made L).1 := made_ok0 L _ (stok_new (by decide) (by decide) (by decide))
theorem spawn_id12 {x : StM} (h : StOk x) (l : List Comp) : IdOk (x.spawn l).1 := by
  unfold StM.spawn
  split
  · exact ⟨Int.le_refl 0, show (0 : Int) ≤ 4294967295 by decide⟩
  · cases ht : x.s.take with
    | none => exact ⟨Int.le_refl 0, show (0 : Int) ≤ 4294967295 by decide⟩
    | some p =>
      obtain ⟨id, s'⟩ := p
      exact (h.s.take_live ht).2.2.1
theorem made_ids : ∀ (L : List (List Comp × Bool)) (p : StM × List Int), StOk p.1 → (∀ id ∈ p.2, IdOk id) → ∀ id ∈ (L.foldl mkStep p).2, IdOk id
  | [], _, _, h => h
  | m :: r, p, ok, h => made_ids r (mkStep p m) (ok.spawn _) (by
    unfold mkStep
    dsimp only
    split
    · intro id hi
      rcases List.mem_append.1 hi with hi | hi
      · exact h id hi
      · simp only [List.mem_singleton] at hi
        subst hi
        exact spawn_id12 ok _
    · exact h)
/-- the two stores, and the numbers that go again; X is others'. -/
def FillAt (n0 b b2 : Nat) (x x2 : StM) (ids : List Int) (s : Sl) (X : Nat → Prop) (w : World) : Prop :=
  ∃ G H C : Nat → Prop, Store b x G w ∧ R11 C b2 x2 H w ∧ (∀ k, G k → n0 ≤ k ∧ k < w.heap.size) ∧ (∀ k, H k → n0 ≤ k ∧ k < w.heap.size) ∧ (∀ k, G k → ¬ H k) ∧ (∀ k, X k → k < w.heap.size ∧ ¬ G k ∧ ¬ H k) ∧ Den.Own (fun k => n0 ≤ k ∧ ¬ G k ∧ ¬ H k) w 31 idT s ids
abbrev No : Nat → Prop := fun _ => False
section
variable {n0 b b2 : Nat} {x x2 : StM} {ids : List Int} {s : Sl} {X : Nat → Prop}
theorem FillAt.pair (h : FillAt n0 b b2 x x2 ids s X w) : PairAt n0 b b2 x x2 w := by
  obtain ⟨G, H, C, h1, h2, h3, h4, h5, _⟩ := h
  exact ⟨G, H, C, h1, h2, h3, h4, h5⟩
theorem FillAt.own (h : FillAt n0 b b2 x x2 ids s X w) : ∃ S, Den.Own S w 31 idT s ids := by
  obtain ⟨G, H, C, h1, h2, h3, h4, h5, _, h⟩ := h
  exact ⟨_, h⟩
theorem FillAt.guard {X' : Nat → Prop} {w' : World} (h : FillAt n0 b b2 x x2 ids s X w) (f : Fr None w w') (hX : ∀ k, X' k → w.heap.size ≤ k ∧ k < w'.heap.size) : FillAt n0 b b2 x x2 ids s X' w' := by
  obtain ⟨G, H, C, h1, h2, h3, h4, h5, _, h6⟩ := h
  have := f.size
  exact ⟨G, H, C, Store.st.fr0 h1 f, R11.st.fr0 h2 f, fun k e => ⟨(h3 k e).1, by have := (h3 k e).2; omega⟩, fun k e => ⟨(h4 k e).1, by have := (h4 k e).2; omega⟩, h5,
    fun k e => ⟨(hX k e).2, fun e2 => by have := (h3 k e2).2; have := (hX k e).1; omega, fun e2 => by have := (h4 k e2).2; have := (hX k e).1; omega⟩, h6.none f⟩
theorem FillAt.fr0 {w' : World} (h : FillAt n0 b b2 x x2 ids s X w) (f : Fr None w w') : FillAt n0 b b2 x x2 ids s No w' := h.guard f fun _ e => e.elim
/-- the program's store becomes another one. -/
theorem FillAt.prog (h : FillAt n0 b b2 x x2 ids s X w) (hn : n0 ≤ w.heap.size) : ∃ G, Store b x G w ∧ (∀ k, G k → n0 ≤ k) ∧ (∀ k, X k → ¬ G k) ∧ ∀ y w', Store b y (Ex G w) w' → Fr G w w' → FillAt n0 b b2 y x2 ids s X w' := by
  obtain ⟨G, H, C, h1, h2, h3, h4, h5, hX, h6⟩ := h
  refine ⟨G, h1, fun k e => (h3 k e).1, fun k e => (hX k e).2.1, fun y w' st f => ?_⟩
  have hs := f.size
  refine ⟨fun k => Ex G w k ∧ k < w'.heap.size, H, C, Store.st.mono st fun k hk e => ⟨e, hk⟩, R11.st.fr h2 f fun k e e2 => h5 k e2 e, fun k e => ?_, fun k e => ⟨(h4 k e).1, by have := (h4 k e).2; omega⟩, fun k e e2 => ?_, fun k e => ?_, ?_⟩
  · rcases e.1 with e1 | e1
    · exact ⟨(h3 k e1).1, e.2⟩
    · exact ⟨by omega, e.2⟩
  · rcases e.1 with e1 | e1
    · exact h5 k e1 e2
    · have := (h4 k e2).2; omega
  · obtain ⟨hk, hg, hh⟩ := hX k e
    refine ⟨by omega, fun e2 => ?_, hh⟩
    rcases e2.1 with e3 | e3
    · exact hg e3
    · omega
  · refine Den.Own.mono ((h6.mono (S' := fun k => (n0 ≤ k ∧ ¬ G k ∧ ¬ H k) ∧ k < w.heap.size) fun k hk e => ⟨e, hk⟩).fr f fun k e e2 => e.1.2.1 e2) fun k _ e => ⟨e.1.1, fun e2 => ?_, e.1.2.2⟩
    rcases e2.1 with e3 | e3
    · exact e.1.2.1 e3
    · omega
/-- .. the document's. -/
theorem FillAt.doc (h : FillAt n0 b b2 x x2 ids s X w) (hn : n0 ≤ w.heap.size) : ∃ C H, R11 C b2 x2 H w ∧ (∀ k, H k → n0 ≤ k) ∧ (∀ k, X k → ¬ H k) ∧ ∀ y C' w', R11 C' b2 y (Ex H w) w' → Fr (fun k => H k ∧ ¬ C k) w w' → FillAt n0 b b2 x y ids s X w' := by
  obtain ⟨G, H, C, h1, h2, h3, h4, h5, hX, h6⟩ := h
  refine ⟨C, H, h2, fun k e => (h4 k e).1, fun k e => (hX k e).2.2, fun y C' w' st f => ?_⟩
  have hs := f.size
  refine ⟨G, fun k => Ex H w k ∧ k < w'.heap.size, C', Store.st.fr h1 f fun k e e2 => h5 k e e2.1, R11.st.mono st fun k hk e => ⟨e, hk⟩, fun k e => ⟨(h3 k e).1, by have := (h3 k e).2; omega⟩, fun k e => ?_, fun k e e2 => ?_, fun k e => ?_, ?_⟩
  · rcases e.1 with e1 | e1
    · exact ⟨(h4 k e1).1, e.2⟩
    · exact ⟨by omega, e.2⟩
  · rcases e2.1 with e1 | e1
    · exact h5 k e e1
    · have := (h3 k e).2; omega
  · obtain ⟨hk, hg, hh⟩ := hX k e
    refine ⟨by omega, hg, fun e2 => ?_⟩
    rcases e2.1 with e3 | e3
    · exact hh e3
    · omega
  · refine Den.Own.mono ((h6.mono (S' := fun k => (n0 ≤ k ∧ ¬ G k ∧ ¬ H k) ∧ k < w.heap.size) fun k hk e => ⟨e, hk⟩).fr f fun k e e2 => e.1.2.2 e2.1) fun k _ e => ⟨e.1.1, e.1.2.1, fun e2 => ?_⟩
    rcases e2.1 with e3 | e3
    · exact e.1.2.2 e3
    · omega
/-- a number more. -/
theorem FillAt.app (h : FillAt n0 b b2 x x2 ids s X w) (hn : n0 ≤ w.heap.size) (hl : ids.length ≤ 100000) {id : Int} {K : Sl → W R} (hk : ∀ r w', FillAt n0 b b2 x x2 (ids ++ [id]) r No w' → Fr (fun k => n0 ≤ k) w w' → K r Q w') :
    newW 31 [.int .u32 id] (fun a => rawW Tryz.prog (Builtin.append_ #[28, 28] 28 #[.slice s.a s.n s.c, .slice (some a) 1 1]) [.sc .sl] K) Q w := by
  obtain ⟨G, H, C, h1, h2, h3, h4, h5, _, h6⟩ := h
  refine appP (x := id) ids_ty rfl h6 (fun k e => ⟨by omega, fun e2 => by have := (h3 k e2).2; omega, fun e2 => by have := (h4 k e2).2; omega⟩) (by omega) (by omega) fun r w' o f => ?_
  have hs := f.size
  exact hk r w' ⟨G, H, C, Store.st.fr h1 f fun k e e2 => (h6.own k e2).2.1 e, R11.st.fr h2 f fun k e e2 => (h6.own k e2).2.2 e, fun k e => ⟨(h3 k e).1, by have := (h3 k e).2; omega⟩, fun k e => ⟨(h4 k e).1, by have := (h4 k e).2; omega⟩, h5, fun _ e => e.elim, o⟩ (f.sub fun k e => (h6.own k e).1)
end
theorem desp_take {l : List Int} {x : StM} {j : Nat} {id : Int} (h : l[j]? = some id) : (l.take (j + 1)).foldl (fun y id => (StM.despawn y id).2) x = (((l.take j).foldl (fun y id => (StM.despawn y id).2) x).despawn id).2 := fold_take' h

theorem spec_l12_fill {s : Sl} {raws : List MkRaw} {L : List (List Comp × Bool)} (hS : SlT (Old w) w mkT s raws) (hL : All2 (MkIn w) raws L) (hcap : s.c ≤ maxLen) {K : Res [.sc .ptr, .sc .ptr] → W R}
    (hk : ∀ b b2 w', PairAt w.heap.size b b2 (fill12 L) (fill12 L) w' → Fr None w w' → K (some ⟨b, 0, none⟩, some ⟨b2, 0, none⟩) Q w') :
    callW Tryz.prog k_pinnacelaw12_fill [.slice s.a s.n s.c] [.sc .ptr, .sc .ptr] K Q w := by
  refine C_pinnacelaw12_fill _ K Q w ?_
  unfold F_pinnacelaw12_fill
  have hlen := hS.len
  have hll := hL.len
  have hsc := hS.cap
  rw [maxLen_eq] at hcap
  refine spec_store_New (fun h => absurd ⟨by decide, by decide, by decide, by decide⟩ h) fun b w1 _ st1 f1 => ?_
  have hs1 := f1.size
  refine spec_r11_New (fun h => absurd ⟨by decide, by decide, by decide, by decide⟩ h) fun b2 w2 _ st2 f2 => ?_
  have hs2 := f2.size
  have start : FillAt w.heap.size b b2 (StM.new 60 1) (StM.new 60 1) [] ⟨none, 0, 0⟩ No w2 := ⟨fun r => w.heap.size ≤ r ∧ r < w1.heap.size, fun r => w1.heap.size ≤ r ∧ r < w2.heap.size, _, Store.st st1 f2 fun r hr e => ⟨fun h => h, e, hr⟩, R11.st.mono st2 fun r hr e => ⟨e, hr⟩,
    fun r e => ⟨e.1, by omega⟩, fun r e => ⟨by omega, e.2⟩, fun r e e2 => by omega, fun _ e => e.elim, Den.Own.nil _ _ _ _⟩
  have f02 := f1.then0 f2
  dsimp only
  refine joinI (fun (z : Sl) w' => FillAt w.heap.size b b2 (made (L.take 60)).1 (made (L.take 60)).1 (made (L.take 60)).2 z No w' ∧ Fr None w w') ?_ fun z w3 ⟨h3, f3⟩ => ?_
  · refine loopI (fun (st : Sl × Int) w' => ∃ j : Nat, st.2 = (j : Int) ∧ j ≤ 60 ∧ j ≤ L.length ∧ FillAt w.heap.size b b2 (made (L.take j)).1 (made (L.take j)).1 (made (L.take j)).2 st.1 No w' ∧ Fr None w w') (fun st _ => (60 - st.2).toNat) ⟨0, rfl, by omega, by omega, start, f02⟩ ?_
    rintro ⟨z, _⟩ w3 ⟨j, rfl, hj60, hjl, hp, f3⟩
    have hs3 := f3.size
    dsimp only at hp
    refine condD (fun hlt => ?_) fun hge => ?_
    · have hlt : j < L.length := by have hlt : (j : Int) < s.n := hlt; omega
      obtain ⟨l, hl⟩ : ∃ l, L[j]? = some l := ⟨_, List.getElem?_eq_getElem hlt⟩
      obtain ⟨r, hr, ⟨hl1, hl2, hl3⟩, hl4⟩ := hL.get hl
      rw [maxLen_eq] at hl3
      have hln := hl1.len
      have hlcap := hl1.cap
      have hml := made_len (L.take j) (StM.new 60 1, [])
      have hml : (made (L.take j)).2.length ≤ 100000 := by simp at hml; unfold made; omega
      have hmk : made (L.take (j + 1)) = mkStep (made (L.take j)) l := fold_take' hl
      refine (hS.fr0 f3).get (j := j) rfl rfl (by omega) fun y hy => ?_
      rw [hr] at hy
      cases hy
      refine newI fun w4 B4 f4 s4 => stoAll B4 rfl rfl fun w5 B5 f5 s5 => ?_
      have f35 : Fr None w3 w5 := f4.newer f5 fun k e => by omega
      refine condD (fun h60 => ?_) fun h60 => ?_
      · have : j = 60 := by have h60 : (j : Int) ≥ 60 := h60; omega
        subst this
        exact ⟨FillAt.fr0 hp f35, f3.then0 f35⟩
      · have h60 : ¬ (j : Int) ≥ 60 := h60
        refine fldI B5 (i := 0) (x := r.1) rfl (fldI B5 (i := 0) (x := r.1) rfl ?_)
        have hl5 := (hl1.fr0 f3).fr0 f35
        refine hl5.cutI (n := min l.1.length 20) (by split <;> omega) (by omega) fun sl _ hsl => ?_
        have hcut := hsl _ _ hl5
        have hm : l.1.take (min l.1.length 20) = l.1.take 20 := by
          rcases Nat.le_total l.1.length 20 with h | h
          · rw [Nat.min_eq_left h, List.take_of_length_le (Nat.le_refl _), List.take_of_length_le h]
          · rw [Nat.min_eq_right h]
        rw [hm] at hcut
        have hsm : Small (l.1.take 20) := by show _ ≤ 1048576; simp; omega
        have hck : ∀ c ∈ l.1.take 20, CompOk c := fun c hc => hl2 c (List.mem_of_mem_take hc)
        rw [add_lit]
        refine setI (i := 0) B5 (Nat.zero_lt_succ _) rfl fun w6 B6 f6 s6 => ?_
        have f36 : Fr None w3 w6 := f35.newer f6 fun k e => by omega
        have hcut6 := hcut.fr f6 fun k e e2 => by have e : k < w.heap.size := e; omega
        refine fld0 B6 (i := 0) (x := sl) rfl ?_
        refine spec_r5_Twin hcut6 hsm fun tw w7 o7 f7 => ?_
        have f37 := f36.then0 f7
        have hs6 := f36.size
        have hs7 := f7.size
        have hp7 := hp.guard (X' := fun k => w3.heap.size ≤ k ∧ k < w7.heap.size) f37 fun k e => e
        obtain ⟨G, hG1, hG2, hG3, hG4⟩ := hp7.prog (by omega)
        refine spec_store_Spawn hG1 o7.sl (fun k hk e e2 => hG3 k ⟨Nat.le_trans hs6 e, hk⟩ e2) hsm hck fun w8 st8 f8 => ?_
        have hp8 := hG4 _ _ st8 f8
        have hs8 := f8.size
        have B8 := (B6.fr f7 fun h => h).fr f8 fun e => hG3 _ ⟨Nat.le_refl _, by omega⟩ e
        have hcut8 := (hcut6.fr0 f7).fr f8 fun k e e2 => by have e : k < w.heap.size := e; have := hG2 k e2; omega
        refine fld0 B8 (i := 0) (x := sl) rfl ?_
        obtain ⟨C, H, hH1, hH2, hH3, hH4⟩ := hp8.doc (by omega)
        refine spec_r11_Spawn hH1 hcut8 (fun k _ e e2 => by have e : k < w.heap.size := e; have := hH2 k e2; omega) hsm hck fun C' w9 _ st9 f9 => ?_
        have hp9 := hH4 _ _ _ st9 f9
        have hs9 := f9.size
        have B9 := B8.fr f9 fun e => hH3 _ ⟨Nat.le_refl _, by omega⟩ e.1
        have f09 : Fr None w w9 := (f3.then0 f37).newer ((f8.sub fun k e => hG2 k e).then (f9.sub fun k e => hH2 k e.1)) fun k e => e
        rw [add_lit]
        refine fld0 B9 (i := 1) (x := r.2) rfl ?_
        refine joinI (fun (z : Sl) w' => FillAt w.heap.size b b2 (made (L.take (j + 1))).1 (made (L.take (j + 1))).1 (made (L.take (j + 1))).2 z No w' ∧ Fr None w w') ?_ fun z w10 ⟨h10, f10⟩ => ?_
        · rw [hmk]
          unfold mkStep
          rw [hl4]
          refine condI (fun hg => ?_) fun hg => ?_
          · refine hp9.app (by omega) hml fun z' w10 hp10 f10 => ⟨?_, f09.newer f10 fun k e => e⟩
            rw [if_pos hg]
            exact hp10
          · rw [if_neg (by rw [hg]; decide)]
            exact ⟨hp9.fr0 (Fr.refl _ _), f09⟩
        · have e1 : IntKind.wrap .i64 ((j : Int) + 1) = ((j + 1 : Nat) : Int) := wsucc (N := 60) (by omega) (by omega)
          refine ⟨⟨j + 1, e1, by omega, by omega, h10, f10⟩, ?_⟩
          dsimp only
          rw [e1]; omega
    · have hjL : j = L.length := by have hge : ¬ (j : Int) < s.n := hge; omega
      rw [List.take_of_length_le (by omega)] at hp
      rw [List.take_of_length_le (by omega)]
      exact ⟨hp, f3⟩
  · have hids := made_ids (L.take 60) (StM.new 60 1, []) (stok_new (by decide) (by decide) (by decide)) (fun _ h => by cases h)
    have hml := made_len (L.take 60) (StM.new 60 1, [])
    change ∀ id ∈ (made (L.take 60)).2, IdOk id at hids
    change (made (L.take 60)).2.length ≤ _ at hml
    have hfill : fill12 L = (made (L.take 60)).2.foldl (fun y id => (StM.despawn y id).2) (made (L.take 60)).1 := rfl
    generalize made (L.take 60) = p at h3 hids hml hfill
    obtain ⟨_, own3⟩ := h3.own
    have hzn := own3.len
    have hzl : p.2.length ≤ 60 := by simp at hml; omega
    refine forI (N := z.n) (fun s : Int => s) (fun j i w' => i = (j : Int) ∧ FillAt w.heap.size b b2 ((p.2.take j).foldl (fun y id => (StM.despawn y id).2) p.1) ((p.2.take j).foldl (fun y id => (StM.despawn y id).2) p.1) p.2 z No w' ∧ Fr None w w') ⟨rfl, h3, f3⟩ (fun j s w' h => h.1) ?_ ?_
    · rintro j i w4 K' hj ⟨rfl, h4, f4⟩ - hK
      have hs4 := f4.size
      obtain ⟨_, own4⟩ := h4.own
      refine own4.sl.get rfl rfl (by omega) fun id hid => ?_
      have hok := hids id (List.mem_of_getElem? hid)
      obtain ⟨G, hG1, hG2, hG3, hG4⟩ := h4.prog hs4
      refine spec_store_Despawn hG1 hok fun w5 st5 f5 => ?_
      have h5 := hG4 _ _ st5 f5
      have hs5 := f5.size
      obtain ⟨C, H, hH1, hH2, hH3, hH4⟩ := h5.doc (by omega)
      refine spec_r11_Despawn hH1 hok fun C' w6 _ st6 f6 => ?_
      have h6 := hH4 _ _ _ st6 f6
      refine hK _ _ ⟨wsucc hj (by omega), ?_, f4.newer ((f5.sub fun k e => hG2 k e).then (f6.sub fun k e => hH2 k e.1)) fun k e => e⟩
      rw [desp_take hid]
      exact h6
    · rintro i w4 ⟨_, h4, f4⟩
      rw [List.take_of_length_le (by omega)] at h4
      exact hk b b2 w4 (by rw [hfill]; exact h4.pair) f4


/-! ### the document's example -/
def ex12 : List (List Comp × Bool) := [([(0, 0, 0, 0)], false), ([(0, 0, 0, 0), (2, 0, 0, 0)], false), ([(2, 0, 0, 0)], false)]
def awake12 : StM := fill12 ex12
theorem awake12_1 : withL awake12 1 0 = [1024, 1025] := by kernel_rfl
theorem awake12_2 : withL awake12 1 4 = [1024] := by kernel_rfl
theorem awake12_3 : pageM awake12 0 0 1 1 = [1025] := by kernel_rfl
theorem spec_l12_awake {K : Res [.sc .bool] → W R} (hk : ∀ w', Fr None w w' → K true Q w') : callW Tryz.prog k_pinnacelaw12_awake [] [.sc .bool] K Q w := by
  refine C_pinnacelaw12_awake K Q w ?_
  unfold F_pinnacelaw12_awake
  refine newI fun w1 B1 f1 s1 => newI fun w2 B2 f2 s2 => ?_
  refine stoAll (B1.fr f2 fun h => h) rfl rfl fun w3 B3 f3 s3 => stoAll (B2.fr f3 fun e => by omega) rfl rfl fun w4 B4 f4 s4 => ?_
  have f24 : Fr (fun k => w.heap.size ≤ k) w2 w4 := (f3.sub fun k e => by omega).then (f4.sub fun k e => by omega)
  have f04 : Fr None w w4 := (f1.then0 f2).newer f24 fun k e => e
  have B3 := B3.fr f4 fun e => by omega
  refine aggI B3 (x := ((0, 0, 0, 0) : Comp)) rfl (newI fun w5 B5 f5 s5 => ?_)
  refine aggI (B3.fr f5 fun h => h) (x := ((0, 0, 0, 0) : Comp)) rfl (aggI (B4.fr f5 fun h => h) (x := ((2, 0, 0, 0) : Comp)) rfl (newI fun w6 B6 f6 s6 => ?_))
  refine aggI ((B4.fr f5 fun h => h).fr f6 fun h => h) (x := ((2, 0, 0, 0) : Comp)) rfl (newI fun w7 B7 f7 s7 => newI fun w8 B8 f8 s8 => ?_)
  have f08 := (((f04.then0 f5).then0 f6).then0 f7).then0 f8
  have S1 : SlT (Old w8) w8 compT ⟨some ⟨w4.heap.size, 0, none⟩, 1, 1⟩ [((0, 0, 0, 0) : Comp)] :=
    (Den.Own.mk' (S := Old w8) (E := 53) (t := compT) (l := [((0, 0, 0, 0) : Comp)]) (g := w4.heap.size) (c := 1) (cur := ⟨_⟩) (by show w4.heap.size < w8.heap.size; omega) (((B5.fr f6 fun h => h).fr f7 fun h => h).fr f8 fun h => h) (by decide) (by rw [maxLen_eq]; decide) rfl rfl).sl
  have S2 : SlT (Old w8) w8 compT ⟨some ⟨w5.heap.size, 0, none⟩, 2, 2⟩ [((0, 0, 0, 0) : Comp), (2, 0, 0, 0)] :=
    (Den.Own.mk' (S := Old w8) (E := 53) (t := compT) (l := [((0, 0, 0, 0) : Comp), (2, 0, 0, 0)]) (g := w5.heap.size) (c := 2) (cur := ⟨_⟩) (by show w5.heap.size < w8.heap.size; omega) ((B6.fr f7 fun h => h).fr f8 fun h => h) (by decide) (by rw [maxLen_eq]; decide) rfl rfl).sl
  have S3 : SlT (Old w8) w8 compT ⟨some ⟨w6.heap.size, 0, none⟩, 1, 1⟩ [((2, 0, 0, 0) : Comp)] :=
    (Den.Own.mk' (S := Old w8) (E := 53) (t := compT) (l := [((2, 0, 0, 0) : Comp)]) (g := w6.heap.size) (c := 1) (cur := ⟨_⟩) (by show w6.heap.size < w8.heap.size; omega) (B7.fr f8 fun h => h) (by decide) (by rw [maxLen_eq]; decide) rfl rfl).sl
  have S4 : SlT (Old w8) w8 mkT ⟨some ⟨w7.heap.size, 0, none⟩, 3, 3⟩ [((⟨some ⟨w4.heap.size, 0, none⟩, 1, 1⟩, false) : MkRaw), (⟨some ⟨w5.heap.size, 0, none⟩, 2, 2⟩, false), (⟨some ⟨w6.heap.size, 0, none⟩, 1, 1⟩, false)] :=
    (Den.Own.mk' (S := Old w8) (E := 122) (t := mkT) (l := [((⟨some ⟨w4.heap.size, 0, none⟩, 1, 1⟩, false) : MkRaw), (⟨some ⟨w5.heap.size, 0, none⟩, 2, 2⟩, false), (⟨some ⟨w6.heap.size, 0, none⟩, 1, 1⟩, false)]) (g := w7.heap.size) (c := 3) (cur := ⟨_⟩) (by show w7.heap.size < w8.heap.size; omega) B8 (by show 3 ≤ 3; decide) (by rw [maxLen_eq]; decide) rfl rfl).sl
  refine spec_l12_fill S4 (L := ex12) ⟨rfl, fun i r l h1 h2 => ?_⟩ (by rw [maxLen_eq]; show 3 ≤ _; decide) fun b b2 w9 hp f9 => ?_
  · rcases i with _ | _ | _ | i
    · simp [ex12] at h1 h2; subst h1; subst h2
      exact ⟨⟨S1, by simp [CompOk, i32], by rw [maxLen_eq]; show 1 ≤ _; decide⟩, rfl⟩
    · simp [ex12] at h1 h2; subst h1; subst h2
      exact ⟨⟨S2, by simp [CompOk, i32], by rw [maxLen_eq]; show 2 ≤ _; decide⟩, rfl⟩
    · simp [ex12] at h1 h2; subst h1; subst h2
      exact ⟨⟨S3, by simp [CompOk, i32], by rw [maxLen_eq]; show 1 ≤ _; decide⟩, rfl⟩
    · simp at h1
  · have hp : PairAt w8.heap.size b b2 awake12 awake12 w9 := hp
    obtain ⟨G, _, _, h1, _⟩ := hp
    have f09 := f08.then0 f9
    refine joinI (fun z w' => z = true ∧ Fr None w w') ?_ fun z w' ⟨hz, f⟩ => by subst hz; exact hk w' f
    refine spec_query_With h1 fun r1 w10 o1 f10 => ?_
    refine litJ (t := idT) [(1024 : Int), 1025] rfl (by decide) fun w11 l11 f11 _ => ?_
    refine spec_r7_Same (o1.sl.fr0 f11) l11 (by show _ ≤ 1048576; rw [awake12_1]; decide) fun w12 f12 => condT (by rw [awake12_1]; rfl) ?_
    have f912 := (f10.then0 f11).then0 f12
    refine spec_query_With (Store.st.fr0 h1 f912) fun r2 w13 o2 f13 => ?_
    refine litJ (t := idT) [(1024 : Int)] rfl (by decide) fun w14 l14 f14 _ => ?_
    refine spec_r7_Same (o2.sl.fr0 f14) l14 (by show _ ≤ 1048576; rw [awake12_2]; decide) fun w15 f15 => condT (by rw [awake12_2]; rfl) ?_
    have f915 := ((f912.then0 f13).then0 f14).then0 f15
    refine spec_query_Page (Store.st.fr0 h1 f915) fun r3 w16 S16 f16 => ?_
    refine litJ (t := idT) [(1025 : Int)] rfl (by decide) fun w17 l17 f17 _ => ?_
    refine spec_r7_Same (S16.fr0 f17) l17 (by show _ ≤ 1048576; rw [awake12_3]; decide) fun w18 f18 => ?_
    exact ⟨by rw [awake12_3]; rfl, (((f09.then0 f915).then0 f16).then0 f17).then0 f18⟩

end Go.Proofs.YtkblnhnjagemlaaGreat
