/-
  What the functions of the program's package store compute (third part).
-/
import Derived.Test.YtkblnhnjagemlaaGreatSto2
namespace Go.Proofs.YtkblnhnjagemlaaGreat
open Go Go.RowKit Go.Proofs.YtkblnhnjagemlaaGreat.Den
variable {R : Type} {Q : R → World → Prop} {w : World}

section
variable {F : Nat → Prop} {b : Nat} {x : StM}

/-- what is known of an entity that is there. -/
theorem sto_at (h : StOk x) {id : Int} : (x.at id = none ∧ homeT x.tab id = none) ∨ ∃ m i e, x.at id = some (m, i, e) ∧ homeT x.tab id = some m ∧ m < 64 ∧ rowM (x.tab m) id = some i ∧ (x.tab m)[i]? = some e ∧ e.1 = id ∧ Valid m e.2 ∧ x.s.live id = true := by
  cases ha : x.at id with
  | none => exact .inl ⟨rfl, h.at_none.1 ha⟩
  | some p =>
    obtain ⟨m, i, e⟩ := p
    obtain ⟨h1, h2, h3, h4, h5, h6, h7⟩ := h.at_some ha
    exact .inr ⟨m, i, e, rfl, h1, h2, h3, h4, h5, h6, h7⟩

theorem spec_store_Despawn0 {id : Int} {K : Res [.sc (.int .i64)] → W R} (hk : K 10 Q w) : callW Tryz.prog k_store_Store_Despawn [.pointer none, .int .u32 id] [.sc (.int .i64)] K Q w :=
  C_store_Store_Despawn _ _ K Q w (stor_of0 hk)
theorem spec_store_Despawn (h : Store b x F w) {id : Int} (hid : IdOk id) {K : Res [.sc (.int .i64)] → W R} (hk : ∀ w', Store b (x.despawn id).2 (Ex F w) w' → Fr F w w' → K (x.despawn id).1 Q w') :
    callW Tryz.prog k_store_Store_Despawn [.pointer (some ⟨b, 0, none⟩), .int .u32 id] [.sc (.int .i64)] K Q w := by
  have hst := h
  obtain ⟨ok, lab, sb, tb, hb, tp, D, hF, h⟩ := h
  refine C_store_Store_Despawn _ _ K Q w ?_
  unfold F_store_Store_Despawn
  refine stor_of h hid ?_
  rcases sto_at ok (id := id) with ⟨ha, hh⟩ | ⟨m, i, e, ha, hh, hm, hr, he, rfl, hv, hl⟩
  · rw [hh]
    have e1 : x.despawn id = (7, x) := by rw [StM.despawn, ha]
    rw [e1] at hk
    exact condT rfl (hk w (Store.st.mono hst fun _ _ e => .inl e) (Fr.refl _ _))
  · rw [hh]
    have e1 : x.despawn e.1 = (0, ⟨x.s.freed e.1, upd x.tab m (dropI (x.tab m) i)⟩) := by rw [StM.despawn, ha]
    rw [e1] at hk
    have hD := (h.hm _ _ hh).2
    refine condF rfl (tabo_Remove (h.tab m hm hD) hid hr he fun s w1 t1 o1 f1 => ?_)
    have h1 := h.setTab hm hD f1 (TabO.st.mono t1 fun _ _ e => .inl e)
    refine ptrI (fldI h1.blk.2 (x := some hb) rfl ?_)
    refine h1.homeDel hid fun w2 h2 f2 s2 => ?_
    refine ptrI (fldI h2.blk.2 (x := some ⟨sb, 0, none⟩) rfl ?_)
    have hx : ∀ k, relab lab w.heap.size w1.heap.size (5 + m) k ≠ 0 → lab k ≠ 0 ∨ w.heap.size ≤ k := relab_ex fun _ e => e
    have f02 : Fr (fun k => lab k ≠ 0) w w2 := (f1.lab (by omega)).exS f2 fun k e => hx k (by omega)
    refine spec_slots_Free h2.slots hid (fun hf => by rw [hl] at hf; cases hf) fun w3 _ sl3 f3 => ?_
    have h3 := h2.setSlots f3 sl3
    have hs := f02.size
    refine hk w3 ⟨ok.drop hm he, relab (relab lab w.heap.size w1.heap.size (5 + m)) w2.heap.size w3.heap.size 4, sb, tb, hb, tp, D, fun k e => ?_, ?_⟩ ((f02.exS f3 fun k e => hx k (by omega)).sub hF)
    · rcases relab_ne e with ⟨e, _⟩ | ⟨e, _⟩
      · exact (hx k e).imp (hF k) fun h => h
      · exact .inr (by omega)
    · have e2 : homeT (upd x.tab m (dropI (x.tab m) i)) = fun j => if j = e.1 then none else homeT x.tab j := by
        funext j
        exact home_drop ok hm he j
      show StoR _ w3 b sb tb hb tp D (x.s.freed e.1) (upd x.tab m (dropI (x.tab m) i)) (homeT (upd x.tab m (dropI (x.tab m) i)))
      rw [e2]
      exact h3

theorem spec_store_Get0 {id k : Int} {K : Res [.agg [.int .u8, .int .i32, .int .i32, .int .i32], .sc (.int .i64)] → W R} (hk : ∀ w', Fr None w w' → K ((0, 0, 0, 0), 10) Q w') : callW Tryz.prog k_store_Store_Get [.pointer none, .int .u32 id, .int .u8 k] [.agg [.int .u8, .int .i32, .int .i32, .int .i32], .sc (.int .i64)] K Q w := by
  refine C_store_Store_Get _ _ _ K Q w ?_
  unfold F_store_Store_Get
  refine newI fun w1 B1 f1 s1 => stor_of0 (condT rfl (stoAll B1 rfl rfl fun w2 B2 f2 s2 => aggI B2 (x := (0, 0, 0, 0)) rfl ?_))
  exact hk w2 (f1.newer f2 fun k e => by omega)
theorem spec_store_Get (h : Store b x F w) {id k : Int} (hid : IdOk id) {K : Res [.agg [.int .u8, .int .i32, .int .i32, .int .i32], .sc (.int .i64)] → W R} (hk : ∀ w', Fr None w w' → K (x.get id k) Q w') :
    callW Tryz.prog k_store_Store_Get [.pointer (some ⟨b, 0, none⟩), .int .u32 id, .int .u8 k] [.agg [.int .u8, .int .i32, .int .i32, .int .i32], .sc (.int .i64)] K Q w := by
  obtain ⟨ok, lab, sb, tb, hb, tp, D, hF, h⟩ := h
  refine C_store_Store_Get _ _ _ K Q w ?_
  unfold F_store_Store_Get
  refine newI fun w1 B1 f1 s1 => ?_
  have h1 := h.fr0 f1
  refine stor_of h1 hid ?_
  rcases sto_at ok (id := id) with ⟨ha, hh⟩ | ⟨m, i, e, ha, hh, hm, hr, he, rfl, hv, hl⟩
  · rw [hh]
    refine condT rfl (stoAll B1 rfl rfl fun w2 B2 f2 s2 => aggI B2 (x := (0, 0, 0, 0)) rfl ?_)
    have := hk w2 (f1.newer f2 fun k e => by omega)
    rw [StM.get, ha] at this
    exact this
  · rw [hh]
    refine condF rfl (tabo_Get (h1.tab m hm (h.hm _ _ hh).2) hid fun w2 f2 => ?_)
    refine stoAll (B1.fr f2 fun h => h) rfl rfl fun w3 B3 f3 s3 => aggI B3 (x := (getM m (x.tab m) e.1 k).1) rfl ?_
    have := hk w3 ((f1.then0 f2).newer f3 fun k e => by have := B1.lt; omega)
    have eg : x.get e.1 k = getM m (x.tab m) e.1 k := by
      rw [StM.get, ha, getM, hr]
      simp only [compM, he]
      rfl
    rw [eg] at this
    exact this

theorem spec_store_Set0 {id : Int} {c : Comp} {K : Res [.sc (.int .i64)] → W R} (hk : ∀ w', Fr None w w' → K 10 Q w') : callW Tryz.prog k_store_Store_Set [.pointer none, .int .u32 id, .agg ⟨compC c⟩] [.sc (.int .i64)] K Q w := by
  refine C_store_Store_Set _ _ _ K Q w ?_
  unfold F_store_Store_Set
  refine newI fun w1 B1 f1 s1 => aggI B1 (x := c) rfl (spec_schema_Check (c := c) fun w2 f2 => ?_)
  refine joinI (fun z w' => z = false ∧ w' = w2) ?_ ?_
  · exact condN (fun _ => ⟨rfl, rfl⟩) fun _ => ⟨rfl, rfl⟩
  · rintro z w' ⟨rfl, rfl⟩
    exact condF rfl (stor_of0 (condT rfl (hk _ (f1.then0 f2))))
theorem spec_store_Set (h : Store b x F w) {id : Int} (hid : IdOk id) {c : Comp} {K : Res [.sc (.int .i64)] → W R} (hk : ∀ w', Store b (x.set id c).2 F w' → Fr F w w' → K (x.set id c).1 Q w') :
    callW Tryz.prog k_store_Store_Set [.pointer (some ⟨b, 0, none⟩), .int .u32 id, .agg ⟨compC c⟩] [.sc (.int .i64)] K Q w := by
  refine C_store_Store_Set _ _ _ K Q w ?_
  unfold F_store_Store_Set
  refine newI fun w1 B1 f1 s1 => aggI B1 (x := c) rfl (spec_schema_Check (c := c) fun w2 f2 => ?_)
  have f02 := f1.then0 f2
  have hst := Store.st.fr0 h f02
  refine joinI (fun z w' => z = decide (checkM c ≠ 0) ∧ w' = w2) ?_ ?_
  · exact condN (fun h => ⟨by simp [h], rfl⟩) fun h => ⟨by simp [h], rfl⟩
  rintro z w' ⟨rfl, rfl⟩
  refine condD (fun hc => ?_) fun hc => ?_
  · have e1 : x.set id c = (checkM c, x) := by rw [StM.set, if_pos hc]
    rw [e1] at hk
    exact hk _ hst f02.any
  obtain ⟨ok, lab, sb, tb, hb, tp, D, hF, h2⟩ := hst
  have B2 := B1.fr f2 fun h => h
  have hc0 : checkM c = 0 := by simpa using hc
  refine stor_of h2 hid ?_
  rcases sto_at ok (id := id) with ⟨ha, hh⟩ | ⟨m, i, e, ha, hh, hm, hr, he, rfl, hv, hl⟩
  · rw [hh]
    have e1 : x.set id c = (7, x) := by rw [StM.set, if_neg hc, ha]
    rw [e1] at hk
    exact condT rfl (hk _ (Store.st.fr0 h f02) f02.any)
  · rw [hh]
    have hD := (h2.hm _ _ hh).2
    refine condF rfl (aggI B2 (x := c) rfl (tabo_Set (c := c) (h2.tab m hm hD) hid fun w3 t3 f3 => ?_))
    have e0 : setM m (x.tab m) e.1 c = if c.1 ∈ kindsOf m then 0 else 10 := by rw [setM, if_neg hc, hr]
    have e1 : x.set e.1 c = if c.1 ∈ kindsOf m then (0, ⟨x.s, upd x.tab m (setL (x.tab m) i c)⟩) else (10, x) := by rw [StM.set, if_neg hc, ha]
    rw [setT, e0] at t3
    rw [e0]
    have keep : ∀ {L : List Ent}, TabO (tp m) m L (fun k => lab k = 5 + m) w3 → StoR lab w3 b sb tb hb tp D x.s (upd x.tab m L) (homeT x.tab) := fun {L} t => by
      refine ⟨Bl.st.fr h2.blk f3 fun k e => by omega, Slots.st.fr h2.slots f3 fun k e => by omega, Mp.st.fr h2.tabs f3 fun k e => by omega, Mp.st.fr h2.home f3 fun k e => by omega, fun k hk hDk => ?_, fun k hk hDk => ?_, h2.hm⟩
      · by_cases e : k = m
        · subst e; rw [upd_same]; exact t
        · rw [upd_other e]; exact TabO.st.fr (h2.tab k hk hDk) f3 fun k e => by omega
      · rw [upd_other (fun e => by subst e; rw [hD] at hDk; cases hDk)]; exact h2.no k hk hDk
    have f03 : Fr F w w3 := (f02.any.then (f3.lab (by omega))).sub hF
    by_cases hk2 : c.1 ∈ kindsOf m
    · rw [if_pos hk2] at e1
      rw [if_pos hk2, if_pos rfl, hr] at t3
      rw [if_pos hk2]
      rw [e1] at hk
      refine hk w3 ⟨ok.set hm he hc0 hk2, lab, sb, tb, hb, tp, D, hF, ?_⟩ f03
      have e2 : homeT (upd x.tab m (setL (x.tab m) i c)) = homeT x.tab := home_set he
      show StoR lab w3 b sb tb hb tp D x.s (upd x.tab m (setL (x.tab m) i c)) (homeT (upd x.tab m (setL (x.tab m) i c)))
      rw [e2]
      exact keep t3
    · rw [if_neg hk2] at e1
      rw [if_neg hk2, if_neg (by omega)] at t3
      rw [if_neg hk2]
      rw [e1] at hk
      refine hk w3 ⟨ok, lab, sb, tb, hb, tp, D, hF, ?_⟩ f03
      have := keep t3
      have e3 : upd x.tab m (x.tab m) = x.tab := by funext k; unfold upd; split; (rename_i e; rw [e]); rfl
      rw [e3] at this
      exact this

theorem spec_store_numbers (h : Store b x F w) {K : Res [.sc .ptr] → W R} (hk : ∀ sb, Slots sb x.s F w → K (some ⟨sb, 0, none⟩) Q w) : callW Tryz.prog k_store_Store_numbers [.pointer (some ⟨b, 0, none⟩)] [.sc .ptr] K Q w := by
  obtain ⟨ok, lab, sb, tb, hb, tp, D, hF, h⟩ := h
  refine C_store_Store_numbers _ K Q w ?_
  exact condF rfl (ptrI (fldI h.blk.2 (x := some ⟨sb, 0, none⟩) rfl (hk sb (Slots.st.mono h.slots fun k _ e => hF k (by omega)))))
theorem spec_store_numbers0 {K : Res [.sc .ptr] → W R} (hk : K none Q w) : callW Tryz.prog k_store_Store_numbers [.pointer none] [.sc .ptr] K Q w := C_store_Store_numbers _ K Q w hk
theorem spec_store_Live (h : Store b x F w) {id : Int} (hid : IdOk id) {K : Res [.sc .bool] → W R} (hk : ∀ w', Fr None w w' → K (x.s.live id) Q w') : callW Tryz.prog k_store_Store_Live [.pointer (some ⟨b, 0, none⟩), .int .u32 id] [.sc .bool] K Q w := by
  refine C_store_Store_Live _ _ K Q w (spec_store_numbers h fun sb hs => spec_slots_Live hs hid hk)
theorem spec_store_Live0 {id : Int} {K : Res [.sc .bool] → W R} (hk : ∀ w', Fr None w w' → K false Q w') : callW Tryz.prog k_store_Store_Live [.pointer none, .int .u32 id] [.sc .bool] K Q w := C_store_Store_Live _ _ K Q w (spec_store_numbers0 (spec_slots_Live0 hk))
theorem spec_store_List (h : Store b x F w) {K : Res [.sc .sl] → W R} (hk : ∀ r w', SlT (Up w.heap.size) w' idT r x.s.list → Fr None w w' → K r Q w') : callW Tryz.prog k_store_Store_List [.pointer (some ⟨b, 0, none⟩)] [.sc .sl] K Q w :=
  C_store_Store_List _ K Q w (spec_store_numbers h fun _sb hs => spec_slots_List hs hk)
theorem spec_store_List0 {K : Res [.sc .sl] → W R} (hk : K ⟨none, 0, 0⟩ Q w) : callW Tryz.prog k_store_Store_List [.pointer none] [.sc .sl] K Q w := C_store_Store_List _ K Q w (spec_store_numbers0 (spec_slots_List0 hk))
theorem spec_store_Len (h : Store b x F w) {K : Res [.sc (.int .i64)] → W R} (hk : K (x.s.count : Int) Q w) : callW Tryz.prog k_store_Store_Len [.pointer (some ⟨b, 0, none⟩)] [.sc (.int .i64)] K Q w :=
  C_store_Store_Len _ K Q w (spec_store_numbers h fun _sb hs => spec_slots_Len hs hk)
theorem spec_store_Len0 {K : Res [.sc (.int .i64)] → W R} (hk : K 0 Q w) : callW Tryz.prog k_store_Store_Len [.pointer none] [.sc (.int .i64)] K Q w := C_store_Store_Len _ K Q w (spec_store_numbers0 (spec_slots_Len0 hk))
theorem spec_store_Ent (h : Store b x F w) {id : Int} (hid : IdOk id) {K : Res [.agg [.int .u32, .sl], .sc (.int .i64)] → W R} (h0 : x.at id = none → ∀ w', Fr None w w' → K ((0, ⟨none, 0, 0⟩), 7) Q w')
    (hk : ∀ m i e s w', x.at id = some (m, i, e) → Own (Up w.heap.size) w' 53 compT s e.2 → Fr None w w' → K ((e.1, s), 0) Q w') :
    callW Tryz.prog k_store_Store_Ent [.pointer (some ⟨b, 0, none⟩), .int .u32 id] [.agg [.int .u32, .sl], .sc (.int .i64)] K Q w := by
  obtain ⟨ok, lab, sb, tb, hb, tp, D, hF, h⟩ := h
  refine C_store_Store_Ent _ _ K Q w ?_
  unfold F_store_Store_Ent
  refine newI fun w1 B1 f1 s1 => ?_
  have h1 := h.fr0 f1
  refine stor_of h1 hid ?_
  rcases sto_at ok (id := id) with ⟨ha, hh⟩ | ⟨m, i, e, ha, hh, hm, hr, he, rfl, hv, hl⟩
  · rw [hh]
    refine condT rfl (stoAll B1 rfl rfl fun w2 B2 f2 s2 => aggI B2 (x := (0, ⟨none, 0, 0⟩)) rfl ?_)
    exact h0 ha w2 (f1.newer f2 fun k e => by omega)
  · rw [hh]
    obtain ⟨labt, _, ht⟩ := h1.tab m hm (h.hm _ _ hh).2
    refine condF rfl (spec_tab_Row ht hid ?_)
    rw [hr]
    refine spec_tab_At ht (fun hb => ?_) fun j e' s w2 hj he' o2 f2 => ?_
    · have := (List.getElem?_eq_some_iff.1 he).1
      simp only [Option.getD_some] at hb
      omega
    · simp only [Option.getD_some] at hj
      have : j = i := by omega
      subst this
      rw [he] at he'
      cases he'
      refine locI rfl rfl fun w3 B3 f3 s3 => aggI B3 (x := (e.1, s)) rfl ?_
      have f13 := f2.then0 f3
      refine stoAll (B1.fr f13 fun h => h) rfl rfl fun w4 B4 f4 s4 => aggI B4 (x := (e.1, s)) rfl ?_
      have hs1 := f1.size
      refine hk m j e s w4 ha ?_ ((f1.then0 f13).newer f4 fun k e => by omega)
      have o3 : Own (fun k => w1.heap.size ≤ k) w3 53 compT s e.2 := o2.none f3
      exact (o3.fr f4 fun k h1 h2 => by omega).mono fun k _ h => by show w.heap.size ≤ k; omega
theorem spec_store_Ent0 {id : Int} {K : Res [.agg [.int .u32, .sl], .sc (.int .i64)] → W R} (h0 : ∀ w', Fr None w w' → K ((0, ⟨none, 0, 0⟩), 10) Q w') : callW Tryz.prog k_store_Store_Ent [.pointer none, .int .u32 id] [.agg [.int .u32, .sl], .sc (.int .i64)] K Q w := by
  refine C_store_Store_Ent _ _ K Q w ?_
  unfold F_store_Store_Ent
  refine newI fun w1 B1 f1 s1 => stor_of0 (condT rfl (stoAll B1 rfl rfl fun w2 B2 f2 s2 => aggI B2 (x := (0, ⟨none, 0, 0⟩)) rfl ?_))
  exact h0 w2 (f1.newer f2 fun k e => by omega)
end

end Go.Proofs.YtkblnhnjagemlaaGreat
