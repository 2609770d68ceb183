/-
  What the functions of the program's package store compute (fourth part: other makes).
-/
import Derived.Test.YtkblnhnjagemlaaGreatSto3
namespace Go.Proofs.YtkblnhnjagemlaaGreat
open Go Go.RowKit Go.Proofs.YtkblnhnjagemlaaGreat.Den
variable {R : Type} {Q : R → World → Prop} {w : World}

theorem Store.open_ {F : Nat → Prop} {b : Nat} {x : StM} (h : Store b x F w) : StOk x ∧ ∃ lab sb tb hb tp D, (∀ k, lab k ≠ 0 → F k ∧ k < w.heap.size) ∧ StoR lab w b sb tb hb tp D x.s x.tab (homeT x.tab) := by
  obtain ⟨ok, lab, sb, tb, hb, tp, D, hF, h⟩ := h
  exact ⟨ok, cut lab w.heap.size, sb, tb, hb, tp, D, fun k e => ⟨hF k (cut_ne e).1, (cut_ne e).2⟩, h.cut (Fr.refl None w) fun _ _ _ h => h⟩
theorem Store.shut {F : Nat → Prop} {b : Nat} {x : StM} (h : Store b x F w) : Store b x (fun k => F k ∧ k < w.heap.size) w := Store.st.mono h fun _ hk e => ⟨e, hk⟩

theorem upd_upd (T : Nat → List Ent) (m : Nat) (L L' : List Ent) : upd (upd T m L) m L' = upd T m L' := by
  funext k; unfold upd; split <;> rfl
section
variable {lab : Nat → Nat} {b sb tb hb : Nat} {tp : Nat → Nat} {D : Nat → Bool} {x : StM}
theorem StoR.setTab0 {s : SM} {T : Nat → List Ent} {H : Int → Option Nat} (h : StoR lab w b sb tb hb tp D s T H) {m : Nat} (hD : D m = true) {L : List Ent} {w' : World} (f : Fr (fun k => lab k = 5 + m) w w') (ht : TabO (tp m) m L (fun k => lab k = 5 + m) w') : StoR lab w' b sb tb hb tp D s (upd T m L) H := by
  refine ⟨Bl.st.fr h.blk f fun k e => by omega, Slots.st.fr h.slots f fun k e => by omega, Mp.st.fr h.tabs f fun k e => by omega, Mp.st.fr h.home f fun k e => by omega, fun k hk hDk => ?_, fun k hk hDk => ?_, h.hm⟩
  · by_cases e : k = m
    · subst e; rw [upd_same]; exact ht
    · rw [upd_other e]; exact TabO.st.fr (h.tab k hk hDk) f fun k e => by omega
  · rw [upd_other (fun e => by subst e; rw [hD] at hDk; cases hDk)]; exact h.no k hk hDk

/-- what stands behind a move: the entity's new list goes into the table of its make. -/
theorem stor_turn {F : Nat → Prop} (ok : StOk x) (h : StoR lab w b sb tb hb tp D x.s x.tab (homeT x.tab)) (hF : ∀ k, lab k ≠ 0 → F k) {m i n : Nat} {e : Ent} (hm : m < 64) (hh : homeT x.tab e.1 = some m) (he : (x.tab m)[i]? = some e) (hid : IdOk e.1) {l : List Comp} (hv : listE l = 0)
    {w2 : World} (t : TabO (tp m) m (dropI (x.tab m) i) (fun k => lab k = 5 + m) w2) (f : Fr (fun k => lab k = 5 + m) w w2) {w3 : World} (f3 : Fr (Up n) w2 w3) (hn : ∀ k, lab k ≠ 0 → k < n) (hwn : w.heap.size ≤ n) {r : Sl} (o : Own (Up n) w3 53 compT r l)
    {K : Res [] → W R} (hk : ∀ w', Store b (x.turn e.1 m i l) (Ex F w) w' → Fr (Ex F w) w w' → K () Q w') : callW Tryz.prog k_store_Store_put [.pointer (some ⟨b, 0, none⟩), .int .u32 e.1, .slice r.a r.n r.c] [] K Q w3 := by
  have hD := (h.hm _ _ hh).2
  have h2 := h.setTab0 hD f t
  have nn : ∀ k, lab k ≠ 0 → ¬ Up n k := fun k e h => by have := hn k e; have h : n ≤ k := h; omega
  have h3 : StoR lab w3 b sb tb hb tp D x.s (upd x.tab m (dropI (x.tab m) i)) (homeT x.tab) :=
    ⟨Bl.st.fr h2.blk f3 fun k e => nn k (by omega), Slots.st.fr h2.slots f3 fun k e => nn k (by omega), Mp.st.fr h2.tabs f3 fun k e => nn k (by omega), Mp.st.fr h2.home f3 fun k e => nn k (by omega), fun k hk hDk => TabO.st.fr (h2.tab k hk hDk) f3 fun k e => nn k (by omega), h2.no, h2.hm⟩
  have hd := ok.drop hm he
  have hml := maskN_lt l
  have hno : rowM (upd x.tab m (dropI (x.tab m) i) (maskN l)) e.1 = none := by
    have h0 : homeT (upd x.tab m (dropI (x.tab m) i)) e.1 = none := by rw [home_drop ok hm he, if_pos rfl]
    have := home_none.1 h0 _ hml
    unfold inT at this
    simpa using this
  have f13 : Fr (fun k => lab k ≠ 0 ∨ n ≤ k) w w3 := (f.lab (by omega)).trans f3 (fun _ e => .inl e) fun _ _ e => .inr e
  refine stor_put h3 hid o.sl (fun k _ e => ?_) (fun c hc => checkM_ok ((listE_0.1 hv).1 c hc)) hv hd.tab hno (by have h : (upd x.tab m (dropI (x.tab m) i) (maskN l)).length ≤ 1024 := hd.tab_le hml; omega) fun lab' tp' D' w4 hex h4 f4 => ?_
  · by_cases h0 : lab k = 0
    · exact h0
    · exact absurd e (nn k h0)
  · have hs := f13.size
    refine hk w4 ⟨ok.turn hm he hv, lab', sb, tb, hb, tp', D', fun k e => ?_, ?_⟩ ?_
    · rcases hex k e with e | e
      · exact .inl (hF k e)
      · exact .inr (by omega)
    · have e2 : homeT (x.turn e.1 m i l).tab = fun j => if j = e.1 then some (maskN l) else homeT x.tab j := by
        funext j
        have h0 : homeT (upd x.tab m (dropI (x.tab m) i)) e.1 = none := by rw [home_drop ok hm he, if_pos rfl]
        have := home_add (T := upd x.tab m (dropI (x.tab m) i)) (e := (e.1, l)) hml (home_none.1 h0) j
        refine this.trans ?_
        by_cases hj : j = e.1
        · rw [if_pos hj, if_pos hj]
        · rw [if_neg hj, if_neg hj, home_drop ok hm he, if_neg hj]
      rw [e2]
      exact h4
    · refine (f13.trans f4 (U := fun k => lab k ≠ 0 ∨ n ≤ k) (fun _ e => e) fun _ _ e => .inl e).mono fun k hk e => ?_
      rcases e with e | e
      · exact .inl (hF k e)
      · omega
end

section
variable {F : Nat → Prop} {b : Nat} {x : StM}
theorem spec_store_Add0 {id : Int} {c : Comp} {K : Res [.sc (.int .i64)] → W R} (hk : ∀ w', Fr None w w' → K 10 Q w') : callW Tryz.prog k_store_Store_Add [.pointer none, .int .u32 id, .agg ⟨compC c⟩] [.sc (.int .i64)] K Q w := by
  refine C_store_Store_Add _ _ _ K Q w ?_
  unfold F_store_Store_Add
  refine newI fun w1 B1 f1 s1 => aggI B1 (x := c) rfl (spec_schema_Check (c := c) fun w2 f2 => ?_)
  refine joinI (fun z w' => z = false ∧ w' = w2) ?_ ?_
  · exact condN (fun _ => ⟨rfl, rfl⟩) fun _ => ⟨rfl, rfl⟩
  · rintro z w' ⟨rfl, rfl⟩
    exact condF rfl (stor_of0 (condT rfl (hk _ (f1.then0 f2))))
theorem mask_bit {m : Nat} (hm : m < 64) {k : Int} (h0 : 0 ≤ k) (h6 : k < 6) : ((bAnd .u8 (shR .u8 (m : Int) k) 1) == 1) = decide (k ∈ kindsOf m) := by
  have := bits_and ⟨m, hm⟩ ⟨k.toNat, by omega⟩
  simp only [Int.toNat_of_nonneg h0] at this
  rw [this, Bool.eq_iff_iff, decide_eq_true_eq, kinds_bit h0]
  simp [h6]
theorem mask_bit0 {m : Nat} (hm : m < 64) {k : Int} (h0 : 0 ≤ k) (h6 : k < 6) : ((bAnd .u8 (shR .u8 (m : Int) k) 1) == 0) = !decide (k ∈ kindsOf m) := by
  rw [← mask_bit hm h0 h6]
  have key : ∀ m : Fin 64, ∀ k : Fin 6, ((bAnd .u8 (shR .u8 ((m.val : Nat) : Int) ((k.val : Nat) : Int)) 1) == 0) = !((bAnd .u8 (shR .u8 ((m.val : Nat) : Int) ((k.val : Nat) : Int)) 1) == 1) := by decide +kernel
  have := key ⟨m, hm⟩ ⟨k.toNat, by omega⟩
  simp only [Int.toNat_of_nonneg h0] at this
  exact this
theorem spec_tabo_Mask {m : Nat} {L : List Ent} {F : Nat → Prop} (h : TabO b m L F w) {K : Res [.sc (.int .u8)] → W R} (hk : K ((m : Nat) : Int) Q w) : callW Tryz.prog k_table_Table_Mask [.pointer (some ⟨b, 0, none⟩)] [.sc (.int .u8)] K Q w := by
  obtain ⟨lab, _, h⟩ := h
  exact spec_tab_Mask h hk

theorem spec_store_Add (h : Store b x F w) {id : Int} (hid : IdOk id) {c : Comp} {K : Res [.sc (.int .i64)] → W R} (hk : ∀ w', Store b (x.add id c).2 (Ex F w) w' → Fr F w w' → K (x.add id c).1 Q w') :
    callW Tryz.prog k_store_Store_Add [.pointer (some ⟨b, 0, none⟩), .int .u32 id, .agg ⟨compC c⟩] [.sc (.int .i64)] K Q w := by
  refine C_store_Store_Add _ _ _ K Q w ?_
  unfold F_store_Store_Add
  have ex : ∀ {y : StM} {w' : World}, Store b y F w' → Store b y (Ex F w) w' := fun h => Store.st.mono h fun _ _ e => .inl e
  obtain ⟨ok, lab, sb, tb, hb, tp, D, hF, h0⟩ := h.open_
  refine newI fun w1 B1 f1 s1 => aggI B1 (x := c) rfl (spec_schema_Check (c := c) fun w2 f2 => ?_)
  have f02 := f1.then0 f2
  refine joinI (fun z w' => z = decide (checkM c ≠ 0) ∧ w' = w2) ?_ ?_
  · exact condN (fun h => ⟨by simp [h], rfl⟩) fun h => ⟨by simp [h], rfl⟩
  rintro z w' ⟨rfl, rfl⟩
  refine condD (fun hc => ?_) fun hc => ?_
  · have e1 : x.add id c = (checkM c, x) := by rw [StM.add, if_pos hc]
    rw [e1] at hk
    exact hk _ (ex (Store.st.fr0 h f02)) f02.any
  have h2 := h0.fr0 f02
  have B2 := B1.fr f2 fun h => h
  have hc0 : checkM c = 0 := by simpa using hc
  have hck := checkM_kind hc0
  refine stor_of h2 hid ?_
  rcases sto_at ok (id := id) with ⟨ha, hh⟩ | ⟨m, i, e, ha, hh, hm, hr, he, rfl, hv, hl⟩
  · rw [hh]
    have e1 : x.add id c = (7, x) := by rw [StM.add, if_neg hc, ha]
    rw [e1] at hk
    exact condT rfl (hk _ (ex (Store.st.fr0 h f02)) f02.any)
  rw [hh]
  have e1 : x.add e.1 c = if c.1 ∈ kindsOf m then (9, x) else (0, x.turn e.1 m i (insC e.2 c)) := by rw [StM.add, if_neg hc, ha]
  have hD := (h2.hm _ _ hh).2
  have fd : Fr None w w'.drew := f02.drew
  have h2d := h2.fr0 (Fr.refl None w').drew
  refine condF rfl (fldI B2.drew (x := c.1) rfl (spec_tabo_Mask (h2d.tab m hm hD) (andI (B2.drew.rd (s := .int .u8) (i := 0) (x := c.1) rfl) (chkI hck.1 ?_))))
  rw [mask_bit hm hck.1 (by omega)]
  refine condD (fun hin => ?_) fun hin => ?_
  · rw [if_pos hin] at e1
    rw [e1] at hk
    exact hk _ (ex (Store.st.fr0 h fd)) fd.any
  · rw [if_neg hin] at e1
    rw [e1] at hk
    refine C_store_Store_move__store_Store_Add_c1 _ _ _ _ _ _ _ ?_
    unfold F_store_Store_move__store_Store_Add_c1
    refine tabo_Remove (h2d.tab m hm hD) hid hr he fun s w3 t3 o3 f3 => ?_
    have hs2 : w.heap.size < w'.heap.size := B2.lt
    have hd2 : w'.drew.heap.size = w'.heap.size := rfl
    refine spec_Add_c1 (Tc := 53) o3 (B2.drew.fr f3 fun e => ?_) (by omega) f3.size (by have := hv.small; omega) fun r w4 o4 f4 => ?_
    · have := (hF _ (show lab w.heap.size ≠ 0 by omega)).2; omega
    · refine stor_turn ok h2d (fun k e => (hF k e).1) hm hh he hid (hv.ins hc0 hin) t3 f3 f4 (fun k e => by have := (hF k e).2; omega) (Nat.le_refl _) o4 fun w5 st5 f5 => ?_
      refine hk w5 (Store.st.mono st5 fun k _ e => ?_) ((fd.any.trans f5 (U := F) (fun _ e => e) fun k hk e => ?_))
      · rcases e with e | e
        · exact .inl e
        · exact .inr (by omega)
      · rcases e with e | e
        · exact e
        · omega

theorem spec_store_Remove0 {id k : Int} {K : Res [.sc (.int .i64)] → W R} (hk : ∀ w', Fr None w w' → K 10 Q w') : callW Tryz.prog k_store_Store_Remove [.pointer none, .int .u32 id, .int .u8 k] [.sc (.int .i64)] K Q w := by
  refine C_store_Store_Remove _ _ _ K Q w ?_
  unfold F_store_Store_Remove
  refine newI fun w1 B1 f1 s1 => stor_of0 (condT rfl (hk _ f1))
theorem spec_store_Remove (h : Store b x F w) {id : Int} (hid : IdOk id) {k : Int} (hk0 : 0 ≤ k) {K : Res [.sc (.int .i64)] → W R} (hk : ∀ w', Store b (x.remove id k).2 (Ex F w) w' → Fr F w w' → K (x.remove id k).1 Q w') :
    callW Tryz.prog k_store_Store_Remove [.pointer (some ⟨b, 0, none⟩), .int .u32 id, .int .u8 k] [.sc (.int .i64)] K Q w := by
  refine C_store_Store_Remove _ _ _ K Q w ?_
  unfold F_store_Store_Remove
  have ex : ∀ {y : StM} {w' : World}, Store b y F w' → Store b y (Ex F w) w' := fun h => Store.st.mono h fun _ _ e => .inl e
  obtain ⟨ok, lab, sb, tb, hb, tp, D, hF, h0⟩ := h.open_
  refine newI fun w1 B1 f1 s1 => ?_
  have h1 := h0.fr0 f1
  refine stor_of h1 hid ?_
  rcases sto_at ok (id := id) with ⟨ha, hh⟩ | ⟨m, i, e, ha, hh, hm, hr, he, rfl, hv, hl⟩
  · rw [hh]
    have e1 : x.remove id k = (7, x) := by rw [StM.remove, ha]
    rw [e1] at hk
    exact condT rfl (hk _ (ex (Store.st.fr0 h f1)) f1.any)
  rw [hh]
  have e1 : x.remove e.1 k = if k ∈ kindsOf m then (0, x.turn e.1 m i (e.2.filter fun c => !(c.1 == k))) else (10, x) := by rw [StM.remove, ha]
  have hD := (h1.hm _ _ hh).2
  refine condF rfl (joinI (fun z w' => z = !decide (k ∈ kindsOf m) ∧ w' = w1.drew) ?_ ?_)
  · refine fld0 B1.drew (x := k) rfl (condD (fun hge => ⟨?_, rfl⟩) fun hlt => ?_)
    · rw [decide_eq_false (fun h => by have := kindsOf_range h; omega)]; rfl
    · refine fld0 B1.drew (x := k) rfl (spec_tabo_Mask ((h1.fr0 (Fr.refl None w1).drew).tab m hm hD) (andI ((B1.drew.cell 0).trans rfl) (chkI hk0 ⟨mask_bit0 hm hk0 (by omega), rfl⟩)))
  · rintro z w2 ⟨rfl, rfl⟩
    have fd : Fr None w w1.drew := f1.drew
    have h2 := h1.fr0 (Fr.refl None w1).drew
    refine condI (fun hin => ?_) fun hin => ?_
    · have hin : k ∉ kindsOf m := by simpa using hin
      rw [if_neg hin] at e1
      rw [e1] at hk
      exact hk _ (ex (Store.st.fr0 h fd)) fd.any
    · have hin : k ∈ kindsOf m := by simpa using hin
      rw [if_pos hin] at e1
      rw [e1] at hk
      refine C_store_Store_move__store_Store_Remove_c1 _ _ _ _ _ _ _ ?_
      unfold F_store_Store_move__store_Store_Remove_c1
      refine tabo_Remove (h2.tab m hm hD) hid hr he fun s w3 t3 o3 f3 => ?_
      have hs2 : w.heap.size < w1.heap.size := B1.lt
      have hd2 : w1.drew.heap.size = w1.heap.size := rfl
      refine spec_Remove_c1 (Tc := 5) o3 (B1.drew.fr f3 fun e => ?_) (by omega) f3.size (by have := hv.small; omega) fun r w4 o4 f4 => ?_
      · have := (hF _ (show lab w.heap.size ≠ 0 by omega)).2; omega
      · refine stor_turn ok h2 (fun k e => (hF k e).1) hm hh he hid (hv.filter _) t3 f3 f4 (fun k e => by have := (hF k e).2; omega) (Nat.le_refl _) o4 fun w5 st5 f5 => ?_
        refine hk w5 (Store.st.mono st5 fun k _ e => ?_) ((fd.any.trans f5 (U := F) (fun _ e => e) fun k hk e => ?_))
        · rcases e with e | e
          · exact .inl e
          · exact .inr (by omega)
        · rcases e with e | e
          · exact e
          · omega
end

theorem SM.ids_mem {s : SM} {id : Int} : ∀ {n : Nat}, id ∈ s.ids n → ∃ (j : Nat) (g : Int), j < n ∧ s.used[j]? = some true ∧ s.gen[j]? = some g ∧ id = idOf j g
  | 0, h => by simp [SM.ids] at h
  | n + 1, h => by
    rw [SM.ids, List.mem_append] at h
    rcases h with h | h
    · obtain ⟨j, g, h1, h2⟩ := SM.ids_mem h
      exact ⟨j, g, by omega, h2⟩
    · split at h
      · rename_i g hu hg
        simp at h
        exact ⟨n, g, by omega, hu, hg, h⟩
      · simp at h
theorem SMOk.list_id {s : SM} (h : SMOk s) {id : Int} (hl : id ∈ s.list) : s.live id = true ∧ IdOk id := by
  obtain ⟨j, g, h1, h2, h3, rfl⟩ := SM.ids_mem hl
  have := h.le
  have e := live_ex.2 ⟨j, g, rfl, by omega, h2, h3⟩
  exact ⟨e, (h.live_id e).1⟩
theorem SMOk.list_le {s : SM} (h : SMOk s) : s.list.length ≤ 1024 := by
  rw [SM.list_len h.len]
  have h1 : s.count ≤ s.used.length := List.countP_le_length
  have h2 := h.len
  have h3 := h.le
  omega
theorem StOk.ent_small {x : StM} (h : StOk x) (id : Int) : (x.ent id).1.2.length ≤ 6 := by
  unfold StM.ent
  cases ha : x.at id with
  | none => simp
  | some p => exact (h.at_some ha).2.2.2.2.2.1.small
/-- an entity, or none. -/
theorem spec_store_EntM {F : Nat → Prop} {b : Nat} {x : StM} (h : Store b x F w) {id : Int} (hid : IdOk id) {K : Res [.agg [.int .u32, .sl], .sc (.int .i64)] → W R}
    (hk : ∀ s w', Own (Up w.heap.size) w' 53 compT s (x.ent id).1.2 → Fr None w w' → K (((x.ent id).1.1, s), (x.ent id).2) Q w') :
    callW Tryz.prog k_store_Store_Ent [.pointer (some ⟨b, 0, none⟩), .int .u32 id] [.agg [.int .u32, .sl], .sc (.int .i64)] K Q w := by
  refine spec_store_Ent h hid (fun e w' f => ?_) fun m i e s w' ha o f => ?_
  · have := hk ⟨none, 0, 0⟩ w' (by rw [StM.ent, e]; exact Own.nil _ _ _ _) f
    rw [StM.ent, e] at this
    exact this
  · have := hk s w' (by rw [StM.ent, ha]; exact o) f
    rw [StM.ent, ha] at this
    exact this

end Go.Proofs.YtkblnhnjagemlaaGreat
