/-
  What the functions of the program's package store compute (first part).
-/
import Derived.Test.YtkblnhnjagemlaaGreatStoM
namespace Go.Proofs.YtkblnhnjagemlaaGreat
open Go Go.RowKit Go.Proofs.YtkblnhnjagemlaaGreat.Den
variable {R : Type} {Q : R → World → Prop} {w : World}

/-! ### tables by their blocks -/
def TabO (b m : Nat) (L : List Ent) : OB := fun F w => ∃ lab, (∀ k, lab k ≠ 0 → F k) ∧ Tab lab w b m L
theorem TabO.st {b m : Nat} {L : List Ent} : St (TabO b m L) := fun {_F _F' _S _w _w'} ⟨lab, hF, h⟩ fr hs =>
  ⟨lab, fun k e => (hs k (h.lt e) (hF k e)).2, h.fr fr fun k e => (hs k (h.lt e) (hF k e)).1⟩
section
variable {F : Nat → Prop} {b m : Nat} {L : List Ent}
theorem tabo_New {m : Nat} (hm : m < 64) {K : Res [.sc .ptr, .sc (.int .i64)] → W R} (hk : ∀ b w', TabO b m [] (Up w.heap.size) w' → Fr None w w' → K (some ⟨b, 0, none⟩, 0) Q w') :
    callW Tryz.prog k_table_New [.int .u8 (m : Int)] [.sc .ptr, .sc (.int .i64)] K Q w :=
  spec_tab_New (by omega) (fun h => by omega) fun lab b w' _ h hn f => hk b w' ⟨lab, fun k e => hn k e, h⟩ f
theorem tabo_Add (h : TabO b m L F w) {id : Int} (hid : IdOk id) {ok : Nat → Prop} {s : Sl} {l : List Comp} (hS : SlT ok w compT s l) (hd : ∀ k, k < w.heap.size → ok k → ¬ F k) (hm : Small l) (hl : ∀ c ∈ l, CompOk c) (hroom : L.length < 1048576) {K : Res [.sc (.int .i64)] → W R}
    (hk : ∀ w', TabO b m (addT m L id l) (Ex F w) w' → Fr F w w' → K (addM m L id l) Q w') : callW Tryz.prog k_table_Table_Add [.pointer (some ⟨b, 0, none⟩), .int .u32 id, .slice s.a s.n s.c] [.sc (.int .i64)] K Q w := by
  obtain ⟨lab, hF, h⟩ := h
  refine spec_tab_Add h hid (hS.mono (ok' := fun k => ok k ∧ k < w.heap.size) fun k hk h => ⟨h, hk⟩) (fun k ⟨h1, h2⟩ => ?_) hm hl hroom fun lab' w' h' hn f => ?_
  · by_cases h0 : lab k = 0
    · exact h0
    · exact absurd (hF k h0) (hd k h2 h1)
  · exact hk w' ⟨lab', fun k e => (hn k e).imp (hF k) fun h => h, h'⟩ (f.sub hF)
theorem tabo_Remove (h : TabO b m L F w) {id : Int} (hid : IdOk id) {i : Nat} {e : Ent} (hr : rowM L id = some i) (he : L[i]? = some e) {K : Res [.sc .sl, .sc (.int .i64)] → W R}
    (hk : ∀ (s : Sl) w', TabO b m (dropI L i) F w' → Own (Up w.heap.size) w' 53 compT s e.2 → Fr F w w' → K (s, 0) Q w') : callW Tryz.prog k_table_Table_Remove [.pointer (some ⟨b, 0, none⟩), .int .u32 id] [.sc .sl, .sc (.int .i64)] K Q w := by
  obtain ⟨lab, hF, h⟩ := h
  refine spec_tab_Remove h hid (fun h0 => by rw [hr] at h0; cases h0) fun i' e' s w' hr' he' h' o f => ?_
  rw [hr] at hr'
  cases hr'
  rw [he] at he'
  cases he'
  exact hk s w' ⟨lab, hF, h'⟩ (o.mono fun k _ h => h.1) (f.sub hF)
theorem tabo_Set (h : TabO b m L F w) {id : Int} {c : Comp} (hid : IdOk id) {K : Res [.sc (.int .i64)] → W R} (hk : ∀ w', TabO b m (setT m L id c) F w' → Fr F w w' → K (setM m L id c) Q w') :
    callW Tryz.prog k_table_Table_Set [.pointer (some ⟨b, 0, none⟩), .int .u32 id, .agg ⟨compC c⟩] [.sc (.int .i64)] K Q w := by
  obtain ⟨lab, hF, h⟩ := h
  exact spec_tab_Set h hid fun w' h' f => hk w' ⟨lab, hF, h'⟩ (f.sub hF)
theorem tabo_Get (h : TabO b m L F w) {id k : Int} (hid : IdOk id) {K : Res [.agg [.int .u8, .int .i32, .int .i32, .int .i32], .sc (.int .i64)] → W R} (hk : ∀ w', Fr None w w' → K (getM m L id k) Q w') :
    callW Tryz.prog k_table_Table_Get [.pointer (some ⟨b, 0, none⟩), .int .u32 id, .int .u8 k] [.agg [.int .u8, .int .i32, .int .i32, .int .i32], .sc (.int .i64)] K Q w := by
  obtain ⟨lab, hF, h⟩ := h
  exact spec_tab_Get h hid hk
end

/-! ### the store -/
theorem tabs_und : Tryz.prog.underlying 214 = some (.map 5 138) := by kernel_rfl
theorem homes_und : Tryz.prog.underlying 215 = some (.map 31 138) := by kernel_rfl
theorem ptab_zero : (Tryz.prog.info? 138).bind (·.zero) = some (.pointer none) := by kernel_rfl
theorem u8_keyed : Go.Maps.Keyed Tryz.prog 5 := Go.Maps.int_keyed u8_und
theorem u8_key {i : Int} (h : 0 ≤ i ∧ i ≤ 255) : keyOf Tryz.prog 5 (.int .u8 i) = some (.int .u8 i) := Go.Maps.keyOf_int_mk u8_und (by obtain ⟨h1, h2⟩ := h; simp [Lit.wf, IntKind.min, IntKind.max, IntKind.bits, IntKind.signed]; omega)
theorem intI (k : IntKind) (i j : Int) (h : Value.int k i = Value.int k j) : i = j := by cases h; rfl

def tabsF (tp : Nat → Nat) (D : Nat → Bool) (k : Int) : Option Value := if 0 ≤ k ∧ k < 64 ∧ D k.toNat = true then some (.pointer (some ⟨tp k.toNat, 0, none⟩)) else none
theorem tabsF_at {tp : Nat → Nat} {D : Nat → Bool} {m : Nat} (hm : m < 64) : tabsF tp D (m : Int) = if D m then some (.pointer (some ⟨tp m, 0, none⟩)) else none := by
  unfold tabsF
  rw [Int.toNat_natCast]
  have h1 : (0 : Int) ≤ (m : Int) := by omega
  have h2 : (m : Int) < 64 := by omega
  cases D m <;> simp [h2]
theorem tabsF_put {tp : Nat → Nat} {D : Nat → Bool} {m p : Nat} (hm : m < 64) (i : Int) : tabsF (fun k => if k = m then p else tp k) (fun k => if k = m then true else D k) i = if i = (m : Int) then some (.pointer (some ⟨p, 0, none⟩)) else tabsF tp D i := by
  by_cases e : i = (m : Int)
  · subst e
    rw [tabsF_at hm, if_pos rfl]
    simp
  · rw [if_neg e]
    unfold tabsF
    by_cases h64 : 0 ≤ i ∧ i < 64
    · have : i.toNat ≠ m := by omega
      simp only [if_neg this]
    · rw [if_neg (fun h => h64 ⟨h.1, h.2.1⟩), if_neg (fun h => h64 ⟨h.1, h.2.1⟩)]
structure StoR (lab : Nat → Nat) (w : World) (b sb tb hb : Nat) (tp : Nat → Nat) (D : Nat → Bool) (s : SM) (T : Nat → List Ent) (H : Int → Option Nat) : Prop where
  blk : Bl b 217 [.pointer (some ⟨sb, 0, none⟩), .map (some tb), .map (some hb)] (fun k => lab k = 1) w
  slots : Slots sb s (fun k => lab k = 4) w
  tabs : Mp Tryz.prog 5 (Value.int .u8) tb (tabsF tp D) (fun k => lab k = 2) w
  home : Mp Tryz.prog 31 (Value.int .u32) hb (fun id => (H id).map fun m => .pointer (some ⟨tp m, 0, none⟩)) (fun k => lab k = 3) w
  tab : ∀ m, m < 64 → D m = true → TabO (tp m) m (T m) (fun k => lab k = 5 + m) w
  no : ∀ m, m < 64 → D m = false → T m = []
  hm : ∀ id m, H id = some m → m < 64 ∧ D m = true
def Store (b : Nat) (x : StM) : OB := fun F w => StOk x ∧ ∃ lab sb tb hb tp D, (∀ k, lab k ≠ 0 → F k) ∧ StoR lab w b sb tb hb tp D x.s x.tab (homeT x.tab)

section
variable {lab : Nat → Nat} {b sb tb hb : Nat} {tp : Nat → Nat} {D : Nat → Bool} {s : SM} {T : Nat → List Ent} {H : Int → Option Nat}
theorem StoR.cut (h : StoR lab w b sb tb hb tp D s T H) {S : Nat → Prop} {w' : World} (f : Fr S w w') (hs : ∀ k, k < w.heap.size → lab k ≠ 0 → ¬ S k) : StoR (Den.cut lab w.heap.size) w' b sb tb hb tp D s T H :=
  ⟨Bl.st.cut h.blk f (by decide) hs, Slots.st.cut h.slots f (by decide) hs, Mp.st.cut h.tabs f (by decide) hs, Mp.st.cut h.home f (by decide) hs, fun m hm hD => TabO.st.cut (h.tab m hm hD) f (by omega) hs, h.no, h.hm⟩
theorem StoR.fr0 (h : StoR lab w b sb tb hb tp D s T H) {w' : World} (f : Fr None w w') : StoR lab w' b sb tb hb tp D s T H :=
  ⟨Bl.st.fr0 h.blk f, Slots.st.fr0 h.slots f, Mp.st.fr0 h.tabs f, Mp.st.fr0 h.home f, fun m hm hD => TabO.st.fr0 (h.tab m hm hD) f, h.no, h.hm⟩
/-- table m is another one now. -/
theorem StoR.setTab (h : StoR lab w b sb tb hb tp D s T H) {m : Nat} (hm : m < 64) (hD : D m = true) {L : List Ent} {w' : World} (f : Fr (fun k => lab k = 5 + m) w w') (ht : TabO (tp m) m L (Ex (fun k => lab k = 5 + m) w) w') :
    StoR (relab lab w.heap.size w'.heap.size (5 + m)) w' b sb tb hb tp D s (upd T m L) H := by
  refine ⟨Bl.st.other h.blk f (by omega), Slots.st.other h.slots f (by omega), Mp.st.other h.tabs f (by omega), Mp.st.other h.home f (by omega), fun k hk hDk => ?_, fun k hk hDk => ?_, h.hm⟩
  · by_cases e : k = m
    · subst e; rw [upd_same]; exact TabO.st.grown ht
    · rw [upd_other e]; exact TabO.st.other (h.tab k hk hDk) f (by omega)
  · rw [upd_other (fun e => by subst e; rw [hD] at hDk; cases hDk)]; exact h.no k hk hDk
/-- the numbers are others now. -/
theorem StoR.setSlots (h : StoR lab w b sb tb hb tp D s T H) {s' : SM} {w' : World} (f : Fr (fun k => lab k = 4) w w') (ht : Slots sb s' (Ex (fun k => lab k = 4) w) w') :
    StoR (relab lab w.heap.size w'.heap.size 4) w' b sb tb hb tp D s' T H :=
  ⟨Bl.st.other h.blk f (by omega), Slots.st.grown ht, Mp.st.other h.tabs f (by omega), Mp.st.other h.home f (by omega), fun k hk hDk => TabO.st.other (h.tab k hk hDk) f (by omega), h.no, h.hm⟩
/-- what is new is nobody's. -/
theorem StoR.ofNew (h : StoR lab w b sb tb hb tp D s T H) {w' : World} (f : Fr None w w') (c : Nat) : StoR (relab lab w.heap.size w'.heap.size c) w' b sb tb hb tp D s T H :=
  have g : ∀ j, Fr (fun k => lab k = j) w w' := fun j => f.any
  ⟨Bl.st.other h.blk (g 0) (by omega), Slots.st.other h.slots (g 0) (by omega), Mp.st.other h.tabs (g 0) (by omega), Mp.st.other h.home (g 0) (by omega), fun k hk hDk => TabO.st.other (h.tab k hk hDk) (g 0) (by omega), h.no, h.hm⟩
/-- home of one. -/
theorem StoR.homePut (h : StoR lab w b sb tb hb tp D s T H) {id : Int} (hid : IdOk id) {m : Nat} (hm : m < 64) (hD : D m = true) {K : W R}
    (hk : ∀ w', StoR lab w' b sb tb hb tp D s T (fun j => if j = id then some m else H j) → Fr (fun k => lab k = 3) w w' → w'.heap.size = w.heap.size → K Q w') :
    rawU Tryz.prog (Instr.mapUpdate 215 (.map (some hb)) (.int .u32 id) (.pointer (some ⟨tp m, 0, none⟩))) K Q w := by
  obtain ⟨w1, h1, h2, h3, h4⟩ := h.home.2.put id_keyed (intI _) homes_und (id_key hid) (.pointer (some ⟨tp m, 0, none⟩))
  have f : Fr (fun k => lab k = 3) w w1 := h3.mono fun k _ e => by rw [e]; exact h.home.1
  refine ⟨w1, h1, hk w1 ⟨Bl.st.fr h.blk f fun k e => by omega, Slots.st.fr h.slots f fun k e => by omega, Mp.st.fr h.tabs f fun k e => by omega, ⟨h.home.1, h2.congr fun i => ?_⟩, fun k hk hDk => TabO.st.fr (h.tab k hk hDk) f fun k e => by omega, h.no, fun j q e => ?_⟩ f h4⟩
  · by_cases e : i = id <;> simp [e]
  · by_cases e2 : j = id
    · rw [if_pos e2] at e; cases e; exact ⟨hm, hD⟩
    · rw [if_neg e2] at e; exact h.hm j q e
theorem StoR.homeDel (h : StoR lab w b sb tb hb tp D s T H) {id : Int} (hid : IdOk id) {ty : TypeId} {K : Res [] → W R}
    (hk : ∀ w', StoR lab w' b sb tb hb tp D s T (fun j => if j = id then none else H j) → Fr (fun k => lab k = 3) w w' → w'.heap.size = w.heap.size → K () Q w') :
    rawW Tryz.prog (Builtin.delete_ #[215, 31] ty #[.map (some hb), .int .u32 id]) [] K Q w := by
  obtain ⟨w1, h1, h2, h3, h4⟩ := h.home.2.del id_keyed (intI _) homes_und (ty := ty) (id_key hid)
  have f : Fr (fun k => lab k = 3) w w1 := h3.mono fun k _ e => by rw [e]; exact h.home.1
  refine ⟨(), w1, h1, hk w1 ⟨Bl.st.fr h.blk f fun k e => by omega, Slots.st.fr h.slots f fun k e => by omega, Mp.st.fr h.tabs f fun k e => by omega, ⟨h.home.1, h2.congr fun i => ?_⟩, fun k hk hDk => TabO.st.fr (h.tab k hk hDk) f fun k e => by omega, h.no, fun j q e => ?_⟩ f h4⟩
  · by_cases e : i = id <;> simp [e]
  · by_cases e2 : j = id
    · rw [if_pos e2] at e; cases e
    · rw [if_neg e2] at e; exact h.hm j q e
/-- a table that is new. -/
theorem StoR.tabPut (h : StoR lab w b sb tb hb tp D s T H) {m : Nat} (hm : m < 64) (hD : D m = false) {p : Nat} (hp : TabO p m [] (fun k => lab k = 5 + m) w) {K : W R}
    (hk : ∀ w', StoR lab w' b sb tb hb (fun k => if k = m then p else tp k) (fun k => if k = m then true else D k) s T H → Fr (fun k => lab k = 2) w w' → w'.heap.size = w.heap.size → K Q w') :
    rawU Tryz.prog (Instr.mapUpdate 214 (.map (some tb)) (.int .u8 (m : Int)) (.pointer (some ⟨p, 0, none⟩))) K Q w := by
  obtain ⟨w1, h1, h2, h3, h4⟩ := h.tabs.2.put u8_keyed (intI _) tabs_und (u8_key (i := (m : Int)) ⟨by omega, by omega⟩) (.pointer (some ⟨p, 0, none⟩))
  have f : Fr (fun k => lab k = 2) w w1 := h3.mono fun k _ e => by rw [e]; exact h.tabs.1
  have hh : ∀ id q, H id = some q → q ≠ m := fun id q e e2 => by subst e2; have := (h.hm id q e).2; rw [hD] at this; cases this
  refine ⟨w1, h1, hk w1 ⟨Bl.st.fr h.blk f fun k e => by omega, Slots.st.fr h.slots f fun k e => by omega, ⟨h.tabs.1, h2.congr fun i => ?_⟩, ?_, fun k hk hDk => ?_, fun k hk hDk => ?_, fun j q e => ?_⟩ f h4⟩
  · exact tabsF_put hm i
  · refine ⟨h.home.1, (Mp.st.fr h.home f fun k e => by omega).2.congr fun id => ?_⟩
    cases e : H id with
    | none => rfl
    | some q => simp only [Option.map_some, if_neg (hh id q e)]
  · by_cases e : k = m
    · subst e
      simp only [if_true]
      rw [h.no k hm hD]
      exact TabO.st.fr hp f fun k e => by omega
    · simp only [if_neg e] at hDk ⊢
      exact TabO.st.fr (h.tab k hk hDk) f fun k e => by omega
  · by_cases e : k = m
    · simp [e] at hDk
    · simp only [if_neg e] at hDk; exact h.no k hk hDk
  · have := h.hm j q e
    exact ⟨this.1, by simp only [if_neg (hh j q e)]; exact this.2⟩
theorem StoR.lookTab (h : StoR lab w b sb tb hb tp D s T H) {m : Nat} (hm : m < 64) {K : Option Addr → W R} (hk : K (if D m then some ⟨tp m, 0, none⟩ else none) Q w) :
    rawQ Tryz.prog (Instr.lookup 214 (.map (some tb)) (.int .u8 (m : Int)) false) [.sc .ptr] K Q w := by
  refine ⟨if D m then some ⟨tp m, 0, none⟩ else none, ?_, hk⟩
  rw [h.tabs.2.look u8_keyed tabs_und ptab_zero (u8_key (i := (m : Int)) ⟨by omega, by omega⟩) false]
  rw [tabsF_at hm]
  cases D m <;> rfl
theorem StoR.lookHome (h : StoR lab w b sb tb hb tp D s T H) {id : Int} (hid : IdOk id) {K : Option Addr → W R} (hk : K ((H id).map fun m => ⟨tp m, 0, none⟩) Q w) :
    rawQ Tryz.prog (Instr.lookup 215 (.map (some hb)) (.int .u32 id) false) [.sc .ptr] K Q w := by
  refine ⟨(H id).map fun m => ⟨tp m, 0, none⟩, ?_, hk⟩
  rw [h.home.2.look id_keyed homes_und ptab_zero (id_key hid) false]
  cases H id <;> rfl

/-- put: an entity into the table of its make. -/
theorem stor_put (h : StoR lab w b sb tb hb tp D s T H) {id : Int} (hid : IdOk id) {ok : Nat → Prop} {r : Sl} {l : List Comp} (hS : SlT ok w compT r l) (hd : ∀ k, k < w.heap.size → ok k → lab k = 0) (hl : ∀ c ∈ l, CompOk c) (hv : listE l = 0) (_ht : ∀ m, m < 64 → TabOk m (T m)) (hno : rowM (T (maskN l)) id = none) (hroom : (T (maskN l)).length < 1048576)
    {K : Res [] → W R} (hk : ∀ lab' tp' D' w', (∀ k, lab' k ≠ 0 → lab k ≠ 0 ∨ w.heap.size ≤ k) → StoR lab' w' b sb tb hb tp' D' s (putT T id l) (fun j => if j = id then some (maskN l) else H j) → Fr (fun k => lab k ≠ 0) w w' → K () Q w') :
    callW Tryz.prog k_store_Store_put [.pointer (some ⟨b, 0, none⟩), .int .u32 id, .slice r.a r.n r.c] [] K Q w := by
  have hval : Valid (maskN l) l := ⟨hv, rfl⟩
  have hsm : Small l := by have := hval.small; simp [Small]; omega
  have hm := maskN_lt l
  generalize hmm : maskN l = m at *
  refine C_store_Store_put _ _ _ K Q w ?_
  unfold F_store_Store_put
  refine spec_schema_Mask hS hsm hl fun w1 f1 => ?_
  rw [hmm]
  have h1 := h.fr0 f1
  have hS1 := hS.fr0 f1
  refine ptrI (fldI h1.blk.2 (x := some tb) rfl ?_)
  refine h1.lookTab hm ?_
  refine joinI (fun p w' => ∃ lab' tp' D', (∀ k, lab' k ≠ 0 → lab k ≠ 0 ∨ w.heap.size ≤ k) ∧ (∀ k, k < w.heap.size → lab' k = lab k) ∧ StoR lab' w' b sb tb hb tp' D' s T H ∧ D' m = true ∧ p = some ⟨tp' m, 0, none⟩ ∧ Fr (fun k => lab k ≠ 0) w w') ?_ ?_
  · cases hD : D m with
    | true =>
      refine condF rfl ?_
      exact ⟨lab, tp, D, fun k e => .inl e, fun _ _ => rfl, h1, hD, rfl, f1.any⟩
    | false =>
      refine condT rfl (tabo_New hm fun p w2 t2 f2 => ?_)
      have h2 := h1.ofNew f2 (5 + m)
      have f02 := f1.then0 f2
      have hs1 := f1.size
      refine ptrI (fldI h2.blk.2 (x := some tb) rfl ?_)
      refine h2.tabPut hm hD (TabO.st.mono t2 fun k hk e => relab_new e hk) fun w3 h3 f3 s3 => ?_
      have hx : ∀ k, relab lab w1.heap.size w2.heap.size (5 + m) k ≠ 0 → lab k ≠ 0 ∨ w.heap.size ≤ k := fun k e => (relab_ex (F := fun k => lab k ≠ 0) (fun _ e => e) k e).imp (fun h => h) fun h => Nat.le_trans hs1 h
      exact ⟨_, _, _, hx, fun k hk => relab_lt (Nat.lt_of_lt_of_le hk hs1), h3, by simp, by simp, f02.any.exS f3 fun k e => hx k (by omega)⟩
  · rintro p w2 ⟨lab', tp', D', hex, hsame, h2, hD, rfl, f2⟩
    have hS2 : SlT ok w2 compT r l := (hS.mono (ok' := fun k => ok k ∧ k < w.heap.size) fun k hk h => ⟨h, hk⟩).fr f2 (fun k e e2 => e2 (hd k e.2 e.1)) |>.mono fun k _ h => h.1
    have hlt : ∀ k, ok k → k < w.heap.size → lab' k = 0 := fun k e1 e2 => by rw [hsame k e2]; exact hd k e2 e1
    refine tabo_Add (ok := fun k => ok k ∧ k < w.heap.size) (h2.tab m hm hD) hid ?_ (fun k _ e e2 => by have := hlt k e.1 e.2; omega) hsm hl hroom fun w3 t3 f3 => ?_
    · exact (hS.mono (ok' := fun k => ok k ∧ k < w.heap.size) fun k hk h => ⟨h, hk⟩).fr f2 (fun k e e2 => e2 (hd k e.2 e.1))
    have hadd : addM m (T m) id l = 0 := addM_ok hval hno
    rw [addT, if_pos hadd] at t3
    have h3 := h2.setTab hm hD f3 t3
    have hx3 : ∀ k, relab lab' w2.heap.size w3.heap.size (5 + m) k ≠ 0 → lab k ≠ 0 ∨ w.heap.size ≤ k := fun k e => by
      have := f2.size
      rcases relab_ne e with ⟨e, _⟩ | ⟨e, _⟩
      · exact hex k e
      · exact .inr (by omega)
    refine ptrI (fldI h3.blk.2 (x := some hb) rfl ?_)
    refine h3.homePut hid hm hD fun w4 h4 f4 s4 => ?_
    refine hk _ tp' D' w4 hx3 ?_ ((f2.exS f3 fun k e => hex k (by omega)).exS f4 fun k e => hx3 k (by omega))
    unfold putT
    rw [hmm]
    exact h4

theorem CompsOk.valid {l : List Comp} (hv : listE l = 0) : ∀ c ∈ l, CompOk c := fun c hc => checkM_ok ((listE_0.1 hv).1 c hc)

/-- of: the table of an entity. -/
theorem stor_of (h : StoR lab w b sb tb hb tp D s T H) {id : Int} (hid : IdOk id) {K : Res [.sc .ptr, .sc (.int .i64)] → W R} (hk : K (match H id with
    | none => (none, 7)
    | some m => (some ⟨tp m, 0, none⟩, 0)) Q w) : callW Tryz.prog k_store_Store_of [.pointer (some ⟨b, 0, none⟩), .int .u32 id] [.sc .ptr, .sc (.int .i64)] K Q w := by
  refine C_store_Store_of _ _ K Q w ?_
  unfold F_store_Store_of
  refine condF rfl (ptrI (fldI h.blk.2 (x := some hb) rfl (h.lookHome hid ?_)))
  cases hh : H id with
  | none =>
    rw [hh] at hk
    exact condT rfl hk
  | some m =>
    rw [hh] at hk
    refine condF rfl (ptrI (fldI h.blk.2 (x := some hb) rfl (h.lookHome hid ?_)))
    rw [hh]
    exact hk
theorem stor_of0 {id : Int} {K : Res [.sc .ptr, .sc (.int .i64)] → W R} (hk : K (none, 10) Q w) : callW Tryz.prog k_store_Store_of [.pointer none, .int .u32 id] [.sc .ptr, .sc (.int .i64)] K Q w := C_store_Store_of _ _ K Q w hk
end

/-! ### the store's functions -/
theorem Store.st {b : Nat} {x : StM} : St (Store b x) := fun {_F _F' _S w _w'} ⟨ok, lab, sb, tb, hb, tp, D, hF, h⟩ fr hs =>
  ⟨ok, cut lab w.heap.size, sb, tb, hb, tp, D, fun k e => (hs k (cut_ne e).2 (hF k (cut_ne e).1)).2, h.cut fr fun k hk e => (hs k hk (hF k e)).1⟩

theorem spec_store_New {n first : Int} {K : Res [.sc .ptr, .sc (.int .i64)] → W R} (h1 : ¬ (1 ≤ n ∧ n ≤ 1024 ∧ 1 ≤ first ∧ first ≤ 4194303) → K (none, 1) Q w)
    (h2 : ∀ b w', 1 ≤ n ∧ n ≤ 1024 ∧ 1 ≤ first ∧ first ≤ 4194303 → Store b (StM.new n.toNat first) (Up w.heap.size) w' → Fr None w w' → K (some ⟨b, 0, none⟩, 0) Q w') :
    callW Tryz.prog k_store_New [.int .i64 n, .int .i64 first] [.sc .ptr, .sc (.int .i64)] K Q w := by
  refine C_store_New n first K Q w ?_
  unfold F_store_New
  refine spec_slots_New (fun hn => condT rfl (h1 hn)) fun sb w1 hp hs f1 => condF rfl ?_
  refine mapNewI (mapNewI ?_)
  have e1 : ((w1.alloc (.map #[] 0)).heap.size) = w1.heap.size + 1 := by simp
  rw [e1]
  have ft := (Fr.refl None w1).alloc (.map #[] 0)
  have fh := (Fr.refl None (w1.alloc (.map #[] 0))).alloc (.map #[] 0)
  have mt := MapB.made (P := Tryz.prog) (k := 5) (ke := Value.int .u8) w1
  have mh := MapB.made (P := Tryz.prog) (k := 31) (ke := Value.int .u32) (w1.alloc (.map #[] 0))
  rw [e1] at mh
  have s2 : ((w1.alloc (.map #[] 0)).alloc (.map #[] 0)).heap.size = w1.heap.size + 2 := by simp
  generalize (w1.alloc (.map #[] 0)).alloc (.map #[] 0) = w2 at *
  refine newI fun w3 B3 f3 s3 => ?_
  rw [s2] at B3
  have f13 : Fr None w1 w3 := (ft.then0 fh).then0 f3
  have hs1 := f1.size
  rw [s2]
  refine h2 (w1.heap.size + 2) w3 hp ⟨stok_new (by omega) (by omega) hp.2.2, fun k => if k = w1.heap.size + 2 then 1 else if k = w1.heap.size then 2 else if k = w1.heap.size + 1 then 3 else if w.heap.size ≤ k then 4 else 0, sb, w1.heap.size, w1.heap.size + 1, fun _ => 0, fun _ => false, fun k e => ?_,
    ⟨⟨by simp, B3⟩, ?_, ⟨by simp, ?_⟩, ⟨by simp, ?_⟩, fun m _ h => by simp at h, fun m _ _ => rfl, fun id m e => ?_⟩⟩ (f1.then0 f13)
  · show w.heap.size ≤ k
    by_cases a1 : k = w1.heap.size + 2
    · omega
    · by_cases a2 : k = w1.heap.size
      · omega
      · by_cases a3 : k = w1.heap.size + 1
        · omega
        · by_cases a4 : w.heap.size ≤ k
          · exact a4
          · simp [a1, a2, a3, a4] at e
  · refine Slots.st hs f13 fun k hk e => ⟨fun h => h, ?_⟩
    have a1 : ¬ k = w1.heap.size + 2 := by omega
    have a2 : ¬ k = w1.heap.size := by omega
    have a3 : ¬ k = w1.heap.size + 1 := by omega
    show (if _ then _ else _) = _
    rw [if_neg a1, if_neg a2, if_neg a3, if_pos e]
  · refine ((mt.fr fh fun h => h).fr f3 fun h => h).congr fun i => ?_
    unfold tabsF
    rw [if_neg (by simp)]
  · refine (mh.fr f3 fun h => h).congr fun i => ?_
    have : homeT (StM.new n.toNat first).tab i = none := home_none.2 fun m _ h => by simp [inT, StM.new, rowM] at h
    rw [this]; rfl
  · have : homeT (StM.new n.toNat first).tab id = none := home_none.2 fun m _ h => by simp [inT, StM.new, rowM] at h
    rw [this] at e; cases e

section
variable {F : Nat → Prop} {b : Nat} {x : StM}

theorem spec_store_Spawn0 {r : Sl} {K : Res [.sc (.int .u32), .sc (.int .i64)] → W R} (hk : K (0, 10) Q w) : callW Tryz.prog k_store_Store_Spawn [.pointer none, .slice r.a r.n r.c] [.sc (.int .u32), .sc (.int .i64)] K Q w := C_store_Store_Spawn _ _ K Q w hk
theorem spec_store_Spawn (h : Store b x F w) {ok : Nat → Prop} {r : Sl} {l : List Comp} (hS : SlT ok w compT r l) (hd : ∀ k, k < w.heap.size → ok k → ¬ F k) (hsm : Small l) (hl : ∀ c ∈ l, CompOk c) {K : Res [.sc (.int .u32), .sc (.int .i64)] → W R}
    (hk : ∀ w', Store b (x.spawn l).2.2 (Ex F w) w' → Fr F w w' → K ((x.spawn l).1, (x.spawn l).2.1) Q w') : callW Tryz.prog k_store_Store_Spawn [.pointer (some ⟨b, 0, none⟩), .slice r.a r.n r.c] [.sc (.int .u32), .sc (.int .i64)] K Q w := by
  refine C_store_Store_Spawn _ _ K Q w ?_
  unfold F_store_Store_Spawn
  refine condF rfl (spec_schema_List hS hsm fun w1 f1 => ?_)
  have ex : ∀ {y : StM} {w' : World}, Store b y F w' → Store b y (Ex F w) w' := fun h => Store.st.mono h fun _ _ e => .inl e
  refine condN (fun hc => ?_) fun hc => ?_
  · have e : x.spawn l = (0, listE l, x) := by rw [StM.spawn, if_pos hc]
    rw [e] at hk
    exact hk w1 (ex (Store.st.fr0 h f1)) f1.any
  have hS1 := hS.fr0 f1
  obtain ⟨ok', lab, sb, tb, hb, tp, D, hF, h1⟩ := Store.st.fr0 h f1
  refine ptrI (fldI h1.blk.2 (x := some ⟨sb, 0, none⟩) rfl ?_)
  refine spec_slots_Take h1.slots (fun ht w2 f2 => ?_) fun id s' w2 ht h2 f2 => ?_
  · have e : x.spawn l = (0, 8, x) := by rw [StM.spawn, if_neg (by simpa using hc), ht]
    rw [e] at hk
    refine joinK (condF rfl ?_)
    exact hk w2 (ex (Store.st.fr0 (Store.st.fr0 h f1) f2)) (f1.then0 f2).any
  · have e : x.spawn l = (id, 0, ⟨s', putT x.tab id l⟩) := by rw [StM.spawn, if_neg (by simpa using hc), ht]
    rw [e] at hk
    obtain ⟨hdead, hlive, hid, _⟩ := ok'.s.take_live ht
    have hh : homeT x.tab id = none := by
      have := ok'.home_live id
      rw [hdead] at this
      simpa using this
    have hm := maskN_lt l
    have hno : rowM (x.tab (maskN l)) id = none := by
      have := home_none.1 hh _ hm
      unfold inT at this
      simpa using this
    have h3 : StoR lab w2 b sb tb hb tp D s' x.tab (homeT x.tab) := ⟨Bl.st.fr h1.blk f2 fun k e => by omega, h2, Mp.st.fr h1.tabs f2 fun k e => by omega, Mp.st.fr h1.home f2 fun k e => by omega, fun k hk hDk => TabO.st.fr (h1.tab k hk hDk) f2 fun k e => by omega, h1.no, h1.hm⟩
    have f02 : Fr (fun k => lab k ≠ 0) w w2 := f1.any.then (f2.lab (by decide))
    have hs1 := f1.size
    have hS2 : SlT (fun k => ok k ∧ k < w.heap.size) w2 compT r l := (hS.mono (ok' := fun k => ok k ∧ k < w.heap.size) fun k hk h => ⟨h, hk⟩).fr f02 fun k e e2 => hd k e.2 e.1 (hF k e2)
    have hl0 : ∀ k, (ok k ∧ k < w.heap.size) → lab k = 0 := fun k e => by
      by_cases h0 : lab k = 0
      · exact h0
      · exact absurd (hF k h0) (hd k e.2 e.1)
    refine joinK (condT rfl (stor_put h3 hid hS2 (fun k _ e => hl0 k e) hl (by simpa using hc) ok'.tab hno (by have := ok'.tab_le hm; omega) fun lab' tp' D' w3 hex h4 f3 => ?_))
    have hs2 := f02.size
    refine hk w3 ⟨?_, lab', sb, tb, hb, tp', D', fun k e => ?_, ?_⟩ ((f02.exS f3 fun k e => .inl e).sub hF)
    · exact ok'.put (ok'.s.take ht) hid (by simpa using hc) hh hlive (by have := ok'.tab_le hm; omega)
    · rcases hex k e with e | e
      · exact .inl (hF k e)
      · exact .inr (by omega)
    · have e2 : homeT (putT x.tab id l) = fun j => if j = id then some (maskN l) else homeT x.tab j := by
        funext j
        exact home_add (e := (id, l)) hm (home_none.1 hh) j
      show StoR lab' w3 b sb tb hb tp' D' s' (putT x.tab id l) (homeT (putT x.tab id l))
      rw [e2]
      exact h4
end

end Go.Proofs.YtkblnhnjagemlaaGreat
