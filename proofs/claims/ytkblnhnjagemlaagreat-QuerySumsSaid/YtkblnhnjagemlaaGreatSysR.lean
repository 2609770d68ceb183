/-
  systems: what the document does to entities by themselves.
-/
import Derived.Test.YtkblnhnjagemlaaGreatSys
import Derived.Test.YtkblnhnjagemlaaGreatRef11
namespace Go.Proofs.YtkblnhnjagemlaaGreat
open Go Go.RowKit Go.Proofs.YtkblnhnjagemlaaGreat.Den
variable {R : Type} {Q : R → World → Prop} {w : World}

/-! ### nobody -/
theorem spec_systems_Move0 {K : Res [.sc .sl] → W R} (hk : ∀ w', Fr None w w' → K ⟨none, 0, 0⟩ Q w') : callW Tryz.prog k_systems_Move [.pointer none] [.sc .sl] K Q w := by
  refine C_systems_Move _ K Q w ?_
  unfold F_systems_Move
  refine spec_query_With0 fun r w1 o1 f1 => ?_
  have hn : r.n = 0 := o1.len
  refine loopI (fun s w' => s = ((⟨none, 0, 0⟩ : Sl), (0 : Int)) ∧ w' = w1) (fun _ _ => 0) ⟨rfl, rfl⟩ ?_
  rintro s w' ⟨rfl, rfl⟩
  exact condF (by rw [hn]; rfl) (hk w' f1)
theorem spec_systems_Age0 {K : Res [.sc .sl] → W R} (hk : ∀ w', Fr None w w' → K ⟨none, 0, 0⟩ Q w') : callW Tryz.prog k_systems_Age [.pointer none] [.sc .sl] K Q w := by
  refine C_systems_Age _ K Q w ?_
  unfold F_systems_Age
  refine spec_query_With0 fun r w1 o1 f1 => ?_
  have hn : r.n = 0 := o1.len
  refine loopI (fun s w' => s = ((⟨none, 0, 0⟩ : Sl), (0 : Int)) ∧ w' = w1) (fun _ _ => 0) ⟨rfl, rfl⟩ ?_
  rintro s w' ⟨rfl, rfl⟩
  exact condF (by rw [hn]; rfl) (hk w' f1)
theorem spec_systems_Breed0 {K : Res [.sc .sl] → W R} (hk : ∀ w', Fr None w w' → K ⟨none, 0, 0⟩ Q w') : callW Tryz.prog k_systems_Breed [.pointer none] [.sc .sl] K Q w := by
  refine C_systems_Breed _ K Q w ?_
  unfold F_systems_Breed
  refine spec_query_With0 fun r w1 o1 f1 => ?_
  have hn : r.n = 0 := o1.len
  refine loopI (fun s w' => s = ((⟨none, 0, 0⟩ : Sl), (0 : Int)) ∧ w' = w1) (fun _ _ => 0) ⟨rfl, rfl⟩ ?_
  rintro s w' ⟨rfl, rfl⟩
  exact condF (by rw [hn]; rfl) (hk w' f1)

/-! ### reading -/
/-- a thing of a list: its place, and that it is read there as long as the list reads so. -/
theorem Den.SlT.readK {ok : Nat → Prop} {t : Ty} {s : Sl} {l : List t.T} (h : SlT ok w t s l) {sz : Nat} (hsz : sz = t.size) {i : Int} {j : Nat} (hi : i = j) {x : t.T} (hj : l[j]? = some x) {K : Addr → W R} (hk : ∀ a, (∀ w', SlT ok w' t s l → Rd w' a t x) → K a Q w) :
    (idxW s.a s.n sz i K) Q w := by
  subst hi; subst hsz
  have hjl := (List.getElem?_eq_some_iff.1 hj).1
  have hn := h.len
  rcases h.at_ with e | ⟨b, o, ha, _, _, hrd⟩
  · rw [e] at hjl; simp at hjl
  · rw [ha]
    refine ⟨_, rfl, by omega, by omega, hk _ fun w' h' => ?_⟩
    rw [add_lit, Int.toNat_natCast]
    rcases h'.at_ with e | ⟨b', o', ha', _, _, hrd'⟩
    · rw [e] at hjl; simp at hjl
    · rw [ha] at ha'
      cases ha'
      exact hrd' j x hj
/-- a field of a component that is read. -/
theorem rIdx {a : Addr} {c : Comp} (hrd : Rd w a compT c) {i : Int} {j : Nat} (hi : i = (j : Int)) (hj : j < 3) {K : Int → W R} (hk : K (fl c j) Q w) : (idxW (some (Addr.add a 1)) 3 1 i fun x => ld (.sc (.int .i32)) x K) Q w := by
  subst hi
  refine idxA (by omega) (by omega) ?_
  rw [addA, Int.toNat_natCast, Nat.mul_one]
  exact hrd.fld (i := 1 + j) (s := .int .i32) (y := fl c j) (compC_fl c hj) hk

/-! ### between two entities, as the document has it -/
def A11 (C0 : Nat → Prop) (n1 : Nat) (b : Nat) (y : StM) : OB := fun F w => ∃ C, Ag C0 C n1 ∧ R11 C b y F w
theorem A11.st {C0 : Nat → Prop} {n1 b : Nat} (y : StM) : St (A11 C0 n1 b y) := fun ⟨C, h1, h2⟩ f hs => ⟨C, h1, R11.st h2 f hs⟩
section
variable {C0 F G : Nat → Prop} {n1 b : Nat} {x y : StM}
theorem A11.set (h : A11 C0 n1 b y G w) (hn : n1 ≤ w.heap.size) {id : Int} {c : Comp} (hc0 : 0 ≤ c.1) {K : Res [.sc (.int .i64)] → W R} (hk : ∀ w', A11 C0 n1 b (y.set id c).2 (Ex G w) w' → Fr (fun k => G k ∧ (k < n1 → ¬ C0 k)) w w' → K (y.set id c).1 Q w') :
    callW Tryz.prog k_pinnaceref11_Set [.pointer (some ⟨b, 0, none⟩), .int .u32 id, .agg ⟨compC c⟩] [.sc (.int .i64)] K Q w := by
  obtain ⟨C, hag, hR⟩ := h
  exact spec_r11_Set hR hc0 fun C' w' hag' h' f => hk w' ⟨C', fun k hk => (hag' k (by omega)).trans (hag k hk), h'⟩ (f.sub fun k e => ⟨e.1, fun hk e2 => e.2 ((hag k hk).2 e2)⟩)
theorem A11.despawn (h : A11 C0 n1 b y G w) (hn : n1 ≤ w.heap.size) {id : Int} (hid : IdOk id) {K : Res [.sc (.int .i64)] → W R} (hk : ∀ w', A11 C0 n1 b (y.despawn id).2 (Ex G w) w' → Fr (fun k => G k ∧ (k < n1 → ¬ C0 k)) w w' → K (y.despawn id).1 Q w') :
    callW Tryz.prog k_pinnaceref11_Despawn [.pointer (some ⟨b, 0, none⟩), .int .u32 id] [.sc (.int .i64)] K Q w := by
  obtain ⟨C, hag, hR⟩ := h
  exact spec_r11_Despawn hR hid fun C' w' hag' h' f => hk w' ⟨C', fun k hk => (hag' k (by omega)).trans (hag k hk), h'⟩ (f.sub fun k e => ⟨e.1, fun hk e2 => e.2 ((hag k hk).2 e2)⟩)
theorem A11.spawn (h : A11 C0 n1 b y G w) (hn : n1 ≤ w.heap.size) {ok : Nat → Prop} {r : Sl} {l : List Comp} (hS : SlT ok w compT r l) (hd : ∀ k, k < w.heap.size → ok k → ¬ G k) (hsm : Small l) (hl : ∀ c ∈ l, CompOk c) {K : Res [.sc (.int .u32), .sc (.int .i64)] → W R}
    (hk : ∀ w', A11 C0 n1 b (y.spawn l).2.2 (Ex G w) w' → Fr (fun k => G k ∧ (k < n1 → ¬ C0 k)) w w' → K ((y.spawn l).1, (y.spawn l).2.1) Q w') :
    callW Tryz.prog k_pinnaceref11_Spawn [.pointer (some ⟨b, 0, none⟩), .slice r.a r.n r.c] [.sc (.int .u32), .sc (.int .i64)] K Q w := by
  obtain ⟨C, hag, hR⟩ := h
  exact spec_r11_Spawn hR hS hd hsm hl fun C' w' hag' h' f => hk w' ⟨C', fun k hk => (hag' k (by omega)).trans (hag k hk), h'⟩ (f.sub fun k e => ⟨e.1, fun hk e2 => e.2 ((hag k hk).2 e2)⟩)

/-- an entity of the document's list, and what has become ahead of it. -/
theorem doc_facts {step : SysP → Ent → SysP} (S : SysStep step) (fit : Ent → Bool) (h : StOk x) {j : Nat} {id : Int} (hid : x.s.list[j]? = some id) :
    (StOk (sysF (entF x) (skipE fit step) (x, []) (x.s.list.take j)).1 ∧ Has (sysF (entF x) (skipE fit step) (x, []) (x.s.list.take j)).1 (entF x id) ∧ (sysF (entF x) (skipE fit step) (x, []) (x.s.list.take j)).2.length ≤ j ∧
      sysF (entF x) (skipE fit step) (x, []) (x.s.list.take (j + 1)) = skipE fit step (sysF (entF x) (skipE fit step) (x, []) (x.s.list.take j)) (entF x id)) ∧ (entF x id).1 = id ∧ IdOk id ∧ (∃ m, Valid m (entF x id).2) ∧ (entsM x)[j]? = some (entF x id) ∧ j < 1024 := by
  obtain ⟨a1, a2, a3, a4, a5⟩ := sys_at (S.skip fit) h h.s.list_nodup (fun i hi => h.s.mem_list.1 hi) hid []
  simp only [List.length_nil, Nat.zero_add] at a4
  have hlive := h.s.mem_list.1 (List.mem_of_getElem? hid)
  obtain ⟨m, i, _, _, hv, _⟩ := Has.at a1 a2
  refine ⟨⟨a1, a2, a4, a5⟩, a3, (h.s.live_id hlive).1, ⟨m, hv⟩, ?_, ?_⟩
  · unfold entsM; rw [List.getElem?_map, hid]; rfl
  · have := h.s.list_le
    have := (List.getElem?_eq_some_iff.1 hid).1
    omega
theorem skipE_no {fit : Ent → Bool} {step : SysP → Ent → SysP} {p : SysP} {e : Ent} (h : fit e = false) : skipE fit step p e = p := by unfold skipE; rw [h]; rfl
theorem skipE_yes {fit : Ent → Bool} {step : SysP → Ent → SysP} {p : SysP} {e : Ent} (h : fit e = true) : skipE fit step p e = step p e := by unfold skipE; rw [h]; rfl
theorem hasK_mask {m : Nat} {e : Ent} (hv : Valid m e.2) (k : Int) : hasK e k = decide (k ∈ kindsOf m) := by unfold hasK; rw [hv.mask]

theorem spec_r14_Move {C : Nat → Prop} (h : R11 C b x F w) {K : Res [.sc .sl] → W R} (hk : ∀ r w', SysEnd (A11 C w.heap.size b) F (fun k => F k ∧ ¬ C k) w (moveM x) r w' → K r Q w') :
    callW Tryz.prog k_pinnaceref14_Move [.pointer (some ⟨b, 0, none⟩)] [.sc .sl] K Q w := by
  have ok := h.1
  have hst := h.shut
  refine C_pinnaceref14_Move _ K Q w ?_
  unfold F_pinnaceref14_Move
  refine spec_r11_List hst fun r0 raws w1 o1 hE f1 => ?_
  have hs1 := f1.size
  have stA := A11.st (C0 := C) (n1 := w.heap.size) (b := b)
  have st1 : A11 C w.heap.size b x (fun k => F k ∧ k < w.heap.size) w1 := ⟨C, fun _ _ => Iff.rfl, R11.st.fr0 hst f1⟩
  have hel : (entsM x).length = x.s.list.length := by unfold entsM; rw [List.length_map]
  have hrn : r0.n = x.s.list.length := by rw [o1.len, hE.len, hel]
  have rd : ∀ {w' : World}, Fr (fun k => (F k ∧ ¬ C k) ∧ k < w.heap.size) w1 w' → SlT (Up w.heap.size) w' entT r0 raws := fun f => o1.sl.fr f fun k e e2 => by have e : w.heap.size ≤ k := e; omega
  have hdoc := sys_doc ok fits_3 moveE
  change moveM x = _ at hdoc
  refine forI (N := r0.n) (fun s : Sl × Int => s.2) (fun j st w' => st.2 = (j : Int) ∧ SysAt (A11 C w.heap.size b) (fun k => F k ∧ k < w.heap.size) (fun k => (F k ∧ ¬ C k) ∧ k < w.heap.size) w1 (sysF (entF x) (skipE (fun e => [0, 1].all fun k => hasK e k) moveE) (x, []) (x.s.list.take j)) st.1 w')
    ?_ (fun j s w' h => h.1) ?_ ?_
  · exact ⟨rfl, SysAt.start0 stA st1⟩
  · rintro j ⟨out, _⟩ w2 K' hjr ⟨rfl, hsys⟩ - hK
    obtain ⟨id, hid⟩ : ∃ id, x.s.list[j]? = some id := ⟨_, List.getElem?_eq_getElem (by omega)⟩
    obtain ⟨⟨okp, hHas, hlen, hstep⟩, hide, hidok, ⟨m, hv⟩, hent, hj⟩ := doc_facts moveS (fun e => [0, 1].all fun k => hasK e k) ok hid
    obtain ⟨r1, hr1, ha1, ha2⟩ := hE.get hent
    dsimp only at hsys
    generalize sysF (entF x) (skipE (fun e => [0, 1].all fun k => hasK e k) moveE) (x, []) (x.s.list.take j) = p at okp hHas hlen hstep hsys
    generalize entF x id = e at hstep hHas hide hv ha1 ha2
    rw [hide] at ha1
    obtain ⟨G, hA, hG, hlt, ho, hf⟩ := hsys
    have hf1 := hf.size
    have hsm : Small e.2 := by have := hv.small; show _ ≤ 1048576; omega
    refine joinI (fun z w' => SysAt (A11 C w.heap.size b) (fun k => F k ∧ k < w.heap.size) (fun k => (F k ∧ ¬ C k) ∧ k < w.heap.size) w1 (sysF (entF x) (skipE (fun e => [0, 1].all fun k => hasK e k) moveE) (x, []) (x.s.list.take (j + 1))) z w') ?_ fun z w' hz => hK _ _ ⟨wsucc (N := 1024) hj (by omega), hz⟩
    rw [hstep]
    refine (rd hf).get (j := j) rfl rfl (by have := (List.getElem?_eq_some_iff.1 hr1).1; omega) fun y hy => ?_
    rw [hr1] at hy
    cases hy
    refine newI fun w3 B3 f3 s3 => stoAll B3 rfl rfl fun w4 B4 f4 s4 => ?_
    have f24 : Fr None w2 w4 := f3.newer f4 fun k e => by omega
    have fd : Fr None w4 w4.drew := (Fr.refl _ _).drew
    have B4d := B4.fr fd fun h => h
    have cs2 : SlT (fun k => (F k ∧ k < w.heap.size) ∧ C k) w2 compT r1.2 e.2 := ha2.fr hf fun k e e2 => e2.1.2 e.2
    have cs4 := cs2.fr0 (f24.then0 fd)
    refine fldI B4d (i := 1) (x := r1.2) rfl (fldI B4d (i := 1) (x := r1.2) rfl (spec_r5_Find cs4 hsm fun w5 f5 => andI ((B4d.fr f5 fun h => h).rd (s := .sl) (i := 1) (x := r1.2) rfl) (spec_r5_Find (cs4.fr0 f5) hsm fun w6 f6 => ?_)))
    have f46 : Fr None w4 w6 := (fd.then0 f5).then0 f6
    have B6 := B4.fr f46 fun h => h
    have f26 := f24.then0 f46
    have cs6 := cs2.fr0 f26
    have hsys6 : SysAt (A11 C w.heap.size b) (fun k => F k ∧ k < w.heap.size) (fun k => (F k ∧ ¬ C k) ∧ k < w.heap.size) w1 p out w6 := SysAt.fr0 stA ⟨G, hA, hG, hlt, ho, hf⟩ f26
    have nofit : ([0, 1].all fun k => hasK e k) = false → SysAt (A11 C w.heap.size b) (fun k => F k ∧ k < w.heap.size) (fun k => (F k ∧ ¬ C k) ∧ k < w.heap.size) w1 (skipE (fun e => [0, 1].all fun k => hasK e k) moveE p e) out w6 := fun hn => by
      rw [skipE_no (fit := fun e => [0, 1].all fun k => hasK e k) hn]
      exact hsys6
    rcases findM_valid hv 0 with ⟨hneg, hno⟩ | ⟨q0, hq0, hl0, hin0⟩
    · refine joinI (fun z w' => z = true ∧ w' = w6) (condT (decide_eq_true hneg) ⟨rfl, rfl⟩) ?_
      rintro z w' ⟨rfl, rfl⟩
      exact condT rfl (nofit (by simp [hasK_mask hv, hno]))
    rcases findM_valid hv 1 with ⟨hneg, hno⟩ | ⟨q1, hq1, hl1, hin1⟩
    · refine joinI (fun z w' => z = true ∧ w' = w6) (condF (decide_eq_false (by rw [hq0]; omega)) ⟨decide_eq_true hneg, rfl⟩) ?_
      rintro z w' ⟨rfl, rfl⟩
      exact condT rfl (nofit (by simp [hasK_mask hv, hno]))
    refine joinI (fun z w' => z = false ∧ w' = w6) (condF (decide_eq_false (by rw [hq0]; omega)) ⟨decide_eq_false (by rw [hq1]; omega), rfl⟩) ?_
    rintro z w' ⟨rfl, rfl⟩
    refine condF rfl ?_
    have hk0 : hasK e 0 = true := by rw [hasK_mask hv]; exact decide_eq_true hin0
    have hk1 : hasK e 1 = true := by rw [hasK_mask hv]; exact decide_eq_true hin1
    have c0 := Has.field okp hHas hk0
    have c1 := Has.field okp hHas hk1
    rw [skipE_yes (fit := fun e => [0, 1].all fun k => hasK e k) (by simp [hk0, hk1])]
    obtain ⟨pn, hpn⟩ : ∃ pn, pn = moveE p e := ⟨_, rfl⟩
    rw [← hpn]
    unfold moveE at hpn
    rw [hide] at hpn
    rw [hq0, hq1]
    generalize fieldsOf e.2 0 = a at c0 hpn hl0
    generalize fieldsOf e.2 1 = v at c1 hpn hl1
    obtain ⟨ax, ay, az⟩ := a
    obtain ⟨vx, vy, vz⟩ := v
    obtain ⟨hax, hay, haz⟩ := pos_in c0
    obtain ⟨hvx, hvy, hvz⟩ := vel_in c1
    dsimp only at hax hay haz hvx hvy hvz hpn
    subst haz; subst hvz
    have fd6 : Fr None w' w'.drew := (Fr.refl _ _).drew
    have B6d := B6.fr fd6 fun h => h
    have cs6d := cs6.fr0 fd6
    refine joinI (fun (z : Option Addr × Option Addr) w7 => ∃ ba bv, z = (some ⟨ba, 0, none⟩, some ⟨bv, 0, none⟩) ∧ Blk w7 ba 53 (compC (0, ax, ay, 0)) ∧ Blk w7 bv 53 (compC (1, vx, vy, 0)) ∧ Fr None w' w7) ?_ ?_
    · refine bothI ?_ ?_
      · refine fldI B6d (i := 1) (x := r1.2) rfl (cs6d.get rfl rfl (List.getElem?_eq_some_iff.1 hl0).1 fun y hy => ?_)
        rw [hl0] at hy
        cases hy
        refine fldI B6d (i := 1) (x := r1.2) rfl (cs6d.readK rfl rfl hl1 fun ad had => ldI (t := compT) (1, vx, vy, 0) (had _ cs6d) ?_)
        refine newI fun w7 B7 f7 s7 => newI fun w8 B8 f8 s8 => stoAll (B7.fr f8 fun h => h) rfl rfl fun w9 B9 f9 s9 => ?_
        have f79 : Fr None w'.drew w9 := (f7.then0 f8).newer f9 fun k e => by omega
        refine andI (had _ (cs6d.fr0 f79)) (andI ((B6d.fr f79 fun h => h).rd (s := .sl) (i := 1) (x := r1.2) rfl) ?_)
        have hsw : w'.drew.heap.size ≠ w7.heap.size := by omega
        refine stoAll (B8.fr f9 fun e => by omega) rfl rfl fun w10 B10 f10 s10 => ⟨_, _, rfl, B9.fr f10 fun e => by omega, B10, fd6.then0 (f79.newer f10 fun k e => by omega)⟩
      · refine fldI B6d (i := 1) (x := r1.2) rfl (cs6d.get rfl rfl (List.getElem?_eq_some_iff.1 hl0).1 fun y hy => ?_)
        rw [hl0] at hy
        cases hy
        refine fldI B6d (i := 1) (x := r1.2) rfl (cs6d.readK rfl rfl hl1 fun ad had => ldI (t := compT) (1, vx, vy, 0) (had _ cs6d) ?_)
        refine newI fun w7 B7 f7 s7 => newI fun w8 B8 f8 s8 => stoAll B8 rfl rfl fun w9 B9 f9 s9 => ?_
        have f79 : Fr None w'.drew w9 := (f7.then0 f8).newer f9 fun k e => by omega
        refine andI (had _ (cs6d.fr0 f79)) (andI ((B6d.fr f79 fun h => h).rd (s := .sl) (i := 1) (x := r1.2) rfl) ?_)
        refine stoAll ((B7.fr f8 fun h => h).fr f9 fun e => by omega) rfl rfl fun w10 B10 f10 s10 => ⟨_, _, rfl, B9.fr f10 fun e => by omega, B10, fd6.then0 (f79.newer f10 fun k e => by omega)⟩
    · rintro z w7 ⟨ba, bv, rfl, Ba, Bv, f7⟩
      have f27 := f26.then0 f7
      have B7 := B6.fr f7 fun h => h
      have hw27 := f27.size
      refine ptrI (fIdx (j := 0) rfl (by decide) (fld0 Ba (x := ax) rfl (ptrI (fIdx (j := 0) rfl (by decide) (fld0 Bv (x := vx) rfl (spec_r14_turn hax hvx ?_))))))
      refine ptrI (fIdx (j := 1) rfl (by decide) (fld0 Ba (x := ay) rfl (ptrI (fIdx (j := 1) rfl (by decide) (fld0 Bv (x := vy) rfl (spec_r14_turn hay hvy ?_))))))
      refine joinI (fun (z : Bool) w' => w' = w7 ∧ z = !decide ((turnM ax vx).1 = ax ∧ (turnM ay vy).1 = ay)) ?_ ?_
      · refine ptrI (fIdx (j := 0) rfl (by decide) (fld0 Ba (x := ax) rfl (condN (fun hne => ⟨rfl, ?_⟩) fun heq => ptrI (fIdx (j := 1) rfl (by decide) (fld0 Ba (x := ay) rfl ⟨rfl, ?_⟩)))))
        · have hne : (turnM ax vx).1 ≠ ax := hne
          rw [decide_eq_false (fun h => hne h.1)]; rfl
        · have heq : (turnM ax vx).1 = ax := heq
          show ((turnM ay vy).1 != ay) = _
          by_cases h2 : (turnM ay vy).1 = ay
          · rw [decide_eq_true ⟨heq, h2⟩]; simp [h2]
          · rw [decide_eq_false (fun h => h2 h.2)]; simp [h2]
      rintro z w8 ⟨rfl, rfl⟩
      have own7 := ho.none f27
      have hlo : ∀ k, out.v.ownBlock = some k → k < w2.heap.size := fun k e => ho.lt e
      refine joinI (fun (z : Sl) w' => Den.Own (fun r => w1.heap.size ≤ r ∧ ¬ G r) w' 31 idT z (if (turnM ax vx).1 = ax ∧ (turnM ay vy).1 = ay then p.2 else p.2 ++ [id]) ∧ Fr (fun k => out.v.ownBlock = some k) w8 w') ?_ ?_
      · refine condI (fun hne => ?_) fun heq => ?_
        · have hne : ¬ ((turnM ax vx).1 = ax ∧ (turnM ay vy).1 = ay) := fun h2 => by simp [h2.1, h2.2] at hne
          rw [if_neg hne]
          refine fldI B7 (i := 0) (x := r1.1) rfl ?_
          rw [ha1]
          refine appP (x := id) ids_ty rfl own7 (fun k e => ⟨by omega, fun e2 => by have := hlt k e2; omega⟩) (by omega) (by omega) fun r w' o f => ⟨o, f⟩
        · have heq : (turnM ax vx).1 = ax ∧ (turnM ay vy).1 = ay := by simpa using heq
          rw [if_pos heq]
          exact ⟨own7, Fr.refl _ _⟩
      rintro o2 w9 ⟨own9, f9⟩
      have f29 : Fr (fun k => out.v.ownBlock = some k) w2 w9 := f27.any.then f9
      have hs9 := f9.size
      have hA9 := St.fr (stA _) hA f29 fun k e e2 => (ho.own k e2).2 e
      have B9 : Blk w9 w2.heap.size 34 (entC r1) := B7.fr f9 fun e => by have := hlo _ e; omega
      have hlt9 : ∀ r, G r → r < w9.heap.size := fun r e => by have := hlt r e; omega
      have hf9 : Fr (fun k => (F k ∧ ¬ C k) ∧ k < w.heap.size) w1 w9 := hf.exS f29 fun k e => .inr (ho.own k e).1
      refine fldI B9 (i := 0) (x := r1.1) rfl ?_
      rw [ha1]
      refine A11.set (c := (0, (turnM ax vx).1, (turnM ay vy).1, 0)) hA9 (by omega) (by show (0 : Int) ≤ 0; decide) fun w10 hA10 f10 => ?_
      have hs10 := f10.size
      refine fldI (B9.fr f10 fun e => by have := hlt _ e.1; omega) (i := 0) (x := r1.1) rfl ?_
      rw [ha1]
      refine A11.set (c := (1, (turnM ax vx).2, (turnM ay vy).2, 0)) hA10 (by omega) (by show (0 : Int) ≤ 1; decide) fun w11 hA11 f11 => ?_
      have f911 : Fr (fun k => G k ∧ (k < w.heap.size → ¬ C k)) w9 w11 := f10.exS f11 fun k e => by
        rcases e.1 with e1 | e1
        · exact .inl ⟨e1, e.2⟩
        · exact .inr e1
      rw [hpn]
      refine SysAt.upd (p := (p.1, if (turnM ax vx).1 = ax ∧ (turnM ay vy).1 = ay then p.2 else p.2 ++ [id])) (A := A11 C w.heap.size b) stA hG hlt9 own9 hf9 (St.mono (stA _) hA11 fun k _ e => by
        rcases e with (e | e) | e
        · exact .inl e
        · exact .inr e
        · exact .inr (by omega)) f911 (fun k e => e.1) fun k hk e => ?_
      rcases hG k e.1 with e1 | e1
      · exact ⟨⟨e1.1.1, e.2 e1.1.2⟩, e1.1.2⟩
      · omega
  · rintro ⟨out, _⟩ w2 ⟨-, hsys⟩
    rw [hrn, List.take_length] at hsys
    dsimp only at hsys
    have hdoc2 : sysF (entF x) (skipE (fun e => [0, 1].all fun k => hasK e k) moveE) (x, []) x.s.list = moveM x := hdoc.symm
    rw [hdoc2] at hsys
    exact hk out w2 (SysAt.end_ hsys f1)
theorem spec_r14_Age {C : Nat → Prop} (h : R11 C b x F w) {K : Res [.sc .sl] → W R} (hk : ∀ r w', SysEnd (A11 C w.heap.size b) F (fun k => F k ∧ ¬ C k) w (ageM x) r w' → K r Q w') :
    callW Tryz.prog k_pinnaceref14_Age [.pointer (some ⟨b, 0, none⟩)] [.sc .sl] K Q w := by
  have ok := h.1
  have hst := h.shut
  refine C_pinnaceref14_Age _ K Q w ?_
  unfold F_pinnaceref14_Age
  refine spec_r11_List hst fun r0 raws w1 o1 hE f1 => ?_
  have hs1 := f1.size
  have stA := A11.st (C0 := C) (n1 := w.heap.size) (b := b)
  have st1 : A11 C w.heap.size b x (fun k => F k ∧ k < w.heap.size) w1 := ⟨C, fun _ _ => Iff.rfl, R11.st.fr0 hst f1⟩
  have hel : (entsM x).length = x.s.list.length := by unfold entsM; rw [List.length_map]
  have hrn : r0.n = x.s.list.length := by rw [o1.len, hE.len, hel]
  have rd : ∀ {w' : World}, Fr (fun k => (F k ∧ ¬ C k) ∧ k < w.heap.size) w1 w' → SlT (Up w.heap.size) w' entT r0 raws := fun f => o1.sl.fr f fun k e e2 => by have e : w.heap.size ≤ k := e; omega
  have hdoc := sys_doc ok fits_4 ageE
  change ageM x = _ at hdoc
  refine forI (N := r0.n) (fun s : Sl × Int => s.2) (fun j st w' => st.2 = (j : Int) ∧ SysAt (A11 C w.heap.size b) (fun k => F k ∧ k < w.heap.size) (fun k => (F k ∧ ¬ C k) ∧ k < w.heap.size) w1 (sysF (entF x) (skipE (fun e => [2].all fun k => hasK e k) ageE) (x, []) (x.s.list.take j)) st.1 w')
    ?_ (fun j s w' h => h.1) ?_ ?_
  · exact ⟨rfl, SysAt.start0 stA st1⟩
  · rintro j ⟨out, _⟩ w2 K' hjr ⟨rfl, hsys⟩ - hK
    obtain ⟨id, hid⟩ : ∃ id, x.s.list[j]? = some id := ⟨_, List.getElem?_eq_getElem (by omega)⟩
    obtain ⟨⟨okp, hHas, hlen, hstep⟩, hide, hidok, ⟨m, hv⟩, hent, hj⟩ := doc_facts ageS (fun e => [2].all fun k => hasK e k) ok hid
    obtain ⟨r1, hr1, ha1, ha2⟩ := hE.get hent
    dsimp only at hsys
    generalize sysF (entF x) (skipE (fun e => [2].all fun k => hasK e k) ageE) (x, []) (x.s.list.take j) = p at okp hHas hlen hstep hsys
    generalize entF x id = e at hstep hHas hide hv ha1 ha2
    rw [hide] at ha1
    obtain ⟨G, hA, hG, hlt, ho, hf⟩ := hsys
    have hf1 := hf.size
    have hsm : Small e.2 := by have := hv.small; show _ ≤ 1048576; omega
    refine joinI (fun z w' => SysAt (A11 C w.heap.size b) (fun k => F k ∧ k < w.heap.size) (fun k => (F k ∧ ¬ C k) ∧ k < w.heap.size) w1 (sysF (entF x) (skipE (fun e => [2].all fun k => hasK e k) ageE) (x, []) (x.s.list.take (j + 1))) z w') ?_ fun z w' hz => hK _ _ ⟨wsucc (N := 1024) hj (by omega), hz⟩
    rw [hstep]
    refine (rd hf).get (j := j) rfl rfl (by have := (List.getElem?_eq_some_iff.1 hr1).1; omega) fun y hy => ?_
    rw [hr1] at hy
    cases hy
    refine newI fun w3 B3 f3 s3 => stoAll B3 rfl rfl fun w4 B4 f4 s4 => ?_
    have f24 : Fr None w2 w4 := f3.newer f4 fun k e => by omega
    have cs2 : SlT (fun k => (F k ∧ k < w.heap.size) ∧ C k) w2 compT r1.2 e.2 := ha2.fr hf fun k e e2 => e2.1.2 e.2
    have cs4 := cs2.fr0 f24
    refine fldI B4 (i := 1) (x := r1.2) rfl (spec_r5_Find cs4 hsm fun w6 f46 => ?_)
    have B6 := B4.fr f46 fun h => h
    have f26 := f24.then0 f46
    have cs6 := cs2.fr0 f26
    rcases findM_valid hv 2 with ⟨hneg, hno⟩ | ⟨q0, hq0, hl0, hin0⟩
    · refine condT (decide_eq_true hneg) ?_
      rw [skipE_no (fit := fun e => [2].all fun k => hasK e k) (by simp [hasK_mask hv, hno])]
      exact SysAt.fr0 stA ⟨G, hA, hG, hlt, ho, hf⟩ f26
    refine condF (decide_eq_false (by rw [hq0]; omega)) ?_
    have hk0 : hasK e 2 = true := by rw [hasK_mask hv]; exact decide_eq_true hin0
    have c0 := Has.field okp hHas hk0
    rw [skipE_yes (fit := fun e => [2].all fun k => hasK e k) (by simp [hk0])]
    obtain ⟨pn, hpn⟩ : ∃ pn, pn = ageE p e := ⟨_, rfl⟩
    rw [← hpn]
    unfold ageE at hpn
    rw [hide] at hpn
    rw [hq0]
    generalize fieldsOf e.2 2 = a at c0 hpn hl0
    obtain ⟨ax, ay, az⟩ := a
    obtain ⟨hax, hay, haz⟩ := life_in c0
    dsimp only at hax hay haz hpn
    subst hay; subst haz
    have inF : ∀ k, k < w1.heap.size → (G k ∧ (k < w.heap.size → ¬ C k)) → (F k ∧ ¬ C k) ∧ k < w.heap.size := fun k hk e => by
      rcases hG k e.1 with e1 | e1
      · exact ⟨⟨e1.1.1, e.2 e1.1.2⟩, e1.1.2⟩
      · omega
    have hA6 := St.fr0 (stA _) hA f26
    have hs6 := f26.size
    refine fldI B6 (i := 1) (x := r1.2) rfl (cs6.readK rfl rfl hl0 fun ad had => rIdx (had _ cs6) (j := 0) rfl (by decide) ?_)
    show joinW _ _ _ _
    refine joinI (fun z w' => SysAt (A11 C w.heap.size b) (fun k => F k ∧ k < w.heap.size) (fun k => (F k ∧ ¬ C k) ∧ k < w.heap.size) w1 pn z w') ?_ fun z w' hz => hz
    refine condD (fun hz => ?_) fun hz => ?_
    · have hz : 0 < ax := hz
      rw [if_neg (by omega)] at hpn
      have e1 : IntKind.wrap .i32 (ax - 1) = ax - 1 := w32 (by omega)
      refine fldI B6 (i := 0) (x := r1.1) rfl ?_
      rw [ha1]
      show callW _ _ [_, _, .agg ⟨[.int .u8 2, .int .i32 (IntKind.wrap .i32 (ax - 1)), .int .i32 0, .int .i32 0]⟩] _ _ _ _
      rw [e1]
      refine A11.set (c := (2, ax - 1, 0, 0)) hA6 (by omega) (by show (0 : Int) ≤ 2; decide) fun w7 hA7 f7 => ?_
      rw [hpn]
      exact SysAt.upd (p := p) (A := A11 C w.heap.size b) stA hG hlt ho hf (St.mono (stA _) hA7 fun k _ e => by
        rcases e with e | e
        · exact .inl e
        · exact .inr (by omega)) (f26.any.then f7) (fun k e => e.1) inF
    · have hz : ¬ 0 < ax := hz
      rw [if_pos (by omega)] at hpn
      refine fldI B6 (i := 0) (x := r1.1) rfl ?_
      rw [ha1]
      refine A11.despawn hA6 (by omega) hidok fun w7 hA7 f7 => ?_
      refine fldI (B6.fr f7 fun e => by have := hlt _ e.1; omega) (i := 0) (x := r1.1) rfl ?_
      rw [ha1, hpn]
      have h7 := SysAt.upd (p := p) (A := A11 C w.heap.size b) (F := fun k => F k ∧ k < w.heap.size) (Fm := fun k => (F k ∧ ¬ C k) ∧ k < w.heap.size) stA hG hlt ho hf (St.mono (stA _) hA7 fun k _ e => by
        rcases e with e | e
        · exact .inl e
        · exact .inr (by omega)) (f26.any.then f7) (fun k e => e.1) inF
      exact SysAt.app stA h7 (by omega) fun r w' hr => hr
  · rintro ⟨out, _⟩ w2 ⟨-, hsys⟩
    rw [hrn, List.take_length] at hsys
    dsimp only at hsys
    have hdoc2 : sysF (entF x) (skipE (fun e => [2].all fun k => hasK e k) ageE) (x, []) x.s.list = ageM x := hdoc.symm
    rw [hdoc2] at hsys
    exact hk out w2 (SysAt.end_ hsys f1)

theorem spec_r14_Breed {C : Nat → Prop} (h : R11 C b x F w) {K : Res [.sc .sl] → W R} (hk : ∀ r w', SysEnd (A11 C w.heap.size b) F (fun k => F k ∧ ¬ C k) w (breedM x) r w' → K r Q w') :
    callW Tryz.prog k_pinnaceref14_Breed [.pointer (some ⟨b, 0, none⟩)] [.sc .sl] K Q w := by
  have ok := h.1
  have hst := h.shut
  refine C_pinnaceref14_Breed _ K Q w ?_
  unfold F_pinnaceref14_Breed
  refine spec_r11_List hst fun r0 raws w1 o1 hE f1 => ?_
  have hs1 := f1.size
  have stA := A11.st (C0 := C) (n1 := w.heap.size) (b := b)
  have st1 : A11 C w.heap.size b x (fun k => F k ∧ k < w.heap.size) w1 := ⟨C, fun _ _ => Iff.rfl, R11.st.fr0 hst f1⟩
  have hel : (entsM x).length = x.s.list.length := by unfold entsM; rw [List.length_map]
  have hrn : r0.n = x.s.list.length := by rw [o1.len, hE.len, hel]
  have rd : ∀ {w' : World}, Fr (fun k => (F k ∧ ¬ C k) ∧ k < w.heap.size) w1 w' → SlT (Up w.heap.size) w' entT r0 raws := fun f => o1.sl.fr f fun k e e2 => by have e : w.heap.size ≤ k := e; omega
  have hdoc := sys_doc ok fits_33 breedE
  change breedM x = _ at hdoc
  refine forI (N := r0.n) (fun s : Sl × Int => s.2) (fun j st w' => st.2 = (j : Int) ∧ SysAt (A11 C w.heap.size b) (fun k => F k ∧ k < w.heap.size) (fun k => (F k ∧ ¬ C k) ∧ k < w.heap.size) w1 (sysF (entF x) (skipE (fun e => [0, 5].all fun k => hasK e k) breedE) (x, []) (x.s.list.take j)) st.1 w')
    ?_ (fun j s w' h => h.1) ?_ ?_
  · exact ⟨rfl, SysAt.start0 stA st1⟩
  · rintro j ⟨out, _⟩ w2 K' hjr ⟨rfl, hsys⟩ - hK
    obtain ⟨id, hid⟩ : ∃ id, x.s.list[j]? = some id := ⟨_, List.getElem?_eq_getElem (by omega)⟩
    obtain ⟨⟨okp, hHas, hlen, hstep⟩, hide, hidok, ⟨m, hv⟩, hent, hj⟩ := doc_facts breedS (fun e => [0, 5].all fun k => hasK e k) ok hid
    obtain ⟨r1, hr1, ha1, ha2⟩ := hE.get hent
    dsimp only at hsys
    generalize sysF (entF x) (skipE (fun e => [0, 5].all fun k => hasK e k) breedE) (x, []) (x.s.list.take j) = p at okp hHas hlen hstep hsys
    generalize entF x id = e at hstep hHas hide hv ha1 ha2
    rw [hide] at ha1
    obtain ⟨G, hA, hG, hlt, ho, hf⟩ := hsys
    have hf1 := hf.size
    have hsm : Small e.2 := by have := hv.small; show _ ≤ 1048576; omega
    refine joinI (fun z w' => SysAt (A11 C w.heap.size b) (fun k => F k ∧ k < w.heap.size) (fun k => (F k ∧ ¬ C k) ∧ k < w.heap.size) w1 (sysF (entF x) (skipE (fun e => [0, 5].all fun k => hasK e k) breedE) (x, []) (x.s.list.take (j + 1))) z w') ?_ fun z w' hz => hK _ _ ⟨wsucc (N := 1024) hj (by omega), hz⟩
    rw [hstep]
    refine (rd hf).get (j := j) rfl rfl (by have := (List.getElem?_eq_some_iff.1 hr1).1; omega) fun y hy => ?_
    rw [hr1] at hy
    cases hy
    refine newI fun w3 B3 f3 s3 => stoAll B3 rfl rfl fun w4 B4 f4 s4 => ?_
    have f24 : Fr None w2 w4 := f3.newer f4 fun k e => by omega
    have fd : Fr None w4 w4.drew := (Fr.refl _ _).drew
    have B4d := B4.fr fd fun h => h
    have cs2 : SlT (fun k => (F k ∧ k < w.heap.size) ∧ C k) w2 compT r1.2 e.2 := ha2.fr hf fun k e e2 => e2.1.2 e.2
    have cs4 := cs2.fr0 (f24.then0 fd)
    refine fldI B4d (i := 1) (x := r1.2) rfl (fldI B4d (i := 1) (x := r1.2) rfl (spec_r5_Find cs4 hsm fun w5 f5 => andI ((B4d.fr f5 fun h => h).rd (s := .sl) (i := 1) (x := r1.2) rfl) (spec_r5_Find (cs4.fr0 f5) hsm fun w6 f6 => ?_)))
    have f46 : Fr None w4 w6 := (fd.then0 f5).then0 f6
    have B6 := B4.fr f46 fun h => h
    have f26 := f24.then0 f46
    have cs6 := cs2.fr0 f26
    have hs6 := f26.size
    have nofit : ([0, 5].all fun k => hasK e k) = false → SysAt (A11 C w.heap.size b) (fun k => F k ∧ k < w.heap.size) (fun k => (F k ∧ ¬ C k) ∧ k < w.heap.size) w1 (skipE (fun e => [0, 5].all fun k => hasK e k) breedE p e) out w6 := fun hn => by
      rw [skipE_no (fit := fun e => [0, 5].all fun k => hasK e k) hn]
      exact SysAt.fr0 stA ⟨G, hA, hG, hlt, ho, hf⟩ f26
    rcases findM_valid hv 5 with ⟨hneg, hno⟩ | ⟨q5, hq5, hl5, hin5⟩
    · refine joinI (fun z w' => z = true ∧ w' = w6) (condT (decide_eq_true hneg) ⟨rfl, rfl⟩) ?_
      rintro z w' ⟨rfl, rfl⟩
      exact condT rfl (nofit (by simp [hasK_mask hv, hno]))
    rcases findM_valid hv 0 with ⟨hneg, hno⟩ | ⟨q0, hq0, hl0, hin0⟩
    · refine joinI (fun z w' => z = true ∧ w' = w6) (condF (decide_eq_false (by rw [hq5]; omega)) ⟨decide_eq_true hneg, rfl⟩) ?_
      rintro z w' ⟨rfl, rfl⟩
      exact condT rfl (nofit (by simp [hasK_mask hv, hno]))
    refine joinI (fun z w' => z = false ∧ w' = w6) (condF (decide_eq_false (by rw [hq5]; omega)) ⟨decide_eq_false (by rw [hq0]; omega), rfl⟩) ?_
    rintro z w' ⟨rfl, rfl⟩
    refine condF rfl ?_
    have hk0 : hasK e 0 = true := by rw [hasK_mask hv]; exact decide_eq_true hin0
    have hk5 : hasK e 5 = true := by rw [hasK_mask hv]; exact decide_eq_true hin5
    have c0 := Has.field okp hHas hk0
    have c5 := Has.field okp hHas hk5
    rw [skipE_yes (fit := fun e => [0, 5].all fun k => hasK e k) (by simp [hk0, hk5])]
    obtain ⟨pn, hpn⟩ : ∃ pn, pn = breedE p e := ⟨_, rfl⟩
    rw [← hpn]
    unfold breedE at hpn
    rw [hide] at hpn
    rw [hq0, hq5]
    generalize fieldsOf e.2 0 = a at c0 hpn hl0
    generalize fieldsOf e.2 5 = s at c5 hpn hl5
    obtain ⟨sx, sy, sz⟩ := s
    obtain ⟨hsx, hsy, hsz⟩ := spawn_in c5
    dsimp only at hsx hsy hsz hpn
    have inF : ∀ k, k < w1.heap.size → (G k ∧ (k < w.heap.size → ¬ C k)) → (F k ∧ ¬ C k) ∧ k < w.heap.size := fun k hk e => by
      rcases hG k e.1 with e1 | e1
      · exact ⟨⟨e1.1.1, e.2 e1.1.2⟩, e1.1.2⟩
      · omega
    refine fldI B6 (i := 1) (x := r1.2) rfl (cs6.get rfl rfl (List.getElem?_eq_some_iff.1 hl5).1 fun y hy => ?_)
    rw [hl5] at hy
    cases hy
    refine newI fun w7 B7 f7 s7 => stoAll B7 rfl rfl fun w8 B8 f8 s8 => ?_
    have f68 : Fr None w' w8 := f7.newer f8 fun k e => by omega
    have f28 := f26.then0 f68
    have hs28 := f28.size
    have B68 := B6.fr f68 fun h => h
    have l8 := B8.lt
    have l6 := B6.lt
    refine fIdx (j := 1) rfl (by decide) (fld0 B8 (x := sy) rfl (condD (fun hz => ?_) fun hz => ?_))
    · have hz : 0 < sy := hz
      rw [if_pos hz] at hpn
      have e1 : IntKind.wrap .i32 (sy - 1) = sy - 1 := w32 (by omega)
      refine fIdx (j := 1) rfl (by decide) (fld0 B8 (x := sy) rfl (fIdx (j := 1) rfl (by decide) (setI B8 (by show 2 < 4; decide) rfl fun w9 B9 f9 s9 => ?_)))
      rw [e1] at B9
      have f29 : Fr None w2 w9 := f28.newer f9 fun k e => by omega
      refine fldI (B68.fr f9 fun e => by omega) (i := 0) (x := r1.1) rfl ?_
      rw [ha1]
      refine aggI B9 (x := (5, sx, sy - 1, sz)) rfl (A11.set (c := (5, sx, sy - 1, sz)) (St.fr0 (stA _) hA f29) (by omega) (by show (0 : Int) ≤ 5; decide) fun w10 hA10 f10 => ?_)
      rw [hpn]
      exact SysAt.upd (p := p) (A := A11 C w.heap.size b) stA hG hlt ho hf (St.mono (stA _) hA10 fun k _ e => by
        rcases e with e | e
        · exact .inl e
        · exact .inr (by omega)) (f29.any.then f10) (fun k e => e.1) inF
    · have hz : ¬ 0 < sy := hz
      rw [if_neg hz] at hpn
      have fd8 : Fr None w8 w8.drew := (Fr.refl _ _).drew
      have B8d := B8.fr fd8 fun h => h
      have B68d := B68.fr fd8 fun h => h
      have cs8d := cs6.fr0 (f68.then0 fd8)
      refine fIdx (j := 2) rfl (by decide) (fld0 B8d (x := sz) rfl (fldI B68d (i := 1) (x := r1.2) rfl (cs8d.readK rfl rfl hl0 fun ad had => ldI (t := compT) (0, a) (had _ cs8d) (fldI B68d (i := 0) (x := r1.1) rfl ?_))))
      rw [ha1]
      refine spec_r7_Slot hidok (andI (had _ cs8d) (andI (B68d.rd (s := .sl) (i := 1) (x := r1.2) rfl) (andI ((B8d.cell 3).trans rfl) ?_)))
      have hodd : (Int.tmod (slotOf id) 2 == 1) = oddM id := by
        have h0 : 0 ≤ slotOf id := by unfold slotOf; omega
        unfold oddM
        rw [Int.tmod_eq_emod_of_nonneg h0]
        rfl
      rw [hodd]
      refine spec_r14_Child (a := (0, a)) hsz fun rl w9 o9 f9 => ?_
      have f29 := (f28.then0 fd8).then0 f9
      have hs9 := f9.size
      have hs8d : w8.drew.heap.size = w8.heap.size := rfl
      have hcl := child_ok hsz c0 (oddM id)
      have hcs : (childM sz (0, a) (oddM id)).length = 4 := rfl
      refine A11.spawn (St.fr0 (stA _) hA f29) (by have := f29.size; omega) o9.sl (fun k _ e e2 => by have e : w8.drew.heap.size ≤ k := e; have := hlt k e2; omega) (by show _ ≤ 1048576; rw [hcs]; decide) (fun c hc => checkM_ok ((listE_0.1 hcl).1 c hc)) fun w10 hA10 f10 => ?_
      generalize p.1.spawn (childM sz (0, a) (oddM id)) = q at hA10 hpn ⊢
      have f210 : Fr (fun k => G k ∧ (k < w.heap.size → ¬ C k)) w2 w10 := f29.any.then f10
      have hs10 := f10.size
      have nG2 : ∀ k, w2.heap.size ≤ k → ¬ (G k ∧ (k < w.heap.size → ¬ C k)) := fun k e e2 => by have := hlt k e2.1; omega
      refine joinI (fun z w' => SysAt (A11 C w.heap.size b) (fun k => F k ∧ k < w.heap.size) (fun k => (F k ∧ ¬ C k) ∧ k < w.heap.size) w1 pn z w') ?_ fun z w' hz => hz
      refine condE (fun he => ?_) fun he => ?_
      · have he : q.2.1 = 0 := he
        rw [if_pos he] at hpn
        have B10 := (B8d.fr f9 fun h => h).fr f10 (nG2 _ (by omega))
        have B610 := (B68d.fr f9 fun h => h).fr f10 (nG2 _ (by omega))
        have e1 : IntKind.wrap .i32 (sx - 1) = sx - 1 := w32 (by omega)
        refine fIdx (j := 0) rfl (by decide) (fld0 B10 (x := sx) rfl (fIdx (j := 1) rfl (by decide) (setI B10 (by show 2 < 4; decide) rfl fun w11 B11 f11 s11 => ?_)))
        rw [e1] at B11
        refine fldI (B610.fr f11 fun e => by omega) (i := 0) (x := r1.1) rfl ?_
        rw [ha1]
        refine aggI B11 (x := (5, sx, sx - 1, sz)) rfl (A11.set (c := (5, sx, sx - 1, sz)) (St.fr (stA _) hA10 f11 fun k e e2 => by
          have e2 : k = w'.heap.size := e2
          rcases e with e | e
          · have := hlt k e; omega
          · have e : w9.heap.size ≤ k := e
            omega) (by omega) (by show (0 : Int) ≤ 5; decide) fun w12 hA12 f12 => ?_)
        have f212 : Fr (fun k => G k ∧ (k < w.heap.size → ¬ C k)) w2 w12 := (f210.exS f11 fun k e => .inr (by omega)).exS f12 fun k e => by
          rcases e.1 with e1 | e1
          · exact .inl ⟨e1, e.2⟩
          · have e1 : w9.heap.size ≤ k := e1
            exact .inr (by omega)
        have h12 := SysAt.upd (p := (p.1, p.2)) (A := A11 C w.heap.size b) (F := fun k => F k ∧ k < w.heap.size) (Fm := fun k => (F k ∧ ¬ C k) ∧ k < w.heap.size) stA hG hlt ho hf (St.mono (stA _) hA12 fun k _ e => by
          rcases e with (e | e) | e
          · exact .inl e
          · have e : w9.heap.size ≤ k := e
            exact .inr (by omega)
          · exact .inr (by omega)) f212 (fun k e => e.1) inF
        rw [hpn]
        exact SysAt.app stA h12 (by show p.2.length ≤ _; omega) fun r w' hr => hr
      · have he : q.2.1 ≠ 0 := he
        rw [if_neg he] at hpn
        rw [hpn]
        exact SysAt.upd (p := p) (A := A11 C w.heap.size b) stA hG hlt ho hf (St.mono (stA _) hA10 fun k _ e => by
          rcases e with e | e
          · exact .inl e
          · exact .inr (by omega)) f210 (fun k e => e.1) inF
  · rintro ⟨out, _⟩ w2 ⟨-, hsys⟩
    rw [hrn, List.take_length] at hsys
    dsimp only at hsys
    have hdoc2 : sysF (entF x) (skipE (fun e => [0, 5].all fun k => hasK e k) breedE) (x, []) x.s.list = breedM x := hdoc.symm
    rw [hdoc2] at hsys
    exact hk out w2 (SysAt.end_ hsys f1)
end

end Go.Proofs.YtkblnhnjagemlaaGreat
