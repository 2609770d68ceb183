/-
  The soundness of the denotation: what holds of it holds of the model's run.
-/
import Derived.Test.YtchhhjlpnecjkaaGreatDen
namespace Go.Proofs.YtchhhjlpnecjkaaGreat.Den
open Go
variable {R : Type} {P : Program} {n : Nat} {D : List Deferred}

structure Ag (D : List Deferred) (n : Nat) (env : Env) (a : Act) : Prop where
  defers : a.defers = D
  size : a.tmps.size = n
  get : ∀ i v, env i = some v → a.tmps[i]? = some v

theorem Ag.eval {env : Env} {a : Act} (h : Ag D n env a) {x : Operand} {v : Value} (hx : ev env x = some v) : a.eval x = v := by
  cases x with
  | tmp t => simp only [ev] at hx; have := h.get t v hx; simp [Act.eval, this]
  | const u => simp only [ev] at hx; cases hx; rfl
  | global g => simp only [ev] at hx; cases hx; rfl
  | func f => simp only [ev] at hx; cases hx; rfl

theorem Ag.evalU {env : Env} {a : Act} (h : Ag D n env a) {x : Operand} (hx : (ev env x).isSome = true) : a.eval x = evU env x := by
  obtain ⟨v, hv⟩ := Option.isSome_iff_exists.1 hx
  rw [h.eval hv]; simp [evU, hv]

theorem Ag.eset {env : Env} {a : Act} (h : Ag D n env a) {d : Nat} (hd : d < n) (v : Value) : Ag D n (eset env d (some v)) (a.put (some d) v) := by
  refine ⟨h.defers, by simp [Act.put, h.size], fun i u hu => ?_⟩
  simp only [Den.eset] at hu
  cases hb : Nat.beq i d with
  | true =>
    rw [hb] at hu
    have hi := nbeq.1 hb
    subst hi
    cases hu
    simp [Act.put, h.size, hd]
  | false =>
    rw [hb] at hu
    have hi := nbeq_f.1 hb
    have := h.get i u hu
    simp only [Act.put]
    rw [Array.getElem?_setIfInBounds_ne (fun e => hi e.symm)]
    exact this

/-- a slot is told again what it holds. -/
theorem Ag.again {env : Env} {a : Act} (h : Ag D n env a) {d : Nat} {v : Value} (hv : env d = some v) (u : Value) (hu : u = v) : Ag D n (Den.eset env d (some u)) a := by
  subst hu
  refine ⟨h.defers, h.size, fun i x hx => ?_⟩
  simp only [Den.eset] at hx
  cases hb : Nat.beq i d with
  | true => rw [hb] at hx; rw [nbeq.1 hb]; cases hx; exact h.get _ _ hv
  | false => rw [hb] at hx; exact h.get i x hx

/-- what is asked behind one operation. -/
def Nx (D : List Deferred) (n : Nat) (o : Oper) (env : Env) (k : Env → W R) (Q : R → World → Prop) (a : Act) (w : World) : Prop :=
  ∃ env', Ag D n env' a ∧ (∀ i, o.dst ≠ some i → env' i = env i) ∧ k env' Q w

theorem put_sound {o : Oper} {v : Value} {k : Env → W R} {env : Env} {Q : R → World → Prop} {w : World} {a : Act} (ha : Ag D n env a) (h : put n o v k env Q w) :
    Nx D n o env k Q (a.put o.dst v) w := by
  unfold put at h
  cases ho : o.dst with
  | none => rw [ho] at h; exact ⟨env, by simpa [Act.put] using ha, fun _ _ => rfl, h⟩
  | some d =>
    rw [ho] at h
    dsimp only at h
    cases hb : Nat.blt d n with
    | false => rw [hb] at h; exact h.elim
    | true =>
      rw [hb] at h
      have hd : d < n := Nat.le_of_ble_eq_true hb
      refine ⟨_, ha.eset hd v, fun i hi => ?_, h⟩
      have : Nat.beq i d = false := nbeq_f.2 (fun e => hi (by rw [ho, e]))
      simp [Den.eset, this]

theorem allB_mem {α : Type} {p : α → Bool} {l : List α} (h : allB p l = true) : ∀ x ∈ l, p x = true := by
  induction l with
  | nil => intro x hx; cases hx
  | cons y r ih =>
    simp only [allB] at h
    cases hy : p y with
    | false => rw [hy] at h; simp at h
    | true =>
      rw [hy] at h
      intro x hx
      rcases List.mem_cons.1 hx with rfl | hx
      · exact hy
      · exact ih h x hx

theorem failW_elim {Q : R → World → Prop} {w : World} (h : failW Q w) : False := h

/-! one operation at a time: what its run is -/
theorem run_tyOf {T : TypeId} {t : Ty} (ht : tyOf P T = some t) {w : World} {a : Addr} {x : t.T} (h : Rd w a t x) : (loadVar T a).run P w = .ok (t.e x) w := by
  unfold tyOf at ht
  split at ht
  · cases ht
  · rename_i i hi
    split at ht
    · cases ht
    · rename_i z hz
      have agg : ∀ {cs : Array Value} {d : TypeDesc}, P.underlying T = some d → (d = d) → (isAgg T).run P w = .ok true w →
          (bif Nat.beq i.size cs.toList.length then (scsOf cs.toList).map Ty.agg else none) = some t → (loadVar T a).run P w = .ok (t.e x) w := by
        intro cs d hd _ hagg hh
        cases hb : Nat.beq i.size cs.toList.length with
        | false => rw [hb] at hh; simp at hh
        | true =>
          rw [hb] at hh
          have hsz := nbeq.1 hb
          cases hs : scsOf cs.toList with
          | none => rw [hs] at hh; simp at hh
          | some l =>
            rw [hs] at hh
            simp only [cond_true, Option.map_some, Option.some.injEq] at hh
            subst hh
            have hlen : ∀ (vs : List Value) (l : List Sc), scsOf vs = some l → ∀ x : Tup Sc.T l, (Tup.e Sc.e l x).length = vs.length := by
              intro vs
              induction vs with
              | nil => intro l hl x; simp only [scsOf] at hl; cases hl; rfl
              | cons v vs ih =>
                intro l hl x
                simp only [scsOf] at hl
                split at hl
                · cases hl
                · split at hl
                  · cases hl
                  · rename_i t0 _ l0 hl0
                    cases hl
                    cases l0 with
                    | nil => have := ih _ hl0 (); simp [Tup.e] at this ⊢; exact List.length_eq_zero_iff.1 this.symm
                    | cons t1 l1 => have := ih _ hl0 x.2; simp [Tup.e, this]
            have hl := hlen _ _ hs x
            have hc : CellsAt w a (Tup.e Sc.e l x) := h
            have hrun := run_loadCells_list (P := P) w a (Tup.e Sc.e l x) hc
            rw [hl, ← hsz] at hrun
            simp only [loadVar, Sem.run_bind, hagg, Result.andThen_ok, if_true, sizeOf, typeInfo, run_program, hi, Sem.run_pure]
            rw [hrun]
            rfl
      have hsc : ∀ {s : Sc}, (isAgg T).run P w = .ok false w → t = .sc s → (loadVar T a).run P w = .ok (t.e x) w := by
        intro s hagg hts
        subst hts
        have hc : w.cell? a = some (s.e x) := h
        simp only [loadVar, Sem.run_bind, hagg, Result.andThen_ok, Bool.false_eq_true, if_false, run_load, hc]
      have hun : ∀ {d : TypeDesc}, P.underlying T = some d → (underlying T).run P w = .ok d w := by
        intro d hd; simp [underlying, hd]
      split at ht
      · rename_i fs cs hd
        exact agg hd rfl (by simp [isAgg, hun hd]) ht
      · rename_i m el cs hd
        exact agg hd rfl (by simp [isAgg, hun hd]) ht
      · cases ht
      · cases ht
      · rename_i v d hn1 hn2 hd _ _
        cases hs : scOf _ with
        | none => rw [hs] at ht; simp at ht
        | some s =>
          rw [hs] at ht
          simp only [Option.map_some, Option.some.injEq] at ht
          refine hsc (s := s) ?_ ht.symm
          cases d <;> first | (simp [isAgg, hun hd]; done) | (exfalso; first | exact hn1 _ rfl | exact hn2 _ _ rfl)
      · cases ht


theorem congr_op {o : Oper} {env : Env} {a : Act} (ha : Ag D n env a) (hs : ∀ cs b, o.op ≠ .select cs b) (hall : allB (fun x => (ev env x).isSome) o.op.operands.toList = true) :
    execOp a.eval o = execOp (evU env) o :=
  execOp_congr o hs fun x hx => ha.evalU (allB_mem hall x (by simpa using hx))

theorem gen_sound {o : Oper} {k : Env → W R} {env : Env} {Q : R → World → Prop} {w : World} (h : genDen P n o k env Q w) :
    ∃ v, (∀ w2, (execOp (evU env) o).run P w2 = .ok (.value v) w2) ∧ put n o v k env Q w := by
  unfold genDen at h
  cases hp : pv P (execOp (evU env) o) with
  | none => rw [hp] at h; exact h.elim
  | some x => rw [hp] at h; cases x <;> first | exact ⟨_, pv_run hp, h⟩ | exact h.elim

theorem optBind {α β : Type} {a : Option α} {b : β} {f : α → Option β} : a.bind f = some b ↔ ∃ x, a = some x ∧ f x = some b := Option.bind_eq_some_iff

theorem run_u {T : TypeId} {d : TypeDesc} (hd : P.underlying T = some d) (w : World) : (underlying T).run P w = .ok d w := by simp [underlying, hd]
theorem run_i {T : TypeId} {i : TypeInfo} (hd : P.info? T = some i) (w : World) : (typeInfo T).run P w = .ok i w := by simp [typeInfo, hd]
theorem run_size {T : TypeId} (hd : (P.info? T).isSome = true) (w : World) : (sizeOf T).run P w = .ok (sizeOfT P T) w := by
  obtain ⟨i, hi⟩ := Option.isSome_iff_exists.1 hd
  simp [sizeOf, run_i hi, sizeOfT, hi]

theorem eqIn_ptr (d : Nat) {T e : TypeId} (h : P.underlying T = some (.pointer e)) (p : Option Addr) (w : World) : (Op.equalIn (d + 1) T (.pointer p) (.pointer none)).run P w = .ok p.isNone w := by
  cases p <;> simp [Op.equalIn, run_u h]
theorem eqIn_sl (d : Nat) {T e : TypeId} (h : P.underlying T = some (.slice e)) (a : Option Addr) (l c : Nat) (w : World) : (Op.equalIn (d + 1) T (.slice a l c) (.slice none 0 0)).run P w = .ok a.isNone w := by
  cases a <;> simp [Op.equalIn, run_u h]
theorem eq_ptr {T e : TypeId} (h : P.underlying T = some (.pointer e)) (p : Option Addr) (w : World) : (Op.equal T (.pointer p) (.pointer none)).run P w = .ok p.isNone w := eqIn_ptr 9999 h p w
theorem eq_sl {T e : TypeId} (h : P.underlying T = some (.slice e)) (a : Option Addr) (l c : Nat) (w : World) : (Op.equal T (.slice a l c) (.slice none 0 0)).run P w = .ok a.isNone w := eqIn_sl 9999 h a l c w
theorem bo_eql (T : TypeId) (p : Option Addr) : Go.binOp .eql T (.pointer p) (.pointer none) = (do pure (.bool (← Op.equal T (.pointer p) (.pointer none)))) := by cases p <;> rfl
theorem bo_neq (T : TypeId) (p : Option Addr) : Go.binOp .neq T (.pointer p) (.pointer none) = (do pure (.bool (!(← Op.equal T (.pointer p) (.pointer none))))) := by cases p <;> rfl
theorem bo_eqs (T : TypeId) (a : Option Addr) (l c : Nat) : Go.binOp .eql T (.slice a l c) (.slice none 0 0) = (do pure (.bool (← Op.equal T (.slice a l c) (.slice none 0 0)))) := rfl
theorem bo_nes (T : TypeId) (a : Option Addr) (l c : Nat) : Go.binOp .neq T (.slice a l c) (.slice none 0 0) = (do pure (.bool (!(← Op.equal T (.slice a l c) (.slice none 0 0))))) := rfl

theorem sameInts_inv {x y : Value} {k : IntKind} {a b : Int} (h : sameInts x y = some (k, a, b)) : x = .int k a ∧ y = .int k b := by
  unfold sameInts at h
  split at h
  · split at h
    · rename_i hk; subst hk; cases h; exact ⟨rfl, rfl⟩
    · cases h
  · cases h
theorem twoInts_inv {x y : Value} {k : IntKind} {a b : Int} (h : twoInts x y = some (k, a, b)) : x = .int k a ∧ ∃ k', y = .int k' b := by
  unfold twoInts at h
  split at h
  · cases h; exact ⟨rfl, _, rfl⟩
  · cases h

theorem bin_sound {o : Oper} {op : BinOp} {T T' : TypeId} {x y : Operand} (ho : o.op = .binOp op T x y T') {k : Env → W R} {env : Env} {Q : R → World → Prop} {w : World}
    (h : binDen P n o op T x y k env (genDen P n o k env) Q w) :
    ∃ v, (execOp (evU env) o).run P w = .ok (.value v) w ∧ put n o v k env Q w ∧ (pureOp P o.op = true → ∀ w2, (execOp (evU env) o).run P w2 = .ok (.value v) w2) := by
  have hex : execOp (evU env) o = (do pure (Next.value (← (do eqGuard op T x y (evU env x) (evU env y); Go.binOp op T (evU env x) (evU env y) : Sem Value))) : Sem Next) := by
    simp only [execOp, ho]
  have hint : ∀ (kd : IntKind) (a b : Int) (r : Value), op ≠ .eql → op ≠ .neq → evU env x = .int kd a → (∀ w2, (Go.binOp op T (evU env x) (evU env y)).run P w2 = .ok r w2) →
      ∀ w2, (execOp (evU env) o).run P w2 = .ok (.value r) w2 := by
    intro kd a b r h1 h2 hx hr w2
    rw [hex]
    have hg : (eqGuard op T x y (evU env x) (evU env y)).run P w2 = .ok () w2 := by
      unfold eqGuard
      cases op <;> first | exact absurd rfl h1 | exact absurd rfl h2 | rfl
    simp [hg, hr w2]
  have hval : ∀ (r : Value), (eqGuard op T x y (evU env x) (evU env y)).run P w = .ok () w → (Go.binOp op T (evU env x) (evU env y)).run P w = .ok r w →
      (execOp (evU env) o).run P w = .ok (.value r) w := by
    intro r hg hr
    rw [hex]
    simp [hg, hr]
  have hall : ∀ {v : Value}, (∀ w2, (execOp (evU env) o).run P w2 = .ok (.value v) w2) → put n o v k env Q w → ∃ v, (execOp (evU env) o).run P w = .ok (.value v) w ∧ put n o v k env Q w ∧ (pureOp P o.op = true → ∀ w2, (execOp (evU env) o).run P w2 = .ok (.value v) w2) :=
    fun h1 h2 => ⟨_, h1 w, h2, fun _ => h1⟩
  unfold binDen at h
  split at h
  · obtain ⟨p, e, hx, hT, h⟩ := onPtrT_inv h
    refine ⟨_, hval _ ?_ ?_, h, fun hp => by rw [ho] at hp; cases hp⟩
    · rw [hx]; rfl
    · rw [hx]; show (Go.binOp .eql T (.pointer p) (.pointer none)).run P w = _; rw [bo_eql, Sem.run_bind, eq_ptr hT]; rfl
  · obtain ⟨p, e, hx, hT, h⟩ := onPtrT_inv h
    refine ⟨_, hval _ ?_ ?_, h, fun hp => by rw [ho] at hp; cases hp⟩
    · rw [hx]; rfl
    · rw [hx]; show (Go.binOp .neq T (.pointer p) (.pointer none)).run P w = _; rw [bo_neq, Sem.run_bind, eq_ptr hT]; rfl
  · obtain ⟨a, l, c, e, hx, hT, h⟩ := onSlT_inv h
    refine ⟨_, hval _ ?_ ?_, h, fun hp => by rw [ho] at hp; cases hp⟩
    · rw [hx]; rfl
    · rw [hx]; show (Go.binOp .eql T (.slice a l c) (.slice none 0 0)).run P w = _; rw [bo_eqs, Sem.run_bind, eq_sl hT]; rfl
  · obtain ⟨a, l, c, e, hx, hT, h⟩ := onSlT_inv h
    refine ⟨_, hval _ ?_ ?_, h, fun hp => by rw [ho] at hp; cases hp⟩
    · rw [hx]; rfl
    · rw [hx]; show (Go.binOp .neq T (.slice a l c) (.slice none 0 0)).run P w = _; rw [bo_nes, Sem.run_bind, eq_sl hT]; rfl
  · obtain ⟨⟨kd, a, b⟩, hz, hb, h⟩ := onSome_inv h
    obtain ⟨hx, hy⟩ := sameInts_inv hz
    exact hall (hint kd a b _ (by simp) (by simp) hx (fun w2 => by rw [hx, hy]; simp at hb; simp [Go.binOp, Op.intDiv, hb])) h
  · obtain ⟨⟨kd, a, b⟩, hz, hb, h⟩ := onSome_inv h
    obtain ⟨hx, hy⟩ := sameInts_inv hz
    exact hall (hint kd a b _ (by simp) (by simp) hx (fun w2 => by rw [hx, hy]; simp at hb; simp [Go.binOp, Op.intDiv, hb])) h
  · obtain ⟨⟨kd, a, b⟩, hz, hb, h⟩ := onSome_inv h
    obtain ⟨hx, kd', hy⟩ := twoInts_inv hz
    have hb' : ¬ b < 0 := by dsimp only at hb; omega
    exact hall (hint kd a b _ (by simp) (by simp) hx (fun w2 => by rw [hx, hy]; simp [Go.binOp, Op.shift, hb'])) h
  · obtain ⟨⟨kd, a, b⟩, hz, hb, h⟩ := onSome_inv h
    obtain ⟨hx, kd', hy⟩ := twoInts_inv hz
    have hb' : ¬ b < 0 := by dsimp only at hb; omega
    exact hall (hint kd a b _ (by simp) (by simp) hx (fun w2 => by rw [hx, hy]; simp [Go.binOp, Op.shift, hb'])) h
  · rcases onAgg_inv h with ⟨⟨c, hc⟩, x', hr, h⟩ | ⟨hc, h⟩
    · refine ⟨_, ?_, h, fun hp => by rw [ho] at hp; cases hp⟩
      rw [hex]
      rw [Sem.run_bind, hr]
      rfl
    · obtain ⟨v, h1, h2⟩ := gen_sound h
      exact hall h1 h2
  · rcases onAgg_inv h with ⟨⟨c, hc⟩, x', hr, h⟩ | ⟨hc, h⟩
    · refine ⟨_, ?_, h, fun hp => by rw [ho] at hp; cases hp⟩
      rw [hex]
      rw [Sem.run_bind, hr]
      rfl
    · obtain ⟨v, h1, h2⟩ := gen_sound h
      exact hall h1 h2
  · obtain ⟨v, h1, h2⟩ := gen_sound h
    exact hall h1 h2

theorem run_bs {T : TypeId} {len : Nat} {parts : Array (Nat × Value)} {z : TypeId × Array Value} (h : pv P (bsCells T len parts) = some z) (w : World) :
    (Instr.buildSlice T len parts).run P w = .ok (.slice (some ⟨w.heap.size, 0, none⟩) len len) (w.alloc (.cells z.2 z.1)) := by
  have hb : Instr.buildSlice T len parts = (do let z ← bsCells T len parts; pure (.slice (some (← newRow z.1 z.2)) len len)) := by
    unfold Instr.buildSlice bsCells
    simp only [bind, Sem.bind_assoc']
    congr 1
    funext d
    cases d <;> simp only [Sem.bind_assoc', stuck] <;> try rfl
    congr 1
    funext size
    split
    · rfl
    · by_cases hz : len * size = 0
      · simp only [hz, if_true, pure, Sem.bind]
        generalize Instr.fill (fun i => some (i * size, size)) _ parts.toList = r
        cases r <;> rfl
      · simp only [hz, if_false, pure, Sem.bind, Sem.bind_assoc']
        congr 1
        funext zero
        generalize Instr.fill (fun i => some (i * size, size)) _ parts.toList = r
        cases r <;> rfl
  rw [hb, Sem.run_bind, pv_run h w]
  simp [newRow]

theorem _root_.Go.Proofs.YtchhhjlpnecjkaaGreat.Den.Rd.ext {w w2 : World} {a : Addr} : ∀ {t : Ty} {x : t.T}, Rd w a t x → Ext w w2 → Rd w2 a t x
  | .sc _, _, h, he => he _ _ h
  | .agg _, _, h, he => fun j u hj => he _ _ (h j u hj)

theorem run_stores (a : Addr) : ∀ (vs : List Value) (i : Nat) (K : W R) (Q : R → World → Prop) (w : World), stoL a vs i K Q w → ∃ w', (storeCells a vs i).run P w = .ok () w' ∧ K Q w'
  | [], i, K, Q, w, h => ⟨w, rfl, h⟩
  | v :: r, i, K, Q, w, h => by
    obtain ⟨h1, ⟨u, h2⟩, h3, h4⟩ := h
    obtain ⟨w', hr, hk⟩ := run_stores a r (i + 1) K Q _ h4
    refine ⟨w', ?_, hk⟩
    simp only [storeCells, Sem.run_bind]
    rw [run_store _ _ _ _ _ h1]
    simp [h2, h3, hr]

theorem run_idx_sl {T el : TypeId} (hT : P.underlying T = some (.slice el)) (hel : (P.info? el).isSome = true) (a : Addr) (len c : Nat) (kd : IntKind) (j : Int) (h0 : 0 ≤ j) (h1 : j < len) (w : World) :
    (Instr.indexAt T (.slice (some a) len c) (.int kd j)).run P w = .ok (.pointer (some (a.add (j.toNat * sizeOfT P el)))) w := by
  simp [Instr.indexAt, asIntOf, run_u hT, h0, h1, run_size hel]
theorem run_idx_arr {T el : TypeId} {len : Nat} (hT : P.underlying T = some (.array len el)) (hel : (P.info? el).isSome = true) (a : Addr) (kd : IntKind) (j : Int) (h0 : 0 ≤ j) (h1 : j < len) (w : World) :
    (Instr.indexAt T (.pointer (some a)) (.int kd j)).run P w = .ok (.pointer (some (a.add (j.toNat * sizeOfT P el)))) w := by
  simp [Instr.indexAt, Instr.sureAddr, asIntOf, run_u hT, h0, h1, run_size hel]
theorem isInt_inv {v : Value} {j : Int} (h : isInt v = some j) : ∃ k, v = .int k j := by
  unfold isInt at h
  split at h
  · cases h; exact ⟨_, rfl⟩
  · cases h

theorem run_bound {x : Value} {kd : IntKind} {j : Int} {y : Nat} (hx : x = .int kd j) (h0 : 0 ≤ j) (h1 : j ≤ y) (code : BoundsCode) (w : World) : (Instr.sliceBound x y code).run P w = .ok j.toNat w := by
  subst hx
  simp [Instr.sliceBound, asIntOf, h0, h1]

theorem optInt_inv {env : Env} {x : Option Operand} {r : Option Int} (h : optInt env x = some r) : (x = none ∧ r = none) ∨ ∃ y k j, x = some y ∧ evU env y = .int k j ∧ r = some j := by
  cases x with
  | none => simp only [optInt] at h; cases h; exact .inl ⟨rfl, rfl⟩
  | some y =>
    simp only [optInt] at h
    generalize hy : evU env y = v at h
    cases v <;> first | (cases h; done) | (cases h; exact .inr ⟨_, _, _, rfl, hy, rfl⟩)

theorem run_bounds {env : Env} {lo hi : Option Operand} {l h : Option Int} (hl : optInt env lo = some l) (hh : optInt env hi = some h) (b : Bool) (len cap : Nat)
    (hc : 0 ≤ h.getD len ∧ h.getD len ≤ cap ∧ 0 ≤ l.getD 0 ∧ l.getD 0 ≤ h.getD len) (w : World) :
    (Instr.sliceBounds b len cap (lo.map (evU env)) (hi.map (evU env)) none).run P w = .ok ((l.getD 0).toNat, (h.getD len).toNat, cap) w := by
  obtain ⟨h1, h2, h3, h4⟩ := hc
  rcases optInt_inv hl with ⟨rfl, rfl⟩ | ⟨y, k, j, rfl, hy, rfl⟩ <;> rcases optInt_inv hh with ⟨rfl, rfl⟩ | ⟨y', k', j', rfl, hy', rfl⟩
  · simp [Instr.sliceBounds]
  · simp only [Option.getD_some] at h1 h2
    simp [Instr.sliceBounds, run_bound (P := P) hy' h1 h2]
  · simp only [Option.getD_some, Option.getD_none] at h3 h4
    simp [Instr.sliceBounds, run_bound (P := P) hy h3 h4]
  · simp only [Option.getD_some] at h1 h2 h3 h4
    have h4' : j ≤ (j'.toNat : Int) := by omega
    simp [Instr.sliceBounds, run_bound (P := P) hy' h1 h2, run_bound (P := P) hy h3 h4']


theorem run_slc {T el : TypeId} (hT : P.underlying T = some (.slice el)) (hel : (P.info? el).isSome = true) {env : Env} {lo hi : Option Operand} {l h : Option Int} (hl : optInt env lo = some l) (hh : optInt env hi = some h)
    (b : Option Addr) (len c : Nat) (hc : 0 ≤ h.getD len ∧ h.getD len ≤ c ∧ 0 ≤ l.getD 0 ∧ l.getD 0 ≤ h.getD len) (w : World) :
    (Instr.sliceAt T (.slice b len c) (lo.map (evU env)) (hi.map (evU env)) none).run P w =
      .ok (.slice (if c = (l.getD 0).toNat then b else b.map (·.add ((l.getD 0).toNat * sizeOfT P el))) ((h.getD len).toNat - (l.getD 0).toNat) (c - (l.getD 0).toNat)) w := by
  simp only [Instr.sliceAt, Instr.slice, Sem.run_bind, run_u hT, Result.andThen_ok, run_bounds hl hh true len c hc, run_size hel, Sem.run_pure]
theorem run_slc_arr {T el : TypeId} {len : Nat} (hT : P.underlying T = some (.array len el)) (hel : (P.info? el).isSome = true) {env : Env} {lo hi : Option Operand} {l h : Option Int} (hl : optInt env lo = some l) (hh : optInt env hi = some h)
    (b : Addr) (hc : 0 ≤ h.getD len ∧ h.getD len ≤ len ∧ 0 ≤ l.getD 0 ∧ l.getD 0 ≤ h.getD len) (w : World) :
    (Instr.sliceAt T (.pointer (some b)) (lo.map (evU env)) (hi.map (evU env)) none).run P w =
      .ok (.slice (if len = (l.getD 0).toNat then some b else (some b).map (·.add ((l.getD 0).toNat * sizeOfT P el))) ((h.getD len).toNat - (l.getD 0).toNat) (len - (l.getD 0).toNat)) w := by
  simp only [Instr.sliceAt, Instr.sureAddr, Sem.run_bind, run_u hT, Result.andThen_ok, run_bounds hl hh false len len hc, run_size hel, Sem.run_pure]
  split <;> rfl

section
variable [Pan R] {mp : List Nat}
/-- what one operation comes to. -/
def Out (D : List Deferred) (mp : List Nat) (P : Program) (n : Nat) (o : Oper) (env : Env) (k : Env → W R) (Q : R → World → Prop) (a : Act) (w : World) : Prop :=
  Step P mp (fun ch w => Pan.pan Q ch w) o (fun _ => True) a w (fun _ a' w' => Nx D n o env k Q a' w')

theorem out_pure {o : Oper} {env : Env} {k : Env → W R} {Q : R → World → Prop} {a : Act} {w : World} {v : Value} (ha : Ag D n env a) (hk : isAlloc o.op = false) (h1 : ∀ w2, (execOp a.eval o).run P w2 = .ok (.value v) w2) (h2 : put n o v k env Q w) :
    Out D mp P n o env k Q a w :=
  .inl ⟨v, w, h1 w, put_sound ha h2, fun _ => trivial, fun _ => rfl, fun _ => h1, fun _ w2 _ => h1 w2, fun h => by rw [hk] at h; cases h⟩
theorem out_quiet {o : Oper} {env : Env} {k : Env → W R} {Q : R → World → Prop} {a : Act} {w : World} {v : Value} (ha : Ag D n env a) (hk : isAlloc o.op = false) (hl : isLoad o.op = false) (h1 : (execOp a.eval o).run P w = .ok (.value v) w) (h2 : put n o v k env Q w)
    (h3 : pureOp P o.op = true → ∀ w2, (execOp a.eval o).run P w2 = .ok (.value v) w2) : Out D mp P n o env k Q a w :=
  .inl ⟨v, w, h1, put_sound ha h2, fun _ => trivial, fun _ => rfl, h3, fun h => (by rw [hl] at h; cases h), fun h => by rw [hk] at h; cases h⟩
theorem out_raw {o : Oper} {env : Env} {k : Env → W R} {Q : R → World → Prop} {a : Act} {w w' : World} {v : Value} (ha : Ag D n env a) (hq : quietOp o.op = false) (hk : isAlloc o.op = false) (h1 : (execOp a.eval o).run P w = .ok (.value v) w') (h2 : put n o v k env Q w') :
    Out D mp P n o env k Q a w :=
  .inl ⟨v, w', h1, put_sound ha h2, fun _ => trivial, fun h => (by rw [hq] at h; cases h), fun h => (by rw [pure_quiet h] at hq; cases hq), fun h => (by rw [(load_kind h).1] at hq; cases hq), fun h => by rw [hk] at h; cases h⟩
theorem out_alloc {o : Oper} {env : Env} {k : Env → W R} {Q : R → World → Prop} {a : Act} {w : World} {ob : Obj} {v : Value} (ha : Ag D n env a) (hk : isAlloc o.op = true) (h1 : (execOp a.eval o).run P w = .ok (.value v) (w.alloc ob)) (h2 : put n o v k env Q (w.alloc ob)) :
    Out D mp P n o env k Q a w :=
  .inl ⟨v, _, h1, put_sound ha h2, fun _ => trivial, fun h => (by rw [(alloc_kind hk).1] at h; cases h), fun h => (by rw [(alloc_kind hk).2.1] at h; cases h), fun h => (by rw [(alloc_kind hk).2.2] at h; cases h), fun _ => ⟨ob, rfl⟩⟩

theorem zero_run {T : TypeId} {z : Value} (h : zeroOfT P T = some z) (w : World) : (zeroValue T).run P w = .ok z w := by
  unfold zeroOfT at h
  obtain ⟨i, hi, hz⟩ := Option.bind_eq_some_iff.1 h
  simp [zeroValue, run_i hi, hz]

theorem store_run {T : TypeId} {a : Addr} {v : Value} (hsz : Nat.beq v.cells.size (sizeOfT P T) = true) (hT : (P.info? T).isSome = true) {w w' : World} (h : (storeCells a v.cells.toList 0).run P w = .ok () w') :
    (storeVar T a v).run P w = .ok () w' := by
  have := nbeq.1 hsz
  simp [storeVar, run_size hT, this, h]

theorem callable_run {f : Nat} {args : Array Value} (h : callable P f = true) (w : World) : (callFunc f args).run P w = .ok (.enter f args) w := by
  unfold callable at h
  split at h
  · rename_i fn hf
    simp only [Bool.and_eq_true, Bool.not_eq_true'] at h
    obtain ⟨h1, h2⟩ := h
    have h3 : fn.body.isNone = false := by cases hb : fn.body <;> simp_all
    simp only [callFunc, Sem.run_bind, run_program, Result.andThen_ok, hf, h2, h3, Bool.false_eq_true, if_false, Sem.run_pure]
  · cases h

theorem call_sound {o : Oper} {k : Env → W R} {env : Env} {Q : R → World → Prop} {w : World} {a : Act} {c : Call} (ha : Ag D n env a) (ho : o.op = .call c) (hall : allB (fun x => (ev env x).isSome) o.op.operands.toList = true)
    (h : callDen P n o c k env Q w) : Out D mp P n o env k Q a w := by
  have hc : execOp a.eval o = execOp (evU env) o := congr_op ha (by rw [ho]; intros; simp) hall
  have hal : isAlloc o.op = false := by rw [ho]; rfl
  have hgen : genDen P n o k env Q w → Out D mp P n o env k Q a w := by
    intro h
    obtain ⟨v, h1, h2⟩ := gen_sound h
    exact out_pure ha hal (fun w2 => by rw [hc]; exact h1 w2) h2
  have hb : ∀ b, c.callee = .builtin b → execOp (evU env) o = Go.builtin b c.argTypes o.type (c.args.map fun | .const _ => true | _ => false) (c.args.map (evU env)) := by
    intro b hb
    simp only [execOp, ho, resolve, hb]
    rfl
  unfold callDen at h
  obtain ⟨callee, args, argTypes⟩ := c
  cases callee with
  | value f =>
    obtain ⟨g, first, cap, hf, h⟩ := onFn_inv h
    obtain ⟨ts, hts, h⟩ := onSome_inv h
    cases hcall : callable P g with
    | true =>
      rw [hcall] at h
      refine .inr (.inr ⟨by rw [ho]; rfl, hal, g, first ++ args.map (evU env) ++ cap, w, ?_, ?_⟩)
      · rw [hc]
        simp only [execOp, ho, resolve, hf, Deferred.ofValue, Sem.run_bind, Sem.run_pure, Result.andThen_ok, Go.invoke, callable_run hcall]
      · refine Calls.mono h ?_
        rintro e w'' ⟨r, rfl, hk⟩
        exact .inl ⟨_, rfl, put_sound ha hk, trivial⟩
    | false =>
      rw [hcall] at h
      obtain ⟨x, w', hr, h⟩ := h
      refine out_raw ha (by rw [ho]; rfl) hal ?_ h
      rw [hc]
      simp only [execOp, ho, resolve, hf, Deferred.ofValue, Sem.run_bind, Sem.run_pure, Result.andThen_ok, Go.invoke]
      exact hr
  | invoke r m => exact h.elim
  | builtin b =>
    have hb := hb b rfl
    have raw : ∀ (s : Sem Value) (ts : List Ty), (∀ v w', s.run P w = .ok v w' → (execOp (evU env) o).run P w = .ok (.value v) w') → quietOp o.op = false →
        rawW P s ts (fun r => put n o (resE ts r) k env) Q w → Out D mp P n o env k Q a w := by
      rintro s ts hs hq ⟨x, w', hr, h⟩
      exact out_raw ha hq hal (by rw [hc]; exact hs _ _ hr) h
    cases b
    case append => exact raw _ _ (fun v w' hr => by rw [hb]; simp only [Go.builtin, Sem.run_bind]; rw [hr]; rfl) (by rw [ho]; rfl) h
    case copy => exact raw _ _ (fun v w' hr => by rw [hb]; simp only [Go.builtin, Sem.run_bind]; rw [hr]; rfl) (by rw [ho]; rfl) h
    case delete => exact raw _ _ (fun v w' hr => by rw [hb]; simp only [Go.builtin, Sem.run_bind]; rw [hr]; rfl) (by rw [ho]; rfl) h
    case clear => exact raw _ _ (fun v w' hr => by rw [hb]; simp only [Go.builtin, Sem.run_bind]; rw [hr]; rfl) (by rw [ho]; rfl) h
    case len =>
      rcases onMap_inv h with ⟨_, x, hr, h⟩ | ⟨_, h⟩
      · refine out_quiet ha hal (by rw [ho]; rfl) ?_ h (fun hp => by rw [ho] at hp; cases hp)
        rw [hc, hb]
        simp only [Go.builtin, Sem.run_bind]
        rw [hr]
        rfl
      · exact hgen h
    all_goals exact hgen h

theorem op_sound {o : Oper} {k : Env → W R} {env : Env} {Q : R → World → Prop} {w : World} {a : Act} (ha : Ag D n env a) (h : denOp P n o k env Q w) : Out D mp P n o env k Q a w := by
  obtain ⟨hall, h⟩ := ifW_inv h
  have hgen : (∀ cs b, o.op ≠ .select cs b) → isAlloc o.op = false → genDen P n o k env Q w → Out D mp P n o env k Q a w := by
    intro hs hk h
    obtain ⟨v, h1, h2⟩ := gen_sound h
    exact out_pure ha hk (fun w2 => by rw [congr_op ha hs hall]; exact h1 w2) h2
  have hc : (∀ cs b, o.op ≠ .select cs b) → execOp a.eval o = execOp (evU env) o := fun hs => congr_op ha hs hall
  generalize ho : o.op = op at h
  cases op
  case pick c x y =>
    obtain ⟨t, ht, h⟩ := onBool_inv h
    have hr : ∀ w2, (execOp a.eval o).run P w2 = .ok (.value (if t then evU env x else evU env y)) w2 := by
      intro w2; rw [hc (by rw [ho]; intros; simp)]; simp [execOp, ho, ht, asBool]
    refine out_pure ha (by rw [ho]; rfl) hr ?_
    cases t <;> exact h
  case alloc T =>
    obtain ⟨z, hz, h⟩ := onSome_inv h
    refine out_alloc (ob := (.cells ⟨z.cells.toList⟩ T)) ha (by rw [ho]; rfl) ?_ h
    rw [hc (by rw [ho]; intros; simp)]
    simp [execOp, ho, Instr.alloc, zero_run hz, newVar, newRow]
  case box T x =>
    refine out_alloc (ob := (.cells ⟨(evU env x).cells.toList⟩ T)) ha (by rw [ho]; rfl) ?_ h
    rw [hc (by rw [ho]; intros; simp)]
    simp [execOp, ho, Instr.box, newVar, newRow]
  case buildSlice T len parts =>
    obtain ⟨z, hz, h⟩ := onSome_inv h
    refine out_alloc (ob := (.cells ⟨z.2.toList⟩ z.1)) ha (by rw [ho]; rfl) ?_ h
    rw [hc (by rw [ho]; intros; simp)]
    simp [execOp, ho, run_bs hz]
  case load T x =>
    obtain ⟨p, hp, h⟩ := onPtr_inv h
    obtain ⟨ad, rfl, h⟩ := ptrW_inv h
    obtain ⟨t, ht, v, hv, h⟩ := onSome_inv h
    have hr : ∀ w2, Ext w w2 → (execOp a.eval o).run P w2 = .ok (.value (t.e v)) w2 := by
      intro w2 he
      rw [hc (by rw [ho]; intros; simp)]
      simp [execOp, ho, Instr.loadAt, Instr.sureAddr, hp, run_tyOf ht (hv.ext he)]
    exact .inl ⟨_, w, hr w (Ext.refl w), put_sound ha h, fun _ => trivial, fun _ => rfl, fun hq => (by rw [ho] at hq; cases hq), fun _ => hr, fun hq => by rw [ho] at hq; cases hq⟩
  case store T x v =>
    obtain ⟨p, hp, h⟩ := onPtr_inv h
    obtain ⟨ad, rfl, h⟩ := ptrW_inv h
    obtain ⟨hb, h⟩ := ifW_inv h
    obtain ⟨w', hr, h⟩ := run_stores (P := P) _ _ _ _ _ _ h
    simp only [Bool.and_eq_true] at hb
    refine .inr (.inl ⟨by rw [ho]; rfl, by rw [ho]; rfl, w', ?_, put_sound ha h, trivial⟩)
    rw [hc (by rw [ho]; intros; simp)]
    simp [execOp, ho, Instr.storeAt, Instr.sureAddr, hp, store_run hb.1 hb.2 hr]
  case nilCheck x =>
    rcases onNil_inv h with ⟨p, hp, h⟩ | h
    · obtain ⟨ad, rfl, h⟩ := ptrW_inv h
      refine out_pure ha (by rw [ho]; rfl) (fun w2 => ?_) h
      rw [hc (by rw [ho]; intros; simp)]
      simp [execOp, ho, hp]
    · exact hgen (by rw [ho]; intros; simp) (by rw [ho]; rfl) h
  case binOp op T x y T' =>
    obtain ⟨v, hr, h, hp⟩ := bin_sound ho h
    exact out_quiet ha (by rw [ho]; rfl) (by rw [ho]; rfl) (by rw [hc (by rw [ho]; intros; simp)]; exact hr) h (fun hq w2 => by rw [hc (by rw [ho]; intros; simp)]; exact hp hq w2)
  case indexAddr T x i =>
    obtain ⟨j, hj, h⟩ := onSome_inv h
    obtain ⟨kd, hj⟩ := isInt_inv hj
    rcases onRow_inv h with ⟨b, l, c, e, hx, hT, h⟩ | ⟨p, l, e, hx, hT, h⟩
    · obtain ⟨hel, ad, rfl, h0, h1, h⟩ := ifW_inv h
      refine out_pure ha (by rw [ho]; rfl) (fun w2 => ?_) h
      rw [hc (by rw [ho]; intros; simp)]
      simp only [execOp, ho, hx, hj]
      rw [Sem.run_bind, run_idx_sl hT hel _ _ _ _ _ h0 h1]
      rfl
    · obtain ⟨hel, h⟩ := ifW_inv h
      obtain ⟨ad, rfl, h⟩ := ptrW_inv h
      obtain ⟨ad', he, h0, h1, h⟩ := h
      cases he
      refine out_pure ha (by rw [ho]; rfl) (fun w2 => ?_) h
      rw [hc (by rw [ho]; intros; simp)]
      simp only [execOp, ho, hx, hj]
      rw [Sem.run_bind, run_idx_arr hT hel _ _ _ h0 h1]
      rfl
  case slice T x lo hi mx =>
    cases mx
    case some mx =>
      obtain ⟨r, hr, h⟩ := h
      refine out_quiet ha (by rw [ho]; rfl) (by rw [ho]; rfl) ?_ h (fun hp => by rw [ho] at hp; cases hp)
      rw [hc (by rw [ho]; intros; simp)]
      simp only [execOp, ho, Option.map_some]
      rw [Sem.run_bind, hr]
      rfl
    obtain ⟨l, hl, h⟩ := onSome_inv h
    obtain ⟨hh, hhi, h⟩ := onSome_inv h
    rcases onRow_inv h with ⟨b, m, c, e, hx, hT, h⟩ | ⟨p, m, e, hx, hT, h⟩
    · obtain ⟨hel, hcd, h⟩ := ifW_inv h
      refine out_pure ha (by rw [ho]; rfl) (fun w2 => ?_) h
      rw [hc (by rw [ho]; intros; simp)]
      simp only [execOp, ho, hx, Option.map_none]
      rw [Sem.run_bind, run_slc hT hel hl hhi b m c hcd]
      rfl
    · obtain ⟨hel, h⟩ := ifW_inv h
      obtain ⟨ad, rfl, h⟩ := ptrW_inv h
      obtain ⟨hcd, h⟩ := h
      refine out_pure ha (by rw [ho]; rfl) (fun w2 => ?_) h
      rw [hc (by rw [ho]; intros; simp)]
      simp only [execOp, ho, hx, Option.map_none]
      rw [Sem.run_bind, run_slc_arr hT hel hl hhi ad hcd]
      rfl
  case convert S D x =>
    rcases onSl_inv h with ⟨_, h⟩ | h
    · obtain ⟨hsl, h⟩ := ifW_inv h
      obtain ⟨ts, hts, r, hr, h⟩ := onSome_inv h
      refine out_quiet ha (by rw [ho]; rfl) (by rw [ho]; rfl) ?_ h (fun hp => by rw [ho] at hp; simp [pureOp, hsl] at hp)
      rw [hc (by rw [ho]; intros; simp)]
      simp only [execOp, ho]
      rw [Sem.run_bind, hr]
      rfl
    · exact hgen (by rw [ho]; intros; simp) (by rw [ho]; rfl) h
  case fieldAddr T x i =>
    rcases onNil_inv h with ⟨p, hp, h⟩ | h
    · obtain ⟨ad, rfl, h⟩ := ptrW_inv h
      obtain ⟨v, hv, h⟩ := onSome_inv h
      refine out_pure ha (by rw [ho]; rfl) (fun w2 => ?_) h
      rw [hc (by rw [ho]; intros; simp)]
      simp only [execOp, ho, hp]
      rw [Sem.run_bind, pv_run hv]
      rfl
    · exact hgen (by rw [ho]; intros; simp) (by rw [ho]; rfl) h
  case select => exact h.elim
  case call c => exact call_sound ha ho hall h
  case lookup T m x ok =>
    obtain ⟨ts, hts, r, hr, h⟩ := onSome_inv h
    refine out_quiet ha (by rw [ho]; rfl) (by rw [ho]; rfl) ?_ h (fun hp => by rw [ho] at hp; cases hp)
    rw [hc (by rw [ho]; intros; simp)]
    simp only [execOp, ho]
    rw [Sem.run_bind, hr]
    rfl
  case mapUpdate T m x v =>
    obtain ⟨w', hr, h⟩ := h
    refine .inr (.inl ⟨by rw [ho]; rfl, by rw [ho]; rfl, w', ?_, put_sound ha h, trivial⟩)
    rw [hc (by rw [ho]; intros; simp)]
    simp only [execOp, ho]
    rw [Sem.run_bind, hr]
    rfl
  case makeMap T r =>
    obtain ⟨r, w', hr, h⟩ := h
    refine out_raw ha (by rw [ho]; rfl) (by rw [ho]; rfl) ?_ h
    rw [hc (by rw [ho]; intros; simp)]
    simp only [execOp, ho]
    rw [Sem.run_bind, hr]
    rfl
  case makeSlice T l c =>
    obtain ⟨r, w', hr, h⟩ := h
    refine out_raw ha (by rw [ho]; rfl) (by rw [ho]; rfl) ?_ h
    rw [hc (by rw [ho]; intros; simp)]
    simp only [execOp, ho]
    rw [Sem.run_bind, hr]
    rfl
  all_goals exact hgen (by rw [ho]; intros; simp) (by rw [ho]; rfl) h


/-! regions -/
theorem wp_of_out {o : Oper} {k : Env → W R} {env : Env} {Q : R → World → Prop} {w : World} {a : Act} (h : Out D mp P n o env k Q a w) (QX : Exit → Act → World → Prop) (hp : ∀ ch w, Pan.pan Q ch w → QX (.panic ch) a w) : o.wp P a w (Nx D n o env k Q) QX := by
  unfold Oper.wp
  rcases h with ⟨v, w', hr, h, _⟩ | ⟨_, _, w', hr, h, _⟩ | ⟨_, _, f, args, w', hr, h⟩
  · rw [hr]; exact h
  · rw [hr]; exact h
  · rw [hr]
    refine Calls.mono h ?_
    rintro e w'' (⟨v, rfl, h, _⟩ | ⟨_, ch, rfl, h⟩)
    · exact h
    · exact hp ch w'' h
end

theorem mem_dstsOps {l : List Oper} {o : Oper} {d : Nat} (ho : o ∈ l) (hd : o.dst = some d) : d ∈ dstsOps l := by
  induction l with
  | nil => cases ho
  | cons x r ih =>
    simp only [dstsOps]
    rcases List.mem_cons.1 ho with rfl | h
    · rw [hd]; simp
    · cases hx : x.dst with
      | none => exact ih h
      | some e => simp [ih h]

/-- what is known behind a region. -/
def Fin (D : List Deferred) (n : Nat) (ds : List Nat) (env : Env) (k : Env → W R) (Q : R → World → Prop) (a : Act) (w : World) : Prop :=
  ∃ env', Ag D n env' a ∧ (∀ i, i ∉ ds → env' i = env i) ∧ k env' Q w

theorem Fin.base {ds : List Nat} {env env1 : Env} {k : Env → W R} {Q : R → World → Prop} {a : Act} {w : World} (h : Fin D n ds env1 k Q a w) (he : ∀ i, i ∉ ds → env1 i = env i) : Fin D n ds env k Q a w :=
  let ⟨e, h1, h2, h3⟩ := h
  ⟨e, h1, fun i hi => (h2 i hi).trans (he i hi), h3⟩

/-- what an operation that may panic comes to. -/
def OutP [Pan R] (D : List Deferred) (mp : List Nat) (P : Program) (n : Nat) (o : Oper) (env : Env) (k : Env → W R) (Q : R → World → Prop) (a : Act) (w : World) : Prop :=
  a.defers = D ∧ (Out D mp P n o env k Q a w ∨ (∃ v w', (execOp a.eval o).run P w = .halt (.panic v) w' ∧ Pan.pan Q [{ v, recovered := false }] w'))
theorem wp_of_outP [Pan R] {mp : List Nat} {o : Oper} {k : Env → W R} {env : Env} {Q : R → World → Prop} {w : World} {a : Act} (h : OutP D mp P n o env k Q a w) (QX : Exit → Act → World → Prop) (hp : ∀ ch a w, a.defers = D → Pan.pan Q ch w → QX (.panic ch) a w) : o.wp P a w (Nx D n o env k Q) QX := by
  obtain ⟨hd, h⟩ := h
  rcases h with h | ⟨v, w', hr, h⟩
  · exact wp_of_out h QX fun ch w h => hp ch a w hd h
  · unfold Oper.wp
    rw [hr]
    exact hp _ a w' hd h
theorem opC_sound [Pan R] {mp : List Nat} {o : Oper} {k : Env → W R} {env : Env} {Q : R → World → Prop} {w : World} {a : Act} (ha : Ag D n env a) (h : denOpC mp P n o k env Q w) : Out D mp P n o env k Q a w := by
  unfold denOpC at h
  cases hm : mpOp mp o with
  | false => rw [hm] at h; exact op_sound ha h
  | true =>
    rw [hm, cond_true] at h
    obtain ⟨hall, h⟩ := ifW_inv h
    have hq : quietOp o.op = false ∧ isAlloc o.op = false := by
      unfold mpOp at hm
      cases ho : o.op <;> first | (rw [ho] at hm; cases hm; done) | skip
      rename_i c
      rw [ho] at hm
      obtain ⟨callee, args, ts⟩ := c
      cases callee <;> first | exact ⟨rfl, rfl⟩ | cases hm
    cases ho : o.op with
    | call c =>
      rw [ho] at h
      dsimp only at h
      cases hcal : c.callee with
      | value f =>
        rw [hcal] at h
        dsimp only at h
        obtain ⟨g, first, cap, hf, h⟩ := onFn_inv h
        obtain ⟨ts, hts, h⟩ := onSome_inv h
        obtain ⟨hcall, h⟩ := ifW_inv h
        refine .inr (.inr ⟨hq.1, hq.2, g, first ++ c.args.map (evU env) ++ cap, w, ?_, ?_⟩)
        · have hc : execOp a.eval o = execOp (evU env) o := congr_op ha (by rw [ho]; intros; simp) hall
          rw [hc]
          simp only [execOp, ho, resolve, hcal, hf, Deferred.ofValue, Sem.run_bind, Sem.run_pure, Result.andThen_ok, Go.invoke, callable_run hcall]
        · refine Calls.mono h ?_
          rintro e w'' (⟨r, rfl, hk⟩ | ⟨ch, rfl, hk⟩)
          · exact .inl ⟨_, rfl, put_sound ha hk, trivial⟩
          · exact .inr ⟨hm, ch, rfl, hk⟩
      | _ => rw [hcal] at h; exact h.elim
    | _ => rw [ho] at h; exact h.elim
theorem opP_sound [Pan R] {mp : List Nat} {o : Oper} {k : Env → W R} {env : Env} {Q : R → World → Prop} {w : World} {a : Act} (ha : Ag D n env a) (h : denOpP mp P n o k env Q w) : OutP D mp P n o env k Q a w := by
  refine ⟨ha.defers, ?_⟩
  unfold denOpP at h
  cases ho : o.op with
  | panic x =>
    rw [ho] at h
    dsimp only at h
    obtain ⟨hall, h⟩ := ifW_inv h
    rw [← ho] at hall
    have hc : execOp a.eval o = execOp (evU env) o := congr_op ha (by rw [ho]; intros; simp) hall
    cases hx : evU env x with
    | iface T v =>
      rw [hx] at h
      refine .inr ⟨.iface T v, w, ?_, h⟩
      rw [hc]
      simp only [execOp, ho, Sem.run_bind, Sem.run_pure, Result.andThen_ok, hx, Instr.panic]
      rfl
    | _ => rw [hx] at h; exact h.elim
  | _ => rw [ho] at h; exact .inl (opC_sound ha h)

/-- one operation of a region, and its guard. -/
theorem step_sound [Pan R] {mp : List Nat} {all : Array Oper} {o : Oper} (hmem : o ∈ all.toList) {r : List Oper} {k : Env → W R} {env : Env} {Q : R → World → Prop} {w : World} {a : Act} (ha : Ag D n env a)
    (h : denOps mp P n all (o :: r) k env Q w) :
    (Region.wanted o (yielded all a.tmps) = true ∧ ∃ env1, (∀ i, i ∉ dstsOps all.toList → env1 i = env i) ∧ OutP D mp P n o env1 (denOps mp P n all r k) Q a w) ∨
    (Region.wanted o (yielded all a.tmps) = false ∧ ∃ env1, (∀ i, i ∉ dstsOps all.toList → env1 i = env i) ∧ Ag D n env1 (a.put o.dst undef) ∧ denOps mp P n all r k env1 Q w) := by
  simp only [denOps] at h
  cases hg : o.guard with
  | none =>
    rw [hg] at h
    exact .inl ⟨by simp [Region.wanted, hg], env, fun _ _ => rfl, opP_sound ha h⟩
  | some g =>
    obtain ⟨j, want⟩ := g
    rw [hg] at h
    dsimp only at h
    cases hd : dstAt all j with
    | none => rw [hd] at h; exact h.elim
    | some d =>
      rw [hd] at h
      dsimp only at h
      have hdm : d ∈ dstsOps all.toList := by
        unfold dstAt at hd
        obtain ⟨oj, hj, hjd⟩ := Option.bind_eq_some_iff.1 hd
        exact mem_dstsOps (by have := Array.mem_of_getElem? hj; simpa using this) hjd
      cases hv : env d with
      | none => rw [hv] at h; exact h.elim
      | some v =>
        by_cases htup : ∃ vs, v = .tuple vs
        · obtain ⟨vs, rfl⟩ := htup
          rw [hv] at h
          have hy : yielded all a.tmps j = none := by
            have h1 := ha.get d _ hv
            unfold dstAt at hd
            simp [yielded, hd, h1]
          obtain ⟨e, h1, h2, h3⟩ := put_sound ha h
          exact .inr ⟨by simp [Region.wanted, hg, hy], e, fun i hi => h2 i (fun hd' => hi (mem_dstsOps hmem hd')), h1, h3⟩
        cases v <;> first | (rw [hv] at h; exact h.elim) | (exact absurd ⟨_, rfl⟩ htup) | skip
        rename_i b
        rw [hv] at h
        dsimp only at h
        have hy : yielded all a.tmps j = some b := by
          have h1 := ha.get d _ hv
          unfold dstAt at hd
          simp [yielded, hd, h1]
        have hw : Region.wanted o (yielded all a.tmps) = (b == want) := by
          simp only [Region.wanted, hg, hy]
          cases b <;> cases want <;> rfl
        have frame : ∀ u, ∀ i, i ∉ dstsOps all.toList → eset env d u i = env i := fun u i hi => by
          have : Nat.beq i d = false := nbeq_f.2 (fun e => hi (e ▸ hdm))
          simp [Den.eset, this]
        have hX : (b == want) = true → denOpP mp P n o (denOps mp P n all r k) (eset env d (some (.bool want))) Q w →
            OutP D mp P n o (eset env d (some (.bool want))) (denOps mp P n all r k) Q a w := fun hb h =>
          opP_sound (ha.again hv _ (by rw [beq_iff_eq.1 hb])) h
        have hY : (b == want) = false → put n o undef (denOps mp P n all r k) (eset env d (some (.bool !want))) Q w →
            ∃ env1, (∀ i, i ∉ dstsOps all.toList → env1 i = env i) ∧ Ag D n env1 (a.put o.dst undef) ∧ denOps mp P n all r k env1 Q w := fun hb h => by
          have ha' := ha.again hv (.bool !want) (by cases b <;> cases want <;> simp_all)
          obtain ⟨e, h1, h2, h3⟩ := put_sound ha' h
          exact ⟨e, fun i hi => (h2 i (fun hd' => hi (mem_dstsOps hmem hd'))).trans (frame _ i hi), h1, h3⟩
        cases want <;> cases b <;> simp only [guardW, cond_true, cond_false] at h
        · exact .inl ⟨hw, _, frame _, hX rfl h⟩
        · exact .inr ⟨hw, hY rfl h⟩
        · exact .inr ⟨hw, hY rfl h⟩
        · exact .inl ⟨hw, _, frame _, hX rfl h⟩

theorem nx_fin {o : Oper} {all : Array Oper} (hmem : o ∈ all.toList) {env1 env : Env} {k : Env → W R} {Q : R → World → Prop} {a : Act} {w : World} (he : ∀ i, i ∉ dstsOps all.toList → env1 i = env i)
    (h : Nx D n o env1 k Q a w) : Fin D n (dstsOps all.toList) env k Q a w :=
  let ⟨e, h1, h2, h3⟩ := h
  ⟨e, h1, fun i hi => (h2 i (fun hd => hi (mem_dstsOps hmem hd))).trans (he i hi), h3⟩

theorem ops_sound [Pan R] {mp : List Nat} {all : Array Oper} {k : Env → W R} {Q : R → World → Prop} {QX : Exit → Act → World → Prop} {env0 : Env} (hQ : ∀ a w, Fin D n (dstsOps all.toList) env0 k Q a w → QX .normal a w) (hp : ∀ ch a w, a.defers = D → Pan.pan Q ch w → QX (.panic ch) a w) :
    ∀ (l : List Oper), (∀ o ∈ l, o ∈ all.toList) → ∀ (env : Env) (a : Act) (w : World), (∀ i, i ∉ dstsOps all.toList → env i = env0 i) → Ag D n env a → denOps mp P n all l k env Q w → wpList P all QX l a w
  | [], _, env, a, w, he, ha, h => hQ a w ⟨env, ha, he, h⟩
  | o :: r, hm, env, a, w, he, ha, h => by
    have ho := hm o (by simp)
    have hr : ∀ o' ∈ r, o' ∈ all.toList := fun o' h' => hm o' (by simp [h'])
    unfold wpList
    rcases step_sound ho ha h with ⟨hw, env1, he1, hout⟩ | ⟨hw, env1, he1, ha1, h1⟩
    · rw [if_pos hw]
      refine .inl (Oper.wp_mono ?_ (wp_of_outP hout QX hp))
      intro a' w' hnx
      obtain ⟨e, h1, h2, h3⟩ := nx_fin ho (fun i hi => (he1 i hi).trans (he i hi)) hnx
      exact ops_sound hQ hp r hr e a' w' h2 h1 h3
    · rw [if_neg (by rw [hw]; simp)]
      exact ops_sound hQ hp r hr env1 _ w (fun i hi => (he1 i hi).trans (he i hi)) ha1 h1

/-! draws -/
theorem rk_inv {M : Mem} {S : List Nat} {K : W R} {Q : R → World → Prop} {w : World} (h : rkW M S K Q w) : (∀ q ∈ M, q.1 ∈ S → q.2 w) ∧ K Q w := by
  induction M with
  | nil => exact ⟨fun q hq => (by cases hq), h⟩
  | cons q M ih =>
    obtain ⟨j, p⟩ := q
    simp only [rkW] at h
    cases hm : memB S j with
    | true =>
      rw [hm] at h
      obtain ⟨h1, h2⟩ := h
      obtain ⟨h3, h4⟩ := ih h2
      exact ⟨fun q hq hS => by
        rcases List.mem_cons.1 hq with rfl | hq
        · exact h1
        · exact h3 q hq hS, h4⟩
    | false =>
      rw [hm] at h
      obtain ⟨h3, h4⟩ := ih h
      exact ⟨fun q hq hS => by
        rcases List.mem_cons.1 hq with rfl | hq
        · rw [memB_iff.2 hS] at hm; cases hm
        · exact h3 q hq hS, h4⟩

/-- what the denotation keeps of what was read, and what the orders' theory keeps of it. -/
def Tied (M M' : Mem) : Prop := ∀ q' ∈ M', ∃ q ∈ M, q.1 = q'.1 ∧ ∀ w, q.2 w → q'.2 w

theorem load_tied {T : TypeId} {x : Operand} {v : Value} {e : Env} {a : Act} {o : Oper} {d : Nat} (ho : o.op = .load T x) (he : Ag D n e (a.put (some d) v)) (hx : ∀ t, x = .tmp t → t ≠ d) :
    ∀ w, loadP P T (evU e x) (e d) w → LP P o a v w := by
  intro w h w3 hext
  generalize hxv : evU e x = xv at h
  generalize hu : e d = uv at h
  generalize htt : tyOf P T = tv at h
  cases xv <;> first | exact h.elim | skip
  rename_i p
  cases p with
  | none => exact h.elim
  | some ad =>
    cases tv with
    | none => unfold loadP at h; rw [htt] at h; exact h.elim
    | some t =>
      cases uv with
      | none => unfold loadP at h; rw [htt] at h; exact h.elim
      | some u =>
        unfold loadP at h
        rw [htt] at h
        dsimp only at h
        generalize hz : t.d u = zv at h
        cases zv with
        | none => exact h.elim
        | some z =>
          have h1 := he.get d u hu
          have huv : u = v := by
            simp only [Act.put] at h1
            rw [Array.getElem?_setIfInBounds] at h1
            simp only [if_true] at h1
            split at h1
            · cases h1; rfl
            · cases h1
          have hav : a.eval x = .pointer (some ad) := by
            cases hev : ev e x with
            | none => unfold evU at hxv; rw [hev] at hxv; cases hxv
            | some y =>
              have h2 := he.eval hev
              rw [Act.eval_put (fun d' hd' hxd => by cases hd'; exact hx _ hxd rfl)] at h2
              unfold evU at hxv
              rw [hev] at hxv
              rw [h2]; exact hxv
          have hr := run_tyOf htt (Rd.ext h hext)
          simp only [execOp, ho, hav, Instr.loadAt, Instr.sureAddr, Sem.run_bind, Sem.run_pure, Result.andThen_ok]
          rw [hr, ← huv, Ty.d_e _ _ _ hz]
          rfl

theorem ord_sound [Pan R] {mp : List Nat} {all : Array Oper} {k : Env → W R} {Q : R → World → Prop} {env0 : Env} :
    ∀ (r : Ord) (M M' : Mem) (env : Env) (a : Act) (w : World), Tied M M' → (∀ i, i ∉ dstsOps all.toList → env i = env0 i) → Ag D n env a → denOrd mp P n all r M k env Q w →
      wpL P mp (fun ch w => Pan.pan Q ch w) all (fun a w => Fin D n (dstsOps all.toList) env0 k Q a w) r M' a w
  | [], M, M', env, a, w, ht, he, ha, h => ⟨env, ha, he, h⟩
  | (i, S) :: r, M, M', env, a, w, ht, he, ha, h => by
    simp only [denOrd] at h
    simp only [wpL]
    cases ho : all[i]? with
    | none => rw [ho] at h; exact h.elim
    | some o =>
      rw [ho] at h
      dsimp only at h ⊢
      have hmem : o ∈ all.toList := by have := Array.mem_of_getElem? ho; simpa using this
      have stepX : ∀ env1, (∀ i, i ∉ dstsOps all.toList → env1 i = env0 i) → Ag D n env1 a →
          denOpC mp P n o (fun e => bif quietOp o.op then denOrd mp P n all r (addM P i o e M) k e else rkW M S (denOrd mp P n all r M k e)) env1 Q w →
          Step P mp (fun ch w => Pan.pan Q ch w) o (fun w => ∀ q ∈ M', q.1 ∈ S → q.2 w) a w (fun v a' w' => wpL P mp (fun ch w => Pan.pan Q ch w) all (fun a w => Fin D n (dstsOps all.toList) env0 k Q a w) r (push P i o a v M') a' w') := by
        intro env1 he1 ha1 hd
        have hout : Step P mp (fun ch w => Pan.pan Q ch w) o (fun _ => True) a w _ := opC_sound ha1 hd
        have nx : ∀ {v : Value} {w' : World}, Nx D n o env1 (fun e => bif quietOp o.op then denOrd mp P n all r (addM P i o e M) k e else rkW M S (denOrd mp P n all r M k e)) Q (a.put o.dst v) w' →
            (quietOp o.op = false → ∀ q ∈ M', q.1 ∈ S → q.2 w') ∧ wpL P mp (fun ch w => Pan.pan Q ch w) all (fun a w => Fin D n (dstsOps all.toList) env0 k Q a w) r (push P i o a v M') (a.put o.dst v) w' := by
          rintro v w' ⟨e, h1, h2, h3⟩
          have hfe : ∀ i, i ∉ dstsOps all.toList → e i = env0 i := fun i hi => (h2 i (fun hd' => hi (mem_dstsOps hmem hd'))).trans (he1 i hi)
          cases hq : quietOp o.op with
          | true =>
            rw [hq, cond_true] at h3
            refine ⟨fun h => (by cases h), ord_sound r (addM P i o e M) (push P i o a v M') e _ w' ?_ hfe h1 h3⟩
            unfold push
            split
            · rename_i hl
              intro q' hq'
              obtain ⟨T, x, hop⟩ : ∃ T x, o.op = .load T x := by
                cases hop : o.op <;> rw [hop] at hl <;> first | exact ⟨_, _, rfl⟩ | cases hl
              have hM : ∃ p, addM P i o e M = (i, p) :: M ∧ ∀ w, p w → LP P o a v w := by
                unfold addM
                rw [hop]
                cases x with
                | tmp t =>
                  cases hd' : o.dst with
                  | none => exact ⟨_, rfl, fun w h => h.elim⟩
                  | some d =>
                    dsimp only
                    cases hb : Nat.beq t d with
                    | true => exact ⟨_, rfl, fun w h => h.elim⟩
                    | false =>
                      refine ⟨_, rfl, ?_⟩
                      rw [hd'] at h1
                      exact load_tied hop h1 (fun t' ht' => by cases ht'; exact nbeq_f.1 hb)
                | const c => exact ⟨_, rfl, fun w h => h.elim⟩
                | global g => exact ⟨_, rfl, fun w h => h.elim⟩
                | func f => exact ⟨_, rfl, fun w h => h.elim⟩
              obtain ⟨p, hp, hpl⟩ := hM
              rw [hp]
              rcases List.mem_cons.1 hq' with rfl | hq'
              · exact ⟨(i, p), List.mem_cons_self, rfl, hpl⟩
              · obtain ⟨q, g1, g2⟩ := ht q' hq'
                exact ⟨q, List.mem_cons_of_mem _ g1, g2⟩
            · intro q' hq'
              obtain ⟨q, g1, g2⟩ := ht q' hq'
              refine ⟨q, ?_, g2⟩
              unfold addM
              split <;> first | exact List.mem_cons_of_mem _ g1 | exact g1
          | false =>
            rw [hq, cond_false] at h3
            obtain ⟨g1, g2⟩ := rk_inv h3
            have hnl : push P i o a v M' = M' := by
              unfold push
              rw [if_neg (fun hl => by rw [(load_kind hl).1] at hq; cases hq)]
            rw [hnl]
            refine ⟨fun _ q' hq' hS => ?_, ord_sound r M M' e _ w' ht hfe h1 g2⟩
            obtain ⟨q, e1, e2, e3⟩ := ht q' hq'
            exact e3 _ (g1 q e1 (e2 ▸ hS))
        rcases hout with ⟨v, w', q1, q2, q3, q4, q5, q6, q7⟩ | ⟨q0, q1, w', q2, q3, _⟩ | ⟨q0, q1, f, args, w', q2, q3⟩
        · exact .inl ⟨v, w', q1, (nx q2).2, (nx q2).1, q4, q5, q6, q7⟩
        · exact .inr (.inl ⟨q0, q1, w', q2, (nx q3).2, (nx q3).1 q0⟩)
        · refine .inr (.inr ⟨q0, q1, f, args, w', q2, q3.mono ?_⟩)
          rintro e w'' (⟨v, rfl, h, _⟩ | h)
          · exact .inl ⟨v, rfl, (nx h).2, (nx h).1 q0⟩
          · exact .inr h
      cases hg : o.guard with
      | none =>
        rw [hg] at h
        rw [if_pos (by simp [Region.wanted, hg])]
        exact stepX env he ha h
      | some g =>
        obtain ⟨j, want⟩ := g
        rw [hg] at h
        dsimp only at h
        cases hd : dstAt all j with
        | none => rw [hd] at h; exact h.elim
        | some d =>
          rw [hd] at h
          dsimp only at h
          have hdm : d ∈ dstsOps all.toList := by
            unfold dstAt at hd
            obtain ⟨oj, hj, hjd⟩ := Option.bind_eq_some_iff.1 hd
            exact mem_dstsOps (by have := Array.mem_of_getElem? hj; simpa using this) hjd
          cases hv : env d with
          | none => rw [hv] at h; exact h.elim
          | some v =>
            by_cases htup : ∃ vs, v = .tuple vs
            · obtain ⟨vs, rfl⟩ := htup
              rw [hv] at h
              have hy : yielded all a.tmps j = none := by
                have h1 := ha.get d _ hv
                unfold dstAt at hd
                simp [yielded, hd, h1]
              have hw : Region.wanted o (yielded all a.tmps) = false := by simp [Region.wanted, hg, hy]
              rw [if_neg (by rw [hw]; simp)]
              obtain ⟨e, h1, h2, h3⟩ := put_sound ha h
              exact ord_sound r M M' e _ w ht (fun i hi => (h2 i (fun hd' => hi (mem_dstsOps hmem hd'))).trans (he i hi)) h1 h3
            cases v <;> first | (rw [hv] at h; exact h.elim) | (exact absurd ⟨_, rfl⟩ htup) | skip
            rename_i b
            rw [hv] at h
            dsimp only at h
            have hy : yielded all a.tmps j = some b := by
              have h1 := ha.get d _ hv
              unfold dstAt at hd
              simp [yielded, hd, h1]
            have hw : Region.wanted o (yielded all a.tmps) = (b == want) := by
              simp only [Region.wanted, hg, hy]
              cases b <;> cases want <;> rfl
            have frame : ∀ u, ∀ i, i ∉ dstsOps all.toList → eset env d u i = env0 i := fun u i hi => by
              have : Nat.beq i d = false := nbeq_f.2 (fun e => hi (e ▸ hdm))
              simp [Den.eset, this, he i hi]
            have hskip : (b == want) = false → put n o undef (denOrd mp P n all r M k) (eset env d (some (.bool !want))) Q w →
                wpL P mp (fun ch w => Pan.pan Q ch w) all (fun a w => Fin D n (dstsOps all.toList) env0 k Q a w) r M' (a.put o.dst undef) w := fun hb h => by
              have ha' := ha.again hv (.bool !want) (by cases b <;> cases want <;> simp_all)
              obtain ⟨e, h1, h2, h3⟩ := put_sound ha' h
              exact ord_sound r M M' e _ w ht (fun i hi => (h2 i (fun hd' => hi (mem_dstsOps hmem hd'))).trans (frame _ i hi)) h1 h3
            rw [hw]
            cases want <;> cases b <;> simp only [guardW, cond_true, cond_false] at h
            · rw [if_pos (by rfl)]; exact stepX _ (frame _) (ha.again hv _ rfl) h
            · rw [if_neg (by simp)]; exact hskip rfl h
            · rw [if_neg (by simp)]; exact hskip rfl h
            · rw [if_pos (by rfl)]; exact stepX _ (frame _) (ha.again hv _ rfl) h

theorem rs_mem [Pan R] {mp : List Nat} {all : Array Oper} {k : Env → W R} {env : Env} {Q : R → World → Prop} {w : World} : ∀ {rs : List Ord}, denRs mp P n all k env rs Q w → ∀ r ∈ rs, denOrd mp P n all r [] k env Q w
  | [], _, r, hr => by cases hr
  | [r0], h, r, hr => by
    have : r = r0 := by simpa using hr
    subst this
    exact h
  | r0 :: r1 :: rs, h, r, hr => by
    rcases List.mem_cons.1 hr with rfl | hr
    · exact h.1
    · exact rs_mem h.2 r hr

theorem reg_sound [Pan R] {mp : List Nat} (hmix : P.follows .mixedOrders = true) {id : Nat} {ops : Array Oper} {draw : Bool} {d : Option (List (Nat × Nat) × List Ord)} {k : Env → W R} {env : Env} {Q : R → World → Prop} {QX : Exit → Act → World → Prop} {a : Act} {w : World}
    (hQ : ∀ a w, Fin D n (dstsOps ops.toList) env k Q a w → QX .normal a w) (hp : ∀ ch a w, a.defers = D → Pan.pan Q ch w → QX (.panic ch) a w) (ha : Ag D n env a) (h : regDen mp P n ops draw d k env Q w) : (Code.region id ops draw).wp P QX a w := by
  cases draw with
  | false => exact wp_region_list (ops_sound hQ hp ops.toList (fun _ h => h) env a w (fun _ _ => rfl) ha h)
  | true =>
    obtain ⟨⟨u, rs⟩, rfl, h⟩ := onSome_inv h
    obtain ⟨hb, h⟩ := ifW_inv h
    exact orders_sound (X := fun ch w => Pan.pan Q ch w) (K := fun a w => Fin D n (dstsOps ops.toList) env k Q a w) hmix hb hp hQ ha.defers (fun r hr => ord_sound r [] [] env a w.drew (fun q hq => by cases hq) (fun _ _ => rfl) ha (rs_mem h r hr))

/-! code -/
theorem reset_ag {env env' : Env} {ds : List Nat} {sh : Sh} {s : Sh.T sh} {a : Act} (ha : Ag D n env' a) (hf : ∀ i, i ∉ ds → env' i = env i) (hg : getSh env' sh = some s) : Ag D n (reset env ds sh s) a := by
  refine ⟨ha.defers, ha.size, fun i v hv => ?_⟩
  unfold reset at hv
  cases hs : shVal sh s i with
  | some u => rw [hs] at hv; cases hv; exact ha.get i _ (getSh_val hg i _ hs)
  | none =>
    rw [hs] at hv
    dsimp only at hv
    cases hm : memB ds i with
    | true => rw [hm] at hv; cases hv
    | false =>
      rw [hm, cond_false] at hv
      have : i ∉ ds := fun h => by rw [memB_iff.2 h] at hm; cases hm
      exact ha.get i v (by rw [hf i this]; exact hv)

theorem reset_frame {env env' : Env} {ds : List Nat} {sh : Sh} {s : Sh.T sh} (hf : ∀ i, i ∉ ds → env' i = env i) (hg : getSh env' sh = some s) : ∀ i, i ∉ ds → reset env ds sh s i = env i := by
  intro i hi
  unfold reset
  cases hs : shVal sh s i with
  | some u => rw [← hf i hi, getSh_val hg i _ hs]
  | none =>
    have : memB ds i = false := by
      cases hm : memB ds i with
      | false => rfl
      | true => exact absurd (memB_iff.1 hm) hi
    dsimp only
    rw [this]
    rfl

theorem leaf_inv {e : Env} {sh : Sh} {J : Sh.T sh → W R} {Q : R → World → Prop} {w : World} (h : leafW e sh J Q w) : ∃ s, getSh e sh = some s ∧ J s Q w := by
  unfold leafW at h
  cases hg : getSh e sh with
  | none => rw [hg] at h; exact h.elim
  | some s => rw [hg] at h; exact ⟨s, rfl, h⟩

theorem jn_sound {o : Option Sh} {ds : List Nat} {env : Env} {A : (Env → W R) → W R} {k : Env → W R} {Q : R → World → Prop} {w : World} (h : jn o ds env A k Q w) :
    ∃ k', A k' Q w ∧ ∀ a w', Fin D n ds env k' Q a w' → Fin D n ds env k Q a w' := by
  cases o with
  | none => exact ⟨k, h, fun _ _ h => h⟩
  | some sh =>
    obtain ⟨J, hJ, h⟩ := h
    refine ⟨_, h, ?_⟩
    rintro a w' ⟨env', ha, hf, hl⟩
    obtain ⟨s, hg, hs⟩ := leaf_inv hl
    exact ⟨_, reset_ag ha hf hg, reset_frame hf hg, hJ s w' hs⟩

theorem Fin.sub {ds ds' : List Nat} {env : Env} {k : Env → W R} {Q : R → World → Prop} {a : Act} {w : World} (h : Fin D n ds env k Q a w) (hs : ∀ i, i ∈ ds → i ∈ ds') : Fin D n ds' env k Q a w :=
  let ⟨e, h1, h2, h3⟩ := h
  ⟨e, h1, fun i hi => h2 i (fun hd => hi (hs i hd)), h3⟩

theorem den_sound [Pan R] (hmix : P.follows .mixedOrders = true) {h : Hints} : ∀ (c : Code) (cur : Nat) (k : Env → W R) (ex : Nat → Env → W R) (rt : Env → W R) (env : Env) (a : Act) (w : World) (Q : R → World → Prop) (QX : Exit → Act → World → Prop),
    Ag D n env a → den P n h cur c k ex rt env Q w → (∀ a w, Fin D n (dsts c) env k Q a w → QX .normal a w) → (∀ id a w, Fin D n (dsts c) env (ex id) Q a w → QX (.exit id) a w) →
    (∀ env' a w, Ag D n env' a → rt env' Q w → QX .ret a w) → (∀ ch a w, a.defers = D → Pan.pan Q ch w → QX (.panic ch) a w) → c.wp P QX a w
  | .skip, cur, k, ex, rt, env, a, w, Q, QX, ha, hd, hk, hx, hr, hp => wp_skip (hk a w ⟨env, ha, fun _ _ => rfl, hd⟩)
  | .region id ops draw, cur, k, ex, rt, env, a, w, Q, QX, ha, hd, hk, hx, hr, hp => by
    obtain ⟨k', h1, h2⟩ := jn_sound (n := n) hd
    exact reg_sound hmix (fun a w hf => hk a w (h2 a w hf)) hp ha h1
  | .seq x y, cur, k, ex, rt, env, a, w, Q, QX, ha, hd, hk, hx, hr, hp => by
    refine wp_seq (den_sound hmix x cur (fun e => den P n h cur y k ex rt e) ex rt env a w Q _ ha hd ?_ ?_ ?_ hp)
    · rintro a' w' ⟨e, h1, h2, h3⟩
      refine den_sound hmix y cur k ex rt e a' w' Q QX h1 h3 ?_ ?_ hr hp
      · intro a'' w'' hf
        exact hk _ _ ((hf.sub (ds' := dsts x ++ dsts y) (fun i hi => List.mem_append_right _ hi)).base (fun i hi => h2 i (fun hd => hi (List.mem_append_left _ hd))))
      · intro id a'' w'' hf
        exact hx _ _ _ ((hf.sub (ds' := dsts x ++ dsts y) (fun i hi => List.mem_append_right _ hi)).base (fun i hi => h2 i (fun hd => hi (List.mem_append_left _ hd))))
    · intro id a' w' hf
      exact hx id a' w' (hf.sub (fun i hi => List.mem_append_left _ hi))
    · intro e a' w' h1 h2
      exact hr e a' w' h1 h2
  | .cond c x y, cur, k, ex, rt, env, a, w, Q, QX, ha, hd, hk, hx, hr, hp => by
    simp only [den] at hd
    cases hc : ev env c with
    | none => rw [hc] at hd; exact hd.elim
    | some v =>
      cases v <;> first | (rw [hc] at hd; exact hd.elim) | skip
      rename_i t
      rw [hc] at hd
      obtain ⟨k', h1, h2⟩ := jn_sound (n := n) hd
      refine wp_cond (ha.eval hc) ?_
      cases t with
      | true =>
        refine den_sound hmix x cur k' ex rt env a w Q QX ha h1 (fun a w hf => hk a w (h2 a w (hf.sub (fun i hi => List.mem_append_left _ hi)))) (fun id a w hf => hx id a w (hf.sub (fun i hi => List.mem_append_left _ hi))) hr hp
      | false =>
        refine den_sound hmix y cur k' ex rt env a w Q QX ha h1 (fun a w hf => hk a w (h2 a w (hf.sub (fun i hi => List.mem_append_right _ hi)))) (fun id a w hf => hx id a w (hf.sub (fun i hi => List.mem_append_right _ hi))) hr hp
  | .block id c, cur, k, ex, rt, env, a, w, Q, QX, ha, hd, hk, hx, hr, hp => by
    obtain ⟨k', h1, h2⟩ := jn_sound (n := n) hd
    refine wp_block (den_sound hmix c id k' (fun i e => bif Nat.beq i id then k' e else ex i e) rt env a w Q _ ha h1 (fun a w hf => hk a w (h2 a w hf)) ?_ (fun e a w h3 h4 => hr e a w h3 h4) hp)
    intro i a' w' hf
    simp only [Exit.inBlock]
    cases hb : Nat.beq i id with
    | true =>
      rw [if_pos (nbeq.1 hb)]
      refine hk _ _ (h2 _ _ ?_)
      obtain ⟨e, h3, h4, h5⟩ := hf
      rw [hb, cond_true] at h5
      exact ⟨e, h3, h4, h5⟩
    | false =>
      rw [if_neg (nbeq_f.1 hb)]
      obtain ⟨e, h3, h4, h5⟩ := hf
      rw [hb, cond_false] at h5
      exact hx _ _ _ ⟨e, h3, h4, h5⟩
  | .loop c, cur, k, ex, rt, env, a, w, Q, QX, ha, hd, hk, hx, hr, hp => by
    simp only [den] at hd
    cases hl : hint h.lop cur with
    | none => rw [hl] at hd; exact hd.elim
    | some sh =>
      rw [hl] at hd
      obtain ⟨s0, hg, I, μ, h0, hstep⟩ := leaf_inv hd
      refine wp_loop_ghost (fun m a w => ∃ s, μ s w = m ∧ Ag D n (reset env (dsts c) sh s) a ∧ (∀ i, i ∉ dsts c → reset env (dsts c) sh s i = env i) ∧ I s w) (μ s0 w)
        ⟨s0, rfl, reset_ag ha (fun _ _ => rfl) hg, reset_frame (fun _ _ => rfl) hg, h0⟩ ?_
      rintro m a' w' ⟨s, rfl, ha', hfr, hI⟩
      refine den_sound hmix c cur _ ex rt (reset env (dsts c) sh s) a' w' Q _ ha' (hstep s w' hI) ?_ ?_ hr hp
      · rintro a'' w'' ⟨e, h1, h2, h3⟩
        obtain ⟨s', hg', h4, h5⟩ := leaf_inv h3
        have hf' : ∀ i, i ∉ dsts c → e i = env i := fun i hi => (h2 i hi).trans (hfr i hi)
        exact ⟨_, h5, s', rfl, reset_ag h1 hf' hg', reset_frame hf' hg', h4⟩
      · intro id a'' w'' hf
        exact hx id a'' w'' (hf.base hfr)
  | .exit id, cur, k, ex, rt, env, a, w, Q, QX, ha, hd, hk, hx, hr, hp => wp_exit (hx id a w ⟨env, ha, fun _ _ => rfl, hd⟩)
  | .ret, cur, k, ex, rt, env, a, w, Q, QX, ha, hd, hk, hx, hr, hp => wp_ret (hr env a w ha hd)
  | .rangeFunc _ _ _ _, cur, k, ex, rt, env, a, w, Q, QX, ha, hd, hk, hx, hr, hp => hd.elim
  | .scope _, cur, k, ex, rt, env, a, w, Q, QX, ha, hd, hk, hx, hr, hp => hd.elim
  | .label _, cur, k, ex, rt, env, a, w, Q, QX, ha, hd, hk, hx, hr, hp => hd.elim
  | .goto _, cur, k, ex, rt, env, a, w, Q, QX, ha, hd, hk, hx, hr, hp => hd.elim
  | .refuse _, cur, k, ex, rt, env, a, w, Q, QX, ha, hd, hk, hx, hr, hp => hd.elim

/-! results, and the whole function -/
def rv (tmps : Array Value) : ResultVar → Sem Value
  | .tmp t => pure (tmps.getD t undef)
  | .cell a t => do loadVar t (← asAddr (tmps.getD a undef))

theorem rv_tmp {env : Env} {a : Act} (ha : Ag D n env a) {t : Nat} {v : Value} (hv : env t = some v) (w : World) : (rv a.tmps (.tmp t)).run P w = .ok v w := by
  have := ha.get t v hv
  simp [rv, this]
theorem rv_cell {env : Env} {a : Act} (ha : Ag D n env a) {t : Nat} {ad : Addr} (hv : env t = some (.pointer (some ad))) {T : TypeId} {y : Ty} (hT : tyOf P T = some y) {x : y.T} {w : World} (hx : Rd w ad y x) :
    (rv a.tmps (.cell t T)).run P w = .ok (y.e x) w := by
  have := ha.get t _ hv
  simp [rv, this, asAddr, run_tyOf hT hx]

theorem mapM_rv_cons {tmps : Array Value} {r : ResultVar} {rs : List ResultVar} {v : Value} {vs : List Value} {w : World} (h1 : (rv tmps r).run P w = .ok v w) (h2 : (rs.mapM (rv tmps)).run P w = .ok vs w) :
    ((r :: rs).mapM (rv tmps)).run P w = .ok (v :: vs) w := by
  rw [List.mapM_cons, Sem.run_bind, h1]
  simp only [Result.andThen_ok]
  rw [Sem.run_bind, h2]
  rfl

theorem res_vars {env : Env} {a : Act} (ha : Ag D n env a) : ∀ (rs : List ResultVar) (ts : List Ty) (K : Res ts → W R) (Q : R → World → Prop) (w : World), ResOk P rs ts → resVars env rs ts K Q w →
    ∃ z : Res ts, (rs.mapM (rv a.tmps)).run P w = .ok (Tup.e Ty.e ts z) w ∧ K z Q w
  | [], [], K, Q, w, _, h => ⟨(), rfl, h⟩
  | [.tmp t], [y], K, Q, w, _, h => by
    simp only [resVars] at h
    cases hv : env t with
    | none => rw [hv] at h; exact h.elim
    | some v =>
      rw [hv] at h
      dsimp only at h
      cases hd : y.d v with
      | none => rw [hd] at h; exact h.elim
      | some x =>
        rw [hd] at h
        have := rv_tmp (P := P) ha hv w
        rw [Ty.d_e _ _ _ hd] at this
        exact ⟨x, mapM_rv_cons this rfl, h⟩
  | [.cell t T], [y], K, Q, w, hok, h => by
    simp only [resVars] at h
    cases hv : env t with
    | none => rw [hv] at h; exact h.elim
    | some v =>
      cases v <;> first | (rw [hv] at h; exact h.elim) | skip
      rename_i p
      rw [hv] at h
      obtain ⟨ad, rfl, x, hx, h⟩ := ptrW_inv h
      exact ⟨x, mapM_rv_cons (rv_cell ha hv hok.1 hx) rfl, h⟩
  | .tmp t :: r0 :: r, y :: y' :: l, K, Q, w, hok, h => by
    simp only [resVars] at h
    cases hv : env t with
    | none => rw [hv] at h; exact h.elim
    | some v =>
      rw [hv] at h
      dsimp only at h
      cases hd : y.d v with
      | none => rw [hd] at h; exact h.elim
      | some x =>
        rw [hd] at h
        obtain ⟨z, hz, hk⟩ := res_vars ha (r0 :: r) (y' :: l) _ Q w hok h
        have := rv_tmp (P := P) ha hv w
        rw [Ty.d_e _ _ _ hd] at this
        exact ⟨(x, z), mapM_rv_cons this hz, hk⟩
  | .cell t T :: r0 :: r, y :: y' :: l, K, Q, w, hok, h => by
    simp only [resVars] at h
    cases hv : env t with
    | none => rw [hv] at h; exact h.elim
    | some v =>
      cases v <;> first | (rw [hv] at h; exact h.elim) | skip
      rename_i p
      rw [hv] at h
      obtain ⟨ad, rfl, x, hx, h⟩ := ptrW_inv h
      obtain ⟨z, hz, hk⟩ := res_vars ha (r0 :: r) (y' :: l) _ Q w hok.2 h
      exact ⟨(x, z), mapM_rv_cons (rv_cell ha hv hok.1 hx) hz, hk⟩
  | [], _ :: _, _, _, _, hok, _ => hok.elim
  | .tmp _ :: _, [], _, _, _, hok, _ => hok.elim
  | .cell _ _ :: _, [], _, _, _, hok, _ => hok.elim
  | [.tmp _], _ :: _ :: _, _, _, _, hok, _ => hok.elim
  | [.cell _ _], _ :: _ :: _, _, _, _, hok, _ => hok.2.elim
  | .tmp _ :: r0 :: r, [_], _, _, _, hok, _ => by cases r0 <;> exact False.elim hok
  | .cell _ _ :: r0 :: r, [_], _, _, _, hok, _ => by cases r0 <;> exact False.elim hok.2

theorem results_rv (fn : Func) (tmps : Array Value) {vs : List Value} {w : World} (h : (fn.results.toList.mapM (rv tmps)).run P w = .ok vs w) :
    (results fn tmps).run P w = .ok (if h : (⟨vs⟩ : Array Value).size = 1 then (⟨vs⟩ : Array Value)[0] else .tuple ⟨vs⟩) w := by
  have he : results fn tmps = (do let vs ← fn.results.mapM (rv tmps); pure (if h : vs.size = 1 then vs[0] else .tuple vs)) := rfl
  have hl : fn.results.mapM (rv tmps) = List.toArray <$> fn.results.toList.mapM (rv tmps) := by
    rw [Array.mapM_eq_mapM_toList]
  rw [he, Sem.run_bind, hl, Sem.run_map, h]
  rfl

theorem resE_vs (ts : List Ty) (z : Res ts) : (if h : (⟨Tup.e Ty.e ts z⟩ : Array Value).size = 1 then (⟨Tup.e Ty.e ts z⟩ : Array Value)[0] else .tuple ⟨Tup.e Ty.e ts z⟩) = resE ts z := by
  rcases ts with _ | ⟨t, _ | ⟨u, r⟩⟩
  · rfl
  · rfl
  · have : (Tup.e Ty.e (t :: u :: r) z).length ≠ 1 := by
      rcases r with _ | ⟨v, r⟩ <;> simp [Tup.e]
    rw [dif_neg (by simpa using this)]
    rfl

theorem env0_ag (args : List Value) (m : Nat) (hm : args.length ≤ m) : Ag [] m (env0 args) { tmps := ⟨args⟩ ++ Array.replicate (m - args.length) undef, defers := [] } := by
  refine ⟨rfl, by simp; omega, fun i v hv => ?_⟩
  have : ∀ (l : List Value) (i : Nat), env0 l i = some v → l[i]? = some v := by
    intro l
    induction l with
    | nil => intro i h; simp [env0] at h
    | cons x r ih =>
      intro i h
      cases i with
      | zero => simpa [env0] using h
      | succ j => simpa [env0] using ih j (by simpa [env0] using h)
  have h1 := this args i hv
  have h2 : i < args.length := (List.getElem?_eq_some_iff.1 h1).1
  rw [Array.getElem?_append_left (by simpa using h2)]
  simpa using h1

/-- THE SOUNDNESS OF THE DENOTATION OF A FUNCTION. -/
theorem den_calls (hmix : P.follows .mixedOrders = true) {f : Nat} {fn : Func} (hf : P.funcs[f]? = some fn) (h : Hints) {ts : List Ty} (hres : ResOk P fn.results.toList ts) {args : List Value} (hlen : args.length ≤ fn.ntmps) {w : World} {post : Res ts → World → Prop}
    (hd : denF P h fn ts args post w) : Calls P f ⟨args⟩ w (fun e w' => ∃ r, e = .returned (resE ts r) ∧ post r w') := by
  unfold denF at hd
  cases hb : fn.body with
  | none => rw [hb] at hd; exact hd.elim
  | some c =>
    rw [hb] at hd
    refine calls_of_wp hf hb ?_
    have hfin : ∀ (env' : Env) (a : Act) (w : World), Ag [] fn.ntmps env' a → resVars env' fn.results.toList ts retW post w → ∃ v, (results fn a.tmps).run P w = .ok v w ∧ ∃ r, Ending.returned v = .returned (resE ts r) ∧ post r w := by
      intro env' a w ha hr
      obtain ⟨z, hz, hk⟩ := res_vars ha _ _ _ _ _ hres hr
      have := results_rv fn a.tmps hz
      rw [resE_vs] at this
      exact ⟨_, this, z, rfl, hk⟩
    refine @den_sound _ _ _ [] (noPan _) hmix h c 0 _ _ _ (env0 args) _ w post _ (by simpa using env0_ag args fn.ntmps hlen) hd ?_ ?_ ?_ (fun _ _ _ _ h => h.elim)
    · rintro a w' ⟨e, h1, _, h3⟩
      exact ⟨h1.defers, hfin e a w' h1 h3⟩
    · rintro id a w' ⟨e, _, _, h3⟩
      exact h3.elim
    · intro e a w' h1 h3
      exact ⟨h1.defers, hfin e a w' h1 h3⟩

/-- what stands behind a call that may panic. -/
def kP {A : Type} [Pan R] (K : A → W R) (Q : R → World → Prop) : A ⊕ List PanicEntry → World → Prop
  | .inl r, w => K r Q w
  | .inr ch, w => Pan.pan Q ch w
/-- .. of one that may panic. -/
theorem den_callsP (hmix : P.follows .mixedOrders = true) {f : Nat} {fn : Func} (hf : P.funcs[f]? = some fn) (h : Hints) {ts : List Ty} (hres : ResOk P fn.results.toList ts) {args : List Value} (hlen : args.length ≤ fn.ntmps) {w : World} {post : Res ts ⊕ List PanicEntry → World → Prop}
    (hd : denFP P h fn ts args post w) : Calls P f ⟨args⟩ w (fun e w' => (∃ r, e = .returned (resE ts r) ∧ post (.inl r) w') ∨ (∃ ch, e = .panicked ch ∧ post (.inr ch) w')) := by
  unfold denFP at hd
  cases hb : fn.body with
  | none => rw [hb] at hd; exact hd.elim
  | some c =>
    rw [hb] at hd
    refine calls_of_wp hf hb ?_
    have hfin : ∀ (env' : Env) (a : Act) (w : World), Ag [] fn.ntmps env' a → resVars env' fn.results.toList ts (fun r => retW (.inl r)) post w → ∃ v, (results fn a.tmps).run P w = .ok v w ∧ ((∃ r, Ending.returned v = .returned (resE ts r) ∧ post (.inl r) w) ∨ (∃ ch, Ending.returned v = .panicked ch ∧ post (.inr ch) w)) := by
      intro env' a w ha hr
      obtain ⟨z, hz, hk⟩ := res_vars ha _ _ _ _ _ hres hr
      have := results_rv fn a.tmps hz
      rw [resE_vs] at this
      exact ⟨_, this, .inl ⟨z, rfl, hk⟩⟩
    refine den_sound hmix c 0 _ _ _ (env0 args) _ w post _ (by simpa using env0_ag args fn.ntmps hlen) hd ?_ ?_ ?_ (fun ch a w h1 h2 => ⟨h1, .inr ⟨ch, rfl, h2⟩⟩)
    · rintro a w' ⟨e, h1, _, h3⟩
      exact ⟨h1.defers, hfin e a w' h1 h3⟩
    · rintro id a w' ⟨e, _, _, h3⟩
      exact h3.elim
    · intro e a w' h1 h3
      exact ⟨h1.defers, hfin e a w' h1 h3⟩

end Go.Proofs.YtchhhjlpnecjkaaGreat.Den
