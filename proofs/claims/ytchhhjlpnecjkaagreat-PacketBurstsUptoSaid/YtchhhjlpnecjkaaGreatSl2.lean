/-
  Slices, once more: parts, copies, what package slices does with them.
-/
import Derived.Test.YtchhhjlpnecjkaaGreatObj
import Derived.Laws.CopyRow
import Derived.Lib.Overlaps
namespace Go.Proofs.YtchhhjlpnecjkaaGreat.Den
open Go Go.RowKit
variable {R : Type} {Q : R → World → Prop} {w : World} {P : Program} {T E ty : TypeId} {t : Ty} {bytes : Nat} {ok S : Nat → Prop} {s : Sl} {l : List t.T}

/-! ### parts -/
theorem Addr.add0' (a : Addr) : a.add 0 = a := by unfold Addr.add; simp
/-- s[i:] -/
theorem SlT.from (h : SlT ok w t s l) {sz : Nat} (hsz : sz = t.size) {i : Int} {n : Nat} (hi : i = (n : Int)) (hl : n ≤ l.length) {K : Sl → W R} (hk : ∀ r, SlT ok w t r (l.drop n) → r.c = s.c - n → K r Q w) : slcW s.a s.n s.c sz (some i) none K Q w := by
  subst hi; subst hsz
  have hlen := h.len
  have hcap := h.cap
  refine chkI (by simp only [Option.getD_some, Option.getD_none]; omega) ?_
  simp only [Option.getD_some, Option.getD_none, Int.toNat_natCast]
  refine hk _ ⟨by simp; omega, by simp; omega, ?_⟩ rfl
  rcases h.at_ with rfl | ⟨b, o, ha, h1, h2, h3⟩
  · left; simp
  · by_cases hc : s.c = n
    · left
      exact List.drop_eq_nil_of_le (by omega)
    · right
      refine ⟨b, o + n * t.size, by simp only [if_neg hc, ha, Option.map_some, add_lit], h1, h2, fun i x hx => ?_⟩
      rw [List.getElem?_drop] at hx
      have := h3 (n + i) x hx
      rwa [Nat.add_mul, ← Nat.add_assoc] at this
/-- s[:n], in whatever world. -/
theorem SlT.cutI (h : SlT ok w t s l) {sz : Nat} {hi : Int} {n : Nat} (hn : hi = (n : Int)) (hl : n ≤ l.length) {K : Sl → W R} (hk : ∀ s', s'.c = s.c → (∀ ok' w', SlT ok' w' t s l → SlT ok' w' t s' (l.take n)) → K s' Q w) : slcW s.a s.n s.c sz none (some hi) K Q w := by
  subst hn
  have hlen := h.len
  have hcap := h.cap
  refine chkI (by simp only [Option.getD_some, Option.getD_none]; omega) ?_
  simp only [Option.getD_some, Option.getD_none]
  refine hk _ (by simp) fun ok' w' h' => ⟨by simp; omega, by simp; omega, ?_⟩
  rcases h'.at_ with rfl | ⟨b, o, ha, h1, h2, h3⟩
  · left; simp
  · right
    refine ⟨b, o, ?_, h1, h2, fun i x hx => ?_⟩
    · rw [ha]
      split
      · rfl
      · simp [Addr.add]
    · rw [List.getElem?_take] at hx
      split at hx
      · exact h3 i x hx
      · cases hx
/-- s[:len(s):len(s)] -/
theorem clipI (H : SlTy P T E t bytes) (h : SlT ok w t s l) {K : Sl → W R} (hk : ∀ r, SlT ok w t r l → r.n = s.n → K r Q w) :
    rawQ P (Instr.sliceAt T (.slice s.a s.n s.c) none (some (.int .i64 (s.n : Int))) (some (.int .i64 (s.n : Int)))) [.sc .sl] K Q w := by
  obtain ⟨i, z, hi, hz, hs, hby, hzs⟩ := H.info
  have hcap := h.cap
  refine ⟨⟨if s.n = 0 then s.a else s.a.map (·.add (0 * i.size)), s.n - 0, s.n - 0⟩, ?_, hk _ ⟨h.len, Nat.le_refl _, ?_⟩ rfl⟩
  · have hb1 : ∀ c : BoundsCode, (Instr.sliceBound (.int .i64 (s.n : Int)) s.c c).run P w = .ok s.n w := fun c => by simp [Instr.sliceBound, asIntOf]; omega
    have hb2 : ∀ c : BoundsCode, (Instr.sliceBound (.int .i64 (s.n : Int)) s.n c).run P w = .ok s.n w := fun c => by simp [Instr.sliceBound, asIntOf]
    simp [Instr.sliceAt, Instr.slice, Instr.sliceBounds, run_underlying H.under, hb1, hb2, sizeOf, typeInfo, hi]
    rfl
  · rcases h.at_ with rfl | ⟨b, o, ha, h1, h2, h3⟩
    · exact .inl rfl
    · refine .inr ⟨b, o, ?_, h1, h2, h3⟩
      simp only [Nat.zero_mul, ha, Option.map_some]
      split
      · rfl
      · rw [Addr.add0']

/-! ### copies -/
/-- slices.Clone: append(s[:0:0], s...), or nil. -/
theorem cloneI (H : SlTy P T E t bytes) (h : SlT ok w t s l) (hb : l.length * bytes ≤ 140737488355328) (hm : l.length ≤ 9223372036854775807) {K : Sl → W R} (hk : ∀ r w', Own (Up w.heap.size) w' E t r l → Fr None w w' → K r Q w') :
    newW E [] (fun a => rawW P (Builtin.append_ #[T, T] ty #[.slice (some a) 0 0, .slice s.a s.n s.c]) [.sc .sl] K) Q w := by
  refine newI fun w1 B1 f1 s1 => ?_
  have own := Own.mk' (S := Up w.heap.size) (w := w1) (E := E) (t := t) (l := []) (g := w.heap.size) (c := 0) (cur := ⟨[]⟩) (Nat.le_refl _) B1 (Nat.le_refl _) (Nat.zero_le _) (by simp) (by simp)
  refine appI (s := ⟨some ⟨w.heap.size, 0, none⟩, 0, 0⟩) (s2 := s) (S' := Up w.heap.size) H own (h.fr0 f1) (by simpa using hb) (by rw [maxLen_eq]; simpa using hm) (fun _ h => h) (by show _ ≤ _; omega) fun r w2 o2 f2 s2 => ?_
  rw [List.nil_append] at o2
  exact hk r w2 o2 (f1.newer f2 (fun x e => own.own x e))

/-- copy(dst, src): n whole elements of src's into a block of one's own. -/
theorem copyI (hu : P.underlying T = some (.slice E)) {i : TypeInfo} (hi : P.info? E = some i) {U : TypeId} {g o dn dc : Nat} {Tb : TypeId} {cs vs : List Value} (B : Blk w g Tb cs) {a : Addr} {sn sc n : Nat} (hn : n = Nat.min sn dn) (hv : vs.length = n * i.size) (hsrc : CellsAt w a vs)
    (hfit : o + vs.length ≤ cs.length) (h1 : ∀ v ∈ vs, v.oneCell' = true) {K : Int → W R} (hk : ∀ w', Blk w' g Tb (putAt cs o vs) → Fr (fun k => k = g) w w' → w'.heap.size = w.heap.size → K (n : Int) Q w') :
    rawW P (Builtin.copy_ #[T, U] ty #[.slice (some ⟨g, o, none⟩) dn dc, .slice (some a) sn sc]) [.sc (.int .i64)] K Q w := by
  obtain ⟨w', hr, hK⟩ := run_stores (P := P) ⟨g, o, none⟩ vs 0 (fun (_ : R → World → Prop) w' => Blk w' g Tb (putAt cs o vs) ∧ Fr (fun k => k = g) w w' ∧ w'.heap.size = w.heap.size) (fun _ _ => True) w (stoBlk vs 0 B (by omega) h1 fun w' hb hf hs => ⟨by simpa using hb, hf, hs⟩)
  have hl := run_loadCells_list (P := P) w a vs hsrc
  refine ⟨(n : Int), w', ?_, hk w' hK.1 hK.2.1 hK.2.2⟩
  rw [hv] at hl
  simp [Builtin.copy_, run_underlying hu, Builtin.lenOf, Builtin.firstCells, sizeOf, typeInfo, hi, ← hn, hl, hr]
  rfl
/-- nothing is copied. -/
theorem copy0 (hu : P.underlying T = some (.slice E)) {i : TypeInfo} (hi : P.info? E = some i) {U : TypeId} {d a : Option Addr} {dn dc sn sc : Nat} (hn : Nat.min sn dn = 0) {K : Int → W R} (hk : K 0 Q w) :
    rawW P (Builtin.copy_ #[T, U] ty #[.slice d dn dc, .slice a sn sc]) [.sc (.int .i64)] K Q w := by
  refine ⟨0, w, ?_, hk⟩
  have hl : ∀ a : Addr, (loadCells a 0).run P w = .ok #[] w := fun a => by have := run_loadCells_list (P := P) w a [] (fun j v h => by simp at h); simpa using this
  rcases d with _ | d <;> rcases a with _ | a <;> simp [Builtin.copy_, run_underlying hu, Builtin.lenOf, Builtin.firstCells, sizeOf, typeInfo, hi, hn, hl, storeCells] <;> rfl
theorem clear0 (hu : P.underlying T = some (.slice E)) {a : Option Addr} {c : Nat} : (Builtin.clear_ #[T] ty #[.slice a 0 c]).run P w = .ok (resE [] ()) w := by
  rcases a with _ | a <;> simp [Builtin.clear_, run_underlying hu] <;> rfl
/-- clear(s). -/
theorem clearI (H : SlTy P T E t bytes) {z : t.T} {zv : Value} (hz : (P.info? E).bind (·.zero) = some zv) (hzc : zv.cells.toList = t.cells z) {g o n c : Nat} {Tb : TypeId} {cs : List Value} (B : Blk w g Tb cs) (hfit : o + n * t.size ≤ cs.length)
    {K : Unit → W R} (hk : ∀ w', Blk w' g Tb (putAt cs o ((List.replicate n z).flatMap t.cells)) → Fr (fun k => k = g) w w' → w'.heap.size = w.heap.size → K () Q w') :
    rawW P (Builtin.clear_ #[T] ty #[.slice (some ⟨g, o, none⟩) n c]) [] K Q w := by
  obtain ⟨i, z', h1, h2, h3, h4, h5⟩ := H.info
  rw [h1] at hz
  simp only [Option.bind_some, h2, Option.some.injEq] at hz
  subst hz
  rcases n with _ | n
  · refine ⟨(), w, ?_, hk w ?_ (Fr.refl _ _) rfl⟩
    · simp [Builtin.clear_, run_underlying H.under]; rfl
    · simpa [putAt] using B
  · have hcells : (Builtin.zeroCells z'.cells (n + 1)).toList = (List.replicate (n + 1) z).flatMap t.cells := by
      apply List.ext_getElem?
      intro j
      have hpos := H.pos
      have hzs : z'.cells = ⟨t.cells z⟩ := by rw [← hzc]
      have hsz : (t.cells z).length = t.size := t.cells_len z
      by_cases hj : j < (n + 1) * t.size
      · have hq : j / t.size < n + 1 := Nat.div_lt_of_lt_mul (by rw [Nat.mul_comm]; exact hj)
        have hml : j % t.size < (t.cells z).length := by rw [hsz]; exact Nat.mod_lt _ hpos
        have e1 := flat_at (l := List.replicate (n + 1) z) (i := j / t.size) (x := z) (by simp [hq]) (j % t.size) _ (List.getElem?_eq_getElem hml)
        rw [Nat.mul_comm, Nat.div_add_mod] at e1
        rw [e1, hzs]
        have hj' : j < (Builtin.zeroCells ⟨t.cells z⟩ (n + 1)).size := by rw [size_zeroCells]; simp [hsz]; exact hj
        rw [Array.getElem?_toList, Array.getElem?_eq_getElem hj']
        simp only [Builtin.zeroCells, Array.getElem_map, Array.getElem_range, List.size_toArray, hsz]
        congr 1
        rw [getElem!_pos (c := (⟨t.cells z⟩ : Array Value)) (i := j % t.size) (by simpa using hml)]
        simp
      · rw [List.getElem?_eq_none, List.getElem?_eq_none]
        · rw [flat_len]; simp; omega
        · rw [Array.length_toList, size_zeroCells, h5]; omega
    have h1c : ∀ v ∈ (List.replicate (n + 1) z).flatMap t.cells, v.oneCell' = true := fun u hu => by
      obtain ⟨x, _, hx⟩ := List.mem_flatMap.1 hu
      exact t.one x H.fine u hx
    obtain ⟨w', hr, hK⟩ := run_stores (P := P) ⟨g, o, none⟩ ((List.replicate (n + 1) z).flatMap t.cells) 0 (fun (_ : R → World → Prop) w' => Blk w' g Tb (putAt cs o ((List.replicate (n + 1) z).flatMap t.cells)) ∧ Fr (fun k => k = g) w w' ∧ w'.heap.size = w.heap.size) (fun _ _ => True) w
      (stoBlk _ 0 B (by rw [flat_len]; simpa using hfit) h1c fun w' hb hf hs => ⟨by simpa using hb, hf, hs⟩)
    refine ⟨(), w', ?_, hk w' hK.1 hK.2.1 hK.2.2⟩
    simp only [Builtin.clear_]
    simp [run_underlying H.under, zeroValue, typeInfo, h1, h2, hcells, hr]
    rfl

/-! ### IndexFunc, DeleteFunc -/
def idxF {α : Type} (p : α → Bool) (l : List α) : Int := match l.findIdx? p with
  | some i => (i : Int)
  | none => -1
theorem idxFuncI {Q : Int → World → Prop} {callp : t.T → (Bool → W Int) → W Int} {sz : Nat} (p : t.T → Bool) (hS : SlT ok w t s l) (hsz : sz = t.size) (hm : l.length ≤ 4611686018427387904)
    (hcall : ∀ x ∈ l, ∀ (X : Bool → W Int) w', Fr None w w' → (∀ w'', Fr None w' w'' → X (p x) Q w'') → callp x X Q w') (hk : ∀ w', Fr None w w' → Q (idxF p l) w') :
    loopW (fun K i => cond (decide (i < (s.n : Int))) (idxW s.a s.n sz i fun a => ld t a fun x => callp x fun b => cond b (retW i) (K (IntKind.wrap .i64 (i + 1)))) (retW (-1))) 0 Q w := by
  refine rangeI (body := fun K i x => callp x fun b => cond b (retW i) (K (IntKind.wrap .i64 (i + 1)))) (done := fun _ => retW (-1)) (fun s : Int => s) (fun j i w' => i = (j : Int) ∧ Fr None w w' ∧ ∀ q y, q < j → l[q]? = some y → p y = false) hsz ⟨rfl, Fr.refl _ _, by omega⟩ (fun j s w' h => h.1) (fun j s w' h => hS.fr0 h.2.1) ?_ ?_
  · rintro j x i w' K hx ⟨rfl, f, hno⟩ - hK
    obtain ⟨hj, hxe⟩ := List.getElem?_eq_some_iff.1 hx
    refine hcall x (List.mem_of_getElem? hx) _ w' f fun w'' f2 => ?_
    refine condI (fun hp => ?_) fun hp => ?_
    · have e : idxF p l = (j : Int) := by
        have : l.findIdx? p = some j := by
          rw [List.findIdx?_eq_some_iff_getElem]
          exact ⟨hj, by rw [hxe]; exact hp, fun q hq => by rw [hno q _ hq (List.getElem?_eq_getElem (by omega))]; simp⟩
        rw [idxF, this]
      have := hk w'' (f.then0 f2)
      rw [e] at this
      exact this
    · refine hK _ _ ⟨wsucc (N := l.length) hj (by omega), f.then0 f2, fun q y hq hy => ?_⟩
      rcases Nat.lt_succ_iff_lt_or_eq.1 hq with h | h
      · exact hno q y h hy
      · subst h; rw [hx] at hy; cases hy; exact hp
  · rintro i w' ⟨_, f, hno⟩
    have e : idxF p l = -1 := by
      have : l.findIdx? p = none := by
        rw [List.findIdx?_eq_none_iff]
        intro y hy
        obtain ⟨q, hq⟩ := List.mem_iff_getElem?.1 hy
        exact hno q y (List.getElem?_eq_some_iff.1 hq).1 hq
      rw [idxF, this]
    have := hk w' f
    rw [e] at this
    exact this
theorem idxF_some {α : Type} {p : α → Bool} {l : List α} {i : Nat} (h : idxF p l = (i : Int)) : ∃ x, l[i]? = some x ∧ p x = true ∧ ∀ q y, q < i → l[q]? = some y → p y = false := by
  unfold idxF at h
  split at h
  · rename_i j hj
    have : j = i := by omega
    subst this
    rw [List.findIdx?_eq_some_iff_getElem] at hj
    obtain ⟨h1, h2, h3⟩ := hj
    refine ⟨l[j], List.getElem?_eq_getElem h1, h2, fun q y hq hy => ?_⟩
    obtain ⟨_, rfl⟩ := List.getElem?_eq_some_iff.1 hy
    simpa using h3 q hq
  · omega
theorem idxF_none {α : Type} {p : α → Bool} {l : List α} (h : idxF p l < 0) : ∀ y ∈ l, p y = false := by
  unfold idxF at h
  split at h
  · omega
  · rename_i hn; rw [List.findIdx?_eq_none_iff] at hn; exact hn
theorem idxF_cases {α : Type} (p : α → Bool) (l : List α) : (idxF p l = -1 ∧ ∀ y ∈ l, p y = false) ∨ ∃ i : Nat, idxF p l = (i : Int) := by
  unfold idxF
  cases h : l.findIdx? p with
  | none => left; rw [List.findIdx?_eq_none_iff] at h; exact ⟨rfl, h⟩
  | some i => right; exact ⟨i, rfl⟩

theorem take_filter_pre {α : Type} {p : α → Bool} {l : List α} {i : Nat} (hno : ∀ q y, q < i → l[q]? = some y → p y = false) : (l.take i).filter (fun x => !p x) = l.take i := by
  rw [List.filter_eq_self]
  intro y hy
  obtain ⟨q, hq⟩ := List.mem_iff_getElem?.1 hy
  rw [List.getElem?_take] at hq
  split at hq
  · rename_i hlt; rw [hno q y hlt hq]; rfl
  · cases hq

/-- slices.DeleteFunc behind its search: the loop, the clearing, the cut. -/
theorem delFuncI {Q : Sl → World → Prop} {callp : t.T → (Bool → W Sl) → W Sl} {sz : Nat} {z : t.T} {zv : Value} {Tv : TypeId} {zs : List Value} (p : t.T → Bool) (H : SlTy P T E t bytes) (hz : (P.info? E).bind (·.zero) = some zv) (hzc : zv.cells.toList = t.cells z) (hzl : zs.length = t.size)
    (ho : Own S w E t s l) (hsz : sz = t.size) (hm : l.length ≤ 4611686018427387904) {i : Nat} (hi : idxF p l = (i : Int))
    (hcall : ∀ x ∈ l, ∀ (X : Bool → W Sl) w', Fr (Ex S w) w w' → (∀ w'', Fr None w' w'' → X (p x) Q w'') → callp x X Q w')
    (hk : ∀ n w', Own S w' E t ⟨s.a, n, s.c⟩ (l.filter fun x => !p x) → Fr S w w' → Q ⟨s.a, n, s.c⟩ w') :
    loopW (σ := Int × Int) (fun K s3 => cond (decide (s3.2 < (s.n : Int))) (idxW s.a s.n sz s3.2 fun a => ld t a fun x => newW Tv zs fun v => stoL v (t.cells x) 0 <| ld t v fun y => callp y fun b =>
        joinW (σ := Int) (fun J => cond (!b) (ld t v fun y2 => idxW s.a s.n sz s3.1 fun a2 => stoL a2 (t.cells y2) 0 <| J (IntKind.wrap .i64 (s3.1 + 1))) (J s3.1)) fun s12 => K (s12, IntKind.wrap .i64 (s3.2 + 1)))
      (slcW s.a s.n s.c sz (some s3.1) none fun x13 => rawW P (Builtin.clear_ #[T] 0 #[.slice x13.a x13.n x13.c]) [] fun (_ : Unit) => slcW s.a s.n s.c sz none (some s3.1) fun x15 => retW x15))
      ((i : Int), IntKind.wrap .i64 ((i : Int) + 1)) Q w := by
  subst hsz
  obtain ⟨x0, hx0, hp0, hno⟩ := idxF_some hi
  have hil := (List.getElem?_eq_some_iff.1 hx0).1
  have hn := ho.len
  let flt : List t.T → List t.T := fun l => l.filter fun x => !p x
  have inv0 : ∃ L : List t.T, L.length = l.length ∧ L.drop (i + 1) = l.drop (i + 1) ∧ L.take (flt (l.take (i + 1))).length = flt (l.take (i + 1)) ∧ (flt (l.take (i + 1))).length = i ∧ Own S w E t s L := by
    have e : flt (l.take (i + 1)) = l.take i := by
      show List.filter _ _ = _
      rw [take_at hx0, List.filter_append, take_filter_pre hno]
      simp [hp0]
    rw [e]
    have hl : (l.take i).length = i := by simp; omega
    exact ⟨l, rfl, rfl, by rw [hl], hl, ho⟩
  have le : ∀ j, (flt (l.take j)).length ≤ j := fun j => Nat.le_trans (List.length_filter_le _ _) (by simp; omega)
  refine loopI (fun s3 w' => ∃ j : Nat, i + 1 ≤ j ∧ j ≤ l.length ∧ s3 = (((flt (l.take j)).length : Int), (j : Int)) ∧ Fr S w w' ∧ ∃ L : List t.T, L.length = l.length ∧ L.drop j = l.drop j ∧ L.take (flt (l.take j)).length = flt (l.take j) ∧ Own S w' E t s L) (fun s3 _ => l.length - s3.2.toNat) ?_ ?_
  · obtain ⟨L, h1, h2, h3, h4, h5⟩ := inv0
    refine ⟨i + 1, Nat.le_refl _, hil, ?_, Fr.refl _ _, L, h1, h2, h3, h5⟩
    rw [h4, w64 (by omega)]; rfl
  · rintro s3 w' ⟨j, hij, hjl, rfl, f, L, hL, hdrop, htake, hoL⟩
    have hle := le j
    refine condD (fun hlt => ?_) fun hge => ?_
    · have hj : j < l.length := by have : (j : Int) < (s.n : Int) := hlt; omega
      have hxj : L[j]? = l[j]? := by
        have := congrArg (·[0]?) hdrop
        simpa using this
      obtain ⟨x, hx⟩ : ∃ x, l[j]? = some x := ⟨_, List.getElem?_eq_getElem hj⟩
      refine hoL.sl.get rfl rfl (by omega) fun x' hx' => ?_
      rw [hxj, hx] at hx'
      cases hx'
      refine newI fun w1 B1 f1 s1 => stoBlk (T := Tv) (t.cells x) 0 B1 (by rw [t.cells_len, hzl]; omega) (t.one x H.fine) fun w2 B2 f2 s2 => ?_
      rw [Nat.add_zero, putAt_all (by rw [t.cells_len, hzl])] at B2
      have f12 : Fr None w' w2 := f1.newer f2 fun k e => by omega
      have ldx : ∀ {w3 : World} {K : t.T → W Sl}, Blk w3 w'.heap.size Tv (t.cells x) → K x Q w3 → ld t ⟨w'.heap.size, 0, none⟩ K Q w3 := fun B hk => ldI x (Rd.cells.2 (B.cells 0 _ fun j u h => by rw [Nat.zero_add]; exact h)) hk
      refine ldx B2 ?_
      refine hcall x (List.mem_of_getElem? hx) _ w2 ((f.then0 f12).sub fun _ h => .inl h) fun w3 f3 => ?_
      have B3 := B2.fr f3 fun h => h
      have f13 := f12.then0 f3
      have hsn : flt (l.take (j + 1)) = flt (l.take j) ++ (if p x then [] else [x]) := by
        show List.filter _ _ = _
        rw [take_at hx, List.filter_append]
        cases hpx : p x <;> simp [hpx]
        rfl
        rfl
      refine joinI (fun s12 w'' => s12 = ((flt (l.take (j + 1))).length : Int) ∧ Fr S w w'' ∧ ∃ L : List t.T, L.length = l.length ∧ L.drop (j + 1) = l.drop (j + 1) ∧ L.take (flt (l.take (j + 1))).length = flt (l.take (j + 1)) ∧ Own S w'' E t s L) ?_ ?_
      · have hd1 : ∀ L' : List t.T, L'.drop j = l.drop j → L'.drop (j + 1) = l.drop (j + 1) := fun L' h => by
          have := congrArg (List.drop 1) h
          simpa [List.drop_drop, Nat.add_comm] using this
        have o3 := hoL.none f13
        refine condI (fun hpf => ?_) fun hpt => ?_
        · have hpf : p x = false := by simpa using hpf
          rw [hpf] at hsn
          simp only [Bool.false_eq_true, if_false] at hsn
          refine ldx B3 ?_
          refine o3.idx rfl (by omega) (by omega) fun g y hg hy _ => ?_
          rw [Int.toNat_natCast]
          refine o3.set H.fine (i := (flt (l.take j)).length) (by omega) hg x fun w4 o4 f4 s4 => ?_
          refine ⟨?_, (f.then0 f13).then (f4.mono fun k _ e => o3.own k e), L.set (flt (l.take j)).length x, by rw [List.length_set]; exact hL, ?_, ?_, o4⟩
          · rw [hsn, w64 (by omega)]; simp
          · rw [List.drop_set_of_lt (by omega)]
            exact hd1 L hdrop
          · rw [hsn, List.length_append, List.length_singleton]
            have hx2 : (L.set (flt (l.take j)).length x)[(flt (l.take j)).length]? = some x := by rw [List.getElem?_set_self (by omega)]
            rw [take_at hx2, List.take_set_of_le (Nat.le_refl _), htake]
        · have hpt : p x = true := by simpa using hpt
          rw [hpt] at hsn
          simp only [if_true, List.append_nil] at hsn
          refine ⟨by rw [hsn], f.then0 f13, L, hL, hd1 L hdrop, by rw [hsn]; exact htake, o3⟩
      · rintro s12 w5 ⟨rfl, f5, L', h1, h2, h3, h4⟩
        refine ⟨⟨j + 1, by omega, hj, ?_, f5, L', h1, h2, h3, h4⟩, ?_⟩
        · rw [w64 (by omega)]; rfl
        · simp only []
          rw [w64 (by omega)]
          omega
    · have hjl : j = l.length := by have : ¬ (j : Int) < (s.n : Int) := hge; omega
      subst hjl
      rw [List.take_length] at htake hle ⊢
      have fin : ∀ {w1 : World}, Own S w1 E t ⟨s.a, (flt l).length, s.c⟩ (flt l) → Fr S w w1 → slcW s.a s.n s.c t.size none (some ((flt l).length : Int)) (fun x15 => retW x15) Q w1 := fun {w1} o1 f1 => by
        have hc := hoL.cap
        refine chkI (by simp only [Option.getD_some, Option.getD_none]; omega) ?_
        simp only [Option.getD_some, Option.getD_none, Int.toNat_natCast]
        have e : (if s.c = Int.toNat 0 then s.a else s.a.map (·.add ((Int.toNat 0) * t.size))) = s.a := by
          split
          · rfl
          · cases s.a with
            | none => rfl
            | some a => simp [Addr.add]
        rw [e]
        exact hk (flt l).length w1 o1 f1
      have otake : Own S w' E t ⟨s.a, (flt l).length, s.c⟩ (flt l) := by
        have := hoL.take (n := (flt l).length) (by omega)
        rwa [htake] at this
      rcases hoL.cases with ⟨rfl, rfl⟩ | ⟨g, c, cur, hs, hg, h3, h4, h5, h6, h7⟩
      · simp at hL; omega
      · have hcs : s.c = c := by rw [hs]
        have hcl : cur.toList.length = c * t.size := by rw [Array.length_toList]; exact h6
        have han : s.a = some ⟨g, 0, none⟩ := by rw [hs]
        refine chkI (by simp only [Option.getD_some, Option.getD_none]; omega) ?_
        simp only [Option.getD_some, Option.getD_none, Int.toNat_natCast]
        by_cases hk0 : (flt l).length = l.length
        · refine ⟨(), w', ?_, fin otake f⟩
          have : s.n - (flt l).length = 0 := by omega
          rw [this]
          exact clear0 H.under
        · rw [if_neg (by omega), han, Option.map_some, add_lit, Nat.zero_add]
          refine clearI H hz hzc (n := s.n - (flt l).length) (show Blk w' g E cur.toList from h3) ?_ fun w1 B1 f1 s1 => ?_
          · rw [hcl, ← Nat.add_mul]
            exact Nat.mul_le_mul_right _ (by omega)
          · rw [← han]
            refine fin ?_ (f.then (f1.mono fun k _ e => by rw [e]; exact hg))
            have hlen : ((List.replicate (s.n - (flt l).length) z).flatMap t.cells).length = (s.n - (flt l).length) * t.size := by rw [flat_len]; simp
            rw [han, hcs]
            refine Own.mk' (cur := ⟨putAt cur.toList ((flt l).length * t.size) ((List.replicate (s.n - (flt l).length) z).flatMap t.cells)⟩) hg B1 (by omega) h5 (by simp [putAt_length, h6]) ?_
            have hfit : (flt l).length * t.size + (s.n - (flt l).length) * t.size ≤ cur.toList.length := by rw [hcl, ← Nat.add_mul]; exact Nat.mul_le_mul_right _ (by omega)
            rw [putAt_get _ (by rw [hlen]; exact hfit), List.append_assoc, List.take_append_of_le_length (by simp; omega), List.take_take, Nat.min_self]
            have : cur.toList.take ((flt l).length * t.size) = (cur.toList.take (L.length * t.size)).take ((flt l).length * t.size) := by
              rw [List.take_take, Nat.min_eq_left (Nat.mul_le_mul_right _ (by omega))]
            rw [this, h7, ← flat_take, htake]

/-! ### Insert -/
theorem run_append_zeros_grow (w : World) (tn : TypeId) (i : TypeInfo) (z : Value) (k kn : IntKind) (ht : P.underlying T = some (.slice E)) (htn : P.underlying tn = some (.int kn)) (hi : P.info? E = some i) (hz : i.zero = some z)
    (b : Addr) (sLen sCap : Nat) (olds : List Value) (hlo : olds.length = sLen * i.size) (holds : ∀ j v, olds[j]? = some v → w.cell? (b.add j) = some v) (n : Nat) (h0 : 0 < n * i.size)
    (hg : sCap < sLen + n) (h63 : ((sLen + n : Nat) : Int) ≤ 9223372036854775807) (hfit : Builtin.nextslicecap (sLen + n) sCap * i.bytes ≤ 281474976710656) (h48 : n * i.bytes ≤ 281474976710656) :
    (Builtin.append_ #[T, tn] ty #[.slice (some b) sLen sCap, .int k n]).run P w =
      .ok (.slice (some ⟨w.heap.size, 0, none⟩) (sLen + n) (grownCap w (sLen + n) sCap E))
        (w.drew.alloc (.cells (olds.toArray ++ Builtin.zeroCells z.cells n ++ Builtin.zeroCells z.cells (grownCap w (sLen + n) sCap E - (sLen + n))) E)) := by
  have hn : ¬ (sLen + n ≤ sCap) := by omega
  have hw : IntKind.i64.wrap (n : Int) = n := by rw [IntKind.wrap_i64]; omega
  have h63' : ¬ (9223372036854775807 < ((sLen : Int) + (n : Int))) := by omega
  have h48' : ¬ (281474976710656 < Builtin.nextslicecap (sLen + n) sCap * i.bytes) := by omega
  have h48i : ¬ (281474976710656 < (n : Int) * (i.bytes : Int)) := by rw [← Int.natCast_mul]; omega
  have hns : ¬ (n * i.size = 0) := by omega
  have hns' : ¬ (n = 0 ∨ i.size = 0) := by
    rintro (h | h)
    · rw [h] at h0; simp at h0
    · rw [h] at h0; simp at h0
  have hfo := run_firstCells_some (P := P) w.drew i.size sLen b sLen sCap olds hlo (by simpa using holds)
  simp [Builtin.append_, run_underlying ht, run_underlying htn, sizeOf, typeInfo, zeroValue, hi, hz, asInt, asIntOf, hw, hn, h63', h48', h48i, hns, show ¬ ((n : Int) < 0) by omega, Question.forced, hfo, newRow, grownCap]
theorem ins_cells {z : Nat} {A X D cs : List Value} {i d : Nat} (hA : cs.take (i * z) = A) (hAl : A.length = i * z) (hX : X.length = z) (hD : D.length = d * z) (hfit : (i + 1 + d) * z ≤ cs.length) :
    (putAt (putAt cs (i * z) X) ((i + 1) * z) D).take ((i + 1 + d) * z) = A ++ X ++ D := by
  have e1 : (i + 1) * z = i * z + z := by rw [Nat.add_mul]; omega
  have e2 : (i + 1 + d) * z = i * z + z + d * z := by rw [Nat.add_mul, e1]
  rw [e2] at hfit ⊢
  rw [e1, putAt_get D (by rw [putAt_length, hD]; exact hfit), putAt_get X (by omega), hA]
  have h1 : List.take (i * z + z) (A ++ X ++ List.drop (i * z + X.length) cs) = A ++ X := by
    rw [show i * z + z = (A ++ X).length by simp; omega, List.take_left]
  rw [h1, show i * z + z + d * z = (A ++ X ++ D).length by simp; omega, List.take_left]
theorem ins_cells' {z : Nat} {A X D cs : List Value} {i d : Nat} (hA : cs.take (i * z) = A) (hAl : A.length = i * z) (hX : X.length = z) (hD : D.length = d * z) (hfit : (i + 1 + d) * z ≤ cs.length) :
    (putAt (putAt cs ((i + 1) * z) D) (i * z) X).take ((i + 1 + d) * z) = A ++ X ++ D := by
  have e1 : (i + 1) * z = i * z + z := by rw [Nat.add_mul]; omega
  have e2 : (i + 1 + d) * z = i * z + z + d * z := by rw [Nat.add_mul, e1]
  rw [e2] at hfit ⊢
  rw [e1, putAt_get X (by rw [putAt_length]; omega), putAt_get D (by omega)]
  have h0 : (List.take (i * z + z) cs).length = i * z + z := by simp; omega
  have h1 : List.take (i * z) (List.take (i * z + z) cs ++ D ++ List.drop (i * z + z + D.length) cs) = A := by
    rw [List.append_assoc, List.take_append_of_le_length (by omega), List.take_take, Nat.min_eq_left (by omega), hA]
  have h2 : List.drop (i * z + X.length) (List.take (i * z + z) cs ++ D ++ List.drop (i * z + z + D.length) cs) = D ++ List.drop (i * z + z + D.length) cs := by
    rw [List.append_assoc, show i * z + X.length = (List.take (i * z + z) cs).length by omega, List.drop_left]
  rw [h1, h2, ← List.append_assoc, show i * z + z + d * z = (A ++ X ++ D).length by simp; omega, List.take_left]

end Go.Proofs.YtchhhjlpnecjkaaGreat.Den
