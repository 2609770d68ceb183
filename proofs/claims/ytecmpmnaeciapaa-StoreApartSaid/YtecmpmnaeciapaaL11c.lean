/-
  StoreApart: its Go text answers true, whatever the input.
-/
import Derived.Test.YtecmpmnaeciapaaL11
import Derived.Test.YtecmpmnaeciapaaRef10
namespace Go.Proofs.Ytecmpmnaeciapaa
open Go Go.RowKit Go.ChangeShapes Go.WideShapes Go.ChangeAt Go.Proofs.Ytecmpmnaeciapaa.Den
variable {R : Type} {Q : R → World → Prop} {w : World} {H : Type} {enc : TypeId × Value → H}

/-! ### the model: what becomes of one leaves all others -/
theorem mem_dropI {α : Type} {L : List α} {i : Nat} {a e : α} (hi : L[i]? = some a) (he : e ∈ L) (hne : e ≠ a) : e ∈ dropI L i := by
  have hil := (List.getElem?_eq_some_iff.1 hi).1
  obtain ⟨j, hj⟩ := List.mem_iff_getElem?.1 he
  have hjl := (List.getElem?_eq_some_iff.1 hj).1
  have hji : j ≠ i := fun h => by subst h; rw [hi] at hj; exact hne (Option.some.inj hj).symm
  have hz := List.getElem?_eq_getElem (l := L) (i := L.length - 1) (by omega)
  unfold dropI
  rw [hz]
  by_cases hlast : j = L.length - 1
  · subst hlast
    rw [hz] at hj
    have hez := Option.some.inj hj
    refine List.mem_of_getElem? (i := i) ?_
    rw [List.getElem?_take, if_pos (by omega), List.getElem?_set_self hil, hez]
  · refine List.mem_of_getElem? (i := j) ?_
    rw [List.getElem?_take, if_pos (by omega), List.getElem?_set_ne (Ne.symm hji)]
    exact hj
theorem StOk.at_of2 {x : StM} (h : StOk x) {m i : Nat} {e : Ent} (hm : m < 64) (he : (x.tab m)[i]? = some e) : x.at e.1 = some (m, i, e) := by
  have hr := rowM_at (h.tab m hm).nodup he
  have hh := h.home_at hm (show inT x.tab m e.1 from by unfold inT; rw [hr]; rfl)
  unfold StM.at
  rw [hh]
  simp only [hr, he]
/-- entity e stands in a table. -/
def Has (x : StM) (e : Ent) : Prop := ∃ m, m < 64 ∧ e ∈ x.tab m
theorem StOk.ent_has {x : StM} (h : StOk x) {e : Ent} (he : Has x e) : x.ent e.1 = (e, 0) := by
  obtain ⟨m, hm, hi⟩ := he
  obtain ⟨i, hi⟩ := List.mem_iff_getElem?.1 hi
  unfold StM.ent
  rw [h.at_of2 hm hi]
theorem StOk.has_of {x : StM} (h : StOk x) {id : Int} (hl : x.s.live id = true) : ∃ e, Has x e ∧ e.1 = id ∧ x.ent id = (e, 0) := by
  have := h.at_live id
  rw [hl] at this
  obtain ⟨⟨m, i, e⟩, ha⟩ := Option.isSome_iff_exists.1 this
  obtain ⟨_, h1, _, h2, h3, _⟩ := h.at_some ha
  exact ⟨e, ⟨m, h1, List.mem_of_getElem? h2⟩, h3, by unfold StM.ent; rw [ha]⟩
theorem has_drop {T : Nat → List Ent} {m i : Nat} {a e : Ent} (hi : (T m)[i]? = some a) (hne : e.1 ≠ a.1) {k : Nat} (he : e ∈ T k) : e ∈ upd T m (dropI (T m) i) k := by
  by_cases hk : k = m
  · subst hk; rw [upd_same]; exact mem_dropI hi he fun h => hne (by rw [h])
  · rw [upd_other hk]; exact he
theorem has_put {T : Nat → List Ent} {id : Int} {l : List Comp} {e : Ent} {k : Nat} (he : e ∈ T k) : e ∈ putT T id l k := by
  unfold putT
  by_cases hk : k = maskN l
  · subst hk; rw [upd_same]; exact List.mem_append_left _ he
  · rw [upd_other hk]; exact he
theorem apart_despawn {x : StM} (h : StOk x) {id : Int} {e : Ent} (hne : e.1 ≠ id) (he : Has x e) : Has (x.despawn id).2 e := by
  obtain ⟨k, hk, hi⟩ := he
  unfold StM.despawn
  cases ha : x.at id with
  | none => exact ⟨k, hk, hi⟩
  | some p =>
    obtain ⟨m, i, a⟩ := p
    obtain ⟨_, _, _, h2, h3, _⟩ := h.at_some ha
    exact ⟨k, hk, has_drop h2 (by rw [h3]; exact hne) hi⟩
theorem apart_set {x : StM} (h : StOk x) {id : Int} {c : Comp} {e : Ent} (hne : e.1 ≠ id) (he : Has x e) : Has (x.set id c).2 e := by
  obtain ⟨k, hk, hi⟩ := he
  unfold StM.set
  split
  · exact ⟨k, hk, hi⟩
  · cases ha : x.at id with
    | none => exact ⟨k, hk, hi⟩
    | some p =>
      obtain ⟨m, i, a⟩ := p
      obtain ⟨_, _, _, h2, h3, _⟩ := h.at_some ha
      simp only
      split
      · refine ⟨k, hk, ?_⟩
        show e ∈ upd _ _ _ k
        by_cases hkm : k = m
        · subst hkm
          rw [upd_same]
          obtain ⟨j, hj⟩ := List.mem_iff_getElem?.1 hi
          refine List.mem_of_getElem? (i := j) ?_
          unfold setL
          rw [List.getElem?_modify, hj]
          have : i ≠ j := fun e2 => by subst e2; rw [h2] at hj; cases hj; exact hne h3
          simp [this]
        · rw [upd_other hkm]; exact hi
      · exact ⟨k, hk, hi⟩
theorem apart_turn {x : StM} (h : StOk x) {id : Int} {m i : Nat} {a : Ent} (ha : x.at id = some (m, i, a)) {l : List Comp} {e : Ent} (hne : e.1 ≠ id) (he : Has x e) : Has (x.turn id m i l) e := by
  obtain ⟨k, hk, hi⟩ := he
  obtain ⟨_, _, _, h2, h3, _⟩ := h.at_some ha
  exact ⟨k, hk, has_put (has_drop h2 (by rw [h3]; exact hne) hi)⟩
theorem apart_add {x : StM} (h : StOk x) {id : Int} {c : Comp} {e : Ent} (hne : e.1 ≠ id) (he : Has x e) : Has (x.add id c).2 e := by
  unfold StM.add
  split
  · exact he
  · cases ha : x.at id with
    | none => exact he
    | some p =>
      obtain ⟨m, i, a⟩ := p
      simp only
      split
      · exact he
      · exact apart_turn h ha hne he
theorem apart_remove {x : StM} (h : StOk x) {id k : Int} {e : Ent} (hne : e.1 ≠ id) (he : Has x e) : Has (x.remove id k).2 e := by
  unfold StM.remove
  cases ha : x.at id with
  | none => exact he
  | some p =>
    obtain ⟨m, i, a⟩ := p
    simp only
    split
    · exact apart_turn h ha hne he
    · exact he

/-! ### what comes in -/
abbrev slT : Ty := .sc .sl
theorem lists_arg : SlArg Try.prog 93 39 slT [39] :=
  ⟨by kernel_rfl, by kernel_rfl, by decide, by kernel_rfl, ⟨[.sl], by kernel_rfl, .inr ⟨.sl, rfl, rfl⟩⟩⟩
def ListIn (W : World) (r : Sl) (l : List Comp) : Prop := SlT (Old W) W compT r l ∧ (∀ c ∈ l, CompOk c) ∧ r.c ≤ maxLen
theorem lists_in {raws : List Sl} (h : ∀ r ∈ raws, AllLeaf enc Try.prog w [39] (slT.cells r)) : ∃ L, All2 (ListIn w) raws L := deep_of fun r hr => by
  obtain ⟨_, h⟩ := h r hr
  exact comps_leaf (h 0 _ _ rfl rfl)
abbrev Op11 := Int × Int × Sl
abbrev op11C (o : Op11) : List Value := [.int .u8 o.1, .int .i64 o.2.1, .slice o.2.2.a o.2.2.n o.2.2.c]
theorem i64_und : Try.prog.underlying 3 = some (.int .i64) := by kernel_rfl
theorem op11_arg : AggArg Try.prog 95 [.int .u8, .int .i64, .sl] [5, 3, 39] := ⟨by kernel_rfl, by kernel_rfl, by kernel_rfl⟩
structure OpIn (W : World) (o : Op11) (l : List Comp) : Prop where
  do_ : 0 ≤ o.1 ∧ o.1 ≤ 255
  who : -9223372036854775808 ≤ o.2.1 ∧ o.2.1 ≤ 9223372036854775807
  l : ListIn W o.2.2 l
theorem op11_in {o : Op11} (h : AllLeaf enc Try.prog w [5, 3, 39] (op11C o)) : ∃ l, OpIn w o l := by
  obtain ⟨_, h⟩ := h
  obtain ⟨_, e, h0⟩ := (h 0 _ _ rfl rfl).int u8_und
  cases e
  obtain ⟨_, e, h1⟩ := (h 1 _ _ rfl rfl).int i64_und
  cases e
  obtain ⟨l, hl⟩ := comps_leaf (s := o.2.2) (h 2 _ _ rfl rfl)
  exact ⟨l, wf_u8 h0, by simp [Lit.wf, IntKind.min, IntKind.max, IntKind.bits, IntKind.signed] at h1; omega, hl⟩

def fstC (l : List Comp) : Comp := match l with
  | [] => (0, 0, 0, 0)
  | c :: _ => c
theorem spec_l11_first {ok : Nat → Prop} {s : Sl} {l : List Comp} (hS : SlT ok w compT s l) {K : Res [.agg [.int .u8, .int .i32, .int .i32, .int .i32]] → W R} (hk : ∀ w', Fr None w w' → K (fstC l) Q w') : callW Try.prog k_pinnacelaw11_first [.slice s.a s.n s.c] [.agg [.int .u8, .int .i32, .int .i32, .int .i32]] K Q w := by
  refine C_pinnacelaw11_first _ K Q w ?_
  unfold F_pinnacelaw11_first
  have hlen := hS.len
  refine newI fun w1 B1 f1 _ => ?_
  cases l with
  | nil =>
    refine condT (by simp at hlen; simp [hlen]) (stoAll B1 rfl rfl fun w2 B2 f2 _ => aggI B2 (x := (0, 0, 0, 0)) rfl (hk w2 (f1.newer f2 fun k e => by omega)))
  | cons c r =>
    refine condF (by simp at hlen; simp [hlen]; omega) ((hS.fr0 f1).get (j := 0) rfl rfl (by simp) fun x hx => ?_)
    simp at hx
    subst hx
    exact stoAll B1 rfl rfl fun w2 B2 f2 _ => aggI B2 (x := c) rfl (hk w2 (f1.newer f2 fun k e => by omega))

/-! ### a map of entities -/
theorem ents_und : Try.prog.underlying 97 = some (.map 38 70) := by kernel_rfl
theorem ent_zero : (Try.prog.info? 70).bind (·.zero) = some (.agg #[.int .u32 0, .slice none 0 0]) := by kernel_rfl
abbrev entV (r : Int × Sl) : Value := .agg ⟨[.int .u32 r.1, .slice r.2.a r.2.n r.2.c]⟩
theorem entMapPut {b : Nat} {f : Int → Option Value} (h : MapB Try.prog 38 (Value.int .u32) w b f) {id : Int} (hid : IdOk id) (r : Int × Sl) {K : W R}
    (hk : ∀ w', MapB Try.prog 38 (Value.int .u32) w' b (fun j => if j = id then some (entV r) else f j) → Fr (fun k => k = b) w w' → K Q w') :
    rawU Try.prog (Instr.mapUpdate 97 (.map (some b)) (.int .u32 id) (entV r)) K Q w := by
  obtain ⟨w1, h1, h2, h3, h4⟩ := h.put id_keyed (intI _) ents_und (id_key hid) (entV r)
  exact ⟨w1, h1, hk w1 h2 h3⟩
theorem entMapLook {b : Nat} {f : Int → Option Value} (h : MapB Try.prog 38 (Value.int .u32) w b f) {id : Int} (hid : IdOk id) {r : Int × Sl} (hr : f id = some (entV r)) {K : (Int × Sl) → W R} (hk : K r Q w) :
    rawQ Try.prog (Instr.lookup 97 (.map (some b)) (.int .u32 id) false) [.agg [.int .u32, .sl]] K Q w := by
  refine ⟨r, ?_, hk⟩
  rw [h.look id_keyed ents_und ent_zero (id_key hid) false, hr]
  rfl

theorem law_StoreApart {W : World} {s : Sl} {raws : List Sl} {L : List (List Comp)} {o : Op11} {ol : List Comp} (hS : SlT (Old W) W slT s raws) (hL : All2 (ListIn W) raws L) (hcap : s.c ≤ maxLen) (ho : OpIn W o ol) :
    Calls Try.prog 11 #[.slice s.a s.n s.c, .agg ⟨op11C o⟩] W (fun e w' => e = .returned (.bool true) ∧ Fr None W w') := by
  refine calls_of (C_pinnacelaw11_StoreApart s o _ _ W ?_)
  unfold F_pinnacelaw11_StoreApart
  have hlen := hS.len
  have hsc := hS.cap
  rw [maxLen_eq] at hcap
  refine newI fun wa Ba fa sa => spec_l11_awake fun w1 f1 => condF rfl ?_
  have fW1 := fa.then0 f1
  have hW1 := fW1.size
  have hs1 := f1.size
  refine spec_store_New (fun h => absurd (by omega) h) fun b w2 _ st2 f2 => condF rfl ?_
  have hs2 := f2.size
  have B1 : Blk w1 W.heap.size 95 (op11C o) := Ba.fr f1 fun h => h
  refine forI (N := s.n) (fun s : Int => s) (fun j i w' => i = (j : Int) ∧ Fr None w1 w' ∧ ∃ x G, Store b x G w' ∧ ∀ r, G r → w1.heap.size ≤ r ∧ r < w'.heap.size) ⟨rfl, f2, _, _, st2.shut, fun r e => e⟩ (fun j s w' h => h.1) ?_ ?_
  · rintro j i w3 K' hj ⟨rfl, f3, x, G, st3, hG⟩ - hK
    have fW3 := fW1.then0 f3
    refine (hS.fr0 fW3).get rfl rfl (by omega) fun r hr => ?_
    obtain ⟨l, hl, hlS, hlok, hlc⟩ := hL.getL hr
    rw [maxLen_eq] at hlc
    have hln := hlS.len
    have hlcap := hlS.cap
    refine joinI (fun (_ : Unit) w' => Fr None w1 w' ∧ ∃ x G, Store b x G w' ∧ ∀ r, G r → w1.heap.size ≤ r ∧ r < w'.heap.size) ?_ fun _ w4 h => hK _ _ ⟨wsucc hj (by omega), h⟩
    refine condD (fun _ => ?_) fun _ => ⟨f3, x, G, st3, hG⟩
    refine (hlS.fr0 fW3).cutI (n := min l.length 20) (by split <;> omega) (by omega) fun sl _ hsl => ?_
    have hcut := hsl _ _ (hlS.fr0 fW3)
    have hsm : Small (l.take (min l.length 20)) := by show _ ≤ 1048576; simp; omega
    refine spec_r5_Twin hcut hsm fun tw w4 o4 f4 => ?_
    have hs4 := f4.size
    refine spec_store_Spawn (Store.st.fr0 st3 f4) o4.sl (fun r _ e e2 => by have := (hG r e2).2; omega) hsm (fun c hc => hlok c (List.mem_of_mem_take hc)) fun w5 st5 f5 => ?_
    refine ⟨(f3.then0 f4).newer f5 fun r e => (hG r e).1, _, _, Store.shut st5, fun r e => ⟨?_, e.2⟩⟩
    rcases e.1 with h | h
    · exact (hG r h).1
    · have := f3.size; omega
  rintro i w3 ⟨-, f3, x, G, st3, hG⟩
  have fW3 := fW1.then0 f3
  have hs3 := f3.size
  have hokx := (Store.open_ st3).1
  refine spec_store_List st3 fun rl w4 l4 f4 => ?_
  have hrn := l4.len
  have hlist := hokx.s.list_le
  have fW4 := fW3.then0 f4
  refine condE (fun _ => ⟨rfl, fW4⟩) fun hne => ?_
  have B4 : Blk w4 W.heap.size 95 (op11C o) := B1.fr (f3.then0 f4) fun h => h
  have eu : IntKind.wrap .u64 (rl.n : Int) = (rl.n : Int) := by rw [IntKind.wrap_u64]; omega
  have hwho := wrap64_range o.2.1
  refine fldI B4 (x := o.2.1) rfl ?_
  rw [eu]
  have et : IntKind.wrap .i64 (Int.tmod (IntKind.wrap .u64 o.2.1) (rl.n : Int)) = (((IntKind.wrap .u64 o.2.1).toNat % rl.n : Nat) : Int) := by
    generalize IntKind.wrap .u64 o.2.1 = u at hwho
    have e1 : u = ((u.toNat : Nat) : Int) := by omega
    have hlt := Nat.mod_lt u.toNat (show 0 < rl.n by omega)
    rw [Int.tmod_eq_emod_of_nonneg hwho.1, e1, ← Int.natCast_emod, Int.toNat_natCast, w64 (by omega)]
  rw [et]
  have hqlt := Nat.mod_lt (IntKind.wrap .u64 o.2.1).toNat (show 0 < rl.n by omega)
  generalize (IntKind.wrap .u64 o.2.1).toNat % rl.n = q at hqlt
  refine chkI (by omega) (l4.get (j := q) rfl rfl (by omega) fun id hid => ?_)
  obtain ⟨hlive, hidok⟩ := hokx.s.list_id (List.mem_of_getElem? hid)
  refine mapNewI ?_
  have fm : Fr None w4 (w4.alloc (.map #[] 0)) := (Fr.refl None w4).alloc _
  have hm0 := MapB.made (P := Try.prog) (k := 38) (ke := Value.int .u32) w4
  have hsm5 : (w4.alloc (.map #[] 0)).heap.size = w4.heap.size + 1 := by simp
  generalize w4.alloc (.map #[] 0) = w5 at fm hm0 hsm5
  have hs4 := f4.size
  have st5 : Store b x G w5 := Store.st.fr0 st3 (f4.then0 fm)
  have f15 := (f3.then0 f4).then0 fm
  have fW5 := fW1.then0 f15
  let V : Nat → Prop := fun r => w5.heap.size ≤ r
  refine forI (N := rl.n) (fun s : Int => s) (fun j i w' => i = (j : Int) ∧ Fr (fun k => k = w4.heap.size) w5 w' ∧ ∃ f, MapB Try.prog 38 (Value.int .u32) w' w4.heap.size f ∧ ∀ p y, p < j → x.s.list[p]? = some y → ∃ sl, f y = some (entV ((x.ent y).1.1, sl)) ∧ SlT (fun r => V r ∧ r < w'.heap.size) w' compT sl (x.ent y).1.2)
    ⟨rfl, Fr.refl _ _, _, hm0, fun p y hp => by omega⟩ (fun j s w' h => h.1) ?_ ?_
  · rintro j i w6 K' hj ⟨rfl, f6, f, hm6, hf⟩ - hK
    have hs6 := f6.size
    have k6 : ∀ r, G r → ¬ (r = w4.heap.size) := fun r e => by have := (hG r e).2; omega
    refine (SlT.st (F := fun r => w3.heap.size ≤ r ∧ r < w4.heap.size) (F' := fun r => w3.heap.size ≤ r ∧ r < w4.heap.size) ((l4.mono fun r hr e => ⟨e, hr⟩).fr0 fm) f6 fun r _ e => ⟨fun e2 => by omega, e⟩).get rfl rfl (by omega) fun y hy => ?_
    have hyid := hokx.s.list_id (List.mem_of_getElem? hy)
    refine spec_store_EntM (Store.st.fr st5 f6 k6) hyid.2 fun sl w7 o7 f7 => ?_
    have hs7 := f7.size
    refine entMapPut (hm6.fr f7 fun h => h) hyid.2 ((x.ent y).1.1, sl) fun w8 hm8 f8 => ?_
    have hs8 := f8.size
    refine hK _ _ ⟨wsucc hj (by omega), (f6.then f7.any).then f8, _, hm8, fun p z hp hz => ?_⟩
    have os7 : SlT (fun r => V r ∧ r < w8.heap.size) w8 compT sl (x.ent y).1.2 := SlT.st o7.sl f8 fun r hr e => by
      have e : w6.heap.size ≤ r := e
      exact ⟨by omega, show w5.heap.size ≤ r by omega, by omega⟩
    by_cases hzy : z = y
    · subst hzy
      exact ⟨sl, if_pos rfl, os7⟩
    · have hpj : p < j := by
        rcases Nat.lt_succ_iff_lt_or_eq.1 hp with h | h
        · exact h
        · subst h; rw [hy] at hz; exact absurd (Option.some.inj hz).symm hzy
      obtain ⟨sl2, h1, h2⟩ := hf p z hpj hz
      refine ⟨sl2, by rw [if_neg hzy]; exact h1, SlT.st h2 (f7.any.then f8) fun r hr e => ?_⟩
      have e1 : w5.heap.size ≤ r := e.1
      exact ⟨by omega, e1, by omega⟩
  rintro i w6 ⟨-, f6, f, hm6, hf⟩
  have hs6 := f6.size
  have k6 : ∀ r, G r → ¬ (r = w4.heap.size) := fun r e => by have := (hG r e).2; omega
  have st6 := Store.st.fr st5 f6 k6
  have fW6 : Fr None W w6 := fW5.newer f6 fun r e => by omega
  have B6 : Blk w6 W.heap.size 95 (op11C o) := (B4.fr fm fun h => h).fr f6 fun e => by have := Ba.lt; omega
  refine fldI B6 (x := o.2.2) rfl (spec_l11_first (ho.l.1.fr0 fW6) fun w7 f7 => ?_)
  generalize hcc : fstC ol = c
  have hco : CompOk c ∨ c = (0, 0, 0, 0) := by
    cases ol with
    | nil => exact .inr hcc.symm
    | cons c' r => exact .inl (by rw [← hcc]; exact ho.l.2.1 _ (by simp [fstC]))
  have hc0 : 0 ≤ c.1 := by
    rcases hco with h | h
    · exact h.1.1
    · rw [h]; decide
  have hs7 := f7.size
  refine newI fun w8 B8 f8 s8 => stoAll B8 rfl rfl fun w9 B9 f9 s9 => ?_
  have f79 : Fr None w7 w9 := f8.newer f9 fun r e => by omega
  have f69 := f7.then0 f79
  have hs9 := f69.size
  refine fldI (B6.fr f69 fun h => h) (x := o.1) rfl ?_
  have st9 := Store.st.fr0 st6 f69
  have hok9 := (Store.open_ st9).1
  -- what is done
  refine joinI (fun (_ : Unit) w' => Fr G w9 w' ∧ ∃ x', Store b x' (Ex G w9) w' ∧ ∀ e : Ent, e.1 ≠ id → Has x e → Has x' e) ?_ ?_
  · refine condI (fun _ => ?_) fun _ => ?_
    · exact spec_store_Despawn st9 hidok fun w10 st10 f10 => ⟨f10, _, st10, fun e h1 h2 => apart_despawn hok9 h1 h2⟩
    refine joinK (condI (fun _ => ?_) fun _ => ?_)
    · exact aggI B9 (x := c) rfl (spec_store_Set st9 hidok (c := c) fun w10 st10 f10 => ⟨f10, _, Store.st.mono st10 fun r _ e => .inl e, fun e h1 h2 => apart_set hok9 h1 h2⟩)
    refine joinK (condI (fun _ => ?_) fun _ => ?_)
    · exact aggI B9 (x := c) rfl (spec_store_Add st9 hidok (c := c) fun w10 st10 f10 => ⟨f10, _, st10, fun e h1 h2 => apart_add hok9 h1 h2⟩)
    · exact fldI B9 (x := c.1) rfl (spec_store_Remove st9 hidok hc0 fun w10 st10 f10 => ⟨f10, _, st10, fun e h1 h2 => apart_remove hok9 h1 h2⟩)
  rintro _ w10 ⟨f10, x', st10, happ⟩
  have hs10 := f10.size
  have hokx' := (Store.open_ st10).1
  have f610 : Fr G w6 w10 := f69.any.then f10
  have hm10 : MapB Try.prog 38 (Value.int .u32) w10 w4.heap.size f := hm6.fr f610 fun e => by have := (hG _ e).2; omega
  have hf10 : ∀ p y, x.s.list[p]? = some y → ∃ sl, f y = some (entV ((x.ent y).1.1, sl)) ∧ SlT (fun r => V r ∧ r < w6.heap.size) w10 compT sl (x.ent y).1.2 := fun p y hy => by
    obtain ⟨sl, h1, h2⟩ := hf p y (by have := (List.getElem?_eq_some_iff.1 hy).1; omega) hy
    exact ⟨sl, h1, SlT.st h2 f610 fun r _ e => ⟨fun e2 => by have := (hG _ e2).2; have h3 : w5.heap.size ≤ r := e.1; omega, e⟩⟩
  have l10 : SlT (fun r => w3.heap.size ≤ r ∧ r < w4.heap.size) w10 idT rl x.s.list := SlT.st (F' := fun r => w3.heap.size ≤ r ∧ r < w4.heap.size) (SlT.st (F := fun r => w3.heap.size ≤ r ∧ r < w4.heap.size) (F' := fun r => w3.heap.size ≤ r ∧ r < w4.heap.size) ((l4.mono fun r hr e => ⟨e, hr⟩).fr0 fm) f6 fun r _ e => ⟨fun e2 => by omega, e⟩) f610 fun r _ e => ⟨fun e2 => by have := (hG _ e2).2; omega, e⟩
  have fin : Fr None W w10 := (fW6.then0 f69).newer f10 fun r e => by have := (hG r e).1; omega
  refine forI (N := rl.n) (fun s : Int => s) (fun j i w' => i = (j : Int) ∧ Fr None w10 w') ⟨rfl, Fr.refl _ _⟩ (fun j s w' h => h.1) ?_ fun i w' ⟨_, f'⟩ => ⟨rfl, fin.then0 f'⟩
  rintro j i w11 K' hj ⟨rfl, f11⟩ - hK
  refine (l10.fr0 f11).get rfl rfl (by omega) fun y hy => ?_
  have hyid := hokx.s.list_id (List.mem_of_getElem? hy)
  refine spec_store_EntM (Store.st.fr0 st10 f11) hyid.2 fun sl w12 o12 f12 => ?_
  refine newI fun w13 B13 f13 s13 => stoAll B13 rfl rfl fun w14 B14 f14 s14 => ?_
  have f1214 : Fr None w12 w14 := f13.newer f14 fun r e => by omega
  have f1114 := f12.then0 f1214
  have f1014 := f11.then0 f1114
  refine joinI (fun z w' => z = false ∧ Fr None w14 w') ?_ ?_
  · refine condN (fun hyne => ?_) fun _ => ⟨rfl, Fr.refl _ _⟩
    obtain ⟨e, he, hey, hent⟩ := hokx.has_of hyid.1
    have hent' := hokx'.ent_has (happ e (by rw [hey]; exact hyne) he)
    rw [hey] at hent'
    obtain ⟨sl2, h1, h2⟩ := hf10 j y hy
    rw [hent] at h1 h2
    rw [hent'] at B14 o12 ⊢
    refine condF rfl (aggI B14 (x := (e.1, sl)) rfl (entMapLook (hm10.fr f1014 fun h => h) hyid.2 (r := (e.1, sl2)) h1 ?_))
    have hsm := hokx'.ent_small y
    rw [hent'] at hsm
    refine spec_r10_SameEnt (id := e.1) (id2 := e.1) (s := sl) (s2 := sl2) (o12.sl.fr0 f1214) (h2.fr0 f1014) (by show e.2.length ≤ 1048576; simp only at hsm; omega) fun w15 f15 => ⟨by simp, f15⟩
  · rintro z w15 ⟨rfl, f15⟩
    exact condF rfl (hK _ _ ⟨wsucc hj (by omega), f1014.then0 f15⟩)

/-! ### the row -/
set_option maxRecDepth 100000 in
theorem storeApart_lifted (os : Os) (started : os.Started) (H : Type) (enc : TypeId × Value → H) :
    ReturnsInHanded {} Try.checked os 11 .any (Rows.storeApartSpec.pre6 enc Try.prog Try.f11 Rows.storeApartRow.domain false) (Rows.storeApartSpec.post enc Try.prog Try.f11 false true false false) := by
  refine returnsInHanded_of_change (C := Try.checked) own_knob started (by kernel_rfl) Try.func11
    (ChangeSpec.witness6 (enc := enc) (C := Try.checked) false ⟨#[], #[.slice none 0 0, .agg #[.int .u8 0, .int .i64 0, .slice none 0 0]], []⟩ 8 (by kernel_rfl) (by kernel_rfl) (by kernel_rfl) (by kernel_rfl)) ?_
  intro W base args ds gs before hval0 hW hcnd _
  have hval : ∀ (j : Nat) t v, Try.f11.params[j]? = some t → args[j]? = some v → Value.okWide Try.prog W .any base t v := hval0
  have hW' := hW
  obtain ⟨p, q, hA0, hV, rfl, hfz, hnd⟩ := hW
  have hA : DataW.TrodAll enc Try.prog W 0 (fun _ => true) true Try.f11.params.toList args.toList ds p := hA0
  rw [Try.params11] at hA hval
  obtain ⟨v0, v1, d0, d1, p0, p1, rfl, rfl, rfl, h0, h1⟩ := trodAll_two hA
  obtain ⟨s0, l0, rfl, S0, c0, e0⟩ := arg_slice lists_arg (hval 0 _ v0 rfl rfl) h0
  obtain ⟨L0, O0⟩ := lists_in fun r hr => e0 r hr
  obtain ⟨x1, rfl, e1⟩ := arg_agg op11_arg (hval 1 _ v1 rfl rfl) h1
  obtain ⟨o1, O1⟩ := op11_in e1
  refine (law_StoreApart S0 O0 c0 O1).mono fun e W' ⟨he, hf⟩ => ?_
  subst he
  exact ⟨_, rfl, law_post laid_out bool_und (by kernel_rfl) (by rw [Try.params11]; decide +kernel) rfl ⟨rfl, rfl, rfl⟩ hW' hf⟩

theorem storeApart_holds : Rows.StoreApartSaid :=
  OpenClaim.holds_of_wide 11 Try.f11 rfl rfl rfl rfl rfl rfl rfl ⟨rfl, rfl, rfl, rfl, rfl⟩ rfl rfl rfl rfl rfl (by kernel_rfl) Try.func11 (by kernel_rfl)
    (of_decide_eq_true (by kernel_rfl)) (by unfold Func.isWrapper; first | (rw [if_pos (by decide +kernel)]; kernel_rfl) | (rw [if_neg (by decide +kernel)]; exact ⟨rfl, rfl⟩))
    (fun os started H enc _ => storeApart_lifted os started H enc)

end Go.Proofs.Ytecmpmnaeciapaa
