/-
  StorePlays: its Go text answers true, whatever the input.
-/
import Derived.Test.YtecmpmnaeciapaaGreatPly2
namespace Go.Proofs.YtecmpmnaeciapaaGreat
open Go Go.RowKit Go.ChangeShapes Go.WideShapes Go.ChangeAt Go.Proofs.YtecmpmnaeciapaaGreat.Den
variable {R : Type} {Q : R → World → Prop} {w : World} {H : Type} {enc : TypeId × Value → H}

/-! ### no store -/
theorem spec_r11_Spawn0 {r : Sl} {K : Res [.sc (.int .u32), .sc (.int .i64)] → W R} (hk : K (0, 10) Q w) : callW Tryz.prog k_pinnaceref11_Spawn [.pointer none, .slice r.a r.n r.c] [.sc (.int .u32), .sc (.int .i64)] K Q w := C_pinnaceref11_Spawn _ _ K Q w (condT rfl hk)
theorem spec_r11_Ent0 {id : Int} {K : Res [.agg [.int .u32, .sl], .sc (.int .i64)] → W R} (hk : ∀ w', Fr None w w' → K ((0, ⟨none, 0, 0⟩), 10) Q w') : callW Tryz.prog k_pinnaceref11_Ent [.pointer none, .int .u32 id] [.agg [.int .u32, .sl], .sc (.int .i64)] K Q w := by
  refine C_pinnaceref11_Ent _ _ K Q w ?_
  unfold F_pinnaceref11_Ent
  refine newI fun w1 B1 f1 _ => condT rfl (stoAll B1 rfl rfl fun w2 B2 f2 _ => aggI B2 (x := ((0 : Int), (⟨none, 0, 0⟩ : Sl))) rfl (hk w2 (f1.newer f2 fun k e => by omega)))
theorem spec_r11_Despawn0 {id : Int} {K : Res [.sc (.int .i64)] → W R} (hk : ∀ w', Fr None w w' → K 10 Q w') : callW Tryz.prog k_pinnaceref11_Despawn [.pointer none, .int .u32 id] [.sc (.int .i64)] K Q w := by
  refine C_pinnaceref11_Despawn _ _ K Q w ?_
  unfold F_pinnaceref11_Despawn
  refine spec_r11_Ent0 fun w1 f1 => newI fun w2 B2 f2 _ => stoAll B2 rfl rfl fun w3 B3 f3 _ => condT rfl (hk w3 (f1.then0 (f2.newer f3 fun k e => by omega)))
theorem spec_r11_Remove0 {id k : Int} {K : Res [.sc (.int .i64)] → W R} (hk : ∀ w', Fr None w w' → K 10 Q w') : callW Tryz.prog k_pinnaceref11_Remove [.pointer none, .int .u32 id, .int .u8 k] [.sc (.int .i64)] K Q w := by
  refine C_pinnaceref11_Remove _ _ _ K Q w ?_
  unfold F_pinnaceref11_Remove
  refine spec_r11_Ent0 fun w1 f1 => newI fun w2 B2 f2 _ => stoAll B2 rfl rfl fun w3 B3 f3 _ => condT rfl (hk w3 (f1.then0 (f2.newer f3 fun k e => by omega)))
theorem spec_r11_Get0 {id k : Int} {K : Res [.agg [.int .u8, .int .i32, .int .i32, .int .i32], .sc (.int .i64)] → W R} (hk : ∀ w', Fr None w w' → K ((0, 0, 0, 0), 10) Q w') : callW Tryz.prog k_pinnaceref11_Get [.pointer none, .int .u32 id, .int .u8 k] [.agg [.int .u8, .int .i32, .int .i32, .int .i32], .sc (.int .i64)] K Q w := by
  refine C_pinnaceref11_Get _ _ _ K Q w ?_
  unfold F_pinnaceref11_Get
  refine newI fun w1 B1 f1 s1 => spec_r11_Ent0 fun w2 f2 => newI fun w3 B3 f3 s3 => stoAll B3 rfl rfl fun w4 B4 f4 s4 => condT rfl ?_
  have hs2 := f2.size
  have f24 : Fr None w2 w4 := f3.newer f4 fun k e => by omega
  have f14 := f2.then0 f24
  refine stoAll (B1.fr f14 fun h => h) rfl rfl fun w5 B5 f5 _ => aggI B5 (x := (0, 0, 0, 0)) rfl (hk w5 ((f1.then0 f14).newer f5 fun k e => by omega))
theorem spec_r11_Set0 {id : Int} {c : Comp} {K : Res [.sc (.int .i64)] → W R} (hk : ∀ w', Fr None w w' → K 10 Q w') : callW Tryz.prog k_pinnaceref11_Set [.pointer none, .int .u32 id, .agg ⟨compC c⟩] [.sc (.int .i64)] K Q w := by
  refine C_pinnaceref11_Set _ _ _ K Q w ?_
  unfold F_pinnaceref11_Set
  exact newI fun w1 B1 f1 _ => condT rfl (hk w1 f1)
theorem spec_r11_Add0 {id : Int} {c : Comp} {K : Res [.sc (.int .i64)] → W R} (hk : ∀ w', Fr None w w' → K 10 Q w') : callW Tryz.prog k_pinnaceref11_Add [.pointer none, .int .u32 id, .agg ⟨compC c⟩] [.sc (.int .i64)] K Q w := by
  refine C_pinnaceref11_Add _ _ _ K Q w ?_
  unfold F_pinnaceref11_Add
  exact newI fun w1 B1 f1 _ => condT rfl (hk w1 f1)

/-! ### a store and the document's -/
def Pair (pa pb : Option Addr) : OB := fun F w => (pa = none ∧ pb = none) ∨ ∃ b b2 x FA FB, pa = some ⟨b, 0, none⟩ ∧ pb = some ⟨b2, 0, none⟩ ∧ Store b x FA w ∧ R11 b2 x FB w ∧ (∀ r, FA r → F r ∧ r < w.heap.size) ∧ (∀ r, FB r → F r ∧ ¬ FA r ∧ r < w.heap.size)
theorem Pair.st {pa pb : Option Addr} : St (Pair pa pb) := fun {F F' S w w'} h f hs => by
  have hz := f.size
  rcases h with h | ⟨b, b2, x, FA, FB, h1, h2, h3, h4, h5, h6⟩
  · exact .inl h
  · refine .inr ⟨b, b2, x, FA, FB, h1, h2, Store.st.fr h3 f fun k e => (hs k (h5 k e).2 (h5 k e).1).1, R11.st.fr h4 f fun k e => (hs k (h6 k e).2.2 (h6 k e).1).1, fun r e => ⟨(hs r (h5 r e).2 (h5 r e).1).2, by have := (h5 r e).2; omega⟩, fun r e => ⟨(hs r (h6 r e).2.2 (h6 r e).1).2, (h6 r e).2.1, by have := (h6 r e).2.2; omega⟩⟩
theorem Pair.next {b b2 : Nat} {x : StM} {F FA FB : Nat → Prop} {w wa wb wc : World} (sA : Store b x (Ex FA w) wa) (fA : Fr FA w wa) (hFA : ∀ r, FA r → F r ∧ r < w.heap.size) (hFB : ∀ r, FB r → F r ∧ ¬ FA r ∧ r < w.heap.size)
    (fab : Fr None wa wb) (sB : R11 b2 x (Ex FB wb) wc) (fB : Fr FB wb wc) : Pair (some ⟨b, 0, none⟩) (some ⟨b2, 0, none⟩) (Ex F w) wc ∧ Fr F w wc := by
  have h1 := fA.size
  have h2 := fab.size
  have h3 := fB.size
  refine ⟨.inr ⟨b, b2, x, fun r => Ex FA w r ∧ r < wa.heap.size, fun r => Ex FB wb r ∧ r < wc.heap.size, rfl, rfl, ?_, sB.shut, fun r e => ⟨?_, by omega⟩, fun r e => ⟨?_, fun e2 => ?_, e.2⟩⟩, (fA.sub fun r e => (hFA r e).1).then (fab.any.then (fB.sub fun r e => (hFB r e).1))⟩
  · refine Store.st.fr (Store.st.fr0 (Store.shut sA) fab) fB fun r e e2 => ?_
    rcases e.1 with h | h
    · exact (hFB r e2).2.1 h
    · have := (hFB r e2).2.2; omega
  · rcases e.1 with h | h
    · exact .inl (hFA r h).1
    · exact .inr h
  · rcases e.1 with h | h
    · exact .inl (hFB r h).1
    · exact .inr (by omega)
  · rcases e.1 with h | h
    · rcases e2.1 with h4 | h4
      · exact (hFB r h).2.1 h4
      · have := (hFB r h).2.2; omega
    · omega
theorem spawn_id {x : StM} (h : StOk x) (l : List Comp) : IdOk (x.spawn l).1 := by
  unfold StM.spawn
  split
  · exact ⟨Int.le_refl 0, show (0 : Int) ≤ 4294967295 by decide⟩
  · cases ht : x.s.take with
    | none => exact ⟨Int.le_refl 0, show (0 : Int) ≤ 4294967295 by decide⟩
    | some p =>
      obtain ⟨id, s'⟩ := p
      exact (h.s.take_live ht).2.2.1

theorem spec_both {n gen : Int} {K : (Option Addr × Int) → (Option Addr × Int) → W R} (hk : ∀ pa pb e w3, Option.isNone pa = Option.isNone pb → Fr None w w3 → Pair pa pb (fun r => w.heap.size ≤ r ∧ r < w3.heap.size) w3 → K (pa, e) (pb, e) Q w3) :
    callW Tryz.prog k_store_New [.int .i64 n, .int .i64 gen] [.sc .ptr, .sc (.int .i64)] (fun x => callW Tryz.prog k_pinnaceref11_New [.int .i64 n, .int .i64 gen] [.sc .ptr, .sc (.int .i64)] fun y => K x y) Q w := by
  refine spec_store_New (fun hn => spec_r11_New (fun _ => hk none none 1 w rfl (Fr.refl _ _) (.inl ⟨rfl, rfl⟩)) fun b2 w2 hy => absurd hy hn) fun b w2 hy sA f2 => ?_
  refine spec_r11_New (fun hn => absurd hy hn) fun b2 w3 _ sB f3 => ?_
  have hs2 := f2.size
  have hs3 := f3.size
  exact hk _ _ 0 w3 rfl (f2.then0 f3) (.inr ⟨b, b2, _, fun r => w.heap.size ≤ r ∧ r < w2.heap.size, fun r => w2.heap.size ≤ r ∧ r < w3.heap.size, rfl, rfl, Store.st.fr0 (Store.shut sA) f3, R11.shut sB, fun r e => ⟨⟨e.1, by omega⟩, by omega⟩, fun r e => ⟨⟨by omega, e.2⟩, fun e2 => by omega, e.2⟩⟩)

/-! ### what is done to both -/
section
variable {pa pb : Option Addr} {F : Nat → Prop} {bb : Nat} {T : TypeId} {cs : List Value}
theorem pair_Spawn (h : Pair pa pb F w) (B : Blk w bb T cs) (hb : ¬ F bb) {sl mine : Sl} (hx : cs[2]? = some (.slice sl.a sl.n sl.c)) {ok ok2 : Nat → Prop} {l : List Comp} (hS : SlT ok w compT sl l) (hd : ∀ k, k < w.heap.size → ok k → ¬ F k)
    (hM : SlT ok2 w compT mine l) (hd2 : ∀ k, k < w.heap.size → ok2 k → ¬ F k) (hsm : Small l) (hl : ∀ c ∈ l, CompOk c) {K : Int × Int → Int × Int → W R} (hk : ∀ v w', IdOk v.1 → Pair pa pb (Ex F w) w' → Fr F w w' → K v v Q w') :
    (callW Tryz.prog k_store_Store_Spawn [.pointer pa, .slice mine.a mine.n mine.c] [.sc (.int .u32), .sc (.int .i64)] fun (x : Int × Int) => ld (.sc .sl) (Addr.add ⟨bb, 0, none⟩ 2) fun (y : Sl) =>
      callW Tryz.prog k_pinnaceref11_Spawn [.pointer pb, .slice y.a y.n y.c] [.sc (.int .u32), .sc (.int .i64)] fun (z : Int × Int) => K x z) Q w := by
  rcases h with ⟨rfl, rfl⟩ | ⟨b, b2, x, FA, FB, rfl, rfl, sA, sB, hA, hB⟩
  · exact spec_store_Spawn0 (fldI B (i := 2) (x := sl) hx (spec_r11_Spawn0 (hk (0, 10) w ⟨Int.le_refl 0, show (0 : Int) ≤ 4294967295 by decide⟩ (.inl ⟨rfl, rfl⟩) (Fr.refl _ _))))
  · have hok := (Store.open_ sA).1
    refine spec_store_Spawn sA hM (fun k hk e e2 => hd2 k hk e (hA k e2).1) hsm hl fun w2 sA2 f2 => ?_
    have B2 := B.fr f2 fun e => hb (hA bb e).1
    have hS2 : SlT (fun k => ok k ∧ k < w.heap.size) w2 compT sl l := SlT.st (F := fun k => ok k ∧ k < w.heap.size) (hS.mono fun k hk e => ⟨e, hk⟩) f2 fun k hk e => ⟨fun e2 => hd k hk e.1 (hA k e2).1, e⟩
    refine fldI B2 (i := 2) (x := sl) hx ?_
    refine spec_r11_Spawn (R11.st.fr sB f2 fun k e e2 => (hB k e).2.1 e2) hS2 (fun k hk e e2 => hd k e.2 e.1 (hB k e2).1) hsm hl fun w4 sB4 f4 => ?_
    obtain ⟨h1, h2⟩ := Pair.next (F := F) sA2 f2 hA hB (Fr.refl _ _) sB4 f4
    exact hk _ w4 (spawn_id hok l) h1 h2
theorem pair_Despawn (h : Pair pa pb F w) {id : Int} (hid : IdOk id) {K : Int → Int → W R} (hk : ∀ v w', Pair pa pb (Ex F w) w' → Fr F w w' → K v v Q w') :
    (callW Tryz.prog k_store_Store_Despawn [.pointer pa, .int .u32 id] [.sc (.int .i64)] fun (x : Int) => callW Tryz.prog k_pinnaceref11_Despawn [.pointer pb, .int .u32 id] [.sc (.int .i64)] fun (z : Int) => K x z) Q w := by
  rcases h with ⟨rfl, rfl⟩ | ⟨b, b2, x, FA, FB, rfl, rfl, sA, sB, hA, hB⟩
  · exact spec_store_Despawn0 (spec_r11_Despawn0 fun w1 f1 => hk 10 w1 (.inl ⟨rfl, rfl⟩) f1.any)
  · refine spec_store_Despawn sA hid fun w2 sA2 f2 => ?_
    refine spec_r11_Despawn (R11.st.fr sB f2 fun k e e2 => (hB k e).2.1 e2) hid fun w4 sB4 f4 => ?_
    obtain ⟨h1, h2⟩ := Pair.next (F := F) sA2 f2 hA hB (Fr.refl _ _) sB4 f4
    exact hk _ w4 h1 h2
theorem pair_Set (h : Pair pa pb F w) (B : Blk w bb T cs) (hb : ¬ F bb) {sl : Sl} (hx : cs[2]? = some (.slice sl.a sl.n sl.c)) {ok : Nat → Prop} {l : List Comp} (hS : SlT ok w compT sl l) (hd : ∀ k, k < w.heap.size → ok k → ¬ F k) {id : Int} (hid : IdOk id) (hc0 : 0 ≤ (fstC l).1) {K : Int → Int → W R}
    (hk : ∀ v w', Pair pa pb (Ex F w) w' → Fr F w w' → K v v Q w') :
    (drawW <| ld (.sc .sl) (Addr.add ⟨bb, 0, none⟩ 2) fun (x : Sl) => ld (.sc .sl) (Addr.add ⟨bb, 0, none⟩ 2) fun (y : Sl) =>
      callW Tryz.prog k_pinnacelaw11_first [.slice x.a x.n x.c] [.agg [.int .u8, .int .i32, .int .i32, .int .i32]] fun (c : Comp) =>
      andW (fun w => Rd w (Addr.add ⟨bb, 0, none⟩ 2) (.sc .sl) y) <| callW Tryz.prog k_store_Store_Set [.pointer pa, .int .u32 id, .agg ⟨[.int .u8 c.1, .int .i32 c.2.1, .int .i32 c.2.2.1, .int .i32 c.2.2.2]⟩] [.sc (.int .i64)] fun (z : Int) =>
      andW (fun w => Rd w (Addr.add ⟨bb, 0, none⟩ 2) (.sc .sl) y) <| callW Tryz.prog k_pinnacelaw11_first [.slice y.a y.n y.c] [.agg [.int .u8, .int .i32, .int .i32, .int .i32]] fun (c : Comp) =>
      callW Tryz.prog k_pinnaceref11_Set [.pointer pb, .int .u32 id, .agg ⟨[.int .u8 c.1, .int .i32 c.2.1, .int .i32 c.2.2.1, .int .i32 c.2.2.2]⟩] [.sc (.int .i64)] fun (z2 : Int) => K z z2) Q w := by
  have fd : Fr None w w.drew := (Fr.refl _ _).drew
  have Bd := B.fr fd fun h => h
  refine fldI Bd (i := 2) (x := sl) hx (fldI Bd (i := 2) (x := sl) hx ?_)
  refine spec_l11_first (hS.fr0 fd) fun w1 f1 => ?_
  have f01 := fd.then0 f1
  refine andI ((B.fr f01 fun h => h).rd (s := .sl) (i := 2) (x := sl) hx) ?_
  have hs1 := f01.size
  rcases h with ⟨rfl, rfl⟩ | ⟨b, b2, x, FA, FB, rfl, rfl, sA, sB, hA, hB⟩
  · refine spec_store_Set0 fun w2 f2 => ?_
    have f02 := f01.then0 f2
    refine andI ((B.fr f02 fun h => h).rd (s := .sl) (i := 2) (x := sl) hx) (spec_l11_first (hS.fr0 f02) fun w3 f3 => spec_r11_Set0 fun w4 f4 => hk 10 w4 (.inl ⟨rfl, rfl⟩) ((f02.then0 f3).then0 f4).any)
  · refine spec_store_Set (Store.st.fr0 sA f01) hid (c := fstC l) fun w2 sA2 f2 => ?_
    have f02 : Fr FA w w2 := f01.any.then f2
    have B2 := B.fr f02 fun e => hb (hA bb e).1
    have hS2 : SlT ok w2 compT sl l := SlT.st (F := fun k => ok k ∧ k < w.heap.size) (F' := ok) (hS.mono fun k hk e => ⟨e, hk⟩) f02 fun k hk e => ⟨fun e2 => hd k hk e.1 (hA k e2).1, e.1⟩
    refine andI (B2.rd (s := .sl) (i := 2) (x := sl) hx) (spec_l11_first hS2 fun w3 f3 => ?_)
    have hs2 := f2.size
    have hs3 := f3.size
    refine spec_r11_Set (R11.st.fr sB (f02.then f3.any) fun k e e2 => (hB k e).2.1 e2) hc0 fun w4 sB4 f4 => ?_
    obtain ⟨h1, h2⟩ := Pair.next (F := F) (Store.st.mono sA2 fun k _ e => by
      first
        | exact .inl e
        | (rcases e with e | e; exact .inl e; exact .inr (by omega))) f02 hA hB f3 (R11.st.mono sB4 fun k _ e => by
      first
        | exact .inl e
        | (rcases e with e | e; exact .inl e; exact .inr (by omega))) f4
    exact hk _ w4 h1 h2
theorem pair_Add (h : Pair pa pb F w) (B : Blk w bb T cs) (hb : ¬ F bb) {sl : Sl} (hx : cs[2]? = some (.slice sl.a sl.n sl.c)) {ok : Nat → Prop} {l : List Comp} (hS : SlT ok w compT sl l) (hd : ∀ k, k < w.heap.size → ok k → ¬ F k) {id : Int} (hid : IdOk id) (hc0 : 0 ≤ (fstC l).1) {K : Int → Int → W R}
    (hk : ∀ v w', Pair pa pb (Ex F w) w' → Fr F w w' → K v v Q w') :
    (drawW <| ld (.sc .sl) (Addr.add ⟨bb, 0, none⟩ 2) fun (x : Sl) => ld (.sc .sl) (Addr.add ⟨bb, 0, none⟩ 2) fun (y : Sl) =>
      callW Tryz.prog k_pinnacelaw11_first [.slice x.a x.n x.c] [.agg [.int .u8, .int .i32, .int .i32, .int .i32]] fun (c : Comp) =>
      andW (fun w => Rd w (Addr.add ⟨bb, 0, none⟩ 2) (.sc .sl) y) <| callW Tryz.prog k_store_Store_Add [.pointer pa, .int .u32 id, .agg ⟨[.int .u8 c.1, .int .i32 c.2.1, .int .i32 c.2.2.1, .int .i32 c.2.2.2]⟩] [.sc (.int .i64)] fun (z : Int) =>
      andW (fun w => Rd w (Addr.add ⟨bb, 0, none⟩ 2) (.sc .sl) y) <| callW Tryz.prog k_pinnacelaw11_first [.slice y.a y.n y.c] [.agg [.int .u8, .int .i32, .int .i32, .int .i32]] fun (c : Comp) =>
      callW Tryz.prog k_pinnaceref11_Add [.pointer pb, .int .u32 id, .agg ⟨[.int .u8 c.1, .int .i32 c.2.1, .int .i32 c.2.2.1, .int .i32 c.2.2.2]⟩] [.sc (.int .i64)] fun (z2 : Int) => K z z2) Q w := by
  have fd : Fr None w w.drew := (Fr.refl _ _).drew
  have Bd := B.fr fd fun h => h
  refine fldI Bd (i := 2) (x := sl) hx (fldI Bd (i := 2) (x := sl) hx ?_)
  refine spec_l11_first (hS.fr0 fd) fun w1 f1 => ?_
  have f01 := fd.then0 f1
  refine andI ((B.fr f01 fun h => h).rd (s := .sl) (i := 2) (x := sl) hx) ?_
  have hs1 := f01.size
  rcases h with ⟨rfl, rfl⟩ | ⟨b, b2, x, FA, FB, rfl, rfl, sA, sB, hA, hB⟩
  · refine spec_store_Add0 fun w2 f2 => ?_
    have f02 := f01.then0 f2
    refine andI ((B.fr f02 fun h => h).rd (s := .sl) (i := 2) (x := sl) hx) (spec_l11_first (hS.fr0 f02) fun w3 f3 => spec_r11_Add0 fun w4 f4 => hk 10 w4 (.inl ⟨rfl, rfl⟩) ((f02.then0 f3).then0 f4).any)
  · refine spec_store_Add (Store.st.fr0 sA f01) hid (c := fstC l) fun w2 sA2 f2 => ?_
    have f02 : Fr FA w w2 := f01.any.then f2
    have B2 := B.fr f02 fun e => hb (hA bb e).1
    have hS2 : SlT ok w2 compT sl l := SlT.st (F := fun k => ok k ∧ k < w.heap.size) (F' := ok) (hS.mono fun k hk e => ⟨e, hk⟩) f02 fun k hk e => ⟨fun e2 => hd k hk e.1 (hA k e2).1, e.1⟩
    refine andI (B2.rd (s := .sl) (i := 2) (x := sl) hx) (spec_l11_first hS2 fun w3 f3 => ?_)
    have hs2 := f2.size
    have hs3 := f3.size
    refine spec_r11_Add (R11.st.fr sB (f02.then f3.any) fun k e e2 => (hB k e).2.1 e2) hid hc0 fun w4 sB4 f4 => ?_
    obtain ⟨h1, h2⟩ := Pair.next (F := F) (Store.st.mono sA2 fun k _ e => by
      first
        | exact .inl e
        | (rcases e with e | e; exact .inl e; exact .inr (by omega))) f02 hA hB f3 (R11.st.mono sB4 fun k _ e => by
      first
        | exact .inl e
        | (rcases e with e | e; exact .inl e; exact .inr (by omega))) f4
    exact hk _ w4 h1 h2
theorem pair_Remove (h : Pair pa pb F w) (B : Blk w bb T cs) (hb : ¬ F bb) {sl : Sl} (hx : cs[2]? = some (.slice sl.a sl.n sl.c)) {ok : Nat → Prop} {l : List Comp} (hS : SlT ok w compT sl l) (hd : ∀ k, k < w.heap.size → ok k → ¬ F k) {id : Int} (hid : IdOk id) (hc0 : 0 ≤ (fstC l).1) {K : Int → Int → W R}
    (hk : ∀ v w', Pair pa pb (Ex F w) w' → Fr F w w' → K v v Q w') :
    (drawW <| ld (.sc .sl) (Addr.add ⟨bb, 0, none⟩ 2) fun (x : Sl) => ld (.sc .sl) (Addr.add ⟨bb, 0, none⟩ 2) fun (y : Sl) =>
      callW Tryz.prog k_pinnacelaw11_first [.slice x.a x.n x.c] [.agg [.int .u8, .int .i32, .int .i32, .int .i32]] fun (c : Comp) =>
      andW (fun w => Rd w (Addr.add ⟨bb, 0, none⟩ 2) (.sc .sl) y) <| callW Tryz.prog k_store_Store_Remove [.pointer pa, .int .u32 id, .int .u8 c.1] [.sc (.int .i64)] fun (z : Int) =>
      andW (fun w => Rd w (Addr.add ⟨bb, 0, none⟩ 2) (.sc .sl) y) <| callW Tryz.prog k_pinnacelaw11_first [.slice y.a y.n y.c] [.agg [.int .u8, .int .i32, .int .i32, .int .i32]] fun (c : Comp) =>
      callW Tryz.prog k_pinnaceref11_Remove [.pointer pb, .int .u32 id, .int .u8 c.1] [.sc (.int .i64)] fun (z2 : Int) => K z z2) Q w := by
  have fd : Fr None w w.drew := (Fr.refl _ _).drew
  have Bd := B.fr fd fun h => h
  refine fldI Bd (i := 2) (x := sl) hx (fldI Bd (i := 2) (x := sl) hx ?_)
  refine spec_l11_first (hS.fr0 fd) fun w1 f1 => ?_
  have f01 := fd.then0 f1
  refine andI ((B.fr f01 fun h => h).rd (s := .sl) (i := 2) (x := sl) hx) ?_
  have hs1 := f01.size
  rcases h with ⟨rfl, rfl⟩ | ⟨b, b2, x, FA, FB, rfl, rfl, sA, sB, hA, hB⟩
  · refine spec_store_Remove0 fun w2 f2 => ?_
    have f02 := f01.then0 f2
    refine andI ((B.fr f02 fun h => h).rd (s := .sl) (i := 2) (x := sl) hx) (spec_l11_first (hS.fr0 f02) fun w3 f3 => spec_r11_Remove0 fun w4 f4 => hk 10 w4 (.inl ⟨rfl, rfl⟩) ((f02.then0 f3).then0 f4).any)
  · refine spec_store_Remove (Store.st.fr0 sA f01) hid hc0 fun w2 sA2 f2 => ?_
    have f02 : Fr FA w w2 := f01.any.then f2
    have B2 := B.fr f02 fun e => hb (hA bb e).1
    have hS2 : SlT ok w2 compT sl l := SlT.st (F := fun k => ok k ∧ k < w.heap.size) (F' := ok) (hS.mono fun k hk e => ⟨e, hk⟩) f02 fun k hk e => ⟨fun e2 => hd k hk e.1 (hA k e2).1, e.1⟩
    refine andI (B2.rd (s := .sl) (i := 2) (x := sl) hx) (spec_l11_first hS2 fun w3 f3 => ?_)
    have hs2 := f2.size
    have hs3 := f3.size
    refine spec_r11_Remove (R11.st.fr sB (f02.then f3.any) fun k e e2 => (hB k e).2.1 e2) hid fun w4 sB4 f4 => ?_
    obtain ⟨h1, h2⟩ := Pair.next (F := F) (Store.st.mono sA2 fun k _ e => by
      first
        | exact .inl e
        | (rcases e with e | e; exact .inl e; exact .inr (by omega))) f02 hA hB f3 (R11.st.mono sB4 fun k _ e => by
      first
        | exact .inl e
        | (rcases e with e | e; exact .inl e; exact .inr (by omega))) f4
    exact hk _ w4 h1 h2
theorem pair_Get (h : Pair pa pb F w) (B : Blk w bb T cs) (hb : ¬ F bb) {sl : Sl} (hx : cs[2]? = some (.slice sl.a sl.n sl.c)) {ok : Nat → Prop} {l : List Comp} (hS : SlT ok w compT sl l) {id : Int} (hid : IdOk id) {K : Bool → W R}
    (hk : ∀ w', Pair pa pb (Ex F w) w' → Fr F w w' → K true Q w') {op1 op2 : Operand} :
    (ld (.sc .sl) (Addr.add ⟨bb, 0, none⟩ 2) fun (x : Sl) => callW Tryz.prog k_pinnacelaw11_first [.slice x.a x.n x.c] [.agg [.int .u8, .int .i32, .int .i32, .int .i32]] fun (c : Comp) =>
      callW Tryz.prog k_store_Store_Get [.pointer pa, .int .u32 id, .int .u8 c.1] [.agg [.int .u8, .int .i32, .int .i32, .int .i32], .sc (.int .i64)] fun (x_59 : (Int × Int × Int × Int) × Int) =>
      newW 60 [.int .u8 0, .int .i32 0, .int .i32 0, .int .i32 0] fun x_60 =>
      stoL x_60 [.int .u8 x_59.1.1, .int .i32 x_59.1.2.1, .int .i32 x_59.1.2.2.1, .int .i32 x_59.1.2.2.2] 0 <|
      ld (.sc .sl) (Addr.add ⟨bb, 0, none⟩ 2) fun (x : Sl) => callW Tryz.prog k_pinnacelaw11_first [.slice x.a x.n x.c] [.agg [.int .u8, .int .i32, .int .i32, .int .i32]] fun (c : Comp) =>
      callW Tryz.prog k_pinnaceref11_Get [.pointer pb, .int .u32 id, .int .u8 c.1] [.agg [.int .u8, .int .i32, .int .i32, .int .i32], .sc (.int .i64)] fun (x_63 : (Int × Int × Int × Int) × Int) =>
      newW 60 [.int .u8 0, .int .i32 0, .int .i32 0, .int .i32 0] fun x_64 =>
      stoL x_64 [.int .u8 x_63.1.1, .int .i32 x_63.1.2.1, .int .i32 x_63.1.2.2.1, .int .i32 x_63.1.2.2.2] 0 <|
      joinW (σ := Bool) (fun J_65 =>
        ld (.agg [.int .u8, .int .i32, .int .i32, .int .i32]) x_60 fun (x_66 : (Int × Int × Int × Int)) =>
        ld (.agg [.int .u8, .int .i32, .int .i32, .int .i32]) x_64 fun (x_67 : (Int × Int × Int × Int)) =>
        rawQ Tryz.prog (do Go.eqGuard .eql 60 op1 op2 (.agg ⟨[.int .u8 x_66.1, .int .i32 x_66.2.1, .int .i32 x_66.2.2.1, .int .i32 x_66.2.2.2]⟩) (.agg ⟨[.int .u8 x_67.1, .int .i32 x_67.2.1, .int .i32 x_67.2.2.1, .int .i32 x_67.2.2.2]⟩); Go.binOp .eql 60 (.agg ⟨[.int .u8 x_66.1, .int .i32 x_66.2.1, .int .i32 x_66.2.2.1, .int .i32 x_66.2.2.2]⟩) (.agg ⟨[.int .u8 x_67.1, .int .i32 x_67.2.1, .int .i32 x_67.2.2.1, .int .i32 x_67.2.2.2]⟩)) [.sc .bool] fun (x_68 : Bool) =>
        cond x_68 (J_65 (x_59.2 == x_63.2)) (J_65 false)) K) Q w := by
  refine fldI B (i := 2) (x := sl) hx (spec_l11_first hS fun w1 f1 => ?_)
  have key : ∀ (v : Comp × Int) (w2 : World), Fr None w w2 → (∀ (w' : World) (K' : Comp × Int → W R), Fr None w w' → (∀ w'', Fr None w' w'' → K' v Q w'') → callW Tryz.prog k_pinnaceref11_Get [.pointer pb, .int .u32 id, .int .u8 (fstC l).1] [.agg [.int .u8, .int .i32, .int .i32, .int .i32], .sc (.int .i64)] K' Q w') →
      (newW 60 [.int .u8 0, .int .i32 0, .int .i32 0, .int .i32 0] fun x_60 =>
      stoL x_60 [.int .u8 v.1.1, .int .i32 v.1.2.1, .int .i32 v.1.2.2.1, .int .i32 v.1.2.2.2] 0 <|
      ld (.sc .sl) (Addr.add ⟨bb, 0, none⟩ 2) fun (x : Sl) => callW Tryz.prog k_pinnacelaw11_first [.slice x.a x.n x.c] [.agg [.int .u8, .int .i32, .int .i32, .int .i32]] fun (c : Comp) =>
      callW Tryz.prog k_pinnaceref11_Get [.pointer pb, .int .u32 id, .int .u8 c.1] [.agg [.int .u8, .int .i32, .int .i32, .int .i32], .sc (.int .i64)] fun (x_63 : (Int × Int × Int × Int) × Int) =>
      newW 60 [.int .u8 0, .int .i32 0, .int .i32 0, .int .i32 0] fun x_64 =>
      stoL x_64 [.int .u8 x_63.1.1, .int .i32 x_63.1.2.1, .int .i32 x_63.1.2.2.1, .int .i32 x_63.1.2.2.2] 0 <|
      joinW (σ := Bool) (fun J_65 =>
        ld (.agg [.int .u8, .int .i32, .int .i32, .int .i32]) x_60 fun (x_66 : (Int × Int × Int × Int)) =>
        ld (.agg [.int .u8, .int .i32, .int .i32, .int .i32]) x_64 fun (x_67 : (Int × Int × Int × Int)) =>
        rawQ Tryz.prog (do Go.eqGuard .eql 60 op1 op2 (.agg ⟨[.int .u8 x_66.1, .int .i32 x_66.2.1, .int .i32 x_66.2.2.1, .int .i32 x_66.2.2.2]⟩) (.agg ⟨[.int .u8 x_67.1, .int .i32 x_67.2.1, .int .i32 x_67.2.2.1, .int .i32 x_67.2.2.2]⟩); Go.binOp .eql 60 (.agg ⟨[.int .u8 x_66.1, .int .i32 x_66.2.1, .int .i32 x_66.2.2.1, .int .i32 x_66.2.2.2]⟩) (.agg ⟨[.int .u8 x_67.1, .int .i32 x_67.2.1, .int .i32 x_67.2.2.1, .int .i32 x_67.2.2.2]⟩)) [.sc .bool] fun (x_68 : Bool) =>
        cond x_68 (J_65 (v.2 == x_63.2)) (J_65 false)) K) Q w2 := by
    intro v w2 f02 hg
    refine newI fun w3 B3 f3 s3 => stoAll B3 rfl rfl fun w4 B4 f4 s4 => ?_
    have f24 : Fr None w2 w4 := f3.newer f4 fun k e => by omega
    have f04 := f02.then0 f24
    refine fldI (B.fr f04 fun h => h) (i := 2) (x := sl) hx (spec_l11_first (hS.fr0 f04) fun w5 f5 => hg w5 _ (f04.then0 f5) fun w6 f6 => ?_)
    refine newI fun w7 B7 f7 s7 => stoAll B7 rfl rfl fun w8 B8 f8 s8 => ?_
    have f68 : Fr None w6 w8 := f7.newer f8 fun k e => by omega
    have f48 := f5.then0 (f6.then0 f68)
    refine joinK (aggI (B4.fr f48 fun h => h) (x := v.1) rfl (aggI B8 (x := v.1) rfl (eqlI eqG_comp (eqV_comp v.1 v.1) (condT (by simp) ?_))))
    have e : (v.2 == v.2) = true := by simp
    show K (v.2 == v.2) Q w8
    rw [e]
    exact hk w8 (Pair.st h (f04.then0 f48) fun k _ e => ⟨fun h => h, .inl e⟩) (f04.then0 f48).any
  rcases h with ⟨rfl, rfl⟩ | ⟨b, b2, x, FA, FB, rfl, rfl, sA, sB, hA, hB⟩
  · exact spec_store_Get0 fun w2 f2 => key ((0, 0, 0, 0), 10) w2 (f1.then0 f2) fun w' K' f hK => spec_r11_Get0 hK
  · exact spec_store_Get (Store.st.fr0 sA f1) hid fun w2 f2 => key (x.get id (fstC l).1) w2 (f1.then0 f2) fun w' K' f hK => spec_r11_Get (R11.st.fr0 sB f) hK
end

/-! ### what comes in -/
abbrev opT : Ty := .agg [.int .u8, .int .i64, .sl]
theorem ops_arg : SlArg Tryz.prog 45 48 opT [5, 3, 38] :=
  ⟨by kernel_rfl, by kernel_rfl, by decide, by kernel_rfl, ⟨[.int .u8, .int .i64, .sl], by kernel_rfl, .inl rfl⟩⟩
theorem ops_in {raws : List Op11} (h : ∀ r ∈ raws, AllLeaf enc Tryz.prog w [5, 3, 38] (opT.cells r)) : ∃ L, All2 (OpIn w) raws L := deep_of fun r hr => op11_in (h r hr)

theorem law_StorePlays {W : World} {n gen : Int} {s : Sl} {raws : List Op11} {L : List (List Comp)} (hS : SlT (Old W) W opT s raws) (hL : All2 (OpIn W) raws L) (hcap : s.c ≤ maxLen) :
    Calls Tryz.prog 4 #[.int .i64 n, .int .i64 gen, .slice s.a s.n s.c] W (fun e w' => e = .returned (.bool true) ∧ Fr None W w') := by
  refine calls_of (C_pinnacelaw11_StorePlays n gen s _ _ W ?_)
  unfold F_pinnacelaw11_StorePlays
  have hlen := hS.len
  have hsc := hS.cap
  rw [maxLen_eq] at hcap
  refine spec_l11_awake fun w1 f1 => condF rfl ?_
  refine spec_both fun pa pb e w3 hpp f3 hP => ?_
  refine joinI (fun z w' => z = false ∧ w' = w3) ?_ ?_
  · refine condF (by simp) ⟨by simp [hpp], rfl⟩
  rintro z w' ⟨rfl, rfl⟩
  have hs1 := f1.size
  have hs3 := f3.size
  refine condF rfl (newI fun w4 B4 f4 s4 => ?_)
  have hown4 : Own (fun r => w1.heap.size ≤ r ∧ ¬ (w1.heap.size ≤ r ∧ r < w'.heap.size) ∧ r < w4.heap.size) w4 37 idT ⟨some ⟨w'.heap.size, 0, none⟩, 1, 1⟩ [(0 : Int)] :=
    Own.mk' (w := w4) (E := 37) (t := idT) (l := [(0 : Int)]) (g := w'.heap.size) (c := 1) (cur := ⟨[.int .u32 0]⟩) ⟨hs3, by omega, by omega⟩ B4 (Nat.le_refl _) (by rw [maxLen_eq]; omega) rfl rfl
  refine joinI (fun _ w' => Fr None W w') ?_ fun _ w5 f5 => ⟨rfl, f5⟩
  have f14 := f3.then0 f4
  refine forI (N := s.n) (fun s : Sl × Int => s.2) (fun j st w' => st.2 = (j : Int) ∧ Fr None w1 w' ∧ ∃ F H, Pair pa pb F w' ∧ (∀ r, F r → w1.heap.size ≤ r ∧ r < w'.heap.size) ∧ Own (fun r => w1.heap.size ≤ r ∧ ¬ F r ∧ r < w'.heap.size) w' 37 idT st.1 H ∧ 1 ≤ H.length ∧ H.length ≤ j + 1 ∧ ∀ y ∈ H, IdOk y)
    ⟨rfl, f14, _, _, Pair.st.fr0 hP f4, fun r e => ⟨e.1, by omega⟩, hown4, by simp, by simp, fun y hy => by simp at hy; subst hy; exact ⟨Int.le_refl 0, show (0 : Int) ≤ 4294967295 by decide⟩⟩ (fun j s w' h => h.1) ?_ fun st w5 ⟨_, f5, _⟩ => f1.then0 f5
  rintro j ⟨had, _⟩ w5 K' hj ⟨rfl, f5, F, H, hP5, hF, hO, hH1, hHj, hHid⟩ - hK
  have hs5 := f5.size
  have fW5 := f1.then0 f5
  refine (hS.fr0 fW5).get rfl rfl (by omega) fun o ho => ?_
  obtain ⟨l, hl, hop⟩ := hL.getL ho
  obtain ⟨hlS, hlok, hlc⟩ := hop.l
  rw [maxLen_eq] at hlc
  have hln := hlS.len
  have hlcap := hlS.cap
  refine newI fun w6 B6 f6 s6 => stoAll B6 rfl rfl fun w7 B7 f7 s7 => ?_
  have f57 : Fr None w5 w7 := f6.newer f7 fun k e => by omega
  refine condD (fun _ => fW5.then0 f57) fun hj60 => ?_
  refine fldI B7 (i := 2) (x := o.2.2) rfl (fldI B7 (i := 2) (x := o.2.2) rfl ?_)
  refine (hlS.fr0 (fW5.then0 f57)).cutI (n := min l.length 20) (by split <;> omega) (by omega) fun sl _ hsl => ?_
  refine setA (i := 2) B7 (show 2 < 3 by omega) rfl fun w8 B8 f8 s8 => ?_
  have f58 : Fr None w5 w8 := f57.newer f8 fun k e => by omega
  have hcut : ∀ {w' : World}, Fr None w8 w' → SlT (Old W) w' compT sl (l.take (min l.length 20)) := fun f => hsl _ _ (hlS.fr0 ((fW5.then0 f58).then0 f))
  generalize hlc20 : l.take (min l.length 20) = lc at hcut
  have hlc6 : lc.length ≤ 20 := by rw [← hlc20, List.length_take]; omega
  have hsm : Small lc := by show _ ≤ 1048576; omega
  have hlcok : ∀ c ∈ lc, CompOk c := fun c hc => hlok c (List.mem_of_mem_take (by rw [hlc20]; exact hc))
  have hc0 : 0 ≤ (fstC lc).1 := by
    cases lc with
    | nil => exact Int.le_refl 0
    | cons c r => exact (hlcok c (by simp)).1.1
  refine fldI B8 (i := 2) (x := sl) rfl (spec_r5_Twin (hcut (Fr.refl _ _)) hsm fun mine w9 o9 f9 => ?_)
  have B9 := B8.fr f9 fun h => h
  have f59 := f58.then0 f9
  have f89 := f9
  have hs58 := f58.size
  have hs9 := f9.size
  have hs6' : w5.heap.size < w8.heap.size := by omega
  -- which of those that there were
  have hO9 := hO.none f59
  have hhn : had.n = H.length := hO9.len
  have hwho := wrap64_range o.2.1
  have eu : IntKind.wrap .u64 (had.n : Int) = (had.n : Int) := by rw [IntKind.wrap_u64]; omega
  refine fldI B9 (i := 1) (x := o.2.1) rfl ?_
  rw [eu]
  have et : IntKind.wrap .i64 (Int.tmod (IntKind.wrap .u64 o.2.1) (had.n : Int)) = (((IntKind.wrap .u64 o.2.1).toNat % had.n : Nat) : Int) := by
    generalize IntKind.wrap .u64 o.2.1 = u at hwho
    have e1 : u = ((u.toNat : Nat) : Int) := by omega
    have hlt := Nat.mod_lt u.toNat (show 0 < had.n by omega)
    rw [Int.tmod_eq_emod_of_nonneg hwho.1, e1, ← Int.natCast_emod, Int.toNat_natCast, w64 (by omega)]
  rw [et]
  have hqlt := Nat.mod_lt (IntKind.wrap .u64 o.2.1).toNat (show 0 < had.n by omega)
  generalize (IntKind.wrap .u64 o.2.1).toNat % had.n = q at hqlt
  refine chkI (by omega) (hO9.sl.get (j := q) rfl rfl (by omega) fun id hid => ?_)
  have hidok := hHid id (List.mem_of_getElem? hid)
  refine fldI B9 (i := 0) (x := o.1) rfl ?_
  have hP9 := Pair.st.fr0 hP5 f59
  refine joinI (fun (z : Bool) w' => w' = w9) (condE (fun _ => rfl) fun _ => rfl) ?_
  rintro z w' rfl
  -- what is done
  refine joinI (fun (z : Sl × Bool) w10 => z.2 = true ∧ Fr (fun r => w1.heap.size ≤ r ∧ r < w5.heap.size) w' w10 ∧ ∃ F' H', Pair pa pb F' w10 ∧ (∀ r, F' r → w1.heap.size ≤ r ∧ r < w10.heap.size ∧ (r < w5.heap.size ∨ w'.heap.size ≤ r)) ∧
    Own (fun r => w1.heap.size ≤ r ∧ ¬ F' r ∧ r < w10.heap.size ∧ (r < w5.heap.size ∨ w'.heap.size ≤ r)) w10 37 idT z.1 H' ∧ 1 ≤ H'.length ∧ H'.length ≤ j + 2 ∧ ∀ y ∈ H', IdOk y) ?_ ?_
  · have hbF : ¬ F w5.heap.size := fun e => by have := (hF _ e).2; omega
    have hS9 := hcut f9
    have hdF : ∀ k, k < w'.heap.size → Old W k → ¬ F k := fun k _ e e2 => by have h1 : k < W.heap.size := e; have := (hF k e2).1; omega
    have fin : ∀ {w10 : World}, Pair pa pb (Ex F w') w10 → Fr F w' w10 → Pair pa pb (fun r => Ex F w' r ∧ r < w10.heap.size) w10 ∧ (∀ r, (Ex F w' r ∧ r < w10.heap.size) → w1.heap.size ≤ r ∧ r < w10.heap.size ∧ (r < w5.heap.size ∨ w'.heap.size ≤ r)) ∧
        Own (fun r => w1.heap.size ≤ r ∧ ¬ (Ex F w' r ∧ r < w10.heap.size) ∧ r < w5.heap.size) w10 37 idT had H := fun {w10} hp hf => by
      have hz := hf.size
      refine ⟨Pair.st hp (Fr.refl None w10) fun k hk e => ⟨fun h => h, e, hk⟩, fun r e => ?_, Own.st hO9 hf fun r hr e => ⟨e.2.1, e.1, fun e2 => ?_, e.2.2⟩⟩
      · rcases e.1 with h | h
        · have := hF r h; omega
        · omega
      · rcases e2.1 with h | h
        · exact e.2.1 h
        · omega
    have hbr : ∀ r, had.v.ownBlock = some r → w1.heap.size ≤ r ∧ r < w5.heap.size := fun r e => by have := hO.own r e; omega
    refine condI (fun _ => ?_) fun _ => ?_
    · refine pair_Spawn hP9 B9 hbF (mine := mine) (sl := sl) rfl hS9 hdF o9.sl (fun k _ e e2 => by have e : w8.heap.size ≤ k := e; have := (hF k e2).2; omega) hsm hlcok fun v w10 hv hp hf => ?_
      obtain ⟨p1, p2, p3⟩ := fin hp hf
      have hz := hf.size
      refine joinK (condT (by simp) ?_)
      refine appP (x := v.1) ids_ty rfl (S := fun r => w1.heap.size ≤ r ∧ ¬ (Ex F w' r ∧ r < w10.heap.size) ∧ (r < w5.heap.size ∨ w'.heap.size ≤ r)) (p3.mono fun k _ e => ⟨e.1, e.2.1, .inl e.2.2⟩) (fun k e => ⟨by omega, fun e2 => by have := e2.2; omega, .inr (by omega)⟩) (Nat.le_trans (Nat.mul_le_mul_right 4 (show H.length + 1 ≤ 100 by omega)) (by decide)) (Nat.le_trans (show H.length + 1 ≤ 100 by omega) (by decide)) fun r w11 o11 f11 => ?_
      have hz2 := f11.size
      refine ⟨by simp, (hf.sub fun k e => by have := hF k e; omega).then (f11.sub hbr), _, _, Pair.st p1 f11 fun k hk e => ⟨fun e2 => (p3.own k e2).2.1 e, e⟩, fun r e => ?_, Own.st o11 (Fr.refl None w11) fun k hk e => ⟨fun h => h, e.1, e.2.1, hk, e.2.2⟩, by simp, by simp; omega, fun y hy => ?_⟩
      · have := p2 r e; omega
      · rcases List.mem_append.1 hy with h | h
        · exact hHid y h
        · simp at h; subst h; exact hv
    refine joinI (fun (z : Bool) w10 => z = true ∧ Pair pa pb (Ex F w') w10 ∧ Fr F w' w10) ?_ ?_
    · refine condI (fun _ => pair_Despawn hP9 hidok fun v w10 hp hf => ⟨by simp, hp, hf⟩) fun _ => joinK ?_
      refine condI (fun _ => pair_Set hP9 B9 hbF (sl := sl) rfl hS9 hdF hidok hc0 fun v w10 hp hf => ⟨by simp, hp, hf⟩) fun _ => joinK ?_
      refine condI (fun _ => pair_Add hP9 B9 hbF (sl := sl) rfl hS9 hdF hidok hc0 fun v w10 hp hf => ⟨by simp, hp, hf⟩) fun _ => joinK ?_
      refine condI (fun _ => pair_Remove hP9 B9 hbF (sl := sl) rfl hS9 hdF hidok hc0 fun v w10 hp hf => ⟨by simp, hp, hf⟩) fun _ => joinK ?_
      refine condI (fun _ => pair_Get hP9 B9 hbF (sl := sl) rfl hS9 hidok fun w10 hp hf => ⟨rfl, hp, hf⟩) fun _ => ⟨rfl, Pair.st.mono hP9 fun k _ e => .inl e, Fr.refl _ _⟩
    · rintro z w10 ⟨rfl, hp, hf⟩
      obtain ⟨p1, p2, p3⟩ := fin hp hf
      have hz := hf.size
      exact ⟨rfl, hf.sub fun k e => by have := hF k e; omega, _, H, p1, p2, p3.mono fun k _ e => ⟨e.1, e.2.1, by omega, .inl e.2.2⟩, hH1, by omega, hHid⟩
  rintro ⟨had2, ok2⟩ w10 ⟨hok2, f10, F', H', hP10, hF10, hO10, hH1', hHj', hHid'⟩
  have hok2 : ok2 = true := hok2
  subst hok2
  have hz10 := f10.size
  have B10 := B9.fr f10 fun e => by omega
  have hS10 : SlT (Old W) w10 compT sl lc := SlT.st (F := fun k => k < W.heap.size) (hcut f9) f10 fun k _ e => ⟨fun e2 => by omega, e⟩
  have oM10 : Own (fun k => w8.heap.size ≤ k ∧ k < w'.heap.size) w10 60 compT mine lc := Own.st o9 f10 fun k hk e => by
    have e : w8.heap.size ≤ k := e
    exact ⟨fun e2 => by omega, e, hk⟩
  refine joinI (fun (z : Bool) w11 => z = false ∧ Fr None w10 w11) ?_ ?_
  · refine condF rfl (fldI B10 (i := 2) (x := sl) rfl (spec_r5_Same oM10.sl hS10 hsm fun w11 f11 => ⟨by simp, f11⟩))
  rintro z w11 ⟨rfl, f11⟩
  refine condF rfl ?_
  have oM11 := oM10.none f11
  have hmn := oM11.len
  refine forI (N := mine.n) (fun s : Int => s) (fun q i wx => i = (q : Int) ∧ ∃ l', l'.length = lc.length ∧ Own (fun k => w8.heap.size ≤ k ∧ k < w'.heap.size) wx 60 compT mine l' ∧ Fr (fun k => mine.v.ownBlock = some k) w11 wx) ⟨rfl, _, rfl, oM11, Fr.refl _ _⟩ (fun j s w' h => h.1) ?_ ?_
  · rintro q i w12 K2 hq ⟨rfl, l', hl', o12, f12⟩ - hK2
    have fd : Fr None w12 w12.drew := (Fr.refl _ _).drew
    refine flipS (o12.none fd) rfl (by omega) fun w13 l2 hl2 o13 f13 => ?_
    exact hK2 _ _ ⟨wsucc hq (by omega), l2, by omega, o13, (f12.then fd.any).then f13⟩
  · rintro i w12 ⟨-, l', _, _, f12⟩
    have f1012 : Fr (fun k => mine.v.ownBlock = some k) w10 w12 := f11.any.then f12
    have hmo : ∀ k, mine.v.ownBlock = some k → w8.heap.size ≤ k ∧ k < w'.heap.size := fun k e => oM10.own k e
    have hP12 := Pair.st (F' := F') hP10 f1012 fun k hk e => ⟨fun e2 => by have := hmo k e2; have := hF10 k e; omega, e⟩
    have hO12 := Own.st (F' := fun r => w1.heap.size ≤ r ∧ ¬ F' r ∧ r < w10.heap.size) hO10 f1012 fun k hk e => ⟨fun e2 => by have := hmo k e2; omega, e.1, e.2.1, e.2.2.1⟩
    have hz12 := f1012.size
    have f512 : Fr None w1 w12 := ((f5.then0 f59).newer f10 fun r e => e.1).newer f1012 fun k e => by have := hmo k e; omega
    have fin2 : ∀ w13, Fr None w12 w13 → Fr None w1 w13 ∧ ∃ F H, Pair pa pb F w13 ∧ (∀ r, F r → w1.heap.size ≤ r ∧ r < w13.heap.size) ∧ Own (fun r => w1.heap.size ≤ r ∧ ¬ F r ∧ r < w13.heap.size) w13 37 idT had2 H ∧ 1 ≤ H.length ∧ H.length ≤ j + 1 + 1 ∧ ∀ y ∈ H, IdOk y := fun w13 f13 => by
      have hz13 := f13.size
      exact ⟨f512.then0 f13, F', H', Pair.st.fr0 hP12 f13, fun r e => by have := hF10 r e; omega, (hO12.none f13).mono fun k _ e => ⟨e.1, e.2.1, by omega⟩, hH1', by omega, hHid'⟩
    rcases hP12 with ⟨rfl, rfl⟩ | ⟨b, b2, x, FA, FB, rfl, rfl, sA, sB, hA, hB⟩
    · exact spec_l11_alike0 (condF rfl (hK _ _ ⟨wsucc hj (by omega), fin2 w12 (Fr.refl _ _)⟩))
    · exact spec_l11_alike sA sB fun w13 f13 => condF rfl (hK _ _ ⟨wsucc hj (by omega), fin2 w13 f13⟩)

/-! ### the row -/
set_option maxRecDepth 100000 in
theorem storePlays_lifted (os : Os) (started : os.Started) (H : Type) (enc : TypeId × Value → H) :
    ReturnsInHanded {} Tryz.checked os 4 .any (Rows.storePlaysSpec.pre6 enc Tryz.prog Tryz.f4 Rows.storePlaysRow.domain false) (Rows.storePlaysSpec.post enc Tryz.prog Tryz.f4 false true false false) := by
  refine returnsInHanded_of_change (C := Tryz.checked) own_knob started (by kernel_rfl) Tryz.func4
    (ChangeSpec.witness6 (enc := enc) (C := Tryz.checked) false ⟨#[], #[.int .i64 0, .int .i64 0, .slice none 0 0], []⟩ 8 (by kernel_rfl) (by kernel_rfl) (by kernel_rfl) (by kernel_rfl)) ?_
  intro W base args ds gs before hval0 hW hcnd _
  have hval : ∀ (j : Nat) t v, Tryz.f4.params[j]? = some t → args[j]? = some v → Value.okWide Tryz.prog W .any base t v := hval0
  have hW' := hW
  obtain ⟨p, q, hA0, hV, rfl, hfz, hnd⟩ := hW
  have hA : DataW.TrodAll enc Tryz.prog W 0 (fun _ => true) true Tryz.f4.params.toList args.toList ds p := hA0
  rw [Tryz.params4] at hA hval
  obtain ⟨v0, v1, v2, d0, d1, d2, p0, p1, p2, rfl, rfl, rfl, h0, h1, h2⟩ := trodAll_three hA
  obtain ⟨a0, rfl, w0⟩ := arg_int i64_und (hval 0 _ v0 rfl rfl) h0
  obtain ⟨a1, rfl, w1⟩ := arg_int i64_und (hval 1 _ v1 rfl rfl) h1
  obtain ⟨s2, l2, rfl, S2, c2, e2⟩ := arg_slice ops_arg (hval 2 _ v2 rfl rfl) h2
  obtain ⟨L2, O2⟩ := ops_in fun r hr => e2 r hr
  refine (law_StorePlays S2 O2 c2).mono fun e W' ⟨he, hf⟩ => ?_
  subst he
  exact ⟨_, rfl, law_post laid_out bool_und (by kernel_rfl) (by rw [Tryz.params4]; decide +kernel) rfl ⟨rfl, rfl, rfl⟩ hW' hf⟩

theorem storePlays_holds : Rows.StorePlaysSaid :=
  OpenClaim.holds_of_wide 4 Tryz.f4 rfl rfl rfl rfl rfl rfl rfl ⟨rfl, rfl, rfl, rfl, rfl⟩ rfl rfl rfl rfl rfl (by kernel_rfl) Tryz.func4 (by kernel_rfl)
    (of_decide_eq_true (by kernel_rfl)) (by unfold Func.isWrapper; first | (rw [if_pos (by decide +kernel)]; kernel_rfl) | (rw [if_neg (by decide +kernel)]; exact ⟨rfl, rfl⟩))
    (fun os started H enc _ => storePlays_lifted os started H enc)

end Go.Proofs.YtecmpmnaeciapaaGreat
