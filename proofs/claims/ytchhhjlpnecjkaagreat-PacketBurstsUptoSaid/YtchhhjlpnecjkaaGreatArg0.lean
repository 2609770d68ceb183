/-
  Arguments that are lists of things with lists of their own (what they share).
-/
import Derived.Test.YtchhhjlpnecjkaaGreatDeep
import Derived.Test.YtchhhjlpnecjkaaGreatComp
import Derived.Test.YtchhhjlpnecjkaaGreatOpen
import Derived.Test.YtchhhjlpnecjkaaGreatRef10
import Derived.Test.YtchhhjlpnecjkaaGreatRows
namespace Go.Proofs.YtchhhjlpnecjkaaGreat
open Go Go.RowKit Go.ChangeShapes Go.WideShapes Go.ChangeAt Go.Proofs.YtchhhjlpnecjkaaGreat.Den
variable {R : Type} {Q : R → World → Prop} {w : World} {H : Type} {enc : TypeId × Value → H}

theorem Den.deep_of {α β : Type} {p : α → β → Prop} {l : List α} (h : ∀ a ∈ l, ∃ b, p a b) : ∃ k, All2 p l k := by
  induction l with
  | nil => exact ⟨[], All2.nil _⟩
  | cons a r ih =>
    obtain ⟨b, hb⟩ := h a List.mem_cons_self
    obtain ⟨k, hk⟩ := ih fun x hx => h x (List.mem_cons_of_mem _ hx)
    refine ⟨b :: k, by simp [hk.len], fun i x y h1 h2 => ?_⟩
    rcases i with _ | i
    · simp at h1 h2; subst h1; subst h2; exact hb
    · simp at h1 h2; exact hk.at_ i x y h1 h2
abbrev Old (W : World) : Nat → Prop := fun k => k < W.heap.size
/-- a list of components in a cell. -/
theorem comps_leaf {s : Sl} (h : LeafOk enc Tryz.prog w 55 (.slice s.a s.n s.c)) : ∃ l, SlT (Old w) w compT s l ∧ (∀ c ∈ l, CompOk c) ∧ s.c ≤ maxLen := by
  obtain ⟨s', l, e, h2, h3, h4⟩ := h.slice comps_arg
  have e' : s = s' := by
    have e : Value.slice s.a s.n s.c = Value.slice s'.a s'.n s'.c := e
    simp only [Value.slice.injEq] at e
    obtain ⟨e1, e2, e3⟩ := e
    cases s; cases s'; simp_all
  subst e'
  exact ⟨l, h2, fun c hc => comp_ok (h4 c hc), h3⟩

end Go.Proofs.YtchhhjlpnecjkaaGreat

namespace Go.Proofs.YtchhhjlpnecjkaaGreat
open Go Go.RowKit Go.ChangeShapes Go.WideShapes Go.ChangeAt Go.Proofs.YtchhhjlpnecjkaaGreat.Den
variable {R : Type} {Q : R → World → Prop} {w : World} {H : Type} {enc : TypeId × Value → H}

theorem u32_und : Tryz.prog.underlying 28 = some (.int .u32) := by kernel_rfl
theorem ents_arg : SlArg Tryz.prog 23 57 entT [54, 55] :=
  ⟨by kernel_rfl, by kernel_rfl, by decide, by kernel_rfl, ⟨[.int .u32, .sl], by kernel_rfl, .inl rfl⟩⟩
/-- an entity that came in. -/
structure EntIn (W : World) (r : Int × Sl) (e : Ent) : Prop where
  id : r.1 = e.1
  sl : SlT (Old W) W compT r.2 e.2
  ok : IdOk e.1
  comps : ∀ c ∈ e.2, CompOk c
  cap : r.2.c ≤ maxLen
theorem ents_in {raws : List (Int × Sl)} (h : ∀ r ∈ raws, AllLeaf enc Tryz.prog w [54, 55] (entT.cells r)) : ∃ L, All2 (EntIn w) raws L := deep_of fun r hr => by
  obtain ⟨_, h⟩ := h r hr
  obtain ⟨_, e, h0⟩ := (h 0 _ _ rfl rfl).int id_und
  cases e
  obtain ⟨l, h1, h2, h3⟩ := comps_leaf (s := r.2) (h 1 _ _ rfl rfl)
  exact ⟨(r.1, l), rfl, h1, wf_u32 h0, h2, h3⟩
theorem EntIn.ents {raws : List (Int × Sl)} {L : List Ent} (h : All2 (EntIn w) raws L) : EntsR (Old w) w raws L := ⟨h.len, fun i r e h1 h2 => ⟨(h.at_ i r e h1 h2).id, (h.at_ i r e h1 h2).sl⟩⟩

end Go.Proofs.YtchhhjlpnecjkaaGreat

namespace Go.Proofs.YtchhhjlpnecjkaaGreat
open Go Go.RowKit Go.ChangeShapes Go.WideShapes Go.ChangeAt Go.Deep Go.Proofs.YtchhhjlpnecjkaaGreat.Den
variable {w : World} {H : Type} {enc : TypeId × Value → H}

theorem bulk_len : ∀ (l : List (DataW H)), l.length ≤ Rows.uptoBulkAll l
  | [] => by simp [Rows.uptoBulkAll]
  | d :: r => by
    have h1 : 1 ≤ Rows.uptoBulk d := by
      cases d with
      | lit l => cases l <;> simp [Rows.uptoBulk]
      | _ => simp [Rows.uptoBulk]
    have := bulk_len r
    simp only [Rows.uptoBulkAll, List.length_cons]
    omega
theorem bulk_part {d : DataW H} : ∀ {l : List (DataW H)}, d ∈ l → Rows.uptoBulk d ≤ Rows.uptoBulkAll l
  | [], h => by cases h
  | x :: r, h => by
    simp only [Rows.uptoBulkAll]
    rcases List.mem_cons.1 h with rfl | h
    · omega
    · have := bulk_part h; omega
theorem bulk_sum {α : Type} (D : α → DataW H) (f : α → Nat) : ∀ (l : List α), (∀ a ∈ l, f a ≤ Rows.uptoBulk (D a)) → (l.map f).sum ≤ Rows.uptoBulkAll (l.map D)
  | [], _ => by simp
  | a :: r, h => by
    have := bulk_sum D f r fun x hx => h x (List.mem_cons_of_mem _ hx)
    have := h a List.mem_cons_self
    simp only [List.map_cons, List.sum_cons, Rows.uptoBulkAll]
    omega
theorem slice_bulk {t e : TypeId} (hu : Tryz.prog.underlying t = some (.slice e)) {fuel : Nat} {s : Sl} {x : DataW H × List MemPlace} (h : DataW.trod enc Tryz.prog w 0 (fun _ => true) true fuel t [.slice s.a s.n s.c] = some x) : s.n ≤ Rows.uptoBulk x.1 := by
  rcases open_slice hu h with ⟨hc, _⟩ | ⟨a, len, cap, m, n, D, Pl, hc, _, _, _, _, rfl, _⟩
  · injection hc with hc
    injection hc with _ h1
    omega
  · injection hc with hc
    injection hc with _ h1
    have := bulk_len ((List.range len).map D)
    simp only [Rows.uptoBulk, List.length_map, List.length_range] at this ⊢
    omega

/-! ### four, five, six arguments -/
section
variable {P : Program} {base : Nat} {spare : Nat → Bool} {held : Bool}
theorem trodAll_four {t0 t1 t2 t3 : TypeId} {args : Array Value} {ds : List (DataW H)} {ps : List MemPlace} (h : DataW.TrodAll enc P w base spare held [t0, t1, t2, t3] args.toList ds ps) :
    ∃ v0 v1 v2 v3 d0 d1 d2 d3 p0 p1 p2 p3, args = #[v0, v1, v2, v3] ∧ ds = [d0, d1, d2, d3] ∧ ps = p0 ++ p1 ++ p2 ++ p3 ∧ DataW.Trod enc P w base spare held t0 v0 d0 p0 ∧ DataW.Trod enc P w base spare held t1 v1 d1 p1 ∧ DataW.Trod enc P w base spare held t2 v2 d2 p2 ∧ DataW.Trod enc P w base spare held t3 v3 d3 p3 := by
  obtain ⟨v0, vs0, d0, ds0, p0, q0, hargs, rfl, rfl, h0, r0⟩ := trodAll_cons h
  obtain ⟨v1, vs1, d1, ds1, p1, q1, rfl, rfl, rfl, h1, r1⟩ := trodAll_cons r0
  obtain ⟨v2, vs2, d2, ds2, p2, q2, rfl, rfl, rfl, h2, r2⟩ := trodAll_cons r1
  obtain ⟨v3, vs3, d3, ds3, p3, q3, rfl, rfl, rfl, h3, r3⟩ := trodAll_cons r2
  obtain ⟨rfl, rfl, rfl⟩ := trodAll_nil r3
  exact ⟨v0, v1, v2, v3, d0, d1, d2, d3, p0, p1, p2, p3, by cases args; simp_all, rfl, by simp, h0, h1, h2, h3⟩
theorem trodAll_five {t0 t1 t2 t3 t4 : TypeId} {args : Array Value} {ds : List (DataW H)} {ps : List MemPlace} (h : DataW.TrodAll enc P w base spare held [t0, t1, t2, t3, t4] args.toList ds ps) :
    ∃ v0 v1 v2 v3 v4 d0 d1 d2 d3 d4 p0 p1 p2 p3 p4, args = #[v0, v1, v2, v3, v4] ∧ ds = [d0, d1, d2, d3, d4] ∧ ps = p0 ++ p1 ++ p2 ++ p3 ++ p4 ∧ DataW.Trod enc P w base spare held t0 v0 d0 p0 ∧ DataW.Trod enc P w base spare held t1 v1 d1 p1 ∧ DataW.Trod enc P w base spare held t2 v2 d2 p2 ∧ DataW.Trod enc P w base spare held t3 v3 d3 p3 ∧ DataW.Trod enc P w base spare held t4 v4 d4 p4 := by
  obtain ⟨v0, vs0, d0, ds0, p0, q0, hargs, rfl, rfl, h0, r0⟩ := trodAll_cons h
  obtain ⟨v1, vs1, d1, ds1, p1, q1, rfl, rfl, rfl, h1, r1⟩ := trodAll_cons r0
  obtain ⟨v2, vs2, d2, ds2, p2, q2, rfl, rfl, rfl, h2, r2⟩ := trodAll_cons r1
  obtain ⟨v3, vs3, d3, ds3, p3, q3, rfl, rfl, rfl, h3, r3⟩ := trodAll_cons r2
  obtain ⟨v4, vs4, d4, ds4, p4, q4, rfl, rfl, rfl, h4, r4⟩ := trodAll_cons r3
  obtain ⟨rfl, rfl, rfl⟩ := trodAll_nil r4
  exact ⟨v0, v1, v2, v3, v4, d0, d1, d2, d3, d4, p0, p1, p2, p3, p4, by cases args; simp_all, rfl, by simp, h0, h1, h2, h3, h4⟩
end

/-! ### entities -/
def entUndB (P : Program) (t c : TypeId) : Bool := match P.underlying t with
  | some (.struct fs) => Nat.beq fs.size 2 && (match fs[1]? with
    | some f => Nat.beq f.type c && Nat.beq f.offset 1
    | none => false)
  | _ => false
theorem ent_undB : entUndB Tryz.prog 57 55 = true := by kernel_rfl
theorem ent_und : ∃ fs : Array Field, ∃ f1 : Field, Tryz.prog.underlying 57 = some (.struct fs) ∧ fs.size = 2 ∧ fs[1]? = some f1 ∧ f1.type = 55 ∧ f1.offset = 1 := by
  have h := ent_undB
  unfold entUndB at h
  split at h
  · rename_i fs hu
    rw [Bool.and_eq_true] at h
    obtain ⟨h1, h2⟩ := h
    split at h2
    · rename_i f hf
      rw [Bool.and_eq_true] at h2
      exact ⟨fs, f, hu, Nat.eq_of_beq_eq_true h1, hf, Nat.eq_of_beq_eq_true h2.1, Nat.eq_of_beq_eq_true h2.2⟩
    · cases h2
  · cases h
theorem ent_bulk {fuel : Nat} {r : Int × Sl} {x : DataW H × List MemPlace} (h : DataW.trod enc Tryz.prog w 0 (fun _ => true) true fuel 57 (entC r) = some x) : r.2.n + 1 ≤ Rows.uptoBulk x.1 := by
  obtain ⟨fs, f1, hu, hsz, hf1, ht, ho⟩ := ent_und
  obtain ⟨xs, n, _, rfl, _, hl, hx⟩ := DataW.trod_struct hu h
  have h1 := hx 1 f1 hf1
  rw [ht, ho] at h1
  have hl : xs.length = 2 := by omega
  have hc : Tryz.prog.cellsOf 55 = 1 := by kernel_rfl
  rw [hc, List.getElem?_eq_getElem (by omega)] at h1
  have h2 := slice_bulk (s := r.2) comps_ty.under h1
  have h3 := bulk_part (List.mem_map.2 ⟨xs[1], List.getElem_mem (by omega), rfl⟩ : xs[1].1 ∈ xs.map (·.1))
  simp only [Rows.uptoBulk]
  omega
theorem range_sum (raws : List (Int × Sl)) (len : Nat) (h : len = raws.length) : (List.range len).map (fun i => ((raws[i]?).map fun r => r.2.n + 1).getD 0) = raws.map fun r => r.2.n + 1 := by
  apply List.ext_getElem (by simp [h])
  intro i h1 h2
  have hi : i < raws.length := by simpa using h2
  rw [List.getElem_map, List.getElem_map, List.getElem_range, List.getElem?_eq_getElem hi]
  rfl
theorem ents_bulk {v : Value} {d : DataW H} {p : List MemPlace} (h : DataW.Trod enc Tryz.prog w 0 (fun _ => true) true 23 v d p) {s : Sl} {raws : List (Int × Sl)} (hv : v = s.v) (hS : SlT (Old w) w entT s raws) : (raws.map fun r => r.2.n + 1).sum ≤ Rows.uptoBulk d := by
  obtain ⟨fuel, h⟩ := h
  subst hv
  rcases open_slice ents_ty.under h with ⟨hc, hx⟩ | ⟨a, len, cap, m, n, D, Pl, hc, _, hlc, _, hm, hx, hel⟩
  · have hc : [Value.slice s.a s.n s.c] = [.slice none 0 0] := hc
    injection hc with hc
    injection hc with _ h1
    have := hS.len
    have : raws = [] := List.length_eq_zero_iff.1 (by omega)
    subst this
    simp
  · have hc : [Value.slice s.a s.n s.c] = [.slice (some a) len cap] := hc
    injection hc with hc
    injection hc with ha h1
    have hm : m = cap := by simpa using hm
    have hrl := hS.len
    injection hx with hx1
    subst hx1
    have key : ∀ i ∈ List.range len, ((raws[i]?).map fun r => r.2.n + 1).getD 0 ≤ Rows.uptoBulk (D i) := by
      intro i hi
      have hi := List.mem_range.1 hi
      obtain ⟨cs', g1, g2⟩ := hel i (by omega)
      obtain ⟨g3, g4⟩ := cells_at g1
      have hrx := List.getElem?_eq_getElem (l := raws) (i := i) (by omega)
      have e : cs' = entC raws[i] := by
        rcases hS.at_ with e | ⟨b, o, hb, _, _, hr⟩
        · rw [e] at hrl; simp at hrl; omega
        · have hr := Rd.cells.1 (hr i _ hrx)
          rw [hb] at ha
          have ha := Option.some.inj ha
          have hsz : Tryz.prog.cellsOf 57 = 2 := by kernel_rfl
          rw [hsz, ← ha, add_lit] at g4
          rw [hsz] at g3
          apply List.ext_getElem?
          intro j
          by_cases hj : j < 2
          · have e1 := g4 j _ (List.getElem?_eq_getElem (by omega))
            have hl2 : (entT.cells raws[i]).length = 2 := entT.cells_len _
            have e2 := hr j _ (List.getElem?_eq_getElem (by omega))
            have : i * entT.size = i * 2 := rfl
            rw [this] at e2
            rw [e2] at e1
            rw [List.getElem?_eq_getElem (by omega)]
            have e1 := Option.some.inj e1
            rw [← e1]
            exact (List.getElem?_eq_getElem (by omega)).symm
          · have hl2 : (entC raws[i]).length = 2 := rfl
            have a1 : cs'[j]? = none := List.getElem?_eq_none (by omega)
            have a2 : (entC raws[i])[j]? = none := List.getElem?_eq_none (by omega)
            exact a1.trans a2.symm
      rw [e] at g2
      rw [hrx]
      exact ent_bulk g2
    have hs := bulk_sum D (fun i => ((raws[i]?).map fun r => r.2.n + 1).getD 0) (List.range len) key
    rw [range_sum raws len (by omega)] at hs
    simp only [Rows.uptoBulk]
    omega

end Go.Proofs.YtchhhjlpnecjkaaGreat
