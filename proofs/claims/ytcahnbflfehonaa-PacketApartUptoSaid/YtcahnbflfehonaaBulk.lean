/-
  What the bound on what comes in gives.
-/
import Derived.Test.YtcahnbflfehonaaEntA
import Derived.Test.YtcahnbflfehonaaRows
namespace Go.Proofs.Ytcahnbflfehonaa
open Go Go.RowKit Go.ChangeShapes Go.WideShapes Go.ChangeAt Go.Deep Go.Proofs.Ytcahnbflfehonaa.Den
variable {w : World} {H : Type} {enc : TypeId × Value → H}

theorem bulk_len : ∀ (l : List (DataW H)), l.length ≤ Rows.uptoBulkAll l
  | [] => by simp [Rows.uptoBulkAll]
  | d :: r => by
    have h1 : 1 ≤ Rows.uptoBulk d := by
      cases d with
      | lit l => cases l <;> simp [Rows.uptoBulk]
      | _ => simp [Rows.uptoBulk]
    have := bulk_len r
    simp only [Rows.uptoBulkAll, List.length_cons]
    omega
theorem bulk_part {d : DataW H} : ∀ {l : List (DataW H)}, d ∈ l → Rows.uptoBulk d ≤ Rows.uptoBulkAll l
  | [], h => by cases h
  | x :: r, h => by
    simp only [Rows.uptoBulkAll]
    rcases List.mem_cons.1 h with rfl | h
    · omega
    · have := bulk_part h; omega
theorem bulk_sum {α : Type} (D : α → DataW H) (f : α → Nat) : ∀ (l : List α), (∀ a ∈ l, f a ≤ Rows.uptoBulk (D a)) → (l.map f).sum ≤ Rows.uptoBulkAll (l.map D)
  | [], _ => by simp
  | a :: r, h => by
    have := bulk_sum D f r fun x hx => h x (List.mem_cons_of_mem _ hx)
    have := h a List.mem_cons_self
    simp only [List.map_cons, List.sum_cons, Rows.uptoBulkAll]
    omega
theorem slice_bulk {t e : TypeId} (hu : Try.prog.underlying t = some (.slice e)) {fuel : Nat} {s : Sl} {x : DataW H × List MemPlace} (h : DataW.trod enc Try.prog w 0 (fun _ => true) true fuel t [.slice s.a s.n s.c] = some x) : s.n ≤ Rows.uptoBulk x.1 := by
  rcases open_slice hu h with ⟨hc, _⟩ | ⟨a, len, cap, m, n, D, Pl, hc, _, _, _, _, rfl, _⟩
  · injection hc with hc
    injection hc with _ h1
    omega
  · injection hc with hc
    injection hc with _ h1
    have := bulk_len ((List.range len).map D)
    simp only [Rows.uptoBulk, List.length_map, List.length_range] at this ⊢
    omega

/-! ### four, five, six arguments -/
section
variable {P : Program} {base : Nat} {spare : Nat → Bool} {held : Bool}
theorem trodAll_four {t0 t1 t2 t3 : TypeId} {args : Array Value} {ds : List (DataW H)} {ps : List MemPlace} (h : DataW.TrodAll enc P w base spare held [t0, t1, t2, t3] args.toList ds ps) :
    ∃ v0 v1 v2 v3 d0 d1 d2 d3 p0 p1 p2 p3, args = #[v0, v1, v2, v3] ∧ ds = [d0, d1, d2, d3] ∧ ps = p0 ++ p1 ++ p2 ++ p3 ∧ DataW.Trod enc P w base spare held t0 v0 d0 p0 ∧ DataW.Trod enc P w base spare held t1 v1 d1 p1 ∧ DataW.Trod enc P w base spare held t2 v2 d2 p2 ∧ DataW.Trod enc P w base spare held t3 v3 d3 p3 := by
  obtain ⟨v0, vs0, d0, ds0, p0, q0, hargs, rfl, rfl, h0, r0⟩ := trodAll_cons h
  obtain ⟨v1, vs1, d1, ds1, p1, q1, rfl, rfl, rfl, h1, r1⟩ := trodAll_cons r0
  obtain ⟨v2, vs2, d2, ds2, p2, q2, rfl, rfl, rfl, h2, r2⟩ := trodAll_cons r1
  obtain ⟨v3, vs3, d3, ds3, p3, q3, rfl, rfl, rfl, h3, r3⟩ := trodAll_cons r2
  obtain ⟨rfl, rfl, rfl⟩ := trodAll_nil r3
  exact ⟨v0, v1, v2, v3, d0, d1, d2, d3, p0, p1, p2, p3, by cases args; simp_all, rfl, by simp, h0, h1, h2, h3⟩
theorem trodAll_five {t0 t1 t2 t3 t4 : TypeId} {args : Array Value} {ds : List (DataW H)} {ps : List MemPlace} (h : DataW.TrodAll enc P w base spare held [t0, t1, t2, t3, t4] args.toList ds ps) :
    ∃ v0 v1 v2 v3 v4 d0 d1 d2 d3 d4 p0 p1 p2 p3 p4, args = #[v0, v1, v2, v3, v4] ∧ ds = [d0, d1, d2, d3, d4] ∧ ps = p0 ++ p1 ++ p2 ++ p3 ++ p4 ∧ DataW.Trod enc P w base spare held t0 v0 d0 p0 ∧ DataW.Trod enc P w base spare held t1 v1 d1 p1 ∧ DataW.Trod enc P w base spare held t2 v2 d2 p2 ∧ DataW.Trod enc P w base spare held t3 v3 d3 p3 ∧ DataW.Trod enc P w base spare held t4 v4 d4 p4 := by
  obtain ⟨v0, vs0, d0, ds0, p0, q0, hargs, rfl, rfl, h0, r0⟩ := trodAll_cons h
  obtain ⟨v1, vs1, d1, ds1, p1, q1, rfl, rfl, rfl, h1, r1⟩ := trodAll_cons r0
  obtain ⟨v2, vs2, d2, ds2, p2, q2, rfl, rfl, rfl, h2, r2⟩ := trodAll_cons r1
  obtain ⟨v3, vs3, d3, ds3, p3, q3, rfl, rfl, rfl, h3, r3⟩ := trodAll_cons r2
  obtain ⟨v4, vs4, d4, ds4, p4, q4, rfl, rfl, rfl, h4, r4⟩ := trodAll_cons r3
  obtain ⟨rfl, rfl, rfl⟩ := trodAll_nil r4
  exact ⟨v0, v1, v2, v3, v4, d0, d1, d2, d3, d4, p0, p1, p2, p3, p4, by cases args; simp_all, rfl, by simp, h0, h1, h2, h3, h4⟩
end

/-! ### entities -/
def entUndB (P : Program) (t c : TypeId) : Bool := match P.underlying t with
  | some (.struct fs) => Nat.beq fs.size 2 && (match fs[1]? with
    | some f => Nat.beq f.type c && Nat.beq f.offset 1
    | none => false)
  | _ => false
theorem ent_undB : entUndB Try.prog 43 41 = true := by kernel_rfl
theorem ent_und : ∃ fs : Array Field, ∃ f1 : Field, Try.prog.underlying 43 = some (.struct fs) ∧ fs.size = 2 ∧ fs[1]? = some f1 ∧ f1.type = 41 ∧ f1.offset = 1 := by
  have h := ent_undB
  unfold entUndB at h
  split at h
  · rename_i fs hu
    rw [Bool.and_eq_true] at h
    obtain ⟨h1, h2⟩ := h
    split at h2
    · rename_i f hf
      rw [Bool.and_eq_true] at h2
      exact ⟨fs, f, hu, Nat.eq_of_beq_eq_true h1, hf, Nat.eq_of_beq_eq_true h2.1, Nat.eq_of_beq_eq_true h2.2⟩
    · cases h2
  · cases h
theorem ent_bulk {fuel : Nat} {r : Int × Sl} {x : DataW H × List MemPlace} (h : DataW.trod enc Try.prog w 0 (fun _ => true) true fuel 43 (entC r) = some x) : r.2.n + 1 ≤ Rows.uptoBulk x.1 := by
  obtain ⟨fs, f1, hu, hsz, hf1, ht, ho⟩ := ent_und
  obtain ⟨xs, n, _, rfl, _, hl, hx⟩ := DataW.trod_struct hu h
  have h1 := hx 1 f1 hf1
  rw [ht, ho] at h1
  have hl : xs.length = 2 := by omega
  have hc : Try.prog.cellsOf 41 = 1 := by kernel_rfl
  rw [hc, List.getElem?_eq_getElem (by omega)] at h1
  have h2 := slice_bulk (s := r.2) comps_ty.under h1
  have h3 := bulk_part (List.mem_map.2 ⟨xs[1], List.getElem_mem (by omega), rfl⟩ : xs[1].1 ∈ xs.map (·.1))
  simp only [Rows.uptoBulk]
  omega
theorem range_sum (raws : List (Int × Sl)) (len : Nat) (h : len = raws.length) : (List.range len).map (fun i => ((raws[i]?).map fun r => r.2.n + 1).getD 0) = raws.map fun r => r.2.n + 1 := by
  apply List.ext_getElem (by simp [h])
  intro i h1 h2
  have hi : i < raws.length := by simpa using h2
  rw [List.getElem_map, List.getElem_map, List.getElem_range, List.getElem?_eq_getElem hi]
  rfl
theorem ents_bulk {v : Value} {d : DataW H} {p : List MemPlace} (h : DataW.Trod enc Try.prog w 0 (fun _ => true) true 22 v d p) {s : Sl} {raws : List (Int × Sl)} (hv : v = s.v) (hS : SlT (Old w) w entT s raws) : (raws.map fun r => r.2.n + 1).sum ≤ Rows.uptoBulk d := by
  obtain ⟨fuel, h⟩ := h
  subst hv
  rcases open_slice ents_ty.under h with ⟨hc, hx⟩ | ⟨a, len, cap, m, n, D, Pl, hc, _, hlc, _, hm, hx, hel⟩
  · have hc : [Value.slice s.a s.n s.c] = [.slice none 0 0] := hc
    injection hc with hc
    injection hc with _ h1
    have := hS.len
    have : raws = [] := List.length_eq_zero_iff.1 (by omega)
    subst this
    simp
  · have hc : [Value.slice s.a s.n s.c] = [.slice (some a) len cap] := hc
    injection hc with hc
    injection hc with ha h1
    have hm : m = cap := by simpa using hm
    have hrl := hS.len
    injection hx with hx1
    subst hx1
    have key : ∀ i ∈ List.range len, ((raws[i]?).map fun r => r.2.n + 1).getD 0 ≤ Rows.uptoBulk (D i) := by
      intro i hi
      have hi := List.mem_range.1 hi
      obtain ⟨cs', g1, g2⟩ := hel i (by omega)
      obtain ⟨g3, g4⟩ := cells_at g1
      have hrx := List.getElem?_eq_getElem (l := raws) (i := i) (by omega)
      have e : cs' = entC raws[i] := by
        rcases hS.at_ with e | ⟨b, o, hb, _, _, hr⟩
        · rw [e] at hrl; simp at hrl; omega
        · have hr := Rd.cells.1 (hr i _ hrx)
          rw [hb] at ha
          have ha := Option.some.inj ha
          have hsz : Try.prog.cellsOf 43 = 2 := by kernel_rfl
          rw [hsz, ← ha, add_lit] at g4
          rw [hsz] at g3
          apply List.ext_getElem?
          intro j
          by_cases hj : j < 2
          · have e1 := g4 j _ (List.getElem?_eq_getElem (by omega))
            have hl2 : (entT.cells raws[i]).length = 2 := entT.cells_len _
            have e2 := hr j _ (List.getElem?_eq_getElem (by omega))
            have : i * entT.size = i * 2 := rfl
            rw [this] at e2
            rw [e2] at e1
            rw [List.getElem?_eq_getElem (by omega)]
            have e1 := Option.some.inj e1
            rw [← e1]
            exact (List.getElem?_eq_getElem (by omega)).symm
          · have hl2 : (entC raws[i]).length = 2 := rfl
            have a1 : cs'[j]? = none := List.getElem?_eq_none (by omega)
            have a2 : (entC raws[i])[j]? = none := List.getElem?_eq_none (by omega)
            exact a1.trans a2.symm
      rw [e] at g2
      rw [hrx]
      exact ent_bulk g2
    have hs := bulk_sum D (fun i => ((raws[i]?).map fun r => r.2.n + 1).getD 0) (List.range len) key
    rw [range_sum raws len (by omega)] at hs
    simp only [Rows.uptoBulk]
    omega

end Go.Proofs.Ytcahnbflfehonaa
