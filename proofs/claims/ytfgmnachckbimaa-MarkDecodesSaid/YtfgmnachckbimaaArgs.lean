/-
  Arguments of a law as the walks want them: byte slices, slices of marks.
-/
import Derived.Test.YtfgmnachckbimaaRow
import Derived.OpenShut
import Derived.Deep.Slices
import Derived.ChangeOld
set_option linter.unusedSimpArgs false
set_option linter.unusedVariables false
namespace Go.Proofs.Ytfgmnachckbimaa
open Go.ChangeShapes Go.WideShapes Go.Deep Go.RowKit
theorem addr_plain {w : World} {x : Addr} {n : Nat} {v : Value} (h : w.cell? (x.add 0) = some v) : ∃ b off, x = ⟨b, off, none⟩ := by
  obtain ⟨b, off, s⟩ := x
  rw [Addr.add, if_pos rfl] at h
  cases s with
  | none => exact ⟨b, off, rfl⟩
  | some s => unfold World.cell? at h; split at h <;> simp at h
theorem add_plain (b off i : Nat) : Addr.add ⟨b, off, none⟩ i = ⟨b, off + i, none⟩ := by
  unfold Addr.add
  split
  · next h => subst h; rfl
  · rfl
section
variable {H : Type} {enc : TypeId × Value → H} {W : World} {r : Reach} {b0 base : Nat} {spare : Nat → Bool} {held : Bool} {v : Value} {d : DataW H} {p : List MemPlace}
theorem rdB_arg (hv : Value.okWide Try.prog W r b0 22 v) (h : DataW.Trod enc Try.prog W base (fun _ => true) held 22 v d p) : ∃ bs, RdB W v bs := by
  obtain ⟨a0, len0, cap0, rfl⟩ := okWide_slice Try.underlying22 hv
  obtain ⟨fuel, hf⟩ := h
  rcases open_ints Try.underlying22 Try.underlying5 (by kernel_rfl) hf with ⟨hcs, _⟩ | ⟨x, l, c, zs, hcs, _, hl, hm, hz, _, hcell, hwz⟩
  · simp [Value.cells] at hcs
    obtain ⟨rfl, rfl, rfl⟩ := hcs
    exact ⟨[], .inl ⟨_, _, rfl, by decide, rfl⟩⟩
  · simp [Value.cells] at hcs
    obtain ⟨rfl, rfl, rfl⟩ := hcs
    obtain ⟨bs, hb, _⟩ := rdB_of (w := W) (a := some x) (len := len0) (cap := cap0) (.inr ⟨_, rfl, hl, hm, by simpa using hz, hcell, hwz⟩)
    exact ⟨bs, hb⟩
theorem fieldsMark : ∃ f0 f1 f2 : Field, Try.prog.underlying 36 = some (.struct #[f0, f1, f2]) ∧ (f0.type = 3 ∧ f0.offset = 0) ∧ (f1.type = 3 ∧ f1.offset = 1) ∧ (f2.type = 3 ∧ f2.offset = 2) :=
  ⟨_, _, _, Try.underlying36, ⟨rfl, rfl⟩, ⟨rfl, rfl⟩, rfl, rfl⟩
/-- The cells of one mark. -/
theorem mark_cells {n : Nat} {cs : List Value} {x : DataW H × List MemPlace} (h : DataW.trod enc Try.prog W base spare held n 36 cs = some x) :
    ∃ k : MarkD, cs = k.cells := by
  obtain ⟨f0, f1, f2, hu, ⟨t0, o0⟩, ⟨t1, o1⟩, t2, o2⟩ := fieldsMark
  obtain ⟨xs, m, _, _, hl, hxl, hat⟩ := DataW.trod_struct hu h
  have hc : Try.prog.cellsOf 36 = 3 := by kernel_rfl
  have hi : Try.prog.cellsOf 3 = 1 := by kernel_rfl
  rw [hc] at hl
  match cs, hl with
  | [c0, c1, c2], _ =>
    match xs, hxl with
    | [y0, y1, y2], _ =>
      have g0 := hat 0 f0 rfl
      have g1 := hat 1 f1 rfl
      have g2 := hat 2 f2 rfl
      rw [t0, o0, hi] at g0
      rw [t1, o1, hi] at g1
      rw [t2, o2, hi] at g2
      obtain ⟨n0, e0, _⟩ := DataW.trod_int (P := Try.prog) Try.underlying3 g0
      obtain ⟨n1, e1, _⟩ := DataW.trod_int (P := Try.prog) Try.underlying3 g1
      obtain ⟨n2, e2, _⟩ := DataW.trod_int (P := Try.prog) Try.underlying3 g2
      simp only [List.drop_succ_cons, List.drop_zero, List.take_succ_cons, List.take_zero, List.cons.injEq, and_true] at e0 e1 e2
      subst e0 e1 e2
      exact ⟨⟨n0, n1, n2⟩, rfl⟩
theorem rdM_arg (hv : Value.okWide Try.prog W r b0 41 v) (h : DataW.Trod enc Try.prog W base (fun _ => true) held 41 v d p) : ∃ ks, RdM W v ks := by
  obtain ⟨a0, len0, cap0, rfl⟩ := okWide_slice Try.underlying41 hv
  obtain ⟨fuel, hf⟩ := h
  rcases open_slice Try.underlying41 hf with ⟨hcs, _⟩ | ⟨x, l, c, m, n, D, Pl, hcs, _, hl, hm, hmm, _, hcell⟩
  · simp [Value.cells] at hcs
    obtain ⟨rfl, rfl, rfl⟩ := hcs
    exact ⟨[], .inl ⟨_, _, rfl, by decide, rfl⟩⟩
  · simp [Value.cells] at hcs
    obtain ⟨rfl, rfl, rfl⟩ := hcs
    rw [if_pos rfl] at hmm
    subst hmm
    have hc : Try.prog.cellsOf 36 = 3 := by kernel_rfl
    have hall : ∀ i : Nat, i < m → ∃ k : MarkD, W.cells? base (x.add (i * 3)) 3 = some k.cells := by
      intro i hi
      obtain ⟨cs', h1, h2⟩ := hcell i hi
      rw [hc] at h1
      obtain ⟨k, rfl⟩ := mark_cells h2
      exact ⟨k, h1⟩
    by_cases hz : len0 = 0
    · subst hz; exact ⟨[], .inl ⟨_, _, rfl, hm, rfl⟩⟩
    · have hx : ∃ b off, x = ⟨b, off, none⟩ := by
        obtain ⟨k, hk⟩ := hall 0 (by omega)
        have := (World.cells?_some hk).2.2 0 (by omega)
        rw [Nat.zero_mul] at this
        obtain ⟨b, off, s⟩ := x
        refine addr_plain (n := 0) (v := .int .i64 k.kind) (w := W) ?_
        simpa [Addr.add] using this
      obtain ⟨b, off, rfl⟩ := hx
      refine ⟨(List.range len0).map fun i => if hi : i < m then (hall i hi).choose else ⟨0, 0, 0⟩, .inr ⟨b, off, m, by simp, by simp; omega, by simpa using hl, hm, ?_, ?_⟩⟩
      · obtain ⟨k, hk⟩ := hall 0 (by omega)
        have := (World.cells?_some hk).2.2 0 (by omega)
        rw [Nat.zero_mul, add_plain, add_plain] at this
        exact World.block_lt_of_cell? W _ this
      · intro i k hk j u hu
        have hi : i < len0 := by have := (List.getElem?_eq_some_iff.1 hk).1; simpa using this
        rw [List.getElem?_map, List.getElem?_range hi] at hk
        simp only [Option.map_some, Option.some.injEq] at hk
        have him : i < m := by omega
        rw [dif_pos him] at hk
        have hs := (hall i him).choose_spec
        rw [hk] at hs
        have hj : j < 3 := (List.getElem?_eq_some_iff.1 hu).1
        have := (World.cells?_some hs).2.2 j hj
        rw [add_plain, add_plain, Nat.add_assoc] at this
        rw [this, hu]
end
end Go.Proofs.Ytfgmnachckbimaa
