/-
  append of whatever slice to an own row, as an operation of a drawn region.
  Steps of drawn regions: a slice literal of one mark.
-/
import Derived.Test.YtffnbkmigapmjaaGreatDoorT6
import Derived.Test.YtffnbkmigapmjaaGreatDoorT8
import Derived.Great.BuildSlice
set_option linter.unusedSimpArgs false
set_option linter.unusedVariables false
namespace Go.Proofs.YtffnbkmigapmjaaGreatDoor
open Go.RowKit
theorem step_append_w {α : Type} {s : Nat} {f : α → List Value} (hf : ∀ x, (f x).length = s) (hs0 : 0 < s) {P : Program} {w : World} {ops : Array Oper} {o : Oper} {a : Act} {K : Act → World → Prop} {Q : Exit → Act → World → Prop} {E : Prop} (hgd : Region.wanted o (yielded ops a.tmps) = true) (s1 x : Operand) (t : TypeId)
    (ho : o.op = .call { callee := .builtin .append, args := #[s1, x], argTypes := #[t, t] })
    (base : Nat) (e : TypeId) (i : TypeInfo) (z : Value) (bytes : Nat) (ht : P.underlying t = some (.slice e)) (hi : P.info? e = some i) (hz : i.zero = some z)
    (hsize : i.size = s) (hby : i.bytes = bytes) (hzs : z.cells.size = s)
    (v : Value) (n : Nat) (xs : List Value) (hs : a.eval s1 = v) (hown : w.ownsRow base e s v n xs)
    (u : Value) (ys : List α) (hx : a.eval x = u) (hr : RdL s f w u ys) (hn : NilOk u) (h1 : ∀ c ∈ ys.flatMap f, c.oneCell' = true)
    (h63 : n + ys.length ≤ maxLen) (hbytes : (n + ys.length) * bytes ≤ 140737488355328) (hbase : base ≤ w.heap.size)
    (h : ∀ v' w', w'.ownsRow base e s v' (n + ys.length) (xs ++ ys.flatMap f) → w.grownBy w' v.ownBlock → NilOk v' → K (a.put o.dst v') w') : if Region.wanted o (yielded ops a.tmps) = true then Oper.wp P o a w K Q else E := by
  rw [if_pos hgd]
  have hnil : ∀ {v' : Value} {w' : World} {k : Nat} {cs : List Value}, w'.ownsRow base e s v' k cs → NilOk v' := by
    intro v' w' k cs h l c hv
    obtain ⟨_, ⟨h2, h3⟩ | ⟨g, cap, cur, hv', _⟩⟩ := h
    · rw [hv] at h2; cases h2; exact ⟨rfl, rfl⟩
    · rw [hv] at hv'; cases hv'
  obtain ⟨ad, cap, rfl, _, _⟩ := hr.form
  cases ad with
  | none =>
    obtain ⟨hl, hc⟩ := hn _ _ rfl
    have hy : ys = [] := List.length_eq_zero_iff.1 hl
    subst hy
    subst hc
    have hrun := run_append_owned_none (P := P) (w := w) base t o.type e i s ht hi v n xs hown
    unfold Oper.wp
    simp [execOp, ho, resolve, invoke, builtin, hs, hx, hrun, Result.andThen]
    exact h v w (by simpa using hown) (World.grownBy.refl _ _) (hnil hown)
  | some ad =>
    refine wp_append_own w s1 x t ho base e i z s bytes ht hi hz hsize hby hzs hs0 v n xs hs hown ad ys.length cap (ys.flatMap f) hx (flat_len hf ys) ?_ h1 h63 hbytes hbase (fun v' w' h2 h3 _ => h v' w' h2 h3 (hnil h2))
    by_cases hy : ys = []
    · subst hy; intro j u hu; cases hu
    · obtain ⟨b, off, e⟩ := addr_some hr hy
      cases e
      exact hr.news hf hs0
end Go.Proofs.YtffnbkmigapmjaaGreatDoor

set_option linter.unusedSimpArgs false
set_option linter.unusedVariables false
set_option maxRecDepth 100000
namespace Go.Proofs.YtffnbkmigapmjaaGreatDoor
open Go.RowKit
/-- A literal of one mark. -/
theorem step_build1w (k : MarkD) {ops : Array Oper} {o : Oper} {a : Act} {K : Act → World → Prop} {Q : Exit → Act → World → Prop} {E : Prop} {w : World} {x : Operand} (hgd : Region.wanted o (yielded ops a.tmps) = true) (ho : o.op = .buildSlice 41 1 #[(0, x)]) (hx : a.eval x = .agg #[.int .i64 k.kind, .int .i64 k.rcpt, .int .i64 k.n])
    (h : ∀ g w', w'.heap[g]? = some (.cells #[.int .i64 k.kind, .int .i64 k.rcpt, .int .i64 k.n] 53 (0, 0)) → g = w.heap.size → Below w.heap.size w w' → w'.heap.size = w.heap.size + 1 → K (a.put o.dst (.slice (some ⟨g, 0, none⟩) 1 1)) w') :
    if Region.wanted o (yielded ops a.tmps) = true then Oper.wp Tryz.prog o a w K Q else E := by
  rw [if_pos hgd]
  obtain ⟨i0, hi, hz0, hz1, hz2⟩ := info_parts infoMark
  have := h w.heap.size (w.alloc (.cells #[.int .i64 k.kind, .int .i64 k.rcpt, .int .i64 k.n] 53)) (heap_alloc_new w _) rfl ((Below.refl _ _).alloc (Nat.le_refl _) _) (by simp)
  refine wp_buildSlice 41 53 1 _ ho #[.int .i64 k.kind, .int .i64 k.rcpt, .int .i64 k.n] i0 _ Tryz.underlying41 hi hz0 (by rw [hz1]; decide) (by rw [hz1]; decide) ?_ this
  rw [hz1]
  simp [hx]
  kernel_rfl
/-- One mark in a block is a slice of one mark. -/
theorem rdM_one {w : World} {g : Nat} {k : MarkD} (h : w.heap[g]? = some (.cells #[.int .i64 k.kind, .int .i64 k.rcpt, .int .i64 k.n] 53 (0, 0))) : RdM w (.slice (some ⟨g, 0, none⟩) 1 1) [k] := by
  refine .inr ⟨g, 0, 1, rfl, by simp, Nat.le_refl _, by decide, (Array.getElem?_eq_some_iff.1 h).1, ?_⟩
  intro i x hx j u hu
  match i, hx with
  | 0, hx =>
    cases hx
    have hj : j < 3 := (List.getElem?_eq_some_iff.1 hu).1
    match j, hj, hu with
    | 0, _, hu => cases hu; rw [cell_of_row _ _ _ _ _ _ h]; rfl
    | 1, _, hu => cases hu; rw [cell_of_row _ _ _ _ _ _ h]; rfl
    | 2, _, hu => cases hu; rw [cell_of_row _ _ _ _ _ _ h]; rfl
  | i + 1, hx => cases hx
end Go.Proofs.YtffnbkmigapmjaaGreatDoor
