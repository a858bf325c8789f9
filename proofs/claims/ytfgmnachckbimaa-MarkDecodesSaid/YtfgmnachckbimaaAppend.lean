/-
  Appending what a slice holds, whatever that slice is, to a row of the call's own; a slice literal without elements.
-/
import Derived.Test.YtfgmnachckbimaaRow
import Derived.Laws.AppendOwn
import Derived.Laws.AppendOwnNone
set_option linter.unusedSimpArgs false
set_option linter.unusedVariables false
namespace Go.Proofs.Ytfgmnachckbimaa
open Go.RowKit
/-- A slice value without an address is nil. -/
def NilOk (v : Value) : Prop := ∀ l c, v = .slice none l c → l = 0 ∧ c = 0
theorem RdL.news {α : Type} {s : Nat} {f : α → List Value} (hf : ∀ x, (f x).length = s) (hs : 0 < s) {w : World} {b off len cap : Nat} {xs : List α} (h : RdL s f w (.slice (some ⟨b, off, none⟩) len cap) xs) :
    ∀ (j : Nat) u, (xs.flatMap f)[j]? = some u → w.cell? ((⟨b, off, none⟩ : Addr).add j) = some u := by
  intro j u hu
  rcases h with ⟨_, _, _, _, rfl⟩ | ⟨b', off', cap', hv, h0, h1, h2, h3, h4⟩
  · cases hu
  · cases hv
    have hj : j < xs.length * s := by have := (List.getElem?_eq_some_iff.1 hu).1; rw [flat_len hf] at this; exact this
    have hdiv : j / s < xs.length := (Nat.div_lt_iff_lt_mul hs).2 hj
    have hmod : j % s < s := Nat.mod_lt _ hs
    have e : j = j / s * s + j % s := by rw [Nat.mul_comm]; exact (Nat.div_add_mod j s).symm
    have hx : xs[j / s]? = some xs[j / s] := List.getElem?_eq_getElem hdiv
    have hg := flat_get hf hs xs _ _ hx _ hmod
    rw [← e, hu] at hg
    have := h4 _ _ hx _ _ hg.symm
    rw [← e] at this
    rw [add_at]
    exact this
theorem addr_some {α : Type} {s : Nat} {f : α → List Value} {w : World} {a : Option Addr} {len cap : Nat} {xs : List α} (h : RdL s f w (.slice a len cap) xs) (hne : xs ≠ []) : ∃ b off, a = some ⟨b, off, none⟩ := by
  rcases h with ⟨_, _, _, _, rfl⟩ | ⟨b', off', cap', hv, h0, h1, h2, h3, h4⟩
  · exact absurd rfl hne
  · cases hv; exact ⟨_, _, rfl⟩
theorem wpList_append_any {α : Type} {s : Nat} {f : α → List Value} (hf : ∀ x, (f x).length = s) (hs0 : 0 < s) {P : Program} {w : World} {ops : Array Oper} {rest : List Oper} {o : Oper} {a : Act} {Q : Exit → Act → World → Prop} (hgd : o.guard = none) (s1 x : Operand) (t : TypeId)
    (ho : o.op = .call { callee := .builtin .append, args := #[s1, x], argTypes := #[t, t] })
    (base : Nat) (e : TypeId) (i : TypeInfo) (z : Value) (bytes : Nat) (ht : P.underlying t = some (.slice e)) (hi : P.info? e = some i) (hz : i.zero = some z)
    (hsize : i.size = s) (hby : i.bytes = bytes) (hzs : z.cells.size = s)
    (v : Value) (n : Nat) (xs : List Value) (hs : a.eval s1 = v) (hown : w.ownsRow base e s v n xs)
    (u : Value) (ys : List α) (hx : a.eval x = u) (hr : RdL s f w u ys) (hn : NilOk u) (h1 : ∀ c ∈ ys.flatMap f, c.oneCell' = true)
    (h63 : n + ys.length ≤ maxLen) (hbytes : (n + ys.length) * bytes ≤ 140737488355328) (hbase : base ≤ w.heap.size)
    (h : ∀ v' w', w'.ownsRow base e s v' (n + ys.length) (xs ++ ys.flatMap f) → w.grownBy w' v.ownBlock → NilOk v' → wpList P ops Q rest (a.put o.dst v') w') : wpList P ops Q (o :: rest) a w := by
  have hnil : ∀ {v' : Value} {w' : World} {k : Nat} {cs : List Value}, w'.ownsRow base e s v' k cs → NilOk v' := by
    intro v' w' k cs h l c hv
    obtain ⟨_, ⟨h2, h3⟩ | ⟨g, cap, cur, hv', _⟩⟩ := h
    · rw [hv] at h2; cases h2; exact ⟨rfl, rfl⟩
    · rw [hv] at hv'; cases hv'
  obtain ⟨ad, cap, rfl, _, _⟩ := hr.form
  cases ad with
  | none =>
    obtain ⟨hl, hc⟩ := hn _ _ rfl
    have hy : ys = [] := List.length_eq_zero_iff.1 hl
    subst hy
    subst hc
    refine wpList_append_own_none hgd s1 x t ho base e i s ht hi v n xs hs hown hx (h v w (by simpa using hown) (World.grownBy.refl _ _) (hnil hown))
  | some ad =>
    refine wpList_append_own w hgd s1 x t ho base e i z s bytes ht hi hz hsize hby hzs hs0 v n xs hs hown ad ys.length cap (ys.flatMap f) hx (flat_len hf ys) ?_ h1 h63 hbytes hbase (fun v' w' h2 h3 _ => h v' w' h2 h3 (hnil h2))
    by_cases hy : ys = []
    · subst hy; intro j u hu; cases hu
    · obtain ⟨b, off, e⟩ := addr_some hr hy
      cases e
      exact hr.news hf hs0
end Go.Proofs.Ytfgmnachckbimaa
