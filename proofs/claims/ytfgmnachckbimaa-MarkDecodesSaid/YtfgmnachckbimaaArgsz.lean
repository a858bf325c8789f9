/-
  What the reading of a slice argument tells besides: nil is nil, and how long it may be.
-/
import Derived.Test.YtfgmnachckbimaaArgs
import Derived.Test.YtfgmnachckbimaaAppend
import Derived.SizedLaws
set_option linter.unusedSimpArgs false
set_option linter.unusedVariables false
namespace Go.Proofs.Ytfgmnachckbimaa
open Go.ChangeShapes Go.WideShapes Go.Deep Go.RowKit
section
variable {H : Type} {enc : TypeId × Value → H} {W : World} {r : Reach} {b0 base : Nat} {spare : Nat → Bool} {held : Bool} {v : Value} {d : DataW H} {p : List MemPlace}
theorem slice_told {t e : TypeId} (ht : Try.prog.underlying t = some (.slice e)) (hv : Value.okWide Try.prog W r b0 t v) (h : DataW.Trod enc Try.prog W base spare held t v d p) :
    NilOk v ∧ ∀ a len cap, v = .slice a len cap → (d = .nil ∧ len = 0) ∨ ∃ el sp, d = .slice el sp ∧ el.length = len := by
  obtain ⟨a0, len0, cap0, rfl⟩ := okWide_slice ht hv
  obtain ⟨fuel, hf⟩ := h
  rcases DataW.trod_slice ht hf with ⟨hcs, hd⟩ | ⟨a, len, cap, elems, rest, n, _, hcs, hd, _, _, _, hlen, _⟩
  · simp [Value.cells] at hcs
    obtain ⟨rfl, rfl, rfl⟩ := hcs
    refine ⟨fun l c h => (by cases h; exact ⟨rfl, rfl⟩), fun a l c h => .inl ?_⟩
    cases h
    exact ⟨congrArg Prod.fst hd, rfl⟩
  · simp [Value.cells] at hcs
    obtain ⟨rfl, rfl, rfl⟩ := hcs
    refine ⟨fun l c h => (by cases h), fun a l c h => .inr ?_⟩
    cases h
    exact ⟨_, _, congrArg Prod.fst hd, by simpa using hlen⟩
end
end Go.Proofs.Ytfgmnachckbimaa
