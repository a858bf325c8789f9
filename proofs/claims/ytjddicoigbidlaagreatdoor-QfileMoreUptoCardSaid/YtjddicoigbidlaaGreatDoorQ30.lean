/-
  One mark more behind a file: the plain side of the law QfileMore.
-/
import Derived.Test.YtjddicoigbidlaaGreatDoorQ29
set_option linter.unusedSimpArgs false
set_option linter.unusedVariables false
set_option maxRecDepth 100000
namespace Go.Proofs.YtjddicoigbidlaaGreatDoor
open Go.RowKit
theorem bytesM_append (ks ls : List MarkD) : bytesM (ks ++ ls) = bytesM ks ++ bytesM ls := by
  unfold bytesM; rw [List.flatMap_append]
/-- The fates behind a mark more: the recipient's own is stepped, the others stay. -/
theorem putD_get2 {fs : List FateD} {k : MarkD} (hg : k.good = true) (i : Nat) : (putD fs k)[i]? = if i = k.rcpt.toNat then (fs[i]?).map (stepD · k) else fs[i]? := by
  unfold putD
  rw [if_pos hg, List.getElem?_modify]
  by_cases h : i = k.rcpt.toNat
  · subst h; simp
  · rw [if_neg h]
    have h' : ¬ k.rcpt.toNat = i := fun e => h e.symm
    simp [h']
theorem putD_other {fs : List FateD} {k : MarkD} {i : Nat} (h : (i : Int) ≠ k.rcpt) : (putD fs k)[i]? = fs[i]? := by
  cases hg : k.good with
  | false => unfold putD; rw [if_neg (by rw [hg]; decide)]
  | true =>
    have hg' : 1 ≤ k.kind ∧ k.kind ≤ 5 ∧ 0 ≤ k.rcpt ∧ k.rcpt < 8 ∧ 0 ≤ k.n ∧ k.n ≤ 1099511627776 := of_decide_eq_true hg
    rw [putD_get2 hg, if_neg (by omega)]
theorem putD_own {fs : List FateD} {k : MarkD} {i : Nat} {x : FateD} (hg : k.good = true) (h : (i : Int) = k.rcpt) (hx : fs[i]? = some x) : (putD fs k)[i]? = some (stepD x k) := by
  rw [putD_get2 hg, if_pos (by omega), hx]; rfl
theorem qgood_more {m : MailD} {ks : List MarkD} {k : MarkD} (h : qgood m (ks ++ [k]) = true) : (∀ x ∈ ks, x.good = true) ∧ k.good = true ∧ ks.length ≤ 59 ∧ m.good = true ∧ m.body.length ≤ 2000 := by
  obtain ⟨h1, h2, h3, h4⟩ := qgood_iff h
  rw [List.length_append] at h2
  exact ⟨fun x hx => h1 x (List.mem_append_left _ hx), h1 k (by simp), by simp at h2; omega, h3, h4⟩
end Go.Proofs.YtjddicoigbidlaaGreatDoor
