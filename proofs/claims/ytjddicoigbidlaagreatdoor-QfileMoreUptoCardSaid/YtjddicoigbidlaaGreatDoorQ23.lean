/-
  The plain side of the laws on fates: what a recipient's fate hangs on, what ended stays, nothing that is counted becomes less.
-/
import Derived.Test.YtjddicoigbidlaaGreatDoorQ2
set_option linter.unusedSimpArgs false
set_option linter.unusedVariables false
namespace Go.Proofs.YtjddicoigbidlaaGreatDoor
open Go.RowKit
/-- The marks of one recipient that count. -/
def mineOf (r : Nat) (ks : List MarkD) : List MarkD := ks.filter fun k => k.good && decide (k.rcpt.toNat = r)
theorem putD_get (fs : List FateD) (k : MarkD) (r : Nat) : (putD fs k)[r]? = fs[r]?.map fun f => if k.good && decide (k.rcpt.toNat = r) then stepD f k else f := by
  unfold putD
  by_cases hg : k.good = true
  · rw [if_pos hg, List.getElem?_modify]
    by_cases hr : k.rcpt.toNat = r
    · simp [hg, hr]
    · simp [hg, hr]
  · simp [hg]
theorem foldD_get (ks : List MarkD) (r : Nat) : ∀ fs : List FateD, (ks.foldl putD fs)[r]? = fs[r]?.map fun f => (mineOf r ks).foldl stepD f := by
  induction ks with
  | nil => intro fs; simp [mineOf]
  | cons k ks ih =>
    intro fs
    rw [List.foldl_cons, ih, putD_get, Option.map_map]
    congr 1
    funext f
    simp only [Function.comp_def, mineOf, List.filter_cons]
    split <;> simp_all
theorem fatesD_get (m : Nat) (ks : List MarkD) (r : Nat) (hr : r < m) : (fatesD m ks)[r]? = some ((mineOf r ks).foldl stepD .zero) := by
  rw [fatesD, foldD_get, List.getElem?_replicate, if_pos hr]
  rfl
/-- Only a recipient's own marks. -/
theorem mineOf_own (r : Nat) (ks : List MarkD) : mineOf r (ks.filter fun k => decide (k.rcpt = (r : Int))) = mineOf r ks := by
  unfold mineOf
  rw [List.filter_filter]
  congr 1
  funext k
  by_cases hg : k.good = true
  · have hg' : 1 ≤ k.kind ∧ k.kind ≤ 5 ∧ 0 ≤ k.rcpt ∧ k.rcpt < 8 ∧ 0 ≤ k.n ∧ k.n ≤ 1099511627776 := of_decide_eq_true hg
    have : decide (k.rcpt.toNat = r) = decide (k.rcpt = (r : Int)) := by
      apply decide_eq_decide.2
      omega
    rw [this]
    simp
  · simp [hg]
/-- The marks that are none do nothing. -/
theorem fatesD_good (m : Nat) (ks : List MarkD) : fatesD m (ks.filter MarkD.good) = fatesD m ks := by
  unfold fatesD
  generalize List.replicate m FateD.zero = fs
  induction ks generalizing fs with
  | nil => rfl
  | cons k ks ih =>
    rw [List.filter_cons]
    split
    · rw [List.foldl_cons, List.foldl_cons, ih]
    · next h => rw [List.foldl_cons, ih, putD, if_neg h]
theorem stepD_ended (f : FateD) (k : MarkD) (h : f.state ≠ 0) : stepD f k = f := by rw [stepD, if_pos h]
theorem foldStep_ended (ks : List MarkD) (f : FateD) (h : f.state ≠ 0) : ks.foldl stepD f = f := by
  induction ks with
  | nil => rfl
  | cons k ks ih => rw [List.foldl_cons, stepD_ended f k h, ih]
/-- One step counts at most one more. -/
theorem stepD_more (f : FateD) (k : MarkD) (n : Nat) (ht : 0 ≤ f.tries ∧ f.tries ≤ (n : Int)) (hc : 0 ≤ f.crashes ∧ f.crashes ≤ (n : Int)) (hn : n < 1000000) :
    f.tries ≤ (stepD f k).tries ∧ (stepD f k).tries ≤ ((n + 1 : Nat) : Int) ∧ f.crashes ≤ (stepD f k).crashes ∧ (stepD f k).crashes ≤ ((n + 1 : Nat) : Int) := by
  have w1 : wrap64 (f.tries + 1) = f.tries + 1 := by unfold wrap64; omega
  have w2 : wrap64 (f.crashes + 1) = f.crashes + 1 := by unfold wrap64; omega
  unfold stepD
  rw [w1, w2]
  repeat' split
  all_goals ((try dsimp only); refine ⟨?_, ?_, ?_, ?_⟩ <;> omega)
theorem foldStep_more (ks : List MarkD) : ∀ (f : FateD) (n : Nat), 0 ≤ f.tries ∧ f.tries ≤ (n : Int) → 0 ≤ f.crashes ∧ f.crashes ≤ (n : Int) → n + ks.length < 1000000 →
    f.tries ≤ (ks.foldl stepD f).tries ∧ (ks.foldl stepD f).tries ≤ ((n + ks.length : Nat) : Int) ∧ f.crashes ≤ (ks.foldl stepD f).crashes ∧ (ks.foldl stepD f).crashes ≤ ((n + ks.length : Nat) : Int) := by
  induction ks with
  | nil => intro f n ht hc hn; simp; omega
  | cons k ks ih =>
    intro f n ht hc hn
    rw [List.length_cons] at hn
    obtain ⟨a1, a2, a3, a4⟩ := stepD_more f k n ht hc (by omega)
    obtain ⟨b1, b2, b3, b4⟩ := ih (stepD f k) (n + 1) ⟨by omega, a2⟩ ⟨by omega, a4⟩ (by omega)
    rw [List.foldl_cons, List.length_cons]
    refine ⟨by omega, by omega, by omega, by omega⟩
theorem mineOf_append (r : Nat) (l m : List MarkD) : mineOf r (l ++ m) = mineOf r l ++ mineOf r m := List.filter_append ..
theorem mineOf_length (r : Nat) (l : List MarkD) : (mineOf r l).length ≤ l.length := List.length_filter_le ..
/-- What ended, ended; nothing becomes less. -/
theorem fates_last (l m : List MarkD) (h : l.length + m.length ≤ 200) (r : Nat) (a b : FateD) (ha : (fatesD 8 l)[r]? = some a) (hb : (fatesD 8 (l ++ m))[r]? = some b) :
    (a.state ≠ 0 → b = a) ∧ a.tries ≤ b.tries ∧ a.crashes ≤ b.crashes := by
  have hr : r < 8 := by have := (List.getElem?_eq_some_iff.1 ha).1; rw [fatesD_length] at this; exact this
  rw [fatesD_get _ _ _ hr] at ha hb
  cases ha; cases hb
  rw [mineOf_append, List.foldl_append]
  have l1 := mineOf_length r l
  have l2 := mineOf_length r m
  obtain ⟨a1, a2, a3, a4⟩ := foldStep_more (mineOf r l) .zero 0 (by simp [FateD.zero]) (by simp [FateD.zero]) (by omega)
  obtain ⟨b1, b2, b3, b4⟩ := foldStep_more (mineOf r m) ((mineOf r l).foldl stepD .zero) (0 + (mineOf r l).length) ⟨by simp [FateD.zero] at a1; exact a1, a2⟩ ⟨by simp [FateD.zero] at a3; exact a3, a4⟩ (by omega)
  exact ⟨fun hs => foldStep_ended _ _ hs, b1, b3⟩
end Go.Proofs.YtjddicoigbidlaaGreatDoor
