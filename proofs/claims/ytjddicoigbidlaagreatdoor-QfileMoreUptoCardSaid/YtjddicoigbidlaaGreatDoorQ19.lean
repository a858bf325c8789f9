/-
  The plain side of pillarboxref10.Marks: three numbers read by an Eye are the mark that the bytes are, if they are one's.
-/
import Derived.Test.YtjddicoigbidlaaGreatDoorQ8
set_option linter.unusedSimpArgs false
set_option linter.unusedVariables false
namespace Go.Proofs.YtjddicoigbidlaaGreatDoor
open Go.RowKit
def eye1 (c : List UInt8) := eyeNum (c.take 24) false
def eye2 (c : List UInt8) := eyeNum (eye1 c).2.1 (eye1 c).2.2
def eye3 (c : List UInt8) := eyeNum (eye2 c).2.1 (eye2 c).2.2
def eyeMark (c : List UInt8) : MarkD := ⟨(eye1 c).1, (eye2 c).1, (eye3 c).1⟩
theorem eyeNum_bad (bs : List UInt8) : eyeNum bs true = (0, (bs, true)) := by simp [eyeNum]
theorem eyeNum_big (bs : List UInt8) (h : 4611686018427387904 < beNat (bs.take 8)) : eyeNum bs false = (0, (bs, true)) := by
  unfold eyeNum; split
  · rfl
  · first | rfl | rw [if_pos h]
theorem eyeNum_ok (bs : List UInt8) (hl : 8 ≤ bs.length) (h : ¬ 4611686018427387904 < beNat (bs.take 8)) : eyeNum bs false = (beNat (bs.take 8), (bs.drop 8, false)) := by
  unfold eyeNum; rw [if_neg (by simp; omega), if_neg h]
theorem eye_parse (c : List UInt8) (hc : c.length = 28) :
    parseMark c = if (eye3 c).2.2 = true then none else if (eyeMark c).good = true ∧ (eyeMark c).bytes = c then some (eyeMark c) else none := by
  have hl : (c.take 24).length = 24 := by simp; omega
  have p0 : (c.take 24).take 8 = c.take 8 := by rw [List.take_take]; congr 1
  have p1 : ((c.take 24).drop 8).take 8 = (c.drop 8).take 8 := by rw [List.drop_take, List.take_take]; congr 1
  have p2 : (((c.take 24).drop 8).drop 8).take 8 = (c.drop 16).take 8 := by rw [List.drop_drop, List.drop_take, List.take_take]; congr 1
  have big : ∀ n : Nat, 4611686018427387904 < n → ∀ k : MarkD, (k.kind = n ∨ k.rcpt = n ∨ k.n = n) → k.good = false := by
    intro n hn k hk
    exact decide_eq_false (by omega)
  by_cases h0 : 4611686018427387904 < beNat (c.take 8)
  · have g : (markOf c).good = false := big _ h0 _ (.inl rfl)
    have e1 : eye1 c = (0, (c.take 24, true)) := eyeNum_big _ (by rw [p0]; exact h0)
    have e2 : eye2 c = (0, (c.take 24, true)) := by rw [eye2, e1]; exact eyeNum_bad _
    have e3 : eye3 c = (0, (c.take 24, true)) := by rw [eye3, e2]; exact eyeNum_bad _
    simp [parseMark, g, e3]
  · have e1 : eye1 c = (beNat (c.take 8), ((c.take 24).drop 8, false)) := by rw [eye1, eyeNum_ok _ (by omega) (by rw [p0]; exact h0), p0]
    by_cases h1 : 4611686018427387904 < beNat ((c.drop 8).take 8)
    · have g : (markOf c).good = false := big _ h1 _ (.inr (.inl rfl))
      have e2 : eye2 c = (0, ((c.take 24).drop 8, true)) := by rw [eye2, e1]; exact eyeNum_big _ (by rw [p1]; exact h1)
      have e3 : eye3 c = (0, ((c.take 24).drop 8, true)) := by rw [eye3, e2]; exact eyeNum_bad _
      simp [parseMark, g, e3]
    · have e2 : eye2 c = (beNat ((c.drop 8).take 8), (((c.take 24).drop 8).drop 8, false)) := by rw [eye2, e1]; simp only; rw [eyeNum_ok _ (by simp [hl]) (by rw [p1]; exact h1), p1]
      by_cases h2 : 4611686018427387904 < beNat ((c.drop 16).take 8)
      · have g : (markOf c).good = false := big _ h2 _ (.inr (.inr rfl))
        have e3 : eye3 c = (0, (((c.take 24).drop 8).drop 8, true)) := by rw [eye3, e2]; exact eyeNum_big _ (by rw [p2]; exact h2)
        simp [parseMark, g, e3]
      · have e3 : eye3 c = (beNat ((c.drop 16).take 8), ((((c.take 24).drop 8).drop 8).drop 8, false)) := by rw [eye3, e2]; simp only; rw [eyeNum_ok _ (by simp [hl]) (by rw [p2]; exact h2), p2]
        have hm : eyeMark c = markOf c := by simp [eyeMark, markOf, e1, e2, e3]
        rw [e3, hm]
        simp [parseMark]
end Go.Proofs.YtjddicoigbidlaaGreatDoor
