/-
  Plain laws of the checksum: the table, the sum by the table, the sum bit by bit, its linearity, and that a turn within 32 bits shows.
  What the checksum's functions compute: crc.Table, crc.table, crc.Sum and the reference's CRC, for every input.
  What the reference's CRC computes, bit by bit: the same sum.
  What package mark computes: which marks are good, their bytes.
  What the reference computes of marks: their bytes.
  The walks of pillarboxref05: plain, Cut; strings' bytes and parts in the walk.
  The walk of pillarboxref05.Domain.
  The walk of pillarboxref05.Local.
  The walk of pillarboxref05.Small.
  The walk of pillarboxref05.Split.
  The walks of pillarboxref05.Parse and pillarboxref10.box.
  Reader.Done, and slices.Equal of bytes.
  The walks of env.within, pillarboxref10.Body, dots.Lines.
  The walk of dots.Lines.
  What mark.read answers: the mark that 28 bytes are.
  slices.Chunk of bytes, at 28 a part, hands back an iterator over the parts.
  What mark.Decode answers: the marks that bytes begin with.
  The walk of mark.Decode.
  A fate behind a mark: mark.step and pillarboxref10.Step compute the same.
  Slices of structs in memory; what mark.Fates and pillarboxref10.Fates compute, as plain data.
  Appending what a slice holds, whatever that slice is, to a row of the call's own; a slice literal without elements.
  The walks of env.Good's closure, slices.IndexFunc and ContainsFunc at it.
-/
import Derived.Test.YtjddicoigbidlaaDoorE1
import Derived.Test.YtjddicoigbidlaaDoorProg
import Derived.Deep.RegionHeld3
import Derived.Laws.IdiomStrings
import Derived.Laws.BytesArg
import Derived.Deep.QuietTactic
import Derived.BigQuiet
import Derived.BigRegion
import Derived.RangeFuncBox
import Derived.RangeFuncLeaves
import Derived.Shelf.Abstract
import Derived.WalkKit
import Derived.OwnWalkIn
import Derived.TacticsInMore
import Derived.LoopNIn
import Derived.LoopIn
import Derived.Maps.AppendAt
import Derived.RangeFuncCalls
import Derived.Laws.AppendOwn
import Derived.Laws.AppendOwnNone
set_option linter.unusedSimpArgs false
set_option linter.unusedVariables false
namespace PbCrc
abbrev B32 := BitVec 32
def poly : B32 := 0xedb88320#32
/-- One bit's step. -/
def step (c : B32) : B32 := if c.getLsbD 0 then (c >>> 1) ^^^ poly else c >>> 1
def steps : Nat → B32 → B32
  | 0, c => c
  | n + 1, c => steps n (step c)
theorem steps_succ (n : Nat) (c : B32) : steps (n + 1) c = step (steps n c) := by
  induction n generalizing c with
  | zero => rfl
  | succ n ih => rw [steps, ih]; rfl
/-- The table's entry. -/
def tab (n : Nat) : B32 := steps 8 (BitVec.ofNat 32 n)
/-- A byte's step, by the table. -/
def byteTab (c : B32) (x : UInt8) : B32 := tab (UInt8.ofNat c.toNat ^^^ x).toNat ^^^ (c >>> 8)
/-- A byte's step, by definition. -/
def byteStep (c : B32) (x : UInt8) : B32 := steps 8 (c ^^^ BitVec.ofNat 32 x.toNat)
def run (c : B32) (l : List UInt8) : B32 := l.foldl byteStep c
def sum (l : List UInt8) : B32 := ~~~ (run (BitVec.allOnes 32) l)

theorem step_xor (a b : B32) : step (a ^^^ b) = step a ^^^ step b := by
  unfold step
  rw [BitVec.getLsbD_xor, BitVec.ushiftRight_xor_distrib]
  cases ha : a.getLsbD 0 <;> cases hb : b.getLsbD 0
  · simp
  · simp [BitVec.xor_assoc]
  · simp only [Bool.xor_false, if_true, Bool.false_eq_true, if_false]
    ac_rfl
  · simp only [Bool.xor_self, Bool.false_eq_true, if_false, if_true]
    rw [show a >>> 1 ^^^ poly ^^^ (b >>> 1 ^^^ poly) = a >>> 1 ^^^ b >>> 1 ^^^ (poly ^^^ poly) by ac_rfl]
    simp
theorem steps_xor (n : Nat) (a b : B32) : steps n (a ^^^ b) = steps n a ^^^ steps n b := by
  induction n generalizing a b with
  | zero => rfl
  | succ n ih => rw [steps, step_xor, ih]; rfl
theorem step_zero : step 0#32 = 0#32 := by decide
theorem steps_zero (n : Nat) : steps n 0#32 = 0#32 := by
  induction n with
  | zero => rfl
  | succ n ih => rw [steps, step_zero, ih]
/-- Where the lowest n bits are nought, n steps are a shift. -/
theorem steps_shift (n : Nat) (c : B32) (h : ∀ i, i < n → c.getLsbD i = false) : steps n c = c >>> n := by
  induction n generalizing c with
  | zero => simp [steps]
  | succ n ih =>
    rw [steps, step, if_neg (by rw [h 0 (by omega)]; decide), ih]
    · rw [← BitVec.shiftRight_add, Nat.add_comm]
    · intro i hi
      rw [BitVec.getLsbD_ushiftRight, Nat.add_comm]
      exact h (i + 1) (by omega)
theorem lowByte (c : B32) (x : UInt8) (i : Nat) : (BitVec.ofNat 32 (UInt8.ofNat c.toNat ^^^ x).toNat).getLsbD i = (decide (i < 8) && ((c ^^^ BitVec.ofNat 32 x.toNat).getLsbD i)) := by
  rw [BitVec.getLsbD_xor, BitVec.getLsbD_ofNat, BitVec.getLsbD_ofNat, UInt8.toNat_xor, UInt8.toNat_ofNat', Nat.testBit_xor, Nat.testBit_mod_two_pow, ← BitVec.testBit_toNat]
  by_cases h : i < 8
  · simp [h, show i < 32 by omega]
  · have : x.toNat.testBit i = false := Nat.testBit_lt_two_pow (Nat.lt_of_lt_of_le x.toNat_lt (Nat.pow_le_pow_right (by omega) (by omega)))
    simp [h, this]
theorem byteTab_eq (c : B32) (x : UInt8) : byteTab c x = byteStep c x := by
  unfold byteTab byteStep tab
  have e : c ^^^ BitVec.ofNat 32 x.toNat = BitVec.ofNat 32 (UInt8.ofNat c.toNat ^^^ x).toNat ^^^ ((c >>> 8) <<< 8) := by
    apply BitVec.eq_of_getLsbD_eq
    intro i hi
    rw [BitVec.getLsbD_xor (x := BitVec.ofNat 32 (UInt8.ofNat c.toNat ^^^ x).toNat), lowByte, BitVec.getLsbD_shiftLeft, BitVec.getLsbD_ushiftRight]
    by_cases h : i < 8
    · simp [h]
    · have : x.toNat.testBit i = false := Nat.testBit_lt_two_pow (Nat.lt_of_lt_of_le x.toNat_lt (Nat.pow_le_pow_right (by omega) (by omega)))
      rw [BitVec.getLsbD_xor, BitVec.getLsbD_ofNat, this]
      simp [h, hi, show 8 + (i - 8) = i by omega]
  rw [e, steps_xor, steps_shift 8 ((c >>> 8) <<< 8)]
  · congr 1
    apply BitVec.eq_of_getLsbD_eq
    intro i hi
    simp only [BitVec.getLsbD_ushiftRight, BitVec.getLsbD_shiftLeft]
    by_cases h : i + 8 < 32
    · simp [show 8 + i < 32 by omega]
    · rw [BitVec.getLsbD_of_ge c (8 + i) (by omega)]; simp only [Bool.false_eq]; simp; intro h'; omega
  · intro i hi
    simp [BitVec.getLsbD_shiftLeft, hi]

/-- The sum bit by bit, as the reference has it: the k-th of x's bits. -/
def bitStep (c : B32) (b : Bool) : B32 := if (c.getLsbD 0 ^^ b) then (c >>> 1) ^^^ poly else c >>> 1
def bitRun (c : B32) (x : UInt8) : Nat → B32
  | 0 => c
  | k + 1 => bitStep (bitRun c x k) (x.toNat.testBit k)
theorem bitStep_eq (c : B32) (b : Bool) : bitStep c b = step (c ^^^ BitVec.ofNat 32 b.toNat) := by
  have h : (c ^^^ BitVec.ofNat 32 b.toNat) >>> 1 = c >>> 1 := by
    rw [BitVec.ushiftRight_xor_distrib]
    cases b <;> simp
  unfold bitStep step
  rw [h, BitVec.getLsbD_xor]
  cases b <;> simp
theorem bitRun_eq (c : B32) (x : UInt8) (k : Nat) (hk : k ≤ 8) : bitRun c x k ^^^ BitVec.ofNat 32 (x.toNat >>> k) = steps k (c ^^^ BitVec.ofNat 32 x.toNat) := by
  induction k with
  | zero => rfl
  | succ k ih =>
    have ih := ih (by omega)
    rw [steps_succ, ← ih, bitRun, bitStep_eq]
    have e : BitVec.ofNat 32 (x.toNat >>> k) = BitVec.ofNat 32 (x.toNat.testBit k).toNat ^^^ (BitVec.ofNat 32 (x.toNat >>> (k + 1)) <<< 1) := by
      apply BitVec.eq_of_getLsbD_eq
      intro i hi
      rw [BitVec.getLsbD_xor, BitVec.getLsbD_shiftLeft, BitVec.getLsbD_ofNat, BitVec.getLsbD_ofNat, BitVec.getLsbD_ofNat, Nat.testBit_shiftRight, Nat.testBit_shiftRight]
      cases i with
      | zero => cases x.toNat.testBit k <;> simp
      | succ i =>
        have : (x.toNat.testBit k).toNat.testBit (i + 1) = false := by cases x.toNat.testBit k <;> simp [Nat.testBit_succ]
        simp [this, hi, show i < 32 by omega, show k + 1 + i = k + (i + 1) by omega]
    have e2 : step (BitVec.ofNat 32 (x.toNat >>> (k + 1)) <<< 1) = BitVec.ofNat 32 (x.toNat >>> (k + 1)) := by
      unfold step
      rw [if_neg (by simp)]
      apply BitVec.eq_of_getLsbD_eq
      intro i hi
      rw [BitVec.getLsbD_ushiftRight, BitVec.getLsbD_shiftLeft]
      have : (x.toNat >>> (k+1)).testBit i = false ∨ i < 31 := by
        by_cases h : i < 31
        · exact .inr h
        · left; apply Nat.testBit_lt_two_pow
          have := x.toNat_lt
          have h2 : x.toNat >>> (k+1) ≤ x.toNat := Nat.shiftRight_le ..
          exact Nat.lt_of_le_of_lt h2 (Nat.lt_of_lt_of_le this (Nat.pow_le_pow_right (by omega) (by omega)))
      rcases this with h | h
      · rw [BitVec.getLsbD_ofNat, BitVec.getLsbD_ofNat]
        rw [show 1 + i - 1 = i by omega, h]; simp
      · simp [show 1 + i < 32 by omega]
    rw [e, show bitRun c x k ^^^ (BitVec.ofNat 32 (x.toNat.testBit k).toNat ^^^ BitVec.ofNat 32 (x.toNat >>> (k + 1)) <<< 1) = (bitRun c x k ^^^ BitVec.ofNat 32 (x.toNat.testBit k).toNat) ^^^ (BitVec.ofNat 32 (x.toNat >>> (k + 1)) <<< 1) by ac_rfl, step_xor (bitRun c x k ^^^ BitVec.ofNat 32 (x.toNat.testBit k).toNat), e2]
theorem bitRun_byte (c : B32) (x : UInt8) : bitRun c x 8 = byteStep c x := by
  have h := bitRun_eq c x 8 (by omega)
  have hx : x.toNat >>> 8 = 0 := by have := x.toNat_lt; rw [Nat.shiftRight_eq_div_pow]; omega
  rw [hx] at h
  unfold byteStep
  rw [← h]; simp

theorem run_append (c : B32) (a b : List UInt8) : run c (a ++ b) = run (run c a) b := by simp [run]
theorem run_snoc (c : B32) (a : List UInt8) (x : UInt8) : run c (a ++ [x]) = byteStep (run c a) x := by simp [run]
theorem byteStep_xor (c d : B32) (x y : UInt8) : byteStep (c ^^^ d) (x ^^^ y) = byteStep c x ^^^ byteStep d y := by
  unfold byteStep
  rw [← steps_xor]
  congr 1
  rw [show BitVec.ofNat 32 (x ^^^ y).toNat = BitVec.ofNat 32 x.toNat ^^^ BitVec.ofNat 32 y.toNat by
    rw [UInt8.toNat_xor]
    apply BitVec.eq_of_getLsbD_eq; intro i hi
    simp [hi]]
  ac_rfl
def lay (a b : List UInt8) : List UInt8 := List.zipWith (· ^^^ ·) a b
theorem run_lay : ∀ (a b : List UInt8) (c d : B32), a.length = b.length → run (c ^^^ d) (lay a b) = run c a ^^^ run d b
  | [], [], c, d, _ => rfl
  | x :: a, y :: b, c, d, h => by
    show run (byteStep (c ^^^ d) (x ^^^ y)) (lay a b) = _
    rw [byteStep_xor, run_lay a b _ _ (by simpa using h)]; rfl
/-- Three texts of one length. -/
theorem sum_lay (a b c : List UInt8) (hb : a.length = b.length) (hc : a.length = c.length) : sum (lay (lay a b) c) = sum a ^^^ sum b ^^^ sum c := by
  unfold sum
  have h1 : (lay a b).length = c.length := by simp [lay, ← hb, hc]
  have e : BitVec.allOnes 32 = BitVec.allOnes 32 ^^^ BitVec.allOnes 32 ^^^ BitVec.allOnes 32 := by decide
  conv => lhs; rw [e]
  rw [run_lay _ _ _ _ h1, run_lay _ _ _ _ hb]
  generalize run (BitVec.allOnes 32) a = p; generalize run (BitVec.allOnes 32) b = q; generalize run (BitVec.allOnes 32) c = r
  apply BitVec.eq_of_getLsbD_eq; intro i hi
  simp only [BitVec.getLsbD_not, BitVec.getLsbD_xor, hi, decide_true, Bool.true_and]
  cases p.getLsbD i <;> cases q.getLsbD i <;> cases r.getLsbD i <;> rfl

/-! A turn of some bits within 32 shows. -/
theorem step_ne {c : B32} (h : c ≠ 0#32) : step c ≠ 0#32 := by
  intro e
  unfold step at e
  split at e
  · have := congrArg (·.getLsbD 31) e
    simp [poly] at this
  · rename_i h0
    apply h
    apply BitVec.eq_of_getLsbD_eq
    intro i hi
    cases i with
    | zero => simpa using h0
    | succ i =>
      have := congrArg (·.getLsbD i) e
      simp only [BitVec.getLsbD_ushiftRight] at this
      rw [Nat.add_comm] at this
      simpa using this
theorem steps_ne (n : Nat) {c : B32} (h : c ≠ 0#32) : steps n c ≠ 0#32 := by
  induction n generalizing c with
  | zero => exact h
  | succ n ih => exact ih (step_ne h)
theorem steps_add (m n : Nat) (c : B32) : steps (m + n) c = steps m (steps n c) := by
  induction n generalizing c with
  | zero => rfl
  | succ n ih => exact ih (step c)
theorem run_zeros_ne (n : Nat) {c : B32} (h : c ≠ 0#32) : run c (List.replicate n 0) ≠ 0#32 := by
  induction n generalizing c with
  | zero => exact h
  | succ n ih =>
    show run (byteStep c 0) (List.replicate n 0) ≠ _
    refine ih ?_
    unfold byteStep
    exact steps_ne 8 (by simpa using h)
theorem run_zeros (n : Nat) : run 0#32 (List.replicate n 0) = 0#32 := by
  induction n with
  | zero => rfl
  | succ n ih =>
    show run (byteStep 0#32 0) (List.replicate n 0) = _
    rw [show byteStep 0#32 0 = 0#32 by decide]; exact ih
theorem byte_bit (x : UInt8) (i : Nat) (h : 8 ≤ i) : x.toNat.testBit i = false :=
  Nat.testBit_lt_two_pow (Nat.lt_of_lt_of_le x.toNat_lt (Nat.pow_le_pow_right (by omega) h))
theorem steps_up (n : Nat) (hn : n ≤ 24) (x : UInt8) : steps n (BitVec.ofNat 32 x.toNat <<< n) = BitVec.ofNat 32 x.toNat := by
  rw [steps_shift]
  · apply BitVec.eq_of_getLsbD_eq
    intro i hi
    rw [BitVec.getLsbD_ushiftRight, BitVec.getLsbD_shiftLeft, show n + i - n = i by omega]
    by_cases h : i < 8
    · simp [show n + i < 32 by omega]
    · have := byte_bit x i (by omega)
      rw [BitVec.getLsbD_ofNat, this]; simp
  · intro i hi
    simp [BitVec.getLsbD_shiftLeft, hi]
theorem run_four (x0 x1 x2 x3 : UInt8) : run 0#32 [x0, x1, x2, x3] =
    steps 32 (BitVec.ofNat 32 x0.toNat ^^^ BitVec.ofNat 32 x1.toNat <<< 8 ^^^ BitVec.ofNat 32 x2.toNat <<< 16 ^^^ BitVec.ofNat 32 x3.toNat <<< 24) := by
  show byteStep (byteStep (byteStep (byteStep 0#32 x0) x1) x2) x3 = _
  unfold byteStep
  have a16 : ∀ c, steps 16 c = steps 8 (steps 8 c) := fun c => steps_add 8 8 c
  have a24 : ∀ c, steps 24 c = steps 8 (steps 8 (steps 8 c)) := fun c => (steps_add 8 16 c).trans (by rw [a16])
  have a32 : ∀ c, steps 32 c = steps 8 (steps 8 (steps 8 (steps 8 c))) := fun c => (steps_add 8 24 c).trans (by rw [a24])
  have u1 := steps_up 8 (by omega) x1
  have u2 := steps_up 16 (by omega) x2
  have u3 := steps_up 24 (by omega) x3
  rw [a16] at u2
  rw [a24] at u3
  rw [a32]
  simp only [steps_xor, u1, u2, u3, steps_zero]
  simp
/-- The five bytes of a turn. -/
def five (X : Nat) : List UInt8 := (List.range 5).map fun i => UInt8.ofNat (X >>> (8 * i))
theorem ofNat_byte (n i : Nat) : (BitVec.ofNat 32 (UInt8.ofNat n).toNat).getLsbD i = (decide (i < 8) && n.testBit i) := by
  rw [BitVec.getLsbD_ofNat, UInt8.toNat_ofNat', Nat.testBit_mod_two_pow]
  by_cases h : i < 8
  · simp [h, show i < 32 by omega]
  · simp [h]
theorem burst (turn : B32) (s : Nat) (hs : s < 8) (ht : turn ≠ 0#32) : run 0#32 (five (turn.toNat <<< s)) ≠ 0#32 := by
  show byteStep (run 0#32 [UInt8.ofNat (turn.toNat <<< s >>> 0), UInt8.ofNat (turn.toNat <<< s >>> 8), UInt8.ofNat (turn.toNat <<< s >>> 16), UInt8.ofNat (turn.toNat <<< s >>> 24)]) (UInt8.ofNat (turn.toNat <<< s >>> 32)) ≠ _
  rw [run_four]
  have lo : BitVec.ofNat 32 (UInt8.ofNat (turn.toNat <<< s >>> 0)).toNat ^^^ BitVec.ofNat 32 (UInt8.ofNat (turn.toNat <<< s >>> 8)).toNat <<< 8 ^^^ BitVec.ofNat 32 (UInt8.ofNat (turn.toNat <<< s >>> 16)).toNat <<< 16 ^^^ BitVec.ofNat 32 (UInt8.ofNat (turn.toNat <<< s >>> 24)).toNat <<< 24 = turn <<< s := by
    apply BitVec.eq_of_getLsbD_eq
    intro i hi
    simp only [BitVec.getLsbD_xor, BitVec.getLsbD_shiftLeft, ofNat_byte, Nat.testBit_shiftRight, Nat.testBit_shiftLeft, hi, decide_true, Bool.true_and, BitVec.testBit_toNat]
    by_cases h1 : i < 8
    · simp [h1, show i < 16 by omega, show i < 24 by omega]
      by_cases h : s ≤ i
      · simp [h, show ¬ i < s by omega]
      · simp [h, show i < s by omega]
    · by_cases h2 : i < 16
      · simp [h1, h2, show i < 24 by omega, show s ≤ i by omega, show ¬ i < s by omega, show i - 8 < 8 by omega, show 8 + (i - 8) = i by omega]
      · by_cases h3 : i < 24
        · simp [h1, h2, h3, show s ≤ i by omega, show ¬ i < s by omega, show ¬ i - 8 < 8 by omega, show i - 16 < 8 by omega, show 16 + (i - 16) = i by omega]
        · simp [h1, h2, h3, show s ≤ i by omega, show ¬ i < s by omega, show ¬ i - 8 < 8 by omega, show ¬ i - 16 < 8 by omega, show i - 24 < 8 by omega, show 24 + (i - 24) = i by omega]
  rw [lo]
  unfold byteStep
  refine steps_ne 8 ?_
  have key : steps 32 (turn <<< s) ^^^ BitVec.ofNat 32 (UInt8.ofNat (turn.toNat <<< s >>> 32)).toNat = steps (32 - s) turn := by
    have h32 := steps_add (32 - s) s (turn <<< s)
    rw [show 32 - s + s = 32 by omega] at h32
    rw [h32, steps_shift s (turn <<< s) (by intro i hi; simp [BitVec.getLsbD_shiftLeft, hi])]
    have e : turn = (turn <<< s >>> s) ^^^ ((turn >>> (32 - s)) <<< (32 - s)) := by
      apply BitVec.eq_of_getLsbD_eq
      intro i hi
      rw [BitVec.getLsbD_xor, BitVec.getLsbD_ushiftRight, BitVec.getLsbD_shiftLeft, BitVec.getLsbD_shiftLeft, BitVec.getLsbD_ushiftRight, show s + i - s = i by omega]
      by_cases h : i < 32 - s
      · simp [h, show s + i < 32 by omega]
      · simp [h, hi, show ¬ s + i < 32 by omega, show 32 - s + (i - (32 - s)) = i by omega]
    conv => rhs; rw [e]
    rw [steps_xor, steps_shift (32 - s) ((turn >>> (32 - s)) <<< (32 - s)) (by intro i hi; simp [BitVec.getLsbD_shiftLeft, hi])]
    congr 1
    apply BitVec.eq_of_getLsbD_eq
    intro i hi
    rw [ofNat_byte, Nat.testBit_shiftRight, Nat.testBit_shiftLeft, BitVec.testBit_toNat, BitVec.getLsbD_ushiftRight, BitVec.getLsbD_shiftLeft, BitVec.getLsbD_ushiftRight, show 32 - s + i - (32 - s) = i by omega, show 32 + i - s = 32 - s + i by omega]
    by_cases h : i < 8
    · by_cases h2 : i < s
      · simp [h, show 32 - s + i < 32 by omega, show s ≤ 32 + i by omega]
      · rw [BitVec.getLsbD_of_ge turn (32 - s + i) (by omega)]; simp
    · rw [BitVec.getLsbD_of_ge turn (32 - s + i) (by omega)]; simp
  rw [key]
  exact steps_ne _ ht
/-- Bytes of which five are turned by a burst, have another sum. -/
theorem sum_burst (p q : List UInt8) (m : List UInt8) (turn : B32) (s : Nat) (hs : s < 8) (ht : turn ≠ 0#32) (hm : m.length = 5) :
    sum (p ++ m ++ q) ≠ sum (p ++ lay m (five (turn.toNat <<< s)) ++ q) := by
  intro e
  unfold sum at e
  have e := BitVec.not_inj.1 e
  rw [run_append, run_append, run_append, run_append] at e
  generalize run (BitVec.allOnes 32) p = c at e
  have h5 : (five (turn.toNat <<< s)).length = 5 := rfl
  have h1 := run_lay m (five (turn.toNat <<< s)) c 0#32 (by rw [hm, h5])
  rw [show c ^^^ 0#32 = c by simp] at h1
  rw [h1] at e
  have hb := burst turn s hs ht
  generalize run 0#32 (five (turn.toNat <<< s)) = d at e hb
  generalize run c m = c1 at e
  have h2 := run_lay q (List.replicate q.length 0) c1 d (by simp)
  rw [show lay q (List.replicate q.length 0) = q by
    apply List.ext_getElem (by simp [lay]); intro i h1 h2; simp [lay]] at h2
  rw [h2] at e
  have h3 := run_zeros_ne q.length hb
  apply h3
  generalize run d (List.replicate q.length 0) = z at e
  generalize run c1 q = y at e
  have : y ^^^ y = y ^^^ (y ^^^ z) := by rw [← e]
  rw [← BitVec.xor_assoc] at this
  simpa using this.symm
end PbCrc

set_option linter.unusedSimpArgs false
set_option linter.unusedVariables false
namespace Go.Proofs.YtjddicoigbidlaaDoor
open Go.RowKit
def crcTabV : Array Value := (Array.range 256).map fun n => u32v (PbCrc.tab n)
def crcTabK (k : Nat) : Array Value := (Array.range 256).map fun n => if n < k then u32v (PbCrc.tab n) else .int .u32 0
def crcZ : Array Value := Array.replicate 256 (.int .u32 0)
theorem crcZero (w : World) : (zeroValue 70).run Tryd.prog w = .ok (.agg crcZ) w := by kernel_rfl
theorem crcTabK_zero : crcTabK 0 = crcZ := by
  apply Array.ext (by simp [crcTabK, crcZ])
  intro i h1 h2; simp [crcTabK, crcZ]
theorem crcTabK_full : crcTabK 256 = crcTabV := by
  apply Array.ext (by simp [crcTabK, crcTabV])
  intro i h1 h2
  have : i < 256 := by simpa [crcTabK] using h1
  simp [crcTabK, crcTabV, this]
theorem crcTabK_set (k : Nat) (hk : k < 256) : (crcTabK k).setIfInBounds k (u32v (PbCrc.tab k)) = crcTabK (k + 1) := by
  apply Array.ext (by simp [crcTabK])
  intro i h1 h2
  have : i < 256 := by simpa [crcTabK] using h2
  rw [Array.getElem_setIfInBounds (by simpa [crcTabK] using this)]
  by_cases e : k = i
  · subst e; simp [crcTabK]
  · simp only [crcTabK, Array.getElem_map, Array.getElem_range, if_neg e]
    by_cases h : i < k
    · rw [if_pos h, if_pos (by omega)]
    · rw [if_neg h, if_neg (by omega)]
theorem crcTabK_size (k : Nat) : (crcTabK k).size = 256 := by simp [crcTabK]
theorem crc_low (c : BitVec 32) : (bits .and .u32 (c.toNat : Int) 1 == 1) = c.getLsbD 0 := by
  rw [show (1 : Int) = (((1 : BitVec 32).toNat : Nat) : Int) from rfl, bits_and32]
  have : c &&& 1#32 = if c.getLsbD 0 then 1#32 else 0#32 := by
    apply BitVec.eq_of_getLsbD_eq; intro i hi
    cases i with
    | zero => cases h : c.getLsbD 0 <;> simp at h <;> simp [h]
    | succ i => cases h : c.getLsbD 0 <;> simp
  show ((((c &&& 1#32).toNat : Nat) : Int) == _) = _
  rw [this]
  cases c.getLsbD 0 <;> decide
theorem crc_shr1 (c : BitVec 32) : (c.toNat : Int) / (2 : Int) = ((c >>> 1).toNat : Int) := by
  rw [BitVec.toNat_ushiftRight, Nat.shiftRight_eq_div_pow]; rfl
theorem crc_shr1' (c : BitVec 32) : (c.toNat : Int) >>> 1 = ((c >>> 1).toNat : Int) := rfl
theorem crc_shr8 (c : BitVec 32) : (c.toNat : Int) / (256 : Int) = ((c >>> 8).toNat : Int) := by
  rw [BitVec.toNat_ushiftRight, Nat.shiftRight_eq_div_pow]; rfl
theorem crc_poly (c : BitVec 32) : bits .xor .u32 (c.toNat : Int) 3988292384 = ((c ^^^ PbCrc.poly).toNat : Int) := bits_xor32 c PbCrc.poly
theorem crcTabV_size : crcTabV.size = 256 := by simp [crcTabV]
theorem crcTabV_one : crcTabV.all (·.oneCell') = true := by
  rw [Array.all_eq_true]; intro i h; simp [crcTabV, Value.oneCell']
set_option maxRecDepth 100000 in
set_option maxHeartbeats 400000 in
theorem crcTable_calls (w : World) : Calls Tryd.prog 41 #[] w fun e w' => e = .returned (.agg crcTabV) ∧ Below w.heap.size w w' := by
  have hz := crcZero
  go_enter Tryd.func41, Tryd.ntmps41
  go_wp2
  go_loopw [5] (fun i wr => ∃ (k : Nat), k ≤ 256 ∧ i = .int .i64 k ∧ wr = (w.alloc (Obj.cells crcZ 70)).alloc (Obj.cells (crcTabK k) 70)) (fun i _ => 256 - (intOf i).toNat)
  case atStart => exact ⟨0, by omega, rfl, by rw [crcTabK_zero]⟩
  case round =>
    obtain ⟨k, hk, rfl, rfl⟩ := hrel
    by_cases hlt : k < 256
    · go_wp2
      go_loop [3, 10] (fun c i => ∃ j : Nat, j ≤ 8 ∧ i = .int .i64 j ∧ c = u32v (PbCrc.steps j (BitVec.ofNat 32 k))) (fun _ i => 8 - (intOf i).toNat)
      case atStart =>
        refine ⟨0, by omega, rfl, ?_⟩
        show _ = Value.int IntKind.u32 (((BitVec.ofNat 32 k).toNat : Nat) : Int)
        rw [BitVec.toNat_ofNat, Nat.mod_eq_of_lt (by omega)]
      case round =>
        obtain ⟨j, hj, rfl, rfl⟩ := hrel
        have hs := PbCrc.steps_succ j (BitVec.ofNat 32 k)
        generalize hc : PbCrc.steps j (BitVec.ofNat 32 k) = c at hs
        have Hc := Lib.hid hc
        clear hc
        have hlow := crc_low c
        have Hs := Lib.hid hs
        clear hs
        by_cases hlt2 : j < 8
        · by_cases hb : c.getLsbD 0 = true
          · rw [hb] at hlow
            go_wp2
            have Hp := crc_poly (c >>> 1)
            go_round
            case rel => exact ⟨j + 1, by omega, by go_num, by rw [Hs.out, PbCrc.step, if_pos hb]; first | rw [crc_shr1, Hp] | rw [crc_shr1', Hp]⟩
            case measure => simp [intOf] <;> omega
          · have hb : c.getLsbD 0 = false := by simpa using hb
            rw [hb] at hlow
            go_wp2
            go_round
            case rel => exact ⟨j + 1, by omega, by go_num, by rw [Hs.out, PbCrc.step, if_neg (by rw [hb]; decide)]; first | rw [crc_shr1] | rw [crc_shr1']⟩
            case measure => simp [intOf] <;> omega
        · have hj8 : j = 8 := by omega
          subst hj8
          have hsz := crcTabK_size k
          go_wp2
          have hset := crcTabK_set k hlt
          have Hset : Hid ((crcTabK k).setIfInBounds k (u32v c) = crcTabK (k + 1)) := by rw [← Hc.out]; exact hset
          clear hset
          go_roundw
          case rel => exact ⟨k + 1, by omega, by go_num, by rw [Hset.out]⟩
          case measure => simp [intOf] <;> omega
    · have : k = 256 := by omega
      subst this
      rw [crcTabK_full]
      have hi : (Tryd.prog.info? 70).map (·.size) = some crcTabV.size := by rw [crcTabV_size]; kernel_rfl
      go_wp2_with (first
        | (refine wpList_load_row rfl 70 (.tmp 1) rfl (w.heap.size + 1) rfl 70 crcTabV (0, 0) _ (heap_alloc2_new _ _ _) Tryd.underlying70 rfl hi ?_)
        | (refine wpList_store_row rfl 70 (.tmp 0) (.tmp 25) rfl w.heap.size crcTabV rfl rfl 70 crcZ (heap_alloc2_old _ _ _) hi (by rw [crcTabV_size]; rfl) crcTabV_one ?_))
      refine bodyPost_ret (results_cell_row rfl _ _ w.heap.size 70 crcTabV (0, 0) _ rfl (setRow_heap _ _ crcZ _ _ _ (heap_alloc2_old _ _ _)) Tryd.underlying70 rfl hi) rfl ⟨rfl, ?_⟩
      exact below_setRow (((Below.refl _ _).alloc (Nat.le_refl _) _).alloc (by simp) _) (by simp) _

theorem crcTabV_get (x : UInt8) : crcTabV[x.toNat]? = some (u32v (PbCrc.tab x.toNat)) := by
  have := x.toNat_lt
  rw [Array.getElem?_eq_getElem (by rw [crcTabV_size]; omega)]
  simp [crcTabV]
theorem crcTabV_index (x : UInt8) (w : World) : (Instr.index 70 (.agg crcTabV) (.int .u8 (x.toNat : Int))).run Tryd.prog w = .ok (u32v (PbCrc.tab x.toNat)) w := by
  have hx := x.toNat_lt
  have h := crcTabV_get x
  have hlt : (x.toNat : Int) < 256 := by omega
  simp [Instr.index, run_underlying Tryd.underlying70, asIntOf, go_sem, h, hlt]
  intro h'; omega
set_option maxRecDepth 100000 in
set_option maxHeartbeats 400000 in
theorem crctable_calls (w : World) : Calls Tryd.prog 37 #[] w fun e w' => e = .returned (.agg crcTabV) ∧ Below w.heap.size w w' := by
  have hz := crcZero
  have hi : (Tryd.prog.info? 70).map (·.size) = some crcTabV.size := by rw [crcTabV_size]; kernel_rfl
  go_enter Tryd.func37, Tryd.ntmps37
  go_wp2_with (first
    | (go_at_call 41; refine (crcTable_calls _).mono ?_; rintro e w1 ⟨rfl, hb⟩)
    | (refine wpList_store_row rfl 70 (.tmp 0) (.tmp 1) rfl w.heap.size crcTabV rfl rfl 70 crcZ ((hb.block _ (by simp)).trans (heap_alloc_new _ _)) hi (by rw [crcTabV_size]; rfl) crcTabV_one ?_))
  refine bodyPost_ret (results_cell_row rfl _ _ w.heap.size 70 crcTabV (0, 0) _ rfl (setRow_heap _ _ crcZ _ _ _ ((hb.block _ (by simp)).trans (heap_alloc_new _ _))) Tryd.underlying70 rfl hi) rfl ⟨rfl, ?_⟩
  exact below_setRow (((Below.refl _ _).alloc (Nat.le_refl _) _).trans (hb.mono (by simp))) (by simp) _
theorem crc_u8 (c : BitVec 32) : (c.toNat : Int) % (256 : Int) = ((UInt8.ofNat c.toNat).toNat : Int) := by
  rw [UInt8.toNat_ofNat']; rfl
theorem crc_not (c : BitVec 32) : Value.int .u32 (bits .xor .u32 IntKind.u32.max (c.toNat : Int)) = u32v (~~~ c) := by
  have h : (IntKind.u32.max : Int) = ((BitVec.allOnes 32).toNat : Int) := by decide
  rw [h, bits_xor32, BitVec.allOnes_xor]
set_option maxRecDepth 100000 in
set_option maxHeartbeats 400000 in
theorem crcSum_calls (v : Value) (bs : List UInt8) (w : World) (hv : RdB w v bs) :
    Calls Tryd.prog 29 #[v] w fun e w' => e = .returned (u32v (PbCrc.sum bs)) ∧ Below w.heap.size w w' := by
  rcases hv with ⟨a, c, rfl, hc, rfl⟩ | ⟨b, off, cap, rfl, hne, hlc, hcap, hbw, hcell⟩
  · go_enter Tryd.func29, Tryd.ntmps29
    go_wp2
    go_loop [3, 8] (fun c i => i = .int .i64 0 ∧ c = .int .u32 4294967295) (fun _ _ => 0)
    case atStart => exact ⟨rfl, rfl⟩
    case round =>
      obtain ⟨rfl, rfl⟩ := hrel
      go_wp2
      go_ret
      exact ⟨rfl, Below.refl _ _⟩
  · go_enter Tryd.func29, Tryd.ntmps29
    go_wp2
    go_loopw [3, 8] (fun c i wr => ∃ k : Nat, k ≤ bs.length ∧ i = .int .i64 k ∧ c = u32v (PbCrc.run (BitVec.allOnes 32) (bs.take k)) ∧ Below w.heap.size w wr) (fun _ i _ => bs.length - (intOf i).toNat)
    case atStart => exact ⟨0, Nat.zero_le _, rfl, rfl, Below.refl _ _⟩
    case round =>
      obtain ⟨k, hk, rfl, rfl, hbw2⟩ := hrel
      by_cases hlt : k < bs.length
      · obtain ⟨x, hx⟩ : ∃ x, bs[k]? = some x := ⟨bs[k], List.getElem?_eq_getElem hlt⟩
        have hc := (hbw2.cell (p := ⟨b, off + k, none⟩) hbw).trans (hcell k x hx)
        have hrun := PbCrc.run_snoc (BitVec.allOnes 32) (bs.take k) x
        rw [← take_snoc hx, ← PbCrc.byteTab_eq] at hrun
        generalize PbCrc.run (BitVec.allOnes 32) (bs.take k) = c at hrun
        have Hrun := Lib.hid hrun
        clear hrun hx
        have hb8 : bits .xor .u8 ((c.toNat : Int) % 256) (x.toNat : Int) = ((UInt8.ofNat c.toNat ^^^ x).toNat : Int) := by rw [crc_u8, bits_xor8]
        have hix := crcTabV_index (UInt8.ofNat c.toNat ^^^ x)
        have hx32 : bits .xor .u32 ((PbCrc.tab (UInt8.ofNat c.toNat ^^^ x).toNat).toNat : Int) ((c.toNat : Int) / 256) = ((PbCrc.byteTab c x).toNat : Int) := by rw [crc_shr8, bits_xor32]; rfl
        generalize UInt8.ofNat c.toNat ^^^ x = y at hb8 hix hx32
        generalize PbCrc.byteTab c x = c2 at hx32 Hrun
        go_wp2_with (go_at_call 37; refine (crctable_calls _).mono ?_; rintro e w1 ⟨rfl, hb⟩)
        have hbw3 := hbw2.trans (hb.mono hbw2.size)
        go_roundw
        case rel => exact ⟨k + 1, by omega, by go_num, by rw [Hrun.out], hbw3⟩
        case measure => simp [intOf] <;> omega
      · have : bs.take k = bs := List.take_of_length_le (by omega)
        rw [this]
        go_wp2
        go_ret
        exact ⟨by rw [crc_not]; rfl, hbw2⟩
end Go.Proofs.YtjddicoigbidlaaDoor

set_option linter.unusedSimpArgs false
set_option linter.unusedVariables false
namespace Go.Proofs.YtjddicoigbidlaaDoor
open Go.RowKit
end Go.Proofs.YtjddicoigbidlaaDoor

set_option linter.unusedSimpArgs false
set_option linter.unusedVariables false
namespace Go.Proofs.YtjddicoigbidlaaDoor
open Go.RowKit
/-- A mark, as plain data. -/
structure MarkD where
  kind : Int
  rcpt : Int
  n : Int
def MarkD.good (k : MarkD) : Bool := decide (1 ≤ k.kind ∧ k.kind ≤ 5 ∧ 0 ≤ k.rcpt ∧ k.rcpt < 8 ∧ 0 ≤ k.n ∧ k.n ≤ 1099511627776)
abbrev MarkD.cells (k : MarkD) : List Value := [.int .i64 k.kind, .int .i64 k.rcpt, .int .i64 k.n]
abbrev MarkD.val (k : MarkD) : Value := .agg #[.int .i64 k.kind, .int .i64 k.rcpt, .int .i64 k.n]
theorem good_true {k : MarkD} (h : 1 ≤ k.kind ∧ k.kind ≤ 5 ∧ 0 ≤ k.rcpt ∧ k.rcpt < 8 ∧ 0 ≤ k.n ∧ k.n ≤ 1099511627776) : k.good = true := decide_eq_true h
theorem good_false {k : MarkD} (h : ¬ (1 ≤ k.kind ∧ k.kind ≤ 5 ∧ 0 ≤ k.rcpt ∧ k.rcpt < 8 ∧ 0 ≤ k.n ∧ k.n ≤ 1099511627776)) : k.good = false := decide_eq_false h
/-- A number of 32 bits as four bytes. -/
def be4 (c : BitVec 32) : List UInt8 := [UInt8.ofNat (c.toNat / 2 ^ 24), UInt8.ofNat (c.toNat / 2 ^ 16), UInt8.ofNat (c.toNat / 2 ^ 8), UInt8.ofNat c.toNat]
def MarkD.body (k : MarkD) : List UInt8 := num8 k.kind.toNat ++ num8 k.rcpt.toNat ++ num8 k.n.toNat
def MarkD.bytes (k : MarkD) : List UInt8 := k.body ++ be4 (PbCrc.sum k.body)
def markPre (k : MarkD) (j : Nat) : List UInt8 := ([k.kind, k.rcpt, k.n].take j).flatMap fun n => num8 n.toNat
theorem body_length (k : MarkD) : k.body.length = 24 := by simp [MarkD.body, num8_length]
theorem bytes_length (k : MarkD) : k.bytes.length = 28 := by simp [MarkD.bytes, body_length, be4]
/-- What Encode answers of a good mark: its bytes, in a row of its own. -/
def EncDone (w : World) (bs : List UInt8) (e : Ending) (w' : World) : Prop :=
  ∃ v', e = .returned (.tuple #[v', .bool true]) ∧ w'.ownsRow w.heap.size 5 1 v' bs.length (bs.map u8v) ∧ Below w.heap.size w w'
theorem enc_frozen (w : World) (c : Array Value) (t : TypeId) : (w.alloc (.cells c t)).heap[w.heap.size]? = some (.cells c t (0, 0)) := heap_alloc_new w _
theorem wr_new (w : World) (base : Nat) : WrAt (w.alloc (.cells #[.slice none 0 0, .bool false] 39)) w.heap.size base (.slice none 0 0) [] false :=
  ⟨heap_alloc_new w _, World.ownsRow_nil _ _ _ _, by simp [Value.ownBlock]⟩
end Go.Proofs.YtjddicoigbidlaaDoor

set_option linter.unusedSimpArgs false
set_option linter.unusedVariables false
namespace Go.Proofs.YtjddicoigbidlaaDoor
open Go.RowKit
/-- Bytes, in a row of the call's own. -/
def RowDone (w : World) (bs : List UInt8) (e : Ending) (w' : World) : Prop :=
  ∃ v', e = .returned v' ∧ w'.ownsRow w.heap.size 5 1 v' bs.length (bs.map u8v) ∧ Below w.heap.size w w'
theorem num8_part (n j : Nat) (hj : j < 8) : (List.replicate (8 - j) 0 ++ (num8 n).drop (8 - j)).set (7 - j) (UInt8.ofNat (n / 2 ^ (8 * j))) = List.replicate (8 - (j + 1)) 0 ++ (num8 n).drop (8 - (j + 1)) := by
  have h1 : 8 - j = (7 - j) + 1 := by omega
  have h2 : 8 - (j + 1) = 7 - j := by omega
  have hg := num8_get n (7 - j) (by omega)
  rw [show 7 - (7 - j) = j by omega] at hg
  have hl : 7 - j < (num8 n).length := by rw [num8_length]; omega
  have hge : (num8 n)[7 - j] = UInt8.ofNat (n / 2 ^ (8 * j)) := by have := List.getElem?_eq_getElem hl; rw [this] at hg; exact Option.some.inj hg
  rw [h2, List.drop_eq_getElem_cons hl, hge, show 7 - j + 1 = 8 - j by omega, h1, List.replicate_succ', List.append_assoc, List.set_append_right _ _ (by simp)]
  simp
theorem and255 (c : BitVec 32) (k : Nat) : bits .and .u32 ((c.toNat : Int) / 2 ^ k) 255 = ((UInt8.ofNat (c.toNat / 2 ^ k)).toNat : Int) := by
  have h : (c.toNat : Int) / 2 ^ k = ((c >>> k).toNat : Int) := by rw [BitVec.toNat_ushiftRight, Nat.shiftRight_eq_div_pow]; simp
  have h2 : (255 : Int) = ((255#32 : BitVec 32).toNat : Int) := rfl
  rw [h, h2, bits_and32, BitVec.toNat_and, BitVec.toNat_ushiftRight, Nat.shiftRight_eq_div_pow, UInt8.toNat_ofNat']
  congr 1
  exact Nat.and_two_pow_sub_one_eq_mod _ 8
/-- Eight bytes, in a row of the call's own, written out. -/
def Row8 (w : World) (bs : List UInt8) (e : Ending) (w' : World) : Prop :=
  ∃ g cap, e = .returned (.slice (some ⟨g, 0, none⟩) 8 cap) ∧ w'.ownsRow w.heap.size 5 1 (.slice (some ⟨g, 0, none⟩) 8 cap) 8 (bs.map u8v) ∧ Below w.heap.size w w' ∧ w.heap.size ≤ g
/-- Three cells below what a call has made, and nothing old has turned. -/
def Cells3 (w0 w : World) (x y z : Value) : Prop := w.cell? ⟨w0.heap.size, 0, none⟩ = some x ∧ w.cell? ⟨w0.heap.size, 1, none⟩ = some y ∧ w.cell? ⟨w0.heap.size, 2, none⟩ = some z ∧ Below w0.heap.size w0 w
theorem Cells3.lt {w0 w : World} {x y z : Value} (h : Cells3 w0 w x y z) : w0.heap.size < w.heap.size := World.block_lt_of_cell? w ⟨w0.heap.size, 0, none⟩ h.1
theorem keep3 {w0 w1 w2 : World} {x y z : Value} (h : Cells3 w0 w1 x y z) (hb : Below w1.heap.size w1 w2) : Cells3 w0 w2 x y z := by
  have hl := h.lt
  obtain ⟨h1, h2, h3, h4⟩ := h
  have hc := (below_cell hb).1
  exact ⟨by rw [hc _ _ hl]; exact h1, by rw [hc _ _ hl]; exact h2, by rw [hc _ _ hl]; exact h3, h4.trans (hb.mono h4.size)⟩
theorem keep3g {w0 w1 w2 : World} {row : Option Nat} {x y z : Value} (h : Cells3 w0 w1 x y z) (hg : w1.grownBy w2 row) (hr : ∀ k, row = some k → w0.heap.size < k) : Cells3 w0 w2 x y z := by
  have hne : some w0.heap.size ≠ row := fun e => by have := hr _ e.symm; omega
  exact ⟨hg.cell h.1 hne, hg.cell h.2.1 hne, hg.cell h.2.2.1 hne, h.2.2.2.grown hg h.2.2.2.size (fun k hk => Nat.le_of_lt (hr k hk))⟩
/-- The cells of an owned row, as an append takes them. -/
theorem news_own {w : World} {base g n cap : Nat} {xs : List Value} (h : w.ownsRow base 5 1 (.slice (some ⟨g, 0, none⟩) n cap) n xs) : ∀ j u, xs[j]? = some u → w.cell? ((⟨g, 0, none⟩ : Addr).add j) = some u := by
  intro j u hu
  rw [add_at, Nat.zero_add, h.cellAt j (by have := (List.getElem?_eq_some_iff.1 hu).1; rw [h.1] at this; exact this)]
  exact hu
/-- One owned row of bytes appended to another one, at a step of a region that draws its order. -/
theorem step_app_own {ops : Array Oper} {o : Oper} {a : Act} {K : Act → World → Prop} {Q : Exit → Act → World → Prop} {E : Prop} (hgd : o.guard = none) (s x : Operand)
    (ho : o.op = .call { callee := .builtin .append, args := #[s, x], argTypes := #[23, 23] }) {w : World} {base base2 n1 n2 g1 g2 cap1 cap2 : Nat} {xs ys : List UInt8}
    (hs : a.eval s = .slice (some ⟨g1, 0, none⟩) n1 cap1) (hx : a.eval x = .slice (some ⟨g2, 0, none⟩) n2 cap2)
    (hown1 : w.ownsRow base 5 1 (.slice (some ⟨g1, 0, none⟩) n1 cap1) n1 (xs.map u8v)) (hown2 : w.ownsRow base2 5 1 (.slice (some ⟨g2, 0, none⟩) n2 cap2) n2 (ys.map u8v)) (hm : 0 < n2) (hsmall : n1 + n2 ≤ 1099511627776)
    (h : ∀ g cap w', w'.ownsRow base 5 1 (.slice (some ⟨g, 0, none⟩) (n1 + n2) cap) (n1 + n2) ((xs ++ ys).map u8v) → w.grownBy w' (some g1) → (g = g1 ∨ g = w.heap.size) → g < w'.heap.size → K (a.put o.dst (.slice (some ⟨g, 0, none⟩) (n1 + n2) cap)) w') :
    if Region.wanted o (yielded ops a.tmps) = true then Oper.wp Tryd.prog o a w K Q else E := by
  obtain ⟨i0, hi, hz0, hz1, hz2⟩ := info_parts infoU8
  have hl := hown2.1
  have hb1 := (hown1.lt g1 rfl)
  refine step_append_lies w hgd s x 23 ho base 5 i0 (.int .u8 0) 1 1 Tryd.underlying23 hi hz0 hz1 hz2 rfl (by decide) _ n1 (xs.map u8v) hs hown1 ⟨g2, 0, none⟩ n2 cap2 (ys.map u8v) hx hl (news_own hown2) (one_u8 ys) hm (by unfold maxLen; omega) (by omega) (by omega) w.heap.size rfl ?_
  intro g cap w' h2 h3 h4 h5
  refine h g cap w' (by rw [List.map_append]; exact h2) h3 ?_ h5
  rcases h4 with h4 | h4
  · cases h4; exact .inl rfl
  · exact .inr h4
end Go.Proofs.YtjddicoigbidlaaDoor

set_option linter.unusedSimpArgs false
set_option linter.unusedVariables false
namespace Go.Proofs.YtjddicoigbidlaaDoor
open Go.RowKit
theorem run_index_at {s : ByteArray} {j : Nat} {c : UInt8} (h : s.data.toList[j]? = some c) (w : World) :
    (Instr.index 9 (.string s) (.int .i64 (j : Int))).run Tryd.prog w = .ok (.int .u8 c.toNat) w := by
  have hj : j < s.size := by rw [size_len]; exact (List.getElem?_eq_some_iff.1 h).1
  have hg := get_byte s j hj
  rw [h] at hg
  have hc : s[j]'hj = c := (Option.some.inj hg).symm
  have hq : s[j]? = some c := by rw [getElem?_pos s j hj, hc]
  simp [Instr.index, asIntOf, run_underlying Tryd.underlying9, go_sem, hq]
theorem run_slice_at {s : ByteArray} {a b : Nat} (hab : a ≤ b) (hb : b ≤ s.size) (w : World) :
    (Instr.slice 9 (.string s) (some (.int .i64 (a : Int))) (some (.int .i64 (b : Int))) none).run Tryd.prog w = .ok (.string (strL ((s.data.toList.take b).drop a))) w := by
  rw [run_slice_string_if w 9 s .i64 .i64 a b Tryd.underlying9]
  rw [if_pos ⟨by omega, by omega⟩, if_pos ⟨by omega, by omega⟩]
  congr 2
  have : (s.extract a b).data.toList = (s.data.toList.take b).drop a := by
    rw [ByteArray.data_extract, Array.toList_extract, List.extract_eq_take_drop, List.drop_take]
  rw [Int.toNat_natCast, Int.toNat_natCast, ← this, strL_of]
theorem pieces_snoc (c x : UInt8) (l : List UInt8) : ∃ ms m, piecesAt c l = ms ++ [m] ∧ piecesAt c (l ++ [x]) = if x = c then ms ++ [m] ++ [[]] else ms ++ [m ++ [x]] := by
  induction l with
  | nil =>
    refine ⟨[], [], rfl, ?_⟩
    by_cases h : x = c <;> simp [piecesAt, h]
  | cons y ys ih =>
    obtain ⟨ms, m, h1, h2⟩ := ih
    by_cases hy : y = c
    · refine ⟨[] :: ms, m, by simp [piecesAt, hy, h1], ?_⟩
      simp only [List.cons_append, piecesAt, if_pos hy, h2]
      split <;> simp
    · cases ms with
      | nil =>
        refine ⟨[], y :: m, by simp [piecesAt, hy, h1], ?_⟩
        by_cases hx : x = c
        · rw [if_pos hx] at h2 ⊢; simp [piecesAt, hy, h2]
        · rw [if_neg hx] at h2 ⊢; simp [piecesAt, hy, h2]
      | cons q qs =>
        refine ⟨(y :: q) :: qs, m, by simp [piecesAt, hy, h1], ?_⟩
        by_cases hx : x = c
        · rw [if_pos hx] at h2 ⊢; simp [piecesAt, hy, h2]
        · rw [if_neg hx] at h2 ⊢; simp [piecesAt, hy, h2]
theorem nil_row0 (w : World) (base size : Nat) (e : TypeId) : w.ownsRow base e size (.slice none 0 0) 0 [] := ⟨by simp, .inl ⟨rfl, rfl⟩⟩
def s1 (l : List UInt8) : List Value := [.string (strL l)]
theorem s1_len (l : List UInt8) : (s1 l).length = 1 := rfl
theorem s1_one (ls : List (List UInt8)) : ∀ c ∈ ls.flatMap s1, c.oneCell' = true := by
  intro c hc
  obtain ⟨l, _, h⟩ := List.mem_flatMap.1 hc
  rw [s1, List.mem_singleton] at h
  subst h; rfl
theorem infoStr : (Tryd.prog.info? 9).map (fun i => (i.zero, i.size, i.bytes)) = some (some (.string ByteArray.empty), 1, 16) := by kernel_rfl
/-- Texts in a row of the call's own. -/
def StrsDone (w : World) (ls : List (List UInt8)) (e : Ending) (w' : World) : Prop :=
  ∃ v, e = .returned v ∧ w'.ownsRow w.heap.size 9 1 v ls.length (ls.flatMap s1) ∧ Below w.heap.size w w'
end Go.Proofs.YtjddicoigbidlaaDoor

set_option linter.unusedSimpArgs false
set_option linter.unusedVariables false
namespace Go.Proofs.YtjddicoigbidlaaDoor
open Go.RowKit
theorem s1_flat (ls : List (List UInt8)) : ls.flatMap s1 = ls.map fun l => Value.string (strL l) := by
  induction ls with
  | nil => rfl
  | cons x xs ih => rw [List.flatMap_cons, ih]; rfl
theorem eq45 (c k : UInt8) : ((c.toNat : Int) == (k.toNat : Int)) = (c == k) := by
  by_cases h : c = k
  · subst h; simp
  · have h1 : ¬ ((c.toNat : Int) = (k.toNat : Int)) := fun e => h (UInt8.toNat.inj (by omega))
    rw [show (c == k) = false by simpa using h]
    simpa using h1
def okB (k c : UInt8) : Bool := plainB c || c == k
theorem only_one (k : UInt8) (l : List UInt8) : onlyB [k] l = l.all (okB k) := by
  unfold onlyB okB
  congr 1
  funext c
  simp
  by_cases h : c = k <;> simp [h]
end Go.Proofs.YtjddicoigbidlaaDoor

set_option linter.unusedSimpArgs false
set_option linter.unusedVariables false
namespace Go.Proofs.YtjddicoigbidlaaDoor
open Go.RowKit
def dotBad (l : List UInt8) (i : Nat) : Prop := l[i]? = some 46 ∧ (i = 0 ∨ i + 1 = l.length ∨ l[i - 1]? = some 46)
theorem twoB_iff (x : UInt8) (l : List UInt8) : twoB x l = true ↔ ∃ i : Nat, l[i]? = some x ∧ l[i + 1]? = some x := by
  induction l with
  | nil => simp [twoB]
  | cons a r ih =>
    cases r with
    | nil => simp [twoB]
    | cons b r =>
      rw [twoB, Bool.or_eq_true, ih]
      constructor
      · rintro (h | ⟨i, h1, h2⟩)
        · rw [Bool.and_eq_true] at h
          exact ⟨0, by simpa using h.1, by simpa using h.2⟩
        · exact ⟨i + 1, by simpa using h1, by simpa using h2⟩
      · rintro ⟨i, h1, h2⟩
        cases i with
        | zero => left; rw [Bool.and_eq_true]; exact ⟨by simpa using h1, by simpa using h2⟩
        | succ i => right; exact ⟨i, by simpa using h1, by simpa using h2⟩
theorem ends_iff (x : UInt8) (l : List UInt8) : endsB x l = true ↔ l[0]? = some x ∨ (0 < l.length ∧ l[l.length - 1]? = some x) := by
  unfold endsB
  rw [Bool.or_eq_true, List.head?_eq_getElem?, List.getLast?_eq_getElem?, beq_iff_eq, beq_iff_eq]
  constructor
  · rintro (h | h)
    · exact .inl h
    · refine .inr ⟨?_, h⟩
      have := (List.getElem?_eq_some_iff.1 h).1
      omega
  · rintro (h | ⟨_, h⟩)
    · exact .inl h
    · exact .inr h
def okL (c : UInt8) : Bool := plainB c || ([46, 95, 43, 45] : List UInt8).contains c
theorem local_bad {l : List UInt8} {i : Nat} (h : dotBad l i) : localB l = false := by
  have : endsB 46 l = true ∨ twoB 46 l = true := by
    obtain ⟨h1, h2 | h2 | h2⟩ := h
    · subst h2; exact .inl ((ends_iff _ _).2 (.inl h1))
    · refine .inl ((ends_iff _ _).2 (.inr ⟨by omega, ?_⟩))
      rw [show l.length - 1 = i by omega]; exact h1
    · by_cases h0 : i = 0
      · subst h0; exact .inl ((ends_iff _ _).2 (.inl h1))
      · exact .inr ((twoB_iff _ _).2 ⟨i - 1, h2, by rw [show i - 1 + 1 = i by omega]; exact h1⟩)
  unfold localB
  rcases this with h | h <;> simp [h]
theorem local_char {l : List UInt8} {i : Nat} {c : UInt8} (hc : l[i]? = some c) (h : okL c = false) : localB l = false := by
  have : onlyB [46, 95, 43, 45] l = false := onlyB_false hc h
  unfold localB; simp [this]
theorem local_good {l : List UInt8} (h : ∀ (i : Nat) c, l[i]? = some c → okL c = true ∧ ¬ dotBad l i) : localB l = decide (1 ≤ l.length ∧ l.length ≤ 32) := by
  have h1 : onlyB [46, 95, 43, 45] l = true := by
    unfold onlyB; rw [List.all_eq_true]
    intro c hc
    obtain ⟨i, hi⟩ := List.getElem?_of_mem hc
    exact (h i c hi).1
  have h2 : endsB 46 l = false := by
    cases he : endsB 46 l with
    | false => rfl
    | true =>
      rcases (ends_iff _ _).1 he with h3 | ⟨h4, h3⟩
      · exact absurd ⟨h3, .inl rfl⟩ (h 0 46 h3).2
      · exact absurd ⟨h3, .inr (.inl (by omega))⟩ (h _ 46 h3).2
  have h3 : twoB 46 l = false := by
    cases he : twoB 46 l with
    | false => rfl
    | true =>
      obtain ⟨i, h4, h5⟩ := (twoB_iff _ _).1 he
      exact absurd ⟨h5, .inr (.inr (by simpa using h4))⟩ (h (i + 1) 46 h5).2
  unfold localB
  rw [h1, h2, h3]; simp
theorem eqB (c k : UInt8) : ((c.toNat : Int) == (k.toNat : Int)) = (c == k) := eq45 c k
end Go.Proofs.YtjddicoigbidlaaDoor

set_option linter.unusedSimpArgs false
set_option linter.unusedVariables false
namespace Go.Proofs.YtjddicoigbidlaaDoor
open Go.RowKit
/-- Bytes that were made of a text. -/
def BytesRow (w : World) (g : Nat) (bs : List UInt8) : Prop :=
  ∃ cs : Array Value, w.heap[g]? = some (.cells cs 5 (cs.size, cs.size + 1)) ∧ bs.length ≤ cs.size ∧ ∀ (i : Nat) x, bs[i]? = some x → cs[i]? = some (u8v x)
theorem BytesRow.cell {w : World} {g : Nat} {bs : List UInt8} (h : BytesRow w g bs) {i : Nat} {x : UInt8} (hx : bs[i]? = some x) :
    w.cell? ⟨g, i, none⟩ = some (.int .u8 x.toNat) ∧ w.frozen? ⟨g, i, none⟩ = false := by
  obtain ⟨cs, h1, h2, h3⟩ := h
  have hi := (List.getElem?_eq_some_iff.1 hx).1
  refine ⟨?_, ?_⟩
  · rw [cell_of_row _ _ _ _ _ _ h1]; exact h3 i x hx
  · unfold World.frozen?
    rw [h1]
    simp only [Bool.and_eq_false_iff, decide_eq_false_iff_not]
    left; omega
theorem BytesRow.store {w : World} {g : Nat} {bs : List UInt8} (h : BytesRow w g bs) (i : Nat) (x : UInt8) : BytesRow (w.setCell ⟨g, i, none⟩ (u8v x)) g (bs.set i x) := by
  obtain ⟨cs, h1, h2, h3⟩ := h
  refine ⟨cs.setIfInBounds i (u8v x), ?_, ?_, ?_⟩
  · rw [setCell_eq_setRow w g i cs 5 _ _ h1, Array.size_setIfInBounds]
    exact setRow_heap w g cs _ 5 _ h1
  · rw [List.length_set, Array.size_setIfInBounds]; exact h2
  · intro k y hy
    rw [List.getElem?_set] at hy
    rw [Array.getElem?_setIfInBounds]
    split at hy
    · next e =>
      subst e
      split at hy
      · next hlt =>
        cases hy
        rw [if_pos rfl, if_pos (by omega)]
      · cases hy
    · next e =>
      rw [if_neg e]; exact h3 k y hy
theorem BytesRow.str {w : World} {g cap : Nat} {bs : List UInt8} (h : BytesRow w g bs) : (convert 23 9 (.slice (some ⟨g, 0, none⟩) bs.length cap)).run Tryd.prog w = .ok (.string (strL bs)) w := by
  have := run_convert_bytes_arg (P := Tryd.prog) w 23 5 Tryd.underlying23 Tryd.underlying5 g 0 bs.length cap (bs.map fun x => (x.toNat : Int)) (by simp) (fun i hi => by
    rw [Nat.zero_add, (h.cell (List.getElem?_eq_getElem hi)).1]
    simp [List.getD, List.getElem?_eq_getElem hi]) 9 Tryd.underlying9
  rw [this]
  have e : strOfNums (bs.map fun x => (x.toNat : Int)) = strL bs := by simp [strL, strOfNums, Function.comp_def]
  rw [e]
theorem set_same {α : Type} {l : List α} {i : Nat} {a : α} (h : l[i]? = some a) : l.set i a = l := by
  apply List.ext_getElem?
  intro k
  rw [List.getElem?_set]
  split
  · next e => subst e; rw [h, if_pos (List.getElem?_eq_some_iff.1 h).1]
  · rfl
end Go.Proofs.YtjddicoigbidlaaDoor

set_option linter.unusedSimpArgs false
set_option linter.unusedVariables false
namespace Go.Proofs.YtjddicoigbidlaaDoor
open Go.RowKit
theorem cutAt_none {c : UInt8} {l : List UInt8} (h : ∀ k : Nat, l[k]? ≠ some c) : cutAt c l = none := by
  induction l with
  | nil => rfl
  | cons x xs ih =>
    have hx : ¬ x = c := fun e => h 0 (by simp [e])
    rw [cutAt, if_neg hx, ih (fun k => by simpa using h (k + 1))]; rfl
theorem cutAt_first {c : UInt8} : ∀ {l : List UInt8} {i : Nat}, l[i]? = some c → (∀ k : Nat, k < i → l[k]? ≠ some c) → cutAt c l = some (l.take i, l.drop (i + 1)) := by
  intro l
  induction l with
  | nil => intro i h; cases h
  | cons x xs ih =>
    intro i h hn
    cases i with
    | zero =>
      have : x = c := by simpa using h
      rw [cutAt, if_pos this]; simp
    | succ i =>
      have hx : ¬ x = c := fun e => hn 0 (by omega) (by simp [e])
      rw [cutAt, if_neg hx, ih (i := i) (by simpa using h) (fun k hk => by simpa using hn (k + 1) (by omega))]
      simp
theorem run_slice_hi {l : List UInt8} {b : Nat} (hb : b ≤ l.length) (w : World) :
    (Instr.slice 9 (.string (strL l)) none (some (.int .i64 (b : Int))) none).run Tryd.prog w = .ok (.string (strL (l.take b))) w := by
  rw [run_slice_string_to_if w 9 (strL l) .i64 b Tryd.underlying9]
  rw [if_pos ⟨by omega, by rw [strL_size]; omega⟩]
  have : ((strL l).extract 0 b).data.toList = l.take b := by
    rw [ByteArray.data_extract, Array.toList_extract, List.extract_eq_take_drop, strL_data]; simp
  rw [Int.toNat_natCast, ← this, strL_of]
theorem run_slice_lo {l : List UInt8} {a : Nat} (ha : a ≤ l.length) (w : World) :
    (Instr.slice 9 (.string (strL l)) (some (.int .i64 (a : Int))) none none).run Tryd.prog w = .ok (.string (strL (l.drop a))) w := by
  rw [run_slice_string_from_if w 9 (strL l) .i64 a Tryd.underlying9]
  rw [if_pos ⟨by omega, by rw [strL_size]; omega⟩]
  have : ((strL l).extract a (strL l).size).data.toList = l.drop a := by
    rw [ByteArray.data_extract, Array.toList_extract, List.extract_eq_take_drop, strL_data, strL_size, List.take_of_length_le (by rw [List.length_drop]; exact Nat.le_refl _)]
  rw [Int.toNat_natCast, ← this, strL_of]
end Go.Proofs.YtjddicoigbidlaaDoor

set_option linter.unusedSimpArgs false
set_option linter.unusedVariables false
namespace Go.Proofs.YtjddicoigbidlaaDoor
open Go.RowKit
end Go.Proofs.YtjddicoigbidlaaDoor

set_option linter.unusedSimpArgs false
set_option linter.unusedVariables false
namespace Go.Proofs.YtjddicoigbidlaaDoor
open Go.RowKit
def rdDone (bs : List UInt8) (bad : Bool) : Bool := !bad && decide (bs.length = 0)
set_option maxRecDepth 100000 in
set_option maxHeartbeats 400000 in
theorem rDone_calls (b : Nat) (v : Value) (bs : List UInt8) (bad : Bool) (w : World) (hR : RdAt w b v bs bad) :
    Calls Tryd.prog 32 #[.pointer (some ⟨b, 0, none⟩)] w fun e w' => e = .returned (.bool (rdDone bs bad)) ∧ w = w' := by
  obtain ⟨hc0, hc1, hf0, hf1⟩ := hR.cells
  obtain ⟨a, cap, hv, hl, hc⟩ := hR.rd.form
  subst hv
  have hlen : ((bs.length : Int) == 0) = decide (bs.length = 0) := by rw [Bool.eq_iff_iff]; simp
  cases bad
  · by_cases h0 : bs.length = 0
    all_goals
      simp only [h0, decide_true, decide_false] at hlen
      go_enter Tryd.func32, Tryd.ntmps32
      go_wp2
      go_ret
      exact ⟨ret_bool (by simp [rdDone, h0]), rfl⟩
  · go_enter Tryd.func32, Tryd.ntmps32
    go_wp2
    go_ret
    exact ⟨ret_bool (by simp [rdDone]), rfl⟩
theorem RdB.cellAny {w : World} {a : Option Addr} {n cap : Nat} {bs : List UInt8} (h : RdB w (.slice a n cap) bs) (hne : 0 < bs.length) :
    ∃ b off, a = some ⟨b, off, none⟩ ∧ b < w.heap.size ∧ ∀ j x, bs[j]? = some x → w.cell? ⟨b, off + j, none⟩ = some (u8v x) := by
  rcases h with ⟨_, _, _, _, h⟩ | ⟨b, off, cap', h, _, _, _, h4, h5⟩
  · subst h; simp at hne
  · cases h; exact ⟨b, off, rfl, h4, h5⟩
set_option maxRecDepth 100000 in
set_option maxHeartbeats 1000000 in
theorem equal_calls (v1 v2 : Value) (xs ys : List UInt8) (w : World) (h1 : RdB w v1 xs) (h2 : RdB w v2 ys) :
    Calls Tryd.prog 14 #[v1, v2] w fun e w' => e = .returned (.bool (decide (xs = ys))) ∧ Below w.heap.size w w' := by
  obtain ⟨a1, c1, rfl, l1, m1⟩ := h1.form
  obtain ⟨a2, c2, rfl, l2, m2⟩ := h2.form
  by_cases hl : xs.length = ys.length
  · have hne : ((xs.length : Int) != (ys.length : Int)) = false := by rw [bne_eq_false_iff_eq]; omega
    go_enter Tryd.func14, Tryd.ntmps14
    go_wp2
    go_loopw [13] (fun i wr => ∃ k : Nat, k ≤ xs.length ∧ i = .int .i64 k ∧ xs.take k = ys.take k ∧ Below w.heap.size w wr) (fun i _ => xs.length - (intOf i).toNat)
    case atStart => exact ⟨0, Nat.zero_le _, rfl, rfl, Below.refl _ _⟩
    case round =>
      obtain ⟨k, hk, rfl, hpre, hb⟩ := hrel
      by_cases hlt : k < xs.length
      · obtain ⟨x, hx⟩ : ∃ x, xs[k]? = some x := ⟨xs[k], List.getElem?_eq_getElem hlt⟩
        obtain ⟨y, hy⟩ : ∃ y, ys[k]? = some y := ⟨ys[k], List.getElem?_eq_getElem (by omega)⟩
        obtain ⟨b1, o1, e1, hb1, hcell1⟩ := (h1.below (Nat.le_refl _) hb).cellAny (by omega)
        obtain ⟨b2, o2, e2, hb2, hcell2⟩ := (h2.below (Nat.le_refl _) hb).cellAny (by omega)
        have hcx := hcell1 k x hx
        have hcy := hcell2 k y hy
        subst e1 e2
        have hxs := take_snoc hx
        have hys := take_snoc hy
        have Hxs := Lib.hid hxs
        have Hys := Lib.hid hys
        have Hpre := Lib.hid hpre
        have Hx := Lib.hid hx
        have Hy := Lib.hid hy
        have hky : k < ys.length := by omega
        have hkI : (k : Int) < (xs.length : Int) := by omega
        have hkJ : (k : Int) < (ys.length : Int) := by omega
        clear hcell1 hcell2 hxs hys hpre hx hy h1 h2
        by_cases hxy : x = y
        · have htest : ((x.toNat : Int) != (y.toNat : Int)) = false := by rw [hxy]; simp
          have Hxy := Lib.hid hxy
          clear hxy
          go_wp2
          go_quiet (fail)
          go_wp2
          go_roundw
          case rel => exact ⟨k + 1, by omega, by go_num, by rw [Hxs.out, Hys.out, Hpre.out, Hxy.out], by first | exact hb | exact below_drewN hb _⟩
          case measure => simp [intOf] <;> omega
        · have htest : ((x.toNat : Int) != (y.toNat : Int)) = true := by rw [bne_iff_ne]; intro h; exact hxy (UInt8.toNat_inj.1 (by omega))
          go_wp2
          go_quiet (fail)
          go_wp2
          go_ret
          refine ⟨ret_bool (decide_eq_false ?_), by first | exact hb | exact below_drewN hb _⟩
          intro e
          have h := Hx.out
          rw [e, Hy.out] at h
          have : x = y := (Option.some.inj h).symm
          subst this
          simp at htest
      · have hkl : k = xs.length := by omega
        rw [List.take_of_length_le (by omega), List.take_of_length_le (by omega)] at hpre
        have Hpre := Lib.hid hpre
        clear hpre
        go_wp2
        go_ret
        exact ⟨ret_bool (decide_eq_true Hpre.out), hb⟩
  · have hne : ((xs.length : Int) != (ys.length : Int)) = true := by rw [bne_iff_ne]; omega
    go_enter Tryd.func14, Tryd.ntmps14
    go_wp2
    go_ret
    exact ⟨ret_bool (decide_eq_false (fun e => hl (by rw [e]))), Below.refl _ _⟩
end Go.Proofs.YtjddicoigbidlaaDoor

set_option linter.unusedSimpArgs false
set_option linter.unusedVariables false
namespace Go.Proofs.YtjddicoigbidlaaDoor
open Go.RowKit
set_option maxHeartbeats 1000000 in
theorem envWithin_calls (n a b : Int) (w : World) :
    Calls Tryd.prog 23 #[.int .i64 n, .int .i64 a, .int .i64 b] w fun e w' => e = .returned (.bool (decide (a ≤ n ∧ n ≤ b))) ∧ w' = w := by
  by_cases h1 : a ≤ n
  · by_cases h2 : n ≤ b
    · rw [decide_eq_true ⟨h1, h2⟩]
      go_enter Tryd.func23, Tryd.ntmps23
      go_wp2
      go_ret
      exact ⟨by first | rfl | simp [h1, h2], rfl⟩
    · rw [decide_eq_false (fun h => h2 h.2)]
      go_enter Tryd.func23, Tryd.ntmps23
      go_wp2
      go_ret
      exact ⟨by first | rfl | simp [h1, h2], rfl⟩
  · rw [decide_eq_false (fun h => h1 h.1)]
    go_enter Tryd.func23, Tryd.ntmps23
    go_wp2
    go_ret
    exact ⟨by first | rfl | simp [h1], rfl⟩
/-- A body: no CR, and whole lines. -/
def bodyB (bs : List UInt8) : Bool := !bs.contains 13 && (decide (bs.length = 0) || bs.getLast? == some 10)
end Go.Proofs.YtjddicoigbidlaaDoor

set_option linter.unusedSimpArgs false
set_option linter.unusedVariables false
namespace Go.Proofs.YtjddicoigbidlaaDoor
open Go.RowKit
theorem run_strL {w : World} {v : Value} {bs : List UInt8} (h : RdB w v bs) : (convert 23 9 v).run Tryd.prog w = .ok (.string (strL bs)) w := by
  rcases h with ⟨a, c, rfl, _, rfl⟩ | ⟨b, off, cap, rfl, h0, h1, h2, h3, h4⟩
  · cases a with
    | none => simp [convert, run_underlying Tryd.underlying23, run_underlying Tryd.underlying9, run_underlying Tryd.underlying5, Conv.bytesToString, go_sem]; rfl
    | some a => simp [convert, run_underlying Tryd.underlying23, run_underlying Tryd.underlying9, run_underlying Tryd.underlying5, Conv.bytesToString, loadCells, go_sem]; rfl
  · have := run_convert_bytes_arg (P := Tryd.prog) w 23 5 Tryd.underlying23 Tryd.underlying5 b off bs.length cap (bs.map fun x => (x.toNat : Int)) (by simp) (fun i hi => by
      rw [h4 i bs[i] (List.getElem?_eq_getElem hi)]
      simp [List.getD, List.getElem?_eq_getElem hi]) 9 Tryd.underlying9
    rw [this]
    have e : strOfNums (bs.map fun x => (x.toNat : Int)) = strL bs := by simp [strL, strOfNums, Function.comp_def]
    rw [e]
def endB (l : List UInt8) : Bool := decide (l.length = 0) || l.getLast? == some 10
theorem end_rest (t r : List UInt8) : endB (t ++ 10 :: r) = endB r := by
  unfold endB
  rw [decide_eq_false (by simp), Bool.false_or, List.getLast?_append, List.getLast?_cons]
  cases h : r.getLast? with
  | none =>
    have : r = [] := List.getLast?_eq_none_iff.1 h
    subst this; rfl
  | some x =>
    have : r ≠ [] := by intro e; subst e; cases h
    rw [decide_eq_false (by rw [List.length_eq_zero_iff]; exact this), Bool.false_or]; rfl
theorem end_none {l : List UInt8} (h : cutAt 10 l = none) (hne : l ≠ []) : endB l = false := by
  unfold endB
  rw [decide_eq_false (by rw [List.length_eq_zero_iff]; exact hne), Bool.false_or, beq_eq_false_iff_ne]
  intro hl
  have hm : (10 : UInt8) ∈ l := List.mem_of_getLast? hl
  have : ∀ l : List UInt8, cutAt 10 l = none → (10 : UInt8) ∉ l := by
    intro l
    induction l with
    | nil => simp
    | cons x xs ih =>
      intro h
      by_cases hx : x = 10
      · rw [cutAt, if_pos hx] at h; cases h
      · rw [cutAt, if_neg hx] at h
        have h2 : cutAt 10 xs = none := by cases hc : cutAt 10 xs with | none => rfl | some p => rw [hc] at h; cases h
        intro hm
        rcases List.mem_cons.1 hm with e | hm
        · exact hx e.symm
        · exact ih h2 hm
  exact this l h hm
def strSz : Value → Nat
  | .string s => s.size
  | _ => 0
set_option maxRecDepth 100000 in
set_option maxHeartbeats 8000000 in
theorem dotsLines_calls (v : Value) (bs : List UInt8) (w : World) (hv : RdB w v bs) (hs : bs.length < 4294967281) (hmax : MaxOk w) :
    Calls Tryd.prog 24 #[v] w fun e w' => (∃ x, e = .returned (.tuple #[x, .bool (bodyB bs)])) ∧ Below w.heap.size w w' := by
  obtain ⟨i0, hi, hz0, hz1, hz2⟩ := info_parts infoStr
  obtain ⟨a, cap, rfl, hlc, hcap⟩ := hv.form
  have hstr := run_strL hv
  have hcon := fun W => Tryd.strings_Contains_one (strL bs) 13 W
  rw [strL_data, indexByte_contains] at hcon
  have hbody : bodyB bs = (!bs.contains 13 && endB bs) := rfl
  have hend : ∀ e, endB bs = e → endB bs = e := fun _ h => h
  rw [hbody]
  obtain ⟨n, hn⟩ : ∃ n, bs.length = n := ⟨_, rfl⟩
  rw [hn] at hlc hstr hs ⊢
  have Hn := Lib.hid hn
  have hsz := strL_size bs
  rw [hn] at hsz
  have Hmax := Lib.hid hmax
  clear hv hn hbody hend hmax
  generalize hc13 : bs.contains 13 = c13 at hcon
  have Hcon := Lib.hid hcon
  clear hc13 hcon
  generalize hgs : strL bs = s0 at hstr Hcon hsz
  cases c13
  · obtain ⟨eb, heb⟩ : ∃ e, endB bs = e := ⟨_, rfl⟩
    have Heb := Lib.hid heb
    rw [heb]
    clear heb
    go_enter Tryd.func24, Tryd.ntmps24
    go_wp2_with fail
    refine (Hcon.out _).mono ?_; rintro e w1 ⟨rfl, rfl⟩
    go_wp2
    go_loopw [4, 5] (fun s o wr => ∃ (cur : List UInt8) (out : List (List UInt8)), s = .string (strL cur) ∧ endB cur = eb ∧ out.length + cur.length ≤ n ∧ wr.ownsRow w1.heap.size 9 1 o out.length (out.flatMap s1) ∧ Below w1.heap.size w1 wr) (fun s _ _ => strSz s)
    case atStart => exact ⟨bs, [], by rw [hgs], Heb.out, by rw [Hn.out]; simp, nil_row0 _ _ _ _, Below.refl _ _⟩
    case round =>
      obtain ⟨cur, out, rfl, hce, hol, hown, hbw⟩ := hrel
      have hcsz := strL_size cur
      by_cases h0 : cur = []
      · subst h0
        have : eb = true := by rw [← hce]; rfl
        subst this
        rw [show strL [] = (⟨#[]⟩ : ByteArray) from rfl]
        clear hce
        go_wp2
        go_ret2
        exact ⟨⟨_, rfl⟩, hbw⟩
      · have hne : (strL cur).size ≠ 0 := by rw [hcsz]; exact fun h => h0 (List.length_eq_zero_iff.1 h)
        have hb := empty_ne hne
        have hb2 : (strL cur).toList.isEmpty = false := by simpa using hb
        obtain ⟨m, hm⟩ := Hmax.out.below hbw
        have hcut := Tryd.strings_Cut (strL cur) ⟨#[10]⟩ m wr (by rw [hcsz]; omega) hm
        rw [show (⟨#[10]⟩ : ByteArray).data.toList = [10] from rfl, cut_one, strL_data] at hcut
        rcases index_one 10 cur with ⟨h1, _⟩ | ⟨t, r, h1, h2, _⟩
        · rw [h1] at hcut
          simp only at hcut
          have : eb = false := by rw [← hce]; exact end_none h1 h0
          subst this
          have Hcut := Lib.hid hcut
          clear hcut h1 h0 hce hm
          generalize strL cur = sc at hb hb2 Hcut hcsz hne
          go_wp2_with fail
          refine (Hcut.out).mono ?_; rintro e w2 ⟨rfl, k, rfl⟩
          go_wp2
          go_ret2
          exact ⟨⟨_, rfl⟩, below_drewN hbw _⟩
        · rw [h1] at hcut
          simp only at hcut
          have hce2 : endB r = eb := by rw [← hce, h2, end_rest]
          have hln : out.length + 1 + r.length ≤ n ∧ r.length < cur.length := by
            have := congrArg List.length h2
            simp at this
            omega
          have hrow2 : ∀ k, (wr.drewN k).ownsRow w1.heap.size 9 1 u5 out.length (out.flatMap s1) := fun k => own_below hown (below_drewN (Below.refl _ _) k) (Nat.le_refl _)
          rw [show (⟨t.toArray⟩ : ByteArray) = strL t from rfl, show (⟨r.toArray⟩ : ByteArray) = strL r from rfl] at hcut
          have Hcut := Lib.hid hcut
          have Hce2 := Lib.hid hce2
          have Hln := Lib.hid hln
          have Hrow2 := Lib.hid hrow2
          have Hbw := Lib.hid hbw
          clear hcut h1 h0 hce hm h2 hce2 hln hrow2
          generalize strL cur = sc at hb hb2 Hcut hcsz hne
          go_wp2_with fail
          refine (Hcut.out).mono ?_; rintro e w2 ⟨rfl, k, rfl⟩
          have hrow := Hrow2.out k
          have hbk := below_drewN Hbw.out k
          generalize wr.drewN k = wk at hrow hbk
          have hncell := news_new wk (s1 t) 9 (0, 0)
          have Hncell := Lib.hid hncell
          have hcs1 : ∀ u ∈ s1 t, u.oneCell' = true := by intro u hu; exact s1_one [t] u (by simpa using hu)
          have Hcs1 := Lib.hid hcs1
          have hbd1 : out.length + 1 ≤ maxLen := by show out.length + 1 ≤ 9223372036854775807; omega
          have hbd2 : (out.length + 1) * 16 ≤ 140737488355328 := by omega
          have hbd3 : w1.heap.size ≤ (wk.alloc (.cells #[.string (strL t)] 9)).heap.size := by have := hbk.size; simp; omega
          clear hncell hcs1 hown hbw
          go_wp2_with (at_builtin; go_must (refine wpList_append_own _ rfl _ _ 22 rfl w1.heap.size 9 i0 _ 1 16 Tryd.underlying22 hi hz0 hz1 hz2 rfl (by decide) _ _ _ rfl (hrow.alloc _) ⟨wk.heap.size, 0, none⟩ 1 1 (s1 t) rfl rfl Hncell.out Hcs1.out hbd1 hbd2 hbd3 ?_); rintro v' w3 hown3 hg3 _)
          go_roundw
          case rel =>
            refine ⟨r, out ++ [t], rfl, Hce2.out, by rw [List.length_append]; exact Hln.out.1, ?_, Below.grown (hbk.alloc hbk.size _) hg3 (by have := hbk.size; simp; omega) (fun k hk => own_base hrow k hk)⟩
            rw [List.length_append, List.flatMap_append, List.flatMap_singleton]; exact hown3
          case measure =>
            simp only [strSz]
            rw [hcsz, strL_size]
            exact Hln.out.2
  · go_enter Tryd.func24, Tryd.ntmps24
    go_wp2_with fail
    refine (Hcon.out _).mono ?_; rintro e w1 ⟨rfl, rfl⟩
    go_wp2
    go_ret2
    exact ⟨⟨_, rfl⟩, Below.refl _ _⟩
end Go.Proofs.YtjddicoigbidlaaDoor

set_option linter.unusedSimpArgs false
set_option linter.unusedVariables false
namespace Go.Proofs.YtjddicoigbidlaaDoor
open Go.RowKit
/-- The mark that bytes are, if they are one's. -/
def markOf (b : List UInt8) : MarkD := ⟨beNat (b.take 8), beNat ((b.drop 8).take 8), beNat ((b.drop 16).take 8)⟩
def parseMark (b : List UInt8) : Option MarkD := if (markOf b).good = true ∧ (markOf b).bytes = b then some (markOf b) else none
/-- The reader's states. -/
def rdSt (b : List UInt8) : Nat → List UInt8 × Bool
  | 0 => (b, false)
  | j + 1 => (rdNum (rdSt b j).1 (rdSt b j).2).2
def rdN (b : List UInt8) (j : Nat) : Nat := (rdNum (rdSt b j).1 (rdSt b j).2).1.1
def MarkD.read (b : List UInt8) : MarkD := ⟨rdN (b.take 24) 0, rdN (b.take 24) 1, rdN (b.take 24) 2⟩
theorem rdNum_le (bs : List UInt8) (bad : Bool) : (rdNum bs bad).1.1 ≤ 4611686018427387904 := by
  unfold rdNum
  split
  · simp
  · split
    · simp
    · simp only; omega
theorem read_ok (b : List UInt8) (hb : b.length = 28) :
    ((MarkD.read b).good && rdDone (rdSt (b.take 24) 3).1 (rdSt (b.take 24) 3).2 && decide ((MarkD.read b).bytes = b)) = (parseMark b).isSome ∧ (∀ k, parseMark b = some k → MarkD.read b = k) := by
  have hl : (b.take 24).length = 24 := by simp; omega
  have e0 : rdSt (b.take 24) 0 = (b.take 24, false) := rfl
  have big : ∀ n : Nat, 4611686018427387904 < n → ∀ k : MarkD, (k.kind = n ∨ k.rcpt = n ∨ k.n = n) → k.good = false := by
    intro n hn k hk
    exact decide_eq_false (by omega)
  have bad_stays : ∀ bs, (rdNum bs true).2 = (bs, true) := fun bs => by simp [rdNum]
  have p0 : (b.take 24).take 8 = b.take 8 := by rw [List.take_take]; congr 1
  have p1 : ((b.take 24).drop 8).take 8 = (b.drop 8).take 8 := by rw [List.drop_take, List.take_take]; congr 1
  have p2 : (((b.take 24).drop 8).drop 8).take 8 = (b.drop 16).take 8 := by rw [List.drop_drop, List.drop_take, List.take_take]; congr 1
  by_cases h0 : 4611686018427387904 < beNat (b.take 8)
  · have g : (markOf b).good = false := big _ h0 _ (.inl rfl)
    have s1 : rdSt (b.take 24) 1 = ((b.take 24).drop 8, true) := by simp [rdSt, rdNum, hl, p0, h0]
    have s3 : (rdSt (b.take 24) 3).2 = true := by simp [rdSt] at s1 ⊢; rw [s1]; simp [bad_stays]
    simp [parseMark, g, rdDone, s3]
  · have s1 : rdSt (b.take 24) 1 = ((b.take 24).drop 8, false) := by simp [rdSt, rdNum, hl, p0, h0]
    have n0 : rdN (b.take 24) 0 = beNat (b.take 8) := by simp [rdN, rdSt, rdNum, hl, p0, h0]
    by_cases h1 : 4611686018427387904 < beNat ((b.drop 8).take 8)
    · have g : (markOf b).good = false := big _ h1 _ (.inr (.inl rfl))
      have s2 : (rdSt (b.take 24) 2).2 = true := by rw [rdSt, s1]; simp [rdNum, hl, p1, h1]
      have s3 : (rdSt (b.take 24) 3).2 = true := by rw [rdSt, s2]; simp [bad_stays]
      simp [parseMark, g, rdDone, s3]
    · have s2 : rdSt (b.take 24) 2 = (((b.take 24).drop 8).drop 8, false) := by rw [rdSt, s1]; simp [rdNum, hl, p1, h1]
      have n1 : rdN (b.take 24) 1 = beNat ((b.drop 8).take 8) := by rw [rdN, s1]; simp [rdNum, hl, p1, h1]
      by_cases h2 : 4611686018427387904 < beNat ((b.drop 16).take 8)
      · have g : (markOf b).good = false := big _ h2 _ (.inr (.inr rfl))
        have s3 : (rdSt (b.take 24) 3).2 = true := by rw [rdSt, s2]; simp only; rw [rdNum, p2, if_neg (by simp [hl]), if_pos h2]
        simp [parseMark, g, rdDone, s3]
      · have s3 : rdSt (b.take 24) 3 = ((((b.take 24).drop 8).drop 8).drop 8, false) := by rw [rdSt, s2]; simp only; rw [rdNum, p2, if_neg (by simp [hl]), if_neg h2]
        have n2 : rdN (b.take 24) 2 = beNat ((b.drop 16).take 8) := by rw [rdN, s2]; simp only; rw [rdNum, p2, if_neg (by simp [hl]), if_neg h2]
        have hr : MarkD.read b = markOf b := by simp [MarkD.read, markOf, n0, n1, n2]
        have hd : rdDone (rdSt (b.take 24) 3).1 (rdSt (b.take 24) 3).2 = true := by rw [s3]; simp [rdDone, hl]
        rw [hr, hd]
        unfold parseMark
        by_cases hg : (markOf b).good = true
        · by_cases he : (markOf b).bytes = b
          · simp [hg, he]
          · simp [hg, he]
        · simp [hg]

theorem RdAt.keeps {F : Nat → Prop} {w w' : World} {b : Nat} {v : Value} {bs : List UInt8} {bad : Bool} (h : RdAt w b v bs bad) (hk : Keeps F w w') (hb : ¬ F b) (hv : ∀ k, v.ownBlock = some k → ¬ F k) : RdAt w' b v bs bad :=
  ⟨hk.heap h.blk hb, h.rd.keeps hk hv, h.ne⟩
/-- The numbers that have been read so far. -/
def rdArr (b : List UInt8) (j : Nat) : Array Value := #[.int .i64 (if 0 < j then (rdN b 0 : Int) else 0), .int .i64 (if 1 < j then (rdN b 1 : Int) else 0), .int .i64 (if 2 < j then (rdN b 2 : Int) else 0)]
theorem rdArr_set (b : List UInt8) (j : Nat) (h : j < 3) : (rdArr b j).setIfInBounds j (.int .i64 (rdN b j : Int)) = rdArr b (j + 1) := by
  rcases (by omega : j = 0 ∨ j = 1 ∨ j = 2) with rfl | rfl | rfl <;> simp [rdArr]
theorem rDone_is (b : Nat) (v : Value) (bs : List UInt8) (bad d : Bool) (hd : rdDone bs bad = d) (w : World) (hR : RdAt w b v bs bad) :
    Calls Tryd.prog 32 #[.pointer (some ⟨b, 0, none⟩)] w fun e w' => e = .returned (.bool d) ∧ w = w' := by
  subst hd; exact rDone_calls b v bs bad w hR
/-- What read answers. -/
def MReadDone (w : World) (b : List UInt8) (e : Ending) (w' : World) : Prop :=
  ∃ k ok, e = .returned (.tuple #[MarkD.val k, .bool ok]) ∧ ok = (parseMark b).isSome ∧ (∀ k', parseMark b = some k' → k = k') ∧ Below w.heap.size w w'
section
variable {w0 : World} {mb rb : Nat} {v : Value} {st : List UInt8 × Bool} {v2 : Value} {again : List UInt8} {v1 : Value} {b : List UInt8} {w w' : World}
end
end Go.Proofs.YtjddicoigbidlaaDoor

set_option linter.unusedSimpArgs false
set_option linter.unusedVariables false
namespace Go.Proofs.YtjddicoigbidlaaDoor
open Go.RowKit Go.Shelf
attribute [local go_sem] Oper.semAt_some
/-- How many parts of 28 bytes there are. -/
def parts (n : Nat) : Nat := (n + 27) / 28
/-- The k-th part of bytes in block b from off on. -/
def partV (b off len k : Nat) : Value := .slice (some ⟨b, off + 28 * k, none⟩) (min 28 (len - 28 * k)) (min 28 (len - 28 * k))
def upTo {m : Nat} (k : Nat) : List (Fin m) := (List.finRange m).take k
theorem upTo_succ {m k : Nat} (h : k < m) : upTo (m := m) (k + 1) = upTo k ++ [⟨k, h⟩] := by
  unfold upTo
  exact take_snoc (by simp [h])
theorem upTo_length {m k : Nat} (h : k ≤ m) : (upTo (m := m) k).length = k := by simp [upTo, h]
theorem run_slice_lhm {P : Program} {t e : TypeId} (ht : P.underlying t = some (.slice e)) (hi : (P.info? e).map (·.size) = some 1) (a : Addr) (len cap l h : Nat) (hl : l < h) (hh : h ≤ cap) (w : World) :
    (Instr.sliceAt t (.slice (some a) len cap) (some (.int .i64 (l : Int))) (some (.int .i64 (h : Int))) (some (.int .i64 (h : Int)))).run P w = .ok (.slice (some (a.add l)) (h - l) (h - l)) w := by
  obtain ⟨i, hi1, hi2⟩ := Option.map_eq_some_iff.1 hi
  have hne : h ≠ l := by omega
  simp [Instr.sliceAt, Instr.slice, Instr.sliceBounds, Instr.sliceBound, run_underlying ht, asIntOf, go_sem, hi1, hi2, sizeOf, typeInfo]
  rw [if_pos hh, if_pos (by omega), if_neg hne]
end Go.Proofs.YtjddicoigbidlaaDoor

set_option linter.unusedSimpArgs false
set_option linter.unusedVariables false
namespace Go.Proofs.YtjddicoigbidlaaDoor
open Go.RowKit Go.Shelf
attribute [local go_sem] Oper.semAt_some
/-! The plain side: parts, the marks that they are. -/
def chunkAt (bs : List UInt8) (k : Nat) : List UInt8 := (bs.drop (28 * k)).take 28
def chunkM (bs : List UInt8) (k : Nat) : Option MarkD := if (chunkAt bs k).length < 28 then none else parseMark (chunkAt bs k)
def decodeN : Nat → List UInt8 → List MarkD
  | 0, _ => []
  | n + 1, bs => if bs.length < 28 then [] else match parseMark (bs.take 28) with
    | none => []
    | some k => k :: decodeN n (bs.drop 28)
/-- The marks that bytes begin with. -/
def decodeM (bs : List UInt8) : List MarkD := decodeN 4096 bs
def msOf (bs : List UInt8) {m : Nat} (pre : List (Fin m)) : List MarkD := pre.filterMap fun x => chunkM bs x.1
def msR (bs : List UInt8) (k : Nat) : List MarkD := (List.range k).filterMap (chunkM bs)
theorem chunkM_zero (bs : List UInt8) : chunkM bs 0 = if bs.length < 28 then none else parseMark (bs.take 28) := by
  have h : (chunkAt bs 0).length < 28 ↔ bs.length < 28 := by simp [chunkAt]; omega
  unfold chunkM
  by_cases hl : bs.length < 28
  · rw [if_pos (h.2 hl), if_pos hl]
  · rw [if_neg (fun e => hl (h.1 e)), if_neg hl]; rfl
theorem chunkM_drop (bs : List UInt8) (k : Nat) : chunkM (bs.drop 28) k = chunkM bs (k + 1) := by
  have h : chunkAt (bs.drop 28) k = chunkAt bs (k + 1) := by unfold chunkAt; rw [List.drop_drop]; congr 2; omega
  unfold chunkM; rw [h]
theorem decodeN_good (k : Nat) : ∀ (n : Nat) (bs : List UInt8), (∀ j, j < k → (chunkM bs j).isSome = true) → decodeN (k + n) bs = msR bs k ++ decodeN n (bs.drop (28 * k)) := by
  induction k with
  | zero => intro n bs _; simp [msR]
  | succ k ih =>
    intro n bs h
    have h0 := h 0 (by omega)
    rw [chunkM_zero] at h0
    by_cases hl : bs.length < 28
    · rw [if_pos hl] at h0; cases h0
    · rw [if_neg hl] at h0
      obtain ⟨x, hx⟩ := Option.isSome_iff_exists.1 h0
      have hz : chunkM bs 0 = some x := by rw [chunkM_zero, if_neg hl, hx]
      rw [show k + 1 + n = (k + n) + 1 by omega, decodeN, if_neg hl, hx]
      simp only
      rw [ih n (bs.drop 28) (fun j hj => by rw [chunkM_drop]; exact h (j + 1) (by omega))]
      have hm : msR bs (k + 1) = x :: msR (bs.drop 28) k := by
        unfold msR
        rw [List.range_succ_eq_map, List.filterMap_cons, hz, List.filterMap_map]
        have hf : chunkM bs ∘ Nat.succ = chunkM (bs.drop 28) := by funext j; exact (chunkM_drop bs j).symm
        rw [hf]
      rw [hm, List.drop_drop, List.cons_append, show 28 + 28 * k = 28 * (k + 1) by omega]
theorem decodeM_stop (bs : List UInt8) (k : Nat) (h : ∀ j, j < k → (chunkM bs j).isSome = true) (hk : k ≤ 4096) (hs : k = 4096 ∨ chunkM bs k = none) : decodeM bs = msR bs k := by
  unfold decodeM
  rw [show 4096 = k + (4096 - k) by omega, decodeN_good k _ bs h]
  rcases hs with rfl | hs
  · simp [decodeN]
  · have : decodeN (4096 - k) (bs.drop (28 * k)) = [] := by
      cases hn : 4096 - k with
      | zero => rfl
      | succ n =>
        have hz : chunkM (bs.drop (28 * k)) 0 = none := by
          rw [← hs]; unfold chunkM; rw [show chunkAt (bs.drop (28 * k)) 0 = chunkAt bs k by simp [chunkAt]]
        rw [chunkM_zero] at hz
        rw [decodeN]
        by_cases hl : (bs.drop (28 * k)).length < 28
        · rw [if_pos hl]
        · rw [if_neg hl] at hz ⊢; rw [hz]
    rw [this, List.append_nil]
theorem chunkM_end (bs : List UInt8) : chunkM bs (parts bs.length) = none := by
  have : (chunkAt bs (parts bs.length)).length < 28 := by simp [chunkAt, parts]; omega
  rw [chunkM, if_pos this]
theorem msOf_upTo (bs : List UInt8) {m k : Nat} (hk : k ≤ m) : msOf bs (upTo (m := m) k) = msR bs k := by
  induction k with
  | zero => simp [msOf, upTo, msR]
  | succ k ih =>
    have ih := ih (by omega)
    rw [upTo_succ (by omega : k < m), msR, List.range_succ, List.filterMap_append]
    unfold msOf at ih ⊢
    rw [List.filterMap_append, ih]
    rfl
theorem msOf_length (bs : List UInt8) {m : Nat} (pre : List (Fin m)) (h : ∀ x ∈ pre, (chunkM bs x.1).isSome = true) : (msOf bs pre).length = pre.length := by
  induction pre with
  | nil => rfl
  | cons x pre ih =>
    obtain ⟨k, hk⟩ := Option.isSome_iff_exists.1 (h x (by simp))
    have := ih (fun y hy => h y (by simp [hy]))
    unfold msOf at this ⊢
    rw [List.filterMap_cons, hk]; simp [this]
theorem mem_upTo {m k : Nat} (hk : k ≤ m) {j : Nat} (hj : j < k) : (⟨j, by omega⟩ : Fin m) ∈ upTo (m := m) k := by
  unfold upTo
  rw [List.mem_take_iff_getElem]
  exact ⟨j, by simp; omega, by simp⟩
theorem decode_done (bs : List UInt8) (h : ∀ x ∈ upTo (m := parts bs.length) (parts bs.length), (chunkM bs x.1).isSome = true) (hl : (upTo (m := parts bs.length) (parts bs.length)).length ≤ 4096) : decodeM bs = msOf bs (upTo (m := parts bs.length) (parts bs.length)) := by
  rw [upTo_length (Nat.le_refl _)] at hl
  rw [msOf_upTo bs (Nat.le_refl _)]
  exact decodeM_stop bs _ (fun j hj => h _ (mem_upTo (Nat.le_refl _) hj)) hl (.inr (chunkM_end bs))
theorem decode_stop (bs : List UInt8) (k : Nat) (hk : k ≤ parts bs.length) (hne : (upTo (m := parts bs.length) k) ≠ []) (h : ∀ x ∈ (upTo (m := parts bs.length) k).dropLast, (chunkM bs x.1).isSome = true) (hl : (upTo (m := parts bs.length) k).dropLast.length ≤ 4096)
    (hs : (upTo (m := parts bs.length) k).dropLast.length = 4096 ∨ ∃ x, (upTo (m := parts bs.length) k).getLast? = some x ∧ chunkM bs x.1 = none) : decodeM bs = msOf bs (upTo (m := parts bs.length) k).dropLast := by
  cases k with
  | zero => exact absurd (by simp [upTo]) hne
  | succ k =>
    rw [upTo_succ (by omega : k < parts bs.length)] at *
    rw [List.dropLast_concat] at *
    rw [upTo_length (by omega)] at hl hs
    rw [msOf_upTo bs (by omega)]
    refine decodeM_stop bs k (fun j hj => h _ (mem_upTo (by omega) hj)) hl ?_
    rcases hs with hs | ⟨x, hx, hn⟩
    · exact .inl hs
    · rw [List.getLast?_concat] at hx; cases hx; exact .inr hn
/-- The k-th part, as the iterator hands it. -/
theorem rdB_part {W : World} {b off cap : Nat} {bs : List UInt8} (h : RdB W (.slice (some ⟨b, off, none⟩) bs.length cap) bs) (k : Nat) (hk : 28 * k < bs.length) :
    RdB W (partV b off bs.length k) (chunkAt bs k) ∧ (chunkAt bs k).length = min 28 (bs.length - 28 * k) := by
  have hl : (chunkAt bs k).length = min 28 (bs.length - 28 * k) := by simp [chunkAt]
  refine ⟨?_, hl⟩
  rcases h with ⟨_, _, _, _, h⟩ | ⟨b', off', cap', h, _, _, h3, h4, h5⟩
  · subst h; simp at hk
  · cases h
    refine .inr ⟨b, off + 28 * k, min 28 (bs.length - 28 * k), ?_, ?_, by omega, by omega, h4, fun j x hx => ?_⟩
    · rw [hl]; rfl
    · rw [← List.length_pos_iff]; omega
    · have hj := (List.getElem?_eq_some_iff.1 hx).1
      rw [hl] at hj
      unfold chunkAt at hx
      rw [List.getElem?_take, if_pos (by omega), List.getElem?_drop] at hx
      rw [Nat.add_assoc]
      exact h5 _ x hx
end Go.Proofs.YtjddicoigbidlaaDoor

set_option linter.unusedSimpArgs false
set_option linter.unusedVariables false
namespace Go.Proofs.YtjddicoigbidlaaDoor
open Go.RowKit Go.Shelf
attribute [local go_sem] Oper.semAt_some
theorem cells_len (ms : List MarkD) : (ms.flatMap MarkD.cells).length = ms.length * 3 := by
  induction ms with
  | nil => rfl
  | cons k ms ih => simp only [List.flatMap_cons, List.length_append, ih, List.length_cons]; simp [MarkD.cells]; omega
theorem cells_one (ms : List MarkD) : ∀ u ∈ ms.flatMap MarkD.cells, u.oneCell' = true := by
  intro u hu
  obtain ⟨k, _, hk⟩ := List.mem_flatMap.1 hu
  simp [MarkD.cells] at hk
  rcases hk with rfl | rfl | rfl <;> rfl
theorem msOf_snoc (bs : List UInt8) {m : Nat} (pre : List (Fin m)) (x : Fin m) {k : MarkD} (h : chunkM bs x.1 = some k) : msOf bs (pre ++ [x]) = msOf bs pre ++ [k] := by
  unfold msOf; rw [List.filterMap_append]; simp [h]
theorem KeepsFrom.ofBelow {B : Nat} {W W1 : World} (h : Below W.heap.size W W1) : KeepsFrom B W W1 :=
  ⟨h.size, fun k o _ hk _ => (h.block k (Array.getElem?_eq_some_iff.1 hk).1).trans hk⟩
/-- One more mark behind the row that a box holds. -/
theorem dec_append {B base : Nat} {t e : TypeId} {size : Nat} {v v' : Value} {k m : Nat} {xs ys : List Value} {o : Obj} {tmp : Obj} {W0 W w1 : World}
    (hW : W = W0.alloc o)
    (hv : Boxed W B t v) (hte : t ≠ e) (hrow : W0.ownsRow base e size v k xs) (hB : B < base)
    (hown' : w1.ownsRow base e size v' m ys) (hgrow : (W.alloc tmp).grownBy w1 v.ownBlock) :
    w1.cell? ⟨B, 0, none⟩ = some v ∧ w1.frozen? ⟨B, 0, none⟩ = false ∧ Boxed (w1.setCell ⟨B, 0, none⟩ v') B t v' ∧ (w1.setCell ⟨B, 0, none⟩ v').ownsRow base e size v' m ys ∧ KeepsOthers W (w1.setCell ⟨B, 0, none⟩ v') ∧ Keeps (fun k => k = B ∨ base ≤ k) W (w1.setCell ⟨B, 0, none⟩ v') := by
  subst hW
  obtain ⟨a1, a2, a3, a4, a5⟩ := hv.appended hte (own_mono (hrow.alloc o) (Nat.le_of_lt hB)) (Nat.le_of_lt hv.lt) (Nat.le_refl _) (own_mono hown' (Nat.le_of_lt hB)) hgrow
  refine ⟨a1.cell, a1.frozen, a2, hown'.kept (grownBy_setCell' w1 B v') (.inr (a1.not_row hte hown').symm), a4, ?_⟩
  refine ((Keeps.alloc _ _ tmp).trans ((Keeps.grown hgrow).mono fun i hi he => .inr (own_base hrow i he))).trans (Keeps.setCell _ ⟨B, 0, none⟩ v' (.inl rfl))
end Go.Proofs.YtjddicoigbidlaaDoor

set_option linter.unusedSimpArgs false
set_option linter.unusedVariables false
namespace Go.Proofs.YtjddicoigbidlaaDoor
open Go.RowKit
/-- A fate, as plain data. -/
structure FateD where
  state : Int
  tries : Int
  next : Int
  crashes : Int
  opened : Bool
abbrev FateD.cells (f : FateD) : List Value := [.int .i64 f.state, .int .i64 f.tries, .int .i64 f.next, .int .i64 f.crashes, .bool f.opened]
abbrev FateD.val (f : FateD) : Value := .agg #[.int .i64 f.state, .int .i64 f.tries, .int .i64 f.next, .int .i64 f.crashes, .bool f.opened]
def stepD (f : FateD) (k : MarkD) : FateD :=
  if f.state ≠ 0 then f
  else if k.kind = 1 then { f with opened := true }
  else if k.kind = 5 then { f with opened := false, crashes := wrap64 (f.crashes + 1) }
  else { state := if k.kind = 2 then 1 else if k.kind = 3 then 2 else f.state, tries := if f.opened then wrap64 (f.tries + 1) else f.tries, next := if k.kind = 4 then k.n else f.next, crashes := f.crashes, opened := false }
theorem heap_set_other {w : World} {p : Addr} {u : Value} {g : Nat} {o : Obj} (hne : g ≠ p.block) (h : w.heap[g]? = some o) : (w.setCell p u).heap[g]? = some o :=
  (Keeps.setCell (F := fun k => k = p.block) w p u rfl).heap h hne
/-- A struct as the only result. -/
theorem results_row1 {P : Program} {fn : Func} {p : Tmp} {ty : TypeId} (h : fn.results = #[.cell p ty]) (tmps : Array Value) (w : World) (g : Nat) (t : TypeId) (cs : Array Value) (fr : Nat × Nat) (d : TypeDesc)
    (hp : tmps.getD p undef = .pointer (some ⟨g, 0, none⟩)) (hg : w.heap[g]? = some (.cells cs t fr)) (hu : P.underlying ty = some d) (hd : (match d with | .struct _ | .array _ _ => true | _ => false) = true) (hi : (P.info? ty).map (·.size) = some cs.size) :
    (results fn tmps).run P w = .ok (.agg cs) w := by
  have hp' : tmps[p]?.getD undef = .pointer (some ⟨g, 0, none⟩) := by simpa using hp
  simp [results, h, hp', asAddr, run_loadVar_row w g t ty cs fr d hg hu hd hi]
theorem heap_new_at {w : World} {n : Nat} (o : Obj) (h : n = w.heap.size) : (w.alloc o).heap[n]? = some o := by rw [h]; exact heap_alloc_new w o
theorem heap5 {w : World} {g : Nat} {c : Array Value} {t : TypeId} (h : w.heap[g]? = some (.cells c t (0, 0))) (hc : ∃ c0 c1 c2 c3 c4, c = #[c0, c1, c2, c3, c4]) (x0 x1 x2 x3 x4 : Value) :
    (((((w.setCell ⟨g, 0, none⟩ x0).setCell ⟨g, 1, none⟩ x1).setCell ⟨g, 2, none⟩ x2).setCell ⟨g, 3, none⟩ x3).setCell ⟨g, 4, none⟩ x4).heap[g]? = some (.cells #[x0, x1, x2, x3, x4] t (0, 0)) := by
  obtain ⟨c0, c1, c2, c3, c4, rfl⟩ := hc
  exact heap_setCell_same _ _ 4 _ _ _ (heap_setCell_same _ _ 3 _ _ _ (heap_setCell_same _ _ 2 _ _ _ (heap_setCell_same _ _ 1 _ _ _ (heap_setCell_same _ _ 0 _ _ _ h))))
end Go.Proofs.YtjddicoigbidlaaDoor

set_option linter.unusedSimpArgs false
set_option linter.unusedVariables false
namespace Go.Proofs.YtjddicoigbidlaaDoor
open Go.RowKit
/-- The slice value v holds the elements xs, each of s cells. -/
def RdL {α : Type} (s : Nat) (f : α → List Value) (w : World) (v : Value) (xs : List α) : Prop :=
  (∃ a c, v = .slice a 0 c ∧ c ≤ 9223372036854775807 ∧ xs = []) ∨ ∃ b off cap, v = .slice (some ⟨b, off, none⟩) xs.length cap ∧ xs ≠ [] ∧ xs.length ≤ cap ∧ cap ≤ 9223372036854775807 ∧ b < w.heap.size ∧ ∀ (i : Nat) x, xs[i]? = some x → ∀ (j : Nat) u, (f x)[j]? = some u → w.cell? ⟨b, off + (i * s + j), none⟩ = some u
section
variable {α : Type} {s : Nat} {f : α → List Value}
theorem RdL.below {B : Nat} {w w' : World} {v : Value} {xs : List α} (h : RdL s f w v xs) (hB : w.heap.size ≤ B) (hb : Below B w w') : RdL s f w' v xs := by
  rcases h with ⟨a, c, h1, h2⟩ | ⟨b, off, cap, h1, h0, h2, h3, h4, h5⟩
  · exact .inl ⟨a, c, h1, h2⟩
  · exact .inr ⟨b, off, cap, h1, h0, h2, h3, Nat.lt_of_lt_of_le h4 hb.size, fun i x hx j u hu => (hb.cell (p := ⟨b, off + (i * s + j), none⟩) (by exact Nat.lt_of_lt_of_le h4 hB)).trans (h5 i x hx j u hu)⟩
theorem RdL.form {w : World} {v : Value} {xs : List α} (h : RdL s f w v xs) : ∃ a cap, v = .slice a xs.length cap ∧ xs.length ≤ cap ∧ cap ≤ 9223372036854775807 := by
  rcases h with ⟨a, c, rfl, hc, rfl⟩ | ⟨b, off, cap, rfl, h0, h1, h2, _, _⟩
  · exact ⟨a, c, rfl, Nat.zero_le _, hc⟩
  · exact ⟨_, cap, rfl, h1, h2⟩
theorem RdL.lt {w : World} {v : Value} {xs : List α} (h : RdL s f w v xs) (hne : xs ≠ []) : ∀ k, v.ownBlock = some k → k < w.heap.size := by
  rcases h with ⟨_, _, _, _, h⟩ | ⟨b, off, cap, h, _, _, _, h4, _⟩
  · exact absurd h hne
  · subst h; intro k hk; cases hk; exact h4
theorem RdL.keeps {F : Nat → Prop} {w w' : World} {v : Value} {xs : List α} (h : RdL s f w v xs) (hk : Keeps F w w') (hF : ∀ b o l c, v = .slice (some ⟨b, o, none⟩) l c → ¬ F b) : RdL s f w' v xs := by
  rcases h with ⟨a, c, h1, h2⟩ | ⟨b, off, cap, h1, h0, h2, h3, h4, h5⟩
  · exact .inl ⟨a, c, h1, h2⟩
  · exact .inr ⟨b, off, cap, h1, h0, h2, h3, Nat.lt_of_lt_of_le h4 hk.size, fun i x hx j u hu => (World.cell?_of_block (hk.block b h4 (hF b off _ _ h1))).trans (h5 i x hx j u hu)⟩
/-- Where an element is read. -/
theorem RdL.at {w : World} {v : Value} {xs : List α} (h : RdL s f w v xs) {i : Nat} {x : α} (hx : xs[i]? = some x) : ∃ b off cap, v = .slice (some ⟨b, off, none⟩) xs.length cap ∧ b < w.heap.size ∧ ∀ (j : Nat) u, (f x)[j]? = some u → w.cell? ⟨b, off + (i * s + j), none⟩ = some u := by
  rcases h with ⟨_, _, _, _, rfl⟩ | ⟨b, off, cap, h1, h0, h2, h3, h4, h5⟩
  · cases hx
  · exact ⟨b, off, cap, h1, h4, h5 i x hx⟩
theorem flat_get (hf : ∀ x, (f x).length = s) (hs : 0 < s) : ∀ (xs : List α) (i : Nat) (x : α), xs[i]? = some x → ∀ j, j < s → (xs.flatMap f)[i * s + j]? = (f x)[j]? := by
  intro xs
  induction xs with
  | nil => intro i x h; cases h
  | cons y ys ih =>
    intro i x h j hj
    rw [List.flatMap_cons]
    cases i with
    | zero => simp at h; subst h; rw [Nat.zero_mul, Nat.zero_add, List.getElem?_append_left (by rw [hf]; exact hj)]
    | succ i =>
      rw [List.getElem?_append_right (by rw [hf, Nat.succ_mul]; omega), hf, show (i + 1) * s + j - s = i * s + j by rw [Nat.succ_mul]; omega]
      exact ih i x (by simpa using h) j hj
theorem flat_len (hf : ∀ x, (f x).length = s) (xs : List α) : (xs.flatMap f).length = xs.length * s := by
  induction xs with
  | nil => simp
  | cons y ys ih => rw [List.flatMap_cons, List.length_append, hf, ih, List.length_cons, Nat.succ_mul]; omega
/-- A row that the call owns. -/
theorem rdL_own (hf : ∀ x, (f x).length = s) (hs : 0 < s) {w : World} {base g n cap : Nat} {e : TypeId} {xs : List α} (h : w.ownsRow base e s (.slice (some ⟨g, 0, none⟩) n cap) n (xs.flatMap f)) (hm0 : cap ≤ maxLen) : RdL s f w (.slice (some ⟨g, 0, none⟩) n cap) xs := by
  have hn : n = xs.length := by
    have := h.1
    rw [flat_len hf] at this
    exact (Nat.eq_of_mul_eq_mul_right hs this).symm
  subst hn
  by_cases hne : xs = []
  · subst hne; exact .inl ⟨_, _, rfl, hm0, rfl⟩
  obtain ⟨h1, h2 | ⟨g', cap', cur, hv, hg, hh, hc, hm, hsz, _⟩⟩ := id h
  · cases h2.1
  · cases hv
    refine .inr ⟨g, 0, cap, rfl, hne, hc, hm, (Array.getElem?_eq_some_iff.1 hh).1, fun i x hx j u hu => ?_⟩
    have hj : j < s := by have := (List.getElem?_eq_some_iff.1 hu).1; rw [hf] at this; exact this
    have hi : i < xs.length := (List.getElem?_eq_some_iff.1 hx).1
    have hlt : i * s + j < xs.length * s := by
      calc i * s + j < i * s + s := by omega
        _ = (i + 1) * s := by rw [Nat.succ_mul]
        _ ≤ xs.length * s := Nat.mul_le_mul_right _ hi
    rw [Nat.zero_add, h.cellAt _ hlt, flat_get hf hs _ _ _ hx _ hj, hu]
theorem rdL_ofOwn (hf : ∀ x, (f x).length = s) (hs : 0 < s) {w : World} {base n : Nat} {e : TypeId} {xs : List α} {v : Value} (h : w.ownsRow base e s v n (xs.flatMap f)) : RdL s f w v xs := by
  obtain ⟨h1, h2 | ⟨g, cap, cur, hv, hg, hh, hc, hm, hsz, ht⟩⟩ := id h
  · refine .inl ⟨none, 0, h2.1, by omega, ?_⟩
    have := h.1
    rw [flat_len hf, h2.2] at this
    rcases Nat.mul_eq_zero.1 (this.trans (Nat.zero_mul _)) with h | h
    · exact List.length_eq_zero_iff.1 h
    · omega
  · subst hv; exact rdL_own hf hs h hm
end
theorem mark_len (k : MarkD) : k.cells.length = 3 := rfl
theorem fate_len (k : FateD) : k.cells.length = 5 := rfl
abbrev RdM := RdL 3 MarkD.cells
abbrev RdF := RdL 5 FateD.cells
theorem RdL.at3 {w : World} {v : Value} {ks : List MarkD} (h : RdM w v ks) {i : Nat} {k : MarkD} (hk : ks[i]? = some k) :
    ∃ b off cap, v = .slice (some ⟨b, off, none⟩) ks.length cap ∧ b < w.heap.size ∧ w.cell? ⟨b, off + i * 3, none⟩ = some (.int .i64 k.kind) ∧ w.cell? ⟨b, off + i * 3 + 1, none⟩ = some (.int .i64 k.rcpt) ∧ w.cell? ⟨b, off + i * 3 + 2, none⟩ = some (.int .i64 k.n) := by
  obtain ⟨b, off, cap, h1, h2, h3⟩ := h.at hk
  exact ⟨b, off, cap, h1, h2, h3 0 _ rfl, h3 1 _ rfl, h3 2 _ rfl⟩
theorem RdL.at5 {w : World} {v : Value} {fs : List FateD} (h : RdF w v fs) {i : Nat} {f : FateD} (hf : fs[i]? = some f) :
    ∃ b off cap, v = .slice (some ⟨b, off, none⟩) fs.length cap ∧ b < w.heap.size ∧ w.cell? ⟨b, off + i * 5, none⟩ = some (.int .i64 f.state) ∧ w.cell? ⟨b, off + i * 5 + 1, none⟩ = some (.int .i64 f.tries) ∧ w.cell? ⟨b, off + i * 5 + 2, none⟩ = some (.int .i64 f.next) ∧ w.cell? ⟨b, off + i * 5 + 3, none⟩ = some (.int .i64 f.crashes) ∧ w.cell? ⟨b, off + i * 5 + 4, none⟩ = some (.bool f.opened) := by
  obtain ⟨b, off, cap, h1, h2, h3⟩ := h.at hf
  exact ⟨b, off, cap, h1, h2, h3 0 _ rfl, h3 1 _ rfl, h3 2 _ rfl, h3 3 _ rfl, h3 4 _ rfl⟩
/-- The cells and the frozen marks of an owned row of fates. -/
theorem own_at5 {w : World} {base g m cap : Nat} {fs : List FateD} {e : TypeId} (h : w.ownsRow base e 5 (.slice (some ⟨g, 0, none⟩) m cap) m (fs.flatMap FateD.cells)) {i : Nat} {f : FateD} (hf : fs[i]? = some f) :
    w.cell? ⟨g, i * 5, none⟩ = some (.int .i64 f.state) ∧ w.cell? ⟨g, i * 5 + 1, none⟩ = some (.int .i64 f.tries) ∧ w.cell? ⟨g, i * 5 + 2, none⟩ = some (.int .i64 f.next) ∧ w.cell? ⟨g, i * 5 + 3, none⟩ = some (.int .i64 f.crashes) ∧ w.cell? ⟨g, i * 5 + 4, none⟩ = some (.bool f.opened) ∧ (∀ j, w.frozen? ⟨g, j, none⟩ = false) := by
  have hr := rdL_ofOwn fate_len (by decide) h
  obtain ⟨b, off, c, h1, h2, h3, h4, h5, h6, h7⟩ := RdL.at5 hr hf
  have hfz := fun j => h.frozenAt j
  cases h1
  simp only [Nat.zero_add] at h3 h4 h5 h6 h7
  exact ⟨h3, h4, h5, h6, h7, hfz⟩
def FateD.zero : FateD := ⟨0, 0, 0, 0, false⟩
def putD (fs : List FateD) (k : MarkD) : List FateD := if k.good then fs.modify k.rcpt.toNat (stepD · k) else fs
def fatesD (m : Nat) (ks : List MarkD) : List FateD := ks.foldl putD (List.replicate m .zero)
theorem putD_length (fs : List FateD) (k : MarkD) : (putD fs k).length = fs.length := by unfold putD; split <;> simp
theorem foldD_length (ks : List MarkD) : ∀ fs : List FateD, (ks.foldl putD fs).length = fs.length := by
  induction ks with
  | nil => intro fs; rfl
  | cons k ks ih => intro fs; rw [List.foldl_cons, ih, putD_length]
theorem fatesD_length (m : Nat) (ks : List MarkD) : (fatesD m ks).length = m := by rw [fatesD, foldD_length, List.length_replicate]
theorem fatesD_snoc (m : Nat) (ks : List MarkD) (k : MarkD) : fatesD m (ks ++ [k]) = putD (fatesD m ks) k := by rw [fatesD, List.foldl_append]; rfl
/-- The cells of a row of fates behind one step. -/
theorem fates_set (fs : List FateD) (r : Nat) (g : FateD) (hr : r < fs.length) :
    (((((fs.flatMap FateD.cells).set (r * 5 + 0) (.int .i64 g.state)).set (r * 5 + 1) (.int .i64 g.tries)).set (r * 5 + 2) (.int .i64 g.next)).set (r * 5 + 3) (.int .i64 g.crashes)).set (r * 5 + 4) (.bool g.opened) = (fs.set r g).flatMap FateD.cells := by
  induction fs generalizing r with
  | nil => cases hr
  | cons y ys ih =>
    cases r with
    | zero => simp [List.flatMap_cons]
    | succ r =>
      have hi := ih r (by simpa using hr)
      simp only [List.flatMap_cons, List.set_cons_succ]
      have e : ∀ j, (r + 1) * 5 + j = (y.cells).length + (r * 5 + j) := by intro j; simp; omega
      rw [← hi]
      simp only [e, List.set_append_right _ _ (Nat.le_add_right _ _), Nat.add_sub_cancel_left]
end Go.Proofs.YtjddicoigbidlaaDoor

set_option linter.unusedSimpArgs false
set_option linter.unusedVariables false
namespace Go.Proofs.YtjddicoigbidlaaDoor
open Go.RowKit
/-- A slice value without an address is nil. -/
def NilOk (v : Value) : Prop := ∀ l c, v = .slice none l c → l = 0 ∧ c = 0
theorem RdL.news {α : Type} {s : Nat} {f : α → List Value} (hf : ∀ x, (f x).length = s) (hs : 0 < s) {w : World} {b off len cap : Nat} {xs : List α} (h : RdL s f w (.slice (some ⟨b, off, none⟩) len cap) xs) :
    ∀ (j : Nat) u, (xs.flatMap f)[j]? = some u → w.cell? ((⟨b, off, none⟩ : Addr).add j) = some u := by
  intro j u hu
  rcases h with ⟨_, _, _, _, rfl⟩ | ⟨b', off', cap', hv, h0, h1, h2, h3, h4⟩
  · cases hu
  · cases hv
    have hj : j < xs.length * s := by have := (List.getElem?_eq_some_iff.1 hu).1; rw [flat_len hf] at this; exact this
    have hdiv : j / s < xs.length := (Nat.div_lt_iff_lt_mul hs).2 hj
    have hmod : j % s < s := Nat.mod_lt _ hs
    have e : j = j / s * s + j % s := by rw [Nat.mul_comm]; exact (Nat.div_add_mod j s).symm
    have hx : xs[j / s]? = some xs[j / s] := List.getElem?_eq_getElem hdiv
    have hg := flat_get hf hs xs _ _ hx _ hmod
    rw [← e, hu] at hg
    have := h4 _ _ hx _ _ hg.symm
    rw [← e] at this
    rw [add_at]
    exact this
theorem addr_some {α : Type} {s : Nat} {f : α → List Value} {w : World} {a : Option Addr} {len cap : Nat} {xs : List α} (h : RdL s f w (.slice a len cap) xs) (hne : xs ≠ []) : ∃ b off, a = some ⟨b, off, none⟩ := by
  rcases h with ⟨_, _, _, _, rfl⟩ | ⟨b', off', cap', hv, h0, h1, h2, h3, h4⟩
  · exact absurd rfl hne
  · cases hv; exact ⟨_, _, rfl⟩
theorem wpList_append_any {α : Type} {s : Nat} {f : α → List Value} (hf : ∀ x, (f x).length = s) (hs0 : 0 < s) {P : Program} {w : World} {ops : Array Oper} {rest : List Oper} {o : Oper} {a : Act} {Q : Exit → Act → World → Prop} (hgd : o.guard = none) (s1 x : Operand) (t : TypeId)
    (ho : o.op = .call { callee := .builtin .append, args := #[s1, x], argTypes := #[t, t] })
    (base : Nat) (e : TypeId) (i : TypeInfo) (z : Value) (bytes : Nat) (ht : P.underlying t = some (.slice e)) (hi : P.info? e = some i) (hz : i.zero = some z)
    (hsize : i.size = s) (hby : i.bytes = bytes) (hzs : z.cells.size = s)
    (v : Value) (n : Nat) (xs : List Value) (hs : a.eval s1 = v) (hown : w.ownsRow base e s v n xs)
    (u : Value) (ys : List α) (hx : a.eval x = u) (hr : RdL s f w u ys) (hn : NilOk u) (h1 : ∀ c ∈ ys.flatMap f, c.oneCell' = true)
    (h63 : n + ys.length ≤ maxLen) (hbytes : (n + ys.length) * bytes ≤ 140737488355328) (hbase : base ≤ w.heap.size)
    (h : ∀ v' w', w'.ownsRow base e s v' (n + ys.length) (xs ++ ys.flatMap f) → w.grownBy w' v.ownBlock → NilOk v' → wpList P ops Q rest (a.put o.dst v') w') : wpList P ops Q (o :: rest) a w := by
  have hnil : ∀ {v' : Value} {w' : World} {k : Nat} {cs : List Value}, w'.ownsRow base e s v' k cs → NilOk v' := by
    intro v' w' k cs h l c hv
    obtain ⟨_, ⟨h2, h3⟩ | ⟨g, cap, cur, hv', _⟩⟩ := h
    · rw [hv] at h2; cases h2; exact ⟨rfl, rfl⟩
    · rw [hv] at hv'; cases hv'
  obtain ⟨ad, cap, rfl, _, _⟩ := hr.form
  cases ad with
  | none =>
    obtain ⟨hl, hc⟩ := hn _ _ rfl
    have hy : ys = [] := List.length_eq_zero_iff.1 hl
    subst hy
    subst hc
    refine wpList_append_own_none hgd s1 x t ho base e i s ht hi v n xs hs hown hx (h v w (by simpa using hown) (World.grownBy.refl _ _) (hnil hown))
  | some ad =>
    refine wpList_append_own w hgd s1 x t ho base e i z s bytes ht hi hz hsize hby hzs hs0 v n xs hs hown ad ys.length cap (ys.flatMap f) hx (flat_len hf ys) ?_ h1 h63 hbytes hbase (fun v' w' h2 h3 _ => h v' w' h2 h3 (hnil h2))
    by_cases hy : ys = []
    · subst hy; intro j u hu; cases hu
    · obtain ⟨b, off, e⟩ := addr_some hr hy
      cases e
      exact hr.news hf hs0
end Go.Proofs.YtjddicoigbidlaaDoor

set_option linter.unusedSimpArgs false
set_option linter.unusedVariables false
namespace Go.Proofs.YtjddicoigbidlaaDoor
open Go.RowKit
set_option maxHeartbeats 1000000 in
theorem envGoodFn_calls (s : ByteArray) (w : World) (hs : s.size < 4294967281) (hmax : MaxOk w) :
    Calls Tryd.prog 27 #[.string s] w fun e w' => e = .returned (.bool (!boxB s.data.toList)) ∧ Below w.heap.size w w' := by
  have h1 := envBox_calls s w hs hmax
  generalize boxB s.data.toList = p at h1
  have H1 := Lib.hid h1
  clear h1
  go_enter Tryd.func27, Tryd.ntmps27
  go_wp2_with fail
  refine (H1.out).mono ?_; rintro e w1 ⟨rfl, hb1⟩
  go_wp2
  go_ret
  exact ⟨rfl, hb1⟩
/-- A slice of texts. -/
abbrev RdS := RdL 1 s1
theorem RdS.at {w : World} {v : Value} {ls : List (List UInt8)} (h : RdS w v ls) {i : Nat} {l : List UInt8} (hl : ls[i]? = some l) :
    ∃ b off cap, v = .slice (some ⟨b, off, none⟩) ls.length cap ∧ b < w.heap.size ∧ w.cell? ⟨b, off + i, none⟩ = some (.string (strL l)) := by
  obtain ⟨b, off, cap, h1, h2, h3⟩ := RdL.at h hl
  have := h3 0 _ rfl
  rw [Nat.mul_one, Nat.add_zero] at this
  exact ⟨b, off, cap, h1, h2, this⟩
set_option maxRecDepth 100000 in
set_option maxHeartbeats 4000000 in
theorem indexBad_calls (v : Value) (ls : List (List UInt8)) (w : World) (hv : RdS w v ls) (hs : ∀ l ∈ ls, l.length < 4294967281) (hmax : MaxOk w) :
    Calls Tryd.prog 36 #[v, .func (.func 27) #[] #[]] w fun e w' => (∃ i : Int, e = .returned (.int .i64 i) ∧ ((0 ≤ i ∧ ls.all boxB = false) ∨ (i = -1 ∧ ls.all boxB = true))) ∧ Below w.heap.size w w' := by
  obtain ⟨a, cap, rfl, hlc, hcap⟩ := hv.form
  have hfn := fun (l : List UInt8) W (h : l ∈ ls) hM => envGoodFn_calls (strL l) W (by rw [strL_size]; exact hs l h) hM
  simp only [strL_data] at hfn
  have Hfn := Lib.hid hfn
  have Hv := Lib.hid hv
  have Hmax := Lib.hid hmax
  have hni : (ls.length : Int) ≤ 9223372036854775807 := by omega
  clear hfn hv hs hmax
  go_enter Tryd.func36, Tryd.ntmps36
  go_wp2
  go_loopw [8] (fun i wr => ∃ j : Nat, j ≤ ls.length ∧ i = .int .i64 j ∧ (ls.take j).all boxB = true ∧ Below w.heap.size w wr) (fun i _ => ls.length - (intOf i).toNat)
  case atStart => exact ⟨0, Nat.zero_le _, rfl, rfl, Below.refl _ _⟩
  case round =>
    obtain ⟨j, hj, rfl, hall, hbw⟩ := hrel
    by_cases hlt : j < ls.length
    · obtain ⟨l, hl⟩ : ∃ l, ls[j]? = some l := ⟨_, List.getElem?_eq_getElem hlt⟩
      obtain ⟨b, off, cap', hsl, hbl, hc⟩ := RdS.at (Hv.out.below (Nat.le_refl _) hbw) hl
      cases hsl
      have hM := Hmax.out.below hbw
      have hcall := fun W hM => Hfn.out l W (List.mem_of_getElem? hl) hM
      have htk : boxB l = true → (ls.take (j + 1)).all boxB = true := fun h => by rw [take_snoc hl, List.all_append, hall]; simpa using h
      have hno : boxB l = false → ls.all boxB = false := fun h => by rw [List.all_eq_false]; exact ⟨l, List.mem_of_getElem? hl, by rw [h]; simp⟩
      generalize boxB l = p at hcall htk hno
      have Hcall := Lib.hid hcall
      have Htk := Lib.hid htk
      have Hno := Lib.hid hno
      have HM := Lib.hid hM
      have hj0 : (0 : Int) ≤ (j : Int) := by omega
      have hj1 : (j : Int) < (ls.length : Int) := by omega
      clear hcall htk hno hall hl hM
      generalize strL l = sl at hc Hcall
      cases p
      · go_wp2_with fail
        refine (Hcall.out _ HM.out).mono ?_; rintro e w2 ⟨rfl, hb2⟩
        go_wp2
        go_ret
        exact ⟨⟨_, rfl, .inl ⟨hj0, Hno.out (by trivial)⟩⟩, hbw.trans (hb2.mono hbw.size)⟩
      · go_wp2_with fail
        refine (Hcall.out _ HM.out).mono ?_; rintro e w2 ⟨rfl, hb2⟩
        go_wp2
        go_roundw
        case rel => exact ⟨j + 1, by omega, by simp, Htk.out (by trivial), hbw.trans (hb2.mono hbw.size)⟩
        case measure => simp [intOf] <;> omega
    · have hje : j = ls.length := by omega
      subst hje
      rw [List.take_of_length_le (Nat.le_refl _)] at hall
      have Hall := Lib.hid hall
      clear hall
      go_wp2
      go_ret
      exact ⟨⟨_, rfl, .inr ⟨rfl, Hall.out⟩⟩, hbw⟩
set_option maxRecDepth 100000 in
set_option maxHeartbeats 4000000 in
theorem containsBad_calls (v : Value) (ls : List (List UInt8)) (w : World) (hv : RdS w v ls) (hs : ∀ l ∈ ls, l.length < 4294967281) (hmax : MaxOk w) :
    Calls Tryd.prog 26 #[v, .func (.func 27) #[] #[]] w fun e w' => e = .returned (.bool (!ls.all boxB)) ∧ Below w.heap.size w w' := by
  have h1 := indexBad_calls v ls w hv hs hmax
  generalize ls.all boxB = p at h1
  have H1 := Lib.hid h1
  clear h1 hv hs hmax
  go_enter Tryd.func26, Tryd.ntmps26
  go_wp2_with fail
  refine (H1.out).mono ?_; rintro e w1 ⟨⟨i, rfl, hi⟩, hb1⟩
  rcases hi with ⟨h0, rfl⟩ | ⟨rfl, rfl⟩
  · go_wp2
    go_ret
    exact ⟨by first | rfl | simp [h0], hb1⟩
  · go_wp2
    go_ret
    exact ⟨rfl, hb1⟩
end Go.Proofs.YtjddicoigbidlaaDoor
