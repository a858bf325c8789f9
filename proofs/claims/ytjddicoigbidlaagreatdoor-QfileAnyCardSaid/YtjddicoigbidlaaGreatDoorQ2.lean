/-
  Plain laws of the checksum: the table, the sum by the table, the sum bit by bit, its linearity, and that a turn within 32 bits shows.
  What the checksum's functions compute: crc.Table, crc.table, crc.Sum and the reference's CRC, for every input.
  What the reference's CRC computes, bit by bit: the same sum.
  What package mark computes: which marks are good, their bytes.
  What the reference computes of marks: their bytes.
  The walks of pillarboxref05: plain, Cut; strings' bytes and parts in the walk.
  The walk of pillarboxref05.Domain.
  The walk of pillarboxref05.Local.
  The walk of pillarboxref05.Small.
  The walk of pillarboxref05.Split.
-/
import Derived.Test.YtjddicoigbidlaaGreatDoorQ1
import Derived.Test.YtjddicoigbidlaaGreatDoorProg
import Derived.Deep.RegionHeld3
import Derived.Laws.IdiomStrings
import Derived.Laws.BytesArg
set_option linter.unusedSimpArgs false
set_option linter.unusedVariables false
namespace PbCrc
abbrev B32 := BitVec 32
def poly : B32 := 0xedb88320#32
/-- One bit's step. -/
def step (c : B32) : B32 := if c.getLsbD 0 then (c >>> 1) ^^^ poly else c >>> 1
def steps : Nat → B32 → B32
  | 0, c => c
  | n + 1, c => steps n (step c)
theorem steps_succ (n : Nat) (c : B32) : steps (n + 1) c = step (steps n c) := by
  induction n generalizing c with
  | zero => rfl
  | succ n ih => rw [steps, ih]; rfl
/-- The table's entry. -/
def tab (n : Nat) : B32 := steps 8 (BitVec.ofNat 32 n)
/-- A byte's step, by the table. -/
def byteTab (c : B32) (x : UInt8) : B32 := tab (UInt8.ofNat c.toNat ^^^ x).toNat ^^^ (c >>> 8)
/-- A byte's step, by definition. -/
def byteStep (c : B32) (x : UInt8) : B32 := steps 8 (c ^^^ BitVec.ofNat 32 x.toNat)
def run (c : B32) (l : List UInt8) : B32 := l.foldl byteStep c
def sum (l : List UInt8) : B32 := ~~~ (run (BitVec.allOnes 32) l)

theorem step_xor (a b : B32) : step (a ^^^ b) = step a ^^^ step b := by
  unfold step
  rw [BitVec.getLsbD_xor, BitVec.ushiftRight_xor_distrib]
  cases ha : a.getLsbD 0 <;> cases hb : b.getLsbD 0
  · simp
  · simp [BitVec.xor_assoc]
  · simp only [Bool.xor_false, if_true, Bool.false_eq_true, if_false]
    ac_rfl
  · simp only [Bool.xor_self, Bool.false_eq_true, if_false, if_true]
    rw [show a >>> 1 ^^^ poly ^^^ (b >>> 1 ^^^ poly) = a >>> 1 ^^^ b >>> 1 ^^^ (poly ^^^ poly) by ac_rfl]
    simp
theorem steps_xor (n : Nat) (a b : B32) : steps n (a ^^^ b) = steps n a ^^^ steps n b := by
  induction n generalizing a b with
  | zero => rfl
  | succ n ih => rw [steps, step_xor, ih]; rfl
theorem step_zero : step 0#32 = 0#32 := by decide
theorem steps_zero (n : Nat) : steps n 0#32 = 0#32 := by
  induction n with
  | zero => rfl
  | succ n ih => rw [steps, step_zero, ih]
/-- Where the lowest n bits are nought, n steps are a shift. -/
theorem steps_shift (n : Nat) (c : B32) (h : ∀ i, i < n → c.getLsbD i = false) : steps n c = c >>> n := by
  induction n generalizing c with
  | zero => simp [steps]
  | succ n ih =>
    rw [steps, step, if_neg (by rw [h 0 (by omega)]; decide), ih]
    · rw [← BitVec.shiftRight_add, Nat.add_comm]
    · intro i hi
      rw [BitVec.getLsbD_ushiftRight, Nat.add_comm]
      exact h (i + 1) (by omega)
theorem lowByte (c : B32) (x : UInt8) (i : Nat) : (BitVec.ofNat 32 (UInt8.ofNat c.toNat ^^^ x).toNat).getLsbD i = (decide (i < 8) && ((c ^^^ BitVec.ofNat 32 x.toNat).getLsbD i)) := by
  rw [BitVec.getLsbD_xor, BitVec.getLsbD_ofNat, BitVec.getLsbD_ofNat, UInt8.toNat_xor, UInt8.toNat_ofNat', Nat.testBit_xor, Nat.testBit_mod_two_pow, ← BitVec.testBit_toNat]
  by_cases h : i < 8
  · simp [h, show i < 32 by omega]
  · have : x.toNat.testBit i = false := Nat.testBit_lt_two_pow (Nat.lt_of_lt_of_le x.toNat_lt (Nat.pow_le_pow_right (by omega) (by omega)))
    simp [h, this]
theorem byteTab_eq (c : B32) (x : UInt8) : byteTab c x = byteStep c x := by
  unfold byteTab byteStep tab
  have e : c ^^^ BitVec.ofNat 32 x.toNat = BitVec.ofNat 32 (UInt8.ofNat c.toNat ^^^ x).toNat ^^^ ((c >>> 8) <<< 8) := by
    apply BitVec.eq_of_getLsbD_eq
    intro i hi
    rw [BitVec.getLsbD_xor (x := BitVec.ofNat 32 (UInt8.ofNat c.toNat ^^^ x).toNat), lowByte, BitVec.getLsbD_shiftLeft, BitVec.getLsbD_ushiftRight]
    by_cases h : i < 8
    · simp [h]
    · have : x.toNat.testBit i = false := Nat.testBit_lt_two_pow (Nat.lt_of_lt_of_le x.toNat_lt (Nat.pow_le_pow_right (by omega) (by omega)))
      rw [BitVec.getLsbD_xor, BitVec.getLsbD_ofNat, this]
      simp [h, hi, show 8 + (i - 8) = i by omega]
  rw [e, steps_xor, steps_shift 8 ((c >>> 8) <<< 8)]
  · congr 1
    apply BitVec.eq_of_getLsbD_eq
    intro i hi
    simp only [BitVec.getLsbD_ushiftRight, BitVec.getLsbD_shiftLeft]
    by_cases h : i + 8 < 32
    · simp [show 8 + i < 32 by omega]
    · rw [BitVec.getLsbD_of_ge c (8 + i) (by omega)]; simp only [Bool.false_eq]; simp; intro h'; omega
  · intro i hi
    simp [BitVec.getLsbD_shiftLeft, hi]

/-- The sum bit by bit, as the reference has it: the k-th of x's bits. -/
def bitStep (c : B32) (b : Bool) : B32 := if (c.getLsbD 0 ^^ b) then (c >>> 1) ^^^ poly else c >>> 1
def bitRun (c : B32) (x : UInt8) : Nat → B32
  | 0 => c
  | k + 1 => bitStep (bitRun c x k) (x.toNat.testBit k)
theorem bitStep_eq (c : B32) (b : Bool) : bitStep c b = step (c ^^^ BitVec.ofNat 32 b.toNat) := by
  have h : (c ^^^ BitVec.ofNat 32 b.toNat) >>> 1 = c >>> 1 := by
    rw [BitVec.ushiftRight_xor_distrib]
    cases b <;> simp
  unfold bitStep step
  rw [h, BitVec.getLsbD_xor]
  cases b <;> simp
theorem bitRun_eq (c : B32) (x : UInt8) (k : Nat) (hk : k ≤ 8) : bitRun c x k ^^^ BitVec.ofNat 32 (x.toNat >>> k) = steps k (c ^^^ BitVec.ofNat 32 x.toNat) := by
  induction k with
  | zero => rfl
  | succ k ih =>
    have ih := ih (by omega)
    rw [steps_succ, ← ih, bitRun, bitStep_eq]
    have e : BitVec.ofNat 32 (x.toNat >>> k) = BitVec.ofNat 32 (x.toNat.testBit k).toNat ^^^ (BitVec.ofNat 32 (x.toNat >>> (k + 1)) <<< 1) := by
      apply BitVec.eq_of_getLsbD_eq
      intro i hi
      rw [BitVec.getLsbD_xor, BitVec.getLsbD_shiftLeft, BitVec.getLsbD_ofNat, BitVec.getLsbD_ofNat, BitVec.getLsbD_ofNat, Nat.testBit_shiftRight, Nat.testBit_shiftRight]
      cases i with
      | zero => cases x.toNat.testBit k <;> simp
      | succ i =>
        have : (x.toNat.testBit k).toNat.testBit (i + 1) = false := by cases x.toNat.testBit k <;> simp [Nat.testBit_succ]
        simp [this, hi, show i < 32 by omega, show k + 1 + i = k + (i + 1) by omega]
    have e2 : step (BitVec.ofNat 32 (x.toNat >>> (k + 1)) <<< 1) = BitVec.ofNat 32 (x.toNat >>> (k + 1)) := by
      unfold step
      rw [if_neg (by simp)]
      apply BitVec.eq_of_getLsbD_eq
      intro i hi
      rw [BitVec.getLsbD_ushiftRight, BitVec.getLsbD_shiftLeft]
      have : (x.toNat >>> (k+1)).testBit i = false ∨ i < 31 := by
        by_cases h : i < 31
        · exact .inr h
        · left; apply Nat.testBit_lt_two_pow
          have := x.toNat_lt
          have h2 : x.toNat >>> (k+1) ≤ x.toNat := Nat.shiftRight_le ..
          exact Nat.lt_of_le_of_lt h2 (Nat.lt_of_lt_of_le this (Nat.pow_le_pow_right (by omega) (by omega)))
      rcases this with h | h
      · rw [BitVec.getLsbD_ofNat, BitVec.getLsbD_ofNat]
        rw [show 1 + i - 1 = i by omega, h]; simp
      · simp [show 1 + i < 32 by omega]
    rw [e, show bitRun c x k ^^^ (BitVec.ofNat 32 (x.toNat.testBit k).toNat ^^^ BitVec.ofNat 32 (x.toNat >>> (k + 1)) <<< 1) = (bitRun c x k ^^^ BitVec.ofNat 32 (x.toNat.testBit k).toNat) ^^^ (BitVec.ofNat 32 (x.toNat >>> (k + 1)) <<< 1) by ac_rfl, step_xor (bitRun c x k ^^^ BitVec.ofNat 32 (x.toNat.testBit k).toNat), e2]
theorem bitRun_byte (c : B32) (x : UInt8) : bitRun c x 8 = byteStep c x := by
  have h := bitRun_eq c x 8 (by omega)
  have hx : x.toNat >>> 8 = 0 := by have := x.toNat_lt; rw [Nat.shiftRight_eq_div_pow]; omega
  rw [hx] at h
  unfold byteStep
  rw [← h]; simp

theorem run_append (c : B32) (a b : List UInt8) : run c (a ++ b) = run (run c a) b := by simp [run]
theorem run_snoc (c : B32) (a : List UInt8) (x : UInt8) : run c (a ++ [x]) = byteStep (run c a) x := by simp [run]
theorem byteStep_xor (c d : B32) (x y : UInt8) : byteStep (c ^^^ d) (x ^^^ y) = byteStep c x ^^^ byteStep d y := by
  unfold byteStep
  rw [← steps_xor]
  congr 1
  rw [show BitVec.ofNat 32 (x ^^^ y).toNat = BitVec.ofNat 32 x.toNat ^^^ BitVec.ofNat 32 y.toNat by
    rw [UInt8.toNat_xor]
    apply BitVec.eq_of_getLsbD_eq; intro i hi
    simp [hi]]
  ac_rfl
def lay (a b : List UInt8) : List UInt8 := List.zipWith (· ^^^ ·) a b
theorem run_lay : ∀ (a b : List UInt8) (c d : B32), a.length = b.length → run (c ^^^ d) (lay a b) = run c a ^^^ run d b
  | [], [], c, d, _ => rfl
  | x :: a, y :: b, c, d, h => by
    show run (byteStep (c ^^^ d) (x ^^^ y)) (lay a b) = _
    rw [byteStep_xor, run_lay a b _ _ (by simpa using h)]; rfl
/-- Three texts of one length. -/
theorem sum_lay (a b c : List UInt8) (hb : a.length = b.length) (hc : a.length = c.length) : sum (lay (lay a b) c) = sum a ^^^ sum b ^^^ sum c := by
  unfold sum
  have h1 : (lay a b).length = c.length := by simp [lay, ← hb, hc]
  have e : BitVec.allOnes 32 = BitVec.allOnes 32 ^^^ BitVec.allOnes 32 ^^^ BitVec.allOnes 32 := by decide
  conv => lhs; rw [e]
  rw [run_lay _ _ _ _ h1, run_lay _ _ _ _ hb]
  generalize run (BitVec.allOnes 32) a = p; generalize run (BitVec.allOnes 32) b = q; generalize run (BitVec.allOnes 32) c = r
  apply BitVec.eq_of_getLsbD_eq; intro i hi
  simp only [BitVec.getLsbD_not, BitVec.getLsbD_xor, hi, decide_true, Bool.true_and]
  cases p.getLsbD i <;> cases q.getLsbD i <;> cases r.getLsbD i <;> rfl

/-! A turn of some bits within 32 shows. -/
theorem step_ne {c : B32} (h : c ≠ 0#32) : step c ≠ 0#32 := by
  intro e
  unfold step at e
  split at e
  · have := congrArg (·.getLsbD 31) e
    simp [poly] at this
  · rename_i h0
    apply h
    apply BitVec.eq_of_getLsbD_eq
    intro i hi
    cases i with
    | zero => simpa using h0
    | succ i =>
      have := congrArg (·.getLsbD i) e
      simp only [BitVec.getLsbD_ushiftRight] at this
      rw [Nat.add_comm] at this
      simpa using this
theorem steps_ne (n : Nat) {c : B32} (h : c ≠ 0#32) : steps n c ≠ 0#32 := by
  induction n generalizing c with
  | zero => exact h
  | succ n ih => exact ih (step_ne h)
theorem steps_add (m n : Nat) (c : B32) : steps (m + n) c = steps m (steps n c) := by
  induction n generalizing c with
  | zero => rfl
  | succ n ih => exact ih (step c)
theorem run_zeros_ne (n : Nat) {c : B32} (h : c ≠ 0#32) : run c (List.replicate n 0) ≠ 0#32 := by
  induction n generalizing c with
  | zero => exact h
  | succ n ih =>
    show run (byteStep c 0) (List.replicate n 0) ≠ _
    refine ih ?_
    unfold byteStep
    exact steps_ne 8 (by simpa using h)
theorem run_zeros (n : Nat) : run 0#32 (List.replicate n 0) = 0#32 := by
  induction n with
  | zero => rfl
  | succ n ih =>
    show run (byteStep 0#32 0) (List.replicate n 0) = _
    rw [show byteStep 0#32 0 = 0#32 by decide]; exact ih
theorem byte_bit (x : UInt8) (i : Nat) (h : 8 ≤ i) : x.toNat.testBit i = false :=
  Nat.testBit_lt_two_pow (Nat.lt_of_lt_of_le x.toNat_lt (Nat.pow_le_pow_right (by omega) h))
theorem steps_up (n : Nat) (hn : n ≤ 24) (x : UInt8) : steps n (BitVec.ofNat 32 x.toNat <<< n) = BitVec.ofNat 32 x.toNat := by
  rw [steps_shift]
  · apply BitVec.eq_of_getLsbD_eq
    intro i hi
    rw [BitVec.getLsbD_ushiftRight, BitVec.getLsbD_shiftLeft, show n + i - n = i by omega]
    by_cases h : i < 8
    · simp [show n + i < 32 by omega]
    · have := byte_bit x i (by omega)
      rw [BitVec.getLsbD_ofNat, this]; simp
  · intro i hi
    simp [BitVec.getLsbD_shiftLeft, hi]
theorem run_four (x0 x1 x2 x3 : UInt8) : run 0#32 [x0, x1, x2, x3] =
    steps 32 (BitVec.ofNat 32 x0.toNat ^^^ BitVec.ofNat 32 x1.toNat <<< 8 ^^^ BitVec.ofNat 32 x2.toNat <<< 16 ^^^ BitVec.ofNat 32 x3.toNat <<< 24) := by
  show byteStep (byteStep (byteStep (byteStep 0#32 x0) x1) x2) x3 = _
  unfold byteStep
  have a16 : ∀ c, steps 16 c = steps 8 (steps 8 c) := fun c => steps_add 8 8 c
  have a24 : ∀ c, steps 24 c = steps 8 (steps 8 (steps 8 c)) := fun c => (steps_add 8 16 c).trans (by rw [a16])
  have a32 : ∀ c, steps 32 c = steps 8 (steps 8 (steps 8 (steps 8 c))) := fun c => (steps_add 8 24 c).trans (by rw [a24])
  have u1 := steps_up 8 (by omega) x1
  have u2 := steps_up 16 (by omega) x2
  have u3 := steps_up 24 (by omega) x3
  rw [a16] at u2
  rw [a24] at u3
  rw [a32]
  simp only [steps_xor, u1, u2, u3, steps_zero]
  simp
/-- The five bytes of a turn. -/
def five (X : Nat) : List UInt8 := (List.range 5).map fun i => UInt8.ofNat (X >>> (8 * i))
theorem ofNat_byte (n i : Nat) : (BitVec.ofNat 32 (UInt8.ofNat n).toNat).getLsbD i = (decide (i < 8) && n.testBit i) := by
  rw [BitVec.getLsbD_ofNat, UInt8.toNat_ofNat', Nat.testBit_mod_two_pow]
  by_cases h : i < 8
  · simp [h, show i < 32 by omega]
  · simp [h]
theorem burst (turn : B32) (s : Nat) (hs : s < 8) (ht : turn ≠ 0#32) : run 0#32 (five (turn.toNat <<< s)) ≠ 0#32 := by
  show byteStep (run 0#32 [UInt8.ofNat (turn.toNat <<< s >>> 0), UInt8.ofNat (turn.toNat <<< s >>> 8), UInt8.ofNat (turn.toNat <<< s >>> 16), UInt8.ofNat (turn.toNat <<< s >>> 24)]) (UInt8.ofNat (turn.toNat <<< s >>> 32)) ≠ _
  rw [run_four]
  have lo : BitVec.ofNat 32 (UInt8.ofNat (turn.toNat <<< s >>> 0)).toNat ^^^ BitVec.ofNat 32 (UInt8.ofNat (turn.toNat <<< s >>> 8)).toNat <<< 8 ^^^ BitVec.ofNat 32 (UInt8.ofNat (turn.toNat <<< s >>> 16)).toNat <<< 16 ^^^ BitVec.ofNat 32 (UInt8.ofNat (turn.toNat <<< s >>> 24)).toNat <<< 24 = turn <<< s := by
    apply BitVec.eq_of_getLsbD_eq
    intro i hi
    simp only [BitVec.getLsbD_xor, BitVec.getLsbD_shiftLeft, ofNat_byte, Nat.testBit_shiftRight, Nat.testBit_shiftLeft, hi, decide_true, Bool.true_and, BitVec.testBit_toNat]
    by_cases h1 : i < 8
    · simp [h1, show i < 16 by omega, show i < 24 by omega]
      by_cases h : s ≤ i
      · simp [h, show ¬ i < s by omega]
      · simp [h, show i < s by omega]
    · by_cases h2 : i < 16
      · simp [h1, h2, show i < 24 by omega, show s ≤ i by omega, show ¬ i < s by omega, show i - 8 < 8 by omega, show 8 + (i - 8) = i by omega]
      · by_cases h3 : i < 24
        · simp [h1, h2, h3, show s ≤ i by omega, show ¬ i < s by omega, show ¬ i - 8 < 8 by omega, show i - 16 < 8 by omega, show 16 + (i - 16) = i by omega]
        · simp [h1, h2, h3, show s ≤ i by omega, show ¬ i < s by omega, show ¬ i - 8 < 8 by omega, show ¬ i - 16 < 8 by omega, show i - 24 < 8 by omega, show 24 + (i - 24) = i by omega]
  rw [lo]
  unfold byteStep
  refine steps_ne 8 ?_
  have key : steps 32 (turn <<< s) ^^^ BitVec.ofNat 32 (UInt8.ofNat (turn.toNat <<< s >>> 32)).toNat = steps (32 - s) turn := by
    have h32 := steps_add (32 - s) s (turn <<< s)
    rw [show 32 - s + s = 32 by omega] at h32
    rw [h32, steps_shift s (turn <<< s) (by intro i hi; simp [BitVec.getLsbD_shiftLeft, hi])]
    have e : turn = (turn <<< s >>> s) ^^^ ((turn >>> (32 - s)) <<< (32 - s)) := by
      apply BitVec.eq_of_getLsbD_eq
      intro i hi
      rw [BitVec.getLsbD_xor, BitVec.getLsbD_ushiftRight, BitVec.getLsbD_shiftLeft, BitVec.getLsbD_shiftLeft, BitVec.getLsbD_ushiftRight, show s + i - s = i by omega]
      by_cases h : i < 32 - s
      · simp [h, show s + i < 32 by omega]
      · simp [h, hi, show ¬ s + i < 32 by omega, show 32 - s + (i - (32 - s)) = i by omega]
    conv => rhs; rw [e]
    rw [steps_xor, steps_shift (32 - s) ((turn >>> (32 - s)) <<< (32 - s)) (by intro i hi; simp [BitVec.getLsbD_shiftLeft, hi])]
    congr 1
    apply BitVec.eq_of_getLsbD_eq
    intro i hi
    rw [ofNat_byte, Nat.testBit_shiftRight, Nat.testBit_shiftLeft, BitVec.testBit_toNat, BitVec.getLsbD_ushiftRight, BitVec.getLsbD_shiftLeft, BitVec.getLsbD_ushiftRight, show 32 - s + i - (32 - s) = i by omega, show 32 + i - s = 32 - s + i by omega]
    by_cases h : i < 8
    · by_cases h2 : i < s
      · simp [h, show 32 - s + i < 32 by omega, show s ≤ 32 + i by omega]
      · rw [BitVec.getLsbD_of_ge turn (32 - s + i) (by omega)]; simp
    · rw [BitVec.getLsbD_of_ge turn (32 - s + i) (by omega)]; simp
  rw [key]
  exact steps_ne _ ht
/-- Bytes of which five are turned by a burst, have another sum. -/
theorem sum_burst (p q : List UInt8) (m : List UInt8) (turn : B32) (s : Nat) (hs : s < 8) (ht : turn ≠ 0#32) (hm : m.length = 5) :
    sum (p ++ m ++ q) ≠ sum (p ++ lay m (five (turn.toNat <<< s)) ++ q) := by
  intro e
  unfold sum at e
  have e := BitVec.not_inj.1 e
  rw [run_append, run_append, run_append, run_append] at e
  generalize run (BitVec.allOnes 32) p = c at e
  have h5 : (five (turn.toNat <<< s)).length = 5 := rfl
  have h1 := run_lay m (five (turn.toNat <<< s)) c 0#32 (by rw [hm, h5])
  rw [show c ^^^ 0#32 = c by simp] at h1
  rw [h1] at e
  have hb := burst turn s hs ht
  generalize run 0#32 (five (turn.toNat <<< s)) = d at e hb
  generalize run c m = c1 at e
  have h2 := run_lay q (List.replicate q.length 0) c1 d (by simp)
  rw [show lay q (List.replicate q.length 0) = q by
    apply List.ext_getElem (by simp [lay]); intro i h1 h2; simp [lay]] at h2
  rw [h2] at e
  have h3 := run_zeros_ne q.length hb
  apply h3
  generalize run d (List.replicate q.length 0) = z at e
  generalize run c1 q = y at e
  have : y ^^^ y = y ^^^ (y ^^^ z) := by rw [← e]
  rw [← BitVec.xor_assoc] at this
  simpa using this.symm
end PbCrc

set_option linter.unusedSimpArgs false
set_option linter.unusedVariables false
namespace Go.Proofs.YtjddicoigbidlaaGreatDoor
open Go.RowKit
def crcTabV : Array Value := (Array.range 256).map fun n => u32v (PbCrc.tab n)
def crcTabK (k : Nat) : Array Value := (Array.range 256).map fun n => if n < k then u32v (PbCrc.tab n) else .int .u32 0
def crcZ : Array Value := Array.replicate 256 (.int .u32 0)
theorem crcZero (w : World) : (zeroValue 117).run Tryz.prog w = .ok (.agg crcZ) w := by kernel_rfl
theorem crcTabK_zero : crcTabK 0 = crcZ := by
  apply Array.ext (by simp [crcTabK, crcZ])
  intro i h1 h2; simp [crcTabK, crcZ]
theorem crcTabK_full : crcTabK 256 = crcTabV := by
  apply Array.ext (by simp [crcTabK, crcTabV])
  intro i h1 h2
  have : i < 256 := by simpa [crcTabK] using h1
  simp [crcTabK, crcTabV, this]
theorem crcTabK_set (k : Nat) (hk : k < 256) : (crcTabK k).setIfInBounds k (u32v (PbCrc.tab k)) = crcTabK (k + 1) := by
  apply Array.ext (by simp [crcTabK])
  intro i h1 h2
  have : i < 256 := by simpa [crcTabK] using h2
  rw [Array.getElem_setIfInBounds (by simpa [crcTabK] using this)]
  by_cases e : k = i
  · subst e; simp [crcTabK]
  · simp only [crcTabK, Array.getElem_map, Array.getElem_range, if_neg e]
    by_cases h : i < k
    · rw [if_pos h, if_pos (by omega)]
    · rw [if_neg h, if_neg (by omega)]
theorem crcTabK_size (k : Nat) : (crcTabK k).size = 256 := by simp [crcTabK]
theorem crc_low (c : BitVec 32) : (bits .and .u32 (c.toNat : Int) 1 == 1) = c.getLsbD 0 := by
  rw [show (1 : Int) = (((1 : BitVec 32).toNat : Nat) : Int) from rfl, bits_and32]
  have : c &&& 1#32 = if c.getLsbD 0 then 1#32 else 0#32 := by
    apply BitVec.eq_of_getLsbD_eq; intro i hi
    cases i with
    | zero => cases h : c.getLsbD 0 <;> simp at h <;> simp [h]
    | succ i => cases h : c.getLsbD 0 <;> simp
  show ((((c &&& 1#32).toNat : Nat) : Int) == _) = _
  rw [this]
  cases c.getLsbD 0 <;> decide
theorem crc_shr1 (c : BitVec 32) : (c.toNat : Int) / (2 : Int) = ((c >>> 1).toNat : Int) := by
  rw [BitVec.toNat_ushiftRight, Nat.shiftRight_eq_div_pow]; rfl
theorem crc_shr1' (c : BitVec 32) : (c.toNat : Int) >>> 1 = ((c >>> 1).toNat : Int) := rfl
theorem crc_shr8 (c : BitVec 32) : (c.toNat : Int) / (256 : Int) = ((c >>> 8).toNat : Int) := by
  rw [BitVec.toNat_ushiftRight, Nat.shiftRight_eq_div_pow]; rfl
theorem crc_poly (c : BitVec 32) : bits .xor .u32 (c.toNat : Int) 3988292384 = ((c ^^^ PbCrc.poly).toNat : Int) := bits_xor32 c PbCrc.poly
theorem crcTabV_size : crcTabV.size = 256 := by simp [crcTabV]
theorem crcTabV_one : crcTabV.all (·.oneCell') = true := by
  rw [Array.all_eq_true]; intro i h; simp [crcTabV, Value.oneCell']
set_option maxRecDepth 100000 in
set_option maxHeartbeats 400000 in
theorem crcTable_calls (w : World) : Calls Tryz.prog 90 #[] w fun e w' => e = .returned (.agg crcTabV) ∧ Below w.heap.size w w' := by
  have hz := crcZero
  go_enter Tryz.func90, Tryz.ntmps90
  go_wp2
  go_loopw [5] (fun i wr => ∃ (k : Nat), k ≤ 256 ∧ i = .int .i64 k ∧ wr = (w.alloc (Obj.cells crcZ 117)).alloc (Obj.cells (crcTabK k) 117)) (fun i _ => 256 - (intOf i).toNat)
  case atStart => exact ⟨0, by omega, rfl, by rw [crcTabK_zero]⟩
  case round =>
    obtain ⟨k, hk, rfl, rfl⟩ := hrel
    by_cases hlt : k < 256
    · go_wp2
      go_loop [3, 10] (fun c i => ∃ j : Nat, j ≤ 8 ∧ i = .int .i64 j ∧ c = u32v (PbCrc.steps j (BitVec.ofNat 32 k))) (fun _ i => 8 - (intOf i).toNat)
      case atStart =>
        refine ⟨0, by omega, rfl, ?_⟩
        show _ = Value.int IntKind.u32 (((BitVec.ofNat 32 k).toNat : Nat) : Int)
        rw [BitVec.toNat_ofNat, Nat.mod_eq_of_lt (by omega)]
      case round =>
        obtain ⟨j, hj, rfl, rfl⟩ := hrel
        have hs := PbCrc.steps_succ j (BitVec.ofNat 32 k)
        generalize hc : PbCrc.steps j (BitVec.ofNat 32 k) = c at hs
        have Hc := Lib.hid hc
        clear hc
        have hlow := crc_low c
        have Hs := Lib.hid hs
        clear hs
        by_cases hlt2 : j < 8
        · by_cases hb : c.getLsbD 0 = true
          · rw [hb] at hlow
            go_wp2
            have Hp := crc_poly (c >>> 1)
            go_round
            case rel => exact ⟨j + 1, by omega, by go_num, by rw [Hs.out, PbCrc.step, if_pos hb]; first | rw [crc_shr1, Hp] | rw [crc_shr1', Hp]⟩
            case measure => simp [intOf] <;> omega
          · have hb : c.getLsbD 0 = false := by simpa using hb
            rw [hb] at hlow
            go_wp2
            go_round
            case rel => exact ⟨j + 1, by omega, by go_num, by rw [Hs.out, PbCrc.step, if_neg (by rw [hb]; decide)]; first | rw [crc_shr1] | rw [crc_shr1']⟩
            case measure => simp [intOf] <;> omega
        · have hj8 : j = 8 := by omega
          subst hj8
          have hsz := crcTabK_size k
          go_wp2
          have hset := crcTabK_set k hlt
          have Hset : Hid ((crcTabK k).setIfInBounds k (u32v c) = crcTabK (k + 1)) := by rw [← Hc.out]; exact hset
          clear hset
          go_roundw
          case rel => exact ⟨k + 1, by omega, by go_num, by rw [Hset.out]⟩
          case measure => simp [intOf] <;> omega
    · have : k = 256 := by omega
      subst this
      rw [crcTabK_full]
      have hi : (Tryz.prog.info? 117).map (·.size) = some crcTabV.size := by rw [crcTabV_size]; kernel_rfl
      go_wp2_with (first
        | (refine wpList_load_row rfl 117 (.tmp 1) rfl (w.heap.size + 1) rfl 117 crcTabV (0, 0) _ (heap_alloc2_new _ _ _) Tryz.underlying117 rfl hi ?_)
        | (refine wpList_store_row rfl 117 (.tmp 0) (.tmp 25) rfl w.heap.size crcTabV rfl rfl 117 crcZ (heap_alloc2_old _ _ _) hi (by rw [crcTabV_size]; rfl) crcTabV_one ?_))
      refine bodyPost_ret (results_cell_row rfl _ _ w.heap.size 117 crcTabV (0, 0) _ rfl (setRow_heap _ _ crcZ _ _ _ (heap_alloc2_old _ _ _)) Tryz.underlying117 rfl hi) rfl ⟨rfl, ?_⟩
      exact below_setRow (((Below.refl _ _).alloc (Nat.le_refl _) _).alloc (by simp) _) (by simp) _

theorem crcTabV_get (x : UInt8) : crcTabV[x.toNat]? = some (u32v (PbCrc.tab x.toNat)) := by
  have := x.toNat_lt
  rw [Array.getElem?_eq_getElem (by rw [crcTabV_size]; omega)]
  simp [crcTabV]
theorem crcTabV_index (x : UInt8) (w : World) : (Instr.index 117 (.agg crcTabV) (.int .u8 (x.toNat : Int))).run Tryz.prog w = .ok (u32v (PbCrc.tab x.toNat)) w := by
  have hx := x.toNat_lt
  have h := crcTabV_get x
  have hlt : (x.toNat : Int) < 256 := by omega
  simp [Instr.index, run_underlying Tryz.underlying117, asIntOf, go_sem, h, hlt]
  intro h'; omega
set_option maxRecDepth 100000 in
set_option maxHeartbeats 400000 in
theorem crctable_calls (w : World) : Calls Tryz.prog 83 #[] w fun e w' => e = .returned (.agg crcTabV) ∧ Below w.heap.size w w' := by
  have hz := crcZero
  have hi : (Tryz.prog.info? 117).map (·.size) = some crcTabV.size := by rw [crcTabV_size]; kernel_rfl
  go_enter Tryz.func83, Tryz.ntmps83
  go_wp2_with (first
    | (go_at_call 90; refine (crcTable_calls _).mono ?_; rintro e w1 ⟨rfl, hb⟩)
    | (refine wpList_store_row rfl 117 (.tmp 0) (.tmp 1) rfl w.heap.size crcTabV rfl rfl 117 crcZ ((hb.block _ (by simp)).trans (heap_alloc_new _ _)) hi (by rw [crcTabV_size]; rfl) crcTabV_one ?_))
  refine bodyPost_ret (results_cell_row rfl _ _ w.heap.size 117 crcTabV (0, 0) _ rfl (setRow_heap _ _ crcZ _ _ _ ((hb.block _ (by simp)).trans (heap_alloc_new _ _))) Tryz.underlying117 rfl hi) rfl ⟨rfl, ?_⟩
  exact below_setRow (((Below.refl _ _).alloc (Nat.le_refl _) _).trans (hb.mono (by simp))) (by simp) _
theorem crc_u8 (c : BitVec 32) : (c.toNat : Int) % (256 : Int) = ((UInt8.ofNat c.toNat).toNat : Int) := by
  rw [UInt8.toNat_ofNat']; rfl
theorem crc_not (c : BitVec 32) : Value.int .u32 (bits .xor .u32 IntKind.u32.max (c.toNat : Int)) = u32v (~~~ c) := by
  have h : (IntKind.u32.max : Int) = ((BitVec.allOnes 32).toNat : Int) := by decide
  rw [h, bits_xor32, BitVec.allOnes_xor]
set_option maxRecDepth 100000 in
set_option maxHeartbeats 400000 in
theorem crcSum_calls (v : Value) (bs : List UInt8) (w : World) (hv : RdB w v bs) :
    Calls Tryz.prog 68 #[v] w fun e w' => e = .returned (u32v (PbCrc.sum bs)) ∧ Below w.heap.size w w' := by
  rcases hv with ⟨a, c, rfl, hc, rfl⟩ | ⟨b, off, cap, rfl, hne, hlc, hcap, hbw, hcell⟩
  · go_enter Tryz.func68, Tryz.ntmps68
    go_wp2
    go_loop [3, 8] (fun c i => i = .int .i64 0 ∧ c = .int .u32 4294967295) (fun _ _ => 0)
    case atStart => exact ⟨rfl, rfl⟩
    case round =>
      obtain ⟨rfl, rfl⟩ := hrel
      go_wp2
      go_ret
      exact ⟨rfl, Below.refl _ _⟩
  · go_enter Tryz.func68, Tryz.ntmps68
    go_wp2
    go_loopw [3, 8] (fun c i wr => ∃ k : Nat, k ≤ bs.length ∧ i = .int .i64 k ∧ c = u32v (PbCrc.run (BitVec.allOnes 32) (bs.take k)) ∧ Below w.heap.size w wr) (fun _ i _ => bs.length - (intOf i).toNat)
    case atStart => exact ⟨0, Nat.zero_le _, rfl, rfl, Below.refl _ _⟩
    case round =>
      obtain ⟨k, hk, rfl, rfl, hbw2⟩ := hrel
      by_cases hlt : k < bs.length
      · obtain ⟨x, hx⟩ : ∃ x, bs[k]? = some x := ⟨bs[k], List.getElem?_eq_getElem hlt⟩
        have hc := (hbw2.cell (p := ⟨b, off + k, none⟩) hbw).trans (hcell k x hx)
        have hrun := PbCrc.run_snoc (BitVec.allOnes 32) (bs.take k) x
        rw [← take_snoc hx, ← PbCrc.byteTab_eq] at hrun
        generalize PbCrc.run (BitVec.allOnes 32) (bs.take k) = c at hrun
        have Hrun := Lib.hid hrun
        clear hrun hx
        have hb8 : bits .xor .u8 ((c.toNat : Int) % 256) (x.toNat : Int) = ((UInt8.ofNat c.toNat ^^^ x).toNat : Int) := by rw [crc_u8, bits_xor8]
        have hix := crcTabV_index (UInt8.ofNat c.toNat ^^^ x)
        have hx32 : bits .xor .u32 ((PbCrc.tab (UInt8.ofNat c.toNat ^^^ x).toNat).toNat : Int) ((c.toNat : Int) / 256) = ((PbCrc.byteTab c x).toNat : Int) := by rw [crc_shr8, bits_xor32]; rfl
        generalize UInt8.ofNat c.toNat ^^^ x = y at hb8 hix hx32
        generalize PbCrc.byteTab c x = c2 at hx32 Hrun
        go_wp2_with (go_at_call 83; refine (crctable_calls _).mono ?_; rintro e w1 ⟨rfl, hb⟩)
        have hbw3 := hbw2.trans (hb.mono hbw2.size)
        go_roundw
        case rel => exact ⟨k + 1, by omega, by go_num, by rw [Hrun.out], hbw3⟩
        case measure => simp [intOf] <;> omega
      · have : bs.take k = bs := List.take_of_length_le (by omega)
        rw [this]
        go_wp2
        go_ret
        exact ⟨by rw [crc_not]; rfl, hbw2⟩
end Go.Proofs.YtjddicoigbidlaaGreatDoor

set_option linter.unusedSimpArgs false
set_option linter.unusedVariables false
namespace Go.Proofs.YtjddicoigbidlaaGreatDoor
open Go.RowKit
set_option maxRecDepth 100000 in
set_option maxHeartbeats 400000 in
theorem refCRC_calls (v : Value) (bs : List UInt8) (w : World) (hv : RdB w v bs) :
    Calls Tryz.prog 77 #[v] w fun e w' => e = .returned (u32v (PbCrc.sum bs)) ∧ w = w' := by
  rcases hv with ⟨a, c, rfl, hc, rfl⟩ | ⟨b, off, cap, rfl, hne, hlc, hcap, hbw, hcell⟩
  · go_enter Tryz.func77, Tryz.ntmps77
    go_wp2
    go_loop [3, 4] (fun c i => i = .int .i64 0 ∧ c = .int .u32 4294967295) (fun _ _ => 0)
    case atStart => exact ⟨rfl, rfl⟩
    case round =>
      obtain ⟨rfl, rfl⟩ := hrel
      go_wp2
      go_ret
      exact ⟨rfl, rfl⟩
  · go_enter Tryz.func77, Tryz.ntmps77
    go_wp2
    go_loop [3, 4] (fun c i => ∃ k : Nat, k ≤ bs.length ∧ i = .int .i64 k ∧ c = u32v (PbCrc.run (BitVec.allOnes 32) (bs.take k))) (fun _ i => bs.length - (intOf i).toNat)
    case atStart => exact ⟨0, Nat.zero_le _, rfl, rfl⟩
    case round =>
      obtain ⟨k, hk, rfl, rfl⟩ := hrel
      by_cases hlt : k < bs.length
      · obtain ⟨x, hx⟩ : ∃ x, bs[k]? = some x := ⟨bs[k], List.getElem?_eq_getElem hlt⟩
        have hc := hcell k x hx
        have hrun := PbCrc.run_snoc (BitVec.allOnes 32) (bs.take k) x
        rw [← take_snoc hx, ← PbCrc.bitRun_byte] at hrun
        generalize PbCrc.run (BitVec.allOnes 32) (bs.take k) = c at hrun
        have Hrun := Lib.hid hrun
        clear hrun hx hcell
        go_wp2
        go_loop [3, 5] (fun d i => ∃ j : Nat, j ≤ 8 ∧ i = .int .i64 j ∧ d = u32v (PbCrc.bitRun c x j)) (fun _ i => 8 - (intOf i).toNat)
        case atStart => exact ⟨0, by omega, rfl, rfl⟩
        case round =>
          obtain ⟨j, hj, rfl, rfl⟩ := hrel
          have hs : PbCrc.bitRun c x (j + 1) = PbCrc.bitStep (PbCrc.bitRun c x j) (x.toNat.testBit j) := rfl
          by_cases hlt2 : j < 8
          · generalize PbCrc.bitRun c x j = d at hs
            have hlow := crc_low d
            have hbit := u8_bit x j
            have Hp := Lib.hid (crc_poly (d >>> 1))
            by_cases hd : d.getLsbD 0 = true <;> by_cases hb : x.toNat.testBit j = true
            all_goals
              first | (rw [hd] at hlow) | (rw [Bool.not_eq_true] at hd; rw [hd] at hlow)
              first | (rw [hb] at hbit) | (rw [Bool.not_eq_true] at hb; rw [hb] at hbit)
              rw [PbCrc.bitStep, hd, hb] at hs
              have Hs := Lib.hid hs
              clear hs hd hb
              go_wp2
              go_round
              case rel => exact ⟨j + 1, by omega, by go_num, by rw [Hs.out]; first | (rw [crc_shr1, Hp.out]; rfl) | (rw [crc_shr1]; rfl) | (rw [crc_shr1', Hp.out]; rfl) | (rw [crc_shr1']; rfl)⟩
              case measure => simp [intOf] <;> omega
          · have hj8 : j = 8 := by omega
            subst hj8
            generalize PbCrc.bitRun c x 8 = d at Hrun
            clear hs
            go_wp2
            go_round
            case rel => exact ⟨k + 1, by omega, by go_num, by rw [Hrun.out]⟩
            case measure => simp [intOf] <;> omega
      · have : bs.take k = bs := List.take_of_length_le (by omega)
        rw [this]
        go_wp2
        go_ret
        exact ⟨by rw [crc_not]; rfl, rfl⟩
end Go.Proofs.YtjddicoigbidlaaGreatDoor

set_option linter.unusedSimpArgs false
set_option linter.unusedVariables false
namespace Go.Proofs.YtjddicoigbidlaaGreatDoor
open Go.RowKit
/-- A mark, as plain data. -/
structure MarkD where
  kind : Int
  rcpt : Int
  n : Int
def MarkD.good (k : MarkD) : Bool := decide (1 ≤ k.kind ∧ k.kind ≤ 5 ∧ 0 ≤ k.rcpt ∧ k.rcpt < 8 ∧ 0 ≤ k.n ∧ k.n ≤ 1099511627776)
abbrev MarkD.cells (k : MarkD) : List Value := [.int .i64 k.kind, .int .i64 k.rcpt, .int .i64 k.n]
abbrev MarkD.val (k : MarkD) : Value := .agg #[.int .i64 k.kind, .int .i64 k.rcpt, .int .i64 k.n]
theorem good_true {k : MarkD} (h : 1 ≤ k.kind ∧ k.kind ≤ 5 ∧ 0 ≤ k.rcpt ∧ k.rcpt < 8 ∧ 0 ≤ k.n ∧ k.n ≤ 1099511627776) : k.good = true := decide_eq_true h
theorem good_false {k : MarkD} (h : ¬ (1 ≤ k.kind ∧ k.kind ≤ 5 ∧ 0 ≤ k.rcpt ∧ k.rcpt < 8 ∧ 0 ≤ k.n ∧ k.n ≤ 1099511627776)) : k.good = false := decide_eq_false h
set_option maxRecDepth 100000 in
set_option maxHeartbeats 400000 in
theorem markGood_calls (k : MarkD) (w : World) :
    Calls Tryz.prog 80 #[k.val] w fun e w' => e = .returned (.bool k.good) ∧ Below w.heap.size w w' := by
  obtain ⟨kind, rcpt, n⟩ := k
  by_cases hn : n ≤ 1099511627776
  all_goals
    go_enter Tryz.func80, Tryz.ntmps80
    go_wp2
    all_goals
      go_ret
      exact ⟨by first | exact ret_bool (good_true (by simp only; omega)) | exact ret_bool (good_false (by simp only; omega)), (Below.refl _ _).alloc (Nat.le_refl _) _⟩
set_option maxRecDepth 100000 in
set_option maxHeartbeats 400000 in
theorem mayMark_calls (k : MarkD) (w : World) :
    Calls Tryz.prog 61 #[k.val] w fun e w' => e = .returned (.bool k.good) ∧ Below w.heap.size w w' := by
  obtain ⟨kind, rcpt, n⟩ := k
  by_cases hn : n ≤ 1099511627776
  all_goals
    go_enter Tryz.func61, Tryz.ntmps61
    go_wp2
    all_goals
      go_ret
      exact ⟨by first | exact ret_bool (good_true (by simp only; omega)) | exact ret_bool (good_false (by simp only; omega)), (Below.refl _ _).alloc (Nat.le_refl _) _⟩

/-- A number of 32 bits as four bytes. -/
def be4 (c : BitVec 32) : List UInt8 := [UInt8.ofNat (c.toNat / 2 ^ 24), UInt8.ofNat (c.toNat / 2 ^ 16), UInt8.ofNat (c.toNat / 2 ^ 8), UInt8.ofNat c.toNat]
def MarkD.body (k : MarkD) : List UInt8 := num8 k.kind.toNat ++ num8 k.rcpt.toNat ++ num8 k.n.toNat
def MarkD.bytes (k : MarkD) : List UInt8 := k.body ++ be4 (PbCrc.sum k.body)
def markPre (k : MarkD) (j : Nat) : List UInt8 := ([k.kind, k.rcpt, k.n].take j).flatMap fun n => num8 n.toNat
theorem body_length (k : MarkD) : k.body.length = 24 := by simp [MarkD.body, num8_length]
theorem bytes_length (k : MarkD) : k.bytes.length = 28 := by simp [MarkD.bytes, body_length, be4]
/-- What Encode answers of a good mark: its bytes, in a row of its own. -/
def EncDone (w : World) (bs : List UInt8) (e : Ending) (w' : World) : Prop :=
  ∃ v', e = .returned (.tuple #[v', .bool true]) ∧ w'.ownsRow w.heap.size 5 1 v' bs.length (bs.map u8v) ∧ Below w.heap.size w w'
set_option maxRecDepth 100000 in
set_option maxHeartbeats 400000 in
theorem markEncode_bad (k : MarkD) (w : World) (hg : k.good = false) :
    Calls Tryz.prog 89 #[k.val] w fun e w' => e = .returned (.tuple #[.slice none 0 0, .bool false]) ∧ Below w.heap.size w w' := by
  obtain ⟨kind, rcpt, n⟩ := k
  go_enter Tryz.func89, Tryz.ntmps89
  go_wp2_with fail
  refine (markGood_calls ⟨kind, rcpt, n⟩ _).mono ?_; rintro e w1 ⟨rfl, hb⟩
  rw [hg]
  go_wp2
  go_ret2
  exact ⟨rfl, ((Below.refl _ _).alloc (Nat.le_refl _) _).trans (hb.mono (by simp))⟩
theorem enc_frozen (w : World) (c : Array Value) (t : TypeId) : (w.alloc (.cells c t)).heap[w.heap.size]? = some (.cells c t (0, 0)) := heap_alloc_new w _
theorem wr_new (w : World) (base : Nat) : WrAt (w.alloc (.cells #[.slice none 0 0, .bool false] 70)) w.heap.size base (.slice none 0 0) [] false :=
  ⟨heap_alloc_new w _, World.ownsRow_nil _ _ _ _, by simp [Value.ownBlock]⟩
set_option maxRecDepth 100000 in
set_option maxHeartbeats 400000 in
theorem markEncode_good (k : MarkD) (w : World) (hg : k.good = true) :
    Calls Tryz.prog 89 #[k.val] w (EncDone w k.bytes) := by
  have hg' : 1 ≤ k.kind ∧ k.kind ≤ 5 ∧ 0 ≤ k.rcpt ∧ k.rcpt < 8 ∧ 0 ≤ k.n ∧ k.n ≤ 1099511627776 := of_decide_eq_true hg
  obtain ⟨kind, rcpt, n⟩ := k
  obtain ⟨h1, h2, h3, h4, h5, h6⟩ := hg'
  obtain ⟨kn, rfl⟩ := Int.eq_ofNat_of_zero_le (show (0 : Int) ≤ kind by simp only at h1; omega)
  obtain ⟨rn, rfl⟩ := Int.eq_ofNat_of_zero_le h3
  obtain ⟨nn, rfl⟩ := Int.eq_ofNat_of_zero_le h5
  simp only at h1 h2 h3 h4 h5 h6
  obtain ⟨i0, hi, hz0, hz1, hz2⟩ := info_parts infoU8
  go_enter Tryz.func89, Tryz.ntmps89
  go_wp2_with fail
  refine (markGood_calls ⟨kn, rn, nn⟩ _).mono ?_; rintro e w1 ⟨rfl, hb⟩
  rw [hg]
  have hbk : w1.heap[w.heap.size]? = some (.cells #[.int .i64 kn, .int .i64 rn, .int .i64 nn] 52 (0, 0)) := (hb.block _ (by simp)).trans (heap_alloc_new w _)
  have hbel : Below w.heap.size w w1 := ((Below.refl _ _).alloc (Nat.le_refl _) _).trans (hb.mono (by simp))
  have hsz1 : w.heap.size < w1.heap.size := (Array.getElem?_eq_some_iff.1 hbk).1
  have hc0 : w1.cell? ⟨w.heap.size, 0, none⟩ = some (.int .i64 kn) := by rw [cell_of_row _ _ _ _ _ _ hbk]; rfl
  have hc1 : w1.cell? ⟨w.heap.size, 1, none⟩ = some (.int .i64 rn) := by rw [cell_of_row _ _ _ _ _ _ hbk]; rfl
  have hc2 : w1.cell? ⟨w.heap.size, 2, none⟩ = some (.int .i64 nn) := by rw [cell_of_row _ _ _ _ _ _ hbk]; rfl
  have ix0 : ∀ w, (Instr.index 121 (.agg #[.int .i64 (kn : Int), .int .i64 (rn : Int), .int .i64 (nn : Int)]) (.int .i64 0)).run Tryz.prog w = .ok (.int .i64 (kn : Int)) w := fun _ => by kernel_rfl
  have ix1 : ∀ w, (Instr.index 121 (.agg #[.int .i64 (kn : Int), .int .i64 (rn : Int), .int .i64 (nn : Int)]) (.int .i64 1)).run Tryz.prog w = .ok (.int .i64 (rn : Int)) w := fun _ => by kernel_rfl
  have ix2 : ∀ w, (Instr.index 121 (.agg #[.int .i64 (kn : Int), .int .i64 (rn : Int), .int .i64 (nn : Int)]) (.int .i64 2)).run Tryz.prog w = .ok (.int .i64 (nn : Int)) w := fun _ => by kernel_rfl
  obtain ⟨pre, hpre⟩ : ∃ pre : Nat → List UInt8, pre = markPre ⟨kn, rn, nn⟩ := ⟨_, rfl⟩
  have p1 : pre 1 = pre 0 ++ num8 kn := by rw [hpre]; simp [markPre]
  have p2 : pre 2 = pre 1 ++ num8 rn := by rw [hpre]; simp [markPre]
  have p3 : pre 3 = pre 2 ++ num8 nn := by rw [hpre]; simp [markPre]
  have pb : pre 3 = MarkD.body ⟨kn, rn, nn⟩ := by rw [hpre]; simp [markPre, MarkD.body]
  have l0 : (pre 0).length = 0 := by rw [hpre]; simp [markPre]
  have l1 : (pre 1).length = 8 := by rw [p1, List.length_append, num8_length, l0]
  have l2 : (pre 2).length = 16 := by rw [p2, List.length_append, num8_length, l1]
  have hp0 : pre 0 = [] := List.length_eq_zero_iff.1 l0
  have P1 := Lib.hid p1
  have P2 := Lib.hid p2
  have P3 := Lib.hid p3
  have PB := Lib.hid pb
  clear p1 p2 p3 pb hpre
  go_wp2
  go_loopw [21] (fun i wr => ∃ (j : Nat) (v : Value), j ≤ 3 ∧ i = .int .i64 j ∧ WrAt wr w1.heap.size w.heap.size v (pre j) false ∧ Below w.heap.size w wr) (fun i _ => 3 - (intOf i).toNat)
  case atStart =>
    refine ⟨0, .slice none 0 0, by omega, rfl, ?_, hbel.alloc (Nat.le_of_lt hsz1) _⟩
    rw [hp0]; exact wr_new _ _
  case round =>
    obtain ⟨j, v, hj, rfl, hW, hbw⟩ := hrel
    rcases (by omega : j = 0 ∨ j = 1 ∨ j = 2 ∨ j = 3) with rfl | rfl | rfl | rfl
    · go_wp2_with fail
      refine (wNum_good w1.heap.size w.heap.size v (pre 0) false kn _ hW (by omega) hbw.size (by omega)).mono ?_; rintro e w2 ⟨v', rfl, hW2, hK, _⟩
      rw [← P1.out] at hW2
      have hb2 := hbw.trans (hK.below (B := w.heap.size) (fun i hi => by rcases hi with h | h; omega; exact own_base hW.own i h) hbw.size)
      go_wp2
      go_roundw
      case rel => exact ⟨1, v', by omega, rfl, hW2, hb2⟩
      case measure => simp [intOf] <;> omega
    · go_wp2_with fail
      refine (wNum_good w1.heap.size w.heap.size v (pre 1) false rn _ hW (by omega) hbw.size (by omega)).mono ?_; rintro e w2 ⟨v', rfl, hW2, hK, _⟩
      rw [← P2.out] at hW2
      have hb2 := hbw.trans (hK.below (B := w.heap.size) (fun i hi => by rcases hi with h | h; omega; exact own_base hW.own i h) hbw.size)
      go_wp2
      go_roundw
      case rel => exact ⟨2, v', by omega, rfl, hW2, hb2⟩
      case measure => simp [intOf] <;> omega
    · go_wp2_with fail
      refine (wNum_good w1.heap.size w.heap.size v (pre 2) false nn _ hW (by omega) hbw.size (by omega)).mono ?_; rintro e w2 ⟨v', rfl, hW2, hK, _⟩
      rw [← P3.out] at hW2
      have hb2 := hbw.trans (hK.below (B := w.heap.size) (fun i hi => by rcases hi with h | h; omega; exact own_base hW.own i h) hbw.size)
      go_wp2
      go_roundw
      case rel => exact ⟨3, v', by omega, rfl, hW2, hb2⟩
      case measure => simp [intOf] <;> omega
    · rw [PB.out] at hW
      have hbl : (MarkD.body ⟨kn, rn, nn⟩).length = 24 := body_length _
      go_wp2_with fail
      refine (wOut_calls w1.heap.size w.heap.size v _ _ hW (by omega)).mono ?_; rintro e w2 ⟨v2, rfl, hown2, hb2⟩
      go_wp2_with fail
      refine (crcSum_calls _ _ _ (rdB_ofOwn hown2)).mono ?_; rintro e w3 ⟨rfl, hb3⟩
      have hown3 := own_below hown2 hb3 (Nat.le_refl _)
      obtain ⟨c, hcs⟩ : ∃ c, PbCrc.sum (MarkD.body ⟨kn, rn, nn⟩) = c := ⟨_, rfl⟩
      rw [hcs]
      have u24 : (c.toNat : Int) / 16777216 = ((UInt8.ofNat (c.toNat / 2 ^ 24)).toNat : Int) := by have := c.isLt; rw [UInt8.toNat_ofNat', Nat.mod_eq_of_lt (by omega)]; simp
      have u16 : (c.toNat : Int) / 65536 % 256 = ((UInt8.ofNat (c.toNat / 2 ^ 16)).toNat : Int) := by rw [UInt8.toNat_ofNat']; simp
      have u8' : (c.toNat : Int) / 256 % 256 = ((UInt8.ofNat (c.toNat / 2 ^ 8)).toNat : Int) := by rw [UInt8.toNat_ofNat']; simp
      have u0 : (c.toNat : Int) % 256 = ((UInt8.ofNat c.toNat).toNat : Int) := by rw [UInt8.toNat_ofNat']; simp
      have hfin : MarkD.bytes ⟨kn, rn, nn⟩ = MarkD.body ⟨kn, rn, nn⟩ ++ [UInt8.ofNat (c.toNat / 2 ^ 24), UInt8.ofNat (c.toNat / 2 ^ 16), UInt8.ofNat (c.toNat / 2 ^ 8), UInt8.ofNat c.toNat] := by rw [← hcs]; rfl
      generalize UInt8.ofNat (c.toNat / 2 ^ 24) = b0 at u24 hfin
      generalize UInt8.ofNat (c.toNat / 2 ^ 16) = b1 at u16 hfin
      generalize UInt8.ofNat (c.toNat / 2 ^ 8) = b2 at u8' hfin
      generalize UInt8.ofNat c.toNat = b3 at u0 hfin
      have Hfin := Lib.hid hfin
      clear hcs hfin
      have hownA : (w3.alloc (.cells #[u8v b0, u8v b1, u8v b2, u8v b3] 5)).ownsRow w.heap.size 5 1 v2 (MarkD.body ⟨kn, rn, nn⟩).length ((MarkD.body ⟨kn, rn, nn⟩).map u8v) := World.ownsRow.alloc (own_mono hown3 hbw.size) _
      have hnewsA := Lib.hid (news_new w3 [u8v b0, u8v b1, u8v b2, u8v b3] 5 (0, 0))
      have h63 : (MarkD.body ⟨kn, rn, nn⟩).length + 4 ≤ maxLen := by rw [hbl]; decide
      have h47 : ((MarkD.body ⟨kn, rn, nn⟩).length + 4) * 1 ≤ 140737488355328 := by omega
      have hs2 := hbw.size
      have hs3 := hb2.size
      have hs4 := hb3.size
      have hbs : w.heap.size ≤ (w3.alloc (.cells #[u8v b0, u8v b1, u8v b2, u8v b3] 5)).heap.size := by simp; omega
      go_wp2_with (at_builtin; go_must (refine wpList_append_own _ rfl (.tmp 35) (.tmp 47) 23 rfl w.heap.size 5 i0 (.int .u8 0) 1 1 Tryz.underlying23 hi hz0 hz1 hz2 rfl (by decide) v2 _ _ rfl hownA ⟨w3.heap.size, 0, none⟩ 4 4 [u8v b0, u8v b1, u8v b2, u8v b3] rfl rfl hnewsA.out (one_u8 [b0, b1, b2, b3]) h63 h47 hbs ?_); rintro v3 w4 hown4 hg4 _)
      go_ret2
      refine ⟨v3, rfl, ?_, ?_⟩
      · rw [Hfin.out]; simpa using hown4
      · exact Below.grown ((((hbw.trans (hb2.mono hs2)).trans (hb3.mono (by omega)))).alloc (by omega) _) hg4 (by simp; omega) (fun k hk => own_base hownA k hk)
end Go.Proofs.YtjddicoigbidlaaGreatDoor

set_option linter.unusedSimpArgs false
set_option linter.unusedVariables false
namespace Go.Proofs.YtjddicoigbidlaaGreatDoor
open Go.RowKit
/-- Bytes, in a row of the call's own. -/
def RowDone (w : World) (bs : List UInt8) (e : Ending) (w' : World) : Prop :=
  ∃ v', e = .returned v' ∧ w'.ownsRow w.heap.size 5 1 v' bs.length (bs.map u8v) ∧ Below w.heap.size w w'
theorem num8_part (n j : Nat) (hj : j < 8) : (List.replicate (8 - j) 0 ++ (num8 n).drop (8 - j)).set (7 - j) (UInt8.ofNat (n / 2 ^ (8 * j))) = List.replicate (8 - (j + 1)) 0 ++ (num8 n).drop (8 - (j + 1)) := by
  have h1 : 8 - j = (7 - j) + 1 := by omega
  have h2 : 8 - (j + 1) = 7 - j := by omega
  have hg := num8_get n (7 - j) (by omega)
  rw [show 7 - (7 - j) = j by omega] at hg
  have hl : 7 - j < (num8 n).length := by rw [num8_length]; omega
  have hge : (num8 n)[7 - j] = UInt8.ofNat (n / 2 ^ (8 * j)) := by have := List.getElem?_eq_getElem hl; rw [this] at hg; exact Option.some.inj hg
  rw [h2, List.drop_eq_getElem_cons hl, hge, show 7 - j + 1 = 8 - j by omega, h1, List.replicate_succ', List.append_assoc, List.set_append_right _ _ (by simp)]
  simp
set_option maxRecDepth 100000 in
set_option maxHeartbeats 400000 in
theorem refNum_calls (n : Nat) (hn : n ≤ 9223372036854775807) (w : World) :
    Calls Tryz.prog 55 #[.int .i64 n] w (RowDone w (num8 n)) := by
  obtain ⟨i0, hi, hz0, hz1, hz2⟩ := info_parts infoU8
  obtain ⟨w1, hrun, hown1, hg1⟩ := run_make_full (P := Tryz.prog) w w.heap.size 23 5 i0 (.int .u8 0) 1 Tryz.underlying23 hi hz0 hz1 .i64 .i64 8 (by rw [hz2]; omega) (by decide) (Nat.le_refl _)
  have hrunL : (Instr.makeSlice 23 (.int .i64 8) (.int .i64 8)).run Tryz.prog w = .ok (.slice (some ⟨w.heap.size, 0, none⟩) 8 8) w1 := hrun
  go_enter Tryz.func55, Tryz.ntmps55
  go_wp2
  go_loopw [0, 4] (fun a i wr => ∃ j : Nat, j ≤ 8 ∧ i = .int .i64 (7 - (j : Int)) ∧ a = .int .i64 ((n / 2 ^ (8 * j) : Nat) : Int) ∧ wr.ownsRow w.heap.size 5 1 (.slice (some ⟨w.heap.size, 0, none⟩) 8 8) 8 ((List.replicate (8 - j) 0 ++ (num8 n).drop (8 - j)).map u8v) ∧ Below w.heap.size w wr) (fun _ i _ => (intOf i + 1).toNat)
  case atStart =>
    refine ⟨0, by omega, rfl, by simp, ?_, (Below.refl _ _).grown hg1 (Nat.le_refl _) (fun _ h => by cases h)⟩
    have e : (madeCells (Value.int .u8 0).cells (8 * 1)).toList = (List.replicate (8 - 0) 0 ++ (num8 n).drop (8 - 0)).map u8v := by
      rw [show (Value.int .u8 0).cells = #[Value.int .u8 0] from rfl, toList_madeCells_one, List.drop_of_length_le (by simp [num8])]; simp
    rw [← e]; exact hown1
  case round =>
    obtain ⟨j, hj, rfl, rfl, hown, hbw⟩ := hrel
    by_cases hlt : j < 8
    · obtain ⟨m, hm⟩ : ∃ m : Nat, 7 - j = m := ⟨_, rfl⟩
      have hmI : (7 : Int) - (j : Int) = (m : Int) := by omega
      have hset := num8_part n j hlt
      have hq : n / 2 ^ (8 * j) / 256 = n / 2 ^ (8 * (j + 1)) := by rw [Nat.div_div_eq_div_mul, show 8 * (j + 1) = 8 * j + 8 by omega, Nat.pow_add]
      have hqn : n / 2 ^ (8 * j) ≤ n := Nat.div_le_self _ _
      generalize n / 2 ^ (8 * j) = q at hset hq hqn
      have hu : (q : Int) % 256 = ((UInt8.ofNat q).toNat : Int) := by rw [UInt8.toNat_ofNat']; simp
      rw [hm] at hset
      have hcell := hown.cellAt m (by omega)
      have hfr := hown.frozenAt m
      obtain ⟨old, hold⟩ : ∃ old, ((List.replicate (8 - j) 0 ++ (num8 n).drop (8 - j)).map u8v)[m]? = some old := ⟨_, List.getElem?_eq_getElem (by simp [num8_length]; omega)⟩
      rw [hold] at hcell
      obtain ⟨hst, hgr⟩ := hown.stored m (u8v (UInt8.ofNat q))
      rw [← List.map_set, hset] at hst
      generalize UInt8.ofNat q = x at hu hst hgr
      have hbw3 := hbw.grown hgr (by have := hbw.size; omega) (fun q hq => by cases hq; exact Nat.le_refl _)
      have Hq := Lib.hid hq
      clear hq hset hold hown
      rw [hmI]
      go_wp2
      go_roundw
      case rel => exact ⟨j + 1, by omega, by congr 1; omega, by rw [← Hq.out]; rfl, hst, hbw3⟩
      case measure => simp [intOf] <;> omega
    · have hj8 : j = 8 := by omega
      subst hj8
      go_wp2
      go_ret
      refine ⟨_, rfl, ?_, hbw⟩
      rw [num8_length]; simpa using hown

theorem and255 (c : BitVec 32) (k : Nat) : bits .and .u32 ((c.toNat : Int) / 2 ^ k) 255 = ((UInt8.ofNat (c.toNat / 2 ^ k)).toNat : Int) := by
  have h : (c.toNat : Int) / 2 ^ k = ((c >>> k).toNat : Int) := by rw [BitVec.toNat_ushiftRight, Nat.shiftRight_eq_div_pow]; simp
  have h2 : (255 : Int) = ((255#32 : BitVec 32).toNat : Int) := rfl
  rw [h, h2, bits_and32, BitVec.toNat_and, BitVec.toNat_ushiftRight, Nat.shiftRight_eq_div_pow, UInt8.toNat_ofNat']
  congr 1
  exact Nat.and_two_pow_sub_one_eq_mod _ 8
set_option maxRecDepth 100000 in
set_option maxHeartbeats 400000 in
theorem refSum_calls (v : Value) (bs : List UInt8) (w : World) (hv : RdB w v bs) :
    Calls Tryz.prog 57 #[v] w (RowDone w (be4 (PbCrc.sum bs))) := by
  go_enter Tryz.func57, Tryz.ntmps57
  go_wp2_with fail
  refine (refCRC_calls _ _ _ hv).mono ?_; rintro e w1 ⟨rfl, rfl⟩
  obtain ⟨c, hcs⟩ : ∃ c, PbCrc.sum bs = c := ⟨_, rfl⟩
  rw [hcs]
  have hlt := c.isLt
  have u24 : (c.toNat : Int) / 16777216 = ((UInt8.ofNat (c.toNat / 2 ^ 24)).toNat : Int) := by rw [UInt8.toNat_ofNat', Nat.mod_eq_of_lt (by omega)]; simp
  have u16 : bits .and .u32 ((c.toNat : Int) / 65536) 255 = ((UInt8.ofNat (c.toNat / 2 ^ 16)).toNat : Int) := and255 c 16
  have u8' : bits .and .u32 ((c.toNat : Int) / 256) 255 = ((UInt8.ofNat (c.toNat / 2 ^ 8)).toNat : Int) := and255 c 8
  have u0 : bits .and .u32 (c.toNat : Int) 255 = ((UInt8.ofNat c.toNat).toNat : Int) := by have := and255 c 0; simpa using this
  have hfin : be4 (PbCrc.sum bs) = [UInt8.ofNat (c.toNat / 2 ^ 24), UInt8.ofNat (c.toNat / 2 ^ 16), UInt8.ofNat (c.toNat / 2 ^ 8), UInt8.ofNat c.toNat] := by rw [hcs]; rfl
  have i1 := (UInt8.ofNat (c.toNat / 2 ^ 16)).toNat_lt
  have i2 := (UInt8.ofNat (c.toNat / 2 ^ 8)).toNat_lt
  have i3 := (UInt8.ofNat c.toNat).toNat_lt
  generalize UInt8.ofNat (c.toNat / 2 ^ 24) = b0 at u24 hfin
  generalize UInt8.ofNat (c.toNat / 2 ^ 16) = b1 at u16 i1 hfin
  generalize UInt8.ofNat (c.toNat / 2 ^ 8) = b2 at u8' i2 hfin
  generalize UInt8.ofNat c.toNat = b3 at u0 i3 hfin
  have Hfin := Lib.hid hfin
  clear hfin hcs
  go_wp2
  go_ret
  refine ⟨_, rfl, by rw [Hfin.out]; exact World.ownsRow_lit w #[u8v b0, u8v b1, u8v b2, u8v b3] 4 (Nat.le_refl _) (by decide) rfl, (Below.refl _ _).alloc (Nat.le_refl _) _⟩

/-- Eight bytes, in a row of the call's own, written out. -/
def Row8 (w : World) (bs : List UInt8) (e : Ending) (w' : World) : Prop :=
  ∃ g cap, e = .returned (.slice (some ⟨g, 0, none⟩) 8 cap) ∧ w'.ownsRow w.heap.size 5 1 (.slice (some ⟨g, 0, none⟩) 8 cap) 8 (bs.map u8v) ∧ Below w.heap.size w w' ∧ w.heap.size ≤ g
theorem refNum8 (n : Nat) (hn : n ≤ 9223372036854775807) (w : World) : Calls Tryz.prog 55 #[.int .i64 n] w (Row8 w (num8 n)) := by
  refine (refNum_calls n hn w).mono ?_
  rintro e w1 ⟨v, rfl, hown, hb⟩
  rw [num8_length] at hown
  obtain ⟨g, cap, rfl, hg, _, _, _⟩ := own_form hown (by decide)
  exact ⟨g, cap, rfl, hown, hb, hg⟩
/-- Three cells below what a call has made, and nothing old has turned. -/
def Cells3 (w0 w : World) (x y z : Value) : Prop := w.cell? ⟨w0.heap.size, 0, none⟩ = some x ∧ w.cell? ⟨w0.heap.size, 1, none⟩ = some y ∧ w.cell? ⟨w0.heap.size, 2, none⟩ = some z ∧ Below w0.heap.size w0 w
theorem Cells3.lt {w0 w : World} {x y z : Value} (h : Cells3 w0 w x y z) : w0.heap.size < w.heap.size := World.block_lt_of_cell? w ⟨w0.heap.size, 0, none⟩ h.1
theorem keep3 {w0 w1 w2 : World} {x y z : Value} (h : Cells3 w0 w1 x y z) (hb : Below w1.heap.size w1 w2) : Cells3 w0 w2 x y z := by
  have hl := h.lt
  obtain ⟨h1, h2, h3, h4⟩ := h
  have hc := (below_cell hb).1
  exact ⟨by rw [hc _ _ hl]; exact h1, by rw [hc _ _ hl]; exact h2, by rw [hc _ _ hl]; exact h3, h4.trans (hb.mono h4.size)⟩
theorem keep3g {w0 w1 w2 : World} {row : Option Nat} {x y z : Value} (h : Cells3 w0 w1 x y z) (hg : w1.grownBy w2 row) (hr : ∀ k, row = some k → w0.heap.size < k) : Cells3 w0 w2 x y z := by
  have hne : some w0.heap.size ≠ row := fun e => by have := hr _ e.symm; omega
  exact ⟨hg.cell h.1 hne, hg.cell h.2.1 hne, hg.cell h.2.2.1 hne, h.2.2.2.grown hg h.2.2.2.size (fun k hk => Nat.le_of_lt (hr k hk))⟩
/-- The cells of an owned row, as an append takes them. -/
theorem news_own {w : World} {base g n cap : Nat} {xs : List Value} (h : w.ownsRow base 5 1 (.slice (some ⟨g, 0, none⟩) n cap) n xs) : ∀ j u, xs[j]? = some u → w.cell? ((⟨g, 0, none⟩ : Addr).add j) = some u := by
  intro j u hu
  rw [add_at, Nat.zero_add, h.cellAt j (by have := (List.getElem?_eq_some_iff.1 hu).1; rw [h.1] at this; exact this)]
  exact hu
/-- One owned row of bytes appended to another one, at a step of a region that draws its order. -/
theorem step_app_own {ops : Array Oper} {o : Oper} {a : Act} {K : Act → World → Prop} {Q : Exit → Act → World → Prop} {E : Prop} (hgd : o.guard = none) (s x : Operand)
    (ho : o.op = .call { callee := .builtin .append, args := #[s, x], argTypes := #[23, 23] }) {w : World} {base base2 n1 n2 g1 g2 cap1 cap2 : Nat} {xs ys : List UInt8}
    (hs : a.eval s = .slice (some ⟨g1, 0, none⟩) n1 cap1) (hx : a.eval x = .slice (some ⟨g2, 0, none⟩) n2 cap2)
    (hown1 : w.ownsRow base 5 1 (.slice (some ⟨g1, 0, none⟩) n1 cap1) n1 (xs.map u8v)) (hown2 : w.ownsRow base2 5 1 (.slice (some ⟨g2, 0, none⟩) n2 cap2) n2 (ys.map u8v)) (hm : 0 < n2) (hsmall : n1 + n2 ≤ 1099511627776)
    (h : ∀ g cap w', w'.ownsRow base 5 1 (.slice (some ⟨g, 0, none⟩) (n1 + n2) cap) (n1 + n2) ((xs ++ ys).map u8v) → w.grownBy w' (some g1) → (g = g1 ∨ g = w.heap.size) → g < w'.heap.size → K (a.put o.dst (.slice (some ⟨g, 0, none⟩) (n1 + n2) cap)) w') :
    if Region.wanted o (yielded ops a.tmps) = true then Oper.wp Tryz.prog o a w K Q else E := by
  obtain ⟨i0, hi, hz0, hz1, hz2⟩ := info_parts infoU8
  have hl := hown2.1
  have hb1 := (hown1.lt g1 rfl)
  refine step_append_lies w hgd s x 23 ho base 5 i0 (.int .u8 0) 1 1 Tryz.underlying23 hi hz0 hz1 hz2 rfl (by decide) _ n1 (xs.map u8v) hs hown1 ⟨g2, 0, none⟩ n2 cap2 (ys.map u8v) hx hl (news_own hown2) (one_u8 ys) hm (by unfold maxLen; omega) (by omega) (by omega) w.heap.size rfl ?_
  intro g cap w' h2 h3 h4 h5
  refine h g cap w' (by rw [List.map_append]; exact h2) h3 ?_ h5
  rcases h4 with h4 | h4
  · cases h4; exact .inl rfl
  · exact .inr h4
set_option maxRecDepth 100000 in
set_option maxHeartbeats 1000000 in
theorem refMark_calls (k : MarkD) (w : World) (h1 : 0 ≤ k.kind) (h2 : k.kind ≤ 9223372036854775807) (h3 : 0 ≤ k.rcpt) (h4 : k.rcpt ≤ 9223372036854775807) (h5 : 0 ≤ k.n) (h6 : k.n ≤ 9223372036854775807) :
    Calls Tryz.prog 28 #[k.val] w (RowDone w k.bytes) := by
  obtain ⟨kind, rcpt, n⟩ := k
  obtain ⟨kn, rfl⟩ := Int.eq_ofNat_of_zero_le h1
  obtain ⟨rn, rfl⟩ := Int.eq_ofNat_of_zero_le h3
  obtain ⟨nn, rfl⟩ := Int.eq_ofNat_of_zero_le h5
  simp only at h1 h2 h3 h4 h5 h6
  obtain ⟨i0, hi, hz0, hz1, hz2⟩ := info_parts infoU8
  have hl := num8_length
  go_enter Tryz.func28, Tryz.ntmps28
  go_wp2
  go_region_held3 (fun w' => w'.cell? ⟨w.heap.size, 0, none⟩ = some (.int .i64 (kn : Int)) ∧ w'.cell? ⟨w.heap.size, 1, none⟩ = some (.int .i64 (rn : Int)) ∧ w'.cell? ⟨w.heap.size, 2, none⟩ = some (.int .i64 (nn : Int)) ∧ Below w.heap.size w w') (first | exact ⟨by go_simp, by go_simp, by go_simp, ((Below.refl _ _).alloc (Nat.le_refl _) _).drew⟩ | exact keep3 (by assumption) (by assumption) | exact keep3g (by assumption) (by assumption) (by intro k hk; cases hk; omega))
    (first
      | (go_at_call 55; refine (refNum8 _ (by omega) _).mono ?_; rintro e w2 ⟨g, cap, rfl, hown, hb, hg⟩; have hBg := Nat.lt_of_lt_of_le (Cells3.lt (x := .int .i64 (kn : Int)) (y := .int .i64 (rn : Int)) (z := .int .i64 (nn : Int)) (by assumption)) hg)
      | (refine step_app_own rfl (.tmp 6) (.tmp 9) rfl (by rfl) (by rfl) (by first | assumption | exact own_below (by assumption) (by assumption) (Nat.le_refl _)) (by assumption) (by decide) (by decide) ?_; rintro g cap w4 hown4 hg4 hat4 hlt4; have hBc := Cells3.lt (x := .int .i64 (kn : Int)) (y := .int .i64 (rn : Int)) (z := .int .i64 (nn : Int)) (by assumption); have hBg4 : w.heap.size < g := by omega)
      | (refine step_app_own rfl (.tmp 10) (.tmp 13) rfl (by rfl) (by rfl) (by first | assumption | exact own_below (by assumption) (by assumption) (Nat.le_refl _)) (by assumption) (by decide) (by decide) ?_; rintro g cap w4 hown4 hg4 hat4 hlt4; have hBc := Cells3.lt (x := .int .i64 (kn : Int)) (y := .int .i64 (rn : Int)) (z := .int .i64 (nn : Int)) (by assumption); have hBg4 : w.heap.size < g := by omega))
  obtain ⟨_, _, _, hbel⟩ := (by assumption : Cells3 w w4 (.int .i64 (kn : Int)) (.int .i64 (rn : Int)) (.int .i64 (nn : Int)))
  have hown5 : w4.ownsRow w.heap.size 5 1 (.slice (some ⟨g, 0, none⟩) 24 cap) 24 ((MarkD.body ⟨kn, rn, nn⟩).map u8v) := own_mono hown4 (by simp)
  go_wp2_with fail
  refine (refSum_calls _ _ _ (rdB_ofOwn hown5)).mono ?_; rintro e w5 ⟨v5, rfl, hown6, hb6⟩
  have hs4 := hbel.size
  have hs5 := hb6.size
  have hown7 := own_below hown5 hb6 (Nat.le_refl _)
  have hl4 : (be4 (PbCrc.sum (MarkD.body ⟨kn, rn, nn⟩))).length = 4 := rfl
  rw [hl4] at hown6
  obtain ⟨g6, cap6, rfl, _, _, _, _⟩ := own_form hown6 (by decide)
  have h63 : 24 + 4 ≤ maxLen := by decide
  have hbs : w.heap.size ≤ w5.heap.size := by omega
  go_wp2_with (at_builtin; go_must (refine wpList_append_own _ rfl (.tmp 15) (.tmp 17) 23 rfl w.heap.size 5 i0 (.int .u8 0) 1 1 Tryz.underlying23 hi hz0 hz1 hz2 rfl (by decide) _ _ _ rfl hown7 ⟨g6, 0, none⟩ 4 cap6 ((be4 (PbCrc.sum (MarkD.body ⟨kn, rn, nn⟩))).map u8v) rfl rfl (news_own hown6) (one_u8 _) h63 (by decide) hbs ?_); rintro v3 w6 hown8 hg8 _)
  go_ret
  refine ⟨v3, rfl, ?_, ?_⟩
  · rw [bytes_length]; simpa [MarkD.bytes] using hown8
  · exact Below.grown (hbel.trans (hb6.mono hs4)) hg8 (by omega) (fun k hk => own_base hown7 k hk)
end Go.Proofs.YtjddicoigbidlaaGreatDoor

set_option linter.unusedSimpArgs false
set_option linter.unusedVariables false
namespace Go.Proofs.YtjddicoigbidlaaGreatDoor
open Go.RowKit
theorem run_index_at {s : ByteArray} {j : Nat} {c : UInt8} (h : s.data.toList[j]? = some c) (w : World) :
    (Instr.index 9 (.string s) (.int .i64 (j : Int))).run Tryz.prog w = .ok (.int .u8 c.toNat) w := by
  have hj : j < s.size := by rw [size_len]; exact (List.getElem?_eq_some_iff.1 h).1
  have hg := get_byte s j hj
  rw [h] at hg
  have hc : s[j]'hj = c := (Option.some.inj hg).symm
  have hq : s[j]? = some c := by rw [getElem?_pos s j hj, hc]
  simp [Instr.index, asIntOf, run_underlying Tryz.underlying9, go_sem, hq]
theorem run_slice_at {s : ByteArray} {a b : Nat} (hab : a ≤ b) (hb : b ≤ s.size) (w : World) :
    (Instr.slice 9 (.string s) (some (.int .i64 (a : Int))) (some (.int .i64 (b : Int))) none).run Tryz.prog w = .ok (.string (strL ((s.data.toList.take b).drop a))) w := by
  rw [run_slice_string_if w 9 s .i64 .i64 a b Tryz.underlying9]
  rw [if_pos ⟨by omega, by omega⟩, if_pos ⟨by omega, by omega⟩]
  congr 2
  have : (s.extract a b).data.toList = (s.data.toList.take b).drop a := by
    rw [ByteArray.data_extract, Array.toList_extract, List.extract_eq_take_drop, List.drop_take]
  rw [Int.toNat_natCast, Int.toNat_natCast, ← this, strL_of]
set_option maxRecDepth 100000 in
set_option maxHeartbeats 4000000 in
theorem refPlain_calls (c : UInt8) (w : World) :
    Calls Tryz.prog 98 #[.int .u8 c.toNat] w fun e w' => e = .returned (.bool (plainB c)) ∧ w' = w := by
  rw [plain_iff]
  have hc := c.toNat_lt
  generalize c.toNat = r at hc
  by_cases a1 : 97 ≤ r <;> by_cases a2 : r ≤ 122 <;> by_cases b1 : 65 ≤ r <;> by_cases b2 : r ≤ 90 <;> by_cases c1 : 48 ≤ r <;> by_cases c2 : r ≤ 57
  all_goals first | omega | skip
  all_goals
    have hv : plainR r = (decide (97 ≤ r ∧ r ≤ 122) || decide (65 ≤ r ∧ r ≤ 90) || decide (48 ≤ r ∧ r ≤ 57)) := rfl
    simp only [a1, a2, b1, b2, c1, c2, and_self, and_true, true_and, and_false, false_and, decide_true, decide_false, Bool.or_true, Bool.true_or, Bool.or_false, Bool.false_or] at hv
    rw [hv]
    clear hv
    go_enter Tryz.func98, Tryz.ntmps98
    go_wp2
    go_ret
    first
    | exact ⟨rfl, rfl⟩
    | (refine ⟨?_, rfl⟩; congr 2; simp; omega)
theorem pieces_snoc (c x : UInt8) (l : List UInt8) : ∃ ms m, piecesAt c l = ms ++ [m] ∧ piecesAt c (l ++ [x]) = if x = c then ms ++ [m] ++ [[]] else ms ++ [m ++ [x]] := by
  induction l with
  | nil =>
    refine ⟨[], [], rfl, ?_⟩
    by_cases h : x = c <;> simp [piecesAt, h]
  | cons y ys ih =>
    obtain ⟨ms, m, h1, h2⟩ := ih
    by_cases hy : y = c
    · refine ⟨[] :: ms, m, by simp [piecesAt, hy, h1], ?_⟩
      simp only [List.cons_append, piecesAt, if_pos hy, h2]
      split <;> simp
    · cases ms with
      | nil =>
        refine ⟨[], y :: m, by simp [piecesAt, hy, h1], ?_⟩
        by_cases hx : x = c
        · rw [if_pos hx] at h2 ⊢; simp [piecesAt, hy, h2]
        · rw [if_neg hx] at h2 ⊢; simp [piecesAt, hy, h2]
      | cons q qs =>
        refine ⟨(y :: q) :: qs, m, by simp [piecesAt, hy, h1], ?_⟩
        by_cases hx : x = c
        · rw [if_pos hx] at h2 ⊢; simp [piecesAt, hy, h2]
        · rw [if_neg hx] at h2 ⊢; simp [piecesAt, hy, h2]
theorem nil_row0 (w : World) (base size : Nat) (e : TypeId) : w.ownsRow base e size (.slice none 0 0) 0 [] := ⟨by simp, .inl ⟨rfl, rfl⟩⟩
def s1 (l : List UInt8) : List Value := [.string (strL l)]
theorem s1_len (l : List UInt8) : (s1 l).length = 1 := rfl
theorem s1_one (ls : List (List UInt8)) : ∀ c ∈ ls.flatMap s1, c.oneCell' = true := by
  intro c hc
  obtain ⟨l, _, h⟩ := List.mem_flatMap.1 hc
  rw [s1, List.mem_singleton] at h
  subst h; rfl
theorem infoStr : (Tryz.prog.info? 9).map (fun i => (i.zero, i.size, i.bytes)) = some (some (.string ByteArray.empty), 1, 16) := by kernel_rfl
/-- Texts in a row of the call's own. -/
def StrsDone (w : World) (ls : List (List UInt8)) (e : Ending) (w' : World) : Prop :=
  ∃ v, e = .returned v ∧ w'.ownsRow w.heap.size 9 1 v ls.length (ls.flatMap s1) ∧ Below w.heap.size w w'
set_option maxRecDepth 100000 in
set_option maxHeartbeats 4000000 in
theorem refCut_calls (s : ByteArray) (c : UInt8) (w : World) (hs : s.size ≤ 4294967281) :
    Calls Tryz.prog 99 #[.string s, .int .u8 c.toNat] w (StrsDone w (piecesAt c s.data.toList)) := by
  obtain ⟨i0, hi, hz0, hz1, hz2⟩ := info_parts infoStr
  have hlen := size_len s
  obtain ⟨l, hl⟩ : ∃ l, s.data.toList = l := ⟨_, rfl⟩
  have hidx := fun (j : Nat) (x : UInt8) (h : s.data.toList[j]? = some x) => run_index_at h
  have hslc := fun (a b : Nat) (h1 : a ≤ b) (h2 : b ≤ s.size) => run_slice_at (s := s) h1 h2
  rw [hl] at hidx hslc hlen ⊢
  obtain ⟨n, hn⟩ : ∃ n, s.size = n := ⟨_, rfl⟩
  rw [hn] at hslc hlen hs
  have Hidx := Lib.hid hidx
  have Hslc := Lib.hid hslc
  have hni : (n : Int) ≤ 4294967281 := by omega
  have hsz : (s.size : Int) = (n : Int) := by rw [hn]
  have Hlen := Lib.hid hlen
  clear hidx hslc hl hn hlen
  go_enter Tryz.func99, Tryz.ntmps99
  go_wp2
  go_loopw [5, 6, 7] (fun o a i wr => ∃ (j : Nat) (out : List (List UInt8)), j ≤ n + 1 ∧ i = .int .i64 j ∧ wr.ownsRow w.heap.size 9 1 o out.length (out.flatMap s1) ∧ out.length ≤ j ∧ Below w.heap.size w wr ∧
      ((j = n + 1 ∧ out = piecesAt c l) ∨ (∃ b : Nat, j ≤ n ∧ b ≤ j ∧ a = .int .i64 b ∧ piecesAt c (l.take j) = out ++ [(l.take j).drop b]))) (fun _ _ i _ => n + 1 - (intOf i).toNat)
  case atStart => exact ⟨0, [], by omega, rfl, nil_row0 w _ _ _, Nat.le_refl _, Below.refl _ _, .inr ⟨0, Nat.zero_le _, Nat.le_refl _, rfl, rfl⟩⟩
  case round =>
    obtain ⟨j, out, hj, rfl, hown, hol, hbw, hst⟩ := hrel
    by_cases hjn : j ≤ n
    · obtain ⟨b, _, hbj, rfl, hpc⟩ := hst.resolve_left (fun h => by omega)
      have hsl := Hslc.out b j hbj hjn
      obtain ⟨pc, hpcd⟩ : ∃ pc, (l.take j).drop b = pc := ⟨_, rfl⟩
      rw [hpcd] at hsl hpc
      have Hpc := Lib.hid hpc
      have Hpcd := Lib.hid hpcd
      clear hpc hpcd hst
      have hji : (j : Int) ≤ (n : Int) := by omega
      by_cases hje : j = n
      · subst hje
        have hncell := news_new wr (s1 pc) 9 (0, 0)
        have Hncell := Lib.hid hncell
        have hcs1 : ∀ u ∈ s1 pc, u.oneCell' = true := by intro u hu; exact s1_one [pc] u (by simpa using hu)
        have Hcs1 := Lib.hid hcs1
        have hbd1 : out.length + 1 ≤ maxLen := by show out.length + 1 ≤ 9223372036854775807; omega
        have hbd2 : (out.length + 1) * 16 ≤ 140737488355328 := by omega
        have hbd3 : w.heap.size ≤ (wr.alloc (.cells #[.string (strL pc)] 9)).heap.size := by have := hbw.size; simp; omega
        have Hown := Lib.hid hown
        clear hncell hcs1
        go_wp2_with (at_builtin; go_must (refine wpList_append_own _ rfl _ _ 22 rfl w.heap.size 9 i0 _ 1 16 Tryz.underlying22 hi hz0 hz1 hz2 rfl (by decide) _ _ _ rfl (hown.alloc _) ⟨wr.heap.size, 0, none⟩ 1 1 (s1 pc) rfl rfl Hncell.out Hcs1.out hbd1 hbd2 hbd3 ?_); rintro v' w3 hown3 hg3 _)
        have hrow3 : w3.ownsRow w.heap.size 9 1 v' (out ++ [pc]).length ((out ++ [pc]).flatMap s1) := by
          rw [List.length_append, List.flatMap_append, List.flatMap_singleton]; exact hown3
        have hb3 : Below w.heap.size w w3 := Below.grown (hbw.alloc hbw.size _) hg3 (by have := hbw.size; simp; omega) (fun k hk => own_base hown k hk)
        go_roundw
        case rel =>
          refine ⟨j + 1, out ++ [pc], by omega, by simp, hrow3, by simp; omega, hb3, .inl ⟨rfl, ?_⟩⟩
          rw [← Hpc.out, List.take_of_length_le (by rw [← Hlen.out]; exact Nat.le_refl _)]
        case measure => simp [intOf] <;> omega
      · obtain ⟨x, hx⟩ : ∃ x, l[j]? = some x := ⟨_, List.getElem?_eq_getElem (by rw [← Hlen.out]; omega)⟩
        have hix := Hidx.out j x hx
        have hjl : (j : Int) < (n : Int) := by omega
        obtain ⟨ms, m, q1, q2⟩ := pieces_snoc c x (l.take j)
        rw [Hpc.out] at q1
        obtain ⟨hms, hm⟩ := List.append_inj' q1 rfl
        have hm' : pc = m := by simpa using hm
        subst hms
        subst hm'
        rw [← take_snoc hx] at q2
        have Hq2 := Lib.hid q2
        have Hx := Lib.hid hx
        clear q1 q2 hm hx
        by_cases hxc : x = c
        · subst hxc
          have hncell := news_new wr (s1 pc) 9 (0, 0)
          have Hncell := Lib.hid hncell
          have hcs1 : ∀ u ∈ s1 pc, u.oneCell' = true := by intro u hu; exact s1_one [pc] u (by simpa using hu)
          have Hcs1 := Lib.hid hcs1
          have hbd1 : out.length + 1 ≤ maxLen := by show out.length + 1 ≤ 9223372036854775807; omega
          have hbd2 : (out.length + 1) * 16 ≤ 140737488355328 := by omega
          have hbd3 : w.heap.size ≤ (wr.alloc (.cells #[.string (strL pc)] 9)).heap.size := by have := hbw.size; simp; omega
          have Hown := Lib.hid hown
          clear hncell hcs1
          go_wp2_with (at_builtin; go_must (refine wpList_append_own _ rfl _ _ 22 rfl w.heap.size 9 i0 _ 1 16 Tryz.underlying22 hi hz0 hz1 hz2 rfl (by decide) _ _ _ rfl (hown.alloc _) ⟨wr.heap.size, 0, none⟩ 1 1 (s1 pc) rfl rfl Hncell.out Hcs1.out hbd1 hbd2 hbd3 ?_); rintro v' w3 hown3 hg3 _)
          have hrow3 : w3.ownsRow w.heap.size 9 1 v' (out ++ [pc]).length ((out ++ [pc]).flatMap s1) := by
            rw [List.length_append, List.flatMap_append, List.flatMap_singleton]; exact hown3
          have hb3 : Below w.heap.size w w3 := Below.grown (hbw.alloc hbw.size _) hg3 (by have := hbw.size; simp; omega) (fun k hk => own_base hown k hk)
          go_roundw
          case rel =>
            refine ⟨j + 1, out ++ [pc], by omega, by simp, hrow3, by simp; omega, hb3, .inr ⟨j + 1, by omega, Nat.le_refl _, by simp, ?_⟩⟩
            have h := Hq2.out
            rw [if_pos rfl] at h
            rw [h, List.drop_of_length_le (by rw [List.length_take]; omega)]
          case measure => simp [intOf] <;> omega
        · have hne : ¬ ((x.toNat : Int) = (c.toNat : Int)) := fun h => hxc (UInt8.toNat.inj (by omega))
          have hq1 : ((j : Int) == (n : Int)) = false := by simp; omega
          have hq2 : ((x.toNat : Int) == (c.toNat : Int)) = false := by simpa using hne
          have Hxc := Lib.hid hxc
          clear hxc
          go_wp2
          go_roundw
          case rel =>
            refine ⟨j + 1, out, by omega, by simp, hown, by omega, hbw, .inr ⟨b, by omega, by omega, rfl, ?_⟩⟩
            have h := Hq2.out
            rw [if_neg Hxc.out] at h
            rw [h, take_snoc Hx.out, List.drop_append_of_le_length (by rw [List.length_take, ← Hlen.out]; omega), Hpcd.out]
          case measure => simp [intOf] <;> omega
    · obtain ⟨hje, hout⟩ := hst.resolve_right (fun ⟨b, h, _⟩ => hjn h)
      have Hout := Lib.hid hout
      have hji : (n : Int) < (j : Int) := by omega
      clear hout hst hje
      go_wp2
      go_ret
      exact ⟨_, rfl, by rw [← Hout.out]; exact hown, hbw⟩
end Go.Proofs.YtjddicoigbidlaaGreatDoor

set_option linter.unusedSimpArgs false
set_option linter.unusedVariables false
namespace Go.Proofs.YtjddicoigbidlaaGreatDoor
open Go.RowKit
theorem s1_flat (ls : List (List UInt8)) : ls.flatMap s1 = ls.map fun l => Value.string (strL l) := by
  induction ls with
  | nil => rfl
  | cons x xs ih => rw [List.flatMap_cons, ih]; rfl
theorem eq45 (c k : UInt8) : ((c.toNat : Int) == (k.toNat : Int)) = (c == k) := by
  by_cases h : c = k
  · subst h; simp
  · have h1 : ¬ ((c.toNat : Int) = (k.toNat : Int)) := fun e => h (UInt8.toNat.inj (by omega))
    rw [show (c == k) = false by simpa using h]
    simpa using h1
def okB (k c : UInt8) : Bool := plainB c || c == k
theorem only_one (k : UInt8) (l : List UInt8) : onlyB [k] l = l.all (okB k) := by
  unfold onlyB okB
  congr 1
  funext c
  simp
  by_cases h : c = k <;> simp [h]
set_option maxRecDepth 100000 in
set_option maxHeartbeats 8000000 in
theorem refDomain_calls (s : ByteArray) (w : World) (hs : s.size ≤ 4294967280) :
    Calls Tryz.prog 92 #[.string s] w fun e w' => e = .returned (.bool (domainB s.data.toList)) ∧ Below w.heap.size w w' := by
  have hcut := refCut_calls s 46 w (by omega)
  have hlen := size_len s
  have hpos := pieces_pos 46 s.data.toList
  have hple := pieces_le 46 s.data.toList
  have hcnt := count_pieces 46 (s.data.toList.length + 1) s.data.toList (by omega)
  have hcle := Lib.countB_le ⟨#[46]⟩ (by decide) s.size s (Nat.le_refl _)
  have hres : domainB s.data.toList = ((piecesAt 46 s.data.toList).all labelB && decide (s.size ≤ 64)) := by rw [hlen]; rfl
  have hPl : (piecesAt 46 s.data.toList).length ≤ 4294967281 := by
    have : Lib.countB s ⟨#[46]⟩ = Lib.countFrom [46] (s.data.toList.length + 1) s.data.toList := rfl
    omega
  rw [hres]
  generalize piecesAt 46 s.data.toList = ls at hcut hpos hple hPl
  have Hcut := Lib.hid hcut
  have Hple := Lib.hid hple
  have Hlen := Lib.hid hlen
  clear hcut hple hlen hcnt hcle hres
  have hPi : (ls.length : Int) ≤ 4294967281 := by omega
  go_enter Tryz.func92, Tryz.ntmps92
  go_wp2_with fail
  refine (Hcut.out).mono ?_; rintro e w1 ⟨v, rfl, hown, hb1⟩
  obtain ⟨g, cap, rfl, _, _, _, _⟩ := own_form hown hpos
  have hcell : ∀ (j : Nat) x, ls[j]? = some x → w1.cell? ⟨g, j, none⟩ = some (.string (strL x)) := by
    intro j x hx
    rw [hown.cellAt j (by have := (List.getElem?_eq_some_iff.1 hx).1; omega), s1_flat, List.getElem?_map, hx]; rfl
  have Hcell := Lib.hid hcell
  clear hcell hown
  go_wp2
  go_loop [4] (fun i => ∃ j : Nat, j ≤ ls.length ∧ i = .int .i64 j ∧ (ls.take j).all labelB = true) (fun i => ls.length - (intOf i).toNat)
  case atStart => exact ⟨0, Nat.zero_le _, rfl, rfl⟩
  case round =>
    obtain ⟨j, hj, rfl, hall⟩ := hrel
    by_cases hlt : j < ls.length
    · obtain ⟨x, hx⟩ : ∃ x, ls[j]? = some x := ⟨_, List.getElem?_eq_getElem hlt⟩
      have hc := Hcell.out j x hx
      have hxl := Hple.out x (List.mem_of_getElem? hx)
      have hsx := strL_size x
      have htk : labelB x = true → (ls.take (j + 1)).all labelB = true := fun h => by rw [take_snoc hx, List.all_append, hall]; simpa using h
      have hno : labelB x = false → (ls.all labelB && decide (s.size ≤ 64)) = false := by
        intro h
        have : ls.all labelB = false := by rw [List.all_eq_false]; exact ⟨x, List.mem_of_getElem? hx, by rw [h]; simp⟩
        rw [this]; rfl
      have Htk := Lib.hid htk
      have Hno := Lib.hid hno
      have hidx : ∀ (k : Nat) (c : UInt8), x[k]? = some c → ∀ W, (Instr.index 9 (.string (strL x)) (.int .i64 (k : Int))).run Tryz.prog W = .ok (.int .u8 c.toNat) W := fun k c h => run_index_at (by rw [strL_data]; exact h)
      have Hidx := Lib.hid hidx
      have hj0 : (0 : Int) ≤ (j : Int) := by omega
      have hj1 : (j : Int) < (ls.length : Int) := by omega
      have hxs : x.length ≤ 4294967280 := by have := Hlen.out; omega
      clear hidx htk hno hall hx hxl
      generalize hsd : strL x = sx at hc hsx Hidx
      clear hsd
      by_cases h0 : x.length = 0
      · have hlab : labelB x = false := by unfold labelB; rw [decide_eq_false (by omega)]; rfl
        have Hr := Lib.hid (Hno.out hlab)
        rw [h0] at hsx
        clear hlab h0
        go_wp2
        go_ret
        exact ⟨by rw [Hr.out]; rfl, hb1⟩
      · obtain ⟨n, hm⟩ : ∃ n, x.length = n := ⟨_, rfl⟩
        rw [hm] at hsx hxs h0
        have hmi : (n : Int) ≤ 4294967280 := by omega
        have hn1 : (1 : Int) ≤ (n : Int) := by omega
        clear hxs
        by_cases h32 : (32 : Int) < (n : Int)
        · have hlab : labelB x = false := by unfold labelB; rw [decide_eq_false (by omega)]; rfl
          have Hr := Lib.hid (Hno.out hlab)
          clear hlab h0 hm
          go_wp2
          go_ret
          exact ⟨by rw [Hr.out]; rfl, hb1⟩
        · obtain ⟨c0, hc0⟩ : ∃ c, x[0]? = some c := ⟨_, List.getElem?_eq_getElem (by omega)⟩
          obtain ⟨c1, hc1⟩ : ∃ c, x[n - 1]? = some c := ⟨_, List.getElem?_eq_getElem (by omega)⟩
          have hi0 : ∀ W, (Instr.index 9 (.string sx) (.int .i64 0)).run Tryz.prog W = .ok (.int .u8 c0.toNat) W := Hidx.out 0 c0 hc0
          have hi1 : ∀ W, (Instr.index 9 (.string sx) (.int .i64 ((n : Int) - 1))).run Tryz.prog W = .ok (.int .u8 c1.toNat) W := by
            have h := Hidx.out (n - 1) c1 hc1
            rw [show ((n - 1 : Nat) : Int) = (n : Int) - 1 by omega] at h
            exact h
          have hq0 : ((c0.toNat : Int) == 45) = (c0 == 45) := eq45 c0 45
          have hq1 : ((c1.toNat : Int) == 45) = (c1 == 45) := eq45 c1 45
          have hends : endsB 45 x = (c0 == 45 || c1 == 45) := by
            unfold endsB
            rw [List.head?_eq_getElem?, hc0, List.getLast?_eq_getElem?, hm, hc1]; rfl
          have hlab : labelB x = (x.all (okB 45) && !(c0 == 45 || c1 == 45)) := by
            unfold labelB
            rw [decide_eq_true (by omega), only_one, hends]; simp
          have hlab2 : labelB x = (x.all (okB 45) && !(c0 == 45 || c1 == 45)) := hlab
          have Hlab := Lib.hid hlab2
          clear hlab hlab2 hends hc0 hc1 h0
          cases hv0 : (c0 == 45)
          · cases hv1 : (c1 == 45)
            · rw [hv0] at hq0
              rw [hv1] at hq1
              have hlx : labelB x = x.all (okB 45) := by rw [Hlab.out, hv0, hv1]; simp
              have Hlx := Lib.hid hlx
              have Hm := Lib.hid hm
              clear hlx hv0 hv1 hm Hlab
              go_wp2
              go_loop [6] (fun i => ∃ k : Nat, k ≤ n ∧ i = .int .i64 k ∧ (x.take k).all (okB 45) = true) (fun i => n - (intOf i).toNat)
              case atStart => exact ⟨0, Nat.zero_le _, rfl, rfl⟩
              case round =>
                obtain ⟨k, hk, rfl, hka⟩ := hrel
                by_cases hkl : k < n
                · obtain ⟨c, hcx⟩ : ∃ c, x[k]? = some c := ⟨_, List.getElem?_eq_getElem (by rw [Hm.out]; exact hkl)⟩
                  have hik := Hidx.out k c hcx
                  have hpl := fun W => refPlain_calls c W
                  have hqc : ((c.toNat : Int) == 45) = (c == 45) := eq45 c 45
                  have hstep : okB 45 c = true → (x.take (k + 1)).all (okB 45) = true := fun h => by rw [take_snoc hcx, List.all_append, hka]; simpa using h
                  have hbad : okB 45 c = false → x.all (okB 45) = false := fun h => by rw [List.all_eq_false]; exact ⟨c, List.mem_of_getElem? hcx, by rw [h]; simp⟩
                  unfold okB at hstep hbad
                  have Hstep := Lib.hid hstep
                  have Hbad := Lib.hid hbad
                  have hki : (k : Int) < (n : Int) := by omega
                  clear hstep hbad hcx hka
                  generalize plainB c = p at hpl Hstep Hbad
                  have Hpl := Lib.hid hpl
                  clear hpl
                  cases p
                  · cases hvc : (c == 45)
                    · rw [hvc] at hqc
                      have hres : x.all (okB 45) = false := Hbad.out (by rw [hvc]; rfl)
                      have Hr := Lib.hid (Hno.out (by rw [Hlx.out]; exact hres))
                      clear hres hvc
                      go_wp2_with fail
                      refine (Hpl.out _).mono ?_; rintro e w2 ⟨rfl, rfl⟩
                      go_wp2
                      go_ret
                      exact ⟨by rw [Hr.out]; rfl, hb1⟩
                    · rw [hvc] at hqc
                      have Hn := Lib.hid (Hstep.out (by rw [hvc]; rfl))
                      clear hvc
                      go_wp2_with fail
                      refine (Hpl.out _).mono ?_; rintro e w2 ⟨rfl, rfl⟩
                      go_wp2
                      go_round
                      case rel => exact ⟨k + 1, by omega, by go_num, Hn.out⟩
                      case measure => simp [intOf] <;> omega
                  · have Hn := Lib.hid (Hstep.out (by rfl))
                    go_wp2_with fail
                    refine (Hpl.out _).mono ?_; rintro e w2 ⟨rfl, rfl⟩
                    go_wp2
                    go_round
                    case rel => exact ⟨k + 1, by omega, by go_num, Hn.out⟩
                    case measure => simp [intOf] <;> omega
                · have hke : k = n := by omega
                  subst hke
                  rw [List.take_of_length_le (by rw [Hm.out]; exact Nat.le_refl _)] at hka
                  have Hn := Lib.hid (Htk.out (by rw [Hlx.out]; exact hka))
                  clear hka
                  go_wp2
                  go_round
                  case rel => exact ⟨j + 1, by omega, by go_num, Hn.out⟩
                  case measure => simp [intOf] <;> omega
            · rw [hv0] at hq0
              rw [hv1] at hq1
              have Hr := Lib.hid (Hno.out (by rw [Hlab.out, hv0, hv1]; simp))
              clear hv0 hv1 hm
              go_wp2
              go_ret
              exact ⟨by rw [Hr.out]; rfl, hb1⟩
          · rw [hv0] at hq0
            have Hr := Lib.hid (Hno.out (by rw [Hlab.out, hv0]; simp))
            clear hv0 hm hq1
            go_wp2
            go_ret
            exact ⟨by rw [Hr.out]; rfl, hb1⟩
    · have hje : j = ls.length := by omega
      subst hje
      rw [List.take_of_length_le (Nat.le_refl _)] at hall
      have Hall := Lib.hid hall
      clear hall
      by_cases h64 : (s.size : Int) ≤ 64
      · go_wp2
        go_ret
        exact ⟨by rw [Hall.out, decide_eq_true (by omega)]; rfl, hb1⟩
      · go_wp2
        go_ret
        exact ⟨by rw [Hall.out, decide_eq_false (by omega)]; rfl, hb1⟩
end Go.Proofs.YtjddicoigbidlaaGreatDoor

set_option linter.unusedSimpArgs false
set_option linter.unusedVariables false
namespace Go.Proofs.YtjddicoigbidlaaGreatDoor
open Go.RowKit
def dotBad (l : List UInt8) (i : Nat) : Prop := l[i]? = some 46 ∧ (i = 0 ∨ i + 1 = l.length ∨ l[i - 1]? = some 46)
theorem twoB_iff (x : UInt8) (l : List UInt8) : twoB x l = true ↔ ∃ i : Nat, l[i]? = some x ∧ l[i + 1]? = some x := by
  induction l with
  | nil => simp [twoB]
  | cons a r ih =>
    cases r with
    | nil => simp [twoB]
    | cons b r =>
      rw [twoB, Bool.or_eq_true, ih]
      constructor
      · rintro (h | ⟨i, h1, h2⟩)
        · rw [Bool.and_eq_true] at h
          exact ⟨0, by simpa using h.1, by simpa using h.2⟩
        · exact ⟨i + 1, by simpa using h1, by simpa using h2⟩
      · rintro ⟨i, h1, h2⟩
        cases i with
        | zero => left; rw [Bool.and_eq_true]; exact ⟨by simpa using h1, by simpa using h2⟩
        | succ i => right; exact ⟨i, by simpa using h1, by simpa using h2⟩
theorem ends_iff (x : UInt8) (l : List UInt8) : endsB x l = true ↔ l[0]? = some x ∨ (0 < l.length ∧ l[l.length - 1]? = some x) := by
  unfold endsB
  rw [Bool.or_eq_true, List.head?_eq_getElem?, List.getLast?_eq_getElem?, beq_iff_eq, beq_iff_eq]
  constructor
  · rintro (h | h)
    · exact .inl h
    · refine .inr ⟨?_, h⟩
      have := (List.getElem?_eq_some_iff.1 h).1
      omega
  · rintro (h | ⟨_, h⟩)
    · exact .inl h
    · exact .inr h
def okL (c : UInt8) : Bool := plainB c || ([46, 95, 43, 45] : List UInt8).contains c
theorem local_bad {l : List UInt8} {i : Nat} (h : dotBad l i) : localB l = false := by
  have : endsB 46 l = true ∨ twoB 46 l = true := by
    obtain ⟨h1, h2 | h2 | h2⟩ := h
    · subst h2; exact .inl ((ends_iff _ _).2 (.inl h1))
    · refine .inl ((ends_iff _ _).2 (.inr ⟨by omega, ?_⟩))
      rw [show l.length - 1 = i by omega]; exact h1
    · by_cases h0 : i = 0
      · subst h0; exact .inl ((ends_iff _ _).2 (.inl h1))
      · exact .inr ((twoB_iff _ _).2 ⟨i - 1, h2, by rw [show i - 1 + 1 = i by omega]; exact h1⟩)
  unfold localB
  rcases this with h | h <;> simp [h]
theorem local_char {l : List UInt8} {i : Nat} {c : UInt8} (hc : l[i]? = some c) (h : okL c = false) : localB l = false := by
  have : onlyB [46, 95, 43, 45] l = false := onlyB_false hc h
  unfold localB; simp [this]
theorem local_good {l : List UInt8} (h : ∀ (i : Nat) c, l[i]? = some c → okL c = true ∧ ¬ dotBad l i) : localB l = decide (1 ≤ l.length ∧ l.length ≤ 32) := by
  have h1 : onlyB [46, 95, 43, 45] l = true := by
    unfold onlyB; rw [List.all_eq_true]
    intro c hc
    obtain ⟨i, hi⟩ := List.getElem?_of_mem hc
    exact (h i c hi).1
  have h2 : endsB 46 l = false := by
    cases he : endsB 46 l with
    | false => rfl
    | true =>
      rcases (ends_iff _ _).1 he with h3 | ⟨h4, h3⟩
      · exact absurd ⟨h3, .inl rfl⟩ (h 0 46 h3).2
      · exact absurd ⟨h3, .inr (.inl (by omega))⟩ (h _ 46 h3).2
  have h3 : twoB 46 l = false := by
    cases he : twoB 46 l with
    | false => rfl
    | true =>
      obtain ⟨i, h4, h5⟩ := (twoB_iff _ _).1 he
      exact absurd ⟨h5, .inr (.inr (by simpa using h4))⟩ (h (i + 1) 46 h5).2
  unfold localB
  rw [h1, h2, h3]; simp
theorem eqB (c k : UInt8) : ((c.toNat : Int) == (k.toNat : Int)) = (c == k) := eq45 c k
set_option maxRecDepth 100000 in
set_option maxHeartbeats 8000000 in
theorem refLocal_calls (s : ByteArray) (w : World) (hs : s.size ≤ 4294967280) :
    Calls Tryz.prog 91 #[.string s] w fun e w' => e = .returned (.bool (localB s.data.toList)) ∧ w' = w := by
  have hlen := size_len s
  have hidx := fun (j : Nat) (x : UInt8) (h : s.data.toList[j]? = some x) => run_index_at h
  obtain ⟨l, hl⟩ : ∃ l, s.data.toList = l := ⟨_, rfl⟩
  rw [hl] at hidx hlen ⊢
  obtain ⟨n, hn⟩ : ∃ n, l.length = n := ⟨_, rfl⟩
  rw [hn] at hlen
  rw [hlen] at hs
  have Hidx := Lib.hid hidx
  have Hn := Lib.hid hn
  have hni : (n : Int) ≤ 4294967280 := by omega
  clear hidx hl hn hs
  go_enter Tryz.func91, Tryz.ntmps91
  go_wp2
  go_loop [3] (fun i => ∃ j : Nat, j ≤ n ∧ i = .int .i64 j ∧ (∀ (k : Nat) c, k < j → l[k]? = some c → okL c = true ∧ ¬ dotBad l k)) (fun i => n - (intOf i).toNat)
  case atStart => exact ⟨0, Nat.zero_le _, rfl, fun k c hk => absurd hk (Nat.not_lt_zero _)⟩
  case round =>
    obtain ⟨j, hj, rfl, hinv⟩ := hrel
    by_cases hlt : j < n
    · obtain ⟨c, hc⟩ : ∃ c, l[j]? = some c := ⟨_, List.getElem?_eq_getElem (by rw [Hn.out]; exact hlt)⟩
      have hix := Hidx.out j c hc
      have hnext : okL c = true → ¬ dotBad l j → ∀ (k : Nat) c, k < j + 1 → l[k]? = some c → okL c = true ∧ ¬ dotBad l k := by
        intro h1 h2 k c' hk hc'
        rcases (by omega : k < j ∨ k = j) with h | rfl
        · exact hinv k c' h hc'
        · rw [hc] at hc'; cases hc'; exact ⟨h1, h2⟩
      have Hnext := Lib.hid hnext
      have hbad : dotBad l j → localB l = false := local_bad
      have hchr : okL c = false → localB l = false := local_char hc
      have Hbad := Lib.hid hbad
      have Hchr := Lib.hid hchr
      have Hc := Lib.hid hc
      have hj0 : (0 : Int) ≤ (j : Int) := by omega
      have hj1 : (j : Int) < (n : Int) := by omega
      have q46 : ((c.toNat : Int) == 46) = (c == 46) := eqB c 46
      have q95 : ((c.toNat : Int) == 95) = (c == 95) := eqB c 95
      have q43 : ((c.toNat : Int) == 43) = (c == 43) := eqB c 43
      have q45 : ((c.toNat : Int) == 45) = (c == 45) := eqB c 45
      have hpl := fun W => refPlain_calls c W
      have hok : okL c = (plainB c || (c == 46 || (c == 95 || (c == 43 || c == 45)))) := by
        unfold okL
        rw [List.contains_cons, List.contains_cons, List.contains_cons, List.contains_cons, List.contains_nil, Bool.or_false]
      have Hok := Lib.hid hok
      clear hnext hbad hchr hc hinv hok
      generalize plainB c = p at hpl Hok
      have Hpl := Lib.hid hpl
      clear hpl
      cases v46 : (c == 46)
      · have hnd : ¬ dotBad l j := fun h => by
          have := h.1; rw [Hc.out] at this; cases this; revert v46; decide
        rw [v46] at q46
        have rq46 : ((c.toNat : Int) != 46) = true := by rw [bne, q46]; rfl
        have Hnd := Lib.hid hnd
        clear hnd
        cases p
        · cases v95 : (c == 95)
          · rw [v95] at q95
            have rq95 : ((c.toNat : Int) != 95) = true := by rw [bne, q95]; rfl
            cases v43 : (c == 43)
            · rw [v43] at q43
              have rq43 : ((c.toNat : Int) != 43) = true := by rw [bne, q43]; rfl
              cases v45 : (c == 45)
              · rw [v45] at q45
                have rq45 : ((c.toNat : Int) != 45) = true := by rw [bne, q45]; rfl
                have Hr := Lib.hid (Hchr.out (by rw [Hok.out, v46, v95, v43, v45]; rfl))
                clear v46 v95 v43 v45
                go_wp2_with fail
                refine (Hpl.out _).mono ?_; rintro e w2 ⟨rfl, rfl⟩
                go_wp2
                go_ret
                exact ⟨by rw [Hr.out]; rfl, rfl⟩
              · rw [v45] at q45
                have rq45 : ((c.toNat : Int) != 45) = false := by rw [bne, q45]; rfl
                have Hr := Lib.hid (Hnext.out (by rw [Hok.out, v45]; simp) Hnd.out)
                clear v46 v95 v43 v45
                go_wp2_with fail
                refine (Hpl.out _).mono ?_; rintro e w2 ⟨rfl, rfl⟩
                go_wp2
                go_round
                case rel => exact ⟨j + 1, by omega, by go_num, Hr.out⟩
                case measure => simp [intOf] <;> omega
            · rw [v43] at q43
              have rq43 : ((c.toNat : Int) != 43) = false := by rw [bne, q43]; rfl
              have Hr := Lib.hid (Hnext.out (by rw [Hok.out, v43]; simp) Hnd.out)
              clear v46 v95 v43 q45
              go_wp2_with fail
              refine (Hpl.out _).mono ?_; rintro e w2 ⟨rfl, rfl⟩
              go_wp2
              go_round
              case rel => exact ⟨j + 1, by omega, by go_num, Hr.out⟩
              case measure => simp [intOf] <;> omega
          · rw [v95] at q95
            have rq95 : ((c.toNat : Int) != 95) = false := by rw [bne, q95]; rfl
            have Hr := Lib.hid (Hnext.out (by rw [Hok.out, v95]; simp) Hnd.out)
            clear v46 v95 q43 q45
            go_wp2_with fail
            refine (Hpl.out _).mono ?_; rintro e w2 ⟨rfl, rfl⟩
            go_wp2
            go_round
            case rel => exact ⟨j + 1, by omega, by go_num, Hr.out⟩
            case measure => simp [intOf] <;> omega
        · have Hr := Lib.hid (Hnext.out (by rw [Hok.out]; rfl) Hnd.out)
          clear v46 q95 q43 q45
          go_wp2_with fail
          refine (Hpl.out _).mono ?_; rintro e w2 ⟨rfl, rfl⟩
          go_wp2
          go_round
          case rel => exact ⟨j + 1, by omega, by go_num, Hr.out⟩
          case measure => simp [intOf] <;> omega
      · have hc46 : c = 46 := by simpa using v46
        rw [v46] at q46
        have rq46 : ((c.toNat : Int) != 46) = false := by rw [bne, q46]; rfl
        have hcl : l[j]? = some 46 := by rw [← hc46]; exact Hc.out
        have Hcl := Lib.hid hcl
        have Hok2 := Lib.hid (show okL c = true by rw [Hok.out, v46]; simp)
        clear v46 hc46 hcl q95 q43 q45
        by_cases hz : j = 0
        · have Hr := Lib.hid (Hbad.out ⟨Hcl.out, .inl hz⟩)
          have hz1 : ((j : Int) == 0) = true := by simpa using hz
          clear hz
          go_wp2
          go_ret
          exact ⟨by rw [Hr.out]; rfl, rfl⟩
        · have hz1 : ((j : Int) == 0) = false := by simpa using hz
          have hj2 : (1 : Int) ≤ (j : Int) := by omega
          by_cases hlast : j + 1 = n
          · have Hr := Lib.hid (Hbad.out ⟨Hcl.out, .inr (.inl (by rw [Hn.out]; exact hlast))⟩)
            have hz2 : ((j : Int) == (n : Int) - 1) = true := by simp; omega
            clear hlast hz
            go_wp2
            go_ret
            exact ⟨by rw [Hr.out]; rfl, rfl⟩
          · have hz2 : ((j : Int) == (n : Int) - 1) = false := by simp; omega
            obtain ⟨d, hd⟩ : ∃ d, l[j - 1]? = some d := ⟨_, List.getElem?_eq_getElem (by rw [Hn.out]; omega)⟩
            have hip : ∀ W, (Instr.index 9 (.string s) (.int .i64 ((j : Int) - 1))).run Tryz.prog W = .ok (.int .u8 d.toNat) W := by
              have h := Hidx.out (j - 1) d hd
              rw [show ((j - 1 : Nat) : Int) = (j : Int) - 1 by omega] at h
              exact h
            have qd : ((d.toNat : Int) == 46) = (d == 46) := eqB d 46
            cases vd : (d == 46)
            · have hnd : ¬ dotBad l j := by
                rintro ⟨_, h | h | h⟩
                · exact hz h
                · exact hlast (by rw [← Hn.out]; exact h)
                · rw [hd] at h; cases h; revert vd; decide
              have Hr := Lib.hid (Hnext.out Hok2.out hnd)
              rw [vd] at qd
              have rqd : ((d.toNat : Int) != 46) = true := by rw [bne, qd]; rfl
              clear hnd vd hd hlast hz
              cases p
              · go_wp2_with fail
                refine (Hpl.out _).mono ?_; rintro e w2 ⟨rfl, rfl⟩
                go_wp2
                go_round
                case rel => exact ⟨j + 1, by omega, by go_num, Hr.out⟩
                case measure => simp [intOf] <;> omega
              · go_wp2_with fail
                refine (Hpl.out _).mono ?_; rintro e w2 ⟨rfl, rfl⟩
                go_wp2
                go_round
                case rel => exact ⟨j + 1, by omega, by go_num, Hr.out⟩
                case measure => simp [intOf] <;> omega
            · have hd46 : d = 46 := by simpa using vd
              have Hr := Lib.hid (Hbad.out ⟨Hcl.out, .inr (.inr (by rw [hd, hd46]))⟩)
              rw [vd] at qd
              have rqd : ((d.toNat : Int) != 46) = false := by rw [bne, qd]; rfl
              clear hd46 vd hd hlast hz
              go_wp2
              go_ret
              exact ⟨by rw [Hr.out]; rfl, rfl⟩
    · have hje : j = n := by omega
      subst hje
      have hres : localB l = decide (1 ≤ j ∧ j ≤ 32) := by
        rw [← Hn.out]
        exact local_good fun i c hc => hinv i c (by rw [← Hn.out]; exact (List.getElem?_eq_some_iff.1 hc).1) hc
      have Hres := Lib.hid hres
      clear hres hinv
      by_cases h1 : (1 : Int) ≤ (j : Int)
      · by_cases h32 : (j : Int) ≤ 32
        · go_wp2
          go_ret
          exact ⟨by rw [Hres.out, decide_eq_true (by omega)]; rfl, rfl⟩
        · go_wp2
          go_ret
          exact ⟨by rw [Hres.out, decide_eq_false (by omega)]; rfl, rfl⟩
      · go_wp2
        go_ret
        exact ⟨by rw [Hres.out, decide_eq_false (by omega)]; rfl, rfl⟩
end Go.Proofs.YtjddicoigbidlaaGreatDoor

set_option linter.unusedSimpArgs false
set_option linter.unusedVariables false
namespace Go.Proofs.YtjddicoigbidlaaGreatDoor
open Go.RowKit
/-- Bytes that were made of a text. -/
def BytesRow (w : World) (g : Nat) (bs : List UInt8) : Prop :=
  ∃ cs : Array Value, w.heap[g]? = some (.cells cs 5 (cs.size, cs.size + 1)) ∧ bs.length ≤ cs.size ∧ ∀ (i : Nat) x, bs[i]? = some x → cs[i]? = some (u8v x)
theorem BytesRow.cell {w : World} {g : Nat} {bs : List UInt8} (h : BytesRow w g bs) {i : Nat} {x : UInt8} (hx : bs[i]? = some x) :
    w.cell? ⟨g, i, none⟩ = some (.int .u8 x.toNat) ∧ w.frozen? ⟨g, i, none⟩ = false := by
  obtain ⟨cs, h1, h2, h3⟩ := h
  have hi := (List.getElem?_eq_some_iff.1 hx).1
  refine ⟨?_, ?_⟩
  · rw [cell_of_row _ _ _ _ _ _ h1]; exact h3 i x hx
  · unfold World.frozen?
    rw [h1]
    simp only [Bool.and_eq_false_iff, decide_eq_false_iff_not]
    left; omega
theorem BytesRow.store {w : World} {g : Nat} {bs : List UInt8} (h : BytesRow w g bs) (i : Nat) (x : UInt8) : BytesRow (w.setCell ⟨g, i, none⟩ (u8v x)) g (bs.set i x) := by
  obtain ⟨cs, h1, h2, h3⟩ := h
  refine ⟨cs.setIfInBounds i (u8v x), ?_, ?_, ?_⟩
  · rw [setCell_eq_setRow w g i cs 5 _ _ h1, Array.size_setIfInBounds]
    exact setRow_heap w g cs _ 5 _ h1
  · rw [List.length_set, Array.size_setIfInBounds]; exact h2
  · intro k y hy
    rw [List.getElem?_set] at hy
    rw [Array.getElem?_setIfInBounds]
    split at hy
    · next e =>
      subst e
      split at hy
      · next hlt =>
        cases hy
        rw [if_pos rfl, if_pos (by omega)]
      · cases hy
    · next e =>
      rw [if_neg e]; exact h3 k y hy
theorem BytesRow.str {w : World} {g cap : Nat} {bs : List UInt8} (h : BytesRow w g bs) : (convert 23 9 (.slice (some ⟨g, 0, none⟩) bs.length cap)).run Tryz.prog w = .ok (.string (strL bs)) w := by
  have := run_convert_bytes_arg (P := Tryz.prog) w 23 5 Tryz.underlying23 Tryz.underlying5 g 0 bs.length cap (bs.map fun x => (x.toNat : Int)) (by simp) (fun i hi => by
    rw [Nat.zero_add, (h.cell (List.getElem?_eq_getElem hi)).1]
    simp [List.getD, List.getElem?_eq_getElem hi]) 9 Tryz.underlying9
  rw [this]
  have e : strOfNums (bs.map fun x => (x.toNat : Int)) = strL bs := by simp [strL, strOfNums, Function.comp_def]
  rw [e]
theorem set_same {α : Type} {l : List α} {i : Nat} {a : α} (h : l[i]? = some a) : l.set i a = l := by
  apply List.ext_getElem?
  intro k
  rw [List.getElem?_set]
  split
  · next e => subst e; rw [h, if_pos (List.getElem?_eq_some_iff.1 h).1]
  · rfl
set_option maxRecDepth 100000 in
set_option maxHeartbeats 8000000 in
theorem refSmall_calls (l : List UInt8) (w : World) (hs : l.length ≤ 4294967280) :
    Calls Tryz.prog 93 #[.string (strL l)] w fun e w' => e = .returned (.string (strL (Lib.toLowerA l))) ∧ Below w.heap.size w w' := by
  have hconv : ∃ C W, (convert 9 23 (.string (strL l))).run Tryz.prog w = .ok (.slice (some ⟨w.heap.size, 0, none⟩) l.length C) W ∧ BytesRow W w.heap.size l ∧ Below w.heap.size w W ∧ l.length ≤ C := by
    have h := run_bytes_of_string (P := Tryz.prog) w 9 23 5 (strL l) Tryz.underlying9 Tryz.underlying23 Tryz.underlying5
    rw [strL_size] at h
    refine ⟨_, _, h, ⟨_, heap_alloc_new w.drew _, ?_, ?_⟩, (Below.refl _ _).drew.alloc (Nat.le_refl _) _, grownCap_ge _ _ _ _⟩
    · simp [bytesRow, strL] <;> omega
    · intro i x hx
      have hi := (List.getElem?_eq_some_iff.1 hx).1
      have h2 := bytesRow_at (strL l) (grownCap w l.length 0 5) i (by simp [strL]; exact hi)
      rw [h2]
      have : (strL l).data[i]'(by simp [strL]; exact hi) = x := by
        have := (List.getElem?_eq_some_iff.1 hx).2
        simp [strL, this]
      rw [this]
  obtain ⟨C, W, hrun, hrow, hbW, hC⟩ := hconv
  obtain ⟨n, hn⟩ : ∃ n, l.length = n := ⟨_, rfl⟩
  rw [hn] at hrun hC hs
  have hni : (n : Int) ≤ 4294967280 := by omega
  have Hn := Lib.hid hn
  clear hn
  have hlow : ∀ (j : Nat) c, l[j]? = some c → (Lib.toLowerA l)[j]? = some (Lib.lowerB c) := fun j c h => by rw [Lib.toLowerA, List.getElem?_map, h]; rfl
  go_enter Tryz.func93, Tryz.ntmps93
  go_wp2
  go_loopw [4] (fun i wr => ∃ j : Nat, j ≤ n ∧ i = .int .i64 j ∧ BytesRow wr w.heap.size ((Lib.toLowerA l).take j ++ l.drop j) ∧ Below w.heap.size w wr) (fun i _ => n - (intOf i).toNat)
  case atStart => exact ⟨0, Nat.zero_le _, rfl, hrow, hbW⟩
  case round =>
    obtain ⟨j, hj, rfl, hrw, hbw⟩ := hrel
    have hll : (Lib.toLowerA l).length = n := by rw [Lib.toLowerA, List.length_map]; exact Hn.out
    by_cases hlt : j < n
    · obtain ⟨c, hc⟩ : ∃ c, l[j]? = some c := ⟨_, List.getElem?_eq_getElem (by rw [Hn.out]; exact hlt)⟩
      have hat : ((Lib.toLowerA l).take j ++ l.drop j)[j]? = some c := by
        rw [List.getElem?_append_right (by rw [List.length_take]; omega), List.length_take, hll, Nat.min_eq_left hj, Nat.sub_self, List.getElem?_drop, Nat.add_zero, hc]
      obtain ⟨hcell, hfz⟩ := hrw.cell hat
      have hnx : ∀ x, Lib.lowerB c = x → ((Lib.toLowerA l).take j ++ l.drop j).set j x = (Lib.toLowerA l).take (j + 1) ++ l.drop (j + 1) := by
        intro x hx
        rw [List.set_append_right _ _ (by rw [List.length_take]; omega), List.length_take, hll, Nat.min_eq_left hj, Nat.sub_self]
        rw [show l.drop j = c :: l.drop (j + 1) by rw [List.drop_eq_getElem_cons (by rw [Hn.out]; exact hlt)]; congr 1; exact (List.getElem?_eq_some_iff.1 hc).2]
        rw [take_snoc (hlow j c hc), hx]; simp
      have hsame : Lib.lowerB c = c → (Lib.toLowerA l).take j ++ l.drop j = (Lib.toLowerA l).take (j + 1) ++ l.drop (j + 1) := by
        intro h
        rw [← hnx c h]
        exact (set_same hat).symm
      have hcn := c.toNat_lt
      have hj0 : (0 : Int) ≤ (j : Int) := by omega
      have hj1 : (j : Int) < (n : Int) := by omega
      have hlb : Lib.lowerB c = if 65 ≤ c.toNat ∧ c.toNat ≤ 90 then c + 32 else c := by
        unfold Lib.lowerB Lib.isUpperB
        by_cases h : 65 ≤ c.toNat ∧ c.toNat ≤ 90
        · rw [if_pos h, if_pos]
          simp only [Bool.and_eq_true, decide_eq_true_eq, UInt8.le_iff_toNat_le]
          exact ⟨h.1, h.2⟩
        · rw [if_neg h, if_neg]
          simp only [Bool.and_eq_true, decide_eq_true_eq, UInt8.le_iff_toNat_le]
          exact h
      have Hnx := Lib.hid hnx
      have Hsame := Lib.hid hsame
      have Hlb := Lib.hid hlb
      have Hrw := Lib.hid hrw
      clear hnx hsame hlb hat hc hll hrw hrow hrun
      by_cases h65 : (65 : Int) ≤ (c.toNat : Int)
      · by_cases h90 : (c.toNat : Int) ≤ 90
        · have hup : Lib.lowerB c = c + 32 := by rw [Hlb.out, if_pos ⟨by omega, by omega⟩]
          have hadd : (c.toNat : Int) + 32 = ((c + 32).toNat : Int) := by
            rw [UInt8.toNat_add]
            have : (32 : UInt8).toNat = 32 := rfl
            rw [this, Nat.mod_eq_of_lt (by omega)]; omega
          have Hadd := Lib.hid hadd
          have Hup := Lib.hid hup
          clear hadd hup
          go_wp2
          go_roundw
          case rel =>
            refine ⟨j + 1, by omega, by simp, ?_, hbw.setCell (by exact Nat.le_refl _) _⟩
            rw [← Hnx.out _ Hup.out, Hadd.out]
            exact Hrw.out.store j (c + 32)
          case measure => simp [intOf] <;> omega
        · have hup : Lib.lowerB c = c := by rw [Hlb.out, if_neg (by omega)]
          have Hup := Lib.hid hup
          clear hup
          go_wp2
          go_roundw
          case rel => exact ⟨j + 1, by omega, by simp, by rw [← Hsame.out Hup.out]; exact Hrw.out, hbw⟩
          case measure => simp [intOf] <;> omega
      · have hup : Lib.lowerB c = c := by rw [Hlb.out, if_neg (by omega)]
        have Hup := Lib.hid hup
        clear hup
        go_wp2
        go_roundw
        case rel => exact ⟨j + 1, by omega, by simp, by rw [← Hsame.out Hup.out]; exact Hrw.out, hbw⟩
        case measure => simp [intOf] <;> omega
    · have hje : j = n := by omega
      subst hje
      rw [List.take_of_length_le (by omega), List.drop_of_length_le (by rw [Hn.out]; exact Nat.le_refl _), List.append_nil] at hrw
      have hst := hrw.str (cap := C)
      rw [hll] at hst
      clear hrw hll hrow hrun
      go_wp2
      go_ret
      exact ⟨rfl, hbw⟩
end Go.Proofs.YtjddicoigbidlaaGreatDoor

set_option linter.unusedSimpArgs false
set_option linter.unusedVariables false
namespace Go.Proofs.YtjddicoigbidlaaGreatDoor
open Go.RowKit
theorem cutAt_none {c : UInt8} {l : List UInt8} (h : ∀ k : Nat, l[k]? ≠ some c) : cutAt c l = none := by
  induction l with
  | nil => rfl
  | cons x xs ih =>
    have hx : ¬ x = c := fun e => h 0 (by simp [e])
    rw [cutAt, if_neg hx, ih (fun k => by simpa using h (k + 1))]; rfl
theorem cutAt_first {c : UInt8} : ∀ {l : List UInt8} {i : Nat}, l[i]? = some c → (∀ k : Nat, k < i → l[k]? ≠ some c) → cutAt c l = some (l.take i, l.drop (i + 1)) := by
  intro l
  induction l with
  | nil => intro i h; cases h
  | cons x xs ih =>
    intro i h hn
    cases i with
    | zero =>
      have : x = c := by simpa using h
      rw [cutAt, if_pos this]; simp
    | succ i =>
      have hx : ¬ x = c := fun e => hn 0 (by omega) (by simp [e])
      rw [cutAt, if_neg hx, ih (i := i) (by simpa using h) (fun k hk => by simpa using hn (k + 1) (by omega))]
      simp
theorem run_slice_hi {l : List UInt8} {b : Nat} (hb : b ≤ l.length) (w : World) :
    (Instr.slice 9 (.string (strL l)) none (some (.int .i64 (b : Int))) none).run Tryz.prog w = .ok (.string (strL (l.take b))) w := by
  rw [run_slice_string_to_if w 9 (strL l) .i64 b Tryz.underlying9]
  rw [if_pos ⟨by omega, by rw [strL_size]; omega⟩]
  have : ((strL l).extract 0 b).data.toList = l.take b := by
    rw [ByteArray.data_extract, Array.toList_extract, List.extract_eq_take_drop, strL_data]; simp
  rw [Int.toNat_natCast, ← this, strL_of]
theorem run_slice_lo {l : List UInt8} {a : Nat} (ha : a ≤ l.length) (w : World) :
    (Instr.slice 9 (.string (strL l)) (some (.int .i64 (a : Int))) none none).run Tryz.prog w = .ok (.string (strL (l.drop a))) w := by
  rw [run_slice_string_from_if w 9 (strL l) .i64 a Tryz.underlying9]
  rw [if_pos ⟨by omega, by rw [strL_size]; omega⟩]
  have : ((strL l).extract a (strL l).size).data.toList = l.drop a := by
    rw [ByteArray.data_extract, Array.toList_extract, List.extract_eq_take_drop, strL_data, strL_size, List.take_of_length_le (by rw [List.length_drop]; exact Nat.le_refl _)]
  rw [Int.toNat_natCast, ← this, strL_of]
set_option maxRecDepth 100000 in
set_option maxHeartbeats 8000000 in
theorem refSplit_calls (l : List UInt8) (w : World) (hs : l.length ≤ 4294967270) :
    Calls Tryz.prog 84 #[.string (strL l)] w fun e w' => e = .returned (splitVal (splitBox l)) ∧ Below w.heap.size w w' := by
  have hsz := strL_size l
  have hidx := fun (j : Nat) (x : UInt8) (h : l[j]? = some x) => run_index_at (s := strL l) (j := j) (c := x) (by rw [strL_data]; exact h)
  have hhi := fun (b : Nat) (hb : b ≤ l.length) => run_slice_hi hb
  have hlo := fun (a : Nat) (ha : a ≤ l.length) => run_slice_lo ha
  have hloc := fun (b : Nat) W (hb : b ≤ l.length) => refLocal_calls (strL (l.take b)) W (by rw [strL_size, List.length_take]; omega)
  have hdom := fun (a : Nat) W => refDomain_calls (strL (l.drop a)) W (by rw [strL_size, List.length_drop]; omega)
  have hsm := fun (a : Nat) W => refSmall_calls (l.drop a) W (by rw [List.length_drop]; omega)
  simp only [strL_data] at hloc hdom
  obtain ⟨n, hn⟩ : ∃ n, l.length = n := ⟨_, rfl⟩
  rw [hn] at hsz hhi hlo hloc hs
  have Hn := Lib.hid hn
  have Hidx := Lib.hid hidx
  have Hhi := Lib.hid hhi
  have Hlo := Lib.hid hlo
  have Hloc := Lib.hid hloc
  have Hdom := Lib.hid hdom
  have Hsm := Lib.hid hsm
  have hni : (n : Int) ≤ 4294967270 := by omega
  clear hidx hhi hlo hloc hdom hsm hn hs
  generalize hsl : strL l = s at hsz Hidx Hhi Hlo
  clear hsl
  go_enter Tryz.func84, Tryz.ntmps84
  go_wp2
  go_loop [5] (fun i => ∃ j : Nat, j ≤ n ∧ i = .int .i64 j ∧ (∀ k : Nat, k < j → l[k]? ≠ some 64)) (fun i => n - (intOf i).toNat)
  case atStart => exact ⟨0, Nat.zero_le _, rfl, fun k hk => absurd hk (Nat.not_lt_zero _)⟩
  case round =>
    obtain ⟨j, hj, rfl, hinv⟩ := hrel
    by_cases hlt : j < n
    · obtain ⟨c, hc⟩ : ∃ c, l[j]? = some c := ⟨_, List.getElem?_eq_getElem (by rw [Hn.out]; exact hlt)⟩
      have hix := Hidx.out j c hc
      have q64 : ((c.toNat : Int) == 64) = (c == 64) := eqB c 64
      have hj1 : (j : Int) < (n : Int) := by omega
      have hj0 : (0 : Int) ≤ (j : Int) := by omega
      cases v64 : (c == 64)
      · rw [v64] at q64
        have hnx : ∀ k : Nat, k < j + 1 → l[k]? ≠ some 64 := by
          intro k hk h
          rcases (by omega : k < j ∨ k = j) with h1 | rfl
          · exact hinv k h1 h
          · rw [hc] at h; cases h; revert v64; decide
        have Hnx := Lib.hid hnx
        clear hnx v64 hc hinv
        go_wp2
        go_round
        case rel => exact ⟨j + 1, by omega, by go_num, Hnx.out⟩
        case measure => simp [intOf] <;> omega
      · have hc64 : c = 64 := by simpa using v64
        rw [v64] at q64
        have hcut : cutAt 64 l = some (l.take j, l.drop (j + 1)) := cutAt_first (by rw [hc, hc64]) hinv
        have hsb : splitBox l = if localB (l.take j) && domainB (l.drop (j + 1)) && decide (n ≤ 64) then some (l.take j, Lib.toLowerA (l.drop (j + 1))) else none := by
          unfold splitBox
          rw [hcut, Hn.out]
        have h1 := fun W => Hloc.out j W hj
        have h2 := fun W => Hdom.out (j + 1) W
        have h3 := fun W => Hsm.out (j + 1) W
        have hs1 := Hhi.out j hj
        have hs2 : ∀ W, (Instr.slice 9 (.string s) (some (.int .i64 ((j : Int) + 1))) none none).run Tryz.prog W = .ok (.string (strL (l.drop (j + 1)))) W := Hlo.out (j + 1) (by omega)
        generalize strL (l.drop (j + 1)) = sd at h2 h3 hs2
        have Hta := Lib.hid (rfl : strL (l.take j) = strL (l.take j))
        generalize hst : strL (l.take j) = st at h1 hs1
        generalize localB (l.take j) = p at h1 hsb
        generalize domainB (l.drop (j + 1)) = q at h2 hsb
        have H1 := Lib.hid h1
        have H2 := Lib.hid h2
        have H3 := Lib.hid h3
        have Hst := Lib.hid hst
        have Hsb := Lib.hid hsb
        have hwr : IntKind.i64.wrap ((j : Int) + 1) = (j : Int) + 1 := IntWalk.i64_in _ (by omega)
        clear h1 h2 h3 hst hsb hcut v64 hc64 hc hinv Hta
        by_cases h64 : (64 : Int) < (n : Int)
        · have Hr := Lib.hid (show splitBox l = none by rw [Hsb.out, decide_eq_false (by omega)]; simp)
          go_wp2
          go_ret3
          exact ⟨by rw [Hr.out]; rfl, Below.refl _ _⟩
        · have h64' : decide (n ≤ 64) = true := decide_eq_true (by omega)
          have H64 := Lib.hid h64'
          clear h64'
          cases p
          · have Hr := Lib.hid (show splitBox l = none by rw [Hsb.out]; simp)
            go_wp2_with fail
            refine (H1.out _).mono ?_; rintro e w2 ⟨rfl, rfl⟩
            go_wp2
            go_ret3
            exact ⟨by rw [Hr.out]; rfl, Below.refl _ _⟩
          · cases q
            · have Hr := Lib.hid (show splitBox l = none by rw [Hsb.out]; simp)
              go_wp2_with fail
              refine (H1.out _).mono ?_; rintro e w2 ⟨rfl, rfl⟩
              go_wp2_with fail
              refine (H2.out _).mono ?_; rintro e w3 ⟨rfl, hb3⟩
              go_wp2
              go_ret3
              exact ⟨by rw [Hr.out]; rfl, hb3⟩
            · have Hr := Lib.hid (show splitBox l = some (l.take j, Lib.toLowerA (l.drop (j + 1))) by rw [Hsb.out, H64.out]; rfl)
              go_wp2_with fail
              refine (H1.out _).mono ?_; rintro e w2 ⟨rfl, rfl⟩
              go_wp2_with fail
              refine (H2.out _).mono ?_; rintro e w3 ⟨rfl, hb3⟩
              go_wp2
              have hS : Hid (Below w2.heap.size w2 w3.drew) := hb3.drew
              go_region_held3 (fun w' => Hid (Below w2.heap.size w2 w'))
                (first | with_reducible exact hS | with_reducible assumption | exact (fun (hb : Below _ _ _) (h : Hid (Below w2.heap.size w2 _)) => (h.out.trans (hb.mono h.out.size) : Below w2.heap.size w2 _)) (by assumption) (by assumption))
                (first
                  | (go_at_call 93; refine (H3.out _).mono ?_; rintro e w4 ⟨rfl, hb4⟩))
              have hfin := (by assumption : Hid (Below w2.heap.size w2 w4))
              go_wp2
              go_ret3
              exact ⟨by rw [Hr.out]; simp only [splitVal]; rw [Hst.out]; rfl, hfin.out⟩
    · have hje : j = n := by omega
      subst hje
      have hcut : cutAt 64 l = none := cutAt_none fun k h => by
        have := (List.getElem?_eq_some_iff.1 h).1
        rw [Hn.out] at this
        exact hinv k this h
      have hsb : splitBox l = none := by unfold splitBox; rw [hcut]
      have Hr := Lib.hid hsb
      clear hcut hsb hinv
      go_wp2
      go_ret3
      exact ⟨by rw [Hr.out]; rfl, Below.refl _ _⟩
end Go.Proofs.YtjddicoigbidlaaGreatDoor
