/-
  Plain laws of the checksum: the table, the sum by the table, the sum bit by bit, its linearity, and that a turn within 32 bits shows.
-/
set_option linter.unusedSimpArgs false
set_option linter.unusedVariables false
namespace PbCrc
abbrev B32 := BitVec 32
def poly : B32 := 0xedb88320#32
/-- One bit's step. -/
def step (c : B32) : B32 := if c.getLsbD 0 then (c >>> 1) ^^^ poly else c >>> 1
def steps : Nat → B32 → B32
  | 0, c => c
  | n + 1, c => steps n (step c)
theorem steps_succ (n : Nat) (c : B32) : steps (n + 1) c = step (steps n c) := by
  induction n generalizing c with
  | zero => rfl
  | succ n ih => rw [steps, ih]; rfl
/-- The table's entry. -/
def tab (n : Nat) : B32 := steps 8 (BitVec.ofNat 32 n)
/-- A byte's step, by the table. -/
def byteTab (c : B32) (x : UInt8) : B32 := tab (UInt8.ofNat c.toNat ^^^ x).toNat ^^^ (c >>> 8)
/-- A byte's step, by definition. -/
def byteStep (c : B32) (x : UInt8) : B32 := steps 8 (c ^^^ BitVec.ofNat 32 x.toNat)
def run (c : B32) (l : List UInt8) : B32 := l.foldl byteStep c
def sum (l : List UInt8) : B32 := ~~~ (run (BitVec.allOnes 32) l)

theorem step_xor (a b : B32) : step (a ^^^ b) = step a ^^^ step b := by
  unfold step
  rw [BitVec.getLsbD_xor, BitVec.ushiftRight_xor_distrib]
  cases ha : a.getLsbD 0 <;> cases hb : b.getLsbD 0
  · simp
  · simp [BitVec.xor_assoc]
  · simp only [Bool.xor_false, if_true, Bool.false_eq_true, if_false]
    ac_rfl
  · simp only [Bool.xor_self, Bool.false_eq_true, if_false, if_true]
    rw [show a >>> 1 ^^^ poly ^^^ (b >>> 1 ^^^ poly) = a >>> 1 ^^^ b >>> 1 ^^^ (poly ^^^ poly) by ac_rfl]
    simp
theorem steps_xor (n : Nat) (a b : B32) : steps n (a ^^^ b) = steps n a ^^^ steps n b := by
  induction n generalizing a b with
  | zero => rfl
  | succ n ih => rw [steps, step_xor, ih]; rfl
theorem step_zero : step 0#32 = 0#32 := by decide
theorem steps_zero (n : Nat) : steps n 0#32 = 0#32 := by
  induction n with
  | zero => rfl
  | succ n ih => rw [steps, step_zero, ih]
/-- Where the lowest n bits are nought, n steps are a shift. -/
theorem steps_shift (n : Nat) (c : B32) (h : ∀ i, i < n → c.getLsbD i = false) : steps n c = c >>> n := by
  induction n generalizing c with
  | zero => simp [steps]
  | succ n ih =>
    rw [steps, step, if_neg (by rw [h 0 (by omega)]; decide), ih]
    · rw [← BitVec.shiftRight_add, Nat.add_comm]
    · intro i hi
      rw [BitVec.getLsbD_ushiftRight, Nat.add_comm]
      exact h (i + 1) (by omega)
theorem lowByte (c : B32) (x : UInt8) (i : Nat) : (BitVec.ofNat 32 (UInt8.ofNat c.toNat ^^^ x).toNat).getLsbD i = (decide (i < 8) && ((c ^^^ BitVec.ofNat 32 x.toNat).getLsbD i)) := by
  rw [BitVec.getLsbD_xor, BitVec.getLsbD_ofNat, BitVec.getLsbD_ofNat, UInt8.toNat_xor, UInt8.toNat_ofNat', Nat.testBit_xor, Nat.testBit_mod_two_pow, ← BitVec.testBit_toNat]
  by_cases h : i < 8
  · simp [h, show i < 32 by omega]
  · have : x.toNat.testBit i = false := Nat.testBit_lt_two_pow (Nat.lt_of_lt_of_le x.toNat_lt (Nat.pow_le_pow_right (by omega) (by omega)))
    simp [h, this]
theorem byteTab_eq (c : B32) (x : UInt8) : byteTab c x = byteStep c x := by
  unfold byteTab byteStep tab
  have e : c ^^^ BitVec.ofNat 32 x.toNat = BitVec.ofNat 32 (UInt8.ofNat c.toNat ^^^ x).toNat ^^^ ((c >>> 8) <<< 8) := by
    apply BitVec.eq_of_getLsbD_eq
    intro i hi
    rw [BitVec.getLsbD_xor (x := BitVec.ofNat 32 (UInt8.ofNat c.toNat ^^^ x).toNat), lowByte, BitVec.getLsbD_shiftLeft, BitVec.getLsbD_ushiftRight]
    by_cases h : i < 8
    · simp [h]
    · have : x.toNat.testBit i = false := Nat.testBit_lt_two_pow (Nat.lt_of_lt_of_le x.toNat_lt (Nat.pow_le_pow_right (by omega) (by omega)))
      rw [BitVec.getLsbD_xor, BitVec.getLsbD_ofNat, this]
      simp [h, hi, show 8 + (i - 8) = i by omega]
  rw [e, steps_xor, steps_shift 8 ((c >>> 8) <<< 8)]
  · congr 1
    apply BitVec.eq_of_getLsbD_eq
    intro i hi
    simp only [BitVec.getLsbD_ushiftRight, BitVec.getLsbD_shiftLeft]
    by_cases h : i + 8 < 32
    · simp [show 8 + i < 32 by omega]
    · rw [BitVec.getLsbD_of_ge c (8 + i) (by omega)]; simp only [Bool.false_eq]; simp; intro h'; omega
  · intro i hi
    simp [BitVec.getLsbD_shiftLeft, hi]

/-- The sum bit by bit, as the reference has it: the k-th of x's bits. -/
def bitStep (c : B32) (b : Bool) : B32 := if (c.getLsbD 0 ^^ b) then (c >>> 1) ^^^ poly else c >>> 1
def bitRun (c : B32) (x : UInt8) : Nat → B32
  | 0 => c
  | k + 1 => bitStep (bitRun c x k) (x.toNat.testBit k)
theorem bitStep_eq (c : B32) (b : Bool) : bitStep c b = step (c ^^^ BitVec.ofNat 32 b.toNat) := by
  have h : (c ^^^ BitVec.ofNat 32 b.toNat) >>> 1 = c >>> 1 := by
    rw [BitVec.ushiftRight_xor_distrib]
    cases b <;> simp
  unfold bitStep step
  rw [h, BitVec.getLsbD_xor]
  cases b <;> simp
theorem bitRun_eq (c : B32) (x : UInt8) (k : Nat) (hk : k ≤ 8) : bitRun c x k ^^^ BitVec.ofNat 32 (x.toNat >>> k) = steps k (c ^^^ BitVec.ofNat 32 x.toNat) := by
  induction k with
  | zero => rfl
  | succ k ih =>
    have ih := ih (by omega)
    rw [steps_succ, ← ih, bitRun, bitStep_eq]
    have e : BitVec.ofNat 32 (x.toNat >>> k) = BitVec.ofNat 32 (x.toNat.testBit k).toNat ^^^ (BitVec.ofNat 32 (x.toNat >>> (k + 1)) <<< 1) := by
      apply BitVec.eq_of_getLsbD_eq
      intro i hi
      rw [BitVec.getLsbD_xor, BitVec.getLsbD_shiftLeft, BitVec.getLsbD_ofNat, BitVec.getLsbD_ofNat, BitVec.getLsbD_ofNat, Nat.testBit_shiftRight, Nat.testBit_shiftRight]
      cases i with
      | zero => cases x.toNat.testBit k <;> simp
      | succ i =>
        have : (x.toNat.testBit k).toNat.testBit (i + 1) = false := by cases x.toNat.testBit k <;> simp [Nat.testBit_succ]
        simp [this, hi, show i < 32 by omega, show k + 1 + i = k + (i + 1) by omega]
    have e2 : step (BitVec.ofNat 32 (x.toNat >>> (k + 1)) <<< 1) = BitVec.ofNat 32 (x.toNat >>> (k + 1)) := by
      unfold step
      rw [if_neg (by simp)]
      apply BitVec.eq_of_getLsbD_eq
      intro i hi
      rw [BitVec.getLsbD_ushiftRight, BitVec.getLsbD_shiftLeft]
      have : (x.toNat >>> (k+1)).testBit i = false ∨ i < 31 := by
        by_cases h : i < 31
        · exact .inr h
        · left; apply Nat.testBit_lt_two_pow
          have := x.toNat_lt
          have h2 : x.toNat >>> (k+1) ≤ x.toNat := Nat.shiftRight_le ..
          exact Nat.lt_of_le_of_lt h2 (Nat.lt_of_lt_of_le this (Nat.pow_le_pow_right (by omega) (by omega)))
      rcases this with h | h
      · rw [BitVec.getLsbD_ofNat, BitVec.getLsbD_ofNat]
        rw [show 1 + i - 1 = i by omega, h]; simp
      · simp [show 1 + i < 32 by omega]
    rw [e, show bitRun c x k ^^^ (BitVec.ofNat 32 (x.toNat.testBit k).toNat ^^^ BitVec.ofNat 32 (x.toNat >>> (k + 1)) <<< 1) = (bitRun c x k ^^^ BitVec.ofNat 32 (x.toNat.testBit k).toNat) ^^^ (BitVec.ofNat 32 (x.toNat >>> (k + 1)) <<< 1) by ac_rfl, step_xor (bitRun c x k ^^^ BitVec.ofNat 32 (x.toNat.testBit k).toNat), e2]
theorem bitRun_byte (c : B32) (x : UInt8) : bitRun c x 8 = byteStep c x := by
  have h := bitRun_eq c x 8 (by omega)
  have hx : x.toNat >>> 8 = 0 := by have := x.toNat_lt; rw [Nat.shiftRight_eq_div_pow]; omega
  rw [hx] at h
  unfold byteStep
  rw [← h]; simp

theorem run_append (c : B32) (a b : List UInt8) : run c (a ++ b) = run (run c a) b := by simp [run]
theorem run_snoc (c : B32) (a : List UInt8) (x : UInt8) : run c (a ++ [x]) = byteStep (run c a) x := by simp [run]
theorem byteStep_xor (c d : B32) (x y : UInt8) : byteStep (c ^^^ d) (x ^^^ y) = byteStep c x ^^^ byteStep d y := by
  unfold byteStep
  rw [← steps_xor]
  congr 1
  rw [show BitVec.ofNat 32 (x ^^^ y).toNat = BitVec.ofNat 32 x.toNat ^^^ BitVec.ofNat 32 y.toNat by
    rw [UInt8.toNat_xor]
    apply BitVec.eq_of_getLsbD_eq; intro i hi
    simp [hi]]
  ac_rfl
def lay (a b : List UInt8) : List UInt8 := List.zipWith (· ^^^ ·) a b
theorem run_lay : ∀ (a b : List UInt8) (c d : B32), a.length = b.length → run (c ^^^ d) (lay a b) = run c a ^^^ run d b
  | [], [], c, d, _ => rfl
  | x :: a, y :: b, c, d, h => by
    show run (byteStep (c ^^^ d) (x ^^^ y)) (lay a b) = _
    rw [byteStep_xor, run_lay a b _ _ (by simpa using h)]; rfl
/-- Three texts of one length. -/
theorem sum_lay (a b c : List UInt8) (hb : a.length = b.length) (hc : a.length = c.length) : sum (lay (lay a b) c) = sum a ^^^ sum b ^^^ sum c := by
  unfold sum
  have h1 : (lay a b).length = c.length := by simp [lay, ← hb, hc]
  have e : BitVec.allOnes 32 = BitVec.allOnes 32 ^^^ BitVec.allOnes 32 ^^^ BitVec.allOnes 32 := by decide
  conv => lhs; rw [e]
  rw [run_lay _ _ _ _ h1, run_lay _ _ _ _ hb]
  generalize run (BitVec.allOnes 32) a = p; generalize run (BitVec.allOnes 32) b = q; generalize run (BitVec.allOnes 32) c = r
  apply BitVec.eq_of_getLsbD_eq; intro i hi
  simp only [BitVec.getLsbD_not, BitVec.getLsbD_xor, hi, decide_true, Bool.true_and]
  cases p.getLsbD i <;> cases q.getLsbD i <;> cases r.getLsbD i <;> rfl

/-! A turn of some bits within 32 shows. -/
theorem step_ne {c : B32} (h : c ≠ 0#32) : step c ≠ 0#32 := by
  intro e
  unfold step at e
  split at e
  · have := congrArg (·.getLsbD 31) e
    simp [poly] at this
  · rename_i h0
    apply h
    apply BitVec.eq_of_getLsbD_eq
    intro i hi
    cases i with
    | zero => simpa using h0
    | succ i =>
      have := congrArg (·.getLsbD i) e
      simp only [BitVec.getLsbD_ushiftRight] at this
      rw [Nat.add_comm] at this
      simpa using this
theorem steps_ne (n : Nat) {c : B32} (h : c ≠ 0#32) : steps n c ≠ 0#32 := by
  induction n generalizing c with
  | zero => exact h
  | succ n ih => exact ih (step_ne h)
theorem steps_add (m n : Nat) (c : B32) : steps (m + n) c = steps m (steps n c) := by
  induction n generalizing c with
  | zero => rfl
  | succ n ih => exact ih (step c)
theorem run_zeros_ne (n : Nat) {c : B32} (h : c ≠ 0#32) : run c (List.replicate n 0) ≠ 0#32 := by
  induction n generalizing c with
  | zero => exact h
  | succ n ih =>
    show run (byteStep c 0) (List.replicate n 0) ≠ _
    refine ih ?_
    unfold byteStep
    exact steps_ne 8 (by simpa using h)
theorem run_zeros (n : Nat) : run 0#32 (List.replicate n 0) = 0#32 := by
  induction n with
  | zero => rfl
  | succ n ih =>
    show run (byteStep 0#32 0) (List.replicate n 0) = _
    rw [show byteStep 0#32 0 = 0#32 by decide]; exact ih
theorem byte_bit (x : UInt8) (i : Nat) (h : 8 ≤ i) : x.toNat.testBit i = false :=
  Nat.testBit_lt_two_pow (Nat.lt_of_lt_of_le x.toNat_lt (Nat.pow_le_pow_right (by omega) h))
theorem steps_up (n : Nat) (hn : n ≤ 24) (x : UInt8) : steps n (BitVec.ofNat 32 x.toNat <<< n) = BitVec.ofNat 32 x.toNat := by
  rw [steps_shift]
  · apply BitVec.eq_of_getLsbD_eq
    intro i hi
    rw [BitVec.getLsbD_ushiftRight, BitVec.getLsbD_shiftLeft, show n + i - n = i by omega]
    by_cases h : i < 8
    · simp [show n + i < 32 by omega]
    · have := byte_bit x i (by omega)
      rw [BitVec.getLsbD_ofNat, this]; simp
  · intro i hi
    simp [BitVec.getLsbD_shiftLeft, hi]
theorem run_four (x0 x1 x2 x3 : UInt8) : run 0#32 [x0, x1, x2, x3] =
    steps 32 (BitVec.ofNat 32 x0.toNat ^^^ BitVec.ofNat 32 x1.toNat <<< 8 ^^^ BitVec.ofNat 32 x2.toNat <<< 16 ^^^ BitVec.ofNat 32 x3.toNat <<< 24) := by
  show byteStep (byteStep (byteStep (byteStep 0#32 x0) x1) x2) x3 = _
  unfold byteStep
  have a16 : ∀ c, steps 16 c = steps 8 (steps 8 c) := fun c => steps_add 8 8 c
  have a24 : ∀ c, steps 24 c = steps 8 (steps 8 (steps 8 c)) := fun c => (steps_add 8 16 c).trans (by rw [a16])
  have a32 : ∀ c, steps 32 c = steps 8 (steps 8 (steps 8 (steps 8 c))) := fun c => (steps_add 8 24 c).trans (by rw [a24])
  have u1 := steps_up 8 (by omega) x1
  have u2 := steps_up 16 (by omega) x2
  have u3 := steps_up 24 (by omega) x3
  rw [a16] at u2
  rw [a24] at u3
  rw [a32]
  simp only [steps_xor, u1, u2, u3, steps_zero]
  simp
/-- The five bytes of a turn. -/
def five (X : Nat) : List UInt8 := (List.range 5).map fun i => UInt8.ofNat (X >>> (8 * i))
theorem ofNat_byte (n i : Nat) : (BitVec.ofNat 32 (UInt8.ofNat n).toNat).getLsbD i = (decide (i < 8) && n.testBit i) := by
  rw [BitVec.getLsbD_ofNat, UInt8.toNat_ofNat', Nat.testBit_mod_two_pow]
  by_cases h : i < 8
  · simp [h, show i < 32 by omega]
  · simp [h]
theorem burst (turn : B32) (s : Nat) (hs : s < 8) (ht : turn ≠ 0#32) : run 0#32 (five (turn.toNat <<< s)) ≠ 0#32 := by
  show byteStep (run 0#32 [UInt8.ofNat (turn.toNat <<< s >>> 0), UInt8.ofNat (turn.toNat <<< s >>> 8), UInt8.ofNat (turn.toNat <<< s >>> 16), UInt8.ofNat (turn.toNat <<< s >>> 24)]) (UInt8.ofNat (turn.toNat <<< s >>> 32)) ≠ _
  rw [run_four]
  have lo : BitVec.ofNat 32 (UInt8.ofNat (turn.toNat <<< s >>> 0)).toNat ^^^ BitVec.ofNat 32 (UInt8.ofNat (turn.toNat <<< s >>> 8)).toNat <<< 8 ^^^ BitVec.ofNat 32 (UInt8.ofNat (turn.toNat <<< s >>> 16)).toNat <<< 16 ^^^ BitVec.ofNat 32 (UInt8.ofNat (turn.toNat <<< s >>> 24)).toNat <<< 24 = turn <<< s := by
    apply BitVec.eq_of_getLsbD_eq
    intro i hi
    simp only [BitVec.getLsbD_xor, BitVec.getLsbD_shiftLeft, ofNat_byte, Nat.testBit_shiftRight, Nat.testBit_shiftLeft, hi, decide_true, Bool.true_and, BitVec.testBit_toNat]
    by_cases h1 : i < 8
    · simp [h1, show i < 16 by omega, show i < 24 by omega]
      by_cases h : s ≤ i
      · simp [h, show ¬ i < s by omega]
      · simp [h, show i < s by omega]
    · by_cases h2 : i < 16
      · simp [h1, h2, show i < 24 by omega, show s ≤ i by omega, show ¬ i < s by omega, show i - 8 < 8 by omega, show 8 + (i - 8) = i by omega]
      · by_cases h3 : i < 24
        · simp [h1, h2, h3, show s ≤ i by omega, show ¬ i < s by omega, show ¬ i - 8 < 8 by omega, show i - 16 < 8 by omega, show 16 + (i - 16) = i by omega]
        · simp [h1, h2, h3, show s ≤ i by omega, show ¬ i < s by omega, show ¬ i - 8 < 8 by omega, show ¬ i - 16 < 8 by omega, show i - 24 < 8 by omega, show 24 + (i - 24) = i by omega]
  rw [lo]
  unfold byteStep
  refine steps_ne 8 ?_
  have key : steps 32 (turn <<< s) ^^^ BitVec.ofNat 32 (UInt8.ofNat (turn.toNat <<< s >>> 32)).toNat = steps (32 - s) turn := by
    have h32 := steps_add (32 - s) s (turn <<< s)
    rw [show 32 - s + s = 32 by omega] at h32
    rw [h32, steps_shift s (turn <<< s) (by intro i hi; simp [BitVec.getLsbD_shiftLeft, hi])]
    have e : turn = (turn <<< s >>> s) ^^^ ((turn >>> (32 - s)) <<< (32 - s)) := by
      apply BitVec.eq_of_getLsbD_eq
      intro i hi
      rw [BitVec.getLsbD_xor, BitVec.getLsbD_ushiftRight, BitVec.getLsbD_shiftLeft, BitVec.getLsbD_shiftLeft, BitVec.getLsbD_ushiftRight, show s + i - s = i by omega]
      by_cases h : i < 32 - s
      · simp [h, show s + i < 32 by omega]
      · simp [h, hi, show ¬ s + i < 32 by omega, show 32 - s + (i - (32 - s)) = i by omega]
    conv => rhs; rw [e]
    rw [steps_xor, steps_shift (32 - s) ((turn >>> (32 - s)) <<< (32 - s)) (by intro i hi; simp [BitVec.getLsbD_shiftLeft, hi])]
    congr 1
    apply BitVec.eq_of_getLsbD_eq
    intro i hi
    rw [ofNat_byte, Nat.testBit_shiftRight, Nat.testBit_shiftLeft, BitVec.testBit_toNat, BitVec.getLsbD_ushiftRight, BitVec.getLsbD_shiftLeft, BitVec.getLsbD_ushiftRight, show 32 - s + i - (32 - s) = i by omega, show 32 + i - s = 32 - s + i by omega]
    by_cases h : i < 8
    · by_cases h2 : i < s
      · simp [h, show 32 - s + i < 32 by omega, show s ≤ 32 + i by omega]
      · rw [BitVec.getLsbD_of_ge turn (32 - s + i) (by omega)]; simp
    · rw [BitVec.getLsbD_of_ge turn (32 - s + i) (by omega)]; simp
  rw [key]
  exact steps_ne _ ht
/-- Bytes of which five are turned by a burst, have another sum. -/
theorem sum_burst (p q : List UInt8) (m : List UInt8) (turn : B32) (s : Nat) (hs : s < 8) (ht : turn ≠ 0#32) (hm : m.length = 5) :
    sum (p ++ m ++ q) ≠ sum (p ++ lay m (five (turn.toNat <<< s)) ++ q) := by
  intro e
  unfold sum at e
  have e := BitVec.not_inj.1 e
  rw [run_append, run_append, run_append, run_append] at e
  generalize run (BitVec.allOnes 32) p = c at e
  have h5 : (five (turn.toNat <<< s)).length = 5 := rfl
  have h1 := run_lay m (five (turn.toNat <<< s)) c 0#32 (by rw [hm, h5])
  rw [show c ^^^ 0#32 = c by simp] at h1
  rw [h1] at e
  have hb := burst turn s hs ht
  generalize run 0#32 (five (turn.toNat <<< s)) = d at e hb
  generalize run c m = c1 at e
  have h2 := run_lay q (List.replicate q.length 0) c1 d (by simp)
  rw [show lay q (List.replicate q.length 0) = q by
    apply List.ext_getElem (by simp [lay]); intro i h1 h2; simp [lay]] at h2
  rw [h2] at e
  have h3 := run_zeros_ne q.length hb
  apply h3
  generalize run d (List.replicate q.length 0) = z at e
  generalize run c1 q = y at e
  have : y ^^^ y = y ^^^ (y ^^^ z) := by rw [← e]
  rw [← BitVec.xor_assoc] at this
  simpa using this.symm
end PbCrc
