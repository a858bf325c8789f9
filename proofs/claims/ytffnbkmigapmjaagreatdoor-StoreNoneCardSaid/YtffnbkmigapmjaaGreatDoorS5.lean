/-
  The walks of addr: local, Domain.
  Plain laws of the checksum: the table, the sum by the table, the sum bit by bit, its linearity, and that a turn within 32 bits shows.
-/
import Derived.Test.YtffnbkmigapmjaaGreatDoorS4
import Derived.Lib.SplitLaws
set_option linter.unusedSimpArgs false
set_option linter.unusedVariables false
namespace Go.Proofs.YtffnbkmigapmjaaGreatDoor
open Go.RowKit
/-- The library's variable MaxLen holds a number. -/
def MaxOk (w : World) : Prop := ∃ m, w.cell? ⟨0, 0, none⟩ = some (.int .i64 m)
theorem MaxOk.below {w w' : World} (hb : Below w.heap.size w w') (h : MaxOk w) : MaxOk w' := by
  obtain ⟨m, hm⟩ := h
  obtain ⟨c, f⟩ := below_cell hb
  exact ⟨m, (c _ _ (World.block_lt_of_cell? w ⟨0, 0, none⟩ hm)).trans hm⟩
set_option maxRecDepth 100000 in
set_option maxHeartbeats 4000000 in
theorem addrLocal_calls (s : ByteArray) (w : World) (hs : s.size < 4294967281) (hmax : MaxOk w) :
    Calls Tryz.prog 237 #[.string s] w fun e w' => e = .returned (.bool (localB s.data.toList)) ∧ Below w.heap.size w w' := by
  have hl := size_len s
  have h1 := fun W => addrOnly_calls s ⟨#[46, 95, 43, 45]⟩ W (.inr rfl)
  have h2 := fun W => addrEnds_calls s 46 W (by omega)
  have h3 := fun W m hm => Tryz.strings_Contains s ⟨#[46, 46]⟩ m W hs hm
  rw [show (⟨#[46, 95, 43, 45]⟩ : ByteArray).data.toList = [46, 95, 43, 45] from rfl] at h1
  rw [show (⟨#[46, 46]⟩ : ByteArray).data.toList = [46, 46] from rfl, contains_two] at h3
  have hlab : localB s.data.toList = (decide (1 ≤ s.size ∧ s.size ≤ 32) && onlyB [46, 95, 43, 45] s.data.toList && !endsB 46 s.data.toList && !twoB 46 s.data.toList) := by rw [hl]; rfl
  rw [hlab]
  generalize onlyB [46, 95, 43, 45] s.data.toList = p at h1
  generalize endsB 46 s.data.toList = q at h2
  generalize twoB 46 s.data.toList = r at h3
  have H1 := Lib.hid h1
  have H2 := Lib.hid h2
  have H3 := Lib.hid h3
  have Hmax := Lib.hid hmax
  clear h1 h2 h3 hlab hl hmax
  by_cases h0 : s.size = 0
  · obtain rfl := empty_of_size h0
    clear h0
    go_enter Tryz.func237, Tryz.ntmps237
    go_wp2
    go_ret
    exact ⟨rfl, Below.refl _ _⟩
  · have hb := empty_ne h0
    have hb2 : s.toList.isEmpty = false := by simpa using hb
    by_cases h32 : (s.size : Int) ≤ 32
    · have hd : decide (1 ≤ s.size ∧ s.size ≤ 32) = true := decide_eq_true ⟨by omega, by omega⟩
      rw [hd]
      clear hd
      cases p
      · go_enter Tryz.func237, Tryz.ntmps237
        go_wp2_with fail
        refine (H1.out _).mono ?_; rintro e w2 ⟨rfl, hb2⟩
        go_wp2
        go_ret
        exact ⟨rfl, hb2⟩
      · cases q
        · go_enter Tryz.func237, Tryz.ntmps237
          go_wp2_with fail
          refine (H1.out _).mono ?_; rintro e w2 ⟨rfl, hb2⟩
          go_wp2_with fail
          refine (H2.out _).mono ?_; rintro e w3 ⟨rfl, rfl⟩
          obtain ⟨m, hm⟩ := Hmax.out.below hb2
          go_wp2_with fail
          refine (H3.out _ m hm).mono ?_; rintro e w4 ⟨rfl, rfl⟩
          go_wp2
          go_ret
          exact ⟨rfl, hb2⟩
        · go_enter Tryz.func237, Tryz.ntmps237
          go_wp2_with fail
          refine (H1.out _).mono ?_; rintro e w2 ⟨rfl, hb2⟩
          go_wp2_with fail
          refine (H2.out _).mono ?_; rintro e w3 ⟨rfl, rfl⟩
          go_wp2
          go_ret
          exact ⟨rfl, hb2⟩
    · have hd : decide (1 ≤ s.size ∧ s.size ≤ 32) = false := decide_eq_false (by omega)
      rw [hd]
      clear hd
      go_enter Tryz.func237, Tryz.ntmps237
      go_wp2
      go_ret
      exact ⟨rfl, Below.refl _ _⟩
theorem pieces_le (c : UInt8) (l : List UInt8) : ∀ p ∈ piecesAt c l, p.length ≤ l.length := by
  induction l with
  | nil => intro p hp; simp [piecesAt] at hp; subst hp; simp
  | cons x xs ih =>
    intro p hp
    by_cases hx : x = c
    · simp only [piecesAt, if_pos hx, List.mem_cons] at hp
      rcases hp with rfl | hp
      · simp
      · have := ih p hp; simp; omega
    · simp only [piecesAt, if_neg hx] at hp
      split at hp
      · simp at hp; subst hp; simp
      · next q ps he =>
        rcases List.mem_cons.1 hp with rfl | hp
        · have := ih q (by rw [he]; exact List.mem_cons_self); simp; omega
        · have := ih p (by rw [he]; exact List.mem_cons_of_mem _ hp); simp; omega
set_option maxRecDepth 100000 in
set_option maxHeartbeats 4000000 in
theorem addrDomain_calls (s : ByteArray) (w : World) (hs : s.size < 4294967281) (hmax : MaxOk w) :
    Calls Tryz.prog 238 #[.string s] w fun e w' => e = .returned (.bool (domainB s.data.toList)) ∧ Below w.heap.size w w' := by
  obtain ⟨m, hm⟩ := hmax
  have hsp := Tryz.strings_Split s ⟨#[46]⟩ m w hs hm (by decide)
  obtain ⟨P, hP⟩ : ∃ P, Lib.splitB ⟨#[46]⟩ 0 (Lib.countB s ⟨#[46]⟩) s = P := ⟨_, rfl⟩
  have hdata : P.map (fun p => p.data.toList) = piecesAt 46 s.data.toList := by
    rw [← hP, ← split_one]
    exact Lib.splitB_data _ _ _ _
  have hcnt : Lib.countB s ⟨#[46]⟩ + 1 = P.length := by
    have h1 := count_pieces 46 (s.data.toList.length + 1) s.data.toList (by omega)
    have h2 := congrArg List.length hdata
    rw [List.length_map] at h2
    rw [h2, ← h1]; rfl
  rw [hP, hcnt] at hsp
  have hlen : s.size = s.data.toList.length := size_len s
  have hlab : ∀ (j : Nat) (x : ByteArray), P[j]? = some x → ∀ W, Calls Tryz.prog 252 #[.string x] W fun e w' => e = .returned (.bool (labelB x.data.toList)) ∧ Below W.heap.size W w' := by
    intro j x hx W
    have hmem : x.data.toList ∈ piecesAt 46 s.data.toList := by rw [← hdata]; exact List.mem_map.2 ⟨x, List.mem_of_getElem? hx, rfl⟩
    have := pieces_le 46 _ _ hmem
    have hxl := size_len x
    exact addrLabel_calls x W (by omega)
  have hres : domainB s.data.toList = (P.all (fun x => labelB x.data.toList) && decide (s.size ≤ 64)) := by
    unfold domainB
    rw [← hdata, List.all_map, hlen]; rfl
  rw [hres]
  have hPl : P.length ≤ 4294967281 := by
    have h2 := congrArg List.length hdata
    rw [List.length_map] at h2
    have := count_pieces 46 (s.data.toList.length + 1) s.data.toList (by omega)
    have hle := Lib.countB_le ⟨#[46]⟩ (by decide) s.size s (Nat.le_refl _)
    omega
  have hPi : (P.length : Int) ≤ 4294967281 := by omega
  have hcell0 := fun (j : Nat) (x : ByteArray) (hx : P[j]? = some x) => (show (w.alloc (.cells (P.map Value.string).toArray 9)).cell? ⟨w.heap.size, j, none⟩ = some (.string x) by
    rw [cell_of_row _ _ _ _ _ _ (heap_alloc_new w _)]
    simp [hx])
  have Hsp := Lib.hid hsp
  have Hlab := Lib.hid hlab
  have Hcell := Lib.hid hcell0
  clear hsp hlab hcell0 hcnt hdata hres hP hlen hm
  go_enter Tryz.func238, Tryz.ntmps238
  go_wp2_with fail
  refine (Hsp.out).mono ?_; rintro e w1 ⟨rfl, rfl⟩
  go_wp2
  go_loopw [8] (fun i wr => ∃ j : Nat, j ≤ P.length ∧ i = .int .i64 j ∧ (P.take j).all (fun x => labelB x.data.toList) = true ∧ Below (w.alloc (.cells (P.map Value.string).toArray 9)).heap.size (w.alloc (.cells (P.map Value.string).toArray 9)) wr) (fun i _ => P.length - (intOf i).toNat)
  case atStart => exact ⟨0, Nat.zero_le _, rfl, rfl, Below.refl _ _⟩
  case round =>
    obtain ⟨j, hj, rfl, hall, hbw⟩ := hrel
    have hbw0 : Below w.heap.size w wr := ((Below.refl _ _).alloc (Nat.le_refl _) _).trans (hbw.mono (by simp))
    by_cases hlt : j < P.length
    · obtain ⟨x, hx⟩ : ∃ x, P[j]? = some x := ⟨_, List.getElem?_eq_getElem hlt⟩
      have hc := (hbw.cell (p := ⟨w.heap.size, j, none⟩) (by show w.heap.size < _; simp)).trans (Hcell.out j x hx)
      have hl := Hlab.out j x hx
      have htk : (P.take (j + 1)).all (fun x => labelB x.data.toList) = labelB x.data.toList := by
        rw [take_snoc hx, List.all_append, hall]; simp
      have hno : labelB x.data.toList = false → P.all (fun x => labelB x.data.toList) = false := by
        intro h; rw [List.all_eq_false]; exact ⟨x, List.mem_of_getElem? hx, by rw [h]; simp⟩
      generalize labelB x.data.toList = v at hl htk hno
      have Hl := Lib.hid hl
      have Htk := Lib.hid htk
      have Hno := Lib.hid hno
      have hj0 : (0 : Int) ≤ (j : Int) := by omega
      have hj1 : (j : Int) < (P.length : Int) := by omega
      have Hb0 := Lib.hid hbw0
      have Hbw := Lib.hid hbw
      clear hl htk hno hall hx hbw0 hbw
      cases v
      · go_wp2_with fail
        refine (Hl.out _).mono ?_; rintro e w2 ⟨rfl, hb2⟩
        go_wp2
        go_ret
        exact ⟨by rw [Hno.out (by trivial)]; rfl, Hb0.out.trans (hb2.mono Hb0.out.size)⟩
      · go_wp2_with fail
        refine (Hl.out _).mono ?_; rintro e w2 ⟨rfl, hb2⟩
        go_wp2
        go_roundw
        case rel => exact ⟨j + 1, by omega, by simp, Htk.out, Hbw.out.trans (hb2.mono Hbw.out.size)⟩
        case measure => simp [intOf] <;> omega
    · have hje : j = P.length := by omega
      subst hje
      rw [List.take_of_length_le (Nat.le_refl _)] at hall
      have Hall := Lib.hid hall
      clear hall
      by_cases h64 : (s.size : Int) ≤ 64
      · have hd : decide (s.size ≤ 64) = true := decide_eq_true (by omega)
        have Hd := Lib.hid hd
        clear hd
        go_wp2
        go_ret
        exact ⟨by rw [Hall.out, Hd.out]; simp, hbw0⟩
      · have hd : decide (s.size ≤ 64) = false := decide_eq_false (by omega)
        have Hd := Lib.hid hd
        clear hd
        go_wp2
        go_ret
        exact ⟨by rw [Hall.out, Hd.out]; simp <;> omega, hbw0⟩
end Go.Proofs.YtffnbkmigapmjaaGreatDoor

set_option linter.unusedSimpArgs false
set_option linter.unusedVariables false
namespace PbCrc
abbrev B32 := BitVec 32
def poly : B32 := 0xedb88320#32
/-- One bit's step. -/
def step (c : B32) : B32 := if c.getLsbD 0 then (c >>> 1) ^^^ poly else c >>> 1
def steps : Nat → B32 → B32
  | 0, c => c
  | n + 1, c => steps n (step c)
theorem steps_succ (n : Nat) (c : B32) : steps (n + 1) c = step (steps n c) := by
  induction n generalizing c with
  | zero => rfl
  | succ n ih => rw [steps, ih]; rfl
/-- The table's entry. -/
def tab (n : Nat) : B32 := steps 8 (BitVec.ofNat 32 n)
/-- A byte's step, by the table. -/
def byteTab (c : B32) (x : UInt8) : B32 := tab (UInt8.ofNat c.toNat ^^^ x).toNat ^^^ (c >>> 8)
/-- A byte's step, by definition. -/
def byteStep (c : B32) (x : UInt8) : B32 := steps 8 (c ^^^ BitVec.ofNat 32 x.toNat)
def run (c : B32) (l : List UInt8) : B32 := l.foldl byteStep c
def sum (l : List UInt8) : B32 := ~~~ (run (BitVec.allOnes 32) l)

theorem step_xor (a b : B32) : step (a ^^^ b) = step a ^^^ step b := by
  unfold step
  rw [BitVec.getLsbD_xor, BitVec.ushiftRight_xor_distrib]
  cases ha : a.getLsbD 0 <;> cases hb : b.getLsbD 0
  · simp
  · simp [BitVec.xor_assoc]
  · simp only [Bool.xor_false, if_true, Bool.false_eq_true, if_false]
    ac_rfl
  · simp only [Bool.xor_self, Bool.false_eq_true, if_false, if_true]
    rw [show a >>> 1 ^^^ poly ^^^ (b >>> 1 ^^^ poly) = a >>> 1 ^^^ b >>> 1 ^^^ (poly ^^^ poly) by ac_rfl]
    simp
theorem steps_xor (n : Nat) (a b : B32) : steps n (a ^^^ b) = steps n a ^^^ steps n b := by
  induction n generalizing a b with
  | zero => rfl
  | succ n ih => rw [steps, step_xor, ih]; rfl
theorem step_zero : step 0#32 = 0#32 := by decide
theorem steps_zero (n : Nat) : steps n 0#32 = 0#32 := by
  induction n with
  | zero => rfl
  | succ n ih => rw [steps, step_zero, ih]
/-- Where the lowest n bits are nought, n steps are a shift. -/
theorem steps_shift (n : Nat) (c : B32) (h : ∀ i, i < n → c.getLsbD i = false) : steps n c = c >>> n := by
  induction n generalizing c with
  | zero => simp [steps]
  | succ n ih =>
    rw [steps, step, if_neg (by rw [h 0 (by omega)]; decide), ih]
    · rw [← BitVec.shiftRight_add, Nat.add_comm]
    · intro i hi
      rw [BitVec.getLsbD_ushiftRight, Nat.add_comm]
      exact h (i + 1) (by omega)
theorem lowByte (c : B32) (x : UInt8) (i : Nat) : (BitVec.ofNat 32 (UInt8.ofNat c.toNat ^^^ x).toNat).getLsbD i = (decide (i < 8) && ((c ^^^ BitVec.ofNat 32 x.toNat).getLsbD i)) := by
  rw [BitVec.getLsbD_xor, BitVec.getLsbD_ofNat, BitVec.getLsbD_ofNat, UInt8.toNat_xor, UInt8.toNat_ofNat', Nat.testBit_xor, Nat.testBit_mod_two_pow, ← BitVec.testBit_toNat]
  by_cases h : i < 8
  · simp [h, show i < 32 by omega]
  · have : x.toNat.testBit i = false := Nat.testBit_lt_two_pow (Nat.lt_of_lt_of_le x.toNat_lt (Nat.pow_le_pow_right (by omega) (by omega)))
    simp [h, this]
theorem byteTab_eq (c : B32) (x : UInt8) : byteTab c x = byteStep c x := by
  unfold byteTab byteStep tab
  have e : c ^^^ BitVec.ofNat 32 x.toNat = BitVec.ofNat 32 (UInt8.ofNat c.toNat ^^^ x).toNat ^^^ ((c >>> 8) <<< 8) := by
    apply BitVec.eq_of_getLsbD_eq
    intro i hi
    rw [BitVec.getLsbD_xor (x := BitVec.ofNat 32 (UInt8.ofNat c.toNat ^^^ x).toNat), lowByte, BitVec.getLsbD_shiftLeft, BitVec.getLsbD_ushiftRight]
    by_cases h : i < 8
    · simp [h]
    · have : x.toNat.testBit i = false := Nat.testBit_lt_two_pow (Nat.lt_of_lt_of_le x.toNat_lt (Nat.pow_le_pow_right (by omega) (by omega)))
      rw [BitVec.getLsbD_xor, BitVec.getLsbD_ofNat, this]
      simp [h, hi, show 8 + (i - 8) = i by omega]
  rw [e, steps_xor, steps_shift 8 ((c >>> 8) <<< 8)]
  · congr 1
    apply BitVec.eq_of_getLsbD_eq
    intro i hi
    simp only [BitVec.getLsbD_ushiftRight, BitVec.getLsbD_shiftLeft]
    by_cases h : i + 8 < 32
    · simp [show 8 + i < 32 by omega]
    · rw [BitVec.getLsbD_of_ge c (8 + i) (by omega)]; simp only [Bool.false_eq]; simp; intro h'; omega
  · intro i hi
    simp [BitVec.getLsbD_shiftLeft, hi]

/-- The sum bit by bit, as the reference has it: the k-th of x's bits. -/
def bitStep (c : B32) (b : Bool) : B32 := if (c.getLsbD 0 ^^ b) then (c >>> 1) ^^^ poly else c >>> 1
def bitRun (c : B32) (x : UInt8) : Nat → B32
  | 0 => c
  | k + 1 => bitStep (bitRun c x k) (x.toNat.testBit k)
theorem bitStep_eq (c : B32) (b : Bool) : bitStep c b = step (c ^^^ BitVec.ofNat 32 b.toNat) := by
  have h : (c ^^^ BitVec.ofNat 32 b.toNat) >>> 1 = c >>> 1 := by
    rw [BitVec.ushiftRight_xor_distrib]
    cases b <;> simp
  unfold bitStep step
  rw [h, BitVec.getLsbD_xor]
  cases b <;> simp
theorem bitRun_eq (c : B32) (x : UInt8) (k : Nat) (hk : k ≤ 8) : bitRun c x k ^^^ BitVec.ofNat 32 (x.toNat >>> k) = steps k (c ^^^ BitVec.ofNat 32 x.toNat) := by
  induction k with
  | zero => rfl
  | succ k ih =>
    have ih := ih (by omega)
    rw [steps_succ, ← ih, bitRun, bitStep_eq]
    have e : BitVec.ofNat 32 (x.toNat >>> k) = BitVec.ofNat 32 (x.toNat.testBit k).toNat ^^^ (BitVec.ofNat 32 (x.toNat >>> (k + 1)) <<< 1) := by
      apply BitVec.eq_of_getLsbD_eq
      intro i hi
      rw [BitVec.getLsbD_xor, BitVec.getLsbD_shiftLeft, BitVec.getLsbD_ofNat, BitVec.getLsbD_ofNat, BitVec.getLsbD_ofNat, Nat.testBit_shiftRight, Nat.testBit_shiftRight]
      cases i with
      | zero => cases x.toNat.testBit k <;> simp
      | succ i =>
        have : (x.toNat.testBit k).toNat.testBit (i + 1) = false := by cases x.toNat.testBit k <;> simp [Nat.testBit_succ]
        simp [this, hi, show i < 32 by omega, show k + 1 + i = k + (i + 1) by omega]
    have e2 : step (BitVec.ofNat 32 (x.toNat >>> (k + 1)) <<< 1) = BitVec.ofNat 32 (x.toNat >>> (k + 1)) := by
      unfold step
      rw [if_neg (by simp)]
      apply BitVec.eq_of_getLsbD_eq
      intro i hi
      rw [BitVec.getLsbD_ushiftRight, BitVec.getLsbD_shiftLeft]
      have : (x.toNat >>> (k+1)).testBit i = false ∨ i < 31 := by
        by_cases h : i < 31
        · exact .inr h
        · left; apply Nat.testBit_lt_two_pow
          have := x.toNat_lt
          have h2 : x.toNat >>> (k+1) ≤ x.toNat := Nat.shiftRight_le ..
          exact Nat.lt_of_le_of_lt h2 (Nat.lt_of_lt_of_le this (Nat.pow_le_pow_right (by omega) (by omega)))
      rcases this with h | h
      · rw [BitVec.getLsbD_ofNat, BitVec.getLsbD_ofNat]
        rw [show 1 + i - 1 = i by omega, h]; simp
      · simp [show 1 + i < 32 by omega]
    rw [e, show bitRun c x k ^^^ (BitVec.ofNat 32 (x.toNat.testBit k).toNat ^^^ BitVec.ofNat 32 (x.toNat >>> (k + 1)) <<< 1) = (bitRun c x k ^^^ BitVec.ofNat 32 (x.toNat.testBit k).toNat) ^^^ (BitVec.ofNat 32 (x.toNat >>> (k + 1)) <<< 1) by ac_rfl, step_xor (bitRun c x k ^^^ BitVec.ofNat 32 (x.toNat.testBit k).toNat), e2]
theorem bitRun_byte (c : B32) (x : UInt8) : bitRun c x 8 = byteStep c x := by
  have h := bitRun_eq c x 8 (by omega)
  have hx : x.toNat >>> 8 = 0 := by have := x.toNat_lt; rw [Nat.shiftRight_eq_div_pow]; omega
  rw [hx] at h
  unfold byteStep
  rw [← h]; simp

theorem run_append (c : B32) (a b : List UInt8) : run c (a ++ b) = run (run c a) b := by simp [run]
theorem run_snoc (c : B32) (a : List UInt8) (x : UInt8) : run c (a ++ [x]) = byteStep (run c a) x := by simp [run]
theorem byteStep_xor (c d : B32) (x y : UInt8) : byteStep (c ^^^ d) (x ^^^ y) = byteStep c x ^^^ byteStep d y := by
  unfold byteStep
  rw [← steps_xor]
  congr 1
  rw [show BitVec.ofNat 32 (x ^^^ y).toNat = BitVec.ofNat 32 x.toNat ^^^ BitVec.ofNat 32 y.toNat by
    rw [UInt8.toNat_xor]
    apply BitVec.eq_of_getLsbD_eq; intro i hi
    simp [hi]]
  ac_rfl
def lay (a b : List UInt8) : List UInt8 := List.zipWith (· ^^^ ·) a b
theorem run_lay : ∀ (a b : List UInt8) (c d : B32), a.length = b.length → run (c ^^^ d) (lay a b) = run c a ^^^ run d b
  | [], [], c, d, _ => rfl
  | x :: a, y :: b, c, d, h => by
    show run (byteStep (c ^^^ d) (x ^^^ y)) (lay a b) = _
    rw [byteStep_xor, run_lay a b _ _ (by simpa using h)]; rfl
/-- Three texts of one length. -/
theorem sum_lay (a b c : List UInt8) (hb : a.length = b.length) (hc : a.length = c.length) : sum (lay (lay a b) c) = sum a ^^^ sum b ^^^ sum c := by
  unfold sum
  have h1 : (lay a b).length = c.length := by simp [lay, ← hb, hc]
  have e : BitVec.allOnes 32 = BitVec.allOnes 32 ^^^ BitVec.allOnes 32 ^^^ BitVec.allOnes 32 := by decide
  conv => lhs; rw [e]
  rw [run_lay _ _ _ _ h1, run_lay _ _ _ _ hb]
  generalize run (BitVec.allOnes 32) a = p; generalize run (BitVec.allOnes 32) b = q; generalize run (BitVec.allOnes 32) c = r
  apply BitVec.eq_of_getLsbD_eq; intro i hi
  simp only [BitVec.getLsbD_not, BitVec.getLsbD_xor, hi, decide_true, Bool.true_and]
  cases p.getLsbD i <;> cases q.getLsbD i <;> cases r.getLsbD i <;> rfl

/-! A turn of some bits within 32 shows. -/
theorem step_ne {c : B32} (h : c ≠ 0#32) : step c ≠ 0#32 := by
  intro e
  unfold step at e
  split at e
  · have := congrArg (·.getLsbD 31) e
    simp [poly] at this
  · rename_i h0
    apply h
    apply BitVec.eq_of_getLsbD_eq
    intro i hi
    cases i with
    | zero => simpa using h0
    | succ i =>
      have := congrArg (·.getLsbD i) e
      simp only [BitVec.getLsbD_ushiftRight] at this
      rw [Nat.add_comm] at this
      simpa using this
theorem steps_ne (n : Nat) {c : B32} (h : c ≠ 0#32) : steps n c ≠ 0#32 := by
  induction n generalizing c with
  | zero => exact h
  | succ n ih => exact ih (step_ne h)
theorem steps_add (m n : Nat) (c : B32) : steps (m + n) c = steps m (steps n c) := by
  induction n generalizing c with
  | zero => rfl
  | succ n ih => exact ih (step c)
theorem run_zeros_ne (n : Nat) {c : B32} (h : c ≠ 0#32) : run c (List.replicate n 0) ≠ 0#32 := by
  induction n generalizing c with
  | zero => exact h
  | succ n ih =>
    show run (byteStep c 0) (List.replicate n 0) ≠ _
    refine ih ?_
    unfold byteStep
    exact steps_ne 8 (by simpa using h)
theorem run_zeros (n : Nat) : run 0#32 (List.replicate n 0) = 0#32 := by
  induction n with
  | zero => rfl
  | succ n ih =>
    show run (byteStep 0#32 0) (List.replicate n 0) = _
    rw [show byteStep 0#32 0 = 0#32 by decide]; exact ih
theorem byte_bit (x : UInt8) (i : Nat) (h : 8 ≤ i) : x.toNat.testBit i = false :=
  Nat.testBit_lt_two_pow (Nat.lt_of_lt_of_le x.toNat_lt (Nat.pow_le_pow_right (by omega) h))
theorem steps_up (n : Nat) (hn : n ≤ 24) (x : UInt8) : steps n (BitVec.ofNat 32 x.toNat <<< n) = BitVec.ofNat 32 x.toNat := by
  rw [steps_shift]
  · apply BitVec.eq_of_getLsbD_eq
    intro i hi
    rw [BitVec.getLsbD_ushiftRight, BitVec.getLsbD_shiftLeft, show n + i - n = i by omega]
    by_cases h : i < 8
    · simp [show n + i < 32 by omega]
    · have := byte_bit x i (by omega)
      rw [BitVec.getLsbD_ofNat, this]; simp
  · intro i hi
    simp [BitVec.getLsbD_shiftLeft, hi]
theorem run_four (x0 x1 x2 x3 : UInt8) : run 0#32 [x0, x1, x2, x3] =
    steps 32 (BitVec.ofNat 32 x0.toNat ^^^ BitVec.ofNat 32 x1.toNat <<< 8 ^^^ BitVec.ofNat 32 x2.toNat <<< 16 ^^^ BitVec.ofNat 32 x3.toNat <<< 24) := by
  show byteStep (byteStep (byteStep (byteStep 0#32 x0) x1) x2) x3 = _
  unfold byteStep
  have a16 : ∀ c, steps 16 c = steps 8 (steps 8 c) := fun c => steps_add 8 8 c
  have a24 : ∀ c, steps 24 c = steps 8 (steps 8 (steps 8 c)) := fun c => (steps_add 8 16 c).trans (by rw [a16])
  have a32 : ∀ c, steps 32 c = steps 8 (steps 8 (steps 8 (steps 8 c))) := fun c => (steps_add 8 24 c).trans (by rw [a24])
  have u1 := steps_up 8 (by omega) x1
  have u2 := steps_up 16 (by omega) x2
  have u3 := steps_up 24 (by omega) x3
  rw [a16] at u2
  rw [a24] at u3
  rw [a32]
  simp only [steps_xor, u1, u2, u3, steps_zero]
  simp
/-- The five bytes of a turn. -/
def five (X : Nat) : List UInt8 := (List.range 5).map fun i => UInt8.ofNat (X >>> (8 * i))
theorem ofNat_byte (n i : Nat) : (BitVec.ofNat 32 (UInt8.ofNat n).toNat).getLsbD i = (decide (i < 8) && n.testBit i) := by
  rw [BitVec.getLsbD_ofNat, UInt8.toNat_ofNat', Nat.testBit_mod_two_pow]
  by_cases h : i < 8
  · simp [h, show i < 32 by omega]
  · simp [h]
theorem burst (turn : B32) (s : Nat) (hs : s < 8) (ht : turn ≠ 0#32) : run 0#32 (five (turn.toNat <<< s)) ≠ 0#32 := by
  show byteStep (run 0#32 [UInt8.ofNat (turn.toNat <<< s >>> 0), UInt8.ofNat (turn.toNat <<< s >>> 8), UInt8.ofNat (turn.toNat <<< s >>> 16), UInt8.ofNat (turn.toNat <<< s >>> 24)]) (UInt8.ofNat (turn.toNat <<< s >>> 32)) ≠ _
  rw [run_four]
  have lo : BitVec.ofNat 32 (UInt8.ofNat (turn.toNat <<< s >>> 0)).toNat ^^^ BitVec.ofNat 32 (UInt8.ofNat (turn.toNat <<< s >>> 8)).toNat <<< 8 ^^^ BitVec.ofNat 32 (UInt8.ofNat (turn.toNat <<< s >>> 16)).toNat <<< 16 ^^^ BitVec.ofNat 32 (UInt8.ofNat (turn.toNat <<< s >>> 24)).toNat <<< 24 = turn <<< s := by
    apply BitVec.eq_of_getLsbD_eq
    intro i hi
    simp only [BitVec.getLsbD_xor, BitVec.getLsbD_shiftLeft, ofNat_byte, Nat.testBit_shiftRight, Nat.testBit_shiftLeft, hi, decide_true, Bool.true_and, BitVec.testBit_toNat]
    by_cases h1 : i < 8
    · simp [h1, show i < 16 by omega, show i < 24 by omega]
      by_cases h : s ≤ i
      · simp [h, show ¬ i < s by omega]
      · simp [h, show i < s by omega]
    · by_cases h2 : i < 16
      · simp [h1, h2, show i < 24 by omega, show s ≤ i by omega, show ¬ i < s by omega, show i - 8 < 8 by omega, show 8 + (i - 8) = i by omega]
      · by_cases h3 : i < 24
        · simp [h1, h2, h3, show s ≤ i by omega, show ¬ i < s by omega, show ¬ i - 8 < 8 by omega, show i - 16 < 8 by omega, show 16 + (i - 16) = i by omega]
        · simp [h1, h2, h3, show s ≤ i by omega, show ¬ i < s by omega, show ¬ i - 8 < 8 by omega, show ¬ i - 16 < 8 by omega, show i - 24 < 8 by omega, show 24 + (i - 24) = i by omega]
  rw [lo]
  unfold byteStep
  refine steps_ne 8 ?_
  have key : steps 32 (turn <<< s) ^^^ BitVec.ofNat 32 (UInt8.ofNat (turn.toNat <<< s >>> 32)).toNat = steps (32 - s) turn := by
    have h32 := steps_add (32 - s) s (turn <<< s)
    rw [show 32 - s + s = 32 by omega] at h32
    rw [h32, steps_shift s (turn <<< s) (by intro i hi; simp [BitVec.getLsbD_shiftLeft, hi])]
    have e : turn = (turn <<< s >>> s) ^^^ ((turn >>> (32 - s)) <<< (32 - s)) := by
      apply BitVec.eq_of_getLsbD_eq
      intro i hi
      rw [BitVec.getLsbD_xor, BitVec.getLsbD_ushiftRight, BitVec.getLsbD_shiftLeft, BitVec.getLsbD_shiftLeft, BitVec.getLsbD_ushiftRight, show s + i - s = i by omega]
      by_cases h : i < 32 - s
      · simp [h, show s + i < 32 by omega]
      · simp [h, hi, show ¬ s + i < 32 by omega, show 32 - s + (i - (32 - s)) = i by omega]
    conv => rhs; rw [e]
    rw [steps_xor, steps_shift (32 - s) ((turn >>> (32 - s)) <<< (32 - s)) (by intro i hi; simp [BitVec.getLsbD_shiftLeft, hi])]
    congr 1
    apply BitVec.eq_of_getLsbD_eq
    intro i hi
    rw [ofNat_byte, Nat.testBit_shiftRight, Nat.testBit_shiftLeft, BitVec.testBit_toNat, BitVec.getLsbD_ushiftRight, BitVec.getLsbD_shiftLeft, BitVec.getLsbD_ushiftRight, show 32 - s + i - (32 - s) = i by omega, show 32 + i - s = 32 - s + i by omega]
    by_cases h : i < 8
    · by_cases h2 : i < s
      · simp [h, show 32 - s + i < 32 by omega, show s ≤ 32 + i by omega]
      · rw [BitVec.getLsbD_of_ge turn (32 - s + i) (by omega)]; simp
    · rw [BitVec.getLsbD_of_ge turn (32 - s + i) (by omega)]; simp
  rw [key]
  exact steps_ne _ ht
/-- Bytes of which five are turned by a burst, have another sum. -/
theorem sum_burst (p q : List UInt8) (m : List UInt8) (turn : B32) (s : Nat) (hs : s < 8) (ht : turn ≠ 0#32) (hm : m.length = 5) :
    sum (p ++ m ++ q) ≠ sum (p ++ lay m (five (turn.toNat <<< s)) ++ q) := by
  intro e
  unfold sum at e
  have e := BitVec.not_inj.1 e
  rw [run_append, run_append, run_append, run_append] at e
  generalize run (BitVec.allOnes 32) p = c at e
  have h5 : (five (turn.toNat <<< s)).length = 5 := rfl
  have h1 := run_lay m (five (turn.toNat <<< s)) c 0#32 (by rw [hm, h5])
  rw [show c ^^^ 0#32 = c by simp] at h1
  rw [h1] at e
  have hb := burst turn s hs ht
  generalize run 0#32 (five (turn.toNat <<< s)) = d at e hb
  generalize run c m = c1 at e
  have h2 := run_lay q (List.replicate q.length 0) c1 d (by simp)
  rw [show lay q (List.replicate q.length 0) = q by
    apply List.ext_getElem (by simp [lay]); intro i h1 h2; simp [lay]] at h2
  rw [h2] at e
  have h3 := run_zeros_ne q.length hb
  apply h3
  generalize run d (List.replicate q.length 0) = z at e
  generalize run c1 q = y at e
  have : y ^^^ y = y ^^^ (y ^^^ z) := by rw [← e]
  rw [← BitVec.xor_assoc] at this
  simpa using this.symm
end PbCrc
