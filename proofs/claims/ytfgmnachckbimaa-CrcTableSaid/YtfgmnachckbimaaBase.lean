/-
  Words that all walks of this claim share: bytes in memory, whole numbers of 32 bits, worlds that only grow.
-/
import Derived.WalkKit
import Derived.KernelRfl
import Derived.Lib.Hide
import Derived.OpenShut
set_option linter.unusedSimpArgs false
set_option linter.unusedVariables false
namespace Go.Proofs.Ytfgmnachckbimaa
open Go.RowKit
/-- A byte as a value. -/
abbrev u8v (x : UInt8) : Value := .int .u8 (x.toNat : Int)
/-- A number of 32 bits as a value. -/
abbrev u32v (c : BitVec 32) : Value := .int .u32 (c.toNat : Int)
/-- The slice value v holds the bytes bs. -/
def RdB (w : World) (v : Value) (bs : List UInt8) : Prop :=
  (∃ a c, v = .slice a 0 c ∧ c ≤ 9223372036854775807 ∧ bs = []) ∨ ∃ b off cap, v = .slice (some ⟨b, off, none⟩) bs.length cap ∧ bs ≠ [] ∧ bs.length ≤ cap ∧ cap ≤ 9223372036854775807 ∧ b < w.heap.size ∧ ∀ j x, bs[j]? = some x → w.cell? ⟨b, off + j, none⟩ = some (u8v x)
theorem RdB.below {B : Nat} {w w' : World} {v : Value} {bs : List UInt8} (h : RdB w v bs) (hB : w.heap.size ≤ B) (hb : Below B w w') : RdB w' v bs := by
  rcases h with ⟨a, c, h1, h2⟩ | ⟨b, off, cap, h1, h0, h2, h3, h4, h5⟩
  · exact .inl ⟨a, c, h1, h2⟩
  · exact .inr ⟨b, off, cap, h1, h0, h2, h3, Nat.lt_of_lt_of_le h4 hb.size, fun j x hx => (hb.cell (p := ⟨b, off + j, none⟩) (by exact Nat.lt_of_lt_of_le h4 hB)).trans (h5 j x hx)⟩
theorem RdB.form {w : World} {v : Value} {bs : List UInt8} (h : RdB w v bs) : ∃ a cap, v = .slice a bs.length cap ∧ bs.length ≤ cap ∧ cap ≤ 9223372036854775807 := by
  rcases h with ⟨a, c, rfl, hc, rfl⟩ | ⟨b, off, cap, rfl, h0, h1, h2, _, _⟩
  · exact ⟨a, c, rfl, Nat.zero_le _, hc⟩
  · exact ⟨_, cap, rfl, h1, h2⟩
theorem below_cell {W w1 : World} (hb : Below W.heap.size W w1) : (∀ b o, b < W.heap.size → w1.cell? ⟨b, o, none⟩ = W.cell? ⟨b, o, none⟩) ∧ (∀ b o, b < W.heap.size → w1.frozen? ⟨b, o, none⟩ = W.frozen? ⟨b, o, none⟩) :=
  ⟨fun b o h => hb.cell (p := ⟨b, o, none⟩) h, fun b o h => hb.frozen (p := ⟨b, o, none⟩) h⟩
theorem heap_setRow_other (w : World) (g k : Nat) (cs : Array Value) (h : k ≠ g) : (w.setRow g cs).heap[k]? = w.heap[k]? := by
  simp only [World.setRow, Array.getElem?_modify]
  rw [if_neg (fun e => h e.symm)]
theorem below_setRow {B : Nat} {a w : World} (h : Below B a w) {g : Nat} (hg : B ≤ g) (cs : Array Value) : Below B a (w.setRow g cs) :=
  h.trans ⟨rfl, rfl, rfl, by simp, fun k hk => heap_setRow_other _ _ _ _ (by omega)⟩
theorem ofInt_toNat {n : Nat} (x : BitVec n) : BitVec.ofInt n (x.toNat : Int) = x := by simp
theorem wrap_u32 (x : BitVec 32) : IntKind.u32.wrap (x.toNat : Int) = (x.toNat : Int) := by rw [IntKind.wrap_u32]; have := x.isLt; omega
theorem bits_xor32 (x y : BitVec 32) : bits .xor .u32 (x.toNat : Int) (y.toNat : Int) = ((x ^^^ y).toNat : Int) := by
  unfold bits
  simp only [IntKind.bits, ofInt_toNat]
  exact wrap_u32 _
theorem bits_and32 (x y : BitVec 32) : bits .and .u32 (x.toNat : Int) (y.toNat : Int) = ((x &&& y).toNat : Int) := by
  unfold bits
  simp only [IntKind.bits, ofInt_toNat]
  exact wrap_u32 _
theorem bits_or32 (x y : BitVec 32) : bits .or .u32 (x.toNat : Int) (y.toNat : Int) = ((x ||| y).toNat : Int) := by
  unfold bits
  simp only [IntKind.bits, ofInt_toNat]
  exact wrap_u32 _
theorem wrap_u8 (x : BitVec 8) : IntKind.u8.wrap (x.toNat : Int) = (x.toNat : Int) := by rw [IntKind.wrap_u8]; have := x.isLt; omega
theorem bits_xor8 (x y : UInt8) : bits .xor .u8 (x.toNat : Int) (y.toNat : Int) = ((x ^^^ y).toNat : Int) := by
  unfold bits
  have h : ∀ z : UInt8, (z.toNat : Int) = (z.toBitVec.toNat : Int) := fun _ => rfl
  rw [h x, h y]
  simp only [IntKind.bits, ofInt_toNat]
  exact wrap_u8 _
theorem bits_and8 (x y : UInt8) : bits .and .u8 (x.toNat : Int) (y.toNat : Int) = ((x &&& y).toNat : Int) := by
  unfold bits
  have h : ∀ z : UInt8, (z.toNat : Int) = (z.toBitVec.toNat : Int) := fun _ => rfl
  rw [h x, h y]
  simp only [IntKind.bits, ofInt_toNat]
  exact wrap_u8 _
theorem u8_bit (x : UInt8) (j : Nat) : (bits .and .u8 ((x.toNat : Int) / 2 ^ j) 1 == 1) = x.toNat.testBit j := by
  have h1 : ((x.toNat : Int) / 2 ^ j) = ((UInt8.ofNat (x.toNat / 2 ^ j)).toNat : Int) := by
    have hx := x.toNat_lt
    have : x.toNat / 2 ^ j ≤ x.toNat := Nat.div_le_self _ _
    rw [UInt8.toNat_ofNat', Nat.mod_eq_of_lt (by omega)]
    simp
  rw [h1, show (1 : Int) = (((1 : UInt8).toNat : Nat) : Int) from rfl, bits_and8, UInt8.toNat_and, UInt8.toNat_ofNat']
  have h2 : x.toNat / 2 ^ j % 2 ^ 8 &&& (1 : UInt8).toNat = x.toNat / 2 ^ j % 2 := by
    show _ &&& 1 = _
    rw [Nat.and_one_is_mod, Nat.mod_mod_of_dvd _ (by decide)]
  rw [h2, Nat.testBit_eq_decide_div_mod_eq]
  have : x.toNat / 2 ^ j % 2 < 2 := Nat.mod_lt _ (by omega)
  generalize x.toNat / 2 ^ j % 2 = m at this
  rcases (by omega : m = 0 ∨ m = 1) with rfl | rfl <;> rfl

/-- A row that is owned and not empty has a block. -/
theorem own_form {w : World} {base : Nat} {e : TypeId} {size : Nat} {v : Value} {n : Nat} {xs : List Value} (h : w.ownsRow base e size v n xs) (hn : 0 < n) : ∃ g cap, v = .slice (some ⟨g, 0, none⟩) n cap ∧ base ≤ g ∧ g < w.heap.size ∧ n ≤ cap ∧ cap ≤ maxLen := by
  obtain ⟨h1, ⟨_, h2⟩ | ⟨g, cap, cur, hv, hg, hh, hc, hm, _⟩⟩ := h
  · omega
  · exact ⟨g, cap, hv, hg, (Array.getElem?_eq_some_iff.1 hh).1, hc, hm⟩
theorem add_at (b o j : Nat) : (⟨b, o, none⟩ : Addr).add j = ⟨b, o + j, none⟩ := by unfold Addr.add; split <;> simp_all
section
variable {P : Program} {t e : TypeId}
theorem run_slice_lh (ht : P.underlying t = some (.slice e)) (hi : (P.info? e).map (·.size) = some 1) (a : Option Addr) (len cap l h : Nat) (hl : l ≤ h) (hh : h ≤ cap) (w : World) :
    (Instr.sliceAt t (.slice a len cap) (some (.int .i64 (l : Int))) (some (.int .i64 (h : Int))) none).run P w = .ok (.slice (if cap = l then a else a.map (·.add l)) (h - l) (cap - l)) w := by
  obtain ⟨i, hi1, hi2⟩ := Option.map_eq_some_iff.1 hi
  simp [Instr.sliceAt, Instr.slice, Instr.sliceBounds, Instr.sliceBound, run_underlying ht, asIntOf, go_sem, hi1, hi2, sizeOf, typeInfo]
  rw [if_pos hh, if_pos hl]
theorem run_slice_h (ht : P.underlying t = some (.slice e)) (hi : (P.info? e).map (·.size) = some 1) (a : Option Addr) (len cap h : Nat) (hh : h ≤ cap) (w : World) :
    (Instr.sliceAt t (.slice a len cap) none (some (.int .i64 (h : Int))) none).run P w = .ok (.slice a h cap) w := by
  obtain ⟨i, hi1, hi2⟩ := Option.map_eq_some_iff.1 hi
  simp [Instr.sliceAt, Instr.slice, Instr.sliceBounds, Instr.sliceBound, run_underlying ht, asIntOf, go_sem, hi1, hi2, sizeOf, typeInfo]
  intro h'; omega
theorem run_slice_l (ht : P.underlying t = some (.slice e)) (hi : (P.info? e).map (·.size) = some 1) (a : Option Addr) (len cap l : Nat) (hl : l ≤ len) (w : World) :
    (Instr.sliceAt t (.slice a len cap) (some (.int .i64 (l : Int))) none none).run P w = .ok (.slice (if cap = l then a else a.map (·.add l)) (len - l) (cap - l)) w := by
  obtain ⟨i, hi1, hi2⟩ := Option.map_eq_some_iff.1 hi
  simp [Instr.sliceAt, Instr.slice, Instr.sliceBounds, Instr.sliceBound, run_underlying ht, asIntOf, go_sem, hi1, hi2, sizeOf, typeInfo]
  intro h'; omega
end
/-- A part of bytes that are read. -/
theorem RdB.part {w : World} {a : Option Addr} {len cap : Nat} {bs : List UInt8} (h : RdB w (.slice a len cap) bs) (l k : Nat) (hl : l ≤ k) (hk : k ≤ bs.length) :
    RdB w (.slice (if cap = l then a else a.map (·.add l)) (k - l) (cap - l)) ((bs.take k).drop l) := by
  rcases h with ⟨a', c, hv, hc, rfl⟩ | ⟨b, off, cap', hv, hne, h1, h2, h3, h4⟩
  · cases hv
    simp at hk
    subst hk
    obtain rfl : l = 0 := by omega
    exact .inl ⟨_, _, rfl, by omega, rfl⟩
  · cases hv
    by_cases e : l = k
    · subst e
      exact .inl ⟨_, _, by rw [Nat.sub_self], by omega, by simp⟩
    · have hcl : cap ≠ l := by omega
      have hlen : ((bs.take k).drop l).length = k - l := by simp [hk]
      refine .inr ⟨b, off + l, cap - l, ?_, ?_, by omega, by omega, h3, fun j x hx => ?_⟩
      · rw [if_neg hcl, hlen, Option.map_some, add_at]
      · rw [← List.length_pos_iff]; omega
      · have hj := (List.getElem?_eq_some_iff.1 hx).1
        rw [List.getElem?_drop, List.getElem?_take, if_pos (by omega)] at hx
        rw [Nat.add_assoc]
        exact h4 (l + j) x hx
theorem RdB.pre {w : World} {a : Option Addr} {len cap : Nat} {bs : List UInt8} (h : RdB w (.slice a len cap) bs) (k : Nat) (hk : k ≤ bs.length) :
    RdB w (.slice a k cap) (bs.take k) := by
  have := h.part 0 k (Nat.zero_le _) hk
  simp only [Nat.sub_zero, List.drop_zero] at this
  have e : (if cap = 0 then a else a.map (·.add 0)) = a := by
    split
    · rfl
    · cases a <;> rfl
  rwa [e] at this
/-- A row of bytes that the call owns. -/
theorem rdB_own {w : World} {base g n cap : Nat} {e : TypeId} {bs : List UInt8} (h : w.ownsRow base e 1 (.slice (some ⟨g, 0, none⟩) n cap) n (bs.map u8v)) (hm0 : cap ≤ maxLen) : RdB w (.slice (some ⟨g, 0, none⟩) n cap) bs := by
  by_cases hne : bs = []
  · subst hne
    have hn : n = 0 := by have := h.1; simpa using this.symm
    subst hn
    exact .inl ⟨_, _, rfl, hm0, rfl⟩
  have hn : n = bs.length := by have := h.1; simpa using this.symm
  subst hn
  obtain ⟨h1, h2 | ⟨g', cap', cur, hv, hg, hh, hc, hm, hs, _⟩⟩ := h
  · cases h2.1
  · cases hv
    refine .inr ⟨g, 0, cap, rfl, hne, hc, hm, (Array.getElem?_eq_some_iff.1 hh).1, fun j x hx => ?_⟩
    have := World.ownsRow.cellAt (w := w) (base := base) (e := e) (size := 1) (g := g) (n := bs.length) (cap := cap) (xs := bs.map u8v) ⟨h1, .inr ⟨g, cap, cur, rfl, hg, hh, hc, hm, hs, by assumption⟩⟩ j (by have := (List.getElem?_eq_some_iff.1 hx).1; omega)
    rw [Nat.zero_add, this]; simp [hx]
/-- A new block of bytes. -/
theorem rdB_new (w : World) (bs : List UInt8) (hne : bs ≠ []) (e : TypeId) (fr : Nat × Nat) (cs : Array Value) (n : Nat) (hcs : cs = (bs.map u8v).toArray) (hn : n = bs.length) (c : Nat) (hc : n ≤ c) (hc' : c ≤ 9223372036854775807) :
    RdB (w.alloc (.cells cs e fr)) (.slice (some ⟨w.heap.size, 0, none⟩) n c) bs := by
  subst hcs hn
  refine .inr ⟨w.heap.size, 0, c, rfl, hne, hc, hc', by simp, fun j x hx => ?_⟩
  rw [cell_of_row _ _ _ _ _ _ (heap_alloc_new w _)]
  simp [hx]
/-- From a row's reading (a slice of bytes that came in) to its bytes. -/
theorem rdB_of {w : World} {a : Option Addr} {len cap : Nat} {zs : List Int}
    (h : (a = none ∧ len = 0 ∧ cap = 0 ∧ zs = []) ∨
      ∃ x, a = some x ∧ len ≤ cap ∧ cap ≤ maxLen ∧ zs.length = cap ∧ (∀ i, i < zs.length → w.cell? (x.add i) = some (.int .u8 (zs.getD i 0))) ∧ ∀ n ∈ zs, (Lit.int .u8 n).wf = true) :
    ∃ bs, RdB w (.slice a len cap) bs ∧ bs.length = len := by
  rcases h with ⟨rfl, rfl, rfl, rfl⟩ | ⟨x, rfl, hl, hm, hz, hc, hw⟩
  · exact ⟨[], .inl ⟨none, 0, rfl, by omega, rfl⟩, rfl⟩
  · by_cases h0 : len = 0
    · subst h0
      exact ⟨[], .inl ⟨_, cap, rfl, hm, rfl⟩, rfl⟩
    · refine ⟨(zs.take len).map fun n => UInt8.ofNat n.toNat, ?_, by simp [hz, hl]⟩
      have hlen : ((zs.take len).map fun n => UInt8.ofNat n.toNat).length = len := by simp [hz, hl]
      obtain ⟨b, off, rfl, hc'⟩ := ints_at hc (by omega)
      refine .inr ⟨b, off, cap, by rw [hlen], by rw [← List.length_pos_iff]; omega, by omega, hm, ?_, ?_⟩
      · exact World.block_lt_of_cell? w ⟨b, off + 0, none⟩ (hc' 0 (by omega))
      · intro j y hy
        have hj : j < len := by have := (List.getElem?_eq_some_iff.1 hy).1; omega
        rw [hc' j (by omega)]
        simp only [List.getElem?_map, List.getElem?_take, if_pos hj] at hy
        have hjz : j < zs.length := by omega
        rw [List.getElem?_eq_getElem hjz] at hy
        simp only [Option.map_some, Option.some.injEq] at hy
        subst hy
        have hwf := hw zs[j] (List.getElem_mem _)
        obtain ⟨l, u⟩ := bounds_u8 hwf
        rw [List.getD_eq_getElem?_getD, List.getElem?_eq_getElem hjz]
        show some (Value.int .u8 zs[j]) = some (.int .u8 ((UInt8.ofNat zs[j].toNat).toNat : Int))
        rw [UInt8.toNat_ofNat', Nat.mod_eq_of_lt (by omega)]
        congr 2
        omega
end Go.Proofs.Ytfgmnachckbimaa
