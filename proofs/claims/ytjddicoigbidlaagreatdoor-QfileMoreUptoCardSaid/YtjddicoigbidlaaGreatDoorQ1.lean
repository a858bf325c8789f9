/-
  Words that all walks of this claim share: bytes in memory, whole numbers of 32 bits, worlds that only grow.
  What package word's Writer does: numbers and texts as bytes.
  Plain laws of the checksum: the table, the sum by the table, the sum bit by bit, its linearity, and that a turn within 32 bits shows.
  What the checksum's functions compute: crc.Table, crc.table, crc.Sum and the reference's CRC, for every input.
  What the reference's CRC computes, bit by bit: the same sum.
  What package mark computes: which marks are good, their bytes.
  What package word's Reader does: it takes bytes apart again.
  Reader.Done, and slices.Equal of bytes.
-/
import Derived.WalkKit
import Derived.KernelRfl
import Derived.Lib.Hide
import Derived.OpenShut
import Derived.Deep.AppendLies
import Derived.Deep.QuietTactic
import Derived.Test.YtjddicoigbidlaaGreatDoorProg
import Derived.Deep.RegionLaw
import Derived.RegionTactic
import Derived.WalkSpells
import Derived.Laws.CopyOwn
import Derived.BigQuiet
set_option linter.unusedSimpArgs false
set_option linter.unusedVariables false
namespace Go.Proofs.YtjddicoigbidlaaGreatDoor
open Go.RowKit
/-- A byte as a value. -/
abbrev u8v (x : UInt8) : Value := .int .u8 (x.toNat : Int)
/-- A number of 32 bits as a value. -/
abbrev u32v (c : BitVec 32) : Value := .int .u32 (c.toNat : Int)
/-- The slice value v holds the bytes bs. -/
def RdB (w : World) (v : Value) (bs : List UInt8) : Prop :=
  (∃ a c, v = .slice a 0 c ∧ c ≤ 9223372036854775807 ∧ bs = []) ∨ ∃ b off cap, v = .slice (some ⟨b, off, none⟩) bs.length cap ∧ bs ≠ [] ∧ bs.length ≤ cap ∧ cap ≤ 9223372036854775807 ∧ b < w.heap.size ∧ ∀ j x, bs[j]? = some x → w.cell? ⟨b, off + j, none⟩ = some (u8v x)
theorem RdB.below {B : Nat} {w w' : World} {v : Value} {bs : List UInt8} (h : RdB w v bs) (hB : w.heap.size ≤ B) (hb : Below B w w') : RdB w' v bs := by
  rcases h with ⟨a, c, h1, h2⟩ | ⟨b, off, cap, h1, h0, h2, h3, h4, h5⟩
  · exact .inl ⟨a, c, h1, h2⟩
  · exact .inr ⟨b, off, cap, h1, h0, h2, h3, Nat.lt_of_lt_of_le h4 hb.size, fun j x hx => (hb.cell (p := ⟨b, off + j, none⟩) (by exact Nat.lt_of_lt_of_le h4 hB)).trans (h5 j x hx)⟩
theorem RdB.form {w : World} {v : Value} {bs : List UInt8} (h : RdB w v bs) : ∃ a cap, v = .slice a bs.length cap ∧ bs.length ≤ cap ∧ cap ≤ 9223372036854775807 := by
  rcases h with ⟨a, c, rfl, hc, rfl⟩ | ⟨b, off, cap, rfl, h0, h1, h2, _, _⟩
  · exact ⟨a, c, rfl, Nat.zero_le _, hc⟩
  · exact ⟨_, cap, rfl, h1, h2⟩
/-- w' is w with new blocks, and of the old ones only those of F may have turned. -/
structure Keeps (F : Nat → Prop) (w w' : World) : Prop where
  os : w'.os = w.os
  tape : w'.tape = w.tape
  output : w'.output = w.output
  size : w.heap.size ≤ w'.heap.size
  block : ∀ k, k < w.heap.size → ¬ F k → w'.heap[k]? = w.heap[k]?
theorem Keeps.refl (F : Nat → Prop) (w : World) : Keeps F w w := ⟨rfl, rfl, rfl, Nat.le_refl _, fun _ _ _ => rfl⟩
/-- One step more: what it may turn is of F, or is new. -/
theorem Keeps.go {F G : Nat → Prop} {a w w' : World} (h : Keeps F a w) (k : Keeps G w w') (hG : ∀ i, G i → F i ∨ a.heap.size ≤ i) : Keeps F a w' :=
  ⟨k.os.trans h.os, k.tape.trans h.tape, k.output.trans h.output, Nat.le_trans h.size k.size, fun i hi hF =>
    (k.block i (Nat.lt_of_lt_of_le hi h.size) (fun g => (hG i g).elim hF (fun q => by omega))).trans (h.block i hi hF)⟩
theorem Keeps.trans {F : Nat → Prop} {a w w' : World} (h : Keeps F a w) (k : Keeps F w w') : Keeps F a w' := h.go k fun _ => Or.inl
theorem Keeps.mono {F G : Nat → Prop} {w w' : World} (h : Keeps F w w') (hG : ∀ i, i < w.heap.size → F i → G i) : Keeps G w w' :=
  ⟨h.os, h.tape, h.output, h.size, fun i hi hF => h.block i hi fun f => hF (hG i hi f)⟩
theorem Keeps.ofBelow {w w' : World} {F : Nat → Prop} (h : Below w.heap.size w w') : Keeps F w w' := ⟨h.os, h.tape, h.output, h.size, fun i hi _ => h.block i hi⟩
theorem Keeps.below {F : Nat → Prop} {B : Nat} {w w' : World} (h : Keeps F w w') (hF : ∀ i, F i → B ≤ i) (hB : B ≤ w.heap.size) : Below B w w' :=
  ⟨h.os, h.tape, h.output, h.size, fun k hk => h.block k (by omega) fun f => by have := hF k f; omega⟩
theorem Keeps.alloc (F : Nat → Prop) (w : World) (o : Obj) : Keeps F w (w.alloc o) := ⟨rfl, rfl, rfl, by simp, fun k hk _ => Below.heap_alloc w o k hk⟩
theorem Keeps.drew (F : Nat → Prop) (w : World) : Keeps F w w.drew := ⟨rfl, rfl, rfl, Nat.le_refl _, fun _ _ _ => rfl⟩
theorem Keeps.setCell {F : Nat → Prop} (w : World) (p : Addr) (u : Value) (hp : F p.block) : Keeps F w (w.setCell p u) :=
  ⟨rfl, rfl, rfl, by simp [World.setCell], fun k _ hF => Below.heap_setCell _ _ _ _ (fun e => hF (e ▸ hp))⟩
theorem Keeps.grown {w w' : World} {row : Option Nat} (hg : w.grownBy w' row) : Keeps (fun k => row = some k) w w' :=
  ⟨hg.os, hg.tape, hg.output, hg.size, fun k hk hF => hg.block k hk (fun e => hF e.symm)⟩
theorem Keeps.heap {F : Nat → Prop} {w w' : World} (h : Keeps F w w') {k : Nat} {o : Obj} (hk : w.heap[k]? = some o) (hF : ¬ F k) : w'.heap[k]? = some o :=
  (h.block k (Array.getElem?_eq_some_iff.1 hk).1 hF).trans hk
theorem Keeps.cell {F : Nat → Prop} {w w' : World} (h : Keeps F w w') {k o : Nat} {v : Value} (hF : ¬ F k) (hc : w.cell? ⟨k, o, none⟩ = some v) : w'.cell? ⟨k, o, none⟩ = some v :=
  (World.cell?_of_block (h.block k (World.block_lt_of_cell? w ⟨k, o, none⟩ hc) hF)).trans hc
/-- A row that is owned, where its block did not turn. -/
theorem own_keeps {F : Nat → Prop} {w w' : World} {base : Nat} {e : TypeId} {size : Nat} {v : Value} {n : Nat} {xs : List Value} (h : w.ownsRow base e size v n xs) (hk : Keeps F w w') (hF : ∀ k, v.ownBlock = some k → ¬ F k) : w'.ownsRow base e size v n xs := by
  obtain ⟨h1, h2 | ⟨g, cap, cur, hv, hg, hh, r⟩⟩ := h
  · exact ⟨h1, .inl h2⟩
  · exact ⟨h1, .inr ⟨g, cap, cur, hv, hg, hk.heap hh (hF g (by rw [hv]; rfl)), r⟩⟩
theorem own_mono {w : World} {base base' : Nat} {e : TypeId} {size : Nat} {v : Value} {n : Nat} {xs : List Value} (h : w.ownsRow base e size v n xs) (hb : base' ≤ base) : w.ownsRow base' e size v n xs := by
  obtain ⟨h1, h2 | ⟨g, cap, cur, hv, hg, r⟩⟩ := h
  · exact ⟨h1, .inl h2⟩
  · exact ⟨h1, .inr ⟨g, cap, cur, hv, Nat.le_trans hb hg, r⟩⟩
theorem own_below {w w' : World} {B base : Nat} {e : TypeId} {size : Nat} {v : Value} {n : Nat} {xs : List Value} (h : w.ownsRow base e size v n xs) (hb : Below B w w') (hB : w.heap.size ≤ B) : w'.ownsRow base e size v n xs :=
  own_keeps (F := fun _ => False) h ⟨hb.os, hb.tape, hb.output, hb.size, fun k hk _ => hb.block k (by omega)⟩ (fun _ _ => id)
theorem own_base {w : World} {base : Nat} {e : TypeId} {size : Nat} {v : Value} {n : Nat} {xs : List Value} (h : w.ownsRow base e size v n xs) : ∀ k, v.ownBlock = some k → base ≤ k := fun k hk => (h.lt k hk).1
theorem RdB.keeps {F : Nat → Prop} {w w' : World} {v : Value} {bs : List UInt8} (h : RdB w v bs) (hk : Keeps F w w') (hF : ∀ k, v.ownBlock = some k → ¬ F k) : RdB w' v bs := by
  rcases h with ⟨a, c, h1, h2⟩ | ⟨b, off, cap, h1, h0, h2, h3, h4, h5⟩
  · exact .inl ⟨a, c, h1, h2⟩
  · exact .inr ⟨b, off, cap, h1, h0, h2, h3, Nat.lt_of_lt_of_le h4 hk.size, fun j x hx => (World.cell?_of_block (hk.block b h4 (hF b (by rw [h1]; rfl)))).trans (h5 j x hx)⟩
theorem ret_bool {a b : Bool} (h : b = a) : Ending.returned (.bool a) = .returned (.bool b) := by rw [h]
theorem ret_tuple2 {a b c d : Value} (h : a = c) (k : b = d) : Ending.returned (.tuple #[a, b]) = .returned (.tuple #[c, d]) := by rw [h, k]
theorem ret_int {k : IntKind} {a b : Int} (h : a = b) : Ending.returned (.int k a) = .returned (.int k b) := by rw [h]
theorem below_cell {W w1 : World} (hb : Below W.heap.size W w1) : (∀ b o, b < W.heap.size → w1.cell? ⟨b, o, none⟩ = W.cell? ⟨b, o, none⟩) ∧ (∀ b o, b < W.heap.size → w1.frozen? ⟨b, o, none⟩ = W.frozen? ⟨b, o, none⟩) :=
  ⟨fun b o h => hb.cell (p := ⟨b, o, none⟩) h, fun b o h => hb.frozen (p := ⟨b, o, none⟩) h⟩
theorem heap_setRow_other (w : World) (g k : Nat) (cs : Array Value) (h : k ≠ g) : (w.setRow g cs).heap[k]? = w.heap[k]? := by
  simp only [World.setRow, Array.getElem?_modify]
  rw [if_neg (fun e => h e.symm)]
theorem below_setRow {B : Nat} {a w : World} (h : Below B a w) {g : Nat} (hg : B ≤ g) (cs : Array Value) : Below B a (w.setRow g cs) :=
  h.trans ⟨rfl, rfl, rfl, by simp, fun k hk => heap_setRow_other _ _ _ _ (by omega)⟩
theorem ofInt_toNat {n : Nat} (x : BitVec n) : BitVec.ofInt n (x.toNat : Int) = x := by simp
theorem wrap_u32 (x : BitVec 32) : IntKind.u32.wrap (x.toNat : Int) = (x.toNat : Int) := by rw [IntKind.wrap_u32]; have := x.isLt; omega
theorem bits_xor32 (x y : BitVec 32) : bits .xor .u32 (x.toNat : Int) (y.toNat : Int) = ((x ^^^ y).toNat : Int) := by
  unfold bits
  simp only [IntKind.bits, ofInt_toNat]
  exact wrap_u32 _
theorem bits_and32 (x y : BitVec 32) : bits .and .u32 (x.toNat : Int) (y.toNat : Int) = ((x &&& y).toNat : Int) := by
  unfold bits
  simp only [IntKind.bits, ofInt_toNat]
  exact wrap_u32 _
theorem bits_or32 (x y : BitVec 32) : bits .or .u32 (x.toNat : Int) (y.toNat : Int) = ((x ||| y).toNat : Int) := by
  unfold bits
  simp only [IntKind.bits, ofInt_toNat]
  exact wrap_u32 _
theorem wrap_u8 (x : BitVec 8) : IntKind.u8.wrap (x.toNat : Int) = (x.toNat : Int) := by rw [IntKind.wrap_u8]; have := x.isLt; omega
theorem bits_xor8 (x y : UInt8) : bits .xor .u8 (x.toNat : Int) (y.toNat : Int) = ((x ^^^ y).toNat : Int) := by
  unfold bits
  have h : ∀ z : UInt8, (z.toNat : Int) = (z.toBitVec.toNat : Int) := fun _ => rfl
  rw [h x, h y]
  simp only [IntKind.bits, ofInt_toNat]
  exact wrap_u8 _
theorem bits_and8 (x y : UInt8) : bits .and .u8 (x.toNat : Int) (y.toNat : Int) = ((x &&& y).toNat : Int) := by
  unfold bits
  have h : ∀ z : UInt8, (z.toNat : Int) = (z.toBitVec.toNat : Int) := fun _ => rfl
  rw [h x, h y]
  simp only [IntKind.bits, ofInt_toNat]
  exact wrap_u8 _
theorem u8_bit (x : UInt8) (j : Nat) : (bits .and .u8 ((x.toNat : Int) / 2 ^ j) 1 == 1) = x.toNat.testBit j := by
  have h1 : ((x.toNat : Int) / 2 ^ j) = ((UInt8.ofNat (x.toNat / 2 ^ j)).toNat : Int) := by
    have hx := x.toNat_lt
    have : x.toNat / 2 ^ j ≤ x.toNat := Nat.div_le_self _ _
    rw [UInt8.toNat_ofNat', Nat.mod_eq_of_lt (by omega)]
    simp
  rw [h1, show (1 : Int) = (((1 : UInt8).toNat : Nat) : Int) from rfl, bits_and8, UInt8.toNat_and, UInt8.toNat_ofNat']
  have h2 : x.toNat / 2 ^ j % 2 ^ 8 &&& (1 : UInt8).toNat = x.toNat / 2 ^ j % 2 := by
    show _ &&& 1 = _
    rw [Nat.and_one_is_mod, Nat.mod_mod_of_dvd _ (by decide)]
  rw [h2, Nat.testBit_eq_decide_div_mod_eq]
  have : x.toNat / 2 ^ j % 2 < 2 := Nat.mod_lt _ (by omega)
  generalize x.toNat / 2 ^ j % 2 = m at this
  rcases (by omega : m = 0 ∨ m = 1) with rfl | rfl <;> rfl

/-- A row that is owned and not empty has a block. -/
theorem own_form {w : World} {base : Nat} {e : TypeId} {size : Nat} {v : Value} {n : Nat} {xs : List Value} (h : w.ownsRow base e size v n xs) (hn : 0 < n) : ∃ g cap, v = .slice (some ⟨g, 0, none⟩) n cap ∧ base ≤ g ∧ g < w.heap.size ∧ n ≤ cap ∧ cap ≤ maxLen := by
  obtain ⟨h1, ⟨_, h2⟩ | ⟨g, cap, cur, hv, hg, hh, hc, hm, _⟩⟩ := h
  · omega
  · exact ⟨g, cap, hv, hg, (Array.getElem?_eq_some_iff.1 hh).1, hc, hm⟩
theorem add_at (b o j : Nat) : (⟨b, o, none⟩ : Addr).add j = ⟨b, o + j, none⟩ := by unfold Addr.add; split <;> simp_all
section
variable {P : Program} {t e : TypeId}
theorem run_slice_lh (ht : P.underlying t = some (.slice e)) (hi : (P.info? e).map (·.size) = some 1) (a : Option Addr) (len cap l h : Nat) (hl : l ≤ h) (hh : h ≤ cap) (w : World) :
    (Instr.sliceAt t (.slice a len cap) (some (.int .i64 (l : Int))) (some (.int .i64 (h : Int))) none).run P w = .ok (.slice (if cap = l then a else a.map (·.add l)) (h - l) (cap - l)) w := by
  obtain ⟨i, hi1, hi2⟩ := Option.map_eq_some_iff.1 hi
  simp [Instr.sliceAt, Instr.slice, Instr.sliceBounds, Instr.sliceBound, run_underlying ht, asIntOf, go_sem, hi1, hi2, sizeOf, typeInfo]
  rw [if_pos hh, if_pos hl]
theorem run_slice_h (ht : P.underlying t = some (.slice e)) (hi : (P.info? e).map (·.size) = some 1) (a : Option Addr) (len cap h : Nat) (hh : h ≤ cap) (w : World) :
    (Instr.sliceAt t (.slice a len cap) none (some (.int .i64 (h : Int))) none).run P w = .ok (.slice a h cap) w := by
  obtain ⟨i, hi1, hi2⟩ := Option.map_eq_some_iff.1 hi
  simp [Instr.sliceAt, Instr.slice, Instr.sliceBounds, Instr.sliceBound, run_underlying ht, asIntOf, go_sem, hi1, hi2, sizeOf, typeInfo]
  intro h'; omega
theorem run_slice_hm (ht : P.underlying t = some (.slice e)) (hi : (P.info? e).map (·.size) = some 1) (a : Option Addr) (len cap h : Nat) (hh : h ≤ cap) (w : World) :
    (Instr.sliceAt t (.slice a len cap) none (some (.int .i64 (h : Int))) (some (.int .i64 (h : Int)))).run P w = .ok (.slice a h h) w := by
  obtain ⟨i, hi1, hi2⟩ := Option.map_eq_some_iff.1 hi
  simp [Instr.sliceAt, Instr.slice, Instr.sliceBounds, Instr.sliceBound, run_underlying ht, asIntOf, go_sem, hi1, hi2, sizeOf, typeInfo]
  intro h'; omega
theorem run_slice_l (ht : P.underlying t = some (.slice e)) (hi : (P.info? e).map (·.size) = some 1) (a : Option Addr) (len cap l : Nat) (hl : l ≤ len) (w : World) :
    (Instr.sliceAt t (.slice a len cap) (some (.int .i64 (l : Int))) none none).run P w = .ok (.slice (if cap = l then a else a.map (·.add l)) (len - l) (cap - l)) w := by
  obtain ⟨i, hi1, hi2⟩ := Option.map_eq_some_iff.1 hi
  simp [Instr.sliceAt, Instr.slice, Instr.sliceBounds, Instr.sliceBound, run_underlying ht, asIntOf, go_sem, hi1, hi2, sizeOf, typeInfo]
  intro h'; omega
end
/-- A part of bytes that are read. -/
theorem RdB.part {w : World} {a : Option Addr} {len cap : Nat} {bs : List UInt8} (h : RdB w (.slice a len cap) bs) (l k : Nat) (hl : l ≤ k) (hk : k ≤ bs.length) :
    RdB w (.slice (if cap = l then a else a.map (·.add l)) (k - l) (cap - l)) ((bs.take k).drop l) := by
  rcases h with ⟨a', c, hv, hc, rfl⟩ | ⟨b, off, cap', hv, hne, h1, h2, h3, h4⟩
  · cases hv
    simp at hk
    subst hk
    obtain rfl : l = 0 := by omega
    exact .inl ⟨_, _, rfl, by omega, rfl⟩
  · cases hv
    by_cases e : l = k
    · subst e
      exact .inl ⟨_, _, by rw [Nat.sub_self], by omega, by simp⟩
    · have hcl : cap ≠ l := by omega
      have hlen : ((bs.take k).drop l).length = k - l := by simp [hk]
      refine .inr ⟨b, off + l, cap - l, ?_, ?_, by omega, by omega, h3, fun j x hx => ?_⟩
      · rw [if_neg hcl, hlen, Option.map_some, add_at]
      · rw [← List.length_pos_iff]; omega
      · have hj := (List.getElem?_eq_some_iff.1 hx).1
        rw [List.getElem?_drop, List.getElem?_take, if_pos (by omega)] at hx
        rw [Nat.add_assoc]
        exact h4 (l + j) x hx
theorem RdB.pre {w : World} {a : Option Addr} {len cap : Nat} {bs : List UInt8} (h : RdB w (.slice a len cap) bs) (k : Nat) (hk : k ≤ bs.length) :
    RdB w (.slice a k cap) (bs.take k) := by
  have := h.part 0 k (Nat.zero_le _) hk
  simp only [Nat.sub_zero, List.drop_zero] at this
  have e : (if cap = 0 then a else a.map (·.add 0)) = a := by
    split
    · rfl
    · cases a <;> rfl
  rwa [e] at this
/-- A row of bytes that the call owns. -/
theorem rdB_own {w : World} {base g n cap : Nat} {e : TypeId} {bs : List UInt8} (h : w.ownsRow base e 1 (.slice (some ⟨g, 0, none⟩) n cap) n (bs.map u8v)) (hm0 : cap ≤ maxLen) : RdB w (.slice (some ⟨g, 0, none⟩) n cap) bs := by
  by_cases hne : bs = []
  · subst hne
    have hn : n = 0 := by have := h.1; simpa using this.symm
    subst hn
    exact .inl ⟨_, _, rfl, hm0, rfl⟩
  have hn : n = bs.length := by have := h.1; simpa using this.symm
  subst hn
  obtain ⟨h1, h2 | ⟨g', cap', cur, hv, hg, hh, hc, hm, hs, _⟩⟩ := h
  · cases h2.1
  · cases hv
    refine .inr ⟨g, 0, cap, rfl, hne, hc, hm, (Array.getElem?_eq_some_iff.1 hh).1, fun j x hx => ?_⟩
    have := World.ownsRow.cellAt (w := w) (base := base) (e := e) (size := 1) (g := g) (n := bs.length) (cap := cap) (xs := bs.map u8v) ⟨h1, .inr ⟨g, cap, cur, rfl, hg, hh, hc, hm, hs, by assumption⟩⟩ j (by have := (List.getElem?_eq_some_iff.1 hx).1; omega)
    rw [Nat.zero_add, this]; simp [hx]
theorem run_shr {P : Program} (k k2 : IntKind) (x c : Nat) (hc : c ≤ k.bits) (w : World) : (Op.shift .shr k (x : Int) k2 (c : Int)).run P w = .ok (.int k ((x : Int) / 2 ^ c)) w := by
  have h1 : ¬ ((c : Int) < 0) := by omega
  simp only [Op.shift, if_neg h1, Int.toNat_natCast, Nat.min_eq_left hc, Sem.run_pure]
  rw [Int.fdiv_eq_ediv_of_nonneg _ (Int.le_of_lt (Int.pow_pos (by decide)))]
theorem wrap_u8_shr (x c : Nat) : IntKind.u8.wrap ((x : Int) / 2 ^ c) = ((UInt8.ofNat (x / 2 ^ c)).toNat : Int) := by
  rw [IntKind.wrap_u8, UInt8.toNat_ofNat']; simp
theorem wrap_u8_nat (x : Nat) : IntKind.u8.wrap (x : Int) = ((UInt8.ofNat x).toNat : Int) := by
  rw [IntKind.wrap_u8, UInt8.toNat_ofNat']; rfl
/-- The cells of a new block, as an append takes them. -/
theorem news_new (w : World) (cs : List Value) (e : TypeId) (fr : Nat × Nat) : ∀ j u, cs[j]? = some u → (w.alloc (.cells cs.toArray e fr)).cell? ((⟨w.heap.size, 0, none⟩ : Addr).add j) = some u := by
  intro j u h
  rw [add_at, cell_of_row _ _ _ _ _ _ (heap_alloc_new w _)]
  simpa using h
theorem one_u8 (bs : List UInt8) : ∀ u ∈ bs.map u8v, u.oneCell' = true := by
  intro u hu; obtain ⟨x, _, rfl⟩ := List.mem_map.1 hu; rfl
theorem take_snoc {α : Type} {l : List α} {k : Nat} {x : α} (h : l[k]? = some x) : l.take (k + 1) = l.take k ++ [x] := by
  rw [List.take_add_one, h]; rfl
/-- A row that is known whole. -/
theorem rdB_row {w : World} {g : Nat} {bs : List UInt8} {t : TypeId} {fr : Nat × Nat} (h : w.heap[g]? = some (.cells (bs.map u8v).toArray t fr)) {cap : Nat} (hc : bs.length ≤ cap) (hc' : cap ≤ 9223372036854775807) : RdB w (.slice (some ⟨g, 0, none⟩) bs.length cap) bs := by
  by_cases hne : bs = []
  · subst hne; exact .inl ⟨_, _, rfl, hc', rfl⟩
  · refine .inr ⟨g, 0, cap, rfl, hne, hc, hc', (Array.getElem?_eq_some_iff.1 h).1, fun j x hx => ?_⟩
    rw [cell_of_row _ _ _ _ _ _ h]; simp [hx]
theorem below_drewN {B : Nat} {a w : World} (h : Below B a w) : ∀ n, Below B a (w.drewN n) := fun n => ⟨h.os, h.tape, h.output, h.size, h.block⟩
theorem rdB_lt {w : World} {v : Value} {bs : List UInt8} (h : RdB w v bs) (hne : bs ≠ [] := by simp) : ∀ k, v.ownBlock = some k → k < w.heap.size := by
  rcases h with ⟨_, _, _, _, h⟩ | ⟨b, off, cap, h, _, _, _, h4, _⟩
  · exact absurd h hne
  · subst h; intro k hk; cases hk; exact h4
/-- A struct and one value more as results. -/
theorem results_row_tmp {P : Program} {fn : Func} {p u : Tmp} {ty : TypeId} (h : fn.results = #[.cell p ty, .tmp u]) (tmps : Array Value) (w : World) (g : Nat) (t : TypeId) (cs : Array Value) (fr : Nat × Nat) (d : TypeDesc)
    (hp : tmps.getD p undef = .pointer (some ⟨g, 0, none⟩)) (hg : w.heap[g]? = some (.cells cs t fr)) (hu : P.underlying ty = some d) (hd : (match d with | .struct _ | .array _ _ => true | _ => false) = true) (hi : (P.info? ty).map (·.size) = some cs.size) :
    (results fn tmps).run P w = .ok (.tuple #[.agg cs, tmps.getD u undef]) w := by
  have hp' : tmps[p]?.getD undef = .pointer (some ⟨g, 0, none⟩) := by simpa using hp
  simp [results, h, hp', asAddr, run_loadVar_row w g t ty cs fr d hg hu hd hi]
/-- An operation of a drawn region whose guard is false: an arm for go_region_held3. -/
theorem skip_op {o : Oper} {y : Nat → Option Bool} {A E : Prop} (hw : Region.wanted o y = false) (h : E) : if Region.wanted o y = true then A else E := by
  rw [if_neg (by rw [hw]; decide)]; exact h
theorem own_form0 {w : World} {base : Nat} {e : TypeId} {size : Nat} {v : Value} {n : Nat} {xs : List Value} (h : w.ownsRow base e size v n xs) : ∃ a cap, v = .slice a n cap := by
  obtain ⟨h1, ⟨h2, h3⟩ | ⟨g, cap, cur, hv, _⟩⟩ := h
  · exact ⟨none, 0, by rw [h2, h3]⟩
  · exact ⟨_, cap, hv⟩
/-- A new block of bytes. -/
theorem rdB_new (w : World) (bs : List UInt8) (hne : bs ≠ []) (e : TypeId) (fr : Nat × Nat) (cs : Array Value) (n : Nat) (hcs : cs = (bs.map u8v).toArray) (hn : n = bs.length) (c : Nat) (hc : n ≤ c) (hc' : c ≤ 9223372036854775807) :
    RdB (w.alloc (.cells cs e fr)) (.slice (some ⟨w.heap.size, 0, none⟩) n c) bs := by
  subst hcs hn
  refine .inr ⟨w.heap.size, 0, c, rfl, hne, hc, hc', by simp, fun j x hx => ?_⟩
  rw [cell_of_row _ _ _ _ _ _ (heap_alloc_new w _)]
  simp [hx]
/-- From a row's reading (a slice of bytes that came in) to its bytes. -/
theorem rdB_of {w : World} {a : Option Addr} {len cap : Nat} {zs : List Int}
    (h : (a = none ∧ len = 0 ∧ cap = 0 ∧ zs = []) ∨
      ∃ x, a = some x ∧ len ≤ cap ∧ cap ≤ maxLen ∧ zs.length = cap ∧ (∀ i, i < zs.length → w.cell? (x.add i) = some (.int .u8 (zs.getD i 0))) ∧ ∀ n ∈ zs, (Lit.int .u8 n).wf = true) :
    ∃ bs, RdB w (.slice a len cap) bs ∧ bs.length = len := by
  rcases h with ⟨rfl, rfl, rfl, rfl⟩ | ⟨x, rfl, hl, hm, hz, hc, hw⟩
  · exact ⟨[], .inl ⟨none, 0, rfl, by omega, rfl⟩, rfl⟩
  · by_cases h0 : len = 0
    · subst h0
      exact ⟨[], .inl ⟨_, cap, rfl, hm, rfl⟩, rfl⟩
    · refine ⟨(zs.take len).map fun n => UInt8.ofNat n.toNat, ?_, by simp [hz, hl]⟩
      have hlen : ((zs.take len).map fun n => UInt8.ofNat n.toNat).length = len := by simp [hz, hl]
      obtain ⟨b, off, rfl, hc'⟩ := ints_at hc (by omega)
      refine .inr ⟨b, off, cap, by rw [hlen], by rw [← List.length_pos_iff]; omega, by omega, hm, ?_, ?_⟩
      · exact World.block_lt_of_cell? w ⟨b, off + 0, none⟩ (hc' 0 (by omega))
      · intro j y hy
        have hj : j < len := by have := (List.getElem?_eq_some_iff.1 hy).1; omega
        rw [hc' j (by omega)]
        simp only [List.getElem?_map, List.getElem?_take, if_pos hj] at hy
        have hjz : j < zs.length := by omega
        rw [List.getElem?_eq_getElem hjz] at hy
        simp only [Option.map_some, Option.some.injEq] at hy
        subst hy
        have hwf := hw zs[j] (List.getElem_mem _)
        obtain ⟨l, u⟩ := bounds_u8 hwf
        rw [List.getD_eq_getElem?_getD, List.getElem?_eq_getElem hjz]
        show some (Value.int .u8 zs[j]) = some (.int .u8 ((UInt8.ofNat zs[j].toNat).toNat : Int))
        rw [UInt8.toNat_ofNat', Nat.mod_eq_of_lt (by omega)]
        congr 2
        omega
end Go.Proofs.YtjddicoigbidlaaGreatDoor

set_option linter.unusedSimpArgs false
set_option linter.unusedVariables false
namespace Go.Proofs.YtjddicoigbidlaaGreatDoor
open Go.RowKit
/-- A number's eight bytes. -/
def num8 (n : Nat) : List UInt8 := (List.range 8).map fun j => UInt8.ofNat (n / 2 ^ (8 * (7 - j)))
theorem num8_length (n : Nat) : (num8 n).length = 8 := by simp [num8]
theorem num8_get (n j : Nat) (h : j < 8) : (num8 n)[j]? = some (UInt8.ofNat (n / 2 ^ (8 * (7 - j)))) := by simp [num8, h]
theorem infoU8 : (Tryz.prog.info? 5).map (fun i => (i.zero, i.size, i.bytes)) = some (some (.int .u8 0), 1, 1) := by kernel_rfl
/-- A Writer in block b, whose bytes lie in v. -/
structure WrAt (w : World) (b base : Nat) (v : Value) (bs : List UInt8) (bad : Bool) : Prop where
  blk : w.heap[b]? = some (.cells #[v, .bool bad] 70 (0, 0))
  own : w.ownsRow base 5 1 v bs.length (bs.map u8v)
  ne : v.ownBlock ≠ some b
theorem wr_kept {w w2 : World} {b : Nat} {v : Value} {bad : Bool} {o : Obj} (hb : w.heap[b]? = some (.cells #[v, .bool bad] 70 (0, 0))) (hbS : b < w.heap.size) (hg : (w.alloc o).drew.grownBy w2 v.ownBlock) (hne : v.ownBlock ≠ some b) :
    w2.cell? ⟨b, 0, none⟩ = some v ∧ w2.frozen? ⟨b, 0, none⟩ = false ∧ w2.heap[b]? = some (.cells #[v, .bool bad] 70 (0, 0)) := by
  have h : w2.heap[b]? = some (.cells #[v, .bool bad] 70 (0, 0)) := (Keeps.grown hg).heap (k := b) ((Below.heap_alloc w o b hbS).trans hb) hne
  exact ⟨by rw [cell_of_row _ _ _ _ _ _ h]; rfl, by simp [World.frozen?, h], h⟩
theorem wr_step {w wr w2 : World} {b base g cap : Nat} {v v1 : Value} {bs : List UInt8} {x : UInt8} {bad : Bool} {o : Obj} (hW : WrAt wr b base v1 bs bad) (hK : Keeps (fun k => k = b ∨ v.ownBlock = some k) w wr)
    (hat : v1.ownBlock = v.ownBlock ∨ ∃ g, v1.ownBlock = some g ∧ w.heap.size ≤ g) (hbS : b < wr.heap.size) (hg : (wr.alloc o).drew.grownBy w2 v1.ownBlock) (hat2 : v1.ownBlock = some g ∨ g = wr.heap.size + 1)
    (hblk : w2.heap[b]? = some (.cells #[v1, .bool bad] 70 (0, 0))) (hown : w2.ownsRow base 5 1 (.slice (some ⟨g, 0, none⟩) (bs.length + 1) cap) (bs.length + 1) (bs.map u8v ++ [u8v x])) :
    WrAt (w2.setCell ⟨b, 0, none⟩ (.slice (some ⟨g, 0, none⟩) (bs.length + 1) cap)) b base (.slice (some ⟨g, 0, none⟩) (bs.length + 1) cap) (bs ++ [x]) bad ∧
    Keeps (fun k => k = b ∨ v.ownBlock = some k) w (w2.setCell ⟨b, 0, none⟩ (.slice (some ⟨g, 0, none⟩) (bs.length + 1) cap)) ∧
    ((Value.slice (some ⟨g, 0, none⟩) (bs.length + 1) cap).ownBlock = v.ownBlock ∨ ∃ g', (Value.slice (some ⟨g, 0, none⟩) (bs.length + 1) cap).ownBlock = some g' ∧ w.heap.size ≤ g') := by
  have hgb : g ≠ b := by
    rcases hat2 with h | h
    · intro e; subst e; exact hW.ne h
    · omega
  have hsz := hK.size
  refine ⟨⟨heap_setCell_same _ _ 0 _ _ _ hblk, ?_, fun e => hgb (by cases e; rfl)⟩, ?_, ?_⟩
  · have e1 : (bs ++ [x]).length = bs.length + 1 := by simp
    have e2 : (bs ++ [x]).map u8v = bs.map u8v ++ [u8v x] := by simp
    rw [e1, e2]
    exact own_keeps hown (Keeps.setCell (F := fun k => k = b) _ ⟨b, 0, none⟩ _ rfl) (fun k hk e => hgb (by cases hk; exact e))
  · refine (((hK.go (Keeps.alloc (fun _ => False) wr o) (fun _ h => h.elim)).go (Keeps.drew (fun _ => False) _) (fun _ h => h.elim)).go (Keeps.grown hg) ?_).go (Keeps.setCell (F := fun k => k = b) _ ⟨b, 0, none⟩ _ rfl) (fun k h => .inl (.inl h))
    intro k hk
    rcases hat with h | ⟨g', h, h'⟩
    · exact .inl (.inr (h ▸ hk))
    · right; rw [h] at hk; cases hk; exact h'
  · rcases hat2 with h | h
    · rcases hat with h1 | ⟨g', h1, h2⟩
      · exact .inl (by show some g = _; rw [← h1, h])
      · exact .inr ⟨g, rfl, by rw [h] at h1; cases h1; exact h2⟩
    · exact .inr ⟨g, rfl, by omega⟩
/-- Behind a call of a Writer's: its bytes, and what may have turned. -/
def WrDone (w : World) (b base : Nat) (v : Value) (bs : List UInt8) (bad : Bool) (e : Ending) (w' : World) : Prop :=
  ∃ v', e = .returned (.tuple #[]) ∧ WrAt w' b base v' bs bad ∧ Keeps (fun k => k = b ∨ v.ownBlock = some k) w w' ∧ (v'.ownBlock = v.ownBlock ∨ ∃ g, v'.ownBlock = some g ∧ w.heap.size ≤ g)
set_option maxRecDepth 100000 in
set_option maxHeartbeats 400000 in
theorem wNum_bad (b base : Nat) (v : Value) (bs : List UInt8) (bad : Bool) (n : Int) (w : World) (hW : WrAt w b base v bs bad) (hn : n < 0 ∨ 4611686018427387904 < n) :
    Calls Tryz.prog 40 #[.pointer (some ⟨b, 0, none⟩), .int .i64 n] w (WrDone w b base v bs true) := by
  have hb := hW.blk
  have hc1 : w.cell? ⟨b, 1, none⟩ = some (.bool bad) := by rw [cell_of_row _ _ _ _ _ _ hb]; rfl
  have hf1 : w.frozen? ⟨b, 1, none⟩ = false := by simp [World.frozen?, hb]
  rcases hn with hn | hn
  all_goals
    go_enter Tryz.func40, Tryz.ntmps40
    go_wp2
    go_end0
    refine ⟨v, rfl, ⟨heap_setCell_same _ _ 1 _ _ _ hb, ?_, hW.ne⟩, Keeps.setCell _ _ _ (.inl rfl), .inl rfl⟩
    exact own_keeps hW.own (Keeps.setCell (F := fun k => k = b) _ ⟨b, 1, none⟩ _ rfl) (fun k hk e => hW.ne (e ▸ hk))
set_option maxRecDepth 100000 in
set_option maxHeartbeats 400000 in
theorem wNum_good (b base : Nat) (v : Value) (bs : List UInt8) (bad : Bool) (n : Nat) (w : World) (hW : WrAt w b base v bs bad) (hn : n ≤ 4611686018427387904) (hbase : base ≤ w.heap.size) (hlen : bs.length + 8 ≤ 1099511627776) :
    Calls Tryz.prog 40 #[.pointer (some ⟨b, 0, none⟩), .int .i64 n] w (WrDone w b base v (bs ++ num8 n) bad) := by
  obtain ⟨i0, hi, hz0, hz1, hz2⟩ := info_parts infoU8
  go_enter Tryz.func40, Tryz.ntmps40
  go_wp2
  go_loopw [4] (fun i wr => ∃ (j : Nat) (v1 : Value), j ≤ 8 ∧ i = .int .i64 (7 - (j : Int)) ∧ WrAt wr b base v1 (bs ++ (num8 n).take j) bad ∧ Keeps (fun k => k = b ∨ v.ownBlock = some k) w wr ∧ (v1.ownBlock = v.ownBlock ∨ ∃ g, v1.ownBlock = some g ∧ w.heap.size ≤ g)) (fun i _ => (intOf i + 1).toNat)
  case atStart => exact ⟨0, v, by omega, rfl, by simpa using hW, Keeps.refl _ _, .inl rfl⟩
  case round =>
    obtain ⟨j, v1, hj, rfl, hW1, hK, hat⟩ := hrel
    by_cases hlt : j < 8
    · have hlen' : (bs ++ (num8 n).take j).length ≤ bs.length + 8 := by simp [num8_length]; omega
      have htake : bs ++ (num8 n).take (j + 1) = (bs ++ (num8 n).take j) ++ [UInt8.ofNat (n / 2 ^ (8 * (7 - j)))] := by rw [List.append_assoc]; congr 1; exact take_snoc (num8_get n j hlt)
      generalize bs ++ (num8 n).take j = cs at hW1 hlen' htake
      have hb := hW1.blk
      have hc0 : wr.cell? ⟨b, 0, none⟩ = some v1 := by rw [cell_of_row _ _ _ _ _ _ hb]; rfl
      have hf0 : wr.frozen? ⟨b, 0, none⟩ = false := by simp [World.frozen?, hb]
      have hown := hW1.own
      obtain ⟨m, hm⟩ : ∃ m : Nat, 7 - j = m := ⟨_, rfl⟩
      have hmI : (7 : Int) - (j : Int) = (m : Int) := by omega
      rw [hm] at htake
      obtain ⟨s, hs⟩ : ∃ s, 8 * m = s := ⟨_, rfl⟩
      have hw8 : IntKind.i64.wrap (8 * (m : Int)) = (s : Int) := by rw [IntWalk.i64_in _ (by omega)]; omega
      rw [hs] at htake
      have hms : min s 64 = s := by omega
      have hu8 := wrap_u8_shr n s
      generalize UInt8.ofNat (n / 2 ^ s) = x at hu8 htake
      have Htake := Lib.hid htake
      clear htake hs hm
      have h63 : cs.length + 1 ≤ maxLen := by unfold maxLen; omega
      have h47 : (cs.length + 1) * 1 ≤ 140737488355328 := by omega
      have hbs : base ≤ (wr.alloc (.cells [u8v x].toArray 5)).drew.heap.size := by have := hK.size; simp; omega
      have hownA : (wr.alloc (.cells #[u8v x] 5)).drew.ownsRow base 5 1 v1 cs.length (cs.map u8v) := World.ownsRow.alloc hown _
      have Hsz : Hid ((wr.alloc (.cells #[u8v x] 5)).drew.heap.size = wr.heap.size + 1) := by show _ = _; simp
      have hbS := (Array.getElem?_eq_some_iff.1 hb).1
      have hne1 := hW1.ne
      have hnewsA := Lib.hid (news_new wr [u8v x] 5 (0, 0))
      rw [hmI]
      go_wp2
      go_region_law (go_must (refine step_append_lies (wr.alloc (.cells #[u8v x] 5)).drew rfl (.tmp 24) (.tmp 30) 23 rfl base 5 i0 (.int .u8 0) 1 1 Tryz.underlying23 hi hz0 hz1 hz2 rfl (by decide) v1 cs.length (cs.map u8v) (by rfl) hownA ⟨wr.heap.size, 0, none⟩ 1 1 [u8v x] (by rfl) rfl hnewsA.out (one_u8 [x]) (by decide) h63 h47 hbs (wr.heap.size + 1) Hsz.out ?_); rintro g cap w2 hown2 hg2 hat2 hlt2; have hblk2 := wr_kept hb hbS hg2 hne1; have hc2 := hblk2.1; have hf2 := hblk2.2.1)
      all_goals
        have hst := wr_step hW1 hK hat hbS hg2 hat2 hblk2.2.2 hown2
        rw [← Htake.out] at hst
        go_wp2
        go_roundw
        case rel => exact ⟨j + 1, _, by omega, by congr 1; omega, hst⟩
        case measure => simp [intOf] <;> omega
    · have hj8 : j = 8 := by omega
      subst hj8
      rw [List.take_of_length_le (by rw [num8_length]; omega)] at hW1
      go_wp2
      go_end0
      exact ⟨v1, rfl, hW1, hK, hat⟩

/-- What slices.Clone of bytes answers: a row of its own. -/
def CloneDone (w : World) (bs : List UInt8) (e : Ending) (w' : World) : Prop :=
  ∃ v', e = .returned v' ∧ w'.ownsRow w.heap.size 5 1 v' bs.length (bs.map u8v) ∧ Below w.heap.size w w'
set_option maxRecDepth 100000 in
set_option maxHeartbeats 400000 in
theorem clone_calls (v : Value) (bs : List UInt8) (w : World) (hv : RdB w v bs) (hlen : bs.length ≤ 140737488355328) :
    Calls Tryz.prog 67 #[v] w (CloneDone w bs) := by
  obtain ⟨i0, hi, hz0, hz1, hz2⟩ := info_parts infoU8
  obtain ⟨a, cap, rfl, hl, hc⟩ := hv.form
  cases a with
  | none =>
    have hbs : bs = [] := by
      rcases hv with ⟨_, _, _, _, h⟩ | ⟨b, off, cap', h, _⟩
      · exact h
      · cases h
    subst hbs
    have hnil := fun w => Lib.run_eql_slice_nil (P := Tryz.prog) w 23 5 none 0 cap 0 0 Tryz.underlying23
    go_enter Tryz.func67, Tryz.ntmps67
    go_wp2
    go_ret
    exact ⟨_, rfl, World.ownsRow_nil _ _ _ _, Below.refl _ _⟩
  | some ad =>
    have hnil := fun w => Lib.run_eql_slice_nil (P := Tryz.prog) w 23 5 (some ad) bs.length cap 0 0 Tryz.underlying23
    have hown0 : (w.alloc (.cells #[] 5)).ownsRow w.heap.size 5 1 (.slice (some ⟨w.heap.size, 0, none⟩) 0 0) 0 [] := World.ownsRow_lit w #[] 0 (Nat.le_refl _) (by decide) rfl
    have hnews : ∀ j u, (bs.map u8v)[j]? = some u → (w.alloc (.cells #[] 5)).cell? (ad.add j) = some u := by
      rcases hv with ⟨_, _, _, _, h⟩ | ⟨b, off, cap', h, _, _, _, hbw, hcell⟩
      · subst h; intro j u h; cases h
      · cases h
        intro j u hu
        rw [List.getElem?_map] at hu
        obtain ⟨x, hx, rfl⟩ := Option.map_eq_some_iff.1 hu
        rw [add_at]
        exact (Below.cell (B := w.heap.size) ((Below.refl _ _).alloc (Nat.le_refl _) _) (p := ⟨b, off + j, none⟩) hbw).trans (hcell j x hx)
    have hnewsL : (bs.map u8v).length = bs.length * 1 := by simp
    have h63 : 0 + bs.length ≤ maxLen := by unfold maxLen; omega
    have h47 : (0 + bs.length) * 1 ≤ 140737488355328 := by omega
    have hbs : w.heap.size ≤ (w.alloc (.cells #[] 5)).heap.size := by simp
    go_enter Tryz.func67, Tryz.ntmps67
    go_wp2_with (at_builtin; go_must (refine wpList_append_own _ rfl (.tmp 5) (.tmp 6) 23 rfl w.heap.size 5 i0 (.int .u8 0) 1 1 Tryz.underlying23 hi hz0 hz1 hz2 rfl (by decide) _ _ _ rfl hown0 ad bs.length cap (bs.map u8v) rfl hnewsL hnews (one_u8 bs) h63 h47 hbs ?_); rintro v1 w1 hown1 hg1 _)
    have hbel : Below w.heap.size w w1 := ((Below.refl _ _).alloc (Nat.le_refl _) _).grown hg1 (by simp) (fun k hk => by cases hk; exact Nat.le_refl _)
    go_ret
    exact ⟨_, rfl, by simpa using hown1, hbel⟩

/-- What Out answers of a Writer that is not bad. -/
def OutDone (w : World) (bs : List UInt8) (e : Ending) (w' : World) : Prop :=
  ∃ v', e = .returned (.tuple #[v', .bool true]) ∧ w'.ownsRow w.heap.size 5 1 v' bs.length (bs.map u8v) ∧ Below w.heap.size w w'
theorem rdB_ofOwn {w : World} {base : Nat} {v : Value} {n : Nat} {bs : List UInt8} (h : w.ownsRow base 5 1 v n (bs.map u8v)) : RdB w v bs := by
  have hn : n = bs.length := by have := h.1; simpa using this.symm
  obtain ⟨h1, ⟨h2, h3⟩ | ⟨g, cap, cur, hv, hg, hh, hc, hm, hs, ht⟩⟩ := h
  · subst h2
    have : bs = [] := by rw [← List.length_eq_zero_iff]; omega
    exact .inl ⟨none, 0, rfl, by omega, this⟩
  · subst hv
    exact rdB_own ⟨h1, .inr ⟨g, cap, cur, rfl, hg, hh, hc, hm, hs, ht⟩⟩ hm
set_option maxRecDepth 100000 in
set_option maxHeartbeats 400000 in
theorem wOut_calls (b base : Nat) (v : Value) (bs : List UInt8) (w : World) (hW : WrAt w b base v bs false) (hlen : bs.length ≤ 140737488355328) :
    Calls Tryz.prog 42 #[.pointer (some ⟨b, 0, none⟩)] w (OutDone w bs) := by
  have hb := hW.blk
  have hc0 : w.cell? ⟨b, 0, none⟩ = some v := by rw [cell_of_row _ _ _ _ _ _ hb]; rfl
  have hc1 : w.cell? ⟨b, 1, none⟩ = some (.bool false) := by rw [cell_of_row _ _ _ _ _ _ hb]; rfl
  have hr := rdB_ofOwn hW.own
  go_enter Tryz.func42, Tryz.ntmps42
  go_wp2_with fail
  refine (clone_calls _ _ _ hr hlen).mono ?_; rintro e w1 ⟨v', rfl, hown, hbel⟩
  go_wp2
  go_ret2
  exact ⟨v', rfl, hown, hbel⟩
set_option maxRecDepth 100000 in
set_option maxHeartbeats 400000 in
theorem wOut_bad (b base : Nat) (v : Value) (bs : List UInt8) (w : World) (hW : WrAt w b base v bs true) :
    Calls Tryz.prog 42 #[.pointer (some ⟨b, 0, none⟩)] w fun e w' => e = .returned (.tuple #[.slice none 0 0, .bool false]) ∧ w = w' := by
  have hb := hW.blk
  have hc1 : w.cell? ⟨b, 1, none⟩ = some (.bool true) := by rw [cell_of_row _ _ _ _ _ _ hb]; rfl
  go_enter Tryz.func42, Tryz.ntmps42
  go_wp2
  go_ret2
  exact ⟨rfl, rfl⟩
end Go.Proofs.YtjddicoigbidlaaGreatDoor

set_option linter.unusedSimpArgs false
set_option linter.unusedVariables false
namespace PbCrc
abbrev B32 := BitVec 32
def poly : B32 := 0xedb88320#32
/-- One bit's step. -/
def step (c : B32) : B32 := if c.getLsbD 0 then (c >>> 1) ^^^ poly else c >>> 1
def steps : Nat → B32 → B32
  | 0, c => c
  | n + 1, c => steps n (step c)
theorem steps_succ (n : Nat) (c : B32) : steps (n + 1) c = step (steps n c) := by
  induction n generalizing c with
  | zero => rfl
  | succ n ih => rw [steps, ih]; rfl
/-- The table's entry. -/
def tab (n : Nat) : B32 := steps 8 (BitVec.ofNat 32 n)
/-- A byte's step, by the table. -/
def byteTab (c : B32) (x : UInt8) : B32 := tab (UInt8.ofNat c.toNat ^^^ x).toNat ^^^ (c >>> 8)
/-- A byte's step, by definition. -/
def byteStep (c : B32) (x : UInt8) : B32 := steps 8 (c ^^^ BitVec.ofNat 32 x.toNat)
def run (c : B32) (l : List UInt8) : B32 := l.foldl byteStep c
def sum (l : List UInt8) : B32 := ~~~ (run (BitVec.allOnes 32) l)

theorem step_xor (a b : B32) : step (a ^^^ b) = step a ^^^ step b := by
  unfold step
  rw [BitVec.getLsbD_xor, BitVec.ushiftRight_xor_distrib]
  cases ha : a.getLsbD 0 <;> cases hb : b.getLsbD 0
  · simp
  · simp [BitVec.xor_assoc]
  · simp only [Bool.xor_false, if_true, Bool.false_eq_true, if_false]
    ac_rfl
  · simp only [Bool.xor_self, Bool.false_eq_true, if_false, if_true]
    rw [show a >>> 1 ^^^ poly ^^^ (b >>> 1 ^^^ poly) = a >>> 1 ^^^ b >>> 1 ^^^ (poly ^^^ poly) by ac_rfl]
    simp
theorem steps_xor (n : Nat) (a b : B32) : steps n (a ^^^ b) = steps n a ^^^ steps n b := by
  induction n generalizing a b with
  | zero => rfl
  | succ n ih => rw [steps, step_xor, ih]; rfl
theorem step_zero : step 0#32 = 0#32 := by decide
theorem steps_zero (n : Nat) : steps n 0#32 = 0#32 := by
  induction n with
  | zero => rfl
  | succ n ih => rw [steps, step_zero, ih]
/-- Where the lowest n bits are nought, n steps are a shift. -/
theorem steps_shift (n : Nat) (c : B32) (h : ∀ i, i < n → c.getLsbD i = false) : steps n c = c >>> n := by
  induction n generalizing c with
  | zero => simp [steps]
  | succ n ih =>
    rw [steps, step, if_neg (by rw [h 0 (by omega)]; decide), ih]
    · rw [← BitVec.shiftRight_add, Nat.add_comm]
    · intro i hi
      rw [BitVec.getLsbD_ushiftRight, Nat.add_comm]
      exact h (i + 1) (by omega)
theorem lowByte (c : B32) (x : UInt8) (i : Nat) : (BitVec.ofNat 32 (UInt8.ofNat c.toNat ^^^ x).toNat).getLsbD i = (decide (i < 8) && ((c ^^^ BitVec.ofNat 32 x.toNat).getLsbD i)) := by
  rw [BitVec.getLsbD_xor, BitVec.getLsbD_ofNat, BitVec.getLsbD_ofNat, UInt8.toNat_xor, UInt8.toNat_ofNat', Nat.testBit_xor, Nat.testBit_mod_two_pow, ← BitVec.testBit_toNat]
  by_cases h : i < 8
  · simp [h, show i < 32 by omega]
  · have : x.toNat.testBit i = false := Nat.testBit_lt_two_pow (Nat.lt_of_lt_of_le x.toNat_lt (Nat.pow_le_pow_right (by omega) (by omega)))
    simp [h, this]
theorem byteTab_eq (c : B32) (x : UInt8) : byteTab c x = byteStep c x := by
  unfold byteTab byteStep tab
  have e : c ^^^ BitVec.ofNat 32 x.toNat = BitVec.ofNat 32 (UInt8.ofNat c.toNat ^^^ x).toNat ^^^ ((c >>> 8) <<< 8) := by
    apply BitVec.eq_of_getLsbD_eq
    intro i hi
    rw [BitVec.getLsbD_xor (x := BitVec.ofNat 32 (UInt8.ofNat c.toNat ^^^ x).toNat), lowByte, BitVec.getLsbD_shiftLeft, BitVec.getLsbD_ushiftRight]
    by_cases h : i < 8
    · simp [h]
    · have : x.toNat.testBit i = false := Nat.testBit_lt_two_pow (Nat.lt_of_lt_of_le x.toNat_lt (Nat.pow_le_pow_right (by omega) (by omega)))
      rw [BitVec.getLsbD_xor, BitVec.getLsbD_ofNat, this]
      simp [h, hi, show 8 + (i - 8) = i by omega]
  rw [e, steps_xor, steps_shift 8 ((c >>> 8) <<< 8)]
  · congr 1
    apply BitVec.eq_of_getLsbD_eq
    intro i hi
    simp only [BitVec.getLsbD_ushiftRight, BitVec.getLsbD_shiftLeft]
    by_cases h : i + 8 < 32
    · simp [show 8 + i < 32 by omega]
    · rw [BitVec.getLsbD_of_ge c (8 + i) (by omega)]; simp only [Bool.false_eq]; simp; intro h'; omega
  · intro i hi
    simp [BitVec.getLsbD_shiftLeft, hi]

/-- The sum bit by bit, as the reference has it: the k-th of x's bits. -/
def bitStep (c : B32) (b : Bool) : B32 := if (c.getLsbD 0 ^^ b) then (c >>> 1) ^^^ poly else c >>> 1
def bitRun (c : B32) (x : UInt8) : Nat → B32
  | 0 => c
  | k + 1 => bitStep (bitRun c x k) (x.toNat.testBit k)
theorem bitStep_eq (c : B32) (b : Bool) : bitStep c b = step (c ^^^ BitVec.ofNat 32 b.toNat) := by
  have h : (c ^^^ BitVec.ofNat 32 b.toNat) >>> 1 = c >>> 1 := by
    rw [BitVec.ushiftRight_xor_distrib]
    cases b <;> simp
  unfold bitStep step
  rw [h, BitVec.getLsbD_xor]
  cases b <;> simp
theorem bitRun_eq (c : B32) (x : UInt8) (k : Nat) (hk : k ≤ 8) : bitRun c x k ^^^ BitVec.ofNat 32 (x.toNat >>> k) = steps k (c ^^^ BitVec.ofNat 32 x.toNat) := by
  induction k with
  | zero => rfl
  | succ k ih =>
    have ih := ih (by omega)
    rw [steps_succ, ← ih, bitRun, bitStep_eq]
    have e : BitVec.ofNat 32 (x.toNat >>> k) = BitVec.ofNat 32 (x.toNat.testBit k).toNat ^^^ (BitVec.ofNat 32 (x.toNat >>> (k + 1)) <<< 1) := by
      apply BitVec.eq_of_getLsbD_eq
      intro i hi
      rw [BitVec.getLsbD_xor, BitVec.getLsbD_shiftLeft, BitVec.getLsbD_ofNat, BitVec.getLsbD_ofNat, BitVec.getLsbD_ofNat, Nat.testBit_shiftRight, Nat.testBit_shiftRight]
      cases i with
      | zero => cases x.toNat.testBit k <;> simp
      | succ i =>
        have : (x.toNat.testBit k).toNat.testBit (i + 1) = false := by cases x.toNat.testBit k <;> simp [Nat.testBit_succ]
        simp [this, hi, show i < 32 by omega, show k + 1 + i = k + (i + 1) by omega]
    have e2 : step (BitVec.ofNat 32 (x.toNat >>> (k + 1)) <<< 1) = BitVec.ofNat 32 (x.toNat >>> (k + 1)) := by
      unfold step
      rw [if_neg (by simp)]
      apply BitVec.eq_of_getLsbD_eq
      intro i hi
      rw [BitVec.getLsbD_ushiftRight, BitVec.getLsbD_shiftLeft]
      have : (x.toNat >>> (k+1)).testBit i = false ∨ i < 31 := by
        by_cases h : i < 31
        · exact .inr h
        · left; apply Nat.testBit_lt_two_pow
          have := x.toNat_lt
          have h2 : x.toNat >>> (k+1) ≤ x.toNat := Nat.shiftRight_le ..
          exact Nat.lt_of_le_of_lt h2 (Nat.lt_of_lt_of_le this (Nat.pow_le_pow_right (by omega) (by omega)))
      rcases this with h | h
      · rw [BitVec.getLsbD_ofNat, BitVec.getLsbD_ofNat]
        rw [show 1 + i - 1 = i by omega, h]; simp
      · simp [show 1 + i < 32 by omega]
    rw [e, show bitRun c x k ^^^ (BitVec.ofNat 32 (x.toNat.testBit k).toNat ^^^ BitVec.ofNat 32 (x.toNat >>> (k + 1)) <<< 1) = (bitRun c x k ^^^ BitVec.ofNat 32 (x.toNat.testBit k).toNat) ^^^ (BitVec.ofNat 32 (x.toNat >>> (k + 1)) <<< 1) by ac_rfl, step_xor (bitRun c x k ^^^ BitVec.ofNat 32 (x.toNat.testBit k).toNat), e2]
theorem bitRun_byte (c : B32) (x : UInt8) : bitRun c x 8 = byteStep c x := by
  have h := bitRun_eq c x 8 (by omega)
  have hx : x.toNat >>> 8 = 0 := by have := x.toNat_lt; rw [Nat.shiftRight_eq_div_pow]; omega
  rw [hx] at h
  unfold byteStep
  rw [← h]; simp

theorem run_append (c : B32) (a b : List UInt8) : run c (a ++ b) = run (run c a) b := by simp [run]
theorem run_snoc (c : B32) (a : List UInt8) (x : UInt8) : run c (a ++ [x]) = byteStep (run c a) x := by simp [run]
theorem byteStep_xor (c d : B32) (x y : UInt8) : byteStep (c ^^^ d) (x ^^^ y) = byteStep c x ^^^ byteStep d y := by
  unfold byteStep
  rw [← steps_xor]
  congr 1
  rw [show BitVec.ofNat 32 (x ^^^ y).toNat = BitVec.ofNat 32 x.toNat ^^^ BitVec.ofNat 32 y.toNat by
    rw [UInt8.toNat_xor]
    apply BitVec.eq_of_getLsbD_eq; intro i hi
    simp [hi]]
  ac_rfl
def lay (a b : List UInt8) : List UInt8 := List.zipWith (· ^^^ ·) a b
theorem run_lay : ∀ (a b : List UInt8) (c d : B32), a.length = b.length → run (c ^^^ d) (lay a b) = run c a ^^^ run d b
  | [], [], c, d, _ => rfl
  | x :: a, y :: b, c, d, h => by
    show run (byteStep (c ^^^ d) (x ^^^ y)) (lay a b) = _
    rw [byteStep_xor, run_lay a b _ _ (by simpa using h)]; rfl
/-- Three texts of one length. -/
theorem sum_lay (a b c : List UInt8) (hb : a.length = b.length) (hc : a.length = c.length) : sum (lay (lay a b) c) = sum a ^^^ sum b ^^^ sum c := by
  unfold sum
  have h1 : (lay a b).length = c.length := by simp [lay, ← hb, hc]
  have e : BitVec.allOnes 32 = BitVec.allOnes 32 ^^^ BitVec.allOnes 32 ^^^ BitVec.allOnes 32 := by decide
  conv => lhs; rw [e]
  rw [run_lay _ _ _ _ h1, run_lay _ _ _ _ hb]
  generalize run (BitVec.allOnes 32) a = p; generalize run (BitVec.allOnes 32) b = q; generalize run (BitVec.allOnes 32) c = r
  apply BitVec.eq_of_getLsbD_eq; intro i hi
  simp only [BitVec.getLsbD_not, BitVec.getLsbD_xor, hi, decide_true, Bool.true_and]
  cases p.getLsbD i <;> cases q.getLsbD i <;> cases r.getLsbD i <;> rfl

/-! A turn of some bits within 32 shows. -/
theorem step_ne {c : B32} (h : c ≠ 0#32) : step c ≠ 0#32 := by
  intro e
  unfold step at e
  split at e
  · have := congrArg (·.getLsbD 31) e
    simp [poly] at this
  · rename_i h0
    apply h
    apply BitVec.eq_of_getLsbD_eq
    intro i hi
    cases i with
    | zero => simpa using h0
    | succ i =>
      have := congrArg (·.getLsbD i) e
      simp only [BitVec.getLsbD_ushiftRight] at this
      rw [Nat.add_comm] at this
      simpa using this
theorem steps_ne (n : Nat) {c : B32} (h : c ≠ 0#32) : steps n c ≠ 0#32 := by
  induction n generalizing c with
  | zero => exact h
  | succ n ih => exact ih (step_ne h)
theorem steps_add (m n : Nat) (c : B32) : steps (m + n) c = steps m (steps n c) := by
  induction n generalizing c with
  | zero => rfl
  | succ n ih => exact ih (step c)
theorem run_zeros_ne (n : Nat) {c : B32} (h : c ≠ 0#32) : run c (List.replicate n 0) ≠ 0#32 := by
  induction n generalizing c with
  | zero => exact h
  | succ n ih =>
    show run (byteStep c 0) (List.replicate n 0) ≠ _
    refine ih ?_
    unfold byteStep
    exact steps_ne 8 (by simpa using h)
theorem run_zeros (n : Nat) : run 0#32 (List.replicate n 0) = 0#32 := by
  induction n with
  | zero => rfl
  | succ n ih =>
    show run (byteStep 0#32 0) (List.replicate n 0) = _
    rw [show byteStep 0#32 0 = 0#32 by decide]; exact ih
theorem byte_bit (x : UInt8) (i : Nat) (h : 8 ≤ i) : x.toNat.testBit i = false :=
  Nat.testBit_lt_two_pow (Nat.lt_of_lt_of_le x.toNat_lt (Nat.pow_le_pow_right (by omega) h))
theorem steps_up (n : Nat) (hn : n ≤ 24) (x : UInt8) : steps n (BitVec.ofNat 32 x.toNat <<< n) = BitVec.ofNat 32 x.toNat := by
  rw [steps_shift]
  · apply BitVec.eq_of_getLsbD_eq
    intro i hi
    rw [BitVec.getLsbD_ushiftRight, BitVec.getLsbD_shiftLeft, show n + i - n = i by omega]
    by_cases h : i < 8
    · simp [show n + i < 32 by omega]
    · have := byte_bit x i (by omega)
      rw [BitVec.getLsbD_ofNat, this]; simp
  · intro i hi
    simp [BitVec.getLsbD_shiftLeft, hi]
theorem run_four (x0 x1 x2 x3 : UInt8) : run 0#32 [x0, x1, x2, x3] =
    steps 32 (BitVec.ofNat 32 x0.toNat ^^^ BitVec.ofNat 32 x1.toNat <<< 8 ^^^ BitVec.ofNat 32 x2.toNat <<< 16 ^^^ BitVec.ofNat 32 x3.toNat <<< 24) := by
  show byteStep (byteStep (byteStep (byteStep 0#32 x0) x1) x2) x3 = _
  unfold byteStep
  have a16 : ∀ c, steps 16 c = steps 8 (steps 8 c) := fun c => steps_add 8 8 c
  have a24 : ∀ c, steps 24 c = steps 8 (steps 8 (steps 8 c)) := fun c => (steps_add 8 16 c).trans (by rw [a16])
  have a32 : ∀ c, steps 32 c = steps 8 (steps 8 (steps 8 (steps 8 c))) := fun c => (steps_add 8 24 c).trans (by rw [a24])
  have u1 := steps_up 8 (by omega) x1
  have u2 := steps_up 16 (by omega) x2
  have u3 := steps_up 24 (by omega) x3
  rw [a16] at u2
  rw [a24] at u3
  rw [a32]
  simp only [steps_xor, u1, u2, u3, steps_zero]
  simp
/-- The five bytes of a turn. -/
def five (X : Nat) : List UInt8 := (List.range 5).map fun i => UInt8.ofNat (X >>> (8 * i))
theorem ofNat_byte (n i : Nat) : (BitVec.ofNat 32 (UInt8.ofNat n).toNat).getLsbD i = (decide (i < 8) && n.testBit i) := by
  rw [BitVec.getLsbD_ofNat, UInt8.toNat_ofNat', Nat.testBit_mod_two_pow]
  by_cases h : i < 8
  · simp [h, show i < 32 by omega]
  · simp [h]
theorem burst (turn : B32) (s : Nat) (hs : s < 8) (ht : turn ≠ 0#32) : run 0#32 (five (turn.toNat <<< s)) ≠ 0#32 := by
  show byteStep (run 0#32 [UInt8.ofNat (turn.toNat <<< s >>> 0), UInt8.ofNat (turn.toNat <<< s >>> 8), UInt8.ofNat (turn.toNat <<< s >>> 16), UInt8.ofNat (turn.toNat <<< s >>> 24)]) (UInt8.ofNat (turn.toNat <<< s >>> 32)) ≠ _
  rw [run_four]
  have lo : BitVec.ofNat 32 (UInt8.ofNat (turn.toNat <<< s >>> 0)).toNat ^^^ BitVec.ofNat 32 (UInt8.ofNat (turn.toNat <<< s >>> 8)).toNat <<< 8 ^^^ BitVec.ofNat 32 (UInt8.ofNat (turn.toNat <<< s >>> 16)).toNat <<< 16 ^^^ BitVec.ofNat 32 (UInt8.ofNat (turn.toNat <<< s >>> 24)).toNat <<< 24 = turn <<< s := by
    apply BitVec.eq_of_getLsbD_eq
    intro i hi
    simp only [BitVec.getLsbD_xor, BitVec.getLsbD_shiftLeft, ofNat_byte, Nat.testBit_shiftRight, Nat.testBit_shiftLeft, hi, decide_true, Bool.true_and, BitVec.testBit_toNat]
    by_cases h1 : i < 8
    · simp [h1, show i < 16 by omega, show i < 24 by omega]
      by_cases h : s ≤ i
      · simp [h, show ¬ i < s by omega]
      · simp [h, show i < s by omega]
    · by_cases h2 : i < 16
      · simp [h1, h2, show i < 24 by omega, show s ≤ i by omega, show ¬ i < s by omega, show i - 8 < 8 by omega, show 8 + (i - 8) = i by omega]
      · by_cases h3 : i < 24
        · simp [h1, h2, h3, show s ≤ i by omega, show ¬ i < s by omega, show ¬ i - 8 < 8 by omega, show i - 16 < 8 by omega, show 16 + (i - 16) = i by omega]
        · simp [h1, h2, h3, show s ≤ i by omega, show ¬ i < s by omega, show ¬ i - 8 < 8 by omega, show ¬ i - 16 < 8 by omega, show i - 24 < 8 by omega, show 24 + (i - 24) = i by omega]
  rw [lo]
  unfold byteStep
  refine steps_ne 8 ?_
  have key : steps 32 (turn <<< s) ^^^ BitVec.ofNat 32 (UInt8.ofNat (turn.toNat <<< s >>> 32)).toNat = steps (32 - s) turn := by
    have h32 := steps_add (32 - s) s (turn <<< s)
    rw [show 32 - s + s = 32 by omega] at h32
    rw [h32, steps_shift s (turn <<< s) (by intro i hi; simp [BitVec.getLsbD_shiftLeft, hi])]
    have e : turn = (turn <<< s >>> s) ^^^ ((turn >>> (32 - s)) <<< (32 - s)) := by
      apply BitVec.eq_of_getLsbD_eq
      intro i hi
      rw [BitVec.getLsbD_xor, BitVec.getLsbD_ushiftRight, BitVec.getLsbD_shiftLeft, BitVec.getLsbD_shiftLeft, BitVec.getLsbD_ushiftRight, show s + i - s = i by omega]
      by_cases h : i < 32 - s
      · simp [h, show s + i < 32 by omega]
      · simp [h, hi, show ¬ s + i < 32 by omega, show 32 - s + (i - (32 - s)) = i by omega]
    conv => rhs; rw [e]
    rw [steps_xor, steps_shift (32 - s) ((turn >>> (32 - s)) <<< (32 - s)) (by intro i hi; simp [BitVec.getLsbD_shiftLeft, hi])]
    congr 1
    apply BitVec.eq_of_getLsbD_eq
    intro i hi
    rw [ofNat_byte, Nat.testBit_shiftRight, Nat.testBit_shiftLeft, BitVec.testBit_toNat, BitVec.getLsbD_ushiftRight, BitVec.getLsbD_shiftLeft, BitVec.getLsbD_ushiftRight, show 32 - s + i - (32 - s) = i by omega, show 32 + i - s = 32 - s + i by omega]
    by_cases h : i < 8
    · by_cases h2 : i < s
      · simp [h, show 32 - s + i < 32 by omega, show s ≤ 32 + i by omega]
      · rw [BitVec.getLsbD_of_ge turn (32 - s + i) (by omega)]; simp
    · rw [BitVec.getLsbD_of_ge turn (32 - s + i) (by omega)]; simp
  rw [key]
  exact steps_ne _ ht
/-- Bytes of which five are turned by a burst, have another sum. -/
theorem sum_burst (p q : List UInt8) (m : List UInt8) (turn : B32) (s : Nat) (hs : s < 8) (ht : turn ≠ 0#32) (hm : m.length = 5) :
    sum (p ++ m ++ q) ≠ sum (p ++ lay m (five (turn.toNat <<< s)) ++ q) := by
  intro e
  unfold sum at e
  have e := BitVec.not_inj.1 e
  rw [run_append, run_append, run_append, run_append] at e
  generalize run (BitVec.allOnes 32) p = c at e
  have h5 : (five (turn.toNat <<< s)).length = 5 := rfl
  have h1 := run_lay m (five (turn.toNat <<< s)) c 0#32 (by rw [hm, h5])
  rw [show c ^^^ 0#32 = c by simp] at h1
  rw [h1] at e
  have hb := burst turn s hs ht
  generalize run 0#32 (five (turn.toNat <<< s)) = d at e hb
  generalize run c m = c1 at e
  have h2 := run_lay q (List.replicate q.length 0) c1 d (by simp)
  rw [show lay q (List.replicate q.length 0) = q by
    apply List.ext_getElem (by simp [lay]); intro i h1 h2; simp [lay]] at h2
  rw [h2] at e
  have h3 := run_zeros_ne q.length hb
  apply h3
  generalize run d (List.replicate q.length 0) = z at e
  generalize run c1 q = y at e
  have : y ^^^ y = y ^^^ (y ^^^ z) := by rw [← e]
  rw [← BitVec.xor_assoc] at this
  simpa using this.symm
end PbCrc

set_option linter.unusedSimpArgs false
set_option linter.unusedVariables false
namespace Go.Proofs.YtjddicoigbidlaaGreatDoor
open Go.RowKit
def crcTabV : Array Value := (Array.range 256).map fun n => u32v (PbCrc.tab n)
def crcTabK (k : Nat) : Array Value := (Array.range 256).map fun n => if n < k then u32v (PbCrc.tab n) else .int .u32 0
def crcZ : Array Value := Array.replicate 256 (.int .u32 0)
theorem crcZero (w : World) : (zeroValue 117).run Tryz.prog w = .ok (.agg crcZ) w := by kernel_rfl
theorem crcTabK_zero : crcTabK 0 = crcZ := by
  apply Array.ext (by simp [crcTabK, crcZ])
  intro i h1 h2; simp [crcTabK, crcZ]
theorem crcTabK_full : crcTabK 256 = crcTabV := by
  apply Array.ext (by simp [crcTabK, crcTabV])
  intro i h1 h2
  have : i < 256 := by simpa [crcTabK] using h1
  simp [crcTabK, crcTabV, this]
theorem crcTabK_set (k : Nat) (hk : k < 256) : (crcTabK k).setIfInBounds k (u32v (PbCrc.tab k)) = crcTabK (k + 1) := by
  apply Array.ext (by simp [crcTabK])
  intro i h1 h2
  have : i < 256 := by simpa [crcTabK] using h2
  rw [Array.getElem_setIfInBounds (by simpa [crcTabK] using this)]
  by_cases e : k = i
  · subst e; simp [crcTabK]
  · simp only [crcTabK, Array.getElem_map, Array.getElem_range, if_neg e]
    by_cases h : i < k
    · rw [if_pos h, if_pos (by omega)]
    · rw [if_neg h, if_neg (by omega)]
theorem crcTabK_size (k : Nat) : (crcTabK k).size = 256 := by simp [crcTabK]
theorem crc_low (c : BitVec 32) : (bits .and .u32 (c.toNat : Int) 1 == 1) = c.getLsbD 0 := by
  rw [show (1 : Int) = (((1 : BitVec 32).toNat : Nat) : Int) from rfl, bits_and32]
  have : c &&& 1#32 = if c.getLsbD 0 then 1#32 else 0#32 := by
    apply BitVec.eq_of_getLsbD_eq; intro i hi
    cases i with
    | zero => cases h : c.getLsbD 0 <;> simp at h <;> simp [h]
    | succ i => cases h : c.getLsbD 0 <;> simp
  show ((((c &&& 1#32).toNat : Nat) : Int) == _) = _
  rw [this]
  cases c.getLsbD 0 <;> decide
theorem crc_shr1 (c : BitVec 32) : (c.toNat : Int) / (2 : Int) = ((c >>> 1).toNat : Int) := by
  rw [BitVec.toNat_ushiftRight, Nat.shiftRight_eq_div_pow]; rfl
theorem crc_shr1' (c : BitVec 32) : (c.toNat : Int) >>> 1 = ((c >>> 1).toNat : Int) := rfl
theorem crc_shr8 (c : BitVec 32) : (c.toNat : Int) / (256 : Int) = ((c >>> 8).toNat : Int) := by
  rw [BitVec.toNat_ushiftRight, Nat.shiftRight_eq_div_pow]; rfl
theorem crc_poly (c : BitVec 32) : bits .xor .u32 (c.toNat : Int) 3988292384 = ((c ^^^ PbCrc.poly).toNat : Int) := bits_xor32 c PbCrc.poly
theorem crcTabV_size : crcTabV.size = 256 := by simp [crcTabV]
theorem crcTabV_one : crcTabV.all (·.oneCell') = true := by
  rw [Array.all_eq_true]; intro i h; simp [crcTabV, Value.oneCell']
set_option maxRecDepth 100000 in
set_option maxHeartbeats 400000 in
theorem crcTable_calls (w : World) : Calls Tryz.prog 90 #[] w fun e w' => e = .returned (.agg crcTabV) ∧ Below w.heap.size w w' := by
  have hz := crcZero
  go_enter Tryz.func90, Tryz.ntmps90
  go_wp2
  go_loopw [5] (fun i wr => ∃ (k : Nat), k ≤ 256 ∧ i = .int .i64 k ∧ wr = (w.alloc (Obj.cells crcZ 117)).alloc (Obj.cells (crcTabK k) 117)) (fun i _ => 256 - (intOf i).toNat)
  case atStart => exact ⟨0, by omega, rfl, by rw [crcTabK_zero]⟩
  case round =>
    obtain ⟨k, hk, rfl, rfl⟩ := hrel
    by_cases hlt : k < 256
    · go_wp2
      go_loop [3, 10] (fun c i => ∃ j : Nat, j ≤ 8 ∧ i = .int .i64 j ∧ c = u32v (PbCrc.steps j (BitVec.ofNat 32 k))) (fun _ i => 8 - (intOf i).toNat)
      case atStart =>
        refine ⟨0, by omega, rfl, ?_⟩
        show _ = Value.int IntKind.u32 (((BitVec.ofNat 32 k).toNat : Nat) : Int)
        rw [BitVec.toNat_ofNat, Nat.mod_eq_of_lt (by omega)]
      case round =>
        obtain ⟨j, hj, rfl, rfl⟩ := hrel
        have hs := PbCrc.steps_succ j (BitVec.ofNat 32 k)
        generalize hc : PbCrc.steps j (BitVec.ofNat 32 k) = c at hs
        have Hc := Lib.hid hc
        clear hc
        have hlow := crc_low c
        have Hs := Lib.hid hs
        clear hs
        by_cases hlt2 : j < 8
        · by_cases hb : c.getLsbD 0 = true
          · rw [hb] at hlow
            go_wp2
            have Hp := crc_poly (c >>> 1)
            go_round
            case rel => exact ⟨j + 1, by omega, by go_num, by rw [Hs.out, PbCrc.step, if_pos hb]; first | rw [crc_shr1, Hp] | rw [crc_shr1', Hp]⟩
            case measure => simp [intOf] <;> omega
          · have hb : c.getLsbD 0 = false := by simpa using hb
            rw [hb] at hlow
            go_wp2
            go_round
            case rel => exact ⟨j + 1, by omega, by go_num, by rw [Hs.out, PbCrc.step, if_neg (by rw [hb]; decide)]; first | rw [crc_shr1] | rw [crc_shr1']⟩
            case measure => simp [intOf] <;> omega
        · have hj8 : j = 8 := by omega
          subst hj8
          have hsz := crcTabK_size k
          go_wp2
          have hset := crcTabK_set k hlt
          have Hset : Hid ((crcTabK k).setIfInBounds k (u32v c) = crcTabK (k + 1)) := by rw [← Hc.out]; exact hset
          clear hset
          go_roundw
          case rel => exact ⟨k + 1, by omega, by go_num, by rw [Hset.out]⟩
          case measure => simp [intOf] <;> omega
    · have : k = 256 := by omega
      subst this
      rw [crcTabK_full]
      have hi : (Tryz.prog.info? 117).map (·.size) = some crcTabV.size := by rw [crcTabV_size]; kernel_rfl
      go_wp2_with (first
        | (refine wpList_load_row rfl 117 (.tmp 1) rfl (w.heap.size + 1) rfl 117 crcTabV (0, 0) _ (heap_alloc2_new _ _ _) Tryz.underlying117 rfl hi ?_)
        | (refine wpList_store_row rfl 117 (.tmp 0) (.tmp 25) rfl w.heap.size crcTabV rfl rfl 117 crcZ (heap_alloc2_old _ _ _) hi (by rw [crcTabV_size]; rfl) crcTabV_one ?_))
      refine bodyPost_ret (results_cell_row rfl _ _ w.heap.size 117 crcTabV (0, 0) _ rfl (setRow_heap _ _ crcZ _ _ _ (heap_alloc2_old _ _ _)) Tryz.underlying117 rfl hi) rfl ⟨rfl, ?_⟩
      exact below_setRow (((Below.refl _ _).alloc (Nat.le_refl _) _).alloc (by simp) _) (by simp) _

theorem crcTabV_get (x : UInt8) : crcTabV[x.toNat]? = some (u32v (PbCrc.tab x.toNat)) := by
  have := x.toNat_lt
  rw [Array.getElem?_eq_getElem (by rw [crcTabV_size]; omega)]
  simp [crcTabV]
theorem crcTabV_index (x : UInt8) (w : World) : (Instr.index 117 (.agg crcTabV) (.int .u8 (x.toNat : Int))).run Tryz.prog w = .ok (u32v (PbCrc.tab x.toNat)) w := by
  have hx := x.toNat_lt
  have h := crcTabV_get x
  have hlt : (x.toNat : Int) < 256 := by omega
  simp [Instr.index, run_underlying Tryz.underlying117, asIntOf, go_sem, h, hlt]
  intro h'; omega
set_option maxRecDepth 100000 in
set_option maxHeartbeats 400000 in
theorem crctable_calls (w : World) : Calls Tryz.prog 83 #[] w fun e w' => e = .returned (.agg crcTabV) ∧ Below w.heap.size w w' := by
  have hz := crcZero
  have hi : (Tryz.prog.info? 117).map (·.size) = some crcTabV.size := by rw [crcTabV_size]; kernel_rfl
  go_enter Tryz.func83, Tryz.ntmps83
  go_wp2_with (first
    | (go_at_call 90; refine (crcTable_calls _).mono ?_; rintro e w1 ⟨rfl, hb⟩)
    | (refine wpList_store_row rfl 117 (.tmp 0) (.tmp 1) rfl w.heap.size crcTabV rfl rfl 117 crcZ ((hb.block _ (by simp)).trans (heap_alloc_new _ _)) hi (by rw [crcTabV_size]; rfl) crcTabV_one ?_))
  refine bodyPost_ret (results_cell_row rfl _ _ w.heap.size 117 crcTabV (0, 0) _ rfl (setRow_heap _ _ crcZ _ _ _ ((hb.block _ (by simp)).trans (heap_alloc_new _ _))) Tryz.underlying117 rfl hi) rfl ⟨rfl, ?_⟩
  exact below_setRow (((Below.refl _ _).alloc (Nat.le_refl _) _).trans (hb.mono (by simp))) (by simp) _
theorem crc_u8 (c : BitVec 32) : (c.toNat : Int) % (256 : Int) = ((UInt8.ofNat c.toNat).toNat : Int) := by
  rw [UInt8.toNat_ofNat']; rfl
theorem crc_not (c : BitVec 32) : Value.int .u32 (bits .xor .u32 IntKind.u32.max (c.toNat : Int)) = u32v (~~~ c) := by
  have h : (IntKind.u32.max : Int) = ((BitVec.allOnes 32).toNat : Int) := by decide
  rw [h, bits_xor32, BitVec.allOnes_xor]
set_option maxRecDepth 100000 in
set_option maxHeartbeats 400000 in
theorem crcSum_calls (v : Value) (bs : List UInt8) (w : World) (hv : RdB w v bs) :
    Calls Tryz.prog 68 #[v] w fun e w' => e = .returned (u32v (PbCrc.sum bs)) ∧ Below w.heap.size w w' := by
  rcases hv with ⟨a, c, rfl, hc, rfl⟩ | ⟨b, off, cap, rfl, hne, hlc, hcap, hbw, hcell⟩
  · go_enter Tryz.func68, Tryz.ntmps68
    go_wp2
    go_loop [3, 8] (fun c i => i = .int .i64 0 ∧ c = .int .u32 4294967295) (fun _ _ => 0)
    case atStart => exact ⟨rfl, rfl⟩
    case round =>
      obtain ⟨rfl, rfl⟩ := hrel
      go_wp2
      go_ret
      exact ⟨rfl, Below.refl _ _⟩
  · go_enter Tryz.func68, Tryz.ntmps68
    go_wp2
    go_loopw [3, 8] (fun c i wr => ∃ k : Nat, k ≤ bs.length ∧ i = .int .i64 k ∧ c = u32v (PbCrc.run (BitVec.allOnes 32) (bs.take k)) ∧ Below w.heap.size w wr) (fun _ i _ => bs.length - (intOf i).toNat)
    case atStart => exact ⟨0, Nat.zero_le _, rfl, rfl, Below.refl _ _⟩
    case round =>
      obtain ⟨k, hk, rfl, rfl, hbw2⟩ := hrel
      by_cases hlt : k < bs.length
      · obtain ⟨x, hx⟩ : ∃ x, bs[k]? = some x := ⟨bs[k], List.getElem?_eq_getElem hlt⟩
        have hc := (hbw2.cell (p := ⟨b, off + k, none⟩) hbw).trans (hcell k x hx)
        have hrun := PbCrc.run_snoc (BitVec.allOnes 32) (bs.take k) x
        rw [← take_snoc hx, ← PbCrc.byteTab_eq] at hrun
        generalize PbCrc.run (BitVec.allOnes 32) (bs.take k) = c at hrun
        have Hrun := Lib.hid hrun
        clear hrun hx
        have hb8 : bits .xor .u8 ((c.toNat : Int) % 256) (x.toNat : Int) = ((UInt8.ofNat c.toNat ^^^ x).toNat : Int) := by rw [crc_u8, bits_xor8]
        have hix := crcTabV_index (UInt8.ofNat c.toNat ^^^ x)
        have hx32 : bits .xor .u32 ((PbCrc.tab (UInt8.ofNat c.toNat ^^^ x).toNat).toNat : Int) ((c.toNat : Int) / 256) = ((PbCrc.byteTab c x).toNat : Int) := by rw [crc_shr8, bits_xor32]; rfl
        generalize UInt8.ofNat c.toNat ^^^ x = y at hb8 hix hx32
        generalize PbCrc.byteTab c x = c2 at hx32 Hrun
        go_wp2_with (go_at_call 83; refine (crctable_calls _).mono ?_; rintro e w1 ⟨rfl, hb⟩)
        have hbw3 := hbw2.trans (hb.mono hbw2.size)
        go_roundw
        case rel => exact ⟨k + 1, by omega, by go_num, by rw [Hrun.out], hbw3⟩
        case measure => simp [intOf] <;> omega
      · have : bs.take k = bs := List.take_of_length_le (by omega)
        rw [this]
        go_wp2
        go_ret
        exact ⟨by rw [crc_not]; rfl, hbw2⟩
end Go.Proofs.YtjddicoigbidlaaGreatDoor

set_option linter.unusedSimpArgs false
set_option linter.unusedVariables false
namespace Go.Proofs.YtjddicoigbidlaaGreatDoor
open Go.RowKit
set_option maxRecDepth 100000 in
set_option maxHeartbeats 400000 in
theorem refCRC_calls (v : Value) (bs : List UInt8) (w : World) (hv : RdB w v bs) :
    Calls Tryz.prog 77 #[v] w fun e w' => e = .returned (u32v (PbCrc.sum bs)) ∧ w = w' := by
  rcases hv with ⟨a, c, rfl, hc, rfl⟩ | ⟨b, off, cap, rfl, hne, hlc, hcap, hbw, hcell⟩
  · go_enter Tryz.func77, Tryz.ntmps77
    go_wp2
    go_loop [3, 4] (fun c i => i = .int .i64 0 ∧ c = .int .u32 4294967295) (fun _ _ => 0)
    case atStart => exact ⟨rfl, rfl⟩
    case round =>
      obtain ⟨rfl, rfl⟩ := hrel
      go_wp2
      go_ret
      exact ⟨rfl, rfl⟩
  · go_enter Tryz.func77, Tryz.ntmps77
    go_wp2
    go_loop [3, 4] (fun c i => ∃ k : Nat, k ≤ bs.length ∧ i = .int .i64 k ∧ c = u32v (PbCrc.run (BitVec.allOnes 32) (bs.take k))) (fun _ i => bs.length - (intOf i).toNat)
    case atStart => exact ⟨0, Nat.zero_le _, rfl, rfl⟩
    case round =>
      obtain ⟨k, hk, rfl, rfl⟩ := hrel
      by_cases hlt : k < bs.length
      · obtain ⟨x, hx⟩ : ∃ x, bs[k]? = some x := ⟨bs[k], List.getElem?_eq_getElem hlt⟩
        have hc := hcell k x hx
        have hrun := PbCrc.run_snoc (BitVec.allOnes 32) (bs.take k) x
        rw [← take_snoc hx, ← PbCrc.bitRun_byte] at hrun
        generalize PbCrc.run (BitVec.allOnes 32) (bs.take k) = c at hrun
        have Hrun := Lib.hid hrun
        clear hrun hx hcell
        go_wp2
        go_loop [3, 5] (fun d i => ∃ j : Nat, j ≤ 8 ∧ i = .int .i64 j ∧ d = u32v (PbCrc.bitRun c x j)) (fun _ i => 8 - (intOf i).toNat)
        case atStart => exact ⟨0, by omega, rfl, rfl⟩
        case round =>
          obtain ⟨j, hj, rfl, rfl⟩ := hrel
          have hs : PbCrc.bitRun c x (j + 1) = PbCrc.bitStep (PbCrc.bitRun c x j) (x.toNat.testBit j) := rfl
          by_cases hlt2 : j < 8
          · generalize PbCrc.bitRun c x j = d at hs
            have hlow := crc_low d
            have hbit := u8_bit x j
            have Hp := Lib.hid (crc_poly (d >>> 1))
            by_cases hd : d.getLsbD 0 = true <;> by_cases hb : x.toNat.testBit j = true
            all_goals
              first | (rw [hd] at hlow) | (rw [Bool.not_eq_true] at hd; rw [hd] at hlow)
              first | (rw [hb] at hbit) | (rw [Bool.not_eq_true] at hb; rw [hb] at hbit)
              rw [PbCrc.bitStep, hd, hb] at hs
              have Hs := Lib.hid hs
              clear hs hd hb
              go_wp2
              go_round
              case rel => exact ⟨j + 1, by omega, by go_num, by rw [Hs.out]; first | (rw [crc_shr1, Hp.out]; rfl) | (rw [crc_shr1]; rfl) | (rw [crc_shr1', Hp.out]; rfl) | (rw [crc_shr1']; rfl)⟩
              case measure => simp [intOf] <;> omega
          · have hj8 : j = 8 := by omega
            subst hj8
            generalize PbCrc.bitRun c x 8 = d at Hrun
            clear hs
            go_wp2
            go_round
            case rel => exact ⟨k + 1, by omega, by go_num, by rw [Hrun.out]⟩
            case measure => simp [intOf] <;> omega
      · have : bs.take k = bs := List.take_of_length_le (by omega)
        rw [this]
        go_wp2
        go_ret
        exact ⟨by rw [crc_not]; rfl, rfl⟩
end Go.Proofs.YtjddicoigbidlaaGreatDoor

set_option linter.unusedSimpArgs false
set_option linter.unusedVariables false
namespace Go.Proofs.YtjddicoigbidlaaGreatDoor
open Go.RowKit
/-- A mark, as plain data. -/
structure MarkD where
  kind : Int
  rcpt : Int
  n : Int
def MarkD.good (k : MarkD) : Bool := decide (1 ≤ k.kind ∧ k.kind ≤ 5 ∧ 0 ≤ k.rcpt ∧ k.rcpt < 8 ∧ 0 ≤ k.n ∧ k.n ≤ 1099511627776)
abbrev MarkD.cells (k : MarkD) : List Value := [.int .i64 k.kind, .int .i64 k.rcpt, .int .i64 k.n]
abbrev MarkD.val (k : MarkD) : Value := .agg #[.int .i64 k.kind, .int .i64 k.rcpt, .int .i64 k.n]
theorem good_true {k : MarkD} (h : 1 ≤ k.kind ∧ k.kind ≤ 5 ∧ 0 ≤ k.rcpt ∧ k.rcpt < 8 ∧ 0 ≤ k.n ∧ k.n ≤ 1099511627776) : k.good = true := decide_eq_true h
theorem good_false {k : MarkD} (h : ¬ (1 ≤ k.kind ∧ k.kind ≤ 5 ∧ 0 ≤ k.rcpt ∧ k.rcpt < 8 ∧ 0 ≤ k.n ∧ k.n ≤ 1099511627776)) : k.good = false := decide_eq_false h
set_option maxRecDepth 100000 in
set_option maxHeartbeats 400000 in
theorem markGood_calls (k : MarkD) (w : World) :
    Calls Tryz.prog 80 #[k.val] w fun e w' => e = .returned (.bool k.good) ∧ Below w.heap.size w w' := by
  obtain ⟨kind, rcpt, n⟩ := k
  by_cases hn : n ≤ 1099511627776
  all_goals
    go_enter Tryz.func80, Tryz.ntmps80
    go_wp2
    all_goals
      go_ret
      exact ⟨by first | exact ret_bool (good_true (by simp only; omega)) | exact ret_bool (good_false (by simp only; omega)), (Below.refl _ _).alloc (Nat.le_refl _) _⟩
set_option maxRecDepth 100000 in
set_option maxHeartbeats 400000 in
theorem mayMark_calls (k : MarkD) (w : World) :
    Calls Tryz.prog 61 #[k.val] w fun e w' => e = .returned (.bool k.good) ∧ Below w.heap.size w w' := by
  obtain ⟨kind, rcpt, n⟩ := k
  by_cases hn : n ≤ 1099511627776
  all_goals
    go_enter Tryz.func61, Tryz.ntmps61
    go_wp2
    all_goals
      go_ret
      exact ⟨by first | exact ret_bool (good_true (by simp only; omega)) | exact ret_bool (good_false (by simp only; omega)), (Below.refl _ _).alloc (Nat.le_refl _) _⟩

/-- A number of 32 bits as four bytes. -/
def be4 (c : BitVec 32) : List UInt8 := [UInt8.ofNat (c.toNat / 2 ^ 24), UInt8.ofNat (c.toNat / 2 ^ 16), UInt8.ofNat (c.toNat / 2 ^ 8), UInt8.ofNat c.toNat]
def MarkD.body (k : MarkD) : List UInt8 := num8 k.kind.toNat ++ num8 k.rcpt.toNat ++ num8 k.n.toNat
def MarkD.bytes (k : MarkD) : List UInt8 := k.body ++ be4 (PbCrc.sum k.body)
def markPre (k : MarkD) (j : Nat) : List UInt8 := ([k.kind, k.rcpt, k.n].take j).flatMap fun n => num8 n.toNat
theorem body_length (k : MarkD) : k.body.length = 24 := by simp [MarkD.body, num8_length]
theorem bytes_length (k : MarkD) : k.bytes.length = 28 := by simp [MarkD.bytes, body_length, be4]
/-- What Encode answers of a good mark: its bytes, in a row of its own. -/
def EncDone (w : World) (bs : List UInt8) (e : Ending) (w' : World) : Prop :=
  ∃ v', e = .returned (.tuple #[v', .bool true]) ∧ w'.ownsRow w.heap.size 5 1 v' bs.length (bs.map u8v) ∧ Below w.heap.size w w'
set_option maxRecDepth 100000 in
set_option maxHeartbeats 400000 in
theorem markEncode_bad (k : MarkD) (w : World) (hg : k.good = false) :
    Calls Tryz.prog 89 #[k.val] w fun e w' => e = .returned (.tuple #[.slice none 0 0, .bool false]) ∧ Below w.heap.size w w' := by
  obtain ⟨kind, rcpt, n⟩ := k
  go_enter Tryz.func89, Tryz.ntmps89
  go_wp2_with fail
  refine (markGood_calls ⟨kind, rcpt, n⟩ _).mono ?_; rintro e w1 ⟨rfl, hb⟩
  rw [hg]
  go_wp2
  go_ret2
  exact ⟨rfl, ((Below.refl _ _).alloc (Nat.le_refl _) _).trans (hb.mono (by simp))⟩
theorem enc_frozen (w : World) (c : Array Value) (t : TypeId) : (w.alloc (.cells c t)).heap[w.heap.size]? = some (.cells c t (0, 0)) := heap_alloc_new w _
theorem wr_new (w : World) (base : Nat) : WrAt (w.alloc (.cells #[.slice none 0 0, .bool false] 70)) w.heap.size base (.slice none 0 0) [] false :=
  ⟨heap_alloc_new w _, World.ownsRow_nil _ _ _ _, by simp [Value.ownBlock]⟩
set_option maxRecDepth 100000 in
set_option maxHeartbeats 400000 in
theorem markEncode_good (k : MarkD) (w : World) (hg : k.good = true) :
    Calls Tryz.prog 89 #[k.val] w (EncDone w k.bytes) := by
  have hg' : 1 ≤ k.kind ∧ k.kind ≤ 5 ∧ 0 ≤ k.rcpt ∧ k.rcpt < 8 ∧ 0 ≤ k.n ∧ k.n ≤ 1099511627776 := of_decide_eq_true hg
  obtain ⟨kind, rcpt, n⟩ := k
  obtain ⟨h1, h2, h3, h4, h5, h6⟩ := hg'
  obtain ⟨kn, rfl⟩ := Int.eq_ofNat_of_zero_le (show (0 : Int) ≤ kind by simp only at h1; omega)
  obtain ⟨rn, rfl⟩ := Int.eq_ofNat_of_zero_le h3
  obtain ⟨nn, rfl⟩ := Int.eq_ofNat_of_zero_le h5
  simp only at h1 h2 h3 h4 h5 h6
  obtain ⟨i0, hi, hz0, hz1, hz2⟩ := info_parts infoU8
  go_enter Tryz.func89, Tryz.ntmps89
  go_wp2_with fail
  refine (markGood_calls ⟨kn, rn, nn⟩ _).mono ?_; rintro e w1 ⟨rfl, hb⟩
  rw [hg]
  have hbk : w1.heap[w.heap.size]? = some (.cells #[.int .i64 kn, .int .i64 rn, .int .i64 nn] 52 (0, 0)) := (hb.block _ (by simp)).trans (heap_alloc_new w _)
  have hbel : Below w.heap.size w w1 := ((Below.refl _ _).alloc (Nat.le_refl _) _).trans (hb.mono (by simp))
  have hsz1 : w.heap.size < w1.heap.size := (Array.getElem?_eq_some_iff.1 hbk).1
  have hc0 : w1.cell? ⟨w.heap.size, 0, none⟩ = some (.int .i64 kn) := by rw [cell_of_row _ _ _ _ _ _ hbk]; rfl
  have hc1 : w1.cell? ⟨w.heap.size, 1, none⟩ = some (.int .i64 rn) := by rw [cell_of_row _ _ _ _ _ _ hbk]; rfl
  have hc2 : w1.cell? ⟨w.heap.size, 2, none⟩ = some (.int .i64 nn) := by rw [cell_of_row _ _ _ _ _ _ hbk]; rfl
  have ix0 : ∀ w, (Instr.index 121 (.agg #[.int .i64 (kn : Int), .int .i64 (rn : Int), .int .i64 (nn : Int)]) (.int .i64 0)).run Tryz.prog w = .ok (.int .i64 (kn : Int)) w := fun _ => by kernel_rfl
  have ix1 : ∀ w, (Instr.index 121 (.agg #[.int .i64 (kn : Int), .int .i64 (rn : Int), .int .i64 (nn : Int)]) (.int .i64 1)).run Tryz.prog w = .ok (.int .i64 (rn : Int)) w := fun _ => by kernel_rfl
  have ix2 : ∀ w, (Instr.index 121 (.agg #[.int .i64 (kn : Int), .int .i64 (rn : Int), .int .i64 (nn : Int)]) (.int .i64 2)).run Tryz.prog w = .ok (.int .i64 (nn : Int)) w := fun _ => by kernel_rfl
  obtain ⟨pre, hpre⟩ : ∃ pre : Nat → List UInt8, pre = markPre ⟨kn, rn, nn⟩ := ⟨_, rfl⟩
  have p1 : pre 1 = pre 0 ++ num8 kn := by rw [hpre]; simp [markPre]
  have p2 : pre 2 = pre 1 ++ num8 rn := by rw [hpre]; simp [markPre]
  have p3 : pre 3 = pre 2 ++ num8 nn := by rw [hpre]; simp [markPre]
  have pb : pre 3 = MarkD.body ⟨kn, rn, nn⟩ := by rw [hpre]; simp [markPre, MarkD.body]
  have l0 : (pre 0).length = 0 := by rw [hpre]; simp [markPre]
  have l1 : (pre 1).length = 8 := by rw [p1, List.length_append, num8_length, l0]
  have l2 : (pre 2).length = 16 := by rw [p2, List.length_append, num8_length, l1]
  have hp0 : pre 0 = [] := List.length_eq_zero_iff.1 l0
  have P1 := Lib.hid p1
  have P2 := Lib.hid p2
  have P3 := Lib.hid p3
  have PB := Lib.hid pb
  clear p1 p2 p3 pb hpre
  go_wp2
  go_loopw [21] (fun i wr => ∃ (j : Nat) (v : Value), j ≤ 3 ∧ i = .int .i64 j ∧ WrAt wr w1.heap.size w.heap.size v (pre j) false ∧ Below w.heap.size w wr) (fun i _ => 3 - (intOf i).toNat)
  case atStart =>
    refine ⟨0, .slice none 0 0, by omega, rfl, ?_, hbel.alloc (Nat.le_of_lt hsz1) _⟩
    rw [hp0]; exact wr_new _ _
  case round =>
    obtain ⟨j, v, hj, rfl, hW, hbw⟩ := hrel
    rcases (by omega : j = 0 ∨ j = 1 ∨ j = 2 ∨ j = 3) with rfl | rfl | rfl | rfl
    · go_wp2_with fail
      refine (wNum_good w1.heap.size w.heap.size v (pre 0) false kn _ hW (by omega) hbw.size (by omega)).mono ?_; rintro e w2 ⟨v', rfl, hW2, hK, _⟩
      rw [← P1.out] at hW2
      have hb2 := hbw.trans (hK.below (B := w.heap.size) (fun i hi => by rcases hi with h | h; omega; exact own_base hW.own i h) hbw.size)
      go_wp2
      go_roundw
      case rel => exact ⟨1, v', by omega, rfl, hW2, hb2⟩
      case measure => simp [intOf] <;> omega
    · go_wp2_with fail
      refine (wNum_good w1.heap.size w.heap.size v (pre 1) false rn _ hW (by omega) hbw.size (by omega)).mono ?_; rintro e w2 ⟨v', rfl, hW2, hK, _⟩
      rw [← P2.out] at hW2
      have hb2 := hbw.trans (hK.below (B := w.heap.size) (fun i hi => by rcases hi with h | h; omega; exact own_base hW.own i h) hbw.size)
      go_wp2
      go_roundw
      case rel => exact ⟨2, v', by omega, rfl, hW2, hb2⟩
      case measure => simp [intOf] <;> omega
    · go_wp2_with fail
      refine (wNum_good w1.heap.size w.heap.size v (pre 2) false nn _ hW (by omega) hbw.size (by omega)).mono ?_; rintro e w2 ⟨v', rfl, hW2, hK, _⟩
      rw [← P3.out] at hW2
      have hb2 := hbw.trans (hK.below (B := w.heap.size) (fun i hi => by rcases hi with h | h; omega; exact own_base hW.own i h) hbw.size)
      go_wp2
      go_roundw
      case rel => exact ⟨3, v', by omega, rfl, hW2, hb2⟩
      case measure => simp [intOf] <;> omega
    · rw [PB.out] at hW
      have hbl : (MarkD.body ⟨kn, rn, nn⟩).length = 24 := body_length _
      go_wp2_with fail
      refine (wOut_calls w1.heap.size w.heap.size v _ _ hW (by omega)).mono ?_; rintro e w2 ⟨v2, rfl, hown2, hb2⟩
      go_wp2_with fail
      refine (crcSum_calls _ _ _ (rdB_ofOwn hown2)).mono ?_; rintro e w3 ⟨rfl, hb3⟩
      have hown3 := own_below hown2 hb3 (Nat.le_refl _)
      obtain ⟨c, hcs⟩ : ∃ c, PbCrc.sum (MarkD.body ⟨kn, rn, nn⟩) = c := ⟨_, rfl⟩
      rw [hcs]
      have u24 : (c.toNat : Int) / 16777216 = ((UInt8.ofNat (c.toNat / 2 ^ 24)).toNat : Int) := by have := c.isLt; rw [UInt8.toNat_ofNat', Nat.mod_eq_of_lt (by omega)]; simp
      have u16 : (c.toNat : Int) / 65536 % 256 = ((UInt8.ofNat (c.toNat / 2 ^ 16)).toNat : Int) := by rw [UInt8.toNat_ofNat']; simp
      have u8' : (c.toNat : Int) / 256 % 256 = ((UInt8.ofNat (c.toNat / 2 ^ 8)).toNat : Int) := by rw [UInt8.toNat_ofNat']; simp
      have u0 : (c.toNat : Int) % 256 = ((UInt8.ofNat c.toNat).toNat : Int) := by rw [UInt8.toNat_ofNat']; simp
      have hfin : MarkD.bytes ⟨kn, rn, nn⟩ = MarkD.body ⟨kn, rn, nn⟩ ++ [UInt8.ofNat (c.toNat / 2 ^ 24), UInt8.ofNat (c.toNat / 2 ^ 16), UInt8.ofNat (c.toNat / 2 ^ 8), UInt8.ofNat c.toNat] := by rw [← hcs]; rfl
      generalize UInt8.ofNat (c.toNat / 2 ^ 24) = b0 at u24 hfin
      generalize UInt8.ofNat (c.toNat / 2 ^ 16) = b1 at u16 hfin
      generalize UInt8.ofNat (c.toNat / 2 ^ 8) = b2 at u8' hfin
      generalize UInt8.ofNat c.toNat = b3 at u0 hfin
      have Hfin := Lib.hid hfin
      clear hcs hfin
      have hownA : (w3.alloc (.cells #[u8v b0, u8v b1, u8v b2, u8v b3] 5)).ownsRow w.heap.size 5 1 v2 (MarkD.body ⟨kn, rn, nn⟩).length ((MarkD.body ⟨kn, rn, nn⟩).map u8v) := World.ownsRow.alloc (own_mono hown3 hbw.size) _
      have hnewsA := Lib.hid (news_new w3 [u8v b0, u8v b1, u8v b2, u8v b3] 5 (0, 0))
      have h63 : (MarkD.body ⟨kn, rn, nn⟩).length + 4 ≤ maxLen := by rw [hbl]; decide
      have h47 : ((MarkD.body ⟨kn, rn, nn⟩).length + 4) * 1 ≤ 140737488355328 := by omega
      have hs2 := hbw.size
      have hs3 := hb2.size
      have hs4 := hb3.size
      have hbs : w.heap.size ≤ (w3.alloc (.cells #[u8v b0, u8v b1, u8v b2, u8v b3] 5)).heap.size := by simp; omega
      go_wp2_with (at_builtin; go_must (refine wpList_append_own _ rfl (.tmp 35) (.tmp 47) 23 rfl w.heap.size 5 i0 (.int .u8 0) 1 1 Tryz.underlying23 hi hz0 hz1 hz2 rfl (by decide) v2 _ _ rfl hownA ⟨w3.heap.size, 0, none⟩ 4 4 [u8v b0, u8v b1, u8v b2, u8v b3] rfl rfl hnewsA.out (one_u8 [b0, b1, b2, b3]) h63 h47 hbs ?_); rintro v3 w4 hown4 hg4 _)
      go_ret2
      refine ⟨v3, rfl, ?_, ?_⟩
      · rw [Hfin.out]; simpa using hown4
      · exact Below.grown ((((hbw.trans (hb2.mono hs2)).trans (hb3.mono (by omega)))).alloc (by omega) _) hg4 (by simp; omega) (fun k hk => own_base hownA k hk)
end Go.Proofs.YtjddicoigbidlaaGreatDoor

set_option linter.unusedSimpArgs false
set_option linter.unusedVariables false
namespace Go.Proofs.YtjddicoigbidlaaGreatDoor
open Go.RowKit
/-- copy into a row that is known whole: that block alone turns. -/
theorem wpList_copy_keep {P : Program} {w : World} {ops : Array Oper} {rest : List Oper} {o : Oper} {a : Act} {Q : Exit → Act → World → Prop} (hgd : o.guard = none) (d s : Operand) (dT sT : TypeId)
    (ho : o.op = .call { callee := .builtin .copy, args := #[d, s], argTypes := #[dT, sT] }) (elem : TypeId) (hu : P.underlying dT = some (.slice elem)) (hsz : (P.info? elem).map (·.size) = some 1)
    (dp sp : Option Addr) (dLen dCap sLen sCap : Nat) (hd : a.eval d = .slice dp dLen dCap) (hs : a.eval s = .slice sp sLen sCap)
    (g off : Nat) (cur : List Value) (t : TypeId) (hg : w.heap[g]? = some (.cells cur.toArray t (0, 0))) (cs : List Value) (hn : cs.length = Nat.min sLen dLen)
    (hpos : 0 < cs.length → dp = some ⟨g, off, none⟩ ∧ ∃ ad, sp = some ad ∧ ∀ j v, cs[j]? = some v → w.cell? (ad.add j) = some v)
    (hfit : off + cs.length ≤ cur.length) (h1 : ∀ v ∈ cs, v.oneCell' = true)
    (h : ∀ w', Hid (w'.heap[g]? = some (.cells (splice cur off cs).toArray t (0, 0))) → Keeps (fun k => k = g) w w' → wpList P ops Q rest (a.put o.dst (goInt cs.length)) w') :
    wpList P ops Q (o :: rest) a w := by
  by_cases h0 : cs.length = 0
  · obtain rfl : cs = [] := List.eq_nil_of_length_eq_zero h0
    refine wpList_copy_nothing hgd d s dT sT ho elem hu hsz dp sp dLen dCap sLen sCap hd hs (by simpa using hn.symm) ?_
    exact h w (show _ = _ by simpa [splice] using hg) (Keeps.refl _ _)
  · obtain ⟨rfl, ad, rfl, hsrc⟩ := hpos (by omega)
    refine wpList_copy_own hgd d s dT sT ho elem hu hsz g off dLen dCap ad sLen sCap hd hs cur.toArray t hg cs hn hsrc (by simpa using hfit) h1 ?_
    exact h _ (show _ = _ by simpa [splice] using setRow_heap w g _ _ t _ hg) ⟨rfl, rfl, rfl, by simp, fun k _ hk => heap_setRow_other _ _ _ _ hk⟩
/-- A Reader in block b, which has the bytes bs left, in v. -/
structure RdAt (w : World) (b : Nat) (v : Value) (bs : List UInt8) (bad : Bool) : Prop where
  blk : w.heap[b]? = some (.cells #[v, .bool bad] 104 (0, 0))
  rd : RdB w v bs
  ne : v.ownBlock ≠ some b
/-- A new Reader. -/
def ReadDone (w : World) (bs : List UInt8) (e : Ending) (w' : World) : Prop :=
  ∃ v b, e = .returned (.pointer (some ⟨b, 0, none⟩)) ∧ RdAt w' b v bs false ∧ Below w.heap.size w w' ∧ w.heap.size ≤ b ∧ (∀ k, v.ownBlock = some k → w.heap.size ≤ k ∧ k < w'.heap.size)
set_option maxRecDepth 100000 in
set_option maxHeartbeats 400000 in
theorem wRead_calls (v : Value) (bs : List UInt8) (w : World) (hv : RdB w v bs) (hlen : bs.length ≤ 140737488355328) :
    Calls Tryz.prog 51 #[v] w (ReadDone w bs) := by
  obtain ⟨i0, hi, hz0, hz1, hz2⟩ := info_parts infoU8
  obtain ⟨a, cap, rfl, hl, hc⟩ := hv.form
  have hmk := run_make (P := Tryz.prog) w 23 5 i0 (.int .u8 0) Tryz.underlying23 hi hz0 .i64 .i64 bs.length bs.length (by omega) (by omega) (by rw [hz2]; omega) (by omega)
  rw [hz1, Nat.mul_one, Int.toNat_natCast] at hmk
  have hmade : madeCells (Value.int .u8 0).cells bs.length = (List.replicate bs.length (Value.int .u8 0)).toArray := by
    apply Array.ext'; rw [show (Value.int .u8 0).cells = #[Value.int .u8 0] from rfl, toList_madeCells_one]
  rw [hmade] at hmk
  have hcnt : (bs.map u8v).length = Nat.min bs.length bs.length := by simp
  have hsz1 : (Tryz.prog.info? 5).map (·.size) = some 1 := by kernel_rfl
  obtain ⟨zs, hzs⟩ : ∃ zs, zs = List.replicate bs.length (Value.int .u8 0) := ⟨_, rfl⟩
  rw [← hzs] at hmk
  have hzl : zs.length = bs.length := by rw [hzs]; simp
  have hsp : splice zs 0 (bs.map u8v) = bs.map u8v := by simp [splice, hzl, List.drop_of_length_le]
  obtain ⟨W, hW⟩ : ∃ W, W = (w.alloc (.cells zs.toArray 5)).alloc (.cells #[.slice (some ⟨w.heap.size, 0, none⟩) bs.length bs.length, .bool false] 104) := ⟨_, rfl⟩
  have hB : Below w.heap.size w W := by rw [hW]; exact ((Below.refl _ _).alloc (Nat.le_refl _) _).alloc (by simp) _
  have hg : W.heap[w.heap.size]? = some (.cells zs.toArray 5 (0, 0)) := by rw [hW]; exact heap_alloc2_old _ _ _
  have hgb : W.heap[w.heap.size + 1]? = some (.cells #[.slice (some ⟨w.heap.size, 0, none⟩) bs.length bs.length, .bool false] 104 (0, 0)) := by rw [hW]; exact heap_alloc2_new _ _ _
  have hpos : 0 < (bs.map u8v).length → (some (⟨w.heap.size, 0, none⟩ : Addr)) = some ⟨w.heap.size, 0, none⟩ ∧ ∃ ad, a = some ad ∧ ∀ j u, (bs.map u8v)[j]? = some u → W.cell? (ad.add j) = some u := by
    intro h0
    refine ⟨rfl, ?_⟩
    rcases hv with ⟨_, _, h1, _, h2⟩ | ⟨b, off, cap', h1, _, _, _, h4, h5⟩
    · subst h2; simp at h0
    · cases h1
      refine ⟨_, rfl, fun j u hu => ?_⟩
      rw [List.getElem?_map] at hu
      obtain ⟨x, hx, rfl⟩ := Option.map_eq_some_iff.1 hu
      rw [add_at]
      exact (hB.cell (p := ⟨b, off + j, none⟩) h4).trans (h5 j x hx)
  have hfit : 0 + (bs.map u8v).length ≤ zs.length := by simp [hzl]
  have Hsp := Lib.hid hsp
  clear hsp hzs hmade
  subst hW
  go_enter Tryz.func51, Tryz.ntmps51
  go_wp2_with (with_reducible refine wpList_copy_keep rfl (.tmp 12) (.tmp 13) 23 23 rfl 5 Tryz.underlying23 hsz1 (some ⟨w.heap.size, 0, none⟩) a bs.length bs.length bs.length cap rfl rfl w.heap.size 0 zs 5 hg (bs.map u8v) hcnt hpos hfit (one_u8 bs) ?_)
  intro w2 hrow hK
  have hrow := hrow.out
  rw [Hsp.out] at hrow
  have hblk := hK.heap hgb (by omega)
  have hb2 : Below w.heap.size w w2 := hB.trans (hK.below (fun i hi => by omega) hB.size)
  have hsz2 := (Array.getElem?_eq_some_iff.1 hblk).1
  go_wp2
  go_ret
  refine ⟨.slice (some ⟨w.heap.size, 0, none⟩) bs.length bs.length, w.heap.size + 1, rfl, ⟨hblk, ?_, by simp [Value.ownBlock]⟩, hb2, by omega, fun k hk => by cases hk; exact ⟨Nat.le_refl _, by show w.heap.size < _; omega⟩⟩
  exact rdB_row hrow (by omega) (by omega)

def TakeDone (w : World) (b : Nat) (v : Value) (bs : List UInt8) (n : Nat) (e : Ending) (w' : World) : Prop :=
  ∃ v1 v2, e = .returned (.tuple #[v1, .bool true]) ∧ RdB w' v1 (bs.take n) ∧ RdAt w' b v2 (bs.drop n) false ∧ Keeps (fun k => k = b) w w' ∧ v1.ownBlock = v.ownBlock ∧ v2.ownBlock = v.ownBlock
theorem RdAt.cells {w : World} {b : Nat} {v : Value} {bs : List UInt8} {bad : Bool} (h : RdAt w b v bs bad) :
    w.cell? ⟨b, 0, none⟩ = some v ∧ w.cell? ⟨b, 1, none⟩ = some (.bool bad) ∧ w.frozen? ⟨b, 0, none⟩ = false ∧ w.frozen? ⟨b, 1, none⟩ = false := by
  have hb := h.blk
  refine ⟨by rw [cell_of_row _ _ _ _ _ _ hb]; rfl, by rw [cell_of_row _ _ _ _ _ _ hb]; rfl, by simp [World.frozen?, hb], by simp [World.frozen?, hb]⟩
theorem u8size : (Tryz.prog.info? 5).map (·.size) = some 1 := by kernel_rfl
theorem ownBlock_part (a : Option Addr) (c l n m n' m' : Nat) : (Value.slice (if c = l then a else a.map (·.add l)) n m).ownBlock = (Value.slice a n' m').ownBlock := by
  cases a with
  | none => split <;> rfl
  | some a => split <;> simp [Value.ownBlock, Addr.add] <;> split <;> rfl
theorem nilCap {w : World} {cap : Nat} {bs : List UInt8} (h : RdB w (.slice none bs.length cap) bs) : bs = [] := by
  rcases h with ⟨_, _, _, _, h⟩ | ⟨_, _, _, h, _⟩
  · exact h
  · cases h
set_option maxRecDepth 100000 in
set_option maxHeartbeats 400000 in
theorem rTake_good (b : Nat) (v : Value) (bs : List UInt8) (n : Nat) (w : World) (hR : RdAt w b v bs false) (hn : n ≤ bs.length) :
    Calls Tryz.prog 75 #[.pointer (some ⟨b, 0, none⟩), .int .i64 n] w (TakeDone w b v bs n) := by
  obtain ⟨hc0, hc1, hf0, hf1⟩ := hR.cells
  obtain ⟨a, cap, hv, hl, hc⟩ := hR.rd.form
  have hr := hR.rd
  have hblk := hR.blk
  have hne := hR.ne
  subst hv
  have hs1 := run_slice_hm (P := Tryz.prog) Tryz.underlying23 u8size a bs.length cap n (by omega)
  have hs2 := run_slice_l (P := Tryz.prog) Tryz.underlying23 u8size a bs.length cap n hn
  have hp1 := hr.part 0 n (Nat.zero_le _) hn
  have hp2 := hr.part n bs.length hn (Nat.le_refl _)
  have ho := ownBlock_part a cap n (bs.length - n) (cap - n) bs.length cap
  rw [List.take_of_length_le (Nat.le_refl _)] at hp2
  generalize (if cap = n then a else a.map (·.add n)) = a2 at hs2 hp2 ho
  have hpre : RdB w (.slice a n n) (bs.take n) := by
    rcases hr with ⟨a', c', h1, h2, h3⟩ | ⟨b', off, cap', h1, h2, h3, h4, h5, h6⟩
    · subst h3; cases h1; simp at hn; subst hn; exact .inl ⟨_, _, rfl, by omega, by simp⟩
    · cases h1
      by_cases e : n = 0
      · subst e; exact .inl ⟨_, _, rfl, by omega, by simp⟩
      · refine .inr ⟨b', off, n, ?_, ?_, ?_, by omega, h5, fun j x hx => ?_⟩
        · rw [List.length_take, Nat.min_eq_left hn]
        · rw [← List.length_pos_iff, List.length_take]; omega
        · rw [List.length_take]; omega
        · rw [List.getElem?_take] at hx
          split at hx
          · exact h6 j x hx
          · cases hx
  clear hp1 hr
  go_enter Tryz.func75, Tryz.ntmps75
  go_wp2
  go_ret2
  have hK := Keeps.setCell (F := fun k => k = b) w ⟨b, 0, none⟩ (.slice a2 (bs.length - n) (cap - n)) rfl
  have hnb : ∀ k, (Value.slice a bs.length cap).ownBlock = some k → ¬ (k = b) := fun k hk e => hne (e ▸ hk)
  refine ⟨.slice a n n, .slice a2 (bs.length - n) (cap - n), rfl, hpre.keeps hK (fun k hk => hnb k (by cases a <;> first | exact hk | cases hk)), ⟨heap_setCell_same _ _ 0 _ _ _ hblk, hp2.keeps hK (fun k hk => hnb k (by rw [← ho]; exact hk)), by rw [ho]; exact hne⟩, hK, by cases a <;> rfl, ho⟩

def TakeBad (w : World) (b : Nat) (v : Value) (bs : List UInt8) (e : Ending) (w' : World) : Prop :=
  e = .returned (.tuple #[.slice none 0 0, .bool false]) ∧ RdAt w' b v bs true ∧ Keeps (fun k => k = b) w w'
set_option maxRecDepth 100000 in
set_option maxHeartbeats 400000 in
theorem rTake_bad (b : Nat) (v : Value) (bs : List UInt8) (bad : Bool) (n : Nat) (w : World) (hR : RdAt w b v bs bad) (hn : bad = true ∨ bs.length < n) :
    Calls Tryz.prog 75 #[.pointer (some ⟨b, 0, none⟩), .int .i64 n] w (TakeBad w b v bs) := by
  obtain ⟨hc0, hc1, hf0, hf1⟩ := hR.cells
  obtain ⟨a, cap, hv, hl, hc⟩ := hR.rd.form
  have hr := hR.rd
  have hblk := hR.blk
  have hne := hR.ne
  subst hv
  cases bad
  all_goals
    first
    | (have hlt : bs.length < n := by rcases hn with h | h; cases h; exact h)
    | skip
    clear hn
    go_enter Tryz.func75, Tryz.ntmps75
    go_wp2
    go_ret2
    have hK := Keeps.setCell (F := fun k => k = b) w ⟨b, 1, none⟩ (.bool true) rfl
    exact ⟨rfl, ⟨heap_setCell_same _ _ 1 _ _ _ hblk, hr.keeps hK (fun k hk e => hne (e ▸ hk)), hne⟩, hK⟩
/-- The number that bytes are. -/
def beNat (l : List UInt8) : Nat := l.foldl (fun n x => n * 256 + x.toNat) 0
theorem beNat_snoc (l : List UInt8) (x : UInt8) : beNat (l ++ [x]) = beNat l * 256 + x.toNat := by simp [beNat]
theorem beNat_fold (l : List UInt8) : ∀ n : Nat, l.foldl (fun n x => n * 256 + x.toNat) n + 1 ≤ (n + 1) * 256 ^ l.length := by
  induction l with
  | nil => intro n; simp
  | cons x l ih =>
    intro n
    have := x.toNat_lt
    have h := ih (n * 256 + x.toNat)
    rw [List.foldl_cons, List.length_cons, Nat.pow_succ]
    refine Nat.le_trans h ?_
    rw [Nat.mul_comm (256 ^ l.length) 256, ← Nat.mul_assoc]
    exact Nat.mul_le_mul_right _ (by omega)
theorem beNat_lt (l : List UInt8) : beNat l < 256 ^ l.length := by
  have := beNat_fold l 0
  unfold beNat
  omega
/-- What Num reads: the number, whether there is one, what is left, whether it is bad then. -/
def rdNum (bs : List UInt8) (bad : Bool) : (Nat × Bool) × (List UInt8 × Bool) :=
  if bad = true ∨ bs.length < 8 then ((0, false), (bs, true))
  else if 4611686018427387904 < beNat (bs.take 8) then ((0, false), (bs.drop 8, true))
  else ((beNat (bs.take 8), true), (bs.drop 8, false))
def NumDone (w : World) (b : Nat) (v : Value) (r : (Nat × Bool) × (List UInt8 × Bool)) (e : Ending) (w' : World) : Prop :=
  ∃ v', e = .returned (.tuple #[.int .i64 (r.1.1 : Int), .bool r.1.2]) ∧ RdAt w' b v' r.2.1 r.2.2 ∧ Keeps (fun k => k = b) w w' ∧ v'.ownBlock = v.ownBlock
theorem or_byte (n : Nat) (x : UInt8) (hn : n * 256 < 18446744073709551616) : bits .or .u64 ((n : Int) * 256) (x.toNat : Int) = ((n * 256 + x.toNat : Nat) : Int) := by
  have hx := x.toNat_lt
  rw [bits_join .u64 64 (by decide) (fun m h0 h1 => IntWalk.u64_in m (by omega)) 8 _ _ (by omega) (by omega) (by omega) (by omega) (by omega) (by omega)]
  omega
set_option maxRecDepth 100000 in
set_option maxHeartbeats 400000 in
theorem rNum_calls (b : Nat) (v : Value) (bs : List UInt8) (bad : Bool) (w : World) (hR : RdAt w b v bs bad) :
    Calls Tryz.prog 74 #[.pointer (some ⟨b, 0, none⟩)] w (NumDone w b v (rdNum bs bad)) := by
  by_cases hbad : bad = true ∨ bs.length < 8
  · have hm : rdNum bs bad = ((0, false), (bs, true)) := by rw [rdNum, if_pos hbad]
    rw [hm]
    go_enter Tryz.func74, Tryz.ntmps74
    go_wp2_with fail
    refine (rTake_bad b v bs bad 8 w hR hbad).mono ?_; rintro e w1 ⟨rfl, hR1, hK⟩
    go_wp2
    go_ret2
    exact ⟨v, rfl, hR1, hK, rfl⟩
  · have hb : bad = false := by cases bad <;> simp_all
    subst hb
    have hl : 8 ≤ bs.length := by simp at hbad; omega
    obtain ⟨q, hq⟩ : ∃ q, bs.take 8 = q := ⟨_, rfl⟩
    have hql : q.length = 8 := by rw [← hq]; simp; omega
    have hm : rdNum bs false = if 4611686018427387904 < beNat q then ((0, false), (bs.drop 8, true)) else ((beNat q, true), (bs.drop 8, false)) := by rw [rdNum, if_neg hbad, hq]
    have Hm := Lib.hid hm
    clear hm hbad
    go_enter Tryz.func74, Tryz.ntmps74
    go_wp2_with fail
    refine (rTake_good b v bs 8 w hR hl).mono ?_; rintro e w1 ⟨v1, v2, rfl, hr1, hR2, hK, ho1, ho2⟩
    rw [hq] at hr1
    rcases hr1 with ⟨_, _, _, _, h⟩ | ⟨gb, off, cap, rfl, hne, hlc, hcap, hbw, hcell⟩
    · rw [h] at hql; cases hql
    rw [hql]
    clear hq
    go_wp2
    go_loop [6, 18] (fun n i => ∃ j : Nat, j ≤ 8 ∧ i = .int .i64 j ∧ n = .int .u64 (beNat (q.take j) : Int)) (fun _ i => 8 - (intOf i).toNat)
    case atStart => exact ⟨0, by omega, rfl, rfl⟩
    case round =>
      obtain ⟨j, hj, rfl, rfl⟩ := hrel
      by_cases hlt : j < 8
      · obtain ⟨x, hx⟩ : ∃ x, q[j]? = some x := ⟨q[j], List.getElem?_eq_getElem (by omega)⟩
        have hc := hcell j x hx
        have hsn := beNat_snoc (q.take j) x
        rw [← take_snoc hx] at hsn
        have hbl := beNat_lt (q.take j)
        rw [List.length_take, Nat.min_eq_left (by omega)] at hbl
        have hp : 256 ^ j ≤ 256 ^ 7 := Nat.pow_le_pow_right (by omega) (by omega)
        generalize beNat (q.take j) = m at hsn hbl
        have hm7 : m * 256 < 18446744073709551616 := by omega
        have hor := or_byte m x hm7
        have hx8 := x.toNat_lt
        generalize m * 256 + x.toNat = m2 at hsn hor
        have Hsn := Lib.hid hsn
        clear hsn hx hcell hp hbl
        go_wp2
        go_round
        case rel => exact ⟨j + 1, by omega, by go_num, by rw [Hsn.out]⟩
        case measure => simp [intOf] <;> omega
      · have hj8 : j = 8 := by omega
        subst hj8
        rw [List.take_of_length_le (by omega)]
        obtain ⟨hc0, hc1, hf0, hf1⟩ := hR2.cells
        have hblk := hR2.blk
        have hbl := beNat_lt q
        rw [hql] at hbl
        clear hcell
        by_cases hbig : 4611686018427387904 < beNat q
        · have hm := Hm.out
          rw [if_pos hbig] at hm
          have Hm2 := Lib.hid hm
          clear hm
          generalize beNat q = m at hbig hbl
          go_wp2
          go_ret2
          have hK2 := Keeps.setCell (F := fun k => k = b) w1 ⟨b, 1, none⟩ (.bool true) rfl
          refine ⟨v2, by rw [Hm2.out]; rfl, ?_, hK.trans hK2, ho2⟩
          rw [Hm2.out]
          exact ⟨heap_setCell_same _ _ 1 _ _ _ hblk, hR2.rd.keeps hK2 (fun k hk e => hR2.ne (e ▸ hk)), hR2.ne⟩
        · have hm := Hm.out
          rw [if_neg hbig] at hm
          have Hm2 := Lib.hid hm
          clear hm
          generalize beNat q = m at hbig hbl Hm2
          go_wp2
          go_ret2
          exact ⟨v2, by rw [Hm2.out]; rfl, by rw [Hm2.out]; exact hR2, hK, ho2⟩
end Go.Proofs.YtjddicoigbidlaaGreatDoor

set_option linter.unusedSimpArgs false
set_option linter.unusedVariables false
namespace Go.Proofs.YtjddicoigbidlaaGreatDoor
open Go.RowKit
def rdDone (bs : List UInt8) (bad : Bool) : Bool := !bad && decide (bs.length = 0)
set_option maxRecDepth 100000 in
set_option maxHeartbeats 400000 in
theorem rDone_calls (b : Nat) (v : Value) (bs : List UInt8) (bad : Bool) (w : World) (hR : RdAt w b v bs bad) :
    Calls Tryz.prog 76 #[.pointer (some ⟨b, 0, none⟩)] w fun e w' => e = .returned (.bool (rdDone bs bad)) ∧ w = w' := by
  obtain ⟨hc0, hc1, hf0, hf1⟩ := hR.cells
  obtain ⟨a, cap, hv, hl, hc⟩ := hR.rd.form
  subst hv
  have hlen : ((bs.length : Int) == 0) = decide (bs.length = 0) := by rw [Bool.eq_iff_iff]; simp
  cases bad
  · by_cases h0 : bs.length = 0
    all_goals
      simp only [h0, decide_true, decide_false] at hlen
      go_enter Tryz.func76, Tryz.ntmps76
      go_wp2
      go_ret
      exact ⟨ret_bool (by simp [rdDone, h0]), rfl⟩
  · go_enter Tryz.func76, Tryz.ntmps76
    go_wp2
    go_ret
    exact ⟨ret_bool (by simp [rdDone]), rfl⟩
theorem RdB.cellAny {w : World} {a : Option Addr} {n cap : Nat} {bs : List UInt8} (h : RdB w (.slice a n cap) bs) (hne : 0 < bs.length) :
    ∃ b off, a = some ⟨b, off, none⟩ ∧ b < w.heap.size ∧ ∀ j x, bs[j]? = some x → w.cell? ⟨b, off + j, none⟩ = some (u8v x) := by
  rcases h with ⟨_, _, _, _, h⟩ | ⟨b, off, cap', h, _, _, _, h4, h5⟩
  · subst h; simp at hne
  · cases h; exact ⟨b, off, rfl, h4, h5⟩
set_option maxRecDepth 100000 in
set_option maxHeartbeats 1000000 in
theorem equal_calls (v1 v2 : Value) (xs ys : List UInt8) (w : World) (h1 : RdB w v1 xs) (h2 : RdB w v2 ys) :
    Calls Tryz.prog 53 #[v1, v2] w fun e w' => e = .returned (.bool (decide (xs = ys))) ∧ Below w.heap.size w w' := by
  obtain ⟨a1, c1, rfl, l1, m1⟩ := h1.form
  obtain ⟨a2, c2, rfl, l2, m2⟩ := h2.form
  by_cases hl : xs.length = ys.length
  · have hne : ((xs.length : Int) != (ys.length : Int)) = false := by rw [bne_eq_false_iff_eq]; omega
    go_enter Tryz.func53, Tryz.ntmps53
    go_wp2
    go_loopw [13] (fun i wr => ∃ k : Nat, k ≤ xs.length ∧ i = .int .i64 k ∧ xs.take k = ys.take k ∧ Below w.heap.size w wr) (fun i _ => xs.length - (intOf i).toNat)
    case atStart => exact ⟨0, Nat.zero_le _, rfl, rfl, Below.refl _ _⟩
    case round =>
      obtain ⟨k, hk, rfl, hpre, hb⟩ := hrel
      by_cases hlt : k < xs.length
      · obtain ⟨x, hx⟩ : ∃ x, xs[k]? = some x := ⟨xs[k], List.getElem?_eq_getElem hlt⟩
        obtain ⟨y, hy⟩ : ∃ y, ys[k]? = some y := ⟨ys[k], List.getElem?_eq_getElem (by omega)⟩
        obtain ⟨b1, o1, e1, hb1, hcell1⟩ := (h1.below (Nat.le_refl _) hb).cellAny (by omega)
        obtain ⟨b2, o2, e2, hb2, hcell2⟩ := (h2.below (Nat.le_refl _) hb).cellAny (by omega)
        have hcx := hcell1 k x hx
        have hcy := hcell2 k y hy
        subst e1 e2
        have hxs := take_snoc hx
        have hys := take_snoc hy
        have Hxs := Lib.hid hxs
        have Hys := Lib.hid hys
        have Hpre := Lib.hid hpre
        have Hx := Lib.hid hx
        have Hy := Lib.hid hy
        have hky : k < ys.length := by omega
        have hkI : (k : Int) < (xs.length : Int) := by omega
        have hkJ : (k : Int) < (ys.length : Int) := by omega
        clear hcell1 hcell2 hxs hys hpre hx hy h1 h2
        by_cases hxy : x = y
        · have htest : ((x.toNat : Int) != (y.toNat : Int)) = false := by rw [hxy]; simp
          have Hxy := Lib.hid hxy
          clear hxy
          go_wp2
          go_quiet (fail)
          go_wp2
          go_roundw
          case rel => exact ⟨k + 1, by omega, by go_num, by rw [Hxs.out, Hys.out, Hpre.out, Hxy.out], by first | exact hb | exact below_drewN hb _⟩
          case measure => simp [intOf] <;> omega
        · have htest : ((x.toNat : Int) != (y.toNat : Int)) = true := by rw [bne_iff_ne]; intro h; exact hxy (UInt8.toNat_inj.1 (by omega))
          go_wp2
          go_quiet (fail)
          go_wp2
          go_ret
          refine ⟨ret_bool (decide_eq_false ?_), by first | exact hb | exact below_drewN hb _⟩
          intro e
          have h := Hx.out
          rw [e, Hy.out] at h
          have : x = y := (Option.some.inj h).symm
          subst this
          simp at htest
      · have hkl : k = xs.length := by omega
        rw [List.take_of_length_le (by omega), List.take_of_length_le (by omega)] at hpre
        have Hpre := Lib.hid hpre
        clear hpre
        go_wp2
        go_ret
        exact ⟨ret_bool (decide_eq_true Hpre.out), hb⟩
  · have hne : ((xs.length : Int) != (ys.length : Int)) = true := by rw [bne_iff_ne]; omega
    go_enter Tryz.func53, Tryz.ntmps53
    go_wp2
    go_ret
    exact ⟨ret_bool (decide_eq_false (fun e => hl (by rw [e]))), Below.refl _ _⟩
end Go.Proofs.YtjddicoigbidlaaGreatDoor
