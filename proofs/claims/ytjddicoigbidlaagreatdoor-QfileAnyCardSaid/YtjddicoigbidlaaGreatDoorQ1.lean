/-
  Words that all walks of this claim share: bytes in memory, whole numbers of 32 bits, worlds that only grow.
  What package word's Writer does: numbers and texts as bytes.
  What package word's Reader does: it takes bytes apart again.
  strings.IndexRune and ContainsRune at a code point beyond ASCII in the two texts that addr asks: it is not there.
  What a mailbox is, as plain data: cutting and splitting at one byte, labels, local parts, mailboxes; Lib's words at one byte.
  The walks of addr: plain, only, ends, label, local, Domain, Split, Parse.
  The walks of addr: ends, label, local.
  The walks of addr: local, Domain.
  The walks of addr: Split, Parse.
  The walks of addr.Parse and env.box.
-/
import Derived.WalkKit
import Derived.KernelRfl
import Derived.Lib.Hide
import Derived.OpenShut
import Derived.Deep.AppendLies
import Derived.Deep.QuietTactic
import Derived.Test.YtjddicoigbidlaaGreatDoorProg
import Derived.Deep.RegionLaw
import Derived.RegionTactic
import Derived.WalkSpells
import Derived.Laws.CopyOwn
import Derived.Test.YtjddicoigbidlaaGreatDoorShelf
import Derived.Laws.RangeAny
import Derived.Laws.RangeString
import Derived.BigQuiet
import Derived.Lib.QuoteLoop
import Derived.WalkMore
import Derived.Lib.IndexMore
import Derived.Lib.Split
import Derived.Lib.Case
import Derived.Lib.RuneCountTail
import Derived.Lib.SlicesS
import Derived.Lib.SplitLaws
import Derived.Laws.Concat
set_option linter.unusedSimpArgs false
set_option linter.unusedVariables false
namespace Go.Proofs.YtjddicoigbidlaaGreatDoor
open Go.RowKit
/-- A byte as a value. -/
abbrev u8v (x : UInt8) : Value := .int .u8 (x.toNat : Int)
/-- A number of 32 bits as a value. -/
abbrev u32v (c : BitVec 32) : Value := .int .u32 (c.toNat : Int)
/-- The slice value v holds the bytes bs. -/
def RdB (w : World) (v : Value) (bs : List UInt8) : Prop :=
  (∃ a c, v = .slice a 0 c ∧ c ≤ 9223372036854775807 ∧ bs = []) ∨ ∃ b off cap, v = .slice (some ⟨b, off, none⟩) bs.length cap ∧ bs ≠ [] ∧ bs.length ≤ cap ∧ cap ≤ 9223372036854775807 ∧ b < w.heap.size ∧ ∀ j x, bs[j]? = some x → w.cell? ⟨b, off + j, none⟩ = some (u8v x)
theorem RdB.below {B : Nat} {w w' : World} {v : Value} {bs : List UInt8} (h : RdB w v bs) (hB : w.heap.size ≤ B) (hb : Below B w w') : RdB w' v bs := by
  rcases h with ⟨a, c, h1, h2⟩ | ⟨b, off, cap, h1, h0, h2, h3, h4, h5⟩
  · exact .inl ⟨a, c, h1, h2⟩
  · exact .inr ⟨b, off, cap, h1, h0, h2, h3, Nat.lt_of_lt_of_le h4 hb.size, fun j x hx => (hb.cell (p := ⟨b, off + j, none⟩) (by exact Nat.lt_of_lt_of_le h4 hB)).trans (h5 j x hx)⟩
theorem RdB.form {w : World} {v : Value} {bs : List UInt8} (h : RdB w v bs) : ∃ a cap, v = .slice a bs.length cap ∧ bs.length ≤ cap ∧ cap ≤ 9223372036854775807 := by
  rcases h with ⟨a, c, rfl, hc, rfl⟩ | ⟨b, off, cap, rfl, h0, h1, h2, _, _⟩
  · exact ⟨a, c, rfl, Nat.zero_le _, hc⟩
  · exact ⟨_, cap, rfl, h1, h2⟩
/-- w' is w with new blocks, and of the old ones only those of F may have turned. -/
structure Keeps (F : Nat → Prop) (w w' : World) : Prop where
  os : w'.os = w.os
  tape : w'.tape = w.tape
  output : w'.output = w.output
  size : w.heap.size ≤ w'.heap.size
  block : ∀ k, k < w.heap.size → ¬ F k → w'.heap[k]? = w.heap[k]?
theorem Keeps.refl (F : Nat → Prop) (w : World) : Keeps F w w := ⟨rfl, rfl, rfl, Nat.le_refl _, fun _ _ _ => rfl⟩
/-- One step more: what it may turn is of F, or is new. -/
theorem Keeps.go {F G : Nat → Prop} {a w w' : World} (h : Keeps F a w) (k : Keeps G w w') (hG : ∀ i, G i → F i ∨ a.heap.size ≤ i) : Keeps F a w' :=
  ⟨k.os.trans h.os, k.tape.trans h.tape, k.output.trans h.output, Nat.le_trans h.size k.size, fun i hi hF =>
    (k.block i (Nat.lt_of_lt_of_le hi h.size) (fun g => (hG i g).elim hF (fun q => by omega))).trans (h.block i hi hF)⟩
theorem Keeps.trans {F : Nat → Prop} {a w w' : World} (h : Keeps F a w) (k : Keeps F w w') : Keeps F a w' := h.go k fun _ => Or.inl
theorem Keeps.mono {F G : Nat → Prop} {w w' : World} (h : Keeps F w w') (hG : ∀ i, i < w.heap.size → F i → G i) : Keeps G w w' :=
  ⟨h.os, h.tape, h.output, h.size, fun i hi hF => h.block i hi fun f => hF (hG i hi f)⟩
theorem Keeps.ofBelow {w w' : World} {F : Nat → Prop} (h : Below w.heap.size w w') : Keeps F w w' := ⟨h.os, h.tape, h.output, h.size, fun i hi _ => h.block i hi⟩
theorem Keeps.below {F : Nat → Prop} {B : Nat} {w w' : World} (h : Keeps F w w') (hF : ∀ i, F i → B ≤ i) (hB : B ≤ w.heap.size) : Below B w w' :=
  ⟨h.os, h.tape, h.output, h.size, fun k hk => h.block k (by omega) fun f => by have := hF k f; omega⟩
theorem Keeps.alloc (F : Nat → Prop) (w : World) (o : Obj) : Keeps F w (w.alloc o) := ⟨rfl, rfl, rfl, by simp, fun k hk _ => Below.heap_alloc w o k hk⟩
theorem Keeps.drew (F : Nat → Prop) (w : World) : Keeps F w w.drew := ⟨rfl, rfl, rfl, Nat.le_refl _, fun _ _ _ => rfl⟩
theorem Keeps.setCell {F : Nat → Prop} (w : World) (p : Addr) (u : Value) (hp : F p.block) : Keeps F w (w.setCell p u) :=
  ⟨rfl, rfl, rfl, by simp [World.setCell], fun k _ hF => Below.heap_setCell _ _ _ _ (fun e => hF (e ▸ hp))⟩
theorem Keeps.grown {w w' : World} {row : Option Nat} (hg : w.grownBy w' row) : Keeps (fun k => row = some k) w w' :=
  ⟨hg.os, hg.tape, hg.output, hg.size, fun k hk hF => hg.block k hk (fun e => hF e.symm)⟩
theorem Keeps.heap {F : Nat → Prop} {w w' : World} (h : Keeps F w w') {k : Nat} {o : Obj} (hk : w.heap[k]? = some o) (hF : ¬ F k) : w'.heap[k]? = some o :=
  (h.block k (Array.getElem?_eq_some_iff.1 hk).1 hF).trans hk
theorem Keeps.cell {F : Nat → Prop} {w w' : World} (h : Keeps F w w') {k o : Nat} {v : Value} (hF : ¬ F k) (hc : w.cell? ⟨k, o, none⟩ = some v) : w'.cell? ⟨k, o, none⟩ = some v :=
  (World.cell?_of_block (h.block k (World.block_lt_of_cell? w ⟨k, o, none⟩ hc) hF)).trans hc
/-- A row that is owned, where its block did not turn. -/
theorem own_keeps {F : Nat → Prop} {w w' : World} {base : Nat} {e : TypeId} {size : Nat} {v : Value} {n : Nat} {xs : List Value} (h : w.ownsRow base e size v n xs) (hk : Keeps F w w') (hF : ∀ k, v.ownBlock = some k → ¬ F k) : w'.ownsRow base e size v n xs := by
  obtain ⟨h1, h2 | ⟨g, cap, cur, hv, hg, hh, r⟩⟩ := h
  · exact ⟨h1, .inl h2⟩
  · exact ⟨h1, .inr ⟨g, cap, cur, hv, hg, hk.heap hh (hF g (by rw [hv]; rfl)), r⟩⟩
theorem own_mono {w : World} {base base' : Nat} {e : TypeId} {size : Nat} {v : Value} {n : Nat} {xs : List Value} (h : w.ownsRow base e size v n xs) (hb : base' ≤ base) : w.ownsRow base' e size v n xs := by
  obtain ⟨h1, h2 | ⟨g, cap, cur, hv, hg, r⟩⟩ := h
  · exact ⟨h1, .inl h2⟩
  · exact ⟨h1, .inr ⟨g, cap, cur, hv, Nat.le_trans hb hg, r⟩⟩
theorem own_below {w w' : World} {B base : Nat} {e : TypeId} {size : Nat} {v : Value} {n : Nat} {xs : List Value} (h : w.ownsRow base e size v n xs) (hb : Below B w w') (hB : w.heap.size ≤ B) : w'.ownsRow base e size v n xs :=
  own_keeps (F := fun _ => False) h ⟨hb.os, hb.tape, hb.output, hb.size, fun k hk _ => hb.block k (by omega)⟩ (fun _ _ => id)
theorem own_base {w : World} {base : Nat} {e : TypeId} {size : Nat} {v : Value} {n : Nat} {xs : List Value} (h : w.ownsRow base e size v n xs) : ∀ k, v.ownBlock = some k → base ≤ k := fun k hk => (h.lt k hk).1
theorem RdB.keeps {F : Nat → Prop} {w w' : World} {v : Value} {bs : List UInt8} (h : RdB w v bs) (hk : Keeps F w w') (hF : ∀ k, v.ownBlock = some k → ¬ F k) : RdB w' v bs := by
  rcases h with ⟨a, c, h1, h2⟩ | ⟨b, off, cap, h1, h0, h2, h3, h4, h5⟩
  · exact .inl ⟨a, c, h1, h2⟩
  · exact .inr ⟨b, off, cap, h1, h0, h2, h3, Nat.lt_of_lt_of_le h4 hk.size, fun j x hx => (World.cell?_of_block (hk.block b h4 (hF b (by rw [h1]; rfl)))).trans (h5 j x hx)⟩
theorem ret_bool {a b : Bool} (h : b = a) : Ending.returned (.bool a) = .returned (.bool b) := by rw [h]
theorem ret_tuple2 {a b c d : Value} (h : a = c) (k : b = d) : Ending.returned (.tuple #[a, b]) = .returned (.tuple #[c, d]) := by rw [h, k]
theorem ret_int {k : IntKind} {a b : Int} (h : a = b) : Ending.returned (.int k a) = .returned (.int k b) := by rw [h]
theorem below_cell {W w1 : World} (hb : Below W.heap.size W w1) : (∀ b o, b < W.heap.size → w1.cell? ⟨b, o, none⟩ = W.cell? ⟨b, o, none⟩) ∧ (∀ b o, b < W.heap.size → w1.frozen? ⟨b, o, none⟩ = W.frozen? ⟨b, o, none⟩) :=
  ⟨fun b o h => hb.cell (p := ⟨b, o, none⟩) h, fun b o h => hb.frozen (p := ⟨b, o, none⟩) h⟩
theorem heap_setRow_other (w : World) (g k : Nat) (cs : Array Value) (h : k ≠ g) : (w.setRow g cs).heap[k]? = w.heap[k]? := by
  simp only [World.setRow, Array.getElem?_modify]
  rw [if_neg (fun e => h e.symm)]
theorem below_setRow {B : Nat} {a w : World} (h : Below B a w) {g : Nat} (hg : B ≤ g) (cs : Array Value) : Below B a (w.setRow g cs) :=
  h.trans ⟨rfl, rfl, rfl, by simp, fun k hk => heap_setRow_other _ _ _ _ (by omega)⟩
theorem ofInt_toNat {n : Nat} (x : BitVec n) : BitVec.ofInt n (x.toNat : Int) = x := by simp
theorem wrap_u32 (x : BitVec 32) : IntKind.u32.wrap (x.toNat : Int) = (x.toNat : Int) := by rw [IntKind.wrap_u32]; have := x.isLt; omega
theorem bits_xor32 (x y : BitVec 32) : bits .xor .u32 (x.toNat : Int) (y.toNat : Int) = ((x ^^^ y).toNat : Int) := by
  unfold bits
  simp only [IntKind.bits, ofInt_toNat]
  exact wrap_u32 _
theorem bits_and32 (x y : BitVec 32) : bits .and .u32 (x.toNat : Int) (y.toNat : Int) = ((x &&& y).toNat : Int) := by
  unfold bits
  simp only [IntKind.bits, ofInt_toNat]
  exact wrap_u32 _
theorem bits_or32 (x y : BitVec 32) : bits .or .u32 (x.toNat : Int) (y.toNat : Int) = ((x ||| y).toNat : Int) := by
  unfold bits
  simp only [IntKind.bits, ofInt_toNat]
  exact wrap_u32 _
theorem wrap_u8 (x : BitVec 8) : IntKind.u8.wrap (x.toNat : Int) = (x.toNat : Int) := by rw [IntKind.wrap_u8]; have := x.isLt; omega
theorem bits_xor8 (x y : UInt8) : bits .xor .u8 (x.toNat : Int) (y.toNat : Int) = ((x ^^^ y).toNat : Int) := by
  unfold bits
  have h : ∀ z : UInt8, (z.toNat : Int) = (z.toBitVec.toNat : Int) := fun _ => rfl
  rw [h x, h y]
  simp only [IntKind.bits, ofInt_toNat]
  exact wrap_u8 _
theorem bits_and8 (x y : UInt8) : bits .and .u8 (x.toNat : Int) (y.toNat : Int) = ((x &&& y).toNat : Int) := by
  unfold bits
  have h : ∀ z : UInt8, (z.toNat : Int) = (z.toBitVec.toNat : Int) := fun _ => rfl
  rw [h x, h y]
  simp only [IntKind.bits, ofInt_toNat]
  exact wrap_u8 _
theorem u8_bit (x : UInt8) (j : Nat) : (bits .and .u8 ((x.toNat : Int) / 2 ^ j) 1 == 1) = x.toNat.testBit j := by
  have h1 : ((x.toNat : Int) / 2 ^ j) = ((UInt8.ofNat (x.toNat / 2 ^ j)).toNat : Int) := by
    have hx := x.toNat_lt
    have : x.toNat / 2 ^ j ≤ x.toNat := Nat.div_le_self _ _
    rw [UInt8.toNat_ofNat', Nat.mod_eq_of_lt (by omega)]
    simp
  rw [h1, show (1 : Int) = (((1 : UInt8).toNat : Nat) : Int) from rfl, bits_and8, UInt8.toNat_and, UInt8.toNat_ofNat']
  have h2 : x.toNat / 2 ^ j % 2 ^ 8 &&& (1 : UInt8).toNat = x.toNat / 2 ^ j % 2 := by
    show _ &&& 1 = _
    rw [Nat.and_one_is_mod, Nat.mod_mod_of_dvd _ (by decide)]
  rw [h2, Nat.testBit_eq_decide_div_mod_eq]
  have : x.toNat / 2 ^ j % 2 < 2 := Nat.mod_lt _ (by omega)
  generalize x.toNat / 2 ^ j % 2 = m at this
  rcases (by omega : m = 0 ∨ m = 1) with rfl | rfl <;> rfl

/-- A row that is owned and not empty has a block. -/
theorem own_form {w : World} {base : Nat} {e : TypeId} {size : Nat} {v : Value} {n : Nat} {xs : List Value} (h : w.ownsRow base e size v n xs) (hn : 0 < n) : ∃ g cap, v = .slice (some ⟨g, 0, none⟩) n cap ∧ base ≤ g ∧ g < w.heap.size ∧ n ≤ cap ∧ cap ≤ maxLen := by
  obtain ⟨h1, ⟨_, h2⟩ | ⟨g, cap, cur, hv, hg, hh, hc, hm, _⟩⟩ := h
  · omega
  · exact ⟨g, cap, hv, hg, (Array.getElem?_eq_some_iff.1 hh).1, hc, hm⟩
theorem add_at (b o j : Nat) : (⟨b, o, none⟩ : Addr).add j = ⟨b, o + j, none⟩ := by unfold Addr.add; split <;> simp_all
section
variable {P : Program} {t e : TypeId}
theorem run_slice_lh (ht : P.underlying t = some (.slice e)) (hi : (P.info? e).map (·.size) = some 1) (a : Option Addr) (len cap l h : Nat) (hl : l ≤ h) (hh : h ≤ cap) (w : World) :
    (Instr.sliceAt t (.slice a len cap) (some (.int .i64 (l : Int))) (some (.int .i64 (h : Int))) none).run P w = .ok (.slice (if cap = l then a else a.map (·.add l)) (h - l) (cap - l)) w := by
  obtain ⟨i, hi1, hi2⟩ := Option.map_eq_some_iff.1 hi
  simp [Instr.sliceAt, Instr.slice, Instr.sliceBounds, Instr.sliceBound, run_underlying ht, asIntOf, go_sem, hi1, hi2, sizeOf, typeInfo]
  rw [if_pos hh, if_pos hl]
theorem run_slice_h (ht : P.underlying t = some (.slice e)) (hi : (P.info? e).map (·.size) = some 1) (a : Option Addr) (len cap h : Nat) (hh : h ≤ cap) (w : World) :
    (Instr.sliceAt t (.slice a len cap) none (some (.int .i64 (h : Int))) none).run P w = .ok (.slice a h cap) w := by
  obtain ⟨i, hi1, hi2⟩ := Option.map_eq_some_iff.1 hi
  simp [Instr.sliceAt, Instr.slice, Instr.sliceBounds, Instr.sliceBound, run_underlying ht, asIntOf, go_sem, hi1, hi2, sizeOf, typeInfo]
  intro h'; omega
theorem run_slice_hm (ht : P.underlying t = some (.slice e)) (hi : (P.info? e).map (·.size) = some 1) (a : Option Addr) (len cap h : Nat) (hh : h ≤ cap) (w : World) :
    (Instr.sliceAt t (.slice a len cap) none (some (.int .i64 (h : Int))) (some (.int .i64 (h : Int)))).run P w = .ok (.slice a h h) w := by
  obtain ⟨i, hi1, hi2⟩ := Option.map_eq_some_iff.1 hi
  simp [Instr.sliceAt, Instr.slice, Instr.sliceBounds, Instr.sliceBound, run_underlying ht, asIntOf, go_sem, hi1, hi2, sizeOf, typeInfo]
  intro h'; omega
theorem run_slice_l (ht : P.underlying t = some (.slice e)) (hi : (P.info? e).map (·.size) = some 1) (a : Option Addr) (len cap l : Nat) (hl : l ≤ len) (w : World) :
    (Instr.sliceAt t (.slice a len cap) (some (.int .i64 (l : Int))) none none).run P w = .ok (.slice (if cap = l then a else a.map (·.add l)) (len - l) (cap - l)) w := by
  obtain ⟨i, hi1, hi2⟩ := Option.map_eq_some_iff.1 hi
  simp [Instr.sliceAt, Instr.slice, Instr.sliceBounds, Instr.sliceBound, run_underlying ht, asIntOf, go_sem, hi1, hi2, sizeOf, typeInfo]
  intro h'; omega
end
/-- A part of bytes that are read. -/
theorem RdB.part {w : World} {a : Option Addr} {len cap : Nat} {bs : List UInt8} (h : RdB w (.slice a len cap) bs) (l k : Nat) (hl : l ≤ k) (hk : k ≤ bs.length) :
    RdB w (.slice (if cap = l then a else a.map (·.add l)) (k - l) (cap - l)) ((bs.take k).drop l) := by
  rcases h with ⟨a', c, hv, hc, rfl⟩ | ⟨b, off, cap', hv, hne, h1, h2, h3, h4⟩
  · cases hv
    simp at hk
    subst hk
    obtain rfl : l = 0 := by omega
    exact .inl ⟨_, _, rfl, by omega, rfl⟩
  · cases hv
    by_cases e : l = k
    · subst e
      exact .inl ⟨_, _, by rw [Nat.sub_self], by omega, by simp⟩
    · have hcl : cap ≠ l := by omega
      have hlen : ((bs.take k).drop l).length = k - l := by simp [hk]
      refine .inr ⟨b, off + l, cap - l, ?_, ?_, by omega, by omega, h3, fun j x hx => ?_⟩
      · rw [if_neg hcl, hlen, Option.map_some, add_at]
      · rw [← List.length_pos_iff]; omega
      · have hj := (List.getElem?_eq_some_iff.1 hx).1
        rw [List.getElem?_drop, List.getElem?_take, if_pos (by omega)] at hx
        rw [Nat.add_assoc]
        exact h4 (l + j) x hx
theorem RdB.pre {w : World} {a : Option Addr} {len cap : Nat} {bs : List UInt8} (h : RdB w (.slice a len cap) bs) (k : Nat) (hk : k ≤ bs.length) :
    RdB w (.slice a k cap) (bs.take k) := by
  have := h.part 0 k (Nat.zero_le _) hk
  simp only [Nat.sub_zero, List.drop_zero] at this
  have e : (if cap = 0 then a else a.map (·.add 0)) = a := by
    split
    · rfl
    · cases a <;> rfl
  rwa [e] at this
/-- A row of bytes that the call owns. -/
theorem rdB_own {w : World} {base g n cap : Nat} {e : TypeId} {bs : List UInt8} (h : w.ownsRow base e 1 (.slice (some ⟨g, 0, none⟩) n cap) n (bs.map u8v)) (hm0 : cap ≤ maxLen) : RdB w (.slice (some ⟨g, 0, none⟩) n cap) bs := by
  by_cases hne : bs = []
  · subst hne
    have hn : n = 0 := by have := h.1; simpa using this.symm
    subst hn
    exact .inl ⟨_, _, rfl, hm0, rfl⟩
  have hn : n = bs.length := by have := h.1; simpa using this.symm
  subst hn
  obtain ⟨h1, h2 | ⟨g', cap', cur, hv, hg, hh, hc, hm, hs, _⟩⟩ := h
  · cases h2.1
  · cases hv
    refine .inr ⟨g, 0, cap, rfl, hne, hc, hm, (Array.getElem?_eq_some_iff.1 hh).1, fun j x hx => ?_⟩
    have := World.ownsRow.cellAt (w := w) (base := base) (e := e) (size := 1) (g := g) (n := bs.length) (cap := cap) (xs := bs.map u8v) ⟨h1, .inr ⟨g, cap, cur, rfl, hg, hh, hc, hm, hs, by assumption⟩⟩ j (by have := (List.getElem?_eq_some_iff.1 hx).1; omega)
    rw [Nat.zero_add, this]; simp [hx]
theorem run_shr {P : Program} (k k2 : IntKind) (x c : Nat) (hc : c ≤ k.bits) (w : World) : (Op.shift .shr k (x : Int) k2 (c : Int)).run P w = .ok (.int k ((x : Int) / 2 ^ c)) w := by
  have h1 : ¬ ((c : Int) < 0) := by omega
  simp only [Op.shift, if_neg h1, Int.toNat_natCast, Nat.min_eq_left hc, Sem.run_pure]
  rw [Int.fdiv_eq_ediv_of_nonneg _ (Int.le_of_lt (Int.pow_pos (by decide)))]
theorem wrap_u8_shr (x c : Nat) : IntKind.u8.wrap ((x : Int) / 2 ^ c) = ((UInt8.ofNat (x / 2 ^ c)).toNat : Int) := by
  rw [IntKind.wrap_u8, UInt8.toNat_ofNat']; simp
theorem wrap_u8_nat (x : Nat) : IntKind.u8.wrap (x : Int) = ((UInt8.ofNat x).toNat : Int) := by
  rw [IntKind.wrap_u8, UInt8.toNat_ofNat']; rfl
/-- The cells of a new block, as an append takes them. -/
theorem news_new (w : World) (cs : List Value) (e : TypeId) (fr : Nat × Nat) : ∀ j u, cs[j]? = some u → (w.alloc (.cells cs.toArray e fr)).cell? ((⟨w.heap.size, 0, none⟩ : Addr).add j) = some u := by
  intro j u h
  rw [add_at, cell_of_row _ _ _ _ _ _ (heap_alloc_new w _)]
  simpa using h
theorem one_u8 (bs : List UInt8) : ∀ u ∈ bs.map u8v, u.oneCell' = true := by
  intro u hu; obtain ⟨x, _, rfl⟩ := List.mem_map.1 hu; rfl
theorem take_snoc {α : Type} {l : List α} {k : Nat} {x : α} (h : l[k]? = some x) : l.take (k + 1) = l.take k ++ [x] := by
  rw [List.take_add_one, h]; rfl
/-- A row that is known whole. -/
theorem rdB_row {w : World} {g : Nat} {bs : List UInt8} {t : TypeId} {fr : Nat × Nat} (h : w.heap[g]? = some (.cells (bs.map u8v).toArray t fr)) {cap : Nat} (hc : bs.length ≤ cap) (hc' : cap ≤ 9223372036854775807) : RdB w (.slice (some ⟨g, 0, none⟩) bs.length cap) bs := by
  by_cases hne : bs = []
  · subst hne; exact .inl ⟨_, _, rfl, hc', rfl⟩
  · refine .inr ⟨g, 0, cap, rfl, hne, hc, hc', (Array.getElem?_eq_some_iff.1 h).1, fun j x hx => ?_⟩
    rw [cell_of_row _ _ _ _ _ _ h]; simp [hx]
theorem below_drewN {B : Nat} {a w : World} (h : Below B a w) : ∀ n, Below B a (w.drewN n) := fun n => ⟨h.os, h.tape, h.output, h.size, h.block⟩
theorem rdB_lt {w : World} {v : Value} {bs : List UInt8} (h : RdB w v bs) (hne : bs ≠ [] := by simp) : ∀ k, v.ownBlock = some k → k < w.heap.size := by
  rcases h with ⟨_, _, _, _, h⟩ | ⟨b, off, cap, h, _, _, _, h4, _⟩
  · exact absurd h hne
  · subst h; intro k hk; cases hk; exact h4
/-- A struct and one value more as results. -/
theorem results_row_tmp {P : Program} {fn : Func} {p u : Tmp} {ty : TypeId} (h : fn.results = #[.cell p ty, .tmp u]) (tmps : Array Value) (w : World) (g : Nat) (t : TypeId) (cs : Array Value) (fr : Nat × Nat) (d : TypeDesc)
    (hp : tmps.getD p undef = .pointer (some ⟨g, 0, none⟩)) (hg : w.heap[g]? = some (.cells cs t fr)) (hu : P.underlying ty = some d) (hd : (match d with | .struct _ | .array _ _ => true | _ => false) = true) (hi : (P.info? ty).map (·.size) = some cs.size) :
    (results fn tmps).run P w = .ok (.tuple #[.agg cs, tmps.getD u undef]) w := by
  have hp' : tmps[p]?.getD undef = .pointer (some ⟨g, 0, none⟩) := by simpa using hp
  simp [results, h, hp', asAddr, run_loadVar_row w g t ty cs fr d hg hu hd hi]
/-- An operation of a drawn region whose guard is false: an arm for go_region_held3. -/
theorem skip_op {o : Oper} {y : Nat → Option Bool} {A E : Prop} (hw : Region.wanted o y = false) (h : E) : if Region.wanted o y = true then A else E := by
  rw [if_neg (by rw [hw]; decide)]; exact h
theorem own_form0 {w : World} {base : Nat} {e : TypeId} {size : Nat} {v : Value} {n : Nat} {xs : List Value} (h : w.ownsRow base e size v n xs) : ∃ a cap, v = .slice a n cap := by
  obtain ⟨h1, ⟨h2, h3⟩ | ⟨g, cap, cur, hv, _⟩⟩ := h
  · exact ⟨none, 0, by rw [h2, h3]⟩
  · exact ⟨_, cap, hv⟩
/-- A new block of bytes. -/
theorem rdB_new (w : World) (bs : List UInt8) (hne : bs ≠ []) (e : TypeId) (fr : Nat × Nat) (cs : Array Value) (n : Nat) (hcs : cs = (bs.map u8v).toArray) (hn : n = bs.length) (c : Nat) (hc : n ≤ c) (hc' : c ≤ 9223372036854775807) :
    RdB (w.alloc (.cells cs e fr)) (.slice (some ⟨w.heap.size, 0, none⟩) n c) bs := by
  subst hcs hn
  refine .inr ⟨w.heap.size, 0, c, rfl, hne, hc, hc', by simp, fun j x hx => ?_⟩
  rw [cell_of_row _ _ _ _ _ _ (heap_alloc_new w _)]
  simp [hx]
/-- From a row's reading (a slice of bytes that came in) to its bytes. -/
theorem rdB_of {w : World} {a : Option Addr} {len cap : Nat} {zs : List Int}
    (h : (a = none ∧ len = 0 ∧ cap = 0 ∧ zs = []) ∨
      ∃ x, a = some x ∧ len ≤ cap ∧ cap ≤ maxLen ∧ zs.length = cap ∧ (∀ i, i < zs.length → w.cell? (x.add i) = some (.int .u8 (zs.getD i 0))) ∧ ∀ n ∈ zs, (Lit.int .u8 n).wf = true) :
    ∃ bs, RdB w (.slice a len cap) bs ∧ bs.length = len := by
  rcases h with ⟨rfl, rfl, rfl, rfl⟩ | ⟨x, rfl, hl, hm, hz, hc, hw⟩
  · exact ⟨[], .inl ⟨none, 0, rfl, by omega, rfl⟩, rfl⟩
  · by_cases h0 : len = 0
    · subst h0
      exact ⟨[], .inl ⟨_, cap, rfl, hm, rfl⟩, rfl⟩
    · refine ⟨(zs.take len).map fun n => UInt8.ofNat n.toNat, ?_, by simp [hz, hl]⟩
      have hlen : ((zs.take len).map fun n => UInt8.ofNat n.toNat).length = len := by simp [hz, hl]
      obtain ⟨b, off, rfl, hc'⟩ := ints_at hc (by omega)
      refine .inr ⟨b, off, cap, by rw [hlen], by rw [← List.length_pos_iff]; omega, by omega, hm, ?_, ?_⟩
      · exact World.block_lt_of_cell? w ⟨b, off + 0, none⟩ (hc' 0 (by omega))
      · intro j y hy
        have hj : j < len := by have := (List.getElem?_eq_some_iff.1 hy).1; omega
        rw [hc' j (by omega)]
        simp only [List.getElem?_map, List.getElem?_take, if_pos hj] at hy
        have hjz : j < zs.length := by omega
        rw [List.getElem?_eq_getElem hjz] at hy
        simp only [Option.map_some, Option.some.injEq] at hy
        subst hy
        have hwf := hw zs[j] (List.getElem_mem _)
        obtain ⟨l, u⟩ := bounds_u8 hwf
        rw [List.getD_eq_getElem?_getD, List.getElem?_eq_getElem hjz]
        show some (Value.int .u8 zs[j]) = some (.int .u8 ((UInt8.ofNat zs[j].toNat).toNat : Int))
        rw [UInt8.toNat_ofNat', Nat.mod_eq_of_lt (by omega)]
        congr 2
        omega
end Go.Proofs.YtjddicoigbidlaaGreatDoor

set_option linter.unusedSimpArgs false
set_option linter.unusedVariables false
namespace Go.Proofs.YtjddicoigbidlaaGreatDoor
open Go.RowKit
/-- A number's eight bytes. -/
def num8 (n : Nat) : List UInt8 := (List.range 8).map fun j => UInt8.ofNat (n / 2 ^ (8 * (7 - j)))
theorem num8_length (n : Nat) : (num8 n).length = 8 := by simp [num8]
theorem num8_get (n j : Nat) (h : j < 8) : (num8 n)[j]? = some (UInt8.ofNat (n / 2 ^ (8 * (7 - j)))) := by simp [num8, h]
theorem infoU8 : (Tryz.prog.info? 5).map (fun i => (i.zero, i.size, i.bytes)) = some (some (.int .u8 0), 1, 1) := by kernel_rfl
/-- A Writer in block b, whose bytes lie in v. -/
structure WrAt (w : World) (b base : Nat) (v : Value) (bs : List UInt8) (bad : Bool) : Prop where
  blk : w.heap[b]? = some (.cells #[v, .bool bad] 70 (0, 0))
  own : w.ownsRow base 5 1 v bs.length (bs.map u8v)
  ne : v.ownBlock ≠ some b
theorem wr_kept {w w2 : World} {b : Nat} {v : Value} {bad : Bool} {o : Obj} (hb : w.heap[b]? = some (.cells #[v, .bool bad] 70 (0, 0))) (hbS : b < w.heap.size) (hg : (w.alloc o).drew.grownBy w2 v.ownBlock) (hne : v.ownBlock ≠ some b) :
    w2.cell? ⟨b, 0, none⟩ = some v ∧ w2.frozen? ⟨b, 0, none⟩ = false ∧ w2.heap[b]? = some (.cells #[v, .bool bad] 70 (0, 0)) := by
  have h : w2.heap[b]? = some (.cells #[v, .bool bad] 70 (0, 0)) := (Keeps.grown hg).heap (k := b) ((Below.heap_alloc w o b hbS).trans hb) hne
  exact ⟨by rw [cell_of_row _ _ _ _ _ _ h]; rfl, by simp [World.frozen?, h], h⟩
theorem wr_step {w wr w2 : World} {b base g cap : Nat} {v v1 : Value} {bs : List UInt8} {x : UInt8} {bad : Bool} {o : Obj} (hW : WrAt wr b base v1 bs bad) (hK : Keeps (fun k => k = b ∨ v.ownBlock = some k) w wr)
    (hat : v1.ownBlock = v.ownBlock ∨ ∃ g, v1.ownBlock = some g ∧ w.heap.size ≤ g) (hbS : b < wr.heap.size) (hg : (wr.alloc o).drew.grownBy w2 v1.ownBlock) (hat2 : v1.ownBlock = some g ∨ g = wr.heap.size + 1)
    (hblk : w2.heap[b]? = some (.cells #[v1, .bool bad] 70 (0, 0))) (hown : w2.ownsRow base 5 1 (.slice (some ⟨g, 0, none⟩) (bs.length + 1) cap) (bs.length + 1) (bs.map u8v ++ [u8v x])) :
    WrAt (w2.setCell ⟨b, 0, none⟩ (.slice (some ⟨g, 0, none⟩) (bs.length + 1) cap)) b base (.slice (some ⟨g, 0, none⟩) (bs.length + 1) cap) (bs ++ [x]) bad ∧
    Keeps (fun k => k = b ∨ v.ownBlock = some k) w (w2.setCell ⟨b, 0, none⟩ (.slice (some ⟨g, 0, none⟩) (bs.length + 1) cap)) ∧
    ((Value.slice (some ⟨g, 0, none⟩) (bs.length + 1) cap).ownBlock = v.ownBlock ∨ ∃ g', (Value.slice (some ⟨g, 0, none⟩) (bs.length + 1) cap).ownBlock = some g' ∧ w.heap.size ≤ g') := by
  have hgb : g ≠ b := by
    rcases hat2 with h | h
    · intro e; subst e; exact hW.ne h
    · omega
  have hsz := hK.size
  refine ⟨⟨heap_setCell_same _ _ 0 _ _ _ hblk, ?_, fun e => hgb (by cases e; rfl)⟩, ?_, ?_⟩
  · have e1 : (bs ++ [x]).length = bs.length + 1 := by simp
    have e2 : (bs ++ [x]).map u8v = bs.map u8v ++ [u8v x] := by simp
    rw [e1, e2]
    exact own_keeps hown (Keeps.setCell (F := fun k => k = b) _ ⟨b, 0, none⟩ _ rfl) (fun k hk e => hgb (by cases hk; exact e))
  · refine (((hK.go (Keeps.alloc (fun _ => False) wr o) (fun _ h => h.elim)).go (Keeps.drew (fun _ => False) _) (fun _ h => h.elim)).go (Keeps.grown hg) ?_).go (Keeps.setCell (F := fun k => k = b) _ ⟨b, 0, none⟩ _ rfl) (fun k h => .inl (.inl h))
    intro k hk
    rcases hat with h | ⟨g', h, h'⟩
    · exact .inl (.inr (h ▸ hk))
    · right; rw [h] at hk; cases hk; exact h'
  · rcases hat2 with h | h
    · rcases hat with h1 | ⟨g', h1, h2⟩
      · exact .inl (by show some g = _; rw [← h1, h])
      · exact .inr ⟨g, rfl, by rw [h] at h1; cases h1; exact h2⟩
    · exact .inr ⟨g, rfl, by omega⟩
/-- Behind a call of a Writer's: its bytes, and what may have turned. -/
def WrDone (w : World) (b base : Nat) (v : Value) (bs : List UInt8) (bad : Bool) (e : Ending) (w' : World) : Prop :=
  ∃ v', e = .returned (.tuple #[]) ∧ WrAt w' b base v' bs bad ∧ Keeps (fun k => k = b ∨ v.ownBlock = some k) w w' ∧ (v'.ownBlock = v.ownBlock ∨ ∃ g, v'.ownBlock = some g ∧ w.heap.size ≤ g)
set_option maxRecDepth 100000 in
set_option maxHeartbeats 400000 in
theorem wNum_bad (b base : Nat) (v : Value) (bs : List UInt8) (bad : Bool) (n : Int) (w : World) (hW : WrAt w b base v bs bad) (hn : n < 0 ∨ 4611686018427387904 < n) :
    Calls Tryz.prog 40 #[.pointer (some ⟨b, 0, none⟩), .int .i64 n] w (WrDone w b base v bs true) := by
  have hb := hW.blk
  have hc1 : w.cell? ⟨b, 1, none⟩ = some (.bool bad) := by rw [cell_of_row _ _ _ _ _ _ hb]; rfl
  have hf1 : w.frozen? ⟨b, 1, none⟩ = false := by simp [World.frozen?, hb]
  rcases hn with hn | hn
  all_goals
    go_enter Tryz.func40, Tryz.ntmps40
    go_wp2
    go_end0
    refine ⟨v, rfl, ⟨heap_setCell_same _ _ 1 _ _ _ hb, ?_, hW.ne⟩, Keeps.setCell _ _ _ (.inl rfl), .inl rfl⟩
    exact own_keeps hW.own (Keeps.setCell (F := fun k => k = b) _ ⟨b, 1, none⟩ _ rfl) (fun k hk e => hW.ne (e ▸ hk))
set_option maxRecDepth 100000 in
set_option maxHeartbeats 400000 in
theorem wNum_good (b base : Nat) (v : Value) (bs : List UInt8) (bad : Bool) (n : Nat) (w : World) (hW : WrAt w b base v bs bad) (hn : n ≤ 4611686018427387904) (hbase : base ≤ w.heap.size) (hlen : bs.length + 8 ≤ 1099511627776) :
    Calls Tryz.prog 40 #[.pointer (some ⟨b, 0, none⟩), .int .i64 n] w (WrDone w b base v (bs ++ num8 n) bad) := by
  obtain ⟨i0, hi, hz0, hz1, hz2⟩ := info_parts infoU8
  go_enter Tryz.func40, Tryz.ntmps40
  go_wp2
  go_loopw [4] (fun i wr => ∃ (j : Nat) (v1 : Value), j ≤ 8 ∧ i = .int .i64 (7 - (j : Int)) ∧ WrAt wr b base v1 (bs ++ (num8 n).take j) bad ∧ Keeps (fun k => k = b ∨ v.ownBlock = some k) w wr ∧ (v1.ownBlock = v.ownBlock ∨ ∃ g, v1.ownBlock = some g ∧ w.heap.size ≤ g)) (fun i _ => (intOf i + 1).toNat)
  case atStart => exact ⟨0, v, by omega, rfl, by simpa using hW, Keeps.refl _ _, .inl rfl⟩
  case round =>
    obtain ⟨j, v1, hj, rfl, hW1, hK, hat⟩ := hrel
    by_cases hlt : j < 8
    · have hlen' : (bs ++ (num8 n).take j).length ≤ bs.length + 8 := by simp [num8_length]; omega
      have htake : bs ++ (num8 n).take (j + 1) = (bs ++ (num8 n).take j) ++ [UInt8.ofNat (n / 2 ^ (8 * (7 - j)))] := by rw [List.append_assoc]; congr 1; exact take_snoc (num8_get n j hlt)
      generalize bs ++ (num8 n).take j = cs at hW1 hlen' htake
      have hb := hW1.blk
      have hc0 : wr.cell? ⟨b, 0, none⟩ = some v1 := by rw [cell_of_row _ _ _ _ _ _ hb]; rfl
      have hf0 : wr.frozen? ⟨b, 0, none⟩ = false := by simp [World.frozen?, hb]
      have hown := hW1.own
      obtain ⟨m, hm⟩ : ∃ m : Nat, 7 - j = m := ⟨_, rfl⟩
      have hmI : (7 : Int) - (j : Int) = (m : Int) := by omega
      rw [hm] at htake
      obtain ⟨s, hs⟩ : ∃ s, 8 * m = s := ⟨_, rfl⟩
      have hw8 : IntKind.i64.wrap (8 * (m : Int)) = (s : Int) := by rw [IntWalk.i64_in _ (by omega)]; omega
      rw [hs] at htake
      have hms : min s 64 = s := by omega
      have hu8 := wrap_u8_shr n s
      generalize UInt8.ofNat (n / 2 ^ s) = x at hu8 htake
      have Htake := Lib.hid htake
      clear htake hs hm
      have h63 : cs.length + 1 ≤ maxLen := by unfold maxLen; omega
      have h47 : (cs.length + 1) * 1 ≤ 140737488355328 := by omega
      have hbs : base ≤ (wr.alloc (.cells [u8v x].toArray 5)).drew.heap.size := by have := hK.size; simp; omega
      have hownA : (wr.alloc (.cells #[u8v x] 5)).drew.ownsRow base 5 1 v1 cs.length (cs.map u8v) := World.ownsRow.alloc hown _
      have Hsz : Hid ((wr.alloc (.cells #[u8v x] 5)).drew.heap.size = wr.heap.size + 1) := by show _ = _; simp
      have hbS := (Array.getElem?_eq_some_iff.1 hb).1
      have hne1 := hW1.ne
      have hnewsA := Lib.hid (news_new wr [u8v x] 5 (0, 0))
      rw [hmI]
      go_wp2
      go_region_law (go_must (refine step_append_lies (wr.alloc (.cells #[u8v x] 5)).drew rfl (.tmp 24) (.tmp 30) 23 rfl base 5 i0 (.int .u8 0) 1 1 Tryz.underlying23 hi hz0 hz1 hz2 rfl (by decide) v1 cs.length (cs.map u8v) (by rfl) hownA ⟨wr.heap.size, 0, none⟩ 1 1 [u8v x] (by rfl) rfl hnewsA.out (one_u8 [x]) (by decide) h63 h47 hbs (wr.heap.size + 1) Hsz.out ?_); rintro g cap w2 hown2 hg2 hat2 hlt2; have hblk2 := wr_kept hb hbS hg2 hne1; have hc2 := hblk2.1; have hf2 := hblk2.2.1)
      all_goals
        have hst := wr_step hW1 hK hat hbS hg2 hat2 hblk2.2.2 hown2
        rw [← Htake.out] at hst
        go_wp2
        go_roundw
        case rel => exact ⟨j + 1, _, by omega, by congr 1; omega, hst⟩
        case measure => simp [intOf] <;> omega
    · have hj8 : j = 8 := by omega
      subst hj8
      rw [List.take_of_length_le (by rw [num8_length]; omega)] at hW1
      go_wp2
      go_end0
      exact ⟨v1, rfl, hW1, hK, hat⟩

/-- What slices.Clone of bytes answers: a row of its own. -/
def CloneDone (w : World) (bs : List UInt8) (e : Ending) (w' : World) : Prop :=
  ∃ v', e = .returned v' ∧ w'.ownsRow w.heap.size 5 1 v' bs.length (bs.map u8v) ∧ Below w.heap.size w w'
set_option maxRecDepth 100000 in
set_option maxHeartbeats 400000 in
theorem clone_calls (v : Value) (bs : List UInt8) (w : World) (hv : RdB w v bs) (hlen : bs.length ≤ 140737488355328) :
    Calls Tryz.prog 67 #[v] w (CloneDone w bs) := by
  obtain ⟨i0, hi, hz0, hz1, hz2⟩ := info_parts infoU8
  obtain ⟨a, cap, rfl, hl, hc⟩ := hv.form
  cases a with
  | none =>
    have hbs : bs = [] := by
      rcases hv with ⟨_, _, _, _, h⟩ | ⟨b, off, cap', h, _⟩
      · exact h
      · cases h
    subst hbs
    have hnil := fun w => Lib.run_eql_slice_nil (P := Tryz.prog) w 23 5 none 0 cap 0 0 Tryz.underlying23
    go_enter Tryz.func67, Tryz.ntmps67
    go_wp2
    go_ret
    exact ⟨_, rfl, World.ownsRow_nil _ _ _ _, Below.refl _ _⟩
  | some ad =>
    have hnil := fun w => Lib.run_eql_slice_nil (P := Tryz.prog) w 23 5 (some ad) bs.length cap 0 0 Tryz.underlying23
    have hown0 : (w.alloc (.cells #[] 5)).ownsRow w.heap.size 5 1 (.slice (some ⟨w.heap.size, 0, none⟩) 0 0) 0 [] := World.ownsRow_lit w #[] 0 (Nat.le_refl _) (by decide) rfl
    have hnews : ∀ j u, (bs.map u8v)[j]? = some u → (w.alloc (.cells #[] 5)).cell? (ad.add j) = some u := by
      rcases hv with ⟨_, _, _, _, h⟩ | ⟨b, off, cap', h, _, _, _, hbw, hcell⟩
      · subst h; intro j u h; cases h
      · cases h
        intro j u hu
        rw [List.getElem?_map] at hu
        obtain ⟨x, hx, rfl⟩ := Option.map_eq_some_iff.1 hu
        rw [add_at]
        exact (Below.cell (B := w.heap.size) ((Below.refl _ _).alloc (Nat.le_refl _) _) (p := ⟨b, off + j, none⟩) hbw).trans (hcell j x hx)
    have hnewsL : (bs.map u8v).length = bs.length * 1 := by simp
    have h63 : 0 + bs.length ≤ maxLen := by unfold maxLen; omega
    have h47 : (0 + bs.length) * 1 ≤ 140737488355328 := by omega
    have hbs : w.heap.size ≤ (w.alloc (.cells #[] 5)).heap.size := by simp
    go_enter Tryz.func67, Tryz.ntmps67
    go_wp2_with (at_builtin; go_must (refine wpList_append_own _ rfl (.tmp 5) (.tmp 6) 23 rfl w.heap.size 5 i0 (.int .u8 0) 1 1 Tryz.underlying23 hi hz0 hz1 hz2 rfl (by decide) _ _ _ rfl hown0 ad bs.length cap (bs.map u8v) rfl hnewsL hnews (one_u8 bs) h63 h47 hbs ?_); rintro v1 w1 hown1 hg1 _)
    have hbel : Below w.heap.size w w1 := ((Below.refl _ _).alloc (Nat.le_refl _) _).grown hg1 (by simp) (fun k hk => by cases hk; exact Nat.le_refl _)
    go_ret
    exact ⟨_, rfl, by simpa using hown1, hbel⟩

/-- What Out answers of a Writer that is not bad. -/
def OutDone (w : World) (bs : List UInt8) (e : Ending) (w' : World) : Prop :=
  ∃ v', e = .returned (.tuple #[v', .bool true]) ∧ w'.ownsRow w.heap.size 5 1 v' bs.length (bs.map u8v) ∧ Below w.heap.size w w'
theorem rdB_ofOwn {w : World} {base : Nat} {v : Value} {n : Nat} {bs : List UInt8} (h : w.ownsRow base 5 1 v n (bs.map u8v)) : RdB w v bs := by
  have hn : n = bs.length := by have := h.1; simpa using this.symm
  obtain ⟨h1, ⟨h2, h3⟩ | ⟨g, cap, cur, hv, hg, hh, hc, hm, hs, ht⟩⟩ := h
  · subst h2
    have : bs = [] := by rw [← List.length_eq_zero_iff]; omega
    exact .inl ⟨none, 0, rfl, by omega, this⟩
  · subst hv
    exact rdB_own ⟨h1, .inr ⟨g, cap, cur, rfl, hg, hh, hc, hm, hs, ht⟩⟩ hm
set_option maxRecDepth 100000 in
set_option maxHeartbeats 400000 in
theorem wOut_calls (b base : Nat) (v : Value) (bs : List UInt8) (w : World) (hW : WrAt w b base v bs false) (hlen : bs.length ≤ 140737488355328) :
    Calls Tryz.prog 42 #[.pointer (some ⟨b, 0, none⟩)] w (OutDone w bs) := by
  have hb := hW.blk
  have hc0 : w.cell? ⟨b, 0, none⟩ = some v := by rw [cell_of_row _ _ _ _ _ _ hb]; rfl
  have hc1 : w.cell? ⟨b, 1, none⟩ = some (.bool false) := by rw [cell_of_row _ _ _ _ _ _ hb]; rfl
  have hr := rdB_ofOwn hW.own
  go_enter Tryz.func42, Tryz.ntmps42
  go_wp2_with fail
  refine (clone_calls _ _ _ hr hlen).mono ?_; rintro e w1 ⟨v', rfl, hown, hbel⟩
  go_wp2
  go_ret2
  exact ⟨v', rfl, hown, hbel⟩
set_option maxRecDepth 100000 in
set_option maxHeartbeats 400000 in
theorem wOut_bad (b base : Nat) (v : Value) (bs : List UInt8) (w : World) (hW : WrAt w b base v bs true) :
    Calls Tryz.prog 42 #[.pointer (some ⟨b, 0, none⟩)] w fun e w' => e = .returned (.tuple #[.slice none 0 0, .bool false]) ∧ w = w' := by
  have hb := hW.blk
  have hc1 : w.cell? ⟨b, 1, none⟩ = some (.bool true) := by rw [cell_of_row _ _ _ _ _ _ hb]; rfl
  go_enter Tryz.func42, Tryz.ntmps42
  go_wp2
  go_ret2
  exact ⟨rfl, rfl⟩
end Go.Proofs.YtjddicoigbidlaaGreatDoor

set_option linter.unusedSimpArgs false
set_option linter.unusedVariables false
namespace Go.Proofs.YtjddicoigbidlaaGreatDoor
open Go.RowKit
/-- copy into a row that is known whole: that block alone turns. -/
theorem wpList_copy_keep {P : Program} {w : World} {ops : Array Oper} {rest : List Oper} {o : Oper} {a : Act} {Q : Exit → Act → World → Prop} (hgd : o.guard = none) (d s : Operand) (dT sT : TypeId)
    (ho : o.op = .call { callee := .builtin .copy, args := #[d, s], argTypes := #[dT, sT] }) (elem : TypeId) (hu : P.underlying dT = some (.slice elem)) (hsz : (P.info? elem).map (·.size) = some 1)
    (dp sp : Option Addr) (dLen dCap sLen sCap : Nat) (hd : a.eval d = .slice dp dLen dCap) (hs : a.eval s = .slice sp sLen sCap)
    (g off : Nat) (cur : List Value) (t : TypeId) (hg : w.heap[g]? = some (.cells cur.toArray t (0, 0))) (cs : List Value) (hn : cs.length = Nat.min sLen dLen)
    (hpos : 0 < cs.length → dp = some ⟨g, off, none⟩ ∧ ∃ ad, sp = some ad ∧ ∀ j v, cs[j]? = some v → w.cell? (ad.add j) = some v)
    (hfit : off + cs.length ≤ cur.length) (h1 : ∀ v ∈ cs, v.oneCell' = true)
    (h : ∀ w', Hid (w'.heap[g]? = some (.cells (splice cur off cs).toArray t (0, 0))) → Keeps (fun k => k = g) w w' → wpList P ops Q rest (a.put o.dst (goInt cs.length)) w') :
    wpList P ops Q (o :: rest) a w := by
  by_cases h0 : cs.length = 0
  · obtain rfl : cs = [] := List.eq_nil_of_length_eq_zero h0
    refine wpList_copy_nothing hgd d s dT sT ho elem hu hsz dp sp dLen dCap sLen sCap hd hs (by simpa using hn.symm) ?_
    exact h w (show _ = _ by simpa [splice] using hg) (Keeps.refl _ _)
  · obtain ⟨rfl, ad, rfl, hsrc⟩ := hpos (by omega)
    refine wpList_copy_own hgd d s dT sT ho elem hu hsz g off dLen dCap ad sLen sCap hd hs cur.toArray t hg cs hn hsrc (by simpa using hfit) h1 ?_
    exact h _ (show _ = _ by simpa [splice] using setRow_heap w g _ _ t _ hg) ⟨rfl, rfl, rfl, by simp, fun k _ hk => heap_setRow_other _ _ _ _ hk⟩
/-- A Reader in block b, which has the bytes bs left, in v. -/
structure RdAt (w : World) (b : Nat) (v : Value) (bs : List UInt8) (bad : Bool) : Prop where
  blk : w.heap[b]? = some (.cells #[v, .bool bad] 104 (0, 0))
  rd : RdB w v bs
  ne : v.ownBlock ≠ some b
/-- A new Reader. -/
def ReadDone (w : World) (bs : List UInt8) (e : Ending) (w' : World) : Prop :=
  ∃ v b, e = .returned (.pointer (some ⟨b, 0, none⟩)) ∧ RdAt w' b v bs false ∧ Below w.heap.size w w' ∧ w.heap.size ≤ b ∧ (∀ k, v.ownBlock = some k → w.heap.size ≤ k ∧ k < w'.heap.size)
set_option maxRecDepth 100000 in
set_option maxHeartbeats 400000 in
theorem wRead_calls (v : Value) (bs : List UInt8) (w : World) (hv : RdB w v bs) (hlen : bs.length ≤ 140737488355328) :
    Calls Tryz.prog 51 #[v] w (ReadDone w bs) := by
  obtain ⟨i0, hi, hz0, hz1, hz2⟩ := info_parts infoU8
  obtain ⟨a, cap, rfl, hl, hc⟩ := hv.form
  have hmk := run_make (P := Tryz.prog) w 23 5 i0 (.int .u8 0) Tryz.underlying23 hi hz0 .i64 .i64 bs.length bs.length (by omega) (by omega) (by rw [hz2]; omega) (by omega)
  rw [hz1, Nat.mul_one, Int.toNat_natCast] at hmk
  have hmade : madeCells (Value.int .u8 0).cells bs.length = (List.replicate bs.length (Value.int .u8 0)).toArray := by
    apply Array.ext'; rw [show (Value.int .u8 0).cells = #[Value.int .u8 0] from rfl, toList_madeCells_one]
  rw [hmade] at hmk
  have hcnt : (bs.map u8v).length = Nat.min bs.length bs.length := by simp
  have hsz1 : (Tryz.prog.info? 5).map (·.size) = some 1 := by kernel_rfl
  obtain ⟨zs, hzs⟩ : ∃ zs, zs = List.replicate bs.length (Value.int .u8 0) := ⟨_, rfl⟩
  rw [← hzs] at hmk
  have hzl : zs.length = bs.length := by rw [hzs]; simp
  have hsp : splice zs 0 (bs.map u8v) = bs.map u8v := by simp [splice, hzl, List.drop_of_length_le]
  obtain ⟨W, hW⟩ : ∃ W, W = (w.alloc (.cells zs.toArray 5)).alloc (.cells #[.slice (some ⟨w.heap.size, 0, none⟩) bs.length bs.length, .bool false] 104) := ⟨_, rfl⟩
  have hB : Below w.heap.size w W := by rw [hW]; exact ((Below.refl _ _).alloc (Nat.le_refl _) _).alloc (by simp) _
  have hg : W.heap[w.heap.size]? = some (.cells zs.toArray 5 (0, 0)) := by rw [hW]; exact heap_alloc2_old _ _ _
  have hgb : W.heap[w.heap.size + 1]? = some (.cells #[.slice (some ⟨w.heap.size, 0, none⟩) bs.length bs.length, .bool false] 104 (0, 0)) := by rw [hW]; exact heap_alloc2_new _ _ _
  have hpos : 0 < (bs.map u8v).length → (some (⟨w.heap.size, 0, none⟩ : Addr)) = some ⟨w.heap.size, 0, none⟩ ∧ ∃ ad, a = some ad ∧ ∀ j u, (bs.map u8v)[j]? = some u → W.cell? (ad.add j) = some u := by
    intro h0
    refine ⟨rfl, ?_⟩
    rcases hv with ⟨_, _, h1, _, h2⟩ | ⟨b, off, cap', h1, _, _, _, h4, h5⟩
    · subst h2; simp at h0
    · cases h1
      refine ⟨_, rfl, fun j u hu => ?_⟩
      rw [List.getElem?_map] at hu
      obtain ⟨x, hx, rfl⟩ := Option.map_eq_some_iff.1 hu
      rw [add_at]
      exact (hB.cell (p := ⟨b, off + j, none⟩) h4).trans (h5 j x hx)
  have hfit : 0 + (bs.map u8v).length ≤ zs.length := by simp [hzl]
  have Hsp := Lib.hid hsp
  clear hsp hzs hmade
  subst hW
  go_enter Tryz.func51, Tryz.ntmps51
  go_wp2_with (with_reducible refine wpList_copy_keep rfl (.tmp 12) (.tmp 13) 23 23 rfl 5 Tryz.underlying23 hsz1 (some ⟨w.heap.size, 0, none⟩) a bs.length bs.length bs.length cap rfl rfl w.heap.size 0 zs 5 hg (bs.map u8v) hcnt hpos hfit (one_u8 bs) ?_)
  intro w2 hrow hK
  have hrow := hrow.out
  rw [Hsp.out] at hrow
  have hblk := hK.heap hgb (by omega)
  have hb2 : Below w.heap.size w w2 := hB.trans (hK.below (fun i hi => by omega) hB.size)
  have hsz2 := (Array.getElem?_eq_some_iff.1 hblk).1
  go_wp2
  go_ret
  refine ⟨.slice (some ⟨w.heap.size, 0, none⟩) bs.length bs.length, w.heap.size + 1, rfl, ⟨hblk, ?_, by simp [Value.ownBlock]⟩, hb2, by omega, fun k hk => by cases hk; exact ⟨Nat.le_refl _, by show w.heap.size < _; omega⟩⟩
  exact rdB_row hrow (by omega) (by omega)

def TakeDone (w : World) (b : Nat) (v : Value) (bs : List UInt8) (n : Nat) (e : Ending) (w' : World) : Prop :=
  ∃ v1 v2, e = .returned (.tuple #[v1, .bool true]) ∧ RdB w' v1 (bs.take n) ∧ RdAt w' b v2 (bs.drop n) false ∧ Keeps (fun k => k = b) w w' ∧ v1.ownBlock = v.ownBlock ∧ v2.ownBlock = v.ownBlock
theorem RdAt.cells {w : World} {b : Nat} {v : Value} {bs : List UInt8} {bad : Bool} (h : RdAt w b v bs bad) :
    w.cell? ⟨b, 0, none⟩ = some v ∧ w.cell? ⟨b, 1, none⟩ = some (.bool bad) ∧ w.frozen? ⟨b, 0, none⟩ = false ∧ w.frozen? ⟨b, 1, none⟩ = false := by
  have hb := h.blk
  refine ⟨by rw [cell_of_row _ _ _ _ _ _ hb]; rfl, by rw [cell_of_row _ _ _ _ _ _ hb]; rfl, by simp [World.frozen?, hb], by simp [World.frozen?, hb]⟩
theorem u8size : (Tryz.prog.info? 5).map (·.size) = some 1 := by kernel_rfl
theorem ownBlock_part (a : Option Addr) (c l n m n' m' : Nat) : (Value.slice (if c = l then a else a.map (·.add l)) n m).ownBlock = (Value.slice a n' m').ownBlock := by
  cases a with
  | none => split <;> rfl
  | some a => split <;> simp [Value.ownBlock, Addr.add] <;> split <;> rfl
theorem nilCap {w : World} {cap : Nat} {bs : List UInt8} (h : RdB w (.slice none bs.length cap) bs) : bs = [] := by
  rcases h with ⟨_, _, _, _, h⟩ | ⟨_, _, _, h, _⟩
  · exact h
  · cases h
set_option maxRecDepth 100000 in
set_option maxHeartbeats 400000 in
theorem rTake_good (b : Nat) (v : Value) (bs : List UInt8) (n : Nat) (w : World) (hR : RdAt w b v bs false) (hn : n ≤ bs.length) :
    Calls Tryz.prog 75 #[.pointer (some ⟨b, 0, none⟩), .int .i64 n] w (TakeDone w b v bs n) := by
  obtain ⟨hc0, hc1, hf0, hf1⟩ := hR.cells
  obtain ⟨a, cap, hv, hl, hc⟩ := hR.rd.form
  have hr := hR.rd
  have hblk := hR.blk
  have hne := hR.ne
  subst hv
  have hs1 := run_slice_hm (P := Tryz.prog) Tryz.underlying23 u8size a bs.length cap n (by omega)
  have hs2 := run_slice_l (P := Tryz.prog) Tryz.underlying23 u8size a bs.length cap n hn
  have hp1 := hr.part 0 n (Nat.zero_le _) hn
  have hp2 := hr.part n bs.length hn (Nat.le_refl _)
  have ho := ownBlock_part a cap n (bs.length - n) (cap - n) bs.length cap
  rw [List.take_of_length_le (Nat.le_refl _)] at hp2
  generalize (if cap = n then a else a.map (·.add n)) = a2 at hs2 hp2 ho
  have hpre : RdB w (.slice a n n) (bs.take n) := by
    rcases hr with ⟨a', c', h1, h2, h3⟩ | ⟨b', off, cap', h1, h2, h3, h4, h5, h6⟩
    · subst h3; cases h1; simp at hn; subst hn; exact .inl ⟨_, _, rfl, by omega, by simp⟩
    · cases h1
      by_cases e : n = 0
      · subst e; exact .inl ⟨_, _, rfl, by omega, by simp⟩
      · refine .inr ⟨b', off, n, ?_, ?_, ?_, by omega, h5, fun j x hx => ?_⟩
        · rw [List.length_take, Nat.min_eq_left hn]
        · rw [← List.length_pos_iff, List.length_take]; omega
        · rw [List.length_take]; omega
        · rw [List.getElem?_take] at hx
          split at hx
          · exact h6 j x hx
          · cases hx
  clear hp1 hr
  go_enter Tryz.func75, Tryz.ntmps75
  go_wp2
  go_ret2
  have hK := Keeps.setCell (F := fun k => k = b) w ⟨b, 0, none⟩ (.slice a2 (bs.length - n) (cap - n)) rfl
  have hnb : ∀ k, (Value.slice a bs.length cap).ownBlock = some k → ¬ (k = b) := fun k hk e => hne (e ▸ hk)
  refine ⟨.slice a n n, .slice a2 (bs.length - n) (cap - n), rfl, hpre.keeps hK (fun k hk => hnb k (by cases a <;> first | exact hk | cases hk)), ⟨heap_setCell_same _ _ 0 _ _ _ hblk, hp2.keeps hK (fun k hk => hnb k (by rw [← ho]; exact hk)), by rw [ho]; exact hne⟩, hK, by cases a <;> rfl, ho⟩

def TakeBad (w : World) (b : Nat) (v : Value) (bs : List UInt8) (e : Ending) (w' : World) : Prop :=
  e = .returned (.tuple #[.slice none 0 0, .bool false]) ∧ RdAt w' b v bs true ∧ Keeps (fun k => k = b) w w'
set_option maxRecDepth 100000 in
set_option maxHeartbeats 400000 in
theorem rTake_bad (b : Nat) (v : Value) (bs : List UInt8) (bad : Bool) (n : Nat) (w : World) (hR : RdAt w b v bs bad) (hn : bad = true ∨ bs.length < n) :
    Calls Tryz.prog 75 #[.pointer (some ⟨b, 0, none⟩), .int .i64 n] w (TakeBad w b v bs) := by
  obtain ⟨hc0, hc1, hf0, hf1⟩ := hR.cells
  obtain ⟨a, cap, hv, hl, hc⟩ := hR.rd.form
  have hr := hR.rd
  have hblk := hR.blk
  have hne := hR.ne
  subst hv
  cases bad
  all_goals
    first
    | (have hlt : bs.length < n := by rcases hn with h | h; cases h; exact h)
    | skip
    clear hn
    go_enter Tryz.func75, Tryz.ntmps75
    go_wp2
    go_ret2
    have hK := Keeps.setCell (F := fun k => k = b) w ⟨b, 1, none⟩ (.bool true) rfl
    exact ⟨rfl, ⟨heap_setCell_same _ _ 1 _ _ _ hblk, hr.keeps hK (fun k hk e => hne (e ▸ hk)), hne⟩, hK⟩
/-- The number that bytes are. -/
def beNat (l : List UInt8) : Nat := l.foldl (fun n x => n * 256 + x.toNat) 0
theorem beNat_snoc (l : List UInt8) (x : UInt8) : beNat (l ++ [x]) = beNat l * 256 + x.toNat := by simp [beNat]
theorem beNat_fold (l : List UInt8) : ∀ n : Nat, l.foldl (fun n x => n * 256 + x.toNat) n + 1 ≤ (n + 1) * 256 ^ l.length := by
  induction l with
  | nil => intro n; simp
  | cons x l ih =>
    intro n
    have := x.toNat_lt
    have h := ih (n * 256 + x.toNat)
    rw [List.foldl_cons, List.length_cons, Nat.pow_succ]
    refine Nat.le_trans h ?_
    rw [Nat.mul_comm (256 ^ l.length) 256, ← Nat.mul_assoc]
    exact Nat.mul_le_mul_right _ (by omega)
theorem beNat_lt (l : List UInt8) : beNat l < 256 ^ l.length := by
  have := beNat_fold l 0
  unfold beNat
  omega
/-- What Num reads: the number, whether there is one, what is left, whether it is bad then. -/
def rdNum (bs : List UInt8) (bad : Bool) : (Nat × Bool) × (List UInt8 × Bool) :=
  if bad = true ∨ bs.length < 8 then ((0, false), (bs, true))
  else if 4611686018427387904 < beNat (bs.take 8) then ((0, false), (bs.drop 8, true))
  else ((beNat (bs.take 8), true), (bs.drop 8, false))
def NumDone (w : World) (b : Nat) (v : Value) (r : (Nat × Bool) × (List UInt8 × Bool)) (e : Ending) (w' : World) : Prop :=
  ∃ v', e = .returned (.tuple #[.int .i64 (r.1.1 : Int), .bool r.1.2]) ∧ RdAt w' b v' r.2.1 r.2.2 ∧ Keeps (fun k => k = b) w w' ∧ v'.ownBlock = v.ownBlock
theorem or_byte (n : Nat) (x : UInt8) (hn : n * 256 < 18446744073709551616) : bits .or .u64 ((n : Int) * 256) (x.toNat : Int) = ((n * 256 + x.toNat : Nat) : Int) := by
  have hx := x.toNat_lt
  rw [bits_join .u64 64 (by decide) (fun m h0 h1 => IntWalk.u64_in m (by omega)) 8 _ _ (by omega) (by omega) (by omega) (by omega) (by omega) (by omega)]
  omega
set_option maxRecDepth 100000 in
set_option maxHeartbeats 400000 in
theorem rNum_calls (b : Nat) (v : Value) (bs : List UInt8) (bad : Bool) (w : World) (hR : RdAt w b v bs bad) :
    Calls Tryz.prog 74 #[.pointer (some ⟨b, 0, none⟩)] w (NumDone w b v (rdNum bs bad)) := by
  by_cases hbad : bad = true ∨ bs.length < 8
  · have hm : rdNum bs bad = ((0, false), (bs, true)) := by rw [rdNum, if_pos hbad]
    rw [hm]
    go_enter Tryz.func74, Tryz.ntmps74
    go_wp2_with fail
    refine (rTake_bad b v bs bad 8 w hR hbad).mono ?_; rintro e w1 ⟨rfl, hR1, hK⟩
    go_wp2
    go_ret2
    exact ⟨v, rfl, hR1, hK, rfl⟩
  · have hb : bad = false := by cases bad <;> simp_all
    subst hb
    have hl : 8 ≤ bs.length := by simp at hbad; omega
    obtain ⟨q, hq⟩ : ∃ q, bs.take 8 = q := ⟨_, rfl⟩
    have hql : q.length = 8 := by rw [← hq]; simp; omega
    have hm : rdNum bs false = if 4611686018427387904 < beNat q then ((0, false), (bs.drop 8, true)) else ((beNat q, true), (bs.drop 8, false)) := by rw [rdNum, if_neg hbad, hq]
    have Hm := Lib.hid hm
    clear hm hbad
    go_enter Tryz.func74, Tryz.ntmps74
    go_wp2_with fail
    refine (rTake_good b v bs 8 w hR hl).mono ?_; rintro e w1 ⟨v1, v2, rfl, hr1, hR2, hK, ho1, ho2⟩
    rw [hq] at hr1
    rcases hr1 with ⟨_, _, _, _, h⟩ | ⟨gb, off, cap, rfl, hne, hlc, hcap, hbw, hcell⟩
    · rw [h] at hql; cases hql
    rw [hql]
    clear hq
    go_wp2
    go_loop [6, 18] (fun n i => ∃ j : Nat, j ≤ 8 ∧ i = .int .i64 j ∧ n = .int .u64 (beNat (q.take j) : Int)) (fun _ i => 8 - (intOf i).toNat)
    case atStart => exact ⟨0, by omega, rfl, rfl⟩
    case round =>
      obtain ⟨j, hj, rfl, rfl⟩ := hrel
      by_cases hlt : j < 8
      · obtain ⟨x, hx⟩ : ∃ x, q[j]? = some x := ⟨q[j], List.getElem?_eq_getElem (by omega)⟩
        have hc := hcell j x hx
        have hsn := beNat_snoc (q.take j) x
        rw [← take_snoc hx] at hsn
        have hbl := beNat_lt (q.take j)
        rw [List.length_take, Nat.min_eq_left (by omega)] at hbl
        have hp : 256 ^ j ≤ 256 ^ 7 := Nat.pow_le_pow_right (by omega) (by omega)
        generalize beNat (q.take j) = m at hsn hbl
        have hm7 : m * 256 < 18446744073709551616 := by omega
        have hor := or_byte m x hm7
        have hx8 := x.toNat_lt
        generalize m * 256 + x.toNat = m2 at hsn hor
        have Hsn := Lib.hid hsn
        clear hsn hx hcell hp hbl
        go_wp2
        go_round
        case rel => exact ⟨j + 1, by omega, by go_num, by rw [Hsn.out]⟩
        case measure => simp [intOf] <;> omega
      · have hj8 : j = 8 := by omega
        subst hj8
        rw [List.take_of_length_le (by omega)]
        obtain ⟨hc0, hc1, hf0, hf1⟩ := hR2.cells
        have hblk := hR2.blk
        have hbl := beNat_lt q
        rw [hql] at hbl
        clear hcell
        by_cases hbig : 4611686018427387904 < beNat q
        · have hm := Hm.out
          rw [if_pos hbig] at hm
          have Hm2 := Lib.hid hm
          clear hm
          generalize beNat q = m at hbig hbl
          go_wp2
          go_ret2
          have hK2 := Keeps.setCell (F := fun k => k = b) w1 ⟨b, 1, none⟩ (.bool true) rfl
          refine ⟨v2, by rw [Hm2.out]; rfl, ?_, hK.trans hK2, ho2⟩
          rw [Hm2.out]
          exact ⟨heap_setCell_same _ _ 1 _ _ _ hblk, hR2.rd.keeps hK2 (fun k hk e => hR2.ne (e ▸ hk)), hR2.ne⟩
        · have hm := Hm.out
          rw [if_neg hbig] at hm
          have Hm2 := Lib.hid hm
          clear hm
          generalize beNat q = m at hbig hbl Hm2
          go_wp2
          go_ret2
          exact ⟨v2, by rw [Hm2.out]; rfl, by rw [Hm2.out]; exact hR2, hK, ho2⟩
end Go.Proofs.YtjddicoigbidlaaGreatDoor

set_option linter.unusedSimpArgs false
set_option linter.unusedVariables false
namespace Go.Proofs.YtjddicoigbidlaaGreatDoor
open Go.RowKit
theorem encode_high (r : Int) (h : 128 ≤ r) : ∃ (x : UInt8), 128 ≤ x.toNat ∧ ((∃ a, Utf8.encode r = ⟨#[a, x]⟩) ∨ (∃ a b, Utf8.encode r = ⟨#[a, b, x]⟩) ∨ ∃ a b c, Utf8.encode r = ⟨#[a, b, c, x]⟩) := by
  have key : ∀ m : Nat, 128 ≤ (UInt8.ofNat (128 + m % 64)).toNat := by
    intro m
    rw [UInt8.toNat_ofNat', Nat.mod_eq_of_lt (by omega)]; omega
  unfold Utf8.encode
  obtain ⟨c, hc⟩ : ∃ c, (if Utf8.valid r then r.toNat else Utf8.runeError) = c := ⟨_, rfl⟩
  have hcl : 128 ≤ c := by
    rw [← hc]; split
    · omega
    · decide
  refine ⟨UInt8.ofNat (128 + c % 64), key c, ?_⟩
  simp only [hc]
  rw [if_neg (by omega)]
  split
  · exact .inl ⟨_, rfl⟩
  · split
    · exact .inr (.inl ⟨_, _, rfl⟩)
    · exact .inr (.inr ⟨_, _, _, rfl⟩)
theorem run_rune_str (r : Int) (w : World) : (convert 21 9 (.int .i32 r)).run Tryz.prog w = .ok (.string (Utf8.encode r)) w := by
  simp [convert, run_underlying Tryz.underlying21, run_underlying Tryz.underlying9, Conv.intToString, go_sem]
theorem indexByte_high (l : List UInt8) (x : UInt8) (hl : ∀ b ∈ l, b.toNat < 128) (hx : 128 ≤ x.toNat) : Lib.indexByte l x < 0 := by
  have : Lib.indexByte l x = -1 := by
    induction l with
    | nil => rfl
    | cons b l ih =>
      have hb := hl b List.mem_cons_self
      have hne : ¬ (b = x) := fun h => by rw [h] at hb; omega
      have hi := ih (fun c hc => hl c (List.mem_cons_of_mem _ hc))
      simp [Lib.indexByte, hne, hi]
  omega
set_option maxRecDepth 100000 in
set_option maxHeartbeats 4000000 in
theorem indexRune_high (s : ByteArray) (r : Int) (w : World) (hr : 128 ≤ r) (hr2 : r ≤ 2147483647) (hv : Lib.validRune r = true) (hne : r ≠ 65533) (hs : s = ⟨#[45]⟩ ∨ s = ⟨#[46, 95, 43, 45]⟩) :
    Calls Tryz.prog 128 #[.string s, .int .i32 r] w fun e w' => e = .returned (.int .i64 (-1)) ∧ Below w.heap.size w w' := by
  have hcv := run_rune_str r
  obtain ⟨x, hx, henc⟩ := encode_high r hr
  generalize Utf8.encode r = rs at hcv henc
  have hval := fun W => Tryz.utf8_ValidRune r W
  rw [hv] at hval
  have Hval := Lib.hid hval
  clear hval hv
  rcases hs with rfl | rfl
  · rcases henc with ⟨a, rfl⟩ | ⟨a, b, rfl⟩ | ⟨a, b, c, rfl⟩
    all_goals
      go_enter Tryz.func128, Tryz.ntmps128
      go_wp2_with fail
      refine (Hval.out _).mono ?_; rintro e w2 ⟨rfl, rfl⟩
      go_wp2
      go_step3
      go_wp2
      go_loop [9, 10] (fun i n => ∃ k : Nat, 1 ≤ k ∧ i = .int .i64 k ∧ n = .int .i64 0) (fun _ _ => 0)
      case atStart => exact ⟨_, by decide, rfl, rfl⟩
      case round =>
        obtain ⟨k, hk, rfl, rfl⟩ := hrel
        have hk1 : (1 : Int) ≤ (k : Int) := by omega
        go_wp2_with fail
        go_ret
        exact ⟨rfl, Below.refl _ _⟩
  · rcases henc with ⟨a, rfl⟩ | ⟨a, b, rfl⟩ | ⟨a, b, c, rfl⟩
    · go_enter Tryz.func128, Tryz.ntmps128
      go_wp2_with fail
      refine (Hval.out _).mono ?_; rintro e w2 ⟨rfl, rfl⟩
      go_wp2
      go_step3
      go_wp2
      go_loopw [9, 10] (fun i n wr => i = .int .i64 1 ∧ n = .int .i64 0 ∧ wr = w2) (fun _ _ _ => 0)
      case atStart => exact ⟨rfl, rfl, rfl⟩
      case round =>
        obtain ⟨rfl, rfl, rfl⟩ := hrel
        go_wp2
        go_step3
        have hi1 : ({ data := #[46, 95, 43, 45] } : ByteArray)[1]? = some 95 := rfl
        have hi2 : ({ data := #[a, x] } : ByteArray)[1]? = some x := rfl
        have hA : ((↑(({ data := #[46, 95, 43, 45] } : ByteArray)[1]'(show 1 < 4 by decide)).toNat : Int) != (↑(({ data := #[a, x] } : ByteArray)[1]'(show 1 < 2 by decide)).toNat : Int)) = true := by
          show ((95 : Int) != (x.toNat : Int)) = true
          simp; omega
        have hB : Lib.indexByte [43, 45] (({ data := #[a, x] } : ByteArray)[1]'(show 1 < 2 by decide)) < 0 := indexByte_high [43, 45] x (by decide) hx
        have hwr : IntKind.i64.wrap 2 = 2 := by decide
        have hxi : (128 : Int) ≤ (x.toNat : Int) := by omega
        have hxn : ¬ ((95 : Int) = (x.toNat : Int)) := by omega
        go_wp2
        go_quiet (fail)
        have hbq : Below wr.heap.size wr (wr.drewN nq) := below_drewN (Below.refl _ _) _
        generalize wr.drewN nq = W1 at hbq
        go_wp2
        go_quiet ((go_at_call 138; refine Calls.quiet_of_same (Tryz.strings_IndexByte _ _ _)))
        go_wp2
        simp only [Exit.noGoto_ret, Exit.inBlock]
        go_wp2
        (try simp only [Exit.noGoto_ret, Exit.inBlock])
        (try go_wp2)
        go_ret
        exact ⟨rfl, below_drewN hbq _⟩
    · go_enter Tryz.func128, Tryz.ntmps128
      go_wp2_with fail
      refine (Hval.out _).mono ?_; rintro e w2 ⟨rfl, rfl⟩
      go_wp2
      go_step3
      go_wp2
      go_loopw [9, 10] (fun i n wr => i = .int .i64 2 ∧ n = .int .i64 0 ∧ wr = w2) (fun _ _ _ => 0)
      case atStart => exact ⟨rfl, rfl, rfl⟩
      case round =>
        obtain ⟨rfl, rfl, rfl⟩ := hrel
        go_wp2
        go_step3
        have hi1 : ({ data := #[46, 95, 43, 45] } : ByteArray)[2]? = some 43 := rfl
        have hi2 : ({ data := #[a, b, x] } : ByteArray)[2]? = some x := rfl
        have hA : ((↑(({ data := #[46, 95, 43, 45] } : ByteArray)[2]'(show 2 < 4 by decide)).toNat : Int) != (↑(({ data := #[a, b, x] } : ByteArray)[2]'(show 2 < 3 by decide)).toNat : Int)) = true := by
          show ((43 : Int) != (x.toNat : Int)) = true
          simp; omega
        have hB : Lib.indexByte [45] (({ data := #[a, b, x] } : ByteArray)[2]'(show 2 < 3 by decide)) < 0 := indexByte_high [45] x (by decide) hx
        have hwr : IntKind.i64.wrap 3 = 3 := by decide
        have hxi : (128 : Int) ≤ (x.toNat : Int) := by omega
        have hxn : ¬ ((43 : Int) = (x.toNat : Int)) := by omega
        go_wp2
        go_quiet (fail)
        have hbq : Below wr.heap.size wr (wr.drewN nq) := below_drewN (Below.refl _ _) _
        generalize wr.drewN nq = W1 at hbq
        go_wp2
        go_quiet ((go_at_call 138; refine Calls.quiet_of_same (Tryz.strings_IndexByte _ _ _)))
        go_wp2
        simp only [Exit.noGoto_ret, Exit.inBlock]
        go_wp2
        (try simp only [Exit.noGoto_ret, Exit.inBlock])
        (try go_wp2)
        go_ret
        exact ⟨rfl, below_drewN hbq _⟩
    · go_enter Tryz.func128, Tryz.ntmps128
      go_wp2_with fail
      refine (Hval.out _).mono ?_; rintro e w2 ⟨rfl, rfl⟩
      go_wp2
      go_step3
      go_wp2
      go_loopw [9, 10] (fun i n wr => i = .int .i64 3 ∧ n = .int .i64 0 ∧ wr = w2) (fun _ _ _ => 0)
      case atStart => exact ⟨rfl, rfl, rfl⟩
      case round =>
        obtain ⟨rfl, rfl, rfl⟩ := hrel
        go_wp2
        go_step3
        have hi1 : ({ data := #[46, 95, 43, 45] } : ByteArray)[3]? = some 45 := rfl
        have hi2 : ({ data := #[a, b, c, x] } : ByteArray)[3]? = some x := rfl
        have hA : ((↑(({ data := #[46, 95, 43, 45] } : ByteArray)[3]'(show 3 < 4 by decide)).toNat : Int) != (↑(({ data := #[a, b, c, x] } : ByteArray)[3]'(show 3 < 4 by decide)).toNat : Int)) = true := by
          show ((45 : Int) != (x.toNat : Int)) = true
          simp; omega
        have hB : Lib.indexByte [] (({ data := #[a, b, c, x] } : ByteArray)[3]'(show 3 < 4 by decide)) < 0 := indexByte_high [] x (by decide) hx
        have hwr : IntKind.i64.wrap 4 = 4 := by decide
        have hxi : (128 : Int) ≤ (x.toNat : Int) := by omega
        have hxn : ¬ ((45 : Int) = (x.toNat : Int)) := by omega
        go_wp2
        go_quiet (fail)
        have hbq : Below wr.heap.size wr (wr.drewN nq) := below_drewN (Below.refl _ _) _
        generalize wr.drewN nq = W1 at hbq
        go_wp2
        go_quiet ((go_at_call 138; refine Calls.quiet_of_same (Tryz.strings_IndexByte _ _ _)))
        go_wp2
        simp only [Exit.noGoto_ret, Exit.inBlock]
        go_wp2
        (try simp only [Exit.noGoto_ret, Exit.inBlock])
        (try go_wp2)
        go_ret
        exact ⟨rfl, below_drewN hbq _⟩
theorem width_pos (s : ByteArray) (pos : Nat) (h : pos < s.size) : 1 ≤ (Utf8.decode s pos).2 := by
  by_cases ha : (s[pos]'h).toNat < 128
  · rw [decode_ascii s pos h ha]
    exact Nat.le_refl _
  · exact (decode_high s pos h (by omega)).2
theorem below_iter (w : World) (s : ByteArray) (pos : Nat) : Below w.heap.size w (w.iter s pos) :=
  (Below.refl _ _).alloc (Nat.le_refl _) _
set_option maxRecDepth 100000 in
set_option maxHeartbeats 4000000 in
theorem indexRune_err (s : ByteArray) (w : World) (hs : ∀ (j : Nat) (h : j < s.size), (s[j]'h).toNat < 128) :
    Calls Tryz.prog 128 #[.string s, .int .i32 65533] w fun e w' => e = .returned (.int .i64 (-1)) ∧ Below w.heap.size w w' := by
  go_enter Tryz.func128, Tryz.ntmps128
  go_wp2
  go_loopw [5] (fun _ w' => ∃ pos : Nat, w' = w.iter s pos) (fun _ w' => s.size - w'.iterPos w.heap.size)
  case atStart => exact ⟨0, rfl⟩
  case round =>
    obtain ⟨pos, rfl⟩ := hrel
    by_cases hp : pos < s.size
    · have hnx : ∀ ty, (Instr.next (.pointer (some ⟨w.heap.size, 0, none⟩)) true ty).run Tryz.prog (w.iter s pos) = _ := fun ty => run_next_any w s pos ty hp
      have hd := decode_ascii s pos hp (hs pos hp)
      have hlt := hs pos hp
      rw [hd] at hnx
      generalize (s[pos]'hp).toNat = c at hnx hlt
      have hc : ¬ ((c : Int) = 65533) := by omega
      clear hd
      go_wp2
      go_roundw
      case rel => exact ⟨pos + 1, rfl⟩
      case measure => simp; omega
    · have hnx : ∀ ty, (Instr.next (.pointer (some ⟨w.heap.size, 0, none⟩)) true ty).run Tryz.prog (w.iter s pos) = _ := fun ty => run_next_end w s pos ty hp
      go_wp2
      go_ret
      exact ⟨rfl, below_iter _ _ _⟩
theorem indexByte_parts (l : List UInt8) (x : UInt8) : (l.contains x = true ∧ 0 ≤ Lib.indexByte l x) ∨ (l.contains x = false ∧ Lib.indexByte l x = -1) := by
  induction l with
  | nil => exact .inr ⟨rfl, rfl⟩
  | cons b l ih =>
    by_cases hb : b = x
    · left; simp [Lib.indexByte, hb]
    · have hb' : ¬ (x = b) := fun h => hb h.symm
      have e : Lib.indexByte (b :: l) x = if Lib.indexByte l x = -1 then -1 else Lib.indexByte l x + 1 := by simp [Lib.indexByte, hb]
      have ec : (b :: l).contains x = l.contains x := by simp [hb']
      rw [e, ec]
      rcases ih with ⟨h1, h2⟩ | ⟨h1, h2⟩
      · left; refine ⟨h1, ?_⟩; rw [if_neg (by omega)]; omega
      · right; exact ⟨h1, by rw [if_pos h2]⟩
theorem indexByte_contains (l : List UInt8) (x : UInt8) : decide (0 ≤ Lib.indexByte l x) = l.contains x := by
  rcases indexByte_parts l x with ⟨h1, h2⟩ | ⟨h1, h2⟩
  · rw [h1]; exact decide_eq_true h2
  · rw [h1, h2]; rfl
def oneOf (s : ByteArray) : Prop := s = ⟨#[45]⟩ ∨ s = ⟨#[46, 95, 43, 45]⟩
theorem oneOf_ascii {s : ByteArray} (h : oneOf s) : ∀ (j : Nat) (h : j < s.size), (s[j]'h).toNat < 128 := by
  rcases h with rfl | rfl
  · intro j hj
    have : j < 1 := hj
    obtain rfl : j = 0 := by omega
    exact (by decide : (45 : UInt8).toNat < 128)
  · intro j hj
    have : j < 4 := hj
    rcases (by omega : j = 0 ∨ j = 1 ∨ j = 2 ∨ j = 3) with rfl | rfl | rfl | rfl
    · exact (by decide : (46 : UInt8).toNat < 128)
    · exact (by decide : (95 : UInt8).toNat < 128)
    · exact (by decide : (43 : UInt8).toNat < 128)
    · exact (by decide : (45 : UInt8).toNat < 128)
/-- ContainsRune at any code point of a string, in the texts that addr asks. -/
theorem containsRune_calls (s : ByteArray) (r : Nat) (w : World) (hs : oneOf s) (hr : r ≤ 1114111) (hv : Lib.validRune (r : Int) = true) :
    Calls Tryz.prog 117 #[.string s, .int .i32 r] w fun e w' => e = .returned (.bool (decide (r < 128) && s.data.toList.contains (UInt8.ofNat r))) ∧ Below w.heap.size w w' ∧ (r < 128 → w' = w) := by
  by_cases hlow : r < 128
  · refine (Tryz.strings_ContainsRune_ascii s r w (by omega) (by omega)).mono ?_
    rintro e w' ⟨rfl, rfl⟩
    refine ⟨?_, Below.refl _ _, fun _ => rfl⟩
    have hu : (r : Int).toNat.toUInt8 = UInt8.ofNat r := by simp
    rw [hu, indexByte_contains, decide_eq_true hlow, Bool.true_and]
  · have hres : (decide (r < 128) && s.data.toList.contains (UInt8.ofNat r)) = false := by simp [hlow]
    rw [hres]
    have hidx : ∀ W, Calls Tryz.prog 128 #[.string s, .int .i32 r] W fun e w' => e = .returned (.int .i64 (-1)) ∧ Below W.heap.size W w' := by
      intro W
      by_cases h3 : r = 65533
      · subst h3; exact indexRune_err s W (oneOf_ascii hs)
      · exact indexRune_high s r W (by omega) (by omega) hv (by omega) hs
    have Hidx := Lib.hid hidx
    clear hidx
    go_enter Tryz.func117, Tryz.ntmps117
    go_wp2_with fail
    refine (Hidx.out _).mono ?_; rintro e w2 ⟨rfl, hb2⟩
    go_wp2
    go_ret
    exact ⟨rfl, hb2, fun h => absurd h hlow⟩
end Go.Proofs.YtjddicoigbidlaaGreatDoor

set_option linter.unusedSimpArgs false
set_option linter.unusedVariables false
namespace Go.Proofs.YtjddicoigbidlaaGreatDoor
def cutAt (c : UInt8) : List UInt8 → Option (List UInt8 × List UInt8)
  | [] => none
  | x :: xs => if x = c then some ([], xs) else (cutAt c xs).map fun p => (x :: p.1, p.2)
def piecesAt (c : UInt8) : List UInt8 → List (List UInt8)
  | [] => [[]]
  | x :: xs => if x = c then [] :: piecesAt c xs else match piecesAt c xs with
    | [] => [[x]]
    | p :: ps => (x :: p) :: ps
theorem index_one (c : UInt8) (s : List UInt8) : (cutAt c s = none ∧ Lib.index s [c] = -1) ∨ ∃ a b, cutAt c s = some (a, b) ∧ s = a ++ c :: b ∧ Lib.index s [c] = (a.length : Int) := by
  induction s with
  | nil => exact .inl ⟨rfl, rfl⟩
  | cons x xs ih =>
    by_cases hx : x = c
    · subst hx
      refine .inr ⟨[], xs, by simp [cutAt], rfl, ?_⟩
      simp [Lib.index]
    · have hc : ¬ (c = x) := fun h => hx h.symm
      rcases ih with ⟨h1, h2⟩ | ⟨a, b, h1, h2, h3⟩
      · exact .inl ⟨by simp [cutAt, hx, h1], by simp [Lib.index, h2, hx, hc]⟩
      · refine .inr ⟨x :: a, b, by simp [cutAt, hx, h1], by rw [h2]; rfl, ?_⟩
        have : ¬ ((a.length : Int) = -1) := by omega
        simp [Lib.index, h3, hx, hc, this]
theorem cut_one (c : UInt8) (s : List UInt8) : Lib.cut s [c] = match cutAt c s with
    | some p => (p.1, p.2, true)
    | none => (s, [], false) := by
  unfold Lib.cut
  rcases index_one c s with ⟨h1, h2⟩ | ⟨a, b, h1, h2, h3⟩
  · rw [h1, h2]; rfl
  · rw [h1, h3, if_pos (by omega)]
    subst h2
    simp
theorem pieces_cut (c : UInt8) (s : List UInt8) : piecesAt c s = match cutAt c s with
    | some p => p.1 :: piecesAt c p.2
    | none => [s] := by
  induction s with
  | nil => rfl
  | cons x xs ih =>
    by_cases hx : x = c
    · simp [piecesAt, cutAt, hx]
    · simp only [piecesAt, cutAt, if_neg hx]
      rw [ih]
      cases cutAt c xs with
      | none => rfl
      | some p => rfl
theorem pieces_pos (c : UInt8) (s : List UInt8) : 0 < (piecesAt c s).length := by
  rw [pieces_cut]; split <;> simp
theorem split_pieces (c : UInt8) : ∀ (k : Nat) (s : List UInt8), (piecesAt c s).length ≤ k + 1 → Lib.splitK [c] 0 k s = piecesAt c s := by
  intro k
  induction k with
  | zero =>
    intro s h
    have := pieces_pos c s
    rw [pieces_cut] at h ⊢
    rcases index_one c s with ⟨h1, _⟩ | ⟨a, b, h1, _, _⟩
    · rw [h1]; rfl
    · rw [h1] at h; simp only [List.length_cons] at h; have := pieces_pos c b; omega
  | succ k ih =>
    intro s h
    rw [pieces_cut] at h ⊢
    rcases index_one c s with ⟨h1, h2⟩ | ⟨a, b, h1, h2, h3⟩
    · rw [h1, Lib.splitK, h2] <;> rfl
    · rw [h1] at h ⊢
      simp only [List.length_cons] at h ⊢
      rw [Lib.splitK, h3, if_neg (by simp <;> omega)]
      subst h2
      simp only [Int.toNat_natCast, Nat.add_zero, List.length_singleton, List.take_left']
      congr 1
      rw [show (a ++ c :: b).drop (a.length + 1) = b by simp]
      exact ih b (by omega)
theorem count_pieces (c : UInt8) : ∀ (fuel : Nat) (s : List UInt8), s.length < fuel → Lib.countFrom [c] fuel s + 1 = (piecesAt c s).length := by
  intro fuel
  induction fuel with
  | zero => intro s h; omega
  | succ fuel ih =>
    intro s h
    rw [pieces_cut, Lib.countFrom]
    rcases index_one c s with ⟨h1, h2⟩ | ⟨a, b, h1, h2, h3⟩
    · rw [h1, h2] <;> rfl
    · rw [h1, h3, if_neg (by simp <;> omega)]
      subst h2
      simp only [Int.toNat_natCast, List.length_cons, List.length_nil, Nat.zero_add]
      rw [show (a ++ c :: b).drop (a.length + 1) = b by simp]
      have := ih b (by simp at h; omega)
      omega
theorem split_one (c : UInt8) (s : List UInt8) : Lib.split s [c] = piecesAt c s := by
  unfold Lib.split Lib.count
  exact split_pieces c _ s (by rw [← count_pieces c (s.length + 1) s (by omega)]; omega)
theorem contains_one (c : UInt8) (s : List UInt8) : Lib.contains s [c] = s.contains c := by
  unfold Lib.contains
  rcases index_one c s with ⟨h1, h2⟩ | ⟨a, b, h1, h2, h3⟩
  · rw [h2]
    have : s.contains c = false := by
      clear h2
      induction s with
      | nil => rfl
      | cons x xs ih =>
        by_cases hx : x = c
        · simp [cutAt, hx] at h1
        · simp [cutAt, hx] at h1
          have hc : ¬ (c = x) := fun h => hx h.symm
          simp [hc, hx] at ih ⊢
          exact ih h1
    rw [this]; decide
  · rw [h3, h2]; simp
def plainB (c : UInt8) : Bool := decide (97 ≤ c.toNat ∧ c.toNat ≤ 122) || decide (65 ≤ c.toNat ∧ c.toNat ≤ 90) || decide (48 ≤ c.toNat ∧ c.toNat ≤ 57)
def onlyB (others s : List UInt8) : Bool := s.all fun c => plainB c || others.contains c
def endsB (x : UInt8) (s : List UInt8) : Bool := s.head? == some x || s.getLast? == some x
def labelB (s : List UInt8) : Bool := decide (1 ≤ s.length ∧ s.length ≤ 32) && onlyB [45] s && !endsB 45 s
def domainB (s : List UInt8) : Bool := (piecesAt 46 s).all labelB && decide (s.length ≤ 64)
def twoB (x : UInt8) : List UInt8 → Bool
  | a :: b :: r => (a == x && b == x) || twoB x (b :: r)
  | _ => false
def localB (s : List UInt8) : Bool := decide (1 ≤ s.length ∧ s.length ≤ 32) && onlyB [46, 95, 43, 45] s && !endsB 46 s && !twoB 46 s
def splitBox (s : List UInt8) : Option (List UInt8 × List UInt8) := match cutAt 64 s with
  | some (n, d) => if localB n && domainB d && decide (s.length ≤ 64) then some (n, Lib.toLowerA d) else none
  | none => none
def parseBox (s : List UInt8) : Option (List UInt8) := (splitBox s).map fun p => p.1 ++ 64 :: p.2
def boxB (s : List UInt8) : Bool := parseBox s == some s
theorem contains_two (x : UInt8) (s : List UInt8) : Lib.contains s [x, x] = twoB x s := by
  have key : ∀ s : List UInt8, (twoB x s = false ∧ Lib.index s [x, x] = -1) ∨ (twoB x s = true ∧ 0 ≤ Lib.index s [x, x]) := by
    intro s
    induction s with
    | nil => exact .inl ⟨rfl, rfl⟩
    | cons a r ih =>
      cases r with
      | nil => left; exact ⟨rfl, by simp [Lib.index, List.isPrefixOf]⟩
      | cons b r =>
        by_cases hab : a = x ∧ b = x
        · right; obtain ⟨rfl, rfl⟩ := hab
          refine ⟨by simp [twoB], ?_⟩
          rw [Lib.index, if_pos (by simp [List.isPrefixOf])]; omega
        · have hp : ([x, x] : List UInt8).isPrefixOf (a :: b :: r) = false := by
            simp only [List.isPrefixOf, Bool.and_true, Bool.and_eq_false_iff, beq_eq_false_iff_ne, ne_eq]
            by_cases h : a = x
            · right; intro h2; exact hab ⟨h, h2.symm⟩
            · left; intro h2; exact h h2.symm
          have ht : twoB x (a :: b :: r) = twoB x (b :: r) := by
            rw [twoB]
            have : (a == x && b == x) = false := by
              rw [Bool.and_eq_false_iff]; simp only [beq_eq_false_iff_ne, ne_eq]
              by_cases h : a = x
              · right; intro h2; exact hab ⟨h, h2⟩
              · left; exact h
            rw [this, Bool.false_or]
          rw [ht, Lib.index, hp]
          rcases ih with ⟨h1, h2⟩ | ⟨h1, h2⟩
          · left; exact ⟨h1, by rw [h2]; rfl⟩
          · right
            refine ⟨h1, ?_⟩
            rw [if_neg (by simp)]
            have hne : ¬ (Lib.index (b :: r) [x, x] == -1) = true := by
              intro h
              have := eq_of_beq h
              omega
            rw [if_neg hne]; omega
  unfold Lib.contains
  rcases key s with ⟨h1, h2⟩ | ⟨h1, h2⟩
  · rw [h1, h2]; decide
  · rw [h1]; exact decide_eq_true h2
end Go.Proofs.YtjddicoigbidlaaGreatDoor

set_option linter.unusedSimpArgs false
set_option linter.unusedVariables false
namespace Go.Proofs.YtjddicoigbidlaaGreatDoor
open Go.RowKit
def plainR (r : Nat) : Bool := decide (97 ≤ r ∧ r ≤ 122) || decide (65 ≤ r ∧ r ≤ 90) || decide (48 ≤ r ∧ r ≤ 57)
set_option maxRecDepth 100000 in
set_option maxHeartbeats 4000000 in
theorem addrPlain_calls (r : Nat) (w : World) (hr : r ≤ 1114111) :
    Calls Tryz.prog 116 #[.int .i32 r] w fun e w' => e = .returned (.bool (plainR r)) ∧ w' = w := by
  by_cases a1 : 97 ≤ r <;> by_cases a2 : r ≤ 122 <;> by_cases b1 : 65 ≤ r <;> by_cases b2 : r ≤ 90 <;> by_cases c1 : 48 ≤ r <;> by_cases c2 : r ≤ 57
  all_goals first | omega | skip
  all_goals
    have hp : ∃ v, plainR r = v := ⟨_, rfl⟩
    have hv : plainR r = (decide (97 ≤ r ∧ r ≤ 122) || decide (65 ≤ r ∧ r ≤ 90) || decide (48 ≤ r ∧ r ≤ 57)) := rfl
    simp only [a1, a2, b1, b2, c1, c2, and_self, and_true, true_and, and_false, false_and, decide_true, decide_false, Bool.or_true, Bool.true_or, Bool.or_false, Bool.false_or] at hv
    rw [hv]
    clear hp hv
    go_enter Tryz.func116, Tryz.ntmps116
    go_wp2
    go_ret
    first
    | exact ⟨rfl, rfl⟩
    | (refine ⟨?_, rfl⟩; congr 2; simp; omega)
theorem plain_iff (c : UInt8) : plainB c = plainR c.toNat := rfl
theorem plainR_high (r : Nat) (h : 128 ≤ r) : plainR r = false := by
  unfold plainR
  rw [decide_eq_false (by omega), decide_eq_false (by omega), decide_eq_false (by omega)]; rfl
theorem size_len (s : ByteArray) : s.size = s.data.toList.length := by rw [Array.length_toList]; rfl
theorem get_byte (s : ByteArray) (pos : Nat) (h : pos < s.size) : s.data.toList[pos]? = some (s[pos]'h) := by
  rw [Array.getElem?_toList]
  exact Array.getElem?_eq_getElem h
theorem onlyB_false {o l : List UInt8} {i : Nat} {c : UInt8} (hc : l[i]? = some c) (h : (plainB c || o.contains c) = false) : onlyB o l = false := by
  unfold onlyB
  rw [List.all_eq_false]
  exact ⟨c, List.mem_of_getElem? hc, by rw [h]; simp⟩
set_option maxRecDepth 100000 in
set_option maxHeartbeats 4000000 in
theorem addrOnly_calls (s o : ByteArray) (w : World) (ho : oneOf o) :
    Calls Tryz.prog 104 #[.string s, .string o] w fun e w' => e = .returned (.bool (onlyB o.data.toList s.data.toList)) ∧ Below w.heap.size w w' := by
  have hoa : ∀ c : UInt8, 128 ≤ c.toNat → o.data.toList.contains c = false := by
    intro c hc
    rcases ho with rfl | rfl
    · have : ¬ (c = 45) := fun h => by rw [h] at hc; revert hc; decide
      simp [this]
    · have h1 : ¬ (c = 45) := fun h => by rw [h] at hc; revert hc; decide
      have h2 : ¬ (c = 46) := fun h => by rw [h] at hc; revert hc; decide
      have h3 : ¬ (c = 95) := fun h => by rw [h] at hc; revert hc; decide
      have h4 : ¬ (c = 43) := fun h => by rw [h] at hc; revert hc; decide
      simp [h1, h2, h3, h4]
  obtain ⟨os, hos⟩ : ∃ os, o.data.toList = os := ⟨_, rfl⟩
  have hcr := fun (r : Nat) W hr hv => containsRune_calls o r W ho hr hv
  rw [hos] at hoa ⊢
  rw [hos] at hcr
  have Hcr := Lib.hid hcr
  have Hoa := Lib.hid hoa
  clear hcr hoa hos ho
  go_enter Tryz.func104, Tryz.ntmps104
  go_wp2
  go_loopw [6] (fun _ w' => ∃ pos : Nat, pos ≤ s.size ∧ w' = w.iter s pos ∧ onlyB os (s.data.toList.take pos) = true) (fun _ w' => s.size - w'.iterPos w.heap.size)
  case atStart => exact ⟨0, Nat.zero_le _, rfl, rfl⟩
  case round =>
    obtain ⟨pos, hps, rfl, hall⟩ := hrel
    by_cases hp : pos < s.size
    · have hnx : ∀ ty, (Instr.next (.pointer (some ⟨w.heap.size, 0, none⟩)) true ty).run Tryz.prog (w.iter s pos) = _ := fun ty => run_next_any w s pos ty hp
      have hwd := width_pos s pos hp
      have hle := Lib.rune_le s pos
      have hval : Lib.validRune ((Utf8.decode s pos).1 : Int) = true := by
        have h1 := Lib.rune_valid (s.extract pos s.size)
        rw [Lib.tail_decode, Nat.add_zero] at h1
        exact h1
      have hb := get_byte s pos hp
      obtain ⟨c, hc⟩ : ∃ c, s[pos]'hp = c := ⟨_, rfl⟩
      rw [hc] at hb
      have hcase : (c.toNat < 128 ∧ (Utf8.decode s pos) = (c.toNat, 1)) ∨ (128 ≤ c.toNat ∧ 128 ≤ (Utf8.decode s pos).1) := by
        by_cases h : (s[pos]'hp).toNat < 128
        · left; rw [← hc]; exact ⟨h, decode_ascii s pos hp h⟩
        · right; rw [← hc]; exact ⟨by omega, (decode_high s pos hp (by omega)).1⟩
      generalize hde : Utf8.decode s pos = d at hnx hwd hle hval hcase
      obtain ⟨r, k⟩ := d
      simp only at hwd hle hval hcase
      have Hval := Lib.hid hval
      have Hb := Lib.hid hb
      have Hall := Lib.hid hall
      have hpl := fun W => addrPlain_calls r W hle
      have Hpl := Lib.hid hpl
      have hcrr := Hcr.out r
      clear hb hall hval hpl hde hcrr
      rcases hcase with ⟨hlow, hd⟩ | ⟨hhigh, hrh⟩
      · obtain ⟨rfl, rfl⟩ : r = c.toNat ∧ k = 1 := by cases hd; exact ⟨rfl, rfl⟩
        have hofn : UInt8.ofNat c.toNat = c := by simp
        have hstep : ∀ v, (plainB c || os.contains c) = v → onlyB os (s.data.toList.take (pos + 1)) = v := by
          intro v hv
          unfold onlyB
          rw [take_snoc Hb.out, List.all_append]
          have h := Hall.out
          unfold onlyB at h
          rw [h, Bool.true_and]
          simpa using hv
        have hfalse : (plainB c || os.contains c) = false → onlyB os s.data.toList = false := fun h => onlyB_false Hb.out h
        have hcr := fun W => Hcr.out c.toNat W hle Hval.out
        rw [decide_eq_true hlow, Bool.true_and, hofn] at hcr
        rw [plain_iff] at hstep hfalse
        have Hcr2 := Lib.hid hcr
        have Hstep := Lib.hid hstep
        have Hfalse := Lib.hid hfalse
        generalize hg1 : plainR c.toNat = p at Hpl Hstep Hfalse
        generalize hg2 : os.contains c = q at Hcr2 Hstep Hfalse
        clear hcr hstep hfalse hd hg1 hg2 hofn
        cases p
        · cases q
          · go_wp2_with fail
            refine (Hpl.out _).mono ?_; rintro e w2 ⟨rfl, rfl⟩
            go_wp2_with fail
            refine (Hcr2.out _).mono ?_; rintro e w3 ⟨rfl, hb3, heq⟩
            obtain rfl := heq hlow
            go_wp2
            go_ret
            exact ⟨by rw [Hfalse.out rfl]; rfl, below_iter _ _ _⟩
          · go_wp2_with fail
            refine (Hpl.out _).mono ?_; rintro e w2 ⟨rfl, rfl⟩
            go_wp2_with fail
            refine (Hcr2.out _).mono ?_; rintro e w3 ⟨rfl, hb3, heq⟩
            obtain rfl := heq hlow
            go_wp2
            go_roundw
            case rel => exact ⟨pos + 1, by omega, rfl, Hstep.out true rfl⟩
            case measure => simp; omega
        · go_wp2_with fail
          refine (Hpl.out _).mono ?_; rintro e w2 ⟨rfl, rfl⟩
          go_wp2
          go_roundw
          case rel => exact ⟨pos + 1, by omega, rfl, Hstep.out true (by simp)⟩
          case measure => simp; omega
      · have hf : onlyB os s.data.toList = false := onlyB_false Hb.out (by rw [plain_iff, plainR_high _ hhigh, Hoa.out c hhigh]; rfl)
        have hcr := fun W => Hcr.out r W hle Hval.out
        rw [decide_eq_false (by omega : ¬ r < 128), Bool.false_and] at hcr
        have Hcr2 := Lib.hid hcr
        have Hf := Lib.hid hf
        have hpr := plainR_high r hrh
        rw [hpr] at Hpl
        clear hcr hf hpr
        go_wp2_with fail
        refine (Hpl.out _).mono ?_; rintro e w2 ⟨rfl, rfl⟩
        go_wp2_with fail
        refine (Hcr2.out _).mono ?_; rintro e w3 ⟨rfl, hb3, _⟩
        go_wp2
        go_ret
        exact ⟨by rw [Hf.out]; rfl, (below_iter w s (pos + k)).trans (hb3.mono (by simp [World.iter]))⟩
    · have hnx : ∀ ty, (Instr.next (.pointer (some ⟨w.heap.size, 0, none⟩)) true ty).run Tryz.prog (w.iter s pos) = _ := fun ty => run_next_end w s pos ty hp
      have hpe : pos = s.size := by omega
      have hfin : onlyB os s.data.toList = true := by
        rw [List.take_of_length_le (by rw [← size_len]; omega)] at hall; exact hall
      have Hfin := Lib.hid hfin
      clear hall hfin hpe
      go_wp2
      go_ret
      exact ⟨by rw [Hfin.out]; rfl, below_iter _ _ _⟩
end Go.Proofs.YtjddicoigbidlaaGreatDoor

set_option linter.unusedSimpArgs false
set_option linter.unusedVariables false
namespace Go.Proofs.YtjddicoigbidlaaGreatDoor
open Go.RowKit
theorem prefix_one (c : UInt8) (l : List UInt8) : Lib.hasPrefix l [c] = (l.head? == some c) := by
  unfold Lib.hasPrefix
  cases l with
  | nil => rfl
  | cons x xs =>
    by_cases h : c = x
    · subst h; simp [List.isPrefixOf]
    · have h' : ¬ (x = c) := fun e => h e.symm
      have e1 : (c == x) = false := by simpa using h
      have e2 : (x == c) = false := by simpa using h'
      simp [List.isPrefixOf, e1, e2]
theorem suffix_one (c : UInt8) (l : List UInt8) : Lib.hasSuffix l [c] = (l.getLast? == some c) := by
  unfold Lib.hasSuffix
  have h1 : ([c] : List UInt8).isSuffixOf l = (([c] : List UInt8).reverse.isPrefixOf l.reverse) := rfl
  rw [h1]
  have h2 := prefix_one c l.reverse
  unfold Lib.hasPrefix at h2
  rw [show ([c] : List UInt8).reverse = [c] from rfl, h2, List.head?_reverse]
set_option maxRecDepth 100000 in
set_option maxHeartbeats 4000000 in
theorem addrEnds_calls (s : ByteArray) (c : UInt8) (w : World) (hs : s.size ≤ 9223372036854775807) :
    Calls Tryz.prog 105 #[.string s, .string ⟨#[c]⟩] w fun e w' => e = .returned (.bool (endsB c s.data.toList)) ∧ w' = w := by
  have h1 := fun W => Tryz.strings_HasPrefix s ⟨#[c]⟩ W
  have h2 := fun W => Tryz.strings_HasSuffix s ⟨#[c]⟩ W hs
  rw [show (⟨#[c]⟩ : ByteArray).data.toList = [c] from rfl] at h1 h2
  rw [prefix_one] at h1
  rw [suffix_one] at h2
  have H1 := Lib.hid h1
  have H2 := Lib.hid h2
  clear h1 h2
  unfold endsB
  generalize (s.data.toList.head? == some c) = p at H1
  generalize (s.data.toList.getLast? == some c) = q at H2
  cases p
  · go_enter Tryz.func105, Tryz.ntmps105
    go_wp2_with fail
    refine (H1.out _).mono ?_; rintro e w2 ⟨rfl, rfl⟩
    go_wp2_with fail
    refine (H2.out _).mono ?_; rintro e w3 ⟨rfl, rfl⟩
    go_wp2
    go_ret
    exact ⟨by simp, rfl⟩
  · go_enter Tryz.func105, Tryz.ntmps105
    go_wp2_with fail
    refine (H1.out _).mono ?_; rintro e w2 ⟨rfl, rfl⟩
    go_wp2
    go_ret
    exact ⟨by simp, rfl⟩
theorem empty_of_size {s : ByteArray} (h : s.size = 0) : s = ⟨#[]⟩ := by
  obtain ⟨d⟩ := s
  have : d.size = 0 := h
  rw [Array.size_eq_zero_iff.1 this]
theorem empty_beq {s : ByteArray} (h : s.size ≠ 0) : (s.toList == (⟨#[]⟩ : ByteArray).toList) = false :=
  (Lib.bytes_beq_false_iff _ _).2 (fun e => h (by rw [e]; rfl))
theorem empty_ne {s : ByteArray} (h : s.size ≠ 0) : ¬ s.toList = [] := by
  have := empty_beq h
  intro e
  rw [e] at this
  simp at this
set_option maxRecDepth 100000 in
set_option maxHeartbeats 4000000 in
theorem addrLabel_calls (s : ByteArray) (w : World) (hs : s.size ≤ 9223372036854775807) :
    Calls Tryz.prog 107 #[.string s] w fun e w' => e = .returned (.bool (labelB s.data.toList)) ∧ Below w.heap.size w w' := by
  have hl := size_len s
  have h1 := fun W => addrOnly_calls s ⟨#[45]⟩ W (.inl rfl)
  have h2 := fun W => addrEnds_calls s 45 W hs
  rw [show (⟨#[45]⟩ : ByteArray).data.toList = [45] from rfl] at h1
  have hlab : labelB s.data.toList = (decide (1 ≤ s.size ∧ s.size ≤ 32) && onlyB [45] s.data.toList && !endsB 45 s.data.toList) := by rw [hl]; rfl
  rw [hlab]
  generalize onlyB [45] s.data.toList = p at h1
  generalize endsB 45 s.data.toList = q at h2
  have H1 := Lib.hid h1
  have H2 := Lib.hid h2
  clear h1 h2 hlab hl
  by_cases h0 : s.size = 0
  · obtain rfl := empty_of_size h0
    clear h0
    go_enter Tryz.func107, Tryz.ntmps107
    go_wp2
    go_ret
    exact ⟨rfl, Below.refl _ _⟩
  · have hb := empty_ne h0
    have hb2 : s.toList.isEmpty = false := by simpa using hb
    by_cases h32 : (s.size : Int) ≤ 32
    · have hd : decide (1 ≤ s.size ∧ s.size ≤ 32) = true := decide_eq_true ⟨by omega, by omega⟩
      rw [hd]
      clear hd
      cases p
      · go_enter Tryz.func107, Tryz.ntmps107
        go_wp2_with fail
        refine (H1.out _).mono ?_; rintro e w2 ⟨rfl, hb2⟩
        go_wp2
        go_ret
        exact ⟨rfl, hb2⟩
      · go_enter Tryz.func107, Tryz.ntmps107
        go_wp2_with fail
        refine (H1.out _).mono ?_; rintro e w2 ⟨rfl, hb2⟩
        go_wp2_with fail
        refine (H2.out _).mono ?_; rintro e w3 ⟨rfl, rfl⟩
        go_wp2
        go_ret
        exact ⟨rfl, hb2⟩
    · have hd : decide (1 ≤ s.size ∧ s.size ≤ 32) = false := decide_eq_false (by omega)
      rw [hd]
      clear hd
      go_enter Tryz.func107, Tryz.ntmps107
      go_wp2
      go_ret
      exact ⟨rfl, Below.refl _ _⟩
end Go.Proofs.YtjddicoigbidlaaGreatDoor

set_option linter.unusedSimpArgs false
set_option linter.unusedVariables false
namespace Go.Proofs.YtjddicoigbidlaaGreatDoor
open Go.RowKit
/-- The library's variable MaxLen holds a number. -/
def MaxOk (w : World) : Prop := ∃ m, w.cell? ⟨0, 0, none⟩ = some (.int .i64 m)
theorem MaxOk.below {w w' : World} (hb : Below w.heap.size w w') (h : MaxOk w) : MaxOk w' := by
  obtain ⟨m, hm⟩ := h
  obtain ⟨c, f⟩ := below_cell hb
  exact ⟨m, (c _ _ (World.block_lt_of_cell? w ⟨0, 0, none⟩ hm)).trans hm⟩
set_option maxRecDepth 100000 in
set_option maxHeartbeats 4000000 in
theorem addrLocal_calls (s : ByteArray) (w : World) (hs : s.size < 4294967281) (hmax : MaxOk w) :
    Calls Tryz.prog 95 #[.string s] w fun e w' => e = .returned (.bool (localB s.data.toList)) ∧ Below w.heap.size w w' := by
  have hl := size_len s
  have h1 := fun W => addrOnly_calls s ⟨#[46, 95, 43, 45]⟩ W (.inr rfl)
  have h2 := fun W => addrEnds_calls s 46 W (by omega)
  have h3 := fun W m hm => Tryz.strings_Contains s ⟨#[46, 46]⟩ m W hs hm
  rw [show (⟨#[46, 95, 43, 45]⟩ : ByteArray).data.toList = [46, 95, 43, 45] from rfl] at h1
  rw [show (⟨#[46, 46]⟩ : ByteArray).data.toList = [46, 46] from rfl, contains_two] at h3
  have hlab : localB s.data.toList = (decide (1 ≤ s.size ∧ s.size ≤ 32) && onlyB [46, 95, 43, 45] s.data.toList && !endsB 46 s.data.toList && !twoB 46 s.data.toList) := by rw [hl]; rfl
  rw [hlab]
  generalize onlyB [46, 95, 43, 45] s.data.toList = p at h1
  generalize endsB 46 s.data.toList = q at h2
  generalize twoB 46 s.data.toList = r at h3
  have H1 := Lib.hid h1
  have H2 := Lib.hid h2
  have H3 := Lib.hid h3
  have Hmax := Lib.hid hmax
  clear h1 h2 h3 hlab hl hmax
  by_cases h0 : s.size = 0
  · obtain rfl := empty_of_size h0
    clear h0
    go_enter Tryz.func95, Tryz.ntmps95
    go_wp2
    go_ret
    exact ⟨rfl, Below.refl _ _⟩
  · have hb := empty_ne h0
    have hb2 : s.toList.isEmpty = false := by simpa using hb
    by_cases h32 : (s.size : Int) ≤ 32
    · have hd : decide (1 ≤ s.size ∧ s.size ≤ 32) = true := decide_eq_true ⟨by omega, by omega⟩
      rw [hd]
      clear hd
      cases p
      · go_enter Tryz.func95, Tryz.ntmps95
        go_wp2_with fail
        refine (H1.out _).mono ?_; rintro e w2 ⟨rfl, hb2⟩
        go_wp2
        go_ret
        exact ⟨rfl, hb2⟩
      · cases q
        · go_enter Tryz.func95, Tryz.ntmps95
          go_wp2_with fail
          refine (H1.out _).mono ?_; rintro e w2 ⟨rfl, hb2⟩
          go_wp2_with fail
          refine (H2.out _).mono ?_; rintro e w3 ⟨rfl, rfl⟩
          obtain ⟨m, hm⟩ := Hmax.out.below hb2
          go_wp2_with fail
          refine (H3.out _ m hm).mono ?_; rintro e w4 ⟨rfl, rfl⟩
          go_wp2
          go_ret
          exact ⟨rfl, hb2⟩
        · go_enter Tryz.func95, Tryz.ntmps95
          go_wp2_with fail
          refine (H1.out _).mono ?_; rintro e w2 ⟨rfl, hb2⟩
          go_wp2_with fail
          refine (H2.out _).mono ?_; rintro e w3 ⟨rfl, rfl⟩
          go_wp2
          go_ret
          exact ⟨rfl, hb2⟩
    · have hd : decide (1 ≤ s.size ∧ s.size ≤ 32) = false := decide_eq_false (by omega)
      rw [hd]
      clear hd
      go_enter Tryz.func95, Tryz.ntmps95
      go_wp2
      go_ret
      exact ⟨rfl, Below.refl _ _⟩
theorem pieces_le (c : UInt8) (l : List UInt8) : ∀ p ∈ piecesAt c l, p.length ≤ l.length := by
  induction l with
  | nil => intro p hp; simp [piecesAt] at hp; subst hp; simp
  | cons x xs ih =>
    intro p hp
    by_cases hx : x = c
    · simp only [piecesAt, if_pos hx, List.mem_cons] at hp
      rcases hp with rfl | hp
      · simp
      · have := ih p hp; simp; omega
    · simp only [piecesAt, if_neg hx] at hp
      split at hp
      · simp at hp; subst hp; simp
      · next q ps he =>
        rcases List.mem_cons.1 hp with rfl | hp
        · have := ih q (by rw [he]; exact List.mem_cons_self); simp; omega
        · have := ih p (by rw [he]; exact List.mem_cons_of_mem _ hp); simp; omega
set_option maxRecDepth 100000 in
set_option maxHeartbeats 4000000 in
theorem addrDomain_calls (s : ByteArray) (w : World) (hs : s.size < 4294967281) (hmax : MaxOk w) :
    Calls Tryz.prog 96 #[.string s] w fun e w' => e = .returned (.bool (domainB s.data.toList)) ∧ Below w.heap.size w w' := by
  obtain ⟨m, hm⟩ := hmax
  have hsp := Tryz.strings_Split s ⟨#[46]⟩ m w hs hm (by decide)
  obtain ⟨P, hP⟩ : ∃ P, Lib.splitB ⟨#[46]⟩ 0 (Lib.countB s ⟨#[46]⟩) s = P := ⟨_, rfl⟩
  have hdata : P.map (fun p => p.data.toList) = piecesAt 46 s.data.toList := by
    rw [← hP, ← split_one]
    exact Lib.splitB_data _ _ _ _
  have hcnt : Lib.countB s ⟨#[46]⟩ + 1 = P.length := by
    have h1 := count_pieces 46 (s.data.toList.length + 1) s.data.toList (by omega)
    have h2 := congrArg List.length hdata
    rw [List.length_map] at h2
    rw [h2, ← h1]; rfl
  rw [hP, hcnt] at hsp
  have hlen : s.size = s.data.toList.length := size_len s
  have hlab : ∀ (j : Nat) (x : ByteArray), P[j]? = some x → ∀ W, Calls Tryz.prog 107 #[.string x] W fun e w' => e = .returned (.bool (labelB x.data.toList)) ∧ Below W.heap.size W w' := by
    intro j x hx W
    have hmem : x.data.toList ∈ piecesAt 46 s.data.toList := by rw [← hdata]; exact List.mem_map.2 ⟨x, List.mem_of_getElem? hx, rfl⟩
    have := pieces_le 46 _ _ hmem
    have hxl := size_len x
    exact addrLabel_calls x W (by omega)
  have hres : domainB s.data.toList = (P.all (fun x => labelB x.data.toList) && decide (s.size ≤ 64)) := by
    unfold domainB
    rw [← hdata, List.all_map, hlen]; rfl
  rw [hres]
  have hPl : P.length ≤ 4294967281 := by
    have h2 := congrArg List.length hdata
    rw [List.length_map] at h2
    have := count_pieces 46 (s.data.toList.length + 1) s.data.toList (by omega)
    have hle := Lib.countB_le ⟨#[46]⟩ (by decide) s.size s (Nat.le_refl _)
    omega
  have hPi : (P.length : Int) ≤ 4294967281 := by omega
  have hcell0 := fun (j : Nat) (x : ByteArray) (hx : P[j]? = some x) => (show (w.alloc (.cells (P.map Value.string).toArray 9)).cell? ⟨w.heap.size, j, none⟩ = some (.string x) by
    rw [cell_of_row _ _ _ _ _ _ (heap_alloc_new w _)]
    simp [hx])
  have Hsp := Lib.hid hsp
  have Hlab := Lib.hid hlab
  have Hcell := Lib.hid hcell0
  clear hsp hlab hcell0 hcnt hdata hres hP hlen hm
  go_enter Tryz.func96, Tryz.ntmps96
  go_wp2_with fail
  refine (Hsp.out).mono ?_; rintro e w1 ⟨rfl, rfl⟩
  go_wp2
  go_loopw [8] (fun i wr => ∃ j : Nat, j ≤ P.length ∧ i = .int .i64 j ∧ (P.take j).all (fun x => labelB x.data.toList) = true ∧ Below (w.alloc (.cells (P.map Value.string).toArray 9)).heap.size (w.alloc (.cells (P.map Value.string).toArray 9)) wr) (fun i _ => P.length - (intOf i).toNat)
  case atStart => exact ⟨0, Nat.zero_le _, rfl, rfl, Below.refl _ _⟩
  case round =>
    obtain ⟨j, hj, rfl, hall, hbw⟩ := hrel
    have hbw0 : Below w.heap.size w wr := ((Below.refl _ _).alloc (Nat.le_refl _) _).trans (hbw.mono (by simp))
    by_cases hlt : j < P.length
    · obtain ⟨x, hx⟩ : ∃ x, P[j]? = some x := ⟨_, List.getElem?_eq_getElem hlt⟩
      have hc := (hbw.cell (p := ⟨w.heap.size, j, none⟩) (by show w.heap.size < _; simp)).trans (Hcell.out j x hx)
      have hl := Hlab.out j x hx
      have htk : (P.take (j + 1)).all (fun x => labelB x.data.toList) = labelB x.data.toList := by
        rw [take_snoc hx, List.all_append, hall]; simp
      have hno : labelB x.data.toList = false → P.all (fun x => labelB x.data.toList) = false := by
        intro h; rw [List.all_eq_false]; exact ⟨x, List.mem_of_getElem? hx, by rw [h]; simp⟩
      generalize labelB x.data.toList = v at hl htk hno
      have Hl := Lib.hid hl
      have Htk := Lib.hid htk
      have Hno := Lib.hid hno
      have hj0 : (0 : Int) ≤ (j : Int) := by omega
      have hj1 : (j : Int) < (P.length : Int) := by omega
      have Hb0 := Lib.hid hbw0
      have Hbw := Lib.hid hbw
      clear hl htk hno hall hx hbw0 hbw
      cases v
      · go_wp2_with fail
        refine (Hl.out _).mono ?_; rintro e w2 ⟨rfl, hb2⟩
        go_wp2
        go_ret
        exact ⟨by rw [Hno.out (by trivial)]; rfl, Hb0.out.trans (hb2.mono Hb0.out.size)⟩
      · go_wp2_with fail
        refine (Hl.out _).mono ?_; rintro e w2 ⟨rfl, hb2⟩
        go_wp2
        go_roundw
        case rel => exact ⟨j + 1, by omega, by simp, Htk.out, Hbw.out.trans (hb2.mono Hbw.out.size)⟩
        case measure => simp [intOf] <;> omega
    · have hje : j = P.length := by omega
      subst hje
      rw [List.take_of_length_le (Nat.le_refl _)] at hall
      have Hall := Lib.hid hall
      clear hall
      by_cases h64 : (s.size : Int) ≤ 64
      · have hd : decide (s.size ≤ 64) = true := decide_eq_true (by omega)
        have Hd := Lib.hid hd
        clear hd
        go_wp2
        go_ret
        exact ⟨by rw [Hall.out, Hd.out]; simp, hbw0⟩
      · have hd : decide (s.size ≤ 64) = false := decide_eq_false (by omega)
        have Hd := Lib.hid hd
        clear hd
        go_wp2
        go_ret
        exact ⟨by rw [Hall.out, Hd.out]; simp <;> omega, hbw0⟩
end Go.Proofs.YtjddicoigbidlaaGreatDoor

set_option linter.unusedSimpArgs false
set_option linter.unusedVariables false
namespace Go.Proofs.YtjddicoigbidlaaGreatDoor
open Go.RowKit
/-- A text of bytes. -/
def strL (l : List UInt8) : ByteArray := ⟨l.toArray⟩
theorem strL_data (l : List UInt8) : (strL l).data.toList = l := by simp [strL]
theorem strL_of (s : ByteArray) : strL s.data.toList = s := by cases s; simp [strL]
theorem strL_size (l : List UInt8) : (strL l).size = l.length := by rw [size_len, strL_data]
theorem strL_inj {a b : List UInt8} (h : strL a = strL b) : a = b := by have := congrArg (fun s : ByteArray => s.data.toList) h; simpa [strL_data] using this
theorem strL_append (a b : List UInt8) : strL a ++ strL b = strL (a ++ b) := by
  have h : (strL a ++ strL b).data.toList = a ++ b := by
    rw [ByteArray.data_append, Array.toList_append, strL_data, strL_data]
  rw [← strL_of (strL a ++ strL b), h]
theorem only_ascii {o l : List UInt8} (ho : ∀ c ∈ o, c.toNat < 128) (h : onlyB o l = true) : ∀ c ∈ l, c.toNat < 128 := by
  intro c hc
  unfold onlyB at h
  have := List.all_eq_true.1 h c hc
  rcases Bool.or_eq_true _ _ ▸ this with h1 | h1
  · unfold plainB at h1
    simp only [Bool.or_eq_true, decide_eq_true_eq] at h1
    omega
  · exact ho c (by simpa using h1)
theorem pieces_all {c : UInt8} {l : List UInt8} {p : UInt8 → Prop} (hc : p c) (h : ∀ q ∈ piecesAt c l, ∀ x ∈ q, p x) : ∀ x ∈ l, p x := by
  induction l with
  | nil => intro x hx; cases hx
  | cons y ys ih =>
    by_cases hy : y = c
    · subst hy
      simp only [piecesAt, if_pos] at h
      intro x hx
      rcases List.mem_cons.1 hx with rfl | hx
      · exact hc
      · exact ih (fun q hq => h q (List.mem_cons_of_mem _ hq)) x hx
    · simp only [piecesAt, if_neg hy] at h
      cases he : piecesAt c ys with
      | nil => have := pieces_pos c ys; rw [he] at this; simp at this
      | cons q qs =>
        rw [he] at h ih
        simp only at h
        intro x hx
        have h0 := h (y :: q) List.mem_cons_self
        rcases List.mem_cons.1 hx with rfl | hx
        · exact h0 _ List.mem_cons_self
        · refine ih (fun r hr z hz => ?_) x hx
          rcases List.mem_cons.1 hr with rfl | hr
          · exact h0 z (List.mem_cons_of_mem _ hz)
          · exact h r (List.mem_cons_of_mem _ hr) z hz
theorem domain_ascii {l : List UInt8} (h : domainB l = true) : ∀ c ∈ l, c.toNat < 128 := by
  unfold domainB at h
  rw [Bool.and_eq_true] at h
  refine pieces_all (c := 46) (by decide) (fun q hq => ?_)
  have := List.all_eq_true.1 h.1 q hq
  unfold labelB at this
  rw [Bool.and_eq_true, Bool.and_eq_true] at this
  exact only_ascii (by decide) this.1.2
/-- What Split answers. -/
def splitVal : Option (List UInt8 × List UInt8) → Value
  | some p => .tuple #[.string (strL p.1), .string (strL p.2), .bool true]
  | none => .tuple #[.string ⟨#[]⟩, .string ⟨#[]⟩, .bool false]
set_option maxRecDepth 100000 in
set_option maxHeartbeats 4000000 in
theorem addrSplit_calls (s : ByteArray) (w : World) (hs : s.size < 4294967281) (hmax : MaxOk w) :
    Calls Tryz.prog 87 #[.string s] w fun e w' => e = .returned (splitVal (splitBox s.data.toList)) ∧ Below w.heap.size w w' := by
  obtain ⟨m, hm⟩ := id hmax
  have hcut := Tryz.strings_Cut s ⟨#[64]⟩ m w hs hm
  rw [show (⟨#[64]⟩ : ByteArray).data.toList = [64] from rfl, cut_one] at hcut
  have hl := size_len s
  have hix := index_one 64 s.data.toList
  unfold splitBox
  have Hmax := Lib.hid hmax
  clear hmax hm
  cases hca : cutAt 64 s.data.toList with
  | none =>
    rw [hca] at hcut
    simp only at hcut
    have Hcut := Lib.hid hcut
    clear hcut hca hix hl
    go_enter Tryz.func87, Tryz.ntmps87
    go_wp2_with fail
    refine (Hcut.out).mono ?_; rintro e w1 ⟨rfl, n, rfl⟩
    go_wp2
    go_ret3
    exact ⟨rfl, below_drewN (Below.refl _ _) _⟩
  | some p =>
    obtain ⟨a, d⟩ := p
    rw [hca] at hcut
    simp only at hcut ⊢
    have hsp : s.data.toList = a ++ 64 :: d := by
      rcases hix with ⟨h1, _⟩ | ⟨x, y, h1, h2, _⟩
      · rw [hca] at h1; cases h1
      · rw [hca] at h1; cases h1; exact h2
    have hla : (strL a).size < 4294967281 := by rw [strL_size]; have := congrArg List.length hsp; simp at this; omega
    have hld : (strL d).size < 4294967281 := by rw [strL_size]; have := congrArg List.length hsp; simp at this; omega
    have h1 := fun W hM => addrLocal_calls (strL a) W hla hM
    have h2 := fun W hM => addrDomain_calls (strL d) W hld hM
    rw [strL_data] at h1 h2
    have h3 : domainB d = true → ∀ W, Calls Tryz.prog 97 #[.string (strL d)] W fun e w' => e = .returned (.string (strL (Lib.toLowerA d))) ∧ Below W.heap.size W w' := by
      intro hd W
      have := Tryz.strings_ToLower_ascii (strL d) W (by omega) (fun j b hb => by rw [strL_data] at hb; exact domain_ascii hd b (List.mem_of_getElem? hb))
      rw [strL_data] at this
      exact this
    rw [show (⟨a.toArray⟩ : ByteArray) = strL a from rfl, show (⟨d.toArray⟩ : ByteArray) = strL d from rfl] at hcut
    have hlen : s.data.toList.length = s.size := hl.symm
    rw [hlen]
    generalize hlow : strL (Lib.toLowerA d) = low at h3
    generalize localB a = p at h1
    generalize domainB d = q at h2 h3
    have Hcut := Lib.hid hcut
    have H1 := Lib.hid h1
    have H2 := Lib.hid h2
    have Hlow := Lib.hid hlow
    have Hla := Lib.hid hla
    generalize hsa : strL a = sa at Hcut H1
    generalize hsd : strL d = sd at Hcut H2 h3
    have H3 := Lib.hid h3
    have Hsa := Lib.hid hsa
    clear hcut h1 h2 h3 hca hix hl hsp hla hld hlen hlow hsa hsd Hla
    cases p
    · go_enter Tryz.func87, Tryz.ntmps87
      go_wp2_with fail
      refine (Hcut.out).mono ?_; rintro e w1 ⟨rfl, n, rfl⟩
      have hb1 : Below w.heap.size w (w.drewN n) := below_drewN (Below.refl _ _) _
      go_wp2_with fail
      refine (H1.out _ (Hmax.out.below hb1)).mono ?_; rintro e w2 ⟨rfl, hb2⟩
      go_wp2
      go_ret3
      exact ⟨rfl, hb1.trans (hb2.mono hb1.size)⟩
    · cases q
      · go_enter Tryz.func87, Tryz.ntmps87
        go_wp2_with fail
        refine (Hcut.out).mono ?_; rintro e w1 ⟨rfl, n, rfl⟩
        have hb1 : Below w.heap.size w (w.drewN n) := below_drewN (Below.refl _ _) _
        go_wp2_with fail
        refine (H1.out _ (Hmax.out.below hb1)).mono ?_; rintro e w2 ⟨rfl, hb2⟩
        have hb2' := hb1.trans (hb2.mono hb1.size)
        go_wp2_with fail
        refine (H2.out _ (Hmax.out.below hb2')).mono ?_; rintro e w3 ⟨rfl, hb3⟩
        go_wp2
        go_ret3
        exact ⟨rfl, hb2'.trans (hb3.mono hb2'.size)⟩
      · by_cases h64 : (64 : Int) < (s.size : Int)
        · have hd : decide (s.size ≤ 64) = false := decide_eq_false (by omega)
          rw [hd]
          clear hd
          go_enter Tryz.func87, Tryz.ntmps87
          go_wp2_with fail
          refine (Hcut.out).mono ?_; rintro e w1 ⟨rfl, n, rfl⟩
          have hb1 : Below w.heap.size w (w.drewN n) := below_drewN (Below.refl _ _) _
          go_wp2_with fail
          refine (H1.out _ (Hmax.out.below hb1)).mono ?_; rintro e w2 ⟨rfl, hb2⟩
          have hb2' := hb1.trans (hb2.mono hb1.size)
          go_wp2_with fail
          refine (H2.out _ (Hmax.out.below hb2')).mono ?_; rintro e w3 ⟨rfl, hb3⟩
          go_wp2
          go_ret3
          exact ⟨rfl, hb2'.trans (hb3.mono hb2'.size)⟩
        · have hd : decide (s.size ≤ 64) = true := decide_eq_true (by omega)
          rw [hd]
          clear hd
          go_enter Tryz.func87, Tryz.ntmps87
          go_wp2_with fail
          refine (Hcut.out).mono ?_; rintro e w1 ⟨rfl, n, rfl⟩
          have hb1 : Below w.heap.size w (w.drewN n) := below_drewN (Below.refl _ _) _
          go_wp2_with fail
          refine (H1.out _ (Hmax.out.below hb1)).mono ?_; rintro e w2 ⟨rfl, hb2⟩
          have hb2' := hb1.trans (hb2.mono hb1.size)
          go_wp2_with fail
          refine (H2.out _ (Hmax.out.below hb2')).mono ?_; rintro e w3 ⟨rfl, hb3⟩
          have hb3' := hb2'.trans (hb3.mono hb2'.size)
          go_wp2_with fail
          refine (H3.out (by trivial) _).mono ?_; rintro e w4 ⟨rfl, hb4⟩
          go_wp2
          go_ret3
          exact ⟨by rw [← Hlow.out, ← Hsa.out]; rfl, hb3'.trans (hb4.mono hb3'.size)⟩
end Go.Proofs.YtjddicoigbidlaaGreatDoor

set_option linter.unusedSimpArgs false
set_option linter.unusedVariables false
namespace Go.Proofs.YtjddicoigbidlaaGreatDoor
open Go.RowKit
/-- What Parse answers. -/
def parseVal : Option (List UInt8) → Value
  | some t => .tuple #[.string (strL t), .bool true]
  | none => .tuple #[.string ⟨#[]⟩, .bool false]
theorem splitBox_len {s : List UInt8} {p : List UInt8 × List UInt8} (h : splitBox s = some p) : p.1.length ≤ 64 ∧ p.2.length ≤ 64 := by
  unfold splitBox at h
  rcases index_one 64 s with ⟨h1, _⟩ | ⟨a, d, h1, h2, _⟩
  · rw [h1] at h; cases h
  · rw [h1] at h
    simp only at h
    split at h
    · next hc =>
      cases h
      rw [Bool.and_eq_true, decide_eq_true_eq] at hc
      have := congrArg List.length h2
      simp at this
      simp only [Lib.toLowerA, List.length_map]
      omega
    · cases h
set_option maxRecDepth 100000 in
set_option maxHeartbeats 4000000 in
theorem addrParse_calls (s : ByteArray) (w : World) (hs : s.size < 4294967281) (hmax : MaxOk w) :
    Calls Tryz.prog 72 #[.string s] w fun e w' => e = .returned (parseVal (parseBox s.data.toList)) ∧ Below w.heap.size w w' := by
  have h1 := addrSplit_calls s w hs hmax
  unfold parseBox
  cases hp : splitBox s.data.toList with
  | none =>
    rw [hp] at h1
    simp only [splitVal] at h1
    have H1 := Lib.hid h1
    clear h1 hp
    go_enter Tryz.func72, Tryz.ntmps72
    go_wp2_with fail
    refine (H1.out).mono ?_; rintro e w1 ⟨rfl, hb1⟩
    go_wp2
    go_ret2
    exact ⟨rfl, hb1⟩
  | some p =>
    obtain ⟨ln1, ln2⟩ := splitBox_len hp
    obtain ⟨n, d⟩ := p
    rw [hp] at h1
    simp only [splitVal] at h1 ln1 ln2
    have e1 : ((strL n).size : Int) ≤ 8388608 := by rw [strL_size]; omega
    have e2 : ((strL d).size : Int) ≤ 8388608 := by rw [strL_size]; omega
    have e3 : ((strL n ++ ⟨#[64]⟩).size : Int) ≤ 8388608 := by
      rw [show (⟨#[64]⟩ : ByteArray) = strL [64] from rfl, strL_append, strL_size]; simp; omega
    have hsum : strL n ++ ⟨#[64]⟩ ++ strL d = strL (n ++ 64 :: d) := by
      rw [show (⟨#[64]⟩ : ByteArray) = strL [64] from rfl, strL_append, strL_append]; simp
    have Hsum := Lib.hid hsum
    have H1 := Lib.hid h1
    generalize hsn : strL n = sn at H1 e1 e3 Hsum
    generalize hsd : strL d = sd at H1 e2 Hsum
    clear h1 hp hsum hsn hsd ln1 ln2
    go_enter Tryz.func72, Tryz.ntmps72
    go_wp2_with fail
    refine (H1.out).mono ?_; rintro e w1 ⟨rfl, hb1⟩
    go_wp2
    go_ret2
    refine ⟨?_, hb1⟩
    show _ = Ending.returned (.tuple #[.string (strL (n ++ 64 :: d)), .bool true])
    rw [← Hsum.out]; rfl
theorem boxB_eq (l : List UInt8) : boxB l = (parseBox l == some l) := rfl
set_option maxRecDepth 100000 in
set_option maxHeartbeats 4000000 in
theorem envBox_calls (s : ByteArray) (w : World) (hs : s.size < 4294967281) (hmax : MaxOk w) :
    Calls Tryz.prog 48 #[.string s] w fun e w' => e = .returned (.bool (boxB s.data.toList)) ∧ Below w.heap.size w w' := by
  have h1 := addrParse_calls s w hs hmax
  unfold boxB
  cases hp : parseBox s.data.toList with
  | none =>
    rw [hp] at h1
    simp only [parseVal] at h1
    have H1 := Lib.hid h1
    clear h1 hp
    go_enter Tryz.func48, Tryz.ntmps48
    go_wp2_with fail
    refine (H1.out).mono ?_; rintro e w1 ⟨rfl, hb1⟩
    go_wp2
    go_ret
    exact ⟨rfl, hb1⟩
  | some t =>
    rw [hp] at h1
    simp only [parseVal] at h1
    have H1 := Lib.hid h1
    have hd : (some t == some s.data.toList) = ((strL t).toList == s.toList) := by
      by_cases h : t = s.data.toList
      · have h2 : strL t = s := by rw [h]; exact strL_of s
        rw [h2, h]; simp
      · have h2 : strL t ≠ s := fun e => h (by rw [← e, strL_data])
        rw [(Lib.bytes_beq_false_iff _ _).2 h2]
        simp [h]
    have Hd := Lib.hid hd
    clear h1 hp hd
    generalize strL t = st at H1 Hd
    go_enter Tryz.func48, Tryz.ntmps48
    go_wp2_with fail
    refine (H1.out).mono ?_; rintro e w1 ⟨rfl, hb1⟩
    go_wp2
    go_ret
    exact ⟨by rw [Hd.out]; rfl, hb1⟩
end Go.Proofs.YtjddicoigbidlaaGreatDoor
