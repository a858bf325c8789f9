/- Printed out of the texts of wip/tpl. -/
import Derived.WalkKit
import Derived.KernelRfl
import Derived.Lib.Hide
import Derived.OpenShut
import Derived.Deep.AppendLies
import Derived.Deep.QuietTactic
import Derived.Test.YtffnbkmigapmjaaGreatDoorProg
import Derived.Deep.RegionLaw
import Derived.RegionTactic
import Derived.WalkSpells
set_option linter.unusedSimpArgs false
set_option linter.unusedVariables false
namespace Go.Proofs.YtffnbkmigapmjaaGreatDoor
open Go.RowKit
abbrev u8v (x : UInt8) : Value := .int .u8 (x.toNat : Int)
abbrev u32v (c : BitVec 32) : Value := .int .u32 (c.toNat : Int)
def RdB (w : World) (v : Value) (bs : List UInt8) : Prop :=
 (∃ a c, v = .slice a 0 c ∧ c ≤ 9223372036854775807 ∧ bs = []) ∨ ∃ b off cap, v = .slice (some ⟨b, off, none⟩) bs.length cap ∧ bs ≠ [] ∧ bs.length ≤ cap ∧ cap ≤ 9223372036854775807 ∧ b < w.heap.size ∧ ∀ j x, bs[j]? = some x → w.cell? ⟨b, off + j, none⟩ = some (u8v x)
theorem RdB.below {B : Nat} {w w' : World} {v : Value} {bs : List UInt8} (h : RdB w v bs) (hB : w.heap.size ≤ B) (hb : Below B w w') : RdB w' v bs := by
 rcases h with ⟨a, c, h1, h2⟩ | ⟨b, off, cap, h1, h0, h2, h3, h4, h5⟩
 ·exact .inl ⟨a, c, h1, h2⟩
 ·exact .inr ⟨b, off, cap, h1, h0, h2, h3, Nat.lt_of_lt_of_le h4 hb.size, fun j x hx => (hb.cell (p := ⟨b, off + j, none⟩) (by exact Nat.lt_of_lt_of_le h4 hB)).trans (h5 j x hx)⟩
theorem RdB.form {w : World} {v : Value} {bs : List UInt8} (h : RdB w v bs) : ∃ a cap, v = .slice a bs.length cap ∧ bs.length ≤ cap ∧ cap ≤ 9223372036854775807 := by
 rcases h with ⟨a, c, rfl, hc, rfl⟩ | ⟨b, off, cap, rfl, h0, h1, h2, _, _⟩
 ·exact ⟨a, c, rfl, Nat.zero_le _, hc⟩
 ·exact ⟨_, cap, rfl, h1, h2⟩
structure Keeps (F : Nat → Prop) (w w' : World) : Prop where
 os : w'.os = w.os
 tape : w'.tape = w.tape
 output : w'.output = w.output
 size : w.heap.size ≤ w'.heap.size
 block : ∀ k, k < w.heap.size → ¬ F k → w'.heap[k]? = w.heap[k]?
theorem Keeps.refl (F : Nat → Prop) (w : World) : Keeps F w w := ⟨rfl, rfl, rfl, Nat.le_refl _, fun _ _ _ => rfl⟩
theorem Keeps.go {F G : Nat → Prop} {a w w' : World} (h : Keeps F a w) (k : Keeps G w w') (hG : ∀ i, G i → F i ∨ a.heap.size ≤ i) : Keeps F a w' :=
 ⟨k.os.trans h.os, k.tape.trans h.tape, k.output.trans h.output, Nat.le_trans h.size k.size, fun i hi hF =>
  (k.block i (Nat.lt_of_lt_of_le hi h.size) (fun g => (hG i g).elim hF (fun q => by omega))).trans (h.block i hi hF)⟩
theorem Keeps.trans {F : Nat → Prop} {a w w' : World} (h : Keeps F a w) (k : Keeps F w w') : Keeps F a w' := h.go k fun _ => Or.inl
theorem Keeps.mono {F G : Nat → Prop} {w w' : World} (h : Keeps F w w') (hG : ∀ i, i < w.heap.size → F i → G i) : Keeps G w w' :=
 ⟨h.os, h.tape, h.output, h.size, fun i hi hF => h.block i hi fun f => hF (hG i hi f)⟩
theorem Keeps.ofBelow {w w' : World} {F : Nat → Prop} (h : Below w.heap.size w w') : Keeps F w w' := ⟨h.os, h.tape, h.output, h.size, fun i hi _ => h.block i hi⟩
theorem Keeps.below {F : Nat → Prop} {B : Nat} {w w' : World} (h : Keeps F w w') (hF : ∀ i, F i → B ≤ i) (hB : B ≤ w.heap.size) : Below B w w' :=
 ⟨h.os, h.tape, h.output, h.size, fun k hk => h.block k (by omega) fun f => by have := hF k f; omega⟩
theorem Keeps.alloc (F : Nat → Prop) (w : World) (o : Obj) : Keeps F w (w.alloc o) := ⟨rfl, rfl, rfl, by simp, fun k hk _ => Below.heap_alloc w o k hk⟩
theorem Keeps.drew (F : Nat → Prop) (w : World) : Keeps F w w.drew := ⟨rfl, rfl, rfl, Nat.le_refl _, fun _ _ _ => rfl⟩
theorem Keeps.setCell {F : Nat → Prop} (w : World) (p : Addr) (u : Value) (hp : F p.block) : Keeps F w (w.setCell p u) :=
 ⟨rfl, rfl, rfl, by simp [World.setCell], fun k _ hF => Below.heap_setCell _ _ _ _ (fun e => hF (e ▸ hp))⟩
theorem Keeps.grown {w w' : World} {row : Option Nat} (hg : w.grownBy w' row) : Keeps (fun k => row = some k) w w' :=
 ⟨hg.os, hg.tape, hg.output, hg.size, fun k hk hF => hg.block k hk (fun e => hF e.symm)⟩
theorem Keeps.heap {F : Nat → Prop} {w w' : World} (h : Keeps F w w') {k : Nat} {o : Obj} (hk : w.heap[k]? = some o) (hF : ¬ F k) : w'.heap[k]? = some o :=
 (h.block k (Array.getElem?_eq_some_iff.1 hk).1 hF).trans hk
theorem Keeps.cell {F : Nat → Prop} {w w' : World} (h : Keeps F w w') {k o : Nat} {v : Value} (hF : ¬ F k) (hc : w.cell? ⟨k, o, none⟩ = some v) : w'.cell? ⟨k, o, none⟩ = some v :=
 (World.cell?_of_block (h.block k (World.block_lt_of_cell? w ⟨k, o, none⟩ hc) hF)).trans hc
theorem own_keeps {F : Nat → Prop} {w w' : World} {base : Nat} {e : TypeId} {size : Nat} {v : Value} {n : Nat} {xs : List Value} (h : w.ownsRow base e size v n xs) (hk : Keeps F w w') (hF : ∀ k, v.ownBlock = some k → ¬ F k) : w'.ownsRow base e size v n xs := by
 obtain ⟨h1, h2 | ⟨g, cap, cur, hv, hg, hh, r⟩⟩ := h
 ·exact ⟨h1, .inl h2⟩
 ·exact ⟨h1, .inr ⟨g, cap, cur, hv, hg, hk.heap hh (hF g (by rw [hv]; rfl)), r⟩⟩
theorem own_mono {w : World} {base base' : Nat} {e : TypeId} {size : Nat} {v : Value} {n : Nat} {xs : List Value} (h : w.ownsRow base e size v n xs) (hb : base' ≤ base) : w.ownsRow base' e size v n xs := by
 obtain ⟨h1, h2 | ⟨g, cap, cur, hv, hg, r⟩⟩ := h
 ·exact ⟨h1, .inl h2⟩
 ·exact ⟨h1, .inr ⟨g, cap, cur, hv, Nat.le_trans hb hg, r⟩⟩
theorem own_below {w w' : World} {B base : Nat} {e : TypeId} {size : Nat} {v : Value} {n : Nat} {xs : List Value} (h : w.ownsRow base e size v n xs) (hb : Below B w w') (hB : w.heap.size ≤ B) : w'.ownsRow base e size v n xs :=
 own_keeps (F := fun _ => False) h ⟨hb.os, hb.tape, hb.output, hb.size, fun k hk _ => hb.block k (by omega)⟩ (fun _ _ => id)
theorem own_base {w : World} {base : Nat} {e : TypeId} {size : Nat} {v : Value} {n : Nat} {xs : List Value} (h : w.ownsRow base e size v n xs) : ∀ k, v.ownBlock = some k → base ≤ k := fun k hk => (h.lt k hk).1
theorem RdB.keeps {F : Nat → Prop} {w w' : World} {v : Value} {bs : List UInt8} (h : RdB w v bs) (hk : Keeps F w w') (hF : ∀ k, v.ownBlock = some k → ¬ F k) : RdB w' v bs := by
 rcases h with ⟨a, c, h1, h2⟩ | ⟨b, off, cap, h1, h0, h2, h3, h4, h5⟩
 ·exact .inl ⟨a, c, h1, h2⟩
 ·exact .inr ⟨b, off, cap, h1, h0, h2, h3, Nat.lt_of_lt_of_le h4 hk.size, fun j x hx => (World.cell?_of_block (hk.block b h4 (hF b (by rw [h1]; rfl)))).trans (h5 j x hx)⟩
theorem ret_bool {a b : Bool} (h : b = a) : Ending.returned (.bool a) = .returned (.bool b) := by rw [h]
theorem below_cell {W w1 : World} (hb : Below W.heap.size W w1) : (∀ b o, b < W.heap.size → w1.cell? ⟨b, o, none⟩ = W.cell? ⟨b, o, none⟩) ∧ (∀ b o, b < W.heap.size → w1.frozen? ⟨b, o, none⟩ = W.frozen? ⟨b, o, none⟩) :=
 ⟨fun b o h => hb.cell (p := ⟨b, o, none⟩) h, fun b o h => hb.frozen (p := ⟨b, o, none⟩) h⟩
theorem heap_setRow_other (w : World) (g k : Nat) (cs : Array Value) (h : k ≠ g) : (w.setRow g cs).heap[k]? = w.heap[k]? := by
 simp only [World.setRow, Array.getElem?_modify]
 rw [if_neg (fun e => h e.symm)]
theorem below_setRow {B : Nat} {a w : World} (h : Below B a w) {g : Nat} (hg : B ≤ g) (cs : Array Value) : Below B a (w.setRow g cs) :=
 h.trans ⟨rfl, rfl, rfl, by simp, fun k hk => heap_setRow_other _ _ _ _ (by omega)⟩
theorem ofInt_toNat {n : Nat} (x : BitVec n) : BitVec.ofInt n (x.toNat : Int) = x := by simp
theorem wrap_u32 (x : BitVec 32) : IntKind.u32.wrap (x.toNat : Int) = (x.toNat : Int) := by rw [IntKind.wrap_u32]; have := x.isLt; omega
theorem bits_xor32 (x y : BitVec 32) : bits .xor .u32 (x.toNat : Int) (y.toNat : Int) = ((x ^^^ y).toNat : Int) := by
 unfold bits
 simp only [IntKind.bits, ofInt_toNat]
 exact wrap_u32 _
theorem bits_and32 (x y : BitVec 32) : bits .and .u32 (x.toNat : Int) (y.toNat : Int) = ((x &&& y).toNat : Int) := by
 unfold bits
 simp only [IntKind.bits, ofInt_toNat]
 exact wrap_u32 _
theorem wrap_u8 (x : BitVec 8) : IntKind.u8.wrap (x.toNat : Int) = (x.toNat : Int) := by rw [IntKind.wrap_u8]; have := x.isLt; omega
theorem bits_xor8 (x y : UInt8) : bits .xor .u8 (x.toNat : Int) (y.toNat : Int) = ((x ^^^ y).toNat : Int) := by
 unfold bits
 have h : ∀ z : UInt8, (z.toNat : Int) = (z.toBitVec.toNat : Int) := fun _ => rfl
 rw [h x, h y]
 simp only [IntKind.bits, ofInt_toNat]
 exact wrap_u8 _
theorem bits_and8 (x y : UInt8) : bits .and .u8 (x.toNat : Int) (y.toNat : Int) = ((x &&& y).toNat : Int) := by
 unfold bits
 have h : ∀ z : UInt8, (z.toNat : Int) = (z.toBitVec.toNat : Int) := fun _ => rfl
 rw [h x, h y]
 simp only [IntKind.bits, ofInt_toNat]
 exact wrap_u8 _
theorem u8_bit (x : UInt8) (j : Nat) : (bits .and .u8 ((x.toNat : Int) / 2 ^ j) 1 == 1) = x.toNat.testBit j := by
 have h1 : ((x.toNat : Int) / 2 ^ j) = ((UInt8.ofNat (x.toNat / 2 ^ j)).toNat : Int) := by
  have hx := x.toNat_lt
  have : x.toNat / 2 ^ j ≤ x.toNat := Nat.div_le_self _ _
  rw [UInt8.toNat_ofNat', Nat.mod_eq_of_lt (by omega)]
  simp
 rw [h1, show (1 : Int) = (((1 : UInt8).toNat : Nat) : Int) from rfl, bits_and8, UInt8.toNat_and, UInt8.toNat_ofNat']
 have h2 : x.toNat / 2 ^ j % 2 ^ 8 &&& (1 : UInt8).toNat = x.toNat / 2 ^ j % 2 := by
  show _ &&& 1 = _
  rw [Nat.and_one_is_mod, Nat.mod_mod_of_dvd _ (by decide)]
 rw [h2, Nat.testBit_eq_decide_div_mod_eq]
 have : x.toNat / 2 ^ j % 2 < 2 := Nat.mod_lt _ (by omega)
 generalize x.toNat / 2 ^ j % 2 = m at this
 rcases (by omega : m = 0 ∨ m = 1) with rfl | rfl <;> rfl
theorem own_form {w : World} {base : Nat} {e : TypeId} {size : Nat} {v : Value} {n : Nat} {xs : List Value} (h : w.ownsRow base e size v n xs) (hn : 0 < n) : ∃ g cap, v = .slice (some ⟨g, 0, none⟩) n cap ∧ base ≤ g ∧ g < w.heap.size ∧ n ≤ cap ∧ cap ≤ maxLen := by
 obtain ⟨h1, ⟨_, h2⟩ | ⟨g, cap, cur, hv, hg, hh, hc, hm, _⟩⟩ := h
 ·omega
 ·exact ⟨g, cap, hv, hg, (Array.getElem?_eq_some_iff.1 hh).1, hc, hm⟩
theorem add_at (b o j : Nat) : (⟨b, o, none⟩ : Addr).add j = ⟨b, o + j, none⟩ := by unfold Addr.add; split <;> simp_all
section
variable {P : Program} {t e : TypeId}
theorem run_slice_lh (ht : P.underlying t = some (.slice e)) (hi : (P.info? e).map (·.size) = some 1) (a : Option Addr) (len cap l h : Nat) (hl : l ≤ h) (hh : h ≤ cap) (w : World) :
 (Instr.sliceAt t (.slice a len cap) (some (.int .i64 (l : Int))) (some (.int .i64 (h : Int))) none).run P w = .ok (.slice (if cap = l then a else a.map (·.add l)) (h - l) (cap - l)) w := by
 obtain ⟨i, hi1, hi2⟩ := Option.map_eq_some_iff.1 hi
 simp [Instr.sliceAt, Instr.slice, Instr.sliceBounds, Instr.sliceBound, run_underlying ht, asIntOf, go_sem, hi1, hi2, sizeOf, typeInfo]
 rw [if_pos hh, if_pos hl]
theorem run_slice_h (ht : P.underlying t = some (.slice e)) (hi : (P.info? e).map (·.size) = some 1) (a : Option Addr) (len cap h : Nat) (hh : h ≤ cap) (w : World) :
 (Instr.sliceAt t (.slice a len cap) none (some (.int .i64 (h : Int))) none).run P w = .ok (.slice a h cap) w := by
 obtain ⟨i, hi1, hi2⟩ := Option.map_eq_some_iff.1 hi
 simp [Instr.sliceAt, Instr.slice, Instr.sliceBounds, Instr.sliceBound, run_underlying ht, asIntOf, go_sem, hi1, hi2, sizeOf, typeInfo]
 intro h'; omega
theorem run_slice_hm (ht : P.underlying t = some (.slice e)) (hi : (P.info? e).map (·.size) = some 1) (a : Option Addr) (len cap h : Nat) (hh : h ≤ cap) (w : World) :
 (Instr.sliceAt t (.slice a len cap) none (some (.int .i64 (h : Int))) (some (.int .i64 (h : Int)))).run P w = .ok (.slice a h h) w := by
 obtain ⟨i, hi1, hi2⟩ := Option.map_eq_some_iff.1 hi
 simp [Instr.sliceAt, Instr.slice, Instr.sliceBounds, Instr.sliceBound, run_underlying ht, asIntOf, go_sem, hi1, hi2, sizeOf, typeInfo]
 intro h'; omega
theorem run_slice_l (ht : P.underlying t = some (.slice e)) (hi : (P.info? e).map (·.size) = some 1) (a : Option Addr) (len cap l : Nat) (hl : l ≤ len) (w : World) :
 (Instr.sliceAt t (.slice a len cap) (some (.int .i64 (l : Int))) none none).run P w = .ok (.slice (if cap = l then a else a.map (·.add l)) (len - l) (cap - l)) w := by
 obtain ⟨i, hi1, hi2⟩ := Option.map_eq_some_iff.1 hi
 simp [Instr.sliceAt, Instr.slice, Instr.sliceBounds, Instr.sliceBound, run_underlying ht, asIntOf, go_sem, hi1, hi2, sizeOf, typeInfo]
 intro h'; omega
end
theorem RdB.part {w : World} {a : Option Addr} {len cap : Nat} {bs : List UInt8} (h : RdB w (.slice a len cap) bs) (l k : Nat) (hl : l ≤ k) (hk : k ≤ bs.length) :
 RdB w (.slice (if cap = l then a else a.map (·.add l)) (k - l) (cap - l)) ((bs.take k).drop l) := by
 rcases h with ⟨a', c, hv, hc, rfl⟩ | ⟨b, off, cap', hv, hne, h1, h2, h3, h4⟩
 ·cases hv
  simp at hk
  subst hk
  obtain rfl : l = 0 := by omega
  exact .inl ⟨_, _, rfl, by omega, rfl⟩
 ·cases hv
  by_cases e : l = k
  ·subst e
   exact .inl ⟨_, _, by rw [Nat.sub_self], by omega, by simp⟩
  ·have hcl : cap ≠ l := by omega
   have hlen : ((bs.take k).drop l).length = k - l := by simp [hk]
   refine .inr ⟨b, off + l, cap - l, ?_, ?_, by omega, by omega, h3, fun j x hx => ?_⟩
   ·rw [if_neg hcl, hlen, Option.map_some, add_at]
   ·rw [← List.length_pos_iff]; omega
   ·have hj := (List.getElem?_eq_some_iff.1 hx).1
    rw [List.getElem?_drop, List.getElem?_take, if_pos (by omega)] at hx
    rw [Nat.add_assoc]
    exact h4 (l + j) x hx
theorem RdB.pre {w : World} {a : Option Addr} {len cap : Nat} {bs : List UInt8} (h : RdB w (.slice a len cap) bs) (k : Nat) (hk : k ≤ bs.length) :
 RdB w (.slice a k cap) (bs.take k) := by
 have := h.part 0 k (Nat.zero_le _) hk
 simp only [Nat.sub_zero, List.drop_zero] at this
 have e : (if cap = 0 then a else a.map (·.add 0)) = a := by
  split
  ·rfl
  ·cases a <;> rfl
 rwa [e] at this
theorem rdB_own {w : World} {base g n cap : Nat} {e : TypeId} {bs : List UInt8} (h : w.ownsRow base e 1 (.slice (some ⟨g, 0, none⟩) n cap) n (bs.map u8v)) (hm0 : cap ≤ maxLen) : RdB w (.slice (some ⟨g, 0, none⟩) n cap) bs := by
 by_cases hne : bs = []
 ·subst hne
  have hn : n = 0 := by have := h.1; simpa using this.symm
  subst hn
  exact .inl ⟨_, _, rfl, hm0, rfl⟩
 have hn : n = bs.length := by have := h.1; simpa using this.symm
 subst hn
 obtain ⟨h1, h2 | ⟨g', cap', cur, hv, hg, hh, hc, hm, hs, _⟩⟩ := h
 ·cases h2.1
 ·cases hv
  refine .inr ⟨g, 0, cap, rfl, hne, hc, hm, (Array.getElem?_eq_some_iff.1 hh).1, fun j x hx => ?_⟩
  have := World.ownsRow.cellAt (w := w) (base := base) (e := e) (size := 1) (g := g) (n := bs.length) (cap := cap) (xs := bs.map u8v) ⟨h1, .inr ⟨g, cap, cur, rfl, hg, hh, hc, hm, hs, by assumption⟩⟩ j (by have := (List.getElem?_eq_some_iff.1 hx).1; omega)
  rw [Nat.zero_add, this]; simp [hx]
theorem wrap_u8_shr (x c : Nat) : IntKind.u8.wrap ((x : Int) / 2 ^ c) = ((UInt8.ofNat (x / 2 ^ c)).toNat : Int) := by
 rw [IntKind.wrap_u8, UInt8.toNat_ofNat']; simp
theorem wrap_u8_nat (x : Nat) : IntKind.u8.wrap (x : Int) = ((UInt8.ofNat x).toNat : Int) := by
 rw [IntKind.wrap_u8, UInt8.toNat_ofNat']; rfl
theorem news_new (w : World) (cs : List Value) (e : TypeId) (fr : Nat × Nat) : ∀ j u, cs[j]? = some u → (w.alloc (.cells cs.toArray e fr)).cell? ((⟨w.heap.size, 0, none⟩ : Addr).add j) = some u := by
 intro j u h
 rw [add_at, cell_of_row _ _ _ _ _ _ (heap_alloc_new w _)]
 simpa using h
theorem one_u8 (bs : List UInt8) : ∀ u ∈ bs.map u8v, u.oneCell' = true := by
 intro u hu; obtain ⟨x, _, rfl⟩ := List.mem_map.1 hu; rfl
theorem take_snoc {α : Type} {l : List α} {k : Nat} {x : α} (h : l[k]? = some x) : l.take (k + 1) = l.take k ++ [x] := by
 rw [List.take_add_one, h]; rfl
theorem rdB_row {w : World} {g : Nat} {bs : List UInt8} {t : TypeId} {fr : Nat × Nat} (h : w.heap[g]? = some (.cells (bs.map u8v).toArray t fr)) {cap : Nat} (hc : bs.length ≤ cap) (hc' : cap ≤ 9223372036854775807) : RdB w (.slice (some ⟨g, 0, none⟩) bs.length cap) bs := by
 by_cases hne : bs = []
 ·subst hne; exact .inl ⟨_, _, rfl, hc', rfl⟩
 ·refine .inr ⟨g, 0, cap, rfl, hne, hc, hc', (Array.getElem?_eq_some_iff.1 h).1, fun j x hx => ?_⟩
  rw [cell_of_row _ _ _ _ _ _ h]; simp [hx]
theorem below_drewN {B : Nat} {a w : World} (h : Below B a w) : ∀ n, Below B a (w.drewN n) := fun n => ⟨h.os, h.tape, h.output, h.size, h.block⟩
theorem rdB_lt {w : World} {v : Value} {bs : List UInt8} (h : RdB w v bs) (hne : bs ≠ [] := by simp) : ∀ k, v.ownBlock = some k → k < w.heap.size := by
 rcases h with ⟨_, _, _, _, h⟩ | ⟨b, off, cap, h, _, _, _, h4, _⟩
 ·exact absurd h hne
 ·subst h; intro k hk; cases hk; exact h4
theorem results_row_tmp {P : Program} {fn : Func} {p u : Tmp} {ty : TypeId} (h : fn.results = #[.cell p ty, .tmp u]) (tmps : Array Value) (w : World) (g : Nat) (t : TypeId) (cs : Array Value) (fr : Nat × Nat) (d : TypeDesc)
 (hp : tmps.getD p undef = .pointer (some ⟨g, 0, none⟩)) (hg : w.heap[g]? = some (.cells cs t fr)) (hu : P.underlying ty = some d) (hd : (match d with | .struct _ | .array _ _ => true | _ => false) = true) (hi : (P.info? ty).map (·.size) = some cs.size) :
 (results fn tmps).run P w = .ok (.tuple #[.agg cs, tmps.getD u undef]) w := by
 have hp' : tmps[p]?.getD undef = .pointer (some ⟨g, 0, none⟩) := by simpa using hp
 simp [results, h, hp', asAddr, run_loadVar_row w g t ty cs fr d hg hu hd hi]
theorem own_form0 {w : World} {base : Nat} {e : TypeId} {size : Nat} {v : Value} {n : Nat} {xs : List Value} (h : w.ownsRow base e size v n xs) : ∃ a cap, v = .slice a n cap := by
 obtain ⟨h1, ⟨h2, h3⟩ | ⟨g, cap, cur, hv, _⟩⟩ := h
 ·exact ⟨none, 0, by rw [h2, h3]⟩
 ·exact ⟨_, cap, hv⟩
theorem rdB_of {w : World} {a : Option Addr} {len cap : Nat} {zs : List Int}
 (h : (a = none ∧ len = 0 ∧ cap = 0 ∧ zs = []) ∨
  ∃ x, a = some x ∧ len ≤ cap ∧ cap ≤ maxLen ∧ zs.length = cap ∧ (∀ i, i < zs.length → w.cell? (x.add i) = some (.int .u8 (zs.getD i 0))) ∧ ∀ n ∈ zs, (Lit.int .u8 n).wf = true) :
 ∃ bs, RdB w (.slice a len cap) bs ∧ bs.length = len := by
 rcases h with ⟨rfl, rfl, rfl, rfl⟩ | ⟨x, rfl, hl, hm, hz, hc, hw⟩
 ·exact ⟨[], .inl ⟨none, 0, rfl, by omega, rfl⟩, rfl⟩
 ·by_cases h0 : len = 0
  ·subst h0
   exact ⟨[], .inl ⟨_, cap, rfl, hm, rfl⟩, rfl⟩
  ·refine ⟨(zs.take len).map fun n => UInt8.ofNat n.toNat, ?_, by simp [hz, hl]⟩
   have hlen : ((zs.take len).map fun n => UInt8.ofNat n.toNat).length = len := by simp [hz, hl]
   obtain ⟨b, off, rfl, hc'⟩ := ints_at hc (by omega)
   refine .inr ⟨b, off, cap, by rw [hlen], by rw [← List.length_pos_iff]; omega, by omega, hm, ?_, ?_⟩
   ·exact World.block_lt_of_cell? w ⟨b, off + 0, none⟩ (hc' 0 (by omega))
   ·intro j y hy
    have hj : j < len := by have := (List.getElem?_eq_some_iff.1 hy).1; omega
    rw [hc' j (by omega)]
    simp only [List.getElem?_map, List.getElem?_take, if_pos hj] at hy
    have hjz : j < zs.length := by omega
    rw [List.getElem?_eq_getElem hjz] at hy
    simp only [Option.map_some, Option.some.injEq] at hy
    subst hy
    have hwf := hw zs[j] (List.getElem_mem _)
    obtain ⟨l, u⟩ := bounds_u8 hwf
    rw [List.getD_eq_getElem?_getD, List.getElem?_eq_getElem hjz]
    show some (Value.int .u8 zs[j]) = some (.int .u8 ((UInt8.ofNat zs[j].toNat).toNat : Int))
    rw [UInt8.toNat_ofNat', Nat.mod_eq_of_lt (by omega)]
    congr 2
    omega
def num8 (n : Nat) : List UInt8 := (List.range 8).map fun j => UInt8.ofNat (n / 2 ^ (8 * (7 - j)))
theorem num8_length (n : Nat) : (num8 n).length = 8 := by simp [num8]
theorem num8_get (n j : Nat) (h : j < 8) : (num8 n)[j]? = some (UInt8.ofNat (n / 2 ^ (8 * (7 - j)))) := by simp [num8, h]
theorem infoU8 : (Tryz.prog.info? 5).map (fun i => (i.zero, i.size, i.bytes)) = some (some (.int .u8 0), 1, 1) := by kernel_rfl
structure WrAt (w : World) (b base : Nat) (v : Value) (bs : List UInt8) (bad : Bool) : Prop where
 blk : w.heap[b]? = some (.cells #[v, .bool bad] 167 (0, 0))
 own : w.ownsRow base 5 1 v bs.length (bs.map u8v)
 ne : v.ownBlock ≠ some b
theorem wr_kept {w w2 : World} {b : Nat} {v : Value} {bad : Bool} {o : Obj} (hb : w.heap[b]? = some (.cells #[v, .bool bad] 167 (0, 0))) (hbS : b < w.heap.size) (hg : (w.alloc o).drew.grownBy w2 v.ownBlock) (hne : v.ownBlock ≠ some b) :
 w2.cell? ⟨b, 0, none⟩ = some v ∧ w2.frozen? ⟨b, 0, none⟩ = false ∧ w2.heap[b]? = some (.cells #[v, .bool bad] 167 (0, 0)) := by
 have h : w2.heap[b]? = some (.cells #[v, .bool bad] 167 (0, 0)) := (Keeps.grown hg).heap (k := b) ((Below.heap_alloc w o b hbS).trans hb) hne
 exact ⟨by rw [cell_of_row _ _ _ _ _ _ h]; rfl, by simp [World.frozen?, h], h⟩
theorem wr_step {w wr w2 : World} {b base g cap : Nat} {v v1 : Value} {bs : List UInt8} {x : UInt8} {bad : Bool} {o : Obj} (hW : WrAt wr b base v1 bs bad) (hK : Keeps (fun k => k = b ∨ v.ownBlock = some k) w wr)
 (hat : v1.ownBlock = v.ownBlock ∨ ∃ g, v1.ownBlock = some g ∧ w.heap.size ≤ g) (hbS : b < wr.heap.size) (hg : (wr.alloc o).drew.grownBy w2 v1.ownBlock) (hat2 : v1.ownBlock = some g ∨ g = wr.heap.size + 1)
 (hblk : w2.heap[b]? = some (.cells #[v1, .bool bad] 167 (0, 0))) (hown : w2.ownsRow base 5 1 (.slice (some ⟨g, 0, none⟩) (bs.length + 1) cap) (bs.length + 1) (bs.map u8v ++ [u8v x])) :
 WrAt (w2.setCell ⟨b, 0, none⟩ (.slice (some ⟨g, 0, none⟩) (bs.length + 1) cap)) b base (.slice (some ⟨g, 0, none⟩) (bs.length + 1) cap) (bs ++ [x]) bad ∧
 Keeps (fun k => k = b ∨ v.ownBlock = some k) w (w2.setCell ⟨b, 0, none⟩ (.slice (some ⟨g, 0, none⟩) (bs.length + 1) cap)) ∧
 ((Value.slice (some ⟨g, 0, none⟩) (bs.length + 1) cap).ownBlock = v.ownBlock ∨ ∃ g', (Value.slice (some ⟨g, 0, none⟩) (bs.length + 1) cap).ownBlock = some g' ∧ w.heap.size ≤ g') := by
 have hgb : g ≠ b := by
  rcases hat2 with h | h
  ·intro e; subst e; exact hW.ne h
  ·omega
 have hsz := hK.size
 refine ⟨⟨heap_setCell_same _ _ 0 _ _ _ hblk, ?_, fun e => hgb (by cases e; rfl)⟩, ?_, ?_⟩
 ·have e1 : (bs ++ [x]).length = bs.length + 1 := by simp
  have e2 : (bs ++ [x]).map u8v = bs.map u8v ++ [u8v x] := by simp
  rw [e1, e2]
  exact own_keeps hown (Keeps.setCell (F := fun k => k = b) _ ⟨b, 0, none⟩ _ rfl) (fun k hk e => hgb (by cases hk; exact e))
 ·refine (((hK.go (Keeps.alloc (fun _ => False) wr o) (fun _ h => h.elim)).go (Keeps.drew (fun _ => False) _) (fun _ h => h.elim)).go (Keeps.grown hg) ?_).go (Keeps.setCell (F := fun k => k = b) _ ⟨b, 0, none⟩ _ rfl) (fun k h => .inl (.inl h))
  intro k hk
  rcases hat with h | ⟨g', h, h'⟩
  ·exact .inl (.inr (h ▸ hk))
  ·right; rw [h] at hk; cases hk; exact h'
 ·rcases hat2 with h | h
  ·rcases hat with h1 | ⟨g', h1, h2⟩
   ·exact .inl (by show some g = _; rw [← h1, h])
   ·exact .inr ⟨g, rfl, by rw [h] at h1; cases h1; exact h2⟩
  ·exact .inr ⟨g, rfl, by omega⟩
def WrDone (w : World) (b base : Nat) (v : Value) (bs : List UInt8) (bad : Bool) (e : Ending) (w' : World) : Prop :=
 ∃ v', e = .returned (.tuple #[]) ∧ WrAt w' b base v' bs bad ∧ Keeps (fun k => k = b ∨ v.ownBlock = some k) w w' ∧ (v'.ownBlock = v.ownBlock ∨ ∃ g, v'.ownBlock = some g ∧ w.heap.size ≤ g)
set_option maxRecDepth 100000 in
set_option maxHeartbeats 400000 in
theorem wNum_good (b base : Nat) (v : Value) (bs : List UInt8) (bad : Bool) (n : Nat) (w : World) (hW : WrAt w b base v bs bad) (hn : n ≤ 4611686018427387904) (hbase : base ≤ w.heap.size) (hlen : bs.length + 8 ≤ 1099511627776) :
 Calls Tryz.prog 117 #[.pointer (some ⟨b, 0, none⟩), .int .i64 n] w (WrDone w b base v (bs ++ num8 n) bad) := by
 obtain ⟨i0, hi, hz0, hz1, hz2⟩ := info_parts infoU8
 go_enter Tryz.func117, Tryz.ntmps117
 go_wp2
 go_loopw [4] (fun i wr => ∃ (j : Nat) (v1 : Value), j ≤ 8 ∧ i = .int .i64 (7 - (j : Int)) ∧ WrAt wr b base v1 (bs ++ (num8 n).take j) bad ∧ Keeps (fun k => k = b ∨ v.ownBlock = some k) w wr ∧ (v1.ownBlock = v.ownBlock ∨ ∃ g, v1.ownBlock = some g ∧ w.heap.size ≤ g)) (fun i _ => (intOf i + 1).toNat)
 case atStart => exact ⟨0, v, by omega, rfl, by simpa using hW, Keeps.refl _ _, .inl rfl⟩
 case round =>
  obtain ⟨j, v1, hj, rfl, hW1, hK, hat⟩ := hrel
  by_cases hlt : j < 8
  ·have hlen' : (bs ++ (num8 n).take j).length ≤ bs.length + 8 := by simp [num8_length]; omega
   have htake : bs ++ (num8 n).take (j + 1) = (bs ++ (num8 n).take j) ++ [UInt8.ofNat (n / 2 ^ (8 * (7 - j)))] := by rw [List.append_assoc]; congr 1; exact take_snoc (num8_get n j hlt)
   generalize bs ++ (num8 n).take j = cs at hW1 hlen' htake
   have hb := hW1.blk
   have hc0 : wr.cell? ⟨b, 0, none⟩ = some v1 := by rw [cell_of_row _ _ _ _ _ _ hb]; rfl
   have hf0 : wr.frozen? ⟨b, 0, none⟩ = false := by simp [World.frozen?, hb]
   have hown := hW1.own
   obtain ⟨m, hm⟩ : ∃ m : Nat, 7 - j = m := ⟨_, rfl⟩
   have hmI : (7 : Int) - (j : Int) = (m : Int) := by omega
   rw [hm] at htake
   obtain ⟨s, hs⟩ : ∃ s, 8 * m = s := ⟨_, rfl⟩
   have hw8 : IntKind.i64.wrap (8 * (m : Int)) = (s : Int) := by rw [IntWalk.i64_in _ (by omega)]; omega
   rw [hs] at htake
   have hms : min s 64 = s := by omega
   have hu8 := wrap_u8_shr n s
   generalize UInt8.ofNat (n / 2 ^ s) = x at hu8 htake
   have Htake := Lib.hid htake
   clear htake hs hm
   have h63 : cs.length + 1 ≤ maxLen := by unfold maxLen; omega
   have h47 : (cs.length + 1) * 1 ≤ 140737488355328 := by omega
   have hbs : base ≤ (wr.alloc (.cells [u8v x].toArray 5)).drew.heap.size := by have := hK.size; simp; omega
   have hownA : (wr.alloc (.cells #[u8v x] 5)).drew.ownsRow base 5 1 v1 cs.length (cs.map u8v) := World.ownsRow.alloc hown _
   have Hsz : Hid ((wr.alloc (.cells #[u8v x] 5)).drew.heap.size = wr.heap.size + 1) := by show _ = _; simp
   have hbS := (Array.getElem?_eq_some_iff.1 hb).1
   have hne1 := hW1.ne
   have hnewsA := Lib.hid (news_new wr [u8v x] 5 (0, 0))
   rw [hmI]
   go_wp2
   go_region_law (go_must (refine step_append_lies (wr.alloc (.cells #[u8v x] 5)).drew rfl (.tmp 24) (.tmp 30) 22 rfl base 5 i0 (.int .u8 0) 1 1 Tryz.underlying22 hi hz0 hz1 hz2 rfl (by decide) v1 cs.length (cs.map u8v) (by rfl) hownA ⟨wr.heap.size, 0, none⟩ 1 1 [u8v x] (by rfl) rfl hnewsA.out (one_u8 [x]) (by decide) h63 h47 hbs (wr.heap.size + 1) Hsz.out ?_); rintro g cap w2 hown2 hg2 hat2 hlt2; have hblk2 := wr_kept hb hbS hg2 hne1; have hc2 := hblk2.1; have hf2 := hblk2.2.1)
   all_goals
    have hst := wr_step hW1 hK hat hbS hg2 hat2 hblk2.2.2 hown2
    rw [← Htake.out] at hst
    go_wp2
    go_roundw
    case rel => exact ⟨j + 1, _, by omega, by congr 1; omega, hst⟩
    case measure => simp [intOf] <;> omega
  ·have hj8 : j = 8 := by omega
   subst hj8
   rw [List.take_of_length_le (by rw [num8_length]; omega)] at hW1
   go_wp2
   go_end0
   exact ⟨v1, rfl, hW1, hK, hat⟩
def CloneDone (w : World) (bs : List UInt8) (e : Ending) (w' : World) : Prop :=
 ∃ v', e = .returned v' ∧ w'.ownsRow w.heap.size 5 1 v' bs.length (bs.map u8v) ∧ Below w.heap.size w w'
set_option maxRecDepth 100000 in
set_option maxHeartbeats 400000 in
theorem clone_calls (v : Value) (bs : List UInt8) (w : World) (hv : RdB w v bs) (hlen : bs.length ≤ 140737488355328) :
 Calls Tryz.prog 71 #[v] w (CloneDone w bs) := by
 obtain ⟨i0, hi, hz0, hz1, hz2⟩ := info_parts infoU8
 obtain ⟨a, cap, rfl, hl, hc⟩ := hv.form
 cases a with
 | none =>
  have hbs : bs = [] := by
   rcases hv with ⟨_, _, _, _, h⟩ | ⟨b, off, cap', h, _⟩
   ·exact h
   ·cases h
  subst hbs
  have hnil := fun w => Lib.run_eql_slice_nil (P := Tryz.prog) w 22 5 none 0 cap 0 0 Tryz.underlying22
  go_enter Tryz.func71, Tryz.ntmps71
  go_wp2
  go_ret
  exact ⟨_, rfl, World.ownsRow_nil _ _ _ _, Below.refl _ _⟩
 | some ad =>
  have hnil := fun w => Lib.run_eql_slice_nil (P := Tryz.prog) w 22 5 (some ad) bs.length cap 0 0 Tryz.underlying22
  have hown0 : (w.alloc (.cells #[] 5)).ownsRow w.heap.size 5 1 (.slice (some ⟨w.heap.size, 0, none⟩) 0 0) 0 [] := World.ownsRow_lit w #[] 0 (Nat.le_refl _) (by decide) rfl
  have hnews : ∀ j u, (bs.map u8v)[j]? = some u → (w.alloc (.cells #[] 5)).cell? (ad.add j) = some u := by
   rcases hv with ⟨_, _, _, _, h⟩ | ⟨b, off, cap', h, _, _, _, hbw, hcell⟩
   ·subst h; intro j u h; cases h
   ·cases h
    intro j u hu
    rw [List.getElem?_map] at hu
    obtain ⟨x, hx, rfl⟩ := Option.map_eq_some_iff.1 hu
    rw [add_at]
    exact (Below.cell (B := w.heap.size) ((Below.refl _ _).alloc (Nat.le_refl _) _) (p := ⟨b, off + j, none⟩) hbw).trans (hcell j x hx)
  have hnewsL : (bs.map u8v).length = bs.length * 1 := by simp
  have h63 : 0 + bs.length ≤ maxLen := by unfold maxLen; omega
  have h47 : (0 + bs.length) * 1 ≤ 140737488355328 := by omega
  have hbs : w.heap.size ≤ (w.alloc (.cells #[] 5)).heap.size := by simp
  go_enter Tryz.func71, Tryz.ntmps71
  go_wp2_with (at_builtin; go_must (refine wpList_append_own _ rfl (.tmp 5) (.tmp 6) 22 rfl w.heap.size 5 i0 (.int .u8 0) 1 1 Tryz.underlying22 hi hz0 hz1 hz2 rfl (by decide) _ _ _ rfl hown0 ad bs.length cap (bs.map u8v) rfl hnewsL hnews (one_u8 bs) h63 h47 hbs ?_); rintro v1 w1 hown1 hg1 _)
  have hbel : Below w.heap.size w w1 := ((Below.refl _ _).alloc (Nat.le_refl _) _).grown hg1 (by simp) (fun k hk => by cases hk; exact Nat.le_refl _)
  go_ret
  exact ⟨_, rfl, by simpa using hown1, hbel⟩
def OutDone (w : World) (bs : List UInt8) (e : Ending) (w' : World) : Prop :=
 ∃ v', e = .returned (.tuple #[v', .bool true]) ∧ w'.ownsRow w.heap.size 5 1 v' bs.length (bs.map u8v) ∧ Below w.heap.size w w'
theorem rdB_ofOwn {w : World} {base : Nat} {v : Value} {n : Nat} {bs : List UInt8} (h : w.ownsRow base 5 1 v n (bs.map u8v)) : RdB w v bs := by
 have hn : n = bs.length := by have := h.1; simpa using this.symm
 obtain ⟨h1, ⟨h2, h3⟩ | ⟨g, cap, cur, hv, hg, hh, hc, hm, hs, ht⟩⟩ := h
 ·subst h2
  have : bs = [] := by rw [← List.length_eq_zero_iff]; omega
  exact .inl ⟨none, 0, rfl, by omega, this⟩
 ·subst hv
  exact rdB_own ⟨h1, .inr ⟨g, cap, cur, rfl, hg, hh, hc, hm, hs, ht⟩⟩ hm
set_option maxRecDepth 100000 in
set_option maxHeartbeats 400000 in
theorem wOut_calls (b base : Nat) (v : Value) (bs : List UInt8) (w : World) (hW : WrAt w b base v bs false) (hlen : bs.length ≤ 140737488355328) :
 Calls Tryz.prog 118 #[.pointer (some ⟨b, 0, none⟩)] w (OutDone w bs) := by
 have hb := hW.blk
 have hc0 : w.cell? ⟨b, 0, none⟩ = some v := by rw [cell_of_row _ _ _ _ _ _ hb]; rfl
 have hc1 : w.cell? ⟨b, 1, none⟩ = some (.bool false) := by rw [cell_of_row _ _ _ _ _ _ hb]; rfl
 have hr := rdB_ofOwn hW.own
 go_enter Tryz.func118, Tryz.ntmps118
 go_wp2_with fail
 refine (clone_calls _ _ _ hr hlen).mono ?_; rintro e w1 ⟨v', rfl, hown, hbel⟩
 go_wp2
 go_ret2
 exact ⟨v', rfl, hown, hbel⟩
end Go.Proofs.YtffnbkmigapmjaaGreatDoor
