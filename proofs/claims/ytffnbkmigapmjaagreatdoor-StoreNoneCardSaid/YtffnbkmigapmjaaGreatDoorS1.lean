/-
  Words that all walks of this claim share: bytes in memory, whole numbers of 32 bits, worlds that only grow.
-/
import Derived.WalkKit
import Derived.KernelRfl
import Derived.Lib.Hide
import Derived.OpenShut
import Derived.Deep.AppendLies
import Derived.Deep.QuietTactic
set_option linter.unusedSimpArgs false
set_option linter.unusedVariables false
namespace Go.Proofs.YtffnbkmigapmjaaGreatDoor
open Go.RowKit
/-- A byte as a value. -/
abbrev u8v (x : UInt8) : Value := .int .u8 (x.toNat : Int)
/-- A number of 32 bits as a value. -/
abbrev u32v (c : BitVec 32) : Value := .int .u32 (c.toNat : Int)
/-- The slice value v holds the bytes bs. -/
def RdB (w : World) (v : Value) (bs : List UInt8) : Prop :=
  (∃ a c, v = .slice a 0 c ∧ c ≤ 9223372036854775807 ∧ bs = []) ∨ ∃ b off cap, v = .slice (some ⟨b, off, none⟩) bs.length cap ∧ bs ≠ [] ∧ bs.length ≤ cap ∧ cap ≤ 9223372036854775807 ∧ b < w.heap.size ∧ ∀ j x, bs[j]? = some x → w.cell? ⟨b, off + j, none⟩ = some (u8v x)
theorem RdB.below {B : Nat} {w w' : World} {v : Value} {bs : List UInt8} (h : RdB w v bs) (hB : w.heap.size ≤ B) (hb : Below B w w') : RdB w' v bs := by
  rcases h with ⟨a, c, h1, h2⟩ | ⟨b, off, cap, h1, h0, h2, h3, h4, h5⟩
  · exact .inl ⟨a, c, h1, h2⟩
  · exact .inr ⟨b, off, cap, h1, h0, h2, h3, Nat.lt_of_lt_of_le h4 hb.size, fun j x hx => (hb.cell (p := ⟨b, off + j, none⟩) (by exact Nat.lt_of_lt_of_le h4 hB)).trans (h5 j x hx)⟩
theorem RdB.form {w : World} {v : Value} {bs : List UInt8} (h : RdB w v bs) : ∃ a cap, v = .slice a bs.length cap ∧ bs.length ≤ cap ∧ cap ≤ 9223372036854775807 := by
  rcases h with ⟨a, c, rfl, hc, rfl⟩ | ⟨b, off, cap, rfl, h0, h1, h2, _, _⟩
  · exact ⟨a, c, rfl, Nat.zero_le _, hc⟩
  · exact ⟨_, cap, rfl, h1, h2⟩
/-- w' is w with new blocks, and of the old ones only those of F may have turned. -/
structure Keeps (F : Nat → Prop) (w w' : World) : Prop where
  os : w'.os = w.os
  tape : w'.tape = w.tape
  output : w'.output = w.output
  size : w.heap.size ≤ w'.heap.size
  block : ∀ k, k < w.heap.size → ¬ F k → w'.heap[k]? = w.heap[k]?
theorem Keeps.refl (F : Nat → Prop) (w : World) : Keeps F w w := ⟨rfl, rfl, rfl, Nat.le_refl _, fun _ _ _ => rfl⟩
/-- One step more: what it may turn is of F, or is new. -/
theorem Keeps.go {F G : Nat → Prop} {a w w' : World} (h : Keeps F a w) (k : Keeps G w w') (hG : ∀ i, G i → F i ∨ a.heap.size ≤ i) : Keeps F a w' :=
  ⟨k.os.trans h.os, k.tape.trans h.tape, k.output.trans h.output, Nat.le_trans h.size k.size, fun i hi hF =>
    (k.block i (Nat.lt_of_lt_of_le hi h.size) (fun g => (hG i g).elim hF (fun q => by omega))).trans (h.block i hi hF)⟩
theorem Keeps.trans {F : Nat → Prop} {a w w' : World} (h : Keeps F a w) (k : Keeps F w w') : Keeps F a w' := h.go k fun _ => Or.inl
theorem Keeps.mono {F G : Nat → Prop} {w w' : World} (h : Keeps F w w') (hG : ∀ i, i < w.heap.size → F i → G i) : Keeps G w w' :=
  ⟨h.os, h.tape, h.output, h.size, fun i hi hF => h.block i hi fun f => hF (hG i hi f)⟩
theorem Keeps.ofBelow {w w' : World} {F : Nat → Prop} (h : Below w.heap.size w w') : Keeps F w w' := ⟨h.os, h.tape, h.output, h.size, fun i hi _ => h.block i hi⟩
theorem Keeps.below {F : Nat → Prop} {B : Nat} {w w' : World} (h : Keeps F w w') (hF : ∀ i, F i → B ≤ i) (hB : B ≤ w.heap.size) : Below B w w' :=
  ⟨h.os, h.tape, h.output, h.size, fun k hk => h.block k (by omega) fun f => by have := hF k f; omega⟩
theorem Keeps.alloc (F : Nat → Prop) (w : World) (o : Obj) : Keeps F w (w.alloc o) := ⟨rfl, rfl, rfl, by simp, fun k hk _ => Below.heap_alloc w o k hk⟩
theorem Keeps.drew (F : Nat → Prop) (w : World) : Keeps F w w.drew := ⟨rfl, rfl, rfl, Nat.le_refl _, fun _ _ _ => rfl⟩
theorem Keeps.setCell {F : Nat → Prop} (w : World) (p : Addr) (u : Value) (hp : F p.block) : Keeps F w (w.setCell p u) :=
  ⟨rfl, rfl, rfl, by simp [World.setCell], fun k _ hF => Below.heap_setCell _ _ _ _ (fun e => hF (e ▸ hp))⟩
theorem Keeps.grown {w w' : World} {row : Option Nat} (hg : w.grownBy w' row) : Keeps (fun k => row = some k) w w' :=
  ⟨hg.os, hg.tape, hg.output, hg.size, fun k hk hF => hg.block k hk (fun e => hF e.symm)⟩
theorem Keeps.heap {F : Nat → Prop} {w w' : World} (h : Keeps F w w') {k : Nat} {o : Obj} (hk : w.heap[k]? = some o) (hF : ¬ F k) : w'.heap[k]? = some o :=
  (h.block k (Array.getElem?_eq_some_iff.1 hk).1 hF).trans hk
theorem Keeps.cell {F : Nat → Prop} {w w' : World} (h : Keeps F w w') {k o : Nat} {v : Value} (hF : ¬ F k) (hc : w.cell? ⟨k, o, none⟩ = some v) : w'.cell? ⟨k, o, none⟩ = some v :=
  (World.cell?_of_block (h.block k (World.block_lt_of_cell? w ⟨k, o, none⟩ hc) hF)).trans hc
/-- A row that is owned, where its block did not turn. -/
theorem own_keeps {F : Nat → Prop} {w w' : World} {base : Nat} {e : TypeId} {size : Nat} {v : Value} {n : Nat} {xs : List Value} (h : w.ownsRow base e size v n xs) (hk : Keeps F w w') (hF : ∀ k, v.ownBlock = some k → ¬ F k) : w'.ownsRow base e size v n xs := by
  obtain ⟨h1, h2 | ⟨g, cap, cur, hv, hg, hh, r⟩⟩ := h
  · exact ⟨h1, .inl h2⟩
  · exact ⟨h1, .inr ⟨g, cap, cur, hv, hg, hk.heap hh (hF g (by rw [hv]; rfl)), r⟩⟩
theorem own_mono {w : World} {base base' : Nat} {e : TypeId} {size : Nat} {v : Value} {n : Nat} {xs : List Value} (h : w.ownsRow base e size v n xs) (hb : base' ≤ base) : w.ownsRow base' e size v n xs := by
  obtain ⟨h1, h2 | ⟨g, cap, cur, hv, hg, r⟩⟩ := h
  · exact ⟨h1, .inl h2⟩
  · exact ⟨h1, .inr ⟨g, cap, cur, hv, Nat.le_trans hb hg, r⟩⟩
theorem own_below {w w' : World} {B base : Nat} {e : TypeId} {size : Nat} {v : Value} {n : Nat} {xs : List Value} (h : w.ownsRow base e size v n xs) (hb : Below B w w') (hB : w.heap.size ≤ B) : w'.ownsRow base e size v n xs :=
  own_keeps (F := fun _ => False) h ⟨hb.os, hb.tape, hb.output, hb.size, fun k hk _ => hb.block k (by omega)⟩ (fun _ _ => id)
theorem own_base {w : World} {base : Nat} {e : TypeId} {size : Nat} {v : Value} {n : Nat} {xs : List Value} (h : w.ownsRow base e size v n xs) : ∀ k, v.ownBlock = some k → base ≤ k := fun k hk => (h.lt k hk).1
theorem RdB.keeps {F : Nat → Prop} {w w' : World} {v : Value} {bs : List UInt8} (h : RdB w v bs) (hk : Keeps F w w') (hF : ∀ k, v.ownBlock = some k → ¬ F k) : RdB w' v bs := by
  rcases h with ⟨a, c, h1, h2⟩ | ⟨b, off, cap, h1, h0, h2, h3, h4, h5⟩
  · exact .inl ⟨a, c, h1, h2⟩
  · exact .inr ⟨b, off, cap, h1, h0, h2, h3, Nat.lt_of_lt_of_le h4 hk.size, fun j x hx => (World.cell?_of_block (hk.block b h4 (hF b (by rw [h1]; rfl)))).trans (h5 j x hx)⟩
theorem ret_bool {a b : Bool} (h : b = a) : Ending.returned (.bool a) = .returned (.bool b) := by rw [h]
theorem ret_tuple2 {a b c d : Value} (h : a = c) (k : b = d) : Ending.returned (.tuple #[a, b]) = .returned (.tuple #[c, d]) := by rw [h, k]
theorem ret_int {k : IntKind} {a b : Int} (h : a = b) : Ending.returned (.int k a) = .returned (.int k b) := by rw [h]
theorem below_cell {W w1 : World} (hb : Below W.heap.size W w1) : (∀ b o, b < W.heap.size → w1.cell? ⟨b, o, none⟩ = W.cell? ⟨b, o, none⟩) ∧ (∀ b o, b < W.heap.size → w1.frozen? ⟨b, o, none⟩ = W.frozen? ⟨b, o, none⟩) :=
  ⟨fun b o h => hb.cell (p := ⟨b, o, none⟩) h, fun b o h => hb.frozen (p := ⟨b, o, none⟩) h⟩
theorem heap_setRow_other (w : World) (g k : Nat) (cs : Array Value) (h : k ≠ g) : (w.setRow g cs).heap[k]? = w.heap[k]? := by
  simp only [World.setRow, Array.getElem?_modify]
  rw [if_neg (fun e => h e.symm)]
theorem below_setRow {B : Nat} {a w : World} (h : Below B a w) {g : Nat} (hg : B ≤ g) (cs : Array Value) : Below B a (w.setRow g cs) :=
  h.trans ⟨rfl, rfl, rfl, by simp, fun k hk => heap_setRow_other _ _ _ _ (by omega)⟩
theorem ofInt_toNat {n : Nat} (x : BitVec n) : BitVec.ofInt n (x.toNat : Int) = x := by simp
theorem wrap_u32 (x : BitVec 32) : IntKind.u32.wrap (x.toNat : Int) = (x.toNat : Int) := by rw [IntKind.wrap_u32]; have := x.isLt; omega
theorem bits_xor32 (x y : BitVec 32) : bits .xor .u32 (x.toNat : Int) (y.toNat : Int) = ((x ^^^ y).toNat : Int) := by
  unfold bits
  simp only [IntKind.bits, ofInt_toNat]
  exact wrap_u32 _
theorem bits_and32 (x y : BitVec 32) : bits .and .u32 (x.toNat : Int) (y.toNat : Int) = ((x &&& y).toNat : Int) := by
  unfold bits
  simp only [IntKind.bits, ofInt_toNat]
  exact wrap_u32 _
theorem bits_or32 (x y : BitVec 32) : bits .or .u32 (x.toNat : Int) (y.toNat : Int) = ((x ||| y).toNat : Int) := by
  unfold bits
  simp only [IntKind.bits, ofInt_toNat]
  exact wrap_u32 _
theorem wrap_u8 (x : BitVec 8) : IntKind.u8.wrap (x.toNat : Int) = (x.toNat : Int) := by rw [IntKind.wrap_u8]; have := x.isLt; omega
theorem bits_xor8 (x y : UInt8) : bits .xor .u8 (x.toNat : Int) (y.toNat : Int) = ((x ^^^ y).toNat : Int) := by
  unfold bits
  have h : ∀ z : UInt8, (z.toNat : Int) = (z.toBitVec.toNat : Int) := fun _ => rfl
  rw [h x, h y]
  simp only [IntKind.bits, ofInt_toNat]
  exact wrap_u8 _
theorem bits_and8 (x y : UInt8) : bits .and .u8 (x.toNat : Int) (y.toNat : Int) = ((x &&& y).toNat : Int) := by
  unfold bits
  have h : ∀ z : UInt8, (z.toNat : Int) = (z.toBitVec.toNat : Int) := fun _ => rfl
  rw [h x, h y]
  simp only [IntKind.bits, ofInt_toNat]
  exact wrap_u8 _
theorem u8_bit (x : UInt8) (j : Nat) : (bits .and .u8 ((x.toNat : Int) / 2 ^ j) 1 == 1) = x.toNat.testBit j := by
  have h1 : ((x.toNat : Int) / 2 ^ j) = ((UInt8.ofNat (x.toNat / 2 ^ j)).toNat : Int) := by
    have hx := x.toNat_lt
    have : x.toNat / 2 ^ j ≤ x.toNat := Nat.div_le_self _ _
    rw [UInt8.toNat_ofNat', Nat.mod_eq_of_lt (by omega)]
    simp
  rw [h1, show (1 : Int) = (((1 : UInt8).toNat : Nat) : Int) from rfl, bits_and8, UInt8.toNat_and, UInt8.toNat_ofNat']
  have h2 : x.toNat / 2 ^ j % 2 ^ 8 &&& (1 : UInt8).toNat = x.toNat / 2 ^ j % 2 := by
    show _ &&& 1 = _
    rw [Nat.and_one_is_mod, Nat.mod_mod_of_dvd _ (by decide)]
  rw [h2, Nat.testBit_eq_decide_div_mod_eq]
  have : x.toNat / 2 ^ j % 2 < 2 := Nat.mod_lt _ (by omega)
  generalize x.toNat / 2 ^ j % 2 = m at this
  rcases (by omega : m = 0 ∨ m = 1) with rfl | rfl <;> rfl

/-- A row that is owned and not empty has a block. -/
theorem own_form {w : World} {base : Nat} {e : TypeId} {size : Nat} {v : Value} {n : Nat} {xs : List Value} (h : w.ownsRow base e size v n xs) (hn : 0 < n) : ∃ g cap, v = .slice (some ⟨g, 0, none⟩) n cap ∧ base ≤ g ∧ g < w.heap.size ∧ n ≤ cap ∧ cap ≤ maxLen := by
  obtain ⟨h1, ⟨_, h2⟩ | ⟨g, cap, cur, hv, hg, hh, hc, hm, _⟩⟩ := h
  · omega
  · exact ⟨g, cap, hv, hg, (Array.getElem?_eq_some_iff.1 hh).1, hc, hm⟩
theorem add_at (b o j : Nat) : (⟨b, o, none⟩ : Addr).add j = ⟨b, o + j, none⟩ := by unfold Addr.add; split <;> simp_all
section
variable {P : Program} {t e : TypeId}
theorem run_slice_lh (ht : P.underlying t = some (.slice e)) (hi : (P.info? e).map (·.size) = some 1) (a : Option Addr) (len cap l h : Nat) (hl : l ≤ h) (hh : h ≤ cap) (w : World) :
    (Instr.sliceAt t (.slice a len cap) (some (.int .i64 (l : Int))) (some (.int .i64 (h : Int))) none).run P w = .ok (.slice (if cap = l then a else a.map (·.add l)) (h - l) (cap - l)) w := by
  obtain ⟨i, hi1, hi2⟩ := Option.map_eq_some_iff.1 hi
  simp [Instr.sliceAt, Instr.slice, Instr.sliceBounds, Instr.sliceBound, run_underlying ht, asIntOf, go_sem, hi1, hi2, sizeOf, typeInfo]
  rw [if_pos hh, if_pos hl]
theorem run_slice_h (ht : P.underlying t = some (.slice e)) (hi : (P.info? e).map (·.size) = some 1) (a : Option Addr) (len cap h : Nat) (hh : h ≤ cap) (w : World) :
    (Instr.sliceAt t (.slice a len cap) none (some (.int .i64 (h : Int))) none).run P w = .ok (.slice a h cap) w := by
  obtain ⟨i, hi1, hi2⟩ := Option.map_eq_some_iff.1 hi
  simp [Instr.sliceAt, Instr.slice, Instr.sliceBounds, Instr.sliceBound, run_underlying ht, asIntOf, go_sem, hi1, hi2, sizeOf, typeInfo]
  intro h'; omega
theorem run_slice_hm (ht : P.underlying t = some (.slice e)) (hi : (P.info? e).map (·.size) = some 1) (a : Option Addr) (len cap h : Nat) (hh : h ≤ cap) (w : World) :
    (Instr.sliceAt t (.slice a len cap) none (some (.int .i64 (h : Int))) (some (.int .i64 (h : Int)))).run P w = .ok (.slice a h h) w := by
  obtain ⟨i, hi1, hi2⟩ := Option.map_eq_some_iff.1 hi
  simp [Instr.sliceAt, Instr.slice, Instr.sliceBounds, Instr.sliceBound, run_underlying ht, asIntOf, go_sem, hi1, hi2, sizeOf, typeInfo]
  intro h'; omega
theorem run_slice_l (ht : P.underlying t = some (.slice e)) (hi : (P.info? e).map (·.size) = some 1) (a : Option Addr) (len cap l : Nat) (hl : l ≤ len) (w : World) :
    (Instr.sliceAt t (.slice a len cap) (some (.int .i64 (l : Int))) none none).run P w = .ok (.slice (if cap = l then a else a.map (·.add l)) (len - l) (cap - l)) w := by
  obtain ⟨i, hi1, hi2⟩ := Option.map_eq_some_iff.1 hi
  simp [Instr.sliceAt, Instr.slice, Instr.sliceBounds, Instr.sliceBound, run_underlying ht, asIntOf, go_sem, hi1, hi2, sizeOf, typeInfo]
  intro h'; omega
end
/-- A part of bytes that are read. -/
theorem RdB.part {w : World} {a : Option Addr} {len cap : Nat} {bs : List UInt8} (h : RdB w (.slice a len cap) bs) (l k : Nat) (hl : l ≤ k) (hk : k ≤ bs.length) :
    RdB w (.slice (if cap = l then a else a.map (·.add l)) (k - l) (cap - l)) ((bs.take k).drop l) := by
  rcases h with ⟨a', c, hv, hc, rfl⟩ | ⟨b, off, cap', hv, hne, h1, h2, h3, h4⟩
  · cases hv
    simp at hk
    subst hk
    obtain rfl : l = 0 := by omega
    exact .inl ⟨_, _, rfl, by omega, rfl⟩
  · cases hv
    by_cases e : l = k
    · subst e
      exact .inl ⟨_, _, by rw [Nat.sub_self], by omega, by simp⟩
    · have hcl : cap ≠ l := by omega
      have hlen : ((bs.take k).drop l).length = k - l := by simp [hk]
      refine .inr ⟨b, off + l, cap - l, ?_, ?_, by omega, by omega, h3, fun j x hx => ?_⟩
      · rw [if_neg hcl, hlen, Option.map_some, add_at]
      · rw [← List.length_pos_iff]; omega
      · have hj := (List.getElem?_eq_some_iff.1 hx).1
        rw [List.getElem?_drop, List.getElem?_take, if_pos (by omega)] at hx
        rw [Nat.add_assoc]
        exact h4 (l + j) x hx
theorem RdB.pre {w : World} {a : Option Addr} {len cap : Nat} {bs : List UInt8} (h : RdB w (.slice a len cap) bs) (k : Nat) (hk : k ≤ bs.length) :
    RdB w (.slice a k cap) (bs.take k) := by
  have := h.part 0 k (Nat.zero_le _) hk
  simp only [Nat.sub_zero, List.drop_zero] at this
  have e : (if cap = 0 then a else a.map (·.add 0)) = a := by
    split
    · rfl
    · cases a <;> rfl
  rwa [e] at this
/-- A row of bytes that the call owns. -/
theorem rdB_own {w : World} {base g n cap : Nat} {e : TypeId} {bs : List UInt8} (h : w.ownsRow base e 1 (.slice (some ⟨g, 0, none⟩) n cap) n (bs.map u8v)) (hm0 : cap ≤ maxLen) : RdB w (.slice (some ⟨g, 0, none⟩) n cap) bs := by
  by_cases hne : bs = []
  · subst hne
    have hn : n = 0 := by have := h.1; simpa using this.symm
    subst hn
    exact .inl ⟨_, _, rfl, hm0, rfl⟩
  have hn : n = bs.length := by have := h.1; simpa using this.symm
  subst hn
  obtain ⟨h1, h2 | ⟨g', cap', cur, hv, hg, hh, hc, hm, hs, _⟩⟩ := h
  · cases h2.1
  · cases hv
    refine .inr ⟨g, 0, cap, rfl, hne, hc, hm, (Array.getElem?_eq_some_iff.1 hh).1, fun j x hx => ?_⟩
    have := World.ownsRow.cellAt (w := w) (base := base) (e := e) (size := 1) (g := g) (n := bs.length) (cap := cap) (xs := bs.map u8v) ⟨h1, .inr ⟨g, cap, cur, rfl, hg, hh, hc, hm, hs, by assumption⟩⟩ j (by have := (List.getElem?_eq_some_iff.1 hx).1; omega)
    rw [Nat.zero_add, this]; simp [hx]
theorem run_shr {P : Program} (k k2 : IntKind) (x c : Nat) (hc : c ≤ k.bits) (w : World) : (Op.shift .shr k (x : Int) k2 (c : Int)).run P w = .ok (.int k ((x : Int) / 2 ^ c)) w := by
  have h1 : ¬ ((c : Int) < 0) := by omega
  simp only [Op.shift, if_neg h1, Int.toNat_natCast, Nat.min_eq_left hc, Sem.run_pure]
  rw [Int.fdiv_eq_ediv_of_nonneg _ (Int.le_of_lt (Int.pow_pos (by decide)))]
theorem wrap_u8_shr (x c : Nat) : IntKind.u8.wrap ((x : Int) / 2 ^ c) = ((UInt8.ofNat (x / 2 ^ c)).toNat : Int) := by
  rw [IntKind.wrap_u8, UInt8.toNat_ofNat']; simp
theorem wrap_u8_nat (x : Nat) : IntKind.u8.wrap (x : Int) = ((UInt8.ofNat x).toNat : Int) := by
  rw [IntKind.wrap_u8, UInt8.toNat_ofNat']; rfl
/-- The cells of a new block, as an append takes them. -/
theorem news_new (w : World) (cs : List Value) (e : TypeId) (fr : Nat × Nat) : ∀ j u, cs[j]? = some u → (w.alloc (.cells cs.toArray e fr)).cell? ((⟨w.heap.size, 0, none⟩ : Addr).add j) = some u := by
  intro j u h
  rw [add_at, cell_of_row _ _ _ _ _ _ (heap_alloc_new w _)]
  simpa using h
theorem one_u8 (bs : List UInt8) : ∀ u ∈ bs.map u8v, u.oneCell' = true := by
  intro u hu; obtain ⟨x, _, rfl⟩ := List.mem_map.1 hu; rfl
theorem take_snoc {α : Type} {l : List α} {k : Nat} {x : α} (h : l[k]? = some x) : l.take (k + 1) = l.take k ++ [x] := by
  rw [List.take_add_one, h]; rfl
/-- A row that is known whole. -/
theorem rdB_row {w : World} {g : Nat} {bs : List UInt8} {t : TypeId} {fr : Nat × Nat} (h : w.heap[g]? = some (.cells (bs.map u8v).toArray t fr)) {cap : Nat} (hc : bs.length ≤ cap) (hc' : cap ≤ 9223372036854775807) : RdB w (.slice (some ⟨g, 0, none⟩) bs.length cap) bs := by
  by_cases hne : bs = []
  · subst hne; exact .inl ⟨_, _, rfl, hc', rfl⟩
  · refine .inr ⟨g, 0, cap, rfl, hne, hc, hc', (Array.getElem?_eq_some_iff.1 h).1, fun j x hx => ?_⟩
    rw [cell_of_row _ _ _ _ _ _ h]; simp [hx]
theorem below_drewN {B : Nat} {a w : World} (h : Below B a w) : ∀ n, Below B a (w.drewN n) := fun n => ⟨h.os, h.tape, h.output, h.size, h.block⟩
theorem rdB_lt {w : World} {v : Value} {bs : List UInt8} (h : RdB w v bs) (hne : bs ≠ [] := by simp) : ∀ k, v.ownBlock = some k → k < w.heap.size := by
  rcases h with ⟨_, _, _, _, h⟩ | ⟨b, off, cap, h, _, _, _, h4, _⟩
  · exact absurd h hne
  · subst h; intro k hk; cases hk; exact h4
/-- A struct and one value more as results. -/
theorem results_row_tmp {P : Program} {fn : Func} {p u : Tmp} {ty : TypeId} (h : fn.results = #[.cell p ty, .tmp u]) (tmps : Array Value) (w : World) (g : Nat) (t : TypeId) (cs : Array Value) (fr : Nat × Nat) (d : TypeDesc)
    (hp : tmps.getD p undef = .pointer (some ⟨g, 0, none⟩)) (hg : w.heap[g]? = some (.cells cs t fr)) (hu : P.underlying ty = some d) (hd : (match d with | .struct _ | .array _ _ => true | _ => false) = true) (hi : (P.info? ty).map (·.size) = some cs.size) :
    (results fn tmps).run P w = .ok (.tuple #[.agg cs, tmps.getD u undef]) w := by
  have hp' : tmps[p]?.getD undef = .pointer (some ⟨g, 0, none⟩) := by simpa using hp
  simp [results, h, hp', asAddr, run_loadVar_row w g t ty cs fr d hg hu hd hi]
/-- An operation of a drawn region whose guard is false: an arm for go_region_held3. -/
theorem skip_op {o : Oper} {y : Nat → Option Bool} {A E : Prop} (hw : Region.wanted o y = false) (h : E) : if Region.wanted o y = true then A else E := by
  rw [if_neg (by rw [hw]; decide)]; exact h
theorem own_form0 {w : World} {base : Nat} {e : TypeId} {size : Nat} {v : Value} {n : Nat} {xs : List Value} (h : w.ownsRow base e size v n xs) : ∃ a cap, v = .slice a n cap := by
  obtain ⟨h1, ⟨h2, h3⟩ | ⟨g, cap, cur, hv, _⟩⟩ := h
  · exact ⟨none, 0, by rw [h2, h3]⟩
  · exact ⟨_, cap, hv⟩
/-- A new block of bytes. -/
theorem rdB_new (w : World) (bs : List UInt8) (hne : bs ≠ []) (e : TypeId) (fr : Nat × Nat) (cs : Array Value) (n : Nat) (hcs : cs = (bs.map u8v).toArray) (hn : n = bs.length) (c : Nat) (hc : n ≤ c) (hc' : c ≤ 9223372036854775807) :
    RdB (w.alloc (.cells cs e fr)) (.slice (some ⟨w.heap.size, 0, none⟩) n c) bs := by
  subst hcs hn
  refine .inr ⟨w.heap.size, 0, c, rfl, hne, hc, hc', by simp, fun j x hx => ?_⟩
  rw [cell_of_row _ _ _ _ _ _ (heap_alloc_new w _)]
  simp [hx]
/-- From a row's reading (a slice of bytes that came in) to its bytes. -/
theorem rdB_of {w : World} {a : Option Addr} {len cap : Nat} {zs : List Int}
    (h : (a = none ∧ len = 0 ∧ cap = 0 ∧ zs = []) ∨
      ∃ x, a = some x ∧ len ≤ cap ∧ cap ≤ maxLen ∧ zs.length = cap ∧ (∀ i, i < zs.length → w.cell? (x.add i) = some (.int .u8 (zs.getD i 0))) ∧ ∀ n ∈ zs, (Lit.int .u8 n).wf = true) :
    ∃ bs, RdB w (.slice a len cap) bs ∧ bs.length = len := by
  rcases h with ⟨rfl, rfl, rfl, rfl⟩ | ⟨x, rfl, hl, hm, hz, hc, hw⟩
  · exact ⟨[], .inl ⟨none, 0, rfl, by omega, rfl⟩, rfl⟩
  · by_cases h0 : len = 0
    · subst h0
      exact ⟨[], .inl ⟨_, cap, rfl, hm, rfl⟩, rfl⟩
    · refine ⟨(zs.take len).map fun n => UInt8.ofNat n.toNat, ?_, by simp [hz, hl]⟩
      have hlen : ((zs.take len).map fun n => UInt8.ofNat n.toNat).length = len := by simp [hz, hl]
      obtain ⟨b, off, rfl, hc'⟩ := ints_at hc (by omega)
      refine .inr ⟨b, off, cap, by rw [hlen], by rw [← List.length_pos_iff]; omega, by omega, hm, ?_, ?_⟩
      · exact World.block_lt_of_cell? w ⟨b, off + 0, none⟩ (hc' 0 (by omega))
      · intro j y hy
        have hj : j < len := by have := (List.getElem?_eq_some_iff.1 hy).1; omega
        rw [hc' j (by omega)]
        simp only [List.getElem?_map, List.getElem?_take, if_pos hj] at hy
        have hjz : j < zs.length := by omega
        rw [List.getElem?_eq_getElem hjz] at hy
        simp only [Option.map_some, Option.some.injEq] at hy
        subst hy
        have hwf := hw zs[j] (List.getElem_mem _)
        obtain ⟨l, u⟩ := bounds_u8 hwf
        rw [List.getD_eq_getElem?_getD, List.getElem?_eq_getElem hjz]
        show some (Value.int .u8 zs[j]) = some (.int .u8 ((UInt8.ofNat zs[j].toNat).toNat : Int))
        rw [UInt8.toNat_ofNat', Nat.mod_eq_of_lt (by omega)]
        congr 2
        omega
end Go.Proofs.YtffnbkmigapmjaaGreatDoor
