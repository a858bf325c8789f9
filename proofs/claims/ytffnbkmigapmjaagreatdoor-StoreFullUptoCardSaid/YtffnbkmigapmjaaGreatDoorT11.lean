/- Printed out of the texts of wip/tpl. -/
import Derived.Test.YtffnbkmigapmjaaGreatDoorT1
import Derived.Test.YtffnbkmigapmjaaGreatDoorT2
import Derived.Test.YtffnbkmigapmjaaGreatDoorT6
import Derived.Test.YtffnbkmigapmjaaGreatDoorT7
import Derived.Test.YtffnbkmigapmjaaGreatDoorT8
import Derived.Test.YtffnbkmigapmjaaGreatDoorT9
import Derived.Test.YtffnbkmigapmjaaGreatDoorT10
import Derived.Maps.AppendAt
import Derived.Maps.Own
import Derived.Maps.OwnSet
set_option linter.unusedSimpArgs false
set_option linter.unusedVariables false
namespace Go.Proofs.YtffnbkmigapmjaaGreatDoor
open Go.RowKit
def bb1 (x : UInt8) : List Value := [u8v x]
theorem bb1_len (x : UInt8) : (bb1 x).length = 1 := rfl
theorem bb1_flat (bs : List UInt8) : bs.flatMap bb1 = bs.map u8v := by induction bs with
 | nil => rfl
 | cons x xs ih => rw [List.flatMap_cons, ih]; rfl
theorem bb1_one (bs : List UInt8) : ∀ c ∈ bs.flatMap bb1, c.oneCell' = true := by rw [bb1_flat]; exact one_u8 bs
theorem rdLB {w : World} {v : Value} {bs : List UInt8} (h : RdB w v bs) : RdL 1 bb1 w v bs := by
 rcases h with ⟨a, c, h1, h2, h3⟩ | ⟨b, off, cap, h1, h0, h2, h3, h4, h5⟩
 ·exact .inl ⟨a, c, h1, h2, h3⟩
 ·refine .inr ⟨b, off, cap, h1, h0, h2, h3, h4, fun i x hx j u hu => ?_⟩
  cases j with
  | zero => rw [bb1] at hu; cases hu; rw [Nat.mul_one, Nat.add_zero]; exact h5 i x hx
  | succ j => rw [bb1] at hu; cases hu
def lenB (bs : List UInt8) : List UInt8 := num8 bs.length ++ bs
theorem wpList_append_anyAt {α : Type} {s : Nat} {f : α → List Value} (hf : ∀ x, (f x).length = s) (hs0 : 0 < s) {P : Program} {w : World} {ops : Array Oper} {rest : List Oper} {o : Oper} {a : Act} {Q : Exit → Act → World → Prop} (hgd : o.guard = none) (s1 x : Operand) (t : TypeId)
 (ho : o.op = .call { callee := .builtin .append, args := #[s1, x], argTypes := #[t, t] })
 (base : Nat) (e : TypeId) (i : TypeInfo) (z : Value) (bytes : Nat) (ht : P.underlying t = some (.slice e)) (hi : P.info? e = some i) (hz : i.zero = some z)
 (hsize : i.size = s) (hby : i.bytes = bytes) (hzs : z.cells.size = s)
 (v : Value) (n : Nat) (xs : List Value) (hs : a.eval s1 = v) (hown : w.ownsRow base e s v n xs)
 (u : Value) (ys : List α) (hx : a.eval x = u) (hr : RdL s f w u ys) (hn : NilOk u) (h1 : ∀ c ∈ ys.flatMap f, c.oneCell' = true)
 (h63 : n + ys.length ≤ maxLen) (hbytes : (n + ys.length) * bytes ≤ 140737488355328) (hbase : base ≤ w.heap.size)
 (h : ∀ v' w', w'.ownsRow base e s v' (n + ys.length) (xs ++ ys.flatMap f) → w.grownBy w' v.ownBlock → (v'.ownBlock = v.ownBlock ∨ v'.ownBlock = some w.heap.size) → wpList P ops Q rest (a.put o.dst v') w') : wpList P ops Q (o :: rest) a w := by
 obtain ⟨ad, cap, rfl, _, _⟩ := hr.form
 cases ad with
 | none =>
  obtain ⟨hl, hc⟩ := hn _ _ rfl
  have hy : ys = [] := List.length_eq_zero_iff.1 hl
  subst hy
  subst hc
  refine wpList_append_own_none hgd s1 x t ho base e i s ht hi v n xs hs hown hx (h v w (by simpa using hown) (World.grownBy.refl _ _) (.inl rfl))
 | some ad =>
  refine wpList_append_own_at w hgd s1 x t ho base e i z s bytes ht hi hz hsize hby hzs hs0 v n xs hs hown ad ys.length cap (ys.flatMap f) hx (flat_len hf ys) ?_ h1 h63 hbytes hbase (fun v' w' h2 h3 _ h4 => h v' w' h2 h3 h4)
  by_cases hy : ys = []
  ·subst hy; intro j u hu; cases hu
  ·obtain ⟨b, off, e⟩ := addr_some hr hy
   cases e
   exact hr.news hf hs0
set_option maxRecDepth 100000 in
set_option maxHeartbeats 2000000 in
theorem wBytes_good (b base : Nat) (v : Value) (bs : List UInt8) (bad : Bool) (vb : Value) (data : List UInt8) (w : World) (hW : WrAt w b base v bs bad) (hd : RdB w vb data) (hnil : NilOk vb) (hne : vb.ownBlock ≠ some b) (hne2 : ∀ k, vb.ownBlock = some k → v.ownBlock ≠ some k)
 (hbase : base ≤ w.heap.size) (hlen : bs.length + 8 + data.length ≤ 1099511627776) :
 Calls Tryz.prog 165 #[.pointer (some ⟨b, 0, none⟩), vb] w (WrDone w b base v (bs ++ lenB data) bad) := by
 obtain ⟨i0, hi, hz0, hz1, hz2⟩ := info_parts infoU8
 obtain ⟨a, cap, rfl, hlc, hcap⟩ := hd.form
 have hnum := wNum_good b base v bs bad data.length w hW (by omega) hbase (by omega)
 have hone := bb1_one data
 have Hone := Lib.hid hone
 have Hnum := Lib.hid hnum
 have Hnil := Lib.hid hnil
 obtain ⟨n, hn⟩ : ∃ n, data.length = n := ⟨_, rfl⟩
 have Hn := Lib.hid hn
 have hdl : data.length ≤ 1099511627776 := by omega
 clear hone hnum hnil hn
 go_enter Tryz.func165, Tryz.ntmps165
 go_wp2_with fail
 refine (Hnum.out).mono ?_; rintro e w1 ⟨v1, rfl, hW1, hK1, hat1⟩
 have hd1 : RdB w1 (.slice a data.length cap) data := hd.keeps hK1 (fun k hk h => by
  rcases h with h | h
  ·exact hne (by rw [hk, h])
  ·exact hne2 k hk h)
 have hsrc := rdLB hd1
 have hb1 := hW1.blk
 have hc0 : w1.cell? ⟨b, 0, none⟩ = some v1 := by rw [cell_of_row _ _ _ _ _ _ hb1]; rfl
 have hbS := (Array.getElem?_eq_some_iff.1 hb1).1
 have hll : (bs ++ num8 data.length).length = bs.length + 8 := by rw [List.length_append, num8_length]
 have hown1 := hW1.own
 obtain ⟨L, hL⟩ : ∃ L, (bs ++ num8 data.length).length = L := ⟨_, rfl⟩
 rw [hL] at hown1 hll
 have HL := Lib.hid hL
 have hm1 : L + data.length ≤ maxLen := by show _ ≤ 9223372036854775807; omega
 have hm2 : (L + data.length) * 1 ≤ 140737488355328 := by omega
 have hbs : base ≤ w1.heap.size := by have := hK1.size; omega
 have HW1 := Lib.hid hW1
 have HK1 := Lib.hid hK1
 have Hat1 := Lib.hid hat1
 clear hW1 hK1 hat1 hll hL
 generalize hcs : bs ++ num8 data.length = cs at hown1
 have Hcs := Lib.hid hcs
 clear hcs
 have Hhb1 := Lib.hid hb1
 go_wp2_with (at_builtin; go_must (refine wpList_append_anyAt bb1_len (by decide) rfl (.tmp 14) (.tmp 15) 22 rfl base 5 i0 (.int .u8 0) 1 Tryz.underlying22 hi hz0 hz1 hz2 rfl _ _ _ rfl hown1 _ data rfl hsrc Hnil.out Hone.out hm1 hm2 hbs ?_); rintro v2 w2 hown2 hg2' hat2'; have hg2 : w1.grownBy w2 v1.ownBlock := hg2'; have hat2 : v2.ownBlock = v1.ownBlock ∨ v2.ownBlock = some w1.heap.size := hat2'; clear hg2' hat2'; obtain ⟨a2, cap2, hv2⟩ := own_form0 hown2; subst hv2; have hblk2 : w2.heap[b]? = some (.cells #[v1, .bool bad] 167 (0, 0)) := (Keeps.grown hg2).heap (k := b) Hhb1.out HW1.out.ne; have hc2 : w2.cell? ⟨b, 0, none⟩ = some v1 := (by rw [cell_of_row _ _ _ _ _ _ hblk2]; rfl); have hf2 : w2.frozen? ⟨b, 0, none⟩ = false := (by simp [World.frozen?, hblk2]))
 go_end0
 have hne' : (Value.slice a2 (L + data.length) cap2).ownBlock ≠ some b := by
  rcases hat2 with h | h
  ·rw [h]; exact HW1.out.ne
  ·rw [h]; intro e; have := Option.some.inj e; omega
 have hK2 : Keeps (fun k => k = b ∨ v.ownBlock = some k) w w2 := HK1.out.go (Keeps.grown hg2) (by
  intro k h
  rcases Hat1.out with h1 | ⟨g, h1, h2⟩
  ·exact .inl (.inr (by rw [← h1]; exact h))
  ·rw [h1] at h; cases h; exact .inr h2)
 have hK3 := Keeps.setCell (F := fun k => k = b ∨ v.ownBlock = some k) w2 ⟨b, 0, none⟩ (.slice a2 (L + data.length) cap2) (.inl rfl)
 refine ⟨_, rfl, ⟨heap_setCell_same _ _ 0 _ _ _ hblk2, ?_, hne'⟩, hK2.trans hK3, ?_⟩
 ·have h := own_keeps hown2 (Keeps.setCell (F := fun k => k = b) w2 ⟨b, 0, none⟩ (.slice a2 (L + data.length) cap2) rfl) (fun k hk e => hne' (by rw [hk, e]))
  rw [bb1_flat, ← List.map_append, ← Hcs.out] at h
  have e : (bs ++ lenB data).length = L + data.length := by rw [lenB, ← List.append_assoc, List.length_append, HL.out]
  rw [e, lenB, ← List.append_assoc]
  exact h
 ·rcases hat2 with h | h
  ·rw [h]
   rcases Hat1.out with h1 | ⟨g, h1, h2⟩
   ·exact .inl h1
   ·exact .inr ⟨g, h1, h2⟩
  ·exact .inr ⟨_, h, HK1.out.size⟩
set_option maxRecDepth 100000 in
set_option maxHeartbeats 1000000 in
theorem envSum_calls (v : Value) (bs : List UInt8) (w : World) (hv : RdB w v bs) :
 Calls Tryz.prog 144 #[v] w (RowDone w (be4 (PbCrc.sum bs))) := by
 go_enter Tryz.func144, Tryz.ntmps144
 go_wp2_with fail
 refine (crcSum_calls _ _ _ hv).mono ?_; rintro e w1 ⟨rfl, hb1⟩
 obtain ⟨c, hcs⟩ : ∃ c, PbCrc.sum bs = c := ⟨_, rfl⟩
 rw [hcs]
 have hlt := c.isLt
 have hc0 : (0 : Int) ≤ (c.toNat : Int) := by omega
 have u24 : IntKind.u8.wrap ((c.toNat : Int) / 16777216) = ((UInt8.ofNat (c.toNat / 2 ^ 24)).toNat : Int) := wrap_u8_shr c.toNat 24
 have u16 : IntKind.u8.wrap ((c.toNat : Int) / 65536) = ((UInt8.ofNat (c.toNat / 2 ^ 16)).toNat : Int) := wrap_u8_shr c.toNat 16
 have u8' : IntKind.u8.wrap ((c.toNat : Int) / 256) = ((UInt8.ofNat (c.toNat / 2 ^ 8)).toNat : Int) := wrap_u8_shr c.toNat 8
 have u0 : IntKind.u8.wrap (c.toNat : Int) = ((UInt8.ofNat c.toNat).toNat : Int) := wrap_u8_nat c.toNat
 have hfin : be4 (PbCrc.sum bs) = [UInt8.ofNat (c.toNat / 2 ^ 24), UInt8.ofNat (c.toNat / 2 ^ 16), UInt8.ofNat (c.toNat / 2 ^ 8), UInt8.ofNat c.toNat] := by rw [hcs]; rfl
 generalize UInt8.ofNat (c.toNat / 2 ^ 24) = b0 at u24 hfin
 generalize UInt8.ofNat (c.toNat / 2 ^ 16) = b1 at u16 hfin
 generalize UInt8.ofNat (c.toNat / 2 ^ 8) = b2 at u8' hfin
 generalize UInt8.ofNat c.toNat = b3 at u0 hfin
 have Hfin := Lib.hid hfin
 clear hfin hcs
 go_wp2
 go_ret
 refine ⟨_, rfl, by rw [Hfin.out]; exact own_mono (World.ownsRow_lit w1 #[u8v b0, u8v b1, u8v b2, u8v b3] 4 (Nat.le_refl _) (by decide) rfl) hb1.size, hb1.alloc hb1.size _⟩
set_option maxRecDepth 100000 in
set_option maxHeartbeats 1000000 in
theorem refBytes_calls (vb : Value) (data : List UInt8) (w : World) (hd : RdB w vb data) (hnil : NilOk vb) (hlen : data.length ≤ 1099511627776) :
 Calls Tryz.prog 124 #[vb] w (RowDone w (lenB data)) := by
 obtain ⟨i0, hi, hz0, hz1, hz2⟩ := info_parts infoU8
 obtain ⟨a, cap, rfl, hlc, hcap⟩ := hd.form
 have hnum := refNum8 data.length (by omega) w
 have hone := bb1_one data
 have Hone := Lib.hid hone
 have Hnum := Lib.hid hnum
 have Hnil := Lib.hid hnil
 clear hone hnum hnil
 go_enter Tryz.func124, Tryz.ntmps124
 go_wp2_with fail
 refine (Hnum.out).mono ?_; rintro e w1 ⟨g, cp, rfl, hown1, hb1, hg1⟩
 have hsrc := rdLB (hd.below (Nat.le_refl _) hb1)
 have hm1 : 8 + data.length ≤ maxLen := by show _ ≤ 9223372036854775807; omega
 have hm2 : (8 + data.length) * 1 ≤ 140737488355328 := by omega
 have hbs := hb1.size
 go_wp2_with (at_builtin; go_must (refine wpList_append_any bb1_len (by decide) rfl (.tmp 5) (.tmp 6) 22 rfl w.heap.size 5 i0 (.int .u8 0) 1 Tryz.underlying22 hi hz0 hz1 hz2 rfl _ _ _ rfl hown1 _ data rfl hsrc Hnil.out Hone.out hm1 hm2 hbs ?_); rintro v2 w2 hown2 hg2 _)
 go_ret
 refine ⟨v2, rfl, ?_, Below.grown hb1 hg2 hbs (fun k hk => own_base hown1 k hk)⟩
 rw [bb1_flat, ← List.map_append] at hown2
 have e : (lenB data).length = 8 + data.length := by rw [lenB, List.length_append, num8_length]
 rw [e]; exact hown2
theorem nilOk_own {w : World} {base : Nat} {e : TypeId} {size : Nat} {v : Value} {n : Nat} {xs : List Value} (h : w.ownsRow base e size v n xs) : NilOk v := by
 obtain ⟨_, ⟨h2, h3⟩ | ⟨g, cap, cur, hv', _⟩⟩ := h
 ·intro l c e; rw [e] at h2; cases h2; exact ⟨rfl, rfl⟩
 ·intro l c e; rw [e] at hv'; cases hv'
def MailD.inner (m : MailD) : List UInt8 :=
 ((((num8 m.id.toNat ++ num8 m.parent.toNat ++ num8 m.born.toNat) ++ lenB m.frm) ++ num8 m.rcpts.length) ++ m.rcpts.flatMap lenB) ++ lenB m.body
def MailD.record (m : MailD) : List UInt8 := lenB m.inner ++ be4 (PbCrc.sum m.inner)
theorem lenB_length (l : List UInt8) : (lenB l).length = 8 + l.length := by rw [lenB, List.length_append, num8_length]
theorem flat_lenB_le (ls : List (List UInt8)) (k : Nat) (h : ∀ l ∈ ls, l.length ≤ k) : (ls.flatMap lenB).length ≤ ls.length * (8 + k) := by
 induction ls with
 | nil => simp
 | cons x xs ih =>
  rw [List.flatMap_cons, List.length_append, lenB_length, List.length_cons, Nat.succ_mul]
  have := ih (fun l hl => h l (List.mem_cons_of_mem _ hl))
  have := h x List.mem_cons_self
  omega
theorem conv_text (l : List UInt8) (hs : l.length ≤ 4294967280) (w : World) :
 ∃ C W, (convert 9 22 (.string (strL l))).run Tryz.prog w = .ok (.slice (some ⟨w.heap.size, 0, none⟩) l.length C) W ∧ RdB W (.slice (some ⟨w.heap.size, 0, none⟩) l.length C) l ∧ Below w.heap.size w W := by
 have h := run_bytes_of_string (P := Tryz.prog) w 9 22 5 (strL l) Tryz.underlying9 Tryz.underlying22 Tryz.underlying5
 rw [strL_size] at h
 have hcm : grownCap w l.length 0 5 ≤ 9223372036854775807 := grownCap_le_maxLen w l.length 0 5 (by show _ ≤ 9223372036854775807; omega)
 refine ⟨_, _, h, ?_, (Below.refl _ _).drew.alloc (Nat.le_refl _) _⟩
 by_cases hl : l = []
 ·subst hl; exact .inl ⟨_, _, rfl, hcm, rfl⟩
 ·refine .inr ⟨_, 0, _, rfl, hl, grownCap_ge _ _ _ _, hcm, by simp [World.alloc], fun j x hx => ?_⟩
  have hi := (List.getElem?_eq_some_iff.1 hx).1
  have hbl : (w.drew.alloc (.cells (bytesRow (strL l) (grownCap w l.length 0 5)) 5 ((bytesRow (strL l) (grownCap w l.length 0 5)).size, (bytesRow (strL l) (grownCap w l.length 0 5)).size + 1))).heap[w.heap.size]? = some (.cells (bytesRow (strL l) (grownCap w l.length 0 5)) 5 ((bytesRow (strL l) (grownCap w l.length 0 5)).size, (bytesRow (strL l) (grownCap w l.length 0 5)).size + 1)) := heap_alloc_new w.drew _
  rw [cell_of_row _ _ _ _ _ _ hbl]
  have h2 := bytesRow_at (strL l) (grownCap w l.length 0 5) j (by simp [strL]; exact hi)
  rw [Nat.zero_add, h2]
  have : (strL l).data[j]'(by simp [strL]; exact hi) = x := by
   have := (List.getElem?_eq_some_iff.1 hx).2
   simp [strL, this]
  rw [this]
def WrOn (W0 : World) (b : Nat) (w : World) (bs : List UInt8) : Prop := ∃ v, WrAt w b W0.heap.size v bs false ∧ Keeps (fun k => k = b) W0 w
theorem WrOn.start {W0 : World} {b : Nat} (h : W0.heap[b]? = some (.cells #[.slice none 0 0, .bool false] 167 (0, 0))) : WrOn W0 b W0 [] :=
 ⟨.slice none 0 0, ⟨h, World.ownsRow_nil _ _ _ _, by simp [Value.ownBlock]⟩, Keeps.refl _ _⟩
theorem WrOn.go {W0 : World} {b : Nat} {w w' : World} {bs : List UInt8} (h : WrOn W0 b w bs) (hb : Below w.heap.size w w') : WrOn W0 b w' bs := by
 obtain ⟨v, hW, hK⟩ := h
 have hbS := (Array.getElem?_eq_some_iff.1 hW.blk).1
 exact ⟨v, ⟨(hb.block _ hbS).trans hW.blk, own_below hW.own hb (Nat.le_refl _), hW.ne⟩, hK.trans (Keeps.ofBelow hb)⟩
theorem WrOn.of {W0 : World} {b : Nat} {w : World} {v : Value} {bs cs : List UInt8} (hW : WrAt w b W0.heap.size v bs false) (hK : Keeps (fun k => k = b) W0 w) {e : Ending} {w' : World} (h : WrDone w b W0.heap.size v cs false e w') :
 e = .returned (.tuple #[]) ∧ WrOn W0 b w' cs := by
 obtain ⟨v', rfl, hW', hK', _⟩ := h
 refine ⟨rfl, v', hW', hK.go hK' (fun k hk => ?_)⟩
 rcases hk with h | h
 ·exact .inl h
 ·exact .inr (own_base hW.own k h)
theorem WrOn.num {W0 : World} {b : Nat} {w : World} {bs : List UInt8} (h : WrOn W0 b w bs) (n : Nat) (hn : n ≤ 4611686018427387904) (hl : bs.length ≤ 1000000000) :
 Calls Tryz.prog 117 #[.pointer (some ⟨b, 0, none⟩), .int .i64 n] w fun e w' => e = .returned (.tuple #[]) ∧ WrOn W0 b w' (bs ++ num8 n) := by
 obtain ⟨v, hW, hK⟩ := h
 exact (wNum_good b W0.heap.size v bs false n w hW hn hK.size (by omega)).mono fun e w' h => WrOn.of hW hK h
theorem WrOn.bytes {W0 : World} {b : Nat} {w w2 : World} {bs : List UInt8} (h : WrOn W0 b w bs) (hB : Below w.heap.size w w2) {vb : Value} {data : List UInt8} (hd : RdB w2 vb data) (hnil : NilOk vb)
 (hk : ∀ k, vb.ownBlock = some k → k ≠ b ∧ (k < W0.heap.size ∨ w.heap.size ≤ k)) (hl : bs.length ≤ 1000000000) (hl2 : data.length ≤ 1000000000) :
 Calls Tryz.prog 165 #[.pointer (some ⟨b, 0, none⟩), vb] w2 fun e w' => e = .returned (.tuple #[]) ∧ WrOn W0 b w' (bs ++ lenB data) := by
 obtain ⟨v0, hW0, hK0⟩ := id h
 obtain ⟨v, hW, hK⟩ : ∃ v, WrAt w2 b W0.heap.size v bs false ∧ Keeps (fun k => k = b) W0 w2 ∧ ∀ k, v.ownBlock = some k → k < w.heap.size := by
  have hbS := (Array.getElem?_eq_some_iff.1 hW0.blk).1
  exact ⟨v0, ⟨(hB.block _ hbS).trans hW0.blk, own_below hW0.own hB (Nat.le_refl _), hW0.ne⟩, hK0.trans (Keeps.ofBelow hB), fun k hk => (hW0.own.lt k hk).2⟩
 obtain ⟨hK, hlt⟩ := hK
 refine (wBytes_good b W0.heap.size v bs false vb data w2 hW hd hnil (fun e => (hk b e).1 rfl) (fun k hk1 hk2 => ?_) hK.size (by omega)).mono fun e w' h => WrOn.of hW hK h
 have h1 := own_base hW.own k hk2
 have h2 := hlt k hk2
 rcases (hk k hk1).2 with h | h <;> omega
theorem WrOn.out {W0 : World} {b : Nat} {w : World} {bs : List UInt8} (h : WrOn W0 b w bs) (hl : bs.length ≤ 1000000000) : Calls Tryz.prog 118 #[.pointer (some ⟨b, 0, none⟩)] w (OutDone w bs) := by
 obtain ⟨v, hW, hK⟩ := h
 exact wOut_calls b W0.heap.size v bs w hW (by omega)
theorem WrOn.cell {W0 : World} {b : Nat} {w : World} {bs : List UInt8} (h : WrOn W0 b w bs) {k o : Nat} {v : Value} (hk : k ≠ b) (hc : W0.cell? ⟨k, o, none⟩ = some v) : w.cell? ⟨k, o, none⟩ = some v := by
 obtain ⟨v, hW, hK⟩ := h
 exact hK.cell hk hc
theorem WrOn.below {W0 : World} {b B : Nat} {w : World} {bs : List UInt8} (h : WrOn W0 b w bs) (hb : B ≤ b) (hB : B ≤ W0.heap.size) : Below B W0 w := by
 obtain ⟨v, hW, hK⟩ := h
 exact hK.below (fun k hk => by omega) hB
theorem WrOn.size {W0 : World} {b : Nat} {w : World} {bs : List UInt8} (h : WrOn W0 b w bs) : W0.heap.size ≤ w.heap.size := by
 obtain ⟨v, hW, hK⟩ := h
 exact hK.size
theorem WrOn.rdb {W0 : World} {b : Nat} {w : World} {bs : List UInt8} (h : WrOn W0 b w bs) {v : Value} {xs : List UInt8} (hr : RdB W0 v xs) (hv : v.ownBlock ≠ some b) : RdB w v xs := by
 obtain ⟨u, hW, hK⟩ := h
 exact hr.keeps hK (fun k hk e => hv (by rw [hk, e]))
theorem WrOn.rds {W0 : World} {b : Nat} {w : World} {bs : List UInt8} (h : WrOn W0 b w bs) {v : Value} {xs : List (List UInt8)} (hr : RdS W0 v xs) (hv : v.ownBlock ≠ some b) : RdS w v xs := by
 obtain ⟨u, hW, hK⟩ := h
 exact RdL.keeps hr hK (fun k o l c hk e => hv (by rw [hk, e]; rfl))
theorem heap6 {w : World} {mb : Nat} (h : ∃ c0 c1 c2 c3 c4 c5, w.heap[mb]? = some (.cells #[c0, c1, c2, c3, c4, c5] 29 (0, 0))) (x0 x1 x2 x3 x4 x5 : Value) :
 ((((((w.setCell ⟨mb, 0, none⟩ x0).setCell ⟨mb, 1, none⟩ x1).setCell ⟨mb, 2, none⟩ x2).setCell ⟨mb, 3, none⟩ x3).setCell ⟨mb, 4, none⟩ x4).setCell ⟨mb, 5, none⟩ x5).heap[mb]? = some (.cells #[x0, x1, x2, x3, x4, x5] 29 (0, 0)) := by
 obtain ⟨c0, c1, c2, c3, c4, c5, hc⟩ := h
 exact heap_setCell_same _ _ 5 _ _ _ (heap_setCell_same _ _ 4 _ _ _ (heap_setCell_same _ _ 3 _ _ _ (heap_setCell_same _ _ 2 _ _ _ (heap_setCell_same _ _ 1 _ _ _ (heap_setCell_same _ _ 0 _ _ _ hc)))))
theorem cells6 {w : World} {mb : Nat} {c0 c1 c2 c3 c4 c5 : Value} (hb : w.heap[mb]? = some (.cells #[c0, c1, c2, c3, c4, c5] 29 (0, 0))) :
 (w.cell? ⟨mb, 0, none⟩ = some c0 ∧ w.cell? ⟨mb, 1, none⟩ = some c1 ∧ w.cell? ⟨mb, 2, none⟩ = some c2 ∧ w.cell? ⟨mb, 3, none⟩ = some c3 ∧ w.cell? ⟨mb, 4, none⟩ = some c4 ∧ w.cell? ⟨mb, 5, none⟩ = some c5) ∧
 (w.frozen? ⟨mb, 0, none⟩ = false ∧ w.frozen? ⟨mb, 1, none⟩ = false ∧ w.frozen? ⟨mb, 2, none⟩ = false ∧ w.frozen? ⟨mb, 3, none⟩ = false ∧ w.frozen? ⟨mb, 4, none⟩ = false ∧ w.frozen? ⟨mb, 5, none⟩ = false) := by
 refine ⟨⟨?_, ?_, ?_, ?_, ?_, ?_⟩, ?_, ?_, ?_, ?_, ?_, ?_⟩
 all_goals first | (rw [cell_of_row _ _ _ _ _ _ hb]; rfl) | simp [World.frozen?, hb]
theorem RdB.keepsN {F : Nat → Prop} {w w' : World} {v : Value} {bs : List UInt8} (h : RdB w v bs) (hk : Keeps F w w') (hF : bs ≠ [] → ∀ k, v.ownBlock = some k → ¬ F k) : RdB w' v bs := by
 rcases h with ⟨a, c, h1, h2⟩ | h
 ·exact .inl ⟨a, c, h1, h2⟩
 ·obtain ⟨b, off, cap, h1, h0, h2⟩ := id h
  exact RdB.keeps (.inr h) hk (hF h0)
def OwnDone (w : World) (m : MailD) (e : Ending) (w' : World) : Prop :=
 ∃ vr vb, e = .returned (mailVal m vr vb) ∧ w'.ownsRow w.heap.size 9 1 vr m.rcpts.length (m.rcpts.flatMap s1) ∧ w'.ownsRow w.heap.size 5 1 vb m.body.length (m.body.map u8v) ∧ Below w.heap.size w w'
set_option maxRecDepth 100000 in
set_option maxHeartbeats 4000000 in
theorem own_calls (m : MailD) (vr vb : Value) (w : World) (hr : RdS w vr m.rcpts) (hb : RdB w vb m.body) (hnr : NilOk vr) (hnb : NilOk vb) (hlr : m.rcpts.length ≤ 1000000) (hlb : m.body.length ≤ 1000000000) :
 Calls Tryz.prog 73 #[mailVal m vr vb] w (OwnDone w m) := by
 obtain ⟨i0, hi, hz0, hz1, hz2⟩ := info_parts infoU8
 obtain ⟨i1, hi1, hy0, hy1, hy2⟩ := info_parts infoStr
 obtain ⟨id, parent, born, frm, rcpts, body⟩ := m
 unfold mailVal OwnDone mailVal
 simp only at hr hb hlr hlb ⊢
 obtain ⟨W, hW⟩ : ∃ W, (w.alloc (.cells #[.int .i64 id, .int .i64 parent, .int .i64 born, .string (strL frm), vr, vb] 29)).alloc (.cells #[.int .i64 0, .int .i64 0, .int .i64 0, .string ⟨#[]⟩, .slice none 0 0, .slice none 0 0] 29) = W := ⟨_, rfl⟩
 have hbW : Below w.heap.size w W := by rw [← hW]; exact ((Below.refl _ _).alloc (Nat.le_refl _) _).alloc (by simp) _
 have hsW : W.heap.size = w.heap.size + 2 := by rw [← hW]; simp
 have hk1 : W.heap[w.heap.size]? = some (.cells #[.int .i64 id, .int .i64 parent, .int .i64 born, .string (strL frm), vr, vb] 29 (0, 0)) := by rw [← hW]; exact heap_alloc2_old _ _ _
 have hk2 : W.heap[w.heap.size + 1]? = some (.cells #[.int .i64 0, .int .i64 0, .int .i64 0, .string ⟨#[]⟩, .slice none 0 0, .slice none 0 0] 29 (0, 0)) := by rw [← hW]; exact heap_alloc2_new _ _ _
 have hr1 := hr.below (Nat.le_refl _) hbW
 have hb1 := hb.below (Nat.le_refl _) hbW
 obtain ⟨ar, capr, rfl, _, _⟩ := hr.form
 obtain ⟨ab, capb, rfl, _, _⟩ := hb.form
 have Hk1 := Lib.hid hk1
 have Hr1 := Lib.hid hr1
 have Hb1 := Lib.hid hb1
 have HW := Lib.hid hW
 generalize strL frm = sf at *
 have Hk2 := Lib.hid hk2
 have hnoM : body ≠ [] → ∀ k, (Value.slice ab body.length capb).ownBlock = some k → k < w.heap.size := fun hne => rdB_lt hb hne
 have HnoM := Lib.hid hnoM
 clear hr hb hr1 hb1 hk1 hk2 hnoM
 obtain ⟨Wa, hWa⟩ : ∃ Wa, W.alloc (.cells #[] 9) = Wa := ⟨_, rfl⟩
 have hba : Below W.heap.size W Wa := by rw [← hWa]; exact (Below.refl _ _).alloc (Nat.le_refl _) _
 have hsa : Wa.heap.size = w.heap.size + 3 := by rw [← hWa]; simp; omega
 have hown0 : Wa.ownsRow W.heap.size 9 1 (.slice (some ⟨W.heap.size, 0, none⟩) 0 0) 0 [] := by rw [← hWa]; exact World.ownsRow_lit W #[] 0 (Nat.le_refl _) (by decide) rfl
 have hka := (hba.block _ (by omega)).trans Hk1.out
 have hka2 := (hba.block _ (by omega)).trans Hk2.out
 have hra := Hr1.out.below (Nat.le_refl _) hba
 have hbda := Hb1.out.below (Nat.le_refl _) hba
 have hm1 : 0 + rcpts.length ≤ maxLen := by show _ ≤ 9223372036854775807; omega
 have hm2 : (0 + rcpts.length) * 16 ≤ 140737488355328 := by omega
 have hbs : W.heap.size ≤ Wa.heap.size := by omega
 have hone := s1_one rcpts
 have ca : Wa.cell? ⟨w.heap.size, 4, none⟩ = some (.slice ar rcpts.length capr) := by rw [cell_of_row _ _ _ _ _ _ hka]; rfl
 have Hka := Lib.hid hka
 have Hka2 := Lib.hid hka2
 have Hra := Lib.hid hra
 have Hbda := Lib.hid hbda
 have Hone := Lib.hid hone
 have Hown0 := Lib.hid hown0
 have Hba := Lib.hid hba
 have HsW := Lib.hid hsW
 have hsz0 : (⟨w.heap.size, 0, none⟩ : Addr) = ⟨w.heap.size, 0, none⟩ := rfl
 clear hka hka2 hra hbda hone hown0 hba
 subst hWa
 subst hW
 have hwsz : ((w.alloc (.cells #[.int .i64 id, .int .i64 parent, .int .i64 born, .string sf, .slice ar rcpts.length capr, .slice ab body.length capb] 29)).alloc (.cells #[.int .i64 0, .int .i64 0, .int .i64 0, .string ⟨#[]⟩, .slice none 0 0, .slice none 0 0] 29)).heap.size = w.heap.size + 2 := by simp
 rw [hwsz] at Hown0 hbs
 go_enter Tryz.func73, Tryz.ntmps73
 go_upto_region 2 with (at_builtin; go_must (refine wpList_append_any s1_len (by decide) rfl (.tmp 3) (.tmp 5) 27 rfl (w.heap.size + 2) 9 i1 (.string ⟨#[]⟩) 16 Tryz.underlying27 hi1 hy0 hy1 hy2 rfl _ _ _ rfl Hown0.out _ rcpts rfl Hra.out hnr Hone.out hm1 hm2 hbs ?_); rintro v2 w2 hown2 hg2 _; rw [Nat.zero_add, List.nil_append] at hown2; obtain ⟨a2, c2, hv2⟩ := own_form0 hown2; subst hv2; have hB2 := (Hba.out).grown hg2 (by rw [hsa, hwsz]; omega) (fun k hk => by cases hk; rw [hwsz]; exact Nat.le_refl _); have hp2 := (hB2.block _ (by rw [hwsz]; omega)).trans Hk1.out; have hq2 := (hB2.block _ (by rw [hwsz]; omega)).trans Hk2.out; have g4 := (cells6 hp2).2.2.2.2.2.1; have a4 := (cells6 hp2).1.2.2.2.2.1)
 have hbel2 : Below w.heap.size w w2 := hbW.trans (hB2.mono (by rw [hwsz]; omega))
 have hbd2 := Hb1.out.below (Nat.le_refl _) hB2
 have hsz2 := hB2.size
 rw [hwsz] at hsz2
 have hv2 := own_base hown2
 have hvl2 := fun k hk => (hown2.lt k hk).2
 clear Hk1 Hk2 Hba Hb1 Hr1 hB2 Hka Hka2 Hra Hbda Hown0 hbs hwsz ca hsa HsW hsW hg2 hm1 hm2 hbW Hone
 obtain ⟨W3, hW3⟩ : ∃ W3, w2.setCell ⟨w.heap.size, 4, none⟩ (.slice a2 rcpts.length c2) = W3 := ⟨_, rfl⟩
 have hK3 : Keeps (fun k => k = w.heap.size) w2 W3 := by rw [← hW3]; exact Keeps.setCell w2 ⟨w.heap.size, 4, none⟩ _ rfl
 have hp3 : W3.heap[w.heap.size]? = some (.cells #[.int .i64 id, .int .i64 parent, .int .i64 born, .string sf, .slice a2 rcpts.length c2, .slice ab body.length capb] 29 (0, 0)) := by rw [← hW3]; exact heap_setCell_same _ _ 4 _ _ _ hp2
 have hq3 := hK3.heap hq2 (by omega)
 have hown3 := own_keeps hown2 hK3 (fun k hk e => by have := hv2 k hk; omega)
 have hbd3 := hbd2.keepsN hK3 (fun hne k hk e => by have := HnoM.out hne k hk; omega)
 have hs3 : W3.heap.size = w2.heap.size := by rw [← hW3]; simp
 have hbel3 : Below w.heap.size w W3 := hbel2.trans (hK3.below (fun k hk => by omega) hbel2.size)
 obtain ⟨Wb, hWb⟩ : ∃ Wb, W3.alloc (.cells #[] 5) = Wb := ⟨_, rfl⟩
 have hbb : Below W3.heap.size W3 Wb := by rw [← hWb]; exact (Below.refl _ _).alloc (Nat.le_refl _) _
 have hsb : Wb.heap.size = w2.heap.size + 1 := by rw [← hWb]; simp [hs3]
 have hownB : Wb.ownsRow w2.heap.size 5 1 (.slice (some ⟨w2.heap.size, 0, none⟩) 0 0) 0 [] := by
  have : (W3.alloc (.cells #[] 5)).ownsRow W3.heap.size 5 1 (.slice (some ⟨W3.heap.size, 0, none⟩) 0 0) 0 [] := World.ownsRow_lit W3 #[] 0 (Nat.le_refl _) (by decide) rfl
  rw [hWb, hs3] at this; exact this
 have hp4 := (hbb.block _ (by omega)).trans hp3
 have hq4 := (hbb.block _ (by omega)).trans hq3
 have hown4 := own_below hown3 hbb (Nat.le_refl _)
 have hbd4 := rdLB (hbd3.below (Nat.le_refl _) hbb)
 have c5 : Wb.cell? ⟨w.heap.size, 5, none⟩ = some (.slice ab body.length capb) := by rw [cell_of_row _ _ _ _ _ _ hp4]; rfl
 have hm1 : 0 + body.length ≤ maxLen := by show _ ≤ 9223372036854775807; omega
 have hm2 : (0 + body.length) * 1 ≤ 140737488355328 := by omega
 have hbs : w2.heap.size ≤ Wb.heap.size := by omega
 have hone := bb1_one body
 have Hone := Lib.hid hone
 have Hbel := Lib.hid (hbel3.trans (hbb.mono hbel3.size))
 have Hp4 := Lib.hid hp4
 have Hq4 := Lib.hid hq4
 have Hown4 := Lib.hid hown4
 have Hvl2 := Lib.hid hvl2
 have Hv2 := Lib.hid hv2
 clear hone hp4 hq4 hown4 hown3 hbd3 hp3 hq3 hK3 hbb hbel3 hvl2 hv2 hbd2 hp2 hq2 hown2 hbel2 hs3 a4 g4
 subst hWb
 subst hW3
 go_wp2_with (at_builtin; go_must (refine wpList_append_any bb1_len (by decide) rfl (.tmp 8) (.tmp 10) 22 rfl w2.heap.size 5 i0 (.int .u8 0) 1 Tryz.underlying22 hi hz0 hz1 hz2 rfl _ _ _ rfl hownB _ body rfl hbd4 hnb Hone.out hm1 hm2 hbs ?_); rintro v5 w5 hown5 hg5 _; rw [Nat.zero_add, List.nil_append] at hown5; obtain ⟨a6, c6, hv6⟩ := own_form0 hown5; subst hv6; have hB5 := ((Below.refl w2.heap.size _)).grown hg5 (by omega) (fun k hk => by cases hk; exact Nat.le_refl _); have hp5 := (hB5.block _ (by omega)).trans Hp4.out; have hq5 := (hB5.block _ (by omega)).trans Hq4.out; obtain ⟨⟨x0, x1, x2, x3, x4, x5⟩, y0, y1, y2, y3, y4, y5⟩ := cells6 hp5; obtain ⟨⟨u0, u1, u2, u3, u4, u5⟩, z0, z1, z2, z3, z4, z5⟩ := cells6 hq5)
 have hown6 := own_keeps Hown4.out (Keeps.grown hg5) (fun k hk e => by have h1 := Hvl2.out _ hk; have h2 : w2.heap.size = k := Option.some.inj e; omega)
 have hbel5 := (Hbel.out).trans (hB5.mono (by omega))
 have hs5 := hB5.size
 have hvb5 := own_base hown5
 have Hp5 := Lib.hid hp5
 have Hq5 := Lib.hid hq5
 have Hown6 := Lib.hid hown6
 have Hown5 := Lib.hid hown5
 have Hvb5 := Lib.hid hvb5
 clear hp5 hq5 hown6 hB5 hg5 hown5 hvb5 Hp4 Hq4 Hown4 hownB hbd4 c5 hm1 hm2 hbs Hbel
 have hK6 : Keeps (fun k => k = w.heap.size ∨ k = w.heap.size + 1) w5 (w5.setCell ⟨w.heap.size, 5, none⟩ (.slice a6 body.length c6)) := Keeps.setCell _ _ _ (.inl rfl)
 have hq6 := (Keeps.setCell (F := fun k => k = w.heap.size) w5 ⟨w.heap.size, 5, none⟩ (.slice a6 body.length c6) rfl).heap Hq5.out (show ¬ (w.heap.size + 1 = w.heap.size) by omega)
 have hB := heap6 ⟨_, _, _, _, _, _, hq6⟩ (.int .i64 id) (.int .i64 parent) (.int .i64 born) (.string sf) (.slice a2 rcpts.length c2) (.slice a6 body.length c6)
 have hst : ∀ (W : World) (j : Nat) (v : Value), Keeps (fun k => k = w.heap.size ∨ k = w.heap.size + 1) W (W.setCell ⟨w.heap.size + 1, j, none⟩ v) := fun W j v => Keeps.setCell _ _ _ (.inr rfl)
 have hKf := (((((hK6.trans (hst _ 0 (.int .i64 id))).trans (hst _ 1 (.int .i64 parent))).trans (hst _ 2 (.int .i64 born))).trans (hst _ 3 (.string sf))).trans (hst _ 4 (.slice a2 rcpts.length c2))).trans (hst _ 5 (.slice a6 body.length c6))
 refine bodyPost_ret (results_row1 rfl _ _ (w.heap.size + 1) 29 _ (0, 0) _ rfl hB Tryz.underlying29 rfl (by kernel_rfl)) rfl ⟨_, _, rfl, own_mono (own_keeps Hown6.out hKf ?_) (by omega), ?_, hbel5.trans (hKf.below (fun k hk => by omega) hbel5.size)⟩
 ·intro k hk e; have := Hv2.out k hk; omega
 ·have h := own_mono (own_keeps Hown5.out hKf (fun k hk e => by have := Hvb5.out k hk; omega)) (base' := w.heap.size) (by omega)
  rw [bb1_flat] at h
  exact h
set_option maxRecDepth 100000
open Go.RowKit Go.Maps
abbrev Nm := List UInt8
def ptrElem : Value → Option (DataW Unit × List MemPlace)
 | .pointer (some ⟨b, 0, none⟩) => some (.lit (.int .i64 b), [])
 | .pointer none => some (.nil, [])
 | _ => none
theorem ptrElem_inv {v : Value} {z : DataW Unit × List MemPlace} (h : ptrElem v = some z) : (v = .pointer none ∧ z = (.nil, [])) ∨ ∃ b : Nat, v = .pointer (some ⟨b, 0, none⟩) ∧ z = (.lit (.int .i64 b), []) := by
 unfold ptrElem at h
 split at h
 ·cases h; exact .inr ⟨_, rfl, rfl⟩
 ·cases h; exact .inl ⟨rfl, rfl⟩
 ·cases h
abbrev Dir := List (Nm × Nat)
def entD (p : Nm × Nat) : Lit × DataW Unit := (.string p.1, .lit (.int .i64 p.2))
def dirD (l : Dir) : DataW Unit := .map (l.map entD)
def Dir.look (l : Dir) (n : Nm) : Option Nat := (l.find? (fun p => p.1 == n)).map (·.2)
def Dir.ins (x : Nm × Nat) : Dir → Dir
 | [] => [x]
 | y :: r => if Lit.before (.string x.1) (.string y.1) then x :: y :: r else y :: Dir.ins x r
def Dir.del (l : Dir) (n : Nm) : Dir := l.filter (fun p => !(p.1 == n))
def Dir.put (l : Dir) (n : Nm) (x : Nat) : Dir := (Dir.del l n).ins (n, x)
theorem same_str (a b : Nm) : (Lit.string a).sameKey (.string b) = (a == b) := by
 unfold Lit.sameKey; rfl
theorem dirD_ins (x : Nm × Nat) : ∀ l : Dir, DataW.insert (entD x) (l.map entD) = (l.ins x).map entD
 | [] => rfl
 | y :: r => by
  rw [List.map_cons, DataW.insert, Dir.ins]
  show (if Lit.before (.string x.1) (.string y.1) then _ else _) = _
  split
  ·rfl
  ·rw [List.map_cons, dirD_ins x r]
theorem dirD_del (l : Dir) (n : Nm) : (dirD l).del (.string n) = dirD (l.del n) := by
 unfold dirD Dir.del
 show DataW.map _ = DataW.map _
 rw [List.filter_map]
 congr 1
theorem dirD_put (l : Dir) (n : Nm) (x : Nat) : (dirD l).put (.string n) (.lit (.int .i64 x)) = dirD (l.put n x) := by
 unfold Dir.put
 show DataW.map (DataW.insert (entD (n, x)) _) = _
 unfold dirD
 rw [← dirD_ins]
 congr 2
 unfold Dir.del
 rw [List.filter_map]
 congr 1
theorem dirD_has (l : Dir) (n : Nm) : Maps.has (dirD l) (.string n) = (l.look n).isSome := by
 unfold dirD Dir.look
 rw [Maps.has_eq, List.any_map, Option.isSome_map]
 induction l with
 | nil => rfl
 | cons p r ih =>
  rw [List.any_cons, List.find?_cons, ih]
  show ((p.1 == n) || _) = _
  cases p.1 == n <;> rfl
theorem dirD_at (l : Dir) (n : Nm) (z : DataW Unit) : (dirD l).atKey (.string n) z = match l.look n with | some x => DataW.lit (.int .i64 (x : Int)) | none => z := by
 unfold dirD Dir.look
 unfold DataW.atKey
 dsimp only
 rw [List.find?_map]
 have : ((fun p : Lit × DataW Unit => p.1.sameKey (.string n)) ∘ entD) = (fun p : Nm × Nat => p.1 == n) := rfl
 rw [this]
 cases List.find? (fun p : Nm × Nat => p.1 == n) l <;> rfl
theorem dirD_size (l : Dir) : Maps.size (dirD l) = l.length := by unfold dirD; rw [Maps.size_eq, List.length_map]
end Go.Proofs.YtffnbkmigapmjaaGreatDoor
