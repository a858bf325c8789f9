/-
  What the reading of a slice argument tells besides: nil is nil, and how long it may be.
  The walks of word.Writer.Bytes and word.Reader.Bytes.
  The walks of env.sum and pillarboxref01.Bytes.
  A mail's record, as plain bytes; a Writer step by step.
  The walk of env.Encode.
  The plain side of the laws on marks' bytes: what is written is read again, what is cut is read up to the cut.
  What bytes say as a mail's record: plain functions over bytes, and their laws.
  The walk of word.Reader.Bytes.
  The walk of pillarboxref01's Eye: its next number.
  A Reader's and an Eye's state, as what is left; the walk of pillarboxref01.Eye.Bytes.
  The walk of pillarboxref10.Own.
-/
import Derived.Test.YtjddicoigbidlaaGreatDoorQ1
import Derived.Test.YtjddicoigbidlaaGreatDoorQ2
import Derived.Test.YtjddicoigbidlaaGreatDoorQ4
import Derived.Test.YtjddicoigbidlaaGreatDoorQ5
import Derived.SizedLaws
import Derived.Maps.AppendAt
set_option linter.unusedSimpArgs false
set_option linter.unusedVariables false
set_option maxRecDepth 100000
namespace Go.Proofs.YtjddicoigbidlaaGreatDoor
open Go.ChangeShapes Go.WideShapes Go.Deep Go.RowKit
section
variable {H : Type} {enc : TypeId × Value → H} {W : World} {r : Reach} {b0 base : Nat} {spare : Nat → Bool} {held : Bool} {v : Value} {d : DataW H} {p : List MemPlace}
theorem slice_told {t e : TypeId} (ht : Tryz.prog.underlying t = some (.slice e)) (hv : Value.okWide Tryz.prog W r b0 t v) (h : DataW.Trod enc Tryz.prog W base spare held t v d p) :
    NilOk v ∧ ∀ a len cap, v = .slice a len cap → (d = .nil ∧ len = 0) ∨ ∃ el sp, d = .slice el sp ∧ el.length = len := by
  obtain ⟨a0, len0, cap0, rfl⟩ := okWide_slice ht hv
  obtain ⟨fuel, hf⟩ := h
  rcases DataW.trod_slice ht hf with ⟨hcs, hd⟩ | ⟨a, len, cap, elems, rest, n, _, hcs, hd, _, _, _, hlen, _⟩
  · simp [Value.cells] at hcs
    obtain ⟨rfl, rfl, rfl⟩ := hcs
    refine ⟨fun l c h => (by cases h; exact ⟨rfl, rfl⟩), fun a l c h => .inl ?_⟩
    cases h
    exact ⟨congrArg Prod.fst hd, rfl⟩
  · simp [Value.cells] at hcs
    obtain ⟨rfl, rfl, rfl⟩ := hcs
    refine ⟨fun l c h => (by cases h), fun a l c h => .inr ?_⟩
    cases h
    exact ⟨_, _, congrArg Prod.fst hd, by simpa using hlen⟩
end
end Go.Proofs.YtjddicoigbidlaaGreatDoor

set_option linter.unusedSimpArgs false
set_option linter.unusedVariables false
namespace Go.Proofs.YtjddicoigbidlaaGreatDoor
open Go.RowKit
/-- A byte's cell. -/
def bb1 (x : UInt8) : List Value := [u8v x]
theorem bb1_len (x : UInt8) : (bb1 x).length = 1 := rfl
theorem bb1_flat (bs : List UInt8) : bs.flatMap bb1 = bs.map u8v := by induction bs with
  | nil => rfl
  | cons x xs ih => rw [List.flatMap_cons, ih]; rfl
theorem bb1_one (bs : List UInt8) : ∀ c ∈ bs.flatMap bb1, c.oneCell' = true := by rw [bb1_flat]; exact one_u8 bs
theorem rdLB {w : World} {v : Value} {bs : List UInt8} (h : RdB w v bs) : RdL 1 bb1 w v bs := by
  rcases h with ⟨a, c, h1, h2, h3⟩ | ⟨b, off, cap, h1, h0, h2, h3, h4, h5⟩
  · exact .inl ⟨a, c, h1, h2, h3⟩
  · refine .inr ⟨b, off, cap, h1, h0, h2, h3, h4, fun i x hx j u hu => ?_⟩
    cases j with
    | zero => rw [bb1] at hu; cases hu; rw [Nat.mul_one, Nat.add_zero]; exact h5 i x hx
    | succ j => rw [bb1] at hu; cases hu
/-- Behind how many they are. -/
def lenB (bs : List UInt8) : List UInt8 := num8 bs.length ++ bs
theorem wpList_append_anyAt {α : Type} {s : Nat} {f : α → List Value} (hf : ∀ x, (f x).length = s) (hs0 : 0 < s) {P : Program} {w : World} {ops : Array Oper} {rest : List Oper} {o : Oper} {a : Act} {Q : Exit → Act → World → Prop} (hgd : o.guard = none) (s1 x : Operand) (t : TypeId)
    (ho : o.op = .call { callee := .builtin .append, args := #[s1, x], argTypes := #[t, t] })
    (base : Nat) (e : TypeId) (i : TypeInfo) (z : Value) (bytes : Nat) (ht : P.underlying t = some (.slice e)) (hi : P.info? e = some i) (hz : i.zero = some z)
    (hsize : i.size = s) (hby : i.bytes = bytes) (hzs : z.cells.size = s)
    (v : Value) (n : Nat) (xs : List Value) (hs : a.eval s1 = v) (hown : w.ownsRow base e s v n xs)
    (u : Value) (ys : List α) (hx : a.eval x = u) (hr : RdL s f w u ys) (hn : NilOk u) (h1 : ∀ c ∈ ys.flatMap f, c.oneCell' = true)
    (h63 : n + ys.length ≤ maxLen) (hbytes : (n + ys.length) * bytes ≤ 140737488355328) (hbase : base ≤ w.heap.size)
    (h : ∀ v' w', w'.ownsRow base e s v' (n + ys.length) (xs ++ ys.flatMap f) → w.grownBy w' v.ownBlock → (v'.ownBlock = v.ownBlock ∨ v'.ownBlock = some w.heap.size) → wpList P ops Q rest (a.put o.dst v') w') : wpList P ops Q (o :: rest) a w := by
  obtain ⟨ad, cap, rfl, _, _⟩ := hr.form
  cases ad with
  | none =>
    obtain ⟨hl, hc⟩ := hn _ _ rfl
    have hy : ys = [] := List.length_eq_zero_iff.1 hl
    subst hy
    subst hc
    refine wpList_append_own_none hgd s1 x t ho base e i s ht hi v n xs hs hown hx (h v w (by simpa using hown) (World.grownBy.refl _ _) (.inl rfl))
  | some ad =>
    refine wpList_append_own_at w hgd s1 x t ho base e i z s bytes ht hi hz hsize hby hzs hs0 v n xs hs hown ad ys.length cap (ys.flatMap f) hx (flat_len hf ys) ?_ h1 h63 hbytes hbase (fun v' w' h2 h3 _ h4 => h v' w' h2 h3 h4)
    by_cases hy : ys = []
    · subst hy; intro j u hu; cases hu
    · obtain ⟨b, off, e⟩ := addr_some hr hy
      cases e
      exact hr.news hf hs0
set_option maxRecDepth 100000 in
set_option maxHeartbeats 2000000 in
theorem wBytes_good (b base : Nat) (v : Value) (bs : List UInt8) (bad : Bool) (vb : Value) (data : List UInt8) (w : World) (hW : WrAt w b base v bs bad) (hd : RdB w vb data) (hnil : NilOk vb) (hne : vb.ownBlock ≠ some b) (hne2 : ∀ k, vb.ownBlock = some k → v.ownBlock ≠ some k)
    (hbase : base ≤ w.heap.size) (hlen : bs.length + 8 + data.length ≤ 1099511627776) :
    Calls Tryz.prog 41 #[.pointer (some ⟨b, 0, none⟩), vb] w (WrDone w b base v (bs ++ lenB data) bad) := by
  obtain ⟨i0, hi, hz0, hz1, hz2⟩ := info_parts infoU8
  obtain ⟨a, cap, rfl, hlc, hcap⟩ := hd.form
  have hnum := wNum_good b base v bs bad data.length w hW (by omega) hbase (by omega)
  have hone := bb1_one data
  have Hone := Lib.hid hone
  have Hnum := Lib.hid hnum
  have Hnil := Lib.hid hnil
  obtain ⟨n, hn⟩ : ∃ n, data.length = n := ⟨_, rfl⟩
  have Hn := Lib.hid hn
  have hdl : data.length ≤ 1099511627776 := by omega
  clear hone hnum hnil hn
  go_enter Tryz.func41, Tryz.ntmps41
  go_wp2_with fail
  refine (Hnum.out).mono ?_; rintro e w1 ⟨v1, rfl, hW1, hK1, hat1⟩
  have hd1 : RdB w1 (.slice a data.length cap) data := hd.keeps hK1 (fun k hk h => by
    rcases h with h | h
    · exact hne (by rw [hk, h])
    · exact hne2 k hk h)
  have hsrc := rdLB hd1
  have hb1 := hW1.blk
  have hc0 : w1.cell? ⟨b, 0, none⟩ = some v1 := by rw [cell_of_row _ _ _ _ _ _ hb1]; rfl
  have hbS := (Array.getElem?_eq_some_iff.1 hb1).1
  have hll : (bs ++ num8 data.length).length = bs.length + 8 := by rw [List.length_append, num8_length]
  have hown1 := hW1.own
  obtain ⟨L, hL⟩ : ∃ L, (bs ++ num8 data.length).length = L := ⟨_, rfl⟩
  rw [hL] at hown1 hll
  have HL := Lib.hid hL
  have hm1 : L + data.length ≤ maxLen := by show _ ≤ 9223372036854775807; omega
  have hm2 : (L + data.length) * 1 ≤ 140737488355328 := by omega
  have hbs : base ≤ w1.heap.size := by have := hK1.size; omega
  have HW1 := Lib.hid hW1
  have HK1 := Lib.hid hK1
  have Hat1 := Lib.hid hat1
  clear hW1 hK1 hat1 hll hL
  generalize hcs : bs ++ num8 data.length = cs at hown1
  have Hcs := Lib.hid hcs
  clear hcs
  have Hhb1 := Lib.hid hb1
  go_wp2_with (at_builtin; go_must (refine wpList_append_anyAt bb1_len (by decide) rfl (.tmp 14) (.tmp 15) 23 rfl base 5 i0 (.int .u8 0) 1 Tryz.underlying23 hi hz0 hz1 hz2 rfl _ _ _ rfl hown1 _ data rfl hsrc Hnil.out Hone.out hm1 hm2 hbs ?_); rintro v2 w2 hown2 hg2' hat2'; have hg2 : w1.grownBy w2 v1.ownBlock := hg2'; have hat2 : v2.ownBlock = v1.ownBlock ∨ v2.ownBlock = some w1.heap.size := hat2'; clear hg2' hat2'; obtain ⟨a2, cap2, hv2⟩ := own_form0 hown2; subst hv2; have hblk2 : w2.heap[b]? = some (.cells #[v1, .bool bad] 70 (0, 0)) := (Keeps.grown hg2).heap (k := b) Hhb1.out HW1.out.ne; have hc2 : w2.cell? ⟨b, 0, none⟩ = some v1 := (by rw [cell_of_row _ _ _ _ _ _ hblk2]; rfl); have hf2 : w2.frozen? ⟨b, 0, none⟩ = false := (by simp [World.frozen?, hblk2]))
  go_end0
  have hne' : (Value.slice a2 (L + data.length) cap2).ownBlock ≠ some b := by
    rcases hat2 with h | h
    · rw [h]; exact HW1.out.ne
    · rw [h]; intro e; have := Option.some.inj e; omega
  have hK2 : Keeps (fun k => k = b ∨ v.ownBlock = some k) w w2 := HK1.out.go (Keeps.grown hg2) (by
    intro k h
    rcases Hat1.out with h1 | ⟨g, h1, h2⟩
    · exact .inl (.inr (by rw [← h1]; exact h))
    · rw [h1] at h; cases h; exact .inr h2)
  have hK3 := Keeps.setCell (F := fun k => k = b ∨ v.ownBlock = some k) w2 ⟨b, 0, none⟩ (.slice a2 (L + data.length) cap2) (.inl rfl)
  refine ⟨_, rfl, ⟨heap_setCell_same _ _ 0 _ _ _ hblk2, ?_, hne'⟩, hK2.trans hK3, ?_⟩
  · have h := own_keeps hown2 (Keeps.setCell (F := fun k => k = b) w2 ⟨b, 0, none⟩ (.slice a2 (L + data.length) cap2) rfl) (fun k hk e => hne' (by rw [hk, e]))
    rw [bb1_flat, ← List.map_append, ← Hcs.out] at h
    have e : (bs ++ lenB data).length = L + data.length := by rw [lenB, ← List.append_assoc, List.length_append, HL.out]
    rw [e, lenB, ← List.append_assoc]
    exact h
  · rcases hat2 with h | h
    · rw [h]
      rcases Hat1.out with h1 | ⟨g, h1, h2⟩
      · exact .inl h1
      · exact .inr ⟨g, h1, h2⟩
    · exact .inr ⟨_, h, HK1.out.size⟩
end Go.Proofs.YtjddicoigbidlaaGreatDoor

set_option linter.unusedSimpArgs false
set_option linter.unusedVariables false
namespace Go.Proofs.YtjddicoigbidlaaGreatDoor
open Go.RowKit
set_option maxRecDepth 100000 in
set_option maxHeartbeats 1000000 in
theorem envSum_calls (v : Value) (bs : List UInt8) (w : World) (hv : RdB w v bs) :
    Calls Tryz.prog 43 #[v] w (RowDone w (be4 (PbCrc.sum bs))) := by
  go_enter Tryz.func43, Tryz.ntmps43
  go_wp2_with fail
  refine (crcSum_calls _ _ _ hv).mono ?_; rintro e w1 ⟨rfl, hb1⟩
  obtain ⟨c, hcs⟩ : ∃ c, PbCrc.sum bs = c := ⟨_, rfl⟩
  rw [hcs]
  have hlt := c.isLt
  have hc0 : (0 : Int) ≤ (c.toNat : Int) := by omega
  have u24 : IntKind.u8.wrap ((c.toNat : Int) / 16777216) = ((UInt8.ofNat (c.toNat / 2 ^ 24)).toNat : Int) := wrap_u8_shr c.toNat 24
  have u16 : IntKind.u8.wrap ((c.toNat : Int) / 65536) = ((UInt8.ofNat (c.toNat / 2 ^ 16)).toNat : Int) := wrap_u8_shr c.toNat 16
  have u8' : IntKind.u8.wrap ((c.toNat : Int) / 256) = ((UInt8.ofNat (c.toNat / 2 ^ 8)).toNat : Int) := wrap_u8_shr c.toNat 8
  have u0 : IntKind.u8.wrap (c.toNat : Int) = ((UInt8.ofNat c.toNat).toNat : Int) := wrap_u8_nat c.toNat
  have hfin : be4 (PbCrc.sum bs) = [UInt8.ofNat (c.toNat / 2 ^ 24), UInt8.ofNat (c.toNat / 2 ^ 16), UInt8.ofNat (c.toNat / 2 ^ 8), UInt8.ofNat c.toNat] := by rw [hcs]; rfl
  generalize UInt8.ofNat (c.toNat / 2 ^ 24) = b0 at u24 hfin
  generalize UInt8.ofNat (c.toNat / 2 ^ 16) = b1 at u16 hfin
  generalize UInt8.ofNat (c.toNat / 2 ^ 8) = b2 at u8' hfin
  generalize UInt8.ofNat c.toNat = b3 at u0 hfin
  have Hfin := Lib.hid hfin
  clear hfin hcs
  go_wp2
  go_ret
  refine ⟨_, rfl, by rw [Hfin.out]; exact own_mono (World.ownsRow_lit w1 #[u8v b0, u8v b1, u8v b2, u8v b3] 4 (Nat.le_refl _) (by decide) rfl) hb1.size, hb1.alloc hb1.size _⟩
set_option maxRecDepth 100000 in
set_option maxHeartbeats 1000000 in
theorem refBytes_calls (vb : Value) (data : List UInt8) (w : World) (hd : RdB w vb data) (hnil : NilOk vb) (hlen : data.length ≤ 1099511627776) :
    Calls Tryz.prog 56 #[vb] w (RowDone w (lenB data)) := by
  obtain ⟨i0, hi, hz0, hz1, hz2⟩ := info_parts infoU8
  obtain ⟨a, cap, rfl, hlc, hcap⟩ := hd.form
  have hnum := refNum8 data.length (by omega) w
  have hone := bb1_one data
  have Hone := Lib.hid hone
  have Hnum := Lib.hid hnum
  have Hnil := Lib.hid hnil
  clear hone hnum hnil
  go_enter Tryz.func56, Tryz.ntmps56
  go_wp2_with fail
  refine (Hnum.out).mono ?_; rintro e w1 ⟨g, cp, rfl, hown1, hb1, hg1⟩
  have hsrc := rdLB (hd.below (Nat.le_refl _) hb1)
  have hm1 : 8 + data.length ≤ maxLen := by show _ ≤ 9223372036854775807; omega
  have hm2 : (8 + data.length) * 1 ≤ 140737488355328 := by omega
  have hbs := hb1.size
  go_wp2_with (at_builtin; go_must (refine wpList_append_any bb1_len (by decide) rfl (.tmp 5) (.tmp 6) 23 rfl w.heap.size 5 i0 (.int .u8 0) 1 Tryz.underlying23 hi hz0 hz1 hz2 rfl _ _ _ rfl hown1 _ data rfl hsrc Hnil.out Hone.out hm1 hm2 hbs ?_); rintro v2 w2 hown2 hg2 _)
  go_ret
  refine ⟨v2, rfl, ?_, Below.grown hb1 hg2 hbs (fun k hk => own_base hown1 k hk)⟩
  rw [bb1_flat, ← List.map_append] at hown2
  have e : (lenB data).length = 8 + data.length := by rw [lenB, List.length_append, num8_length]
  rw [e]; exact hown2
end Go.Proofs.YtjddicoigbidlaaGreatDoor

set_option linter.unusedSimpArgs false
set_option linter.unusedVariables false
namespace Go.Proofs.YtjddicoigbidlaaGreatDoor
open Go.RowKit
theorem nilOk_own {w : World} {base : Nat} {e : TypeId} {size : Nat} {v : Value} {n : Nat} {xs : List Value} (h : w.ownsRow base e size v n xs) : NilOk v := by
  obtain ⟨_, ⟨h2, h3⟩ | ⟨g, cap, cur, hv', _⟩⟩ := h
  · intro l c e; rw [e] at h2; cases h2; exact ⟨rfl, rfl⟩
  · intro l c e; rw [e] at hv'; cases hv'
/-- What is summed of a mail. -/
def MailD.inner (m : MailD) : List UInt8 :=
  ((((num8 m.id.toNat ++ num8 m.parent.toNat ++ num8 m.born.toNat) ++ lenB m.frm) ++ num8 m.rcpts.length) ++ m.rcpts.flatMap lenB) ++ lenB m.body
/-- A mail's record. -/
def MailD.record (m : MailD) : List UInt8 := lenB m.inner ++ be4 (PbCrc.sum m.inner)
theorem lenB_length (l : List UInt8) : (lenB l).length = 8 + l.length := by rw [lenB, List.length_append, num8_length]
theorem flat_lenB_le (ls : List (List UInt8)) (k : Nat) (h : ∀ l ∈ ls, l.length ≤ k) : (ls.flatMap lenB).length ≤ ls.length * (8 + k) := by
  induction ls with
  | nil => simp
  | cons x xs ih =>
    rw [List.flatMap_cons, List.length_append, lenB_length, List.length_cons, Nat.succ_mul]
    have := ih (fun l hl => h l (List.mem_cons_of_mem _ hl))
    have := h x List.mem_cons_self
    omega
/-- A text turned to bytes: a row that is new. -/
theorem conv_text (l : List UInt8) (hs : l.length ≤ 4294967280) (w : World) :
    ∃ C W, (convert 9 23 (.string (strL l))).run Tryz.prog w = .ok (.slice (some ⟨w.heap.size, 0, none⟩) l.length C) W ∧ RdB W (.slice (some ⟨w.heap.size, 0, none⟩) l.length C) l ∧ Below w.heap.size w W := by
  have h := run_bytes_of_string (P := Tryz.prog) w 9 23 5 (strL l) Tryz.underlying9 Tryz.underlying23 Tryz.underlying5
  rw [strL_size] at h
  have hcm : grownCap w l.length 0 5 ≤ 9223372036854775807 := grownCap_le_maxLen w l.length 0 5 (by show _ ≤ 9223372036854775807; omega)
  refine ⟨_, _, h, ?_, (Below.refl _ _).drew.alloc (Nat.le_refl _) _⟩
  by_cases hl : l = []
  · subst hl; exact .inl ⟨_, _, rfl, hcm, rfl⟩
  · refine .inr ⟨_, 0, _, rfl, hl, grownCap_ge _ _ _ _, hcm, by simp [World.alloc], fun j x hx => ?_⟩
    have hi := (List.getElem?_eq_some_iff.1 hx).1
    have hbl : (w.drew.alloc (.cells (bytesRow (strL l) (grownCap w l.length 0 5)) 5 ((bytesRow (strL l) (grownCap w l.length 0 5)).size, (bytesRow (strL l) (grownCap w l.length 0 5)).size + 1))).heap[w.heap.size]? = some (.cells (bytesRow (strL l) (grownCap w l.length 0 5)) 5 ((bytesRow (strL l) (grownCap w l.length 0 5)).size, (bytesRow (strL l) (grownCap w l.length 0 5)).size + 1)) := heap_alloc_new w.drew _
    rw [cell_of_row _ _ _ _ _ _ hbl]
    have h2 := bytesRow_at (strL l) (grownCap w l.length 0 5) j (by simp [strL]; exact hi)
    rw [Nat.zero_add, h2]
    have : (strL l).data[j]'(by simp [strL]; exact hi) = x := by
      have := (List.getElem?_eq_some_iff.1 hx).2
      simp [strL, this]
    rw [this]
/-- A Writer that is not bad, behind a beginning. -/
def WrOn (W0 : World) (b : Nat) (w : World) (bs : List UInt8) : Prop := ∃ v, WrAt w b W0.heap.size v bs false ∧ Keeps (fun k => k = b) W0 w
theorem WrOn.start {W0 : World} {b : Nat} (h : W0.heap[b]? = some (.cells #[.slice none 0 0, .bool false] 70 (0, 0))) : WrOn W0 b W0 [] :=
  ⟨.slice none 0 0, ⟨h, World.ownsRow_nil _ _ _ _, by simp [Value.ownBlock]⟩, Keeps.refl _ _⟩
theorem WrOn.go {W0 : World} {b : Nat} {w w' : World} {bs : List UInt8} (h : WrOn W0 b w bs) (hb : Below w.heap.size w w') : WrOn W0 b w' bs := by
  obtain ⟨v, hW, hK⟩ := h
  have hbS := (Array.getElem?_eq_some_iff.1 hW.blk).1
  exact ⟨v, ⟨(hb.block _ hbS).trans hW.blk, own_below hW.own hb (Nat.le_refl _), hW.ne⟩, hK.trans (Keeps.ofBelow hb)⟩
theorem WrOn.of {W0 : World} {b : Nat} {w : World} {v : Value} {bs cs : List UInt8} (hW : WrAt w b W0.heap.size v bs false) (hK : Keeps (fun k => k = b) W0 w) {e : Ending} {w' : World} (h : WrDone w b W0.heap.size v cs false e w') :
    e = .returned (.tuple #[]) ∧ WrOn W0 b w' cs := by
  obtain ⟨v', rfl, hW', hK', _⟩ := h
  refine ⟨rfl, v', hW', hK.go hK' (fun k hk => ?_)⟩
  rcases hk with h | h
  · exact .inl h
  · exact .inr (own_base hW.own k h)
theorem WrOn.num {W0 : World} {b : Nat} {w : World} {bs : List UInt8} (h : WrOn W0 b w bs) (n : Nat) (hn : n ≤ 4611686018427387904) (hl : bs.length ≤ 1000000000) :
    Calls Tryz.prog 40 #[.pointer (some ⟨b, 0, none⟩), .int .i64 n] w fun e w' => e = .returned (.tuple #[]) ∧ WrOn W0 b w' (bs ++ num8 n) := by
  obtain ⟨v, hW, hK⟩ := h
  exact (wNum_good b W0.heap.size v bs false n w hW hn hK.size (by omega)).mono fun e w' h => WrOn.of hW hK h
theorem WrOn.bytes {W0 : World} {b : Nat} {w w2 : World} {bs : List UInt8} (h : WrOn W0 b w bs) (hB : Below w.heap.size w w2) {vb : Value} {data : List UInt8} (hd : RdB w2 vb data) (hnil : NilOk vb)
    (hk : ∀ k, vb.ownBlock = some k → k ≠ b ∧ (k < W0.heap.size ∨ w.heap.size ≤ k)) (hl : bs.length ≤ 1000000000) (hl2 : data.length ≤ 1000000000) :
    Calls Tryz.prog 41 #[.pointer (some ⟨b, 0, none⟩), vb] w2 fun e w' => e = .returned (.tuple #[]) ∧ WrOn W0 b w' (bs ++ lenB data) := by
  obtain ⟨v0, hW0, hK0⟩ := id h
  obtain ⟨v, hW, hK⟩ : ∃ v, WrAt w2 b W0.heap.size v bs false ∧ Keeps (fun k => k = b) W0 w2 ∧ ∀ k, v.ownBlock = some k → k < w.heap.size := by
    have hbS := (Array.getElem?_eq_some_iff.1 hW0.blk).1
    exact ⟨v0, ⟨(hB.block _ hbS).trans hW0.blk, own_below hW0.own hB (Nat.le_refl _), hW0.ne⟩, hK0.trans (Keeps.ofBelow hB), fun k hk => (hW0.own.lt k hk).2⟩
  obtain ⟨hK, hlt⟩ := hK
  refine (wBytes_good b W0.heap.size v bs false vb data w2 hW hd hnil (fun e => (hk b e).1 rfl) (fun k hk1 hk2 => ?_) hK.size (by omega)).mono fun e w' h => WrOn.of hW hK h
  have h1 := own_base hW.own k hk2
  have h2 := hlt k hk2
  rcases (hk k hk1).2 with h | h <;> omega
theorem WrOn.out {W0 : World} {b : Nat} {w : World} {bs : List UInt8} (h : WrOn W0 b w bs) (hl : bs.length ≤ 1000000000) : Calls Tryz.prog 42 #[.pointer (some ⟨b, 0, none⟩)] w (OutDone w bs) := by
  obtain ⟨v, hW, hK⟩ := h
  exact wOut_calls b W0.heap.size v bs w hW (by omega)
theorem WrOn.cell {W0 : World} {b : Nat} {w : World} {bs : List UInt8} (h : WrOn W0 b w bs) {k o : Nat} {v : Value} (hk : k ≠ b) (hc : W0.cell? ⟨k, o, none⟩ = some v) : w.cell? ⟨k, o, none⟩ = some v := by
  obtain ⟨v, hW, hK⟩ := h
  exact hK.cell hk hc
theorem WrOn.below {W0 : World} {b B : Nat} {w : World} {bs : List UInt8} (h : WrOn W0 b w bs) (hb : B ≤ b) (hB : B ≤ W0.heap.size) : Below B W0 w := by
  obtain ⟨v, hW, hK⟩ := h
  exact hK.below (fun k hk => by omega) hB
theorem WrOn.size {W0 : World} {b : Nat} {w : World} {bs : List UInt8} (h : WrOn W0 b w bs) : W0.heap.size ≤ w.heap.size := by
  obtain ⟨v, hW, hK⟩ := h
  exact hK.size
theorem WrOn.rdb {W0 : World} {b : Nat} {w : World} {bs : List UInt8} (h : WrOn W0 b w bs) {v : Value} {xs : List UInt8} (hr : RdB W0 v xs) (hv : v.ownBlock ≠ some b) : RdB w v xs := by
  obtain ⟨u, hW, hK⟩ := h
  exact hr.keeps hK (fun k hk e => hv (by rw [hk, e]))
theorem WrOn.rds {W0 : World} {b : Nat} {w : World} {bs : List UInt8} (h : WrOn W0 b w bs) {v : Value} {xs : List (List UInt8)} (hr : RdS W0 v xs) (hv : v.ownBlock ≠ some b) : RdS w v xs := by
  obtain ⟨u, hW, hK⟩ := h
  exact RdL.keeps hr hK (fun k o l c hk e => hv (by rw [hk, e]; rfl))
end Go.Proofs.YtjddicoigbidlaaGreatDoor

set_option linter.unusedSimpArgs false
set_option linter.unusedVariables false
namespace Go.Proofs.YtjddicoigbidlaaGreatDoor
open Go.RowKit
theorem good_iff (m : MailD) : m.good = true ↔ (1 ≤ m.id ∧ m.id ≤ 999999999) ∧ (0 ≤ m.parent ∧ m.parent ≤ m.id - 1) ∧ (0 ≤ m.born ∧ m.born ≤ 1099511627776) ∧ (1 ≤ m.rcpts.length ∧ m.rcpts.length ≤ 8) ∧ m.body.length ≤ 8192 ∧ bodyB m.body = true ∧ (m.frm.length = 0 ∨ boxB m.frm = true) ∧ m.rcpts.all boxB = true := by
  unfold MailD.good
  simp only [Bool.and_eq_true, Bool.or_eq_true, decide_eq_true_eq]
  constructor
  · rintro ⟨a, b, c, d, e⟩; exact ⟨a, b, c, by omega, e⟩
  · rintro ⟨a, b, c, d, e⟩; exact ⟨a, b, c, by omega, e⟩
def MailD.small (m : MailD) : Prop := m.frm.length ≤ 100000 ∧ ∀ l ∈ m.rcpts, l.length ≤ 100000
theorem inner_small (m : MailD) (h : m.small) (hr : m.rcpts.length ≤ 8) (hb : m.body.length ≤ 8192) : m.inner.length ≤ 1000000 := by
  have := flat_lenB_le m.rcpts 100000 h.2
  have h2 := h.1
  have h3 : m.rcpts.length * (8 + 100000) ≤ 8 * (8 + 100000) := Nat.mul_le_mul_right _ hr
  unfold MailD.inner
  simp only [List.length_append, num8_length, lenB_length]
  omega
def EncBad (e : Ending) : Prop := e = .returned (.tuple #[.slice none 0 0, .bool false])
set_option maxRecDepth 100000 in
set_option maxHeartbeats 8000000 in
theorem encode_bad (m : MailD) (vr vb : Value) (w : World) (hr : RdS w vr m.rcpts) (hb : RdB w vb m.body) (hsr : ∀ l ∈ m.rcpts, l.length < 4294967281) (hsf : m.frm.length < 4294967281) (hmax : MaxOk w) (hg : m.good = false) :
    Calls Tryz.prog 14 #[mailVal m vr vb] w fun e w' => EncBad e ∧ Below w.heap.size w w' := by
  obtain ⟨W, hW⟩ : ∃ W, w.alloc (.cells #[.int .i64 m.id, .int .i64 m.parent, .int .i64 m.born, .string (strL m.frm), vr, vb] 25) = W := ⟨_, rfl⟩
  have hbW : Below w.heap.size w W := by rw [← hW]; exact (Below.refl _ _).alloc (Nat.le_refl _) _
  have hgd := envGood_calls m vr vb W (hr.below (Nat.le_refl _) hbW) (hb.below (Nat.le_refl _) hbW) hsr hsf (hmax.below hbW)
  rw [hg] at hgd
  have Hgd := Lib.hid hgd
  clear hgd hg hsr hsf hmax hr hb
  subst hW
  obtain ⟨id, parent, born, frm, rcpts, body⟩ := m
  unfold mailVal at Hgd ⊢
  simp only at Hgd ⊢
  generalize strL frm = sf at *
  go_enter Tryz.func14, Tryz.ntmps14
  go_wp2_with fail
  refine (Hgd.out).mono ?_; rintro e w1 ⟨rfl, hb1⟩
  have hbw1 := hbW.trans (hb1.mono hbW.size)
  go_wp2
  go_ret2
  exact ⟨rfl, hbw1⟩
def EnvEncDone (w : World) (bs : List UInt8) (e : Ending) (w' : World) : Prop :=
  ∃ v', e = .returned (.tuple #[v', .bool true]) ∧ w'.ownsRow w.heap.size 5 1 v' bs.length (bs.map u8v) ∧ Below w.heap.size w w'
set_option maxRecDepth 100000 in
set_option maxHeartbeats 16000000 in
theorem encode_good (m : MailD) (vr vb : Value) (w : World) (hr : RdS w vr m.rcpts) (hb : RdB w vb m.body) (hnb : NilOk vb) (hsm : m.small) (hmax : MaxOk w) (hg : m.good = true) (hor : ∀ k, vr.ownBlock = some k → k < w.heap.size) (hob : ∀ k, vb.ownBlock = some k → k < w.heap.size) :
    Calls Tryz.prog 14 #[mailVal m vr vb] w (EnvEncDone w m.record) := by
  obtain ⟨W, hW⟩ : ∃ W, w.alloc (.cells #[.int .i64 m.id, .int .i64 m.parent, .int .i64 m.born, .string (strL m.frm), vr, vb] 25) = W := ⟨_, rfl⟩
  have hbW : Below w.heap.size w W := by rw [← hW]; exact (Below.refl _ _).alloc (Nat.le_refl _) _
  have hgd := envGood_calls m vr vb W (hr.below (Nat.le_refl _) hbW) (hb.below (Nat.le_refl _) hbW) (fun l h => by have := hsm.2 l h; omega) (by have := hsm.1; omega) (hmax.below hbW)
  rw [hg] at hgd
  have hgi := (good_iff m).1 hg
  have hin := inner_small m hsm hgi.2.2.2.1.2 hgi.2.2.2.2.1
  have hrec : m.record = lenB m.inner ++ be4 (PbCrc.sum m.inner) := rfl
  have Hgd := Lib.hid hgd
  clear hgd hg hmax
  obtain ⟨id, parent, born, frm, rcpts, body⟩ := m
  unfold MailD.small at hsm
  unfold mailVal at Hgd ⊢
  simp only at Hgd hgi hr hb hsm hW ⊢
  obtain ⟨⟨h1a, h1b⟩, ⟨h2a, h2b⟩, ⟨h3a, h3b⟩, ⟨h4a, h4b⟩, h5, -⟩ := hgi
  obtain ⟨n0, rfl⟩ := Int.eq_ofNat_of_zero_le (show 0 ≤ id by omega)
  obtain ⟨n1, rfl⟩ := Int.eq_ofNat_of_zero_le h2a
  obtain ⟨n2, rfl⟩ := Int.eq_ofNat_of_zero_le h3a
  obtain ⟨bs, hbs⟩ : ∃ bs, bs = (MailD.mk (n0 : Int) n1 n2 frm rcpts body).inner := ⟨_, rfl⟩
  rw [← hbs] at hin hrec
  rw [hrec]
  have hbs' : bs = ((((num8 n0 ++ num8 n1 ++ num8 n2) ++ lenB frm) ++ num8 rcpts.length) ++ rcpts.flatMap lenB) ++ lenB body := hbs
  clear hbs hrec
  have hlen := fun (j : Nat) => flat_lenB_le (rcpts.take j) 100000 (fun l h => hsm.2 l (List.mem_of_mem_take h))
  obtain ⟨hs1, hs2⟩ := hsm
  obtain ⟨ar, capr, rfl, hlr, hcr⟩ := hr.form
  obtain ⟨ab, capb, rfl, hlb, hcb⟩ := hb.form
  have hblkM : W.heap[w.heap.size]? = some (.cells #[.int .i64 n0, .int .i64 n1, .int .i64 n2, .string (strL frm), .slice ar rcpts.length capr, .slice ab body.length capb] 25 (0, 0)) := by rw [← hW]; exact heap_alloc_new w _
  have hrW := hr.below (Nat.le_refl _) hbW
  have hbdW := hb.below (Nat.le_refl _) hbW
  have Hbs := Lib.hid hbs'
  have Hr := Lib.hid hrW
  have Hb := Lib.hid hbdW
  have HblkM := Lib.hid hblkM
  have Hor := Lib.hid hor
  have Hob := Lib.hid hob
  have Hnb := Lib.hid hnb
  have Hlen := Lib.hid hlen
  have Hs2 := Lib.hid hs2
  have hsW : W.heap.size = w.heap.size + 1 := by rw [← hW]; simp
  have HsW := Lib.hid hsW
  clear hbs' hr hb hrW hbdW hblkM hor hob hnb hlen hs2 hsW
  subst hW
  go_enter Tryz.func14, Tryz.ntmps14
  go_wp2_with fail
  refine (Hgd.out).mono ?_; rintro e w1 ⟨rfl, hb1⟩
  have hbw1 := hbW.trans (hb1.mono hbW.size)
  have hM : w.heap.size < w1.heap.size := by have := hb1.size; have := HsW.out; omega
  have hblk1 := (hb1.block _ (by rw [HsW.out]; omega)).trans HblkM.out
  have hcM : ∀ (j : Nat) v, (#[Value.int .i64 n0, .int .i64 n1, .int .i64 n2, .string (strL frm), .slice ar rcpts.length capr, .slice ab body.length capb] : Array Value)[j]? = some v → w1.cell? ⟨w.heap.size, j, none⟩ = some v := by
    intro j v hv; rw [cell_of_row _ _ _ _ _ _ hblk1]; exact hv
  obtain ⟨W0, hW0⟩ : ∃ W0, (w1.alloc (.cells #[.slice none 0 0, .bool false] 70)).alloc (.cells #[.int .i64 n0, .int .i64 n1, .int .i64 n2] 3) = W0 := ⟨_, rfl⟩
  have hb10 : Below w1.heap.size w1 W0 := by rw [← hW0]; exact ((Below.refl _ _).alloc (Nat.le_refl _) _).alloc (by simp) _
  have hs0 : W0.heap.size = w1.heap.size + 2 := by rw [← hW0]; simp
  have hwr0 : WrOn W0 w1.heap.size W0 [] := WrOn.start (by rw [← hW0]; exact heap_alloc2_old _ _ _)
  have hi3 : W0.heap[w1.heap.size + 1]? = some (.cells #[.int .i64 n0, .int .i64 n1, .int .i64 n2] 3 (0, 0)) := by rw [← hW0]; exact heap_alloc2_new _ _ _
  have hcI : ∀ (j : Nat) v, (#[Value.int .i64 n0, .int .i64 n1, .int .i64 n2] : Array Value)[j]? = some v → W0.cell? ⟨w1.heap.size + 1, j, none⟩ = some v := by
    intro j v hv; rw [cell_of_row _ _ _ _ _ _ hi3]; exact hv
  have hcM0 : ∀ (j : Nat) v, (#[Value.int .i64 n0, .int .i64 n1, .int .i64 n2, .string (strL frm), .slice ar rcpts.length capr, .slice ab body.length capb] : Array Value)[j]? = some v → W0.cell? ⟨w.heap.size, j, none⟩ = some v :=
    fun j v hv => (hb10.cell (p := ⟨w.heap.size, j, none⟩) hM).trans (hcM j v hv)
  have m0 := hcM 0 _ rfl
  have m1 := hcM 1 _ rfl
  have m2 := hcM 2 _ rfl
  have hr0 := (Hr.out.below (Nat.le_refl _) hb1).below (Nat.le_refl _) hb10
  have hbd0 := (Hb.out.below (Nat.le_refl _) hb1).below (Nat.le_refl _) hb10
  have HcM0 := Lib.hid hcM0
  have HcI := Lib.hid hcI
  have Hr0 := Lib.hid hr0
  have Hbd0 := Lib.hid hbd0
  have Hwr0 := Lib.hid hwr0
  clear hcM0 hcI hr0 hbd0 hwr0 hi3 hcM hblk1
  subst hW0
  go_wp2
  generalize hW0 : (w1.alloc (.cells #[.slice none 0 0, .bool false] 70)).alloc (.cells #[.int .i64 n0, .int .i64 n1, .int .i64 n2] 3) = W0 at *
  have hne1 : w1.heap.size + 1 ≠ w1.heap.size := by omega
  have hneM : w.heap.size ≠ w1.heap.size := by omega
  have hnes : (Value.slice ar rcpts.length capr).ownBlock ≠ some w1.heap.size := fun e => by have := Hor.out _ e; omega
  have hneb : (Value.slice ab body.length capb).ownBlock ≠ some w1.heap.size := fun e => by have := Hob.out _ e; omega
  have Hneb := Lib.hid hneb
  have Hnes := Lib.hid hnes
  clear hnes hneb m0 m1 m2 hb1 Hgd Hr Hb HblkM HsW hW0
  go_loopw [26] (fun i wr => ∃ j : Nat, j ≤ 3 ∧ i = .int .i64 j ∧ WrOn W0 w1.heap.size wr (((num8 n0 ++ num8 n1) ++ num8 n2).take (8 * j))) (fun i _ => 3 - (intOf i).toNat)
  case atStart => exact ⟨0, Nat.zero_le _, rfl, by simpa using Hwr0.out⟩
  case round =>
    obtain ⟨j, hj, rfl, hon⟩ := hrel
    by_cases hlt : j < 3
    · obtain ⟨n, hn, hcn, hnx⟩ : ∃ n : Nat, n ≤ 4611686018427387904 ∧ wr.cell? ⟨w1.heap.size + 1, j, none⟩ = some (.int .i64 n) ∧ ((num8 n0 ++ num8 n1) ++ num8 n2).take (8 * (j + 1)) = ((num8 n0 ++ num8 n1) ++ num8 n2).take (8 * j) ++ num8 n := by
        have e0 := num8_length n0
        have e1 := num8_length n1
        have e2 := num8_length n2
        match j, hlt with
        | 0, _ => exact ⟨n0, by omega, hon.cell hne1 (HcI.out 0 _ rfl), by rw [List.append_assoc, List.take_append_of_le_length (by omega), List.take_of_length_le (by omega)]; simp⟩
        | 1, _ => exact ⟨n1, by omega, hon.cell hne1 (HcI.out 1 _ rfl), by rw [List.take_append_of_le_length (by simp; omega), List.take_of_length_le (by simp; omega), List.take_append_of_le_length (by simp; omega), List.take_append_of_le_length (by omega), List.take_of_length_le (by omega)]⟩
        | 2, _ => exact ⟨n2, by omega, hon.cell hne1 (HcI.out 2 _ rfl), by rw [List.take_of_length_le (by simp; omega), List.take_append_of_le_length (by simp; omega), List.take_of_length_le (by simp; omega)]⟩
      have hcall := hon.num n hn (by simp; omega)
      rw [← hnx] at hcall
      have Hcall := Lib.hid hcall
      have hj0 : (0 : Int) ≤ (j : Int) := by omega
      have hj1 : (j : Int) < 3 := by omega
      clear hcall hnx hn hon
      go_wp2_with fail
      refine (Hcall.out).mono ?_; rintro e w2 ⟨rfl, hon2⟩
      have Hon2 := Lib.hid hon2
      clear hon2
      go_wp2
      go_roundw
      case rel => exact ⟨j + 1, by omega, by simp, Hon2.out⟩
      case measure => simp [intOf] <;> omega
    · have hje : j = 3 := by omega
      subst hje
      rw [List.take_of_length_le (by simp [num8_length])] at hon
      generalize hp3 : (num8 n0 ++ num8 n1) ++ num8 n2 = p3 at hon
      have hl3 : p3.length = 24 := by rw [← hp3]; simp [num8_length]
      have Hp3 := Lib.hid hp3
      clear hp3
      have c3 := hon.cell hneM (HcM0.out 3 _ rfl)
      obtain ⟨C, W2, hrun, hrd, hb2⟩ := conv_text frm (by omega) wr
      have hcall := hon.bytes hb2 hrd (fun l c e => by cases e) (fun k hk => by cases hk; have := hon.size; exact ⟨by show wr.heap.size ≠ _; omega, .inr (Nat.le_refl _)⟩) (by omega) (by omega)
      generalize strL frm = sf at c3 hrun
      have Hcall := Lib.hid hcall
      clear hcall hon hrd hb2
      go_wp2_with fail
      refine (Hcall.out).mono ?_; rintro e w2 ⟨rfl, hon2⟩
      generalize hp4 : p3 ++ lenB frm = p4 at hon2
      have hl4 : p4.length ≤ 24 + 8 + 100000 := by rw [← hp4, List.length_append, lenB_length]; omega
      have Hp4 := Lib.hid hp4
      clear hp4
      have c4 := hon2.cell hneM (HcM0.out 4 _ rfl)
      have hcall2 := hon2.num rcpts.length (by omega) (by omega)
      have Hcall2 := Lib.hid hcall2
      clear hcall2 hon2
      go_wp2_with fail
      refine (Hcall2.out).mono ?_; rintro e w3 ⟨rfl, hon3⟩
      generalize hp5 : p4 ++ num8 rcpts.length = p5 at hon3
      have hl5 : p5.length ≤ 24 + 8 + 100000 + 8 := by rw [← hp5, List.length_append, num8_length]; omega
      have Hp5 := Lib.hid hp5
      clear hp5
      have c4' := hon3.cell hneM (HcM0.out 4 _ rfl)
      have Hon3 := Lib.hid hon3
      clear hon3
      go_wp2
      go_loopw [47] (fun i wr => ∃ j : Nat, j ≤ rcpts.length ∧ i = .int .i64 j ∧ WrOn W0 w1.heap.size wr (p5 ++ (rcpts.take j).flatMap lenB)) (fun i _ => rcpts.length - (intOf i).toNat)
      case atStart => exact ⟨0, Nat.zero_le _, rfl, by simpa using Hon3.out⟩
      case round =>
        obtain ⟨j, hj, rfl, hon⟩ := hrel
        by_cases hlt : j < rcpts.length
        · obtain ⟨x, hx⟩ : ∃ x, rcpts[j]? = some x := ⟨_, List.getElem?_eq_getElem hlt⟩
          obtain ⟨b1, o1, k1, e1, _, p1⟩ := RdS.at (hon.rds Hr0.out Hnes.out) hx
          cases e1
          have hxl := Hs2.out x (List.mem_of_getElem? hx)
          have hlj := Hlen.out j
          have hlj2 : (rcpts.take j).length * (8 + 100000) ≤ 8 * (8 + 100000) := Nat.mul_le_mul_right _ (by rw [List.length_take]; omega)
          obtain ⟨C, W2, hrun, hrd, hb2⟩ := conv_text x (by omega) wr
          have hcall := hon.bytes hb2 hrd (fun l c e => by cases e) (fun k hk => by cases hk; have := hon.size; exact ⟨by show wr.heap.size ≠ _; omega, .inr (Nat.le_refl _)⟩) (by rw [List.length_append]; omega) (by omega)
          have hnx : p5 ++ (rcpts.take (j + 1)).flatMap lenB = (p5 ++ (rcpts.take j).flatMap lenB) ++ lenB x := by rw [take_snoc hx, List.flatMap_append, List.append_assoc]; simp
          rw [← hnx] at hcall
          generalize strL x = sx at p1 hrun
          have Hcall := Lib.hid hcall
          have hj0 : (0 : Int) ≤ (j : Int) := by omega
          have hj1 : (j : Int) < (rcpts.length : Int) := by omega
          clear hcall hon hrd hb2 hnx hx
          go_wp2_with fail
          refine (Hcall.out).mono ?_; rintro e w4 ⟨rfl, hon4⟩
          have Hon4 := Lib.hid hon4
          clear hon4
          go_wp2
          go_roundw
          case rel => exact ⟨j + 1, by omega, by simp, Hon4.out⟩
          case measure => simp [intOf] <;> omega
        · have hje : j = rcpts.length := by omega
          have hlj := Hlen.out j
          have hlj2 : (rcpts.take j).length * (8 + 100000) ≤ 8 * (8 + 100000) := Nat.mul_le_mul_right _ (by rw [List.length_take]; omega)
          subst hje
          rw [List.take_of_length_le (Nat.le_refl _)] at hon hlj hlj2
          generalize hp6 : p5 ++ rcpts.flatMap lenB = p6 at hon
          have hl6 : p6.length ≤ 1000000 := by rw [← hp6, List.length_append]; omega
          have Hp6 := Lib.hid hp6
          clear hp6 hlj hlj2
          have c5 := hon.cell hneM (HcM0.out 5 _ rfl)
          have hcall := hon.bytes (Below.refl _ _) (hon.rdb Hbd0.out Hneb.out) Hnb.out (fun k hk => ⟨fun e => Hneb.out (by rw [hk, e]), .inl (by have := Hob.out k hk; omega)⟩) (by omega) (by omega)
          have hin' : p6 ++ lenB body = bs := by rw [Hbs.out, ← Hp6.out, ← Hp5.out, ← Hp4.out, ← Hp3.out]
          rw [hin'] at hcall
          have Hcall := Lib.hid hcall
          clear hcall hon hin'
          go_wp2_with fail
          refine (Hcall.out).mono ?_; rintro e w5 ⟨rfl, hon5⟩
          have hout := hon5.out (by omega)
          have hbw5 : Below w1.heap.size w1 w5 := hb10.trans (hon5.below (Nat.le_refl _) (by omega))
          have Hout := Lib.hid hout
          clear hout hon5
          go_wp2_with fail
          refine (Hout.out).mono ?_; rintro e w6 ⟨vi, rfl, hown6, hb6⟩
          have hbw6 := hbw5.trans (hb6.mono hbw5.size)
          have hri := rdB_ofOwn hown6
          have hvb := own_base hown6
          have hvl := fun k hk => (hown6.lt k hk).2
          obtain ⟨W7, hW7⟩ : ∃ W7, w6.alloc (.cells #[.slice none 0 0, .bool false] 70) = W7 := ⟨_, rfl⟩
          have hb7 : Below w6.heap.size w6 W7 := by rw [← hW7]; exact (Below.refl _ _).alloc (Nat.le_refl _) _
          have hs7 : W7.heap.size = w6.heap.size + 1 := by rw [← hW7]; simp
          have hwr7 : WrOn W7 w6.heap.size W7 [] := WrOn.start (by rw [← hW7]; exact heap_alloc_new w6 _)
          have hri7 := hri.below (Nat.le_refl _) hb7
          obtain ⟨ai, capi, hvi⟩ := own_form0 hown6
          have hnil : NilOk vi := by
            obtain ⟨_, ⟨h2, h3⟩ | ⟨g, cap, cur, hv', _⟩⟩ := hown6
            · intro l c e; rw [e] at h2; cases h2; exact ⟨rfl, rfl⟩
            · intro l c e; rw [e] at hv'; cases hv'
          have hcall := hwr7.bytes (Below.refl _ _) hri7 hnil (fun k hk => by have := hvl k hk; exact ⟨by omega, .inl (by omega)⟩) (by simp) (by omega)
          rw [List.nil_append] at hcall
          have Hcall := Lib.hid hcall
          have Hri := Lib.hid hri7
          have Hvl := Lib.hid hvl
          have hbw7 := hbw6.trans (hb7.mono hbw6.size)
          have hsz5 := hb6.size
          have hsz1 := hbw5.size
          clear hcall hri hri7 hvl hown6 hwr7 hvb hnil
          subst hvi
          subst hW7
          go_wp2_with fail
          refine (Hcall.out).mono ?_; rintro e w8 ⟨rfl, hon8⟩
          have hout8 := hon8.out (by rw [lenB_length]; omega)
          have hri8 := hon8.rdb Hri.out (fun e => by have := Hvl.out _ e; omega)
          have hb8 : Below w6.heap.size _ w8 := hon8.below (Nat.le_refl _) (by omega)
          have hbw8 := hbw7.trans (hb8.mono (by omega))
          have Hout8 := Lib.hid hout8
          have Hri8 := Lib.hid hri8
          have hs8 := hon8.size
          clear hout8 hri8 hon8
          go_wp2_with fail
          refine (Hout8.out).mono ?_; rintro e w9 ⟨vo, rfl, hown9, hb9⟩
          have hri9 := Hri8.out.below (Nat.le_refl _) hb9
          have hbw9 := hbw8.trans (hb9.mono hbw8.size)
          have hsum := envSum_calls _ bs w9 hri9
          have Hsum := Lib.hid hsum
          clear hsum hri9
          go_wp2_with fail
          refine (Hsum.out).mono ?_; rintro e w10 ⟨vs, rfl, hown10, hb10'⟩
          have hownO := own_below hown9 hb10' (Nat.le_refl _)
          have hsrc := rdLB (rdB_ofOwn hown10)
          have hnils : NilOk vs := by
            obtain ⟨_, ⟨h2, h3⟩ | ⟨g, cap, cur, hv', _⟩⟩ := hown10
            · intro l c e; rw [e] at h2; cases h2; exact ⟨rfl, rfl⟩
            · intro l c e; rw [e] at hv'; cases hv'
          have hone := bb1_one (be4 (PbCrc.sum bs))
          have h4 : (be4 (PbCrc.sum bs)).length = 4 := rfl
          have hLb := lenB_length bs
          have hm1 : (lenB bs).length + (be4 (PbCrc.sum bs)).length ≤ maxLen := by show _ ≤ 9223372036854775807; omega
          have hm2 : ((lenB bs).length + (be4 (PbCrc.sum bs)).length) * 1 ≤ 140737488355328 := by omega
          have hbs10 : w8.heap.size ≤ w10.heap.size := by have := hb9.size; have := hb10'.size; omega
          have hbw10 := hbw9.trans (hb10'.mono hbw9.size)
          obtain ⟨i0, hi, hz0, hz1, hz2⟩ := info_parts infoU8
          have Hone := Lib.hid hone
          clear hone hown9 hown10
          go_wp2_with (at_builtin; go_must (refine wpList_append_any bb1_len (by decide) rfl (.tmp 74) (.tmp 76) 23 rfl w8.heap.size 5 i0 (.int .u8 0) 1 Tryz.underlying23 hi hz0 hz1 hz2 rfl _ _ _ rfl hownO _ (be4 (PbCrc.sum bs)) rfl hsrc hnils Hone.out hm1 hm2 hbs10 ?_); rintro v2 w11 hown11 hg11 _)
          go_ret2
          have hsw8 : w.heap.size ≤ w8.heap.size := by omega
          refine ⟨v2, rfl, ?_, (hbw1.trans (hbw10.mono hbw1.size)).grown hg11 (by have := hbw10.size; omega) (fun k hk => by have := own_base hownO k hk; omega)⟩
          rw [bb1_flat, ← List.map_append, ← List.length_append] at hown11
          exact own_mono hown11 hsw8
end Go.Proofs.YtjddicoigbidlaaGreatDoor

set_option linter.unusedSimpArgs false
set_option linter.unusedVariables false
namespace Go.Proofs.YtjddicoigbidlaaGreatDoor
open Go.RowKit
theorem beNat_num8 (n : Nat) (h : n < 18446744073709551616) : beNat (num8 n) = n := by
  have e : num8 n = [UInt8.ofNat (n / 2 ^ 56), UInt8.ofNat (n / 2 ^ 48), UInt8.ofNat (n / 2 ^ 40), UInt8.ofNat (n / 2 ^ 32), UInt8.ofNat (n / 2 ^ 24), UInt8.ofNat (n / 2 ^ 16), UInt8.ofNat (n / 2 ^ 8), UInt8.ofNat (n / 2 ^ 0)] := rfl
  rw [e]
  simp only [beNat, List.foldl_cons, List.foldl_nil, UInt8.toNat_ofNat']
  omega
theorem parse_bytes (k : MarkD) (hg : k.good = true) : parseMark k.bytes = some k := by
  have hg' : 1 ≤ k.kind ∧ k.kind ≤ 5 ∧ 0 ≤ k.rcpt ∧ k.rcpt < 8 ∧ 0 ≤ k.n ∧ k.n ≤ 1099511627776 := of_decide_eq_true hg
  have hm : markOf k.bytes = k := by
    obtain ⟨kind, rcpt, n⟩ := k
    simp only at hg'
    obtain ⟨a, rfl⟩ := Int.eq_ofNat_of_zero_le (show 0 ≤ kind by omega)
    obtain ⟨b, rfl⟩ := Int.eq_ofNat_of_zero_le (show 0 ≤ rcpt by omega)
    obtain ⟨c, rfl⟩ := Int.eq_ofNat_of_zero_le (show 0 ≤ n by omega)
    have ea : (num8 a).length = 8 := num8_length a
    have eb : (num8 b).length = 8 := num8_length b
    have ec : (num8 c).length = 8 := num8_length c
    unfold markOf MarkD.bytes MarkD.body
    simp only [Int.toNat_natCast]
    rw [List.append_assoc, List.append_assoc]
    have t1 : (num8 a ++ (num8 b ++ (num8 c ++ be4 (PbCrc.sum (num8 a ++ num8 b ++ num8 c))))).take 8 = num8 a := by rw [List.take_append_of_le_length (by omega), List.take_of_length_le (by omega)]
    have d1 : (num8 a ++ (num8 b ++ (num8 c ++ be4 (PbCrc.sum (num8 a ++ num8 b ++ num8 c))))).drop 8 = num8 b ++ (num8 c ++ be4 (PbCrc.sum (num8 a ++ num8 b ++ num8 c))) := List.drop_left' ea
    have d2 : (num8 a ++ (num8 b ++ (num8 c ++ be4 (PbCrc.sum (num8 a ++ num8 b ++ num8 c))))).drop 16 = num8 c ++ be4 (PbCrc.sum (num8 a ++ num8 b ++ num8 c)) := by
      rw [show 16 = 8 + 8 from rfl, ← List.drop_drop, d1]; exact List.drop_left' eb
    rw [t1, d1, d2, List.take_append_of_le_length (by omega), List.take_of_length_le (by omega), List.take_append_of_le_length (by omega), List.take_of_length_le (by omega)]
    rw [beNat_num8 a (by omega), beNat_num8 b (by omega), beNat_num8 c (by omega)]
  unfold parseMark
  rw [hm, if_pos ⟨hg, rfl⟩]
/-- The bytes of marks. -/
def bytesM (ks : List MarkD) : List UInt8 := ks.flatMap MarkD.bytes
theorem bytesM_length (ks : List MarkD) : (bytesM ks).length = 28 * ks.length := by
  induction ks with
  | nil => rfl
  | cons k ks ih => unfold bytesM at *; rw [List.flatMap_cons, List.length_append, ih, bytes_length, List.length_cons]; omega
theorem decodeN_cut : ∀ (ks : List MarkD) (m n : Nat), (∀ k ∈ ks, k.good = true) → ks.length ≤ m → n ≤ (bytesM ks).length → decodeN m ((bytesM ks).take n) = ks.take (n / 28) := by
  intro ks
  induction ks with
  | nil => intro m n _ _ _; cases m <;> simp [bytesM, decodeN]
  | cons k ks ih =>
    intro m n hg hm hn
    rw [bytesM_length] at hn
    rw [List.length_cons] at hm hn
    obtain ⟨m, rfl⟩ : ∃ m', m = m' + 1 := ⟨m - 1, by omega⟩
    have hl := bytes_length k
    have hb : bytesM (k :: ks) = k.bytes ++ bytesM ks := rfl
    rw [decodeN]
    by_cases hn28 : n < 28
    · rw [if_pos (by rw [List.length_take]; omega), show n / 28 = 0 by omega]; rfl
    · have hle : ((bytesM (k :: ks)).take n).length = n := by rw [List.length_take, bytesM_length, List.length_cons]; omega
      rw [if_neg (by omega)]
      have ht : ((bytesM (k :: ks)).take n).take 28 = k.bytes := by
        rw [List.take_take, hb, Nat.min_eq_left (by omega), List.take_append_of_le_length (by omega), List.take_of_length_le (by omega)]
      have hd : ((bytesM (k :: ks)).take n).drop 28 = (bytesM ks).take (n - 28) := by
        rw [List.drop_take, hb, List.drop_left' hl]
      rw [ht, hd, parse_bytes k (hg k List.mem_cons_self)]
      simp only
      rw [ih m (n - 28) (fun x hx => hg x (List.mem_cons_of_mem _ hx)) (by omega) (by rw [bytesM_length]; omega)]
      rw [show n / 28 = (n - 28) / 28 + 1 by omega, List.take_succ_cons]
theorem decodeM_cut (ks : List MarkD) (n : Nat) (hg : ∀ k ∈ ks, k.good = true) (hm : ks.length ≤ 4096) (hn : n ≤ (bytesM ks).length) : decodeM ((bytesM ks).take n) = ks.take (n / 28) :=
  decodeN_cut ks 4096 n hg hm hn
/-- A slice's first elements. -/
theorem run_slice_pre {P : Program} {t e : TypeId} {s : Nat} (ht : P.underlying t = some (.slice e)) (hi : (P.info? e).map (·.size) = some s) (a : Option Addr) (len cap h : Nat) (hh : h ≤ cap) (w : World) :
    (Instr.sliceAt t (.slice a len cap) none (some (.int .i64 (h : Int))) none).run P w = .ok (.slice a h cap) w := by
  obtain ⟨i, hi1, hi2⟩ := Option.map_eq_some_iff.1 hi
  simp [Instr.sliceAt, Instr.slice, Instr.sliceBounds, Instr.sliceBound, run_underlying ht, asIntOf, go_sem, hi1, hi2, sizeOf, typeInfo]
  intro h'; omega
theorem RdL.pre {α : Type} {s : Nat} {f : α → List Value} {w : World} {a : Option Addr} {len cap : Nat} {xs : List α} (h : RdL s f w (.slice a len cap) xs) (k : Nat) (hk : k ≤ xs.length) : RdL s f w (.slice a k cap) (xs.take k) := by
  rcases h with ⟨a', c, hv, hc, rfl⟩ | ⟨b, off, cap', hv, hne, h1, h2, h3, h4⟩
  · cases hv
    obtain rfl : k = 0 := by simpa using hk
    exact .inl ⟨_, _, rfl, hc, rfl⟩
  · cases hv
    by_cases e : k = 0
    · subst e; exact .inl ⟨_, _, rfl, h2, rfl⟩
    · have hl : (xs.take k).length = k := by rw [List.length_take]; omega
      refine .inr ⟨b, off, cap, by rw [hl], by intro h; rw [h] at hl; simp at hl; omega, by omega, h2, h3, ?_⟩
      intro i x hx j u hu
      rw [List.getElem?_take] at hx
      split at hx
      · exact h4 i x hx j u hu
      · cases hx
end Go.Proofs.YtjddicoigbidlaaGreatDoor

set_option linter.unusedSimpArgs false
set_option linter.unusedVariables false
namespace Go.Proofs.YtjddicoigbidlaaGreatDoor
/-- The next number, and what is left (none: something lacked). -/
def numO : Option (List UInt8) → Nat × Option (List UInt8)
  | none => (0, none)
  | some bs => if bs.length < 8 then (0, none) else if 4611686018427387904 < beNat (bs.take 8) then (0, none) else (beNat (bs.take 8), some (bs.drop 8))
/-- The next bytes, and what is left. -/
def bytesO (o : Option (List UInt8)) : List UInt8 × Option (List UInt8) :=
  match (numO o).2 with
  | none => ([], none)
  | some r => if (numO o).1 ≤ r.length then (r.take (numO o).1, some (r.drop (numO o).1)) else ([], none)
def manyO : Nat → Option (List UInt8) → List (List UInt8) × Option (List UInt8)
  | 0, o => ([], o)
  | n + 1, o => ((manyO n o).1 ++ [(bytesO (manyO n o).2).1], (bytesO (manyO n o).2).2)
/-- A mail's parts, read one behind the other. -/
def readA (bs : List UInt8) := numO (some bs)
def readB (bs : List UInt8) := numO (readA bs).2
def readC (bs : List UInt8) := numO (readB bs).2
def readF (bs : List UInt8) := bytesO (readC bs).2
def readN (bs : List UInt8) := numO (readF bs).2
def readL (bs : List UInt8) := manyO (readN bs).1 (readN bs).2
def readT (bs : List UInt8) := bytesO (readL bs).2
def readMail (bs : List UInt8) : MailD := ⟨((readA bs).1 : Int), ((readB bs).1 : Int), ((readC bs).1 : Int), (readF bs).1, (readL bs).1, (readT bs).1⟩
def readM (bs : List UInt8) : Option MailD := if (readN bs).1 ≤ 8 ∧ (readT bs).2 = some [] ∧ (readMail bs).good = true then some (readMail bs) else none
/-- The good mail whose record bytes begin with, and the record's length. -/
def decodeMail (bs : List UInt8) : Option (MailD × Nat) :=
  match (bytesO (some bs)).2 with
  | none => none
  | some rest => if rest.length < 4 then none else if rest.take 4 = be4 (PbCrc.sum (bytesO (some bs)).1) then (readM (bytesO (some bs)).1).map fun m => (m, (bytesO (some bs)).1.length + 12) else none
theorem numO_none : numO none = (0, none) := rfl
theorem bytesO_none : bytesO none = ([], none) := rfl
theorem manyO_none (n : Nat) : (manyO n none).2 = none := by
  induction n with
  | zero => rfl
  | succ n ih => rw [manyO, ih]; rfl
theorem numO_num8 (n : Nat) (h : n ≤ 4611686018427387904) (r : List UInt8) : numO (some (num8 n ++ r)) = (n, some r) := by
  have hl := num8_length n
  have ht : (num8 n ++ r).take 8 = num8 n := by rw [List.take_append_of_le_length (by omega), List.take_of_length_le (by omega)]
  have hd : (num8 n ++ r).drop 8 = r := by rw [List.drop_append_of_le_length (by omega), List.drop_of_length_le (by omega), List.nil_append]
  rw [numO, ht, hd, beNat_num8 n (by omega), if_neg (by rw [List.length_append]; omega), if_neg (by omega)]
theorem bytesO_lenB (d : List UInt8) (h : d.length ≤ 4611686018427387904) (r : List UInt8) : bytesO (some (lenB d ++ r)) = (d, some r) := by
  rw [bytesO, lenB, List.append_assoc, numO_num8 _ h]
  simp only
  rw [if_pos (by rw [List.length_append]; omega), List.take_append_of_le_length (Nat.le_refl _), List.take_of_length_le (Nat.le_refl _), List.drop_append_of_le_length (Nat.le_refl _), List.drop_of_length_le (Nat.le_refl _), List.nil_append]
theorem manyO_snoc (n : Nat) (o : Option (List UInt8)) : manyO (n + 1) o = ((manyO n o).1 ++ [(bytesO (manyO n o).2).1], (bytesO (manyO n o).2).2) := rfl
theorem manyO_flat (ls : List (List UInt8)) (h : ∀ l ∈ ls, l.length ≤ 4611686018427387904) (r : List UInt8) : ∀ k, k ≤ ls.length → manyO k (some (ls.flatMap lenB ++ r)) = (ls.take k, some ((ls.drop k).flatMap lenB ++ r)) := by
  intro k
  induction k with
  | zero => intro _; simp [manyO]
  | succ k ih =>
    intro hk
    obtain ⟨x, hx⟩ : ∃ x, ls[k]? = some x := ⟨_, List.getElem?_eq_getElem (by omega)⟩
    have hd : ls.drop k = x :: ls.drop (k + 1) := by
      rw [List.drop_eq_getElem_cons (by omega)]; congr 1; exact (List.getElem?_eq_some_iff.1 hx).2
    rw [manyO_snoc, ih (by omega)]
    simp only
    rw [hd, List.flatMap_cons, List.append_assoc, bytesO_lenB x (h x (List.mem_of_getElem? hx)), take_snoc hx]
theorem inner_eq (m : MailD) : m.inner = num8 m.id.toNat ++ (num8 m.parent.toNat ++ (num8 m.born.toNat ++ (lenB m.frm ++ (num8 m.rcpts.length ++ (m.rcpts.flatMap lenB ++ (lenB m.body ++ [])))))) := by
  unfold MailD.inner; simp only [List.append_assoc, List.append_nil]
theorem read_steps (m : MailD) (hs : m.small) (hg : m.good = true) : (readMail m.inner) = m ∧ (readN m.inner).1 = m.rcpts.length ∧ (readT m.inner).2 = some [] := by
  obtain ⟨⟨h1a, h1b⟩, ⟨h2a, h2b⟩, ⟨h3a, h3b⟩, ⟨h4a, h4b⟩, h5, -⟩ := (good_iff m).1 hg
  obtain ⟨hs1, hs2⟩ := hs
  have eA : readA m.inner = (m.id.toNat, some (num8 m.parent.toNat ++ (num8 m.born.toNat ++ (lenB m.frm ++ (num8 m.rcpts.length ++ (m.rcpts.flatMap lenB ++ (lenB m.body ++ []))))))) := by rw [readA, inner_eq, numO_num8 _ (by omega)]
  have eB : readB m.inner = (m.parent.toNat, some (num8 m.born.toNat ++ (lenB m.frm ++ (num8 m.rcpts.length ++ (m.rcpts.flatMap lenB ++ (lenB m.body ++ [])))))) := by rw [readB, eA]; exact numO_num8 _ (by omega) _
  have eC : readC m.inner = (m.born.toNat, some (lenB m.frm ++ (num8 m.rcpts.length ++ (m.rcpts.flatMap lenB ++ (lenB m.body ++ []))))) := by rw [readC, eB]; exact numO_num8 _ (by omega) _
  have eF : readF m.inner = (m.frm, some (num8 m.rcpts.length ++ (m.rcpts.flatMap lenB ++ (lenB m.body ++ [])))) := by rw [readF, eC]; exact bytesO_lenB _ (by omega) _
  have eN : readN m.inner = (m.rcpts.length, some (m.rcpts.flatMap lenB ++ (lenB m.body ++ []))) := by rw [readN, eF]; exact numO_num8 _ (by omega) _
  have eL : readL m.inner = (m.rcpts, some (lenB m.body ++ [])) := by
    rw [readL, eN]
    have := manyO_flat m.rcpts (fun l h => by have := hs2 l h; omega) (lenB m.body ++ []) _ (Nat.le_refl _)
    rw [this, List.take_of_length_le (Nat.le_refl _), List.drop_of_length_le (Nat.le_refl _)]; rfl
  have eT : readT m.inner = (m.body, some []) := by rw [readT, eL]; exact bytesO_lenB _ (by omega) _
  refine ⟨?_, by rw [eN], by rw [eT]⟩
  rw [readMail, eA, eB, eC, eF, eL, eT]
  simp only
  rw [Int.toNat_of_nonneg (by omega), Int.toNat_of_nonneg (by omega), Int.toNat_of_nonneg (by omega)]
theorem readM_inner (m : MailD) (hs : m.small) (hg : m.good = true) : readM m.inner = some m := by
  obtain ⟨h1, h2, h3⟩ := read_steps m hs hg
  have := ((good_iff m).1 hg).2.2.2.1.2
  rw [readM, h1, h2, h3, if_pos ⟨by omega, rfl, hg⟩]
theorem record_bytes (m : MailD) (hs : m.small) (hg : m.good = true) (more : List UInt8) : bytesO (some (m.record ++ more)) = (m.inner, some (be4 (PbCrc.sum m.inner) ++ more)) := by
  have hi := (good_iff m).1 hg
  have := inner_small m hs hi.2.2.2.1.2 hi.2.2.2.2.1
  rw [MailD.record, List.append_assoc, bytesO_lenB _ (by omega)]
theorem be4_length (c : BitVec 32) : (be4 c).length = 4 := rfl
theorem record_length (m : MailD) : m.record.length = m.inner.length + 12 := by rw [MailD.record, List.length_append, lenB_length, be4_length]; omega
theorem decode_record (m : MailD) (hs : m.small) (hg : m.good = true) (more : List UInt8) : decodeMail (m.record ++ more) = some (m, m.record.length) := by
  rw [decodeMail, record_bytes m hs hg]
  simp only
  rw [if_neg (by rw [List.length_append, be4_length]; omega), List.take_append_of_le_length (by rw [be4_length]; omega), List.take_of_length_le (by rw [be4_length]; omega), if_pos rfl, readM_inner m hs hg, record_length]; rfl
/-! What is read of some bytes is read of more, too. -/
theorem numO_more {o : Option (List UInt8)} {n : Nat} {r : List UInt8} (h : numO o = (n, some r)) (q : List UInt8) : ∃ p, o = some p ∧ numO (some (p ++ q)) = (n, some (r ++ q)) := by
  cases o with
  | none => cases h
  | some p =>
    refine ⟨p, rfl, ?_⟩
    rw [numO] at h ⊢
    by_cases h1 : p.length < 8
    · rw [if_pos h1] at h; cases h
    · rw [if_neg h1] at h
      rw [if_neg (by rw [List.length_append]; omega), List.take_append_of_le_length (by omega), List.drop_append_of_le_length (by omega)]
      by_cases h2 : 4611686018427387904 < beNat (p.take 8)
      · rw [if_pos h2] at h; cases h
      · rw [if_neg h2] at h ⊢; cases h; rfl
theorem bytesO_more {o : Option (List UInt8)} {d r : List UInt8} (h : bytesO o = (d, some r)) (q : List UInt8) : ∃ p, o = some p ∧ bytesO (some (p ++ q)) = (d, some (r ++ q)) := by
  rw [bytesO] at h
  obtain ⟨n, s, hn⟩ : ∃ n s, numO o = (n, s) := ⟨_, _, rfl⟩
  rw [hn] at h
  cases s with
  | none => cases h
  | some s =>
    obtain ⟨p, rfl, hp⟩ := numO_more hn q
    refine ⟨p, rfl, ?_⟩
    rw [bytesO, hp]
    simp only at h ⊢
    by_cases h1 : n ≤ s.length
    · rw [if_pos h1] at h
      rw [if_pos (by rw [List.length_append]; omega), List.take_append_of_le_length h1, List.drop_append_of_le_length h1]
      cases h; rfl
    · rw [if_neg h1] at h; cases h
theorem manyO_more (n : Nat) : ∀ {o : Option (List UInt8)} {d : List (List UInt8)} {r : List UInt8}, manyO n o = (d, some r) → ∀ (q : List UInt8), ∃ p, o = some p ∧ manyO n (some (p ++ q)) = (d, some (r ++ q)) := by
  induction n with
  | zero => intro o d r h q; cases h; exact ⟨r, rfl, rfl⟩
  | succ n ih =>
    intro o d r h q
    rw [manyO_snoc] at h
    obtain ⟨d1, s1, h1⟩ : ∃ d1 s1, manyO n o = (d1, s1) := ⟨_, _, rfl⟩
    obtain ⟨d2, s2, h2⟩ : ∃ d2 s2, bytesO s1 = (d2, s2) := ⟨_, _, rfl⟩
    rw [h1] at h
    simp only at h
    rw [h2] at h
    simp only at h
    cases h
    obtain ⟨p1, hp1, hp2⟩ := bytesO_more h2 q
    rw [hp1] at h1
    obtain ⟨p, hp, hq⟩ := ih h1 q
    refine ⟨p, hp, ?_⟩
    rw [manyO_snoc, hq]
    simp only
    rw [hp2]
theorem numO_some {o : Option (List UInt8)} {r : List UInt8} (h : (numO o).2 = some r) : numO o = ((numO o).1, some r) := by rw [← h]
theorem bytesO_some {o : Option (List UInt8)} {r : List UInt8} (h : (bytesO o).2 = some r) : bytesO o = ((bytesO o).1, some r) := by rw [← h]
theorem manyO_some {n : Nat} {o : Option (List UInt8)} {r : List UInt8} (h : (manyO n o).2 = some r) : manyO n o = ((manyO n o).1, some r) := by rw [← h]
theorem read_more (p q : List UInt8) (r : List UInt8) (h : (readT p).2 = some r) : (readT (p ++ q)).2 = some (r ++ q) := by
  obtain ⟨p6, e6, g6⟩ := bytesO_more (bytesO_some h) q
  obtain ⟨p5, e5, g5⟩ := manyO_more _ (manyO_some e6) q
  obtain ⟨p4, e4, g4⟩ := numO_more (numO_some e5) q
  obtain ⟨p3, e3, g3⟩ := bytesO_more (bytesO_some e4) q
  obtain ⟨p2, e2, g2⟩ := numO_more (numO_some e3) q
  obtain ⟨p1, e1, g1⟩ := numO_more (numO_some e2) q
  obtain ⟨p0, e0, g0⟩ := numO_more (numO_some e1) q
  cases e0
  have a1 : readA (p ++ q) = ((readA p).1, some (p1 ++ q)) := g0
  have a2 : readB (p ++ q) = ((readB p).1, some (p2 ++ q)) := by rw [readB, a1]; exact g1
  have a3 : readC (p ++ q) = ((readC p).1, some (p3 ++ q)) := by rw [readC, a2]; exact g2
  have a4 : readF (p ++ q) = ((readF p).1, some (p4 ++ q)) := by rw [readF, a3]; exact g3
  have a5 : readN (p ++ q) = ((readN p).1, some (p5 ++ q)) := by rw [readN, a4]; exact g4
  have a6 : readL (p ++ q) = ((readL p).1, some (p6 ++ q)) := by rw [readL, a5]; exact g5
  rw [readT, a6]
  exact congrArg Prod.snd g6
theorem readM_cut (m : MailD) (hs : m.small) (hg : m.good = true) (k : Nat) (hk : k < m.inner.length) : readM (m.inner.take k) = none := by
  rw [readM]
  split
  · next h =>
    have h2 := read_more (m.inner.take k) (m.inner.drop k) [] h.2.1
    rw [List.take_append_drop, (read_steps m hs hg).2.2, List.nil_append] at h2
    have h3 := congrArg List.length (Option.some.inj h2)
    rw [List.length_drop, List.length_nil] at h3
    omega
  · rfl
theorem decode_cut (m : MailD) (hs : m.small) (hg : m.good = true) (k : Nat) (hk : k < m.record.length) : decodeMail (m.record.take k) = none := by
  cases hd : (bytesO (some (m.record.take k))).2 with
  | none => rw [decodeMail, hd]
  | some r =>
    obtain ⟨p, hp, hq⟩ := bytesO_more (bytesO_some hd) (m.record.drop k)
    cases hp
    have h0 := record_bytes m hs hg []
    rw [List.append_nil, List.append_nil] at h0
    rw [List.take_append_drop, h0] at hq
    have h2 := congrArg List.length (Option.some.inj (congrArg Prod.snd hq))
    rw [List.length_append, be4_length, List.length_drop] at h2
    rw [decodeMail, hd]
    simp only
    rw [if_pos (by omega)]
/-- One byte that is turned gives another sum. -/
theorem sum_set (bs : List UInt8) (k : Nat) (x t : UInt8) (hx : bs[k]? = some x) (ht : t ≠ 0) : PbCrc.sum (bs.set k (x ^^^ t)) ≠ PbCrc.sum bs := by
  obtain ⟨hk, hxe⟩ := List.getElem?_eq_some_iff.1 hx
  have e1 : bs = bs.take k ++ x :: bs.drop (k + 1) := by
    rw [← hxe, ← List.drop_eq_getElem_cons hk, List.take_append_drop]
  have e2 : bs.set k (x ^^^ t) = bs.take k ++ (x ^^^ t) :: bs.drop (k + 1) := by
    rw [List.set_eq_take_append_cons_drop, if_pos hk]
  intro e
  rw [e2] at e
  conv at e => rhs; rw [e1]
  unfold PbCrc.sum at e
  have e := BitVec.not_inj.1 e
  rw [PbCrc.run_append, PbCrc.run_append] at e
  generalize PbCrc.run (BitVec.allOnes 32) (bs.take k) = c at e
  generalize bs.drop (k + 1) = q at e
  have h1 : PbCrc.run c ((x ^^^ t) :: q) = PbCrc.run (PbCrc.byteStep c (x ^^^ t)) q := rfl
  have h2 : PbCrc.run c (x :: q) = PbCrc.run (PbCrc.byteStep c x) q := rfl
  rw [h1, h2] at e
  have h3 := PbCrc.byteStep_xor c 0#32 x t
  rw [show c ^^^ 0#32 = c by simp] at h3
  rw [h3] at e
  have hd : PbCrc.byteStep 0#32 t ≠ 0#32 := by
    unfold PbCrc.byteStep
    refine PbCrc.steps_ne 8 ?_
    intro h
    apply ht
    have := congrArg BitVec.toNat h
    have hlt := t.toNat_lt
    rw [BitVec.zero_xor, BitVec.toNat_ofNat, Nat.mod_eq_of_lt (by omega)] at this
    exact UInt8.toNat_inj.1 (by simpa using this)
  generalize PbCrc.byteStep 0#32 t = d at e hd
  generalize PbCrc.byteStep c x = a at e
  have h4 := PbCrc.run_lay q (List.replicate q.length 0) a d (by simp)
  rw [show PbCrc.lay q (List.replicate q.length 0) = q by
    apply List.ext_getElem (by simp [PbCrc.lay]); intro i h1 h2; simp [PbCrc.lay]] at h4
  rw [h4] at e
  apply PbCrc.run_zeros_ne q.length hd
  generalize PbCrc.run d (List.replicate q.length 0) = z at e
  generalize PbCrc.run a q = y at e
  have : y ^^^ (y ^^^ z) = y ^^^ y := by rw [e]
  rw [← BitVec.xor_assoc] at this
  simpa using this
theorem beNat_fold_inj : ∀ (l k : List UInt8) (a b : Nat), l.length = k.length → l.foldl (fun n x => n * 256 + x.toNat) a = k.foldl (fun n x => n * 256 + x.toNat) b → a = b ∧ l = k
  | [], [], a, b, _, h => ⟨h, rfl⟩
  | x :: l, y :: k, a, b, hl, h => by
    rw [List.foldl_cons, List.foldl_cons] at h
    obtain ⟨h1, h2⟩ := beNat_fold_inj l k _ _ (by simpa using hl) h
    have hx := x.toNat_lt
    have hy := y.toNat_lt
    have h3 : a = b := by omega
    have h4 : x.toNat = y.toNat := by omega
    exact ⟨h3, by rw [UInt8.toNat_inj.1 h4, h2]⟩
theorem be4_inj {c d : BitVec 32} (h : be4 c = be4 d) : c = d := by
  unfold be4 at h
  simp only [List.cons.injEq, and_true] at h
  obtain ⟨h0, h1, h2, h3⟩ := h
  have t : ∀ {a b : Nat}, UInt8.ofNat a = UInt8.ofNat b → a % 256 = b % 256 := fun e => by
    have := congrArg UInt8.toNat e
    rwa [UInt8.toNat_ofNat', UInt8.toNat_ofNat'] at this
  have g0 := t h0
  have g1 := t h1
  have g2 := t h2
  have g3 := t h3
  have hc := c.isLt
  have hd := d.isLt
  apply BitVec.eq_of_toNat_eq
  omega
theorem xor_ne {x t : UInt8} (ht : t ≠ 0) : x ^^^ t ≠ x := by
  intro e
  apply ht
  have : x ^^^ (x ^^^ t) = x ^^^ x := by rw [e]
  rw [← UInt8.xor_assoc] at this
  simpa using this
theorem set_ne {l : List UInt8} {k : Nat} {x y : UInt8} (hx : l[k]? = some x) (hy : y ≠ x) : l.set k y ≠ l := by
  intro e
  have hk := (List.getElem?_eq_some_iff.1 hx).1
  have : (l.set k y)[k]? = some y := by rw [List.getElem?_set_self hk]
  rw [e, hx] at this
  exact hy (Option.some.inj this).symm
theorem decode_turned (m : MailD) (hs : m.small) (hg : m.good = true) (k : Nat) (x t : UInt8) (hx : m.record[k]? = some x) (ht : t ≠ 0) : decodeMail (m.record.set k (x ^^^ t)) = none := by
  have hyx := xor_ne (x := x) ht
  have hss := sum_set
  have hi := (good_iff m).1 hg
  have hin := inner_small m hs hi.2.2.2.1.2 hi.2.2.2.2.1
  have hcut := readM_cut m hs hg
  have hrl := record_length m
  have hkl := (List.getElem?_eq_some_iff.1 hx).1
  rw [MailD.record] at hx ⊢
  have hl8 := num8_length m.inner.length
  have h4 : (be4 (PbCrc.sum m.inner)).length = 4 := rfl
  rw [lenB] at hx ⊢
  generalize m.inner = I at hx hcut hrl hin hl8 h4 hkl ⊢
  by_cases h8 : k < 8
  · rw [List.append_assoc] at hx ⊢
    rw [List.getElem?_append_left (by omega)] at hx
    rw [List.set_append_left _ _ (by omega)]
    obtain ⟨H, hH⟩ : ∃ H, (num8 I.length).set k (x ^^^ t) = H := ⟨_, rfl⟩
    have hHne : H ≠ num8 I.length := by rw [← hH]; exact set_ne hx hyx
    have hHl : H.length = 8 := by rw [← hH, List.length_set, hl8]
    have hbn : beNat H ≠ I.length := by
      intro e
      apply hHne
      refine (beNat_fold_inj H (num8 I.length) 0 0 (by rw [hHl, hl8]) ?_).2
      show beNat H = beNat (num8 I.length)
      rw [beNat_num8 _ (by omega), e]
    rw [hH]
    have hn : numO (some (H ++ (I ++ be4 (PbCrc.sum I)))) = if 4611686018427387904 < beNat H then (0, none) else (beNat H, some (I ++ be4 (PbCrc.sum I))) := by
      rw [numO, if_neg (by rw [List.length_append]; omega), List.take_append_of_le_length (by omega), List.take_of_length_le (by omega), List.drop_append_of_le_length (by omega), List.drop_of_length_le (by omega), List.nil_append]
    rw [decodeMail]
    by_cases hb : 4611686018427387904 < beNat H
    · rw [if_pos hb] at hn
      rw [bytesO, hn]
    · rw [if_neg hb] at hn
      have hbo : bytesO (some (H ++ (I ++ be4 (PbCrc.sum I)))) = if beNat H ≤ (I ++ be4 (PbCrc.sum I)).length then ((I ++ be4 (PbCrc.sum I)).take (beNat H), some ((I ++ be4 (PbCrc.sum I)).drop (beNat H))) else ([], none) := by rw [bytesO, hn]
      rw [hbo]
      by_cases hle : beNat H ≤ (I ++ be4 (PbCrc.sum I)).length
      · rw [if_pos hle]
        simp only
        rw [List.length_drop, List.length_append, h4]
        rw [List.length_append, h4] at hle
        by_cases h5 : I.length + 4 - beNat H < 4
        · rw [if_pos h5]
        · rw [if_neg h5, List.take_append_of_le_length (by omega), hcut _ (by omega)]
          split <;> rfl
      · rw [if_neg hle]
  · by_cases h9 : k < 8 + I.length
    · rw [List.append_assoc] at hx ⊢
      rw [List.getElem?_append_right (by omega), hl8, List.getElem?_append_left (by omega)] at hx
      rw [List.set_append_right _ _ (by omega), hl8, List.set_append_left _ _ (by omega)]
      have hne := hss I (k - 8) x t hx ht
      obtain ⟨J, hJ⟩ : ∃ J, I.set (k - 8) (x ^^^ t) = J := ⟨_, rfl⟩
      have hJl : J.length = I.length := by rw [← hJ, List.length_set]
      rw [hJ] at hne ⊢
      have hb : bytesO (some (num8 I.length ++ (J ++ be4 (PbCrc.sum I)))) = (J, some (be4 (PbCrc.sum I))) := by
        have := bytesO_lenB J (by omega) (be4 (PbCrc.sum I))
        rw [lenB, hJl, List.append_assoc] at this
        exact this
      rw [decodeMail, hb]
      simp only
      rw [if_neg (by omega), List.take_of_length_le (by omega), if_neg (fun e => hne (be4_inj e).symm)]
    · have hlL : (num8 I.length ++ I).length = 8 + I.length := by rw [List.length_append, hl8]
      rw [List.getElem?_append_right (by omega), hlL] at hx
      rw [List.set_append_right _ _ (by omega), hlL]
      have hne := set_ne hx hyx
      have hl4 : ((be4 (PbCrc.sum I)).set (k - (8 + I.length)) (x ^^^ t)).length = 4 := by rw [List.length_set, h4]
      generalize (be4 (PbCrc.sum I)).set (k - (8 + I.length)) (x ^^^ t) = Z at hne hl4
      have hb := bytesO_lenB I (by omega) Z
      rw [lenB] at hb
      rw [decodeMail, hb]
      simp only
      rw [if_neg (by omega), List.take_of_length_le (by omega), if_neg hne]
end Go.Proofs.YtjddicoigbidlaaGreatDoor

set_option linter.unusedSimpArgs false
set_option linter.unusedVariables false
namespace Go.Proofs.YtjddicoigbidlaaGreatDoor
open Go.RowKit
/-- The next bytes: which, whether they are there; what is left. -/
def rdBytes (bs : List UInt8) (bad : Bool) : (List UInt8 × Bool) × (List UInt8 × Bool) :=
  if (rdNum bs bad).1.2 = true then
    if (rdNum bs bad).1.1 ≤ (rdNum bs bad).2.1.length then (((rdNum bs bad).2.1.take (rdNum bs bad).1.1, true), ((rdNum bs bad).2.1.drop (rdNum bs bad).1.1, false))
    else (([], false), ((rdNum bs bad).2.1, true))
  else (([], false), (rdNum bs bad).2)
def RBytesDone (w : World) (b : Nat) (v : Value) (r : (List UInt8 × Bool) × (List UInt8 × Bool)) (e : Ending) (w' : World) : Prop :=
  ∃ v1 v2, e = .returned (.tuple #[v1, .bool r.1.2]) ∧ RdB w' v1 r.1.1 ∧ RdAt w' b v2 r.2.1 r.2.2 ∧ Keeps (fun k => k = b) w w' ∧ (v1.ownBlock = v.ownBlock ∨ v1 = .slice none 0 0) ∧ v2.ownBlock = v.ownBlock
theorem rdNum_good {bs : List UInt8} {bad : Bool} (h : (rdNum bs bad).1.2 = true) : (rdNum bs bad).2.2 = false := by
  unfold rdNum at h ⊢
  split
  · next h1 => rw [if_pos h1] at h; cases h
  · next h1 =>
    rw [if_neg h1] at h
    split
    · next h2 => rw [if_pos h2] at h; cases h
    · rfl
set_option maxRecDepth 100000 in
set_option maxHeartbeats 1000000 in
theorem rBytes_calls (b : Nat) (v : Value) (bs : List UInt8) (bad : Bool) (w : World) (hR : RdAt w b v bs bad) :
    Calls Tryz.prog 52 #[.pointer (some ⟨b, 0, none⟩)] w (RBytesDone w b v (rdBytes bs bad)) := by
  have hnum := rNum_calls b v bs bad w hR
  have hgood := @rdNum_good bs bad
  unfold rdBytes
  unfold NumDone at hnum
  generalize rdNum bs bad = r at hnum hgood
  obtain ⟨⟨n, ok⟩, ⟨bs1, bad1⟩⟩ := r
  simp only at hnum hgood ⊢
  have Hnum := Lib.hid hnum
  clear hnum
  cases ok
  · clear hgood
    go_enter Tryz.func52, Tryz.ntmps52
    go_wp2_with fail
    refine (Hnum.out).mono ?_; rintro e w1 ⟨v1, rfl, hR1, hK1, ho1⟩
    go_wp2
    go_ret2
    exact ⟨.slice none 0 0, v1, rfl, .inl ⟨_, _, rfl, by decide, rfl⟩, hR1, hK1, .inr rfl, ho1⟩
  · have hb1 : bad1 = false := hgood rfl
    subst hb1
    clear hgood
    by_cases hle : n ≤ bs1.length
    · rw [if_pos rfl, if_pos hle]
      have Hle := Lib.hid hle
      clear hle
      go_enter Tryz.func52, Tryz.ntmps52
      go_wp2_with fail
      refine (Hnum.out).mono ?_; rintro e w1 ⟨v1, rfl, hR1, hK1, ho1⟩
      go_wp2_with fail
      refine (rTake_good b v1 bs1 n w1 hR1 Hle.out).mono ?_; rintro e w2 ⟨v2, v3, rfl, hr2, hR2, hK2, ho2, ho3⟩
      go_wp2
      go_ret2
      exact ⟨v2, v3, rfl, hr2, hR2, hK1.trans hK2, .inl (ho2.trans ho1), ho3.trans ho1⟩
    · rw [if_pos rfl, if_neg hle]
      have Hle := Lib.hid hle
      clear hle
      go_enter Tryz.func52, Tryz.ntmps52
      go_wp2_with fail
      refine (Hnum.out).mono ?_; rintro e w1 ⟨v1, rfl, hR1, hK1, ho1⟩
      go_wp2_with fail
      refine (rTake_bad b v1 bs1 false n w1 hR1 (.inr (by have := Hle.out; omega))).mono ?_; rintro e w2 ⟨rfl, hR2, hK2⟩
      go_wp2
      go_ret2
      exact ⟨.slice none 0 0, v1, rfl, .inl ⟨_, _, rfl, by decide, rfl⟩, hR2, hK1.trans hK2, .inr rfl, ho1⟩
end Go.Proofs.YtjddicoigbidlaaGreatDoor

set_option linter.unusedSimpArgs false
set_option linter.unusedVariables false
namespace Go.Proofs.YtjddicoigbidlaaGreatDoor
open Go.RowKit
/-- An Eye in block b, which has the bytes bs left, in v. -/
structure EyeAt (w : World) (b : Nat) (v : Value) (bs : List UInt8) (bad : Bool) : Prop where
  blk : w.heap[b]? = some (.cells #[v, .bool bad] 89 (0, 0))
  rd : RdB w v bs
  ne : v.ownBlock ≠ some b
theorem EyeAt.cells {w : World} {b : Nat} {v : Value} {bs : List UInt8} {bad : Bool} (h : EyeAt w b v bs bad) :
    w.cell? ⟨b, 0, none⟩ = some v ∧ w.cell? ⟨b, 1, none⟩ = some (.bool bad) ∧ w.frozen? ⟨b, 0, none⟩ = false ∧ w.frozen? ⟨b, 1, none⟩ = false := by
  have hb := h.blk
  refine ⟨?_, ?_, ?_, ?_⟩
  · rw [cell_of_row _ _ _ _ _ _ hb]; rfl
  · rw [cell_of_row _ _ _ _ _ _ hb]; rfl
  · unfold World.frozen?; rw [hb]; rfl
  · unfold World.frozen?; rw [hb]; rfl
/-- What the next number is: how much, and what is left, and whether something lacked. -/
def eyeNum (bs : List UInt8) (bad : Bool) : Nat × (List UInt8 × Bool) :=
  if bad = true ∨ bs.length < 8 then (0, (bs, true))
  else if 4611686018427387904 < beNat (bs.take 8) then (0, (bs, true))
  else (beNat (bs.take 8), (bs.drop 8, false))
def EyeNumDone (w : World) (b : Nat) (v : Value) (r : Nat × (List UInt8 × Bool)) (e : Ending) (w' : World) : Prop :=
  ∃ v', e = .returned (.int .i64 (r.1 : Int)) ∧ EyeAt w' b v' r.2.1 r.2.2 ∧ Keeps (fun k => k = b) w w' ∧ v'.ownBlock = v.ownBlock ∧ (NilOk v → NilOk v')
set_option maxRecDepth 100000 in
set_option maxHeartbeats 400000 in
theorem eyeNum_calls (b : Nat) (v : Value) (bs : List UInt8) (bad : Bool) (w : World) (hR : EyeAt w b v bs bad) :
    Calls Tryz.prog 60 #[.pointer (some ⟨b, 0, none⟩)] w (EyeNumDone w b v (eyeNum bs bad)) := by
  obtain ⟨hc0, hc1, hf0, hf1⟩ := hR.cells
  obtain ⟨a, cap, hv, hl, hc⟩ := hR.rd.form
  have hr := hR.rd
  have hblk := hR.blk
  have hne := hR.ne
  have hK1 := Keeps.setCell (F := fun k => k = b) w ⟨b, 1, none⟩ (.bool true) rfl
  by_cases hbad : bad = true ∨ bs.length < 8
  · have hm : eyeNum bs bad = (0, (bs, true)) := by rw [eyeNum, if_pos hbad]
    rw [hm]
    cases bad
    all_goals
      first
      | (have hlt : bs.length < 8 := by rcases hbad with h | h; cases h; exact h)
      | skip
      clear hbad hm
      subst hv
      go_enter Tryz.func60, Tryz.ntmps60
      go_wp2
      go_ret
      exact ⟨_, rfl, ⟨heap_setCell_same _ _ 1 _ _ _ hblk, hr.keeps hK1 (fun k hk e => hne (e ▸ hk)), hne⟩, hK1, rfl, id⟩
  · have hb : bad = false := by cases bad <;> simp_all
    subst hb
    have hl8 : 8 ≤ bs.length := by simp at hbad; omega
    obtain ⟨q, hq⟩ : ∃ q, bs.take 8 = q := ⟨_, rfl⟩
    have hql : q.length = 8 := by rw [← hq]; simp; omega
    have hm : eyeNum bs false = if 4611686018427387904 < beNat q then (0, (bs, true)) else (beNat q, (bs.drop 8, false)) := by rw [eyeNum, if_neg hbad, hq]
    have Hm := Lib.hid hm
    subst hv
    have hcell : ∃ gb off, a = some ⟨gb, off, none⟩ ∧ ∀ (j : Nat) x, q[j]? = some x → w.cell? ⟨gb, off + j, none⟩ = some (.int .u8 x.toNat) := by
      rcases hr with ⟨_, _, _, _, h⟩ | ⟨gb, off, cap', h1, h2, h3, h4, h5, h6⟩
      · rw [h] at hl8; simp at hl8
      · cases h1
        refine ⟨gb, off, rfl, fun j x hx => ?_⟩
        rw [← hq, List.getElem?_take] at hx
        split at hx
        · exact h6 j x hx
        · cases hx
    obtain ⟨gb, off, rfl, hcell⟩ := hcell
    have hs2 : ∀ w, (Instr.sliceAt 23 (.slice (some ⟨gb, off, none⟩) bs.length cap) (some (.int .i64 8)) none none).run Tryz.prog w = .ok (.slice (if cap = 8 then (some ⟨gb, off, none⟩ : Option Addr) else (some ⟨gb, off, none⟩ : Option Addr).map (·.add 8)) (bs.length - 8) (cap - 8)) w := run_slice_l (P := Tryz.prog) Tryz.underlying23 u8size (some ⟨gb, off, none⟩) bs.length cap 8 hl8
    have hp2 := hr.part 8 bs.length hl8 (Nat.le_refl _)
    rw [List.take_of_length_le (Nat.le_refl _)] at hp2
    have ho := ownBlock_part (some ⟨gb, off, none⟩) cap 8 (bs.length - 8) (cap - 8) bs.length cap
    have hnn : NilOk (.slice (if cap = 8 then (some ⟨gb, off, none⟩ : Option Addr) else (some ⟨gb, off, none⟩ : Option Addr).map (·.add 8)) (bs.length - 8) (cap - 8)) := by
      intro l c e; split at e <;> cases e
    generalize (if cap = 8 then (some ⟨gb, off, none⟩ : Option Addr) else (some ⟨gb, off, none⟩ : Option Addr).map (·.add 8)) = a2 at hs2 hp2 ho hnn
    have Hnn := Lib.hid hnn
    clear hnn
    clear hm hbad hq
    go_enter Tryz.func60, Tryz.ntmps60
    go_wp2
    go_loop [3, 4] (fun n i => ∃ j : Nat, j ≤ 8 ∧ i = .int .i64 j ∧ n = .int .u64 (beNat (q.take j) : Int)) (fun _ i => 8 - (intOf i).toNat)
    case atStart => exact ⟨0, by omega, rfl, rfl⟩
    case round =>
      obtain ⟨j, hj, rfl, rfl⟩ := hrel
      by_cases hlt : j < 8
      · obtain ⟨x, hx⟩ : ∃ x, q[j]? = some x := ⟨q[j], List.getElem?_eq_getElem (by omega)⟩
        have hcx := hcell j x hx
        have hsn := beNat_snoc (q.take j) x
        rw [← take_snoc hx] at hsn
        have hbl := beNat_lt (q.take j)
        rw [List.length_take, Nat.min_eq_left (by omega)] at hbl
        have hp : 256 ^ j ≤ 256 ^ 7 := Nat.pow_le_pow_right (by omega) (by omega)
        generalize beNat (q.take j) = m at hsn hbl
        have hm7 : m * 256 < 18446744073709551616 := by omega
        have hx8 := x.toNat_lt
        have hj0 : (0 : Int) ≤ (j : Int) := by omega
        have hj1 : (j : Int) < (bs.length : Int) := by omega
        have Hsn := Lib.hid hsn
        clear hsn hx hcell hp hbl
        go_wp2
        go_round
        case rel => exact ⟨j + 1, by omega, by go_num, by rw [Hsn.out]; simp⟩
        case measure => simp [intOf] <;> omega
      · have hj8 : j = 8 := by omega
        subst hj8
        rw [List.take_of_length_le (by omega)]
        have hbl := beNat_lt q
        rw [hql] at hbl
        clear hcell
        by_cases hbig : 4611686018427387904 < beNat q
        · have hm := Hm.out
          rw [if_pos hbig] at hm
          have Hm2 := Lib.hid hm
          clear hm
          generalize beNat q = m at hbig hbl
          go_wp2
          go_ret
          refine ⟨.slice (some ⟨gb, off, none⟩) bs.length cap, by rw [Hm2.out]; rfl, ?_, hK1, rfl, id⟩
          rw [Hm2.out]
          exact ⟨heap_setCell_same _ _ 1 _ _ _ hblk, hr.keeps hK1 (fun k hk e => hne (e ▸ hk)), hne⟩
        · have hm := Hm.out
          rw [if_neg hbig] at hm
          have Hm2 := Lib.hid hm
          clear hm
          generalize beNat q = m at hbig hbl Hm2
          have hK0 := Keeps.setCell (F := fun k => k = b) w ⟨b, 0, none⟩ (.slice a2 (bs.length - 8) (cap - 8)) rfl
          go_wp2
          go_ret
          refine ⟨.slice a2 (bs.length - 8) (cap - 8), by rw [Hm2.out]; rfl, ?_, hK0, ho, fun _ => Hnn.out⟩
          rw [Hm2.out]
          exact ⟨heap_setCell_same _ _ 0 _ _ _ hblk, hp2.keeps hK0 (fun k hk e => hne (by rw [← ho, hk]; exact congrArg some e)), by rw [ho]; exact hne⟩
end Go.Proofs.YtjddicoigbidlaaGreatDoor

set_option linter.unusedSimpArgs false
set_option linter.unusedVariables false
namespace Go.Proofs.YtjddicoigbidlaaGreatDoor
open Go.RowKit
/-- What a state leaves: none, when it is bad. -/
def leftO (bad : Bool) (bs : List UInt8) : Option (List UInt8) := if bad = true then none else some bs
def RdSt (w : World) (b : Nat) (ob : Option Nat) (o : Option (List UInt8)) : Prop := ∃ v bs bad, RdAt w b v bs bad ∧ v.ownBlock = ob ∧ o = leftO bad bs ∧ ∀ k, ob = some k → k < w.heap.size
theorem numO_rd (bs : List UInt8) (bad : Bool) : numO (leftO bad bs) = ((rdNum bs bad).1.1, leftO (rdNum bs bad).2.2 (rdNum bs bad).2.1) ∧ (rdNum bs bad).1.2 = (numO (leftO bad bs)).2.isSome := by
  cases bad
  · show numO (some bs) = _ ∧ _ = (numO (some bs)).2.isSome
    rw [numO, rdNum]
    by_cases h : bs.length < 8
    · rw [if_pos h, if_pos (Or.inr h)]; exact ⟨rfl, rfl⟩
    · have hx : ¬ (false = true ∨ bs.length < 8) := by rintro (h' | h'); cases h'; exact h h'
      rw [if_neg h, if_neg hx]
      by_cases h2 : 4611686018427387904 < beNat (bs.take 8)
      · rw [if_pos h2, if_pos h2]; exact ⟨rfl, rfl⟩
      · rw [if_neg h2, if_neg h2]; exact ⟨rfl, rfl⟩
  · rw [rdNum, if_pos (Or.inl rfl)]; exact ⟨rfl, rfl⟩
theorem bytesO_rd (bs : List UInt8) (bad : Bool) : bytesO (leftO bad bs) = ((rdBytes bs bad).1.1, leftO (rdBytes bs bad).2.2 (rdBytes bs bad).2.1) ∧ (rdBytes bs bad).1.2 = (bytesO (leftO bad bs)).2.isSome := by
  obtain ⟨h1, h2⟩ := numO_rd bs bad
  have h3 := @rdNum_good bs bad
  rw [bytesO, rdBytes, h1]
  rw [h1] at h2
  generalize rdNum bs bad = r at h1 h2 h3 ⊢
  obtain ⟨⟨n, ok⟩, ⟨bs1, bad1⟩⟩ := r
  simp only at h1 h2 h3 ⊢
  cases bad1
  · have hok : ok = true := h2
    subst hok
    show (if n ≤ bs1.length then _ else _) = _ ∧ _
    rw [if_pos rfl]
    by_cases hle : n ≤ bs1.length
    · rw [if_pos hle, if_pos hle]
      refine ⟨rfl, ?_⟩
      show true = Option.isSome _
      simp [leftO, hle]
    · rw [if_neg hle, if_neg hle]
      refine ⟨rfl, ?_⟩
      show false = Option.isSome _
      simp [leftO, hle]
  · have hok : ok = false := h2
    subst hok
    exact ⟨rfl, rfl⟩
theorem RdSt.start {w : World} {b : Nat} {v : Value} {bs : List UInt8} (h : RdAt w b v bs false) (hl : ∀ k, v.ownBlock = some k → k < w.heap.size) : RdSt w b v.ownBlock (some bs) := ⟨v, bs, false, h, rfl, rfl, hl⟩
theorem RdSt.keeps {F : Nat → Prop} {w w' : World} {b : Nat} {ob : Option Nat} {o : Option (List UInt8)} (h : RdSt w b ob o) (hk : Keeps F w w') (hb : ¬ F b) (ho : ∀ k, ob = some k → ¬ F k) : RdSt w' b ob o := by
  obtain ⟨v, bs, bad, hR, rfl, rfl, hl⟩ := h
  exact ⟨v, bs, bad, ⟨hk.heap hR.blk hb, hR.rd.keeps hk ho, hR.ne⟩, rfl, rfl, fun k e => Nat.lt_of_lt_of_le (hl k e) hk.size⟩
theorem RdSt.below {w w' : World} {b : Nat} {ob : Option Nat} {o : Option (List UInt8)} (h : RdSt w b ob o) (hb : Below w.heap.size w w') : RdSt w' b ob o :=
  h.keeps (F := fun _ => False) (Keeps.ofBelow hb) id (fun _ _ => id)
theorem RdSt.ne {w : World} {b : Nat} {ob : Option Nat} {o : Option (List UInt8)} (h : RdSt w b ob o) : ob ≠ some b := by
  obtain ⟨v, bs, bad, hR, rfl, rfl, _⟩ := h; exact hR.ne
theorem RdSt.obl {w : World} {b : Nat} {ob : Option Nat} {o : Option (List UInt8)} (h : RdSt w b ob o) : ∀ k, ob = some k → k < w.heap.size := by
  obtain ⟨v, bs, bad, hR, rfl, rfl, hl⟩ := h; exact hl
theorem RdSt.lt {w : World} {b : Nat} {ob : Option Nat} {o : Option (List UInt8)} (h : RdSt w b ob o) : b < w.heap.size := by
  obtain ⟨v, bs, bad, hR, rfl, rfl, _⟩ := h; exact (Array.getElem?_eq_some_iff.1 hR.blk).1
def NumS (w : World) (b : Nat) (ob : Option Nat) (p : Nat × Option (List UInt8)) (e : Ending) (w' : World) : Prop :=
  ∃ ok, e = .returned (.tuple #[.int .i64 (p.1 : Int), .bool ok]) ∧ RdSt w' b ob p.2 ∧ Keeps (fun k => k = b) w w'
theorem rNumS {w : World} {b : Nat} {ob : Option Nat} {o : Option (List UInt8)} (h : RdSt w b ob o) : Calls Tryz.prog 74 #[.pointer (some ⟨b, 0, none⟩)] w (NumS w b ob (numO o)) := by
  obtain ⟨v, bs, bad, hR, rfl, rfl, hl⟩ := h
  obtain ⟨h1, h2⟩ := numO_rd bs bad
  refine (rNum_calls b v bs bad w hR).mono ?_
  rintro e w' ⟨v', rfl, hR', hK, ho⟩
  refine ⟨_, by rw [h1], ⟨v', _, _, hR', ho, by rw [h1], fun k e => Nat.lt_of_lt_of_le (hl k e) hK.size⟩, hK⟩
def BytesS (w : World) (b : Nat) (ob : Option Nat) (p : List UInt8 × Option (List UInt8)) (e : Ending) (w' : World) : Prop :=
  ∃ v1, e = .returned (.tuple #[v1, .bool p.2.isSome]) ∧ RdB w' v1 p.1 ∧ (v1.ownBlock = ob ∨ v1 = .slice none 0 0) ∧ RdSt w' b ob p.2 ∧ Keeps (fun k => k = b) w w'
theorem rBytesS {w : World} {b : Nat} {ob : Option Nat} {o : Option (List UInt8)} (h : RdSt w b ob o) : Calls Tryz.prog 52 #[.pointer (some ⟨b, 0, none⟩)] w (BytesS w b ob (bytesO o)) := by
  obtain ⟨v, bs, bad, hR, rfl, rfl, hl⟩ := h
  obtain ⟨h1, h2⟩ := bytesO_rd bs bad
  refine (rBytes_calls b v bs bad w hR).mono ?_
  rintro e w' ⟨v1, v2, rfl, hb1, hR', hK, ho1, ho2⟩
  exact ⟨v1, by rw [h2], by rw [h1]; exact hb1, ho1, ⟨v2, _, _, hR', ho2, by rw [h1], fun k e => Nat.lt_of_lt_of_le (hl k e) hK.size⟩, hK⟩
/-! The same of an Eye. -/
def EySt (w : World) (b : Nat) (ob : Option Nat) (o : Option (List UInt8)) : Prop := ∃ v bs bad, EyeAt w b v bs bad ∧ v.ownBlock = ob ∧ o = leftO bad bs ∧ NilOk v ∧ ∀ k, ob = some k → k < w.heap.size
theorem numO_eye (bs : List UInt8) (bad : Bool) : numO (leftO bad bs) = ((eyeNum bs bad).1, leftO (eyeNum bs bad).2.2 (eyeNum bs bad).2.1) := by
  cases bad
  · show numO (some bs) = _
    rw [numO, eyeNum]
    by_cases h : bs.length < 8
    · rw [if_pos h, if_pos (Or.inr h)]; rfl
    · have hx : ¬ (false = true ∨ bs.length < 8) := by rintro (h' | h'); cases h'; exact h h'
      rw [if_neg h, if_neg hx]
      by_cases h2 : 4611686018427387904 < beNat (bs.take 8)
      · rw [if_pos h2, if_pos h2]; rfl
      · rw [if_neg h2, if_neg h2]; rfl
  · rw [eyeNum, if_pos (Or.inl rfl)]; rfl
theorem EySt.start {w : World} {b : Nat} {v : Value} {bs : List UInt8} (h : EyeAt w b v bs false) (hn : NilOk v) (hl : ∀ k, v.ownBlock = some k → k < w.heap.size) : EySt w b v.ownBlock (some bs) := ⟨v, bs, false, h, rfl, rfl, hn, hl⟩
theorem EySt.keeps {F : Nat → Prop} {w w' : World} {b : Nat} {ob : Option Nat} {o : Option (List UInt8)} (h : EySt w b ob o) (hk : Keeps F w w') (hb : ¬ F b) (ho : ∀ k, ob = some k → ¬ F k) : EySt w' b ob o := by
  obtain ⟨v, bs, bad, hR, rfl, rfl, hn, hl⟩ := h
  exact ⟨v, bs, bad, ⟨hk.heap hR.blk hb, hR.rd.keeps hk ho, hR.ne⟩, rfl, rfl, hn, fun k e => Nat.lt_of_lt_of_le (hl k e) hk.size⟩
theorem EySt.below {w w' : World} {b : Nat} {ob : Option Nat} {o : Option (List UInt8)} (h : EySt w b ob o) (hb : Below w.heap.size w w') : EySt w' b ob o :=
  h.keeps (F := fun _ => False) (Keeps.ofBelow hb) id (fun _ _ => id)
theorem EySt.lt {w : World} {b : Nat} {ob : Option Nat} {o : Option (List UInt8)} (h : EySt w b ob o) : b < w.heap.size := by
  obtain ⟨v, bs, bad, hR, rfl, rfl, _⟩ := h; exact (Array.getElem?_eq_some_iff.1 hR.blk).1
def ENumS (w : World) (b : Nat) (ob : Option Nat) (p : Nat × Option (List UInt8)) (e : Ending) (w' : World) : Prop :=
  e = .returned (.int .i64 (p.1 : Int)) ∧ EySt w' b ob p.2 ∧ Keeps (fun k => k = b) w w'
theorem eNumS {w : World} {b : Nat} {ob : Option Nat} {o : Option (List UInt8)} (h : EySt w b ob o) : Calls Tryz.prog 60 #[.pointer (some ⟨b, 0, none⟩)] w (ENumS w b ob (numO o)) := by
  obtain ⟨v, bs, bad, hR, rfl, rfl, hn, hl⟩ := h
  have h1 := numO_eye bs bad
  refine (eyeNum_calls b v bs bad w hR).mono ?_
  rintro e w' ⟨v', rfl, hR', hK, ho, hnn⟩
  exact ⟨by rw [h1], ⟨v', _, _, hR', ho, by rw [h1], hnn hn, fun k e => Nat.lt_of_lt_of_le (hl k e) hK.size⟩, hK⟩
def EBytesS (w : World) (b : Nat) (ob : Option Nat) (p : List UInt8 × Option (List UInt8)) (e : Ending) (w' : World) : Prop :=
  ∃ v1, e = .returned v1 ∧ w'.ownsRow w.heap.size 5 1 v1 p.1.length (p.1.map u8v) ∧ EySt w' b ob p.2 ∧ Keeps (fun k => k = b) w w'
set_option maxRecDepth 100000 in
set_option maxHeartbeats 4000000 in
theorem eBytesS {w : World} {b : Nat} {ob : Option Nat} {o : Option (List UInt8)} (h : EySt w b ob o) (hs : ∀ bs, o = some bs → bs.length ≤ 1000000000) : Calls Tryz.prog 59 #[.pointer (some ⟨b, 0, none⟩)] w (EBytesS w b ob (bytesO o)) := by
  obtain ⟨i0, hi, hz0, hz1, hz2⟩ := info_parts infoU8
  obtain ⟨v, bs, bad, hR, hob, ho, hnv, hl⟩ := id h
  have hblk := hR.blk
  obtain ⟨hc0, hc1, hf0, hf1⟩ := hR.cells
  obtain ⟨av, capv, hv, _, _⟩ := hR.rd.form
  obtain ⟨W, hW⟩ : ∃ W, w.alloc (.cells #[v, .bool bad] 89) = W := ⟨_, rfl⟩
  have hbW : Below w.heap.size w W := by rw [← hW]; exact (Below.refl _ _).alloc (Nat.le_refl _) _
  have hsW : W.heap.size = w.heap.size + 1 := by rw [← hW]; simp
  have hbl := h.lt
  have hyS : EySt W w.heap.size ob o := ⟨v, bs, bad, ⟨by rw [← hW]; exact heap_alloc_new w _, hR.rd.below (Nat.le_refl _) hbW, by rw [hob]; intro e; have := hl _ e; omega⟩, hob, ho, hnv, fun k e => by have := hl k e; omega⟩
  have hnum := eNumS hyS
  have hxW := h.below hbW
  have hbo : bytesO o = match (numO o).2 with | none => ([], none) | some r => if (numO o).1 ≤ r.length then (r.take (numO o).1, some (r.drop (numO o).1)) else ([], none) := rfl
  have hr8 : ∀ r, (numO o).2 = some r → r.length ≤ 1000000000 := by
    intro r hr
    cases ho' : o with
    | none => rw [ho'] at hr; cases hr
    | some p =>
      rw [ho', numO] at hr
      have := hs p ho'
      split at hr
      · cases hr
      · split at hr
        · cases hr
        · cases hr; rw [List.length_drop]; omega
  have hxbad : (numO o).2.isSome = true → bad = false := by
    intro hh
    cases bad
    · rfl
    · rw [ho] at hh; cases hh
  rw [hbo]
  clear hbo
  unfold ENumS at hnum
  generalize numO o = p at hnum hr8 hxbad
  obtain ⟨n, o2⟩ := p
  simp only at hnum hr8 hxbad ⊢
  have Hnum := Lib.hid hnum
  have HxW := Lib.hid hxW
  have HW := Lib.hid hW
  have hne2 : b ≠ w.heap.size := by omega
  have hobl : ∀ k, ob = some k → ¬ (k = w.heap.size) := fun k e h => by have := hl k e; omega
  have Hobl := Lib.hid hobl
  have Hho := Lib.hid ho
  have hblW := (hbW.block _ hbl).trans hblk
  have HblW := Lib.hid hblW
  have hrW := hR.rd.below (Nat.le_refl _) hbW
  have HrW := Lib.hid hrW
  have Hob := Lib.hid hob
  have Hne := Lib.hid hR.ne
  have Hl := Lib.hid hl
  have Hnv := Lib.hid hnv
  clear hnum h hyS hxW ho hs hR hobl hblW hrW hob hl hnv
  subst hv
  rw [← hW] at Hnum hbW hsW HblW
  rw [← hW] at HrW
  clear hW HW HxW
  cases o2 with
  | none =>
    show Calls Tryz.prog 59 _ w (EBytesS w b ob ([], none))
    go_enter Tryz.func59, Tryz.ntmps59
    go_wp2_with fail
    refine (Hnum.out).mono ?_; rintro e w1 ⟨rfl, hy1, hK1⟩
    obtain ⟨vy, ys, bady, hRy, _, hly, _, _⟩ := hy1
    have hby : bady = true := by cases bady; cases hly; rfl
    subst hby
    obtain ⟨y0, y1, _, _⟩ := hRy.cells
    have hxb := hK1.heap HblW.out hne2
    have hx1 : w1.cell? ⟨b, 1, none⟩ = some (.bool bad) := by rw [cell_of_row _ _ _ _ _ _ hxb]; rfl
    have hf1' : w1.frozen? ⟨b, 1, none⟩ = false := by unfold World.frozen?; rw [hxb]; rfl
    have Hxb := Lib.hid hxb
    have hbw1 := hbW.trans (hK1.below (B := w.heap.size) (fun k hk => by omega) (by omega))
    have Hrd := Lib.hid (HrW.out.keeps hK1 (fun k hk => Hobl.out k (by rw [← Hob.out]; exact hk)))
    clear hRy hly hxb hblk
    go_wp2
    go_ret
    have hK2 := Keeps.setCell (F := fun k => k = b) w1 ⟨b, 1, none⟩ (.bool true) rfl
    refine ⟨.slice none 0 0, rfl, World.ownsRow_nil _ _ _ _, ⟨_, bs, true, ⟨heap_setCell_same _ _ 1 _ _ _ Hxb.out, Hrd.out.keeps hK2 (fun k hk e => Hne.out (by rw [hk, e])), Hne.out⟩, Hob.out, rfl, Hnv.out, fun k e => ?_⟩, (Keeps.ofBelow hbw1).trans hK2⟩
    have := Hl.out k e; have := hbw1.size; simp; omega
  | some r =>
    have hb : bad = false := hxbad rfl
    subst hb
    have hrl := hr8 r rfl
    clear hxbad hr8
    by_cases hle : n ≤ r.length
    · rw [show (match some r with | none => ([], none) | some r => if n ≤ r.length then (r.take n, some (r.drop n)) else ([], none)) = (r.take n, some (r.drop n)) from if_pos hle]
      have Hle := Lib.hid hle
      clear hle
      go_enter Tryz.func59, Tryz.ntmps59
      go_wp2_with fail
      refine (Hnum.out).mono ?_; rintro e w1 ⟨rfl, hy1, hK1⟩
      obtain ⟨vy, ys, bady, hRy, hoy, hly, hny, _⟩ := hy1
      have hby : bady = false := by cases bady; rfl; cases hly
      subst hby
      have hry : r = ys := Option.some.inj hly
      subst hry
      obtain ⟨y0, y1, _, _⟩ := hRy.cells
      obtain ⟨ay, capy, hvy, hcy1, hcy2⟩ := hRy.rd.form
      have hxb := hK1.heap HblW.out hne2
      have hx0 : w1.cell? ⟨b, 0, none⟩ = some (.slice av bs.length capv) := by rw [cell_of_row _ _ _ _ _ _ hxb]; rfl
      have hx1 : w1.cell? ⟨b, 1, none⟩ = some (.bool false) := by rw [cell_of_row _ _ _ _ _ _ hxb]; rfl
      have hf0' : w1.frozen? ⟨b, 0, none⟩ = false := by unfold World.frozen?; rw [hxb]; rfl
      have hf1' : w1.frozen? ⟨b, 1, none⟩ = false := by unfold World.frozen?; rw [hxb]; rfl
      have Hxb := Lib.hid hxb
      have hbw1 := hbW.trans (hK1.below (B := w.heap.size) (fun k hk => by omega) (by omega))
      have hrdx := HrW.out.keeps hK1 (fun k hk => Hobl.out k (by rw [← Hob.out]; exact hk))
      subst hvy
      have Hny := Lib.hid hny
      have hryd := hRy.rd
      have hbly := hRy.blk
      have hsy := (Array.getElem?_eq_some_iff.1 hbly).1
      have Hbly := Lib.hid hbly
      have hney := hRy.ne
      have Hney := Lib.hid hney
      have Hoy := Lib.hid hoy
      have hle := Hle.out
      have hs1 := run_slice_h (P := Tryz.prog) Tryz.underlying23 u8size ay r.length capy n (by omega)
      have hs2 := run_slice_l (P := Tryz.prog) Tryz.underlying23 u8size ay r.length capy n hle
      have hp1 := hryd.pre n hle
      have hp2 := hryd.part n r.length hle (Nat.le_refl _)
      rw [List.take_of_length_le (Nat.le_refl _)] at hp2
      have ho2 := ownBlock_part ay capy n (r.length - n) (capy - n) r.length capy
      have hnn : NilOk (.slice (if capy = n then ay else ay.map (·.add n)) (r.length - n) (capy - n)) := by
        intro l c e
        cases ay with
        | none =>
          obtain ⟨h1, h2⟩ := hny _ _ rfl
          rw [h1, h2] at e
          simp at e; omega
        | some x => split at e <;> cases e
      generalize (if capy = n then ay else ay.map (·.add n)) = a2 at hs2 hp2 ho2 hnn
      have Hnn := Lib.hid hnn
      clear hnn
      have Hp2 := Lib.hid hp2
      have Hp1 := Lib.hid hp1
      have Ho2 := Lib.hid ho2
      have hleI : ¬ ((r.length : Int) < (n : Int)) := by omega
      clear hRy hxb hblk hp1 hp2 ho2 hbly hney hoy hryd hrdx hly hny
      have htl : (r.take n).length = n := by rw [List.length_take]; omega
      obtain ⟨W1, hW1⟩ : ∃ W1, w1.alloc (.cells #[] 5) = W1 := ⟨_, rfl⟩
      have hbW1 : Below w1.heap.size w1 W1 := by rw [← hW1]; exact (Below.refl _ _).alloc (Nat.le_refl _) _
      have hown0 : W1.ownsRow w1.heap.size 5 1 (.slice (some ⟨w1.heap.size, 0, none⟩) 0 0) 0 [] := by rw [← hW1]; exact World.ownsRow_lit w1 #[] 0 (Nat.le_refl _) (by decide) rfl
      have hyc : W1.cell? ⟨w.heap.size, 0, none⟩ = some (.slice ay r.length capy) := (hbW1.cell (p := ⟨w.heap.size, 0, none⟩) hsy).trans y0
      have hnil : NilOk (.slice ay n capy) := by
        intro l c e
        simp only [Value.slice.injEq] at e
        obtain ⟨rfl, rfl, rfl⟩ := e
        obtain ⟨h1, h2⟩ := Hny.out _ _ rfl
        omega
      have hsrc := rdLB (Hp1.out.below (Nat.le_refl _) hbW1)
      have hone := bb1_one (r.take n)
      have hm1 : 0 + (r.take n).length ≤ maxLen := by show _ ≤ 9223372036854775807; omega
      have hm2 : (0 + (r.take n).length) * 1 ≤ 140737488355328 := by omega
      have hsW1 : w1.heap.size ≤ W1.heap.size := hbW1.size
      have Hone := Lib.hid hone
      have Hnil := Lib.hid hnil
      have hxl := (Array.getElem?_eq_some_iff.1 Hxb.out).1
      have hyl := (Array.getElem?_eq_some_iff.1 Hbly.out).1
      clear hone hnil Hnum Hho
      subst hW1
      go_wp2_with (at_builtin; go_must (refine wpList_append_any bb1_len (by decide) rfl (.tmp 22) (.tmp 26) 23 rfl w1.heap.size 5 i0 (.int .u8 0) 1 Tryz.underlying23 hi hz0 hz1 hz2 rfl _ _ _ rfl hown0 _ (r.take n) rfl hsrc Hnil.out Hone.out hm1 hm2 hsW1 ?_); rintro v2 w2 hown2 hg2 _; have hB2 := hbW1.grown hg2 hsW1 (fun k hk => by cases hk; exact Nat.le_refl _); have c2 := (hB2.cell (p := ⟨w.heap.size, 0, none⟩) hsy).trans y0; have x2 := (hB2.cell (p := ⟨b, 0, none⟩) hxl).trans hx0; have f2 := (hB2.frozen (p := ⟨b, 0, none⟩) hxl).trans hf0')
      go_ret
      have hx2 := (hB2.block _ hxl).trans Hxb.out
      have hK2 := Keeps.setCell (F := fun k => k = b) w2 ⟨b, 0, none⟩ (.slice a2 (r.length - n) (capy - n)) rfl
      have hob2 : (Value.slice a2 (r.length - n) (capy - n)).ownBlock = ob := Ho2.out.trans Hoy.out
      have hnb : ob ≠ some b := by rw [← Hob.out]; exact Hne.out
      have hvl := fun k hk => (own_base hown2 k hk)
      rw [Nat.zero_add, List.nil_append, bb1_flat] at hown2
      have hbw2 := hbw1.trans (hB2.mono hbw1.size)
      refine ⟨v2, rfl, own_keeps (own_mono hown2 hbw1.size) hK2 (fun k hk e => by have := hvl k hk; omega), ⟨_, r.drop n, false, ⟨heap_setCell_same _ _ 0 _ _ _ hx2, (Hp2.out.below (Nat.le_refl _) hB2).keeps hK2 (fun k hk e => hnb (by rw [← hob2, hk, e])), by rw [hob2]; exact hnb⟩, hob2, rfl, ?_, fun k e => ?_⟩, (Keeps.ofBelow hbw2).trans hK2⟩
      · intro l c e
        exact Hnn.out l c e
      · have := Hl.out k e; have := hbw2.size; simp; omega
    · rw [show (match some r with | none => ([], none) | some r => if n ≤ r.length then (r.take n, some (r.drop n)) else ([], none)) = ([], none) from if_neg hle]
      have Hle := Lib.hid hle
      clear hle
      go_enter Tryz.func59, Tryz.ntmps59
      go_wp2_with fail
      refine (Hnum.out).mono ?_; rintro e w1 ⟨rfl, hy1, hK1⟩
      obtain ⟨vy, ys, bady, hRy, hoy, hly, hny, _⟩ := hy1
      have hby : bady = false := by cases bady; rfl; cases hly
      subst hby
      have hry : r = ys := Option.some.inj hly
      subst hry
      obtain ⟨y0, y1, _, _⟩ := hRy.cells
      obtain ⟨ay, capy, hvy, hcy1, hcy2⟩ := hRy.rd.form
      have hxb := hK1.heap HblW.out hne2
      have hx0 : w1.cell? ⟨b, 0, none⟩ = some (.slice av bs.length capv) := by rw [cell_of_row _ _ _ _ _ _ hxb]; rfl
      have hx1 : w1.cell? ⟨b, 1, none⟩ = some (.bool false) := by rw [cell_of_row _ _ _ _ _ _ hxb]; rfl
      have hf0' : w1.frozen? ⟨b, 0, none⟩ = false := by unfold World.frozen?; rw [hxb]; rfl
      have hf1' : w1.frozen? ⟨b, 1, none⟩ = false := by unfold World.frozen?; rw [hxb]; rfl
      have Hxb := Lib.hid hxb
      have hbw1 := hbW.trans (hK1.below (B := w.heap.size) (fun k hk => by omega) (by omega))
      have hrdx := HrW.out.keeps hK1 (fun k hk => Hobl.out k (by rw [← Hob.out]; exact hk))
      subst hvy
      have Hny := Lib.hid hny
      have hryd := hRy.rd
      have hbly := hRy.blk
      have hsy := (Array.getElem?_eq_some_iff.1 hbly).1
      have Hbly := Lib.hid hbly
      have hney := hRy.ne
      have Hney := Lib.hid hney
      have Hoy := Lib.hid hoy
      have hle := Hle.out
      have hleI : (r.length : Int) < (n : Int) := by omega
      have Hrd := Lib.hid hrdx
      clear hRy hxb hblk hbly hney hoy hryd hrdx hly hny
      go_wp2
      go_ret
      have hK2 := Keeps.setCell (F := fun k => k = b) w1 ⟨b, 1, none⟩ (.bool true) rfl
      refine ⟨.slice none 0 0, rfl, World.ownsRow_nil _ _ _ _, ⟨_, bs, true, ⟨heap_setCell_same _ _ 1 _ _ _ Hxb.out, Hrd.out.keeps hK2 (fun k hk e => Hne.out (by rw [hk, e])), Hne.out⟩, Hob.out, rfl, Hnv.out, fun k e => ?_⟩, (Keeps.ofBelow hbw1).trans hK2⟩
      have := Hl.out k e; have := hbw1.size; simp; omega
end Go.Proofs.YtjddicoigbidlaaGreatDoor

set_option linter.unusedSimpArgs false
set_option linter.unusedVariables false
namespace Go.Proofs.YtjddicoigbidlaaGreatDoor
open Go.RowKit
theorem heap6 {w : World} {mb : Nat} (h : ∃ c0 c1 c2 c3 c4 c5, w.heap[mb]? = some (.cells #[c0, c1, c2, c3, c4, c5] 25 (0, 0))) (x0 x1 x2 x3 x4 x5 : Value) :
    ((((((w.setCell ⟨mb, 0, none⟩ x0).setCell ⟨mb, 1, none⟩ x1).setCell ⟨mb, 2, none⟩ x2).setCell ⟨mb, 3, none⟩ x3).setCell ⟨mb, 4, none⟩ x4).setCell ⟨mb, 5, none⟩ x5).heap[mb]? = some (.cells #[x0, x1, x2, x3, x4, x5] 25 (0, 0)) := by
  obtain ⟨c0, c1, c2, c3, c4, c5, hc⟩ := h
  exact heap_setCell_same _ _ 5 _ _ _ (heap_setCell_same _ _ 4 _ _ _ (heap_setCell_same _ _ 3 _ _ _ (heap_setCell_same _ _ 2 _ _ _ (heap_setCell_same _ _ 1 _ _ _ (heap_setCell_same _ _ 0 _ _ _ hc)))))
theorem cells6 {w : World} {mb : Nat} {c0 c1 c2 c3 c4 c5 : Value} (hb : w.heap[mb]? = some (.cells #[c0, c1, c2, c3, c4, c5] 25 (0, 0))) :
    (w.cell? ⟨mb, 0, none⟩ = some c0 ∧ w.cell? ⟨mb, 1, none⟩ = some c1 ∧ w.cell? ⟨mb, 2, none⟩ = some c2 ∧ w.cell? ⟨mb, 3, none⟩ = some c3 ∧ w.cell? ⟨mb, 4, none⟩ = some c4 ∧ w.cell? ⟨mb, 5, none⟩ = some c5) ∧
    (w.frozen? ⟨mb, 0, none⟩ = false ∧ w.frozen? ⟨mb, 1, none⟩ = false ∧ w.frozen? ⟨mb, 2, none⟩ = false ∧ w.frozen? ⟨mb, 3, none⟩ = false ∧ w.frozen? ⟨mb, 4, none⟩ = false ∧ w.frozen? ⟨mb, 5, none⟩ = false) := by
  refine ⟨⟨?_, ?_, ?_, ?_, ?_, ?_⟩, ?_, ?_, ?_, ?_, ?_, ?_⟩
  all_goals first | (rw [cell_of_row _ _ _ _ _ _ hb]; rfl) | simp [World.frozen?, hb]
theorem RdB.keepsN {F : Nat → Prop} {w w' : World} {v : Value} {bs : List UInt8} (h : RdB w v bs) (hk : Keeps F w w') (hF : bs ≠ [] → ∀ k, v.ownBlock = some k → ¬ F k) : RdB w' v bs := by
  rcases h with ⟨a, c, h1, h2⟩ | h
  · exact .inl ⟨a, c, h1, h2⟩
  · obtain ⟨b, off, cap, h1, h0, h2⟩ := id h
    exact RdB.keeps (.inr h) hk (hF h0)
def OwnDone (w : World) (m : MailD) (e : Ending) (w' : World) : Prop :=
  ∃ vr vb, e = .returned (mailVal m vr vb) ∧ w'.ownsRow w.heap.size 9 1 vr m.rcpts.length (m.rcpts.flatMap s1) ∧ w'.ownsRow w.heap.size 5 1 vb m.body.length (m.body.map u8v) ∧ Below w.heap.size w w'
set_option maxRecDepth 100000 in
set_option maxHeartbeats 4000000 in
theorem own_calls (m : MailD) (vr vb : Value) (w : World) (hr : RdS w vr m.rcpts) (hb : RdB w vb m.body) (hnr : NilOk vr) (hnb : NilOk vb) (hlr : m.rcpts.length ≤ 1000000) (hlb : m.body.length ≤ 1000000000) :
    Calls Tryz.prog 15 #[mailVal m vr vb] w (OwnDone w m) := by
  obtain ⟨i0, hi, hz0, hz1, hz2⟩ := info_parts infoU8
  obtain ⟨i1, hi1, hy0, hy1, hy2⟩ := info_parts infoStr
  obtain ⟨id, parent, born, frm, rcpts, body⟩ := m
  unfold mailVal OwnDone mailVal
  simp only at hr hb hlr hlb ⊢
  obtain ⟨W, hW⟩ : ∃ W, (w.alloc (.cells #[.int .i64 id, .int .i64 parent, .int .i64 born, .string (strL frm), vr, vb] 25)).alloc (.cells #[.int .i64 0, .int .i64 0, .int .i64 0, .string ⟨#[]⟩, .slice none 0 0, .slice none 0 0] 25) = W := ⟨_, rfl⟩
  have hbW : Below w.heap.size w W := by rw [← hW]; exact ((Below.refl _ _).alloc (Nat.le_refl _) _).alloc (by simp) _
  have hsW : W.heap.size = w.heap.size + 2 := by rw [← hW]; simp
  have hk1 : W.heap[w.heap.size]? = some (.cells #[.int .i64 id, .int .i64 parent, .int .i64 born, .string (strL frm), vr, vb] 25 (0, 0)) := by rw [← hW]; exact heap_alloc2_old _ _ _
  have hk2 : W.heap[w.heap.size + 1]? = some (.cells #[.int .i64 0, .int .i64 0, .int .i64 0, .string ⟨#[]⟩, .slice none 0 0, .slice none 0 0] 25 (0, 0)) := by rw [← hW]; exact heap_alloc2_new _ _ _
  have hr1 := hr.below (Nat.le_refl _) hbW
  have hb1 := hb.below (Nat.le_refl _) hbW
  obtain ⟨ar, capr, rfl, _, _⟩ := hr.form
  obtain ⟨ab, capb, rfl, _, _⟩ := hb.form
  have Hk1 := Lib.hid hk1
  have Hr1 := Lib.hid hr1
  have Hb1 := Lib.hid hb1
  have HW := Lib.hid hW
  generalize strL frm = sf at *
  have Hk2 := Lib.hid hk2
  have hnoM : body ≠ [] → ∀ k, (Value.slice ab body.length capb).ownBlock = some k → k < w.heap.size := fun hne => rdB_lt hb hne
  have HnoM := Lib.hid hnoM
  clear hr hb hr1 hb1 hk1 hk2 hnoM
  obtain ⟨Wa, hWa⟩ : ∃ Wa, W.alloc (.cells #[] 9) = Wa := ⟨_, rfl⟩
  have hba : Below W.heap.size W Wa := by rw [← hWa]; exact (Below.refl _ _).alloc (Nat.le_refl _) _
  have hsa : Wa.heap.size = w.heap.size + 3 := by rw [← hWa]; simp; omega
  have hown0 : Wa.ownsRow W.heap.size 9 1 (.slice (some ⟨W.heap.size, 0, none⟩) 0 0) 0 [] := by rw [← hWa]; exact World.ownsRow_lit W #[] 0 (Nat.le_refl _) (by decide) rfl
  have hka := (hba.block _ (by omega)).trans Hk1.out
  have hka2 := (hba.block _ (by omega)).trans Hk2.out
  have hra := Hr1.out.below (Nat.le_refl _) hba
  have hbda := Hb1.out.below (Nat.le_refl _) hba
  have hm1 : 0 + rcpts.length ≤ maxLen := by show _ ≤ 9223372036854775807; omega
  have hm2 : (0 + rcpts.length) * 16 ≤ 140737488355328 := by omega
  have hbs : W.heap.size ≤ Wa.heap.size := by omega
  have hone := s1_one rcpts
  have ca : Wa.cell? ⟨w.heap.size, 4, none⟩ = some (.slice ar rcpts.length capr) := by rw [cell_of_row _ _ _ _ _ _ hka]; rfl
  have Hka := Lib.hid hka
  have Hka2 := Lib.hid hka2
  have Hra := Lib.hid hra
  have Hbda := Lib.hid hbda
  have Hone := Lib.hid hone
  have Hown0 := Lib.hid hown0
  have Hba := Lib.hid hba
  have HsW := Lib.hid hsW
  have hsz0 : (⟨w.heap.size, 0, none⟩ : Addr) = ⟨w.heap.size, 0, none⟩ := rfl
  clear hka hka2 hra hbda hone hown0 hba
  subst hWa
  subst hW
  have hwsz : ((w.alloc (.cells #[.int .i64 id, .int .i64 parent, .int .i64 born, .string sf, .slice ar rcpts.length capr, .slice ab body.length capb] 25)).alloc (.cells #[.int .i64 0, .int .i64 0, .int .i64 0, .string ⟨#[]⟩, .slice none 0 0, .slice none 0 0] 25)).heap.size = w.heap.size + 2 := by simp
  rw [hwsz] at Hown0 hbs
  go_enter Tryz.func15, Tryz.ntmps15
  go_upto_region 2 with (at_builtin; go_must (refine wpList_append_any s1_len (by decide) rfl (.tmp 3) (.tmp 5) 22 rfl (w.heap.size + 2) 9 i1 (.string ⟨#[]⟩) 16 Tryz.underlying22 hi1 hy0 hy1 hy2 rfl _ _ _ rfl Hown0.out _ rcpts rfl Hra.out hnr Hone.out hm1 hm2 hbs ?_); rintro v2 w2 hown2 hg2 _; rw [Nat.zero_add, List.nil_append] at hown2; obtain ⟨a2, c2, hv2⟩ := own_form0 hown2; subst hv2; have hB2 := (Hba.out).grown hg2 (by rw [hsa, hwsz]; omega) (fun k hk => by cases hk; rw [hwsz]; exact Nat.le_refl _); have hp2 := (hB2.block _ (by rw [hwsz]; omega)).trans Hk1.out; have hq2 := (hB2.block _ (by rw [hwsz]; omega)).trans Hk2.out; have g4 := (cells6 hp2).2.2.2.2.2.1; have a4 := (cells6 hp2).1.2.2.2.2.1)
  have hbel2 : Below w.heap.size w w2 := hbW.trans (hB2.mono (by rw [hwsz]; omega))
  have hbd2 := Hb1.out.below (Nat.le_refl _) hB2
  have hsz2 := hB2.size
  rw [hwsz] at hsz2
  have hv2 := own_base hown2
  have hvl2 := fun k hk => (hown2.lt k hk).2
  clear Hk1 Hk2 Hba Hb1 Hr1 hB2 Hka Hka2 Hra Hbda Hown0 hbs hwsz ca hsa HsW hsW hg2 hm1 hm2 hbW Hone
  obtain ⟨W3, hW3⟩ : ∃ W3, w2.setCell ⟨w.heap.size, 4, none⟩ (.slice a2 rcpts.length c2) = W3 := ⟨_, rfl⟩
  have hK3 : Keeps (fun k => k = w.heap.size) w2 W3 := by rw [← hW3]; exact Keeps.setCell w2 ⟨w.heap.size, 4, none⟩ _ rfl
  have hp3 : W3.heap[w.heap.size]? = some (.cells #[.int .i64 id, .int .i64 parent, .int .i64 born, .string sf, .slice a2 rcpts.length c2, .slice ab body.length capb] 25 (0, 0)) := by rw [← hW3]; exact heap_setCell_same _ _ 4 _ _ _ hp2
  have hq3 := hK3.heap hq2 (by omega)
  have hown3 := own_keeps hown2 hK3 (fun k hk e => by have := hv2 k hk; omega)
  have hbd3 := hbd2.keepsN hK3 (fun hne k hk e => by have := HnoM.out hne k hk; omega)
  have hs3 : W3.heap.size = w2.heap.size := by rw [← hW3]; simp
  have hbel3 : Below w.heap.size w W3 := hbel2.trans (hK3.below (fun k hk => by omega) hbel2.size)
  obtain ⟨Wb, hWb⟩ : ∃ Wb, W3.alloc (.cells #[] 5) = Wb := ⟨_, rfl⟩
  have hbb : Below W3.heap.size W3 Wb := by rw [← hWb]; exact (Below.refl _ _).alloc (Nat.le_refl _) _
  have hsb : Wb.heap.size = w2.heap.size + 1 := by rw [← hWb]; simp [hs3]
  have hownB : Wb.ownsRow w2.heap.size 5 1 (.slice (some ⟨w2.heap.size, 0, none⟩) 0 0) 0 [] := by
    have : (W3.alloc (.cells #[] 5)).ownsRow W3.heap.size 5 1 (.slice (some ⟨W3.heap.size, 0, none⟩) 0 0) 0 [] := World.ownsRow_lit W3 #[] 0 (Nat.le_refl _) (by decide) rfl
    rw [hWb, hs3] at this; exact this
  have hp4 := (hbb.block _ (by omega)).trans hp3
  have hq4 := (hbb.block _ (by omega)).trans hq3
  have hown4 := own_below hown3 hbb (Nat.le_refl _)
  have hbd4 := rdLB (hbd3.below (Nat.le_refl _) hbb)
  have c5 : Wb.cell? ⟨w.heap.size, 5, none⟩ = some (.slice ab body.length capb) := by rw [cell_of_row _ _ _ _ _ _ hp4]; rfl
  have hm1 : 0 + body.length ≤ maxLen := by show _ ≤ 9223372036854775807; omega
  have hm2 : (0 + body.length) * 1 ≤ 140737488355328 := by omega
  have hbs : w2.heap.size ≤ Wb.heap.size := by omega
  have hone := bb1_one body
  have Hone := Lib.hid hone
  have Hbel := Lib.hid (hbel3.trans (hbb.mono hbel3.size))
  have Hp4 := Lib.hid hp4
  have Hq4 := Lib.hid hq4
  have Hown4 := Lib.hid hown4
  have Hvl2 := Lib.hid hvl2
  have Hv2 := Lib.hid hv2
  clear hone hp4 hq4 hown4 hown3 hbd3 hp3 hq3 hK3 hbb hbel3 hvl2 hv2 hbd2 hp2 hq2 hown2 hbel2 hs3 a4 g4
  subst hWb
  subst hW3
  go_wp2_with (at_builtin; go_must (refine wpList_append_any bb1_len (by decide) rfl (.tmp 8) (.tmp 10) 23 rfl w2.heap.size 5 i0 (.int .u8 0) 1 Tryz.underlying23 hi hz0 hz1 hz2 rfl _ _ _ rfl hownB _ body rfl hbd4 hnb Hone.out hm1 hm2 hbs ?_); rintro v5 w5 hown5 hg5 _; rw [Nat.zero_add, List.nil_append] at hown5; obtain ⟨a6, c6, hv6⟩ := own_form0 hown5; subst hv6; have hB5 := ((Below.refl w2.heap.size _)).grown hg5 (by omega) (fun k hk => by cases hk; exact Nat.le_refl _); have hp5 := (hB5.block _ (by omega)).trans Hp4.out; have hq5 := (hB5.block _ (by omega)).trans Hq4.out; obtain ⟨⟨x0, x1, x2, x3, x4, x5⟩, y0, y1, y2, y3, y4, y5⟩ := cells6 hp5; obtain ⟨⟨u0, u1, u2, u3, u4, u5⟩, z0, z1, z2, z3, z4, z5⟩ := cells6 hq5)
  have hown6 := own_keeps Hown4.out (Keeps.grown hg5) (fun k hk e => by have h1 := Hvl2.out _ hk; have h2 : w2.heap.size = k := Option.some.inj e; omega)
  have hbel5 := (Hbel.out).trans (hB5.mono (by omega))
  have hs5 := hB5.size
  have hvb5 := own_base hown5
  have Hp5 := Lib.hid hp5
  have Hq5 := Lib.hid hq5
  have Hown6 := Lib.hid hown6
  have Hown5 := Lib.hid hown5
  have Hvb5 := Lib.hid hvb5
  clear hp5 hq5 hown6 hB5 hg5 hown5 hvb5 Hp4 Hq4 Hown4 hownB hbd4 c5 hm1 hm2 hbs Hbel
  have hK6 : Keeps (fun k => k = w.heap.size ∨ k = w.heap.size + 1) w5 (w5.setCell ⟨w.heap.size, 5, none⟩ (.slice a6 body.length c6)) := Keeps.setCell _ _ _ (.inl rfl)
  have hq6 := (Keeps.setCell (F := fun k => k = w.heap.size) w5 ⟨w.heap.size, 5, none⟩ (.slice a6 body.length c6) rfl).heap Hq5.out (show ¬ (w.heap.size + 1 = w.heap.size) by omega)
  have hB := heap6 ⟨_, _, _, _, _, _, hq6⟩ (.int .i64 id) (.int .i64 parent) (.int .i64 born) (.string sf) (.slice a2 rcpts.length c2) (.slice a6 body.length c6)
  have hst : ∀ (W : World) (j : Nat) (v : Value), Keeps (fun k => k = w.heap.size ∨ k = w.heap.size + 1) W (W.setCell ⟨w.heap.size + 1, j, none⟩ v) := fun W j v => Keeps.setCell _ _ _ (.inr rfl)
  have hKf := (((((hK6.trans (hst _ 0 (.int .i64 id))).trans (hst _ 1 (.int .i64 parent))).trans (hst _ 2 (.int .i64 born))).trans (hst _ 3 (.string sf))).trans (hst _ 4 (.slice a2 rcpts.length c2))).trans (hst _ 5 (.slice a6 body.length c6))
  refine bodyPost_ret (results_row1 rfl _ _ (w.heap.size + 1) 25 _ (0, 0) _ rfl hB Tryz.underlying25 rfl (by kernel_rfl)) rfl ⟨_, _, rfl, own_mono (own_keeps Hown6.out hKf ?_) (by omega), ?_, hbel5.trans (hKf.below (fun k hk => by omega) hbel5.size)⟩
  · intro k hk e; have := Hv2.out k hk; omega
  · have h := own_mono (own_keeps Hown5.out hKf (fun k hk e => by have := Hvb5.out k hk; omega)) (base' := w.heap.size) (by omega)
    rw [bb1_flat] at h
    exact h
end Go.Proofs.YtjddicoigbidlaaGreatDoor
