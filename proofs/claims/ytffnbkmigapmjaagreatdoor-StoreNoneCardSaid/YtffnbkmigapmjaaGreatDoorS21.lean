/-
  The walks of word.Writer.Bytes and word.Reader.Bytes.
-/
import Derived.Test.YtffnbkmigapmjaaGreatDoorS2
import Derived.Test.YtffnbkmigapmjaaGreatDoorS3
import Derived.Test.YtffnbkmigapmjaaGreatDoorS13
import Derived.Maps.AppendAt
set_option linter.unusedSimpArgs false
set_option linter.unusedVariables false
namespace Go.Proofs.YtffnbkmigapmjaaGreatDoor
open Go.RowKit
/-- A byte's cell. -/
def bb1 (x : UInt8) : List Value := [u8v x]
theorem bb1_len (x : UInt8) : (bb1 x).length = 1 := rfl
theorem bb1_flat (bs : List UInt8) : bs.flatMap bb1 = bs.map u8v := by induction bs with
  | nil => rfl
  | cons x xs ih => rw [List.flatMap_cons, ih]; rfl
theorem bb1_one (bs : List UInt8) : ∀ c ∈ bs.flatMap bb1, c.oneCell' = true := by rw [bb1_flat]; exact one_u8 bs
theorem rdLB {w : World} {v : Value} {bs : List UInt8} (h : RdB w v bs) : RdL 1 bb1 w v bs := by
  rcases h with ⟨a, c, h1, h2, h3⟩ | ⟨b, off, cap, h1, h0, h2, h3, h4, h5⟩
  · exact .inl ⟨a, c, h1, h2, h3⟩
  · refine .inr ⟨b, off, cap, h1, h0, h2, h3, h4, fun i x hx j u hu => ?_⟩
    cases j with
    | zero => rw [bb1] at hu; cases hu; rw [Nat.mul_one, Nat.add_zero]; exact h5 i x hx
    | succ j => rw [bb1] at hu; cases hu
/-- Behind how many they are. -/
def lenB (bs : List UInt8) : List UInt8 := num8 bs.length ++ bs
theorem wpList_append_anyAt {α : Type} {s : Nat} {f : α → List Value} (hf : ∀ x, (f x).length = s) (hs0 : 0 < s) {P : Program} {w : World} {ops : Array Oper} {rest : List Oper} {o : Oper} {a : Act} {Q : Exit → Act → World → Prop} (hgd : o.guard = none) (s1 x : Operand) (t : TypeId)
    (ho : o.op = .call { callee := .builtin .append, args := #[s1, x], argTypes := #[t, t] })
    (base : Nat) (e : TypeId) (i : TypeInfo) (z : Value) (bytes : Nat) (ht : P.underlying t = some (.slice e)) (hi : P.info? e = some i) (hz : i.zero = some z)
    (hsize : i.size = s) (hby : i.bytes = bytes) (hzs : z.cells.size = s)
    (v : Value) (n : Nat) (xs : List Value) (hs : a.eval s1 = v) (hown : w.ownsRow base e s v n xs)
    (u : Value) (ys : List α) (hx : a.eval x = u) (hr : RdL s f w u ys) (hn : NilOk u) (h1 : ∀ c ∈ ys.flatMap f, c.oneCell' = true)
    (h63 : n + ys.length ≤ maxLen) (hbytes : (n + ys.length) * bytes ≤ 140737488355328) (hbase : base ≤ w.heap.size)
    (h : ∀ v' w', w'.ownsRow base e s v' (n + ys.length) (xs ++ ys.flatMap f) → w.grownBy w' v.ownBlock → (v'.ownBlock = v.ownBlock ∨ v'.ownBlock = some w.heap.size) → wpList P ops Q rest (a.put o.dst v') w') : wpList P ops Q (o :: rest) a w := by
  obtain ⟨ad, cap, rfl, _, _⟩ := hr.form
  cases ad with
  | none =>
    obtain ⟨hl, hc⟩ := hn _ _ rfl
    have hy : ys = [] := List.length_eq_zero_iff.1 hl
    subst hy
    subst hc
    refine wpList_append_own_none hgd s1 x t ho base e i s ht hi v n xs hs hown hx (h v w (by simpa using hown) (World.grownBy.refl _ _) (.inl rfl))
  | some ad =>
    refine wpList_append_own_at w hgd s1 x t ho base e i z s bytes ht hi hz hsize hby hzs hs0 v n xs hs hown ad ys.length cap (ys.flatMap f) hx (flat_len hf ys) ?_ h1 h63 hbytes hbase (fun v' w' h2 h3 _ h4 => h v' w' h2 h3 h4)
    by_cases hy : ys = []
    · subst hy; intro j u hu; cases hu
    · obtain ⟨b, off, e⟩ := addr_some hr hy
      cases e
      exact hr.news hf hs0
set_option maxRecDepth 100000 in
set_option maxHeartbeats 2000000 in
theorem wBytes_good (b base : Nat) (v : Value) (bs : List UInt8) (bad : Bool) (vb : Value) (data : List UInt8) (w : World) (hW : WrAt w b base v bs bad) (hd : RdB w vb data) (hnil : NilOk vb) (hne : vb.ownBlock ≠ some b) (hne2 : ∀ k, vb.ownBlock = some k → v.ownBlock ≠ some k)
    (hbase : base ≤ w.heap.size) (hlen : bs.length + 8 + data.length ≤ 1099511627776) :
    Calls Tryz.prog 165 #[.pointer (some ⟨b, 0, none⟩), vb] w (WrDone w b base v (bs ++ lenB data) bad) := by
  obtain ⟨i0, hi, hz0, hz1, hz2⟩ := info_parts infoU8
  obtain ⟨a, cap, rfl, hlc, hcap⟩ := hd.form
  have hnum := wNum_good b base v bs bad data.length w hW (by omega) hbase (by omega)
  have hone := bb1_one data
  have Hone := Lib.hid hone
  have Hnum := Lib.hid hnum
  have Hnil := Lib.hid hnil
  obtain ⟨n, hn⟩ : ∃ n, data.length = n := ⟨_, rfl⟩
  have Hn := Lib.hid hn
  have hdl : data.length ≤ 1099511627776 := by omega
  clear hone hnum hnil hn
  go_enter Tryz.func165, Tryz.ntmps165
  go_wp2_with fail
  refine (Hnum.out).mono ?_; rintro e w1 ⟨v1, rfl, hW1, hK1, hat1⟩
  have hd1 : RdB w1 (.slice a data.length cap) data := hd.keeps hK1 (fun k hk h => by
    rcases h with h | h
    · exact hne (by rw [hk, h])
    · exact hne2 k hk h)
  have hsrc := rdLB hd1
  have hb1 := hW1.blk
  have hc0 : w1.cell? ⟨b, 0, none⟩ = some v1 := by rw [cell_of_row _ _ _ _ _ _ hb1]; rfl
  have hbS := (Array.getElem?_eq_some_iff.1 hb1).1
  have hll : (bs ++ num8 data.length).length = bs.length + 8 := by rw [List.length_append, num8_length]
  have hown1 := hW1.own
  obtain ⟨L, hL⟩ : ∃ L, (bs ++ num8 data.length).length = L := ⟨_, rfl⟩
  rw [hL] at hown1 hll
  have HL := Lib.hid hL
  have hm1 : L + data.length ≤ maxLen := by show _ ≤ 9223372036854775807; omega
  have hm2 : (L + data.length) * 1 ≤ 140737488355328 := by omega
  have hbs : base ≤ w1.heap.size := by have := hK1.size; omega
  have HW1 := Lib.hid hW1
  have HK1 := Lib.hid hK1
  have Hat1 := Lib.hid hat1
  clear hW1 hK1 hat1 hll hL
  generalize hcs : bs ++ num8 data.length = cs at hown1
  have Hcs := Lib.hid hcs
  clear hcs
  have Hhb1 := Lib.hid hb1
  go_wp2_with (at_builtin; go_must (refine wpList_append_anyAt bb1_len (by decide) rfl (.tmp 14) (.tmp 15) 22 rfl base 5 i0 (.int .u8 0) 1 Tryz.underlying22 hi hz0 hz1 hz2 rfl _ _ _ rfl hown1 _ data rfl hsrc Hnil.out Hone.out hm1 hm2 hbs ?_); rintro v2 w2 hown2 hg2' hat2'; have hg2 : w1.grownBy w2 v1.ownBlock := hg2'; have hat2 : v2.ownBlock = v1.ownBlock ∨ v2.ownBlock = some w1.heap.size := hat2'; clear hg2' hat2'; obtain ⟨a2, cap2, hv2⟩ := own_form0 hown2; subst hv2; have hblk2 : w2.heap[b]? = some (.cells #[v1, .bool bad] 167 (0, 0)) := (Keeps.grown hg2).heap (k := b) Hhb1.out HW1.out.ne; have hc2 : w2.cell? ⟨b, 0, none⟩ = some v1 := (by rw [cell_of_row _ _ _ _ _ _ hblk2]; rfl); have hf2 : w2.frozen? ⟨b, 0, none⟩ = false := (by simp [World.frozen?, hblk2]))
  go_end0
  have hne' : (Value.slice a2 (L + data.length) cap2).ownBlock ≠ some b := by
    rcases hat2 with h | h
    · rw [h]; exact HW1.out.ne
    · rw [h]; intro e; have := Option.some.inj e; omega
  have hK2 : Keeps (fun k => k = b ∨ v.ownBlock = some k) w w2 := HK1.out.go (Keeps.grown hg2) (by
    intro k h
    rcases Hat1.out with h1 | ⟨g, h1, h2⟩
    · exact .inl (.inr (by rw [← h1]; exact h))
    · rw [h1] at h; cases h; exact .inr h2)
  have hK3 := Keeps.setCell (F := fun k => k = b ∨ v.ownBlock = some k) w2 ⟨b, 0, none⟩ (.slice a2 (L + data.length) cap2) (.inl rfl)
  refine ⟨_, rfl, ⟨heap_setCell_same _ _ 0 _ _ _ hblk2, ?_, hne'⟩, hK2.trans hK3, ?_⟩
  · have h := own_keeps hown2 (Keeps.setCell (F := fun k => k = b) w2 ⟨b, 0, none⟩ (.slice a2 (L + data.length) cap2) rfl) (fun k hk e => hne' (by rw [hk, e]))
    rw [bb1_flat, ← List.map_append, ← Hcs.out] at h
    have e : (bs ++ lenB data).length = L + data.length := by rw [lenB, ← List.append_assoc, List.length_append, HL.out]
    rw [e, lenB, ← List.append_assoc]
    exact h
  · rcases hat2 with h | h
    · rw [h]
      rcases Hat1.out with h1 | ⟨g, h1, h2⟩
      · exact .inl h1
      · exact .inr ⟨g, h1, h2⟩
    · exact .inr ⟨_, h, HK1.out.size⟩
end Go.Proofs.YtffnbkmigapmjaaGreatDoor
