/-
  The walk of fs: Used (a sum over a map, in whatever order).
  The walks of word.Writer.Bytes and word.Reader.Bytes.
-/
import Derived.Test.YtffnbkmigapmjaaGreatDoorT1
import Derived.Test.YtffnbkmigapmjaaGreatDoorT2
import Derived.Test.YtffnbkmigapmjaaGreatDoorT8
import Derived.Test.YtffnbkmigapmjaaGreatDoorT13
import Derived.Maps.RangeWalk
import Derived.Sort.KeysCollected
import Derived.Maps.AppendAt
set_option linter.unusedSimpArgs false
set_option linter.unusedVariables false
set_option maxRecDepth 100000
namespace Go.Proofs.YtffnbkmigapmjaaGreatDoor
open Go.RowKit Go.Maps
def lenOf (d : FsD) (x : Nat) : Nat := match d.file x with | some c => c.bytes.length | none => 0
def sumL (d : FsD) (l : Dir) (left : Lit → Bool) : Nat := ((l.filter (fun p => left (.string p.1))).map (fun p => lenOf d p.2)).sum
def usedD (d : FsD) : Nat := (d.now.map (fun p => lenOf d p.2)).sum
theorem sumL_all {d : FsD} : ∀ {l : Dir} {left : Lit → Bool}, (∀ p ∈ l, left (.string p.1) = true) → sumL d l left = (l.map (fun p => lenOf d p.2)).sum := by
  intro l left h
  unfold sumL
  rw [List.filter_eq_self.2 h]
theorem sumL_none {d : FsD} {l : Dir} {left : Lit → Bool} (h : ∀ k, left k = false) : sumL d l left = 0 := by
  unfold sumL
  have : l.filter (fun p => left (.string p.1)) = [] := List.filter_eq_nil_iff.2 (fun p _ => by rw [h]; simp)
  rw [this]; rfl
theorem sumL_cons {d : FsD} {p : Nm × Nat} {l : Dir} {left : Lit → Bool} : sumL d (p :: l) left = (if left (.string p.1) then lenOf d p.2 else 0) + sumL d l left := by
  unfold sumL
  rw [List.filter_cons]
  split <;> simp
theorem sumL_absent {d : FsD} {x : Nm} {left : Lit → Bool} : ∀ {l : Dir}, (∀ p ∈ l, p.1 ≠ x) → sumL d l (fun z => left z && !z.sameKey (.string x)) = sumL d l left := by
  intro l
  induction l with
  | nil => intro _; rfl
  | cons p r ih =>
    intro h
    rw [sumL_cons, sumL_cons, ih (fun q hq => h q (List.mem_cons_of_mem _ hq)), same_str]
    have : (p.1 == x) = false := by simpa using h p (by simp)
    rw [this]; simp
theorem sumL_step {d : FsD} {x : Nm} {f : Nat} {left : Lit → Bool} (hl : left (.string x) = true) : ∀ {l : Dir}, l.Pairwise (fun p q => p.1 ≠ q.1) → (x, f) ∈ l → sumL d l left = lenOf d f + sumL d l (fun z => left z && !z.sameKey (.string x)) := by
  intro l
  induction l with
  | nil => intro _ h; cases h
  | cons p r ih =>
    intro hp hm
    rw [sumL_cons, sumL_cons, same_str]
    obtain ⟨h1, h2⟩ := List.pairwise_cons.1 hp
    rcases List.mem_cons.1 hm with e | hm
    · subst e
      rw [hl, sumL_absent (fun q hq e => h1 q hq e.symm)]
      simp
    · have hne : (p.1 == x) = false := by simpa using h1 _ hm
      rw [hne, ih h2 hm]
      simp
      omega
theorem sumL_le {d : FsD} {left : Lit → Bool} {B : Nat} (hs : ∀ x c, d.file x = some c → c.bytes.length ≤ B) : ∀ (l : Dir), sumL d l left ≤ l.length * B := by
  intro l
  induction l with
  | nil => simp [sumL]
  | cons p r ih =>
    rw [sumL_cons, List.length_cons, Nat.succ_mul]
    have : lenOf d p.2 ≤ B := by
      unfold lenOf
      cases hc : d.file p.2 with
      | none => exact Nat.zero_le _
      | some c => exact hs _ _ hc
    split <;> omega
theorem dir_apart {w : World} {b : Nat} {l : Dir} (h : DirAt w b l) : l.Pairwise (fun p q => p.1 ≠ q.1) := by
  obtain ⟨es, he, hp, _⟩ := World.ownsMap.entries h keyed_str
  unfold dirD at he
  have he : l.map entD = es := by injection he
  rw [← he] at hp
  have := List.pairwise_map.1 hp
  exact this.imp (fun hne e => hne (by unfold entD; rw [e]))
set_option maxHeartbeats 8000000 in
theorem used_calls (f : Nat) (d : FsD) (ρ : Rho) (w : World) (h : FsAt w f d ρ) (hl : d.now.length ≤ 256) :
    Calls Tryz.prog 35 #[.pointer (some ⟨f, 0, none⟩)] w fun e w' => e = .returned (.int .i64 (usedD d)) ∧ Below w.heap.size w w' := by
  obtain ⟨⟨c0, c1, c2, c3, c4, c5⟩, _⟩ := fsHd_cells h.hd
  have hown : w.ownsMap Tryz.prog 9 ptrElem d.mn d.now.length (dirD d.now) := h.rest.dnow
  have hap := dir_apart h.rest.dnow
  have hstart : sumL d d.now (Maps.has (dirD d.now)) = usedD d := sumL_all (fun p hp => by
    rw [dirD_has]
    unfold Dir.look
    rw [Option.isSome_map, List.find?_isSome]
    exact ⟨p, hp, by simp⟩)
  have hbig : ∀ left, sumL d d.now left ≤ 4294967296 := fun left => by
    have h1 := sumL_le (left := left) (d := d) (B := 16777216) (fun x c hc => (h.rest.files x c hc).small) d.now
    have h2 : d.now.length * 16777216 ≤ 256 * 16777216 := Nat.mul_le_mul_right _ hl
    omega
  have Hstart := Lib.hid hstart
  have Hbig := Lib.hid hbig
  have Hap := Lib.hid hap
  have H := Lib.hid h
  have hnn : sumL d d.now (Maps.has (dirD d.now)) ≤ 4294967296 := hbig _
  rw [hstart] at hnn
  obtain ⟨T, hT⟩ : ∃ T, usedD d = T := ⟨_, rfl⟩
  rw [hT] at Hstart hnn
  have HT := Lib.hid hT
  clear hstart hbig hap hT c1 c2 c3 c4 c5 h
  go_enter Tryz.func35, Tryz.ntmps35
  go_wp2_with (at_range; go_loud (refine wpList_range_own _ rfl _ 93 rfl 9 98 keyed_str Tryz.underlying93 ptrElem d.mn d.now.length (dirD d.now) rfl hown ?_; intro w0 hrg0 hg0 hs0))
  have hb0 : Below w.heap.size w w0 := (Below.refl _ _).grown hg0 (Nat.le_refl _) (fun j hj => by cases hj)
  go_frame
  clear hs0
  go_loopw [3, 5] (fun n x wr => ∃ left cnt, ∃ acc : Nat, wr.ranges Tryz.prog 9 ptrElem d.mn w.heap.size d.now.length (dirD d.now) left cnt ∧ n = .int .i64 acc ∧ Hid (acc + sumL d d.now left = T) ∧ Below w.heap.size w wr) (fun _ _ wr => wr.rangeLeft d.mn w.heap.size)
  case atStart =>
    exact ⟨_, _, 0, hrg0, rfl, Lib.hid (by rw [Nat.zero_add]; exact Hstart.out), hb0⟩
  case round =>
    obtain ⟨left, cnt, acc, hrg, rfl, hacc, hbw⟩ := hrel
    have hacn : acc ≤ 4294967296 := by have := hacc.out; omega
    have hac1 : (0 : Int) ≤ (acc : Int) := by omega
    have hac2 : (acc : Int) ≤ 4294967296 := by omega
    go_wp2_with (at_next; go_loud (refine wpList_next_ranges (α := Nm) (β := Option Nat) _ rfl _ rfl 9 keyed_str ptrElem (fun l : Nm => .string (strL l)) ptrOf (fun key kl hk => by obtain ⟨x, hx, _⟩ := Maps.keyOf_str Tryz.underlying9 hk; exact ⟨x, hx⟩) (fun v y hv => by rcases ptrElem_inv hv with ⟨rfl, _⟩ | ⟨b, rfl, _⟩; exact ⟨none, rfl⟩; exact ⟨some b, rfl⟩) d.mn w.heap.size d.now.length (dirD d.now) left cnt rfl hrg ?_ ?_))
    · intro hc0 hl0
      have hfin : acc = T := by have := hacc.out; rw [sumL_none hl0] at this; omega
      have Hfin := Lib.hid hfin
      clear hfin hc0 hl0
      go_wp2
      go_ret
      rw [HT.out, ← Hfin.out]
      exact ⟨rfl, hbw⟩
    · intro x c kl yd yp w1 cnt1 hkey hlk hv hat hrg1 hlt hg1 hs1 hen
      have hkl : kl = .string x := by
        obtain ⟨x', ex, rfl, _⟩ := Maps.keyOf_str Tryz.underlying9 hkey
        have : strL x = strL x' := by injection ex
        rw [strL_inj this]
      subst hkl
      have h0 := hat .nil
      have h1 := hat (.lit (.bool true))
      rw [dirD_at] at h0 h1
      cases hlook : d.now.look x with
      | none => rw [hlook] at h0 h1; rw [← h0] at h1; cases h1
      | some fx =>
        rw [hlook] at h0
        have hcx : c = some fx := by
          cases c with
          | none => have : ptrElem (.pointer none) = some (yd, yp) := hv; cases this; cases h0
          | some c' =>
            have : ptrElem (.pointer (some ⟨c', 0, none⟩)) = some (yd, yp) := hv
            cases this
            injection h0 with h0; injection h0 with _ h0
            have : fx = c' := by omega
            rw [this]
        subst hcx
        have hen : (Instr.entry (.pointer (some ⟨w.heap.size, 0, none⟩))).run Tryz.prog w1 = .ok (.tuple #[.string (strL x), .pointer (some ⟨fx, 0, none⟩)]) w1 := hen
        have hbw1 : Below w.heap.size w w1 := hbw.grown hg1 hbw.size (fun j hj => by cases hj; exact Nat.le_refl _)
        obtain ⟨cf, hcf, _⟩ := H.out.rest.fileOf hlook
        have hfx := (H.out.below hbw1).rest.files fx cf hcf
        obtain ⟨⟨x0, x1⟩, _⟩ := cells2 hfx.hd
        obtain ⟨aR, cR, hrow⟩ := own_form0 hfx.own
        rw [hrow] at x0
        have hlen : lenOf d fx = cf.bytes.length := by unfold lenOf; rw [hcf]
        have hstep := sumL_step (d := d) (f := fx) hlk Hap.out (look_mem hlook)
        rw [hlen] at hstep
        have hnew : Hid ((acc + cf.bytes.length) + sumL d d.now (fun z => left z && !z.sameKey (.string x)) = T) := Lib.hid (by have := hacc.out; omega)
        have hsm : (cf.bytes.length : Int) ≤ 16777216 := by have := hfx.small; omega
        clear hs1 h0 h1 hat hlook hcf hfx hrow hlen hstep hlk hkey hv x1
        generalize strL x = sx at hen
        have hpo : ptrOf (some fx) = Value.pointer (some ⟨fx, 0, none⟩) := rfl
        rw [hpo]
        go_wp2
        go_roundw
        case rel => exact ⟨_, cnt1, acc + cf.bytes.length, hrg1, by push_cast; rfl, hnew, hbw1⟩
        case measure => rw [hrg1.left_eq, hrg.left_eq]; exact hlt
end Go.Proofs.YtffnbkmigapmjaaGreatDoor

set_option linter.unusedSimpArgs false
set_option linter.unusedVariables false
namespace Go.Proofs.YtffnbkmigapmjaaGreatDoor
open Go.RowKit
/-- A byte's cell. -/
def bb1 (x : UInt8) : List Value := [u8v x]
theorem bb1_len (x : UInt8) : (bb1 x).length = 1 := rfl
theorem bb1_flat (bs : List UInt8) : bs.flatMap bb1 = bs.map u8v := by induction bs with
  | nil => rfl
  | cons x xs ih => rw [List.flatMap_cons, ih]; rfl
theorem bb1_one (bs : List UInt8) : ∀ c ∈ bs.flatMap bb1, c.oneCell' = true := by rw [bb1_flat]; exact one_u8 bs
theorem rdLB {w : World} {v : Value} {bs : List UInt8} (h : RdB w v bs) : RdL 1 bb1 w v bs := by
  rcases h with ⟨a, c, h1, h2, h3⟩ | ⟨b, off, cap, h1, h0, h2, h3, h4, h5⟩
  · exact .inl ⟨a, c, h1, h2, h3⟩
  · refine .inr ⟨b, off, cap, h1, h0, h2, h3, h4, fun i x hx j u hu => ?_⟩
    cases j with
    | zero => rw [bb1] at hu; cases hu; rw [Nat.mul_one, Nat.add_zero]; exact h5 i x hx
    | succ j => rw [bb1] at hu; cases hu
/-- Behind how many they are. -/
def lenB (bs : List UInt8) : List UInt8 := num8 bs.length ++ bs
theorem wpList_append_anyAt {α : Type} {s : Nat} {f : α → List Value} (hf : ∀ x, (f x).length = s) (hs0 : 0 < s) {P : Program} {w : World} {ops : Array Oper} {rest : List Oper} {o : Oper} {a : Act} {Q : Exit → Act → World → Prop} (hgd : o.guard = none) (s1 x : Operand) (t : TypeId)
    (ho : o.op = .call { callee := .builtin .append, args := #[s1, x], argTypes := #[t, t] })
    (base : Nat) (e : TypeId) (i : TypeInfo) (z : Value) (bytes : Nat) (ht : P.underlying t = some (.slice e)) (hi : P.info? e = some i) (hz : i.zero = some z)
    (hsize : i.size = s) (hby : i.bytes = bytes) (hzs : z.cells.size = s)
    (v : Value) (n : Nat) (xs : List Value) (hs : a.eval s1 = v) (hown : w.ownsRow base e s v n xs)
    (u : Value) (ys : List α) (hx : a.eval x = u) (hr : RdL s f w u ys) (hn : NilOk u) (h1 : ∀ c ∈ ys.flatMap f, c.oneCell' = true)
    (h63 : n + ys.length ≤ maxLen) (hbytes : (n + ys.length) * bytes ≤ 140737488355328) (hbase : base ≤ w.heap.size)
    (h : ∀ v' w', w'.ownsRow base e s v' (n + ys.length) (xs ++ ys.flatMap f) → w.grownBy w' v.ownBlock → (v'.ownBlock = v.ownBlock ∨ v'.ownBlock = some w.heap.size) → wpList P ops Q rest (a.put o.dst v') w') : wpList P ops Q (o :: rest) a w := by
  obtain ⟨ad, cap, rfl, _, _⟩ := hr.form
  cases ad with
  | none =>
    obtain ⟨hl, hc⟩ := hn _ _ rfl
    have hy : ys = [] := List.length_eq_zero_iff.1 hl
    subst hy
    subst hc
    refine wpList_append_own_none hgd s1 x t ho base e i s ht hi v n xs hs hown hx (h v w (by simpa using hown) (World.grownBy.refl _ _) (.inl rfl))
  | some ad =>
    refine wpList_append_own_at w hgd s1 x t ho base e i z s bytes ht hi hz hsize hby hzs hs0 v n xs hs hown ad ys.length cap (ys.flatMap f) hx (flat_len hf ys) ?_ h1 h63 hbytes hbase (fun v' w' h2 h3 _ h4 => h v' w' h2 h3 h4)
    by_cases hy : ys = []
    · subst hy; intro j u hu; cases hu
    · obtain ⟨b, off, e⟩ := addr_some hr hy
      cases e
      exact hr.news hf hs0
set_option maxRecDepth 100000 in
set_option maxHeartbeats 2000000 in
theorem wBytes_good (b base : Nat) (v : Value) (bs : List UInt8) (bad : Bool) (vb : Value) (data : List UInt8) (w : World) (hW : WrAt w b base v bs bad) (hd : RdB w vb data) (hnil : NilOk vb) (hne : vb.ownBlock ≠ some b) (hne2 : ∀ k, vb.ownBlock = some k → v.ownBlock ≠ some k)
    (hbase : base ≤ w.heap.size) (hlen : bs.length + 8 + data.length ≤ 1099511627776) :
    Calls Tryz.prog 165 #[.pointer (some ⟨b, 0, none⟩), vb] w (WrDone w b base v (bs ++ lenB data) bad) := by
  obtain ⟨i0, hi, hz0, hz1, hz2⟩ := info_parts infoU8
  obtain ⟨a, cap, rfl, hlc, hcap⟩ := hd.form
  have hnum := wNum_good b base v bs bad data.length w hW (by omega) hbase (by omega)
  have hone := bb1_one data
  have Hone := Lib.hid hone
  have Hnum := Lib.hid hnum
  have Hnil := Lib.hid hnil
  obtain ⟨n, hn⟩ : ∃ n, data.length = n := ⟨_, rfl⟩
  have Hn := Lib.hid hn
  have hdl : data.length ≤ 1099511627776 := by omega
  clear hone hnum hnil hn
  go_enter Tryz.func165, Tryz.ntmps165
  go_wp2_with fail
  refine (Hnum.out).mono ?_; rintro e w1 ⟨v1, rfl, hW1, hK1, hat1⟩
  have hd1 : RdB w1 (.slice a data.length cap) data := hd.keeps hK1 (fun k hk h => by
    rcases h with h | h
    · exact hne (by rw [hk, h])
    · exact hne2 k hk h)
  have hsrc := rdLB hd1
  have hb1 := hW1.blk
  have hc0 : w1.cell? ⟨b, 0, none⟩ = some v1 := by rw [cell_of_row _ _ _ _ _ _ hb1]; rfl
  have hbS := (Array.getElem?_eq_some_iff.1 hb1).1
  have hll : (bs ++ num8 data.length).length = bs.length + 8 := by rw [List.length_append, num8_length]
  have hown1 := hW1.own
  obtain ⟨L, hL⟩ : ∃ L, (bs ++ num8 data.length).length = L := ⟨_, rfl⟩
  rw [hL] at hown1 hll
  have HL := Lib.hid hL
  have hm1 : L + data.length ≤ maxLen := by show _ ≤ 9223372036854775807; omega
  have hm2 : (L + data.length) * 1 ≤ 140737488355328 := by omega
  have hbs : base ≤ w1.heap.size := by have := hK1.size; omega
  have HW1 := Lib.hid hW1
  have HK1 := Lib.hid hK1
  have Hat1 := Lib.hid hat1
  clear hW1 hK1 hat1 hll hL
  generalize hcs : bs ++ num8 data.length = cs at hown1
  have Hcs := Lib.hid hcs
  clear hcs
  have Hhb1 := Lib.hid hb1
  go_wp2_with (at_builtin; go_must (refine wpList_append_anyAt bb1_len (by decide) rfl (.tmp 14) (.tmp 15) 22 rfl base 5 i0 (.int .u8 0) 1 Tryz.underlying22 hi hz0 hz1 hz2 rfl _ _ _ rfl hown1 _ data rfl hsrc Hnil.out Hone.out hm1 hm2 hbs ?_); rintro v2 w2 hown2 hg2' hat2'; have hg2 : w1.grownBy w2 v1.ownBlock := hg2'; have hat2 : v2.ownBlock = v1.ownBlock ∨ v2.ownBlock = some w1.heap.size := hat2'; clear hg2' hat2'; obtain ⟨a2, cap2, hv2⟩ := own_form0 hown2; subst hv2; have hblk2 : w2.heap[b]? = some (.cells #[v1, .bool bad] 167 (0, 0)) := (Keeps.grown hg2).heap (k := b) Hhb1.out HW1.out.ne; have hc2 : w2.cell? ⟨b, 0, none⟩ = some v1 := (by rw [cell_of_row _ _ _ _ _ _ hblk2]; rfl); have hf2 : w2.frozen? ⟨b, 0, none⟩ = false := (by simp [World.frozen?, hblk2]))
  go_end0
  have hne' : (Value.slice a2 (L + data.length) cap2).ownBlock ≠ some b := by
    rcases hat2 with h | h
    · rw [h]; exact HW1.out.ne
    · rw [h]; intro e; have := Option.some.inj e; omega
  have hK2 : Keeps (fun k => k = b ∨ v.ownBlock = some k) w w2 := HK1.out.go (Keeps.grown hg2) (by
    intro k h
    rcases Hat1.out with h1 | ⟨g, h1, h2⟩
    · exact .inl (.inr (by rw [← h1]; exact h))
    · rw [h1] at h; cases h; exact .inr h2)
  have hK3 := Keeps.setCell (F := fun k => k = b ∨ v.ownBlock = some k) w2 ⟨b, 0, none⟩ (.slice a2 (L + data.length) cap2) (.inl rfl)
  refine ⟨_, rfl, ⟨heap_setCell_same _ _ 0 _ _ _ hblk2, ?_, hne'⟩, hK2.trans hK3, ?_⟩
  · have h := own_keeps hown2 (Keeps.setCell (F := fun k => k = b) w2 ⟨b, 0, none⟩ (.slice a2 (L + data.length) cap2) rfl) (fun k hk e => hne' (by rw [hk, e]))
    rw [bb1_flat, ← List.map_append, ← Hcs.out] at h
    have e : (bs ++ lenB data).length = L + data.length := by rw [lenB, ← List.append_assoc, List.length_append, HL.out]
    rw [e, lenB, ← List.append_assoc]
    exact h
  · rcases hat2 with h | h
    · rw [h]
      rcases Hat1.out with h1 | ⟨g, h1, h2⟩
      · exact .inl h1
      · exact .inr ⟨g, h1, h2⟩
    · exact .inr ⟨_, h, HK1.out.size⟩
end Go.Proofs.YtffnbkmigapmjaaGreatDoor
