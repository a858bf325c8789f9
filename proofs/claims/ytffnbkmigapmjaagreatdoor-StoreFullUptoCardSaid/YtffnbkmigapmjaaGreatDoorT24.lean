/- Printed out of the texts of wip/tpl. -/
import Derived.Test.YtffnbkmigapmjaaGreatDoorT11
import Derived.Test.YtffnbkmigapmjaaGreatDoorT20
import Derived.Test.YtffnbkmigapmjaaGreatDoorT23
set_option linter.unusedSimpArgs false
set_option linter.unusedVariables false
set_option maxRecDepth 100000
namespace Go.Proofs.YtffnbkmigapmjaaGreatDoor
open Go.RowKit Go.Maps
structure BoxD where
 m : MailD
 q : UInt8
 ks : List MarkD
structure ModD where
 list : List BoxD
 last : Int
 bound : Int
 room : Int
structure BoxV where
 d : BoxD
 ar : Option Addr
 cr : Nat
 ab : Option Addr
 cb : Nat
 am : Option Addr
 cm : Nat
def boxCells (b : BoxV) : List Value := [.int .i64 b.d.m.id, .int .i64 b.d.m.parent, .int .i64 b.d.m.born, .string (strL b.d.m.frm), .slice b.ar b.d.m.rcpts.length b.cr, .slice b.ab b.d.m.body.length b.cb, .int .u8 (b.d.q.toNat : Int), .slice b.am b.d.ks.length b.cm]
theorem boxCells_len (b : BoxV) : (boxCells b).length = 8 := rfl
structure BoxRd (w : World) (x : BoxV) : Prop where
 r : RdS w (.slice x.ar x.d.m.rcpts.length x.cr) x.d.m.rcpts
 b : RdB w (.slice x.ab x.d.m.body.length x.cb) x.d.m.body
 m : RdM w (.slice x.am x.d.ks.length x.cm) x.d.ks
 nr : NilOk (.slice x.ar x.d.m.rcpts.length x.cr)
 nb : NilOk (.slice x.ab x.d.m.body.length x.cb)
 nm : NilOk (.slice x.am x.d.ks.length x.cm)
 good : x.d.m.good = true
 small : x.d.m.small
def boxOwn (b : BoxV) (k : Nat) : Prop := (Value.slice b.ar b.d.m.rcpts.length b.cr).ownBlock = some k ∨ (Value.slice b.ab b.d.m.body.length b.cb).ownBlock = some k ∨ (Value.slice b.am b.d.ks.length b.cm).ownBlock = some k
structure MdlAt (w : World) (mb : Nat) (M : ModD) (lv : Value) (bs : List BoxV) (σ : Nat → Prop) : Prop where
 hd : w.heap[mb]? = some (.cells #[lv, .int .i64 M.last, .int .i64 M.bound, .int .i64 M.room] 69 (0, 0))
 lst : bs.map (·.d) = M.list
 own : w.ownsRow 0 80 8 lv bs.length (bs.flatMap boxCells)
 rd : ∀ b ∈ bs, BoxRd w b
 smb : σ mb
 slv : ∀ k, lv.ownBlock = some k → σ k ∧ k ≠ mb
 sbx : ∀ b ∈ bs, ∀ k, boxOwn b k → σ k ∧ k ≠ mb ∧ lv.ownBlock ≠ some k
 lt : ∀ k, σ k → k < w.heap.size
structure MdlStep (w : World) (σ : Nat → Prop) (w' : World) (σ' : Nat → Prop) : Prop where
 keeps : Keeps σ w w'
 grow : ∀ k, σ' k → σ k ∨ w.heap.size ≤ k
section
variable {w w' : World} {mb : Nat} {M : ModD} {lv : Value} {bs : List BoxV} {σ : Nat → Prop} {F : Nat → Prop}
theorem BoxRd.keeps {b : BoxV} (h : BoxRd w b) (hk : Keeps F w w') (hF : ∀ k, boxOwn b k → ¬ F k) : BoxRd w' b :=
 ⟨h.r.keeps hk (fun b o l c e => hF b (.inl (by rw [e]; rfl))), h.b.keeps hk (fun k e => hF k (.inr (.inl e))), h.m.keeps hk (fun b o l c e => hF b (.inr (.inr (by rw [e]; rfl)))), h.nr, h.nb, h.nm, h.good, h.small⟩
theorem MdlAt.keeps (h : MdlAt w mb M lv bs σ) (hk : Keeps F w w') (hF : ∀ k, σ k → ¬ F k) : MdlAt w' mb M lv bs σ :=
 ⟨hk.heap h.hd (hF _ h.smb), h.lst, own_keeps h.own hk (fun k e => hF k (h.slv k e).1), fun b hb => (h.rd b hb).keeps hk (fun k e => hF k (h.sbx b hb k e).1), h.smb, h.slv, h.sbx, fun k e => Nat.lt_of_lt_of_le (h.lt k e) hk.size⟩
theorem MdlAt.below (h : MdlAt w mb M lv bs σ) (hb : Below w.heap.size w w') : MdlAt w' mb M lv bs σ :=
 h.keeps (F := fun _ => False) (Keeps.ofBelow hb) (fun _ _ e => e)
theorem MdlAt.cells (h : MdlAt w mb M lv bs σ) : w.cell? ⟨mb, 0, none⟩ = some lv ∧ w.cell? ⟨mb, 1, none⟩ = some (.int .i64 M.last) ∧ w.cell? ⟨mb, 2, none⟩ = some (.int .i64 M.bound) ∧ w.cell? ⟨mb, 3, none⟩ = some (.int .i64 M.room) :=
 ⟨by rw [cell_of_row _ _ _ _ _ _ h.hd]; rfl, by rw [cell_of_row _ _ _ _ _ _ h.hd]; rfl, by rw [cell_of_row _ _ _ _ _ _ h.hd]; rfl, by rw [cell_of_row _ _ _ _ _ _ h.hd]; rfl⟩
theorem MdlAt.rdl (h : MdlAt w mb M lv bs σ) : RdL 8 boxCells w lv bs := rdL_ofOwn boxCells_len (by decide) h.own
theorem MdlStep.refl (w : World) (σ : Nat → Prop) : MdlStep w σ w σ := ⟨Keeps.refl _ _, fun _ h => .inl h⟩
theorem MdlStep.trans {a b c : World} {σ τ υ : Nat → Prop} (h : MdlStep a σ b τ) (k : MdlStep b τ c υ) : MdlStep a σ c υ :=
 ⟨h.keeps.go k.keeps h.grow, fun i e => by
  rcases k.grow i e with e | e
  ·exact h.grow i e
  ·exact .inr (Nat.le_trans h.keeps.size e)⟩
theorem MdlStep.below {σ : Nat → Prop} (hb : Below w.heap.size w w') : MdlStep w σ w' σ := ⟨Keeps.ofBelow hb, fun _ h => .inl h⟩
end
def atL (id : Int) : List BoxD → Nat → Int
 | [], _ => -1
 | b :: l, i => if b.m.id = id ∧ b.q ≠ 99 then (i : Int) else atL id l (i + 1)
def ModD.at (M : ModD) (id : Int) : Int := atL id M.list 0
def BoxD.len (b : BoxD) : Nat := b.m.record.length + 28 * b.ks.length
def ModD.used (M : ModD) : Nat := (M.list.map BoxD.len).sum
def ModD.files (M : ModD) : Nat := M.list.length + if 0 < M.bound then 1 else 0
def ModD.queue (M : ModD) (q : UInt8) : List Int := (M.list.filter (fun b => b.q == q)).map (·.m.id)
structure ModOk (M : ModD) : Prop where
 n : M.list.length ≤ 200
 ks : ∀ b ∈ M.list, b.ks.length ≤ 100000
 last : 0 ≤ M.last ∧ M.last ≤ 1000000
 bound : 0 ≤ M.bound ∧ M.bound ≤ 1073741824
 room : 0 ≤ M.room ∧ M.room ≤ 16777216
 id : ∀ b ∈ M.list, 1 ≤ b.m.id ∧ b.m.id ≤ M.last
def ModD.next (M : ModD) : ModD := { M with bound := if M.bound ≤ M.last then M.last + 16 else M.bound, last := M.last + 1 }
def ModD.add (M : ModD) (m : MailD) : Int × Int × ModD :=
 if M.room - (M.used : Int) < (({ m with id := M.last + 1 } : MailD).record.length : Int) then (0, 3, M.next) else (M.last + 1, 0, { M.next with list := M.list ++ [⟨{ m with id := M.last + 1 }, 105, []⟩] })
def workK : List UInt8 := [105, 97, 100, 104]
def goodM (m : MailD) : Bool := ({ m with id := 999999999 } : MailD).good
def ModD.commit (M : ModD) (m : MailD) : Int × Int × ModD := if goodM m = true ∧ m.parent = 0 then M.add m else (0, 1, M)
def ModD.upd (M : ModD) (id : Int) (f : BoxD → BoxD) : ModD := { M with list := M.list.modify (M.at id).toNat f }
def ModD.move (M : ModD) (id : Int) (q : UInt8) : Int × ModD := if workK.contains q = true then (if M.at id < 0 then (4, M) else (0, M.upd id (fun b => { b with q := q }))) else (1, M)
def ModD.mark (M : ModD) (id : Int) (k : MarkD) : Int × ModD :=
 if k.good = true then (if M.at id < 0 then (4, M) else if M.room - (M.used : Int) < 28 then (3, M) else (0, M.upd id (fun b => { b with ks := b.ks ++ [k] }))) else (1, M)
def ModD.drop (M : ModD) (id : Int) : Int × ModD := if M.at id < 0 then (4, M) else (0, { M with list := M.list.eraseIdx (M.at id).toNat })
def ModD.qAt (M : ModD) (id : Int) : UInt8 := ((M.list[(M.at id).toNat]?).map (·.q)).getD 0
def ModD.bounce (M : ModD) (m : MailD) : Int × Int × ModD :=
 if goodM m = true ∧ ¬ M.at m.parent < 0 ∧ M.qAt m.parent ≠ 104 then (if (M.add m).2.1 = 0 then ((M.add m).1, 0, ((M.add m).2.2.drop m.parent).2) else (0, (M.add m).2.1, (M.add m).2.2)) else (0, 1, M)
theorem atL_range (id : Int) : ∀ (l : List BoxD) (i : Nat), atL id l i = -1 ∨ ∃ k b, atL id l i = ((i + k : Nat) : Int) ∧ l[k]? = some b ∧ b.m.id = id ∧ b.q ≠ 99
 | [], _ => .inl rfl
 | b :: l, i => by
  rw [atL]
  by_cases h : b.m.id = id ∧ b.q ≠ 99
  ·rw [if_pos h]; exact .inr ⟨0, b, rfl, rfl, h.1, h.2⟩
  ·rw [if_neg h]
   rcases atL_range id l (i + 1) with e | ⟨k, x, e, h1, h2⟩
   ·exact .inl e
   ·exact .inr ⟨k + 1, x, by rw [e]; congr 1; omega, h1, h2⟩
theorem ModD.at_range (M : ModD) (id : Int) : M.at id = -1 ∨ ∃ (k : Nat) (b : BoxD), M.at id = (k : Int) ∧ M.list[k]? = some b ∧ b.m.id = id ∧ b.q ≠ 99 := by
 rcases atL_range id M.list 0 with e | ⟨k, b, e, h⟩
 ·exact .inl e
 ·exact .inr ⟨k, b, by unfold ModD.at; rw [e, Nat.zero_add], h⟩
theorem good_at {m : MailD} {n : Int} (h : goodM m = true) (hp : m.parent ≤ n - 1) (hn : 1 ≤ n ∧ n ≤ 999999999) : ({ m with id := n } : MailD).good = true := by
 obtain ⟨_, h2, h3⟩ := (good_iff _).1 h
 exact (good_iff _).2 ⟨hn, ⟨h2.1, hp⟩, h3⟩
theorem drop_at {α : Type} {l : List α} {j : Nat} {x : α} (h : l[j]? = some x) : l.drop j = x :: l.drop (j + 1) := by
 obtain ⟨h1, h2⟩ := List.getElem?_eq_some_iff.1 h
 rw [List.drop_eq_getElem_cons h1, h2]
section
variable {mb : Nat} {M : ModD} {lv : Value} {bs : List BoxV} {σ : Nat → Prop}
set_option maxHeartbeats 8000000 in
theorem mAt_calls (id : Int) (w : World) (h : MdlAt w mb M lv bs σ) (hn : M.list.length ≤ 200) :
 Calls Tryz.prog 121 #[.pointer (some ⟨mb, 0, none⟩), .int .i64 id] w fun e w' => e = .returned (.int .i64 (M.at id)) ∧ Below w.heap.size w w' := by
 obtain ⟨al, cl, rfl, hl, hc⟩ := h.rdl.form
 have hbl : bs.length ≤ 1000 := by rw [← List.length_map (f := fun b : BoxV => b.d), h.lst]; omega
 have hst : ∀ wr, Below w.heap.size w wr → wr.cell? ⟨mb, 0, none⟩ = some (.slice al bs.length cl) ∧ RdL 8 boxCells wr (.slice al bs.length cl) bs := fun wr hb => ⟨(h.below hb).cells.1, (h.below hb).rdl⟩
 obtain ⟨r, hr⟩ : ∃ r, M.at id = r := ⟨_, rfl⟩
 have hr0 : atL id (bs.map (·.d)) 0 = r := by rw [h.lst]; exact hr
 rw [hr]
 have Hst := Lib.hid hst
 have Hr := Lib.hid hr0
 have c0 := (hst w (Below.refl _ _)).1
 clear hst hr hr0 h hn hl hc
 go_enter Tryz.func121, Tryz.ntmps121
 go_wp2
 go_loopw [5] (fun i wr => ∃ j : Nat, j ≤ bs.length ∧ i = .int .i64 j ∧ Hid (atL id ((bs.drop j).map (·.d)) j = r) ∧ Below w.heap.size w wr) (fun i _ => bs.length - (intOf i).toNat)
 case atStart => exact ⟨0, Nat.zero_le _, rfl, Lib.hid Hr.out, Below.refl _ _⟩
 case round =>
  obtain ⟨j, hj, rfl, hP, hbw⟩ := hrel
  clear c0
  obtain ⟨c0, hR⟩ := Hst.out wr hbw
  by_cases hlt : j < bs.length
  ·obtain ⟨o, ho⟩ : ∃ o, bs[j]? = some o := ⟨_, List.getElem?_eq_getElem hlt⟩
   obtain ⟨b, off, cap', hsl, hbl', h3⟩ := RdL.at hR ho
   have c1 := h3 0 _ rfl
   rw [Nat.add_zero] at c1
   have c7 := h3 6 _ rfl
   rw [← Nat.add_assoc] at c7
   cases hsl
   have hj0 : (0 : Int) ≤ (j : Int) := by omega
   have hj1 : (j : Int) < (bs.length : Int) := by omega
   have hP' := hP.out
   rw [drop_at ho, List.map_cons, atL] at hP'
   obtain ⟨oid, hoid⟩ : ∃ oid, o.d.m.id = oid := ⟨_, rfl⟩
   obtain ⟨oq, hoq⟩ : ∃ oq, o.d.q = oq := ⟨_, rfl⟩
   rw [hoid] at c1
   rw [hoq] at c7
   rw [hoid, hoq] at hP'
   obtain ⟨qn, hqn⟩ : ∃ qn : Nat, oq.toNat = qn := ⟨_, rfl⟩
   have hq99 : oq = 99 ↔ (qn : Int) = 99 := by
    rw [← hqn]
    constructor
    ·intro e; rw [e]; rfl
    ·intro e; exact UInt8.toNat_inj.1 (show oq.toNat = 99 by omega)
   rw [hqn] at c7
   have HP := Lib.hid hP'
   have Hq := Lib.hid hq99
   clear hP' hP ho h3 hR hoid hoq hqn hq99
   by_cases h1 : oid = id
   ·by_cases h2 : (qn : Int) = 99
    ·have Hn : Hid (atL id ((bs.drop (j + 1)).map (·.d)) (j + 1) = r) := Lib.hid (by have := HP.out; rw [if_neg (fun e => e.2 (Hq.out.2 h2))] at this; exact this)
     have h1' : (oid == id) = true := by simpa using h1
     go_wp2
     go_roundw
     case rel => exact ⟨j + 1, by omega, by simp, Lib.hid Hn.out, hbw⟩
     case measure => simp [intOf] <;> omega
    ·have Hn : Hid (r = (j : Int)) := Lib.hid (by have := HP.out; rw [if_pos ⟨h1, fun e => h2 (Hq.out.1 e)⟩] at this; exact this.symm)
     have h1' : (oid == id) = true := by simpa using h1
     have h2' : ((qn : Int) != 99) = true := by simpa using h2
     go_wp2
     go_ret
     obtain rfl := Hn.out
     exact ⟨rfl, hbw⟩
   ·have Hn : Hid (atL id ((bs.drop (j + 1)).map (·.d)) (j + 1) = r) := Lib.hid (by have := HP.out; rw [if_neg (fun e => h1 e.1)] at this; exact this)
    have h1' : (oid == id) = false := by simpa using h1
    go_wp2
    go_roundw
    case rel => exact ⟨j + 1, by omega, by simp, Lib.hid Hn.out, hbw⟩
    case measure => simp [intOf] <;> omega
  ·have hje : j = bs.length := by omega
   subst hje
   have Hn : Hid (r = -1) := Lib.hid (by have := hP.out; rw [List.drop_of_length_le (Nat.le_refl _)] at this; exact this.symm)
   clear hP hR
   go_wp2
   go_ret
   obtain rfl := Hn.out
   exact ⟨rfl, hbw⟩
theorem mFiles_calls (w : World) (h : MdlAt w mb M lv bs σ) (hn : M.list.length ≤ 200) :
 Calls Tryz.prog 126 #[.pointer (some ⟨mb, 0, none⟩)] w fun e w' => e = .returned (.int .i64 (M.files : Int)) ∧ Below w.heap.size w w' := by
 obtain ⟨al, cl, rfl, hl, hc⟩ := h.rdl.form
 have hbe : bs.length = M.list.length := by rw [← h.lst, List.length_map]
 have hbl : bs.length ≤ 1000 := by omega
 obtain ⟨c0, _, c2, _⟩ := h.cells
 have hf : (M.files : Int) = (bs.length : Int) + if 0 < M.bound then 1 else 0 := by unfold ModD.files; rw [hbe]; split <;> simp
 obtain ⟨f, hff⟩ : ∃ f : Int, (M.files : Int) = f := ⟨_, rfl⟩
 rw [hff] at hf ⊢
 have Hf := Lib.hid hf
 clear hf hff hbe h hl hc hn
 by_cases hb : 0 < M.bound
 all_goals
  go_enter Tryz.func126, Tryz.ntmps126
  go_wp2
  go_ret
  have he := Hf.out
  first
   | rw [if_pos hb] at he
   | rw [if_neg (by omega), Int.add_zero] at he
  subst he
  exact ⟨rfl, Below.refl _ _⟩
theorem infoIntM : (Tryz.prog.info? 3).map (fun i => (i.zero, i.size, i.bytes)) = some (some (.int .i64 0), 1, 8) := by kernel_rfl
def idsTo (q : UInt8) (l : List BoxD) : List Int := (l.filter (fun b => b.q == q)).map (·.m.id)
theorem idsTo_len (q : UInt8) (l : List BoxD) : (idsTo q l).length ≤ l.length := by
 unfold idsTo; rw [List.length_map]; exact List.length_filter_le _ _
set_option maxHeartbeats 8000000 in
theorem mQueue_calls (q : UInt8) (w : World) (h : MdlAt w mb M lv bs σ) (hn : M.list.length ≤ 200) :
 Calls Tryz.prog 78 #[.pointer (some ⟨mb, 0, none⟩), .int .u8 q.toNat] w fun e w' => ∃ v, e = .returned v ∧ w'.ownsRow w.heap.size 3 1 v (M.queue q).length ((M.queue q).map iv) ∧ Below w.heap.size w w' := by
 obtain ⟨i0, hi, hz0, hz1, hz2⟩ := info_parts infoIntM
 obtain ⟨al, cl, rfl, hl, hc⟩ := h.rdl.form
 have hbl : bs.length ≤ 1000 := by rw [← List.length_map (f := fun b : BoxV => b.d), h.lst]; omega
 have hst : ∀ wr, Below w.heap.size w wr → wr.cell? ⟨mb, 0, none⟩ = some (.slice al bs.length cl) ∧ RdL 8 boxCells wr (.slice al bs.length cl) bs := fun wr hb => ⟨(h.below hb).cells.1, (h.below hb).rdl⟩
 have hq0 : M.queue q = idsTo q (bs.map (·.d)) := by rw [h.lst]; rfl
 rw [hq0]
 have Hst := Lib.hid hst
 have c0 := (hst w (Below.refl _ _)).1
 have hnil : w.ownsRow w.heap.size 3 1 (.slice none 0 0) (idsTo q ((bs.take 0).map (·.d))).length ((idsTo q ((bs.take 0).map (·.d))).map iv) := World.ownsRow_nil _ _ _ _
 have Hnil := Lib.hid hnil
 obtain ⟨qn, hqn⟩ : ∃ qn : Nat, q.toNat = qn := ⟨_, rfl⟩
 rw [hqn]
 have Hqn := Lib.hid hqn
 clear hst hq0 h hn hl hc hnil hqn
 go_enter Tryz.func78, Tryz.ntmps78
 go_wp2
 go_loopw [5, 6] (fun v i wr => ∃ j : Nat, j ≤ bs.length ∧ i = .int .i64 j ∧ Hid (wr.ownsRow w.heap.size 3 1 v (idsTo q ((bs.take j).map (·.d))).length ((idsTo q ((bs.take j).map (·.d))).map iv)) ∧ Below w.heap.size w wr) (fun v i _ => bs.length - (intOf i).toNat)
 case atStart => exact ⟨0, Nat.zero_le _, rfl, Lib.hid Hnil.out, Below.refl _ _⟩
 case round =>
  obtain ⟨j, hj, rfl, hP, hbw⟩ := hrel
  clear c0
  obtain ⟨c0, hR⟩ := Hst.out wr hbw
  by_cases hlt : j < bs.length
  ·obtain ⟨o, ho⟩ : ∃ o, bs[j]? = some o := ⟨_, List.getElem?_eq_getElem hlt⟩
   obtain ⟨b, off, cap', hsl, hbl', h3⟩ := RdL.at hR ho
   have c1 := h3 0 _ rfl
   rw [Nat.add_zero] at c1
   have c7 := h3 6 _ rfl
   rw [← Nat.add_assoc] at c7
   cases hsl
   have hj0 : (0 : Int) ≤ (j : Int) := by omega
   have hj1 : (j : Int) < (bs.length : Int) := by omega
   have hsucc : idsTo q ((bs.take (j + 1)).map (·.d)) = idsTo q ((bs.take j).map (·.d)) ++ if o.d.q = q then [o.d.m.id] else [] := by
    unfold idsTo
    rw [take_snoc ho, List.map_append, List.filter_append, List.map_append, List.map_cons, List.map_nil, List.filter_cons]
    by_cases e : o.d.q = q
    ·rw [if_pos e, show (o.d.q == q) = true by simpa using e, if_pos rfl]; rfl
    ·rw [if_neg e, show (o.d.q == q) = false by simpa using e, if_neg (by decide)]; rfl
   obtain ⟨oid, hoid⟩ : ∃ oid, o.d.m.id = oid := ⟨_, rfl⟩
   obtain ⟨oq, hoq⟩ : ∃ oq, o.d.q = oq := ⟨_, rfl⟩
   rw [hoid] at c1 hsucc
   rw [hoq] at c7 hsucc
   obtain ⟨on, hon⟩ : ∃ on : Nat, oq.toNat = on := ⟨_, rfl⟩
   have hqq : oq = q ↔ (on : Int) = (qn : Int) := by
    rw [← hon, ← Hqn.out]
    constructor
    ·intro e; rw [e]
    ·intro e; exact UInt8.toNat_inj.1 (by omega)
   rw [hon] at c7
   have hol : (idsTo q ((bs.take j).map (·.d))).length ≤ 1000 := by
    have := idsTo_len q ((bs.take j).map (·.d))
    rw [List.length_map, List.length_take] at this; omega
   generalize idsTo q ((bs.take j).map (·.d)) = os at hP hsucc hol
   obtain ⟨ao, co, hvo⟩ := own_form0 hP.out
   subst hvo
   have Hsucc := Lib.hid (And.intro hsucc hqq)
   clear hsucc ho h3 hR hoid hoq hon hqq
   by_cases h1 : (on : Int) = (qn : Int)
   ·have hncell := news_new wr [.int .i64 oid] 3 (0, 0)
    have hcs1 : ∀ u ∈ [Value.int .i64 oid], u.oneCell' = true := by intro u hu; rw [List.mem_singleton.1 hu]; rfl
    have hbd1 : os.length + 1 ≤ maxLen := by show _ ≤ 9223372036854775807; omega
    have hbd2 : (os.length + 1) * 8 ≤ 140737488355328 := by omega
    have hbd3 : w.heap.size ≤ (wr.alloc (.cells #[.int .i64 oid] 3)).heap.size := by have := hbw.size; simp; omega
    have hownA : (wr.alloc (.cells #[.int .i64 oid] 3)).ownsRow w.heap.size 3 1 (.slice ao os.length co) os.length (os.map iv) := World.ownsRow.alloc hP.out _
    have Hncell := Lib.hid hncell
    have Hcs1 := Lib.hid hcs1
    have HownA := Lib.hid hownA
    have hownBase := own_base hP.out
    have Hob := Lib.hid hownBase
    clear hncell hcs1 hownA hownBase
    go_wp2_with (at_builtin; go_must (refine wpList_append_own _ rfl (.tmp 26) (.tmp 36) 47 rfl w.heap.size 3 i0 _ 1 8 Tryz.underlying47 hi hz0 hz1 hz2 rfl (by decide) _ _ _ rfl HownA.out ⟨wr.heap.size, 0, none⟩ 1 1 [.int .i64 oid] rfl rfl Hncell.out Hcs1.out hbd1 hbd2 hbd3 ?_); rintro v' w3 hown3 hg3 _)
    go_wp2
    have hb3 := (hbw.alloc hbw.size (.cells #[.int .i64 oid] 3)).grown hg3 (by have := hbw.size; simp only [World.size_alloc] at this ⊢; omega) (fun k hk => Hob.out k hk)
    have Hown3 := Lib.hid hown3
    clear hown3 hg3
    go_roundw
    case rel =>
     refine ⟨j + 1, by omega, by simp, Lib.hid ?_, hb3⟩
     rw [Hsucc.out.1, if_pos (Hsucc.out.2.2 h1), List.length_append, List.map_append]
     exact Hown3.out
    case measure => simp [intOf] <;> omega
   ·have h1' : ((on : Int) == (qn : Int)) = false := by simpa using h1
    have Hh1 := Lib.hid h1
    clear h1
    go_wp2
    go_roundw
    case rel =>
     refine ⟨j + 1, by omega, by simp, Lib.hid ?_, hbw⟩
     rw [Hsucc.out.1, if_neg (fun e => Hh1.out (Hsucc.out.2.1 e)), List.append_nil]
     exact hP.out
    case measure => simp [intOf] <;> omega
  ·have hje : j = bs.length := by omega
   subst hje
   have hjl : ¬ ((bs.length : Int) < (bs.length : Int)) := by omega
   have hP' := hP.out
   rw [List.take_of_length_le (Nat.le_refl _)] at hP'
   have HP := Lib.hid hP'
   clear hP hP' hR
   go_wp2
   go_ret
   exact ⟨_, rfl, HP.out, hbw⟩
end
open Go.RowKit
theorem boxB_len {s : List UInt8} (h : boxB s = true) : s.length ≤ 64 := by
 unfold boxB parseBox at h
 cases hs : splitBox s with
 | none => rw [hs] at h; simp at h
 | some p =>
  unfold splitBox at hs
  split at hs
  ·split at hs
   ·next hc => simp only [Bool.and_eq_true, decide_eq_true_eq] at hc; exact hc.2
   ·cases hs
  ·cases hs
theorem small_of_good {m : MailD} (h : m.good = true) : m.small := by
 obtain ⟨_, _, _, _, _, _, h6, h7⟩ := (good_iff m).1 h
 constructor
 ·rcases h6 with h6 | h6
  ·omega
  ·have := boxB_len h6; omega
 ·intro l hl
  have := boxB_len (List.all_eq_true.1 h7 l hl)
  omega
theorem record_max {m : MailD} (h : m.good = true) : m.record.length ≤ 1000012 := by
 obtain ⟨_, _, _, h4, h5, _⟩ := (good_iff m).1 h
 have := inner_small m (small_of_good h) h4.2 h5
 rw [record_length]; omega
def MailD.lens (m : MailD) : Prop := m.frm.length ≤ 4294967270 ∧ ∀ l ∈ m.rcpts, l.length ≤ 4294967270
theorem MailD.small.lens {m : MailD} (h : m.small) : m.lens := ⟨by have := h.1; omega, fun l hl => by have := h.2 l hl; omega⟩
theorem app_row {P : Program} (hP : P = Tryz.prog) {w : World} {ops : Array Oper} {rest : List Oper} {o : Oper} {a : Act} {Q : Exit → Act → World → Prop} (hgd : o.guard = none) (s1 x : Operand)
 (ho : o.op = .call { callee := .builtin .append, args := #[s1, x], argTypes := #[22, 22] })
 {base b2 : Nat} {v u : Value} {bs ys : List UInt8} (hown : w.ownsRow base 5 1 v bs.length (bs.map u8v)) (hr : w.ownsRow b2 5 1 u ys.length (ys.map u8v))
 (hs : a.eval s1 = v) (hx : a.eval x = u) (hlen : bs.length + ys.length ≤ 1000000000000) (hbase : base ≤ w.heap.size)
 (h : ∀ v' w', w'.ownsRow base 5 1 v' (bs ++ ys).length ((bs ++ ys).map u8v) → w.grownBy w' v.ownBlock → wpList P ops Q rest (a.put o.dst v') w') : wpList P ops Q (o :: rest) a w := by
 subst hP
 obtain ⟨i0, hi, hz0, hz1, hz2⟩ := info_parts infoU8
 refine wpList_append_any bb1_len (by decide) hgd s1 x 22 ho base 5 i0 (.int .u8 0) 1 Tryz.underlying22 hi hz0 hz1 hz2 rfl v bs.length _ hs hown u ys hx (rdLB (rdB_ofOwn hr)) (nilOk_own hr) (bb1_one ys) (by show _ ≤ 9223372036854775807; omega) (by omega) hbase ?_
 intro v' w' h1 h2 _
 rw [bb1_flat, ← List.map_append, ← List.length_append] at h1
 exact h v' w' h1 h2
def CellsM (W : World) (M : Nat) (x y z : Value) (w : World) : Prop := w.cell? ⟨M, 0, none⟩ = some x ∧ w.cell? ⟨M, 1, none⟩ = some y ∧ w.cell? ⟨M, 2, none⟩ = some z ∧ Below W.heap.size W w
theorem keepM {W w1 w2 : World} {M : Nat} {x y z : Value} (h : CellsM W M x y z w1) (hb : Below w1.heap.size w1 w2) : CellsM W M x y z w2 := by
 have hl : M < w1.heap.size := World.block_lt_of_cell? w1 ⟨M, 0, none⟩ h.1
 obtain ⟨h1, h2, h3, h4⟩ := h
 have hc := (below_cell hb).1
 exact ⟨by rw [hc _ _ hl]; exact h1, by rw [hc _ _ hl]; exact h2, by rw [hc _ _ hl]; exact h3, h4.trans (hb.mono h4.size)⟩
theorem keepMg {W w1 w2 : World} {M : Nat} {x y z : Value} {row : Option Nat} (hM : M < W.heap.size) (h : CellsM W M x y z w1) (hg : w1.grownBy w2 row) (hr : ∀ k, row = some k → W.heap.size ≤ k) : CellsM W M x y z w2 := by
 have hne : some M ≠ row := fun e => by have := hr _ e.symm; omega
 exact ⟨hg.cell h.1 hne, hg.cell h.2.1 hne, hg.cell h.2.2.1 hne, h.2.2.2.grown hg h.2.2.2.size (fun k hk => hr k hk)⟩
theorem CellsM.lt {W w : World} {M : Nat} {x y z : Value} (h : CellsM W M x y z w) : W.heap.size ≤ w.heap.size := h.2.2.2.size
set_option maxRecDepth 100000 in
set_option maxHeartbeats 16000000 in
theorem record_calls (m : MailD) (vr vb : Value) (w : World) (hr : RdS w vr m.rcpts) (hb : RdB w vb m.body) (hnb : NilOk vb) (hsm : m.small) (hg : m.good = true) :
 Calls Tryz.prog 80 #[mailVal m vr vb] w (RowDone w m.record) := by
 have hgi := (good_iff m).1 hg
 have hin := inner_small m hsm hgi.2.2.2.1.2 hgi.2.2.2.2.1
 have hrec : m.record = lenB m.inner ++ be4 (PbCrc.sum m.inner) := rfl
 clear hg
 obtain ⟨id, parent, born, frm, rcpts, body⟩ := m
 unfold MailD.small at hsm
 unfold mailVal
 simp only at hgi hr hb hsm ⊢
 obtain ⟨⟨h1a, h1b⟩, ⟨h2a, h2b⟩, ⟨h3a, h3b⟩, ⟨h4a, h4b⟩, h5, -⟩ := hgi
 obtain ⟨n0, rfl⟩ := Int.eq_ofNat_of_zero_le (show 0 ≤ id by omega)
 obtain ⟨n1, rfl⟩ := Int.eq_ofNat_of_zero_le h2a
 obtain ⟨n2, rfl⟩ := Int.eq_ofNat_of_zero_le h3a
 obtain ⟨bs, hbs⟩ : ∃ bs, bs = (MailD.mk (n0 : Int) n1 n2 frm rcpts body).inner := ⟨_, rfl⟩
 rw [← hbs] at hin hrec
 rw [hrec]
 have hbs' : bs = ((((num8 n0 ++ num8 n1 ++ num8 n2) ++ lenB frm) ++ num8 rcpts.length) ++ rcpts.flatMap lenB) ++ lenB body := hbs
 clear hbs hrec
 have hlen := fun (j : Nat) => flat_lenB_le (rcpts.take j) 100000 (fun l h => hsm.2 l (List.mem_of_mem_take h))
 obtain ⟨hs1, hs2⟩ := hsm
 obtain ⟨ar, capr, rfl, hlr, hcr⟩ := hr.form
 obtain ⟨ab, capb, rfl, hlb, hcb⟩ := hb.form
 obtain ⟨W, hW⟩ : ∃ W, w.alloc (.cells #[.int .i64 n0, .int .i64 n1, .int .i64 n2, .string (strL frm), .slice ar rcpts.length capr, .slice ab body.length capb] 29) = W := ⟨_, rfl⟩
 have hbW : Below w.heap.size w W := by rw [← hW]; exact (Below.refl _ _).alloc (Nat.le_refl _) _
 have hblkM : W.heap[w.heap.size]? = some (.cells #[.int .i64 n0, .int .i64 n1, .int .i64 n2, .string (strL frm), .slice ar rcpts.length capr, .slice ab body.length capb] 29 (0, 0)) := by rw [← hW]; exact heap_alloc_new w _
 have hsW : W.heap.size = w.heap.size + 1 := by rw [← hW]; simp
 have hcM : ∀ wr, Below W.heap.size W wr → ∀ (j : Nat) v, (#[Value.int .i64 n0, .int .i64 n1, .int .i64 n2, .string (strL frm), .slice ar rcpts.length capr, .slice ab body.length capb] : Array Value)[j]? = some v → wr.cell? ⟨w.heap.size, j, none⟩ = some v := by
  intro wr hB j v hv; rw [cell_of_row _ _ _ _ _ _ ((hB.block _ (by omega)).trans hblkM)]; exact hv
 have hrW := hr.below (Nat.le_refl _) hbW
 have hbdW := hb.below (Nat.le_refl _) hbW
 have Hbs := Lib.hid hbs'
 have Hr := Lib.hid hrW
 have Hb := Lib.hid hbdW
 have HcM := Lib.hid hcM
 have Hnb := Lib.hid hnb
 have Hlen := Lib.hid hlen
 have Hs2 := Lib.hid hs2
 have hc3 := fun W' h => hcM W' h 3 _ rfl
 clear hbs' hr hb hrW hbdW hblkM hnb hlen hs2 hcM hc3
 have hcW := (HcM.out W (Below.refl _ _))
 have hs0 : Hid (CellsM W w.heap.size (.int .i64 (n0 : Int)) (.int .i64 (n1 : Int)) (.int .i64 (n2 : Int)) W.drew) := ⟨hcW 0 _ rfl, hcW 1 _ rfl, hcW 2 _ rfl, (Below.refl _ _).drew⟩
 have hMW : w.heap.size < W.heap.size := by omega
 clear hcW
 have HW := Lib.hid hW.symm
 have hl := num8_length
 go_enter Tryz.func80, Tryz.ntmps80
 go_wp2
 go_region_held3 (fun w' => w'.cell? ⟨w.heap.size, 0, none⟩ = some (.int .i64 (n0 : Int)) ∧ w'.cell? ⟨w.heap.size, 1, none⟩ = some (.int .i64 (n1 : Int)) ∧ w'.cell? ⟨w.heap.size, 2, none⟩ = some (.int .i64 (n2 : Int)) ∧ Below W.heap.size W w') (first | exact hs0.out | exact keepM (by assumption) (by assumption) | exact keepMg hMW (by assumption) (by assumption) (by intro k hk; cases hk; omega))
  (first
   | (go_at_call 123; refine (refNum8 _ (by omega) _).mono ?_; rintro e w2 ⟨g, cap, rfl, hown, hb, hg⟩; have hBg := Nat.le_trans (CellsM.lt (M := w.heap.size) (x := .int .i64 (n0 : Int)) (y := .int .i64 (n1 : Int)) (z := .int .i64 (n2 : Int)) (W := W) (by assumption)) hg)
   | (refine step_app_own rfl (.tmp 7) (.tmp 10) rfl (by rfl) (by rfl) (by first | assumption | exact own_below (by assumption) (by assumption) (Nat.le_refl _)) (by assumption) (by decide) (by decide) ?_; rintro g cap w4 hown4 hg4 hat4 hlt4; have hBc := CellsM.lt (W := W) (M := w.heap.size) (x := .int .i64 (n0 : Int)) (y := .int .i64 (n1 : Int)) (z := .int .i64 (n2 : Int)) (by assumption); have hBg4 : W.heap.size ≤ g := by omega)
   | (refine step_app_own rfl (.tmp 11) (.tmp 14) rfl (by rfl) (by rfl) (by first | assumption | exact own_below (by assumption) (by assumption) (Nat.le_refl _)) (by assumption) (by decide) (by decide) ?_; rintro g cap w4 hown4 hg4 hat4 hlt4; have hBc := CellsM.lt (W := W) (M := w.heap.size) (x := .int .i64 (n0 : Int)) (y := .int .i64 (n1 : Int)) (z := .int .i64 (n2 : Int)) (by assumption); have hBg4 : W.heap.size ≤ g := by omega))
 have hbel : Below W.heap.size W w4 := ((by assumption : CellsM W w.heap.size (.int .i64 (n0 : Int)) (.int .i64 (n1 : Int)) (.int .i64 (n2 : Int)) w4)).2.2.2
 have hl24 : (num8 n0 ++ num8 n1 ++ num8 n2).length = 24 := by simp [num8_length]
 have hown5 : w4.ownsRow W.heap.size 5 1 (.slice (some ⟨g, 0, none⟩) 24 cap) (num8 n0 ++ num8 n1 ++ num8 n2).length ((num8 n0 ++ num8 n1 ++ num8 n2).map u8v) := by rw [hl24]; exact own_mono hown4 (by simp)
 generalize Value.slice (some ⟨g, 0, none⟩) 24 cap = v3 at hown5 ⊢
 generalize num8 n0 ++ num8 n1 ++ num8 n2 = p3 at hown5 Hbs hl24
 clear hown4 hg4 hat4 hlt4 hBc hBg4 hBg hg hb hown
 have c3 := HcM.out w4 hbel 3 _ rfl
 obtain ⟨C, W5, hrun, hrd, hb5⟩ := conv_text frm (by omega) w4
 have hcall := refBytes_calls _ frm W5 hrd (fun l c e => by cases e) (by omega)
 generalize strL frm = sf at c3 hrun
 have Hcall := Lib.hid hcall
 have hbel5 := hbel.trans (hb5.mono hbel.size)
 clear hcall hrd hW HW
 go_wp2_with fail
 refine (Hcall.out).mono ?_; rintro e w6 ⟨v6, rfl, hown6, hb6⟩
 have hbel6 := hbel5.trans (hb6.mono hbel5.size)
 have hownA := own_below (own_below hown5 hb5 (Nat.le_refl _)) hb6 (Nat.le_refl _)
 have hlL := lenB_length frm
 go_upto_region 3 with (at_builtin; go_must (refine app_row rfl rfl (.tmp 16) (.tmp 20) rfl hownA hown6 rfl rfl (by omega) hbel6.size ?_); rintro v7 w7 hown7 hg7)
 have hbel7 : Below W.heap.size W w7 := hbel6.grown hg7 hbel6.size (fun k hk => own_base hownA k hk)
 generalize hp4 : p3 ++ lenB frm = p4 at hown7
 have hl4 : p4.length ≤ 24 + 8 + 100000 := by rw [← hp4, List.length_append]; omega
 have Hp4 := Lib.hid hp4
 have c4 := HcM.out w7 hbel7 4 _ rfl
 have hcall2 := refNum_calls rcpts.length (by omega) w7
 have Hcall2 := Lib.hid hcall2
 clear hp4 hownA hown6 hb6 hg7 hcall2 hown5 hbel6 hbel5 hb5
 go_wp2_with fail
 refine (Hcall2.out).mono ?_; rintro e w8 ⟨v8, rfl, hown8, hb8⟩
 have hbel8 := hbel7.trans (hb8.mono hbel7.size)
 have hownA := own_below hown7 hb8 (Nat.le_refl _)
 have hl8 := num8_length rcpts.length
 go_upto_region 4 with (at_builtin; go_must (refine app_row rfl rfl (.tmp 22) (.tmp 26) rfl hownA hown8 rfl rfl (by omega) hbel8.size ?_); rintro v9 w9 hown9 hg9)
 have hbel9 : Below W.heap.size W w9 := hbel8.grown hg9 hbel8.size (fun k hk => own_base hownA k hk)
 generalize hp5 : p4 ++ num8 rcpts.length = p5 at hown9
 have hl5 : p5.length ≤ 24 + 8 + 100000 + 8 := by rw [← hp5, List.length_append]; omega
 have Hp5 := Lib.hid hp5
 have Hown9 := Lib.hid hown9
 clear hp5 hownA hown8 hb8 hg9 hbel8 hown9 hbel7 hown7 c4 c3
 go_wp2
 go_loopw [3, 4] (fun v i wr => ∃ j : Nat, j ≤ rcpts.length ∧ i = .int .i64 j ∧ wr.ownsRow W.heap.size 5 1 v (p5 ++ (rcpts.take j).flatMap lenB).length ((p5 ++ (rcpts.take j).flatMap lenB).map u8v) ∧ Below W.heap.size W wr) (fun _ i _ => rcpts.length - (intOf i).toNat)
 case atStart => exact ⟨0, Nat.zero_le _, rfl, by simpa using Hown9.out, hbel9⟩
 case round =>
  obtain ⟨j, hj, rfl, hown, hbw⟩ := hrel
  by_cases hlt : j < rcpts.length
  ·obtain ⟨x, hx⟩ : ∃ x, rcpts[j]? = some x := ⟨_, List.getElem?_eq_getElem hlt⟩
   obtain ⟨b1, o1, k1, e1, _, q1⟩ := RdS.at (Hr.out.below (Nat.le_refl _) hbw) hx
   cases e1
   have c4 := HcM.out _ hbw 4 _ rfl
   have hxl := Hs2.out x (List.mem_of_getElem? hx)
   have hlj := Hlen.out j
   have hlj2 : (rcpts.take j).length * (8 + 100000) ≤ 8 * (8 + 100000) := Nat.mul_le_mul_right _ (by rw [List.length_take]; omega)
   have hnx : p5 ++ (rcpts.take (j + 1)).flatMap lenB = (p5 ++ (rcpts.take j).flatMap lenB) ++ lenB x := by rw [take_snoc hx, List.flatMap_append, List.append_assoc]; simp
   have hql : (p5 ++ (rcpts.take j).flatMap lenB).length ≤ 1000000 := by rw [List.length_append]; omega
   generalize p5 ++ (rcpts.take j).flatMap lenB = q at hown hnx hql
   have Hnx := Lib.hid hnx
   obtain ⟨C, W2, hrun, hrd, hb2⟩ := conv_text x (by omega) ‹World›
   have hcall := refBytes_calls _ x W2 hrd (fun l c e => by cases e) (by omega)
   generalize strL x = sx at q1 hrun
   have Hcall := Lib.hid hcall
   have hj0 : (0 : Int) ≤ (j : Int) := by omega
   have hj1 : (j : Int) < (rcpts.length : Int) := by omega
   have hbel2 := hbw.trans (hb2.mono hbw.size)
   have hownA := own_below hown hb2 (Nat.le_refl _)
   clear hcall hrd hnx hx hlj hlj2
   go_wp2_with fail
   refine (Hcall.out).mono ?_; rintro e w4 ⟨v4, rfl, hown4, hb4⟩
   have hbel4 := hbel2.trans (hb4.mono hbel2.size)
   have hownB := own_below hownA hb4 (Nat.le_refl _)
   have hlL := lenB_length x
   go_wp2_with (at_builtin; go_must (refine app_row rfl rfl (.tmp 35) (.tmp 42) rfl hownB hown4 rfl rfl (by omega) hbel4.size ?_); rintro v5 w5 hown5 hg5)
   have hbel5 : Below W.heap.size W w5 := hbel4.grown hg5 hbel4.size (fun k hk => own_base hownB k hk)
   rw [← Hnx.out] at hown5
   have Hown5 := Lib.hid hown5
   clear hown5
   go_roundw
   case rel => exact ⟨j + 1, by omega, by simp, Hown5.out, hbel5⟩
   case measure => simp [intOf] <;> omega
  ·have hje : j = rcpts.length := by omega
   have hlj := Hlen.out j
   have hlj2 : (rcpts.take j).length * (8 + 100000) ≤ 8 * (8 + 100000) := Nat.mul_le_mul_right _ (by rw [List.length_take]; omega)
   subst hje
   rw [List.take_of_length_le (Nat.le_refl _)] at hown hlj hlj2
   generalize hp6 : p5 ++ rcpts.flatMap lenB = p6 at hown
   have hl6 : p6.length ≤ 1000000 := by rw [← hp6, List.length_append]; omega
   have Hp6 := Lib.hid hp6
   clear hp6 hlj hlj2
   have c4 := HcM.out _ hbw 4 _ rfl
   have c5 := HcM.out _ hbw 5 _ rfl
   have hcall := refBytes_calls _ body _ (Hb.out.below (Nat.le_refl _) hbw) Hnb.out (by omega)
   have Hcall := Lib.hid hcall
   clear hcall
   go_wp2_with fail
   refine (Hcall.out).mono ?_; rintro e wA ⟨vA, rfl, hownA, hbA⟩
   have hbelA := hbw.trans (hbA.mono hbw.size)
   have hownB := own_below hown hbA (Nat.le_refl _)
   have hlL := lenB_length body
   go_upto_region 9 with (at_builtin; go_must (refine app_row rfl rfl (.tmp 44) (.tmp 47) rfl hownB hownA rfl rfl (by omega) hbelA.size ?_); rintro vB wB hownC hgB)
   have hbelB : Below W.heap.size W wB := hbelA.grown hgB hbelA.size (fun k hk => own_base hownB k hk)
   have hin' : p6 ++ lenB body = bs := by rw [Hbs.out, ← Hp6.out, ← Hp5.out, ← Hp4.out]
   rw [hin'] at hownC
   have hrb := rdB_ofOwn hownC
   have hcallC := refBytes_calls _ bs _ hrb (nilOk_own hownC) (by omega)
   have HcallC := Lib.hid hcallC
   have Hrb := Lib.hid hrb
   clear hcallC hrb hownB hownA hgB hin'
   go_wp2_with fail
   refine (HcallC.out).mono ?_; rintro e wC ⟨vC, rfl, hownD, hbC⟩
   have hcallD := refSum_calls _ bs wC (Hrb.out.below (Nat.le_refl _) hbC)
   have HcallD := Lib.hid hcallD
   have hbelC := hbelB.trans (hbC.mono hbelB.size)
   clear hcallD
   go_wp2_with fail
   refine (HcallD.out).mono ?_; rintro e wD ⟨vD, rfl, hownE, hbD⟩
   have hbelD := hbelC.trans (hbD.mono hbelC.size)
   have hownF := own_mono (own_below hownD hbD (Nat.le_refl _)) hbelB.size
   have hlB := lenB_length bs
   have hl4' : (be4 (PbCrc.sum bs)).length = 4 := rfl
   go_wp2_with (at_builtin; go_must (refine app_row rfl rfl (.tmp 50) (.tmp 52) rfl hownF hownE rfl rfl (by omega) hbelD.size ?_); rintro vG wG hownG hgG)
   go_ret
   have hbelG : Below W.heap.size W wG := hbelD.grown hgG hbelD.size (fun k hk => own_base hownF k hk)
   exact ⟨vG, rfl, own_mono hownG (by omega), hbW.trans (hbelG.mono hbW.size)⟩
end Go.Proofs.YtffnbkmigapmjaaGreatDoor
