/- Printed out of the texts of wip/tpl. -/
import Derived.Test.YtffnbkmigapmjaaGreatDoorT1
import Derived.Test.YtffnbkmigapmjaaGreatDoorT4
import Derived.Test.YtffnbkmigapmjaaGreatDoorT6
import Derived.Test.YtffnbkmigapmjaaGreatDoorT9
import Derived.OpenShut
import Derived.Deep.Slices
import Derived.ChangeOld
import Derived.SliceStrings
import Derived.Lay
import Derived.MakeChecks
import Derived.Stop.Joined
import Derived.Shelf.Vars
import Derived.Test.YtffnbkmigapmjaaGreatDoorRows
import Derived.Deep.RegionHeld3
set_option linter.unusedSimpArgs false
set_option linter.unusedVariables false
namespace Go.Proofs.YtffnbkmigapmjaaGreatDoor
open Go.RowKit
theorem mail_eq (x0 x1 x2 : Int) (x3 : List UInt8) (x4 : List (List UInt8)) (x5 : List UInt8) (y0 y1 y2 : Int) (y3 : List UInt8) (y4 : List (List UInt8)) (y5 : List UInt8) :
 MailD.mk x0 x1 x2 x3 x4 x5 = MailD.mk y0 y1 y2 y3 y4 y5 ↔ x0 = y0 ∧ x1 = y1 ∧ x2 = y2 ∧ x3 = y3 ∧ x4 = y4 ∧ x5 = y5 := by rw [MailD.mk.injEq]
instance : DecidableEq MailD := fun ⟨_, _, _, _, _, _⟩ ⟨_, _, _, _, _, _⟩ => decidable_of_iff _ (mail_eq ..).symm
theorem decide_eq_iff_iff {q : Prop} [Decidable q] {p : Bool} (h : decide q = p) : (p = true) ↔ q := by rw [← h]; exact decide_eq_true_iff
set_option maxRecDepth 100000 in
set_option maxHeartbeats 4000000 in
theorem refSame_calls (a b : MailD) (ra ba rb bb : Value) (w : World) (h1 : RdS w ra a.rcpts) (h2 : RdB w ba a.body) (h3 : RdS w rb b.rcpts) (h4 : RdB w bb b.body) :
 Calls Tryz.prog 79 #[mailVal a ra ba, mailVal b rb bb] w fun e w' => e = .returned (.bool (decide (a = b))) ∧ Below w.heap.size w w' := by
 obtain ⟨x0, x1, x2, x3, x4, x5⟩ := a
 obtain ⟨y0, y1, y2, y3, y4, y5⟩ := b
 simp only at h1 h2 h3 h4
 unfold mailVal
 simp only
 obtain ⟨p, hp⟩ : ∃ p, decide (MailD.mk x0 x1 x2 x3 x4 x5 = MailD.mk y0 y1 y2 y3 y4 y5) = p := ⟨_, rfl⟩
 rw [hp]
 have hpi := (decide_eq_iff_iff hp).trans (mail_eq ..)
 obtain ⟨W1, hW1⟩ : ∃ W1, w.alloc (.cells #[.int .i64 x0, .int .i64 x1, .int .i64 x2, .string (strL x3), ra, ba] 29) = W1 := ⟨_, rfl⟩
 obtain ⟨W, hW⟩ : ∃ W, W1.alloc (.cells #[.int .i64 y0, .int .i64 y1, .int .i64 y2, .string (strL y3), rb, bb] 29) = W := ⟨_, rfl⟩
 have hbW1 : Below w.heap.size w W1 := by rw [← hW1]; exact (Below.refl _ _).alloc (Nat.le_refl _) _
 have hbW : Below w.heap.size w W := by rw [← hW]; exact hbW1.alloc hbW1.size _
 have hs1 : W1.heap.size = w.heap.size + 1 := by rw [← hW1]; simp
 have hblk1 : W.heap[w.heap.size]? = some (.cells #[.int .i64 x0, .int .i64 x1, .int .i64 x2, .string (strL x3), ra, ba] 29 (0, 0)) := by rw [← hW, ← hW1]; exact heap_alloc2_old _ _ _
 have hblk2 : W.heap[w.heap.size + 1]? = some (.cells #[.int .i64 y0, .int .i64 y1, .int .i64 y2, .string (strL y3), rb, bb] 29 (0, 0)) := by rw [← hW, ← hW1]; exact heap_alloc2_new _ _ _
 have hc1 : ∀ W', Below W.heap.size W W' → ∀ (j : Nat) v, (#[Value.int .i64 x0, .int .i64 x1, .int .i64 x2, .string (strL x3), ra, ba] : Array Value)[j]? = some v → W'.cell? ⟨w.heap.size, j, none⟩ = some v := by
  intro W' hB j v hv
  rw [cell_of_row _ _ _ _ _ _ ((hB.block _ (Array.getElem?_eq_some_iff.1 hblk1).1).trans hblk1)]
  exact hv
 have hc2 : ∀ W', Below W.heap.size W W' → ∀ (j : Nat) v, (#[Value.int .i64 y0, .int .i64 y1, .int .i64 y2, .string (strL y3), rb, bb] : Array Value)[j]? = some v → W'.cell? ⟨w.heap.size + 1, j, none⟩ = some v := by
  intro W' hB j v hv
  rw [cell_of_row _ _ _ _ _ _ ((hB.block _ (Array.getElem?_eq_some_iff.1 hblk2).1).trans hblk2)]
  exact hv
 have hr1 := h1.below (Nat.le_refl _) hbW
 have hb1 := h2.below (Nat.le_refl _) hbW
 have hr2 := h3.below (Nat.le_refl _) hbW
 have hb2 := h4.below (Nat.le_refl _) hbW
 have htx := refTexts_calls ra rb x4 y4 W hr1 hr2
 have a0 := hc1 W (Below.refl _ _) 0 _ rfl
 have b0 := hc2 W (Below.refl _ _) 0 _ rfl
 have a1 := hc1 W (Below.refl _ _) 1 _ rfl
 have b1 := hc2 W (Below.refl _ _) 1 _ rfl
 have a2 := hc1 W (Below.refl _ _) 2 _ rfl
 have b2 := hc2 W (Below.refl _ _) 2 _ rfl
 have a3 := hc1 W (Below.refl _ _) 3 _ rfl
 have b3 := hc2 W (Below.refl _ _) 3 _ rfl
 have a4 := hc1 W (Below.refl _ _) 4 _ rfl
 have b4 := hc2 W (Below.refl _ _) 4 _ rfl
 have Hpi := Lib.hid hpi
 have Hc1 := Lib.hid hc1
 have Hc2 := Lib.hid hc2
 have Hr1 := Lib.hid hr1
 have Hb1 := Lib.hid hb1
 have Hb2 := Lib.hid hb2
 have Htx := Lib.hid htx
 clear hpi hc1 hc2 hr1 hb1 hr2 hb2 htx h1 h2 h3 h4 hblk1 hblk2 hp hs1 hbW1
 subst hW
 subst hW1
 by_cases e0 : x0 = y0
 case neg =>
  have q : (x0 == y0) = false := by rw [beq_eq_false_iff_ne]; exact e0
  have hpf : p = false := by cases p; rfl; exact absurd (Hpi.out.1 rfl).1 e0
  subst hpf
  clear e0
  go_enter Tryz.func79, Tryz.ntmps79
  go_wp2
  go_ret
  exact ⟨rfl, hbW⟩
 subst e0
 by_cases e1 : x1 = y1
 case neg =>
  have q : (x1 == y1) = false := by rw [beq_eq_false_iff_ne]; exact e1
  have hpf : p = false := by cases p; rfl; exact absurd (Hpi.out.1 rfl).2.1 e1
  subst hpf
  clear e1
  go_enter Tryz.func79, Tryz.ntmps79
  go_wp2
  go_ret
  exact ⟨rfl, hbW⟩
 subst e1
 by_cases e2 : x2 = y2
 case neg =>
  have q : (x2 == y2) = false := by rw [beq_eq_false_iff_ne]; exact e2
  have hpf : p = false := by cases p; rfl; exact absurd (Hpi.out.1 rfl).2.2.1 e2
  subst hpf
  clear e2
  go_enter Tryz.func79, Tryz.ntmps79
  go_wp2
  go_ret
  exact ⟨rfl, hbW⟩
 subst e2
 by_cases e3 : x3 = y3
 case neg =>
  have q : ((strL x3).toList == (strL y3).toList) = false := (Lib.bytes_beq_false_iff _ _).2 (fun e => e3 (strL_inj e))
  have hpf : p = false := by cases p; rfl; exact absurd (Hpi.out.1 rfl).2.2.2.1 e3
  subst hpf
  clear e3
  generalize strL x3 = s3 at *
  generalize strL y3 = t3 at *
  go_enter Tryz.func79, Tryz.ntmps79
  go_wp2
  go_ret
  exact ⟨rfl, hbW⟩
 subst e3
 by_cases e4 : x4 = y4
 case neg =>
  have hpf : p = false := by cases p; rfl; exact absurd (Hpi.out.1 rfl).2.2.2.2.1 e4
  subst hpf
  rw [decide_eq_false e4] at Htx
  clear e4
  generalize strL x3 = s3 at *
  go_enter Tryz.func79, Tryz.ntmps79
  go_wp2_with fail
  refine (Htx.out).mono ?_; rintro e w2 ⟨rfl, hb2⟩
  have hbw2 := hbW.trans (hb2.mono hbW.size)
  go_wp2
  go_ret
  exact ⟨rfl, hbw2⟩
 rw [decide_eq_true e4] at Htx
 have hpx : p = decide (x5 = y5) := by
  rw [Bool.eq_iff_iff, Hpi.out, decide_eq_true_iff]
  exact ⟨fun h => h.2.2.2.2.2, fun h => ⟨rfl, rfl, rfl, rfl, e4, h⟩⟩
 clear Hpi
 subst hpx
 clear e4
 generalize strL x3 = s3 at *
 by_cases e5 : x5 = y5
 ·subst e5
  rw [decide_eq_true rfl]
  go_enter Tryz.func79, Tryz.ntmps79
  go_wp2_with fail
  refine (Htx.out).mono ?_; rintro e w2 ⟨rfl, hb2⟩
  have hbw2 := hbW.trans (hb2.mono hbW.size)
  have a5 := Hc1.out w2 hb2 5 _ rfl
  have b5 := Hc2.out w2 hb2 5 _ rfl
  have c1 := run_strL (Hb1.out.below (Nat.le_refl _) hb2)
  have c2 := run_strL (Hb2.out.below (Nat.le_refl _) hb2)
  generalize strL x5 = s5 at c1 c2
  go_wp2
  go_ret
  exact ⟨rfl, hbw2⟩
 ·have q : ((strL x5).toList == (strL y5).toList) = false := (Lib.bytes_beq_false_iff _ _).2 (fun e => e5 (strL_inj e))
  rw [decide_eq_false e5]
  clear e5
  go_enter Tryz.func79, Tryz.ntmps79
  go_wp2_with fail
  refine (Htx.out).mono ?_; rintro e w2 ⟨rfl, hb2⟩
  have hbw2 := hbW.trans (hb2.mono hbW.size)
  have a5 := Hc1.out w2 hb2 5 _ rfl
  have b5 := Hc2.out w2 hb2 5 _ rfl
  have c1 := run_strL (Hb1.out.below (Nat.le_refl _) hb2)
  have c2 := run_strL (Hb2.out.below (Nat.le_refl _) hb2)
  generalize strL x5 = s5 at q c1
  generalize strL y5 = t5 at q c2
  go_wp2
  go_ret
  exact ⟨rfl, hbw2⟩
set_option maxRecDepth 100000
open Go.ChangeShapes Go.WideShapes Go.Deep Go.RowKit
theorem maxOk_of {W : World} (h : W.ShapedOpen Tryz.prog) : MaxOk W :=
 Go.Proofs.cell_of_shapedOpen_int (zero := #[.int .i64 0]) (t := 3) h (of_decide_eq_true (by kernel_rfl)) (by kernel_rfl) rfl (by kernel_rfl) (by kernel_rfl) Tryz.underlying3
section
variable {H : Type} {enc : TypeId × Value → H} {W : World} {base : Nat} {held : Bool} {n : Nat} {c : Value} {y : DataW H × List MemPlace}
theorem rdB_trod (h : DataW.trod enc Tryz.prog W base (fun _ => true) held n 22 [c] = some y) : ∃ bs, RdB W c bs ∧ NilOk c := by
 rcases open_ints Tryz.underlying22 Tryz.underlying5 (by kernel_rfl) h with ⟨hcs, _⟩ | ⟨x, l, cp, zs, hcs, _, hl, hm, hz, _, hcell, hwz⟩
 ·cases hcs
  exact ⟨[], .inl ⟨_, _, rfl, by decide, rfl⟩, fun l c e => by cases e; exact ⟨rfl, rfl⟩⟩
 ·cases hcs
  obtain ⟨bs, hb, _⟩ := rdB_of (w := W) (a := some x) (len := l) (cap := cp) (.inr ⟨_, rfl, hl, hm, by simpa using hz, hcell, hwz⟩)
  exact ⟨bs, hb, fun l c e => by cases e⟩
end
theorem fieldsMail : ∃ f0 f1 f2 f3 f4 f5 : Field, Tryz.prog.underlying 29 = some (.struct #[f0, f1, f2, f3, f4, f5]) ∧ (f0.type = 3 ∧ f0.offset = 0) ∧ (f1.type = 3 ∧ f1.offset = 1) ∧ (f2.type = 3 ∧ f2.offset = 2) ∧ (f3.type = 9 ∧ f3.offset = 3) ∧ (f4.type = 27 ∧ f4.offset = 4) ∧ (f5.type = 22 ∧ f5.offset = 5) :=
 ⟨_, _, _, _, _, _, Tryz.underlying29, ⟨rfl, rfl⟩, ⟨rfl, rfl⟩, ⟨rfl, rfl⟩, ⟨rfl, rfl⟩, ⟨rfl, rfl⟩, rfl, rfl⟩
section
variable {H : Type} {enc : TypeId × Value → H}
theorem witness_laid {C : Checked} {os : Os} {f : FuncId} {fn : Func} {s : OpenSpec} {conds : List PathCond} {apart : Bool} {laid : List (String × DataW Unit)} (w0 : World) (args : Array Value) (hos : w0.os = os)
 (hsh : (w0.forCall (fun _ _ => 0) ⟨#[], args, []⟩).Shaped C.prog)
 (hok : Input.okWideB C.prog (w0.forCall (fun _ _ => 0) ⟨#[], args, []⟩) f ⟨#[], args, []⟩ = true)
 (hrow : s.preRow enc C.prog fn conds apart laid (w0.forCall (fun _ _ => 0) ⟨#[], args, []⟩).memory args) :
 ∃ (w : World) (tape : Tape) (i : Input), w.os = os ∧ (w.forCall tape i).Shaped C.prog ∧ i.vars = [] ∧ Input.okWide C.prog (w.forCall tape i) .any w.heap.size f i ∧
  s.preRow enc C.prog fn conds apart laid (w.forCall tape i).memory i.args ∧ ({} : Assume).holds C.prog (lone (Frame.enter C.prog f i.args .normal) [] (w.forCall tape i)) :=
 ⟨w0, fun _ _ => 0, ⟨#[], args, []⟩, hos, hsh, (Input.okWide_of_okWideB (base := 0) hok).1, (Input.okWide_of_okWideB hok).2, hrow, by
  simp only [Assume.holds]
  exact ⟨by simp, by simp, (fun h => by cases h), by simp, by simp⟩⟩
end
theorem addr_plain {w : World} {x : Addr} {n : Nat} {v : Value} (h : w.cell? (x.add 0) = some v) : ∃ b off, x = ⟨b, off, none⟩ := by
 obtain ⟨b, off, s⟩ := x
 rw [Addr.add, if_pos rfl] at h
 cases s with
 | none => exact ⟨b, off, rfl⟩
 | some s => unfold World.cell? at h; split at h <;> simp at h
theorem add_plain (b off i : Nat) : Addr.add ⟨b, off, none⟩ i = ⟨b, off + i, none⟩ := by
 unfold Addr.add
 split
 ·next h => subst h; rfl
 ·rfl
section
variable {H : Type} {enc : TypeId × Value → H} {W : World} {r : Reach} {b0 base : Nat} {spare : Nat → Bool} {held : Bool} {v : Value} {d : DataW H} {p : List MemPlace}
theorem fieldsMark : ∃ f0 f1 f2 : Field, Tryz.prog.underlying 53 = some (.struct #[f0, f1, f2]) ∧ (f0.type = 3 ∧ f0.offset = 0) ∧ (f1.type = 3 ∧ f1.offset = 1) ∧ (f2.type = 3 ∧ f2.offset = 2) :=
 ⟨_, _, _, Tryz.underlying53, ⟨rfl, rfl⟩, ⟨rfl, rfl⟩, rfl, rfl⟩
theorem mark_cells {n : Nat} {cs : List Value} {x : DataW H × List MemPlace} (h : DataW.trod enc Tryz.prog W base spare held n 53 cs = some x) :
 ∃ k : MarkD, cs = k.cells := by
 obtain ⟨f0, f1, f2, hu, ⟨t0, o0⟩, ⟨t1, o1⟩, t2, o2⟩ := fieldsMark
 obtain ⟨xs, m, _, _, hl, hxl, hat⟩ := DataW.trod_struct hu h
 have hc : Tryz.prog.cellsOf 53 = 3 := by kernel_rfl
 have hi : Tryz.prog.cellsOf 3 = 1 := by kernel_rfl
 rw [hc] at hl
 match cs, hl with
 | [c0, c1, c2], _ =>
  match xs, hxl with
  | [y0, y1, y2], _ =>
   have g0 := hat 0 f0 rfl
   have g1 := hat 1 f1 rfl
   have g2 := hat 2 f2 rfl
   rw [t0, o0, hi] at g0
   rw [t1, o1, hi] at g1
   rw [t2, o2, hi] at g2
   obtain ⟨n0, e0, _⟩ := DataW.trod_int (P := Tryz.prog) Tryz.underlying3 g0
   obtain ⟨n1, e1, _⟩ := DataW.trod_int (P := Tryz.prog) Tryz.underlying3 g1
   obtain ⟨n2, e2, _⟩ := DataW.trod_int (P := Tryz.prog) Tryz.underlying3 g2
   simp only [List.drop_succ_cons, List.drop_zero, List.take_succ_cons, List.take_zero, List.cons.injEq, and_true] at e0 e1 e2
   subst e0 e1 e2
   exact ⟨⟨n0, n1, n2⟩, rfl⟩
end
theorem bulk_in {H : Type} {x : DataW H} : ∀ {l : List (DataW H)}, x ∈ l → Rows.uptoBulk x ≤ Rows.uptoBulkAll l := by
 intro l
 induction l with
 | nil => intro h; cases h
 | cons a r ih =>
  intro h
  rw [Rows.uptoBulkAll]
  rcases List.mem_cons.1 h with rfl | h
  ·omega
  ·have := ih h; omega
theorem bulk_part {H : Type} {x : DataW H} {l : List (DataW H)} (h : x ∈ l) : Rows.uptoBulk x ≤ Rows.uptoBulk (.agg l) := by
 rw [Rows.uptoBulk]; have := bulk_in h; omega
theorem bulk_str {H : Type} (l : List UInt8) : Rows.uptoBulk (H := H) (.lit (.string l)) = l.length + 1 := by
 simp [Rows.uptoBulk]
theorem bulk_all {H : Type} {l : List (DataW H)} {x : DataW H} (h : Rows.uptoSmall H l = true) (hx : x ∈ l) : Rows.uptoBulk x ≤ 1048576 := by
 have h2 : Rows.uptoBulkAll l ≤ 1048576 := by simpa [Rows.uptoSmall] using h
 have := bulk_in hx
 omega
theorem bulk_strs {H : Type} {y : DataW H × List MemPlace} {ss : List ByteArray} {l : Nat} {q' : List (DataW H)} {pl : List MemPlace} (h : y = (.slice (strs (ss.take l)) q', pl)) : ∀ s ∈ (ss.take l).map (fun s => s.data.toList), s.length ≤ Rows.uptoBulk y.1 := by
 subst h
 intro s hs
 obtain ⟨b, hb, rfl⟩ := List.mem_map.1 hs
 have hm : (DataW.lit (.string b.data.toList) : DataW H) ∈ strs (ss.take l) := by unfold strs; exact List.mem_map.2 ⟨b, hb, rfl⟩
 have := bulk_in hm
 rw [bulk_str] at this
 show _ ≤ Rows.uptoBulk (.slice _ _)
 rw [Rows.uptoBulk]
 omega
section
variable {H : Type} {enc : TypeId × Value → H} {W : World} {base : Nat} {held : Bool} {n : Nat} {c : Value} {y : DataW H × List MemPlace}
theorem rdS_trodU (h : DataW.trod enc Tryz.prog W base (fun _ => true) held n 27 [c] = some y) : ∃ ls, RdS W c ls ∧ NilOk c ∧ ∀ l ∈ ls, l.length ≤ Rows.uptoBulk y.1 := by
 rcases open_strings Tryz.underlying27 Tryz.underlying9 (by kernel_rfl) h with ⟨hcs, _⟩ | ⟨x, l, cp, ss, hcs, _, hl, hm, hz, hyy, hcell, hwz⟩
 ·cases hcs
  exact ⟨[], .inl ⟨_, _, rfl, by decide, rfl⟩, (fun l c e => by cases e; exact ⟨rfl, rfl⟩), fun l hl => by cases hl⟩
 ·cases hcs
  rw [if_pos rfl] at hz
  by_cases h0 : l = 0
  ·subst h0
   exact ⟨[], .inl ⟨_, _, rfl, hm, rfl⟩, (fun l c e => by cases e), fun l hl => by cases hl⟩
  ·obtain ⟨b, off, s⟩ := x
   have hs : s = none := by
    cases s with
    | none => rfl
    | some q =>
     have := hcell 0 (by omega)
     rw [Addr.add, if_pos rfl] at this
     unfold World.cell? at this
     split at this <;> simp at this
   subst hs
   refine ⟨(ss.take l).map fun s => s.data.toList, .inr ⟨b, off, cp, ?_, ?_, ?_, hm, ?_, ?_⟩, (fun l c e => by cases e), bulk_strs hyy⟩
   ·rw [List.length_map, List.length_take, Nat.min_eq_left (by omega)]
   ·rw [← List.length_pos_iff, List.length_map, List.length_take]; omega
   ·rw [List.length_map, List.length_take]; omega
   ·have := hcell 0 (by omega)
    rw [add_at] at this
    exact World.block_lt_of_cell? W ⟨b, off + 0, none⟩ this
   ·intro i q hq j u hu
    rw [List.getElem?_map] at hq
    obtain ⟨s, hs, rfl⟩ := Option.map_eq_some_iff.1 hq
    rw [List.getElem?_take] at hs
    split at hs
    ·have hi : i < ss.length := (List.getElem?_eq_some_iff.1 hs).1
     have hc := hcell i hi
     rw [add_at, List.getD_eq_getElem?_getD, hs] at hc
     cases j with
     | zero =>
      rw [s1] at hu
      cases hu
      rw [Nat.mul_one, Nat.add_zero]
      rw [hc]; rfl
     | succ j => rw [s1] at hu; cases hu
    ·cases hs
end
theorem mail_argU {H : Type} {enc : TypeId × Value → H} {W : World} {r : Reach} {b0 base : Nat} {held : Bool} {v : Value} {d : DataW H} {p : List MemPlace}
 (hv : Value.okWide Tryz.prog W r b0 29 v) (h : DataW.Trod enc Tryz.prog W base (fun _ => true) held 29 v d p) :
 ∃ m vr vb, v = mailVal m vr vb ∧ RdS W vr m.rcpts ∧ RdB W vb m.body ∧ NilOk vr ∧ NilOk vb ∧ (∀ l ∈ m.rcpts, l.length ≤ Rows.uptoBulk d) ∧ m.frm.length ≤ Rows.uptoBulk d := by
 obtain ⟨f0, f1, f2, f3, f4, f5, hu, ⟨t0, o0⟩, ⟨t1, o1⟩, ⟨t2, o2⟩, ⟨t3, o3⟩, ⟨t4, o4⟩, t5, o5⟩ := fieldsMail
 obtain ⟨cs, rfl, hsz⟩ := okWide_struct hu hv
 obtain ⟨fuel, hf⟩ := h
 obtain ⟨xs, m, _, hxx, hl, hxl, hat⟩ := DataW.trod_struct hu hf
 have hc : Tryz.prog.cellsOf 29 = 6 := by kernel_rfl
 have hi : Tryz.prog.cellsOf 3 = 1 := by kernel_rfl
 have hs : Tryz.prog.cellsOf 9 = 1 := by kernel_rfl
 have hss : Tryz.prog.cellsOf 27 = 1 := by kernel_rfl
 have hbb : Tryz.prog.cellsOf 22 = 1 := by kernel_rfl
 rw [hc] at hl
 obtain ⟨cs⟩ := cs
 have hl : cs.length = 6 := by simpa [Value.cells] using hl
 match cs, hl with
 | [c0, c1, c2, c3, c4, c5], _ =>
  match xs, hxl with
  | [y0, y1, y2, y3, y4, y5], _ =>
   have g0 := hat 0 f0 rfl
   have g1 := hat 1 f1 rfl
   have g2 := hat 2 f2 rfl
   have g3 := hat 3 f3 rfl
   have g4 := hat 4 f4 rfl
   have g5 := hat 5 f5 rfl
   rw [t0, o0, hi] at g0
   rw [t1, o1, hi] at g1
   rw [t2, o2, hi] at g2
   rw [t3, o3, hs] at g3
   rw [t4, o4, hss] at g4
   rw [t5, o5, hbb] at g5
   obtain ⟨n0, e0, _⟩ := DataW.trod_int (P := Tryz.prog) Tryz.underlying3 g0
   obtain ⟨n1, e1, _⟩ := DataW.trod_int (P := Tryz.prog) Tryz.underlying3 g1
   obtain ⟨n2, e2, _⟩ := DataW.trod_int (P := Tryz.prog) Tryz.underlying3 g2
   obtain ⟨s3, e3, y3', _⟩ := DataW.trod_string (P := Tryz.prog) Tryz.underlying9 g3
   simp only [Value.cells, List.drop_succ_cons, List.drop_zero, List.take_succ_cons, List.take_zero, List.cons.injEq, and_true] at e0 e1 e2 e3 g4 g5
   obtain ⟨ls, hr, hn, hls⟩ := rdS_trodU g4
   obtain ⟨bs, hb, hn2⟩ := rdB_trod g5
   subst e0 e1 e2 e3
   have hd : d = .agg [y0.1, y1.1, y2.1, y3.1, y4.1, y5.1] := by simpa using congrArg Prod.fst hxx
   have hb3 : Rows.uptoBulk y3.1 ≤ Rows.uptoBulk d := by rw [hd]; exact bulk_part (by simp)
   have hb4 : Rows.uptoBulk y4.1 ≤ Rows.uptoBulk d := by rw [hd]; exact bulk_part (by simp)
   refine ⟨⟨n0, n1, n2, s3.data.toList, ls, bs⟩, c4, c5, rfl, hr, hb, hn, hn2, fun l hl => Nat.le_trans (hls l hl) hb4, Nat.le_trans ?_ hb3⟩
   rw [y3', bulk_str]; exact Nat.le_succ _
theorem mark_arg {H : Type} {enc : TypeId × Value → H} {W : World} {r : Reach} {b0 base : Nat} {held : Bool} {v : Value} {d : DataW H} {p : List MemPlace}
 (hv : Value.okWide Tryz.prog W r b0 53 v) (h : DataW.Trod enc Tryz.prog W base (fun _ => true) held 53 v d p) : ∃ k : MarkD, v = k.val := by
 obtain ⟨f0, f1, f2, hu, _⟩ := fieldsMark
 obtain ⟨cs, rfl, hsz⟩ := okWide_struct hu hv
 obtain ⟨fuel, hf⟩ := h
 obtain ⟨k, hk⟩ := mark_cells hf
 refine ⟨k, ?_⟩
 obtain ⟨cs⟩ := cs
 have hk' : cs = k.cells := by simpa [Value.cells] using hk
 rw [hk']
open Go
section
variable {P : Program} {ops : Array Oper} {Q : Exit → Act → World → Prop} {md : Region.Mode} {S : World → Prop} {z : Nat}
def Till (S : World → Prop) (z : Nat) (l : Array Bool) (w : World) : Prop := l.getD z true = false → S w
def wpAnyG (P : Program) (md : Region.Mode) (ops : Array Oper) (Q : Exit → Act → World → Prop) (S : World → Prop) (z : Nat) : Nat → Array Bool → Act → World → Prop
 | 0, listed, a, w => Region.ready md ops listed = [] ∧ Q .normal a w
 | fuel + 1, listed, a, w =>
  (Region.ready md ops listed = [] → Q .normal a w) ∧
  ∀ i ∈ Region.ready md ops listed, wpOp P ops Q i (fun a' w' => Till S z (listed.setIfInBounds i true) w' ∧ wpAnyG P md ops Q S z fuel (listed.setIfInBounds i true) a' w') a w
theorem wpAny_of_gate : ∀ (fuel : Nat) (listed : Array Bool) (a : Act) (w : World), wpAnyG P md ops Q S z fuel listed a w → wpAny P md ops Q fuel listed a w
 | 0, _, _, _, h => h
 | fuel + 1, _, _, _, h => ⟨h.1, fun i hi => wpOp_mono (fun a' w' h' => wpAny_of_gate fuel _ a' w' h'.2) (h.2 i hi)⟩
def Closed (md : Region.Mode) (ops : Array Oper) (l : Array Bool) : Prop := ∀ (k : Nat) (o : Oper), ops[k]? = some o → l.getD k true = true → ∀ e ∈ o.after, Region.binds md e = true → l.getD e.on true = true
theorem getD_true_set {l : Array Bool} {i j : Nat} (h : l.getD j true = true) : (l.setIfInBounds i true).getD j true = true := by
 by_cases e : i = j
 ·subst e
  by_cases hi : i < l.size
  ·simp [Array.getElem?_setIfInBounds, hi]
  ·simp [Array.getElem?_setIfInBounds, hi]
 ·rw [getD_set_ne true e]; exact h
theorem getD_ft {l : Array Bool} {j : Nat} (h : l.getD j false = true) : l.getD j true = true := by
 by_cases hi : j < l.size
 ·simp [hi] at h ⊢; exact h
 ·simp [hi] at h
theorem Closed.set {l : Array Bool} {j : Nat} (h : Closed md ops l) (hj : j ∈ Region.ready md ops l) : Closed md ops (l.setIfInBounds j true) := by
 intro k o hk hl e he hb
 by_cases hkj : k = j
 ·subst hkj
  obtain ⟨_, o', ho', hall⟩ := mem_ready.1 hj
  rw [hk] at ho'
  cases ho'
  exact getD_true_set (getD_ft (hall e he hb))
 ·rw [getD_set_ne true (fun e => hkj e.symm)] at hl
  exact getD_true_set (h k o hk hl e he hb)
def depB (md : Region.Mode) (ops : Array Oper) : Nat → Nat → Nat → Bool
 | 0, _, _ => false
 | n + 1, g, i => match ops[g]? with
  | none => false
  | some o => o.after.any (fun e => Region.binds md e && (e.on == i || depB md ops n e.on i))
theorem depB_open {l : Array Bool} {i : Nat} (hc : Closed md ops l) (hi : l.getD i true = false) : ∀ (n g : Nat), depB md ops n g i = true → l.getD g true = false := by
 intro n
 induction n with
 | zero => intro g h; cases h
 | succ n ih =>
  intro g h
  unfold depB at h
  cases ho : ops[g]? with
  | none => rw [ho] at h; cases h
  | some o =>
   rw [ho] at h
   obtain ⟨k, hk, hk2⟩ := Array.any_iff_exists.1 h
   simp only [Bool.and_eq_true, Bool.or_eq_true, beq_iff_eq] at hk2
   have hm : o.after[k] ∈ o.after := Array.getElem_mem hk
   cases hg : l.getD g true with
   | false => rfl
   | true =>
    have h1 := hc g o ho hg _ hm hk2.2.2.1
    rcases hk2.2.2.2 with e | e
    ·rw [e, hi] at h1; cases h1
    ·rw [ih _ e] at h1; cases h1
theorem wpAnyG_first {i : Nat} {oi : Oper} {v : Value} {dn : Nat} (hzi : z ≠ i) (hd : depB md ops dn z i = true) (hi : ops[i]? = some oi) (hsel : ∀ (j : Nat) (o : Oper) cs b, ops[j]? = some o → o.op ≠ .select cs b)
 (hQ : ∀ c a w, Q (.panic c) (a.put oi.dst v) w → Q (.panic c) a w) :
 ∀ (fuel : Nat) (listed : Array Bool) (a : Act) (w : World),
  (∀ j oj, ops[j]? = some oj → j ≠ i → listed.getD j true = false → (∀ e ∈ oj.after, Region.binds md e = true → e.on ≠ i) → oi.apart ops oj = true) →
  i ∈ Region.ready md ops listed → Closed md ops listed → YieldsIf P ops S oi v a → S w →
  wpAnyG P md ops Q S z fuel (listed.setIfInBounds i true) (a.put oi.dst v) w → wpAnyG P md ops Q S z (fuel + 1) listed a w := by
 intro fuel
 induction fuel with
 | zero =>
  intro listed a w _ hr hcl hy hS H
  refine ⟨fun h => (by rw [h] at hr; cases hr), fun j hj => ?_⟩
  by_cases hji : j = i
  ·subst hji; exact hy.wpOp hi hS ⟨fun _ => hS, H⟩
  ·have := ready_mono hj hji
   rw [H.1] at this
   cases this
 | succ fuel ih =>
  intro listed a w hfree hr hcl hy hS H
  refine ⟨fun h => (by rw [h] at hr; cases hr), fun j hj => ?_⟩
  by_cases hji : j = i
  ·subst hji; exact hy.wpOp hi hS ⟨fun _ => hS, H⟩
  ·have h1 := H.2 j (ready_mono hj hji)
   obtain ⟨hjun, oj, hoj, hall⟩ := mem_ready.1 hj
   have hnot : ∀ e ∈ oj.after, Region.binds md e = true → e.on ≠ i := fun e he hb heq => by
    have h1 := hall e he hb
    have h0 := (mem_ready.1 hr).1
    rw [heq] at h1
    rcases Nat.lt_or_ge i listed.size with h' | h'
    ·simp [h'] at h0 h1; rw [h0] at h1; cases h1
    ·simp [Array.getElem?_eq_none h'] at h1
   have h2 := wpOp_putIf hoj (hfree j oj hoj hji hjun hnot) (fun cs b => hsel i oi cs b hi) (fun cs b => hsel j oj cs b hoj) hQ hy h1
   have hfree' : ∀ k ok, ops[k]? = some ok → k ≠ i → (listed.setIfInBounds j true).getD k true = false →
    (∀ e ∈ ok.after, Region.binds md e = true → e.on ≠ i) → oi.apart ops ok = true := fun k ok hk hki hun hno => by
    refine hfree k ok hk hki ?_ hno
    by_cases hjk : j = k
    ·subst hjk; exact hjun
    ·rw [getD_set_ne true hjk] at hun; exact hun
   have hcl' : Closed md ops (listed.setIfInBounds j true) := hcl.set hj
   have hr' : i ∈ Region.ready md ops (listed.setIfInBounds j true) := ready_mono hr (Ne.symm hji)
   have hz : (listed.setIfInBounds j true).getD z true = false := depB_open hcl' (mem_ready.1 hr').1 dn z hd
   refine wpOp_mono (fun a' w' h3 => ?_) h2
   have hS' : S w' := h3.2.1 (by
    rw [Array.setIfInBounds_comm _ _ (fun e => hji e.symm), getD_set_ne true (fun e => hzi e.symm)]
    exact hz)
   refine ⟨fun _ => hS', ih (listed.setIfInBounds j true) a' w' hfree' hr' hcl' h3.1 hS' ?_⟩
   rw [Array.setIfInBounds_comm _ _ hji]
   exact h3.2.2
def closedB (md : Region.Mode) (ops : Array Oper) (l : Array Bool) : Bool :=
 (List.range ops.size).all fun k => !l.getD k true || ((ops[k]?).map (·.after.all fun e => !Region.binds md e || l.getD e.on true)).getD true
theorem closed_of {l : Array Bool} (h : closedB md ops l = true) : Closed md ops l := by
 intro k o hk hl e he hb
 have h1 := List.all_eq_true.1 h k (List.mem_range.2 (Array.getElem?_eq_some_iff.1 hk).1)
 rw [hk, hl] at h1
 simp only [Bool.not_true, Bool.false_or, Option.map_some, Option.getD_some, Array.all_eq_true_iff_forall_mem] at h1
 have h2 := h1 e he
 rw [hb] at h2
 simpa using h2
theorem wpAnyG_take {i : Nat} {oi : Oper} {v : Value} {fuel : Nat} {listed : Array Bool} {a : Act} {w : World} (dn : Nat) (hzi : z ≠ i) (hd : depB md ops dn z i = true) (hi : ops[i]? = some oi)
 (hs : Region.noSelect ops = true) (hf : Region.free md ops listed i = true) (hr : (Region.ready md ops listed).contains i = true) (hcl : closedB md ops listed = true)
 (hQ : ∀ c a w, Q (.panic c) (a.put oi.dst v) w → Q (.panic c) a w) (hy : YieldsIf P ops S oi v a) (hS : S w)
 (h : wpAnyG P md ops Q S z fuel (listed.setIfInBounds i true) (a.put oi.dst v) w) : wpAnyG P md ops Q S z (fuel + 1) listed a w :=
 wpAnyG_first hzi hd hi (Region.noSelect_spec hs) hQ fuel listed a w (Region.free_spec hi hf) (by simpa using hr) (closed_of hcl) hy hS h
def AllReadyG (P : Program) (md : Region.Mode) (ops : Array Oper) (Q : Exit → Act → World → Prop) (S : World → Prop) (z : Nat) (fuel : Nat) (listed : Array Bool) (a : Act) (w : World) (rs : List Nat) : Prop :=
 ∀ i ∈ rs, wpOp P ops Q i (fun a' w' => Till S z (listed.setIfInBounds i true) w' ∧ wpAnyG P md ops Q S z fuel (listed.setIfInBounds i true) a' w') a w
theorem AllReadyG.nil {fuel : Nat} {listed : Array Bool} {a : Act} {w : World} : AllReadyG P md ops Q S z fuel listed a w [] := fun _ h => by cases h
theorem AllReadyG.cons {fuel : Nat} {listed : Array Bool} {a : Act} {w : World} {i : Nat} {o : Oper} {rs : List Nat} (ho : ops[i]? = some o)
 (h : ∀ K' : Act → World → Prop, Shut (∀ a w, Till S z (listed.setIfInBounds i true) w → wpAnyG P md ops Q S z fuel (listed.setIfInBounds i true) a w → K' a w) → if Region.wanted o (yielded ops a.tmps) = true then Oper.wp P o a w K' Q else K' (a.put o.dst undef) w)
 (hs : AllReadyG P md ops Q S z fuel listed a w rs) : AllReadyG P md ops Q S z fuel listed a w (i :: rs) := fun j hj => by
 rcases List.mem_cons.1 hj with rfl | hj
 ·exact wpOp_step ho (fun K' hK => h K' (fun a w hS hW => hK a w ⟨hS, hW⟩))
 ·exact hs j hj
theorem wpAnyG_ready {rs : List Nat} {fuel : Nat} {listed : Array Bool} {a : Act} {w : World} (hr : Region.ready md ops listed = rs) (hne : rs ≠ [])
 (h : AllReadyG P md ops Q S z fuel listed a w rs) : wpAnyG P md ops Q S z (fuel + 1) listed a w :=
 ⟨fun h0 => absurd (hr ▸ h0) hne, hr ▸ h⟩
theorem wpAnyG_done {listed : Array Bool} {a : Act} {w : World} (hr : Region.ready md ops listed = []) (h : Q .normal a w) : ∀ fuel, wpAnyG P md ops Q S z fuel listed a w
 | 0 => ⟨hr, h⟩
 | _ + 1 => ⟨fun _ => h, by rw [hr]; simp⟩
theorem wp_region_gate {id : Nat} {a : Act} {w : World} (S : World → Prop) (z : Nat) (hm : P.follows .mixedOrders = true) (h : wpAnyG P .any ops Q S z ops.size (Array.replicate ops.size false) a w.drew) : (Code.region id ops true).wp P Q a w :=
 wp_region_any hm (wpAny_of_gate _ _ _ _ h)
end
theorem qA {α : Type} (l : List α) (i : Nat) (a : α) : l.toArray.setIfInBounds i a = (l.set i a).toArray := List.setIfInBounds_toArray ..
theorem qB {α : Type} (x : α) (l : List α) (a : α) : (x :: l).set 0 a = a :: l := rfl
theorem qC {α : Type} (x : α) (l : List α) (n : Nat) (a : α) : (x :: l).set (n + 1) a = x :: l.set n a := rfl
section
variable {P : Program} {ops : Array Oper} {Q : Exit → Act → World → Prop} {md : Region.Mode} {S : World → Prop} {z : Nat}
theorem tkP (i : Nat) {oi : Oper} {v : Value} {fuel : Nat} {listed : Array Bool} {a a' : Act} {w : World}
 (h : wpAnyH P md ops Q S fuel (listed.setIfInBounds i true) a' w)
 (hi : ops[i]? = some oi := by (simp only [List.getElem?_toArray, List.getElem?_cons_succ, List.getElem?_cons_zero]; rfl))
 (hs : Region.noSelect ops = true := by kernel_rfl) (hf : Region.free md ops listed i = true := by kernel_rfl) (hr : (Region.ready md ops listed).contains i = true := by kernel_rfl)
 (hy : YieldsIf P ops S oi v a := by (refine Or.inl ⟨by rfl, ?_⟩; intro w hSw; (try dsimp only at hSw); go_simp; (try with_reducible rfl)))
 (he : a.put oi.dst v = a' := by ((try simp only [Act.put, List.setIfInBounds_toArray, List.set_cons_zero, List.set_cons_succ]); rfl))
 (hQ : ∀ c a w, Q (.panic c) (a.put oi.dst v) w → Q (.panic c) a w := by exact fun _ _ _ h => h)
 (hS : S w := by assumption) : wpAnyH P md ops Q S (fuel + 1) listed a w := by subst he; exact wpAnyH_take hi hs hf hr hQ hy hS h
theorem tkQ (i : Nat) {oi : Oper} {v : Value} {fuel : Nat} {listed : Array Bool} {a a' : Act} {w : World}
 (h : wpAnyG P md ops Q S z fuel (listed.setIfInBounds i true) a' w)
 (hzi : z ≠ i := by decide) (hd : depB md ops ops.size z i = true := by kernel_rfl)
 (hi : ops[i]? = some oi := by (simp only [List.getElem?_toArray, List.getElem?_cons_succ, List.getElem?_cons_zero]; rfl))
 (hs : Region.noSelect ops = true := by kernel_rfl) (hf : Region.free md ops listed i = true := by kernel_rfl) (hr : (Region.ready md ops listed).contains i = true := by kernel_rfl) (hcl : closedB md ops listed = true := by kernel_rfl)
 (hy : YieldsIf P ops S oi v a := by (refine Or.inl ⟨by rfl, ?_⟩; intro w hSw; (try dsimp only at hSw); go_simp; (try with_reducible rfl)))
 (he : a.put oi.dst v = a' := by ((try simp only [Act.put, List.setIfInBounds_toArray, List.set_cons_zero, List.set_cons_succ]); rfl))
 (hQ : ∀ c a w, Q (.panic c) (a.put oi.dst v) w → Q (.panic c) a w := by exact fun _ _ _ h => h)
 (hS : S w := by assumption) : wpAnyG P md ops Q S z (fuel + 1) listed a w := by subst he; exact wpAnyG_take ops.size hzi hd hi hs hf hr hcl hQ hy hS h
theorem rdH (i : Nat) {o : Oper} {fuel : Nat} {listed : Array Bool} {a : Act} {w : World}
 (h : ∀ K' : Act → World → Prop, Shut (∀ a w, S w → (S w → wpAnyH P md ops Q S fuel (listed.setIfInBounds i true) a w) → K' a w) → if Region.wanted o (yielded ops a.tmps) = true then Oper.wp P o a w K' Q else K' (a.put o.dst undef) w)
 (hr : Region.ready md ops listed = [i] := by kernel_rfl)
 (ho : ops[i]? = some o := by (simp only [List.getElem?_toArray, List.getElem?_cons_succ, List.getElem?_cons_zero]; rfl)) : wpAnyH P md ops Q S (fuel + 1) listed a w := wpAnyH_ready hr (by simp) (AllReadyH.cons ho h AllReadyH.nil)
theorem rdG (i : Nat) {o : Oper} {fuel : Nat} {listed : Array Bool} {a : Act} {w : World}
 (h : ∀ K' : Act → World → Prop, Shut (∀ a w, S w → (S w → wpAnyG P md ops Q S z fuel (listed.setIfInBounds i true) a w) → K' a w) → if Region.wanted o (yielded ops a.tmps) = true then Oper.wp P o a w K' Q else K' (a.put o.dst undef) w)
 (hr : Region.ready md ops listed = [i] := by kernel_rfl)
 (ho : ops[i]? = some o := by (simp only [List.getElem?_toArray, List.getElem?_cons_succ, List.getElem?_cons_zero]; rfl)) : wpAnyG P md ops Q S z (fuel + 1) listed a w :=
 wpAnyG_ready hr (by simp) (AllReadyG.cons ho (fun K hK => h K (fun a w hS hW => hK a w (fun _ => hS) (hW hS))) AllReadyG.nil)
theorem rdG2 (i j : Nat) {o o' : Oper} {fuel : Nat} {listed : Array Bool} {a : Act} {w : World}
 (h : ∀ K' : Act → World → Prop, Shut (∀ a w, S w → (S w → wpAnyG P md ops Q S z fuel (listed.setIfInBounds i true) a w) → K' a w) → if Region.wanted o (yielded ops a.tmps) = true then Oper.wp P o a w K' Q else K' (a.put o.dst undef) w)
 (h' : ∀ K' : Act → World → Prop, Shut (∀ a w, S w → (S w → wpAnyG P md ops Q S z fuel (listed.setIfInBounds j true) a w) → K' a w) → if Region.wanted o' (yielded ops a.tmps) = true then Oper.wp P o' a w K' Q else K' (a.put o'.dst undef) w)
 (hr : Region.ready md ops listed = [i, j] := by kernel_rfl)
 (ho : ops[i]? = some o := by (simp only [List.getElem?_toArray, List.getElem?_cons_succ, List.getElem?_cons_zero]; rfl))
 (ho' : ops[j]? = some o' := by (simp only [List.getElem?_toArray, List.getElem?_cons_succ, List.getElem?_cons_zero]; rfl)) : wpAnyG P md ops Q S z (fuel + 1) listed a w :=
 wpAnyG_ready hr (by simp) (AllReadyG.cons ho (fun K hK => h K (fun a w hS hW => hK a w (fun _ => hS) (hW hS))) (AllReadyG.cons ho' (fun K hK => h' K (fun a w hS hW => hK a w (fun _ => hS) (hW hS))) AllReadyG.nil))
theorem till_self {l : Array Bool} {w : World} : Till S z (l.setIfInBounds z true) w := fun h => by
 by_cases hi : z < l.size
 ·simp [hi] at h
 ·simp [hi] at h
theorem rdZ {o : Oper} {fuel : Nat} {listed : Array Bool} {a : Act} {w : World}
 (h : ∀ K' : Act → World → Prop, Shut (∀ a w, wpAnyG P md ops Q S z fuel (listed.setIfInBounds z true) a w → K' a w) → if Region.wanted o (yielded ops a.tmps) = true then Oper.wp P o a w K' Q else K' (a.put o.dst undef) w)
 (hr : Region.ready md ops listed = [z] := by kernel_rfl)
 (ho : ops[z]? = some o := by (simp only [List.getElem?_toArray, List.getElem?_cons_succ, List.getElem?_cons_zero]; rfl)) : wpAnyG P md ops Q S z (fuel + 1) listed a w :=
 wpAnyG_ready hr (by simp) (AllReadyG.cons ho (fun K hK => h K (fun a w hW => hK a w till_self hW)) AllReadyG.nil)
end
end Go.Proofs.YtffnbkmigapmjaaGreatDoor
