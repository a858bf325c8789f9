/- Printed out of the texts of wip/tpl. -/
import Derived.Test.YtffnbkmigapmjaaGreatDoorT10
import Derived.Test.YtffnbkmigapmjaaGreatDoorT27
import Derived.Test.YtffnbkmigapmjaaGreatDoorT32
import Derived.Test.YtffnbkmigapmjaaGreatDoorT36
import Derived.Test.YtffnbkmigapmjaaGreatDoorT37
import Derived.Test.YtffnbkmigapmjaaGreatDoorT40
import Derived.BigRegion
set_option linter.unusedSimpArgs false
set_option linter.unusedVariables false
set_option maxRecDepth 100000
namespace Go.Proofs.YtffnbkmigapmjaaGreatDoor
open Go.ChangeShapes Go.WideShapes Go.Deep Go.RowKit
theorem i64_wf {n : Int} (h : (Lit.int .i64 n).wf = true) : -9223372036854775808 ≤ n ∧ n ≤ 9223372036854775807 := by
 simpa [Lit.wf, IntKind.has, IntKind.min, IntKind.max, IntKind.signed, IntKind.bits] using h
theorem fieldsOp : ∃ f0 f1 f2 f3 f4 : Field, Tryz.prog.underlying 72 = some (.struct #[f0, f1, f2, f3, f4]) ∧ (f0.type = 3 ∧ f0.offset = 0) ∧ (f1.type = 3 ∧ f1.offset = 1) ∧ (f2.type = 29 ∧ f2.offset = 2) ∧ (f3.type = 53 ∧ f3.offset = 8) ∧ (f4.type = 5 ∧ f4.offset = 11) :=
 ⟨_, _, _, _, _, Tryz.underlying72, ⟨rfl, rfl⟩, ⟨rfl, rfl⟩, ⟨rfl, rfl⟩, ⟨rfl, rfl⟩, rfl, rfl⟩
section
variable {H : Type} {enc : TypeId × Value → H} {W : World} {r : Reach} {b0 base : Nat} {held : Bool} {v : Value} {d : DataW H} {p : List MemPlace}
theorem mail_trodU {n : Nat} {cs : List Value} {y : DataW H × List MemPlace} (h : DataW.trod enc Tryz.prog W base (fun _ => true) held n 29 cs = some y) :
 ∃ (m : MailD) (ar : Option Addr) (cr : Nat) (ab : Option Addr) (cb : Nat), cs = [.int .i64 m.id, .int .i64 m.parent, .int .i64 m.born, .string (strL m.frm), .slice ar m.rcpts.length cr, .slice ab m.body.length cb] ∧ RdS W (.slice ar m.rcpts.length cr) m.rcpts ∧ RdB W (.slice ab m.body.length cb) m.body ∧ NilOk (.slice ar m.rcpts.length cr) ∧ NilOk (.slice ab m.body.length cb) ∧ (∀ l ∈ m.rcpts, l.length ≤ Rows.uptoBulk y.1) ∧ m.frm.length ≤ Rows.uptoBulk y.1 ∧ (-9223372036854775808 ≤ m.parent ∧ m.parent ≤ 9223372036854775807) := by
 obtain ⟨f0, f1, f2, f3, f4, f5, hu, ⟨t0, o0⟩, ⟨t1, o1⟩, ⟨t2, o2⟩, ⟨t3, o3⟩, ⟨t4, o4⟩, t5, o5⟩ := fieldsMail
 obtain ⟨xs, m, _, hxx, hl, hxl, hat⟩ := DataW.trod_struct hu h
 have hc : Tryz.prog.cellsOf 29 = 6 := by kernel_rfl
 have hi : Tryz.prog.cellsOf 3 = 1 := by kernel_rfl
 have hs : Tryz.prog.cellsOf 9 = 1 := by kernel_rfl
 have hss : Tryz.prog.cellsOf 27 = 1 := by kernel_rfl
 have hbb : Tryz.prog.cellsOf 22 = 1 := by kernel_rfl
 rw [hc] at hl
 match cs, hl with
 | [c0, c1, c2, c3, c4, c5], _ =>
  match xs, hxl with
  | [y0, y1, y2, y3, y4, y5], _ =>
   have g0 := hat 0 f0 rfl
   have g1 := hat 1 f1 rfl
   have g2 := hat 2 f2 rfl
   have g3 := hat 3 f3 rfl
   have g4 := hat 4 f4 rfl
   have g5 := hat 5 f5 rfl
   rw [t0, o0, hi] at g0
   rw [t1, o1, hi] at g1
   rw [t2, o2, hi] at g2
   rw [t3, o3, hs] at g3
   rw [t4, o4, hss] at g4
   rw [t5, o5, hbb] at g5
   obtain ⟨n0, e0, _⟩ := DataW.trod_int (P := Tryz.prog) Tryz.underlying3 g0
   obtain ⟨n1, e1, _, hw1⟩ := DataW.trod_int (P := Tryz.prog) Tryz.underlying3 g1
   obtain ⟨n2, e2, _⟩ := DataW.trod_int (P := Tryz.prog) Tryz.underlying3 g2
   obtain ⟨s3, e3, y3', _⟩ := DataW.trod_string (P := Tryz.prog) Tryz.underlying9 g3
   simp only [List.drop_succ_cons, List.drop_zero, List.take_succ_cons, List.take_zero, List.cons.injEq, and_true] at e0 e1 e2 e3 g4 g5
   obtain ⟨ls, hr, hn, hls⟩ := rdS_trodU g4
   obtain ⟨bs, hb, hn2⟩ := rdB_trod g5
   subst e0 e1 e2 e3
   have hd : y.1 = .agg [y0.1, y1.1, y2.1, y3.1, y4.1, y5.1] := by simpa using congrArg Prod.fst hxx
   have hb3 : Rows.uptoBulk y3.1 ≤ Rows.uptoBulk y.1 := by rw [hd]; exact bulk_part (by simp)
   have hb4 : Rows.uptoBulk y4.1 ≤ Rows.uptoBulk y.1 := by rw [hd]; exact bulk_part (by simp)
   obtain ⟨ar, cr, e4, _⟩ := hr.form
   obtain ⟨ab, cb, e5, _⟩ := hb.form
   subst e4 e5
   refine ⟨⟨n0, n1, n2, s3.data.toList, ls, bs⟩, ar, cr, ab, cb, rfl, hr, hb, hn, hn2, fun l hl => Nat.le_trans (hls l hl) hb4, Nat.le_trans ?_ hb3, i64_wf hw1⟩
   rw [y3', bulk_str]; exact Nat.le_succ _
theorem block_cell {t e : TypeId} (ht : Tryz.prog.underlying t = some (.slice e)) {a : Option Addr} {len cap : Nat} (hv : Cell.okWide Tryz.prog W r b0 t (.slice a len cap)) : ∀ k, (Value.slice a len cap).ownBlock = some k → k < W.heap.size := by
 intro k hk
 cases a with
 | none => cases hk
 | some a =>
  cases hk
  simp only [Cell.okWide, ht, Cell.ok] at hv
  obtain ⟨_, _, _, _, row, cells, hsh, _⟩ := hv
  unfold World.shape? at hsh
  rcases Nat.lt_or_ge a.block W.heap.size with h | h
  ·exact h
  ·rw [Array.getElem?_eq_none h] at hsh; cases hsh
theorem mail_blocks {m : MailD} {vr vb : Value} (hv : Value.okWide Tryz.prog W r b0 29 (mailVal m vr vb)) (hr : RdS W vr m.rcpts) (hb : RdB W vb m.body) : (∀ k, vr.ownBlock = some k → k < W.heap.size) ∧ (∀ k, vb.ownBlock = some k → k < W.heap.size) := by
 obtain ⟨ar, cr, rfl, _⟩ := hr.form
 obtain ⟨ab, cb, rfl, _⟩ := hb.form
 have hu := Tryz.underlying29
 unfold Value.okWide at hv
 rw [hu] at hv
 obtain ⟨cs, he, _, ts, hts, _, hc⟩ := hv
 have hts' : Tryz.prog.cellTypes Tryz.prog.depth 29 = some [3, 3, 3, 9, 27, 22] := by kernel_rfl
 rw [hts'] at hts
 cases hts
 unfold mailVal at he
 injection he with he
 subst he
 obtain ⟨u4, h4, k4⟩ := hc 4 _ rfl
 obtain ⟨u5, h5, k5⟩ := hc 5 _ rfl
 cases h4
 cases h5
 exact ⟨block_cell Tryz.underlying27 k4, block_cell Tryz.underlying22 k5⟩
theorem op_trod {n : Nat} {cs : List Value} {y : DataW H × List MemPlace} (h : DataW.trod enc Tryz.prog W base (fun _ => true) held n 72 cs = some y) (hu : Rows.uptoBulk y.1 ≤ 1048576) :
 ∃ o : OpV, cs = opCells o ∧ OpArg0 W o := by
 obtain ⟨f0, f1, f2, f3, f4, hul, ⟨t0, o0⟩, ⟨t1, o1⟩, ⟨t2, o2⟩, ⟨t3, o3⟩, t4, o4⟩ := fieldsOp
 obtain ⟨xs, m, _, hxx, hl, hxl, hat⟩ := DataW.trod_struct hul h
 have hc : Tryz.prog.cellsOf 72 = 12 := by kernel_rfl
 have hi : Tryz.prog.cellsOf 3 = 1 := by kernel_rfl
 have hm : Tryz.prog.cellsOf 29 = 6 := by kernel_rfl
 have hk : Tryz.prog.cellsOf 53 = 3 := by kernel_rfl
 have hb : Tryz.prog.cellsOf 5 = 1 := by kernel_rfl
 rw [hc] at hl
 match cs, hl with
 | [c0, c1, c2, c3, c4, c5, c6, c7, c8, c9, ca, cb], _ =>
  match xs, hxl with
  | [y0, y1, y2, y3, y4], _ =>
   have g0 := hat 0 f0 rfl
   have g1 := hat 1 f1 rfl
   have g2 := hat 2 f2 rfl
   have g3 := hat 3 f3 rfl
   have g4 := hat 4 f4 rfl
   rw [t0, o0, hi] at g0
   rw [t1, o1, hi] at g1
   rw [t2, o2, hm] at g2
   rw [t3, o3, hk] at g3
   rw [t4, o4, hb] at g4
   obtain ⟨n0, e0, _⟩ := DataW.trod_int (P := Tryz.prog) Tryz.underlying3 g0
   obtain ⟨n1, e1, _, hw1⟩ := DataW.trod_int (P := Tryz.prog) Tryz.underlying3 g1
   obtain ⟨n4, e4, _, hw4⟩ := DataW.trod_int (P := Tryz.prog) Tryz.underlying5 g4
   obtain ⟨k, e3⟩ := mark_cells g3
   obtain ⟨ml, ar, cr, ab, cbb, e2, hr, hbd, hn1, hn2, hl1, hl2, hp⟩ := mail_trodU g2
   simp only [List.drop_succ_cons, List.drop_zero, List.take_succ_cons, List.take_zero, List.cons.injEq, and_true, MarkD.cells] at e0 e1 e2 e3 e4
   obtain ⟨rfl, rfl, rfl, rfl, rfl, rfl⟩ := e2
   obtain ⟨rfl, rfl, rfl⟩ := e3
   subst e0 e1 e4
   have hd : y.1 = .agg [y0.1, y1.1, y2.1, y3.1, y4.1] := by simpa using congrArg Prod.fst hxx
   have hb2 : Rows.uptoBulk y2.1 ≤ Rows.uptoBulk y.1 := by rw [hd]; exact bulk_part (by simp)
   have h4 : 0 ≤ n4 ∧ n4 ≤ 255 := by simpa [Lit.wf, IntKind.has, IntKind.min, IntKind.max, IntKind.signed, IntKind.bits] using hw4
   refine ⟨⟨n0, n1, ml, k, UInt8.ofNat n4.toNat, ar, cr, ab, cbb⟩, ?_, hr, hbd, hn1, hn2, ⟨by dsimp only; omega, fun l hl => by have := hl1 l hl; omega⟩, i64_wf hw1, hp⟩
   unfold opCells
   have : (((UInt8.ofNat n4.toNat).toNat : Nat) : Int) = n4 := by
    rw [UInt8.toNat_ofNat', Nat.mod_eq_of_lt (by omega)]; omega
   rw [this]
theorem ops_argU (hv : Value.okWide Tryz.prog W r b0 64 v) (h : DataW.Trod enc Tryz.prog W base (fun _ => true) held 64 v d p) (hu : Rows.uptoBulk d ≤ 1048576) : ∃ os, RdO W v os ∧ ∀ o ∈ os, OpArg0 W o := by
 obtain ⟨a0, len0, cap0, rfl⟩ := okWide_slice Tryz.underlying64 hv
 obtain ⟨fuel, hf⟩ := h
 rcases open_slice Tryz.underlying64 hf with ⟨hcs, _⟩ | ⟨x, l, c, m, n, D, Pl, hcs, _, hl, hm, hmm, hdd, hcell⟩
 ·simp [Value.cells] at hcs
  obtain ⟨rfl, rfl, rfl⟩ := hcs
  exact ⟨[], .inl ⟨_, _, rfl, by decide, rfl⟩, fun o ho => by cases ho⟩
 ·simp [Value.cells] at hcs
  obtain ⟨rfl, rfl, rfl⟩ := hcs
  rw [if_pos rfl] at hmm
  subst hmm
  have hc : Tryz.prog.cellsOf 72 = 12 := by kernel_rfl
  have hall : ∀ i : Nat, i < len0 → ∃ o : OpV, W.cells? base (x.add (i * 12)) 12 = some (opCells o) ∧ OpArg0 W o := by
   intro i hi
   obtain ⟨cs', h1, h2⟩ := hcell i (by omega)
   rw [hc] at h1
   have hb : Rows.uptoBulk (D i) ≤ 1048576 := by
    have h3 := bulk_in (x := D i) (l := (List.range len0).map D) (List.mem_map.2 ⟨i, List.mem_range.2 hi, rfl⟩)
    have h4 : d = _ := congrArg Prod.fst hdd
    rw [h4, Rows.uptoBulk] at hu
    omega
   obtain ⟨o, rfl, ho⟩ := op_trod h2 hb
   exact ⟨o, h1, ho⟩
  by_cases hz : len0 = 0
  ·subst hz; exact ⟨[], .inl ⟨_, _, rfl, hm, rfl⟩, fun o ho => by cases ho⟩
  ·have hx : ∃ b off, x = ⟨b, off, none⟩ := by
    obtain ⟨o, hk, _⟩ := hall 0 (by omega)
    have := (World.cells?_some hk).2.2 0 (by omega)
    rw [Nat.zero_mul] at this
    obtain ⟨b, off, s⟩ := x
    refine addr_plain (n := 0) (v := .int .i64 o.kind) (w := W) ?_
    simpa [Addr.add, opCells] using this
   obtain ⟨b, off, rfl⟩ := hx
   refine ⟨(List.range len0).map fun i => if hi : i < len0 then (hall i hi).choose else ⟨0, 0, ⟨0, 0, 0, [], [], []⟩, ⟨0, 0, 0⟩, 0, none, 0, none, 0⟩, .inr ⟨b, off, m, by simp, by simp; omega, by simpa using hl, hm, ?_, ?_⟩, fun o ho => ?_⟩
   ·obtain ⟨k, hk, _⟩ := hall 0 (by omega)
    have := (World.cells?_some hk).2.2 0 (by omega)
    rw [Nat.zero_mul, add_plain, add_plain] at this
    exact World.block_lt_of_cell? W _ this
   ·intro i k hk j u hu
    have hi : i < len0 := by have := (List.getElem?_eq_some_iff.1 hk).1; simpa using this
    rw [List.getElem?_map, List.getElem?_range hi] at hk
    simp only [Option.map_some, Option.some.injEq] at hk
    rw [dif_pos hi] at hk
    have hs := (hall i hi).choose_spec.1
    rw [hk] at hs
    have hj : j < 12 := (List.getElem?_eq_some_iff.1 hu).1
    have := (World.cells?_some hs).2.2 j hj
    rw [add_plain, add_plain, Nat.add_assoc] at this
    rw [this, hu]
   ·obtain ⟨i, hi, rfl⟩ := List.mem_map.1 ho
    have hi := List.mem_range.1 hi
    rw [dif_pos hi]
    exact (hall i hi).choose_spec.2
end
open Go.RowKit Go.Maps
theorem record_len {m : MailD} (h : m.good = true) : m.record.length ≤ 10000 := by
 obtain ⟨_, _, _, h4, h5, _, h6, h7⟩ := (good_iff m).1 h
 have hf : m.frm.length ≤ 64 := by
  rcases h6 with h6 | h6
  ·omega
  ·exact boxB_len h6
 have hl := flat_lenB_le m.rcpts 64 (fun l hl => boxB_len (List.all_eq_true.1 h7 l hl))
 have h3 : m.rcpts.length * (8 + 64) ≤ 8 * (8 + 64) := Nat.mul_le_mul_right _ h4.2
 rw [record_length]
 unfold MailD.inner
 simp only [List.length_append, num8_length, lenB_length]
 omega
theorem record_pos (m : MailD) : 1 ≤ m.record.length := by rw [record_length]; omega
def StoD.rm (d : StoD) (r : Int) : StoD := { d with fs := { d.fs with room := r } }
def ModD.rm (M : ModD) (r : Int) : ModD := { M with room := r }
section
variable {T : Nat} {M : ModD} {d : StoD} {r : Int}
theorem ModI.usedLe (h : ModI T M) : M.used ≤ (10000 + 28 * T) * M.list.length :=
 usedTo_le (C := 10000 + 28 * T) (l := M.list) (fun b hb => by
  have := record_len (h.good b hb)
  have := (h.ks b hb).2
  unfold BoxD.len; omega)
theorem ModI.used60 (h : ModI T M) (hT : T ≤ 100) : M.used ≤ 1280000 := by
 have h1 := h.usedLe
 have h2 : (10000 + 28 * T) * M.list.length ≤ (10000 + 28 * 100) * 100 := Nat.mul_le_mul (by omega) (by have := h.n; omega)
 omega
theorem Same14.rm (h : Same14 d M) (hr : 0 ≤ r ∧ r ≤ 16777216) : Same14 (d.rm r) (M.rm r) := by
 obtain ⟨C, hv, hc⟩ := h.vw
 exact ⟨h.down, ⟨C, ⟨⟨⟨hv.up.ok.f0, hv.up.ok.f1, hv.up.ok.n, hr.1, hr.2⟩, hv.up.key, hv.up.inj, hv.up.fil, hv.up.fuse, hv.up.down⟩, hv.cont, hv.n, hv.used, rfl⟩, ⟨hc.box, hc.ids, hc.no⟩⟩, h.last, h.bound, h.nf, h.whr⟩
theorem ModI.rm (h : ModI T M) (hr : 0 ≤ r ∧ r ≤ 16777216) : ModI T (M.rm r) := ⟨h.asc, h.id, h.q, h.good, h.ks, h.n, h.last, h.lb, h.bd, hr⟩
theorem Like.list {M' : ModD} (h : Like d M) (e : M'.list = M.list) : Like d M' :=
 ⟨fun q hq => by unfold ModD.queue; rw [e]; exact h.q q hq, by rw [e]; exact h.f, h.t⟩
theorem MarkR.whr {id er : Int} {k : MarkD} {d' : StoD} (h : MarkR d id k er d') : d'.whr = d.whr := by
 rcases h with ⟨_, _, rfl⟩ | ⟨_, ⟨_, _, rfl⟩ | ⟨_, fs2, _, rfl⟩⟩ <;> rfl
theorem mark_there {id : Int} {k : MarkD} (hi : ModI T M) (hk : k.good = true) (hb : ∃ b ∈ M.list, b.m.id = id) : (M.room - (M.used : Int) < 28 → M.mark id k = (3, M)) ∧ (¬ M.room - (M.used : Int) < 28 → (M.mark id k).1 = 0) := by
 have ha : ¬ M.at id < 0 := by
  rcases hi.at_cases id with ⟨_, h, _⟩ | ⟨j, b, e, _⟩
  ·obtain ⟨b, h1, h2⟩ := hb
   exact absurd h2 (h b h1)
  ·omega
 unfold ModD.mark
 rw [if_pos hk, if_neg ha]
 exact ⟨fun h => by rw [if_pos h], fun h => by rw [if_neg h]⟩
theorem ful_plain {m : MailD} {k : MarkD} {id : Int} (h : Same14 d M) (hi : ModI T M) (hp : ParOk M) (hT : T ≤ 90) (hg : goodM m = true) (hpar : m.parent = 0) (hk : k.good = true) (hb : ∃ b ∈ M.list, b.m.id = id)
 {er1 id1 : Int} {d1 : StoD} (h1 : CommitR (d.rm M.used) m er1 id1 d1) :
 er1 = 3 ∧ ∀ er2 d2, MarkR d1 id k er2 d2 → er2 = 3 ∧ Like d2 M ∧ d2.whr.length ≤ 100 ∧ ∀ er3 id3 d3, CommitR (d2.rm 16777216) m er3 id3 d3 → er3 = 0 ∧ id < id3 ∧ id3 ≤ 1000 ∧ d3.whr.length ≤ 100 ∧ ∀ er4 d4, MarkR d3 id k er4 d4 → er4 = 0 ∧ d4.whr.at id3 = 105 := by
 have hu := hi.used60 (by omega)
 have hr0 : 0 ≤ (M.used : Int) ∧ (M.used : Int) ≤ 16777216 := by omega
 obtain ⟨q1, _, q3, q4, q5⟩ := commit_same (h.rm hr0) (hi.rm hr0) (show ParOk (M.rm M.used) from hp) (by omega) h1
 have hu0 : (M.rm M.used).used = M.used := rfl
 have hrm0 : (M.rm M.used).room = (M.used : Int) := rfl
 have hc1 : (M.rm M.used).commit m = (0, 3, (M.rm M.used).next) := by
  unfold ModD.commit
  rw [if_pos ⟨hg, hpar⟩]
  unfold ModD.add
  rw [if_pos (by have := record_pos { m with id := (M.rm M.used).last + 1 }; rw [hu0, hrm0]; omega)]
 rw [hc1] at q1 q3 q4 q5
 dsimp only at q1 q3 q4 q5
 refine ⟨q1, fun er2 d2 h2 => ?_⟩
 have hl2 : (M.rm M.used).next.list = M.list := rfl
 have hu2 : (M.rm M.used).next.used = M.used := rfl
 have hrm2 : (M.rm M.used).next.room = (M.used : Int) := rfl
 have hb2 : ∃ b ∈ (M.rm M.used).next.list, b.m.id = id := hb
 obtain ⟨r1, r2, r3, r4⟩ := mark_same q3 q4 (by omega) h2
 rw [(mark_there q4 hk hb2).1 (by rw [hu2, hrm2]; omega)] at r1 r2 r3 r4
 dsimp only at r1 r2 r3 r4
 refine ⟨r1, (r2.like r3 (by omega)).list rfl, by rw [r2.whr]; unfold whM; rw [List.length_map]; have := r3.n; omega, fun er3 id3 d3 h3 => ?_⟩
 have hR : (0 : Int) ≤ 16777216 ∧ (16777216 : Int) ≤ 16777216 := by omega
 obtain ⟨s1, s2, s3, s4, s5⟩ := commit_same (r2.rm hR) (r3.rm hR) (show ParOk ((M.rm M.used).next.rm 16777216) from r4 q5) (by omega) h3
 have hl3 : ((M.rm M.used).next.rm 16777216).list = M.list := rfl
 have hu3 : ((M.rm M.used).next.rm 16777216).used = M.used := rfl
 have hrm3 : ((M.rm M.used).next.rm 16777216).room = 16777216 := rfl
 have hla3 : ((M.rm M.used).next.rm 16777216).last = M.last + 1 := rfl
 generalize hM3 : (M.rm M.used).next.rm 16777216 = M3 at *
 have hgd : ({ m with id := M3.last + 1 } : MailD).good = true := good_at hg (by have := hi.last; omega) (by have := hi.last; omega)
 have hlen := record_len hgd
 obtain ⟨M4, hc3, hl4, hrm4⟩ : ∃ M4, M3.commit m = (M3.last + 1, 0, M4) ∧ M4.list = M3.list ++ [⟨{ m with id := M3.last + 1 }, 105, []⟩] ∧ M4.room = 16777216 := by
  refine ⟨{ M3.next with list := M3.list ++ [⟨{ m with id := M3.last + 1 }, 105, []⟩] }, ?_, rfl, hrm3⟩
  unfold ModD.commit
  rw [if_pos ⟨hg, hpar⟩]
  unfold ModD.add
  rw [if_neg (by rw [hu3, hrm3]; omega)]
 rw [hc3] at s1 s2 s3 s4 s5
 dsimp only at s1 s2 s3 s4 s5
 obtain ⟨b, hbm, hbi⟩ := hb
 have hbl := hi.id b hbm
 have hbM4 : b ∈ M4.list := by rw [hl4, hl3]; exact List.mem_append_left _ hbm
 refine ⟨s1, by rw [s2, hla3]; omega, by rw [s2, hla3]; have := hi.last; omega, by rw [s3.whr]; unfold whM; rw [List.length_map]; have := s4.n; omega, fun er4 d4 h4 => ?_⟩
 obtain ⟨t1, _⟩ := mark_same s3 s4 (by omega) h4
 have hu4 := s4.used60 (by omega)
 rw [(mark_there s4 hk ⟨b, hbM4, hbi⟩).2 (by rw [hrm4]; omega)] at t1
 refine ⟨t1, ?_⟩
 rw [h4.whr, s3.whr, s2]
 have hm4 : (⟨{ m with id := M3.last + 1 }, 105, []⟩ : BoxD) ∈ M4.list := by rw [hl4]; exact List.mem_append_right _ (List.mem_singleton.2 rfl)
 exact wh_some s4.asc hm4
end
def tI : Nm := nameD 105 1
def tN : Nm := idsNameD 16
theorem tIN : tI ≠ tN := fun e => ids_ne_name (by decide) 105 1 e.symm
structure Two (d : FsD) (b : List UInt8) : Prop where
 vw : ∃ C U, Vw d C 2 U 16777216 ∧ U = b.length ∧ C tI = some b ∧ C tN = some [] ∧ ∀ n, n ≠ tI → n ≠ tN → C n = none
theorem Two.of {d : FsD} {C : Cont} {U : Nat} {b : List UInt8} (h : Vw d C 2 U 16777216) (h1 : C tI = some b) (h2 : C tN = some []) (h3 : ∀ n, n ≠ tI → n ≠ tN → C n = none) : Two d b :=
 ⟨C, U, h, by rw [h.used2 tIN rfl h1 h2]; rfl, h1, h2, h3⟩
theorem StoAt.other_fs {w w' : World} {s : Nat} {d : StoD} {ρ : Rho} {fs : FsD} (h : StoAt w s d ρ) (hf : FsAt w' d.fb fs ρ) (hk : Keeps (fun k => k = d.fb) w w') : StoAt w' s { d with fs := fs } ρ := by
 have hn : ∀ {j : Nat}, ρ j = none → j ≠ d.fb := fun hj e => by
  have := h.fs.role
  rw [← e, hj] at this; cases this
 exact ⟨hf, hk.heap h.hd (hn h.rs), hk.heap h.ids (hn h.ri), whMap_keeps h.whr hk (hn h.rm), h.rs, h.ri, h.rm⟩
end Go.Proofs.YtffnbkmigapmjaaGreatDoor
