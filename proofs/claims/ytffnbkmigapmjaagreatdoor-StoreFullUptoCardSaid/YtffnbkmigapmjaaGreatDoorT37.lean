/- Printed out of the texts of wip/tpl. -/
import Derived.Test.YtffnbkmigapmjaaGreatDoorT6
import Derived.Test.YtffnbkmigapmjaaGreatDoorT29
import Derived.Test.YtffnbkmigapmjaaGreatDoorT33
import Derived.Test.YtffnbkmigapmjaaGreatDoorT35
import Derived.Test.YtffnbkmigapmjaaGreatDoorT36
import Derived.Deep.QuietTactic
import Derived.BigQuiet
set_option linter.unusedSimpArgs false
set_option linter.unusedVariables false
set_option maxRecDepth 100000
namespace Go.Proofs.YtffnbkmigapmjaaGreatDoor
open Go.RowKit Go.Maps
structure OpArg (w : World) (o : OpV) (B : Nat) : Prop where
 r : RdS w (.slice o.ar o.m.rcpts.length o.cr) o.m.rcpts
 b : RdB w (.slice o.ab o.m.body.length o.cb) o.m.body
 nr : NilOk (.slice o.ar o.m.rcpts.length o.cr)
 nb : NilOk (.slice o.ab o.m.body.length o.cb)
 own : ∀ k, liveB (.slice o.ar o.m.rcpts.length o.cr) = some k ∨ liveB (.slice o.ab o.m.body.length o.cb) = some k → k < B
 ln : o.m.lens
 sz : o.m.rcpts.length ≤ 1000 ∧ o.m.body.length ≤ 1000000
 id : -9223372036854775808 ≤ o.id ∧ o.id ≤ 9223372036854775807
 pa : -9223372036854775808 ≤ o.m.parent ∧ o.m.parent ≤ 9223372036854775807
theorem OpArg.below {w w' : World} {o : OpV} {B : Nat} (h : OpArg w o B) (hb : Below w.heap.size w w') : OpArg w' o B :=
 ⟨h.r.below (Nat.le_refl _) hb, h.b.below (Nat.le_refl _) hb, h.nr, h.nb, h.own, h.ln, h.sz, h.id, h.pa⟩
def DoR (d : StoD) (o : OpV) (er id : Int) (d' : StoD) : Prop :=
 (o.kind = 1 ∧ CommitR d o.m er id d') ∨ (o.kind = 2 ∧ BounceR d o.m er id d') ∨ (o.kind = 3 ∧ id = 0 ∧ MarkR d o.id o.k er d') ∨ (o.kind = 4 ∧ id = 0 ∧ MoveR d o.id o.dest er d') ∨ (o.kind = 5 ∧ id = 0 ∧ DropR d o.id er d') ∨
 ((o.kind ≠ 1 ∧ o.kind ≠ 2 ∧ o.kind ≠ 3 ∧ o.kind ≠ 4 ∧ o.kind ≠ 5) ∧ er = 0 ∧ id = 0 ∧ d' = d)
structure DoDone (w : World) (s : Nat) (d : StoD) (ρ : Rho) (o : OpV) (e : Ending) (w' : World) (er id : Int) (d' : StoD) (ρ' : Rho) : Prop where
 ret : e = .returned (.tuple #[.int .i64 id, .int .i64 er])
 out : DoR d o er id d'
 at_ : StoOk w' s d' ρ'
 step : StoStep w s d ρ w' d' ρ'
 go : FsGo d.fs d'.fs 20
def ModD.run (M : ModD) (o : OpV) : Int × Int × ModD :=
 if o.kind = 1 then M.commit o.m else if o.kind = 2 then M.bounce o.m else if o.kind = 3 then (0, (M.mark o.id o.k).1, (M.mark o.id o.k).2) else if o.kind = 4 then (0, (M.move o.id o.dest).1, (M.move o.id o.dest).2) else if o.kind = 5 then (0, (M.drop o.id).1, (M.drop o.id).2) else (0, 0, M)
set_option maxHeartbeats 32000000 in
theorem do_calls (s : Nat) (d : StoD) (ρ : Rho) (o : OpV) (B : Nat) (w : World) (h : StoOk w s d ρ) (hll : d.fs.loose.length ≤ 700000) (hwl : d.whr.length ≤ 1000000) (ha : OpArg w o B) :
 Calls Tryz.prog 32 #[.pointer (some ⟨s, 0, none⟩), .agg (opCells o).toArray] w fun e w' => ∃ er id d' ρ', DoDone w s d ρ o e w' er id d' ρ' := by
 obtain ⟨kind, oid, ⟨mid, parent, born, frm, rcpts, body⟩, ⟨kk, kr, kn⟩, dest, ar, cr, ab, cb⟩ := o
 have har := ha.r
 have hab := ha.b
 obtain ⟨tf, htf⟩ : ∃ tf, strL frm = tf := ⟨_, rfl⟩
 obtain ⟨n1, hn1⟩ : ∃ n1, rcpts.length = n1 := ⟨_, rfl⟩
 obtain ⟨n2, hn2⟩ : ∃ n2, body.length = n2 := ⟨_, rfl⟩
 obtain ⟨dn, hdn⟩ : ∃ dn : Nat, dest.toNat = dn := ⟨_, rfl⟩
 obtain ⟨K0, hK0⟩ : ∃ K0, w.heap.size = K0 := ⟨_, rfl⟩
 obtain ⟨W, hW⟩ : ∃ W, w.alloc (.cells #[.int .i64 kind, .int .i64 oid, .int .i64 mid, .int .i64 parent, .int .i64 born, .string tf, .slice ar n1 cr, .slice ab n2 cb, .int .i64 kk, .int .i64 kr, .int .i64 kn, .int .u8 (dn : Int)] 72) = W := ⟨_, rfl⟩
 have hbW : Below w.heap.size w W := by rw [← hW]; exact (Below.refl _ _).alloc (Nat.le_refl _) _
 have hM : W.heap[K0]? = some (.cells #[.int .i64 kind, .int .i64 oid, .int .i64 mid, .int .i64 parent, .int .i64 born, .string tf, .slice ar n1 cr, .slice ab n2 cb, .int .i64 kk, .int .i64 kr, .int .i64 kn, .int .u8 (dn : Int)] 72 (0, 0)) := by rw [← hW, ← hK0]; exact heap_alloc_new w _
 have hcl : W.cell? ⟨K0, 0, none⟩ = some (.int .i64 kind) ∧ W.cell? ⟨K0, 1, none⟩ = some (.int .i64 oid) ∧ W.cell? ⟨K0, 2, none⟩ = some (.int .i64 mid) ∧ W.cell? ⟨K0, 3, none⟩ = some (.int .i64 parent) ∧ W.cell? ⟨K0, 4, none⟩ = some (.int .i64 born) ∧ W.cell? ⟨K0, 5, none⟩ = some (.string tf) ∧ W.cell? ⟨K0, 6, none⟩ = some (.slice ar n1 cr) ∧ W.cell? ⟨K0, 7, none⟩ = some (.slice ab n2 cb) ∧ W.cell? ⟨K0, 8, none⟩ = some (.int .i64 kk) ∧ W.cell? ⟨K0, 9, none⟩ = some (.int .i64 kr) ∧ W.cell? ⟨K0, 10, none⟩ = some (.int .i64 kn) ∧ W.cell? ⟨K0, 11, none⟩ = some (.int .u8 (dn : Int)) := ⟨by rw [cell_of_row _ _ _ _ _ _ hM]; rfl, by rw [cell_of_row _ _ _ _ _ _ hM]; rfl, by rw [cell_of_row _ _ _ _ _ _ hM]; rfl, by rw [cell_of_row _ _ _ _ _ _ hM]; rfl, by rw [cell_of_row _ _ _ _ _ _ hM]; rfl, by rw [cell_of_row _ _ _ _ _ _ hM]; rfl, by rw [cell_of_row _ _ _ _ _ _ hM]; rfl, by rw [cell_of_row _ _ _ _ _ _ hM]; rfl, by rw [cell_of_row _ _ _ _ _ _ hM]; rfl, by rw [cell_of_row _ _ _ _ _ _ hM]; rfl, by rw [cell_of_row _ _ _ _ _ _ hM]; rfl, by rw [cell_of_row _ _ _ _ _ _ hM]; rfl⟩
 obtain ⟨c0, c1, c2, c3, c4, c5, c6, c7, c8, c9, c10, c11⟩ := hcl
 have hval : Value.agg (opCells ⟨kind, oid, ⟨mid, parent, born, frm, rcpts, body⟩, ⟨kk, kr, kn⟩, dest, ar, cr, ab, cb⟩).toArray = .agg #[.int .i64 kind, .int .i64 oid, .int .i64 mid, .int .i64 parent, .int .i64 born, .string tf, .slice ar n1 cr, .slice ab n2 cb, .int .i64 kk, .int .i64 kr, .int .i64 kn, .int .u8 (dn : Int)] := by
  unfold opCells
  dsimp only
  rw [htf, hn1, hn2, hdn]
 rw [hval]
 have haW := ha.below hbW
 have hO := h.below hbW
 have hown : Calls Tryz.prog 73 #[.agg #[.int .i64 mid, .int .i64 parent, .int .i64 born, .string tf, .slice ar n1 cr, .slice ab n2 cb]] W (OwnDone W ⟨mid, parent, born, frm, rcpts, body⟩) := by
  have := own_calls ⟨mid, parent, born, frm, rcpts, body⟩ (.slice ar rcpts.length cr) (.slice ab body.length cb) W haW.r haW.b haW.nr haW.nb (by have := ha.sz.1; dsimp only at this ⊢; omega) (by have := ha.sz.2; dsimp only at this ⊢; omega)
  unfold mailVal at this
  dsimp only at this
  rw [htf, hn1, hn2] at this
  exact this
 have harg : ∀ (w1 : World) (vr vb : Value), w1.ownsRow W.heap.size 9 1 vr rcpts.length (rcpts.flatMap s1) → w1.ownsRow W.heap.size 5 1 vb body.length (body.map u8v) → Below W.heap.size W w1 → StoOk w1 s d ρ ∧ MailArg w1 s d ρ ⟨mid, parent, born, frm, rcpts, body⟩ vr vb := fun w1 vr vb o1 o2 h1 =>
  ⟨hO.below h1, rdL_ofOwn s1_len (by decide) o1, rdB_ofOwn o2, nilOk_own o2, fun k e => ⟨(o1.lt k e).2, fun g => by have := stoOwn_lt hO.at_ g; have := (o1.lt k e).1; omega⟩, fun k e => ⟨(o2.lt k e).2, fun g => by have := stoOwn_lt hO.at_ g; have := (o2.lt k e).1; omega⟩, ha.ln⟩
 have hmk := mark_calls s d ρ oid ⟨kk, kr, kn⟩ W hO (by omega) ha.id
 have hmk' : Calls Tryz.prog 27 #[.pointer (some ⟨s, 0, none⟩), .int .i64 oid, .agg #[.int .i64 kk, .int .i64 kr, .int .i64 kn]] W fun e w' => ∃ er d' ρ', OpDone (MarkR d oid ⟨kk, kr, kn⟩) W s d ρ e w' er d' ρ' := hmk
 have hmv := move_calls s d ρ oid dest W hO (by omega) hwl ha.id
 rw [hdn] at hmv
 have hdr := drop_calls s d ρ oid W hO (by omega) ha.id
 have Hown := Lib.hid hown
 have Harg := Lib.hid harg
 have Hmk := Lib.hid hmk'
 have Hmv := Lib.hid hmv
 have Hdr := Lib.hid hdr
 have H := Lib.hid (And.intro h (And.intro hbW (And.intro hO (And.intro hll (And.intro hwl ha.pa)))))
 clear hown harg hmk hmk' hmv hdr h hbW hO hll hwl ha haW har hab hM hval htf hn1 hn2 hdn
 by_cases k1 : kind = 1
 ·subst k1
  go_enter Tryz.func32, Tryz.ntmps32
  go_wp2_with fail
  try rw [hW]
  refine (Hown.out).mono ?_; rintro e w1 ⟨vr, vb, rfl, o1, o2, hb1⟩
  obtain ⟨hO1, hA1⟩ := Harg.out w1 vr vb o1 o2 hb1
  have hcm := commit_calls s d ρ ⟨mid, parent, born, frm, rcpts, body⟩ vr vb w1 hO1 (by have := H.out.2.2.2.1; omega) H.out.2.2.2.2.1 hA1
  have Hcm := Lib.hid hcm
  have Hb1 := Lib.hid (H.out.2.1.trans (hb1.mono H.out.2.1.size))
  clear hcm hO1 hA1 o1 o2 hb1 c0 c1 c2 c3 c4 c5 c6 c7 c8 c9 c10 c11
  generalize hmv : mailVal ⟨mid, parent, born, frm, rcpts, body⟩ vr vb = mv at Hcm ⊢
  clear hmv
  go_wp2_with fail
  refine (Hcm.out).mono ?_; rintro e w2 ⟨er, id, d', ρ', rfl, hout, hO2, hT2, hg2⟩
  have H2 := Lib.hid (And.intro hout (And.intro hO2 (And.intro ((StoStep.below (s := s) (d := d) (ρ := ρ) Hb1.out).trans hT2) hg2)))
  clear hout hO2 hT2 hg2
  go_wp2
  go_ret2
  obtain ⟨q1, q2, q3, q4⟩ := H2.out
  exact ⟨er, id, d', ρ', rfl, .inl ⟨rfl, q1⟩, q2, q3, q4.mono (by omega)⟩
 by_cases k2 : kind = 2
 ·subst k2
  go_enter Tryz.func32, Tryz.ntmps32
  go_wp2_with fail
  try rw [hW]
  refine (Hown.out).mono ?_; rintro e w1 ⟨vr, vb, rfl, o1, o2, hb1⟩
  obtain ⟨hO1, hA1⟩ := Harg.out w1 vr vb o1 o2 hb1
  have hcm := bounce_calls s d ρ ⟨mid, parent, born, frm, rcpts, body⟩ vr vb w1 hO1 (by have := H.out.2.2.2.1; omega) H.out.2.2.2.2.1 hA1 H.out.2.2.2.2.2
  have Hcm := Lib.hid hcm
  have Hb1 := Lib.hid (H.out.2.1.trans (hb1.mono H.out.2.1.size))
  clear hcm hO1 hA1 o1 o2 hb1 c0 c1 c2 c3 c4 c5 c6 c7 c8 c9 c10 c11
  generalize hmv : mailVal ⟨mid, parent, born, frm, rcpts, body⟩ vr vb = mv at Hcm ⊢
  clear hmv
  go_wp2_with fail
  refine (Hcm.out).mono ?_; rintro e w2 ⟨er, id, d', ρ', rfl, hout, hO2, hT2, hg2⟩
  have H2 := Lib.hid (And.intro hout (And.intro hO2 (And.intro ((StoStep.below (s := s) (d := d) (ρ := ρ) Hb1.out).trans hT2) hg2)))
  clear hout hO2 hT2 hg2
  go_wp2
  go_ret2
  obtain ⟨q1, q2, q3, q4⟩ := H2.out
  exact ⟨er, id, d', ρ', rfl, .inr (.inl ⟨rfl, q1⟩), q2, q3, q4.mono (by omega)⟩
 by_cases k3 : kind = 3
 ·subst k3
  go_enter Tryz.func32, Tryz.ntmps32
  go_wp2_with fail
  try rw [hW]
  refine (Hmk.out).mono ?_; rintro e w2 ⟨er, d', ρ', rfl, hout, hO2, hT2, hg2⟩
  have H2 := Lib.hid (And.intro hout (And.intro hO2 (And.intro ((StoStep.below (s := s) (d := d) (ρ := ρ) H.out.2.1).trans hT2) hg2)))
  clear hout hO2 hT2 hg2
  go_wp2
  go_ret2
  obtain ⟨q1, q2, q3, q4⟩ := H2.out
  exact ⟨er, 0, d', ρ', rfl, .inr (.inr (.inl ⟨rfl, rfl, q1⟩)), q2, q3, q4.mono (by omega)⟩
 by_cases k4 : kind = 4
 ·subst k4
  go_enter Tryz.func32, Tryz.ntmps32
  go_wp2_with fail
  try rw [hW]
  refine (Hmv.out).mono ?_; rintro e w2 ⟨er, d', ρ', rfl, hout, hO2, hT2, hg2⟩
  have H2 := Lib.hid (And.intro hout (And.intro hO2 (And.intro ((StoStep.below (s := s) (d := d) (ρ := ρ) H.out.2.1).trans hT2) hg2)))
  clear hout hO2 hT2 hg2
  go_wp2
  go_ret2
  obtain ⟨q1, q2, q3, q4⟩ := H2.out
  exact ⟨er, 0, d', ρ', rfl, .inr (.inr (.inr (.inl ⟨rfl, rfl, q1⟩))), q2, q3, q4.mono (by omega)⟩
 by_cases k5 : kind = 5
 ·subst k5
  go_enter Tryz.func32, Tryz.ntmps32
  go_wp2_with fail
  try rw [hW]
  refine (Hdr.out).mono ?_; rintro e w2 ⟨er, d', ρ', rfl, hout, hO2, hT2, hg2⟩
  have H2 := Lib.hid (And.intro hout (And.intro hO2 (And.intro ((StoStep.below (s := s) (d := d) (ρ := ρ) H.out.2.1).trans hT2) hg2)))
  clear hout hO2 hT2 hg2
  go_wp2
  go_ret2
  obtain ⟨q1, q2, q3, q4⟩ := H2.out
  exact ⟨er, 0, d', ρ', rfl, .inr (.inr (.inr (.inr (.inl ⟨rfl, rfl, q1⟩)))), q2, q3, q4.mono (by omega)⟩
 have b1 : (kind == 1) = false := by rw [beq_eq_false_iff_ne]; exact k1
 have b2 : (kind == 2) = false := by rw [beq_eq_false_iff_ne]; exact k2
 have b3 : (kind == 3) = false := by rw [beq_eq_false_iff_ne]; exact k3
 have b4 : (kind == 4) = false := by rw [beq_eq_false_iff_ne]; exact k4
 have b5 : (kind == 5) = false := by rw [beq_eq_false_iff_ne]; exact k5
 have Hk := Lib.hid (And.intro k1 (And.intro k2 (And.intro k3 (And.intro k4 k5))))
 clear k1 k2 k3 k4 k5
 go_enter Tryz.func32, Tryz.ntmps32
 go_wp2
 go_ret2
 try rw [hW]
 exact ⟨0, 0, d, ρ, rfl, .inr (.inr (.inr (.inr (.inr ⟨Hk.out, rfl, rfl, rfl⟩)))), H.out.2.2.1, StoStep.below H.out.2.1, (FsGo.refl H.out.1.ok).mono (by omega)⟩
set_option maxHeartbeats 32000000 in
theorem model_calls {mb : Nat} {M0 : ModD} {lv : Value} {bs : List BoxV} {σ : Nat → Prop} (o : OpV) (B : Nat) (w : World) (h : MdlAt w mb M0 lv bs σ) (hok : ModOk M0) (h199 : M0.list.length ≤ 199) (ha : OpArg w o B) (hσ : ∀ k, σ k → B ≤ k) (hBw : B ≤ w.heap.size) :
 Calls Tryz.prog 33 #[.pointer (some ⟨mb, 0, none⟩), .agg (opCells o).toArray] w (ModDone2 w mb σ (M0.run o)) := by
 obtain ⟨kind, oid, ⟨mid, parent, born, frm, rcpts, body⟩, ⟨kk, kr, kn⟩, dest, ar, cr, ab, cb⟩ := o
 have har := ha.r
 have hab := ha.b
 obtain ⟨tf, htf⟩ : ∃ tf, strL frm = tf := ⟨_, rfl⟩
 obtain ⟨n1, hn1⟩ : ∃ n1, rcpts.length = n1 := ⟨_, rfl⟩
 obtain ⟨n2, hn2⟩ : ∃ n2, body.length = n2 := ⟨_, rfl⟩
 obtain ⟨dn, hdn⟩ : ∃ dn : Nat, dest.toNat = dn := ⟨_, rfl⟩
 obtain ⟨K0, hK0⟩ : ∃ K0, w.heap.size = K0 := ⟨_, rfl⟩
 obtain ⟨W, hW⟩ : ∃ W, w.alloc (.cells #[.int .i64 kind, .int .i64 oid, .int .i64 mid, .int .i64 parent, .int .i64 born, .string tf, .slice ar n1 cr, .slice ab n2 cb, .int .i64 kk, .int .i64 kr, .int .i64 kn, .int .u8 (dn : Int)] 72) = W := ⟨_, rfl⟩
 have hbW : Below w.heap.size w W := by rw [← hW]; exact (Below.refl _ _).alloc (Nat.le_refl _) _
 have hM : W.heap[K0]? = some (.cells #[.int .i64 kind, .int .i64 oid, .int .i64 mid, .int .i64 parent, .int .i64 born, .string tf, .slice ar n1 cr, .slice ab n2 cb, .int .i64 kk, .int .i64 kr, .int .i64 kn, .int .u8 (dn : Int)] 72 (0, 0)) := by rw [← hW, ← hK0]; exact heap_alloc_new w _
 have hcl : W.cell? ⟨K0, 0, none⟩ = some (.int .i64 kind) ∧ W.cell? ⟨K0, 1, none⟩ = some (.int .i64 oid) ∧ W.cell? ⟨K0, 2, none⟩ = some (.int .i64 mid) ∧ W.cell? ⟨K0, 3, none⟩ = some (.int .i64 parent) ∧ W.cell? ⟨K0, 4, none⟩ = some (.int .i64 born) ∧ W.cell? ⟨K0, 5, none⟩ = some (.string tf) ∧ W.cell? ⟨K0, 6, none⟩ = some (.slice ar n1 cr) ∧ W.cell? ⟨K0, 7, none⟩ = some (.slice ab n2 cb) ∧ W.cell? ⟨K0, 8, none⟩ = some (.int .i64 kk) ∧ W.cell? ⟨K0, 9, none⟩ = some (.int .i64 kr) ∧ W.cell? ⟨K0, 10, none⟩ = some (.int .i64 kn) ∧ W.cell? ⟨K0, 11, none⟩ = some (.int .u8 (dn : Int)) := ⟨by rw [cell_of_row _ _ _ _ _ _ hM]; rfl, by rw [cell_of_row _ _ _ _ _ _ hM]; rfl, by rw [cell_of_row _ _ _ _ _ _ hM]; rfl, by rw [cell_of_row _ _ _ _ _ _ hM]; rfl, by rw [cell_of_row _ _ _ _ _ _ hM]; rfl, by rw [cell_of_row _ _ _ _ _ _ hM]; rfl, by rw [cell_of_row _ _ _ _ _ _ hM]; rfl, by rw [cell_of_row _ _ _ _ _ _ hM]; rfl, by rw [cell_of_row _ _ _ _ _ _ hM]; rfl, by rw [cell_of_row _ _ _ _ _ _ hM]; rfl, by rw [cell_of_row _ _ _ _ _ _ hM]; rfl, by rw [cell_of_row _ _ _ _ _ _ hM]; rfl⟩
 obtain ⟨c0, c1, c2, c3, c4, c5, c6, c7, c8, c9, c10, c11⟩ := hcl
 have hval : Value.agg (opCells ⟨kind, oid, ⟨mid, parent, born, frm, rcpts, body⟩, ⟨kk, kr, kn⟩, dest, ar, cr, ab, cb⟩).toArray = .agg #[.int .i64 kind, .int .i64 oid, .int .i64 mid, .int .i64 parent, .int .i64 born, .string tf, .slice ar n1 cr, .slice ab n2 cb, .int .i64 kk, .int .i64 kr, .int .i64 kn, .int .u8 (dn : Int)] := by
  unfold opCells
  dsimp only
  rw [htf, hn1, hn2, hdn]
 rw [hval]
 have haW := ha.below hbW
 have hA := h.below hbW
 have hbl : B ≤ W.heap.size := Nat.le_trans hBw hbW.size
 have harg : MdlArg W σ ⟨mid, parent, born, frm, rcpts, body⟩ (.slice ar rcpts.length cr) (.slice ab body.length cb) :=
  ⟨haW.r, haW.b, haW.nr, haW.nb, fun k e => ⟨by have := ha.own k (.inl e); omega, fun g => by have := ha.own k (.inl e); have := hσ k g; omega⟩, fun k e => ⟨by have := ha.own k (.inr e); omega, fun g => by have := ha.own k (.inr e); have := hσ k g; omega⟩, ha.ln⟩
 have hcm : Calls Tryz.prog 39 #[.pointer (some ⟨mb, 0, none⟩), .agg #[.int .i64 mid, .int .i64 parent, .int .i64 born, .string tf, .slice ar n1 cr, .slice ab n2 cb]] W (ModDone2 W mb σ (M0.commit ⟨mid, parent, born, frm, rcpts, body⟩)) := by
  have := mCommit_calls ⟨mid, parent, born, frm, rcpts, body⟩ (.slice ar rcpts.length cr) (.slice ab body.length cb) W hA hok harg
  unfold mailVal at this
  dsimp only at this
  rw [htf, hn1, hn2] at this
  exact this
 have hbc : Calls Tryz.prog 74 #[.pointer (some ⟨mb, 0, none⟩), .agg #[.int .i64 mid, .int .i64 parent, .int .i64 born, .string tf, .slice ar n1 cr, .slice ab n2 cb]] W (ModDone2 W mb σ (M0.bounce ⟨mid, parent, born, frm, rcpts, body⟩)) := by
  have := mBounce_calls ⟨mid, parent, born, frm, rcpts, body⟩ (.slice ar rcpts.length cr) (.slice ab body.length cb) W hA hok h199 harg ha.pa
  unfold mailVal at this
  dsimp only at this
  rw [htf, hn1, hn2] at this
  exact this
 have hmk : Calls Tryz.prog 75 #[.pointer (some ⟨mb, 0, none⟩), .int .i64 oid, .agg #[.int .i64 kk, .int .i64 kr, .int .i64 kn]] W (ModDone1 W mb σ (M0.mark oid ⟨kk, kr, kn⟩)) := mMark_calls oid ⟨kk, kr, kn⟩ W hA hok
 have hmv := mMove_calls oid dest W hA hok.n
 rw [hdn] at hmv
 have hdr := mDrop_calls oid W hA hok.n
 have Hcm := Lib.hid hcm
 have Hbc := Lib.hid hbc
 have Hmk := Lib.hid hmk
 have Hmv := Lib.hid hmv
 have Hdr := Lib.hid hdr
 have H := Lib.hid (And.intro hA hbW)
 have Hr : Hid (M0.run ⟨kind, oid, ⟨mid, parent, born, frm, rcpts, body⟩, ⟨kk, kr, kn⟩, dest, ar, cr, ab, cb⟩ = if kind = 1 then M0.commit ⟨mid, parent, born, frm, rcpts, body⟩ else if kind = 2 then M0.bounce ⟨mid, parent, born, frm, rcpts, body⟩ else if kind = 3 then (0, (M0.mark oid ⟨kk, kr, kn⟩).1, (M0.mark oid ⟨kk, kr, kn⟩).2) else if kind = 4 then (0, (M0.move oid dest).1, (M0.move oid dest).2) else if kind = 5 then (0, (M0.drop oid).1, (M0.drop oid).2) else (0, 0, M0)) := Lib.hid rfl
 generalize M0.run ⟨kind, oid, ⟨mid, parent, born, frm, rcpts, body⟩, ⟨kk, kr, kn⟩, dest, ar, cr, ab, cb⟩ = r0 at Hr ⊢
 generalize M0.commit ⟨mid, parent, born, frm, rcpts, body⟩ = r1 at Hr Hcm
 generalize M0.bounce ⟨mid, parent, born, frm, rcpts, body⟩ = r2 at Hr Hbc
 generalize M0.mark oid ⟨kk, kr, kn⟩ = r3 at Hr Hmk
 generalize M0.move oid dest = r4 at Hr Hmv
 generalize M0.drop oid = r5 at Hr Hdr
 clear hcm hbc hmk hmv hdr h hbW hA hok ha haW har hab hM hval htf hn1 hn2 hdn harg hσ hBw hbl
 by_cases k1 : kind = 1
 ·subst k1
  have hr := Hr.out
  rw [if_pos rfl] at hr
  subst hr
  obtain ⟨a1, a2, a3⟩ := r0
  clear Hr
  go_enter Tryz.func33, Tryz.ntmps33
  go_wp2_with fail
  try rw [hW]
  refine (Hcm.out).mono ?_; rintro e w2 ⟨lv', bs', σ', rfl, hA2, hT2⟩
  have H2 := Lib.hid (And.intro hA2 ((MdlStep.below H.out.2).trans hT2))
  clear hA2 hT2
  go_wp2
  go_ret2
  exact ⟨lv', bs', σ', rfl, H2.out.1, H2.out.2⟩
 by_cases k2 : kind = 2
 ·subst k2
  have hr := Hr.out
  rw [if_neg (by decide), if_pos rfl] at hr
  subst hr
  obtain ⟨a1, a2, a3⟩ := r0
  clear Hr
  go_enter Tryz.func33, Tryz.ntmps33
  go_wp2_with fail
  try rw [hW]
  refine (Hbc.out).mono ?_; rintro e w2 ⟨lv', bs', σ', rfl, hA2, hT2⟩
  have H2 := Lib.hid (And.intro hA2 ((MdlStep.below H.out.2).trans hT2))
  clear hA2 hT2
  go_wp2
  go_ret2
  exact ⟨lv', bs', σ', rfl, H2.out.1, H2.out.2⟩
 by_cases k3 : kind = 3
 ·subst k3
  have hr := Hr.out
  rw [if_neg (by decide), if_neg (by decide), if_pos rfl] at hr
  subst hr
  obtain ⟨a2, a3⟩ := r3
  try dsimp only at Hmk
  clear Hr
  go_enter Tryz.func33, Tryz.ntmps33
  go_wp2_with fail
  try rw [hW]
  refine (Hmk.out).mono ?_; rintro e w2 ⟨lv', bs', σ', rfl, hA2, hT2⟩
  have H2 := Lib.hid (And.intro hA2 ((MdlStep.below H.out.2).trans hT2))
  clear hA2 hT2
  go_wp2
  go_ret2
  exact ⟨lv', bs', σ', rfl, H2.out.1, H2.out.2⟩
 by_cases k4 : kind = 4
 ·subst k4
  have hr := Hr.out
  rw [if_neg (by decide), if_neg (by decide), if_neg (by decide), if_pos rfl] at hr
  subst hr
  obtain ⟨a2, a3⟩ := r4
  try dsimp only at Hmv
  clear Hr
  go_enter Tryz.func33, Tryz.ntmps33
  go_wp2_with fail
  try rw [hW]
  refine (Hmv.out).mono ?_; rintro e w2 ⟨lv', bs', σ', rfl, hA2, hT2⟩
  have H2 := Lib.hid (And.intro hA2 ((MdlStep.below H.out.2).trans hT2))
  clear hA2 hT2
  go_wp2
  go_ret2
  exact ⟨lv', bs', σ', rfl, H2.out.1, H2.out.2⟩
 by_cases k5 : kind = 5
 ·subst k5
  have hr := Hr.out
  rw [if_neg (by decide), if_neg (by decide), if_neg (by decide), if_neg (by decide), if_pos rfl] at hr
  subst hr
  obtain ⟨a2, a3⟩ := r5
  try dsimp only at Hdr
  clear Hr
  go_enter Tryz.func33, Tryz.ntmps33
  go_wp2_with fail
  try rw [hW]
  refine (Hdr.out).mono ?_; rintro e w2 ⟨lv', bs', σ', rfl, hA2, hT2⟩
  have H2 := Lib.hid (And.intro hA2 ((MdlStep.below H.out.2).trans hT2))
  clear hA2 hT2
  go_wp2
  go_ret2
  exact ⟨lv', bs', σ', rfl, H2.out.1, H2.out.2⟩
 have b1 : (kind == 1) = false := by rw [beq_eq_false_iff_ne]; exact k1
 have b2 : (kind == 2) = false := by rw [beq_eq_false_iff_ne]; exact k2
 have b3 : (kind == 3) = false := by rw [beq_eq_false_iff_ne]; exact k3
 have b4 : (kind == 4) = false := by rw [beq_eq_false_iff_ne]; exact k4
 have b5 : (kind == 5) = false := by rw [beq_eq_false_iff_ne]; exact k5
 have hr := Hr.out
 rw [if_neg k1, if_neg k2, if_neg k3, if_neg k4, if_neg k5] at hr
 subst hr
 clear k1 k2 k3 k4 k5 Hr
 go_enter Tryz.func33, Tryz.ntmps33
 go_wp2
 go_ret2
 try rw [hW]
 exact ⟨_, _, _, rfl, H.out.1, MdlStep.below H.out.2⟩
open Go.RowKit
set_option maxRecDepth 100000 in
set_option maxHeartbeats 1000000 in
theorem sameMarks_calls (v1 v2 : Value) (ks : List MarkD) (w : World) (h1 : RdM w v1 ks) (h2 : RdM w v2 ks) :
 Calls Tryz.prog 30 #[v1, v2] w fun e w' => e = .returned (.bool true) ∧ Below w.heap.size w w' := by
 obtain ⟨a1, cap1, rfl, hl1, hc1⟩ := h1.form
 obtain ⟨a2, cap2, rfl, hl2, hc2⟩ := h2.form
 go_enter Tryz.func30, Tryz.ntmps30
 go_wp2
 go_loopw [5] (fun i wr => ∃ j : Nat, j ≤ ks.length ∧ i = .int .i64 j ∧ Below w.heap.size w wr) (fun i _ => ks.length - (intOf i).toNat)
 case atStart => exact ⟨0, Nat.zero_le _, rfl, Below.refl _ _⟩
 case round =>
  obtain ⟨j, hj, rfl, hbw⟩ := hrel
  by_cases hlt : j < ks.length
  ·obtain ⟨k, hk⟩ : ∃ k, ks[j]? = some k := ⟨_, List.getElem?_eq_getElem hlt⟩
   obtain ⟨b1, o1, c1, e1, _, p0, p1, p2⟩ := RdL.at3 (h1.below (Nat.le_refl _) hbw) hk
   obtain ⟨b2, o2, c2, e2, _, q0, q1, q2⟩ := RdL.at3 (h2.below (Nat.le_refl _) hbw) hk
   cases e1; cases e2
   obtain ⟨kind, rcpt, n⟩ := k
   simp only at p0 p1 p2 q0 q1 q2
   have hi0 : (0 : Int) ≤ (j : Int) := by omega
   have hi1 : (j : Int) < (ks.length : Int) := by omega
   go_wp2
   go_quiet (fail)
   go_wp2
   go_roundw
   case rel => exact ⟨j + 1, by omega, by simp, below_drewN hbw _⟩
   case measure => simp [intOf] <;> omega
  ·have hje : j = ks.length := by omega
   subst hje
   go_wp2
   go_ret
   exact ⟨rfl, hbw⟩
end Go.Proofs.YtffnbkmigapmjaaGreatDoor
