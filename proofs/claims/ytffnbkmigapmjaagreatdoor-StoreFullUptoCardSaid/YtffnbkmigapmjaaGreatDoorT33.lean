/- Printed out of the texts of wip/tpl. -/
import Derived.Test.YtffnbkmigapmjaaGreatDoorT30
import Derived.Test.YtffnbkmigapmjaaGreatDoorT32
set_option linter.unusedSimpArgs false
set_option linter.unusedVariables false
set_option maxRecDepth 100000
namespace Go.Proofs.YtffnbkmigapmjaaGreatDoor
open Go.RowKit Go.Maps
structure OpV where
 kind : Int
 id : Int
 m : MailD
 k : MarkD
 dest : UInt8
 ar : Option Addr
 cr : Nat
 ab : Option Addr
 cb : Nat
def opCells (o : OpV) : List Value := [.int .i64 o.kind, .int .i64 o.id, .int .i64 o.m.id, .int .i64 o.m.parent, .int .i64 o.m.born, .string (strL o.m.frm), .slice o.ar o.m.rcpts.length o.cr, .slice o.ab o.m.body.length o.cb, .int .i64 o.k.kind, .int .i64 o.k.rcpt, .int .i64 o.k.n, .int .u8 (o.dest.toNat : Int)]
def OpV.light (o : OpV) : Bool := decide (o.m.rcpts.length ≤ 20) && (decide (o.m.body.length ≤ 500) && decide (o.m.frm.length ≤ 100))
def lightB (l : List OpV) : Bool := decide (l.length ≤ 60) && l.all OpV.light
abbrev RdO := RdL 12 opCells
set_option maxHeartbeats 8000000 in
theorem light14_calls (v : Value) (ops : List OpV) (w : World) (h : RdO w v ops) :
 Calls Tryz.prog 31 #[v] w fun e w' => e = .returned (.bool (lightB ops)) ∧ Below w.heap.size w w' := by
 obtain ⟨a, cap, rfl, hl, hc⟩ := h.form
 have H := Lib.hid h
 clear h
 go_enter Tryz.func31, Tryz.ntmps31
 go_wp2
 go_loopw [3] (fun i wr => ∃ j : Nat, j ≤ ops.length ∧ i = .int .i64 j ∧ Hid ((ops.take j).all OpV.light = true ∧ (0 < j → ops.length ≤ 60)) ∧ Below w.heap.size w wr) (fun i _ => ops.length - (intOf i).toNat)
 case atStart => exact ⟨0, Nat.zero_le _, rfl, Lib.hid ⟨rfl, fun e => by omega⟩, Below.refl _ _⟩
 case round =>
  obtain ⟨j, hj, rfl, hP, hbw⟩ := hrel
  by_cases hlt : j < ops.length
  ·obtain ⟨o, ho⟩ : ∃ o, ops[j]? = some o := ⟨_, List.getElem?_eq_getElem hlt⟩
   obtain ⟨b, off, cap', hsl, hbl, h3⟩ := RdL.at (H.out.below (Nat.le_refl _) hbw) ho
   have c5 := h3 5 _ rfl
   have c6 := h3 6 _ rfl
   have c7 := h3 7 _ rfl
   rw [← Nat.add_assoc] at c5 c6 c7
   cases hsl
   have hj0 : (0 : Int) ≤ (j : Int) := by omega
   have hj1 : (j : Int) < (ops.length : Int) := by omega
   have Ho := Lib.hid ho
   clear ho h3
   by_cases h60 : ops.length ≤ 60
   ·have h60' : ¬ ((60 : Int) < (ops.length : Int)) := by omega
    have hsz := strL_size o.m.frm
    obtain ⟨okind, oid, om, ok, od, oar, ocr, oab, ocb⟩ := o
    obtain ⟨mid, mp, mb, frm, rcpts, body⟩ := om
    dsimp only at c5 c6 c7 hsz
    have hlo : Hid ((OpV.mk okind oid ⟨mid, mp, mb, frm, rcpts, body⟩ ok od oar ocr oab ocb).light = (decide (rcpts.length ≤ 20) && (decide (body.length ≤ 500) && decide (frm.length ≤ 100)))) := Lib.hid rfl
    have hbad : Hid ((OpV.mk okind oid ⟨mid, mp, mb, frm, rcpts, body⟩ ok od oar ocr oab ocb).light = false → lightB ops = false) := Lib.hid (fun e => by
     unfold lightB
     have : ops.all OpV.light = false := by
      cases hx : ops.all OpV.light with
      | false => rfl
      | true => have := List.all_eq_true.1 hx _ (List.mem_of_getElem? Ho.out); rw [e] at this; cases this
     rw [this, Bool.and_false])
    have hok : Hid ((OpV.mk okind oid ⟨mid, mp, mb, frm, rcpts, body⟩ ok od oar ocr oab ocb).light = true → (ops.take (j + 1)).all OpV.light = true) := Lib.hid (fun e => by
     rw [List.take_add_one, Ho.out, List.all_append, hP.out.1]
     show (true && ([(OpV.mk okind oid ⟨mid, mp, mb, frm, rcpts, body⟩ ok od oar ocr oab ocb)].all OpV.light)) = true
     rw [List.all_cons, e]; rfl)
    obtain ⟨tf, htf⟩ : ∃ tf, strL frm = tf := ⟨_, rfl⟩
    rw [htf] at c5 hsz
    clear htf
    by_cases h1 : rcpts.length ≤ 20
    ·by_cases h2 : body.length ≤ 500
     ·by_cases h3 : frm.length ≤ 100
      ·have i1 : ¬ ((20 : Int) < (rcpts.length : Int)) := by omega
       have i2 : ¬ ((500 : Int) < (body.length : Int)) := by omega
       have i3 : ¬ ((100 : Int) < (tf.size : Int)) := by omega
       have Hd := Lib.hid (hok.out (by rw [hlo.out, decide_eq_true h1, decide_eq_true h2, decide_eq_true h3]; rfl))
       have H6 := Lib.hid h60
       clear h1 h2 h3 hlo hbad hok hP
       go_wp2
       go_roundw
       case rel => exact ⟨j + 1, by omega, by simp, Lib.hid ⟨Hd.out, fun _ => H6.out⟩, hbw⟩
       case measure => simp [intOf] <;> omega
      ·have i1 : ¬ ((20 : Int) < (rcpts.length : Int)) := by omega
       have i2 : ¬ ((500 : Int) < (body.length : Int)) := by omega
       have i3 : (100 : Int) < (tf.size : Int) := by omega
       have Hb := Lib.hid (hbad.out (by rw [hlo.out, decide_eq_false h3]; simp))
       clear h1 h2 h3 hlo hbad hok hP
       go_wp2
       go_ret
       rw [Hb.out]
       exact ⟨rfl, hbw⟩
     ·have i1 : ¬ ((20 : Int) < (rcpts.length : Int)) := by omega
      have i2 : (500 : Int) < (body.length : Int) := by omega
      have Hb := Lib.hid (hbad.out (by rw [hlo.out, decide_eq_false h2]; simp))
      clear h1 h2 hlo hbad hok hP
      go_wp2
      go_ret
      rw [Hb.out]
      exact ⟨rfl, hbw⟩
    ·have i1 : (20 : Int) < (rcpts.length : Int) := by omega
     have Hb := Lib.hid (hbad.out (by rw [hlo.out, decide_eq_false h1]; simp))
     clear h1 hlo hbad hok hP
     go_wp2
     go_ret
     rw [Hb.out]
     exact ⟨rfl, hbw⟩
   ·have h60' : (60 : Int) < (ops.length : Int) := by omega
    have Hb : Hid (lightB ops = false) := Lib.hid (by unfold lightB; rw [decide_eq_false h60]; rfl)
    go_wp2
    go_ret
    rw [Hb.out]
    exact ⟨rfl, hbw⟩
  ·have hje : j = ops.length := by omega
   subst hje
   have hjl : ¬ ((ops.length : Int) < (ops.length : Int)) := by omega
   have Hb : Hid (lightB ops = true) := Lib.hid (by
    have h1 := hP.out.1
    rw [List.take_of_length_le (Nat.le_refl _)] at h1
    unfold lightB
    rw [h1, Bool.and_true]
    by_cases h0 : 0 < ops.length
    ·exact decide_eq_true (hP.out.2 h0)
    ·exact decide_eq_true (by omega))
   clear hP
   go_wp2
   go_ret
   rw [Hb.out]
   exact ⟨rfl, hbw⟩
structure StpP (S : Nat → FsD → Int → FsD → Prop) (w0 : World) (d : StoD) (ρ0 : Rho) (s : Nat) (bx : List (Nat × Obj)) (i : Nat) (fs : FsD) (ρ : Rho) (w : World) : Prop where
 at_ : StoOk w s { d with fs := fs } ρ
 step : StoStep w0 s d ρ0 w { d with fs := fs } ρ
 run : Run S d.fs i fs
 go : FsGo d.fs fs i
 hbx : ∀ p ∈ bx, w.heap[p.1]? = some p.2
 new : ∀ p ∈ bx, ¬ stoOwn s { d with fs := fs } ρ p.1
structure StepsDone (S : Nat → FsD → Int → FsD → Prop) (n : Nat) (w : World) (s : Nat) (d : StoD) (ρ : Rho) (e : Ending) (w' : World) (er : Int) (fs : FsD) (ρ' : Rho) : Prop where
 ret : e = .returned (.int .i64 er)
 out : Outcome S n d.fs er fs
 at_ : StoOk w' s { d with fs := fs, down := d.down || decide (er = 2) } ρ'
 step : StoStep w s d ρ w' { d with fs := fs, down := d.down || decide (er = 2) } ρ'
 go : FsGo d.fs fs n
def StpX (S : Nat → FsD → Int → FsD → Prop) (n : Nat) (w0 : World) (d : StoD) (ρ0 : Rho) (s : Nat) (er : Int) (w : World) : Prop :=
 ∃ fs ρ, StepsDone S n w0 s d ρ0 (.returned (.int .i64 er)) w er fs ρ
theorem Outcome.mono_n {S : Nat → FsD → Int → FsD → Prop} {n i : Nat} {d a b : FsD} {er : Int} (hi : i < n) (h : Run S d i a) (hs : S i a er b) (he : er ≠ 0) : Outcome S n d er b := .inr ⟨he, i, a, hi, h, hs⟩
theorem stp_after {S : Nat → FsD → Int → FsD → Prop} {n : Nat} {w0 : World} {d : StoD} {ρ0 : Rho} {s : Nat} {bx : List (Nat × Obj)} {i : Nat} {fs fs' : FsD} {ρ ρ' : Rho} {w w' : World} {er : Int} (hi : i < n)
 (h : StpP S w0 d ρ0 s bx i fs ρ w) (hF : FsAt w' d.fb fs' ρ') (hst : FsStep w ρ w' ρ') (hS : S i fs er fs') (hgo : FsGo fs fs' 1) :
 w'.cell? ⟨s, 3, none⟩ = some (.bool d.down) ∧ w'.frozen? ⟨s, 3, none⟩ = false ∧
 (er = 0 → ∃ fs2 ρ2, StpP S w0 d ρ0 s bx (i + 1) fs2 ρ2 (w'.setCell ⟨s, 3, none⟩ (.bool d.down))) ∧ (er ≠ 0 → StpX S n w0 d ρ0 s er (w'.setCell ⟨s, 3, none⟩ (.bool (d.down || decide (er = 2))))) := by
 obtain ⟨h1, h2⟩ := h.at_.at_.fsStep (d := { d with fs := fs }) hF hst
 have hO1 := h.at_.step h1 h2 hgo.1 h.at_.last h.at_.nf
 have hc := cells4 h1.hd
 refine ⟨hc.1.2.2.2, hc.2 3, fun e0 => ?_, fun e0 => ?_⟩
 ·subst e0
  obtain ⟨h3, h4⟩ := h1.setDown d.down
  have h24 := h2.trans h4
  refine ⟨fs', ρ', hO1.step h3 h4 hO1.ok hO1.last hO1.nf, (h.step.trans h2).trans h4, .step h.run hS, h.go.trans hgo, fun p hp => h24.keeps.heap (h.hbx p hp) (h.new p hp), fun p hp g => ?_⟩
  have hl := (Array.getElem?_eq_some_iff.1 (h.hbx p hp)).1
  rcases h24.grow p.1 g with e | e
  ·exact h.new p hp e
  ·omega
 ·obtain ⟨h3, h4⟩ := h1.setDown (d.down || decide (er = 2))
  exact ⟨fs', ρ', rfl, Outcome.mono_n hi h.run hS e0, hO1.step h3 h4 hO1.ok hO1.last hO1.nf, (h.step.trans h2).trans h4, ((h.go.trans hgo).mono (by omega))⟩
theorem steps_gen {S : Nat → FsD → Int → FsD → Prop} {n : Nat} {w0 W : World} {d : StoD} {ρ0 : Rho} {s : Nat} {bx : List (Nat × Obj)} {cb : Nat} {cl : List Value} (hn : cl.length = n) (hn1 : n ≤ 100) (hrow : (cb, Obj.cells cl.toArray 171 (0, 0)) ∈ bx)
 (h0 : StpP S w0 d ρ0 s bx 0 d.fs ρ0 W)
 (hst : ∀ i f, cl[i]? = some f → ∃ g fst caps, f = .func (.func g) fst caps ∧ Enters Tryz.prog g ∧ ∀ fs ρ w, StpP S w0 d ρ0 s bx i fs ρ w → Calls Tryz.prog g (fst ++ caps) w fun e w' => ∃ er fs' ρ', e = .returned (.int .i64 er) ∧ FsAt w' d.fb fs' ρ' ∧ FsStep w ρ w' ρ' ∧ S i fs er fs' ∧ FsGo fs fs' 1) :
 Calls Tryz.prog 67 #[.pointer (some ⟨s, 0, none⟩), .slice (some ⟨cb, 0, none⟩) n n] W fun e w' => ∃ er fs ρ', StepsDone S n w0 s d ρ0 e w' er fs ρ' := by
 have hrd : ∀ i w, (∃ fs ρ, StpP S w0 d ρ0 s bx i fs ρ w) → RdL 1 v1 w (.slice (some ⟨cb, 0, none⟩) n n) cl := fun i w ⟨fs, ρ, h⟩ => by
  have hb := h.hbx _ hrow
  by_cases hne : cl = []
  ·subst hne; subst hn; exact .inl ⟨_, _, rfl, by decide, rfl⟩
  ·refine .inr ⟨cb, 0, n, by rw [hn], hne, by omega, by omega, (Array.getElem?_eq_some_iff.1 hb).1, ?_⟩
   intro i x hx j u hu
   match j, hu with
   | 0, hu =>
    cases hu
    rw [Nat.zero_add, Nat.mul_one, Nat.add_zero, cell_of_row _ _ _ _ _ _ hb, List.getElem?_toArray]
    exact hx
   | j + 1, hu => cases hu
 have := steps_calls s (.slice (some ⟨cb, 0, none⟩) n n) cl W (fun i w => ∃ fs ρ, StpP S w0 d ρ0 s bx i fs ρ w) (StpX S n w0 d ρ0 s) hrd (fun i f hf => by
  obtain ⟨g, fst, caps, rfl, hent, hc⟩ := hst i f hf
  have hi : i < n := by rw [← hn]; exact (List.getElem?_eq_some_iff.1 hf).1
  refine ⟨g, fst, caps, rfl, hent, ?_⟩
  rintro w ⟨fs, ρ, hP⟩
  refine (hc fs ρ w hP).mono ?_
  rintro e w' ⟨er, fs', ρ', he, hF, hst, hS, hgo⟩
  obtain ⟨c1, c2, c3, c4⟩ := stp_after hi hP hF hst hS hgo
  exact ⟨er, _, he, c1, c2, c3, c4⟩) (by omega) ⟨d.fs, ρ0, h0⟩
 refine this.mono ?_
 rintro e w' (⟨rfl, fs, ρ, hP⟩ | ⟨er, hne, rfl, fs, ρ, hX⟩)
 ·have hd : ({ d with fs := fs, down := d.down || decide ((0 : Int) = 2) } : StoD) = { d with fs := fs } := by cases h : d.down <;> simp [h]
  rw [hn] at hP
  exact ⟨0, fs, ρ, rfl, .inl ⟨rfl, hP.run⟩, by rw [hd]; exact hP.at_, by rw [hd]; exact hP.step, hP.go⟩
 ·exact ⟨er, fs, ρ, hX⟩
end Go.Proofs.YtffnbkmigapmjaaGreatDoor
