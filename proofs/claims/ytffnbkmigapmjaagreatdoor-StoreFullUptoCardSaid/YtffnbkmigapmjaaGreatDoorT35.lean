/- Printed out of the texts of wip/tpl. -/
import Derived.Test.YtffnbkmigapmjaaGreatDoorT31
import Derived.Test.YtffnbkmigapmjaaGreatDoorT34
set_option linter.unusedSimpArgs false
set_option linter.unusedVariables false
set_option maxRecDepth 100000
namespace Go.Proofs.YtffnbkmigapmjaaGreatDoor
open Go.RowKit Go.Maps
def atD (d : StoD) (id : Int) : UInt8 × Int := if d.down = true then (0, 2) else if keepQ.contains (d.whr.at id) = true then (d.whr.at id, 0) else (0, 4)
set_option maxHeartbeats 8000000 in
theorem at_calls (s : Nat) (d : StoD) (ρ : Rho) (id : Int) (w : World) (h : StoOk w s d ρ) (hid : -9223372036854775808 ≤ id ∧ id ≤ 9223372036854775807) :
 Calls Tryz.prog 60 #[.pointer (some ⟨s, 0, none⟩), .int .i64 id] w fun e w' => e = .returned (.tuple #[.int .u8 ((atD d id).1.toNat : Int), .int .i64 (atD d id).2]) ∧ Below w.heap.size w w' := by
 have hrd := sready_calls s d ρ w h.at_
 have hwh := fun w1 (hb : Below w.heap.size w w1) => where_calls s d ρ w1 (h.below hb).at_ id hid
 obtain ⟨q, hq⟩ : ∃ q, d.whr.at id = q := ⟨_, rfl⟩
 obtain ⟨dn, hdn⟩ : ∃ dn, d.down = dn := ⟨_, rfl⟩
 have Hat : Hid (atD d id = if dn = true then (0, 2) else if keepQ.contains q = true then (q, 0) else (0, 4)) := Lib.hid (by unfold atD; rw [hq, hdn])
 have hin := in_keep q
 obtain ⟨bq, hbq⟩ : ∃ bq, keepQ.contains q = bq := ⟨_, rfl⟩
 rw [hbq] at hin Hat
 rw [hq] at hwh
 rw [hdn] at hrd
 have Hrd := Lib.hid hrd
 have Hwh := Lib.hid hwh
 have Hin := Lib.hid hin
 clear hrd hwh hin h hid hq hdn hbq
 cases dn with
 | true =>
  have Ha : Hid (atD d id = (0, 2)) := Lib.hid (by rw [Hat.out]; rfl)
  clear Hat
  go_enter Tryz.func60, Tryz.ntmps60
  go_wp2_with fail
  refine (Hrd.out).mono ?_; rintro e w1 ⟨rfl, hb1⟩
  go_wp2
  go_ret2
  rw [Ha.out]
  exact ⟨rfl, hb1⟩
 | false =>
  cases bq with
  | true =>
   have Ha : Hid (atD d id = (q, 0)) := Lib.hid (by rw [Hat.out]; rfl)
   obtain ⟨qn, hqn⟩ : ∃ qn : Nat, q.toNat = qn := ⟨_, rfl⟩
   rw [hqn] at Hwh Hin
   have Hqn := Lib.hid hqn
   clear Hat hqn
   go_enter Tryz.func60, Tryz.ntmps60
   go_wp2_with fail
   refine (Hrd.out).mono ?_; rintro e w1 ⟨rfl, hb1⟩
   have Hb1 := Lib.hid hb1
   clear hb1
   go_wp2_with fail
   refine (Hwh.out w1 Hb1.out).mono ?_; rintro e w2 ⟨rfl, hb2⟩
   have hb2' := Hb1.out.trans (hb2.mono Hb1.out.size)
   clear hb2
   go_wp2_with fail
   refine (Hin.out w2).mono ?_; rintro e w3 ⟨rfl, hw3⟩; have hw3 := hw3.symm; subst hw3
   go_wp2
   go_ret2
   rw [Ha.out, Hqn.out]
   exact ⟨rfl, hb2'⟩
  | false =>
   have Ha : Hid (atD d id = (0, 4)) := Lib.hid (by rw [Hat.out]; rfl)
   obtain ⟨qn, hqn⟩ : ∃ qn : Nat, q.toNat = qn := ⟨_, rfl⟩
   rw [hqn] at Hwh Hin
   clear Hat hqn
   go_enter Tryz.func60, Tryz.ntmps60
   go_wp2_with fail
   refine (Hrd.out).mono ?_; rintro e w1 ⟨rfl, hb1⟩
   have Hb1 := Lib.hid hb1
   clear hb1
   go_wp2_with fail
   refine (Hwh.out w1 Hb1.out).mono ?_; rintro e w2 ⟨rfl, hb2⟩
   have hb2' := Hb1.out.trans (hb2.mono Hb1.out.size)
   clear hb2
   go_wp2_with fail
   refine (Hin.out w2).mono ?_; rintro e w3 ⟨rfl, hw3⟩; have hw3 := hw3.symm; subst hw3
   go_wp2
   go_ret2
   rw [Ha.out]
   exact ⟨rfl, hb2'⟩
def DropR (d : StoD) (id er : Int) (d' : StoD) : Prop :=
 ((atD d id).2 ≠ 0 ∧ er = (atD d id).2 ∧ d' = d) ∨
 ((atD d id).2 = 0 ∧ ∃ fs2, Outcome (unlS (nameD (atD d id).1 id)) 2 d.fs er fs2 ∧ ((er ≠ 0 ∧ d' = { d with fs := fs2, down := d.down || decide (er = 2) }) ∨ (er = 0 ∧ d' = { d with fs := fs2, whr := d.whr.del id })))
structure OpDone (R : Int → StoD → Prop) (w : World) (s : Nat) (d : StoD) (ρ : Rho) (e : Ending) (w' : World) (er : Int) (d' : StoD) (ρ' : Rho) : Prop where
 ret : e = .returned (.int .i64 er)
 out : R er d'
 at_ : StoOk w' s d' ρ'
 step : StoStep w s d ρ w' d' ρ'
 go : FsGo d.fs d'.fs 9
set_option maxHeartbeats 16000000 in
theorem drop_calls (s : Nat) (d : StoD) (ρ : Rho) (id : Int) (w : World) (h : StoOk w s d ρ) (hll : d.fs.loose.length ≤ 800000) (hid : -9223372036854775808 ≤ id ∧ id ≤ 9223372036854775807) :
 Calls Tryz.prog 22 #[.pointer (some ⟨s, 0, none⟩), .int .i64 id] w fun e w' => ∃ er d' ρ', OpDone (DropR d id) w s d ρ e w' er d' ρ' := by
 have hat := at_calls s d ρ id w h hid
 have hul := fun w1 (hb : Below w.heap.size w w1) => sunlink_calls s d ρ (atD d id).1 id w1 (h.below hb) (by omega)
 have HR : Hid (∀ er d', DropR d id er d' ↔ (((atD d id).2 ≠ 0 ∧ er = (atD d id).2 ∧ d' = d) ∨ ((atD d id).2 = 0 ∧ ∃ fs2, Outcome (unlS (nameD (atD d id).1 id)) 2 d.fs er fs2 ∧ ((er ≠ 0 ∧ d' = { d with fs := fs2, down := d.down || decide (er = 2) }) ∨ (er = 0 ∧ d' = { d with fs := fs2, whr := d.whr.del id }))))) := Lib.hid (fun _ _ => Iff.rfl)
 obtain ⟨⟨q, ae⟩, hqa⟩ : ∃ r, atD d id = r := ⟨_, rfl⟩
 rw [hqa] at hat hul HR
 obtain ⟨qn, hqn⟩ : ∃ qn : Nat, q.toNat = qn := ⟨_, rfl⟩
 dsimp only at hat hul HR
 rw [hqn] at hat hul
 have Hat := Lib.hid hat
 have Hul := Lib.hid hul
 have H := Lib.hid (And.intro h hid)
 clear hat hul h hid hqa hqn hll
 by_cases h0 : ae = 0
 ·subst h0
  go_enter Tryz.func22, Tryz.ntmps22
  go_wp2_with fail
  refine (Hat.out).mono ?_; rintro e w1 ⟨rfl, hb1⟩
  have Hb1 := Lib.hid hb1
  clear hb1
  go_wp2_with fail
  refine (Hul.out w1 Hb1.out).mono ?_; rintro e w2 ⟨er, fs2, ρ2, rfl, ho, hO2, hT2, hg2⟩
  have H2 := Lib.hid (And.intro ho (And.intro hO2 (And.intro ((StoStep.below (s := s) (d := d) (ρ := ρ) Hb1.out).trans hT2) hg2)))
  clear ho hO2 hT2 hg2
  by_cases h1 : er = 0
  ·subst h1
   have hdn : ({ d with fs := fs2, down := d.down || decide ((0 : Int) = 2) } : StoD) = { d with fs := fs2 } := by cases hx : d.down <;> simp [hx]
   have H2' : Hid (StoOk w2 s { d with fs := fs2 } ρ2 ∧ StoStep w s d ρ w2 { d with fs := fs2 } ρ2) := Lib.hid (by
    obtain ⟨_, q2, q3, _⟩ := H2.out
    rw [hdn] at q2 q3
    exact ⟨q2, q3⟩)
   have c2 := (cells4 H2'.out.1.at_.hd).1.2.2.1
   obtain ⟨w3, hrun, hm3, hk3⟩ := wh_del H2'.out.1.at_.whr id H.out.2 0
   obtain ⟨hA3, hT3⟩ := H2'.out.1.at_.setMap hm3 hk3
   have hO3 := H2'.out.1.step hA3 hT3 H2'.out.1.ok H2'.out.1.last H2'.out.1.nf
   have H3 := Lib.hid (And.intro hO3 (H2'.out.2.trans hT3))
   dsimp only at c2 hrun
   clear hm3 hk3 hA3 hT3 hO3 hdn
   go_wp2
   go_ret
   exact ⟨0, { d with fs := fs2, whr := d.whr.del id }, ρ2, rfl, (HR.out _ _).2 (.inr ⟨by first | exact rfl | exact trivial, fs2, H2.out.1, .inr ⟨rfl, rfl⟩⟩), H3.out.1, H3.out.2, H2.out.2.2.2.mono (by omega)⟩
  ·have h1' : (er == 0) = false := by simpa using h1
   have H1 := Lib.hid h1
   clear h1
   go_wp2
   go_ret
   exact ⟨er, _, ρ2, rfl, (HR.out _ _).2 (.inr ⟨by first | exact rfl | exact trivial, fs2, H2.out.1, .inl ⟨H1.out, rfl⟩⟩), H2.out.2.1, H2.out.2.2.1, H2.out.2.2.2.mono (by omega)⟩
 ·have h0' : (ae == 0) = false := by simpa using h0
  have H0 := Lib.hid h0
  clear h0
  go_enter Tryz.func22, Tryz.ntmps22
  go_wp2_with fail
  refine (Hat.out).mono ?_; rintro e w1 ⟨rfl, hb1⟩
  have Hb1 := Lib.hid hb1
  clear hb1
  go_wp2
  go_ret
  exact ⟨ae, d, ρ, rfl, (HR.out _ _).2 (.inl ⟨H0.out, rfl, rfl⟩), H.out.1.below Hb1.out, StoStep.below Hb1.out, (FsGo.refl H.out.1.ok).mono (by omega)⟩
def MoveR (d : StoD) (id : Int) (t : UInt8) (er : Int) (d' : StoD) : Prop :=
 (keepQ.contains t = false ∧ er = 1 ∧ d' = d) ∨
 (keepQ.contains t = true ∧ (((atD d id).2 ≠ 0 ∧ er = (atD d id).2 ∧ d' = d) ∨
  ((atD d id).2 = 0 ∧ (((atD d id).1 = t ∧ er = 0 ∧ d' = d) ∨
    ((atD d id).1 ≠ t ∧ ∃ fs2, Outcome (renS (nameD (atD d id).1 id) (nameD t id)) 2 d.fs er fs2 ∧ ((er ≠ 0 ∧ d' = { d with fs := fs2, down := d.down || decide (er = 2) }) ∨ (er = 0 ∧ d' = { d with fs := fs2, whr := d.whr.put id t })))))))
set_option maxHeartbeats 16000000 in
theorem move_calls (s : Nat) (d : StoD) (ρ : Rho) (id : Int) (t : UInt8) (w : World) (h : StoOk w s d ρ) (hll : d.fs.loose.length ≤ 800000) (hwl : d.whr.length ≤ 1000000) (hid : -9223372036854775808 ≤ id ∧ id ≤ 9223372036854775807) :
 Calls Tryz.prog 23 #[.pointer (some ⟨s, 0, none⟩), .int .i64 id, .int .u8 t.toNat] w fun e w' => ∃ er d' ρ', OpDone (MoveR d id t) w s d ρ e w' er d' ρ' := by
 have hin := in_keep t
 have hat := at_calls s d ρ id w h hid
 have hrn := fun w1 (hb : Below w.heap.size w w1) => srename_calls s d ρ id (atD d id).1 t w1 (h.below hb) (by omega)
 have HR : Hid (∀ er d', ((keepQ.contains t = false ∧ er = 1 ∧ d' = d) ∨
 (keepQ.contains t = true ∧ (((atD d id).2 ≠ 0 ∧ er = (atD d id).2 ∧ d' = d) ∨
  ((atD d id).2 = 0 ∧ (((atD d id).1 = t ∧ er = 0 ∧ d' = d) ∨
    ((atD d id).1 ≠ t ∧ ∃ fs2, Outcome (renS (nameD (atD d id).1 id) (nameD t id)) 2 d.fs er fs2 ∧ ((er ≠ 0 ∧ d' = { d with fs := fs2, down := d.down || decide (er = 2) }) ∨ (er = 0 ∧ d' = { d with fs := fs2, whr := d.whr.put id t }))))))) ) → MoveR d id t er d') := Lib.hid (fun _ _ h => h)
 obtain ⟨⟨q, ae⟩, hqa⟩ : ∃ r, atD d id = r := ⟨_, rfl⟩
 rw [hqa] at hat hrn HR
 obtain ⟨qn, hqn⟩ : ∃ qn : Nat, q.toNat = qn := ⟨_, rfl⟩
 obtain ⟨tn, htn⟩ : ∃ tn : Nat, t.toNat = tn := ⟨_, rfl⟩
 obtain ⟨bt, hbt⟩ : ∃ bt, keepQ.contains t = bt := ⟨_, rfl⟩
 dsimp only at hat hrn HR
 rw [hqn] at hat hrn
 rw [htn] at hin hrn ⊢
 rw [hbt] at hin
 have Hin := Lib.hid hin
 have Hat := Lib.hid hat
 have Hrn := Lib.hid hrn
 have Hy := Lib.hid (And.intro hbt (And.intro hqn htn))
 have H := Lib.hid (And.intro h (And.intro hid hwl))
 clear hin hat hrn h hid hqa hqn htn hll hwl hbt
 cases bt with
 | false =>
  go_enter Tryz.func23, Tryz.ntmps23
  go_wp2_with fail
  refine (Hin.out w).mono ?_; rintro e w1 ⟨rfl, hw1⟩; have hw1 := hw1.symm; subst hw1
  go_wp2
  go_ret
  exact ⟨1, d, ρ, rfl, HR.out _ _ (.inl ⟨Hy.out.1, rfl, rfl⟩), H.out.1, StoStep.refl _ _ _ _, (FsGo.refl H.out.1.ok).mono (by omega)⟩
 | true =>
  by_cases h0 : ae = 0
  ·subst h0
   by_cases hqt : q = t
   ·have hqe : qn = tn := by rw [← Hy.out.2.1, ← Hy.out.2.2, hqt]
    have Hqt := Lib.hid hqt
    clear hqt
    subst hqe
    go_enter Tryz.func23, Tryz.ntmps23
    go_wp2_with fail
    refine (Hin.out w).mono ?_; rintro e w1 ⟨rfl, hw1⟩; have hw1 := hw1.symm; subst hw1
    go_wp2_with fail
    refine (Hat.out).mono ?_; rintro e w1 ⟨rfl, hb1⟩
    have Hb1 := Lib.hid hb1
    clear hb1
    go_wp2
    go_ret
    exact ⟨0, d, ρ, rfl, HR.out _ _ (.inr ⟨Hy.out.1, .inr ⟨by first | exact rfl | exact trivial, .inl ⟨Hqt.out, rfl, rfl⟩⟩⟩), H.out.1.below Hb1.out, StoStep.below Hb1.out, (FsGo.refl H.out.1.ok).mono (by omega)⟩
   ·have hne : ((qn : Int) == (tn : Int)) = false := by
     rw [beq_eq_false_iff_ne]; intro e; exact hqt (UInt8.toNat_inj.1 (by rw [Hy.out.2.1, Hy.out.2.2]; omega))
    have Hqt := Lib.hid hqt
    clear hqt
    go_enter Tryz.func23, Tryz.ntmps23
    go_wp2_with fail
    refine (Hin.out w).mono ?_; rintro e w1 ⟨rfl, hw1⟩; have hw1 := hw1.symm; subst hw1
    go_wp2_with fail
    refine (Hat.out).mono ?_; rintro e w1 ⟨rfl, hb1⟩
    have Hb1 := Lib.hid hb1
    clear hb1
    go_wp2_with fail
    refine (Hrn.out w1 Hb1.out).mono ?_; rintro e w2 ⟨er, fs2, ρ2, rfl, ho, hO2, hT2, hg2⟩
    have H2 := Lib.hid (And.intro ho (And.intro hO2 (And.intro ((StoStep.below (s := s) (d := d) (ρ := ρ) Hb1.out).trans hT2) hg2)))
    clear ho hO2 hT2 hg2
    by_cases h1 : er = 0
    ·subst h1
     have hdn : ({ d with fs := fs2, down := d.down || decide ((0 : Int) = 2) } : StoD) = { d with fs := fs2 } := by cases hx : d.down <;> simp [hx]
     have H2' : Hid (StoOk w2 s { d with fs := fs2 } ρ2 ∧ StoStep w s d ρ w2 { d with fs := fs2 } ρ2) := Lib.hid (by
      obtain ⟨_, q2, q3, _⟩ := H2.out
      rw [hdn] at q2 q3
      exact ⟨q2, q3⟩)
     have c2 := (cells4 H2'.out.1.at_.hd).1.2.2.1
     obtain ⟨w3, hrun, hm3, hk3⟩ := wh_put H2'.out.1.at_.whr (by have := H.out.2.2; dsimp only; unfold maxLen; omega) id H.out.2.1 t
     rw [Hy.out.2.2] at hrun
     obtain ⟨hA3, hT3⟩ := H2'.out.1.at_.setMap hm3 hk3
     have hO3 := H2'.out.1.step hA3 hT3 H2'.out.1.ok H2'.out.1.last H2'.out.1.nf
     have H3 := Lib.hid (And.intro hO3 (H2'.out.2.trans hT3))
     dsimp only at c2 hrun
     clear hm3 hk3 hA3 hT3 hO3 hdn
     go_wp2
     go_ret
     exact ⟨0, { d with fs := fs2, whr := d.whr.put id t }, ρ2, rfl, HR.out _ _ (.inr ⟨Hy.out.1, .inr ⟨by first | exact rfl | exact trivial, .inr ⟨Hqt.out, fs2, H2.out.1, .inr ⟨rfl, rfl⟩⟩⟩⟩), H3.out.1, H3.out.2, H2.out.2.2.2.mono (by omega)⟩
    ·have h1' : (er != 0) = true := by simpa using h1
     have H1 := Lib.hid h1
     clear h1
     go_wp2
     go_ret
     exact ⟨er, _, ρ2, rfl, HR.out _ _ (.inr ⟨Hy.out.1, .inr ⟨by first | exact rfl | exact trivial, .inr ⟨Hqt.out, fs2, H2.out.1, .inl ⟨H1.out, rfl⟩⟩⟩⟩), H2.out.2.1, H2.out.2.2.1, H2.out.2.2.2.mono (by omega)⟩
  ·have h0' : (ae != 0) = true := by simpa using h0
   have H0 := Lib.hid h0
   clear h0
   go_enter Tryz.func23, Tryz.ntmps23
   go_wp2_with fail
   refine (Hin.out w).mono ?_; rintro e w1 ⟨rfl, hw1⟩; have hw1 := hw1.symm; subst hw1
   go_wp2_with fail
   refine (Hat.out).mono ?_; rintro e w1 ⟨rfl, hb1⟩
   have Hb1 := Lib.hid hb1
   clear hb1
   go_wp2
   go_ret
   exact ⟨ae, d, ρ, rfl, HR.out _ _ (.inr ⟨Hy.out.1, .inl ⟨H0.out, rfl, rfl⟩⟩), H.out.1.below Hb1.out, StoStep.below Hb1.out, (FsGo.refl H.out.1.ok).mono (by omega)⟩
def BounceR (d : StoD) (m : MailD) (er id : Int) (d' : StoD) : Prop :=
 ((goodNew m = false ∨ workQ.contains (d.whr.at m.parent) = false) ∧ er = 1 ∧ id = 0 ∧ d' = d) ∨
 (goodNew m = true ∧ workQ.contains (d.whr.at m.parent) = true ∧ ((d.down = true ∧ er = 2 ∧ id = 0 ∧ d' = d) ∨
  (d.down = false ∧ ∃ e1 id1 d1, AddR d m e1 id1 d1 ∧ ((e1 ≠ 0 ∧ er = e1 ∧ id = 0 ∧ d' = d1) ∨ (e1 = 0 ∧ id = id1 ∧ DropR d1 m.parent er d')))))
structure BounceDone (w : World) (s : Nat) (d : StoD) (ρ : Rho) (m : MailD) (e : Ending) (w' : World) (er id : Int) (d' : StoD) (ρ' : Rho) : Prop where
 ret : e = .returned (.tuple #[.int .i64 id, .int .i64 er])
 out : BounceR d m er id d'
 at_ : StoOk w' s d' ρ'
 step : StoStep w s d ρ w' d' ρ'
 go : FsGo d.fs d'.fs 18
set_option maxHeartbeats 16000000 in
theorem bounce_calls (s : Nat) (d : StoD) (ρ : Rho) (m : MailD) (vr vb : Value) (w : World) (h : StoOk w s d ρ) (hll : d.fs.loose.length ≤ 700000) (hwl : d.whr.length ≤ 1000000) (ha : MailArg w s d ρ m vr vb) (hpr : -9223372036854775808 ≤ m.parent ∧ m.parent ≤ 9223372036854775807) :
 Calls Tryz.prog 37 #[.pointer (some ⟨s, 0, none⟩), mailVal m vr vb] w fun e w' => ∃ er id d' ρ', BounceDone w s d ρ m e w' er id d' ρ' := by
 obtain ⟨ar, capr, rfl, hlr, hcr⟩ := ha.r.form
 obtain ⟨ab, capb, rfl, hlb, hcb⟩ := ha.b.form
 obtain ⟨W, hW⟩ : ∃ W, w.alloc (.cells #[.int .i64 m.id, .int .i64 m.parent, .int .i64 m.born, .string (strL m.frm), .slice ar m.rcpts.length capr, .slice ab m.body.length capb] 29) = W := ⟨_, rfl⟩
 have hbW : Below w.heap.size w W := by rw [← hW]; exact (Below.refl _ _).alloc (Nat.le_refl _) _
 have hM : W.heap[w.heap.size]? = some (.cells #[.int .i64 m.id, .int .i64 m.parent, .int .i64 m.born, .string (strL m.frm), .slice ar m.rcpts.length capr, .slice ab m.body.length capb] 29 (0, 0)) := by rw [← hW]; exact heap_alloc_new w _
 have hWs : w.heap.size < W.heap.size := (Array.getElem?_eq_some_iff.1 hM).1
 have hnoM : ¬ stoOwn s d ρ w.heap.size := fun e => by have := stoOwn_lt h.at_ e; omega
 have hO := h.below hbW
 have haW := ha.below hbW
 have hgd := sgood_calls m _ _ W haW.r haW.b (fun l hl => by have := ha.sm.2 l hl; omega) (by have := ha.sm.1; omega) hO.mx
 have hwh := fun w1 (hb : Below W.heap.size W w1) => where_calls s d ρ w1 (hO.below hb).at_ m.parent hpr
 have hrdy := fun w1 (hb : Below W.heap.size W w1) => sready_calls s d ρ w1 (hO.below hb).at_
 have hadd := fun w1 (hb : Below W.heap.size W w1) (hg : goodNew m = true) => add_calls s d ρ m _ _ w1 (hO.below hb) (by omega) hwl (haW.below hb) (small_new hg)
 obtain ⟨⟨x0, x1, x2, x3, x4, x5⟩, _⟩ := mail_cells hM
 have hcl := fun w1 (hb : Below W.heap.size W w1) => (mail_cells ((hb.block _ hWs).trans hM)).1
 obtain ⟨q, hq⟩ : ∃ q, d.whr.at m.parent = q := ⟨_, rfl⟩
 rw [hq] at hwh
 obtain ⟨bq, hbq⟩ : ∃ bq, workQ.contains q = bq := ⟨_, rfl⟩
 have hin := in_work q
 rw [hbq] at hin
 obtain ⟨qn, hqn⟩ : ∃ qn : Nat, q.toNat = qn := ⟨_, rfl⟩
 rw [hqn] at hwh hin
 unfold mailVal at hgd hadd ⊢
 have Hok := Lib.hid (And.intro h.ok (And.intro hpr hll))
 have H0 := Lib.hid (And.intro hbW hO)
 obtain ⟨gn, hgn⟩ : ∃ gn, goodNew m = gn := ⟨_, rfl⟩
 obtain ⟨dn, hdn⟩ : ∃ dn, d.down = dn := ⟨_, rfl⟩
 rw [hgn] at hgd
 rw [hdn] at hrdy
 have Hgn := Lib.hid (And.intro hgn (And.intro hdn (show workQ.contains (d.whr.at m.parent) = bq by rw [hq, hbq])))
 have HM := Lib.hid (And.intro hM (And.intro hnoM hWs))
 obtain ⟨tf, htf⟩ : ∃ tf, strL m.frm = tf := ⟨_, rfl⟩
 obtain ⟨mi, hmi⟩ : ∃ mi, m.id = mi := ⟨_, rfl⟩
 obtain ⟨mp, hmp⟩ : ∃ mp, m.parent = mp := ⟨_, rfl⟩
 obtain ⟨mb, hmb⟩ : ∃ mb, m.born = mb := ⟨_, rfl⟩
 obtain ⟨nr, hnr⟩ : ∃ nr, m.rcpts.length = nr := ⟨_, rfl⟩
 obtain ⟨nb, hnb⟩ : ∃ nb, m.body.length = nb := ⟨_, rfl⟩
 rw [hmp] at hwh
 rw [htf, hmi, hmp, hmb, hnr, hnb] at hgd hadd hcl hW HM
 rw [htf, hmi, hmp, hmb, hnr, hnb]
 rw [htf] at x3; rw [hmi] at x0; rw [hmp] at x1; rw [hmb] at x2; rw [hnr] at x4; rw [hnb] at x5
 have Hmp := Lib.hid hmp
 have Hgd := Lib.hid hgd
 have Hwh := Lib.hid hwh
 have Hin := Lib.hid hin
 have Hrdy := Lib.hid hrdy
 have Hadd := Lib.hid hadd
 have Hcl := Lib.hid hcl
 clear hgd hwh hin hrdy hadd hcl hgn hdn htf hmi hmp hmb hnr hnb h hll hwl ha hO haW hM hWs hbW hlr hcr hlb hcb hq hbq hqn hpr hnoM
 subst hW
 have hback : ∀ w1, Below (w.alloc (.cells #[.int .i64 mi, .int .i64 mp, .int .i64 mb, .string tf, .slice ar nr capr, .slice ab nb capb] 29)).heap.size (w.alloc (.cells #[.int .i64 mi, .int .i64 mp, .int .i64 mb, .string tf, .slice ar nr capr, .slice ab nb capb] 29)) w1 → StoOk w1 s d ρ ∧ StoStep w s d ρ w1 d ρ := fun w1 hb => ⟨H0.out.2.below hb, StoStep.below (H0.out.1.trans (hb.mono H0.out.1.size))⟩
 have Hback := Lib.hid hback
 clear hback
 cases gn with
 | false =>
  go_enter Tryz.func37, Tryz.ntmps37
  go_wp2_with fail
  refine (Hgd.out).mono ?_; rintro e w1 ⟨rfl, hb1⟩
  have H1 := Lib.hid (Hback.out _ hb1)
  clear hb1 x0 x1 x2 x3 x4 x5
  go_wp2
  go_ret2
  exact ⟨1, 0, d, ρ, rfl, .inl ⟨.inl Hgn.out.1, rfl, rfl, rfl⟩, H1.out.1, H1.out.2, (FsGo.refl Hok.out.1).mono (by omega)⟩
 | true =>
  cases bq with
  | false =>
   go_enter Tryz.func37, Tryz.ntmps37
   go_wp2_with fail
   refine (Hgd.out).mono ?_; rintro e w1 ⟨rfl, hb1⟩
   have x1 := (Hcl.out w1 hb1).2.1
   have Hb1 := Lib.hid hb1
   clear hb1 x0 x2 x3 x4 x5
   go_wp2_with fail
   refine (Hwh.out w1 Hb1.out).mono ?_; rintro e w2 ⟨rfl, hb2⟩
   have hb12 := Hb1.out.trans (hb2.mono Hb1.out.size)
   have H1 := Lib.hid (Hback.out _ hb12)
   clear hb2 hb12 x1
   go_wp2_with fail
   refine (Hin.out w2).mono ?_; rintro e w3 ⟨rfl, hw3⟩; have hw3 := hw3.symm; subst hw3
   go_wp2
   go_ret2
   exact ⟨1, 0, d, ρ, rfl, .inl ⟨.inr Hgn.out.2.2, rfl, rfl, rfl⟩, H1.out.1, H1.out.2, (FsGo.refl Hok.out.1).mono (by omega)⟩
  | true =>
   cases dn with
   | true =>
    go_enter Tryz.func37, Tryz.ntmps37
    go_wp2_with fail
    refine (Hgd.out).mono ?_; rintro e w1 ⟨rfl, hb1⟩
    have x1 := (Hcl.out w1 hb1).2.1
    have Hb1 := Lib.hid hb1
    clear hb1 x0 x2 x3 x4 x5
    go_wp2_with fail
    refine (Hwh.out w1 Hb1.out).mono ?_; rintro e w2 ⟨rfl, hb2⟩
    have hb12 := Hb1.out.trans (hb2.mono Hb1.out.size)
    have Hb2 := Lib.hid hb12
    clear hb2 hb12 x1
    go_wp2_with fail
    refine (Hin.out w2).mono ?_; rintro e w3 ⟨rfl, hw3⟩; have hw3 := hw3.symm; subst hw3
    go_wp2_with fail
    refine (Hrdy.out w2 Hb2.out).mono ?_; rintro e w4 ⟨rfl, hb4⟩
    have H1 := Lib.hid (Hback.out _ (Hb2.out.trans (hb4.mono Hb2.out.size)))
    clear hb4
    go_wp2
    go_ret2
    exact ⟨2, 0, d, ρ, rfl, .inr ⟨Hgn.out.1, Hgn.out.2.2, .inl ⟨Hgn.out.2.1, rfl, rfl, rfl⟩⟩, H1.out.1, H1.out.2, (FsGo.refl Hok.out.1).mono (by omega)⟩
   | false =>
    go_enter Tryz.func37, Tryz.ntmps37
    go_wp2_with fail
    refine (Hgd.out).mono ?_; rintro e w1 ⟨rfl, hb1⟩
    have x1 := (Hcl.out w1 hb1).2.1
    have Hb1 := Lib.hid hb1
    clear hb1 x0 x2 x3 x4 x5
    go_wp2_with fail
    refine (Hwh.out w1 Hb1.out).mono ?_; rintro e w2 ⟨rfl, hb2⟩
    have hb12 := Hb1.out.trans (hb2.mono Hb1.out.size)
    have Hb2 := Lib.hid hb12
    clear hb2 hb12 x1
    go_wp2_with fail
    refine (Hin.out w2).mono ?_; rintro e w3 ⟨rfl, hw3⟩; have hw3 := hw3.symm; subst hw3
    go_wp2_with fail
    refine (Hrdy.out w2 Hb2.out).mono ?_; rintro e w4 ⟨rfl, hb4⟩
    have hb24 := Hb2.out.trans (hb4.mono Hb2.out.size)
    obtain ⟨x0, x1, x2, x3, x4, x5⟩ := Hcl.out w4 hb24
    have Hb4 := Lib.hid hb24
    clear hb4 hb24
    go_wp2_with fail
    refine (Hadd.out w4 Hb4.out Hgn.out.1).mono ?_; rintro e w5 ⟨e1, id1, d1, ρ1, rfl, hout, hO5, hT5, hg5⟩
    have hM5 := hT5.keeps.heap ((Hb4.out.block _ HM.out.2.2).trans HM.out.1) HM.out.2.1
    have x1' := (mail_cells hM5).1.2.1
    have hdr := drop_calls s d1 ρ1 m.parent w5 hO5 (by have := hg5.2; have := Hok.out.2.2; omega) Hok.out.2.1
    rw [Hmp.out] at hdr
    have Hdr := Lib.hid hdr
    have H5 := Lib.hid (And.intro hout (And.intro hO5 (And.intro ((Hback.out _ Hb4.out).2.trans hT5) hg5)))
    clear hout hO5 hT5 hg5 x0 x1 x2 x3 x4 x5 hdr hM5
    by_cases h0 : e1 = 0
    ·subst h0
     go_wp2_with fail
     refine (Hdr.out).mono ?_; rintro e w6 ⟨er, d6, ρ6, rfl, ho6, hO6, hT6, hg6⟩
     have H6 := Lib.hid (And.intro ho6 (And.intro hO6 (And.intro (H5.out.2.2.1.trans hT6) (H5.out.2.2.2.trans hg6))))
     clear ho6 hO6 hT6 hg6 x1'
     go_wp2
     go_ret2
     exact ⟨er, id1, d6, ρ6, rfl, .inr ⟨Hgn.out.1, Hgn.out.2.2, .inr ⟨Hgn.out.2.1, 0, id1, d1, H5.out.1, .inr ⟨by first | exact rfl | exact trivial, rfl, by rw [Hmp.out]; exact H6.out.1⟩⟩⟩, H6.out.2.1, H6.out.2.2.1, H6.out.2.2.2⟩
    ·have h0' : (e1 != 0) = true := by simpa using h0
     have Hn0 := Lib.hid h0
     clear h0 x1'
     go_wp2
     go_ret2
     obtain ⟨q1, q2, q3, q4⟩ := H5.out
     exact ⟨e1, 0, d1, ρ1, rfl, .inr ⟨Hgn.out.1, Hgn.out.2.2, .inr ⟨Hgn.out.2.1, e1, id1, d1, q1, .inl ⟨Hn0.out, rfl, rfl, rfl⟩⟩⟩, q2, q3, q4.mono (by omega)⟩
end Go.Proofs.YtffnbkmigapmjaaGreatDoor
