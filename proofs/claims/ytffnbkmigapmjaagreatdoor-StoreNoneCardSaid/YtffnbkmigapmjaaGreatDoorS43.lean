/-
  The walks of store.good, Commit.
-/
import Derived.Test.YtffnbkmigapmjaaGreatDoorS42
set_option linter.unusedSimpArgs false
set_option linter.unusedVariables false
set_option maxRecDepth 100000
namespace Go.Proofs.YtffnbkmigapmjaaGreatDoor
open Go.RowKit Go.Maps
def goodNew (m : MailD) : Bool := ({ m with id := 999999999 } : MailD).good
set_option maxHeartbeats 8000000 in
theorem sgood_calls (m : MailD) (vr vb : Value) (w : World) (hr : RdS w vr m.rcpts) (hb : RdB w vb m.body) (hsr : ∀ l ∈ m.rcpts, l.length < 4294967281) (hsf : m.frm.length < 4294967281) (hmax : MaxOk w) :
    Calls Tryz.prog 63 #[mailVal m vr vb] w fun e w' => e = .returned (.bool (goodNew m)) ∧ Below w.heap.size w w' := by
  obtain ⟨ar, capr, rfl, hlr, hcr⟩ := hr.form
  obtain ⟨ab, capb, rfl, hlb, hcb⟩ := hb.form
  obtain ⟨mid, parent, born, frm, rcpts, body⟩ := m
  unfold mailVal
  dsimp only at hlr hlb hr hb hsr hsf ⊢
  obtain ⟨W2, hW2⟩ : ∃ W2, w.alloc (.cells #[.int .i64 999999999, .int .i64 parent, .int .i64 born, .string (strL frm), .slice ar rcpts.length capr, .slice ab body.length capb] 29) = W2 := ⟨_, rfl⟩
  have hb2 : Below w.heap.size w W2 := by rw [← hW2]; exact (Below.refl _ _).alloc (Nat.le_refl _) _
  have hgd := envGood_calls ⟨999999999, parent, born, frm, rcpts, body⟩ (.slice ar rcpts.length capr) (.slice ab body.length capb) W2 (hr.below (Nat.le_refl _) hb2) (hb.below (Nat.le_refl _) hb2) hsr hsf (hmax.below hb2)
  have Hgn : Hid ((⟨999999999, parent, born, frm, rcpts, body⟩ : MailD).good = goodNew ⟨mid, parent, born, frm, rcpts, body⟩) := Lib.hid rfl
  rw [Hgn.out] at hgd
  unfold mailVal at hgd
  dsimp only at hgd
  obtain ⟨tf, htf⟩ : ∃ tf, strL frm = tf := ⟨_, rfl⟩
  rw [htf] at hgd hW2 ⊢
  generalize goodNew ⟨mid, parent, born, frm, rcpts, body⟩ = gn at hgd ⊢
  have Hgd := Lib.hid hgd
  have Hb2 := Lib.hid hb2
  clear hgd hr hb hsr hsf hmax hb2 htf Hgn
  subst hW2
  go_enter Tryz.func63, Tryz.ntmps63
  go_wp2_with fail
  refine (Hgd.out).mono ?_; rintro e w1 ⟨rfl, hb1⟩
  have hb := Hb2.out.trans (hb1.mono Hb2.out.size)
  clear hb1
  go_wp2
  go_ret
  exact ⟨rfl, hb⟩
def CommitR (d : StoD) (m : MailD) (er id : Int) (d' : StoD) : Prop :=
  ((goodNew m = false ∨ m.parent ≠ 0) ∧ er = 1 ∧ id = 0 ∧ d' = d) ∨ (goodNew m = true ∧ m.parent = 0 ∧ d.down = true ∧ er = 2 ∧ id = 0 ∧ d' = d) ∨ (goodNew m = true ∧ m.parent = 0 ∧ d.down = false ∧ AddR d m er id d')
structure CommitDone (w : World) (s : Nat) (d : StoD) (ρ : Rho) (m : MailD) (e : Ending) (w' : World) (er id : Int) (d' : StoD) (ρ' : Rho) : Prop where
  ret : e = .returned (.tuple #[.int .i64 id, .int .i64 er])
  out : CommitR d m er id d'
  at_ : StoOk w' s d' ρ'
  step : StoStep w s d ρ w' d' ρ'
  go : FsGo d.fs d'.fs 9
set_option maxHeartbeats 16000000 in
theorem commit_calls (s : Nat) (d : StoD) (ρ : Rho) (m : MailD) (vr vb : Value) (w : World) (h : StoOk w s d ρ) (hll : d.fs.loose.length ≤ 800000) (hwl : d.whr.length ≤ 1000000) (ha : MailArg w s d ρ m vr vb) :
    Calls Tryz.prog 24 #[.pointer (some ⟨s, 0, none⟩), mailVal m vr vb] w fun e w' => ∃ er id d' ρ', CommitDone w s d ρ m e w' er id d' ρ' := by
  obtain ⟨ar, capr, rfl, hlr, hcr⟩ := ha.r.form
  obtain ⟨ab, capb, rfl, hlb, hcb⟩ := ha.b.form
  obtain ⟨W, hW⟩ : ∃ W, w.alloc (.cells #[.int .i64 m.id, .int .i64 m.parent, .int .i64 m.born, .string (strL m.frm), .slice ar m.rcpts.length capr, .slice ab m.body.length capb] 29) = W := ⟨_, rfl⟩
  have hbW : Below w.heap.size w W := by rw [← hW]; exact (Below.refl _ _).alloc (Nat.le_refl _) _
  have hM : W.heap[w.heap.size]? = some (.cells #[.int .i64 m.id, .int .i64 m.parent, .int .i64 m.born, .string (strL m.frm), .slice ar m.rcpts.length capr, .slice ab m.body.length capb] 29 (0, 0)) := by rw [← hW]; exact heap_alloc_new w _
  have hWs : w.heap.size < W.heap.size := (Array.getElem?_eq_some_iff.1 hM).1
  have hO := h.below hbW
  have haW := ha.below hbW
  have hgd := sgood_calls m _ _ W haW.r haW.b (fun l hl => by have := ha.sm.2 l hl; omega) (by have := ha.sm.1; omega) hO.mx
  have hrdy := fun w1 (hb : Below W.heap.size W w1) => sready_calls s d ρ w1 (hO.below hb).at_
  have hadd := fun w1 (hb : Below W.heap.size W w1) => add_calls s d ρ m _ _ w1 (hO.below hb) hll hwl (haW.below hb)
  obtain ⟨⟨x0, x1, x2, x3, x4, x5⟩, _⟩ := mail_cells hM
  have hcl := fun w1 (hb : Below W.heap.size W w1) => (mail_cells ((hb.block _ hWs).trans hM)).1
  unfold mailVal at hgd hadd ⊢
  have Hok := Lib.hid h.ok
  have H0 := Lib.hid (And.intro hbW hO)
  obtain ⟨gn, hgn⟩ : ∃ gn, goodNew m = gn := ⟨_, rfl⟩
  obtain ⟨dn, hdn⟩ : ∃ dn, d.down = dn := ⟨_, rfl⟩
  rw [hgn] at hgd
  rw [hdn] at hrdy
  have Hgn := Lib.hid (And.intro hgn hdn)
  obtain ⟨tf, htf⟩ : ∃ tf, strL m.frm = tf := ⟨_, rfl⟩
  obtain ⟨mi, hmi⟩ : ∃ mi, m.id = mi := ⟨_, rfl⟩
  obtain ⟨mp, hmp⟩ : ∃ mp, m.parent = mp := ⟨_, rfl⟩
  obtain ⟨mb, hmb⟩ : ∃ mb, m.born = mb := ⟨_, rfl⟩
  obtain ⟨nr, hnr⟩ : ∃ nr, m.rcpts.length = nr := ⟨_, rfl⟩
  obtain ⟨nb, hnb⟩ : ∃ nb, m.body.length = nb := ⟨_, rfl⟩
  rw [htf, hmi, hmp, hmb, hnr, hnb] at hgd hadd hcl hW
  rw [htf, hmi, hmp, hmb, hnr, hnb]
  rw [htf] at x3; rw [hmi] at x0; rw [hmp] at x1; rw [hmb] at x2; rw [hnr] at x4; rw [hnb] at x5
  have Hmp := Lib.hid hmp
  have Hgd := Lib.hid hgd
  have Hrdy := Lib.hid hrdy
  have Hadd := Lib.hid hadd
  have Hcl := Lib.hid hcl
  clear hgd hrdy hadd hcl hgn hdn htf hmi hmp hmb hnr hnb h hll hwl ha hO haW hM hWs hbW hlr hcr hlb hcb
  subst hW
  cases gn with
  | false =>
    go_enter Tryz.func24, Tryz.ntmps24
    go_wp2_with fail
    refine (Hgd.out).mono ?_; rintro e w1 ⟨rfl, hb1⟩
    have H1 := Lib.hid (And.intro (H0.out.2.below hb1) (StoStep.below (s := s) (d := d) (ρ := ρ) (H0.out.1.trans (hb1.mono H0.out.1.size))))
    clear hb1 x0 x1 x2 x3 x4 x5
    go_wp2
    go_ret2
    exact ⟨1, 0, d, ρ, rfl, .inl ⟨.inl Hgn.out.1, rfl, rfl, rfl⟩, H1.out.1, H1.out.2, (FsGo.refl Hok.out).mono (by omega)⟩
  | true =>
    by_cases hp : mp = 0
    · have hp' : (mp != 0) = false := by simpa using hp
      have Hp := Lib.hid hp
      clear hp
      cases dn with
      | true =>
        go_enter Tryz.func24, Tryz.ntmps24
        go_wp2_with fail
        refine (Hgd.out).mono ?_; rintro e w1 ⟨rfl, hb1⟩
        have x1 := (Hcl.out w1 hb1).2.1
        have Hb1 := Lib.hid hb1
        clear hb1 x0 x2 x3 x4 x5
        go_wp2_with fail
        refine (Hrdy.out w1 Hb1.out).mono ?_; rintro e w2 ⟨rfl, hb2⟩
        have hb12 := Hb1.out.trans (hb2.mono Hb1.out.size)
        have H1 := Lib.hid (And.intro (H0.out.2.below hb12) (StoStep.below (s := s) (d := d) (ρ := ρ) (H0.out.1.trans (hb12.mono H0.out.1.size))))
        clear hb2 hb12 x1
        go_wp2
        go_ret2
        exact ⟨2, 0, d, ρ, rfl, .inr (.inl ⟨Hgn.out.1, Hmp.out.trans Hp.out, Hgn.out.2, rfl, rfl, rfl⟩), H1.out.1, H1.out.2, (FsGo.refl Hok.out).mono (by omega)⟩
      | false =>
        go_enter Tryz.func24, Tryz.ntmps24
        go_wp2_with fail
        refine (Hgd.out).mono ?_; rintro e w1 ⟨rfl, hb1⟩
        have x1 := (Hcl.out w1 hb1).2.1
        have Hb1 := Lib.hid hb1
        clear hb1 x0 x2 x3 x4 x5
        go_wp2_with fail
        refine (Hrdy.out w1 Hb1.out).mono ?_; rintro e w2 ⟨rfl, hb2⟩
        have hb12 := Hb1.out.trans (hb2.mono Hb1.out.size)
        obtain ⟨x0, x1, x2, x3, x4, x5⟩ := Hcl.out w2 hb12
        have Hb12 := Lib.hid hb12
        clear hb2 hb12
        go_wp2_with fail
        refine (Hadd.out w2 Hb12.out).mono ?_; rintro e w3 ⟨er, id, d', ρ', rfl, hout, hO3, hT3, hg3⟩
        have H3 := Lib.hid (And.intro hout (And.intro hO3 (And.intro ((StoStep.below (s := s) (d := d) (ρ := ρ) (H0.out.1.trans (Hb12.out.mono H0.out.1.size))).trans hT3) hg3)))
        clear hout hO3 hT3 hg3 x0 x1 x2 x3 x4 x5
        go_wp2
        go_ret2
        obtain ⟨q1, q2, q3, q4⟩ := H3.out
        exact ⟨er, id, d', ρ', rfl, .inr (.inr ⟨Hgn.out.1, Hmp.out.trans Hp.out, Hgn.out.2, q1⟩), q2, q3, q4⟩
    · have hp' : (mp != 0) = true := by simpa using hp
      have Hp := Lib.hid hp
      clear hp
      go_enter Tryz.func24, Tryz.ntmps24
      go_wp2_with fail
      refine (Hgd.out).mono ?_; rintro e w1 ⟨rfl, hb1⟩
      have x1 := (Hcl.out w1 hb1).2.1
      have H1 := Lib.hid (And.intro (H0.out.2.below hb1) (StoStep.below (s := s) (d := d) (ρ := ρ) (H0.out.1.trans (hb1.mono H0.out.1.size))))
      clear hb1 x0 x2 x3 x4 x5
      go_wp2
      go_ret2
      exact ⟨1, 0, d, ρ, rfl, .inl ⟨.inr (fun e => Hp.out (Hmp.out.symm.trans e)), rfl, rfl, rfl⟩, H1.out.1, H1.out.2, (FsGo.refl Hok.out).mono (by omega)⟩
end Go.Proofs.YtffnbkmigapmjaaGreatDoor
