/-
  A store in memory, with what its calls ask; and how that is kept (plain).
  Steps one behind the other, whatever they are: what store.steps comes to.
-/
import Derived.Test.YtffnbkmigapmjaaGreatDoorT27
import Derived.Test.YtffnbkmigapmjaaGreatDoorT31
set_option linter.unusedSimpArgs false
set_option linter.unusedVariables false
set_option maxRecDepth 100000
namespace Go.Proofs.YtffnbkmigapmjaaGreatDoor
open Go.RowKit Go.Maps
theorem MaxOk.gb {w w' : World} (h : MaxOk w) (hg : GB w w') : MaxOk w' := by
  obtain ⟨m, hm⟩ := h
  exact ⟨m, cell_gb hm hg (by unfold NG; omega)⟩
structure StoOk (w : World) (s : Nat) (d : StoD) (ρ : Rho) : Prop where
  at_ : StoAt w s d ρ
  ok : FsOk d.fs
  g : GOk w
  mx : MaxOk w
  own : ∀ k, stoOwn s d ρ k → NG ≤ k
  last : 0 ≤ d.last ∧ d.last ≤ 999999999
  nf : d.nfile.length ≤ 1000
section
variable {w w' w1 : World} {s : Nat} {d d' d1 : StoD} {ρ ρ' ρ1 : Rho}
theorem stoOwn_lt (h : StoAt w s d ρ) {k : Nat} (hk : stoOwn s d ρ k) : k < w.heap.size := by
  rcases hk with e | e | e | e
  · exact h.fs.rest.lt k e
  · rw [e]; exact (Array.getElem?_eq_some_iff.1 h.hd).1
  · rw [e]; exact (Array.getElem?_eq_some_iff.1 h.ids).1
  · rw [e]; exact h.whr.lt
theorem StoStep.owns (hT : StoStep w s d ρ w' d' ρ') (hN : ∀ k, stoOwn s d ρ k → NG ≤ k) (hs : NG ≤ w.heap.size) : ∀ k, stoOwn s d' ρ' k → NG ≤ k := fun k hk => by
  rcases hT.grow k hk with e | e
  · exact hN k e
  · omega
theorem StoOk.step (h : StoOk w s d ρ) (hA : StoAt w' s d' ρ') (hT : StoStep w s d ρ w' d' ρ') (hok : FsOk d'.fs) (hl : 0 ≤ d'.last ∧ d'.last ≤ 999999999) (hn : d'.nfile.length ≤ 1000) : StoOk w' s d' ρ' :=
  have hg := GB.keeps hT.keeps h.own
  ⟨hA, hok, h.g.gb hg, h.mx.gb hg, hT.owns h.own h.g.size, hl, hn⟩
theorem StoOk.below (h : StoOk w s d ρ) (hb : Below w.heap.size w w') : StoOk w' s d ρ :=
  ⟨h.at_.below hb, h.ok, h.g.below hb, h.mx.below hb, h.own, h.last, h.nf⟩
/-- Another block is written, that was not there when the call began. -/
theorem StoStep.new (hT : StoStep w s d ρ w1 d1 ρ1) {M j : Nat} {v : Value} (hM : w.heap.size ≤ M) : StoStep w s d ρ (w1.setCell ⟨M, j, none⟩ v) d1 ρ1 :=
  ⟨hT.keeps.go (Keeps.setCell (F := fun k => k = M) _ _ _ rfl) (fun i e => .inr (by omega)), hT.grow⟩
theorem StoStep.bel (hT : StoStep w s d ρ w1 d1 ρ1) (hb : Below w1.heap.size w1 w') : StoStep w s d ρ w' d1 ρ1 := hT.trans (StoStep.below hb)
theorem StoAt.other (h : StoAt w s d ρ) {M j : Nat} {v : Value} (hM : ¬ stoOwn s d ρ M) : StoAt (w.setCell ⟨M, j, none⟩ v) s d ρ :=
  h.keeps (F := fun k => k = M) (Keeps.setCell _ _ _ rfl) (fun k e => by rw [e]; exact hM)
/-- Whether the power is gone is kept in mind. -/
theorem StoAt.setDown (h : StoAt w s d ρ) (b : Bool) : StoAt (w.setCell ⟨s, 3, none⟩ (.bool b)) s { d with down := b } ρ ∧ StoStep w s d ρ (w.setCell ⟨s, 3, none⟩ (.bool b)) { d with down := b } ρ :=
  h.head (d' := { d with down := b }) (Keeps.setCell _ _ _ rfl) rfl (heap_setCell_same _ _ 3 _ _ _ h.hd)
/-- The map of mails is written. -/
theorem StoAt.setMap {wh : Wh} (h : StoAt w s d ρ) (hm : WhAt w' d.mb wh) (hk : Keeps (fun j => j = d.mb) w w') : StoAt w' s { d with whr := wh } ρ ∧ StoStep w s d ρ w' { d with whr := wh } ρ := by
  refine ⟨⟨h.fs.keeps hk (fun k e => by rw [e]; exact h.rm), hk.heap h.hd (fun e => h.sm e), hk.heap h.ids (fun e => h.im e), hm, h.rs, h.ri, h.rm⟩, ⟨hk.mono (fun k _ e => .inr (.inr (.inr e))), fun k e => .inl e⟩⟩
theorem NextR.same {er id : Int} (h : NextR d er id d') : d'.fb = d.fb ∧ d'.ib = d.ib ∧ d'.mb = d.mb ∧ d'.whr = d.whr ∧ d'.down = d.down := by
  rcases h with ⟨_, _, _, rfl⟩ | ⟨_, _, _, _, rfl⟩ | ⟨_, _, _, e1, d1, hm, ⟨_, _, _, rfl⟩ | ⟨_, _, _, rfl⟩⟩ | ⟨_, _, _, _, _, rfl⟩
  · exact ⟨rfl, rfl, rfl, rfl, rfl⟩
  · exact ⟨rfl, rfl, rfl, rfl, rfl⟩
  · obtain ⟨a, b, c, _, e, f⟩ := hm.same; exact ⟨a, b, c, e, f⟩
  · obtain ⟨a, b, c, _, e, f⟩ := hm.same; exact ⟨a, b, c, e, f⟩
  · exact ⟨rfl, rfl, rfl, rfl, rfl⟩
theorem MoreR.nfile {er : Int} (h : MoreR d er d') (hn : d.nfile.length ≤ 1000) : d'.nfile.length ≤ 1000 := by
  have := idsNameD_len (moreB d)
  obtain ⟨x, v, lv, ⟨_, _, rfl⟩ | ⟨_, f1, ms, f2, e2, _, _, ⟨_, _, rfl⟩ | ⟨_, _, _, rfl⟩ | ⟨_, _, v2, lv2, _, rfl⟩⟩⟩ := h
  · exact hn
  all_goals (show (idsNameD (moreB d)).length ≤ 1000; omega)
theorem NextR.bounds {er id : Int} (h : NextR d er id d') (hl : 0 ≤ d.last ∧ d.last ≤ 999999999) (hn : d.nfile.length ≤ 1000) : (0 ≤ d'.last ∧ d'.last ≤ 999999999) ∧ d'.nfile.length ≤ 1000 ∧ (0 ≤ id ∧ id ≤ 999999999) ∧ (er = 0 → 1 ≤ id) := by
  rcases h with ⟨_, h1, h2, rfl⟩ | ⟨_, _, h1, h2, rfl⟩ | ⟨_, hne, _, e1, d1, hm, ⟨h0, h1, h2, rfl⟩ | ⟨_, h1, h2, rfl⟩⟩ | ⟨_, hne, _, h1, h2, rfl⟩
  · exact ⟨hl, hn, by omega, fun e => by omega⟩
  · exact ⟨hl, hn, by omega, fun e => by omega⟩
  · have h4 := hm.same.2.2.2.1
    exact ⟨by omega, hm.nfile hn, by omega, fun e => absurd (h1.symm.trans e) h0⟩
  · refine ⟨?_, hm.nfile hn, by omega, fun e => by omega⟩
    show 0 ≤ d.last + 1 ∧ d.last + 1 ≤ 999999999
    omega
  · refine ⟨?_, hn, by omega, fun e => by omega⟩
    show 0 ≤ d.last + 1 ∧ d.last + 1 ≤ 999999999
    omega
end
/-- A mail that is handed in: its slices are no blocks of the store. -/
structure MailArg (w : World) (s : Nat) (d : StoD) (ρ : Rho) (m : MailD) (vr vb : Value) : Prop where
  r : RdS w vr m.rcpts
  b : RdB w vb m.body
  nb : NilOk vb
  or : ∀ k, vr.ownBlock = some k → k < w.heap.size ∧ ¬ stoOwn s d ρ k
  ob : ∀ k, vb.ownBlock = some k → k < w.heap.size ∧ ¬ stoOwn s d ρ k
  sm : m.small
theorem MailArg.below {w w' : World} {s : Nat} {d : StoD} {ρ : Rho} {m : MailD} {vr vb : Value} (h : MailArg w s d ρ m vr vb) (hb : Below w.heap.size w w') : MailArg w' s d ρ m vr vb :=
  ⟨h.r.below (Nat.le_refl _) hb, h.b.below (Nat.le_refl _) hb, h.nb, fun k e => ⟨Nat.lt_of_lt_of_le (h.or k e).1 hb.size, (h.or k e).2⟩, fun k e => ⟨Nat.lt_of_lt_of_le (h.ob k e).1 hb.size, (h.ob k e).2⟩, h.sm⟩
theorem MailArg.step {w w' : World} {s : Nat} {d d' : StoD} {ρ ρ' : Rho} {m : MailD} {vr vb : Value} (h : MailArg w s d ρ m vr vb) (hT : StoStep w s d ρ w' d' ρ') : MailArg w' s d' ρ' m vr vb := by
  have hn : ∀ k, k < w.heap.size → ¬ stoOwn s d ρ k → k < w'.heap.size ∧ ¬ stoOwn s d' ρ' k := fun k h1 h2 => ⟨Nat.lt_of_lt_of_le h1 hT.keeps.size, fun e => by
    rcases hT.grow k e with e | e
    · exact h2 e
    · omega⟩
  refine ⟨h.r.keeps hT.keeps ?_, h.b.keeps hT.keeps (fun k e => (h.ob k e).2), h.nb, fun k e => hn k (h.or k e).1 (h.or k e).2, fun k e => hn k (h.ob k e).1 (h.ob k e).2, h.sm⟩
  intro b o l c e
  rw [e] at h
  exact (h.or b rfl).2
def encD (m : MailD) : List UInt8 := if m.good then m.record else []
def EncAny (w : World) (m : MailD) (e : Ending) (w' : World) : Prop :=
  ∃ v, e = .returned (.tuple #[v, .bool m.good]) ∧ w'.ownsRow w.heap.size 5 1 v (encD m).length ((encD m).map u8v) ∧ Below w.heap.size w w'
theorem encode_any (m : MailD) (vr vb : Value) (w : World) (hr : RdS w vr m.rcpts) (hb : RdB w vb m.body) (hnb : NilOk vb) (hsm : m.small) (hmax : MaxOk w) (hor : ∀ k, vr.ownBlock = some k → k < w.heap.size) (hob : ∀ k, vb.ownBlock = some k → k < w.heap.size) :
    Calls Tryz.prog 114 #[mailVal m vr vb] w (EncAny w m) := by
  cases hg : m.good with
  | true =>
    refine (encode_good m vr vb w hr hb hnb hsm hmax hg hor hob).mono fun e w' ⟨v, he, ho, hb⟩ => ⟨v, by rw [hg]; exact he, ?_, hb⟩
    unfold encD; rw [hg]; exact ho
  | false =>
    refine (encode_bad m vr vb w hr hb (fun l h => by have := hsm.2 l h; omega) (by have := hsm.1; omega) hmax hg).mono fun e w' ⟨he, hb⟩ => ?_
    refine ⟨.slice none 0 0, by rw [hg]; exact he, ?_, hb⟩
    unfold encD; rw [hg]; exact World.ownsRow_nil _ _ _ _
end Go.Proofs.YtffnbkmigapmjaaGreatDoor

set_option linter.unusedSimpArgs false
set_option linter.unusedVariables false
set_option maxRecDepth 100000
namespace Go.Proofs.YtffnbkmigapmjaaGreatDoor
open Go.RowKit Go.Maps
/-- Between two steps: the store; blocks that are only read hold what they held. -/
structure StpP (S : Nat → FsD → Int → FsD → Prop) (w0 : World) (d : StoD) (ρ0 : Rho) (s : Nat) (bx : List (Nat × Obj)) (i : Nat) (fs : FsD) (ρ : Rho) (w : World) : Prop where
  at_ : StoOk w s { d with fs := fs } ρ
  step : StoStep w0 s d ρ0 w { d with fs := fs } ρ
  run : Run S d.fs i fs
  go : FsGo d.fs fs i
  hbx : ∀ p ∈ bx, w.heap[p.1]? = some p.2
  new : ∀ p ∈ bx, ¬ stoOwn s { d with fs := fs } ρ p.1
structure StepsDone (S : Nat → FsD → Int → FsD → Prop) (n : Nat) (w : World) (s : Nat) (d : StoD) (ρ : Rho) (e : Ending) (w' : World) (er : Int) (fs : FsD) (ρ' : Rho) : Prop where
  ret : e = .returned (.int .i64 er)
  out : Outcome S n d.fs er fs
  at_ : StoOk w' s { d with fs := fs, down := d.down || decide (er = 2) } ρ'
  step : StoStep w s d ρ w' { d with fs := fs, down := d.down || decide (er = 2) } ρ'
  go : FsGo d.fs fs n
def StpX (S : Nat → FsD → Int → FsD → Prop) (n : Nat) (w0 : World) (d : StoD) (ρ0 : Rho) (s : Nat) (er : Int) (w : World) : Prop :=
  ∃ fs ρ, StepsDone S n w0 s d ρ0 (.returned (.int .i64 er)) w er fs ρ
theorem Outcome.mono_n {S : Nat → FsD → Int → FsD → Prop} {n i : Nat} {d a b : FsD} {er : Int} (hi : i < n) (h : Run S d i a) (hs : S i a er b) (he : er ≠ 0) : Outcome S n d er b := .inr ⟨he, i, a, hi, h, hs⟩
theorem stp_after {S : Nat → FsD → Int → FsD → Prop} {n : Nat} {w0 : World} {d : StoD} {ρ0 : Rho} {s : Nat} {bx : List (Nat × Obj)} {i : Nat} {fs fs' : FsD} {ρ ρ' : Rho} {w w' : World} {er : Int} (hi : i < n)
    (h : StpP S w0 d ρ0 s bx i fs ρ w) (hF : FsAt w' d.fb fs' ρ') (hst : FsStep w ρ w' ρ') (hS : S i fs er fs') (hgo : FsGo fs fs' 1) :
    w'.cell? ⟨s, 3, none⟩ = some (.bool d.down) ∧ w'.frozen? ⟨s, 3, none⟩ = false ∧
    (er = 0 → ∃ fs2 ρ2, StpP S w0 d ρ0 s bx (i + 1) fs2 ρ2 (w'.setCell ⟨s, 3, none⟩ (.bool d.down))) ∧ (er ≠ 0 → StpX S n w0 d ρ0 s er (w'.setCell ⟨s, 3, none⟩ (.bool (d.down || decide (er = 2))))) := by
  obtain ⟨h1, h2⟩ := h.at_.at_.fsStep (d := { d with fs := fs }) hF hst
  have hO1 := h.at_.step h1 h2 hgo.1 h.at_.last h.at_.nf
  have hc := cells4 h1.hd
  refine ⟨hc.1.2.2.2, hc.2 3, fun e0 => ?_, fun e0 => ?_⟩
  · subst e0
    obtain ⟨h3, h4⟩ := h1.setDown d.down
    have h24 := h2.trans h4
    refine ⟨fs', ρ', hO1.step h3 h4 hO1.ok hO1.last hO1.nf, (h.step.trans h2).trans h4, .step h.run hS, h.go.trans hgo, fun p hp => h24.keeps.heap (h.hbx p hp) (h.new p hp), fun p hp g => ?_⟩
    have hl := (Array.getElem?_eq_some_iff.1 (h.hbx p hp)).1
    rcases h24.grow p.1 g with e | e
    · exact h.new p hp e
    · omega
  · obtain ⟨h3, h4⟩ := h1.setDown (d.down || decide (er = 2))
    exact ⟨fs', ρ', rfl, Outcome.mono_n hi h.run hS e0, hO1.step h3 h4 hO1.ok hO1.last hO1.nf, (h.step.trans h2).trans h4, ((h.go.trans hgo).mono (by omega))⟩
theorem steps_gen {S : Nat → FsD → Int → FsD → Prop} {n : Nat} {w0 W : World} {d : StoD} {ρ0 : Rho} {s : Nat} {bx : List (Nat × Obj)} {cb : Nat} {cl : List Value} (hn : cl.length = n) (hn1 : n ≤ 100) (hrow : (cb, Obj.cells cl.toArray 171 (0, 0)) ∈ bx)
    (h0 : StpP S w0 d ρ0 s bx 0 d.fs ρ0 W)
    (hst : ∀ i f, cl[i]? = some f → ∃ g fst caps, f = .func (.func g) fst caps ∧ Enters Tryz.prog g ∧ ∀ fs ρ w, StpP S w0 d ρ0 s bx i fs ρ w → Calls Tryz.prog g (fst ++ caps) w fun e w' => ∃ er fs' ρ', e = .returned (.int .i64 er) ∧ FsAt w' d.fb fs' ρ' ∧ FsStep w ρ w' ρ' ∧ S i fs er fs' ∧ FsGo fs fs' 1) :
    Calls Tryz.prog 67 #[.pointer (some ⟨s, 0, none⟩), .slice (some ⟨cb, 0, none⟩) n n] W fun e w' => ∃ er fs ρ', StepsDone S n w0 s d ρ0 e w' er fs ρ' := by
  have hrd : ∀ i w, (∃ fs ρ, StpP S w0 d ρ0 s bx i fs ρ w) → RdL 1 v1 w (.slice (some ⟨cb, 0, none⟩) n n) cl := fun i w ⟨fs, ρ, h⟩ => by
    have hb := h.hbx _ hrow
    by_cases hne : cl = []
    · subst hne; subst hn; exact .inl ⟨_, _, rfl, by decide, rfl⟩
    · refine .inr ⟨cb, 0, n, by rw [hn], hne, by omega, by omega, (Array.getElem?_eq_some_iff.1 hb).1, ?_⟩
      intro i x hx j u hu
      match j, hu with
      | 0, hu =>
        cases hu
        rw [Nat.zero_add, Nat.mul_one, Nat.add_zero, cell_of_row _ _ _ _ _ _ hb, List.getElem?_toArray]
        exact hx
      | j + 1, hu => cases hu
  have := steps_calls s (.slice (some ⟨cb, 0, none⟩) n n) cl W (fun i w => ∃ fs ρ, StpP S w0 d ρ0 s bx i fs ρ w) (StpX S n w0 d ρ0 s) hrd (fun i f hf => by
    obtain ⟨g, fst, caps, rfl, hent, hc⟩ := hst i f hf
    have hi : i < n := by rw [← hn]; exact (List.getElem?_eq_some_iff.1 hf).1
    refine ⟨g, fst, caps, rfl, hent, ?_⟩
    rintro w ⟨fs, ρ, hP⟩
    refine (hc fs ρ w hP).mono ?_
    rintro e w' ⟨er, fs', ρ', he, hF, hst, hS, hgo⟩
    obtain ⟨c1, c2, c3, c4⟩ := stp_after hi hP hF hst hS hgo
    exact ⟨er, _, he, c1, c2, c3, c4⟩) (by omega) ⟨d.fs, ρ0, h0⟩
  refine this.mono ?_
  rintro e w' (⟨rfl, fs, ρ, hP⟩ | ⟨er, hne, rfl, fs, ρ, hX⟩)
  · have hd : ({ d with fs := fs, down := d.down || decide ((0 : Int) = 2) } : StoD) = { d with fs := fs } := by cases h : d.down <;> simp [h]
    rw [hn] at hP
    exact ⟨0, fs, ρ, rfl, .inl ⟨rfl, hP.run⟩, by rw [hd]; exact hP.at_, by rw [hd]; exact hP.step, hP.go⟩
  · exact ⟨er, fs, ρ, hX⟩
end Go.Proofs.YtffnbkmigapmjaaGreatDoor
