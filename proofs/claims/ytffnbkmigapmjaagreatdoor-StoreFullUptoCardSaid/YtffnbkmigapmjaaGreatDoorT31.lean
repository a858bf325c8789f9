/- Printed out of the texts of wip/tpl. -/
import Derived.Test.YtffnbkmigapmjaaGreatDoorT19
import Derived.Test.YtffnbkmigapmjaaGreatDoorT30
set_option linter.unusedSimpArgs false
set_option linter.unusedVariables false
set_option maxRecDepth 100000
namespace Go.Proofs.YtffnbkmigapmjaaGreatDoor
open Go.RowKit Go.Maps
def goodNew (m : MailD) : Bool := ({ m with id := 999999999 } : MailD).good
set_option maxHeartbeats 8000000 in
theorem sgood_calls (m : MailD) (vr vb : Value) (w : World) (hr : RdS w vr m.rcpts) (hb : RdB w vb m.body) (hsr : ∀ l ∈ m.rcpts, l.length < 4294967281) (hsf : m.frm.length < 4294967281) (hmax : MaxOk w) :
 Calls Tryz.prog 63 #[mailVal m vr vb] w fun e w' => e = .returned (.bool (goodNew m)) ∧ Below w.heap.size w w' := by
 obtain ⟨ar, capr, rfl, hlr, hcr⟩ := hr.form
 obtain ⟨ab, capb, rfl, hlb, hcb⟩ := hb.form
 obtain ⟨mid, parent, born, frm, rcpts, body⟩ := m
 unfold mailVal
 dsimp only at hlr hlb hr hb hsr hsf ⊢
 obtain ⟨W2, hW2⟩ : ∃ W2, w.alloc (.cells #[.int .i64 999999999, .int .i64 parent, .int .i64 born, .string (strL frm), .slice ar rcpts.length capr, .slice ab body.length capb] 29) = W2 := ⟨_, rfl⟩
 have hb2 : Below w.heap.size w W2 := by rw [← hW2]; exact (Below.refl _ _).alloc (Nat.le_refl _) _
 have hgd := envGood_calls ⟨999999999, parent, born, frm, rcpts, body⟩ (.slice ar rcpts.length capr) (.slice ab body.length capb) W2 (hr.below (Nat.le_refl _) hb2) (hb.below (Nat.le_refl _) hb2) hsr hsf (hmax.below hb2)
 have Hgn : Hid ((⟨999999999, parent, born, frm, rcpts, body⟩ : MailD).good = goodNew ⟨mid, parent, born, frm, rcpts, body⟩) := Lib.hid rfl
 rw [Hgn.out] at hgd
 unfold mailVal at hgd
 dsimp only at hgd
 obtain ⟨tf, htf⟩ : ∃ tf, strL frm = tf := ⟨_, rfl⟩
 rw [htf] at hgd hW2 ⊢
 generalize goodNew ⟨mid, parent, born, frm, rcpts, body⟩ = gn at hgd ⊢
 have Hgd := Lib.hid hgd
 have Hb2 := Lib.hid hb2
 clear hgd hr hb hsr hsf hmax hb2 htf Hgn
 subst hW2
 go_enter Tryz.func63, Tryz.ntmps63
 go_wp2_with fail
 refine (Hgd.out).mono ?_; rintro e w1 ⟨rfl, hb1⟩
 have hb := Hb2.out.trans (hb1.mono Hb2.out.size)
 clear hb1
 go_wp2
 go_ret
 exact ⟨rfl, hb⟩
theorem small_new {m : MailD} (h : goodNew m = true) : m.small := by
 have := small_of_good h
 exact ⟨this.1, this.2⟩
def CommitR (d : StoD) (m : MailD) (er id : Int) (d' : StoD) : Prop :=
 ((goodNew m = false ∨ m.parent ≠ 0) ∧ er = 1 ∧ id = 0 ∧ d' = d) ∨ (goodNew m = true ∧ m.parent = 0 ∧ d.down = true ∧ er = 2 ∧ id = 0 ∧ d' = d) ∨ (goodNew m = true ∧ m.parent = 0 ∧ d.down = false ∧ AddR d m er id d')
structure CommitDone (w : World) (s : Nat) (d : StoD) (ρ : Rho) (m : MailD) (e : Ending) (w' : World) (er id : Int) (d' : StoD) (ρ' : Rho) : Prop where
 ret : e = .returned (.tuple #[.int .i64 id, .int .i64 er])
 out : CommitR d m er id d'
 at_ : StoOk w' s d' ρ'
 step : StoStep w s d ρ w' d' ρ'
 go : FsGo d.fs d'.fs 9
set_option maxHeartbeats 16000000 in
theorem commit_calls (s : Nat) (d : StoD) (ρ : Rho) (m : MailD) (vr vb : Value) (w : World) (h : StoOk w s d ρ) (hll : d.fs.loose.length ≤ 800000) (hwl : d.whr.length ≤ 1000000) (ha : MailArg w s d ρ m vr vb) :
 Calls Tryz.prog 24 #[.pointer (some ⟨s, 0, none⟩), mailVal m vr vb] w fun e w' => ∃ er id d' ρ', CommitDone w s d ρ m e w' er id d' ρ' := by
 obtain ⟨ar, capr, rfl, hlr, hcr⟩ := ha.r.form
 obtain ⟨ab, capb, rfl, hlb, hcb⟩ := ha.b.form
 obtain ⟨W, hW⟩ : ∃ W, w.alloc (.cells #[.int .i64 m.id, .int .i64 m.parent, .int .i64 m.born, .string (strL m.frm), .slice ar m.rcpts.length capr, .slice ab m.body.length capb] 29) = W := ⟨_, rfl⟩
 have hbW : Below w.heap.size w W := by rw [← hW]; exact (Below.refl _ _).alloc (Nat.le_refl _) _
 have hM : W.heap[w.heap.size]? = some (.cells #[.int .i64 m.id, .int .i64 m.parent, .int .i64 m.born, .string (strL m.frm), .slice ar m.rcpts.length capr, .slice ab m.body.length capb] 29 (0, 0)) := by rw [← hW]; exact heap_alloc_new w _
 have hWs : w.heap.size < W.heap.size := (Array.getElem?_eq_some_iff.1 hM).1
 have hO := h.below hbW
 have haW := ha.below hbW
 have hgd := sgood_calls m _ _ W haW.r haW.b (fun l hl => by have := ha.sm.2 l hl; omega) (by have := ha.sm.1; omega) hO.mx
 have hrdy := fun w1 (hb : Below W.heap.size W w1) => sready_calls s d ρ w1 (hO.below hb).at_
 have hadd := fun w1 (hb : Below W.heap.size W w1) (hg : goodNew m = true) => add_calls s d ρ m _ _ w1 (hO.below hb) hll hwl (haW.below hb) (small_new hg)
 obtain ⟨⟨x0, x1, x2, x3, x4, x5⟩, _⟩ := mail_cells hM
 have hcl := fun w1 (hb : Below W.heap.size W w1) => (mail_cells ((hb.block _ hWs).trans hM)).1
 unfold mailVal at hgd hadd ⊢
 have Hok := Lib.hid h.ok
 have H0 := Lib.hid (And.intro hbW hO)
 obtain ⟨gn, hgn⟩ : ∃ gn, goodNew m = gn := ⟨_, rfl⟩
 obtain ⟨dn, hdn⟩ : ∃ dn, d.down = dn := ⟨_, rfl⟩
 rw [hgn] at hgd
 rw [hdn] at hrdy
 have Hgn := Lib.hid (And.intro hgn hdn)
 obtain ⟨tf, htf⟩ : ∃ tf, strL m.frm = tf := ⟨_, rfl⟩
 obtain ⟨mi, hmi⟩ : ∃ mi, m.id = mi := ⟨_, rfl⟩
 obtain ⟨mp, hmp⟩ : ∃ mp, m.parent = mp := ⟨_, rfl⟩
 obtain ⟨mb, hmb⟩ : ∃ mb, m.born = mb := ⟨_, rfl⟩
 obtain ⟨nr, hnr⟩ : ∃ nr, m.rcpts.length = nr := ⟨_, rfl⟩
 obtain ⟨nb, hnb⟩ : ∃ nb, m.body.length = nb := ⟨_, rfl⟩
 rw [htf, hmi, hmp, hmb, hnr, hnb] at hgd hadd hcl hW
 rw [htf, hmi, hmp, hmb, hnr, hnb]
 rw [htf] at x3; rw [hmi] at x0; rw [hmp] at x1; rw [hmb] at x2; rw [hnr] at x4; rw [hnb] at x5
 have Hmp := Lib.hid hmp
 have Hgd := Lib.hid hgd
 have Hrdy := Lib.hid hrdy
 have Hadd := Lib.hid hadd
 have Hcl := Lib.hid hcl
 clear hgd hrdy hadd hcl hgn hdn htf hmi hmp hmb hnr hnb h hll hwl ha hO haW hM hWs hbW hlr hcr hlb hcb
 subst hW
 cases gn with
 | false =>
  go_enter Tryz.func24, Tryz.ntmps24
  go_wp2_with fail
  refine (Hgd.out).mono ?_; rintro e w1 ⟨rfl, hb1⟩
  have H1 := Lib.hid (And.intro (H0.out.2.below hb1) (StoStep.below (s := s) (d := d) (ρ := ρ) (H0.out.1.trans (hb1.mono H0.out.1.size))))
  clear hb1 x0 x1 x2 x3 x4 x5
  go_wp2
  go_ret2
  exact ⟨1, 0, d, ρ, rfl, .inl ⟨.inl Hgn.out.1, rfl, rfl, rfl⟩, H1.out.1, H1.out.2, (FsGo.refl Hok.out).mono (by omega)⟩
 | true =>
  by_cases hp : mp = 0
  ·have hp' : (mp != 0) = false := by simpa using hp
   have Hp := Lib.hid hp
   clear hp
   cases dn with
   | true =>
    go_enter Tryz.func24, Tryz.ntmps24
    go_wp2_with fail
    refine (Hgd.out).mono ?_; rintro e w1 ⟨rfl, hb1⟩
    have x1 := (Hcl.out w1 hb1).2.1
    have Hb1 := Lib.hid hb1
    clear hb1 x0 x2 x3 x4 x5
    go_wp2_with fail
    refine (Hrdy.out w1 Hb1.out).mono ?_; rintro e w2 ⟨rfl, hb2⟩
    have hb12 := Hb1.out.trans (hb2.mono Hb1.out.size)
    have H1 := Lib.hid (And.intro (H0.out.2.below hb12) (StoStep.below (s := s) (d := d) (ρ := ρ) (H0.out.1.trans (hb12.mono H0.out.1.size))))
    clear hb2 hb12 x1
    go_wp2
    go_ret2
    exact ⟨2, 0, d, ρ, rfl, .inr (.inl ⟨Hgn.out.1, Hmp.out.trans Hp.out, Hgn.out.2, rfl, rfl, rfl⟩), H1.out.1, H1.out.2, (FsGo.refl Hok.out).mono (by omega)⟩
   | false =>
    go_enter Tryz.func24, Tryz.ntmps24
    go_wp2_with fail
    refine (Hgd.out).mono ?_; rintro e w1 ⟨rfl, hb1⟩
    have x1 := (Hcl.out w1 hb1).2.1
    have Hb1 := Lib.hid hb1
    clear hb1 x0 x2 x3 x4 x5
    go_wp2_with fail
    refine (Hrdy.out w1 Hb1.out).mono ?_; rintro e w2 ⟨rfl, hb2⟩
    have hb12 := Hb1.out.trans (hb2.mono Hb1.out.size)
    obtain ⟨x0, x1, x2, x3, x4, x5⟩ := Hcl.out w2 hb12
    have Hb12 := Lib.hid hb12
    clear hb2 hb12
    go_wp2_with fail
    refine (Hadd.out w2 Hb12.out Hgn.out.1).mono ?_; rintro e w3 ⟨er, id, d', ρ', rfl, hout, hO3, hT3, hg3⟩
    have H3 := Lib.hid (And.intro hout (And.intro hO3 (And.intro ((StoStep.below (s := s) (d := d) (ρ := ρ) (H0.out.1.trans (Hb12.out.mono H0.out.1.size))).trans hT3) hg3)))
    clear hout hO3 hT3 hg3 x0 x1 x2 x3 x4 x5
    go_wp2
    go_ret2
    obtain ⟨q1, q2, q3, q4⟩ := H3.out
    exact ⟨er, id, d', ρ', rfl, .inr (.inr ⟨Hgn.out.1, Hmp.out.trans Hp.out, Hgn.out.2, q1⟩), q2, q3, q4⟩
  ·have hp' : (mp != 0) = true := by simpa using hp
   have Hp := Lib.hid hp
   clear hp
   go_enter Tryz.func24, Tryz.ntmps24
   go_wp2_with fail
   refine (Hgd.out).mono ?_; rintro e w1 ⟨rfl, hb1⟩
   have x1 := (Hcl.out w1 hb1).2.1
   have H1 := Lib.hid (And.intro (H0.out.2.below hb1) (StoStep.below (s := s) (d := d) (ρ := ρ) (H0.out.1.trans (hb1.mono H0.out.1.size))))
   clear hb1 x0 x2 x3 x4 x5
   go_wp2
   go_ret2
   exact ⟨1, 0, d, ρ, rfl, .inl ⟨.inr (fun e => Hp.out (Hmp.out.symm.trans e)), rfl, rfl, rfl⟩, H1.out.1, H1.out.2, (FsGo.refl Hok.out).mono (by omega)⟩
abbrev Cont := Nm → Option (List UInt8)
def cont (d : FsD) : Cont := fun n => (d.now.look n).bind (fun x => (d.file x).map (·.bytes))
def updC (C : Cont) (n : Nm) (o : Option (List UInt8)) : Cont := fun m => if n = m then o else C m
theorem updC_same (C : Cont) (n : Nm) (o : Option (List UInt8)) : updC C n o n = o := by unfold updC; rw [if_pos rfl]
theorem updC_other (C : Cont) {n m : Nm} (o : Option (List UInt8)) (h : n ≠ m) : updC C n o m = C m := by unfold updC; rw [if_neg h]
abbrev KeyOk (l : Dir) : Prop := l.Pairwise (fun p q => p.1 ≠ q.1)
abbrev InjOk (l : Dir) : Prop := l.Pairwise (fun p q => p.2 ≠ q.2)
structure Up (d : FsD) : Prop where
 ok : FsOk d
 key : KeyOk d.now
 inj : InjOk d.now
 fil : ∀ p ∈ d.now, (d.file p.2).isSome = true
 fuse : d.fuse = -1
 down : d.down = false
structure Vw (d : FsD) (C : Cont) (N U : Nat) (R : Int) : Prop where
 up : Up d
 cont : ∀ n, cont d n = C n
 n : d.now.length = N
 used : usedD d = U
 room : d.room = R
theorem look_cons (p : Nm × Nat) (l : Dir) (m : Nm) : Dir.look (p :: l) m = if p.1 = m then some p.2 else Dir.look l m := by
 unfold Dir.look
 rw [List.find?_cons]
 by_cases h : p.1 = m
 ·rw [if_pos h, show (p.1 == m) = true by simpa using h]; rfl
 ·rw [if_neg h, show (p.1 == m) = false by simpa using h]
theorem look_nil (m : Nm) : Dir.look [] m = none := rfl
theorem look_ins (x : Nm × Nat) (m : Nm) : ∀ l : Dir, (∀ p ∈ l, p.1 ≠ x.1) → (Dir.ins x l).look m = if x.1 = m then some x.2 else l.look m
 | [], _ => look_cons x [] m
 | y :: r, h => by
  rw [Dir.ins]
  split
  ·exact look_cons x _ m
  ·rw [look_cons, look_cons, look_ins x m r (fun p hp => h p (List.mem_cons_of_mem _ hp))]
   have hy := h y (List.mem_cons_self ..)
   by_cases h1 : y.1 = m
   ·rw [if_pos h1, if_pos h1, if_neg (fun e => hy (h1.trans e.symm))]
   ·rw [if_neg h1, if_neg h1]
theorem look_del (n m : Nm) : ∀ l : Dir, (l.del n).look m = if n = m then none else l.look m
 | [] => by rw [show Dir.del [] n = [] from rfl, look_nil]; split <;> rfl
 | y :: r => by
  have ih := look_del n m r
  unfold Dir.del at ih ⊢
  rw [List.filter_cons]
  by_cases h : y.1 = n
  ·rw [show (!(y.1 == n)) = false by simpa using h, if_neg (by simp), ih, look_cons]
   by_cases h1 : n = m
   ·rw [if_pos h1, if_pos h1]
   ·rw [if_neg h1, if_neg h1, if_neg (fun e => h1 (h.symm.trans e))]
  ·rw [show (!(y.1 == n)) = true by simpa using h, if_pos rfl, look_cons, ih, look_cons]
   by_cases h1 : y.1 = m
   ·rw [if_pos h1, if_pos h1, if_neg (fun e => h (h1.trans e.symm))]
   ·rw [if_neg h1, if_neg h1]
theorem del_keys (l : Dir) (n : Nm) : ∀ p ∈ l.del n, p.1 ≠ n := fun p hp => by
 have := (List.mem_filter.1 hp).2
 simpa using this
theorem look_put (l : Dir) (n m : Nm) (x : Nat) : (l.put n x).look m = if n = m then some x else l.look m := by
 unfold Dir.put
 rw [look_ins (n, x) m _ (del_keys l n), look_del]
 show (if n = m then some x else if n = m then none else l.look m) = _
 by_cases h : n = m
 ·rw [if_pos h, if_pos h]
 ·rw [if_neg h, if_neg h, if_neg h]
theorem ins_perm (x : Nm × Nat) : ∀ l : Dir, (Dir.ins x l).Perm (x :: l)
 | [] => List.Perm.refl _
 | y :: r => by
  rw [Dir.ins]
  split
  ·exact List.Perm.refl _
  ·exact ((ins_perm x r).cons y).trans (List.Perm.swap x y r)
theorem put_perm (l : Dir) (n : Nm) (x : Nat) : (l.put n x).Perm ((n, x) :: l.del n) := ins_perm _ _
theorem del_absent {n : Nm} : ∀ {l : Dir}, l.look n = none → l.del n = l
 | [], _ => rfl
 | y :: r, h => by
  rw [look_cons] at h
  by_cases h1 : y.1 = n
  ·rw [if_pos h1] at h; cases h
  ·rw [if_neg h1] at h
   have ih := del_absent h
   unfold Dir.del at ih ⊢
   rw [List.filter_cons, show (!(y.1 == n)) = true by simpa using h1, if_pos rfl, ih]
theorem look_none_of {n : Nm} : ∀ {l : Dir}, (∀ p ∈ l, p.1 ≠ n) → l.look n = none
 | [], _ => rfl
 | y :: r, h => by
  rw [look_cons, if_neg (h y (List.mem_cons_self ..))]
  exact look_none_of (fun p hp => h p (List.mem_cons_of_mem _ hp))
theorem del_perm {n : Nm} {x : Nat} : ∀ {l : Dir}, KeyOk l → l.look n = some x → l.Perm ((n, x) :: l.del n)
 | [], _, h => by cases h
 | y :: r, hk, h => by
  obtain ⟨h1, h2⟩ := List.pairwise_cons.1 hk
  rw [look_cons] at h
  by_cases h3 : y.1 = n
  ·rw [if_pos h3] at h
   have hr : Dir.look r n = none := look_none_of (fun p hp e => h1 p hp (h3.trans e.symm))
   have hd : Dir.del (y :: r) n = r := by
    have := del_absent hr
    unfold Dir.del at this ⊢
    rw [List.filter_cons, show (!(y.1 == n)) = false by simpa using h3, if_neg (by simp), this]
   rw [hd]
   have : y = (n, x) := by
    obtain ⟨a, b⟩ := y
    cases h; cases h3; rfl
   rw [this]
  ·rw [if_neg h3] at h
   have ih := del_perm h2 h
   have hd : Dir.del (y :: r) n = y :: Dir.del r n := by
    unfold Dir.del
    rw [List.filter_cons, show (!(y.1 == n)) = true by simpa using h3, if_pos rfl]
   rw [hd]
   exact (ih.cons y).trans (List.Perm.swap _ _ _)
theorem look_of_mem {n : Nm} {x : Nat} : ∀ {l : Dir}, KeyOk l → (n, x) ∈ l → l.look n = some x
 | y :: r, hk, h => by
  obtain ⟨h1, h2⟩ := List.pairwise_cons.1 hk
  rw [look_cons]
  rcases List.mem_cons.1 h with rfl | h
  ·rw [if_pos rfl]
  ·rw [if_neg (h1 _ h), look_of_mem h2 h]
theorem keyOk_perm {l m : Dir} (h : l.Perm m) (hl : KeyOk l) : KeyOk m := (h.pairwise_iff (fun {a b} (hab : a.1 ≠ b.1) => fun e => hab e.symm)).1 hl
theorem injOk_perm {l m : Dir} (h : l.Perm m) (hl : InjOk l) : InjOk m := (h.pairwise_iff (fun {a b} (hab : a.2 ≠ b.2) => fun e => hab e.symm)).1 hl
theorem keyOk_del {l : Dir} (h : KeyOk l) (n : Nm) : KeyOk (l.del n) := List.Pairwise.filter _ h
theorem injOk_del {l : Dir} (h : InjOk l) (n : Nm) : InjOk (l.del n) := List.Pairwise.filter _ h
theorem keyOk_put {l : Dir} (h : KeyOk l) (n : Nm) (x : Nat) : KeyOk (l.put n x) :=
 keyOk_perm (put_perm l n x).symm (List.pairwise_cons.2 ⟨fun p hp e => del_keys l n p hp e.symm, keyOk_del h n⟩)
theorem injOk_put {l : Dir} (h : InjOk l) (n : Nm) (x : Nat) (hx : ∀ p ∈ l.del n, p.2 ≠ x) : InjOk (l.put n x) :=
 injOk_perm (put_perm l n x).symm (List.pairwise_cons.2 ⟨fun p hp e => hx p hp e.symm, injOk_del h n⟩)
def sumOf (f : Nat → Nat) (l : Dir) : Nat := (l.map (fun p => f p.2)).sum
theorem sumOf_perm {f : Nat → Nat} {l m : Dir} (h : l.Perm m) : sumOf f l = sumOf f m := (h.map _).sum_nat
theorem sumOf_cons (f : Nat → Nat) (p : Nm × Nat) (l : Dir) : sumOf f (p :: l) = f p.2 + sumOf f l := by unfold sumOf; rw [List.map_cons, List.sum_cons]
theorem sumOf_congr {f g : Nat → Nat} {l : Dir} (h : ∀ p ∈ l, f p.2 = g p.2) : sumOf f l = sumOf g l := by unfold sumOf; rw [List.map_congr_left h]
theorem usedD_eq (d : FsD) : usedD d = sumOf (lenOf d) d.now := rfl
theorem up_power {d : FsD} (h : Up d) : powerD d = (0, d) := by
 unfold powerD
 rw [if_neg (by rw [h.fuse]; decide), if_neg (by rw [h.fuse]; decide)]
section
variable {d : FsD} {C : Cont} {N U : Nat} {R : Int}
theorem Vw.ready (h : Vw d C N U R) {ns : List Nm} (hn : ns.all rightD = true) : readyE d ns = 0 := by
 unfold readyE; rw [if_pos hn, h.up.down]; rfl
theorem Vw.look_none (h : Vw d C N U R) {n : Nm} (hn : C n = none) : d.now.look n = none := by
 have hc := h.cont n
 rw [hn] at hc
 cases hl : d.now.look n with
 | none => rfl
 | some x =>
  have hf := h.up.fil _ (look_mem hl)
  obtain ⟨c, hf⟩ := Option.isSome_iff_exists.1 hf
  unfold Go.Proofs.YtffnbkmigapmjaaGreatDoor.cont at hc
  rw [hl] at hc
  have hc : (d.file x).map (·.bytes) = none := hc
  rw [hf] at hc; cases hc
theorem Vw.look_some (h : Vw d C N U R) {n : Nm} {b : List UInt8} (hn : C n = some b) : ∃ x c, d.now.look n = some x ∧ d.file x = some c ∧ c.bytes = b := by
 have hc := h.cont n
 rw [hn] at hc
 unfold Go.Proofs.YtffnbkmigapmjaaGreatDoor.cont at hc
 obtain ⟨x, hx, hc⟩ := Option.bind_eq_some_iff.1 hc
 obtain ⟨c, h1, h2⟩ := Option.map_eq_some_iff.1 hc
 exact ⟨x, c, hx, h1, h2⟩
theorem Vw.found_none (h : Vw d C N U R) {n : Nm} {ns : List Nm} (hr : (n :: ns).all rightD = true) (hn : C n = none) : foundD d n ns = (none, 4) := by
 unfold foundD; rw [if_pos (h.ready hr), h.look_none hn]; rfl
theorem Vw.found_some (h : Vw d C N U R) {n : Nm} {ns : List Nm} (hr : (n :: ns).all rightD = true) {x : Nat} (hn : d.now.look n = some x) : foundD d n ns = (some x, 0) := by
 unfold foundD; rw [if_pos (h.ready hr), hn]; rfl
theorem lenOf_set (d : FsD) (x : Nat) (c : FileC) (y : Nat) : lenOf (d.setFile x c) y = if y = x then c.bytes.length else lenOf d y := by
 unfold lenOf
 show (match (if y = x then some c else d.file y) with | some c => c.bytes.length | none => 0) = _
 by_cases h : y = x
 ·rw [if_pos h, if_pos h]
 ·rw [if_neg h, if_neg h]; cases d.file y <;> rfl
theorem Vw.create (h : Vw d C N U R) {n : Nm} (hr : rightD n = true) (hn : C n = none) (hN : N < 256) (x : FreshOf d) (v lv : Value) :
 (createD d n x.x v lv).1 = 0 ∧ Vw (createD d n x.x v lv).2 (updC C n (some [])) (N + 1) U R := by
 have hl := h.look_none hn
 have hgo := (create_go (n := n) (x := x.x) (v := v) (lv := lv) h.up.ok).1
 have he : createD d n x.x v lv = (0, { (powerD (d.setFile x.x file0)).2 with now := d.now.put n x.x, lv := lv, loose := d.loose ++ [(.create n x.x, v)] }) := by
  unfold createD
  rw [if_pos (h.ready (by simp [hr])), hl, if_neg (by simp), if_neg (by rw [h.n]; omega)]
  unfold changeD
  rw [if_neg (by show ¬ d.fuse = 0; rw [h.up.fuse]; decide)]
  rfl
 rw [he] at hgo ⊢
 have hp : powerD (d.setFile x.x file0) = (0, d.setFile x.x file0) := by
  unfold powerD
  rw [if_neg (by show ¬ d.fuse = 0; rw [h.up.fuse]; decide), if_neg (by show ¬ 0 < d.fuse; rw [h.up.fuse]; decide)]
 rw [hp] at hgo ⊢
 have hne : ∀ p ∈ d.now, p.2 ≠ x.x := fun p hp e => by
  have := h.up.fil p hp
  rw [e, x.free] at this; cases this
 have hfile : ∀ k, (d.setFile x.x file0).file k = if k = x.x then some file0 else d.file k := fun _ => rfl
 refine ⟨rfl, ⟨hgo, keyOk_put h.up.key n _, injOk_put h.up.inj n _ (fun p hp => hne p (List.mem_filter.1 hp).1), ?_, h.up.fuse, h.up.down⟩, ?_, ?_, ?_, h.room⟩
 ·intro p hp
  show ((d.setFile x.x file0).file p.2).isSome = true
  rw [hfile]
  rcases mem_put hp with rfl | h1
  ·rw [if_pos rfl]; rfl
  ·rw [if_neg (hne p h1)]; exact h.up.fil p h1
 ·intro m
  show ((d.now.put n x.x).look m).bind (fun y => ((d.setFile x.x file0).file y).map (·.bytes)) = _
  rw [look_put]
  unfold updC
  by_cases hm : n = m
  ·rw [if_pos hm, if_pos hm]
   show ((d.setFile x.x file0).file x.x).map (·.bytes) = _
   rw [hfile, if_pos rfl]; rfl
  ·rw [if_neg hm, if_neg hm, ← h.cont m]
   unfold Go.Proofs.YtffnbkmigapmjaaGreatDoor.cont
   cases hy : d.now.look m with
   | none => rfl
   | some y =>
    show ((d.setFile x.x file0).file y).map (·.bytes) = (d.file y).map (·.bytes)
    rw [hfile, if_neg (hne _ (look_mem hy))]
 ·show (d.now.put n x.x).length = _
  rw [(put_perm _ _ _).length_eq, del_absent hl, List.length_cons, h.n]
 ·rw [usedD_eq]
  show sumOf (lenOf (d.setFile x.x file0)) (d.now.put n x.x) = U
  rw [sumOf_perm (put_perm _ _ _), del_absent hl, sumOf_cons, ← h.used, usedD_eq, lenOf_set, if_pos rfl]
  show 0 + _ = _
  rw [Nat.zero_add]
  exact sumOf_congr (fun p hp => by rw [lenOf_set, if_neg (hne p hp)])
theorem Vw.set (h : Vw d C N U R) {n : Nm} {x : Nat} {c c' : FileC} (hx : d.now.look n = some x) (hc : d.file x = some c) :
 Vw (d.setFile x c') (updC C n (some c'.bytes)) N (U - c.bytes.length + c'.bytes.length) R := by
 have hfile : ∀ k, (d.setFile x c').file k = if k = x then some c' else d.file k := fun _ => rfl
 have hper := del_perm h.up.key hx
 have hne : ∀ p ∈ d.now.del n, p.2 ≠ x := fun p hp e => (List.pairwise_cons.1 (injOk_perm hper h.up.inj)).1 p hp e.symm
 refine ⟨⟨(set_go h.up.ok).1, h.up.key, h.up.inj, ?_, h.up.fuse, h.up.down⟩, ?_, h.n, ?_, h.room⟩
 ·intro p hp
  rw [hfile]
  split
  ·rfl
  ·exact h.up.fil p hp
 ·intro m
  show (d.now.look m).bind (fun y => ((d.setFile x c').file y).map (·.bytes)) = _
  unfold updC
  by_cases hm : n = m
  ·rw [if_pos hm, ← hm, hx]
   show ((d.setFile x c').file x).map (·.bytes) = _
   rw [hfile, if_pos rfl]; rfl
  ·rw [if_neg hm, ← h.cont m]
   unfold Go.Proofs.YtffnbkmigapmjaaGreatDoor.cont
   cases hy : d.now.look m with
   | none => rfl
   | some y =>
    show ((d.setFile x c').file y).map (·.bytes) = (d.file y).map (·.bytes)
    have hmem : (m, y) ∈ d.now.del n := List.mem_filter.2 ⟨look_mem hy, by simpa using fun e => hm e.symm⟩
    rw [hfile, if_neg (hne _ hmem)]
 ·have h0 : U = lenOf d x + sumOf (lenOf d) (d.now.del n) := by rw [← h.used, usedD_eq, sumOf_perm hper, sumOf_cons]
  have h1 : lenOf d x = c.bytes.length := by unfold lenOf; rw [hc]
  rw [usedD_eq]
  show sumOf (lenOf (d.setFile x c')) d.now = _
  rw [sumOf_perm hper, sumOf_cons, lenOf_set, if_pos rfl, sumOf_congr (g := lenOf d) (fun p hp => by rw [lenOf_set, if_neg (hne p hp)])]
  omega
theorem Vw.le_used (h : Vw d C N U R) {n : Nm} {b : List UInt8} (hn : C n = some b) : b.length ≤ U := by
 obtain ⟨x, c, hx, hc, rfl⟩ := h.look_some hn
 have h0 : U = lenOf d x + sumOf (lenOf d) (d.now.del n) := by rw [← h.used, usedD_eq, sumOf_perm (del_perm h.up.key hx), sumOf_cons]
 have h1 : lenOf d x = c.bytes.length := by unfold lenOf; rw [hc]
 omega
theorem Vw.congr {C' : Cont} (h : Vw d C N U R) (hC : ∀ n, C n = C' n) : Vw d C' N U R := ⟨h.up, fun n => (h.cont n).trans (hC n), h.n, h.used, h.room⟩
theorem Vw.append (h : Vw d C N U R) {n : Nm} {b bs : List UInt8} (hr : rightD n = true) (hn : C n = some b) (hR : (bs.length : Int) ≤ R - U) (row : Value) :
 (appendD d n bs row).1 = 0 ∧ Vw (appendD d n bs row).2 (updC C n (some (b ++ bs))) N (U + bs.length) R := by
 obtain ⟨x, c, hx, hc, rfl⟩ := h.look_some hn
 have hle := h.le_used hn
 have he : appendD d n bs row = (0, d.setFile x ⟨c.bytes ++ bs, c.sure, row⟩) := by
  unfold appendD
  rw [h.found_some (by simp [hr]) hx, if_pos rfl, if_neg (by rw [h.room, h.used]; omega), up_power h.up, if_pos rfl]
  unfold FsD.upd
  simp only [hx, hc]
 rw [he]
 refine ⟨rfl, ?_⟩
 have h1 := h.set (c' := ⟨c.bytes ++ bs, c.sure, row⟩) hx hc
 have h2 : U - c.bytes.length + (c.bytes ++ bs).length = U + bs.length := by rw [List.length_append]; omega
 rw [← h2]
 exact h1
theorem Vw.append_full (h : Vw d C N U R) {n : Nm} {b bs : List UInt8} (hr : rightD n = true) (hn : C n = some b) (hR : R - U < (bs.length : Int)) (row : Value) : appendD d n bs row = (3, d) := by
 obtain ⟨x, c, hx, hc, rfl⟩ := h.look_some hn
 unfold appendD
 rw [h.found_some (by simp [hr]) hx, if_pos rfl, if_pos (by rw [h.room, h.used]; exact hR)]
theorem Vw.sync (h : Vw d C N U R) {n : Nm} {b : List UInt8} (hr : rightD n = true) (hn : C n = some b) : (syncD d n).1 = 0 ∧ Vw (syncD d n).2 C N U R := by
 obtain ⟨x, c, hx, hc, rfl⟩ := h.look_some hn
 have hle := h.le_used hn
 have he : syncD d n = (0, d.setFile x { c with sure := c.bytes.length }) := by
  unfold syncD
  rw [h.found_some (by simp [hr]) hx, if_pos rfl, up_power h.up, if_pos rfl]
  unfold FsD.upd
  simp only [hx, hc]
 rw [he]
 refine ⟨rfl, ?_⟩
 have h1 := h.set (c' := { c with sure := c.bytes.length }) hx hc
 have h2 : U - c.bytes.length + ({ c with sure := c.bytes.length } : FileC).bytes.length = U := by show U - c.bytes.length + c.bytes.length = U; omega
 rw [h2] at h1
 refine h1.congr (fun m => ?_)
 by_cases hm : n = m
 ·rw [← hm, updC_same, hn]
 ·rw [updC_other _ _ hm]
theorem Vw.dirSync (h : Vw d C N U R) (ms : Nat) : (dirSyncD d ms).1 = 0 ∧ Vw (dirSyncD d ms).2 C N U R := by
 have he : dirSyncD d ms = (0, d.synced ms) := by
  unfold dirSyncD
  rw [if_pos (h.ready rfl), up_power h.up, if_pos rfl]
 have hgo := (dirSync_go (ms := ms) h.up.ok).1
 rw [he] at hgo ⊢
 exact ⟨rfl, ⟨hgo, h.up.key, h.up.inj, h.up.fil, h.up.fuse, h.up.down⟩, h.cont, h.n, h.used, h.room⟩
theorem changeD_up (h : Up d) (c : Chg) (v lv : Value) : changeD d c v lv = (0, { d with now := c.on d.now, lv := lv, loose := d.loose ++ [(c, v)] }) := by
 unfold changeD
 rw [if_neg (by rw [h.fuse]; decide), up_power h]
theorem Vw.unlink (h : Vw d C N U R) {n : Nm} {b : List UInt8} (hr : rightD n = true) (hn : C n = some b) (v lv : Value) :
 (unlinkD d n v lv).1 = 0 ∧ Vw (unlinkD d n v lv).2 (updC C n none) (N - 1) (U - b.length) R := by
 obtain ⟨x, c, hx, hc, rfl⟩ := h.look_some hn
 have hper := del_perm h.up.key hx
 have hgo := (unlink_go (n := n) (v := v) (lv := lv) h.up.ok).1
 have he : unlinkD d n v lv = (0, { d with now := d.now.del n, lv := lv, loose := d.loose ++ [(.unlink n, v)] }) := by
  unfold unlinkD
  rw [h.found_some (by simp [hr]) hx, if_pos rfl, changeD_up h.up]; rfl
 rw [he] at hgo ⊢
 refine ⟨rfl, ⟨hgo, keyOk_del h.up.key n, injOk_del h.up.inj n, fun p hp => h.up.fil p (List.mem_filter.1 hp).1, h.up.fuse, h.up.down⟩, ?_, ?_, ?_, h.room⟩
 ·intro m
  show ((d.now.del n).look m).bind (fun y => (d.file y).map (·.bytes)) = _
  rw [look_del]
  unfold updC
  by_cases hm : n = m
  ·rw [if_pos hm, if_pos hm]; rfl
  ·rw [if_neg hm, if_neg hm, ← h.cont m]; rfl
 ·show (d.now.del n).length = _
  have := hper.length_eq
  rw [List.length_cons, h.n] at this
  omega
 ·have h0 : U = lenOf d x + sumOf (lenOf d) (d.now.del n) := by rw [← h.used, usedD_eq, sumOf_perm hper, sumOf_cons]
  have h1 : lenOf d x = c.bytes.length := by unfold lenOf; rw [hc]
  show sumOf (lenOf d) (d.now.del n) = _
  omega
theorem Vw.unlink_none (h : Vw d C N U R) {n : Nm} (hr : rightD n = true) (hn : C n = none) (v lv : Value) : unlinkD d n v lv = (4, d) := by
 unfold unlinkD
 rw [h.found_none (by simp [hr]) hn, if_neg (by decide)]
theorem Vw.rename (h : Vw d C N U R) {a b : Nm} {z : List UInt8} (ha : rightD a = true) (hb : rightD b = true) (hab : a ≠ b) (hz : C a = some z) (v lv : Value) :
 (renameD d a b v lv).1 = 0 ∧ Vw (renameD d a b v lv).2 (updC (updC C b (some z)) a none) (if (C b).isSome then N - 1 else N) (U - ((C b).getD []).length) R := by
 obtain ⟨x, c, hx, hc, rfl⟩ := h.look_some hz
 have hgo := (rename_go (a := a) (b := b) (v := v) (lv := lv) h.up.ok).1
 have he : renameD d a b v lv = (0, { d with now := (d.now.put b x).del a, lv := lv, loose := d.loose ++ [(.rename a b, v)] }) := by
  unfold renameD
  rw [h.found_some (by simp [ha, hb]) hx, if_pos rfl, if_neg hab, changeD_up h.up]
  show ((0 : Int), { d with now := (match d.now.look a with | some x => (d.now.put b x).del a | none => d.now), lv := lv, loose := d.loose ++ [(Chg.rename a b, v)] }) = _
  rw [hx]
 rw [he] at hgo ⊢
 have hxb : (d.now.del b).look a = some x := by rw [look_del, if_neg (fun e => hab e.symm), hx]
 have hpb := del_perm (keyOk_del h.up.key b) hxb
 have hne : ∀ p ∈ (d.now.del b).del a, p.2 ≠ x := fun p hp e => (List.pairwise_cons.1 (injOk_perm hpb (injOk_del h.up.inj b))).1 p hp e.symm
 have hper : ((d.now.put b x).del a).Perm ((b, x) :: (d.now.del b).del a) := by
  have h1 : ((d.now.put b x).del a).Perm (Dir.del ((b, x) :: d.now.del b) a) := (put_perm d.now b x).filter _
  have h2 : Dir.del ((b, x) :: d.now.del b) a = (b, x) :: (d.now.del b).del a := by
   show List.filter _ _ = _
   rw [List.filter_cons, show (!((b, x).1 == a)) = true by simpa using fun e => hab e.symm, if_pos rfl]; rfl
  rw [← h2]; exact h1
 have hfx : ∀ p ∈ (d.now.del b).del a, p ∈ d.now := fun p hp => (List.mem_filter.1 (List.mem_filter.1 hp).1).1
 have hlen : d.now.length = (if (C b).isSome then 1 else 0) + (1 + ((d.now.del b).del a).length) ∧ U = ((C b).getD []).length + (c.bytes.length + sumOf (lenOf d) ((d.now.del b).del a)) := by
  have l1 := hpb.length_eq
  rw [List.length_cons] at l1
  have s1 : sumOf (lenOf d) (d.now.del b) = lenOf d x + sumOf (lenOf d) ((d.now.del b).del a) := by rw [sumOf_perm hpb, sumOf_cons]
  have h1 : lenOf d x = c.bytes.length := by unfold lenOf; rw [hc]
  cases hb0 : C b with
  | none =>
   have hlb := h.look_none hb0
   rw [del_absent hlb] at l1 s1 ⊢
   refine ⟨by rw [l1]; simp; omega, ?_⟩
   rw [← h.used, usedD_eq, s1, h1]; simp
  | some y =>
   obtain ⟨xb, cb, hxb', hcb, rfl⟩ := h.look_some hb0
   have hp2 := del_perm h.up.key hxb'
   have l2 := hp2.length_eq
   rw [List.length_cons] at l2
   have h2 : lenOf d xb = cb.bytes.length := by unfold lenOf; rw [hcb]
   refine ⟨by rw [l2, l1]; simp; omega, ?_⟩
   rw [← h.used, usedD_eq, sumOf_perm hp2, sumOf_cons, s1, h1]
   show lenOf d xb + _ = cb.bytes.length + _
   rw [h2]
 refine ⟨rfl, ⟨hgo, keyOk_del (keyOk_put h.up.key b x) a, ?_, ?_, h.up.fuse, h.up.down⟩, ?_, ?_, ?_, h.room⟩
 ·exact injOk_perm hper.symm (List.pairwise_cons.2 ⟨fun p hp e => hne p hp e.symm, injOk_del (injOk_del h.up.inj b) a⟩)
 ·intro p hp
  show (d.file p.2).isSome = true
  rcases List.mem_cons.1 (hper.mem_iff.1 hp) with rfl | h1
  ·show (d.file x).isSome = true; rw [hc]; rfl
  ·exact h.up.fil p (hfx p h1)
 ·intro m
  show (((d.now.put b x).del a).look m).bind (fun y => (d.file y).map (·.bytes)) = _
  rw [look_del, look_put]
  unfold updC
  by_cases hm : a = m
  ·rw [if_pos hm, if_pos hm]; rfl
  ·rw [if_neg hm, if_neg hm]
   by_cases hm2 : b = m
   ·rw [if_pos hm2, if_pos hm2]
    show (d.file x).map (·.bytes) = _
    rw [hc]; rfl
   ·rw [if_neg hm2, if_neg hm2, ← h.cont m]; rfl
 ·show ((d.now.put b x).del a).length = _
  rw [hper.length_eq, List.length_cons]
  have := hlen.1
  rw [h.n] at this
  split at this <;> simp_all <;> omega
 ·show sumOf (lenOf d) ((d.now.put b x).del a) = _
  have h1 : lenOf d x = c.bytes.length := by unfold lenOf; rw [hc]
  rw [sumOf_perm hper, sumOf_cons]
  show lenOf d x + _ = _
  have := hlen.2
  omega
theorem Vw.read (h : Vw d C N U R) {n : Nm} {b : List UInt8} (hr : rightD n = true) (hn : C n = some b) : fsReadD d n = (0, b) := by
 obtain ⟨x, c, hx, hc, rfl⟩ := h.look_some hn
 unfold fsReadD bytesOf
 rw [h.found_some (by simp [hr]) hx, if_pos rfl]
 simp only [hx, hc]
end
theorem Run.zero_inv {S : Nat → FsD → Int → FsD → Prop} {d0 b : FsD} (h : Run S d0 0 b) : b = d0 := by cases h; rfl
theorem Run.inv {S : Nat → FsD → Int → FsD → Prop} {d0 b : FsD} {i : Nat} (h : Run S d0 (i + 1) b) : ∃ a, Run S d0 i a ∧ S i a 0 b := by
 cases h with
 | step h1 h2 => exact ⟨_, h1, h2⟩
end Go.Proofs.YtffnbkmigapmjaaGreatDoor
