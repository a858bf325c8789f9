/- Printed out of the texts of wip/tpl. -/
import Derived.Test.YtffnbkmigapmjaaGreatDoorT10
import Derived.Test.YtffnbkmigapmjaaGreatDoorT12
import Derived.Maps.AppendAt
import Derived.Shelf.Abstract
set_option linter.unusedSimpArgs false
set_option linter.unusedVariables false
set_option maxRecDepth 100000
namespace Go.Proofs.YtffnbkmigapmjaaGreatDoor
open Go.RowKit Go.Maps
def Chg.ok (c : Chg) (d : FsD) : Prop :=
 match c with
 | .create n x => (d.file x).isSome = true
 | .rename a b => (d.now.look a).isSome = true
 | .unlink n => True
def ChgDone (b : Nat) (l : Dir) (w : World) (e : Ending) (w' : World) : Prop := e = .returned (.tuple #[]) ∧ DirAt w' b l ∧ Keeps (fun j => j = b) w w'
theorem chg_calls {w : World} {ρ : Rho} {c : Chg} {v : Value} {b : Nat} {l : Dir} (hd : DirAt w b l) (hc : ChgAt w ρ c v) (hb : ρ b ≠ some .box) (hv : ∀ m n, c = .rename m n → (l.look m).isSome = true) (hl : l.length < maxLen) :
 ∃ g caps, v = .func (.func g) #[] caps ∧ Enters Tryz.prog g ∧ Calls Tryz.prog g (#[.map (some b)] ++ caps) w (ChgDone b (c.on l) w) := by
 have h80 : ∀ n : Nm, n.length ≤ 80 → n.length ≤ maxLen := fun n h => by unfold maxLen; omega
 cases c with
 | create n x =>
  obtain ⟨b1, b2, rfl, r1, r2, h1, h2, h3⟩ := hc
  exact ⟨_, _, rfl, enters_of Tryz.func52 (by kernel_rfl) rfl, create1_calls b b1 b2 x n l w hd h1 h2 hl (h80 n h3)⟩
 | rename m n =>
  obtain ⟨b1, b2, rfl, r1, r2, h1, h2, h3, h4⟩ := hc
  obtain ⟨x, hx⟩ := Option.isSome_iff_exists.1 (hv m n rfl)
  refine ⟨_, _, rfl, enters_of Tryz.func159 (by kernel_rfl) rfl, ?_⟩
  have := rename1_calls b b1 b2 x m n l w hd hx h1 h2 (fun e => hb (by rw [← e]; exact r1)) hl (h80 m h3) (h80 n h4)
  have he : (Chg.rename m n).on l = (l.put n x).del m := by show (match l.look m with | some x => _ | none => _) = _; rw [hx]
  rw [he]; exact this
 | unlink n =>
  obtain ⟨b1, rfl, r1, h1, h3⟩ := hc
  exact ⟨_, _, rfl, enters_of Tryz.func140 (by kernel_rfl) rfl, unlink1_calls b b1 n l w hd h1 (h80 n h3)⟩
theorem ChgAt.mono {w : World} {ρ σ : Rho} {c : Chg} {v : Value} (h : ChgAt w ρ c v) (hm : ∀ k r, ρ k = some r → σ k = some r) : ChgAt w σ c v := by
 cases c with
 | create n x => obtain ⟨b1, b2, h1, h2, h3, h4⟩ := h; exact ⟨b1, b2, h1, hm _ _ h2, hm _ _ h3, h4⟩
 | rename a b => obtain ⟨b1, b2, h1, h2, h3, h4⟩ := h; exact ⟨b1, b2, h1, hm _ _ h2, hm _ _ h3, h4⟩
 | unlink n => obtain ⟨b1, h1, h2, h3⟩ := h; exact ⟨b1, h1, hm _ _ h2, h3⟩
theorem FileAt'.mono {w : World} {ρ σ : Rho} {x : Nat} {c : FileC} (h : FileAt' w ρ x c) (hm : ∀ k r, ρ k = some r → σ k = some r) : FileAt' w σ x c :=
 ⟨hm _ _ h.role, h.hd, h.own, fun k e => hm _ _ (h.rown k e), h.small, h.sure⟩
theorem mem_ins (x p : Nm × Nat) : ∀ l : Dir, p ∈ l.ins x ↔ p = x ∨ p ∈ l
 | [] => by simp [Dir.ins]
 | y :: r => by
  rw [Dir.ins]
  split
  ·simp
  ·rw [List.mem_cons, mem_ins x p r, List.mem_cons]
   constructor
   ·rintro (h | h | h)
    ·exact .inr (.inl h)
    ·exact .inl h
    ·exact .inr (.inr h)
   ·rintro (h | h | h)
    ·exact .inr (.inl h)
    ·exact .inl h
    ·exact .inr (.inr h)
theorem mem_put {l : Dir} {n : Nm} {x : Nat} {p : Nm × Nat} (h : p ∈ l.put n x) : p = (n, x) ∨ p ∈ l := by
 rcases (mem_ins _ _ _).1 h with h | h
 ·exact .inl h
 ·exact .inr ((List.mem_filter.1 h).1)
theorem look_mem {l : Dir} {n : Nm} {x : Nat} (h : l.look n = some x) : (n, x) ∈ l := by
 unfold Dir.look at h
 obtain ⟨p, hp, hx⟩ := Option.map_eq_some_iff.1 h
 have h1 := List.mem_of_find?_eq_some hp
 have h2 : (p.1 == n) = true := List.find?_some (p := fun q : Nm × Nat => q.1 == n) hp
 obtain ⟨a, b⟩ := p
 have : a = n := by simpa using h2
 subst this; subst hx; exact h1
theorem chg_files {d : FsD} {c : Chg} (hn : ∀ p ∈ d.now, (d.file p.2).isSome = true) (hc : c.ok d) : ∀ p ∈ c.on d.now, (d.file p.2).isSome = true := by
 intro p hp
 cases c with
 | create n x =>
  rcases mem_put hp with rfl | h
  ·exact hc
  ·exact hn p h
 | rename a b =>
  have hp : p ∈ (match d.now.look a with | some x => (d.now.put b x).del a | none => d.now) := hp
  cases hx : d.now.look a with
  | none => rw [hx] at hp; exact hn p hp
  | some x =>
   rw [hx] at hp
   rcases mem_put (List.mem_filter.1 hp).1 with h | h
   ·have := hn _ (look_mem hx); rw [h]; exact this
   ·exact hn p h
 | unlink n => exact hn p (List.mem_filter.1 hp).1
def Rho.add (ρ : Rho) (v : Value) (r : Role) : Rho := fun k => if v.ownBlock = some k then some r else ρ k
theorem Rho.add_up {w : World} {ρ : Rho} {lv v' : Value} {r0 : Role} (hlt : ∀ k, (ρ k).isSome = true → k < w.heap.size) (hlv : ∀ k, lv.ownBlock = some k → ρ k = some r0) (hloc : v'.ownBlock = lv.ownBlock ∨ ∃ k0, v'.ownBlock = some k0 ∧ w.heap.size ≤ k0) :
 ∀ k r, ρ k = some r → (ρ.add v' r0) k = some r := by
 intro k r hr
 unfold Rho.add
 by_cases e : v'.ownBlock = some k
 ·rw [if_pos e]
  rcases hloc with h1 | ⟨k0, h1, h2⟩
  ·rw [h1] at e; rw [hlv k e] at hr; exact hr
  ·rw [h1] at e; cases e
   have := hlt k (by rw [hr]; rfl)
   omega
 ·rw [if_neg e]; exact hr
theorem Rho.add_has {w : World} {ρ : Rho} {lv v' : Value} {r0 : Role} (hlv : ∀ k, lv.ownBlock = some k → ρ k = some r0) (hloc : v'.ownBlock = lv.ownBlock ∨ ∃ k0, v'.ownBlock = some k0 ∧ w.heap.size ≤ k0) :
 ∀ k, (ρ.add v' r0).has k → ρ.has k ∨ w.heap.size ≤ k := by
 intro k hk
 unfold Rho.has Rho.add at hk
 by_cases e : v'.ownBlock = some k
 ·rcases hloc with h1 | ⟨k0, h1, h2⟩
  ·rw [h1] at e; exact .inl (Rho.has_of (hlv k e))
  ·rw [h1] at e; cases e; exact .inr h2
 ·rw [if_neg e] at hk; exact .inl hk
theorem FsRest.changed {w w' : World} {d : FsD} {ρ : Rho} {f : Nat} {l' : Dir} {v v' : Value} {c : Chg} (h : FsRest w d ρ) (hf : ρ f = some .fs) (hk : Keeps (fun k => k = d.mn ∨ d.lv.ownBlock = some k ∨ k = f) w w') (hd : DirAt w' d.mn l')
 (hown : w'.ownsRow 0 124 1 v' (d.loose.length + 1) (d.loose.map (·.2) ++ [v])) (hloc : v'.ownBlock = d.lv.ownBlock ∨ ∃ k0, v'.ownBlock = some k0 ∧ w.heap.size ≤ k0) (hc : ChgAt w ρ c v) (hl : ∀ p ∈ l', (d.file p.2).isSome = true) (ff fr : Int) (dn : Bool) :
 FsRest w' { d with now := l', lv := v', loose := d.loose ++ [(c, v)], fuse := ff, room := fr, down := dn } (ρ.add v' .loose) := by
 have hup := Rho.add_up (w := w) h.lt h.rlv hloc
 have hF : ∀ k, (k = d.mn ∨ d.lv.ownBlock = some k ∨ k = f) → ρ k = some .now ∨ ρ k = some .loose ∨ ρ k = some .fs := by
  rintro k (e | e | e)
  ·rw [e]; exact .inl h.rnow
  ·exact .inr (.inl (h.rlv k e))
  ·rw [e]; exact .inr (.inr hf)
 have hn : ∀ {k : Nat} {r : Role}, ρ k = some r → r ≠ .now → r ≠ .loose → r ≠ .fs → ¬ (k = d.mn ∨ d.lv.ownBlock = some k ∨ k = f) := by
  intro k r hr h1 h2 h3 e
  rcases hF k e with q | q | q
  ·rw [q] at hr; exact h1 (Option.some.inj hr).symm
  ·rw [q] at hr; exact h2 (Option.some.inj hr).symm
  ·rw [q] at hr; exact h3 (Option.some.inj hr).symm
 refine ⟨hup _ _ h.rnow, hup _ _ h.rsure, hd, ownsMap_keeps h.dsure hk (hn h.rsure (by decide) (by decide) (by decide)), ?_, ?_, ?_, ?_, hl, h.fsure, ?_⟩
 ·intro k e; show (ρ.add v' .loose) k = _; unfold Rho.add; rw [if_pos e]
 ·show w'.ownsRow 0 124 1 v' (d.loose ++ [(c, v)]).length ((d.loose ++ [(c, v)]).map (·.2))
  rw [List.length_append, List.map_append]; exact hown
 ·intro p hp
  rcases List.mem_append.1 hp with hp | hp
  ·exact ((h.chg p hp).keeps hk (fun k e g => hn g (by decide) (by decide) (by decide) e)).mono hup
  ·rw [List.mem_singleton.1 hp]; exact (hc.keeps hk (fun k e g => hn g (by decide) (by decide) (by decide) e)).mono hup
 ·intro x cc hx
  have hx' := h.files x cc hx
  exact (hx'.keeps hk (hn hx'.role (by decide) (by decide) (by decide)) (fun k e g => hn g (by intro q; cases q) (by intro q; cases q) (by intro q; cases q) e)).mono hup
 ·intro k e
  have e : ((ρ.add v' .loose) k).isSome = true := e
  unfold Rho.add at e
  by_cases q : v'.ownBlock = some k
  ·exact (hown.lt k q).2
  ·rw [if_neg q] at e; exact Nat.lt_of_lt_of_le (h.lt k e) hk.size
def changeD (d : FsD) (c : Chg) (v lv : Value) : Int × FsD :=
 if d.fuse = 0 then (2, { d with down := true }) else (0, { (powerD d).2 with now := c.on d.now, lv := lv, loose := d.loose ++ [(c, v)] })
theorem infoChange : (Tryz.prog.info? 124).map (fun i => (i.zero, i.size, i.bytes)) = some (some .nilFunc, 1, 8) := by kernel_rfl
set_option maxHeartbeats 8000000 in
theorem change_calls (f : Nat) (d : FsD) (ρ : Rho) (c : Chg) (v : Value) (w : World) (h : FsAt w f d ρ) (hc : ChgAt w ρ c v) (hfu : -1 ≤ d.fuse ∧ d.fuse ≤ 9223372036854775807) (hv : c.ok d) (hl : d.now.length ≤ 256) (hll : d.loose.length ≤ 1000000) :
 Calls Tryz.prog 51 #[.pointer (some ⟨f, 0, none⟩), v] w fun e w' => ∃ lv ρ', e = .returned (.int .i64 (changeD d c v lv).1) ∧ FsAt w' f (changeD d c v lv).2 ρ' ∧ FsStep w ρ w' ρ' := by
 obtain ⟨i0, hi, hz0, hz1, hz2⟩ := info_parts infoChange
 have hp := power_calls f d ρ w h hfu
 by_cases h0 : d.fuse = 0
 ·have hpd : powerD d = (2, { d with down := true }) := by unfold powerD; rw [if_pos h0]
  have hcd : changeD d c v d.lv = (2, { d with down := true }) := by unfold changeD; rw [if_pos h0]
  have hro := h.role
  rw [hpd] at hp
  have Hp := Lib.hid hp
  have Hcd := Lib.hid hcd
  have Hro := Lib.hid hro
  clear hp hpd hcd hro h hc hv hi hz0 hz1 hz2
  go_enter Tryz.func51, Tryz.ntmps51
  go_wp2_with fail
  refine (Hp.out).mono ?_; rintro e w1 ⟨rfl, hF, hk⟩
  go_wp2
  go_ret
  refine ⟨d.lv, ρ, ?_⟩
  rw [Hcd.out]
  exact ⟨rfl, hF, FsStep.one Hro.out hk⟩
 ·obtain ⟨d1, hd1⟩ : ∃ d1, (powerD d).2 = d1 := ⟨_, rfl⟩
  have hpd : powerD d = (0, d1) := by rw [← hd1]; unfold powerD; rw [if_neg h0]
  have hsame : d1 = { d with fuse := d1.fuse } := by rw [← hd1]; unfold powerD; rw [if_neg h0]
  obtain ⟨fu, hfu2⟩ : ∃ fu, d1.fuse = fu := ⟨_, rfl⟩
  rw [hfu2] at hsame
  subst hsame
  have Hcd : Hid (∀ lv, changeD d c v lv = (0, { d with fuse := fu, now := c.on d.now, lv := lv, loose := d.loose ++ [(c, v)] })) := fun lv => by unfold changeD; rw [if_neg h0, hd1]
  rw [hpd] at hp
  have Hp := Lib.hid hp
  have hgen : ∀ w1, FsAt w1 f { d with fuse := fu } ρ → Keeps (fun k => k = f) w w1 → ∃ g caps, v = .func (.func g) #[] caps ∧ Enters Tryz.prog g ∧ Calls Tryz.prog g (#[.map (some d.mn)] ++ caps) w1 (ChgDone d.mn (c.on d.now) w1) := by
   intro w1 hF hk
   have hc1 : ChgAt w1 ρ c v := hc.keeps hk (fun k e g => by rw [e, h.role] at g; cases g)
   refine chg_calls (l := d.now) hF.rest.dnow hc1 (by rw [h.rest.rnow]; decide) ?_ (by unfold maxLen; omega)
   intro m n e; subst e; exact hv
  have Hgen := Lib.hid hgen
  have Hh := Lib.hid h
  have Hc := Lib.hid hc
  have Hv := Lib.hid hv
  have hll1 : d.loose.length + 1 ≤ maxLen := by unfold maxLen; omega
  have hll2 : (d.loose.length + 1) * 8 ≤ 140737488355328 := by omega
  obtain ⟨g0, caps0, hv0, hent0, _⟩ := chg_calls (l := d.now) h.rest.dnow hc (by rw [h.rest.rnow]; decide) (by intro m n e; subst e; exact hv) (by unfold maxLen; omega)
  have hent : ∀ (args : Array Value) (w : World), (callFunc g0 args).run Tryz.prog w = .ok (.enter g0 args) w := hent0
  subst hv0
  clear hp hgen h hc hv hent0 hpd h0 hd1
  go_enter Tryz.func51, Tryz.ntmps51
  go_wp2_with fail
  refine (Hp.out).mono ?_; rintro e w1 ⟨rfl, hF, hk⟩
  obtain ⟨⟨c0, c1, c2, c3, c4, c5⟩, _⟩ := fsHd_cells hF.hd
  simp only at c0 c1 c2 c3 c4 c5
  obtain ⟨g, caps, hv1, _, hg⟩ := Hgen.out w1 hF hk
  have e1 : g = g0 ∧ caps = caps0 := by injection hv1 with a b c; injection a with a; exact ⟨a.symm, c.symm⟩
  obtain ⟨rfl, rfl⟩ := e1
  have Hg := Lib.hid hg
  have HF := Lib.hid hF
  have Hk := Lib.hid hk
  clear hg hF hk c1 c2 c3 c4 c5 hv1
  go_wp2_with fail
  refine (Hg.out).mono ?_; rintro e w2 ⟨rfl, hd2, hk2⟩
  have hfm : f ≠ d.mn := Rho.ne HF.out.role HF.out.rest.rnow (by decide)
  have hh2 : FsHd w2 f { d with fuse := fu } := hk2.heap HF.out.hd (fun e => hfm e)
  have hrl : ∀ k, d.lv.ownBlock = some k → k ≠ d.mn ∧ k ≠ f := fun k e => ⟨Rho.ne (HF.out.rest.rlv k e) HF.out.rest.rnow (by decide), Rho.ne (HF.out.rest.rlv k e) HF.out.role (by decide)⟩
  have hown2 : w2.ownsRow 0 124 1 d.lv d.loose.length (d.loose.map (·.2)) := own_keeps HF.out.rest.own hk2 (fun k e q => (hrl k e).1 q)
  obtain ⟨aL, cL, hlv⟩ := own_form0 hown2
  have b2 : w2.cell? ⟨f, 2, none⟩ = some (.slice aL d.loose.length cL) := by rw [← hlv]; exact (fsHd_cells hh2).1.2.2.1
  obtain ⟨V, hV⟩ : ∃ V, Value.func (.func g) #[] caps = V := ⟨_, rfl⟩
  have hone : ∀ u ∈ [V], u.oneCell' = true := by intro u hu; rw [List.mem_singleton.1 hu, ← hV]; rfl
  have hnew := cell_one_new w2 V 124
  have hownA : (w2.alloc (.cells #[V] 124)).ownsRow 0 124 1 (.slice aL d.loose.length cL) d.loose.length (d.loose.map (·.2)) := by rw [← hlv]; exact World.ownsRow.alloc hown2 _
  have hlt2 := (Array.getElem?_eq_some_iff.1 hh2).1
  rw [← hV] at hnew hone hownA
  have hhA : FsHd (w2.alloc (.cells #[.func (.func g) #[] caps] 124)) f { d with fuse := fu } := (Below.heap_alloc w2 (.cells #[.func (.func g) #[] caps] 124) f hlt2).trans hh2
  have HhA := Lib.hid hhA
  have Hd2 := Lib.hid hd2
  have Hk2 := Lib.hid hk2
  have Hnew := Lib.hid hnew
  have Hone := Lib.hid hone
  have HownA := Lib.hid hownA
  have Hlv := Lib.hid hlv
  have Hrl := Lib.hid hrl
  have HV := Lib.hid hV
  clear hh2 hhA hown2 hlv hfm hrl hlt2 hd2 hk2 hnew hone hownA hV
  go_wp2_with (at_builtin; go_loud (refine wpList_append_own_at _ rfl (.tmp 21) (.tmp 23) 94 rfl 0 124 i0 .nilFunc 1 8 Tryz.underlying94 hi hz0 hz1 hz2 rfl (by decide) _ _ _ rfl HownA.out ⟨w2.heap.size, 0, none⟩ 1 1 [.func (.func g) #[] caps] rfl rfl Hnew.out Hone.out hll1 hll2 (Nat.zero_le _) ?_; rintro v' w4 hown4 hg4 hn4 hloc4); go_loud (have hh4 : FsHd w4 f { d with fuse := fu } := (Keeps.grown hg4).heap HhA.out (fun e => (Hrl.out f (by rw [Hlv.out]; exact e)).2 rfl); have q2 := (fsHd_cells hh4).1.2.2.1; have q3 := (fsHd_cells hh4).2 2; have Hh4 := Lib.hid hh4; have Hown4 := Lib.hid hown4; have Hg4 := Lib.hid hg4; have Hloc4 := Lib.hid hloc4; obtain ⟨aN, cN, hvN⟩ := own_form0 hown4; subst hvN; clear hh4 hown4 hg4 hn4 hloc4 b2))
  go_ret
  obtain ⟨w5, hw5⟩ : ∃ w5, w4.setCell ⟨f, 2, none⟩ (.slice aN (d.loose.length + 1) cN) = w5 := ⟨_, rfl⟩
  rw [hw5]
  obtain ⟨V, hV⟩ : ∃ V, Value.func (.func g) #[] caps = V := ⟨_, rfl⟩
  rw [hV] at Hcd Hc Hown4 ⊢
  obtain ⟨VL, hVL⟩ : ∃ VL, Value.slice aN (d.loose.length + 1) cN = VL := ⟨_, rfl⟩
  have hfn : (FsHd w5 f { d with fuse := fu, now := c.on d.now, lv := VL, loose := d.loose ++ [(c, V)] }) := by
   rw [← hw5, hVL]; exact heap_setCell_same _ _ 2 _ _ _ Hh4.out
  have hkA : Keeps (fun k => d.lv.ownBlock = some k ∨ k = f) w2 w5 := by
   have k1 : Keeps (fun k => d.lv.ownBlock = some k ∨ k = f) w2 (w2.alloc (.cells #[Value.func (.func g) #[] caps] 124)) := Keeps.alloc _ _ _
   have k2 := k1.go (Keeps.grown Hg4.out) (fun i e => .inl (.inl (by rw [Hlv.out]; exact e)))
   have k3 := k2.go (Keeps.setCell (F := fun k => k = f) w4 ⟨f, 2, none⟩ (.slice aN (d.loose.length + 1) cN) rfl) (fun i e => .inl (.inr e))
   rw [hw5] at k3; exact k3
  have hk1 : Keeps (fun k => k = d.mn ∨ d.lv.ownBlock = some k ∨ k = f) w1 w5 := (Hk2.out.mono (fun i _ e => Or.inl e)).go hkA (fun i e => .inl (.inr e))
  have hmf : ∀ k, (d.lv.ownBlock = some k ∨ k = f) → k ≠ d.mn := by
   rintro k (e | e)
   ·exact (Hrl.out k e).1
   ·rw [e]; exact Rho.ne HF.out.role HF.out.rest.rnow (by decide)
  have hd5 : DirAt w5 d.mn (c.on d.now) := ownsMap_keeps Hd2.out hkA (fun e => hmf _ e rfl)
  have hs12 := Hk2.out.size
  have hloc : VL.ownBlock = d.lv.ownBlock ∨ ∃ k0, VL.ownBlock = some k0 ∧ w1.heap.size ≤ k0 := by
   rw [← hVL, Hlv.out]
   rcases Hloc4.out with h1 | h1
   ·exact .inl h1
   ·exact .inr ⟨_, h1, by simp; omega⟩
  have hown5 : w5.ownsRow 0 124 1 VL (d.loose.length + 1) (d.loose.map (·.2) ++ [V]) := by
   rw [← hw5, ← hVL]
   refine own_keeps Hown4.out (Keeps.setCell (F := fun k => k = f) w4 _ _ rfl) (fun k e q => ?_)
   rw [hVL] at e
   rcases hloc with h1 | ⟨k0, h1, h2⟩
   ·rw [h1] at e; exact (Hrl.out k e).2 q
   ·rw [h1] at e; cases e
    have := HF.out.rest.lt f (by rw [HF.out.role]; rfl)
    omega
  have hc1 : ChgAt w1 ρ c V := Hc.out.keeps Hk.out (fun k e g => by rw [e, Hh.out.role] at g; cases g)
  have hrest := FsRest.changed HF.out.rest Hh.out.role hk1 hd5 hown5 hloc hc1 (chg_files (d := d) HF.out.rest.fnow Hv.out) fu d.room d.down
  have hup := Rho.add_up (w := w1) HF.out.rest.lt HF.out.rest.rlv hloc f .fs HF.out.role
  have hstep : FsStep w ρ w5 (ρ.add VL .loose) := by
   refine ⟨(Hk.out.mono (G := ρ.has) (fun i _ e => by rw [e]; exact Rho.has_of Hh.out.role)).go hk1 ?_, fun k hk => ?_⟩
   ·rintro i (e | e | e)
    ·rw [e]; exact .inl (Rho.has_of Hh.out.rest.rnow)
    ·exact .inl (Rho.has_of (Hh.out.rest.rlv i e))
    ·rw [e]; exact .inl (Rho.has_of Hh.out.role)
   ·rcases Rho.add_has (w := w1) HF.out.rest.rlv hloc k hk with e | e
    ·exact .inl e
    ·exact .inr (Nat.le_trans Hk.out.size e)
  refine ⟨VL, ?_, ρ.add VL .loose, ?_, hstep⟩
  ·rw [Hcd.out]; rfl
  ·rw [Hcd.out]; exact ⟨hup, hfn, hrest⟩
theorem FsRest.grow {w w' : World} {d : FsD} {ρ σ : Rho} (h : FsRest w d ρ) (hb : Below w.heap.size w w') (hup : ∀ k r, ρ k = some r → σ k = some r) (hlt : ∀ k, (σ k).isSome = true → k < w'.heap.size) : FsRest w' d σ := by
 have h' := h.keeps (F := fun _ => False) (Keeps.ofBelow hb) (fun _ e => e.elim)
 exact ⟨hup _ _ h'.rnow, hup _ _ h'.rsure, h'.dnow, h'.dsure, fun k e => hup _ _ (h'.rlv k e), h'.own, fun p hp => (h'.chg p hp).mono hup, fun x c hx => (h'.files x c hx).mono hup, h'.fnow, h'.fsure, hlt⟩
theorem FsAt.grow {w w' : World} {f : Nat} {d : FsD} {ρ σ : Rho} (h : FsAt w f d ρ) (hb : Below w.heap.size w w') (hup : ∀ k r, ρ k = some r → σ k = some r) (hlt : ∀ k, (σ k).isSome = true → k < w'.heap.size) : FsAt w' f d σ :=
 ⟨hup _ _ h.role, (hb.block _ (Array.getElem?_eq_some_iff.1 h.hd).1).trans h.hd, h.rest.grow hb hup hlt⟩
def FsD.setFile (d : FsD) (x : Nat) (c : FileC) : FsD := { d with file := fun k => if k = x then some c else d.file k }
theorem FsRest.setFile {w : World} {d : FsD} {ρ : Rho} {x : Nat} {c : FileC} (h : FsRest w d ρ) (hx : FileAt' w ρ x c) : FsRest w (d.setFile x c) ρ := by
 have hs : ∀ k, (d.file k).isSome = true → ((d.setFile x c).file k).isSome = true := by
  intro k hk
  show (if k = x then some c else d.file k).isSome = true
  by_cases e : k = x
  ·rw [if_pos e]; rfl
  ·rw [if_neg e]; exact hk
 refine ⟨h.rnow, h.rsure, h.dnow, h.dsure, h.rlv, h.own, h.chg, ?_, fun p hp => hs _ (h.fnow p hp), fun p hp => hs _ (h.fsure p hp), h.lt⟩
 intro k cc hk
 have hk : (if k = x then some c else d.file k) = some cc := hk
 by_cases e : k = x
 ·rw [if_pos e] at hk; cases hk; rw [e]; exact hx
 ·rw [if_neg e] at hk; exact h.files k cc hk
def Rho.set (ρ : Rho) (b : Nat) (r : Role) : Rho := fun k => if k = b then some r else ρ k
theorem Rho.set_same (ρ : Rho) (b : Nat) (r : Role) : (ρ.set b r) b = some r := by unfold Rho.set; rw [if_pos rfl]
theorem Rho.set_other {ρ : Rho} {b k : Nat} {r : Role} (h : k ≠ b) : (ρ.set b r) k = ρ k := by unfold Rho.set; rw [if_neg h]
theorem Rho.set_up {ρ : Rho} {b : Nat} {r0 : Role} (hb : ρ b = none) : ∀ k r, ρ k = some r → (ρ.set b r0) k = some r := by
 intro k r h
 by_cases e : k = b
 ·rw [e, hb] at h; cases h
 ·rw [Rho.set_other e]; exact h
theorem Rho.set_lt {ρ : Rho} {b n : Nat} {r0 : Role} (hb : b < n) (h : ∀ k, (ρ k).isSome = true → k < n) : ∀ k, ((ρ.set b r0) k).isSome = true → k < n := by
 intro k hk
 by_cases e : k = b
 ·rw [e]; exact hb
 ·rw [Rho.set_other e] at hk; exact h k hk
theorem Rho.none_of {ρ : Rho} {n b : Nat} (h : ∀ k, (ρ k).isSome = true → k < n) (hb : n ≤ b) : ρ b = none := by
 cases e : ρ b with
 | none => rfl
 | some r => have := h b (by rw [e]; rfl); omega
theorem rdS_one {w : World} {g : Nat} {n : Nm} {t : TypeId} (h : w.heap[g]? = some (.cells #[.string (strL n)] t (0, 0))) : RdS w (.slice (some ⟨g, 0, none⟩) 1 1) [n] := by
 refine .inr ⟨g, 0, 1, rfl, by simp, Nat.le_refl _, by decide, (Array.getElem?_eq_some_iff.1 h).1, ?_⟩
 intro i x hx j u hu
 match i, hx with
 | 0, hx =>
  cases hx
  match j, hu with
  | 0, hu => cases hu; rw [cell_of_row _ _ _ _ _ _ h]; rfl
  | j + 1, hu => cases hu
 | i + 1, hx => cases hx
def file0 : FileC := ⟨[], 0, .slice none 0 0⟩
def createD (d : FsD) (n : Nm) (x : Nat) (v lv : Value) : Int × FsD :=
 if readyE d [n] = 0 then (if (d.now.look n).isSome then (5, d) else if 256 ≤ d.now.length then (3, d) else changeD (d.setFile x file0) (.create n x) v lv) else (readyE d [n], d)
theorem rightD_len {n : Nm} (h : rightD n = true) : n.length ≤ 80 := by
 unfold rightD at h
 have := (Bool.and_eq_true _ _ ▸ h : _ ∧ _).2
 exact of_decide_eq_true this
theorem readyE_right {d : FsD} {ns : List Nm} (h : readyE d ns = 0) : ∀ n ∈ ns, rightD n = true := by
 intro n hn
 unfold readyE at h
 cases ha : ns.all rightD with
 | true => exact List.all_eq_true.1 ha n hn
 | false => rw [ha] at h; cases h
set_option maxHeartbeats 16000000 in
theorem create_calls (f : Nat) (d : FsD) (ρ : Rho) (n : Nm) (w : World) (h : FsAt w f d ρ) (hs : n.length ≤ maxLen) (hfu : -1 ≤ d.fuse ∧ d.fuse ≤ 9223372036854775807) (hll : d.loose.length ≤ 1000000) :
 Calls Tryz.prog 15 #[.pointer (some ⟨f, 0, none⟩), .string (strL n)] w fun e w' => ∃ x v lv ρ', w.heap.size ≤ x ∧ e = .returned (.int .i64 (createD d n x v lv).1) ∧ FsAt w' f (createD d n x v lv).2 ρ' ∧ FsStep w ρ w' ρ' := by
 obtain ⟨nb, hnb⟩ : ∃ nb, w.heap.size = nb := ⟨_, rfl⟩
 obtain ⟨W1, hW1⟩ : ∃ W1, w.alloc (.cells #[.string (strL n)] 9) = W1 := ⟨_, rfl⟩
 obtain ⟨W2, hW2⟩ : ∃ W2, W1.alloc (.cells #[.string (strL n)] 9) = W2 := ⟨_, rfl⟩
 have hb1 : Below w.heap.size w W1 := by rw [← hW1]; exact (Below.refl _ _).alloc (Nat.le_refl _) _
 have hb2 : Below W1.heap.size W1 W2 := by rw [← hW2]; exact (Below.refl _ _).alloc (Nat.le_refl _) _
 have hz1 : W1.heap.size = nb + 1 := by rw [← hW1, ← hnb]; simp
 have hbw2 := hb1.trans (hb2.mono hb1.size)
 have hnh1 : W1.heap[nb]? = some (.cells #[.string (strL n)] 9 (0, 0)) := by rw [← hW1]; exact heap_new_at _ hnb.symm
 have hnh2 : W2.heap[nb]? = some (.cells #[.string (strL n)] 9 (0, 0)) := (hb2.block nb (by omega)).trans hnh1
 have hnh3 : W2.heap[nb + 1]? = some (.cells #[.string (strL n)] 9 (0, 0)) := by rw [← hW2]; exact heap_new_at _ hz1.symm
 have h1 := ready_calls f d ρ (.slice (some ⟨nb + 1, 0, none⟩) 1 1) [n] W2 (h.below hbw2) (rdS_one hnh3) (fun k hk => by rw [List.mem_singleton.1 hk]; unfold maxLen at hs; exact hs)
 obtain ⟨e, he⟩ : ∃ e, readyE d [n] = e := ⟨_, rfl⟩
 rw [he] at h1
 have Hcd : Hid (∀ x v lv, createD d n x v lv = if e = 0 then (if (d.now.look n).isSome then (5, d) else if 256 ≤ d.now.length then (3, d) else changeD (d.setFile x file0) (.create n x) v lv) else (e, d)) := fun x v lv => by unfold createD; rw [he]
 have hr80 : e = 0 → n.length ≤ 80 := fun h0 => rightD_len (readyE_right (he.trans h0) n (by simp))
 have H1 := Lib.hid h1
 have H := Lib.hid h
 have Hr80 := Lib.hid hr80
 have Hbw2 := Lib.hid hbw2
 have Hnh2 := Lib.hid hnh2
 have Hnb := Lib.hid hnb
 have Hs := Lib.hid hs
 clear h1 h he hr80 hbw2 hnh2 hnh1 hnh3 hb1 hb2 hz1 hs
 subst hW2
 subst hW1
 subst hnb
 by_cases h0 : e = 0
 ·subst h0
  have Hcd2 : Hid (∀ x v lv, createD d n x v lv = (if (d.now.look n).isSome then (5, d) else if 256 ≤ d.now.length then (3, d) else changeD (d.setFile x file0) (.create n x) v lv)) := fun x v lv => by have := Hcd.out x v lv; rw [this]; rfl
  clear Hcd
  have Hn80 := Lib.hid (Hr80.out rfl)
  clear Hr80
  go_enter Tryz.func15, Tryz.ntmps15
  go_wp2_with fail
  refine (H1.out).mono ?_; rintro e w3 ⟨rfl, hb3⟩
  have hbw3 := Hbw2.out.trans (hb3.mono Hbw2.out.size)
  have hb3s : w.heap.size + 2 ≤ w3.heap.size := by have := hb3.size; simp at this; omega
  have hF := H.out.below hbw3
  have hlk := dir_look (World.ownsMap.drew hF.rest.dnow) n Hs.out
  have hln := dir_len (World.ownsMap.drew hF.rest.dnow) 3
  obtain ⟨⟨c0, c1, c2, c3, c4, c5⟩, _⟩ := fsHd_cells hF.hd
  have hnb3 := (hb3.block _ (Array.getElem?_eq_some_iff.1 Hnh2.out).1).trans Hnh2.out
  have hcn : w3.cell? ⟨w.heap.size, 0, none⟩ = some (.string (strL n)) := by rw [cell_of_row _ _ _ _ _ _ hnb3]; rfl
  obtain ⟨nb, hnb⟩ : ∃ nb, w.heap.size = nb := ⟨_, rfl⟩
  obtain ⟨mn, hmn⟩ : ∃ mn, d.mn = mn := ⟨_, rfl⟩
  obtain ⟨o, ho⟩ : ∃ o, d.now.look n = o := ⟨_, rfl⟩
  obtain ⟨sn, hsn⟩ : ∃ sn, strL n = sn := ⟨_, rfl⟩
  obtain ⟨pv, hpv⟩ : ∃ pv, ptrOf o = pv := ⟨_, rfl⟩
  obtain ⟨ok, hok⟩ : ∃ ok, o.isSome = ok := ⟨_, rfl⟩
  rw [hmn, ho, hsn, hpv, hok] at hlk
  rw [hmn] at c0 hln
  rw [hsn, hnb] at hcn
  rw [hnb, hsn] at hnb3
  have HS : Hid ((fun w' => w'.cell? ⟨f, 0, none⟩ = some (.map (some mn)) ∧ w'.cell? ⟨nb, 0, none⟩ = some (.string sn) ∧ (Instr.lookup 93 (.map (some mn)) (.string sn) true).run Tryz.prog w' = .ok (.tuple #[pv, .bool ok]) w') w3.drew) := ⟨c0, hcn, hlk⟩
  have Hok := Lib.hid (show (d.now.look n).isSome = ok by rw [ho]; exact hok)
  have Hnb3 := Lib.hid hnb3
  have Hnb4 := Lib.hid hnb
  have Hsn := Lib.hid hsn
  have Hmn := Lib.hid hmn
  have HF := Lib.hid hF
  have Hbw3 := Lib.hid hbw3
  have c0d : w3.drew.cell? ⟨f, 0, none⟩ = some (.map (some mn)) := c0
  clear hlk hcn c1 c2 c3 c4 c5 hmn ho hsn hpv hok hnb3 hF hbw3 hb3
  go_upto_region 4 with fail
  (try rw [Hnb4.out]); (try rw [Hsn.out])
  clear hnb
  refine wp_region_noPanic ?_
  refine wp_region_held_drew (S := (fun w' => w'.cell? ⟨f, 0, none⟩ = some (.map (some mn)) ∧ w'.cell? ⟨nb, 0, none⟩ = some (.string sn) ∧ (Instr.lookup 93 (.map (some mn)) (.string sn) true).run Tryz.prog w' = .ok (.tuple #[pv, .bool ok]) w')) (by kernel_rfl) (by with_reducible exact HS.out) (fun hHeld => ?_)
  refine tkP 0 ?_
  refine tkP 1 ?_
  refine tkP 2 ?_
  refine tkP 3 ?_
  refine tkP 4 ?_
  refine tkP 5 ?_
  refine tkP 6 ?_
  refine tkP 7 ?_
  refine tkP 8 ?_
  refine tkP 9 ?_
  refine tkP 10 ?_
  refine wpAnyH_done (by kernel_rfl) ?_ _
  refine NoPanic.normal ?_
  clear HS
  cases ok with
  | true =>
   have Hcd3 : Hid (∀ x v lv, createD d n x v lv = (5, d)) := fun x v lv => by have := Hcd2.out x v lv; rw [this, Hok.out]; rfl
   clear c0 c0d hln
   go_wp2
   go_ret
   refine ⟨nb, .nilFunc, d.lv, ρ, ?_⟩
   rw [Hcd3.out]
   exact ⟨by rw [Hnb4.out]; exact Nat.le_refl _, rfl, HF.out.below (Below.refl _ _).drew, FsStep.below (Hbw3.out.drew)⟩
  | false =>
   have Hcd3 : Hid (∀ x v lv, createD d n x v lv = if 256 ≤ d.now.length then (3, d) else changeD (d.setFile x file0) (.create n x) v lv) := fun x v lv => by have := Hcd2.out x v lv; rw [this, Hok.out]; rfl
   by_cases hfull : (256 : Int) ≤ (d.now.length : Int)
   ·have Hcd4 : Hid (∀ x v lv, createD d n x v lv = (3, d)) := fun x v lv => by have := Hcd3.out x v lv; rw [this, if_pos (by omega)]
    go_wp2
    go_ret
    refine ⟨nb, .nilFunc, d.lv, ρ, ?_⟩
    rw [Hcd4.out]
    exact ⟨by rw [Hnb4.out]; exact Nat.le_refl _, rfl, HF.out.below (Below.refl _ _).drew, FsStep.below (Hbw3.out.drew)⟩
   ·have Hcd4 : Hid (∀ x v lv, createD d n x v lv = changeD (d.setFile x file0) (.create n x) v lv) := fun x v lv => by have := Hcd3.out x v lv; rw [this, if_neg (by omega)]
    have hnd : ∀ k, (ρ k).isSome = true → k < nb := fun k hk => by have := H.out.rest.lt k hk; have := Hnb4.out; omega
    have hsz3 : nb + 2 ≤ w3.heap.size := by have := hb3s; have := Hnb4.out; omega
    obtain ⟨W4, hW4⟩ : ∃ W4, ((w3.alloc (.cells #[.slice none 0 0, .int .i64 0] 101)).alloc (.cells #[.pointer (some ⟨w3.heap.size, 0, none⟩)] 98)).drew = W4 := ⟨_, rfl⟩
    have hb4 : Below w3.heap.size w3 W4 := by rw [← hW4]; exact (((Below.refl _ _).alloc (Nat.le_refl _) _).alloc (by simp) _).drew
    have hX : W4.heap[w3.heap.size]? = some (.cells #[.slice none 0 0, .int .i64 0] 101 (0, 0)) := by rw [← hW4]; exact (Below.heap_alloc _ _ _ (by simp)).trans (heap_new_at _ rfl)
    have hXb : W4.heap[w3.heap.size + 1]? = some (.cells #[.pointer (some ⟨w3.heap.size, 0, none⟩)] 98 (0, 0)) := by rw [← hW4]; exact heap_new_at _ (by simp)
    have hNb : W4.heap[nb]? = some (.cells #[.string (strL n)] 9 (0, 0)) := by rw [Hsn.out]; exact (hb4.block nb (by omega)).trans Hnb3.out
    have hsz4 : W4.heap.size = w3.heap.size + 2 := by rw [← hW4]; simp
    obtain ⟨σ, hσ⟩ : ∃ σ, ((ρ.set nb .box).set w3.heap.size .file).set (w3.heap.size + 1) .box = σ := ⟨_, rfl⟩
    have r1 : ρ nb = none := Rho.none_of hnd (Nat.le_refl _)
    have r2 : (ρ.set nb .box) w3.heap.size = none := by rw [Rho.set_other (by omega)]; exact Rho.none_of hnd (by omega)
    have r3 : ((ρ.set nb .box).set w3.heap.size .file) (w3.heap.size + 1) = none := by rw [Rho.set_other (by omega), Rho.set_other (by omega)]; exact Rho.none_of hnd (by omega)
    have hup : ∀ k r, ρ k = some r → σ k = some r := fun k r hr => by rw [← hσ]; exact Rho.set_up r3 k r (Rho.set_up r2 k r (Rho.set_up r1 k r hr))
    have hlt : ∀ k, (σ k).isSome = true → k < W4.heap.size := by rw [← hσ]; exact Rho.set_lt (by omega) (Rho.set_lt (by omega) (Rho.set_lt (by omega) (fun k hk => by have := hnd k hk; omega)))
    have hf4 := HF.out.grow hb4 hup hlt
    have hfile : FileAt' W4 σ w3.heap.size file0 := ⟨by rw [← hσ, Rho.set_other (by omega), Rho.set_same], hX, World.ownsRow_nil _ _ _ _, (fun k hk => by cases hk), by decide, Nat.le_refl _⟩
    have hf5 : FsAt W4 f (d.setFile w3.heap.size file0) σ := ⟨hf4.role, hf4.hd, hf4.rest.setFile hfile⟩
    have hchg : ChgAt W4 σ (.create n w3.heap.size) (.func (.func 52) #[] #[.pointer (some ⟨w3.heap.size + 1, 0, none⟩), .pointer (some ⟨nb, 0, none⟩)]) :=
     ⟨_, _, rfl, by rw [← hσ, Rho.set_same], by rw [← hσ, Rho.set_other (by omega), Rho.set_other (by omega), Rho.set_same], hXb, hNb, Hn80.out⟩
    have hcall := change_calls f (d.setFile w3.heap.size file0) σ (.create n w3.heap.size) _ W4 hf5 hchg hfu (by show (if w3.heap.size = w3.heap.size then some file0 else d.file w3.heap.size).isSome = true; rw [if_pos rfl]; rfl) (by show d.now.length ≤ 256; omega) hll
    have hst : FsStep w ρ W4 σ := by
     refine ⟨Keeps.ofBelow (Hbw3.out.trans (hb4.mono Hbw3.out.size)), fun k hk => ?_⟩
     by_cases e : k < nb
     ·rw [← hσ] at hk
      unfold Rho.has at hk
      rw [Rho.set_other (by omega), Rho.set_other (by omega), Rho.set_other (by omega)] at hk
      exact .inl hk
     ·exact .inr (by have := Hnb4.out; omega)
    have Hcall := Lib.hid hcall
    have Hst := Lib.hid hst
    have HW4 := Lib.hid hW4
    clear hcall hst hW4 hf4 hf5 hfile hchg hup hlt hb4 hX hXb hNb hsz4 r1 r2 r3 hnd hσ
    go_wp2_with fail
    (try rw [HW4.out])
    refine (Hcall.out).mono ?_; rintro e w9 ⟨lv9, ρ9, rfl, hF9, hst9⟩
    go_wp2
    go_ret
    refine ⟨w3.heap.size, .func (.func 52) #[] #[.pointer (some ⟨w3.heap.size + 1, 0, none⟩), .pointer (some ⟨nb, 0, none⟩)], lv9, ρ9, ?_, ?_, ?_, Hst.out.trans hst9⟩
    ·have := Hnb4.out; omega
    ·rw [Hcd4.out]; rfl
    ·rw [Hcd4.out]; exact hF9
 ·have h0' : (e == 0) = false := by simpa using h0
  have Hcd2 : Hid (∀ x v lv, createD d n x v lv = (e, d)) := fun x v lv => by have := Hcd.out x v lv; rw [this, if_neg h0]
  go_enter Tryz.func15, Tryz.ntmps15
  go_wp2_with fail
  refine (H1.out).mono ?_; rintro e w3 ⟨rfl, hb3⟩
  have hbw3 := Hbw2.out.trans (hb3.mono Hbw2.out.size)
  go_wp2
  go_ret
  refine ⟨w.heap.size, .nilFunc, d.lv, ρ, ?_⟩
  rw [Hcd2.out]
  exact ⟨Nat.le_refl _, rfl, H.out.below hbw3, FsStep.below hbw3⟩
end Go.Proofs.YtffnbkmigapmjaaGreatDoor
