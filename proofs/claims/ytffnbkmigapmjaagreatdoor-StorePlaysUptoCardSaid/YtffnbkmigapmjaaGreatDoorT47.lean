/-
  Bounce; any call; and opening anew, of a store that is as the model has it (plain).
  What lies below a disk's blocks stays (plain).
  A store and a model beside each other in memory.
-/
import Derived.Test.YtffnbkmigapmjaaGreatDoorT33
import Derived.Test.YtffnbkmigapmjaaGreatDoorT46
set_option linter.unusedSimpArgs false
set_option linter.unusedVariables false
set_option maxRecDepth 100000
namespace Go.Proofs.YtffnbkmigapmjaaGreatDoor
section
variable {T : Nat} {M : ModD} {d d' : StoD} {er id : Int} {m : MailD}
theorem good_parent {b : BoxD} (hi : ModI T M) (hb : b ∈ M.list) : b.m.parent ≤ b.m.id - 1 := ((good_iff _).1 (hi.good b hb)).2.1.2
theorem add_list (M : ModD) (m : MailD) : ((M.add m).2.1 ≠ 0 ∧ (M.add m).2.2.list = M.list) ∨ ((M.add m).2.1 = 0 ∧ (M.add m).2.2.list = M.list ++ [⟨{ m with id := M.last + 1 }, 105, []⟩]) := by
 unfold ModD.add
 split
 ·exact .inl ⟨by show (3 : Int) ≠ 0; decide, rfl⟩
 ·exact .inr ⟨rfl, rfl⟩
theorem ParOk.list {M M' : ModD} (h : ParOk M) (e : M'.list = M.list) : ParOk M' := by unfold ParOk; rw [e]; exact h
theorem commit_same (h : Same14 d M) (hi : ModI T M) (hp : ParOk M) (hT : T ≤ 197) (hr : CommitR d m er id d') :
 er = (M.commit m).2.1 ∧ id = (M.commit m).1 ∧ Same14 d' (M.commit m).2.2 ∧ ModI (T + 1) (M.commit m).2.2 ∧ ParOk (M.commit m).2.2 := by
 have hl := hi.last
 unfold ModD.commit
 rcases hr with ⟨h1, rfl, rfl, rfl⟩ | ⟨_, _, h1, _⟩ | ⟨h1, h2, _, ha⟩
 ·rw [if_neg (fun e => by
   rcases h1 with h1 | h1
   ·have : goodM m = false := h1
    rw [e.1] at this; cases this
   ·exact h1 e.2)]
  exact ⟨rfl, rfl, h, hi.mono (by omega), hp⟩
 ·rw [h.down] at h1; cases h1
 ·have hg : goodM m = true := h1
  rw [if_pos ⟨hg, h2⟩]
  obtain ⟨q1, q2, q3⟩ := add_same h hi (by omega) hg (by omega) ha
  refine ⟨q1, q2, q3, hi.add hg (by omega) (by omega), ?_⟩
  rcases add_list M m with ⟨_, e⟩ | ⟨_, e⟩
  ·exact hp.list e
  ·unfold ParOk
   rw [e]
   intro x hx z hz
   rcases List.mem_append.1 hx with hx | hx
   ·have hxp := good_parent hi hx
    have hxl := (hi.id x hx).2
    rcases List.mem_append.1 hz with hz | hz
    ·exact hp x hx z hz
    ·rw [List.mem_singleton.1 hz]
     show M.last + 1 ≠ _
     omega
   ·rw [List.mem_singleton.1 hx]
    show z.m.id ≠ m.parent
    rw [h2]
    rcases List.mem_append.1 hz with hz | hz
    ·have := (hi.id z hz).1; omega
    ·rw [List.mem_singleton.1 hz]
     show M.last + 1 ≠ 0
     omega
theorem work_keep {q : UInt8} (h : keepQ.contains q = true) : workQ.contains q = true ↔ q ≠ 104 := by
 have hm : q ∈ keepQ := by simpa using h
 have hall : (keepQ.all fun q => workQ.contains q == (q != 104)) = true := by decide
 have := List.all_eq_true.1 hall q hm
 rw [beq_iff_eq] at this
 rw [this, bne_iff_ne]
theorem bounce_same (h : Same14 d M) (hi : ModI T M) (hp : ParOk M) (hT : T ≤ 196) (hr : BounceR d m er id d') :
 er = (M.bounce m).2.1 ∧ id = (M.bounce m).1 ∧ Same14 d' (M.bounce m).2.2 ∧ ModI (T + 1) (M.bounce m).2.2 ∧ ParOk (M.bounce m).2.2 := by
 have hl := hi.last
 have hgn : goodNew m = goodM m := rfl
 unfold ModD.bounce
 unfold BounceR at hr
 rw [h.whr, hgn] at hr
 rcases hi.at_cases m.parent with ⟨e, _, ew⟩ | ⟨j, b, e, hb, hbm, hid, ew⟩
 ·rw [ew] at hr
  rw [if_neg (fun f => f.2.1 (by rw [e]; decide))]
  rcases hr with ⟨_, rfl, rfl, rfl⟩ | ⟨_, h2, _⟩
  ·exact ⟨rfl, rfl, h, hi.mono (by omega), hp⟩
  ·exact absurd h2 (by decide)
 ·rw [ew] at hr
  have hqa : M.qAt m.parent = b.q := by unfold ModD.qAt; rw [e, Int.toNat_natCast, hb]; rfl
  have hwk := work_keep (hi.q b hbm)
  rw [hqa]
  rcases hr with ⟨h1, rfl, rfl, rfl⟩ | ⟨h1, h2, ⟨h3, _⟩ | ⟨_, e1, id1, d1, ha, h4⟩⟩
  ·rw [if_neg (fun f => by
    rcases h1 with h1 | h1
    ·rw [f.1] at h1; cases h1
    ·rw [hwk.2 f.2.2] at h1; cases h1)]
   exact ⟨rfl, rfl, h, hi.mono (by omega), hp⟩
  ·rw [h.down] at h3; cases h3
  ·rw [if_pos ⟨h1, by rw [e]; omega, hwk.1 h2⟩]
   have hpl : m.parent ≤ M.last := by rw [← hid]; exact (hi.id b hbm).2
   obtain ⟨q1, q2, q3⟩ := add_same h hi (by omega) h1 hpl ha
   have hi1 := hi.add h1 hpl (by omega)
   rcases add_list M m with ⟨hne, el⟩ | ⟨he0, el⟩
   ·rw [if_neg hne]
    rcases h4 with ⟨_, rfl, rfl, rfl⟩ | ⟨h5, _⟩
    ·exact ⟨q1, rfl, q3, hi1, hp.list el⟩
    ·exact absurd (q1.symm.trans h5) hne
   ·rw [if_pos he0]
    rcases h4 with ⟨h5, _⟩ | ⟨_, rfl, hd⟩
    ·exact absurd (q1.trans he0) h5
    ·obtain ⟨r1, r2, r3, _⟩ := drop_same q3 hi1 (by omega) hd
     have hb1 : (M.add m).2.2.list[j]? = some b := by
      rw [el, List.getElem?_append_left (List.getElem?_eq_some_iff.1 hb).1]; exact hb
     have hat1 : (M.add m).2.2.at m.parent = (j : Int) ∧ (M.add m).2.2.drop m.parent = (0, { (M.add m).2.2 with list := (M.add m).2.2.list.eraseIdx j }) := by
      rcases hi1.at_cases m.parent with ⟨_, hn, _⟩ | ⟨j', b', e', hb', hbm', hid', _⟩
      ·exact absurd hid (hn b (List.mem_of_getElem? hb1))
      ·have hjj : j' = j := by
        have hbb := asc_inj hi1.asc b' hbm' b (List.mem_of_getElem? hb1) (hid'.trans hid.symm)
        subst hbb
        have hnd : (M.add m).2.2.list.Nodup := hi1.asc.imp (fun {a c} hac e => by rw [e] at hac; omega)
        obtain ⟨l1, g1⟩ := List.getElem?_eq_some_iff.1 hb'
        obtain ⟨l2, g2⟩ := List.getElem?_eq_some_iff.1 hb1
        exact (List.getElem_inj hnd).1 (g1.trans g2.symm)
       subst hjj
       exact ⟨e', by unfold ModD.drop; rw [e', if_neg (by omega), Int.toNat_natCast]⟩
     rw [hat1.2] at r1 r2 r3
     rw [hat1.2]
     refine ⟨r1, q2, r2, r3, ?_⟩
     have hem : ∀ x ∈ (M.add m).2.2.list.eraseIdx j, x ∈ M.list ++ [⟨{ m with id := M.last + 1 }, 105, []⟩] ∧ x.m.id ≠ b.m.id := fun x hx => by
      have := erase_mem hi1.asc hb1 hx
      rw [el] at this; exact this
     intro x hx z hz
     obtain ⟨x1, _⟩ := hem x hx
     obtain ⟨z1, z2⟩ := hem z hz
     rcases List.mem_append.1 x1 with x1 | x1
     ·have hxp := good_parent hi x1
      have hxl := (hi.id x x1).2
      rcases List.mem_append.1 z1 with z1 | z1
      ·exact hp x x1 z z1
      ·rw [List.mem_singleton.1 z1]
       show M.last + 1 ≠ _
       omega
     ·rw [List.mem_singleton.1 x1]
      show z.m.id ≠ m.parent
      rw [← hid]; exact z2
theorem run_same (h : Same14 d M) (hi : ModI T M) (hp : ParOk M) (hT : T ≤ 196) {o : OpV} (hr : DoR d o er id d') :
 er = (M.run o).2.1 ∧ id = (M.run o).1 ∧ Same14 d' (M.run o).2.2 ∧ ModI (T + 1) (M.run o).2.2 ∧ ParOk (M.run o).2.2 := by
 unfold ModD.run
 rcases hr with ⟨k, hr⟩ | ⟨k, hr⟩ | ⟨k, rfl, hr⟩ | ⟨k, rfl, hr⟩ | ⟨k, rfl, hr⟩ | ⟨⟨k1, k2, k3, k4, k5⟩, rfl, rfl, rfl⟩
 ·rw [if_pos k]
  exact commit_same h hi hp (by omega) hr
 ·rw [if_neg (by omega), if_pos k]
  exact bounce_same h hi hp hT hr
 ·rw [if_neg (by omega), if_neg (by omega), if_pos k]
  obtain ⟨q1, q2, q3, q4⟩ := mark_same h hi (by omega) hr
  exact ⟨q1, rfl, q2, q3, q4 hp⟩
 ·rw [if_neg (by omega), if_neg (by omega), if_neg (by omega), if_pos k]
  obtain ⟨q1, q2, q3, q4⟩ := move_same h hi (by omega) hr
  exact ⟨q1, rfl, q2, q3, q4 hp⟩
 ·rw [if_neg (by omega), if_neg (by omega), if_neg (by omega), if_neg (by omega), if_pos k]
  obtain ⟨q1, q2, q3, q4⟩ := drop_same h hi (by omega) hr
  exact ⟨q1, rfl, q2, q3.mono (by omega), q4 hp⟩
 ·rw [if_neg k1, if_neg k2, if_neg k3, if_neg k4, if_neg k5]
  exact ⟨rfl, rfl, h, hi.mono (by omega), hp⟩
theorem wh_put_filter : ∀ {l : List BoxD} {P : BoxD → Bool} {b : BoxD}, Asc l → b ∈ l → P b = false → Wh.ins (b.m.id, b.q) (whM (l.filter P)) = whM (l.filter (fun y => P y || y.m.id == b.m.id))
 | a :: l, P, b, hp, hb, hP => by
  obtain ⟨h1, h2⟩ := List.pairwise_cons.1 hp
  rcases List.mem_cons.1 hb with e | hb
  ·subst e
   have hf : l.filter (fun y => P y || y.m.id == b.m.id) = l.filter P := List.filter_congr (fun y hy => by
    have := h1 y hy
    have h3 : (y.m.id == b.m.id) = false := by rw [beq_eq_false_iff_ne]; omega
    rw [h3, Bool.or_false])
   rw [List.filter_cons, hP, if_neg (by simp), List.filter_cons, hP, show (false || b.m.id == b.m.id) = true by simp, if_pos rfl, hf]
   cases hl : l.filter P with
   | nil => rfl
   | cons c r =>
    have hc := h1 c (List.mem_filter.1 (hl ▸ List.mem_cons_self ..)).1
    unfold whM
    rw [List.map_cons, Wh.ins, if_pos (by show b.m.id < c.m.id; omega)]; rfl
  ·have hab := h1 b hb
   have ih := wh_put_filter (l := l) (P := P) (b := b) h2 hb hP
   have h3 : (a.m.id == b.m.id) = false := by rw [beq_eq_false_iff_ne]; omega
   rw [List.filter_cons, List.filter_cons, h3, Bool.or_false]
   by_cases hPa : P a = true
   ·rw [if_pos hPa, if_pos hPa]
    unfold whM at ih ⊢
    rw [List.map_cons, Wh.ins, if_neg (by show ¬ b.m.id < a.m.id; omega), ih, List.map_cons]
   ·rw [if_neg hPa, if_neg hPa]
    exact ih
theorem open_same (h : Same14 d M) (hi : ModI T M) (hp : ParOk M) (hT : T ≤ 199) {f ib mb : Nat} {ss : List Nm} {d2 : StoD} (hr : RecoverR (openD d.fs f ib mb ss) er d2) : er = 0 ∧ Like d2 M ∧ d2.whr.length ≤ 199 := by
 obtain ⟨C, hv, hc⟩ := h.vw
 have hbd : 0 ≤ M.bound ∧ M.bound ≤ 999999999 := by have := hi.last; have := hi.lb; have := hi.bd; omega
 have hnm : ∀ ss1, sortedNm d.fs ss1 → (∀ n ∈ ss1, (∃ b ∈ M.list, b.nm = n) ∨ n = idsNameD M.bound) ∧ ss1.Nodup ∧ ∀ b ∈ M.list, b.nm ∈ ss1 := by
  intro ss1 h1
  have hpm := h1.perm
  refine ⟨fun n hn => ?_, ?_, fun b hb => ?_⟩
  ·obtain ⟨p, hp1, rfl⟩ := List.mem_map.1 (hpm.mem_iff.1 hn)
   by_cases hx : ∃ b ∈ M.list, b.nm = p.1
   ·exact .inl hx
   ·by_cases hy : 0 < M.bound ∧ idsNameD M.bound = p.1
    ·exact .inr hy.2.symm
    ·have h2 := hv.look_none (hc.no p.1 (fun b hb e => hx ⟨b, hb, e⟩) (fun h0 e => hy ⟨h0, e⟩))
     rw [look_of_mem hv.up.key (show (p.1, p.2) ∈ d.fs.now from hp1)] at h2; cases h2
  ·refine hpm.nodup_iff.2 ?_
   exact (List.pairwise_map (f := fun p : Nm × Nat => p.1) (R := fun a b => a ≠ b)).2 hv.up.key
  ·obtain ⟨x, c, hx, _, _⟩ := hv.look_some (hc.box b hb)
   exact hpm.mem_iff.2 (List.mem_map.2 ⟨_, look_mem hx, rfl⟩)
 have hids : ∀ q n, ¬ StoOf (idsNameD M.bound) q n := fun q n hs => by
  have h1 := hs.len
  have h2 := idsNameD_len14 hbd
  omega
 have hod : (openD d.fs f ib mb ss).fs = d.fs ∧ (openD d.fs f ib mb ss).whr = [] ∧ (openD d.fs f ib mb ss).down = false := ⟨rfl, rfl, rfl⟩
 generalize openD d.fs f ib mb ss = d0 at hr hod
 obtain ⟨e0, ew, ed⟩ := hod
 obtain ⟨ss1, e1, d1, h1, h2, h3⟩ := hr
 rw [e0] at h1
 obtain ⟨m1, m2, m3⟩ := hnm ss1 h1
 have hskip : e1 = 0 ∧ d1 = d0 := outL_none (S := TmpS) (fun x hx a er b hS => by
  rcases hS with ⟨_, g1, g2⟩ | ⟨⟨k, hk⟩, _⟩
  ·exact ⟨g1, g2⟩
  ·rcases m1 x hx with ⟨b, hb, rfl⟩ | rfl
   ·exact absurd (StoOf.inj (hi.sto hT hb) hk).1 (keep_q (hi.q b hb)).2.1
   ·exact absurd hk (hids _ _)) h2
 obtain ⟨rfl, rfl⟩ := hskip
 rcases h3 with ⟨h3, _⟩ | ⟨_, ss2, e2, d3, h4, h5, h6⟩
 ·exact absurd rfl h3
 ·rw [e0] at h4
  obtain ⟨n1, n2, n3⟩ := hnm ss2 h4
  have hstep : ∀ x ∈ ss2, ∀ a er b, a.fs = d.fs → RecS x a er b → er = 0 ∧ ((∃ c ∈ M.list, c.nm = x ∧ b = { a with whr := a.whr.put c.m.id c.q }) ∨ ((∀ c ∈ M.list, c.nm ≠ x) ∧ b = a)) := by
   intro x hx a er b hfs hS
   rcases n1 x hx with ⟨c, hcm, rfl⟩ | rfl
   ·rcases recS_inv (hi.sto hT hcm) hS with ⟨h7, _⟩ | ⟨_, hm⟩
    ·rw [hi.q c hcm] at h7; cases h7
    ·have hrd : fsReadD a.fs (nameD c.q c.m.id) = (0, c.bytes) := by rw [hfs]; exact hv.read (hi.nmr hT hcm) (hc.box c hcm)
     have hg := hi.file hT hcm
     unfold MendR at hm
     dsimp only at hm
     rw [hrd] at hm
     dsimp only at hm
     rw [hg] at hm
     rcases hm with ⟨h7, _⟩ | ⟨_, ⟨hbad, _⟩ | ⟨g, hg', _, ⟨hlt, _⟩ | ⟨_, he, hd⟩⟩⟩
     ·exact absurd rfl h7
     ·exact absurd rfl (hbad _ rfl)
     ·cases hg'; exact absurd hlt (Nat.lt_irrefl _)
     ·exact ⟨he, .inl ⟨c, hcm, rfl, hd⟩⟩
   ·rcases hS with ⟨_, g1, g2⟩ | ⟨q, k, hk, _⟩
    ·exact ⟨g1, .inr ⟨fun c hcm e => ids_ne_name hbd c.q c.m.id e.symm, g2⟩⟩
    ·exact absurd hk (hids _ _)
  have hrun : ∀ {l1 : List Nm} {a : StoD}, RunL RecS d1 l1 a → (∀ x ∈ l1, x ∈ ss2) → l1.Nodup → a.fs = d.fs ∧ a.down = false ∧ a.whr = whM (M.list.filter (fun c => l1.contains c.nm)) := by
   intro l1 a hl
   induction hl with
   | nil => exact fun _ _ => ⟨e0, ed, by rw [ew, List.filter_eq_nil_iff.2 (fun c _ => by simp)]; rfl⟩
   | @snoc pre x a1 a2 g1 g2 ih =>
    intro hm hnd
    obtain ⟨k1, k2, k3⟩ := List.nodup_append.1 hnd
    obtain ⟨i1, i2, i3⟩ := ih (fun y hy => hm y (List.mem_append_left _ hy)) k1
    have hxp : x ∉ pre := fun e => k3 _ e x (List.mem_singleton.2 rfl) rfl
    obtain ⟨_, ⟨c, hcm, hcx, rfl⟩ | ⟨hno, rfl⟩⟩ := hstep x (hm x (List.mem_append_right _ (List.mem_singleton.2 rfl))) a1 0 a2 i1 g2
    ·refine ⟨i1, i2, ?_⟩
     show a1.whr.put c.m.id c.q = _
     have hPc : pre.contains c.nm = false := by rw [hcx]; simpa using hxp
     rw [i3]
     unfold Wh.put
     rw [wh_del_no (fun y hy e => by
      obtain ⟨y1, y2⟩ := List.mem_filter.1 hy
      have := asc_inj hi.asc y y1 c hcm e
      rw [this, hPc] at y2; cases y2), wh_put_filter (P := fun y => pre.contains y.nm) hi.asc hcm hPc]
     congr 1
     refine List.filter_congr (fun y hy => ?_)
     rw [List.contains_eq_any_beq, List.contains_eq_any_beq, List.any_append, List.any_cons, List.any_nil, Bool.or_false]
     congr 1
     by_cases hyc : y.m.id = c.m.id
     ·rw [asc_inj hi.asc y hy c hcm hyc, hcx]; simp
     ·have h7 : y.nm ≠ x := fun e => hyc (by rw [hi.inj hT hy hcm (e.trans hcx.symm)])
      rw [show (y.m.id == c.m.id) = false by rw [beq_eq_false_iff_ne]; exact hyc, show (y.nm == x) = false by rw [beq_eq_false_iff_ne]; exact h7]
    ·refine ⟨i1, i2, ?_⟩
     rw [i3]
     congr 1
     refine List.filter_congr (fun y hy => ?_)
     rw [List.contains_eq_any_beq, List.contains_eq_any_beq, List.any_append, List.any_cons, List.any_nil, Bool.or_false, show (y.nm == x) = false by rw [beq_eq_false_iff_ne]; exact hno y hy, Bool.or_false]
  have hok2 : e2 = 0 ∧ RunL RecS d1 ss2 d3 := by
   rcases h5 with h5 | ⟨hne, j, x, dj, g1, g2, g3⟩
   ·exact h5
   ·have hj := hrun g2 (fun y hy => List.mem_of_mem_take hy) (n2.sublist (List.take_sublist _ _))
    exact absurd (hstep x (List.mem_of_getElem? g1) dj e2 d3 hj.1 g3).1 hne
  obtain ⟨rfl, hr2⟩ := hok2
  obtain ⟨i1, i2, i3⟩ := hrun hr2 (fun _ hx => hx) n2
  rw [List.filter_eq_self.2 (fun c hcm => by simpa using n3 c hcm)] at i3
  rcases h6 with ⟨h6, _⟩ | ⟨_, h6⟩
  ·exact absurd rfl h6
  ·have hv3 : Vw d3.fs C M.files M.used M.room := by rw [i1]; exact hv
   have hpar : er = 0 ∧ d2 = d3 := by
    have hparS : ∀ x ∈ parL d3, ∀ er b, ParS x d3 er b → er = 0 ∧ b = d3 := by
     intro x hx er b hS
     rcases hS with ⟨_, g1, g2⟩ | ⟨g1, g2, _⟩
     ·exact ⟨g1, g2⟩
     ·exfalso
      obtain ⟨p, hp1, hp2⟩ := parL_mem hx
      rw [i3] at hp1
      obtain ⟨c, hcm, rfl⟩ := List.mem_map.1 hp1
      have hpx : c.m.id = x := hp2
      rw [← hpx, file_same i3 hv3 hc hi hT hcm] at g2
      have g2 : workQ.contains (d3.whr.at c.m.parent) = true := g2
      rw [i3, wh_none (fun z hz => hp c hcm z hz)] at g2
      exact absurd g2 (by decide)
    rcases h6 with ⟨rfl, h6⟩ | ⟨hne, j, x, dj, g1, g2, g3⟩
    ·have hrn : ∀ {l1 : List Int} {a : StoD}, RunL ParS d3 l1 a → (∀ x ∈ l1, x ∈ parL d3) → a = d3 := by
      intro l1 a hl
      induction hl with
      | nil => exact fun _ => rfl
      | @snoc pre x a1 a2 k1 k2 ih =>
       intro hm
       have ha := ih (fun y hy => hm y (List.mem_append_left _ hy))
       rw [ha] at k2
       exact (hparS x (hm x (List.mem_append_right _ (List.mem_singleton.2 rfl))) 0 a2 k2).2
     exact ⟨rfl, hrn h6 (fun _ hx => hx)⟩
    ·have hrn : ∀ {l1 : List Int} {a : StoD}, RunL ParS d3 l1 a → (∀ x ∈ l1, x ∈ parL d3) → a = d3 := by
      intro l1 a hl
      induction hl with
      | nil => exact fun _ => rfl
      | @snoc pre x a1 a2 k1 k2 ih =>
       intro hm
       have ha := ih (fun y hy => hm y (List.mem_append_left _ hy))
       rw [ha] at k2
       exact (hparS x (hm x (List.mem_append_right _ (List.mem_singleton.2 rfl))) 0 a2 k2).2
     have := hrn g2 (fun y hy => List.mem_of_mem_take hy)
     rw [this] at g3
     exact absurd (hparS x (List.mem_of_getElem? g1) er d2 g3).1 hne
   obtain ⟨rfl, rfl⟩ := hpar
   exact ⟨rfl, like_same i3 hv3 hc hi hT, by rw [i3]; unfold whM; rw [List.length_map]; have := hi.n; omega⟩
end
end Go.Proofs.YtffnbkmigapmjaaGreatDoor
namespace Go.Proofs.YtffnbkmigapmjaaGreatDoor
open Go.RowKit Go.Maps
theorem FsStep.bel {w w' : World} {ρ ρ' : Rho} {B : Nat} (h : FsStep w ρ w' ρ') (hρ : ∀ k, ρ.has k → B ≤ k) (hB : B ≤ w.heap.size) : Below B w w' ∧ (∀ k, ρ'.has k → B ≤ k) :=
 ⟨h.keeps.below hρ hB, fun k e => by
  rcases h.grow k e with e | e
  ·exact hρ k e
  ·omega⟩
theorem StoStep.belB {w w' : World} {s B : Nat} {d d' : StoD} {ρ ρ' : Rho} (h : StoStep w s d ρ w' d' ρ') (hρ : ∀ k, stoOwn s d ρ k → B ≤ k) (hB : B ≤ w.heap.size) : Below B w w' := h.keeps.below hρ hB
end Go.Proofs.YtffnbkmigapmjaaGreatDoor
set_option maxRecDepth 100000
namespace Go.Proofs.YtffnbkmigapmjaaGreatDoor
open Go.RowKit Go.Maps
theorem StoOk.other {w w' : World} {s : Nat} {d : StoD} {ρ : Rho} {F : Nat → Prop} (h : StoOk w s d ρ) (hk : Keeps F w w') (hd : ∀ k, F k → ¬ stoOwn s d ρ k) (hN : ∀ k, F k → NG ≤ k) : StoOk w' s d ρ :=
 have hg := GB.keeps hk hN
 ⟨h.at_.keeps hk hd, h.ok, h.g.gb hg, h.mx.gb hg, h.own, h.last, h.nf⟩
theorem AddR.fb {d d' : StoD} {m : MailD} {er id : Int} (h : AddR d m er id d') : d'.fb = d.fb := by
 obtain ⟨e1, id1, d1, hn, ⟨_, _, _, rfl⟩ | ⟨_, e2, fs2, _, ⟨_, _, _, rfl⟩ | ⟨_, _, _, _, rfl⟩ | ⟨_, _, _, v, lv, rfl⟩⟩⟩ := h <;> exact hn.same.1
theorem DropR.fb {d d' : StoD} {er id : Int} (h : DropR d id er d') : d'.fb = d.fb := by
 rcases h with ⟨_, _, rfl⟩ | ⟨_, fs2, _, ⟨_, rfl⟩ | ⟨_, rfl⟩⟩ <;> rfl
theorem DoR.fb {d d' : StoD} {o : OpV} {er id : Int} (h : DoR d o er id d') : d'.fb = d.fb := by
 rcases h with ⟨_, h⟩ | ⟨_, h⟩ | ⟨_, _, h⟩ | ⟨_, _, h⟩ | ⟨_, _, h⟩ | ⟨_, _, _, rfl⟩
 ·rcases h with ⟨_, _, _, rfl⟩ | ⟨_, _, _, _, _, rfl⟩ | ⟨_, _, _, h⟩
  ·rfl
  ·rfl
  ·exact h.fb
 ·rcases h with ⟨_, _, _, rfl⟩ | ⟨_, _, ⟨_, _, _, rfl⟩ | ⟨_, e1, id1, d1, h, ⟨_, _, _, rfl⟩ | ⟨_, _, h2⟩⟩⟩
  ·rfl
  ·rfl
  ·exact h.fb
  ·exact h2.fb.trans h.fb
 ·rcases h with ⟨_, _, rfl⟩ | ⟨_, ⟨_, _, rfl⟩ | ⟨_, fs2, _, rfl⟩⟩ <;> rfl
 ·rcases h with ⟨_, _, rfl⟩ | ⟨_, ⟨_, _, rfl⟩ | ⟨_, ⟨_, _, rfl⟩ | ⟨_, fs2, _, ⟨_, rfl⟩ | ⟨_, rfl⟩⟩⟩⟩ <;> rfl
 ·exact h.fb
 ·rfl
structure Pair (w0 w : World) (B s f mb T : Nat) (d : StoD) (ρ : Rho) (M : ModD) (lv : Value) (bs : List BoxV) (σ : Nat → Prop) : Prop where
 same : Same14 d M
 mi : ModI T M
 par : ParOk M
 sto : StoOk w s d ρ
 fb : d.fb = f
 mdl : MdlAt w mb M lv bs σ
 so : ∀ k, stoOwn s d ρ k → B ≤ k
 mo : ∀ k, σ k → B ≤ k
 dis : ∀ k, stoOwn s d ρ k → ¬ σ k
 loose : d.fs.loose.length ≤ 20 * T
 bel : Below B w0 w
 size : B ≤ w.heap.size
def PairI (w0 : World) (B s f mb T : Nat) (w : World) : Prop := ∃ d ρ M lv bs σ, Pair w0 w B s f mb T d ρ M lv bs σ
section
variable {w0 w w' : World} {B s f mb T : Nat} {d : StoD} {ρ : Rho} {M : ModD} {lv : Value} {bs : List BoxV} {σ : Nat → Prop}
theorem Pair.below (h : Pair w0 w B s f mb T d ρ M lv bs σ) (hb : Below w.heap.size w w') : Pair w0 w' B s f mb T d ρ M lv bs σ :=
 ⟨h.same, h.mi, h.par, h.sto.below hb, h.fb, h.mdl.below hb, h.so, h.mo, h.dis, h.loose, h.bel.trans (hb.mono h.size), Nat.le_trans h.size hb.size⟩
theorem Pair.both (h : Pair w0 w B s f mb T d ρ M lv bs σ) (hT : T ≤ 190) (hNB : NG ≤ B) {o : OpV} {e : Ending} {w1 : World} {er id : Int} {d1 : StoD} {ρ1 : Rho} (h1 : DoDone w s d ρ o e w1 er id d1 ρ1) :
 er = (M.run o).2.1 ∧ id = (M.run o).1 ∧ MdlAt w1 mb M lv bs σ ∧ B ≤ w1.heap.size ∧ ∀ lv2 bs2 (σ2 : Nat → Prop) (w2 : World), MdlAt w2 mb (M.run o).2.2 lv2 bs2 σ2 → MdlStep w1 σ w2 σ2 → Pair w0 w2 B s f mb (T + 1) d1 ρ1 (M.run o).2.2 lv2 bs2 σ2 := by
 obtain ⟨q1, q2, q3, q4, q5⟩ := run_same h.same h.mi h.par (by omega) h1.out
 have hs1 : ∀ k, stoOwn s d1 ρ1 k → B ≤ k := fun k hk => by
  rcases h1.step.grow k hk with e | e
  ·exact h.so k e
  ·have := h.size; omega
 have hsz1 := Nat.le_trans h.size h1.step.keeps.size
 have hb1 := h.bel.trans (h1.step.belB h.so h.size)
 have hd1 : ∀ k, stoOwn s d1 ρ1 k → ¬ σ k := fun k hk hσ => by
  rcases h1.step.grow k hk with e | e
  ·exact h.dis k e hσ
  ·have := h.mdl.lt k hσ; omega
 refine ⟨q1, q2, h.mdl.keeps h1.step.keeps (fun k hk e => h.dis k e hk), hsz1, fun lv2 bs2 σ2 w2 hA hT2 => ?_⟩
 refine ⟨q3, q4, q5, h1.at_.other hT2.keeps (fun k e f => hd1 k f e) (fun k e => Nat.le_trans hNB (h.mo k e)), h1.out.fb.trans h.fb, hA, hs1, fun k e => ?_, fun k hk e => ?_, by have := h1.go.2; have := h.loose; omega, hb1.trans (hT2.keeps.below h.mo hsz1), Nat.le_trans hsz1 hT2.keeps.size⟩
 ·rcases hT2.grow k e with e | e
  ·exact h.mo k e
  ·omega
 ·rcases hT2.grow k e with e | e
  ·exact hd1 k hk e
  ·have := stoOwn_lt h1.at_.at_ hk; omega
theorem Same14.nm (h : Same14 d M) (hi : ModI T M) (hT : T ≤ 199) : NmOk d.fs := fun p hp => by
 obtain ⟨C, hv, hc⟩ := h.vw
 by_cases hx : ∃ b ∈ M.list, b.nm = p.1
 ·obtain ⟨b, hb, e⟩ := hx
  rw [← e]
  have := nameD_len b.q b.m.id
  show (nameD b.q b.m.id).length ≤ 1000
  omega
 ·by_cases hy : 0 < M.bound ∧ idsNameD M.bound = p.1
  ·rw [← hy.2, idsNameD_len14 (by have := hi.last; have := hi.lb; have := hi.bd; omega)]; decide
  ·have h2 := hv.look_none (hc.no p.1 (fun b hb e => hx ⟨b, hb, e⟩) (fun h0 e => hy ⟨h0, e⟩))
   rw [look_of_mem hv.up.key (show (p.1, p.2) ∈ d.fs.now from hp)] at h2; cases h2
theorem same_start {B r fb ib mb : Nat} (hr : r ≤ 16777216) : Same14 ⟨newD B r, fb, ib, mb, 0, 0, [], [], false⟩ ⟨[], 0, 0, r⟩ ∧ ModI 0 ⟨[], 0, 0, r⟩ ∧ ParOk ⟨[], 0, 0, r⟩ :=
 ⟨⟨rfl, ⟨_, vw_new B r (by omega), ⟨fun b hb => (by cases hb), fun h => absurd h (by show ¬ (0 : Int) < 0; decide), fun n _ _ => rfl⟩⟩, rfl, rfl, rfl, rfl⟩, ⟨List.Pairwise.nil, fun b hb => (by cases hb), fun b hb => (by cases hb), fun b hb => (by cases hb), fun b hb => (by cases hb), Nat.le_refl _, ⟨Int.le_refl _, Int.le_refl _⟩, Int.le_refl _, by show (0 : Int) ≤ 0 + 16; decide, by show 0 ≤ (r : Int) ∧ (r : Int) ≤ 16777216; omega⟩, fun b hb => (by cases hb)⟩
end
end Go.Proofs.YtffnbkmigapmjaaGreatDoor
