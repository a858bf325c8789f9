/-
  The walk of store.mend (printed by gen_stomend.py).
  The walk of store.recover.
-/
import Derived.Test.YtffnbkmigapmjaaGreatDoorT11
import Derived.Test.YtffnbkmigapmjaaGreatDoorT26
import Derived.Test.YtffnbkmigapmjaaGreatDoorT37
set_option linter.unusedSimpArgs false
set_option linter.unusedVariables false
set_option maxRecDepth 100000
namespace Go.Proofs.YtffnbkmigapmjaaGreatDoor
open Go.RowKit Go.Maps
theorem rdB_take {w : World} {a : Option Addr} {len cap g : Nat} {bs : List UInt8} (h : RdB w (.slice a len cap) bs) (hg : g ≤ bs.length) : RdB w (.slice a g cap) (bs.take g) := by
 have h0 := h.part 0 g (Nat.zero_le _) hg
 rw [List.drop_zero, Nat.sub_zero, Nat.sub_zero] at h0
 have ha : (if cap = 0 then a else a.map (·.add 0)) = a := by
  split
  ·rfl
  ·cases a <;> rfl
 rw [ha] at h0
 exact h0
theorem file_good {bs : List UInt8} {f : FileD} (h : fileD bs = some f) : f.good ≤ bs.length := by
 unfold fileD at h
 obtain ⟨⟨m, n⟩, hd, hf⟩ := Option.map_eq_some_iff.1 h
 have h1 := decode_len hd
 have h2 := decodeN_len 4096 (bs.drop n)
 rw [List.length_drop] at h2
 rw [← hf]
 show n + 28 * (decodeM (bs.drop n)).length ≤ _
 unfold decodeM
 omega
def MendR (d : StoD) (q : UInt8) (id er : Int) (d' : StoD) : Prop :=
 ((fsReadD d.fs (nameD q id)).1 ≠ 0 ∧ er = (fsReadD d.fs (nameD q id)).1 ∧ d' = { d with down := d.down || decide (er = 2) }) ∨
 ((fsReadD d.fs (nameD q id)).1 = 0 ∧
   (((∀ f, fileD (fsReadD d.fs (nameD q id)).2 = some f → f.mail.id ≠ id) ∧ ∃ fs2, Outcome (renS (nameD q id) (nameD 99 id)) 2 d.fs er fs2 ∧ d' = { d with whr := d.whr.put id 99, fs := fs2, down := d.down || decide (er = 2) }) ∨
    (∃ f, fileD (fsReadD d.fs (nameD q id)).2 = some f ∧ f.mail.id = id ∧
     ((f.good < (fsReadD d.fs (nameD q id)).2.length ∧ ∃ fs2, Outcome (layS (nameD 116 id) (nameD q id) ((fsReadD d.fs (nameD q id)).2.take f.good)) 6 d.fs er fs2 ∧ d' = { d with fs := fs2, down := d.down || decide (er = 2) }) ∨
      (f.good = (fsReadD d.fs (nameD q id)).2.length ∧ er = 0 ∧ d' = d)))))
structure MendDone (w : World) (s : Nat) (d : StoD) (ρ : Rho) (q : UInt8) (id : Int) (e : Ending) (w' : World) (er : Int) (d' : StoD) (ρ' : Rho) : Prop where
 ret : e = .returned (.int .i64 er)
 out : MendR d q id er d'
 at_ : StoOk w' s d' ρ'
 step : StoStep w s d ρ w' d' ρ'
 go : FsGo d.fs d'.fs 6
set_option maxHeartbeats 16000000 in
theorem mend_calls (s : Nat) (d : StoD) (ρ : Rho) (q : UInt8) (id : Int) (w : World) (h : StoOk w s d ρ) (hll : d.fs.loose.length ≤ 800000) (hwl : d.whr.length ≤ 1000000) (hid : 1 ≤ id ∧ id ≤ 999999999) :
 Calls Tryz.prog 102 #[.pointer (some ⟨s, 0, none⟩), .int .u8 q.toNat, .int .i64 id] w fun e w' => ∃ er d' ρ', MendDone w s d ρ q id e w' er d' ρ' := by
 have hbd : Below w.heap.size w w.drew := (Below.refl _ _).drew
 have hname := name_calls q id w.drew ((h.below hbd).g.int _)
 have hnl : (nameD q id).length ≤ maxLen := by have := nameD_len q id; unfold maxLen; omega
 have hrd := fun w1 (hb1 : Below w.heap.size w w1) => fsRead_calls d.fb d.fs ρ (nameD q id) w1 (h.below hb1).at_.fs hnl
 have hsm := read_small h.at_.fs (nameD q id)
 have hRd : Hid (∀ er d', MendR d q id er d' → MendR d q id er d') := Lib.hid (fun _ _ h => h)
 obtain ⟨rr, hrr⟩ : ∃ rr, fsReadD d.fs (nameD q id) = rr := ⟨_, rfl⟩
 obtain ⟨re, rb⟩ := rr
 have HR : Hid (∀ er d', ((re ≠ 0 ∧ er = re ∧ d' = { d with down := d.down || decide (er = 2) }) ∨
  (re = 0 ∧ (((∀ f, fileD rb = some f → f.mail.id ≠ id) ∧ ∃ fs2, Outcome (renS (nameD q id) (nameD 99 id)) 2 d.fs er fs2 ∧ d' = { d with whr := d.whr.put id 99, fs := fs2, down := d.down || decide (er = 2) }) ∨
   (∃ f, fileD rb = some f ∧ f.mail.id = id ∧ ((f.good < rb.length ∧ ∃ fs2, Outcome (layS (nameD 116 id) (nameD q id) (rb.take f.good)) 6 d.fs er fs2 ∧ d' = { d with fs := fs2, down := d.down || decide (er = 2) }) ∨ (f.good = rb.length ∧ er = 0 ∧ d' = d)))))) → MendR d q id er d') := Lib.hid (by
  intro er d' hc
  unfold MendR
  rw [hrr]; exact hc)
 rw [hrr] at hrd hsm
 have Hsm := Lib.hid (show rb.length ≤ 16777216 from hsm)
 obtain ⟨tn, htn⟩ : ∃ tn, strL (nameD q id) = tn := ⟨_, rfl⟩
 rw [htn] at hrd hname
 obtain ⟨fb, hfb⟩ : ∃ fb, d.fb = fb := ⟨_, rfl⟩
 rw [hfb] at hrd
 obtain ⟨qn, hqn⟩ : ∃ qn : Nat, q.toNat = qn := ⟨_, rfl⟩
 rw [hqn] at hname ⊢
 have hS := (cells4 (h.below hbd).at_.hd).1.1
 rw [hfb] at hS
 have HS : Hid ((fun w' => w'.cell? ⟨s, 0, none⟩ = some (.pointer (some ⟨fb, 0, none⟩))) w.drew) := Lib.hid hS
 have Hname := Lib.hid hname
 have Hrd := Lib.hid hrd
 have Hfb := Lib.hid hfb
 have Hqn := Lib.hid hqn
 have Hbd := Lib.hid hbd
 have Hh := Lib.hid (And.intro h (And.intro hll (And.intro hwl hid)))
 clear hname hrd hfb hbd h hll hwl hid hsm hrr htn hS hnl hqn hRd
 go_enter Tryz.func102, Tryz.ntmps102
 go_upto_region 1 with fail
 refine wp_region_noPanic ?_
 refine wp_region_held_drew (S := (fun w' => w'.cell? ⟨s, 0, none⟩ = some (.pointer (some ⟨fb, 0, none⟩)))) (by kernel_rfl) (by first | with_reducible exact HS.out | with_reducible exact hS3 | with_reducible exact hS4) (fun hHeld => ?_)
 refine tkH 0 ?_
 try simp only [Act.put, List.setIfInBounds_toArray, List.set_cons_zero, List.set_cons_succ]
 refine tkH 1 ?_
 try simp only [Act.put, List.setIfInBounds_toArray, List.set_cons_zero, List.set_cons_succ]
 refine tkH 2 ?_
 try simp only [Act.put, List.setIfInBounds_toArray, List.set_cons_zero, List.set_cons_succ]
 refine tkH 3 ?_
 try simp only [Act.put, List.setIfInBounds_toArray, List.set_cons_zero, List.set_cons_succ]
 refine tkH 4 ?_
 try simp only [Act.put, List.setIfInBounds_toArray, List.set_cons_zero, List.set_cons_succ]
 refine tkH 5 ?_
 try simp only [Act.put, List.setIfInBounds_toArray, List.set_cons_zero, List.set_cons_succ]
 refine rdH 6 fun K hK => ?_
 go_simp
 go_at_call 12; refine (Hname.out).mono ?_; rintro e w3 ⟨rfl, hb3⟩; have hb3' := Hbd.out.trans (hb3.mono Hbd.out.size); have hS3 := (cells4 (Hh.out.1.below hb3').at_.hd).1.1; rw [Hfb.out] at hS3
 refine hK.out _ _ (by (try dsimp only); first | with_reducible exact HS.out | with_reducible exact hS3 | with_reducible exact hS4) (fun hHeld => ?_)
 clear hK K
 try simp only [Act.put, List.setIfInBounds_toArray, List.set_cons_zero, List.set_cons_succ]
 refine rdH 7 fun K hK => ?_
 go_simp
 go_at_call 57; refine (Hrd.out _ hb3').mono ?_; rintro e w4 ⟨v, rfl, hrow, hb4⟩; have hb4' := hb3'.trans (hb4.mono hb3'.size); have hS4 := (cells4 (Hh.out.1.below hb4').at_.hd).1.1; rw [Hfb.out] at hS4
 refine hK.out _ _ (by (try dsimp only); first | with_reducible exact HS.out | with_reducible exact hS3 | with_reducible exact hS4) (fun hHeld => ?_)
 clear hK K
 try simp only [Act.put, List.setIfInBounds_toArray, List.set_cons_zero, List.set_cons_succ]
 refine tkH 8 ?_
 try simp only [Act.put, List.setIfInBounds_toArray, List.set_cons_zero, List.set_cons_succ]
 refine tkH 9 ?_
 try simp only [Act.put, List.setIfInBounds_toArray, List.set_cons_zero, List.set_cons_succ]
 refine tkH 10 ?_
 try simp only [Act.put, List.setIfInBounds_toArray, List.set_cons_zero, List.set_cons_succ]
 refine tkH 11 ?_
 try simp only [Act.put, List.setIfInBounds_toArray, List.set_cons_zero, List.set_cons_succ]
 refine tkH 12 ?_
 try simp only [Act.put, List.setIfInBounds_toArray, List.set_cons_zero, List.set_cons_succ]
 refine wpAnyH_done (by kernel_rfl) ?_ _
 refine NoPanic.normal ?_
 have hO4 := Hh.out.1.below hb4'
 have Hrb := Lib.hid (rdB_ofOwn hrow)
 obtain ⟨aa, ac, rfl⟩ := own_form0 hrow
 have hnew : ∀ k, (Value.slice aa rb.length ac).ownBlock = some k → w3.heap.size ≤ k ∧ k < w4.heap.size := fun k e => hrow.lt k e
 have H4 := Lib.hid (And.intro hO4 (And.intro (StoStep.below (s := s) (d := d) (ρ := ρ) hb4') (And.intro hnew (And.intro hb3'.size (nilOk_own hrow)))))
 clear hb3 hb3' hb4 hb4' hrow hO4 hnew hS3 hS4 hHeld
 by_cases hre : re = 0
 ·subst hre
  have hp := qparse_calls _ rb w4 Hrb.out (by have := Hsm.out; omega) H4.out.1.mx
  have Hp := Lib.hid hp
  clear hp
  go_wp2_with fail
  refine (Hp.out).mono ?_; rintro e w5 ⟨vr, vb, vm, rfl, h1, h2, h3, hb5⟩
  obtain ⟨fr, hfr⟩ : ∃ fr, fileD rb = fr := ⟨_, rfl⟩
  have Hfr := Lib.hid hfr
  rw [hfr] at h1 h2 h3
  rw [hfr]
  obtain ⟨a1, c1, rfl⟩ := own_form0 h1
  obtain ⟨a2, c2, rfl⟩ := own_form0 h2
  obtain ⟨a3, c3, rfl⟩ := own_form0 h3
  generalize (fr.getD FileD.zero).mail.rcpts.length = n1
  generalize (fr.getD FileD.zero).mail.body.length = n2
  generalize (fr.getD FileD.zero).marks.length = n3
  have he : ∀ a b c, fileVal (fr.getD FileD.zero) a b c = .agg #[.int .i64 (fr.getD FileD.zero).mail.id, .int .i64 (fr.getD FileD.zero).mail.parent, .int .i64 (fr.getD FileD.zero).mail.born, .string (strL (fr.getD FileD.zero).mail.frm), a, b, c, .int .i64 ((fr.getD FileD.zero).good : Int)] := fun _ _ _ => rfl
  rw [he]
  obtain ⟨mi, hmi⟩ : ∃ mi, (fr.getD FileD.zero).mail.id = mi := ⟨_, rfl⟩
  obtain ⟨gg, hgg⟩ : ∃ gg, (fr.getD FileD.zero).good = gg := ⟨_, rfl⟩
  rw [hmi, hgg]
  generalize (fr.getD FileD.zero).mail.parent = mp
  generalize (fr.getD FileD.zero).mail.born = mb
  generalize strL (fr.getD FileD.zero).mail.frm = sf
  have Hmi := Lib.hid (And.intro hmi hgg)
  obtain ⟨W, hW⟩ : ∃ W, w5.alloc (.cells #[.int .i64 mi, .int .i64 mp, .int .i64 mb, .string sf, .slice a1 n1 c1, .slice a2 n2 c2, .slice a3 n3 c3, .int .i64 (gg : Int)] 43) = W := ⟨_, rfl⟩
  have hbW : Below w5.heap.size w5 W := by rw [← hW]; exact (Below.refl _ _).alloc (Nat.le_refl _) _
  have hX : W.heap[w5.heap.size]? = some (.cells #[.int .i64 mi, .int .i64 mp, .int .i64 mb, .string sf, .slice a1 n1 c1, .slice a2 n2 c2, .slice a3 n3 c3, .int .i64 (gg : Int)] 43 (0, 0)) := by rw [← hW]; exact heap_alloc_new w5 _
  have hb4W := hb5.trans (hbW.mono hb5.size)
  have hOW := H4.out.1.below hb4W
  have hTW := H4.out.2.1.bel hb4W
  have hrbW := Hrb.out.below (Nat.le_refl _) hb4W
  obtain ⟨⟨x0, x1, x2, x3, x4, x5, x6, x7⟩, _⟩ := cells8 hX
  have HW := Lib.hid (And.intro hOW (And.intro hTW (And.intro hrbW hb4W)))
  clear he hmi hgg hbW hX hb4W hOW hTW hrbW h1 h2 h3 hb5 hfr x1 x2 x3 x4 x5 x6
  have hcor : ∃ w6, (Instr.mapUpdate 110 (.map (some d.mb)) (.int .i64 id) (.int .u8 99)).run Tryz.prog W = .ok () w6 ∧ Calls Tryz.prog 62 #[.pointer (some ⟨s, 0, none⟩), .int .i64 id, .int .u8 qn, .int .u8 99] w6 fun e w' => ∃ er fs ρ', e = .returned (.int .i64 er) ∧ Outcome (renS (nameD q id) (nameD 99 id)) 2 d.fs er fs ∧ StoOk w' s { d with whr := d.whr.put id 99, fs := fs, down := d.down || decide (er = 2) } ρ' ∧ StoStep w s d ρ w' { d with whr := d.whr.put id 99, fs := fs, down := d.down || decide (er = 2) } ρ' ∧ FsGo d.fs fs 2 := by
   obtain ⟨w6, hrun, hm6, hk6⟩ := wh_put HW.out.1.at_.whr (by have := Hh.out.2.2.1; unfold maxLen; omega) id (by have := Hh.out.2.2.2; omega) 99
   obtain ⟨hA6, hT6⟩ := HW.out.1.at_.setMap hm6 hk6
   have hO6 := HW.out.1.step hA6 hT6 HW.out.1.ok HW.out.1.last HW.out.1.nf
   refine ⟨w6, hrun, ?_⟩
   have hr := srename_calls s { d with whr := d.whr.put id 99 } ρ id q 99 w6 hO6 (by have := Hh.out.2.1; dsimp only; omega)
   rw [Hqn.out] at hr
   refine hr.mono ?_
   rintro e w' ⟨er, fs, ρ', he, ho, hO, hT, hg⟩
   exact ⟨er, fs, ρ', he, ho, hO, (HW.out.2.1.trans hT6).trans hT, hg⟩
  obtain ⟨w6, hrun, hren⟩ := hcor
  have Hren := Lib.hid hren
  have c2 := (cells4 HW.out.1.at_.hd).1.2.2.1
  clear hren
  cases fr with
  | none =>
   have hs : (none : Option FileD).isSome = false := rfl
   rw [hs]
   clear x0 x7 hs
   subst hW
   go_wp2_with fail
   refine (Hren.out).mono ?_; rintro e w7 ⟨er, fs7, ρ7, rfl, ho, hO7, hT7, hg7⟩
   have H7 := Lib.hid (And.intro ho (And.intro hO7 (And.intro hT7 hg7)))
   clear ho hO7 hT7 hg7 hrun c2
   go_wp2
   go_ret
   obtain ⟨p1, p2, p3, p4⟩ := H7.out
   exact ⟨er, _, ρ7, rfl, HR.out _ _ (.inr ⟨by first | exact rfl | exact trivial, .inl ⟨fun f hf => by rw [Hfr.out] at hf; (cases hf), fs7, p1, rfl⟩⟩), p2, p3, p4.mono (by omega)⟩
  | some f =>
   have hs : (some f).isSome = true := rfl
   rw [hs]
   have Hmi' : Hid (f.mail.id = mi ∧ f.good = gg) := Hmi
   have hgl : gg ≤ rb.length := by rw [← Hmi'.out.2]; exact file_good Hfr.out
   by_cases hm : mi = id
   ·by_cases hg : gg < rb.length
    ·have hnv : NilOk (.slice aa gg ac) := fun l c e => by
      injection e with e1 e2 e3
      have := H4.out.2.2.2.2 _ _ (by rw [e1])
      omega
     have hfr' : ∀ k, (Value.slice aa gg ac).ownBlock = some k → ρ k = none ∧ k < W.heap.size ∧ k ≠ s := fun k e => by
      have h1 := H4.out.2.2.1 k (by revert e; cases aa <;> exact fun e => e)
      have h2 := H4.out.2.2.2.1
      have h3 := HW.out.2.2.2.size
      have h4 := (Array.getElem?_eq_some_iff.1 Hh.out.1.at_.hd).1
      refine ⟨?_, by omega, by omega⟩
      cases hr : ρ k with
      | none => rfl
      | some r => have := Hh.out.1.at_.fs.rest.lt k (by rw [hr]; rfl); omega
     have hl := lay_calls s d ρ q id (.slice aa gg ac) (rb.take gg) W HW.out.1.at_ HW.out.1.ok (by have := Hh.out.2.1; omega) HW.out.1.own (HW.out.1.g.int _) (rdB_take HW.out.2.2.1 hgl) hnv hfr'
     rw [Hqn.out] at hl
     have hsl := run_slice_h (P := Tryz.prog) Tryz.underlying22 u8size aa rb.length ac gg (by have := HW.out.2.2.1.form; obtain ⟨a, c, e, h1, h2⟩ := this; injection e with _ _ e3; omega)
     have Hl := Lib.hid hl
     have Hgl := Lib.hid (And.intro hm hg)
     have hg0 : (gg : Int) < (rb.length : Int) := by omega
     subst hm
     clear hl hnv hfr' hs hgl hrun
     subst hW
     go_wp2_with fail
     refine (Hl.out).mono ?_; rintro e w7 ⟨er, fs7, ρ7, rfl, ho, hA7, hT7, hg7⟩
     have hO7 := HW.out.1.step hA7 hT7 hg7.1 HW.out.1.last HW.out.1.nf
     have H7 := Lib.hid (And.intro ho (And.intro hO7 (And.intro (HW.out.2.1.trans hT7) hg7)))
     clear ho hO7 hA7 hT7 hg7 c2 x0 x7 hsl
     go_wp2
     go_ret
     obtain ⟨p1, p2, p3, p4⟩ := H7.out
     exact ⟨er, _, ρ7, rfl, HR.out _ _ (.inr ⟨by first | exact rfl | exact trivial, .inr ⟨f, Hfr.out, Hmi'.out.1, .inl ⟨by rw [Hmi'.out.2]; exact Hgl.out.2, fs7, by rw [Hmi'.out.2]; exact p1, rfl⟩⟩⟩), p2, p3, p4⟩
    ·have hg0 : ¬ ((gg : Int) < (rb.length : Int)) := by omega
     have Hgl := Lib.hid (show gg = rb.length by omega)
     subst hm
     clear hs hgl hrun hg
     subst hW
     go_wp2
     go_ret
     exact ⟨0, d, ρ, rfl, HR.out _ _ (.inr ⟨by first | exact rfl | exact trivial, .inr ⟨f, Hfr.out, Hmi'.out.1, .inr ⟨by rw [Hmi'.out.2]; exact Hgl.out, rfl, rfl⟩⟩⟩), HW.out.1, HW.out.2.1, (FsGo.refl Hh.out.1.ok).mono (by omega)⟩
   ·have hm' : (mi != id) = true := by simpa using hm
    have Hm := Lib.hid hm
    clear hm x7 hs hgl
    subst hW
    go_wp2_with fail
    refine (Hren.out).mono ?_; rintro e w7 ⟨er, fs7, ρ7, rfl, ho, hO7, hT7, hg7⟩
    have H7 := Lib.hid (And.intro ho (And.intro hO7 (And.intro hT7 hg7)))
    clear ho hO7 hT7 hg7 hrun c2 x0
    go_wp2
    go_ret
    obtain ⟨p1, p2, p3, p4⟩ := H7.out
    exact ⟨er, _, ρ7, rfl, HR.out _ _ (.inr ⟨by first | exact rfl | exact trivial, .inl ⟨fun f' hf => by rw [Hfr.out] at hf; cases hf; rw [Hmi'.out.1]; exact Hm.out, fs7, p1, rfl⟩⟩), p2, p3, p4.mono (by omega)⟩
 ·have hre' : (re != 0) = true := by simpa using hre
  have hdd := did_calls s d.down re w4 (cells4 H4.out.1.at_.hd).1.2.2.2 ((cells4 H4.out.1.at_.hd).2 3)
  have Hdd := Lib.hid hdd
  have Hre := Lib.hid hre
  clear hdd hre
  go_wp2_with fail
  refine (Hdd.out).mono ?_; rintro e w5 ⟨rfl, hw5⟩
  obtain ⟨hA5, hT5⟩ := H4.out.1.at_.setDown (d.down || decide (re = 2))
  rw [← hw5] at hA5 hT5
  have hO5 := H4.out.1.step hA5 hT5 H4.out.1.ok H4.out.1.last H4.out.1.nf
  have H5 := Lib.hid (And.intro hO5 (H4.out.2.1.trans hT5))
  clear hA5 hT5 hO5 hw5
  go_wp2
  go_ret
  exact ⟨re, _, ρ, rfl, HR.out _ _ (.inl ⟨Hre.out, rfl, rfl⟩), H5.out.1, H5.out.2, (FsGo.refl Hh.out.1.ok).mono (by omega)⟩
end Go.Proofs.YtffnbkmigapmjaaGreatDoor
set_option maxRecDepth 100000
namespace Go.Proofs.YtffnbkmigapmjaaGreatDoor
open Go.RowKit Go.Maps
inductive RunL {α : Type} (S : α → StoD → Int → StoD → Prop) (d0 : StoD) : List α → StoD → Prop
 | nil : RunL S d0 [] d0
 | snoc {pre : List α} {x : α} {d d' : StoD} : RunL S d0 pre d → S x d 0 d' → RunL S d0 (pre ++ [x]) d'
def OutL {α : Type} (S : α → StoD → Int → StoD → Prop) (l : List α) (d0 : StoD) (er : Int) (d' : StoD) : Prop :=
 (er = 0 ∧ RunL S d0 l d') ∨ (er ≠ 0 ∧ ∃ j x d, l[j]? = some x ∧ RunL S d0 (l.take j) d ∧ S x d er d')
theorem RunL.take_succ {α : Type} {S : α → StoD → Int → StoD → Prop} {d0 d d' : StoD} {l : List α} {j : Nat} {x : α} (hx : l[j]? = some x) (h : RunL S d0 (l.take j) d) (hs : S x d 0 d') : RunL S d0 (l.take (j + 1)) d' := by
 rw [List.take_add_one, hx]; exact .snoc h hs
def TmpS (n : Nm) (d : StoD) (er : Int) (d' : StoD) : Prop :=
 ((∀ m, ¬ StoOf n 116 m) ∧ er = 0 ∧ d' = d) ∨ ((∃ m, StoOf n 116 m) ∧ ∃ v lv, er = (unlinkD d.fs n v lv).1 ∧ d' = { d with fs := (unlinkD d.fs n v lv).2, down := d.down || decide (er = 2) })
def RecS (n : Nm) (d : StoD) (er : Int) (d' : StoD) : Prop :=
 ((∀ q m, ¬ StoOf n q m) ∧ er = 0 ∧ d' = d) ∨ (∃ q m, StoOf n q m ∧ ((keepQ.contains q = false ∧ er = 0 ∧ d' = { d with whr := d.whr.put m q }) ∨ (keepQ.contains q = true ∧ MendR { d with whr := d.whr.put m q } q m er d')))
def NmOk (fs : FsD) : Prop := ∀ p ∈ fs.now, p.1.length ≤ 1000
theorem unlink_down {fs : FsD} {n : Nm} {v lv : Value} (h : (unlinkD fs n v lv).1 = 0) (hd : fs.down = false) : (unlinkD fs n v lv).2.down = false := by
 unfold unlinkD at h ⊢
 split at h
 ·rename_i h1
  rw [if_pos h1]
  unfold changeD at h ⊢
  split at h
  ·cases h
  ·rename_i h2
   rw [if_neg h2]
   show (powerD fs).2.down = false
   unfold powerD
   rw [if_neg h2]; exact hd
 ·rename_i h1
  exact absurd h h1
theorem unlink_nm {fs : FsD} {n : Nm} {v lv : Value} (h : NmOk fs) : NmOk (unlinkD fs n v lv).2 := by
 unfold unlinkD
 split
 ·unfold changeD
  split
  ·exact h
  ·intro p hp
   have hp : p ∈ fs.now.del n := hp
   exact h p (List.mem_filter.1 hp).1
 ·exact h
theorem whr_put_le (l : Wh) (n : Int) (x : UInt8) : (l.put n x).length ≤ l.length + 1 := by
 have h1 : ∀ (y : Int × UInt8) (l : Wh), (Wh.ins y l).length = l.length + 1 := by
  intro y l
  induction l with
  | nil => rfl
  | cons z r ih =>
   rw [Wh.ins]
   split
   ·rfl
   ·rw [List.length_cons, ih]; rfl
 unfold Wh.put
 rw [h1]
 have : (Wh.del l n).length ≤ l.length := List.length_filter_le _ _
 omega
theorem MendR.whr_le {d d' : StoD} {q : UInt8} {id er : Int} (h : MendR d q id er d') : d'.whr.length ≤ d.whr.length + 1 := by
 rcases h with ⟨_, _, rfl⟩ | ⟨_, ⟨_, fs2, _, rfl⟩ | ⟨f, _, _, ⟨_, fs2, _, rfl⟩ | ⟨_, _, rfl⟩⟩⟩
 ·exact Nat.le_succ _
 ·exact whr_put_le _ _ _
 ·exact Nat.le_succ _
 ·exact Nat.le_succ _
structure TmpI (w1 : World) (s : Nat) (d : StoD) (ρ : Rho) (ss : List Nm) (j : Nat) (dj : StoD) (ρj : Rho) (wr : World) : Prop where
 run : RunL TmpS d (ss.take j) dj
 at_ : StoOk wr s dj ρj
 step : StoStep w1 s d ρ wr dj ρj
 go : FsGo d.fs dj.fs j
 down : dj.fs.down = false
 nm : NmOk dj.fs
 wh : dj.whr = d.whr
theorem TmpI.bel {w1 : World} {s : Nat} {d : StoD} {ρ : Rho} {ss : List Nm} {j : Nat} {dj : StoD} {ρj : Rho} {wr w2 : World} (h : TmpI w1 s d ρ ss j dj ρj wr) (hb : Below wr.heap.size wr w2) : TmpI w1 s d ρ ss j dj ρj w2 :=
 ⟨h.run, h.at_.below hb, h.step.bel hb, h.go, h.down, h.nm, h.wh⟩
end Go.Proofs.YtffnbkmigapmjaaGreatDoor
