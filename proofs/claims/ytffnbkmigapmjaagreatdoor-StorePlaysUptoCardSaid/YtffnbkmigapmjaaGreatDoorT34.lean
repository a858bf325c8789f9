/-
  The walk of store.add.
  The walks of store.good, Commit.
-/
import Derived.Test.YtffnbkmigapmjaaGreatDoorT11
import Derived.Test.YtffnbkmigapmjaaGreatDoorT33
set_option linter.unusedSimpArgs false
set_option linter.unusedVariables false
set_option maxRecDepth 100000
namespace Go.Proofs.YtffnbkmigapmjaaGreatDoor
open Go.RowKit Go.Maps
def AddR (d : StoD) (m : MailD) (er id : Int) (d' : StoD) : Prop :=
 ∃ e1 id1 d1, NextR d e1 id1 d1 ∧
  ((e1 ≠ 0 ∧ er = e1 ∧ id = 0 ∧ d' = { d1 with down := d1.down || decide (e1 = 2) }) ∨
   (e1 = 0 ∧ ∃ e2 fs2, Outcome (layS (nameD 116 id1) (nameD 105 id1) (encD { m with id := id1 })) 6 d1.fs e2 fs2 ∧
    ((e2 = 0 ∧ er = 0 ∧ id = id1 ∧ d' = { d1 with fs := fs2, whr := d1.whr.put id1 105 }) ∨
     (e2 ≠ 0 ∧ e2 ≠ 3 ∧ er = e2 ∧ id = 0 ∧ d' = { d1 with fs := fs2, down := d1.down || decide (e2 = 2) }) ∨
     (e2 = 3 ∧ er = 3 ∧ id = 0 ∧ ∃ v lv, d' = { d1 with fs := (unlinkD fs2 (nameD 116 id1) v lv).2, down := d1.down || decide ((unlinkD fs2 (nameD 116 id1) v lv).1 = 2) }))))
structure AddDone (w : World) (s : Nat) (d : StoD) (ρ : Rho) (m : MailD) (e : Ending) (w' : World) (er id : Int) (d' : StoD) (ρ' : Rho) : Prop where
 ret : e = .returned (.tuple #[.int .i64 id, .int .i64 er])
 out : AddR d m er id d'
 at_ : StoOk w' s d' ρ'
 step : StoStep w s d ρ w' d' ρ'
 go : FsGo d.fs d'.fs 9
theorem mail_cells {w : World} {b : Nat} {x0 x1 x2 x3 x4 x5 : Value} (hb : w.heap[b]? = some (.cells #[x0, x1, x2, x3, x4, x5] 29 (0, 0))) :
 (w.cell? ⟨b, 0, none⟩ = some x0 ∧ w.cell? ⟨b, 1, none⟩ = some x1 ∧ w.cell? ⟨b, 2, none⟩ = some x2 ∧ w.cell? ⟨b, 3, none⟩ = some x3 ∧ w.cell? ⟨b, 4, none⟩ = some x4 ∧ w.cell? ⟨b, 5, none⟩ = some x5) ∧ ∀ j, w.frozen? ⟨b, j, none⟩ = false :=
 ⟨⟨by rw [cell_of_row _ _ _ _ _ _ hb]; rfl, by rw [cell_of_row _ _ _ _ _ _ hb]; rfl, by rw [cell_of_row _ _ _ _ _ _ hb]; rfl, by rw [cell_of_row _ _ _ _ _ _ hb]; rfl, by rw [cell_of_row _ _ _ _ _ _ hb]; rfl, by rw [cell_of_row _ _ _ _ _ _ hb]; rfl⟩, fun j => frozen_of_row _ _ _ _ _ hb⟩
set_option maxHeartbeats 16000000 in
theorem add_calls (s : Nat) (d : StoD) (ρ : Rho) (m : MailD) (vr vb : Value) (w : World) (h : StoOk w s d ρ) (hll : d.fs.loose.length ≤ 800000) (hwl : d.whr.length ≤ 1000000) (ha : MailArg w s d ρ m vr vb) (hsm : m.small) :
 Calls Tryz.prog 65 #[.pointer (some ⟨s, 0, none⟩), mailVal m vr vb] w fun e w' => ∃ er id d' ρ', AddDone w s d ρ m e w' er id d' ρ' := by
 obtain ⟨ar, capr, rfl, hlr, hcr⟩ := ha.r.form
 obtain ⟨ab, capb, rfl, hlb, hcb⟩ := ha.b.form
 obtain ⟨mid, parent, born, frm, rcpts, body⟩ := m
 dsimp only at hlr hlb
 have Hsm := Lib.hid hsm
 clear hsm
 obtain ⟨tf, htf⟩ : ∃ tf, strL frm = tf := ⟨_, rfl⟩
 have Htf := Lib.hid htf
 obtain ⟨W, hW⟩ : ∃ W, w.alloc (.cells #[.int .i64 mid, .int .i64 parent, .int .i64 born, .string tf, .slice ar rcpts.length capr, .slice ab body.length capb] 29) = W := ⟨_, rfl⟩
 have hbW : Below w.heap.size w W := by rw [← hW]; exact (Below.refl _ _).alloc (Nat.le_refl _) _
 have hM : W.heap[w.heap.size]? = some (.cells #[.int .i64 mid, .int .i64 parent, .int .i64 born, .string tf, .slice ar rcpts.length capr, .slice ab body.length capb] 29 (0, 0)) := by rw [← hW]; exact heap_alloc_new w _
 have hWs : w.heap.size < W.heap.size := (Array.getElem?_eq_some_iff.1 hM).1
 have h0 := h.below hbW
 have hnx := next_calls s d ρ W h0.at_ h0.ok (by omega) h0.g h0.own h0.last h0.nf
 have c1 := (cells4 h0.at_.hd).1.2.1
 have hnoM : ¬ stoOwn s d ρ w.heap.size := fun e => by have := stoOwn_lt h.at_ e; omega
 obtain ⟨ib, hib⟩ : ∃ ib, d.ib = ib := ⟨_, rfl⟩
 rw [hib] at hnx c1
 unfold mailVal
 dsimp only
 rw [htf]
 have Hnx := Lib.hid hnx
 have HM := Lib.hid (And.intro hbW (And.intro hM (And.intro hWs hnoM)))
 have Hh := Lib.hid (And.intro h (And.intro hll (And.intro hwl ha)))
 have H0 := Lib.hid h0
 clear hnx h0 hbW hM hWs hnoM hib h hll hwl ha htf
 subst hW
 go_enter Tryz.func65, Tryz.ntmps65
 go_wp2_with fail
 refine (Hnx.out).mono ?_; rintro e w1 ⟨e1, id1, d1, ρ1, rfl, hout, hA1, hT1, hg1⟩
 obtain ⟨b1, b2, b3, b4⟩ := hout.bounds Hh.out.1.last Hh.out.1.nf
 have hO1 := H0.out.step hA1 hT1 hg1.1 b1 b2
 have hT1w := (StoStep.below (s := s) (d := d) (ρ := ρ) HM.out.1).trans hT1
 have hM1 := hT1.keeps.heap HM.out.2.1 HM.out.2.2.2
 have hnM1 : ¬ stoOwn s d1 ρ1 w.heap.size := fun e => by
  rcases hT1.grow _ e with e | e
  ·exact HM.out.2.2.2 e
  ·have := HM.out.2.2.1; omega
 have hc3 := (cells4 hA1.hd).1.2.2.2
 have hf3 := (cells4 hA1.hd).2 3
 have hd1 := did_calls s d1.down e1 w1 hc3 hf3
 obtain ⟨hA2, hT2⟩ := hA1.setDown (d1.down || decide (e1 = 2))
 obtain ⟨W2, hW2⟩ : ∃ W2, w1.setCell ⟨s, 3, none⟩ (.bool (d1.down || decide (e1 = 2))) = W2 := ⟨_, rfl⟩
 rw [hW2] at hd1 hA2 hT2
 have hO2 := hO1.step hA2 hT2 hO1.ok hO1.last hO1.nf
 have hM2 := hT2.keeps.heap hM1 hnM1
 have ha1 := (Hh.out.2.2.2).step (hT1w.trans hT2)
 have Hd1 := Lib.hid hd1
 have H1 := Lib.hid (And.intro hout (And.intro hO2 (And.intro (hT1w.trans hT2) (And.intro hg1 (And.intro hM2 (And.intro ha1 (And.intro hnM1 (And.intro b3 b4))))))))
 clear hd1 hout hA1 hT1 hg1 b1 b2 b3 b4 hO1 hT1w hM1 hnM1 hc3 hf3 hA2 hT2 hO2 hM2 ha1 c1 hW2
 go_wp2_with fail
 refine (Hd1.out).mono ?_; rintro e w2 ⟨rfl, hw2⟩; have hw2 := hw2.symm; subst hw2
 by_cases he1 : e1 = 0
 ·have Hid1 : Hid (1 ≤ id1 ∧ id1 ≤ 999999999) := Lib.hid (by obtain ⟨_, _, _, _, _, _, _, b3, b4⟩ := H1.out; exact ⟨b4 he1, b3.2⟩)
  have hdn : (d1.down || decide (e1 = 2)) = d1.down := by rw [he1]; cases d1.down <;> rfl
  have H1' : Hid (NextR d 0 id1 d1 ∧ StoOk W2 s d1 ρ1 ∧ StoStep w s d ρ W2 d1 ρ1 ∧ FsGo d.fs d1.fs 2 ∧ W2.heap[w.heap.size]? = some (.cells #[.int .i64 mid, .int .i64 parent, .int .i64 born, .string tf, .slice ar rcpts.length capr, .slice ab body.length capb] 29 (0, 0)) ∧ MailArg W2 s d1 ρ1 ⟨mid, parent, born, frm, rcpts, body⟩ (.slice ar rcpts.length capr) (.slice ab body.length capb) ∧ ¬ stoOwn s d1 ρ1 w.heap.size) := Lib.hid (by
   obtain ⟨q1, q2, q3, q4, q5, q6, q7, _, _⟩ := H1.out
   have hx : ({ d1 with down := d1.down || decide (e1 = 2) } : StoD) = d1 := by rw [hdn]
   rw [hx] at q2 q3 q6
   rw [he1] at q1
   exact ⟨q1, q2, q3, q4, q5, q6, q7⟩)
  clear H1 hdn
  subst he1
  obtain ⟨W3, hW3⟩ : ∃ W3, W2.setCell ⟨w.heap.size, 0, none⟩ (.int .i64 id1) = W3 := ⟨_, rfl⟩
  have hP3 : StoOk W3 s d1 ρ1 ∧ StoStep w s d ρ W3 d1 ρ1 ∧ W3.heap[w.heap.size]? = some (.cells #[.int .i64 id1, .int .i64 parent, .int .i64 born, .string tf, .slice ar rcpts.length capr, .slice ab body.length capb] 29 (0, 0)) ∧ MailArg W3 s d1 ρ1 ⟨mid, parent, born, frm, rcpts, body⟩ (.slice ar rcpts.length capr) (.slice ab body.length capb) := by
   obtain ⟨q1, q2, q3, q4, q5, q6, q7⟩ := H1'.out
   have hk : Keeps (fun k => k = w.heap.size) W2 W3 := by rw [← hW3]; exact Keeps.setCell _ _ _ rfl
   have hgb : GB W2 W3 := GB.keeps hk (fun k e => by have := Hh.out.1.g.size; omega)
   have hor := fun k e => ((Hh.out.2.2.2).or k e).1
   have hob := fun k e => ((Hh.out.2.2.2).ob k e).1
   refine ⟨⟨by rw [← hW3]; exact q2.at_.other q7, q2.ok, q2.g.gb hgb, q2.mx.gb hgb, q2.own, q2.last, q2.nf⟩, by rw [← hW3]; exact q3.new (Nat.le_refl _), by rw [← hW3]; exact heap_setCell_same _ _ 0 _ _ _ q5, ?_⟩
   refine ⟨q6.r.keeps hk (fun b o l c e f => ?_), q6.b.keeps hk (fun k e f => by have := hob k e; omega), q6.nb, fun k e => ⟨Nat.lt_of_lt_of_le (q6.or k e).1 hk.size, (q6.or k e).2⟩, fun k e => ⟨Nat.lt_of_lt_of_le (q6.ob k e).1 hk.size, (q6.ob k e).2⟩, q6.sm⟩
   have := hor b (by rw [e]; rfl)
   omega
  have hen := encode_any ⟨id1, parent, born, frm, rcpts, body⟩ (.slice ar rcpts.length capr) (.slice ab body.length capb) W3 hP3.2.2.2.r hP3.2.2.2.b hP3.2.2.2.nb Hsm.out hP3.1.mx (fun k e => (hP3.2.2.2.or k e).1) (fun k e => (hP3.2.2.2.ob k e).1)
  unfold mailVal at hen
  dsimp only at hen
  rw [Htf.out] at hen
  obtain ⟨⟨x0, x1, x2, x3, x4, x5⟩, _⟩ := mail_cells hP3.2.2.1
  have y0 := (mail_cells H1'.out.2.2.2.2.1).2 0
  have z0 := (mail_cells H1'.out.2.2.2.2.1).1.1
  have Hen := Lib.hid hen
  have H3 := Lib.hid hP3
  clear hen hP3
  subst hW3
  go_wp2_with fail
  refine (Hen.out).mono ?_; rintro e w4 ⟨v, rfl, hrow, hb4⟩
  have hN4 := H3.out.1.below hb4
  have hT4 := H3.out.2.1.bel hb4
  obtain ⟨av, cv, rfl⟩ := own_form0 hrow
  have hfr : ∀ k, (Value.slice av (encD ⟨id1, parent, born, frm, rcpts, body⟩).length cv).ownBlock = some k → ρ1 k = none ∧ k < w4.heap.size ∧ k ≠ s := fun k e => by
   have h1 := hrow.lt k e
   refine ⟨?_, h1.2, fun e => ?_⟩
   ·cases hr : ρ1 k with
    | none => rfl
    | some r =>
     have h2 := H3.out.1.at_.fs.rest.lt k (by rw [hr]; rfl)
     omega
   ·have h2 := (Array.getElem?_eq_some_iff.1 H3.out.1.at_.hd).1
    omega
  have hlay := lay_calls s d1 ρ1 105 id1 (.slice av (encD ⟨id1, parent, born, frm, rcpts, body⟩).length cv) (encD ⟨id1, parent, born, frm, rcpts, body⟩) w4 hN4.at_ hN4.ok (by have := H1'.out.2.2.2.1.2; have := Hh.out.2.1; omega) hN4.own (hN4.g.int _) (rdB_ofOwn hrow) (nilOk_own hrow) hfr
  obtain ⟨bl, hbl⟩ : ∃ bl, encD ⟨id1, parent, born, frm, rcpts, body⟩ = bl := ⟨_, rfl⟩
  obtain ⟨tm, htm⟩ : ∃ tm, nameD 116 id1 = tm := ⟨_, rfl⟩
  obtain ⟨nn, hnn⟩ : ∃ nn, nameD 105 id1 = nn := ⟨_, rfl⟩
  rw [hbl, htm, hnn] at hlay
  rw [hbl]
  have Hbl := Lib.hid (And.intro hbl (And.intro htm hnn))
  have Hlay := Lib.hid hlay
  have H4 := Lib.hid (And.intro hN4 hT4)
  clear hlay hN4 hT4 hfr hrow hb4 hbl htm hnn x0 x1 x2 x3 x4 x5 y0 z0
  go_wp2_with fail
  refine (Hlay.out).mono ?_; rintro e w5 ⟨e2, fs2, ρ2, rfl, hout, hA5, hT5, hg5⟩
  have hO5 := H4.out.1.step hA5 hT5 hg5.1 H4.out.1.last H4.out.1.nf
  have hT5w := H4.out.2.trans hT5
  have hgo5 := (H1'.out.2.2.2.1).trans hg5
  have H5 := Lib.hid (And.intro hout (And.intro hO5 (And.intro hT5w hgo5)))
  clear hout hA5 hT5 hg5 hO5 hT5w hgo5
  by_cases he2 : e2 = 0
  ·have hdn : (d1.down || decide (e2 = 2)) = d1.down := by rw [he2]; cases d1.down <;> rfl
   have H5' : Hid (Outcome (layS tm nn bl) 6 d1.fs 0 fs2 ∧ StoOk w5 s { d1 with fs := fs2 } ρ2 ∧ StoStep w s d ρ w5 { d1 with fs := fs2 } ρ2 ∧ FsGo d.fs fs2 8) := Lib.hid (by
    obtain ⟨q1, q2, q3, q4⟩ := H5.out
    have hx : ({ d1 with fs := fs2, down := d1.down || decide (e2 = 2) } : StoD) = { d1 with fs := fs2 } := by rw [hdn]
    rw [hx] at q2 q3
    rw [he2] at q1
    exact ⟨q1, q2, q3, q4⟩)
   clear H5 hdn
   subst he2
   have c2 := (cells4 H5'.out.2.1.at_.hd).1.2.2.1
   have hwl1 : d1.whr.length < maxLen := by rw [(H1'.out.1).same.2.2.2.1]; have := Hh.out.2.2.1; unfold maxLen; omega
   obtain ⟨w6, hrun, hm6, hk6⟩ := wh_put H5'.out.2.1.at_.whr hwl1 id1 (by have := Hid1.out; omega) 105
   have hx105 : ((105 : UInt8).toNat : Int) = 105 := rfl
   rw [hx105] at hrun
   obtain ⟨hA6, hT6⟩ := H5'.out.2.1.at_.setMap hm6 hk6
   have hO6 := H5'.out.2.1.step hA6 hT6 H5'.out.2.1.ok H5'.out.2.1.last H5'.out.2.1.nf
   have H6 := Lib.hid (And.intro hO6 (H5'.out.2.2.1.trans hT6))
   clear hm6 hk6 hA6 hT6 hO6 hwl1
   go_wp2
   go_ret2
   refine ⟨0, id1, { d1 with fs := fs2, whr := d1.whr.put id1 105 }, ρ2, rfl, ⟨0, id1, d1, H1'.out.1, .inr ⟨rfl, 0, fs2, ?_, .inl ⟨rfl, rfl, rfl, rfl⟩⟩⟩, H6.out.1, H6.out.2, H5'.out.2.2.2.mono (by omega)⟩
   obtain ⟨k1, k2, k3⟩ := Hbl.out
   rw [k2, k3]
   show Outcome (layS tm nn (encD ⟨id1, parent, born, frm, rcpts, body⟩)) 6 d1.fs 0 fs2
   rw [k1]
   exact H5'.out.1
  ·by_cases he3 : e2 = 3
   ·have H5' : Hid (Outcome (layS tm nn bl) 6 d1.fs 3 fs2 ∧ StoOk w5 s { d1 with fs := fs2 } ρ2 ∧ StoStep w s d ρ w5 { d1 with fs := fs2 } ρ2 ∧ FsGo d.fs fs2 8) := Lib.hid (by
     obtain ⟨q1, q2, q3, q4⟩ := H5.out
     have hdn : (d1.down || decide (e2 = 2)) = d1.down := by rw [he3]; cases d1.down <;> rfl
     have hx : ({ d1 with fs := fs2, down := d1.down || decide (e2 = 2) } : StoD) = { d1 with fs := fs2 } := by rw [hdn]
     rw [hx] at q2 q3
     rw [he3] at q1
     exact ⟨q1, q2, q3, q4⟩)
    clear H5 he2
    subst he3
    have hO5d := H5'.out.2.1.below (Below.refl _ _).drew
    have hname := name_calls 116 id1 w5.drew (hO5d.g.int _)
    rw [(Hbl.out).2.1] at hname
    have h116 : ((116 : UInt8).toNat : Int) = 116 := rfl
    rw [h116] at hname
    obtain ⟨tn, htn⟩ : ∃ tn, strL tm = tn := ⟨_, rfl⟩
    obtain ⟨fb, hfb⟩ : ∃ fb, d1.fb = fb := ⟨_, rfl⟩
    have htl : tm.length ≤ maxLen := by rw [← (Hbl.out).2.1]; have := nameD_len 116 id1; unfold maxLen; omega
    have hul : ∀ w6, StoOk w6 s { d1 with fs := fs2 } ρ2 → Calls Tryz.prog 101 #[.pointer (some ⟨fb, 0, none⟩), .string tn] w6 fun e w' => ∃ v lv ρ', FsDone fb ρ2 w6 e w' (unlinkD fs2 tm v lv).1 (unlinkD fs2 tm v lv).2 ρ' := fun w6 h6 => by
     rw [← hfb, ← htn]
     exact (unlink_calls d1.fb fs2 ρ2 tm w6 h6.at_.fs htl h6.ok.fuse h6.ok.n (by have := H5'.out.2.2.2.2; have := Hh.out.2.1; omega)).mono fun e w' ⟨v, lv, ρ', a, b, c⟩ => ⟨v, lv, ρ', FsDone.mk a b c⟩
    rw [htn] at hname
    have hS := (cells4 hO5d.at_.hd).1.1
    dsimp only at hS
    rw [hfb] at hS
    have HS : Hid ((fun w' => w'.cell? ⟨s, 0, none⟩ = some (.pointer (some ⟨fb, 0, none⟩))) w5.drew) := Lib.hid hS
    have Hname := Lib.hid hname
    have Hul := Lib.hid hul
    have HO5d := Lib.hid hO5d
    have Hfb := Lib.hid hfb
    clear hname hul hS htn htl hO5d hfb
    go_upto_region 9 with fail
    refine wp_region_noPanic ?_
    refine wp_region_held_drew (S := (fun w' => w'.cell? ⟨s, 0, none⟩ = some (.pointer (some ⟨fb, 0, none⟩)))) (by kernel_rfl) (by first | with_reducible exact HS.out | with_reducible exact hS6 | with_reducible exact hS7 | with_reducible exact hS8) (fun hHeld => ?_)
    refine tkH 0 ?_
    try simp only [Act.put, List.setIfInBounds_toArray, List.set_cons_zero, List.set_cons_succ]
    refine tkH 1 ?_
    try simp only [Act.put, List.setIfInBounds_toArray, List.set_cons_zero, List.set_cons_succ]
    refine tkH 2 ?_
    try simp only [Act.put, List.setIfInBounds_toArray, List.set_cons_zero, List.set_cons_succ]
    refine tkH 3 ?_
    try simp only [Act.put, List.setIfInBounds_toArray, List.set_cons_zero, List.set_cons_succ]
    refine tkH 4 ?_
    try simp only [Act.put, List.setIfInBounds_toArray, List.set_cons_zero, List.set_cons_succ]
    refine tkH 5 ?_
    try simp only [Act.put, List.setIfInBounds_toArray, List.set_cons_zero, List.set_cons_succ]
    refine rdH 6 fun K hK => ?_
    go_simp
    go_at_call 12; refine (Hname.out).mono ?_; rintro e w6 ⟨rfl, hb6⟩
    have hO6 := HO5d.out.below hb6
    have hS6 := (cells4 hO6.at_.hd).1.1
    dsimp only at hS6
    rw [Hfb.out] at hS6
    have HO6 := Lib.hid (And.intro hO6 hb6)
    clear hO6 hb6
    refine hK.out _ _ (by (try dsimp only); first | with_reducible exact HS.out | with_reducible exact hS6 | with_reducible exact hS7 | with_reducible exact hS8) (fun hHeld => ?_)
    clear hK K
    try simp only [Act.put, List.setIfInBounds_toArray, List.set_cons_zero, List.set_cons_succ]
    refine rdH 7 fun K hK => ?_
    go_simp
    go_at_call 101; refine (Hul.out _ HO6.out.1).mono ?_; rintro e w7 ⟨v2, lv2, ρ7, rfl, hF7, hst7⟩
    rw [← Hfb.out] at hF7
    obtain ⟨hA7, hT7⟩ := HO6.out.1.at_.fsStep hF7 hst7
    obtain ⟨eu, heu⟩ : ∃ eu, (unlinkD fs2 tm v2 lv2).1 = eu := ⟨_, rfl⟩
    have hgu := unlink_go (n := tm) (v := v2) (lv := lv2) HO6.out.1.ok
    have hO7 := HO6.out.1.step hA7 hT7 hgu.1 HO6.out.1.last HO6.out.1.nf
    have hS7 := (cells4 hA7.hd).1.1
    have hc3 := (cells4 hA7.hd).1.2.2.2
    have hf3 := (cells4 hA7.hd).2 3
    dsimp only at hS7 hc3
    rw [Hfb.out] at hS7
    have hd7 := did_calls s d1.down eu w7 hc3 hf3
    have HO7 := Lib.hid (And.intro hO7 (And.intro hT7 (And.intro heu hgu)))
    have Hd7 := Lib.hid hd7
    rw [heu]
    clear hA7 hT7 hF7 hst7 hO7 hc3 hf3 hd7 heu hgu
    refine hK.out _ _ (by (try dsimp only); first | with_reducible exact HS.out | with_reducible exact hS6 | with_reducible exact hS7 | with_reducible exact hS8) (fun hHeld => ?_)
    clear hK K
    try simp only [Act.put, List.setIfInBounds_toArray, List.set_cons_zero, List.set_cons_succ]
    refine rdH 8 fun K hK => ?_
    go_simp
    go_at_call 100; refine (Hd7.out).mono ?_; rintro e w8 ⟨rfl, hw8⟩
    obtain ⟨hA8, hT8⟩ := HO7.out.1.at_.setDown (d1.down || decide (eu = 2))
    rw [← hw8] at hA8 hT8
    have hS8 := (cells4 hA8.hd).1.1
    dsimp only at hS8
    rw [Hfb.out] at hS8
    have hO8 := HO7.out.1.step hA8 hT8 HO7.out.1.ok HO7.out.1.last HO7.out.1.nf
    have H8 := Lib.hid (And.intro hO8 (((((H5'.out.2.2.1.bel (Below.refl _ _).drew).bel HO6.out.2).trans HO7.out.2.1)).trans hT8))
    clear hA8 hT8 hO8 hw8
    refine hK.out _ _ (by (try dsimp only); first | with_reducible exact HS.out | with_reducible exact hS6 | with_reducible exact hS7 | with_reducible exact hS8) (fun hHeld => ?_)
    clear hK K
    try simp only [Act.put, List.setIfInBounds_toArray, List.set_cons_zero, List.set_cons_succ]
    refine wpAnyH_done (by kernel_rfl) ?_ _
    refine NoPanic.normal ?_
    go_wp2
    go_ret2
    obtain ⟨k1, k2, k3⟩ := Hbl.out
    refine ⟨3, 0, _, ρ7, rfl, ⟨0, id1, d1, H1'.out.1, .inr ⟨rfl, 3, fs2, ?_, .inr (.inr ⟨rfl, rfl, rfl, v2, lv2, ?_⟩)⟩⟩, H8.out.1, H8.out.2, ?_⟩
    ·rw [k2, k3]
     show Outcome (layS tm nn (encD ⟨id1, parent, born, frm, rcpts, body⟩)) 6 d1.fs 3 fs2
     rw [k1]
     exact H5'.out.1
    ·rw [k2, HO7.out.2.2.1]
    ·exact (H5'.out.2.2.2).trans HO7.out.2.2.2
   ·have h20 : (e2 != 0) = true := by simpa using he2
    have h23 : (e2 == 3) = false := by simpa using he3
    have Hne := Lib.hid (And.intro he2 he3)
    clear he2 he3
    go_wp2
    go_ret2
    refine ⟨e2, 0, _, ρ2, rfl, ⟨0, id1, d1, H1'.out.1, .inr ⟨rfl, e2, fs2, ?_, .inr (.inl ⟨Hne.out.1, Hne.out.2, rfl, rfl, rfl⟩)⟩⟩, H5.out.2.1, H5.out.2.2.1, H5.out.2.2.2.mono (by omega)⟩
    obtain ⟨k1, k2, k3⟩ := Hbl.out
    rw [k2, k3]
    show Outcome (layS tm nn (encD ⟨id1, parent, born, frm, rcpts, body⟩)) 6 d1.fs e2 fs2
    rw [k1]
    exact H5.out.1
 ·have h10 : (e1 != 0) = true := by simpa using he1
  have Hne := Lib.hid he1
  clear he1
  go_wp2
  go_ret2
  obtain ⟨q1, q2, q3, q4, _⟩ := H1.out
  exact ⟨e1, 0, _, ρ1, rfl, ⟨e1, id1, d1, q1, .inl ⟨Hne.out, rfl, rfl, rfl⟩⟩, q2, q3, q4.mono (by omega)⟩
end Go.Proofs.YtffnbkmigapmjaaGreatDoor
set_option maxRecDepth 100000
namespace Go.Proofs.YtffnbkmigapmjaaGreatDoor
open Go.RowKit Go.Maps
def goodNew (m : MailD) : Bool := ({ m with id := 999999999 } : MailD).good
set_option maxHeartbeats 8000000 in
theorem sgood_calls (m : MailD) (vr vb : Value) (w : World) (hr : RdS w vr m.rcpts) (hb : RdB w vb m.body) (hsr : ∀ l ∈ m.rcpts, l.length < 4294967281) (hsf : m.frm.length < 4294967281) (hmax : MaxOk w) :
 Calls Tryz.prog 63 #[mailVal m vr vb] w fun e w' => e = .returned (.bool (goodNew m)) ∧ Below w.heap.size w w' := by
 obtain ⟨ar, capr, rfl, hlr, hcr⟩ := hr.form
 obtain ⟨ab, capb, rfl, hlb, hcb⟩ := hb.form
 obtain ⟨mid, parent, born, frm, rcpts, body⟩ := m
 unfold mailVal
 dsimp only at hlr hlb hr hb hsr hsf ⊢
 obtain ⟨W2, hW2⟩ : ∃ W2, w.alloc (.cells #[.int .i64 999999999, .int .i64 parent, .int .i64 born, .string (strL frm), .slice ar rcpts.length capr, .slice ab body.length capb] 29) = W2 := ⟨_, rfl⟩
 have hb2 : Below w.heap.size w W2 := by rw [← hW2]; exact (Below.refl _ _).alloc (Nat.le_refl _) _
 have hgd := envGood_calls ⟨999999999, parent, born, frm, rcpts, body⟩ (.slice ar rcpts.length capr) (.slice ab body.length capb) W2 (hr.below (Nat.le_refl _) hb2) (hb.below (Nat.le_refl _) hb2) hsr hsf (hmax.below hb2)
 have Hgn : Hid ((⟨999999999, parent, born, frm, rcpts, body⟩ : MailD).good = goodNew ⟨mid, parent, born, frm, rcpts, body⟩) := Lib.hid rfl
 rw [Hgn.out] at hgd
 unfold mailVal at hgd
 dsimp only at hgd
 obtain ⟨tf, htf⟩ : ∃ tf, strL frm = tf := ⟨_, rfl⟩
 rw [htf] at hgd hW2 ⊢
 generalize goodNew ⟨mid, parent, born, frm, rcpts, body⟩ = gn at hgd ⊢
 have Hgd := Lib.hid hgd
 have Hb2 := Lib.hid hb2
 clear hgd hr hb hsr hsf hmax hb2 htf Hgn
 subst hW2
 go_enter Tryz.func63, Tryz.ntmps63
 go_wp2_with fail
 refine (Hgd.out).mono ?_; rintro e w1 ⟨rfl, hb1⟩
 have hb := Hb2.out.trans (hb1.mono Hb2.out.size)
 clear hb1
 go_wp2
 go_ret
 exact ⟨rfl, hb⟩
theorem small_new {m : MailD} (h : goodNew m = true) : m.small := by
 have := small_of_good h
 exact ⟨this.1, this.2⟩
def CommitR (d : StoD) (m : MailD) (er id : Int) (d' : StoD) : Prop :=
 ((goodNew m = false ∨ m.parent ≠ 0) ∧ er = 1 ∧ id = 0 ∧ d' = d) ∨ (goodNew m = true ∧ m.parent = 0 ∧ d.down = true ∧ er = 2 ∧ id = 0 ∧ d' = d) ∨ (goodNew m = true ∧ m.parent = 0 ∧ d.down = false ∧ AddR d m er id d')
structure CommitDone (w : World) (s : Nat) (d : StoD) (ρ : Rho) (m : MailD) (e : Ending) (w' : World) (er id : Int) (d' : StoD) (ρ' : Rho) : Prop where
 ret : e = .returned (.tuple #[.int .i64 id, .int .i64 er])
 out : CommitR d m er id d'
 at_ : StoOk w' s d' ρ'
 step : StoStep w s d ρ w' d' ρ'
 go : FsGo d.fs d'.fs 9
set_option maxHeartbeats 16000000 in
theorem commit_calls (s : Nat) (d : StoD) (ρ : Rho) (m : MailD) (vr vb : Value) (w : World) (h : StoOk w s d ρ) (hll : d.fs.loose.length ≤ 800000) (hwl : d.whr.length ≤ 1000000) (ha : MailArg w s d ρ m vr vb) :
 Calls Tryz.prog 24 #[.pointer (some ⟨s, 0, none⟩), mailVal m vr vb] w fun e w' => ∃ er id d' ρ', CommitDone w s d ρ m e w' er id d' ρ' := by
 obtain ⟨ar, capr, rfl, hlr, hcr⟩ := ha.r.form
 obtain ⟨ab, capb, rfl, hlb, hcb⟩ := ha.b.form
 obtain ⟨W, hW⟩ : ∃ W, w.alloc (.cells #[.int .i64 m.id, .int .i64 m.parent, .int .i64 m.born, .string (strL m.frm), .slice ar m.rcpts.length capr, .slice ab m.body.length capb] 29) = W := ⟨_, rfl⟩
 have hbW : Below w.heap.size w W := by rw [← hW]; exact (Below.refl _ _).alloc (Nat.le_refl _) _
 have hM : W.heap[w.heap.size]? = some (.cells #[.int .i64 m.id, .int .i64 m.parent, .int .i64 m.born, .string (strL m.frm), .slice ar m.rcpts.length capr, .slice ab m.body.length capb] 29 (0, 0)) := by rw [← hW]; exact heap_alloc_new w _
 have hWs : w.heap.size < W.heap.size := (Array.getElem?_eq_some_iff.1 hM).1
 have hO := h.below hbW
 have haW := ha.below hbW
 have hgd := sgood_calls m _ _ W haW.r haW.b (fun l hl => by have := ha.sm.2 l hl; omega) (by have := ha.sm.1; omega) hO.mx
 have hrdy := fun w1 (hb : Below W.heap.size W w1) => sready_calls s d ρ w1 (hO.below hb).at_
 have hadd := fun w1 (hb : Below W.heap.size W w1) (hg : goodNew m = true) => add_calls s d ρ m _ _ w1 (hO.below hb) hll hwl (haW.below hb) (small_new hg)
 obtain ⟨⟨x0, x1, x2, x3, x4, x5⟩, _⟩ := mail_cells hM
 have hcl := fun w1 (hb : Below W.heap.size W w1) => (mail_cells ((hb.block _ hWs).trans hM)).1
 unfold mailVal at hgd hadd ⊢
 have Hok := Lib.hid h.ok
 have H0 := Lib.hid (And.intro hbW hO)
 obtain ⟨gn, hgn⟩ : ∃ gn, goodNew m = gn := ⟨_, rfl⟩
 obtain ⟨dn, hdn⟩ : ∃ dn, d.down = dn := ⟨_, rfl⟩
 rw [hgn] at hgd
 rw [hdn] at hrdy
 have Hgn := Lib.hid (And.intro hgn hdn)
 obtain ⟨tf, htf⟩ : ∃ tf, strL m.frm = tf := ⟨_, rfl⟩
 obtain ⟨mi, hmi⟩ : ∃ mi, m.id = mi := ⟨_, rfl⟩
 obtain ⟨mp, hmp⟩ : ∃ mp, m.parent = mp := ⟨_, rfl⟩
 obtain ⟨mb, hmb⟩ : ∃ mb, m.born = mb := ⟨_, rfl⟩
 obtain ⟨nr, hnr⟩ : ∃ nr, m.rcpts.length = nr := ⟨_, rfl⟩
 obtain ⟨nb, hnb⟩ : ∃ nb, m.body.length = nb := ⟨_, rfl⟩
 rw [htf, hmi, hmp, hmb, hnr, hnb] at hgd hadd hcl hW
 rw [htf, hmi, hmp, hmb, hnr, hnb]
 rw [htf] at x3; rw [hmi] at x0; rw [hmp] at x1; rw [hmb] at x2; rw [hnr] at x4; rw [hnb] at x5
 have Hmp := Lib.hid hmp
 have Hgd := Lib.hid hgd
 have Hrdy := Lib.hid hrdy
 have Hadd := Lib.hid hadd
 have Hcl := Lib.hid hcl
 clear hgd hrdy hadd hcl hgn hdn htf hmi hmp hmb hnr hnb h hll hwl ha hO haW hM hWs hbW hlr hcr hlb hcb
 subst hW
 cases gn with
 | false =>
  go_enter Tryz.func24, Tryz.ntmps24
  go_wp2_with fail
  refine (Hgd.out).mono ?_; rintro e w1 ⟨rfl, hb1⟩
  have H1 := Lib.hid (And.intro (H0.out.2.below hb1) (StoStep.below (s := s) (d := d) (ρ := ρ) (H0.out.1.trans (hb1.mono H0.out.1.size))))
  clear hb1 x0 x1 x2 x3 x4 x5
  go_wp2
  go_ret2
  exact ⟨1, 0, d, ρ, rfl, .inl ⟨.inl Hgn.out.1, rfl, rfl, rfl⟩, H1.out.1, H1.out.2, (FsGo.refl Hok.out).mono (by omega)⟩
 | true =>
  by_cases hp : mp = 0
  ·have hp' : (mp != 0) = false := by simpa using hp
   have Hp := Lib.hid hp
   clear hp
   cases dn with
   | true =>
    go_enter Tryz.func24, Tryz.ntmps24
    go_wp2_with fail
    refine (Hgd.out).mono ?_; rintro e w1 ⟨rfl, hb1⟩
    have x1 := (Hcl.out w1 hb1).2.1
    have Hb1 := Lib.hid hb1
    clear hb1 x0 x2 x3 x4 x5
    go_wp2_with fail
    refine (Hrdy.out w1 Hb1.out).mono ?_; rintro e w2 ⟨rfl, hb2⟩
    have hb12 := Hb1.out.trans (hb2.mono Hb1.out.size)
    have H1 := Lib.hid (And.intro (H0.out.2.below hb12) (StoStep.below (s := s) (d := d) (ρ := ρ) (H0.out.1.trans (hb12.mono H0.out.1.size))))
    clear hb2 hb12 x1
    go_wp2
    go_ret2
    exact ⟨2, 0, d, ρ, rfl, .inr (.inl ⟨Hgn.out.1, Hmp.out.trans Hp.out, Hgn.out.2, rfl, rfl, rfl⟩), H1.out.1, H1.out.2, (FsGo.refl Hok.out).mono (by omega)⟩
   | false =>
    go_enter Tryz.func24, Tryz.ntmps24
    go_wp2_with fail
    refine (Hgd.out).mono ?_; rintro e w1 ⟨rfl, hb1⟩
    have x1 := (Hcl.out w1 hb1).2.1
    have Hb1 := Lib.hid hb1
    clear hb1 x0 x2 x3 x4 x5
    go_wp2_with fail
    refine (Hrdy.out w1 Hb1.out).mono ?_; rintro e w2 ⟨rfl, hb2⟩
    have hb12 := Hb1.out.trans (hb2.mono Hb1.out.size)
    obtain ⟨x0, x1, x2, x3, x4, x5⟩ := Hcl.out w2 hb12
    have Hb12 := Lib.hid hb12
    clear hb2 hb12
    go_wp2_with fail
    refine (Hadd.out w2 Hb12.out Hgn.out.1).mono ?_; rintro e w3 ⟨er, id, d', ρ', rfl, hout, hO3, hT3, hg3⟩
    have H3 := Lib.hid (And.intro hout (And.intro hO3 (And.intro ((StoStep.below (s := s) (d := d) (ρ := ρ) (H0.out.1.trans (Hb12.out.mono H0.out.1.size))).trans hT3) hg3)))
    clear hout hO3 hT3 hg3 x0 x1 x2 x3 x4 x5
    go_wp2
    go_ret2
    obtain ⟨q1, q2, q3, q4⟩ := H3.out
    exact ⟨er, id, d', ρ', rfl, .inr (.inr ⟨Hgn.out.1, Hmp.out.trans Hp.out, Hgn.out.2, q1⟩), q2, q3, q4⟩
  ·have hp' : (mp != 0) = true := by simpa using hp
   have Hp := Lib.hid hp
   clear hp
   go_enter Tryz.func24, Tryz.ntmps24
   go_wp2_with fail
   refine (Hgd.out).mono ?_; rintro e w1 ⟨rfl, hb1⟩
   have x1 := (Hcl.out w1 hb1).2.1
   have H1 := Lib.hid (And.intro (H0.out.2.below hb1) (StoStep.below (s := s) (d := d) (ρ := ρ) (H0.out.1.trans (hb1.mono H0.out.1.size))))
   clear hb1 x0 x2 x3 x4 x5
   go_wp2
   go_ret2
   exact ⟨1, 0, d, ρ, rfl, .inl ⟨.inr (fun e => Hp.out (Hmp.out.symm.trans e)), rfl, rfl, rfl⟩, H1.out.1, H1.out.2, (FsGo.refl Hok.out).mono (by omega)⟩
end Go.Proofs.YtffnbkmigapmjaaGreatDoor
