/- Printed out of the texts of wip/tpl. -/
import Derived.Test.YtffnbkmigapmjaaGreatDoorT10
import Derived.Test.YtffnbkmigapmjaaGreatDoorT19
import Derived.Test.YtffnbkmigapmjaaGreatDoorT22
import Derived.Test.YtffnbkmigapmjaaGreatDoorShelfN
import Derived.Maps.RangeWalk
import Derived.Sort.OwnSortedInts
set_option linter.unusedSimpArgs false
set_option linter.unusedVariables false
set_option maxRecDepth 100000
namespace Go.Proofs.YtffnbkmigapmjaaGreatDoor
open Go.RowKit Go.Maps
def keepQ : List UInt8 := [105, 97, 100, 104]
def workQ : List UInt8 := [105, 97, 100]
def sfileD (d : StoD) (id : Int) : Option FileD :=
 if keepQ.contains (d.whr.at id) = true then (if (fsReadD d.fs (nameD (d.whr.at id) id)).1 = 0 then fileD (fsReadD d.fs (nameD (d.whr.at id) id)).2 else none) else none
theorem FileRes.mono {w w1 w' : World} {r : Option FileD} {e : Ending} (h : FileRes w1 r e w') (hb : Below w.heap.size w w1) : FileRes w r e w' := by
 obtain ⟨vr, vb, vm, he, h1, h2, h3, h4⟩ := h
 exact ⟨vr, vb, vm, he, own_mono h1 hb.size, own_mono h2 hb.size, own_mono h3 hb.size, hb.trans (h4.mono hb.size)⟩
theorem read_small {w : World} {f : Nat} {d : FsD} {ρ : Rho} (h : FsAt w f d ρ) (n : Nm) : (fsReadD d n).2.length ≤ 16777216 := by
 unfold fsReadD
 split
 ·show (bytesOf d n).length ≤ _
  unfold bytesOf
  split
  ·split
   ·rename_i x _ _ c hc
    exact (h.rest.files x c hc).small
   ·exact Nat.zero_le _
  ·exact Nat.zero_le _
 ·exact Nat.zero_le _
theorem in_keep (q : UInt8) (w : World) : Calls Tryz.prog 44 #[.string ⟨#[105, 97, 100, 104]⟩, .int .u8 q.toNat] w fun e w' => e = .returned (.bool (keepQ.contains q)) ∧ w' = w := in_calls keepQ q w
theorem in_work (q : UInt8) (w : World) : Calls Tryz.prog 44 #[.string ⟨#[105, 97, 100]⟩, .int .u8 q.toNat] w fun e w' => e = .returned (.bool (workQ.contains q)) ∧ w' = w := in_calls workQ q w
theorem below8 {b n : Nat} {w w' : World} (h : Below n w w') (hb : n ≤ b) (x0 x1 x2 x3 x4 x5 x6 x7 : Value) : Below n w ((((((((w'.setCell ⟨b, 0, none⟩ x0).setCell ⟨b, 1, none⟩ x1).setCell ⟨b, 2, none⟩ x2).setCell ⟨b, 3, none⟩ x3).setCell ⟨b, 4, none⟩ x4).setCell ⟨b, 5, none⟩ x5).setCell ⟨b, 6, none⟩ x6).setCell ⟨b, 7, none⟩ x7) :=
 (((((((h.setCell (by exact hb) _).setCell (by exact hb) _).setCell (by exact hb) _).setCell (by exact hb) _).setCell (by exact hb) _).setCell (by exact hb) _).setCell (by exact hb) _).setCell (by exact hb) _
theorem keeps8 (w' : World) (b : Nat) (x0 x1 x2 x3 x4 x5 x6 x7 : Value) : Keeps (fun k => k = b) w' ((((((((w'.setCell ⟨b, 0, none⟩ x0).setCell ⟨b, 1, none⟩ x1).setCell ⟨b, 2, none⟩ x2).setCell ⟨b, 3, none⟩ x3).setCell ⟨b, 4, none⟩ x4).setCell ⟨b, 5, none⟩ x5).setCell ⟨b, 6, none⟩ x6).setCell ⟨b, 7, none⟩ x7) :=
 have st : ∀ (W : World) (j : Nat) (v : Value), Keeps (fun k => k = b) W (W.setCell ⟨b, j, none⟩ v) := fun W j v => Keeps.setCell _ _ _ rfl
 (((((((st _ 0 x0).trans (st _ 1 x1)).trans (st _ 2 x2)).trans (st _ 3 x3)).trans (st _ 4 x4)).trans (st _ 5 x5)).trans (st _ 6 x6)).trans (st _ 7 x7)
set_option maxHeartbeats 8000000 in
theorem sfile_calls (s : Nat) (d : StoD) (ρ : Rho) (w : World) (h : StoAt w s d ρ) (id : Int) (hid : -9223372036854775808 ≤ id ∧ id ≤ 9223372036854775807) (hg : GOk w) (hmax : MaxOk w) :
 Calls Tryz.prog 19 #[.pointer (some ⟨s, 0, none⟩), .int .i64 id] w (FileRes w (sfileD d id)) := by
 have hz : ∀ w, (zeroValue 43).run Tryz.prog w = .ok (.agg #[.int .i64 0, .int .i64 0, .int .i64 0, .string ⟨#[]⟩, .slice none 0 0, .slice none 0 0, .slice none 0 0, .int .i64 0]) w := fun _ => by kernel_rfl
 obtain ⟨W, hW⟩ : ∃ W, w.alloc (.cells #[.int .i64 0, .int .i64 0, .int .i64 0, .string ⟨#[]⟩, .slice none 0 0, .slice none 0 0, .slice none 0 0, .int .i64 0] 43) = W := ⟨_, rfl⟩
 have hbW : Below w.heap.size w W := by rw [← hW]; exact (Below.refl _ _).alloc (Nat.le_refl _) _
 have hF : W.heap[w.heap.size]? = some (.cells #[.int .i64 0, .int .i64 0, .int .i64 0, .string ⟨#[]⟩, .slice none 0 0, .slice none 0 0, .slice none 0 0, .int .i64 0] 43 (0, 0)) := by rw [← hW]; exact heap_alloc_new w _
 have hlt : w.heap.size < W.heap.size := by rw [← hW]; simp
 have hwh := where_calls s d ρ W (h.below hbW) id hid
 obtain ⟨q, hq⟩ : ∃ q, d.whr.at id = q := ⟨_, rfl⟩
 have Hr : Hid (sfileD d id = if keepQ.contains q = true then (if (fsReadD d.fs (nameD q id)).1 = 0 then fileD (fsReadD d.fs (nameD q id)).2 else none) else none) := Lib.hid (by unfold sfileD; rw [hq])
 rw [hq] at hwh
 have hin := in_keep q
 obtain ⟨b, hb⟩ : ∃ b, keepQ.contains q = b := ⟨_, rfl⟩
 rw [hb] at Hr hin
 have hname := fun w1 (hg1 : GOk w1) => name_calls q id w1 (hg1.int _)
 obtain ⟨nm, hnm⟩ : ∃ nm, nameD q id = nm := ⟨_, rfl⟩
 have hnl : nm.length ≤ maxLen := by rw [← hnm]; have := nameD_len q id; unfold maxLen; omega
 rw [hnm] at Hr hname
 obtain ⟨qn, hqn⟩ : ∃ qn : Nat, q.toNat = qn := ⟨_, rfl⟩
 rw [hqn] at hwh hin hname
 have Hwh := Lib.hid hwh
 have Hin := Lib.hid hin
 have Hname := Lib.hid hname
 have Hhy := Lib.hid (And.intro h (And.intro hg (And.intro hmax hnl)))
 have HF := Lib.hid (And.intro hbW (And.intro hF hlt))
 obtain ⟨fb, hfb⟩ : ∃ fb, d.fb = fb := ⟨_, rfl⟩
 have Hfb := Lib.hid hfb
 clear hwh hin hname hq hb hnm hqn hid h hg hmax hnl hbW hF hlt hfb
 subst hW
 cases b with
 | false =>
  have Hr2 : Hid (sfileD d id = none) := Lib.hid (by rw [Hr.out]; rfl)
  clear Hr
  go_enter Tryz.func19, Tryz.ntmps19
  go_wp2_with fail
  refine (Hwh.out).mono ?_; rintro e w1 ⟨rfl, hb1⟩
  have hF1 := (hb1.block _ HF.out.2.2).trans HF.out.2.1
  have Hb1 := Lib.hid (HF.out.1.trans (hb1.mono HF.out.1.size))
  obtain ⟨⟨x0, x1, x2, x3, x4, x5, x6, x7⟩, y0, y1, y2, y3, y4, y5, y6, y7⟩ := cells8 hF1
  have HF1 := Lib.hid hF1
  clear hb1 hF1
  go_wp2_with fail
  refine (Hin.out w1).mono ?_; rintro e w2 ⟨rfl, hw2⟩; have hw2 := hw2.symm; subst hw2
  go_wp2
  have hB5 := heap8 ⟨_, _, _, _, _, _, _, _, HF1.out⟩ (.int .i64 0) (.int .i64 0) (.int .i64 0) (.string ⟨#[]⟩) (.slice none 0 0) (.slice none 0 0) (.slice none 0 0) (.int .i64 0)
  rw [Hr2.out]
  refine bodyPost_ret (results_row_tmp rfl _ _ w.heap.size 43 _ (0, 0) _ rfl hB5 Tryz.underlying43 rfl (by kernel_rfl)) rfl (fileRes_none rfl ?_)
  exact below8 Hb1.out (Nat.le_refl _) _ _ _ _ _ _ _ _
 | true =>
  obtain ⟨rr, hrr⟩ : ∃ rr, fsReadD d.fs nm = rr := ⟨_, rfl⟩
  obtain ⟨re, rb⟩ := rr
  have Hr1 : Hid (sfileD d id = if re = 0 then fileD rb else none) := Lib.hid (by rw [Hr.out, hrr]; rfl)
  have hrd := fun w1 (hb1 : Below w.heap.size w w1) => fsRead_calls d.fb d.fs ρ nm w1 (Hhy.out.1.below hb1).fs Hhy.out.2.2.2
  have hsm := read_small Hhy.out.1.fs nm
  rw [hrr] at hrd hsm
  rw [Hfb.out] at hrd
  have Hsm := Lib.hid (show rb.length ≤ 16777216 from hsm)
  obtain ⟨tn, htn⟩ : ∃ tn, strL nm = tn := ⟨_, rfl⟩
  rw [htn] at hrd Hname
  have Hrd := Lib.hid hrd
  clear hrr hrd hsm htn Hr
  go_enter Tryz.func19, Tryz.ntmps19
  go_wp2_with fail
  refine (Hwh.out).mono ?_; rintro e w1 ⟨rfl, hb1⟩
  have Hb1 := Lib.hid (HF.out.1.trans (hb1.mono HF.out.1.size))
  have Hg1 := Lib.hid hb1
  clear hb1
  go_wp2_with fail
  refine (Hin.out w1).mono ?_; rintro e w2 ⟨rfl, hw2⟩; have hw2 := hw2.symm; subst hw2
  have Hbd := Lib.hid (Hb1.out).drew
  have hS := (cells4 (Hhy.out.1.below Hbd.out).hd).1.1
  rw [Hfb.out] at hS
  have HS : Hid ((fun w' => w'.cell? ⟨s, 0, none⟩ = some (.pointer (some ⟨fb, 0, none⟩))) w1.drew) := Lib.hid hS
  clear hS
  go_upto_region 4 with fail
  refine wp_region_noPanic ?_
  refine wp_region_held_drew (S := (fun w' => w'.cell? ⟨s, 0, none⟩ = some (.pointer (some ⟨fb, 0, none⟩)))) (by kernel_rfl) (by first | with_reducible exact HS.out | with_reducible exact hS3 | with_reducible exact hS4) (fun hHeld => ?_)
  refine tkP 0 ?_
  refine tkP 1 ?_
  refine tkP 2 ?_
  refine tkP 3 ?_
  refine tkP 4 ?_
  refine tkP 5 ?_
  refine rdH 6 fun K hK => ?_
  go_simp
  go_at_call 12; refine (Hname.out _ (Hhy.out.2.1.below Hbd.out)).mono ?_; rintro e w3 ⟨rfl, hb3⟩; have hb3' := Hbd.out.trans (hb3.mono Hbd.out.size); have hS3 := (cells4 (Hhy.out.1.below hb3').hd).1.1; rw [Hfb.out] at hS3
  refine hK.out _ _ (by (try dsimp only); first | with_reducible exact HS.out | with_reducible exact hS3 | with_reducible exact hS4) (fun hHeld => ?_)
  clear hK K
  try simp only [Act.put, qA, qB, qC]
  refine rdH 7 fun K hK => ?_
  go_simp
  go_at_call 57; refine (Hrd.out _ hb3').mono ?_; rintro e w4 ⟨v, rfl, hrow, hb4⟩; have hb4' := hb3'.trans (hb4.mono hb3'.size); have hS4 := (cells4 (Hhy.out.1.below hb4').hd).1.1; rw [Hfb.out] at hS4
  refine hK.out _ _ (by (try dsimp only); first | with_reducible exact HS.out | with_reducible exact hS3 | with_reducible exact hS4) (fun hHeld => ?_)
  clear hK K
  try simp only [Act.put, qA, qB, qC]
  refine tkP 8 ?_
  refine tkP 9 ?_
  refine tkP 10 ?_
  refine tkP 11 ?_
  refine tkP 12 ?_
  refine wpAnyH_done (by kernel_rfl) ?_ _
  refine NoPanic.normal ?_
  have hF4 := (((Hg1.out.drew).trans ((hb3.mono (Hg1.out).size).trans (hb4.mono (Nat.le_trans (Hg1.out).size hb3.size)))).block _ HF.out.2.2).trans HF.out.2.1
  have Hrb := Lib.hid (rdB_ofOwn hrow)
  obtain ⟨aa, ac, rfl⟩ := own_form0 hrow
  obtain ⟨⟨x0, x1, x2, x3, x4, x5, x6, x7⟩, y0, y1, y2, y3, y4, y5, y6, y7⟩ := cells8 hF4
  have HF4 := Lib.hid hF4
  have Hb4 := Lib.hid hb4'
  clear hb4 hb4' hrow hF4 hb3 hb3' hS3 hS4 hHeld
  by_cases h0 : re = 0
  ·subst h0
   have Hr2 : Hid (sfileD d id = fileD rb) := Lib.hid (by rw [Hr1.out, if_pos rfl])
   have hp := qparse_calls _ rb w4 Hrb.out (by have := Hsm.out; omega) (Hhy.out.2.2.1.below Hb4.out)
   have Hp := Lib.hid hp
   clear hp Hr1 x0 x1 x2 x3 x4 x5 x6 x7 y0 y1 y2 y3 y4 y5 y6 y7
   go_wp2_with fail
   refine (Hp.out).mono ?_; rintro e w5 ⟨vr, vb, vm, rfl, h1, h2, h3, hb5⟩
   have hF5 := (hb5.block _ (Array.getElem?_eq_some_iff.1 HF4.out).1).trans HF4.out
   obtain ⟨⟨fm, fk, fg⟩, hfr⟩ : ∃ f : FileD, (fileD rb).getD FileD.zero = f := ⟨_, rfl⟩
   obtain ⟨ok, hok⟩ : ∃ ok, (fileD rb).isSome = ok := ⟨_, rfl⟩
   rw [hfr] at h1 h2 h3
   dsimp only at h1 h2 h3
   obtain ⟨a1, c1, rfl⟩ := own_form0 h1
   obtain ⟨a2, c2, rfl⟩ := own_form0 h2
   obtain ⟨a3, c3, rfl⟩ := own_form0 h3
   rw [hfr, hok]
   have Hfo := Lib.hid (And.intro hfr hok)
   have hB5 := heap8 ⟨_, _, _, _, _, _, _, _, hF5⟩ (.int .i64 fm.id) (.int .i64 fm.parent) (.int .i64 fm.born) (.string (strL fm.frm)) (.slice a1 fm.rcpts.length c1) (.slice a2 fm.body.length c2) (.slice a3 fk.length c3) (.int .i64 (fg : Int))
   have hkW := fun x0 x1 x2 x3 x4 x5 x6 x7 => keeps8 w5 w.heap.size x0 x1 x2 x3 x4 x5 x6 x7
   have hsz := Hb4.out.size
   have hne : ∀ {v : Value} {e : TypeId} {sz n : Nat} {xs : List Value}, w5.ownsRow w4.heap.size e sz v n xs → ∀ k, v.ownBlock = some k → ¬ k = w.heap.size := fun h k e f => by
    have := (h.lt k e).1
    have := (Array.getElem?_eq_some_iff.1 HF4.out).1
    omega
   have n1 := own_mono (own_keeps h1 (hkW (.int .i64 fm.id) (.int .i64 fm.parent) (.int .i64 fm.born) (.string (strL fm.frm)) (.slice a1 fm.rcpts.length c1) (.slice a2 fm.body.length c2) (.slice a3 fk.length c3) (.int .i64 (fg : Int))) (hne h1)) hsz
   have n2 := own_mono (own_keeps h2 (hkW (.int .i64 fm.id) (.int .i64 fm.parent) (.int .i64 fm.born) (.string (strL fm.frm)) (.slice a1 fm.rcpts.length c1) (.slice a2 fm.body.length c2) (.slice a3 fk.length c3) (.int .i64 (fg : Int))) (hne h2)) hsz
   have n3 := own_mono (own_keeps h3 (hkW (.int .i64 fm.id) (.int .i64 fm.parent) (.int .i64 fm.born) (.string (strL fm.frm)) (.slice a1 fm.rcpts.length c1) (.slice a2 fm.body.length c2) (.slice a3 fk.length c3) (.int .i64 (fg : Int))) (hne h3)) hsz
   have hb5' := below8 (Hb4.out.trans (hb5.mono Hb4.out.size)) (Nat.le_refl _) (.int .i64 fm.id) (.int .i64 fm.parent) (.int .i64 fm.born) (.string (strL fm.frm)) (.slice a1 fm.rcpts.length c1) (.slice a2 fm.body.length c2) (.slice a3 fk.length c3) (.int .i64 (fg : Int))
   have HN := Lib.hid (And.intro hB5 (And.intro n1 (And.intro n2 (And.intro n3 hb5'))))
   obtain ⟨⟨x0, x1, x2, x3, x4, x5, x6, x7⟩, y0, y1, y2, y3, y4, y5, y6, y7⟩ := cells8 hF5
   clear hB5 n1 n2 n3 hb5' hkW hne h1 h2 h3 hb5 hF5 hfr hok hsz
   go_wp2
   refine bodyPost_ret (results_row_tmp rfl _ _ w.heap.size 43 _ (0, 0) _ rfl HN.out.1 Tryz.underlying43 rfl (by kernel_rfl)) rfl ?_
   rw [Hr2.out]
   refine ⟨.slice a1 fm.rcpts.length c1, .slice a2 fm.body.length c2, .slice a3 fk.length c3, ?_, ?_, ?_, ?_, HN.out.2.2.2.2⟩
   ·rw [Hfo.out.1, Hfo.out.2]; rfl
   ·rw [Hfo.out.1]; exact HN.out.2.1
   ·rw [Hfo.out.1]; exact HN.out.2.2.1
   ·rw [Hfo.out.1]; exact HN.out.2.2.2.1
  ·have h0' : (re == 0) = false := by simpa using h0
   have h0'' : (re != 0) = true := by simpa using h0
   have Hr2 : Hid (sfileD d id = none) := Lib.hid (by rw [Hr1.out, if_neg h0])
   clear h0 Hr1
   go_wp2
   have hB5 := heap8 ⟨_, _, _, _, _, _, _, _, HF4.out⟩ (.int .i64 0) (.int .i64 0) (.int .i64 0) (.string ⟨#[]⟩) (.slice none 0 0) (.slice none 0 0) (.slice none 0 0) (.int .i64 0)
   rw [Hr2.out]
   refine bodyPost_ret (results_row_tmp rfl _ _ w.heap.size 43 _ (0, 0) _ rfl hB5 Tryz.underlying43 rfl (by kernel_rfl)) rfl (fileRes_none rfl ?_)
   exact below8 Hb4.out (Nat.le_refl _) _ _ _ _ _ _ _ _
open Go.RowKit
def i1 (n : Nat) : List Value := [.int .i64 (n : Int)]
theorem i1_len (n : Nat) : (i1 n).length = 1 := rfl
abbrev RdI := RdL 1 i1
theorem RdI.at {w : World} {v : Value} {ls : List Nat} (h : RdI w v ls) {i l : Nat} (hl : ls[i]? = some l) :
 ∃ b off cap, v = .slice (some ⟨b, off, none⟩) ls.length cap ∧ b < w.heap.size ∧ w.cell? ⟨b, off + i, none⟩ = some (.int .i64 (l : Int)) := by
 obtain ⟨b, off, cap, h1, h2, h3⟩ := RdL.at h hl
 have := h3 0 _ rfl
 rw [Nat.mul_one, Nat.add_zero] at this
 exact ⟨b, off, cap, h1, h2, this⟩
set_option maxHeartbeats 4000000 in
theorem refInts_calls (v1 v2 : Value) (xs : List Nat) (w : World) (h1 : RdI w v1 xs) (h2 : RdI w v2 xs) :
 Calls Tryz.prog 20 #[v1, v2] w fun e w' => e = .returned (.bool true) ∧ Below w.heap.size w w' := by
 obtain ⟨a1, cap1, rfl, hl1, hc1⟩ := h1.form
 obtain ⟨a2, cap2, rfl, hl2, hc2⟩ := h2.form
 have H1 := Lib.hid h1
 have H2 := Lib.hid h2
 have hni : (xs.length : Int) ≤ 9223372036854775807 := by omega
 clear h1 h2
 go_enter Tryz.func20, Tryz.ntmps20
 go_wp2
 go_loopw [5] (fun i wr => ∃ j : Nat, j ≤ xs.length ∧ i = .int .i64 j ∧ Below w.heap.size w wr) (fun i _ => xs.length - (intOf i).toNat)
 case atStart => exact ⟨0, Nat.zero_le _, rfl, Below.refl _ _⟩
 case round =>
  obtain ⟨j, hj, rfl, hbw⟩ := hrel
  by_cases hlt : j < xs.length
  ·obtain ⟨x, hx⟩ : ∃ x, xs[j]? = some x := ⟨_, List.getElem?_eq_getElem hlt⟩
   obtain ⟨b1, o1, k1, e1, _, p1⟩ := RdI.at (H1.out.below (Nat.le_refl _) hbw) hx
   obtain ⟨b2, o2, k2, e2, _, p2⟩ := RdI.at (H2.out.below (Nat.le_refl _) hbw) hx
   cases e1
   simp only [Value.slice.injEq] at e2
   obtain ⟨rfl, _, rfl⟩ := e2
   have hj0 : (0 : Int) ≤ (j : Int) := by omega
   have hj1 : (j : Int) < (xs.length : Int) := by omega
   clear hx
   go_wp2
   go_quiet (fail)
   go_wp2
   go_roundw
   case rel => exact ⟨j + 1, by omega, by simp, below_drewN hbw _⟩
   case measure => simp [intOf] <;> omega
  ·have hjl : ¬ ((j : Int) < (xs.length : Int)) := by omega
   go_wp2
   go_ret
   exact ⟨rfl, hbw⟩
open Go.RowKit Go.Maps Go.Sort Go.Shelf
abbrev iv (n : Int) : Value := .int .i64 n
def listD (l : Wh) (q : UInt8) : List Int := ((l.filter (fun p => p.2 == q)).map (·.1)).mergeSort (fun x y => decide (x ≤ y))
def remL (l : Wh) (q : UInt8) (left : Lit → Bool) : List Int := (l.filter (fun p => left (.int .i64 p.1) && p.2 == q)).map (·.1)
theorem remL_all {l : Wh} {q : UInt8} {left : Lit → Bool} (h : ∀ p ∈ l, left (.int .i64 p.1) = true) : remL l q left = (l.filter (fun p => p.2 == q)).map (·.1) := by
 unfold remL
 rw [List.filter_congr (fun p hp => by rw [h p hp, Bool.true_and])]
theorem remL_none {l : Wh} {q : UInt8} {left : Lit → Bool} (h : ∀ k, left k = false) : remL l q left = [] := by
 unfold remL
 rw [List.filter_eq_nil_iff.2 (fun p _ => by rw [h]; simp)]; rfl
theorem remL_len {l : Wh} {q : UInt8} {left : Lit → Bool} : (remL l q left).length ≤ l.length := by
 unfold remL; rw [List.length_map]; exact List.length_filter_le _ _
theorem remL_cons {p : Int × UInt8} {l : Wh} {q : UInt8} {left : Lit → Bool} : remL (p :: l) q left = if (left (.int .i64 p.1) && p.2 == q) = true then p.1 :: remL l q left else remL l q left := by
 unfold remL
 rw [List.filter_cons]
 split <;> rfl
theorem remL_absent {x : Int} {q : UInt8} {left : Lit → Bool} : ∀ {l : Wh}, (∀ p ∈ l, p.1 ≠ x) → remL l q (fun z => left z && !z.sameKey (.int .i64 x)) = remL l q left
 | [], _ => rfl
 | p :: r, h => by
  have hp := h p (List.mem_cons_self ..)
  rw [remL_cons, remL_cons, remL_absent (fun p hp => h p (List.mem_cons_of_mem _ hp)), same_int, show (p.1 == x) = false by simpa using hp]
  simp
theorem remL_step {x : Int} {c q : UInt8} {left : Lit → Bool} (hl : left (.int .i64 x) = true) : ∀ {l : Wh}, l.Pairwise (fun p q => p.1 ≠ q.1) → (x, c) ∈ l →
 (remL l q left).Perm (if c = q then x :: remL l q (fun z => left z && !z.sameKey (.int .i64 x)) else remL l q (fun z => left z && !z.sameKey (.int .i64 x)))
 | p :: r, hk, h => by
  obtain ⟨h1, h2⟩ := List.pairwise_cons.1 hk
  rcases List.mem_cons.1 h with rfl | h
  ·have ha : remL r q (fun z => left z && !z.sameKey (.int .i64 x)) = remL r q left := remL_absent (fun p hp e => h1 p hp e.symm)
   have e1 : remL ((x, c) :: r) q (fun z => left z && !z.sameKey (.int .i64 x)) = remL r q left := by
    rw [remL_cons, ha]
    have : ((Lit.int .i64 x).sameKey (.int .i64 x)) = true := by rw [same_int]; simp
    rw [show ((left (.int .i64 (x, c).1) && !(Lit.int .i64 (x, c).1).sameKey (.int .i64 x)) && (x, c).2 == q) = false by show ((left (.int .i64 x) && !(Lit.int .i64 x).sameKey (.int .i64 x)) && c == q) = false; rw [this]; simp, if_neg (by simp)]
   rw [e1, remL_cons]
   show (if (left (.int .i64 x) && c == q) = true then x :: remL r q left else remL r q left).Perm _
   rw [hl, Bool.true_and]
   by_cases hc : c = q
   ·rw [if_pos (by simpa using hc), if_pos hc]
   ·rw [if_neg (by simpa using hc), if_neg hc]
  ·have hne : p.1 ≠ x := h1 _ h
   have ih := remL_step (q := q) hl h2 h
   rw [remL_cons, remL_cons]
   have e2 : ((left (.int .i64 p.1) && !(Lit.int .i64 p.1).sameKey (.int .i64 x)) && p.2 == q) = (left (.int .i64 p.1) && p.2 == q) := by
    rw [same_int, show (p.1 == x) = false by simpa using hne]; simp
   rw [e2]
   by_cases hb : (left (.int .i64 p.1) && p.2 == q) = true
   ·rw [if_pos hb, if_pos hb]
    by_cases hc : c = q
    ·rw [if_pos hc] at ih ⊢
     exact (ih.cons p.1).trans (List.Perm.swap _ _ _)
    ·rw [if_neg hc] at ih ⊢
     exact ih.cons p.1
   ·rw [if_neg hb, if_neg hb]; exact ih
theorem wh_apart {w : World} {b : Nat} {l : Wh} (h : WhAt w b l) : l.Pairwise (fun p q => p.1 ≠ q.1) := by
 obtain ⟨es, he, hp, _⟩ := World.ownsMap.entries h keyed_int
 unfold whD at he
 have he : l.map entW = es := by injection he
 rw [← he] at hp
 have := List.pairwise_map.1 hp
 exact this.imp (fun hne e => hne (by unfold entW; rw [e]))
theorem wh_mem {l : Wh} {n : Int} {x : UInt8} (h : l.look n = some x) : (n, x) ∈ l := by
 unfold Wh.look at h
 obtain ⟨p, hp, hx⟩ := Option.map_eq_some_iff.1 h
 have h1 := List.mem_of_find?_eq_some hp
 have h2 : (p.1 == n) = true := List.find?_some (p := fun q : Int × UInt8 => q.1 == n) hp
 obtain ⟨a, b⟩ := p
 have : a = n := by simpa using h2
 subst this; subst hx; exact h1
theorem sort_perm {a b : List Int} (h : a.Perm b) : a.mergeSort (fun x y => decide (x ≤ y)) = b.mergeSort (fun x y => decide (x ≤ y)) := by
 have ht : ∀ (x y z : Int), decide (x ≤ y) = true → decide (y ≤ z) = true → decide (x ≤ z) = true := fun x y z h1 h2 => by
  simp at h1 h2 ⊢; omega
 have hto : ∀ (x y : Int), (decide (x ≤ y) || decide (y ≤ x)) = true := fun x y => by simp; omega
 have s1 := List.pairwise_mergeSort ht hto a
 have s2 := List.pairwise_mergeSort ht hto b
 have hp : (a.mergeSort (fun x y => decide (x ≤ y))).Perm (b.mergeSort (fun x y => decide (x ≤ y))) := (List.mergeSort_perm _ _).trans (h.trans (List.mergeSort_perm _ _).symm)
 exact List.Perm.eq_of_pairwise (le := fun x y : Int => decide (x ≤ y) = true) (fun x y _ _ h1 h2 => by simp at h1 h2; omega) s1 s2 hp
abbrev i1' (n : Int) : List Value := [.int .i64 n]
theorem i1_len' (n : Int) : (i1' n).length = 1 := rfl
theorem iv_flat (l : List Int) : l.map iv = l.flatMap i1' := by
 induction l with
 | nil => rfl
 | cons a l ih => rw [List.map_cons, List.flatMap_cons, ih]; rfl
theorem infoInt' : (Tryz.prog.info? 3).map (fun i => (i.zero, i.size, i.bytes)) = some (some (.int .i64 0), 1, 8) := by kernel_rfl
theorem sortI_calls (v : Value) (zs : List Int) (base : Nat) (w : World) (h : w.ownsRow base 3 1 v zs.length (zs.map iv)) (hlen : zs.length ≤ 1000000000) :
 Calls Tryz.prog 59 #[v] w fun e w' => e = .returned (.tuple #[]) ∧ w'.ownsRow base 3 1 v zs.length ((zs.mergeSort (fun x y => decide (x ≤ y))).map iv) ∧ w.grownBy w' v.ownBlock := by
 obtain ⟨hl, h1 | ⟨g, cap, cur, rfl, hg, hb, hn, hcap, hsz, ht⟩⟩ := h
 ·obtain ⟨rfl, h2⟩ := h1
  have hz : zs = [] := by simpa using h2
  subst hz
  refine (Tryz.slices_Sort_int_none none 0 w).mono ?_
  rintro e w' ⟨rfl, rfl⟩
  refine ⟨rfl, ?_, World.grownBy.refl _ _⟩
  have e : ([] : List Int).mergeSort (fun x y => decide (x ≤ y)) = [] := by simp
  rw [e]; exact World.ownsRow_nil _ _ _ _
 ·rw [Nat.mul_one] at ht
  have hlt : g < w.heap.size := (Array.getElem?_eq_some_iff.1 hb).1
  refine (Tryz.slices_Sort_int g 0 cap zs w (holds_of_blockI hb ht) hlt (by omega)).mono ?_
  rintro e w' ⟨rfl, n, os, rfl⟩
  exact ⟨rfl, by have := ownsRow_sortedI (ss := zs) (ts := zs.mergeSort (fun x y => decide (x ≤ y))) (n := n) (os := os) (List.length_mergeSort _) hg hb hn hcap hsz; exact this, grownBy_sortedI _⟩
set_option maxHeartbeats 8000000 in
theorem slist_calls (s : Nat) (d : StoD) (ρ : Rho) (w : World) (h : StoAt w s d ρ) (q : UInt8) (hl : d.whr.length ≤ 100000) :
 Calls Tryz.prog 21 #[.pointer (some ⟨s, 0, none⟩), .int .u8 q.toNat] w fun e w' => ∃ v, e = .returned v ∧ w'.ownsRow w.heap.size 3 1 v (listD d.whr q).length ((listD d.whr q).map iv) ∧ Below w.heap.size w w' := by
 obtain ⟨i0, hi, hz0, hz1, hz2⟩ := info_parts infoInt'
 have c2 := (cells4 h.hd).1.2.2.1
 have hown : w.ownsMap Tryz.prog 3 (plainElem Tryz.prog 5) d.mb d.whr.length (whD d.whr) := h.whr
 have hap := wh_apart h.whr
 have hall : remL d.whr q (Maps.has (whD d.whr)) = (d.whr.filter (fun p => p.2 == q)).map (·.1) := remL_all (fun p hp => by
  rw [whD_has]
  unfold Wh.look
  rw [Option.isSome_map, List.find?_isSome]
  exact ⟨p, hp, by simp⟩)
 have Hall := Lib.hid hall
 have Hap := Lib.hid hap
 have H := Lib.hid h
 have hlen := fun left => (remL_len (l := d.whr) (q := q) (left := left))
 have Hlen := Lib.hid (And.intro hl hlen)
 have hmlt : d.mb < w.heap.size := h.whr.lt
 obtain ⟨wh, hwh⟩ : ∃ wh, d.whr = wh := ⟨_, rfl⟩
 obtain ⟨mb, hmb⟩ : ∃ mb, d.mb = mb := ⟨_, rfl⟩
 rw [hwh, hmb] at hown
 rw [hwh] at Hall Hap Hlen
 rw [hmb] at c2 hmlt
 rw [hwh]
 obtain ⟨qn, hqn⟩ : ∃ qn : Nat, q.toNat = qn := ⟨_, rfl⟩
 rw [hqn]
 have Hqn := Lib.hid hqn
 clear hqn
 clear hall hap hl h hlen hwh hmb
 go_enter Tryz.func21, Tryz.ntmps21
 go_wp2_with (at_range; go_loud (refine wpList_range_own _ rfl _ 110 rfl 3 5 keyed_int Tryz.underlying110 (plainElem Tryz.prog 5) mb wh.length (whD wh) rfl hown ?_; intro w0 hrg0 hg0 hs0))
 have hb0 : Below w.heap.size w w0 := (Below.refl _ _).grown hg0 (Nat.le_refl _) (fun j hj => by cases hj)
 go_frame
 obtain ⟨B, hB⟩ : ∃ B, w0.heap.size = B := ⟨_, rfl⟩
 have hBw : B = w.heap.size + 1 := by rw [← hB]; simpa using hs0
 have hnil : w0.ownsRow B 3 1 (.slice none 0 0) 0 [] := World.ownsRow_nil _ _ _ _
 clear hs0
 go_loopw [5, 6, 7] (fun v x y wr => ∃ left cnt, ∃ acc : List Int, wr.ranges Tryz.prog 3 (plainElem Tryz.prog 5) mb w.heap.size wh.length (whD wh) left cnt ∧ Hid ((acc ++ remL wh q left).Perm ((wh.filter (fun p => p.2 == q)).map (·.1))) ∧ wr.ownsRow B 3 1 v acc.length (acc.flatMap i1') ∧ Below w.heap.size w wr ∧ B ≤ wr.heap.size) (fun _ _ _ wr => wr.rangeLeft mb w.heap.size)
 case atStart =>
  exact ⟨_, _, [], hrg0, Lib.hid (by rw [List.nil_append, Hall.out]), hnil, hb0, by omega⟩
 case round =>
  obtain ⟨left, cnt, acc, hrg, hperm, hown, hbw, hBr⟩ := hrel
  have hal : acc.length ≤ 100000 := by
   have h1 := hperm.out.length_eq
   rw [List.length_append, List.length_map] at h1
   have h2 : (wh.filter (fun p => p.2 == q)).length ≤ wh.length := List.length_filter_le _ _
   have := Hlen.out.1
   omega
  obtain ⟨av, cv, rfl⟩ := own_form0 hown
  have hobase := own_base hown
  have Hown := Lib.hid hown
  clear hown
  go_wp2_with (at_next; go_loud (refine wpList_next_ranges_ii _ rfl _ rfl 3 5 .i64 .u8 keyed_int Tryz.underlying3 Tryz.underlying5 mb w.heap.size wh.length (whD wh) left cnt rfl hrg ?_ ?_))
  ·intro hc0 hl0
   have hfin : acc.Perm ((wh.filter (fun p => p.2 == q)).map (·.1)) := by have := hperm.out; rw [remL_none hl0, List.append_nil] at this; exact this
   have hsr := sortI_calls (.slice av acc.length cv) acc B wr (by rw [iv_flat]; exact Hown.out) (by omega)
   have hso := sort_perm hfin
   have Hsr := Lib.hid hsr
   have Hso := Lib.hid hso
   have hll := hfin.length_eq
   have hl2 : (listD wh q).length = acc.length := by unfold listD; rw [List.length_mergeSort, hll]
   have Hl2 := Lib.hid hl2
   clear hfin hc0 hl0 hrg hperm hsr hso hll hl2
   go_wp2_with fail
   refine (Hsr.out).mono ?_; rintro e w2 ⟨rfl, hown2, hg2⟩
   have hb2 : Below w.heap.size w w2 := hbw.grown hg2 hbw.size (fun k e => by have := hobase k e; omega)
   have Hown2 := Lib.hid hown2
   clear hown2 hg2
   go_wp2
   go_ret
   refine ⟨_, rfl, ?_, hb2⟩
   rw [Hl2.out]
   have := Hown2.out
   rw [Hso.out] at this
   exact own_mono this (by omega)
  ·intro x c w1 cnt1 hwx hwc hlk hat hrg1 hlt hg1 hs1 hen0
   have h0 := hat .nil
   have h1 := hat (.lit (.bool true))
   rw [whD_at] at h0 h1
   cases hlook : wh.look x with
   | none => rw [hlook] at h0 h1; rw [← h0] at h1; cases h1
   | some cq =>
    rw [hlook] at h0
    have hcx : c = (cq.toNat : Int) := by injection h0 with h0; injection h0 with _ h0; exact h0.symm
    subst hcx
    have hbw1 : Below w.heap.size w w1 := hbw.grown hg1 hbw.size (fun j hj => by cases hj; exact Nat.le_refl _)
    have hown1 : w1.ownsRow B 3 1 (.slice av acc.length cv) acc.length (acc.flatMap i1') := own_keeps Hown.out (Keeps.grown hg1) (fun k e f => by have := hobase k e; have : w.heap.size = k := Option.some.inj f; omega)
    have hstep := remL_step (q := q) (c := cq) hlk Hap.out (wh_mem hlook)
    have Hs := Lib.hid hstep
    have Hown1 := Lib.hid hown1
    have hen : (Instr.entry (.pointer (some ⟨w.heap.size, 0, none⟩))).run Tryz.prog w1 = .ok (.tuple #[.int .i64 x, .int .u8 (cq.toNat : Int)]) w1 := hen0
    clear hen0
    have hms : ∀ w9 : World, w9.ranges Tryz.prog 3 (plainElem Tryz.prog 5) mb w.heap.size wh.length (whD wh) (fun z => left z && !z.sameKey (.int .i64 x)) cnt1 → w9.rangeLeft mb w.heap.size < wr.rangeLeft mb w.heap.size := fun w9 h9 => by rw [h9.left_eq, hrg.left_eq]; exact hlt
    have Hms := Lib.hid hms
    have Hgs := Lib.hid hs1
    clear h0 h1 hat hlook hstep hown1 hlk hwc hrg hs1 hms hg1 hlt
    by_cases hcq : cq = q
    ·have hcn : (cq.toNat : Int) = (qn : Int) := by rw [hcq, Hqn.out]
     have Hs2 : Hid (((acc ++ [x]) ++ remL wh q (fun z => left z && !z.sameKey (.int .i64 x))).Perm ((wh.filter (fun p => p.2 == q)).map (·.1))) := Lib.hid (by
      have h1 := Hs.out; rw [if_pos hcq] at h1
      have h2 := (List.Perm.append_left acc h1).symm.trans hperm.out
      rw [List.append_assoc]; exact h2)
     rw [hcn] at hen ⊢
     have hncell := news_new w1 [.int .i64 x] 3 (0, 0)
     have hcs1 : ∀ u ∈ [Value.int .i64 x], u.oneCell' = true := by intro u hu; rw [List.mem_singleton.1 hu]; rfl
     have hbd1 : acc.length + 1 ≤ maxLen := by show _ ≤ 9223372036854775807; omega
     have hbd2 : (acc.length + 1) * 8 ≤ 140737488355328 := by omega
     have hBr1 : B ≤ w1.heap.size := by have := Hgs.out; omega
     have hbd3 : B ≤ (w1.alloc (.cells #[.int .i64 x] 3)).heap.size := by simp; omega
     have hownA : (w1.alloc (.cells #[.int .i64 x] 3)).ownsRow B 3 1 (.slice av acc.length cv) acc.length (acc.flatMap i1') := World.ownsRow.alloc Hown1.out _
     have hrgA := World.ranges.alloc hrg1 (.cells #[.int .i64 x] 3)
     have Hncell := Lib.hid hncell
     have Hcs1 := Lib.hid hcs1
     have HownA := Lib.hid hownA
     have HrgA := Lib.hid hrgA
     clear hncell hcs1 hownA hrgA Hs hperm hcq hrg1
     go_wp2_with (at_builtin; go_must (refine wpList_append_own _ rfl (.tmp 23) (.tmp 25) 47 rfl B 3 i0 _ 1 8 Tryz.underlying47 hi hz0 hz1 hz2 rfl (by decide) _ _ _ rfl HownA.out ⟨w1.heap.size, 0, none⟩ 1 1 [.int .i64 x] rfl rfl Hncell.out Hcs1.out hbd1 hbd2 hbd3 ?_); rintro v' w3 hown3 hg3 _)
     have hb3 := (hbw1.alloc hbw1.size (.cells #[.int .i64 x] 3)).grown hg3 (by have := hbw1.size; simp; omega) (fun k hk => by have := hobase k hk; omega)
     have hrg3 := World.ranges.kept HrgA.out hg3 (fun e => by have := hobase mb e.symm; omega) (fun e => by have := hobase _ e.symm; omega)
     have hsz3 := hg3.size
     have Hown3 := Lib.hid hown3
     have Hrg3 := Lib.hid hrg3
     clear hown3 hg3 hrg3
     go_wp2
     go_roundw
     case rel =>
      refine ⟨_, cnt1, acc ++ [x], Hrg3.out, Hs2, ?_, hb3, by simp at hsz3; omega⟩
      rw [List.length_append, List.flatMap_append, List.flatMap_singleton]
      exact Hown3.out
     case measure => exact Hms.out _ Hrg3.out
    ·have hne : ((cq.toNat : Int) == (qn : Int)) = false := by
      rw [beq_eq_false_iff_ne]; intro e; exact hcq (UInt8.toNat_inj.1 (by rw [Hqn.out]; omega))
     have Hs2 : Hid ((acc ++ remL wh q (fun z => left z && !z.sameKey (.int .i64 x))).Perm ((wh.filter (fun p => p.2 == q)).map (·.1))) := Lib.hid (by
      have h1 := Hs.out; rw [if_neg hcq] at h1
      exact (List.Perm.append_left acc h1).symm.trans hperm.out)
     obtain ⟨cn, hcn⟩ : ∃ cn : Nat, cq.toNat = cn := ⟨_, rfl⟩
     rw [hcn] at hen hne
     rw [hcn]
     have Hrg1 := Lib.hid hrg1
     clear hcn Hs hcq hperm hrg1
     go_wp2
     go_roundw
     case rel => exact ⟨_, cnt1, acc, Hrg1.out, Hs2, Hown1.out, hbw1, by have := Hgs.out; omega⟩
     case measure => exact Hms.out _ Hrg1.out
end Go.Proofs.YtffnbkmigapmjaaGreatDoor
