/-
  The walks of ids.more and ids.Next.
  The walk of store.parse.
  The walks of store.Where, ready, good.
-/
import Derived.Test.YtffnbkmigapmjaaGreatDoorT11
import Derived.Test.YtffnbkmigapmjaaGreatDoorT19
import Derived.Test.YtffnbkmigapmjaaGreatDoorT21
set_option linter.unusedSimpArgs false
set_option linter.unusedVariables false
set_option maxRecDepth 100000
namespace Go.Proofs.YtffnbkmigapmjaaGreatDoor
open Go.RowKit Go.Maps
theorem idsNameD_len (n : Int) : (idsNameD n).length ≤ 14 := by
 by_cases h : 0 ≤ n ∧ n ≤ 999999999
 ·rw [idsNameD_of h, List.length_append, numD_length (by omega)]; decide
 ·rw [idsNameD_nil h]; exact Nat.zero_le _
section
variable {w w' : World} {s : Nat} {d : StoD} {ρ : Rho}
theorem StoAt.ihead {d' : StoD} (h : StoAt w s d ρ) (hk : Keeps (fun k => k = d.ib) w w') (he : d' = { d with last := d'.last, bound := d'.bound, nfile := d'.nfile }) (hd : w'.heap[d.ib]? = some (.cells #[.pointer (some ⟨d.fb, 0, none⟩), .int .i64 d'.last, .int .i64 d'.bound, .string (strL d'.nfile)] 149 (0, 0))) : StoAt w' s d' ρ ∧ StoStep w s d ρ w' d' ρ := by
 rw [he]
 exact ⟨⟨h.fs.keeps hk (fun k e => by rw [e]; exact h.ri), hk.heap h.hd (fun e => h.si e), hd, whMap_keeps h.whr hk (fun e => h.im e.symm), h.rs, h.ri, h.rm⟩, ⟨hk.mono (fun k _ e => .inr (.inr (.inl e))), fun k e => .inl e⟩⟩
end
theorem toList_strL (l : List UInt8) : (strL l).toList = l := by
 rw [ByteArray.toList_eq]; exact strL_data l
def moreB (d : StoD) : Int := min (d.last + 16) 999999999
def MoreR (d : StoD) (er : Int) (d' : StoD) : Prop :=
 ∃ (x : FreshOf d.fs) (v lv : Value), ((createD d.fs (idsNameD (moreB d)) x.x v lv).1 ≠ 0 ∧ er = (createD d.fs (idsNameD (moreB d)) x.x v lv).1 ∧ d' = { d with fs := (createD d.fs (idsNameD (moreB d)) x.x v lv).2 }) ∨
  ((createD d.fs (idsNameD (moreB d)) x.x v lv).1 = 0 ∧ ∃ f1 ms f2 e2, f1 = (createD d.fs (idsNameD (moreB d)) x.x v lv).2 ∧ (e2, f2) = dirSyncD f1 ms ∧
    ((e2 ≠ 0 ∧ er = e2 ∧ d' = { d with fs := f2, bound := moreB d, nfile := idsNameD (moreB d) }) ∨
     (e2 = 0 ∧ d.nfile = [] ∧ er = 0 ∧ d' = { d with fs := f2, bound := moreB d, nfile := idsNameD (moreB d) }) ∨
     (e2 = 0 ∧ d.nfile ≠ [] ∧ ∃ v2 lv2, er = (unlinkD f2 d.nfile v2 lv2).1 ∧ d' = { d with fs := (unlinkD f2 d.nfile v2 lv2).2, bound := moreB d, nfile := idsNameD (moreB d) })))
structure MoreDone (w : World) (s : Nat) (d : StoD) (ρ : Rho) (e : Ending) (w' : World) (er : Int) (d' : StoD) (ρ' : Rho) : Prop where
 ret : e = .returned (.int .i64 er)
 out : MoreR d er d'
 at_ : StoAt w' s d' ρ'
 step : StoStep w s d ρ w' d' ρ'
 go : FsGo d.fs d'.fs 2
set_option maxHeartbeats 8000000 in
theorem more_calls (s : Nat) (d : StoD) (ρ : Rho) (w : World) (h : StoAt w s d ρ) (hok : FsOk d.fs) (hll : d.fs.loose.length ≤ 900000) (hg : GOk w) (hN : ∀ k, stoOwn s d ρ k → NG ≤ k) (hl : 0 ≤ d.last ∧ d.last ≤ 999999999) (hnf : d.nfile.length ≤ 1000) :
 Calls Tryz.prog 164 #[.pointer (some ⟨d.ib, 0, none⟩)] w fun e w' => ∃ er d' ρ', MoreDone w s d ρ e w' er d' ρ' := by
 obtain ⟨mb, hmo⟩ : ∃ mb, moreB d = mb := ⟨_, rfl⟩
 have hmb : 0 ≤ mb ∧ mb ≤ 999999999 := by rw [← hmo]; unfold moreB; omega
 have hmin : ∀ w, (Builtin.min_ #[3, 3] 3 #[.int .i64 (d.last + 16), .int .i64 999999999]).run Tryz.prog w = .ok (.int .i64 mb) w := by
  intro w
  have h1 : (if (999999999 : Int) < d.last + 16 then (999999999 : Int) else d.last + 16) = mb := by rw [← hmo]; unfold moreB; split <;> omega
  simp [Builtin.min_, Builtin.min2, go_sem, h1]
 have Hmo := Lib.hid hmo
 clear hmo
 obtain ⟨fs, fb, ib, mp, la, bo, nf, wh, dn⟩ := d
 dsimp only at hmin hok hll hl hnf
 obtain ⟨⟨c0, c1, c2, c3⟩, hfz⟩ := cells4 h.ids
 dsimp only at c0 c1 c2 c3 hfz ⊢
 have f2 := hfz 2
 have f3 := hfz 3
 have hwr : IntKind.i64.wrap (la + 16) = la + 16 := IntWalk.i64_in _ (by omega)
 have hwr' : wrap64 (la + 16) = la + 16 := IntWalk.wrap64_in _ (by omega)
 have hname := idsName_calls mb w (hg.int _)
 obtain ⟨nm, hnm⟩ : ∃ nm, idsNameD mb = nm := ⟨_, rfl⟩
 have hnl : nm.length ≤ 1000 := by rw [← hnm]; have := idsNameD_len mb; omega
 rw [hnm] at hname
 have Hname := Lib.hid hname
 have hcr : ∀ w1, Below w.heap.size w w1 → Calls Tryz.prog 15 #[.pointer (some ⟨fb, 0, none⟩), .string (strL nm)] w1 fun e w' => ∃ (x : FreshOf fs) (v lv : Value) (ρ' : Rho), FsDone fb ρ w1 e w' (createD fs nm x.x v lv).1 (createD fs nm x.x v lv).2 ρ' :=
  fun w1 hb => (create_calls' fb fs ρ nm w1 (h.fs.below hb) (by unfold maxLen; omega) hok.fuse (by omega)).mono fun e w' ⟨x, v, lv, ρ', a, b, c⟩ => ⟨x, v, lv, ρ', FsDone.mk a b c⟩
 have Hcr := Lib.hid hcr
 have H := Lib.hid h
 obtain ⟨ol, hol⟩ : ∃ ol, strL nf = ol := ⟨_, rfl⟩
 have Hol := Lib.hid hol
 rw [hol] at c3
 have Hnm := Lib.hid hnm
 have Hhy := Lib.hid (And.intro hok (And.intro hll (And.intro hnl hnf)))
 obtain ⟨tn, htn⟩ : ∃ tn, strL nm = tn := ⟨_, rfl⟩
 rw [htn] at Hname Hcr
 have Htn := Lib.hid htn
 have HN := Lib.hid hN
 clear hname hcr hg hN hl hfz hol hnm hok hll hnf hnl htn h hmb
 go_enter Tryz.func164, Tryz.ntmps164
 go_wp2_with fail
 refine (Hname.out).mono ?_; rintro e w1 ⟨rfl, hb1⟩
 have hst1 := StoStep.below (s := s) (d := ⟨fs, fb, ib, mp, la, bo, nf, wh, dn⟩) (ρ := ρ) hb1
 have HB1 := Lib.hid hb1
 have HSt1 := Lib.hid hst1
 have c0 := (cells4 (H.out.below hb1).ids).1.1
 dsimp only at c0
 clear hb1 c1 c2 c3 f2 f3 hst1
 go_wp2_with fail
 refine (Hcr.out w1 HB1.out).mono ?_; rintro e w2 ⟨x, v, lv, ρ2, rfl, hF2, hst2⟩
 obtain ⟨hS1, hS2⟩ := (H.out.below HB1.out).fsStep hF2 hst2
 obtain ⟨er, her⟩ : ∃ er, (createD fs nm x.x v lv).1 = er := ⟨_, rfl⟩
 obtain ⟨fs2, hfs2⟩ : ∃ fs2, (createD fs nm x.x v lv).2 = fs2 := ⟨_, rfl⟩
 have hg2 : FsGo fs fs2 1 := by rw [← hfs2]; exact create_go Hhy.out.1
 rw [hfs2] at hS1 hS2
 rw [her]
 dsimp only at hS1 hS2
 have hS2 := HSt1.out.trans hS2
 have HS := Lib.hid (And.intro hS1 (And.intro hS2 (And.intro hg2 (And.intro her hfs2))))
 obtain ⟨⟨c0', c1', c2, c3⟩, hfz'⟩ := cells4 hS1.ids
 have f2 := hfz' 2
 have f3 := hfz' 3
 dsimp only at c0' c1' c2 c3 f2 f3
 rw [Hol.out] at c3
 clear hfz' hg2 hS1 hS2 her hfs2 hF2 hst2 c0 c1' c0'
 by_cases h0 : er = 0
 ·have Hfin : Hid (∀ w3, (w2.setCell ⟨ib, 3, none⟩ (.string tn)).setCell ⟨ib, 2, none⟩ (.int .i64 mb) = w3 → StoAt w3 s ⟨fs2, fb, ib, mp, la, mb, nm, wh, dn⟩ ρ2 ∧ StoStep w s ⟨fs, fb, ib, mp, la, bo, nf, wh, dn⟩ ρ w3 ⟨fs2, fb, ib, mp, la, mb, nm, wh, dn⟩ ρ2) := Lib.hid (by
   intro w3 hw3
   obtain ⟨p1, p2, p3, p4, p5⟩ := HS.out
   have hk : Keeps (fun k => k = ib) w2 w3 := by rw [← hw3]; exact (Keeps.setCell (F := fun k => k = ib) _ ⟨ib, 3, none⟩ _ rfl).trans (Keeps.setCell (F := fun k => k = ib) _ ⟨ib, 2, none⟩ _ rfl)
   have e1 := Go.heap_setCell_same w2 ib 3 _ _ (.string tn) p1.ids
   have e2 := Go.heap_setCell_same _ ib 2 _ _ (.int .i64 mb) e1
   rw [hw3, ← Htn.out] at e2
   obtain ⟨q1, q2⟩ := p1.ihead (d' := ⟨fs2, fb, ib, mp, la, mb, nm, wh, dn⟩) hk rfl e2
   exact ⟨q1, p2.trans q2⟩)
  subst h0
  obtain ⟨w3, hw3⟩ : ∃ w3, (w2.setCell ⟨ib, 3, none⟩ (.string tn)).setCell ⟨ib, 2, none⟩ (.int .i64 mb) = w3 := ⟨_, rfl⟩
  obtain ⟨hA3, hT3⟩ := Hfin.out w3 hw3
  have c0 := (cells4 hA3.ids).1.1
  dsimp only at c0
  have hds := (dirSync_calls fb fs2 ρ2 w3 hA3.fs HS.out.2.2.1.1.fuse).mono fun e w' ⟨ms, ρ', a, b, c⟩ => (⟨ms, ρ', FsDone.mk a b c⟩ : ∃ ms ρ', FsDone fb ρ2 w3 e w' (dirSyncD fs2 ms).1 (dirSyncD fs2 ms).2 ρ')
  have Hds := Lib.hid hds
  have H3 := Lib.hid (And.intro hA3 hT3)
  clear hds hA3 hT3 Hfin
  go_wp2_with fail
  refine (Hds.out).mono ?_; rintro e w4 ⟨ms, ρ4, rfl, hF4, hst4⟩
  obtain ⟨hS4, hT4⟩ := H3.out.1.fsStep hF4 hst4
  obtain ⟨e2, he2⟩ : ∃ e2, (dirSyncD fs2 ms).1 = e2 := ⟨_, rfl⟩
  obtain ⟨fs4, hfs4⟩ : ∃ fs4, (dirSyncD fs2 ms).2 = fs4 := ⟨_, rfl⟩
  have hg4 : FsGo fs fs4 1 := by rw [← hfs4]; exact HS.out.2.2.1.trans (dirSync_go HS.out.2.2.1.1)
  rw [hfs4] at hS4 hT4
  rw [he2]
  dsimp only at hS4 hT4
  have hT4 := H3.out.2.trans hT4
  have HP := Lib.hid (show (e2, fs4) = dirSyncD fs2 ms by rw [← he2, ← hfs4])
  have H4 := Lib.hid (And.intro hS4 (And.intro hT4 hg4))
  have c0 := (cells4 hS4.ids).1.1
  dsimp only at c0
  clear hS4 hT4 hg4 he2 hfs4 hF4 hst4
  have hfin : ∀ er d', ((e2 ≠ 0 ∧ er = e2 ∧ d' = (⟨fs4, fb, ib, mp, la, mb, nm, wh, dn⟩ : StoD)) ∨ (e2 = 0 ∧ nf = [] ∧ er = 0 ∧ d' = (⟨fs4, fb, ib, mp, la, mb, nm, wh, dn⟩ : StoD)) ∨ (e2 = 0 ∧ nf ≠ [] ∧ ∃ v2 lv2, er = (unlinkD fs4 nf v2 lv2).1 ∧ d' = (⟨(unlinkD fs4 nf v2 lv2).2, fb, ib, mp, la, mb, nm, wh, dn⟩ : StoD))) → MoreR ⟨fs, fb, ib, mp, la, bo, nf, wh, dn⟩ er d' := by
   intro er d' hc
   obtain ⟨p1, p2, p3, p4, p5⟩ := HS.out
   refine ⟨x, v, lv, .inr ?_⟩
   rw [Hmo.out, Hnm.out]
   exact ⟨p4, fs2, ms, fs4, e2, p5.symm, HP.out, hc⟩
  have HF := Lib.hid hfin
  clear hfin
  by_cases h2 : e2 = 0
  ·subst h2
   by_cases hnf : nf = []
   ·have hE : (ol.toList == ([] : List UInt8)) = true := by rw [← Hol.out, hnf, toList_strL]; rfl
    have hE' : ol.toList.isEmpty = true := by rw [← Hol.out, hnf, toList_strL]; rfl
    have Hnf := Lib.hid hnf
    clear hnf
    go_wp2
    go_ret
    exact ⟨0, _, ρ4, rfl, HF.out _ _ (.inr (.inl ⟨by first | exact rfl | exact trivial, Hnf.out, rfl, rfl⟩)), H4.out.1, H4.out.2.1, H4.out.2.2.mono (by omega)⟩
   ·have hol2 : ol.toList ≠ [] := fun e => hnf (by
     have h5 : ol = strL [] := (Lib.bytes_beq_iff _ _).1 (by rw [e, toList_strL]; rfl)
     exact strL_inj (Hol.out.trans h5))
    have hE : (ol.toList == ([] : List UInt8)) = false := by simpa using hol2
    have hE' : ol.toList.isEmpty = false := by simpa using hol2
    have Hnf := Lib.hid hnf
    have hul := (unlink_calls fb fs4 ρ4 nf w4 H4.out.1.fs (by have := Hhy.out.2.2.2; unfold maxLen; omega) H4.out.2.2.1.fuse H4.out.2.2.1.n (by have := H4.out.2.2.2; have := Hhy.out.2.1; omega)).mono fun e w' ⟨v, lv, ρ', a, b, c⟩ => (⟨v, lv, ρ', FsDone.mk a b c⟩ : ∃ v lv ρ', FsDone fb ρ4 w4 e w' (unlinkD fs4 nf v lv).1 (unlinkD fs4 nf v lv).2 ρ')
    rw [Hol.out] at hul
    have Hul := Lib.hid hul
    clear hul hnf hol2
    go_wp2_with fail
    refine (Hul.out).mono ?_; rintro e w5 ⟨v2, lv2, ρ5, rfl, hF5, hst5⟩
    obtain ⟨hS5, hT5⟩ := H4.out.1.fsStep hF5 hst5
    have H5 := Lib.hid (And.intro hS5 (H4.out.2.1.trans hT5))
    have HG := Lib.hid (H4.out.2.2.trans (unlink_go (n := nf) (v := v2) (lv := lv2) H4.out.2.2.1))
    obtain ⟨eu, heu⟩ : ∃ eu, (unlinkD fs4 nf v2 lv2).1 = eu := ⟨_, rfl⟩
    have Heu := Lib.hid heu
    rw [heu]
    clear hS5 hT5 hF5 hst5 heu
    go_wp2
    go_ret
    exact ⟨eu, _, ρ5, rfl, HF.out _ _ (.inr (.inr ⟨by first | exact rfl | exact trivial, Hnf.out, v2, lv2, Heu.out.symm, rfl⟩)), H5.out.1, H5.out.2, HG.out⟩
  ·have h2' : (e2 != 0) = true := by simpa using h2
   have Hn2 := Lib.hid h2
   clear h2
   go_wp2
   go_ret
   exact ⟨e2, _, ρ4, rfl, HF.out _ _ (.inl ⟨Hn2.out, rfl, rfl⟩), H4.out.1, H4.out.2.1, H4.out.2.2.mono (by omega)⟩
 ·have h0' : (er != 0) = true := by simpa using h0
  go_wp2
  go_ret
  obtain ⟨p1, p2, p3, p4, p5⟩ := HS.out
  refine ⟨er, ⟨fs2, fb, ib, mp, la, bo, nf, wh, dn⟩, ρ2, rfl, ⟨x, v, lv, .inl ?_⟩, p1, p2, p3.mono (by omega)⟩
  rw [Hmo.out, Hnm.out, p4, p5]
  exact ⟨h0, rfl, rfl⟩
theorem MoreR.same {d d' : StoD} {er : Int} (h : MoreR d er d') : d'.fb = d.fb ∧ d'.ib = d.ib ∧ d'.mb = d.mb ∧ d'.last = d.last ∧ d'.whr = d.whr ∧ d'.down = d.down := by
 obtain ⟨x, v, lv, ⟨_, _, rfl⟩ | ⟨_, f1, ms, f2, e2, _, _, ⟨_, _, rfl⟩ | ⟨_, _, _, rfl⟩ | ⟨_, _, v2, lv2, _, rfl⟩⟩⟩ := h <;> exact ⟨rfl, rfl, rfl, rfl, rfl, rfl⟩
def NextR (d : StoD) (er id : Int) (d' : StoD) : Prop :=
 (d.fs.down = true ∧ er = 2 ∧ id = 0 ∧ d' = d) ∨ (d.fs.down = false ∧ d.last = 999999999 ∧ er = 3 ∧ id = 0 ∧ d' = d) ∨
 (d.fs.down = false ∧ d.last ≠ 999999999 ∧ d.bound ≤ d.last ∧ ∃ e1 d1, MoreR d e1 d1 ∧ ((e1 ≠ 0 ∧ er = e1 ∧ id = 0 ∧ d' = d1) ∨ (e1 = 0 ∧ er = 0 ∧ id = d.last + 1 ∧ d' = { d1 with last := d.last + 1 }))) ∨
 (d.fs.down = false ∧ d.last ≠ 999999999 ∧ d.last < d.bound ∧ er = 0 ∧ id = d.last + 1 ∧ d' = { d with last := d.last + 1 })
structure NextDone (w : World) (s : Nat) (d : StoD) (ρ : Rho) (e : Ending) (w' : World) (er id : Int) (d' : StoD) (ρ' : Rho) : Prop where
 ret : e = .returned (.tuple #[.int .i64 id, .int .i64 er])
 out : NextR d er id d'
 at_ : StoAt w' s d' ρ'
 step : StoStep w s d ρ w' d' ρ'
 go : FsGo d.fs d'.fs 2
set_option maxHeartbeats 8000000 in
theorem next_calls (s : Nat) (d : StoD) (ρ : Rho) (w : World) (h : StoAt w s d ρ) (hok : FsOk d.fs) (hll : d.fs.loose.length ≤ 900000) (hg : GOk w) (hN : ∀ k, stoOwn s d ρ k → NG ≤ k) (hl : 0 ≤ d.last ∧ d.last ≤ 999999999) (hnf : d.nfile.length ≤ 1000) :
 Calls Tryz.prog 113 #[.pointer (some ⟨d.ib, 0, none⟩)] w fun e w' => ∃ er id d' ρ', NextDone w s d ρ e w' er id d' ρ' := by
 have hdown := down_calls d.fb d.fs ρ w h.fs
 have hb0 : Below w.heap.size w w.drew := (Below.refl _ _).drew
 have hmore := more_calls s d ρ w.drew (h.below hb0) hok hll (hg.below hb0) hN hl hnf
 obtain ⟨⟨c0, c1, c2, c3⟩, hfz⟩ := cells4 h.ids
 have f1 := hfz 1
 have H := Lib.hid h
 have Hk := Lib.hid hok
 clear hfz c3 hg hN hnf hll h hok hb0
 obtain ⟨fs, fb, ib, mp, la, bo, nf, wh, dn⟩ := d
 dsimp only at c0 c1 c2 f1 hdown hmore hl ⊢
 cases hdn : fs.down with
 | true =>
  rw [hdn] at hdown
  have Hd := Lib.hid hdown
  have Hdn := Lib.hid hdn
  clear hdown hmore hdn
  go_enter Tryz.func113, Tryz.ntmps113
  go_wp2_with fail
  refine (Hd.out).mono ?_; rintro e w1 ⟨rfl, hw1⟩; have hw1 := hw1.symm; subst hw1
  go_wp2
  go_ret2
  exact ⟨2, 0, _, ρ, rfl, .inl ⟨Hdn.out, rfl, rfl, rfl⟩, H.out, StoStep.refl _ _ _ _, (FsGo.refl Hk.out).mono (by omega)⟩
 | false =>
  rw [hdn] at hdown
  have Hd := Lib.hid hdown
  have Hdn := Lib.hid hdn
  clear hdown hdn
  by_cases hmx : la = 999999999
  ·have Hmx := Lib.hid hmx
   have hE : (la == 999999999) = true := by simpa using hmx
   clear hmore hmx
   go_enter Tryz.func113, Tryz.ntmps113
   go_wp2_with fail
   refine (Hd.out).mono ?_; rintro e w1 ⟨rfl, hw1⟩; have hw1 := hw1.symm; subst hw1
   go_wp2
   go_ret2
   exact ⟨3, 0, _, ρ, rfl, .inr (.inl ⟨Hdn.out, Hmx.out, rfl, rfl, rfl⟩), H.out, StoStep.refl _ _ _ _, (FsGo.refl Hk.out).mono (by omega)⟩
  ·have hE : (la == 999999999) = false := by simpa using hmx
   have hw1 : IntKind.i64.wrap (la + 1) = la + 1 := IntWalk.i64_in _ (by omega)
   have hw2 : wrap64 (la + 1) = la + 1 := IntWalk.wrap64_in _ (by omega)
   have Hmx := Lib.hid hmx
   clear hmx
   have hset : ∀ (w2 : World) (d2 : StoD) (ρ2 : Rho), StoAt w2 s d2 ρ2 → StoStep w s ⟨fs, fb, ib, mp, la, bo, nf, wh, dn⟩ ρ w2 d2 ρ2 → d2.ib = ib → d2.last = la → StoAt (w2.setCell ⟨ib, 1, none⟩ (.int .i64 (la + 1))) s { d2 with last := la + 1 } ρ2 ∧ StoStep w s ⟨fs, fb, ib, mp, la, bo, nf, wh, dn⟩ ρ (w2.setCell ⟨ib, 1, none⟩ (.int .i64 (la + 1))) { d2 with last := la + 1 } ρ2 := by
    intro w2 d2 ρ2 hA hT hi hl
    have hk : Keeps (fun k => k = d2.ib) w2 (w2.setCell ⟨ib, 1, none⟩ (.int .i64 (la + 1))) := Keeps.setCell _ _ _ hi.symm
    have e1 := Go.heap_setCell_same w2 d2.ib 1 _ _ (.int .i64 (la + 1)) hA.ids
    rw [hi] at e1
    obtain ⟨q1, q2⟩ := hA.ihead (d' := { d2 with last := la + 1 }) hk rfl (by rw [hi]; exact e1)
    exact ⟨q1, hT.trans q2⟩
   have Hset := Lib.hid hset
   clear hset
   by_cases hlb : la < bo
   ·have Hlb := Lib.hid hlb
    have hge : ¬ (bo ≤ la) := by omega
    clear hmore
    go_enter Tryz.func113, Tryz.ntmps113
    go_wp2_with fail
    refine (Hd.out).mono ?_; rintro e w1 ⟨rfl, hw1⟩; have hw1 := hw1.symm; subst hw1
    go_wp2
    go_region
    all_goals
     go_wp2
     go_ret2
     obtain ⟨q1, q2⟩ := Hset.out w.drew _ ρ (H.out.below (Below.refl _ _).drew) (StoStep.below (Below.refl _ _).drew) rfl rfl
     exact ⟨0, la + 1, _, ρ, rfl, .inr (.inr (.inr ⟨Hdn.out, Hmx.out, Hlb.out, rfl, rfl, rfl⟩)), q1, q2, (FsGo.refl Hk.out).mono (by omega)⟩
   ·have hge : bo ≤ la := by omega
    have Hge := Lib.hid hge
    have Hm := Lib.hid hmore
    clear hmore
    go_enter Tryz.func113, Tryz.ntmps113
    go_wp2_with fail
    refine (Hd.out).mono ?_; rintro e w1 ⟨rfl, hw1⟩; have hw1 := hw1.symm; subst hw1
    go_wp2
    go_region
    all_goals
     go_wp2_with fail
     refine (Hm.out).mono ?_; rintro e w2 ⟨er, d2, ρ2, rfl, hout, hA, hT, hgo⟩
     have hT' := (StoStep.below (s := s) (d := (⟨fs, fb, ib, mp, la, bo, nf, wh, dn⟩ : StoD)) (ρ := ρ) (Below.refl w.heap.size w).drew).trans hT
     obtain ⟨e1, e2, e3, e4, e5, e6⟩ := hout.same
     dsimp only at e1 e2 e3 e4 e5 e6
     have hids := hA.ids
     rw [e2, e4] at hids
     have c1' := (cells4 hids).1.2.1
     have f1' := (cells4 hids).2 1
     have HA := Lib.hid (And.intro hA (And.intro hT' (And.intro hgo (And.intro hout (And.intro e2 e4)))))
     clear hA hT hT' hgo hout e1 e2 e3 e4 e5 e6 hids c0 c1 c2 f1
     by_cases h0 : er = 0
     ·subst h0
      go_wp2
      go_ret2
      obtain ⟨p1, p2, p3, p4, p5, p6⟩ := HA.out
      obtain ⟨q1, q2⟩ := Hset.out w2 d2 ρ2 p1 p2 p5 p6
      exact ⟨0, la + 1, _, ρ2, rfl, .inr (.inr (.inl ⟨Hdn.out, Hmx.out, Hge.out, 0, d2, p4, .inr ⟨by first | exact rfl | exact trivial, rfl, rfl, rfl⟩⟩)), q1, q2, p3⟩
     ·have h0' : (er != 0) = true := by simpa using h0
      have Hn0 := Lib.hid h0
      clear h0
      go_wp2
      go_ret2
      obtain ⟨p1, p2, p3, p4, p5, p6⟩ := HA.out
      exact ⟨er, 0, d2, ρ2, rfl, .inr (.inr (.inl ⟨Hdn.out, Hmx.out, Hge.out, er, d2, p4, .inl ⟨Hn0.out, rfl, rfl, rfl⟩⟩)), p1, p2, p3⟩
end Go.Proofs.YtffnbkmigapmjaaGreatDoor
set_option maxRecDepth 100000
namespace Go.Proofs.YtffnbkmigapmjaaGreatDoor
open Go.RowKit Go.Maps
def StoOf (s : Nm) (q : UInt8) (n : Int) : Prop := allQ.contains q = true ∧ 1 ≤ n ∧ n ≤ 999999999 ∧ s = nameD q n
theorem nameD_of {q : UInt8} {n : Int} (h0 : allQ.contains q = true) (h1 : 1 ≤ n) (h2 : n ≤ 999999999) : nameD q n = [q, 45] ++ numD n.toNat := by unfold nameD; rw [if_pos ⟨h0, h1, h2⟩]
theorem StoOf.inj {s : Nm} {q r : UInt8} {n m : Int} (h : StoOf s q n) (g : StoOf s r m) : q = r ∧ n = m := by
 obtain ⟨a0, a1, a2, a3⟩ := h
 obtain ⟨b0, b1, b2, b3⟩ := g
 rw [a3, nameD_of a0 a1 a2, nameD_of b0 b1 b2] at b3
 injection b3 with c1 c2
 injection c2 with _ c2
 have := numD_inj c2
 exact ⟨c1, by omega⟩
theorem StoOf.len {s : Nm} {q : UInt8} {n : Int} (h : StoOf s q n) : s.length = 11 := by
 obtain ⟨a0, a1, a2, a3⟩ := h
 rw [a3, nameD_of a0 a1 a2, List.length_append, numD_length (by omega)]; rfl
def ParseDone (s : Nm) (w : World) (e : Ending) (w' : World) : Prop := ∃ (q : UInt8) (n : Int) (b : Bool), e = .returned (.tuple #[.int .u8 q.toNat, .int .i64 n, .bool b]) ∧ (b = true → StoOf s q n) ∧ (b = false → ∀ r m, ¬ StoOf s r m) ∧ Below w.heap.size w w'
set_option maxHeartbeats 8000000 in
theorem parse_calls (s : Nm) (hs : s.length ≤ 1000) (w : World) (hg : GOk w) :
 Calls Tryz.prog 99 #[.string (strL s)] w (ParseDone s w) := by
 by_cases hl : s.length = 11
 ·obtain ⟨q, c, ds, rfl, hd⟩ : ∃ q c ds, s = q :: c :: ds ∧ ds.length = 9 := by
   match s, hl with
   | q :: c :: ds, hl => exact ⟨q, c, ds, rfl, by simpa using hl⟩
  obtain ⟨t, ht⟩ : ∃ t, strL (q :: c :: ds) = t := ⟨_, rfl⟩
  obtain ⟨u, hu⟩ : ∃ u, strL ds = u := ⟨_, rfl⟩
  have hsz : t.size = 11 := by rw [← ht, strL_size]; exact hl
  have hsz' : (t.size : Int) = 11 := by omega
  have hex : t.extract 2 t.size = u := by
   rw [← hu, ← strL_of (t.extract 2 t.size), Lib.extract_to_end, ← ht, strL_data]; rfl
  have hex' : t.extract 2 11 = u := by rw [← hex, hsz]
  have hat := atoi_calls ds (by omega) w hg
  rw [hu] at hat
  rw [ht]
  have Hat := Lib.hid hat
  have Ht := Lib.hid ht
  have Hu := Lib.hid hu
  have Hg := Lib.hid hg
  have Hd := Lib.hid hd
  clear hat ht hu hg hd hl hs
  go_enter Tryz.func99, Tryz.ntmps99
  go_wp2_with fail
  refine (Hat.out).mono ?_; rintro e w1 ⟨n, ev, rfl, hn, hb⟩
  have hev : ev = .nilIface ∨ ∃ t p, ev = .iface t p := by
   rcases hn with ⟨_, e⟩ | ⟨_, e⟩
   ·exact .inl e
   ·exact .inr e
  have Hb := Lib.hid hb
  have Hn := Lib.hid hn
  have hidx : t[0]'(by omega) = q := by
   have := Ht.out
   subst this; rfl
  clear hn hb
  rcases hev with rfl | ⟨tt, p, rfl⟩
  ·have hok : Lib.atoiAll ds = .ok n := by
    rcases Hn.out with ⟨h, _⟩ | ⟨_, _, _, h⟩
    ·exact h
    ·cases h
   have hnm := fun w' (hg : GOk w') => name_calls q n w' (hg.int n)
   obtain ⟨m, hm⟩ : ∃ m, strL (nameD q n) = m := ⟨_, rfl⟩
   rw [hm] at hnm
   have Hnm := Lib.hid hnm
   have hin : ∀ r k, StoOf (q :: c :: ds) r k → r = q ∧ k = n := by
    intro r k h
    obtain ⟨a0, a1, a2, a3⟩ := h
    rw [nameD_of a0 a1 a2] at a3
    injection a3 with c1 c2
    injection c2 with _ c2
    have c2 : ds = numD k.toNat := c2
    rw [c2, atoi_numD (by omega)] at hok
    injection hok with hok
    exact ⟨c1.symm, by omega⟩
   by_cases heq : m = t
   ·have hE : (m.toList == t.toList) = true := (Lib.bytes_beq_iff _ _).2 heq
    have Hy : Hid (StoOf (q :: c :: ds) q n) := Lib.hid (by
     have e1 : nameD q n = q :: c :: ds := strL_inj (by rw [hm, Ht.out, heq])
     unfold nameD at e1
     split at e1
     ·rename_i h1
      refine ⟨h1.1, h1.2.1, h1.2.2, ?_⟩
      rw [nameD_of h1.1 h1.2.1 h1.2.2]; exact e1.symm
     ·cases e1)
    clear hnm hm hok hin heq
    have hb1d := (Hb.out).drew
    have HS : Hid ((fun w' => Hid (Below w.heap.size w w')) w1.drew) := Lib.hid (Lib.hid hb1d)
    go_upto_region 4 with fail
    refine wp_region_noPanic ?_
    refine wp_region_held_drew (S := (fun w' => Hid (Below w.heap.size w w'))) (by kernel_rfl) (by first | with_reducible exact HS.out | exact Lib.hid (by with_reducible assumption)) (fun hHeld => ?_)
    refine tkH 0 ?_
    try simp only [Act.put, List.setIfInBounds_toArray, List.set_cons_zero, List.set_cons_succ]
    refine tkH 1 ?_
    try simp only [Act.put, List.setIfInBounds_toArray, List.set_cons_zero, List.set_cons_succ]
    refine tkH 2 ?_
    try simp only [Act.put, List.setIfInBounds_toArray, List.set_cons_zero, List.set_cons_succ]
    refine tkH 3 ?_
    try simp only [Act.put, List.setIfInBounds_toArray, List.set_cons_zero, List.set_cons_succ]
    refine tkH 4 ?_
    try simp only [Act.put, List.setIfInBounds_toArray, List.set_cons_zero, List.set_cons_succ]
    refine tkH 5 ?_
    try simp only [Act.put, List.setIfInBounds_toArray, List.set_cons_zero, List.set_cons_succ]
    refine tkH 6 ?_
    try simp only [Act.put, List.setIfInBounds_toArray, List.set_cons_zero, List.set_cons_succ]
    refine tkH 7 ?_
    try simp only [Act.put, List.setIfInBounds_toArray, List.set_cons_zero, List.set_cons_succ]
    refine tkH 8 ?_
    try simp only [Act.put, List.setIfInBounds_toArray, List.set_cons_zero, List.set_cons_succ]
    refine tkH 10 ?_
    try simp only [Act.put, List.setIfInBounds_toArray, List.set_cons_zero, List.set_cons_succ]
    refine rdH 9 fun K hK => ?_
    go_simp
    go_at_call 12; refine (Hnm.out w1.drew (Hg.out.below hb1d)).mono ?_; rintro e w2 ⟨rfl, hb2⟩; have hb12 := hb1d.trans (hb2.mono hb1d.size)
    refine hK.out _ _ (by (try dsimp only); first | with_reducible exact HS.out | exact Lib.hid (by with_reducible assumption)) (fun hHeld => ?_)
    clear hK K
    try simp only [Act.put, List.setIfInBounds_toArray, List.set_cons_zero, List.set_cons_succ]
    refine tkH 11 ?_
    try simp only [Act.put, List.setIfInBounds_toArray, List.set_cons_zero, List.set_cons_succ]
    refine tkH 12 ?_
    try simp only [Act.put, List.setIfInBounds_toArray, List.set_cons_zero, List.set_cons_succ]
    refine tkH 13 ?_
    try simp only [Act.put, List.setIfInBounds_toArray, List.set_cons_zero, List.set_cons_succ]
    refine tkH 14 ?_
    try simp only [Act.put, List.setIfInBounds_toArray, List.set_cons_zero, List.set_cons_succ]
    refine tkH 15 ?_
    try simp only [Act.put, List.setIfInBounds_toArray, List.set_cons_zero, List.set_cons_succ]
    refine wpAnyH_done (by kernel_rfl) ?_ _
    refine NoPanic.normal ?_
    go_wp2
    go_ret3
    exact ⟨q, n, true, rfl, (fun _ => Hy.out), (fun e => by cases e), hb12⟩
   ·have hE : (m.toList == t.toList) = false := (Lib.bytes_beq_false_iff _ _).2 heq
    have Hno : Hid (∀ r k, ¬ StoOf (q :: c :: ds) r k) := Lib.hid (fun r k h => heq (by
     obtain ⟨h1, h2⟩ := hin r k h
     subst h1; subst h2
     rw [← hm, ← Ht.out, h.2.2.2]))
    clear hnm hm hok hin heq
    have hb1d := (Hb.out).drew
    have HS : Hid ((fun w' => Hid (Below w.heap.size w w')) w1.drew) := Lib.hid (Lib.hid hb1d)
    go_upto_region 4 with fail
    refine wp_region_noPanic ?_
    refine wp_region_held_drew (S := (fun w' => Hid (Below w.heap.size w w'))) (by kernel_rfl) (by first | with_reducible exact HS.out | exact Lib.hid (by with_reducible assumption)) (fun hHeld => ?_)
    refine tkH 0 ?_
    try simp only [Act.put, List.setIfInBounds_toArray, List.set_cons_zero, List.set_cons_succ]
    refine tkH 1 ?_
    try simp only [Act.put, List.setIfInBounds_toArray, List.set_cons_zero, List.set_cons_succ]
    refine tkH 2 ?_
    try simp only [Act.put, List.setIfInBounds_toArray, List.set_cons_zero, List.set_cons_succ]
    refine tkH 3 ?_
    try simp only [Act.put, List.setIfInBounds_toArray, List.set_cons_zero, List.set_cons_succ]
    refine tkH 4 ?_
    try simp only [Act.put, List.setIfInBounds_toArray, List.set_cons_zero, List.set_cons_succ]
    refine tkH 5 ?_
    try simp only [Act.put, List.setIfInBounds_toArray, List.set_cons_zero, List.set_cons_succ]
    refine tkH 6 ?_
    try simp only [Act.put, List.setIfInBounds_toArray, List.set_cons_zero, List.set_cons_succ]
    refine tkH 7 ?_
    try simp only [Act.put, List.setIfInBounds_toArray, List.set_cons_zero, List.set_cons_succ]
    refine tkH 8 ?_
    try simp only [Act.put, List.setIfInBounds_toArray, List.set_cons_zero, List.set_cons_succ]
    refine tkH 10 ?_
    try simp only [Act.put, List.setIfInBounds_toArray, List.set_cons_zero, List.set_cons_succ]
    refine rdH 9 fun K hK => ?_
    go_simp
    go_at_call 12; refine (Hnm.out w1.drew (Hg.out.below hb1d)).mono ?_; rintro e w2 ⟨rfl, hb2⟩; have hb12 := hb1d.trans (hb2.mono hb1d.size)
    refine hK.out _ _ (by (try dsimp only); first | with_reducible exact HS.out | exact Lib.hid (by with_reducible assumption)) (fun hHeld => ?_)
    clear hK K
    try simp only [Act.put, List.setIfInBounds_toArray, List.set_cons_zero, List.set_cons_succ]
    refine tkH 11 ?_
    try simp only [Act.put, List.setIfInBounds_toArray, List.set_cons_zero, List.set_cons_succ]
    refine tkH 12 ?_
    try simp only [Act.put, List.setIfInBounds_toArray, List.set_cons_zero, List.set_cons_succ]
    refine tkH 13 ?_
    try simp only [Act.put, List.setIfInBounds_toArray, List.set_cons_zero, List.set_cons_succ]
    refine tkH 14 ?_
    try simp only [Act.put, List.setIfInBounds_toArray, List.set_cons_zero, List.set_cons_succ]
    refine tkH 15 ?_
    try simp only [Act.put, List.setIfInBounds_toArray, List.set_cons_zero, List.set_cons_succ]
    refine wpAnyH_done (by kernel_rfl) ?_ _
    refine NoPanic.normal ?_
    go_wp2
    go_ret3
    exact ⟨q, n, false, rfl, (fun e => by cases e), (fun _ => Hno.out), hb12⟩
  ·have Hno : Hid (∀ r k, ¬ StoOf (q :: c :: ds) r k) := Lib.hid (by
    rcases Hn.out with ⟨_, h⟩ | ⟨h, _⟩
    ·cases h
    ·intro r k h'
     obtain ⟨a0, a1, a2, a3⟩ := h'
     rw [nameD_of a0 a1 a2] at a3
     injection a3 with c1 c2
     injection c2 with _ c2
     have c2 : ds = numD (Int.toNat _) := c2
     exact h _ (by rw [c2]; exact atoi_numD (by omega)))
   have hb1d := (Hb.out).drew
   have HS : Hid ((fun w' => Hid (Below w.heap.size w w')) w1.drew) := Lib.hid (Lib.hid hb1d)
   go_upto_region 4 with fail
   refine wp_region_noPanic ?_
   refine wp_region_held_drew (S := (fun w' => Hid (Below w.heap.size w w'))) (by kernel_rfl) (by first | with_reducible exact HS.out | exact Lib.hid (by with_reducible assumption)) (fun hHeld => ?_)
   refine tkH 0 ?_
   try simp only [Act.put, List.setIfInBounds_toArray, List.set_cons_zero, List.set_cons_succ]
   refine tkH 1 ?_
   try simp only [Act.put, List.setIfInBounds_toArray, List.set_cons_zero, List.set_cons_succ]
   refine tkH 2 ?_
   try simp only [Act.put, List.setIfInBounds_toArray, List.set_cons_zero, List.set_cons_succ]
   refine tkH 3 ?_
   try simp only [Act.put, List.setIfInBounds_toArray, List.set_cons_zero, List.set_cons_succ]
   refine tkH 4 ?_
   try simp only [Act.put, List.setIfInBounds_toArray, List.set_cons_zero, List.set_cons_succ]
   refine tkH 5 ?_
   try simp only [Act.put, List.setIfInBounds_toArray, List.set_cons_zero, List.set_cons_succ]
   refine wpAnyH_take (i := 6) (oi := _) (v := undef) (by simp only [List.getElem?_toArray, List.getElem?_cons_succ, List.getElem?_cons_zero]; rfl) (by kernel_rfl) (by kernel_rfl) (by kernel_rfl) (fun _ _ _ h => h) (Or.inr ⟨by rfl, rfl⟩) (by assumption) ?_
   try simp only [Act.put, List.setIfInBounds_toArray, List.set_cons_zero, List.set_cons_succ]
   refine wpAnyH_take (i := 7) (oi := _) (v := undef) (by simp only [List.getElem?_toArray, List.getElem?_cons_succ, List.getElem?_cons_zero]; rfl) (by kernel_rfl) (by kernel_rfl) (by kernel_rfl) (fun _ _ _ h => h) (Or.inr ⟨by rfl, rfl⟩) (by assumption) ?_
   try simp only [Act.put, List.setIfInBounds_toArray, List.set_cons_zero, List.set_cons_succ]
   refine wpAnyH_take (i := 8) (oi := _) (v := undef) (by simp only [List.getElem?_toArray, List.getElem?_cons_succ, List.getElem?_cons_zero]; rfl) (by kernel_rfl) (by kernel_rfl) (by kernel_rfl) (fun _ _ _ h => h) (Or.inr ⟨by rfl, rfl⟩) (by assumption) ?_
   try simp only [Act.put, List.setIfInBounds_toArray, List.set_cons_zero, List.set_cons_succ]
   refine wpAnyH_take (i := 9) (oi := _) (v := undef) (by simp only [List.getElem?_toArray, List.getElem?_cons_succ, List.getElem?_cons_zero]; rfl) (by kernel_rfl) (by kernel_rfl) (by kernel_rfl) (fun _ _ _ h => h) (Or.inr ⟨by rfl, rfl⟩) (by assumption) ?_
   try simp only [Act.put, List.setIfInBounds_toArray, List.set_cons_zero, List.set_cons_succ]
   refine wpAnyH_take (i := 10) (oi := _) (v := undef) (by simp only [List.getElem?_toArray, List.getElem?_cons_succ, List.getElem?_cons_zero]; rfl) (by kernel_rfl) (by kernel_rfl) (by kernel_rfl) (fun _ _ _ h => h) (Or.inr ⟨by rfl, rfl⟩) (by assumption) ?_
   try simp only [Act.put, List.setIfInBounds_toArray, List.set_cons_zero, List.set_cons_succ]
   refine wpAnyH_take (i := 11) (oi := _) (v := undef) (by simp only [List.getElem?_toArray, List.getElem?_cons_succ, List.getElem?_cons_zero]; rfl) (by kernel_rfl) (by kernel_rfl) (by kernel_rfl) (fun _ _ _ h => h) (Or.inr ⟨by rfl, rfl⟩) (by assumption) ?_
   try simp only [Act.put, List.setIfInBounds_toArray, List.set_cons_zero, List.set_cons_succ]
   refine tkH 12 ?_
   try simp only [Act.put, List.setIfInBounds_toArray, List.set_cons_zero, List.set_cons_succ]
   refine tkH 13 ?_
   try simp only [Act.put, List.setIfInBounds_toArray, List.set_cons_zero, List.set_cons_succ]
   refine tkH 14 ?_
   try simp only [Act.put, List.setIfInBounds_toArray, List.set_cons_zero, List.set_cons_succ]
   refine tkH 15 ?_
   try simp only [Act.put, List.setIfInBounds_toArray, List.set_cons_zero, List.set_cons_succ]
   refine wpAnyH_done (by kernel_rfl) ?_ _
   refine NoPanic.normal ?_
   go_wp2
   go_ret3
   exact ⟨q, n, false, rfl, (fun e => by cases e), fun _ => Hno.out, hb1d⟩
 ·have hno : Hid (∀ r m, ¬ StoOf s r m) := Lib.hid (fun r m h => hl h.len)
  have hz : (strL s).size ≠ 11 := by rw [strL_size]; exact hl
  obtain ⟨t, ht⟩ : ∃ t, strL s = t := ⟨_, rfl⟩
  rw [ht] at hz ⊢
  have hE : ((t.size : Int) != 11) = true := by simpa using (fun e => hz (by omega))
  clear hg hl ht hz hs
  go_enter Tryz.func99, Tryz.ntmps99
  go_wp2
  go_ret3
  exact ⟨0, 0, false, rfl, (fun e => by cases e), fun _ => hno.out, Below.refl _ _⟩
end Go.Proofs.YtffnbkmigapmjaaGreatDoor
set_option maxRecDepth 100000
namespace Go.Proofs.YtffnbkmigapmjaaGreatDoor
open Go.RowKit Go.Maps
def Wh.at (l : Wh) (n : Int) : UInt8 := (l.look n).getD 0
set_option maxHeartbeats 4000000 in
theorem where_calls (s : Nat) (d : StoD) (ρ : Rho) (w : World) (h : StoAt w s d ρ) (id : Int) (hid : -9223372036854775808 ≤ id ∧ id ≤ 9223372036854775807) :
 Calls Tryz.prog 18 #[.pointer (some ⟨s, 0, none⟩), .int .i64 id] w fun e w' => e = .returned (.int .u8 ((d.whr.at id).toNat : Int)) ∧ Below w.heap.size w w' := by
 have hb : Below w.heap.size w w.drew := (Below.refl _ _).drew
 have c2 := (cells4 h.hd).1.2.2.1
 have hl := wh_look h.whr id hid
 have hl2 := wh_look (h.below hb).whr id hid
 have Hq : Hid (d.whr.at id = (d.whr.look id).getD 0) := Lib.hid rfl
 obtain ⟨qv, hqv⟩ : ∃ qv : Nat, ((d.whr.look id).getD 0).toNat = qv := ⟨_, rfl⟩
 rw [hqv] at hl hl2
 have Hqv := Lib.hid hqv
 have Hb := Lib.hid hb
 clear h hid hqv hb
 go_enter Tryz.func18, Tryz.ntmps18
 go_wp2
 try go_region
 all_goals try go_wp2
 all_goals
  go_ret
  rw [Hq.out, Hqv.out]
  first | exact ⟨rfl, Hb.out⟩ | exact ⟨rfl, Below.refl _ _⟩
set_option maxHeartbeats 4000000 in
theorem sready_calls (s : Nat) (d : StoD) (ρ : Rho) (w : World) (h : StoAt w s d ρ) :
 Calls Tryz.prog 64 #[.pointer (some ⟨s, 0, none⟩)] w fun e w' => e = .returned (.int .i64 (if d.down then 2 else 0)) ∧ Below w.heap.size w w' := by
 have c3 := (cells4 h.hd).1.2.2.2
 cases hd : d.down with
 | true =>
  rw [hd] at c3
  clear h hd
  go_enter Tryz.func64, Tryz.ntmps64
  go_wp2
  go_ret
  exact ⟨rfl, Below.refl _ _⟩
 | false =>
  rw [hd] at c3
  clear h hd
  go_enter Tryz.func64, Tryz.ntmps64
  go_wp2
  go_ret
  exact ⟨rfl, Below.refl _ _⟩
end Go.Proofs.YtffnbkmigapmjaaGreatDoor
