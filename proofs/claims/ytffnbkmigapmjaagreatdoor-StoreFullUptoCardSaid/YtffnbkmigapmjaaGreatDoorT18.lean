/- Printed out of the texts of wip/tpl. -/
import Derived.Test.YtffnbkmigapmjaaGreatDoorT10
import Derived.Test.YtffnbkmigapmjaaGreatDoorT16
set_option linter.unusedSimpArgs false
set_option linter.unusedVariables false
set_option maxRecDepth 100000
namespace Go.Proofs.YtffnbkmigapmjaaGreatDoor
open Go.RowKit Go.Maps
structure LayBox (w : World) (ρ : Rho) (sb tb s : Nat) (tmp : Nm) : Prop where
 bs : w.heap[sb]? = some (.cells #[.pointer (some ⟨s, 0, none⟩)] 37 (0, 0))
 bt : w.heap[tb]? = some (.cells #[.string (strL tmp)] 9 (0, 0))
 rs : ρ sb = none
 rt : ρ tb = none
def FsDone (b : Nat) (ρ : Rho) (w : World) (e : Ending) (w' : World) (er : Int) (fs : FsD) (ρ' : Rho) : Prop := e = .returned (.int .i64 er) ∧ FsAt w' b fs ρ' ∧ FsStep w ρ w' ρ'
theorem FsDone.mk {b : Nat} {ρ : Rho} {w : World} {e : Ending} {w' : World} {er : Int} {fs : FsD} {ρ' : Rho} (h1 : e = .returned (.int .i64 er)) (h2 : FsAt w' b fs ρ') (h3 : FsStep w ρ w' ρ') : FsDone b ρ w e w' er fs ρ' := ⟨h1, h2, h3⟩
theorem Rho.not_has {ρ : Rho} {k : Nat} (h : ρ k = none) : ¬ ρ.has k := fun h2 => by unfold Rho.has at h2; rw [h] at h2; cases h2
theorem Rho.none_go {w w' : World} {ρ ρ' : Rho} {k : Nat} (h : ρ k = none) (hk : k < w.heap.size) (hst : FsStep w ρ w' ρ') : ρ' k = none := by
 cases hr : ρ' k with
 | none => rfl
 | some r => rcases hst.grow k (Rho.has_of hr) with e | e
             ·exact absurd e (Rho.not_has h)
             ·omega
theorem LayBox.go {w w' : World} {ρ ρ' : Rho} {sb tb s : Nat} {tmp : Nm} (h : LayBox w ρ sb tb s tmp) (hst : FsStep w ρ w' ρ') : LayBox w' ρ' sb tb s tmp :=
 ⟨hst.keeps.heap h.bs (Rho.not_has h.rs), hst.keeps.heap h.bt (Rho.not_has h.rt), Rho.none_go h.rs (Array.getElem?_eq_some_iff.1 h.bs).1 hst, Rho.none_go h.rt (Array.getElem?_eq_some_iff.1 h.bt).1 hst⟩
theorem FsStep.cell {w w' : World} {ρ ρ' : Rho} (h : FsStep w ρ w' ρ') {b o : Nat} {v : Value} (hr : ρ b = none) (hc : w.cell? ⟨b, o, none⟩ = some v) : w'.cell? ⟨b, o, none⟩ = some v := h.keeps.cell (Rho.not_has hr) hc
set_option maxHeartbeats 8000000 in
theorem lay1_calls (sb tb s : Nat) (tmp : Nm) (d : StoD) (ρ : Rho) (w : World) (h : StoAt w s d ρ) (hx : LayBox w ρ sb tb s tmp) (ht : tmp.length ≤ maxLen) (hfu : -1 ≤ d.fs.fuse ∧ d.fs.fuse ≤ 9223372036854775807) (hnl : d.fs.now.length ≤ 256) (hll : d.fs.loose.length ≤ 1000000) :
 Calls Tryz.prog 166 #[.pointer (some ⟨sb, 0, none⟩), .pointer (some ⟨tb, 0, none⟩)] w fun e w' => ∃ v lv ρ', FsDone d.fb ρ w e w' (if (unlinkD d.fs tmp v lv).1 = 4 then 0 else (unlinkD d.fs tmp v lv).1) (unlinkD d.fs tmp v lv).2 ρ' := by
 have hS0 : (fun w' => w'.cell? ⟨sb, 0, none⟩ = some (.pointer (some ⟨s, 0, none⟩)) ∧ w'.cell? ⟨s, 0, none⟩ = some (.pointer (some ⟨d.fb, 0, none⟩)) ∧ w'.cell? ⟨tb, 0, none⟩ = some (.string (strL tmp))) w := ⟨cell1 hx.bs, (cells4 h.hd).1.1, cell1 hx.bt⟩
 have hGo : ∀ w' ρ', FsStep w ρ w' ρ' → (fun w' => w'.cell? ⟨sb, 0, none⟩ = some (.pointer (some ⟨s, 0, none⟩)) ∧ w'.cell? ⟨s, 0, none⟩ = some (.pointer (some ⟨d.fb, 0, none⟩)) ∧ w'.cell? ⟨tb, 0, none⟩ = some (.string (strL tmp))) w' := fun w' ρ' hst => ⟨hst.cell hx.rs hS0.1, hst.cell h.rs hS0.2.1, hst.cell hx.rt hS0.2.2⟩
 have hcall : Calls Tryz.prog 101 #[.pointer (some ⟨d.fb, 0, none⟩), .string (strL tmp)] w.drew fun e w' => ∃ v lv ρ', e = .returned (.int .i64 (unlinkD d.fs tmp v lv).1) ∧ FsAt w' d.fb (unlinkD d.fs tmp v lv).2 ρ' ∧ FsStep w.drew ρ w' ρ' := unlink_calls d.fb d.fs ρ tmp w.drew (h.fs.below (Below.refl w.heap.size w).drew) ht hfu hnl hll
 have hcall : Calls Tryz.prog 101 #[.pointer (some ⟨d.fb, 0, none⟩), .string (strL tmp)] w.drew fun e w' => ∃ v lv ρ', e = .returned (.int .i64 (unlinkD d.fs tmp v lv).1) ∧ (fun w' => w'.cell? ⟨sb, 0, none⟩ = some (.pointer (some ⟨s, 0, none⟩)) ∧ w'.cell? ⟨s, 0, none⟩ = some (.pointer (some ⟨d.fb, 0, none⟩)) ∧ w'.cell? ⟨tb, 0, none⟩ = some (.string (strL tmp))) w' ∧ FsAt w' d.fb (unlinkD d.fs tmp v lv).2 ρ' ∧ FsStep w ρ w' ρ' :=
  hcall.mono fun e w' ⟨v, lv, ρ', he, hF, hst⟩ => ⟨v, lv, ρ', he, hGo _ _ ((FsStep.below (ρ := ρ) (Below.refl w.heap.size w).drew).trans hst), hF, (FsStep.below (ρ := ρ) (Below.refl w.heap.size w).drew).trans hst⟩
 obtain ⟨fb, hfb⟩ : ∃ fb, d.fb = fb := ⟨_, rfl⟩
 obtain ⟨tm, htm⟩ : ∃ tm, strL tmp = tm := ⟨_, rfl⟩
 rw [htm, hfb] at hS0 hcall
 have Hc := Lib.hid hcall
 have HS : Hid ((fun w' => w'.cell? ⟨sb, 0, none⟩ = some (.pointer (some ⟨s, 0, none⟩)) ∧ w'.cell? ⟨s, 0, none⟩ = some (.pointer (some ⟨fb, 0, none⟩)) ∧ w'.cell? ⟨tb, 0, none⟩ = some (.string tm)) w.drew) := hS0
 have Hfb := Lib.hid hfb
 clear hcall hGo hfb htm h hx hfu hnl hll ht
 go_enter Tryz.func166, Tryz.ntmps166
 go_upto_region 1 with fail
 refine wp_region_noPanic ?_
 refine wp_region_held_drew (S := (fun w' => w'.cell? ⟨sb, 0, none⟩ = some (.pointer (some ⟨s, 0, none⟩)) ∧ w'.cell? ⟨s, 0, none⟩ = some (.pointer (some ⟨fb, 0, none⟩)) ∧ w'.cell? ⟨tb, 0, none⟩ = some (.string tm))) (by kernel_rfl) (by first | with_reducible exact HS.out | with_reducible exact hS1) (fun hHeld => ?_)
 refine tkP 0 ?_
 refine tkP 1 ?_
 refine tkP 2 ?_
 refine tkP 3 ?_
 refine tkP 4 ?_
 refine rdH 5 fun K hK => ?_
 go_simp
 go_at_call 101; refine (Hc.out).mono ?_; rintro e wu ⟨v, lv, ρ', rfl, hS1, hF, hst⟩
 refine hK.out _ _ (by (try dsimp only); first | with_reducible exact HS.out | with_reducible exact hS1) (fun hHeld => ?_)
 clear hK K
 try simp only [Act.put, qA, qB, qC]
 refine tkP 6 ?_
 refine wpAnyH_done (by kernel_rfl) ?_ _
 refine NoPanic.normal ?_
 obtain ⟨er, her⟩ : ∃ er, (unlinkD d.fs tmp v lv).1 = er := ⟨_, rfl⟩
 have Her := Lib.hid her
 rw [her]
 by_cases h4 : er = 4
 ·subst h4
  clear her
  go_wp2
  go_ret
  refine ⟨v, lv, ρ', FsDone.mk ?_ (by rw [Hfb.out]; exact hF) hst⟩
  rw [Her.out]; rfl
 ·have h4' : (er == 4) = false := by simpa using h4
  clear her
  go_wp2
  go_ret
  refine ⟨v, lv, ρ', FsDone.mk ?_ (by rw [Hfb.out]; exact hF) hst⟩
  rw [Her.out, if_neg h4]; rfl
structure FreshOf (d : FsD) where
 x : Nat
 free : d.file x = none
theorem FsAt.fresh {w : World} {f : Nat} {d : FsD} {ρ : Rho} (h : FsAt w f d ρ) {x : Nat} (hx : w.heap.size ≤ x) : d.file x = none := by
 cases hc : d.file x with
 | none => rfl
 | some c => have := h.rest.lt x (by rw [(h.rest.files x c hc).role]; rfl); omega
theorem create_calls' (f : Nat) (d : FsD) (ρ : Rho) (n : Nm) (w : World) (h : FsAt w f d ρ) (hs : n.length ≤ maxLen) (hfu : -1 ≤ d.fuse ∧ d.fuse ≤ 9223372036854775807) (hll : d.loose.length ≤ 1000000) :
 Calls Tryz.prog 15 #[.pointer (some ⟨f, 0, none⟩), .string (strL n)] w fun e w' => ∃ (x : FreshOf d) (v lv : Value) (ρ' : Rho), e = .returned (.int .i64 (createD d n x.x v lv).1) ∧ FsAt w' f (createD d n x.x v lv).2 ρ' ∧ FsStep w ρ w' ρ' :=
 (create_calls f d ρ n w h hs hfu hll).mono fun e w' ⟨x, v, lv, ρ', hx, a, b, c⟩ => ⟨⟨x, h.fresh hx⟩, v, lv, ρ', a, b, c⟩
set_option maxHeartbeats 8000000 in
theorem lay2_calls (sb tb s : Nat) (tmp : Nm) (d : StoD) (ρ : Rho) (w : World) (h : StoAt w s d ρ) (hx : LayBox w ρ sb tb s tmp) (ht : tmp.length ≤ maxLen) (hfu : -1 ≤ d.fs.fuse ∧ d.fs.fuse ≤ 9223372036854775807) (hnl : d.fs.now.length ≤ 256) (hll : d.fs.loose.length ≤ 1000000) :
 Calls Tryz.prog 167 #[.pointer (some ⟨sb, 0, none⟩), .pointer (some ⟨tb, 0, none⟩)] w fun e w' => ∃ (x : FreshOf d.fs) (v lv : Value) (ρ' : Rho), FsDone d.fb ρ w e w' (createD d.fs tmp x.x v lv).1 (createD d.fs tmp x.x v lv).2 ρ' := by
 have hS0 : (fun w' => w'.cell? ⟨sb, 0, none⟩ = some (.pointer (some ⟨s, 0, none⟩)) ∧ w'.cell? ⟨s, 0, none⟩ = some (.pointer (some ⟨d.fb, 0, none⟩)) ∧ w'.cell? ⟨tb, 0, none⟩ = some (.string (strL tmp))) w := ⟨cell1 hx.bs, (cells4 h.hd).1.1, cell1 hx.bt⟩
 have hGo : ∀ w' ρ', FsStep w ρ w' ρ' → (fun w' => w'.cell? ⟨sb, 0, none⟩ = some (.pointer (some ⟨s, 0, none⟩)) ∧ w'.cell? ⟨s, 0, none⟩ = some (.pointer (some ⟨d.fb, 0, none⟩)) ∧ w'.cell? ⟨tb, 0, none⟩ = some (.string (strL tmp))) w' := fun w' ρ' hst => ⟨hst.cell hx.rs hS0.1, hst.cell h.rs hS0.2.1, hst.cell hx.rt hS0.2.2⟩
 have hcall : Calls Tryz.prog 15 #[.pointer (some ⟨d.fb, 0, none⟩), .string (strL tmp)] w.drew fun e w' => ∃ (x : FreshOf d.fs) (v lv : Value) (ρ' : Rho), e = .returned (.int .i64 (createD d.fs tmp x.x v lv).1) ∧ FsAt w' d.fb (createD d.fs tmp x.x v lv).2 ρ' ∧ FsStep w.drew ρ w' ρ' := create_calls' d.fb d.fs ρ tmp w.drew (h.fs.below (Below.refl w.heap.size w).drew) ht hfu hll
 have hcall : Calls Tryz.prog 15 #[.pointer (some ⟨d.fb, 0, none⟩), .string (strL tmp)] w.drew fun e w' => ∃ (x : FreshOf d.fs) (v lv : Value) (ρ' : Rho), e = .returned (.int .i64 (createD d.fs tmp x.x v lv).1) ∧ (fun w' => w'.cell? ⟨sb, 0, none⟩ = some (.pointer (some ⟨s, 0, none⟩)) ∧ w'.cell? ⟨s, 0, none⟩ = some (.pointer (some ⟨d.fb, 0, none⟩)) ∧ w'.cell? ⟨tb, 0, none⟩ = some (.string (strL tmp))) w' ∧ FsAt w' d.fb (createD d.fs tmp x.x v lv).2 ρ' ∧ FsStep w ρ w' ρ' :=
  hcall.mono fun e w' ⟨x, v, lv, ρ', he, hF, hst⟩ => ⟨x, v, lv, ρ', he, hGo _ _ ((FsStep.below (ρ := ρ) (Below.refl w.heap.size w).drew).trans hst), hF, (FsStep.below (ρ := ρ) (Below.refl w.heap.size w).drew).trans hst⟩
 obtain ⟨fb, hfb⟩ : ∃ fb, d.fb = fb := ⟨_, rfl⟩
 obtain ⟨tm, htm⟩ : ∃ tm, strL tmp = tm := ⟨_, rfl⟩
 rw [htm, hfb] at hS0 hcall
 have Hc := Lib.hid hcall
 have HS : Hid ((fun w' => w'.cell? ⟨sb, 0, none⟩ = some (.pointer (some ⟨s, 0, none⟩)) ∧ w'.cell? ⟨s, 0, none⟩ = some (.pointer (some ⟨fb, 0, none⟩)) ∧ w'.cell? ⟨tb, 0, none⟩ = some (.string tm)) w.drew) := hS0
 have Hfb := Lib.hid hfb
 clear hcall hGo hfb htm h hx hfu hnl hll ht
 go_enter Tryz.func167, Tryz.ntmps167
 go_upto_region 1 with fail
 refine wp_region_noPanic ?_
 refine wp_region_held_drew (S := (fun w' => w'.cell? ⟨sb, 0, none⟩ = some (.pointer (some ⟨s, 0, none⟩)) ∧ w'.cell? ⟨s, 0, none⟩ = some (.pointer (some ⟨fb, 0, none⟩)) ∧ w'.cell? ⟨tb, 0, none⟩ = some (.string tm))) (by kernel_rfl) (by first | with_reducible exact HS.out | with_reducible exact hS1) (fun hHeld => ?_)
 refine tkP 0 ?_
 refine tkP 1 ?_
 refine tkP 2 ?_
 refine tkP 3 ?_
 refine tkP 4 ?_
 refine rdH 5 fun K hK => ?_
 go_simp
 go_at_call 15; refine (Hc.out).mono ?_; rintro e wu ⟨x, v, lv, ρ', rfl, hS1, hF, hst⟩
 refine hK.out _ _ (by (try dsimp only); first | with_reducible exact HS.out | with_reducible exact hS1) (fun hHeld => ?_)
 clear hK K
 try simp only [Act.put, qA, qB, qC]
 refine tkP 6 ?_
 refine wpAnyH_done (by kernel_rfl) ?_ _
 refine NoPanic.normal ?_
 go_wp2
 go_ret
 exact ⟨x, v, lv, ρ', FsDone.mk rfl (by rw [Hfb.out]; exact hF) hst⟩
set_option maxHeartbeats 8000000 in
theorem lay3_calls (sb tb s : Nat) (tmp : Nm) (d : StoD) (ρ : Rho) (bb : Nat) (aB : Option Addr) (cB : Nat) (bs : List UInt8) (w : World) (h : StoAt w s d ρ) (hx : LayBox w ρ sb tb s tmp) (ht : tmp.length ≤ maxLen) (hfu : -1 ≤ d.fs.fuse ∧ d.fs.fuse ≤ 9223372036854775807) (hnl : d.fs.now.length ≤ 256) (hll : d.fs.loose.length ≤ 1000000) (hroom : 0 ≤ d.fs.room ∧ d.fs.room ≤ 16777216) (hbb : w.heap[bb]? = some (.cells #[.slice aB bs.length cB] 22 (0, 0))) (hrb : ρ bb = none) (hv : RdB w (.slice aB bs.length cB) bs) (hnv : NilOk (.slice aB bs.length cB)) (hfree : ∀ k, (Value.slice aB bs.length cB).ownBlock = some k → ρ k = none) :
 Calls Tryz.prog 168 #[.pointer (some ⟨sb, 0, none⟩), .pointer (some ⟨tb, 0, none⟩), .pointer (some ⟨bb, 0, none⟩)] w fun e w' => ∃ row ρ', FsDone d.fb ρ w e w' (appendD d.fs tmp bs row).1 (appendD d.fs tmp bs row).2 ρ' := by
 have hS0 : (fun w' => w'.cell? ⟨sb, 0, none⟩ = some (.pointer (some ⟨s, 0, none⟩)) ∧ w'.cell? ⟨s, 0, none⟩ = some (.pointer (some ⟨d.fb, 0, none⟩)) ∧ w'.cell? ⟨tb, 0, none⟩ = some (.string (strL tmp)) ∧ w'.cell? ⟨bb, 0, none⟩ = some (.slice aB bs.length cB)) w := ⟨cell1 hx.bs, (cells4 h.hd).1.1, cell1 hx.bt, cell1 hbb⟩
 have hGo : ∀ w' ρ', FsStep w ρ w' ρ' → (fun w' => w'.cell? ⟨sb, 0, none⟩ = some (.pointer (some ⟨s, 0, none⟩)) ∧ w'.cell? ⟨s, 0, none⟩ = some (.pointer (some ⟨d.fb, 0, none⟩)) ∧ w'.cell? ⟨tb, 0, none⟩ = some (.string (strL tmp)) ∧ w'.cell? ⟨bb, 0, none⟩ = some (.slice aB bs.length cB)) w' := fun w' ρ' hst => ⟨hst.cell hx.rs hS0.1, hst.cell h.rs hS0.2.1, hst.cell hx.rt hS0.2.2.1, hst.cell hrb hS0.2.2.2⟩
 have hcall : Calls Tryz.prog 16 #[.pointer (some ⟨d.fb, 0, none⟩), .string (strL tmp), .slice aB bs.length cB] w.drew fun e w' => ∃ row ρ', e = .returned (.int .i64 (appendD d.fs tmp bs row).1) ∧ FsAt w' d.fb (appendD d.fs tmp bs row).2 ρ' ∧ FsStep w.drew ρ w' ρ' := append_calls d.fb d.fs ρ tmp _ bs w.drew (h.fs.below (Below.refl w.heap.size w).drew) ht hfu hnl hroom (hv.below (Nat.le_refl _) (Below.refl w.heap.size w).drew) hnv hfree
 have hcall : Calls Tryz.prog 16 #[.pointer (some ⟨d.fb, 0, none⟩), .string (strL tmp), .slice aB bs.length cB] w.drew fun e w' => ∃ row ρ', e = .returned (.int .i64 (appendD d.fs tmp bs row).1) ∧ (fun w' => w'.cell? ⟨sb, 0, none⟩ = some (.pointer (some ⟨s, 0, none⟩)) ∧ w'.cell? ⟨s, 0, none⟩ = some (.pointer (some ⟨d.fb, 0, none⟩)) ∧ w'.cell? ⟨tb, 0, none⟩ = some (.string (strL tmp)) ∧ w'.cell? ⟨bb, 0, none⟩ = some (.slice aB bs.length cB)) w' ∧ FsAt w' d.fb (appendD d.fs tmp bs row).2 ρ' ∧ FsStep w ρ w' ρ' :=
  hcall.mono fun e w' ⟨row, ρ', he, hF, hst⟩ => ⟨row, ρ', he, hGo _ _ ((FsStep.below (ρ := ρ) (Below.refl w.heap.size w).drew).trans hst), hF, (FsStep.below (ρ := ρ) (Below.refl w.heap.size w).drew).trans hst⟩
 obtain ⟨fb, hfb⟩ : ∃ fb, d.fb = fb := ⟨_, rfl⟩
 obtain ⟨tm, htm⟩ : ∃ tm, strL tmp = tm := ⟨_, rfl⟩
 rw [htm, hfb] at hS0 hcall
 have Hc := Lib.hid hcall
 have HS : Hid ((fun w' => w'.cell? ⟨sb, 0, none⟩ = some (.pointer (some ⟨s, 0, none⟩)) ∧ w'.cell? ⟨s, 0, none⟩ = some (.pointer (some ⟨fb, 0, none⟩)) ∧ w'.cell? ⟨tb, 0, none⟩ = some (.string tm) ∧ w'.cell? ⟨bb, 0, none⟩ = some (.slice aB bs.length cB)) w.drew) := hS0
 have Hfb := Lib.hid hfb
 clear hcall hGo hfb htm h hx hfu hnl hll ht
 go_enter Tryz.func168, Tryz.ntmps168
 go_upto_region 1 with fail
 refine wp_region_noPanic ?_
 refine wp_region_held_drew (S := (fun w' => w'.cell? ⟨sb, 0, none⟩ = some (.pointer (some ⟨s, 0, none⟩)) ∧ w'.cell? ⟨s, 0, none⟩ = some (.pointer (some ⟨fb, 0, none⟩)) ∧ w'.cell? ⟨tb, 0, none⟩ = some (.string tm) ∧ w'.cell? ⟨bb, 0, none⟩ = some (.slice aB bs.length cB))) (by kernel_rfl) (by first | with_reducible exact HS.out | with_reducible exact hS1) (fun hHeld => ?_)
 refine tkP 0 ?_
 refine tkP 1 ?_
 refine tkP 2 ?_
 refine tkP 3 ?_
 refine tkP 4 ?_
 refine tkP 5 ?_
 refine rdH 6 fun K hK => ?_
 go_simp
 go_at_call 16; refine (Hc.out).mono ?_; rintro e wu ⟨row, ρ', rfl, hS1, hF, hst⟩
 refine hK.out _ _ (by (try dsimp only); first | with_reducible exact HS.out | with_reducible exact hS1) (fun hHeld => ?_)
 clear hK K
 try simp only [Act.put, qA, qB, qC]
 refine tkP 7 ?_
 refine wpAnyH_done (by kernel_rfl) ?_ _
 refine NoPanic.normal ?_
 go_wp2
 go_ret
 exact ⟨row, ρ', FsDone.mk rfl (by rw [Hfb.out]; exact hF) hst⟩
set_option maxHeartbeats 8000000 in
theorem lay4_calls (sb tb s : Nat) (tmp : Nm) (d : StoD) (ρ : Rho) (w : World) (h : StoAt w s d ρ) (hx : LayBox w ρ sb tb s tmp) (ht : tmp.length ≤ maxLen) (hfu : -1 ≤ d.fs.fuse ∧ d.fs.fuse ≤ 9223372036854775807) (hnl : d.fs.now.length ≤ 256) (hll : d.fs.loose.length ≤ 1000000) :
 Calls Tryz.prog 169 #[.pointer (some ⟨sb, 0, none⟩), .pointer (some ⟨tb, 0, none⟩)] w fun e w' => FsDone d.fb ρ w e w' (syncD d.fs tmp).1 (syncD d.fs tmp).2 ρ := by
 have hS0 : (fun w' => w'.cell? ⟨sb, 0, none⟩ = some (.pointer (some ⟨s, 0, none⟩)) ∧ w'.cell? ⟨s, 0, none⟩ = some (.pointer (some ⟨d.fb, 0, none⟩)) ∧ w'.cell? ⟨tb, 0, none⟩ = some (.string (strL tmp))) w := ⟨cell1 hx.bs, (cells4 h.hd).1.1, cell1 hx.bt⟩
 have hGo : ∀ w' ρ', FsStep w ρ w' ρ' → (fun w' => w'.cell? ⟨sb, 0, none⟩ = some (.pointer (some ⟨s, 0, none⟩)) ∧ w'.cell? ⟨s, 0, none⟩ = some (.pointer (some ⟨d.fb, 0, none⟩)) ∧ w'.cell? ⟨tb, 0, none⟩ = some (.string (strL tmp))) w' := fun w' ρ' hst => ⟨hst.cell hx.rs hS0.1, hst.cell h.rs hS0.2.1, hst.cell hx.rt hS0.2.2⟩
 have hcall : Calls Tryz.prog 70 #[.pointer (some ⟨d.fb, 0, none⟩), .string (strL tmp)] w.drew fun e w' => e = .returned (.int .i64 (syncD d.fs tmp).1) ∧ FsAt w' d.fb (syncD d.fs tmp).2 ρ ∧ FsStep w.drew ρ w' ρ := sync_calls d.fb d.fs ρ tmp w.drew (h.fs.below (Below.refl w.heap.size w).drew) ht hfu
 have hcall : Calls Tryz.prog 70 #[.pointer (some ⟨d.fb, 0, none⟩), .string (strL tmp)] w.drew fun e w' => e = .returned (.int .i64 (syncD d.fs tmp).1) ∧ (fun w' => w'.cell? ⟨sb, 0, none⟩ = some (.pointer (some ⟨s, 0, none⟩)) ∧ w'.cell? ⟨s, 0, none⟩ = some (.pointer (some ⟨d.fb, 0, none⟩)) ∧ w'.cell? ⟨tb, 0, none⟩ = some (.string (strL tmp))) w' ∧ FsAt w' d.fb (syncD d.fs tmp).2 ρ ∧ FsStep w ρ w' ρ :=
  hcall.mono fun e w' ⟨he, hF, hst⟩ => ⟨he, hGo _ _ ((FsStep.below (ρ := ρ) (Below.refl w.heap.size w).drew).trans hst), hF, (FsStep.below (ρ := ρ) (Below.refl w.heap.size w).drew).trans hst⟩
 obtain ⟨fb, hfb⟩ : ∃ fb, d.fb = fb := ⟨_, rfl⟩
 obtain ⟨tm, htm⟩ : ∃ tm, strL tmp = tm := ⟨_, rfl⟩
 rw [htm, hfb] at hS0 hcall
 have Hc := Lib.hid hcall
 have HS : Hid ((fun w' => w'.cell? ⟨sb, 0, none⟩ = some (.pointer (some ⟨s, 0, none⟩)) ∧ w'.cell? ⟨s, 0, none⟩ = some (.pointer (some ⟨fb, 0, none⟩)) ∧ w'.cell? ⟨tb, 0, none⟩ = some (.string tm)) w.drew) := hS0
 have Hfb := Lib.hid hfb
 clear hcall hGo hfb htm h hx hfu hnl hll ht
 go_enter Tryz.func169, Tryz.ntmps169
 go_upto_region 1 with fail
 refine wp_region_noPanic ?_
 refine wp_region_held_drew (S := (fun w' => w'.cell? ⟨sb, 0, none⟩ = some (.pointer (some ⟨s, 0, none⟩)) ∧ w'.cell? ⟨s, 0, none⟩ = some (.pointer (some ⟨fb, 0, none⟩)) ∧ w'.cell? ⟨tb, 0, none⟩ = some (.string tm))) (by kernel_rfl) (by first | with_reducible exact HS.out | with_reducible exact hS1) (fun hHeld => ?_)
 refine tkP 0 ?_
 refine tkP 1 ?_
 refine tkP 2 ?_
 refine tkP 3 ?_
 refine tkP 4 ?_
 refine rdH 5 fun K hK => ?_
 go_simp
 go_at_call 70; refine (Hc.out).mono ?_; rintro e wu ⟨rfl, hS1, hF, hst⟩
 refine hK.out _ _ (by (try dsimp only); first | with_reducible exact HS.out | with_reducible exact hS1) (fun hHeld => ?_)
 clear hK K
 try simp only [Act.put, qA, qB, qC]
 refine tkP 6 ?_
 refine wpAnyH_done (by kernel_rfl) ?_ _
 refine NoPanic.normal ?_
 go_wp2
 go_ret
 exact FsDone.mk rfl (by rw [Hfb.out]; exact hF) hst
theorem nameD_len (q : UInt8) (id : Int) : (nameD q id).length ≤ 11 := by
 unfold nameD; split
 ·rw [List.length_append, numD_length (by omega)]; simp
 ·simp
set_option maxHeartbeats 8000000 in
theorem lay5_calls (sb tb s : Nat) (tmp : Nm) (d : StoD) (ρ : Rho) (qb nb : Nat) (q : UInt8) (id : Int) (w : World) (h : StoAt w s d ρ) (hx : LayBox w ρ sb tb s tmp) (ht : tmp.length ≤ maxLen) (hfu : -1 ≤ d.fs.fuse ∧ d.fs.fuse ≤ 9223372036854775807) (hnl : d.fs.now.length ≤ 256) (hll : d.fs.loose.length ≤ 1000000) (hqb : w.heap[qb]? = some (.cells #[.int .u8 q.toNat] 5 (0, 0))) (hnb : w.heap[nb]? = some (.cells #[.int .i64 id] 3 (0, 0))) (rqb : ρ qb = none) (rnb : ρ nb = none) (hI : 0 ≤ id → id ≤ 999999999 → ItoaOk id.toNat w) :
 Calls Tryz.prog 170 #[.pointer (some ⟨sb, 0, none⟩), .pointer (some ⟨tb, 0, none⟩), .pointer (some ⟨qb, 0, none⟩), .pointer (some ⟨nb, 0, none⟩)] w fun e w' => ∃ v lv ρ', FsDone d.fb ρ w e w' (renameD d.fs tmp (nameD q id) v lv).1 (renameD d.fs tmp (nameD q id) v lv).2 ρ' := by
 have hS0 : (fun w' => w'.cell? ⟨sb, 0, none⟩ = some (.pointer (some ⟨s, 0, none⟩)) ∧ w'.cell? ⟨s, 0, none⟩ = some (.pointer (some ⟨d.fb, 0, none⟩)) ∧ w'.cell? ⟨tb, 0, none⟩ = some (.string (strL tmp)) ∧ w'.cell? ⟨qb, 0, none⟩ = some (.int .u8 q.toNat) ∧ w'.cell? ⟨nb, 0, none⟩ = some (.int .i64 id)) w := ⟨cell1 hx.bs, (cells4 h.hd).1.1, cell1 hx.bt, cell1 hqb, cell1 hnb⟩
 have hGo : ∀ w' ρ', FsStep w ρ w' ρ' → (fun w' => w'.cell? ⟨sb, 0, none⟩ = some (.pointer (some ⟨s, 0, none⟩)) ∧ w'.cell? ⟨s, 0, none⟩ = some (.pointer (some ⟨d.fb, 0, none⟩)) ∧ w'.cell? ⟨tb, 0, none⟩ = some (.string (strL tmp)) ∧ w'.cell? ⟨qb, 0, none⟩ = some (.int .u8 q.toNat) ∧ w'.cell? ⟨nb, 0, none⟩ = some (.int .i64 id)) w' := fun w' ρ' hst => ⟨hst.cell hx.rs hS0.1, hst.cell h.rs hS0.2.1, hst.cell hx.rt hS0.2.2.1, hst.cell rqb hS0.2.2.2.1, hst.cell rnb hS0.2.2.2.2⟩
 have hbd : Below w.heap.size w w.drew := (Below.refl _ _).drew
 have hname : Calls Tryz.prog 12 #[.int .u8 q.toNat, .int .i64 id] w.drew fun e w' => e = .returned (.string (strL (nameD q id))) ∧ (fun w' => w'.cell? ⟨sb, 0, none⟩ = some (.pointer (some ⟨s, 0, none⟩)) ∧ w'.cell? ⟨s, 0, none⟩ = some (.pointer (some ⟨d.fb, 0, none⟩)) ∧ w'.cell? ⟨tb, 0, none⟩ = some (.string (strL tmp)) ∧ w'.cell? ⟨qb, 0, none⟩ = some (.int .u8 q.toNat) ∧ w'.cell? ⟨nb, 0, none⟩ = some (.int .i64 id)) w' ∧ Below w.heap.size w w' :=
  (name_calls q id w.drew (fun a b => (hI a b).below hbd)).mono fun e w' ⟨he, hb⟩ => ⟨he, hGo _ ρ (FsStep.below (hbd.trans (hb.mono hbd.size))), hbd.trans (hb.mono hbd.size)⟩
 have hren : ∀ W, Below w.heap.size w W → Calls Tryz.prog 111 #[.pointer (some ⟨d.fb, 0, none⟩), .string (strL tmp), .string (strL (nameD q id))] W fun e w' => ∃ v lv ρ', e = .returned (.int .i64 (renameD d.fs tmp (nameD q id) v lv).1) ∧ (fun w' => w'.cell? ⟨sb, 0, none⟩ = some (.pointer (some ⟨s, 0, none⟩)) ∧ w'.cell? ⟨s, 0, none⟩ = some (.pointer (some ⟨d.fb, 0, none⟩)) ∧ w'.cell? ⟨tb, 0, none⟩ = some (.string (strL tmp)) ∧ w'.cell? ⟨qb, 0, none⟩ = some (.int .u8 q.toNat) ∧ w'.cell? ⟨nb, 0, none⟩ = some (.int .i64 id)) w' ∧ FsAt w' d.fb (renameD d.fs tmp (nameD q id) v lv).2 ρ' ∧ FsStep w ρ w' ρ' :=
  fun W hb => (rename_calls d.fb d.fs ρ tmp (nameD q id) W (h.fs.below hb) ht (by have := nameD_len q id; unfold maxLen; omega) hfu hnl hll).mono fun e w' ⟨v, lv, ρ', he, hF, hst⟩ => ⟨v, lv, ρ', he, hGo _ _ ((FsStep.below (ρ := ρ) hb).trans hst), hF, (FsStep.below (ρ := ρ) hb).trans hst⟩
 obtain ⟨fb, hfb⟩ : ∃ fb, d.fb = fb := ⟨_, rfl⟩
 obtain ⟨tm, htm⟩ : ∃ tm, strL tmp = tm := ⟨_, rfl⟩
 obtain ⟨qn, hqn⟩ : ∃ qn : Nat, q.toNat = qn := ⟨_, rfl⟩
 obtain ⟨nm, hnm⟩ : ∃ nm, strL (nameD q id) = nm := ⟨_, rfl⟩
 rw [htm, hfb, hqn] at hS0 hname hren
 rw [hnm] at hname hren
 have Hn := Lib.hid hname
 have Hr := Lib.hid hren
 have HS : Hid ((fun w' => w'.cell? ⟨sb, 0, none⟩ = some (.pointer (some ⟨s, 0, none⟩)) ∧ w'.cell? ⟨s, 0, none⟩ = some (.pointer (some ⟨fb, 0, none⟩)) ∧ w'.cell? ⟨tb, 0, none⟩ = some (.string tm) ∧ w'.cell? ⟨qb, 0, none⟩ = some (.int .u8 qn) ∧ w'.cell? ⟨nb, 0, none⟩ = some (.int .i64 id)) w.drew) := hS0
 have Hfb := Lib.hid hfb
 clear hname hren hGo hfb htm hqn hnm h hx hfu hnl hll ht hI hqb hnb rqb rnb hbd
 go_enter Tryz.func170, Tryz.ntmps170
 go_upto_region 1 with fail
 refine wp_region_noPanic ?_
 refine wp_region_held_drew (S := (fun w' => w'.cell? ⟨sb, 0, none⟩ = some (.pointer (some ⟨s, 0, none⟩)) ∧ w'.cell? ⟨s, 0, none⟩ = some (.pointer (some ⟨fb, 0, none⟩)) ∧ w'.cell? ⟨tb, 0, none⟩ = some (.string tm) ∧ w'.cell? ⟨qb, 0, none⟩ = some (.int .u8 qn) ∧ w'.cell? ⟨nb, 0, none⟩ = some (.int .i64 id))) (by kernel_rfl) (by first | with_reducible exact HS.out | with_reducible exact hSn | with_reducible exact hS1) (fun hHeld => ?_)
 refine tkP 0 ?_
 refine tkP 1 ?_
 refine tkP 2 ?_
 refine tkP 3 ?_
 refine tkP 4 ?_
 refine tkP 5 ?_
 refine tkP 6 ?_
 refine rdH 7 fun K hK => ?_
 go_simp
 go_at_call 12; refine (Hn.out).mono ?_; rintro e wn ⟨rfl, hSn, hbn⟩
 refine hK.out _ _ (by (try dsimp only); first | with_reducible exact HS.out | with_reducible exact hSn | with_reducible exact hS1) (fun hHeld => ?_)
 clear hK K
 try simp only [Act.put, qA, qB, qC]
 refine rdH 8 fun K hK => ?_
 go_simp
 go_at_call 111; refine (Hr.out wn hbn).mono ?_; rintro e wu ⟨v, lv, ρ', rfl, hS1, hF, hst⟩
 refine hK.out _ _ (by (try dsimp only); first | with_reducible exact HS.out | with_reducible exact hSn | with_reducible exact hS1) (fun hHeld => ?_)
 clear hK K
 try simp only [Act.put, qA, qB, qC]
 refine tkP 9 ?_
 refine wpAnyH_done (by kernel_rfl) ?_ _
 refine NoPanic.normal ?_
 go_wp2
 go_ret
 exact ⟨v, lv, ρ', FsDone.mk rfl (by rw [Hfb.out]; exact hF) hst⟩
structure FsOk (d : FsD) : Prop where
 f0 : -1 ≤ d.fuse
 f1 : d.fuse ≤ 9223372036854775807
 n : d.now.length ≤ 256
 r0 : 0 ≤ d.room
 r1 : d.room ≤ 16777216
theorem FsOk.fuse {d : FsD} (h : FsOk d) : -1 ≤ d.fuse ∧ d.fuse ≤ 9223372036854775807 := ⟨h.f0, h.f1⟩
theorem FsOk.room {d : FsD} (h : FsOk d) : 0 ≤ d.room ∧ d.room ≤ 16777216 := ⟨h.r0, h.r1⟩
def FsGo (d d' : FsD) (k : Nat) : Prop := FsOk d' ∧ d'.loose.length ≤ d.loose.length + k
theorem FsGo.refl {d : FsD} (h : FsOk d) : FsGo d d 0 := ⟨h, Nat.le_refl _⟩
theorem FsGo.mono {d d' : FsD} {k m : Nat} (h : FsGo d d' k) (hk : k ≤ m) : FsGo d d' m := ⟨h.1, by have := h.2; omega⟩
theorem FsGo.trans {a b c : FsD} {k m : Nat} (h : FsGo a b k) (g : FsGo b c m) : FsGo a c (k + m) := ⟨g.1, by have := h.2; have := g.2; omega⟩
theorem power_go {d : FsD} (h : FsOk d) : FsGo d (powerD d).2 0 := by
 unfold powerD
 split
 ·exact ⟨⟨h.f0, h.f1, h.n, h.r0, h.r1⟩, Nat.le_refl _⟩
 ·refine ⟨⟨?_, ?_, h.n, h.r0, h.r1⟩, Nat.le_refl _⟩
  ·show -1 ≤ (if 0 < d.fuse then d.fuse - 1 else d.fuse)
   have := h.f0; split <;> omega
  ·show (if 0 < d.fuse then d.fuse - 1 else d.fuse) ≤ _
   have := h.f1; split <;> omega
theorem power_same (d : FsD) : (powerD d).2.now = d.now ∧ (powerD d).2.sure = d.sure ∧ (powerD d).2.loose = d.loose ∧ (powerD d).2.room = d.room ∧ (powerD d).2.file = d.file := by
 unfold powerD; split <;> exact ⟨rfl, rfl, rfl, rfl, rfl⟩
theorem ins_length (x : Nm × Nat) : ∀ l : Dir, (l.ins x).length = l.length + 1
 | [] => rfl
 | y :: r => by
  rw [Dir.ins]
  split
  ·rfl
  ·rw [List.length_cons, ins_length x r]; rfl
theorem del_le (l : Dir) (n : Nm) : (l.del n).length ≤ l.length := List.length_filter_le _ _
theorem put_le (l : Dir) (n : Nm) (x : Nat) : (l.put n x).length ≤ l.length + 1 := by
 unfold Dir.put; rw [ins_length]; have := del_le l n; omega
theorem del_lt {l : Dir} {n : Nm} {x : Nat} (h : (n, x) ∈ l) : (l.del n).length < l.length := by
 unfold Dir.del
 exact List.length_filter_lt_length_iff_exists.2 ⟨(n, x), h, by simp⟩
theorem on_le {d : FsD} {c : Chg} (hn : d.now.length ≤ 256) (hc : ∀ n x, c = .create n x → d.now.length < 256) : (c.on d.now).length ≤ 256 := by
 cases c with
 | create n x => have := put_le d.now n x; have := hc n x rfl; show (d.now.put n x).length ≤ _; omega
 | unlink n => have := del_le d.now n; show (d.now.del n).length ≤ _; omega
 | rename a b =>
  show (match d.now.look a with | some x => (d.now.put b x).del a | none => d.now).length ≤ 256
  cases hx : d.now.look a with
  | none => exact hn
  | some x =>
   show ((d.now.put b x).del a).length ≤ 256
   by_cases hab : a = b
   ·subst hab
    have h1 : ((a, x) : Nm × Nat) ∈ d.now.put a x := (mem_ins _ _ _).2 (.inl rfl)
    have := del_lt h1
    have := put_le d.now a x
    omega
   ·have h0 := look_mem hx
    have h1 : ((a, x) : Nm × Nat) ∈ d.now.put b x := (mem_ins _ _ _).2 (.inr (List.mem_filter.2 ⟨h0, by simpa using hab⟩))
    have := del_lt h1
    have := put_le d.now b x
    omega
theorem change_go {d : FsD} {c : Chg} {v lv : Value} (h : FsOk d) (hc : ∀ n x, c = .create n x → d.now.length < 256) : FsGo d (changeD d c v lv).2 1 := by
 unfold changeD
 split
 ·exact ⟨⟨h.f0, h.f1, h.n, h.r0, h.r1⟩, by simp⟩
 ·have hp := (power_go h).1
  obtain ⟨s1, s2, s3, s4, s5⟩ := power_same d
  exact ⟨⟨hp.f0, hp.f1, on_le h.n hc, hp.r0, hp.r1⟩, by show (d.loose ++ [(c, v)]).length ≤ _; simp⟩
theorem set_go {d : FsD} {x : Nat} {c : FileC} (h : FsOk d) : FsGo d (d.setFile x c) 0 := ⟨⟨h.f0, h.f1, h.n, h.r0, h.r1⟩, Nat.le_refl _⟩
theorem upd_go {d : FsD} {n : Nm} {g : FileC → FileC} (h : FsOk d) : FsGo d (d.upd n g) 0 := by
 unfold FsD.upd
 split
 ·split
  ·exact set_go h
  ·exact FsGo.refl h
 ·exact FsGo.refl h
theorem create_go {d : FsD} {n : Nm} {x : Nat} {v lv : Value} (h : FsOk d) : FsGo d (createD d n x v lv).2 1 := by
 unfold createD
 split
 ·split
  ·exact (FsGo.refl h).mono (by omega)
  ·split
   ·exact (FsGo.refl h).mono (by omega)
   ·rename_i h1 h2 h3
    have := change_go (d := d.setFile x file0) (c := .create n x) (v := v) (lv := lv) (set_go h).1 (fun _ _ _ => by show d.now.length < 256; omega)
    exact this
 ·exact (FsGo.refl h).mono (by omega)
theorem unlink_go {d : FsD} {n : Nm} {v lv : Value} (h : FsOk d) : FsGo d (unlinkD d n v lv).2 1 := by
 unfold unlinkD
 split
 ·exact change_go h (fun _ _ e => by cases e)
 ·exact (FsGo.refl h).mono (by omega)
theorem rename_go {d : FsD} {a b : Nm} {v lv : Value} (h : FsOk d) : FsGo d (renameD d a b v lv).2 1 := by
 unfold renameD
 split
 ·split
  ·exact (power_go h).mono (by omega)
  ·exact change_go h (fun _ _ e => by cases e)
 ·exact (FsGo.refl h).mono (by omega)
theorem sync_go {d : FsD} {n : Nm} (h : FsOk d) : FsGo d (syncD d n).2 0 := by
 unfold syncD
 split
 ·split
  ·exact (power_go h).trans (upd_go (power_go h).1)
  ·exact power_go h
 ·exact FsGo.refl h
theorem append_go {d : FsD} {n : Nm} {bs : List UInt8} {row : Value} (h : FsOk d) : FsGo d (appendD d n bs row).2 0 := by
 unfold appendD
 split
 ·split
  ·exact FsGo.refl h
  ·split
   ·exact (power_go h).trans (upd_go (power_go h).1)
   ·exact power_go h
 ·exact FsGo.refl h
theorem dirSync_go {d : FsD} {ms : Nat} (h : FsOk d) : FsGo d (dirSyncD d ms).2 0 := by
 unfold dirSyncD
 split
 ·split
  ·have hp := (power_go h).1
   exact ⟨⟨hp.f0, hp.f1, hp.n, hp.r0, hp.r1⟩, by show ([] : List (Chg × Value)).length ≤ _; simp⟩
  ·exact power_go h
 ·exact FsGo.refl h
inductive Run (S : Nat → FsD → Int → FsD → Prop) (d0 : FsD) : Nat → FsD → Prop
 | zero : Run S d0 0 d0
 | step {i : Nat} {a b : FsD} : Run S d0 i a → S i a 0 b → Run S d0 (i + 1) b
def Outcome (S : Nat → FsD → Int → FsD → Prop) (n : Nat) (d0 : FsD) (er : Int) (fs : FsD) : Prop := (er = 0 ∧ Run S d0 n fs) ∨ (er ≠ 0 ∧ ∃ i a, i < n ∧ Run S d0 i a ∧ S i a er fs)
def layS (tmp nm : Nm) (bs : List UInt8) (i : Nat) (fs : FsD) (er : Int) (fs' : FsD) : Prop :=
 match i with
 | 0 => ∃ v lv, er = (if (unlinkD fs tmp v lv).1 = 4 then 0 else (unlinkD fs tmp v lv).1) ∧ fs' = (unlinkD fs tmp v lv).2
 | 1 => ∃ (x : FreshOf fs) (v lv : Value), er = (createD fs tmp x.x v lv).1 ∧ fs' = (createD fs tmp x.x v lv).2
 | 2 => ∃ row, er = (appendD fs tmp bs row).1 ∧ fs' = (appendD fs tmp bs row).2
 | 3 => er = (syncD fs tmp).1 ∧ fs' = (syncD fs tmp).2
 | 4 => ∃ v lv, er = (renameD fs tmp nm v lv).1 ∧ fs' = (renameD fs tmp nm v lv).2
 | _ => ∃ ms, er = (dirSyncD fs ms).1 ∧ fs' = (dirSyncD fs ms).2
structure LayAll (w : World) (ρ : Rho) (s sb tb qb nb bb cb : Nat) (tmp : Nm) (q : UInt8) (id : Int) (aB : Option Addr) (cB : Nat) (bs : List UInt8) (cl : List Value) : Prop where
 bx : LayBox w ρ sb tb s tmp
 hq : w.heap[qb]? = some (.cells #[.int .u8 q.toNat] 5 (0, 0))
 hn : w.heap[nb]? = some (.cells #[.int .i64 id] 3 (0, 0))
 hb : w.heap[bb]? = some (.cells #[.slice aB bs.length cB] 22 (0, 0))
 hc : RdL 1 v1 w (.slice (some ⟨cb, 0, none⟩) 6 6) cl
 hv : RdB w (.slice aB bs.length cB) bs
 rq : ρ qb = none
 rn : ρ nb = none
 rb : ρ bb = none
 rc : ρ cb = none
 fr : ∀ k, (Value.slice aB bs.length cB).ownBlock = some k → ρ k = none ∧ k < w.heap.size ∧ k ≠ s
 ne : sb ≠ s ∧ tb ≠ s ∧ qb ≠ s ∧ nb ≠ s ∧ bb ≠ s ∧ cb ≠ s
 lt : cb < w.heap.size
section
variable {w w' : World} {ρ ρ' : Rho} {s sb tb qb nb bb cb : Nat} {tmp : Nm} {q : UInt8} {id : Int} {aB : Option Addr} {cB : Nat} {bs : List UInt8} {cl : List Value}
theorem LayAll.go {F : Nat → Prop} (h : LayAll w ρ s sb tb qb nb bb cb tmp q id aB cB bs cl) (hk : Keeps F w w') (hF : ∀ k, F k → ρ.has k ∨ k = s) (hr : ∀ k, ρ k = none → k < w.heap.size → ρ' k = none) : LayAll w' ρ' s sb tb qb nb bb cb tmp q id aB cB bs cl := by
 have hn : ∀ {k : Nat}, ρ k = none → k ≠ s → ¬ F k := fun h1 h2 h3 => (hF _ h3).elim (Rho.not_has h1) h2
 obtain ⟨n1, n2, n3, n4, n5, n6⟩ := h.ne
 have lt : ∀ {b : Nat} {o : Obj}, w.heap[b]? = some o → b < w.heap.size := fun h => (Array.getElem?_eq_some_iff.1 h).1
 exact ⟨⟨hk.heap h.bx.bs (hn h.bx.rs n1), hk.heap h.bx.bt (hn h.bx.rt n2), hr _ h.bx.rs (lt h.bx.bs), hr _ h.bx.rt (lt h.bx.bt)⟩, hk.heap h.hq (hn h.rq n3), hk.heap h.hn (hn h.rn n4), hk.heap h.hb (hn h.rb n5),
  h.hc.keeps hk (fun b o l c e => by injection e with e; injection e with e; injection e with e; rw [← e]; exact hn h.rc n6), h.hv.keeps hk (fun k e => hn (h.fr k e).1 (h.fr k e).2.2),
  hr _ h.rq (lt h.hq), hr _ h.rn (lt h.hn), hr _ h.rb (lt h.hb), hr _ h.rc h.lt, fun k e => ⟨hr _ (h.fr k e).1 (h.fr k e).2.1, Nat.lt_of_lt_of_le (h.fr k e).2.1 hk.size, (h.fr k e).2.2⟩, h.ne, Nat.lt_of_lt_of_le h.lt hk.size⟩
end
structure LayP (w0 : World) (d : StoD) (ρ0 : Rho) (s sb tb qb nb bb cb : Nat) (tmp nm : Nm) (q : UInt8) (id : Int) (aB : Option Addr) (cB : Nat) (bs : List UInt8) (cl : List Value) (i : Nat) (fs : FsD) (ρ : Rho) (w : World) : Prop where
 at_ : StoAt w s { d with fs := fs } ρ
 step : StoStep w0 s d ρ0 w { d with fs := fs } ρ
 run : Run (layS tmp nm bs) d.fs i fs
 go : FsGo d.fs fs i
 all : LayAll w ρ s sb tb qb nb bb cb tmp q id aB cB bs cl
def LayX (w0 : World) (d : StoD) (ρ0 : Rho) (s sb tb : Nat) (tmp nm : Nm) (bs : List UInt8) (er : Int) (w : World) : Prop :=
 ∃ fs ρ i a, StoAt w s { d with fs := fs, down := d.down || decide (er = 2) } ρ ∧ StoStep w0 s d ρ0 w { d with fs := fs, down := d.down || decide (er = 2) } ρ ∧ i < 6 ∧ Run (layS tmp nm bs) d.fs i a ∧ layS tmp nm bs i a er fs ∧ FsGo d.fs fs 6 ∧ LayBox w ρ sb tb s tmp
section
variable {w0 : World} {d : StoD} {ρ0 : Rho} {s sb tb qb nb bb cb : Nat} {tmp nm : Nm} {q : UInt8} {id : Int} {aB : Option Addr} {cB : Nat} {bs : List UInt8} {cl : List Value}
theorem lay_after {i : Nat} (hi : i < 6) {fs fs' : FsD} {ρ ρ' : Rho} {w w' : World} {er : Int} (h : LayP w0 d ρ0 s sb tb qb nb bb cb tmp nm q id aB cB bs cl i fs ρ w) (hF : FsAt w' d.fb fs' ρ') (hst : FsStep w ρ w' ρ') (hS : layS tmp nm bs i fs er fs') (hgo : FsGo fs fs' 1) :
 w'.cell? ⟨s, 3, none⟩ = some (.bool d.down) ∧ w'.frozen? ⟨s, 3, none⟩ = false ∧
 (er = 0 → ∃ fs2 ρ2, LayP w0 d ρ0 s sb tb qb nb bb cb tmp nm q id aB cB bs cl (i + 1) fs2 ρ2 (w'.setCell ⟨s, 3, none⟩ (.bool d.down))) ∧ (er ≠ 0 → LayX w0 d ρ0 s sb tb tmp nm bs er (w'.setCell ⟨s, 3, none⟩ (.bool (d.down || decide (er = 2))))) := by
 obtain ⟨h1, h2⟩ := h.at_.fsStep (d := { d with fs := fs }) hF hst
 have hc := cells4 h1.hd
 have hk : ∀ b : Bool, Keeps (fun k => k = s) w' (w'.setCell ⟨s, 3, none⟩ (.bool b)) := fun b => Keeps.setCell _ _ _ rfl
 refine ⟨hc.1.2.2.2, hc.2 3, fun e0 => ?_, fun e0 => ?_⟩
 ·subst e0
  obtain ⟨h3, h4⟩ := h1.head (d' := { d with fs := fs' }) (hk d.down) rfl (heap_setCell_same _ _ 3 _ _ _ h1.hd)
  refine ⟨fs', ρ', h3, (h.step.trans h2).trans h4, .step h.run hS, h.go.trans hgo, ?_⟩
  have a1 := h.all.go (ρ' := ρ') hst.keeps (fun k e => .inl e) (fun k e l => Rho.none_go e l hst)
  exact a1.go (ρ' := ρ') (hk d.down) (fun k e => .inr e) (fun k e _ => e)
 ·obtain ⟨h3, h4⟩ := h1.head (d' := { d with fs := fs', down := d.down || decide (er = 2) }) (hk (d.down || decide (er = 2))) rfl (heap_setCell_same _ _ 3 _ _ _ h1.hd)
  have a1 := h.all.go (ρ' := ρ') hst.keeps (fun k e => .inl e) (fun k e l => Rho.none_go e l hst)
  have a2 := a1.go (ρ' := ρ') (hk (d.down || decide (er = 2))) (fun k e => .inr e) (fun k e _ => e)
  exact ⟨fs', ρ', i, fs, h3, (h.step.trans h2).trans h4, hi, h.run, hS, (h.go.trans hgo).mono (by omega), a2.bx⟩
end
end Go.Proofs.YtffnbkmigapmjaaGreatDoor
