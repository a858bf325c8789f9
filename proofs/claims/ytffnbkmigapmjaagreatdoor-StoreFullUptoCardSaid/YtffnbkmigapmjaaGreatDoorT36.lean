/- Printed out of the texts of wip/tpl. -/
import Derived.Test.YtffnbkmigapmjaaGreatDoorT4
import Derived.Test.YtffnbkmigapmjaaGreatDoorT10
import Derived.Test.YtffnbkmigapmjaaGreatDoorT35
set_option linter.unusedSimpArgs false
set_option linter.unusedVariables false
set_option maxRecDepth 100000
namespace Go.Proofs.YtffnbkmigapmjaaGreatDoor
open Go.RowKit Go.Maps
set_option maxHeartbeats 8000000 in
theorem mrk1_calls (sb tb s : Nat) (tmp : Nm) (d : StoD) (ρ : Rho) (bb : Nat) (aB : Option Addr) (cB : Nat) (bs : List UInt8) (w : World) (h : StoAt w s d ρ) (hx : LayBox w ρ sb tb s tmp) (ht : tmp.length ≤ maxLen) (hfu : -1 ≤ d.fs.fuse ∧ d.fs.fuse ≤ 9223372036854775807) (hnl : d.fs.now.length ≤ 256) (hll : d.fs.loose.length ≤ 1000000) (hroom : 0 ≤ d.fs.room ∧ d.fs.room ≤ 16777216) (hbb : w.heap[bb]? = some (.cells #[.slice aB bs.length cB] 22 (0, 0))) (hrb : ρ bb = none) (hv : RdB w (.slice aB bs.length cB) bs) (hnv : NilOk (.slice aB bs.length cB)) (hfree : ∀ k, (Value.slice aB bs.length cB).ownBlock = some k → ρ k = none) :
 Calls Tryz.prog 68 #[.pointer (some ⟨sb, 0, none⟩), .pointer (some ⟨tb, 0, none⟩), .pointer (some ⟨bb, 0, none⟩)] w fun e w' => ∃ row ρ', FsDone d.fb ρ w e w' (appendD d.fs tmp bs row).1 (appendD d.fs tmp bs row).2 ρ' := by
 have hS0 : (fun w' => w'.cell? ⟨sb, 0, none⟩ = some (.pointer (some ⟨s, 0, none⟩)) ∧ w'.cell? ⟨s, 0, none⟩ = some (.pointer (some ⟨d.fb, 0, none⟩)) ∧ w'.cell? ⟨tb, 0, none⟩ = some (.string (strL tmp)) ∧ w'.cell? ⟨bb, 0, none⟩ = some (.slice aB bs.length cB)) w := ⟨cell1 hx.bs, (cells4 h.hd).1.1, cell1 hx.bt, cell1 hbb⟩
 have hGo : ∀ w' ρ', FsStep w ρ w' ρ' → (fun w' => w'.cell? ⟨sb, 0, none⟩ = some (.pointer (some ⟨s, 0, none⟩)) ∧ w'.cell? ⟨s, 0, none⟩ = some (.pointer (some ⟨d.fb, 0, none⟩)) ∧ w'.cell? ⟨tb, 0, none⟩ = some (.string (strL tmp)) ∧ w'.cell? ⟨bb, 0, none⟩ = some (.slice aB bs.length cB)) w' := fun w' ρ' hst => ⟨hst.cell hx.rs hS0.1, hst.cell h.rs hS0.2.1, hst.cell hx.rt hS0.2.2.1, hst.cell hrb hS0.2.2.2⟩
 have hcall : Calls Tryz.prog 16 #[.pointer (some ⟨d.fb, 0, none⟩), .string (strL tmp), .slice aB bs.length cB] w.drew fun e w' => ∃ row ρ', e = .returned (.int .i64 (appendD d.fs tmp bs row).1) ∧ FsAt w' d.fb (appendD d.fs tmp bs row).2 ρ' ∧ FsStep w.drew ρ w' ρ' := append_calls d.fb d.fs ρ tmp _ bs w.drew (h.fs.below (Below.refl w.heap.size w).drew) ht hfu hnl hroom (hv.below (Nat.le_refl _) (Below.refl w.heap.size w).drew) hnv hfree
 have hcall : Calls Tryz.prog 16 #[.pointer (some ⟨d.fb, 0, none⟩), .string (strL tmp), .slice aB bs.length cB] w.drew fun e w' => ∃ row ρ', e = .returned (.int .i64 (appendD d.fs tmp bs row).1) ∧ (fun w' => w'.cell? ⟨sb, 0, none⟩ = some (.pointer (some ⟨s, 0, none⟩)) ∧ w'.cell? ⟨s, 0, none⟩ = some (.pointer (some ⟨d.fb, 0, none⟩)) ∧ w'.cell? ⟨tb, 0, none⟩ = some (.string (strL tmp)) ∧ w'.cell? ⟨bb, 0, none⟩ = some (.slice aB bs.length cB)) w' ∧ FsAt w' d.fb (appendD d.fs tmp bs row).2 ρ' ∧ FsStep w ρ w' ρ' :=
  hcall.mono fun e w' ⟨row, ρ', he, hF, hst⟩ => ⟨row, ρ', he, hGo _ _ ((FsStep.below (ρ := ρ) (Below.refl w.heap.size w).drew).trans hst), hF, (FsStep.below (ρ := ρ) (Below.refl w.heap.size w).drew).trans hst⟩
 obtain ⟨fb, hfb⟩ : ∃ fb, d.fb = fb := ⟨_, rfl⟩
 obtain ⟨tm, htm⟩ : ∃ tm, strL tmp = tm := ⟨_, rfl⟩
 rw [htm, hfb] at hS0 hcall
 have Hc := Lib.hid hcall
 have HS : Hid ((fun w' => w'.cell? ⟨sb, 0, none⟩ = some (.pointer (some ⟨s, 0, none⟩)) ∧ w'.cell? ⟨s, 0, none⟩ = some (.pointer (some ⟨fb, 0, none⟩)) ∧ w'.cell? ⟨tb, 0, none⟩ = some (.string tm) ∧ w'.cell? ⟨bb, 0, none⟩ = some (.slice aB bs.length cB)) w.drew) := hS0
 have Hfb := Lib.hid hfb
 clear hcall hGo hfb htm h hx hfu hnl hll ht
 go_enter Tryz.func68, Tryz.ntmps68
 go_upto_region 1 with fail
 refine wp_region_noPanic ?_
 refine wp_region_held_drew (S := (fun w' => w'.cell? ⟨sb, 0, none⟩ = some (.pointer (some ⟨s, 0, none⟩)) ∧ w'.cell? ⟨s, 0, none⟩ = some (.pointer (some ⟨fb, 0, none⟩)) ∧ w'.cell? ⟨tb, 0, none⟩ = some (.string tm) ∧ w'.cell? ⟨bb, 0, none⟩ = some (.slice aB bs.length cB))) (by kernel_rfl) (by first | with_reducible exact HS.out | with_reducible exact hS1) (fun hHeld => ?_)
 refine tkP 0 ?_
 refine tkP 1 ?_
 refine tkP 2 ?_
 refine tkP 3 ?_
 refine tkP 4 ?_
 refine tkP 5 ?_
 refine rdH 6 fun K hK => ?_
 go_simp
 go_at_call 16; refine (Hc.out).mono ?_; rintro e wu ⟨row, ρ', rfl, hS1, hF, hst⟩
 refine hK.out _ _ (by (try dsimp only); first | with_reducible exact HS.out | with_reducible exact hS1) (fun hHeld => ?_)
 clear hK K
 try simp only [Act.put, qA, qB, qC]
 refine tkP 7 ?_
 refine wpAnyH_done (by kernel_rfl) ?_ _
 refine NoPanic.normal ?_
 go_wp2
 go_ret
 exact ⟨row, ρ', FsDone.mk rfl (by rw [Hfb.out]; exact hF) hst⟩
set_option maxHeartbeats 8000000 in
theorem mrk2_calls (sb tb s : Nat) (tmp : Nm) (d : StoD) (ρ : Rho) (w : World) (h : StoAt w s d ρ) (hx : LayBox w ρ sb tb s tmp) (ht : tmp.length ≤ maxLen) (hfu : -1 ≤ d.fs.fuse ∧ d.fs.fuse ≤ 9223372036854775807) (hnl : d.fs.now.length ≤ 256) (hll : d.fs.loose.length ≤ 1000000) :
 Calls Tryz.prog 69 #[.pointer (some ⟨sb, 0, none⟩), .pointer (some ⟨tb, 0, none⟩)] w fun e w' => FsDone d.fb ρ w e w' (syncD d.fs tmp).1 (syncD d.fs tmp).2 ρ := by
 have hS0 : (fun w' => w'.cell? ⟨sb, 0, none⟩ = some (.pointer (some ⟨s, 0, none⟩)) ∧ w'.cell? ⟨s, 0, none⟩ = some (.pointer (some ⟨d.fb, 0, none⟩)) ∧ w'.cell? ⟨tb, 0, none⟩ = some (.string (strL tmp))) w := ⟨cell1 hx.bs, (cells4 h.hd).1.1, cell1 hx.bt⟩
 have hGo : ∀ w' ρ', FsStep w ρ w' ρ' → (fun w' => w'.cell? ⟨sb, 0, none⟩ = some (.pointer (some ⟨s, 0, none⟩)) ∧ w'.cell? ⟨s, 0, none⟩ = some (.pointer (some ⟨d.fb, 0, none⟩)) ∧ w'.cell? ⟨tb, 0, none⟩ = some (.string (strL tmp))) w' := fun w' ρ' hst => ⟨hst.cell hx.rs hS0.1, hst.cell h.rs hS0.2.1, hst.cell hx.rt hS0.2.2⟩
 have hcall : Calls Tryz.prog 70 #[.pointer (some ⟨d.fb, 0, none⟩), .string (strL tmp)] w.drew fun e w' => e = .returned (.int .i64 (syncD d.fs tmp).1) ∧ FsAt w' d.fb (syncD d.fs tmp).2 ρ ∧ FsStep w.drew ρ w' ρ := sync_calls d.fb d.fs ρ tmp w.drew (h.fs.below (Below.refl w.heap.size w).drew) ht hfu
 have hcall : Calls Tryz.prog 70 #[.pointer (some ⟨d.fb, 0, none⟩), .string (strL tmp)] w.drew fun e w' => e = .returned (.int .i64 (syncD d.fs tmp).1) ∧ (fun w' => w'.cell? ⟨sb, 0, none⟩ = some (.pointer (some ⟨s, 0, none⟩)) ∧ w'.cell? ⟨s, 0, none⟩ = some (.pointer (some ⟨d.fb, 0, none⟩)) ∧ w'.cell? ⟨tb, 0, none⟩ = some (.string (strL tmp))) w' ∧ FsAt w' d.fb (syncD d.fs tmp).2 ρ ∧ FsStep w ρ w' ρ :=
  hcall.mono fun e w' ⟨he, hF, hst⟩ => ⟨he, hGo _ _ ((FsStep.below (ρ := ρ) (Below.refl w.heap.size w).drew).trans hst), hF, (FsStep.below (ρ := ρ) (Below.refl w.heap.size w).drew).trans hst⟩
 obtain ⟨fb, hfb⟩ : ∃ fb, d.fb = fb := ⟨_, rfl⟩
 obtain ⟨tm, htm⟩ : ∃ tm, strL tmp = tm := ⟨_, rfl⟩
 rw [htm, hfb] at hS0 hcall
 have Hc := Lib.hid hcall
 have HS : Hid ((fun w' => w'.cell? ⟨sb, 0, none⟩ = some (.pointer (some ⟨s, 0, none⟩)) ∧ w'.cell? ⟨s, 0, none⟩ = some (.pointer (some ⟨fb, 0, none⟩)) ∧ w'.cell? ⟨tb, 0, none⟩ = some (.string tm)) w.drew) := hS0
 have Hfb := Lib.hid hfb
 clear hcall hGo hfb htm h hx hfu hnl hll ht
 go_enter Tryz.func69, Tryz.ntmps69
 go_upto_region 1 with fail
 refine wp_region_noPanic ?_
 refine wp_region_held_drew (S := (fun w' => w'.cell? ⟨sb, 0, none⟩ = some (.pointer (some ⟨s, 0, none⟩)) ∧ w'.cell? ⟨s, 0, none⟩ = some (.pointer (some ⟨fb, 0, none⟩)) ∧ w'.cell? ⟨tb, 0, none⟩ = some (.string tm))) (by kernel_rfl) (by first | with_reducible exact HS.out | with_reducible exact hS1) (fun hHeld => ?_)
 refine tkP 0 ?_
 refine tkP 1 ?_
 refine tkP 2 ?_
 refine tkP 3 ?_
 refine tkP 4 ?_
 refine rdH 5 fun K hK => ?_
 go_simp
 go_at_call 70; refine (Hc.out).mono ?_; rintro e wu ⟨rfl, hS1, hF, hst⟩
 refine hK.out _ _ (by (try dsimp only); first | with_reducible exact HS.out | with_reducible exact hS1) (fun hHeld => ?_)
 clear hK K
 try simp only [Act.put, qA, qB, qC]
 refine tkP 6 ?_
 refine wpAnyH_done (by kernel_rfl) ?_ _
 refine NoPanic.normal ?_
 go_wp2
 go_ret
 exact FsDone.mk rfl (by rw [Hfb.out]; exact hF) hst
def mrkS (n : Nm) (bs : List UInt8) (i : Nat) (fs : FsD) (er : Int) (fs' : FsD) : Prop := match i with | 0 => ∃ row, er = (appendD fs n bs row).1 ∧ fs' = (appendD fs n bs row).2 | _ => er = (syncD fs n).1 ∧ fs' = (syncD fs n).2
def MarkR (d : StoD) (id : Int) (k : MarkD) (er : Int) (d' : StoD) : Prop :=
 (k.good = false ∧ er = 1 ∧ d' = d) ∨ (k.good = true ∧ (((atD d id).2 ≠ 0 ∧ er = (atD d id).2 ∧ d' = d) ∨
  ((atD d id).2 = 0 ∧ ∃ fs2, Outcome (mrkS (nameD (atD d id).1 id) k.bytes) 2 d.fs er fs2 ∧ d' = { d with fs := fs2, down := d.down || decide (er = 2) })))
set_option maxHeartbeats 16000000 in
theorem mark_steps {s sb nb vb cb g cap : Nat} {d : StoD} {ρ : Rho} {W : World} {n : Nm} {bs : List UInt8} {cur : Array Value} {cl : List Value} (h : StoOk W s d ρ) (hll : d.fs.loose.length ≤ 900000) (hn : n.length ≤ maxLen)
 (hcl : cl = [.func (.func 68) #[] #[.pointer (some ⟨sb, 0, none⟩), .pointer (some ⟨nb, 0, none⟩), .pointer (some ⟨vb, 0, none⟩)], .func (.func 69) #[] #[.pointer (some ⟨sb, 0, none⟩), .pointer (some ⟨nb, 0, none⟩)]])
 (h1 : W.heap[sb]? = some (.cells #[.pointer (some ⟨s, 0, none⟩)] 37 (0, 0))) (h2 : W.heap[nb]? = some (.cells #[.string (strL n)] 9 (0, 0))) (h3 : W.heap[vb]? = some (.cells #[.slice (some ⟨g, 0, none⟩) bs.length cap] 22 (0, 0))) (h4 : W.heap[cb]? = some (.cells cl.toArray 171 (0, 0)))
 (h5 : W.heap[g]? = some (.cells cur 5 (0, 0))) (hc1 : bs.length ≤ cap) (hc2 : cap ≤ maxLen) (hc3 : cur.size = cap * 1) (hc4 : cur.toList.take (bs.length * 1) = bs.map u8v)
 (n1 : ¬ stoOwn s d ρ sb) (n2 : ¬ stoOwn s d ρ nb) (n3 : ¬ stoOwn s d ρ vb) (n4 : ¬ stoOwn s d ρ cb) (n5 : ¬ stoOwn s d ρ g) :
 Calls Tryz.prog 67 #[.pointer (some ⟨s, 0, none⟩), .slice (some ⟨cb, 0, none⟩) 2 2] W fun e w' => ∃ er fs ρ', StepsDone (mrkS n bs) 2 W s d ρ e w' er fs ρ' := by
 refine steps_gen (S := mrkS n bs) (n := 2) (w0 := W) (W := W) (d := d) (ρ0 := ρ) (s := s) (bx := [(sb, .cells #[.pointer (some ⟨s, 0, none⟩)] 37 (0, 0)), (nb, .cells #[.string (strL n)] 9 (0, 0)), (vb, .cells #[.slice (some ⟨g, 0, none⟩) bs.length cap] 22 (0, 0)), (g, .cells cur 5 (0, 0)), (cb, .cells cl.toArray 171 (0, 0))]) (cb := cb) (cl := cl) (by rw [hcl]; rfl) (by decide) (by simp) ⟨h, StoStep.refl _ _ _ _, .zero, FsGo.refl h.ok, ?_, ?_⟩ ?_
 ·intro p hp
  simp only [List.mem_cons, List.not_mem_nil, or_false] at hp
  rcases hp with rfl | rfl | rfl | rfl | rfl
  ·exact h1
  ·exact h2
  ·exact h3
  ·exact h5
  ·exact h4
 ·intro p hp
  simp only [List.mem_cons, List.not_mem_nil, or_false] at hp
  rcases hp with rfl | rfl | rfl | rfl | rfl
  ·exact n1
  ·exact n2
  ·exact n3
  ·exact n5
  ·exact n4
 ·intro i f hf
  rw [hcl] at hf
  match i, hf with
  | 0, hf =>
   cases hf
   refine ⟨_, _, _, rfl, enters_of Tryz.func68 (by kernel_rfl) rfl, ?_⟩
   intro fs ρ1 w1 hP
   have hb := hP.hbx
   have hn' := hP.new
   simp only [List.mem_cons, List.not_mem_nil, or_false, forall_eq_or_imp, forall_eq] at hb hn'
   have hr : ∀ {k : Nat}, ¬ stoOwn s { d with fs := fs } ρ1 k → ρ1 k = none := fun {k} hk => by
    cases hx : ρ1 k with
    | none => rfl
    | some r => exact absurd (Or.inl (Rho.has_of hx)) hk
   have hrow : w1.ownsRow 0 5 1 (.slice (some ⟨g, 0, none⟩) bs.length cap) bs.length (bs.map u8v) := ⟨by simp, .inr ⟨g, cap, cur, rfl, Nat.zero_le _, hb.2.2.2.1, hc1, hc2, hc3, hc4⟩⟩
   refine (mrk1_calls sb nb s n { d with fs := fs } ρ1 vb (some ⟨g, 0, none⟩) cap bs w1 hP.at_.at_ ⟨hb.1, hb.2.1, hr hn'.1, hr hn'.2.1⟩ hn hP.go.1.fuse hP.go.1.n (by have := hP.go.2; dsimp only; omega) hP.go.1.room hb.2.2.1 (hr hn'.2.2.1) (rdB_ofOwn hrow) (nilOk_own hrow) (fun k e => by cases e; exact hr hn'.2.2.2.1)).mono ?_
   rintro e w' ⟨row, ρ', he, hF, hst⟩
   exact ⟨_, _, ρ', he, hF, hst, ⟨row, rfl, rfl⟩, (append_go hP.go.1).mono (by omega)⟩
  | 1, hf =>
   cases hf
   refine ⟨_, _, _, rfl, enters_of Tryz.func69 (by kernel_rfl) rfl, ?_⟩
   intro fs ρ1 w1 hP
   have hb := hP.hbx
   have hn' := hP.new
   simp only [List.mem_cons, List.not_mem_nil, or_false, forall_eq_or_imp, forall_eq] at hb hn'
   have hr : ∀ {k : Nat}, ¬ stoOwn s { d with fs := fs } ρ1 k → ρ1 k = none := fun {k} hk => by
    cases hx : ρ1 k with
    | none => rfl
    | some r => exact absurd (Or.inl (Rho.has_of hx)) hk
   refine (mrk2_calls sb nb s n { d with fs := fs } ρ1 w1 hP.at_.at_ ⟨hb.1, hb.2.1, hr hn'.1, hr hn'.2.1⟩ hn hP.go.1.fuse hP.go.1.n (by have := hP.go.2; dsimp only; omega)).mono ?_
   rintro e w' ⟨he, hF, hst⟩
   exact ⟨_, _, _, he, hF, hst, ⟨rfl, rfl⟩, (sync_go hP.go.1).mono (by omega)⟩
  | i + 2, hf => cases hf
set_option maxHeartbeats 16000000 in
theorem mark_calls (s : Nat) (d : StoD) (ρ : Rho) (id : Int) (k : MarkD) (w : World) (h : StoOk w s d ρ) (hll : d.fs.loose.length ≤ 800000) (hid : -9223372036854775808 ≤ id ∧ id ≤ 9223372036854775807) :
 Calls Tryz.prog 27 #[.pointer (some ⟨s, 0, none⟩), .int .i64 id, k.val] w fun e w' => ∃ er d' ρ', OpDone (MarkR d id k) w s d ρ e w' er d' ρ' := by
 obtain ⟨kind, rcpt, kn⟩ := k
 obtain ⟨sb, hsb⟩ : ∃ sb, w.heap.size = sb := ⟨_, rfl⟩
 obtain ⟨W, hW⟩ : ∃ W, (w.alloc (.cells #[.pointer (some ⟨s, 0, none⟩)] 37)).alloc (.cells #[.int .i64 kind, .int .i64 rcpt, .int .i64 kn] 53) = W := ⟨_, rfl⟩
 have hbW : Below w.heap.size w W := by rw [← hW]; exact ((Below.refl _ _).alloc (Nat.le_refl _) _).alloc (by simp) _
 have h3 : W.heap[sb]? = some (.cells #[.pointer (some ⟨s, 0, none⟩)] 37 (0, 0)) := by
  rw [← hW, ← hsb]; exact (Below.heap_alloc _ _ _ (by simp)).trans (heap_alloc_new w _)
 have hlt := (Array.getElem?_eq_some_iff.1 h3).1
 have hgd := fun (hg : (MarkD.mk kind rcpt kn).good = true) => markEncode_good ⟨kind, rcpt, kn⟩ W hg
 have hbd := fun (hg : (MarkD.mk kind rcpt kn).good = false) => markEncode_bad ⟨kind, rcpt, kn⟩ W hg
 have hO := h.below hbW
 have Hgd := Lib.hid hgd
 have Hbd := Lib.hid hbd
 have H := Lib.hid (And.intro h (And.intro hll (And.intro hid (And.intro hbW (And.intro h3 (And.intro hlt hO))))))
 have Hsb := Lib.hid hsb
 clear hgd hbd h hll hid hbW h3 hlt hO
 subst hW
 obtain ⟨gd, hg⟩ : ∃ gd, (MarkD.mk kind rcpt kn).good = gd := ⟨_, rfl⟩
 have Hg := Lib.hid hg
 cases gd with
 | false =>
  have Hen := Lib.hid (Hbd.out hg)
  clear hg
  go_enter Tryz.func27, Tryz.ntmps27
  go_wp2_with fail
  refine (Hen.out).mono ?_; rintro e w1 ⟨rfl, hb1⟩
  have hb1' := H.out.2.2.2.1.trans (hb1.mono H.out.2.2.2.1.size)
  have hb2 := hb1'.alloc hb1'.size (.cells #[.slice none 0 0] 22)
  have Hb2 := Lib.hid hb2
  clear hb1 hb1' hb2
  go_wp2
  go_ret
  exact ⟨1, d, ρ, rfl, .inl ⟨Hg.out, rfl, rfl⟩, H.out.1.below Hb2.out, StoStep.below Hb2.out, (FsGo.refl H.out.1.ok).mono (by omega)⟩
 | true =>
  have Hen := Lib.hid (Hgd.out hg)
  clear hg
  obtain ⟨bl, hbl⟩ : ∃ bl, (MarkD.mk kind rcpt kn).bytes = bl := ⟨_, rfl⟩
  have Hbl := Lib.hid hbl
  have hbn : bl ≠ [] := fun e => by
   have := bytes_length (MarkD.mk kind rcpt kn)
   rw [hbl, e] at this; cases this
  rw [hbl] at Hen
  clear hbl
  go_enter Tryz.func27, Tryz.ntmps27
  go_wp2_with fail
  refine (Hen.out).mono ?_; rintro e w1 ⟨v, rfl, hrow, hb1⟩
  obtain ⟨hlr, ⟨_, hx⟩ | ⟨g, cap, cur, rfl, hgb, hcur, hc1, hc2, hc3, hc4⟩⟩ := hrow
  ·exact absurd (by simpa using hx) hbn
  have hb1' := H.out.2.2.2.1.trans (hb1.mono H.out.2.2.2.1.size)
  obtain ⟨W2, hW2⟩ : ∃ W2, w1.alloc (.cells #[.slice (some ⟨g, 0, none⟩) bl.length cap] 22) = W2 := ⟨_, rfl⟩
  have hb2 : Below w1.heap.size w1 W2 := by rw [← hW2]; exact (Below.refl _ _).alloc (Nat.le_refl _) _
  have hvb : W2.heap[w1.heap.size]? = some (.cells #[.slice (some ⟨g, 0, none⟩) bl.length cap] 22 (0, 0)) := by rw [← hW2]; exact heap_alloc_new w1 _
  have hb2' := hb1'.trans (hb2.mono hb1'.size)
  have hO2 := H.out.1.below hb2'
  have hat := at_calls s d ρ id W2 hO2 H.out.2.2.1
  obtain ⟨vb, hvbe⟩ : ∃ vb, w1.heap.size = vb := ⟨_, rfl⟩
  rw [hvbe] at hvb
  have hc3W : W2.cell? ⟨sb, 0, none⟩ = some (.pointer (some ⟨s, 0, none⟩)) := cell1 ((hb2.block _ (by have := hb1.size; have := H.out.2.2.2.2.2.1; omega)).trans ((hb1.block _ H.out.2.2.2.2.2.1).trans H.out.2.2.2.2.1))
  have hst : Hid (W2.heap[sb]? = some (.cells #[.pointer (some ⟨s, 0, none⟩)] 37 (0, 0)) ∧ W2.heap[vb]? = some (.cells #[.slice (some ⟨g, 0, none⟩) bl.length cap] 22 (0, 0)) ∧ W2.heap[g]? = some (.cells cur 5 (0, 0)) ∧ bl.length ≤ cap ∧ cap ≤ maxLen ∧ cur.size = cap * 1 ∧ cur.toList.take (bl.length * 1) = bl.map u8v ∧ w.heap.size ≤ sb ∧ w.heap.size ≤ vb ∧ w.heap.size ≤ g) := Lib.hid ⟨(hb2.block _ (by have := hb1.size; have := H.out.2.2.2.2.2.1; omega)).trans ((hb1.block _ H.out.2.2.2.2.2.1).trans H.out.2.2.2.2.1), hvb, (hb2.block _ (Array.getElem?_eq_some_iff.1 hcur).1).trans hcur, hc1, hc2, hc3, hc4, by omega, by have := hb1'.size; omega, by have := H.out.2.2.2.1.size; omega⟩
  obtain ⟨⟨q, ae⟩, hqa⟩ : ∃ r, atD d id = r := ⟨_, rfl⟩
  rw [hqa] at hat
  obtain ⟨qn, hqn⟩ : ∃ qn : Nat, q.toNat = qn := ⟨_, rfl⟩
  dsimp only at hat
  rw [hqn] at hat
  have Hat := Lib.hid hat
  have H2 := Lib.hid (And.intro hO2 (And.intro hb2' (And.intro hqa hqn)))
  clear hat hO2 hb2' hb2 hb1 hb1' hcur hvb hlr hgb hc1 hc2 hc3 hc4 hqa hqn hbn
  subst hW2
  go_wp2_with fail
  refine (Hat.out).mono ?_; rintro e w4 ⟨rfl, hb4⟩
  by_cases h0 : ae = 0
  ·subst h0
   have hb4' := H2.out.2.1.trans (hb4.mono H2.out.2.1.size)
   have hO4 := H2.out.1.below hb4
   have hnm := name_calls q id w4 (hO4.g.int _)
   obtain ⟨nm, hnme⟩ : ∃ nm, nameD q id = nm := ⟨_, rfl⟩
   obtain ⟨tn, htn⟩ : ∃ tn, strL nm = tn := ⟨_, rfl⟩
   rw [hnme, htn, H2.out.2.2.2] at hnm
   have Hnm := Lib.hid hnm
   have Hnme := Lib.hid (And.intro hnme htn)
   have hst4 : Hid (w4.heap[sb]? = some (.cells #[.pointer (some ⟨s, 0, none⟩)] 37 (0, 0)) ∧ w4.heap[vb]? = some (.cells #[.slice (some ⟨g, 0, none⟩) bl.length cap] 22 (0, 0)) ∧ w4.heap[g]? = some (.cells cur 5 (0, 0))) := Lib.hid (by
    obtain ⟨p1, p2, p3, _⟩ := hst.out
    exact ⟨(hb4.block _ (Array.getElem?_eq_some_iff.1 p1).1).trans p1, (hb4.block _ (Array.getElem?_eq_some_iff.1 p2).1).trans p2, (hb4.block _ (Array.getElem?_eq_some_iff.1 p3).1).trans p3⟩)
   have H4 := Lib.hid (And.intro hO4 hb4')
   clear hnm hnme htn hO4 hb4' hb4 hc3W
   go_wp2_with fail
   refine (Hnm.out).mono ?_; rintro e w5 ⟨rfl, hb5⟩
   obtain ⟨nb, hnb⟩ : ∃ nb, w5.heap.size = nb := ⟨_, rfl⟩
   obtain ⟨W6, hW6⟩ : ∃ W6, w5.alloc (.cells #[.string tn] 9) = W6 := ⟨_, rfl⟩
   obtain ⟨cl, hcl⟩ : ∃ cl : List Value, [.func (.func 68) #[] #[.pointer (some ⟨sb, 0, none⟩), .pointer (some ⟨nb, 0, none⟩), .pointer (some ⟨vb, 0, none⟩)], .func (.func 69) #[] #[.pointer (some ⟨sb, 0, none⟩), .pointer (some ⟨nb, 0, none⟩)]] = cl := ⟨_, rfl⟩
   obtain ⟨W7, hW7⟩ : ∃ W7, W6.alloc (.cells cl.toArray 171) = W7 := ⟨_, rfl⟩
   have b6 : Below w5.heap.size w5 W6 := by rw [← hW6]; exact (Below.refl _ _).alloc (Nat.le_refl _) _
   have z6 : W6.heap.size = nb + 1 := by rw [← hW6, ← hnb]; simp
   have b7 : Below W6.heap.size W6 W7 := by rw [← hW7]; exact (Below.refl _ _).alloc (Nat.le_refl _) _
   have hn6 : W6.heap[nb]? = some (.cells #[.string tn] 9 (0, 0)) := by rw [← hW6]; exact heap_new_at _ hnb.symm
   have hc7 : W7.heap[nb + 1]? = some (.cells cl.toArray 171 (0, 0)) := by rw [← hW7]; exact heap_new_at _ z6.symm
   have b57 := b6.trans (b7.mono b6.size)
   have b47 := hb5.trans (b57.mono hb5.size)
   have hb7 := H4.out.2.trans (b47.mono H4.out.2.size)
   have hO7 := H4.out.1.below b47
   have g7 : ∀ {b : Nat} {o : Obj}, w4.heap[b]? = some o → W7.heap[b]? = some o := fun e => (b47.block _ (Array.getElem?_eq_some_iff.1 e).1).trans e
   have nn : ∀ k, w.heap.size ≤ k → ¬ stoOwn s d ρ k := fun k hk e => by have := stoOwn_lt H.out.1.at_ e; omega
   have hnbw : w.heap.size ≤ nb := by have := H4.out.2.size; have := hb5.size; omega
   have hms := mark_steps (s := s) (sb := sb) (nb := nb) (vb := vb) (cb := nb + 1) (g := g) (cap := cap) (d := d) (ρ := ρ) (W := W7) (n := nm) (bs := bl) (cur := cur) (cl := cl) hO7 (by have := H.out.2.1; omega) (by rw [← Hnme.out.1]; have := nameD_len q id; unfold maxLen; omega) hcl.symm (g7 hst4.out.1) (by rw [Hnme.out.2]; exact (b7.block _ (by omega)).trans hn6) (g7 hst4.out.2.1) hc7 (g7 hst4.out.2.2) hst.out.2.2.2.1 hst.out.2.2.2.2.1 hst.out.2.2.2.2.2.1 hst.out.2.2.2.2.2.2.1 (nn _ hst.out.2.2.2.2.2.2.2.1) (nn _ hnbw) (nn _ hst.out.2.2.2.2.2.2.2.2.1) (nn _ (by omega)) (nn _ hst.out.2.2.2.2.2.2.2.2.2)
   have hc3 : W6.cell? ⟨sb, 0, none⟩ = some (.pointer (some ⟨s, 0, none⟩)) := cell1 ((b6.block _ (by have := (Array.getElem?_eq_some_iff.1 hst4.out.1).1; have := hb5.size; omega)).trans ((hb5.block _ (Array.getElem?_eq_some_iff.1 hst4.out.1).1).trans hst4.out.1))
   rw [← hcl] at hW7
   have hW7 : W6.alloc (.cells #[.func (.func 68) #[] #[.pointer (some ⟨sb, 0, none⟩), .pointer (some ⟨nb, 0, none⟩), .pointer (some ⟨vb, 0, none⟩)], .func (.func 69) #[] #[.pointer (some ⟨sb, 0, none⟩), .pointer (some ⟨nb, 0, none⟩)]] 171) = W7 := hW7
   have Hms := Lib.hid hms
   have H7 := Lib.hid hb7
   clear hms hb7 hnbw nn g7 hO7 b47 b57 hc7 hn6 b7 z6 b6 hcl hb5
   subst hW7
   subst hW6
   go_wp2_with fail
   refine (Hms.out).mono ?_; rintro e w9 ⟨er, fs9, ρ9, rfl, ho, hO9, hT9, hg9⟩
   have H9 := Lib.hid (And.intro ho (And.intro hO9 (And.intro ((StoStep.below (s := s) (d := d) (ρ := ρ) H7.out).trans hT9) hg9)))
   clear ho hO9 hT9 hg9 hc3
   go_wp2
   go_ret
   obtain ⟨p1, p2, p3, p4⟩ := H9.out
   exact ⟨er, _, ρ9, rfl, .inr ⟨Hg.out, .inr ⟨by rw [H2.out.2.2.1], fs9, by rw [H2.out.2.2.1, Hbl.out, Hnme.out.1]; exact p1, rfl⟩⟩, p2, p3, p4.mono (by omega)⟩
  ·have h0' : (ae != 0) = true := by simpa using h0
   have H0 := Lib.hid h0
   have hb4' := H2.out.2.1.trans (hb4.mono H2.out.2.1.size)
   have Hb4 := Lib.hid hb4'
   clear h0 hb4 hb4' hc3W
   go_wp2
   go_ret
   exact ⟨ae, d, ρ, rfl, .inr ⟨Hg.out, .inl ⟨by rw [H2.out.2.2.1]; exact H0.out, by rw [H2.out.2.2.1], rfl⟩⟩, H.out.1.below Hb4.out, StoStep.below Hb4.out, (FsGo.refl H.out.1.ok).mono (by omega)⟩
end Go.Proofs.YtffnbkmigapmjaaGreatDoor
