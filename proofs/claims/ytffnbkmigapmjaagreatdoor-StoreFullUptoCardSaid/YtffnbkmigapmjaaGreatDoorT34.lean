/- Printed out of the texts of wip/tpl. -/
import Derived.Test.YtffnbkmigapmjaaGreatDoorT10
import Derived.Test.YtffnbkmigapmjaaGreatDoorT33
set_option linter.unusedSimpArgs false
set_option linter.unusedVariables false
set_option maxRecDepth 100000
namespace Go.Proofs.YtffnbkmigapmjaaGreatDoor
open Go.RowKit Go.Maps
theorem box_end {w1 we : World} {s : Nat} {d : StoD} {ρ ρe : Rho} {fs' : FsD} {b : Nat} {v : Value} {t : TypeId} (hb : w1.heap[b]? = some (.cells #[v] t (0, 0))) (hn : ¬ stoOwn s d ρ b) (hst : FsStep w1 ρ we ρe) : we.cell? ⟨b, 0, none⟩ = some v :=
 cell1 (hst.keeps.heap hb (fun e => hn (.inl e)))
theorem fb_end {w1 we : World} {s : Nat} {d : StoD} {ρ ρe : Rho} {fs' : FsD} (h : StoAt w1 s d ρ) (hF : FsAt we d.fb fs' ρe) (hst : FsStep w1 ρ we ρe) : we.cell? ⟨s, 0, none⟩ = some (.pointer (some ⟨d.fb, 0, none⟩)) :=
 (cells4 (h.fsStep hF hst).1.hd).1.1
set_option maxHeartbeats 16000000 in
theorem ren1_calls (s sb b1 b2 b3 : Nat) (d : StoD) (ρ : Rho) (p q : UInt8) (id : Int) (w : World) (h : StoOk w s d ρ) (hll : d.fs.loose.length ≤ 1000000)
 (h0 : w.heap[sb]? = some (.cells #[.pointer (some ⟨s, 0, none⟩)] 37 (0, 0))) (h1 : w.heap[b1]? = some (.cells #[.int .u8 p.toNat] 5 (0, 0))) (h2 : w.heap[b2]? = some (.cells #[.int .i64 id] 3 (0, 0))) (h3 : w.heap[b3]? = some (.cells #[.int .u8 q.toNat] 5 (0, 0)))
 (n0 : ¬ stoOwn s d ρ sb) (n1 : ¬ stoOwn s d ρ b1) (n2 : ¬ stoOwn s d ρ b2) (n3 : ¬ stoOwn s d ρ b3) :
 Calls Tryz.prog 110 #[.pointer (some ⟨sb, 0, none⟩), .pointer (some ⟨b1, 0, none⟩), .pointer (some ⟨b2, 0, none⟩), .pointer (some ⟨b3, 0, none⟩)] w fun e w' => ∃ v lv ρ', FsDone d.fb ρ w e w' (renameD d.fs (nameD p id) (nameD q id) v lv).1 (renameD d.fs (nameD p id) (nameD q id) v lv).2 ρ' := by
 have hp := fun w1 (hb : Below w.heap.size w w1) => name_calls p id w1 ((h.below hb).g.int _)
 have hq := fun w1 (hb : Below w.heap.size w w1) => name_calls q id w1 ((h.below hb).g.int _)
 have hrn := fun w1 (hb : Below w.heap.size w w1) => (rename_calls d.fb d.fs ρ (nameD p id) (nameD q id) w1 (h.below hb).at_.fs (by have := nameD_len p id; unfold maxLen; omega) (by have := nameD_len q id; unfold maxLen; omega) h.ok.fuse h.ok.n hll).mono fun e w' ⟨v, lv, ρ', a, b, c⟩ => (⟨v, lv, ρ', FsDone.mk a b c⟩ : ∃ v lv ρ', FsDone d.fb ρ w1 e w' (renameD d.fs (nameD p id) (nameD q id) v lv).1 (renameD d.fs (nameD p id) (nameD q id) v lv).2 ρ')
 obtain ⟨pn, hpn⟩ : ∃ pn : Nat, p.toNat = pn := ⟨_, rfl⟩
 obtain ⟨qn, hqn⟩ : ∃ qn : Nat, q.toNat = qn := ⟨_, rfl⟩
 rw [hpn] at hp h1
 rw [hqn] at hq h3
 obtain ⟨fb, hfb⟩ : ∃ fb, d.fb = fb := ⟨_, rfl⟩
 have hcS : ∀ w1, Below w.heap.size w w1 → ((fun w' => w'.cell? ⟨sb, 0, none⟩ = some (.pointer (some ⟨s, 0, none⟩)) ∧ w'.cell? ⟨b1, 0, none⟩ = some (.int .u8 (pn : Int)) ∧ w'.cell? ⟨b2, 0, none⟩ = some (.int .i64 id) ∧ w'.cell? ⟨b3, 0, none⟩ = some (.int .u8 (qn : Int)) ∧ w'.cell? ⟨s, 0, none⟩ = some (.pointer (some ⟨fb, 0, none⟩)))) w1 := fun w1 hb => by
  have g : ∀ {b : Nat} {o : Obj}, w.heap[b]? = some o → w1.heap[b]? = some o := fun e => (hb.block _ (Array.getElem?_eq_some_iff.1 e).1).trans e
  exact ⟨cell1 (g h0), cell1 (g h1), cell1 (g h2), cell1 (g h3), by rw [← hfb]; exact (cells4 (h.below hb).at_.hd).1.1⟩
 have hcE : ∀ w1, Below w.heap.size w w1 → ∀ we ρe fs', FsAt we fb fs' ρe → FsStep w1 ρ we ρe → ((fun w' => w'.cell? ⟨sb, 0, none⟩ = some (.pointer (some ⟨s, 0, none⟩)) ∧ w'.cell? ⟨b1, 0, none⟩ = some (.int .u8 (pn : Int)) ∧ w'.cell? ⟨b2, 0, none⟩ = some (.int .i64 id) ∧ w'.cell? ⟨b3, 0, none⟩ = some (.int .u8 (qn : Int)) ∧ w'.cell? ⟨s, 0, none⟩ = some (.pointer (some ⟨fb, 0, none⟩)))) we := fun w1 hb we ρe fs' hF hst => by
  have g : ∀ {b : Nat} {o : Obj}, w.heap[b]? = some o → w1.heap[b]? = some o := fun e => (hb.block _ (Array.getElem?_eq_some_iff.1 e).1).trans e
  rw [← hfb] at hF ⊢
  exact ⟨box_end (fs' := fs') (g h0) n0 hst, box_end (fs' := fs') (g h1) n1 hst, box_end (fs' := fs') (g h2) n2 hst, box_end (fs' := fs') (g h3) n3 hst, fb_end (h.below hb).at_ hF hst⟩
 rw [hfb] at hrn ⊢
 obtain ⟨np, hnp⟩ : ∃ np, nameD p id = np := ⟨_, rfl⟩
 obtain ⟨nq, hnq⟩ : ∃ nq, nameD q id = nq := ⟨_, rfl⟩
 rw [hnp] at hp hrn ⊢
 rw [hnq] at hq hrn ⊢
 obtain ⟨tp, htp⟩ : ∃ tp, strL np = tp := ⟨_, rfl⟩
 obtain ⟨tq, htq⟩ : ∃ tq, strL nq = tq := ⟨_, rfl⟩
 rw [htp] at hp hrn
 rw [htq] at hq hrn
 have hb_w0 : Below w.heap.size w w.drew := (Below.refl _ _).drew
 have HS : Hid ((fun w' => w'.cell? ⟨sb, 0, none⟩ = some (.pointer (some ⟨s, 0, none⟩)) ∧ w'.cell? ⟨b1, 0, none⟩ = some (.int .u8 (pn : Int)) ∧ w'.cell? ⟨b2, 0, none⟩ = some (.int .i64 id) ∧ w'.cell? ⟨b3, 0, none⟩ = some (.int .u8 (qn : Int)) ∧ w'.cell? ⟨s, 0, none⟩ = some (.pointer (some ⟨fb, 0, none⟩))) w.drew) := Lib.hid (hcS _ hb_w0)
 have Hp := Lib.hid hp
 have Hq := Lib.hid hq
 have Hrn := Lib.hid hrn
 have HcS := Lib.hid hcS
 have HcE := Lib.hid hcE
 clear hp hq hrn hcS hcE h hll h0 h1 h2 h3 n0 n1 n2 n3 hpn hqn hfb hnp hnq htp htq
 go_enter Tryz.func110, Tryz.ntmps110
 go_upto_region 1 with fail
 refine wp_region_noPanic ?_
 refine wp_region_held_drew (S := (fun w' => w'.cell? ⟨sb, 0, none⟩ = some (.pointer (some ⟨s, 0, none⟩)) ∧ w'.cell? ⟨b1, 0, none⟩ = some (.int .u8 (pn : Int)) ∧ w'.cell? ⟨b2, 0, none⟩ = some (.int .i64 id) ∧ w'.cell? ⟨b3, 0, none⟩ = some (.int .u8 (qn : Int)) ∧ w'.cell? ⟨s, 0, none⟩ = some (.pointer (some ⟨fb, 0, none⟩)))) (by kernel_rfl) (by first | with_reducible exact HS.out | with_reducible exact hS_xa | with_reducible exact hS_xb | with_reducible exact hSe) (fun hHeld => ?_)
 refine tkP 0 ?_
 refine tkP 1 ?_
 refine tkP 2 ?_
 refine tkP 3 ?_
 refine tkP 4 ?_
 refine tkP 5 ?_
 refine tkP 7 ?_
 refine tkP 8 ?_
 refine rdH 6 fun K hK => ?_
 go_simp
 go_at_call 12; refine (Hp.out _ hb_w0).mono ?_; rintro e xa ⟨rfl, hd_xa⟩; have hb_xa := hb_w0.trans (hd_xa.mono hb_w0.size); have hS_xa := HcS.out _ hb_xa
 refine hK.out _ _ (by (try dsimp only); first | with_reducible exact HS.out | with_reducible exact hS_xa | with_reducible exact hS_xb | with_reducible exact hSe) (fun hHeld => ?_)
 clear hK K
 try simp only [Act.put, qA, qB, qC]
 refine rdH 9 fun K hK => ?_
 go_simp
 go_at_call 12; refine (Hq.out _ hb_xa).mono ?_; rintro e xb ⟨rfl, hd_xb⟩; have hb_xb := hb_xa.trans (hd_xb.mono hb_xa.size); have hS_xb := HcS.out _ hb_xb
 refine hK.out _ _ (by (try dsimp only); first | with_reducible exact HS.out | with_reducible exact hS_xa | with_reducible exact hS_xb | with_reducible exact hSe) (fun hHeld => ?_)
 clear hK K
 try simp only [Act.put, qA, qB, qC]
 refine rdH 10 fun K hK => ?_
 go_simp
 go_at_call 111; refine (Hrn.out _ hb_xb).mono ?_; rintro e we ⟨v, lv, ρe, rfl, hFe, hste⟩; have hSe := HcE.out _ hb_xb _ _ _ hFe hste; have HR := Lib.hid (And.intro hFe (And.intro hste hb_xb))
 refine hK.out _ _ (by (try dsimp only); first | with_reducible exact HS.out | with_reducible exact hS_xa | with_reducible exact hS_xb | with_reducible exact hSe) (fun hHeld => ?_)
 clear hK K
 try simp only [Act.put, qA, qB, qC]
 refine tkP 11 ?_
 refine wpAnyH_done (by kernel_rfl) ?_ _
 refine NoPanic.normal ?_
 clear hS_xa hS_xb hSe
 go_wp2
 go_ret
 exact ⟨v, lv, ρe, rfl, HR.out.1, (FsStep.below HR.out.2.2).trans HR.out.2.1⟩
set_option maxHeartbeats 16000000 in
theorem unl1_calls (s sb b1 b2 : Nat) (d : StoD) (ρ : Rho) (p : UInt8) (id : Int) (w : World) (h : StoOk w s d ρ) (hll : d.fs.loose.length ≤ 1000000)
 (h0 : w.heap[sb]? = some (.cells #[.pointer (some ⟨s, 0, none⟩)] 37 (0, 0))) (h1 : w.heap[b1]? = some (.cells #[.int .u8 p.toNat] 5 (0, 0))) (h2 : w.heap[b2]? = some (.cells #[.int .i64 id] 3 (0, 0)))
 (n0 : ¬ stoOwn s d ρ sb) (n1 : ¬ stoOwn s d ρ b1) (n2 : ¬ stoOwn s d ρ b2) :
 Calls Tryz.prog 108 #[.pointer (some ⟨sb, 0, none⟩), .pointer (some ⟨b1, 0, none⟩), .pointer (some ⟨b2, 0, none⟩)] w fun e w' => ∃ v lv ρ', FsDone d.fb ρ w e w' (unlinkD d.fs (nameD p id) v lv).1 (unlinkD d.fs (nameD p id) v lv).2 ρ' := by
 have hp := fun w1 (hb : Below w.heap.size w w1) => name_calls p id w1 ((h.below hb).g.int _)
 have hrn := fun w1 (hb : Below w.heap.size w w1) => (unlink_calls d.fb d.fs ρ (nameD p id) w1 (h.below hb).at_.fs (by have := nameD_len p id; unfold maxLen; omega) h.ok.fuse h.ok.n hll).mono fun e w' ⟨v, lv, ρ', a, b, c⟩ => (⟨v, lv, ρ', FsDone.mk a b c⟩ : ∃ v lv ρ', FsDone d.fb ρ w1 e w' (unlinkD d.fs (nameD p id) v lv).1 (unlinkD d.fs (nameD p id) v lv).2 ρ')
 obtain ⟨pn, hpn⟩ : ∃ pn : Nat, p.toNat = pn := ⟨_, rfl⟩
 rw [hpn] at hp h1
 obtain ⟨fb, hfb⟩ : ∃ fb, d.fb = fb := ⟨_, rfl⟩
 have hcS : ∀ w1, Below w.heap.size w w1 → ((fun w' => w'.cell? ⟨sb, 0, none⟩ = some (.pointer (some ⟨s, 0, none⟩)) ∧ w'.cell? ⟨b1, 0, none⟩ = some (.int .u8 (pn : Int)) ∧ w'.cell? ⟨b2, 0, none⟩ = some (.int .i64 id) ∧ w'.cell? ⟨s, 0, none⟩ = some (.pointer (some ⟨fb, 0, none⟩)))) w1 := fun w1 hb => by
  have g : ∀ {b : Nat} {o : Obj}, w.heap[b]? = some o → w1.heap[b]? = some o := fun e => (hb.block _ (Array.getElem?_eq_some_iff.1 e).1).trans e
  exact ⟨cell1 (g h0), cell1 (g h1), cell1 (g h2), by rw [← hfb]; exact (cells4 (h.below hb).at_.hd).1.1⟩
 have hcE : ∀ w1, Below w.heap.size w w1 → ∀ we ρe fs', FsAt we fb fs' ρe → FsStep w1 ρ we ρe → ((fun w' => w'.cell? ⟨sb, 0, none⟩ = some (.pointer (some ⟨s, 0, none⟩)) ∧ w'.cell? ⟨b1, 0, none⟩ = some (.int .u8 (pn : Int)) ∧ w'.cell? ⟨b2, 0, none⟩ = some (.int .i64 id) ∧ w'.cell? ⟨s, 0, none⟩ = some (.pointer (some ⟨fb, 0, none⟩)))) we := fun w1 hb we ρe fs' hF hst => by
  have g : ∀ {b : Nat} {o : Obj}, w.heap[b]? = some o → w1.heap[b]? = some o := fun e => (hb.block _ (Array.getElem?_eq_some_iff.1 e).1).trans e
  rw [← hfb] at hF ⊢
  exact ⟨box_end (fs' := fs') (g h0) n0 hst, box_end (fs' := fs') (g h1) n1 hst, box_end (fs' := fs') (g h2) n2 hst, fb_end (h.below hb).at_ hF hst⟩
 rw [hfb] at hrn ⊢
 obtain ⟨np, hnp⟩ : ∃ np, nameD p id = np := ⟨_, rfl⟩
 rw [hnp] at hp hrn ⊢
 obtain ⟨tp, htp⟩ : ∃ tp, strL np = tp := ⟨_, rfl⟩
 rw [htp] at hp hrn
 have hb_w0 : Below w.heap.size w w.drew := (Below.refl _ _).drew
 have HS : Hid ((fun w' => w'.cell? ⟨sb, 0, none⟩ = some (.pointer (some ⟨s, 0, none⟩)) ∧ w'.cell? ⟨b1, 0, none⟩ = some (.int .u8 (pn : Int)) ∧ w'.cell? ⟨b2, 0, none⟩ = some (.int .i64 id) ∧ w'.cell? ⟨s, 0, none⟩ = some (.pointer (some ⟨fb, 0, none⟩))) w.drew) := Lib.hid (hcS _ hb_w0)
 have Hp := Lib.hid hp
 have Hrn := Lib.hid hrn
 have HcS := Lib.hid hcS
 have HcE := Lib.hid hcE
 clear hp hrn hcS hcE h hll h0 h1 h2 n0 n1 n2 hpn hfb hnp htp
 go_enter Tryz.func108, Tryz.ntmps108
 go_upto_region 1 with fail
 refine wp_region_noPanic ?_
 refine wp_region_held_drew (S := (fun w' => w'.cell? ⟨sb, 0, none⟩ = some (.pointer (some ⟨s, 0, none⟩)) ∧ w'.cell? ⟨b1, 0, none⟩ = some (.int .u8 (pn : Int)) ∧ w'.cell? ⟨b2, 0, none⟩ = some (.int .i64 id) ∧ w'.cell? ⟨s, 0, none⟩ = some (.pointer (some ⟨fb, 0, none⟩)))) (by kernel_rfl) (by first | with_reducible exact HS.out | with_reducible exact hS_xa | with_reducible exact hSe) (fun hHeld => ?_)
 refine tkP 0 ?_
 refine tkP 1 ?_
 refine tkP 2 ?_
 refine tkP 3 ?_
 refine tkP 4 ?_
 refine tkP 5 ?_
 refine rdH 6 fun K hK => ?_
 go_simp
 go_at_call 12; refine (Hp.out _ hb_w0).mono ?_; rintro e xa ⟨rfl, hd_xa⟩; have hb_xa := hb_w0.trans (hd_xa.mono hb_w0.size); have hS_xa := HcS.out _ hb_xa
 refine hK.out _ _ (by (try dsimp only); first | with_reducible exact HS.out | with_reducible exact hS_xa | with_reducible exact hSe) (fun hHeld => ?_)
 clear hK K
 try simp only [Act.put, qA, qB, qC]
 refine rdH 7 fun K hK => ?_
 go_simp
 go_at_call 101; refine (Hrn.out _ hb_xa).mono ?_; rintro e we ⟨v, lv, ρe, rfl, hFe, hste⟩; have hSe := HcE.out _ hb_xa _ _ _ hFe hste; have HR := Lib.hid (And.intro hFe (And.intro hste hb_xa))
 refine hK.out _ _ (by (try dsimp only); first | with_reducible exact HS.out | with_reducible exact hS_xa | with_reducible exact hSe) (fun hHeld => ?_)
 clear hK K
 try simp only [Act.put, qA, qB, qC]
 refine tkP 8 ?_
 refine wpAnyH_done (by kernel_rfl) ?_ _
 refine NoPanic.normal ?_
 clear hS_xa hSe
 go_wp2
 go_ret
 exact ⟨v, lv, ρe, rfl, HR.out.1, (FsStep.below HR.out.2.2).trans HR.out.2.1⟩
def renS (a b : Nm) (i : Nat) (fs : FsD) (er : Int) (fs' : FsD) : Prop := match i with | 0 => ∃ v lv, er = (renameD fs a b v lv).1 ∧ fs' = (renameD fs a b v lv).2 | _ => ∃ ms, er = (dirSyncD fs ms).1 ∧ fs' = (dirSyncD fs ms).2
set_option maxHeartbeats 16000000 in
theorem srename_calls (s : Nat) (d : StoD) (ρ : Rho) (id : Int) (p q : UInt8) (w : World) (h : StoOk w s d ρ) (hll : d.fs.loose.length ≤ 900000) :
 Calls Tryz.prog 62 #[.pointer (some ⟨s, 0, none⟩), .int .i64 id, .int .u8 p.toNat, .int .u8 q.toNat] w fun e w' => ∃ er fs ρ', StepsDone (renS (nameD p id) (nameD q id)) 2 w s d ρ e w' er fs ρ' := by
 obtain ⟨sb, hsb⟩ : ∃ sb, w.heap.size = sb := ⟨_, rfl⟩
 obtain ⟨W1, hW1⟩ : ∃ W1, w.alloc (.cells #[.pointer (some ⟨s, 0, none⟩)] 37) = W1 := ⟨_, rfl⟩
 obtain ⟨W2, hW2⟩ : ∃ W2, W1.alloc (.cells #[.int .i64 id] 3) = W2 := ⟨_, rfl⟩
 obtain ⟨W3, hW3⟩ : ∃ W3, W2.alloc (.cells #[.int .u8 p.toNat] 5) = W3 := ⟨_, rfl⟩
 obtain ⟨W4, hW4⟩ : ∃ W4, W3.alloc (.cells #[.int .u8 q.toNat] 5) = W4 := ⟨_, rfl⟩
 have b1 : Below w.heap.size w W1 := by rw [← hW1]; exact (Below.refl _ _).alloc (Nat.le_refl _) _
 have b2 : Below W1.heap.size W1 W2 := by rw [← hW2]; exact (Below.refl _ _).alloc (Nat.le_refl _) _
 have b3 : Below W2.heap.size W2 W3 := by rw [← hW3]; exact (Below.refl _ _).alloc (Nat.le_refl _) _
 have b4 : Below W3.heap.size W3 W4 := by rw [← hW4]; exact (Below.refl _ _).alloc (Nat.le_refl _) _
 have z1 : W1.heap.size = sb + 1 := by rw [← hW1, ← hsb]; simp
 have z2 : W2.heap.size = sb + 2 := by rw [← hW2]; simp [z1]
 have z3 : W3.heap.size = sb + 3 := by rw [← hW3]; simp [z2]
 have z4 : W4.heap.size = sb + 4 := by rw [← hW4]; simp [z3]
 have hs0 : W4.heap[sb]? = some (.cells #[.pointer (some ⟨s, 0, none⟩)] 37 (0, 0)) := ((b4.block _ (by omega)).trans ((b3.block _ (by omega)).trans ((b2.block _ (by omega)).trans (by rw [← hW1]; exact heap_new_at _ hsb.symm))))
 have hs1 : W4.heap[sb + 1]? = some (.cells #[.int .i64 id] 3 (0, 0)) := ((b4.block _ (by omega)).trans ((b3.block _ (by omega)).trans (by rw [← hW2]; exact heap_new_at _ z1.symm)))
 have hs2 : W4.heap[sb + 1 + 1]? = some (.cells #[.int .u8 p.toNat] 5 (0, 0)) := ((b4.block _ (by omega)).trans (by rw [← hW3]; exact heap_new_at _ z2.symm))
 have hs3 : W4.heap[sb + 1 + 1 + 1]? = some (.cells #[.int .u8 q.toNat] 5 (0, 0)) := (by rw [← hW4]; exact heap_new_at _ z3.symm)
 have bk : Below w.heap.size w W4 := (((b1.trans (b2.mono (by omega))).trans (b3.mono (by omega))).trans (b4.mono (by omega)))
 obtain ⟨cl, hcl⟩ : ∃ cl : List Value, [.func (.func 110) #[] #[.pointer (some ⟨sb, 0, none⟩), .pointer (some ⟨sb + 1 + 1, 0, none⟩), .pointer (some ⟨sb + 1, 0, none⟩), .pointer (some ⟨sb + 1 + 1 + 1, 0, none⟩)], .func (.func 109) #[.pointer (some ⟨d.fb, 0, none⟩)] #[]] = cl := ⟨_, rfl⟩
 obtain ⟨W7, hW7⟩ : ∃ W7, W4.drew.alloc (.cells cl.toArray 171) = W7 := ⟨_, rfl⟩
 have b7 : Below W4.heap.size W4 W7 := by rw [← hW7]; exact ((Below.refl _ _).drew).alloc (Nat.le_refl _) _
 have hcb : W7.heap[W4.heap.size]? = some (.cells cl.toArray 171 (0, 0)) := by rw [← hW7]; exact heap_new_at _ rfl
 have b07 := bk.trans (b7.mono bk.size)
 have hO7 := h.below b07
 have nn : ∀ k, sb ≤ k → ¬ stoOwn s d ρ k := fun k hk e => by have := stoOwn_lt h.at_ e; omega
 have hbx : ∀ x ∈ [(sb, Obj.cells #[.pointer (some ⟨s, 0, none⟩)] 37 (0, 0)), (sb + 1, Obj.cells #[.int .i64 id] 3 (0, 0)), (sb + 1 + 1, Obj.cells #[.int .u8 p.toNat] 5 (0, 0)), (sb + 1 + 1 + 1, Obj.cells #[.int .u8 q.toNat] 5 (0, 0)), (W4.heap.size, Obj.cells cl.toArray 171 (0, 0))], W7.heap[x.1]? = some x.2 ∧ sb ≤ x.1 := by
  intro x hp
  simp only [List.mem_cons, List.not_mem_nil, or_false] at hp
  rcases hp with rfl | rfl | rfl | rfl | rfl
  ·exact ⟨(b7.block _ (by have := (Array.getElem?_eq_some_iff.1 hs0).1; omega)).trans hs0, by dsimp only; omega⟩
  ·exact ⟨(b7.block _ (by have := (Array.getElem?_eq_some_iff.1 hs1).1; omega)).trans hs1, by dsimp only; omega⟩
  ·exact ⟨(b7.block _ (by have := (Array.getElem?_eq_some_iff.1 hs2).1; omega)).trans hs2, by dsimp only; omega⟩
  ·exact ⟨(b7.block _ (by have := (Array.getElem?_eq_some_iff.1 hs3).1; omega)).trans hs3, by dsimp only; omega⟩
  ·exact ⟨hcb, by dsimp only; omega⟩
 have hst := steps_gen (S := renS (nameD p id) (nameD q id)) (n := 2) (w0 := W7) (W := W7) (d := d) (ρ0 := ρ) (s := s) (cb := W4.heap.size) (cl := cl) (by rw [← hcl]; rfl) (by decide) (by simp) ⟨hO7, StoStep.refl _ _ _ _, .zero, FsGo.refl h.ok, fun p hp => (hbx p hp).1, fun p hp => nn _ (hbx p hp).2⟩ (by
  intro i f hf
  rw [← hcl] at hf
  match i, hf with
  | 0, hf =>
   cases hf
   refine ⟨_, _, _, rfl, enters_of Tryz.func110 (by kernel_rfl) rfl, ?_⟩
   intro fs ρ1 w1 hP
   have hb := hP.hbx
   have hn := hP.new
   simp only [List.mem_cons, List.not_mem_nil, or_false, forall_eq_or_imp, forall_eq] at hb hn
   refine (ren1_calls s sb (sb + 1 + 1) (sb + 1) (sb + 1 + 1 + 1) { d with fs := fs } ρ1 p q id w1 hP.at_ (by have := hP.go.2; dsimp only; omega) hb.1 hb.2.2.1 hb.2.1 hb.2.2.2.1 hn.1 hn.2.2.1 hn.2.1 hn.2.2.2.1).mono ?_
   rintro e w' ⟨v, lv, ρ', he, hF, hst⟩
   exact ⟨_, _, ρ', he, hF, hst, ⟨v, lv, rfl, rfl⟩, rename_go hP.go.1⟩
  | 1, hf =>
   cases hf
   refine ⟨_, _, _, rfl, enters_of Tryz.func109 (by kernel_rfl) rfl, ?_⟩
   intro fs ρ1 w1 hP
   refine (dirSync_calls d.fb fs ρ1 w1 hP.at_.at_.fs hP.go.1.fuse).mono ?_
   rintro e w' ⟨ms, ρ', he, hF, hst⟩
   exact ⟨_, _, ρ', he, hF, hst, ⟨ms, rfl, rfl⟩, (dirSync_go hP.go.1).mono (by omega)⟩
  | i + 2, hf => cases hf)
 have hS6 : W4.drew.cell? ⟨sb, 0, none⟩ = some (.pointer (some ⟨s, 0, none⟩)) ∧ W4.drew.cell? ⟨s, 0, none⟩ = some (.pointer (some ⟨d.fb, 0, none⟩)) := ⟨cell1 hs0, (cells4 (h.below bk).at_.hd).1.1⟩
 have hS7 : W7.cell? ⟨sb, 0, none⟩ = some (.pointer (some ⟨s, 0, none⟩)) ∧ W7.cell? ⟨s, 0, none⟩ = some (.pointer (some ⟨d.fb, 0, none⟩)) := ⟨cell1 ((b7.block _ (by omega)).trans hs0), (cells4 hO7.at_.hd).1.1⟩
 have hfin : Calls Tryz.prog 67 #[.pointer (some ⟨s, 0, none⟩), .slice (some ⟨W4.heap.size, 0, none⟩) 2 2] W7 fun e w9 => ∃ er fs ρ', StepsDone (renS (nameD p id) (nameD q id)) 2 w s d ρ (.returned (.int .i64 er)) w9 er fs ρ' ∧ e = .returned (.int .i64 er) ∧ (w9.cell? ⟨sb, 0, none⟩ = some (.pointer (some ⟨s, 0, none⟩)) ∧ w9.cell? ⟨s, 0, none⟩ = some (.pointer (some ⟨d.fb, 0, none⟩))) := hst.mono (by
  rintro e w9 ⟨er, fs9, ρ9, rfl, ho, hO9, hT9, hg9⟩
  exact ⟨er, fs9, ρ9, ⟨rfl, ho, hO9, (StoStep.below b07).trans hT9, hg9⟩, rfl, cell1 (hT9.keeps.heap ((b7.block _ (by omega)).trans hs0) (nn _ (Nat.le_refl _))), (cells4 hO9.at_.hd).1.1⟩)
 have Hst := Lib.hid hfin
 obtain ⟨fb, hfb⟩ : ∃ fb, d.fb = fb := ⟨_, rfl⟩
 rw [← hcl, hfb] at hW7
 have hW7 : W4.drew.alloc (.cells #[.func (.func 110) #[] #[.pointer (some ⟨sb, 0, none⟩), .pointer (some ⟨sb + 1 + 1, 0, none⟩), .pointer (some ⟨sb + 1, 0, none⟩), .pointer (some ⟨sb + 1 + 1 + 1, 0, none⟩)], .func (.func 109) #[.pointer (some ⟨fb, 0, none⟩)] #[]] 171) = W7 := hW7
 rw [hfb] at hS6 hS7 Hst
 have HW7 := Lib.hid hW7
 have HS : Hid ((fun w' => w'.cell? ⟨sb, 0, none⟩ = some (.pointer (some ⟨s, 0, none⟩)) ∧ w'.cell? ⟨s, 0, none⟩ = some (.pointer (some ⟨fb, 0, none⟩))) W4.drew) := Lib.hid hS6
 have HWk : Hid (((((w.alloc (.cells #[.pointer (some ⟨s, 0, none⟩)] 37)).alloc (.cells #[.int .i64 id] 3)).alloc (.cells #[.int .u8 p.toNat] 5)).alloc (.cells #[.int .u8 q.toNat] 5)) = W4) := Lib.hid (by rw [hW1, hW2, hW3, hW4])
 clear hst hfin hS6 hbx nn hO7 b07 hcb b7 hW7 hcl bk hs0 z1 b1 hW1 hs1 z2 b2 hW2 hs2 z3 b3 hW3 hs3 z4 b4 hW4 h hll hfb
 go_enter Tryz.func62, Tryz.ntmps62
 go_upto_region 1 with fail
 rw [HWk.out]
 refine wp_region_noPanic ?_
 refine wp_region_held_drew (S := (fun w' => w'.cell? ⟨sb, 0, none⟩ = some (.pointer (some ⟨s, 0, none⟩)) ∧ w'.cell? ⟨s, 0, none⟩ = some (.pointer (some ⟨fb, 0, none⟩)))) (by kernel_rfl) (by first | with_reducible exact HS.out | with_reducible exact hS7 | with_reducible exact hS9) (fun hHeld => ?_)
 refine tkP 0 ?_
 refine tkP 1 ?_
 refine tkP 2 ?_
 refine tkP 3 ?_
 refine tkP 4 ?_
 refine tkP 5 ?_
 refine tkP 6 ?_
 refine rdH 7 fun K hK => ?_
 go_simp
 (try rw [HW7.out])
 refine hK.out _ _ (by (try dsimp only); first | with_reducible exact HS.out | with_reducible exact hS7 | with_reducible exact hS9) (fun hHeld => ?_)
 clear hK K
 try simp only [Act.put, qA, qB, qC]
 refine rdH 8 fun K hK => ?_
 go_simp
 go_at_call 67; refine (Hst.out).mono ?_; rintro e w9 ⟨er, fs9, ρ9, hL, rfl, hS9⟩
 refine hK.out _ _ (by (try dsimp only); first | with_reducible exact HS.out | with_reducible exact hS7 | with_reducible exact hS9) (fun hHeld => ?_)
 clear hK K
 try simp only [Act.put, qA, qB, qC]
 refine tkP 9 ?_
 refine wpAnyH_done (by kernel_rfl) ?_ _
 refine NoPanic.normal ?_
 go_wp2
 go_ret
 exact ⟨er, fs9, ρ9, hL⟩
def unlS (a : Nm) (i : Nat) (fs : FsD) (er : Int) (fs' : FsD) : Prop := match i with | 0 => ∃ v lv, er = (unlinkD fs a v lv).1 ∧ fs' = (unlinkD fs a v lv).2 | _ => ∃ ms, er = (dirSyncD fs ms).1 ∧ fs' = (dirSyncD fs ms).2
set_option maxHeartbeats 16000000 in
theorem sunlink_calls (s : Nat) (d : StoD) (ρ : Rho) (p : UInt8) (id : Int) (w : World) (h : StoOk w s d ρ) (hll : d.fs.loose.length ≤ 900000) :
 Calls Tryz.prog 61 #[.pointer (some ⟨s, 0, none⟩), .int .u8 p.toNat, .int .i64 id] w fun e w' => ∃ er fs ρ', StepsDone (unlS (nameD p id)) 2 w s d ρ e w' er fs ρ' := by
 obtain ⟨sb, hsb⟩ : ∃ sb, w.heap.size = sb := ⟨_, rfl⟩
 obtain ⟨W1, hW1⟩ : ∃ W1, w.alloc (.cells #[.pointer (some ⟨s, 0, none⟩)] 37) = W1 := ⟨_, rfl⟩
 obtain ⟨W2, hW2⟩ : ∃ W2, W1.alloc (.cells #[.int .u8 p.toNat] 5) = W2 := ⟨_, rfl⟩
 obtain ⟨W3, hW3⟩ : ∃ W3, W2.alloc (.cells #[.int .i64 id] 3) = W3 := ⟨_, rfl⟩
 have b1 : Below w.heap.size w W1 := by rw [← hW1]; exact (Below.refl _ _).alloc (Nat.le_refl _) _
 have b2 : Below W1.heap.size W1 W2 := by rw [← hW2]; exact (Below.refl _ _).alloc (Nat.le_refl _) _
 have b3 : Below W2.heap.size W2 W3 := by rw [← hW3]; exact (Below.refl _ _).alloc (Nat.le_refl _) _
 have z1 : W1.heap.size = sb + 1 := by rw [← hW1, ← hsb]; simp
 have z2 : W2.heap.size = sb + 2 := by rw [← hW2]; simp [z1]
 have z3 : W3.heap.size = sb + 3 := by rw [← hW3]; simp [z2]
 have hs0 : W3.heap[sb]? = some (.cells #[.pointer (some ⟨s, 0, none⟩)] 37 (0, 0)) := ((b3.block _ (by omega)).trans ((b2.block _ (by omega)).trans (by rw [← hW1]; exact heap_new_at _ hsb.symm)))
 have hs1 : W3.heap[sb + 1]? = some (.cells #[.int .u8 p.toNat] 5 (0, 0)) := ((b3.block _ (by omega)).trans (by rw [← hW2]; exact heap_new_at _ z1.symm))
 have hs2 : W3.heap[sb + 1 + 1]? = some (.cells #[.int .i64 id] 3 (0, 0)) := (by rw [← hW3]; exact heap_new_at _ z2.symm)
 have bk : Below w.heap.size w W3 := ((b1.trans (b2.mono (by omega))).trans (b3.mono (by omega)))
 obtain ⟨cl, hcl⟩ : ∃ cl : List Value, [.func (.func 108) #[] #[.pointer (some ⟨sb, 0, none⟩), .pointer (some ⟨sb + 1, 0, none⟩), .pointer (some ⟨sb + 1 + 1, 0, none⟩)], .func (.func 109) #[.pointer (some ⟨d.fb, 0, none⟩)] #[]] = cl := ⟨_, rfl⟩
 obtain ⟨W7, hW7⟩ : ∃ W7, W3.drew.alloc (.cells cl.toArray 171) = W7 := ⟨_, rfl⟩
 have b7 : Below W3.heap.size W3 W7 := by rw [← hW7]; exact ((Below.refl _ _).drew).alloc (Nat.le_refl _) _
 have hcb : W7.heap[W3.heap.size]? = some (.cells cl.toArray 171 (0, 0)) := by rw [← hW7]; exact heap_new_at _ rfl
 have b07 := bk.trans (b7.mono bk.size)
 have hO7 := h.below b07
 have nn : ∀ k, sb ≤ k → ¬ stoOwn s d ρ k := fun k hk e => by have := stoOwn_lt h.at_ e; omega
 have hbx : ∀ x ∈ [(sb, Obj.cells #[.pointer (some ⟨s, 0, none⟩)] 37 (0, 0)), (sb + 1, Obj.cells #[.int .u8 p.toNat] 5 (0, 0)), (sb + 1 + 1, Obj.cells #[.int .i64 id] 3 (0, 0)), (W3.heap.size, Obj.cells cl.toArray 171 (0, 0))], W7.heap[x.1]? = some x.2 ∧ sb ≤ x.1 := by
  intro x hp
  simp only [List.mem_cons, List.not_mem_nil, or_false] at hp
  rcases hp with rfl | rfl | rfl | rfl
  ·exact ⟨(b7.block _ (by have := (Array.getElem?_eq_some_iff.1 hs0).1; omega)).trans hs0, by dsimp only; omega⟩
  ·exact ⟨(b7.block _ (by have := (Array.getElem?_eq_some_iff.1 hs1).1; omega)).trans hs1, by dsimp only; omega⟩
  ·exact ⟨(b7.block _ (by have := (Array.getElem?_eq_some_iff.1 hs2).1; omega)).trans hs2, by dsimp only; omega⟩
  ·exact ⟨hcb, by dsimp only; omega⟩
 have hst := steps_gen (S := unlS (nameD p id)) (n := 2) (w0 := W7) (W := W7) (d := d) (ρ0 := ρ) (s := s) (cb := W3.heap.size) (cl := cl) (by rw [← hcl]; rfl) (by decide) (by simp) ⟨hO7, StoStep.refl _ _ _ _, .zero, FsGo.refl h.ok, fun p hp => (hbx p hp).1, fun p hp => nn _ (hbx p hp).2⟩ (by
  intro i f hf
  rw [← hcl] at hf
  match i, hf with
  | 0, hf =>
   cases hf
   refine ⟨_, _, _, rfl, enters_of Tryz.func108 (by kernel_rfl) rfl, ?_⟩
   intro fs ρ1 w1 hP
   have hb := hP.hbx
   have hn := hP.new
   simp only [List.mem_cons, List.not_mem_nil, or_false, forall_eq_or_imp, forall_eq] at hb hn
   refine (unl1_calls s sb (sb + 1) (sb + 1 + 1) { d with fs := fs } ρ1 p id w1 hP.at_ (by have := hP.go.2; dsimp only; omega) hb.1 hb.2.1 hb.2.2.1 hn.1 hn.2.1 hn.2.2.1).mono ?_
   rintro e w' ⟨v, lv, ρ', he, hF, hst⟩
   exact ⟨_, _, ρ', he, hF, hst, ⟨v, lv, rfl, rfl⟩, unlink_go hP.go.1⟩
  | 1, hf =>
   cases hf
   refine ⟨_, _, _, rfl, enters_of Tryz.func109 (by kernel_rfl) rfl, ?_⟩
   intro fs ρ1 w1 hP
   refine (dirSync_calls d.fb fs ρ1 w1 hP.at_.at_.fs hP.go.1.fuse).mono ?_
   rintro e w' ⟨ms, ρ', he, hF, hst⟩
   exact ⟨_, _, ρ', he, hF, hst, ⟨ms, rfl, rfl⟩, (dirSync_go hP.go.1).mono (by omega)⟩
  | i + 2, hf => cases hf)
 have hS6 : W3.drew.cell? ⟨sb, 0, none⟩ = some (.pointer (some ⟨s, 0, none⟩)) ∧ W3.drew.cell? ⟨s, 0, none⟩ = some (.pointer (some ⟨d.fb, 0, none⟩)) := ⟨cell1 hs0, (cells4 (h.below bk).at_.hd).1.1⟩
 have hS7 : W7.cell? ⟨sb, 0, none⟩ = some (.pointer (some ⟨s, 0, none⟩)) ∧ W7.cell? ⟨s, 0, none⟩ = some (.pointer (some ⟨d.fb, 0, none⟩)) := ⟨cell1 ((b7.block _ (by omega)).trans hs0), (cells4 hO7.at_.hd).1.1⟩
 have hfin : Calls Tryz.prog 67 #[.pointer (some ⟨s, 0, none⟩), .slice (some ⟨W3.heap.size, 0, none⟩) 2 2] W7 fun e w9 => ∃ er fs ρ', StepsDone (unlS (nameD p id)) 2 w s d ρ (.returned (.int .i64 er)) w9 er fs ρ' ∧ e = .returned (.int .i64 er) ∧ (w9.cell? ⟨sb, 0, none⟩ = some (.pointer (some ⟨s, 0, none⟩)) ∧ w9.cell? ⟨s, 0, none⟩ = some (.pointer (some ⟨d.fb, 0, none⟩))) := hst.mono (by
  rintro e w9 ⟨er, fs9, ρ9, rfl, ho, hO9, hT9, hg9⟩
  exact ⟨er, fs9, ρ9, ⟨rfl, ho, hO9, (StoStep.below b07).trans hT9, hg9⟩, rfl, cell1 (hT9.keeps.heap ((b7.block _ (by omega)).trans hs0) (nn _ (Nat.le_refl _))), (cells4 hO9.at_.hd).1.1⟩)
 have Hst := Lib.hid hfin
 obtain ⟨fb, hfb⟩ : ∃ fb, d.fb = fb := ⟨_, rfl⟩
 rw [← hcl, hfb] at hW7
 have hW7 : W3.drew.alloc (.cells #[.func (.func 108) #[] #[.pointer (some ⟨sb, 0, none⟩), .pointer (some ⟨sb + 1, 0, none⟩), .pointer (some ⟨sb + 1 + 1, 0, none⟩)], .func (.func 109) #[.pointer (some ⟨fb, 0, none⟩)] #[]] 171) = W7 := hW7
 rw [hfb] at hS6 hS7 Hst
 have HW7 := Lib.hid hW7
 have HS : Hid ((fun w' => w'.cell? ⟨sb, 0, none⟩ = some (.pointer (some ⟨s, 0, none⟩)) ∧ w'.cell? ⟨s, 0, none⟩ = some (.pointer (some ⟨fb, 0, none⟩))) W3.drew) := Lib.hid hS6
 have HWk : Hid ((((w.alloc (.cells #[.pointer (some ⟨s, 0, none⟩)] 37)).alloc (.cells #[.int .u8 p.toNat] 5)).alloc (.cells #[.int .i64 id] 3)) = W3) := Lib.hid (by rw [hW1, hW2, hW3])
 clear hst hfin hS6 hbx nn hO7 b07 hcb b7 hW7 hcl bk hs0 z1 b1 hW1 hs1 z2 b2 hW2 hs2 z3 b3 hW3 h hll hfb
 go_enter Tryz.func61, Tryz.ntmps61
 go_upto_region 1 with fail
 rw [HWk.out]
 refine wp_region_noPanic ?_
 refine wp_region_held_drew (S := (fun w' => w'.cell? ⟨sb, 0, none⟩ = some (.pointer (some ⟨s, 0, none⟩)) ∧ w'.cell? ⟨s, 0, none⟩ = some (.pointer (some ⟨fb, 0, none⟩)))) (by kernel_rfl) (by first | with_reducible exact HS.out | with_reducible exact hS7 | with_reducible exact hS9) (fun hHeld => ?_)
 refine tkP 0 ?_
 refine tkP 1 ?_
 refine tkP 2 ?_
 refine tkP 3 ?_
 refine tkP 4 ?_
 refine tkP 5 ?_
 refine tkP 6 ?_
 refine rdH 7 fun K hK => ?_
 go_simp
 (try rw [HW7.out])
 refine hK.out _ _ (by (try dsimp only); first | with_reducible exact HS.out | with_reducible exact hS7 | with_reducible exact hS9) (fun hHeld => ?_)
 clear hK K
 try simp only [Act.put, qA, qB, qC]
 refine rdH 8 fun K hK => ?_
 go_simp
 go_at_call 67; refine (Hst.out).mono ?_; rintro e w9 ⟨er, fs9, ρ9, hL, rfl, hS9⟩
 refine hK.out _ _ (by (try dsimp only); first | with_reducible exact HS.out | with_reducible exact hS7 | with_reducible exact hS9) (fun hHeld => ?_)
 clear hK K
 try simp only [Act.put, qA, qB, qC]
 refine tkP 9 ?_
 refine wpAnyH_done (by kernel_rfl) ?_ _
 refine NoPanic.normal ?_
 go_wp2
 go_ret
 exact ⟨er, fs9, ρ9, hL⟩
end Go.Proofs.YtffnbkmigapmjaaGreatDoor
