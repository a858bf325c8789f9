/-
  The walks of the closures of store.lay (printed by gen_stolay.py).
-/
import Derived.Test.YtffnbkmigapmjaaGreatDoorT18
set_option linter.unusedSimpArgs false
set_option linter.unusedVariables false
set_option maxRecDepth 100000
namespace Go.Proofs.YtffnbkmigapmjaaGreatDoor
open Go.RowKit Go.Maps
/-- The boxes that lay's closures read. -/
structure LayBox (w : World) (ρ : Rho) (sb tb s : Nat) (tmp : Nm) : Prop where
  bs : w.heap[sb]? = some (.cells #[.pointer (some ⟨s, 0, none⟩)] 37 (0, 0))
  bt : w.heap[tb]? = some (.cells #[.string (strL tmp)] 9 (0, 0))
  rs : ρ sb = none
  rt : ρ tb = none
def FsDone (b : Nat) (ρ : Rho) (w : World) (e : Ending) (w' : World) (er : Int) (fs : FsD) (ρ' : Rho) : Prop := e = .returned (.int .i64 er) ∧ FsAt w' b fs ρ' ∧ FsStep w ρ w' ρ'
theorem FsDone.mk {b : Nat} {ρ : Rho} {w : World} {e : Ending} {w' : World} {er : Int} {fs : FsD} {ρ' : Rho} (h1 : e = .returned (.int .i64 er)) (h2 : FsAt w' b fs ρ') (h3 : FsStep w ρ w' ρ') : FsDone b ρ w e w' er fs ρ' := ⟨h1, h2, h3⟩
theorem Rho.not_has {ρ : Rho} {k : Nat} (h : ρ k = none) : ¬ ρ.has k := fun h2 => by unfold Rho.has at h2; rw [h] at h2; cases h2
theorem Rho.none_go {w w' : World} {ρ ρ' : Rho} {k : Nat} (h : ρ k = none) (hk : k < w.heap.size) (hst : FsStep w ρ w' ρ') : ρ' k = none := by
  cases hr : ρ' k with
  | none => rfl
  | some r => rcases hst.grow k (Rho.has_of hr) with e | e
              · exact absurd e (Rho.not_has h)
              · omega
theorem LayBox.go {w w' : World} {ρ ρ' : Rho} {sb tb s : Nat} {tmp : Nm} (h : LayBox w ρ sb tb s tmp) (hst : FsStep w ρ w' ρ') : LayBox w' ρ' sb tb s tmp :=
  ⟨hst.keeps.heap h.bs (Rho.not_has h.rs), hst.keeps.heap h.bt (Rho.not_has h.rt), Rho.none_go h.rs (Array.getElem?_eq_some_iff.1 h.bs).1 hst, Rho.none_go h.rt (Array.getElem?_eq_some_iff.1 h.bt).1 hst⟩
theorem FsStep.cell {w w' : World} {ρ ρ' : Rho} (h : FsStep w ρ w' ρ') {b o : Nat} {v : Value} (hr : ρ b = none) (hc : w.cell? ⟨b, o, none⟩ = some v) : w'.cell? ⟨b, o, none⟩ = some v := h.keeps.cell (Rho.not_has hr) hc
set_option maxHeartbeats 8000000 in
theorem lay1_calls (sb tb s : Nat) (tmp : Nm) (d : StoD) (ρ : Rho) (w : World) (h : StoAt w s d ρ) (hx : LayBox w ρ sb tb s tmp) (ht : tmp.length ≤ maxLen) (hfu : -1 ≤ d.fs.fuse ∧ d.fs.fuse ≤ 9223372036854775807) (hnl : d.fs.now.length ≤ 256) (hll : d.fs.loose.length ≤ 1000000) :
    Calls Tryz.prog 166 #[.pointer (some ⟨sb, 0, none⟩), .pointer (some ⟨tb, 0, none⟩)] w fun e w' => ∃ v lv ρ', FsDone d.fb ρ w e w' (if (unlinkD d.fs tmp v lv).1 = 4 then 0 else (unlinkD d.fs tmp v lv).1) (unlinkD d.fs tmp v lv).2 ρ' := by
  have hS0 : (fun w' => w'.cell? ⟨sb, 0, none⟩ = some (.pointer (some ⟨s, 0, none⟩)) ∧ w'.cell? ⟨s, 0, none⟩ = some (.pointer (some ⟨d.fb, 0, none⟩)) ∧ w'.cell? ⟨tb, 0, none⟩ = some (.string (strL tmp))) w := ⟨cell1 hx.bs, (cells4 h.hd).1.1, cell1 hx.bt⟩
  have hGo : ∀ w' ρ', FsStep w ρ w' ρ' → (fun w' => w'.cell? ⟨sb, 0, none⟩ = some (.pointer (some ⟨s, 0, none⟩)) ∧ w'.cell? ⟨s, 0, none⟩ = some (.pointer (some ⟨d.fb, 0, none⟩)) ∧ w'.cell? ⟨tb, 0, none⟩ = some (.string (strL tmp))) w' := fun w' ρ' hst => ⟨hst.cell hx.rs hS0.1, hst.cell h.rs hS0.2.1, hst.cell hx.rt hS0.2.2⟩
  have hcall : Calls Tryz.prog 101 #[.pointer (some ⟨d.fb, 0, none⟩), .string (strL tmp)] w.drew fun e w' => ∃ v lv ρ', e = .returned (.int .i64 (unlinkD d.fs tmp v lv).1) ∧ FsAt w' d.fb (unlinkD d.fs tmp v lv).2 ρ' ∧ FsStep w.drew ρ w' ρ' := unlink_calls d.fb d.fs ρ tmp w.drew (h.fs.below (Below.refl w.heap.size w).drew) ht hfu hnl hll
  have hcall : Calls Tryz.prog 101 #[.pointer (some ⟨d.fb, 0, none⟩), .string (strL tmp)] w.drew fun e w' => ∃ v lv ρ', e = .returned (.int .i64 (unlinkD d.fs tmp v lv).1) ∧ (fun w' => w'.cell? ⟨sb, 0, none⟩ = some (.pointer (some ⟨s, 0, none⟩)) ∧ w'.cell? ⟨s, 0, none⟩ = some (.pointer (some ⟨d.fb, 0, none⟩)) ∧ w'.cell? ⟨tb, 0, none⟩ = some (.string (strL tmp))) w' ∧ FsAt w' d.fb (unlinkD d.fs tmp v lv).2 ρ' ∧ FsStep w ρ w' ρ' :=
    hcall.mono fun e w' ⟨v, lv, ρ', he, hF, hst⟩ => ⟨v, lv, ρ', he, hGo _ _ ((FsStep.below (ρ := ρ) (Below.refl w.heap.size w).drew).trans hst), hF, (FsStep.below (ρ := ρ) (Below.refl w.heap.size w).drew).trans hst⟩
  obtain ⟨fb, hfb⟩ : ∃ fb, d.fb = fb := ⟨_, rfl⟩
  obtain ⟨tm, htm⟩ : ∃ tm, strL tmp = tm := ⟨_, rfl⟩
  rw [htm, hfb] at hS0 hcall
  have Hc := Lib.hid hcall
  have HS : Hid ((fun w' => w'.cell? ⟨sb, 0, none⟩ = some (.pointer (some ⟨s, 0, none⟩)) ∧ w'.cell? ⟨s, 0, none⟩ = some (.pointer (some ⟨fb, 0, none⟩)) ∧ w'.cell? ⟨tb, 0, none⟩ = some (.string tm)) w.drew) := hS0
  have Hfb := Lib.hid hfb
  clear hcall hGo hfb htm h hx hfu hnl hll ht
  go_enter Tryz.func166, Tryz.ntmps166
  go_upto_region 1 with fail
  refine wp_region_noPanic ?_
  refine wp_region_held_drew (S := (fun w' => w'.cell? ⟨sb, 0, none⟩ = some (.pointer (some ⟨s, 0, none⟩)) ∧ w'.cell? ⟨s, 0, none⟩ = some (.pointer (some ⟨fb, 0, none⟩)) ∧ w'.cell? ⟨tb, 0, none⟩ = some (.string tm))) (by kernel_rfl) (by first | with_reducible exact HS.out | with_reducible exact hS1) (fun hHeld => ?_)
  refine wpAnyH_take (i := 0) (oi := _) (v := ?_) (by simp only [List.getElem?_toArray, List.getElem?_cons_succ, List.getElem?_cons_zero]; rfl) (by kernel_rfl) (by kernel_rfl) (by kernel_rfl) (fun _ _ _ h => h) (Or.inl ⟨by rfl, ?_⟩) (by assumption) ?_
  rotate_left
  · intro w hSw; (try dsimp only at hSw); go_simp; (try with_reducible rfl)
  try simp only [Act.put, List.setIfInBounds_toArray, List.set_cons_zero, List.set_cons_succ]
  refine wpAnyH_take (i := 1) (oi := _) (v := ?_) (by simp only [List.getElem?_toArray, List.getElem?_cons_succ, List.getElem?_cons_zero]; rfl) (by kernel_rfl) (by kernel_rfl) (by kernel_rfl) (fun _ _ _ h => h) (Or.inl ⟨by rfl, ?_⟩) (by assumption) ?_
  rotate_left
  · intro w hSw; (try dsimp only at hSw); go_simp; (try with_reducible rfl)
  try simp only [Act.put, List.setIfInBounds_toArray, List.set_cons_zero, List.set_cons_succ]
  refine wpAnyH_take (i := 2) (oi := _) (v := ?_) (by simp only [List.getElem?_toArray, List.getElem?_cons_succ, List.getElem?_cons_zero]; rfl) (by kernel_rfl) (by kernel_rfl) (by kernel_rfl) (fun _ _ _ h => h) (Or.inl ⟨by rfl, ?_⟩) (by assumption) ?_
  rotate_left
  · intro w hSw; (try dsimp only at hSw); go_simp; (try with_reducible rfl)
  try simp only [Act.put, List.setIfInBounds_toArray, List.set_cons_zero, List.set_cons_succ]
  refine wpAnyH_take (i := 3) (oi := _) (v := ?_) (by simp only [List.getElem?_toArray, List.getElem?_cons_succ, List.getElem?_cons_zero]; rfl) (by kernel_rfl) (by kernel_rfl) (by kernel_rfl) (fun _ _ _ h => h) (Or.inl ⟨by rfl, ?_⟩) (by assumption) ?_
  rotate_left
  · intro w hSw; (try dsimp only at hSw); go_simp; (try with_reducible rfl)
  try simp only [Act.put, List.setIfInBounds_toArray, List.set_cons_zero, List.set_cons_succ]
  refine wpAnyH_take (i := 4) (oi := _) (v := ?_) (by simp only [List.getElem?_toArray, List.getElem?_cons_succ, List.getElem?_cons_zero]; rfl) (by kernel_rfl) (by kernel_rfl) (by kernel_rfl) (fun _ _ _ h => h) (Or.inl ⟨by rfl, ?_⟩) (by assumption) ?_
  rotate_left
  · intro w hSw; (try dsimp only at hSw); go_simp; (try with_reducible rfl)
  try simp only [Act.put, List.setIfInBounds_toArray, List.set_cons_zero, List.set_cons_succ]
  refine wpAnyH_ready (rs := [5]) (by kernel_rfl) (by simp) ?_
  refine AllReadyH.cons (o := _) (by simp only [List.getElem?_toArray, List.getElem?_cons_succ, List.getElem?_cons_zero]; rfl) (fun K hK => ?_) AllReadyH.nil
  go_simp
  go_at_call 101; refine (Hc.out).mono ?_; rintro e wu ⟨v, lv, ρ', rfl, hS1, hF, hst⟩
  refine hK.out _ _ (by (try dsimp only); first | with_reducible exact HS.out | with_reducible exact hS1) (fun hHeld => ?_)
  clear hK K
  try simp only [Act.put, List.setIfInBounds_toArray, List.set_cons_zero, List.set_cons_succ]
  refine wpAnyH_take (i := 6) (oi := _) (v := ?_) (by simp only [List.getElem?_toArray, List.getElem?_cons_succ, List.getElem?_cons_zero]; rfl) (by kernel_rfl) (by kernel_rfl) (by kernel_rfl) (fun _ _ _ h => h) (Or.inl ⟨by rfl, ?_⟩) (by assumption) ?_
  rotate_left
  · intro w hSw; (try dsimp only at hSw); go_simp; (try with_reducible rfl)
  try simp only [Act.put, List.setIfInBounds_toArray, List.set_cons_zero, List.set_cons_succ]
  refine wpAnyH_done (by kernel_rfl) ?_ _
  refine NoPanic.normal ?_
  obtain ⟨er, her⟩ : ∃ er, (unlinkD d.fs tmp v lv).1 = er := ⟨_, rfl⟩
  have Her := Lib.hid her
  rw [her]
  by_cases h4 : er = 4
  · subst h4
    clear her
    go_wp2
    go_ret
    refine ⟨v, lv, ρ', FsDone.mk ?_ (by rw [Hfb.out]; exact hF) hst⟩
    rw [Her.out]; rfl
  · have h4' : (er == 4) = false := by simpa using h4
    clear her
    go_wp2
    go_ret
    refine ⟨v, lv, ρ', FsDone.mk ?_ (by rw [Hfb.out]; exact hF) hst⟩
    rw [Her.out, if_neg h4]; rfl
/-- A block that is no file yet. -/
structure FreshOf (d : FsD) where
  x : Nat
  free : d.file x = none
theorem FsAt.fresh {w : World} {f : Nat} {d : FsD} {ρ : Rho} (h : FsAt w f d ρ) {x : Nat} (hx : w.heap.size ≤ x) : d.file x = none := by
  cases hc : d.file x with
  | none => rfl
  | some c => have := h.rest.lt x (by rw [(h.rest.files x c hc).role]; rfl); omega
theorem create_calls' (f : Nat) (d : FsD) (ρ : Rho) (n : Nm) (w : World) (h : FsAt w f d ρ) (hs : n.length ≤ maxLen) (hfu : -1 ≤ d.fuse ∧ d.fuse ≤ 9223372036854775807) (hll : d.loose.length ≤ 1000000) :
    Calls Tryz.prog 15 #[.pointer (some ⟨f, 0, none⟩), .string (strL n)] w fun e w' => ∃ (x : FreshOf d) (v lv : Value) (ρ' : Rho), e = .returned (.int .i64 (createD d n x.x v lv).1) ∧ FsAt w' f (createD d n x.x v lv).2 ρ' ∧ FsStep w ρ w' ρ' :=
  (create_calls f d ρ n w h hs hfu hll).mono fun e w' ⟨x, v, lv, ρ', hx, a, b, c⟩ => ⟨⟨x, h.fresh hx⟩, v, lv, ρ', a, b, c⟩
set_option maxHeartbeats 8000000 in
theorem lay2_calls (sb tb s : Nat) (tmp : Nm) (d : StoD) (ρ : Rho) (w : World) (h : StoAt w s d ρ) (hx : LayBox w ρ sb tb s tmp) (ht : tmp.length ≤ maxLen) (hfu : -1 ≤ d.fs.fuse ∧ d.fs.fuse ≤ 9223372036854775807) (hnl : d.fs.now.length ≤ 256) (hll : d.fs.loose.length ≤ 1000000) :
    Calls Tryz.prog 167 #[.pointer (some ⟨sb, 0, none⟩), .pointer (some ⟨tb, 0, none⟩)] w fun e w' => ∃ (x : FreshOf d.fs) (v lv : Value) (ρ' : Rho), FsDone d.fb ρ w e w' (createD d.fs tmp x.x v lv).1 (createD d.fs tmp x.x v lv).2 ρ' := by
  have hS0 : (fun w' => w'.cell? ⟨sb, 0, none⟩ = some (.pointer (some ⟨s, 0, none⟩)) ∧ w'.cell? ⟨s, 0, none⟩ = some (.pointer (some ⟨d.fb, 0, none⟩)) ∧ w'.cell? ⟨tb, 0, none⟩ = some (.string (strL tmp))) w := ⟨cell1 hx.bs, (cells4 h.hd).1.1, cell1 hx.bt⟩
  have hGo : ∀ w' ρ', FsStep w ρ w' ρ' → (fun w' => w'.cell? ⟨sb, 0, none⟩ = some (.pointer (some ⟨s, 0, none⟩)) ∧ w'.cell? ⟨s, 0, none⟩ = some (.pointer (some ⟨d.fb, 0, none⟩)) ∧ w'.cell? ⟨tb, 0, none⟩ = some (.string (strL tmp))) w' := fun w' ρ' hst => ⟨hst.cell hx.rs hS0.1, hst.cell h.rs hS0.2.1, hst.cell hx.rt hS0.2.2⟩
  have hcall : Calls Tryz.prog 15 #[.pointer (some ⟨d.fb, 0, none⟩), .string (strL tmp)] w.drew fun e w' => ∃ (x : FreshOf d.fs) (v lv : Value) (ρ' : Rho), e = .returned (.int .i64 (createD d.fs tmp x.x v lv).1) ∧ FsAt w' d.fb (createD d.fs tmp x.x v lv).2 ρ' ∧ FsStep w.drew ρ w' ρ' := create_calls' d.fb d.fs ρ tmp w.drew (h.fs.below (Below.refl w.heap.size w).drew) ht hfu hll
  have hcall : Calls Tryz.prog 15 #[.pointer (some ⟨d.fb, 0, none⟩), .string (strL tmp)] w.drew fun e w' => ∃ (x : FreshOf d.fs) (v lv : Value) (ρ' : Rho), e = .returned (.int .i64 (createD d.fs tmp x.x v lv).1) ∧ (fun w' => w'.cell? ⟨sb, 0, none⟩ = some (.pointer (some ⟨s, 0, none⟩)) ∧ w'.cell? ⟨s, 0, none⟩ = some (.pointer (some ⟨d.fb, 0, none⟩)) ∧ w'.cell? ⟨tb, 0, none⟩ = some (.string (strL tmp))) w' ∧ FsAt w' d.fb (createD d.fs tmp x.x v lv).2 ρ' ∧ FsStep w ρ w' ρ' :=
    hcall.mono fun e w' ⟨x, v, lv, ρ', he, hF, hst⟩ => ⟨x, v, lv, ρ', he, hGo _ _ ((FsStep.below (ρ := ρ) (Below.refl w.heap.size w).drew).trans hst), hF, (FsStep.below (ρ := ρ) (Below.refl w.heap.size w).drew).trans hst⟩
  obtain ⟨fb, hfb⟩ : ∃ fb, d.fb = fb := ⟨_, rfl⟩
  obtain ⟨tm, htm⟩ : ∃ tm, strL tmp = tm := ⟨_, rfl⟩
  rw [htm, hfb] at hS0 hcall
  have Hc := Lib.hid hcall
  have HS : Hid ((fun w' => w'.cell? ⟨sb, 0, none⟩ = some (.pointer (some ⟨s, 0, none⟩)) ∧ w'.cell? ⟨s, 0, none⟩ = some (.pointer (some ⟨fb, 0, none⟩)) ∧ w'.cell? ⟨tb, 0, none⟩ = some (.string tm)) w.drew) := hS0
  have Hfb := Lib.hid hfb
  clear hcall hGo hfb htm h hx hfu hnl hll ht
  go_enter Tryz.func167, Tryz.ntmps167
  go_upto_region 1 with fail
  refine wp_region_noPanic ?_
  refine wp_region_held_drew (S := (fun w' => w'.cell? ⟨sb, 0, none⟩ = some (.pointer (some ⟨s, 0, none⟩)) ∧ w'.cell? ⟨s, 0, none⟩ = some (.pointer (some ⟨fb, 0, none⟩)) ∧ w'.cell? ⟨tb, 0, none⟩ = some (.string tm))) (by kernel_rfl) (by first | with_reducible exact HS.out | with_reducible exact hS1) (fun hHeld => ?_)
  refine wpAnyH_take (i := 0) (oi := _) (v := ?_) (by simp only [List.getElem?_toArray, List.getElem?_cons_succ, List.getElem?_cons_zero]; rfl) (by kernel_rfl) (by kernel_rfl) (by kernel_rfl) (fun _ _ _ h => h) (Or.inl ⟨by rfl, ?_⟩) (by assumption) ?_
  rotate_left
  · intro w hSw; (try dsimp only at hSw); go_simp; (try with_reducible rfl)
  try simp only [Act.put, List.setIfInBounds_toArray, List.set_cons_zero, List.set_cons_succ]
  refine wpAnyH_take (i := 1) (oi := _) (v := ?_) (by simp only [List.getElem?_toArray, List.getElem?_cons_succ, List.getElem?_cons_zero]; rfl) (by kernel_rfl) (by kernel_rfl) (by kernel_rfl) (fun _ _ _ h => h) (Or.inl ⟨by rfl, ?_⟩) (by assumption) ?_
  rotate_left
  · intro w hSw; (try dsimp only at hSw); go_simp; (try with_reducible rfl)
  try simp only [Act.put, List.setIfInBounds_toArray, List.set_cons_zero, List.set_cons_succ]
  refine wpAnyH_take (i := 2) (oi := _) (v := ?_) (by simp only [List.getElem?_toArray, List.getElem?_cons_succ, List.getElem?_cons_zero]; rfl) (by kernel_rfl) (by kernel_rfl) (by kernel_rfl) (fun _ _ _ h => h) (Or.inl ⟨by rfl, ?_⟩) (by assumption) ?_
  rotate_left
  · intro w hSw; (try dsimp only at hSw); go_simp; (try with_reducible rfl)
  try simp only [Act.put, List.setIfInBounds_toArray, List.set_cons_zero, List.set_cons_succ]
  refine wpAnyH_take (i := 3) (oi := _) (v := ?_) (by simp only [List.getElem?_toArray, List.getElem?_cons_succ, List.getElem?_cons_zero]; rfl) (by kernel_rfl) (by kernel_rfl) (by kernel_rfl) (fun _ _ _ h => h) (Or.inl ⟨by rfl, ?_⟩) (by assumption) ?_
  rotate_left
  · intro w hSw; (try dsimp only at hSw); go_simp; (try with_reducible rfl)
  try simp only [Act.put, List.setIfInBounds_toArray, List.set_cons_zero, List.set_cons_succ]
  refine wpAnyH_take (i := 4) (oi := _) (v := ?_) (by simp only [List.getElem?_toArray, List.getElem?_cons_succ, List.getElem?_cons_zero]; rfl) (by kernel_rfl) (by kernel_rfl) (by kernel_rfl) (fun _ _ _ h => h) (Or.inl ⟨by rfl, ?_⟩) (by assumption) ?_
  rotate_left
  · intro w hSw; (try dsimp only at hSw); go_simp; (try with_reducible rfl)
  try simp only [Act.put, List.setIfInBounds_toArray, List.set_cons_zero, List.set_cons_succ]
  refine wpAnyH_ready (rs := [5]) (by kernel_rfl) (by simp) ?_
  refine AllReadyH.cons (o := _) (by simp only [List.getElem?_toArray, List.getElem?_cons_succ, List.getElem?_cons_zero]; rfl) (fun K hK => ?_) AllReadyH.nil
  go_simp
  go_at_call 15; refine (Hc.out).mono ?_; rintro e wu ⟨x, v, lv, ρ', rfl, hS1, hF, hst⟩
  refine hK.out _ _ (by (try dsimp only); first | with_reducible exact HS.out | with_reducible exact hS1) (fun hHeld => ?_)
  clear hK K
  try simp only [Act.put, List.setIfInBounds_toArray, List.set_cons_zero, List.set_cons_succ]
  refine wpAnyH_take (i := 6) (oi := _) (v := ?_) (by simp only [List.getElem?_toArray, List.getElem?_cons_succ, List.getElem?_cons_zero]; rfl) (by kernel_rfl) (by kernel_rfl) (by kernel_rfl) (fun _ _ _ h => h) (Or.inl ⟨by rfl, ?_⟩) (by assumption) ?_
  rotate_left
  · intro w hSw; (try dsimp only at hSw); go_simp; (try with_reducible rfl)
  try simp only [Act.put, List.setIfInBounds_toArray, List.set_cons_zero, List.set_cons_succ]
  refine wpAnyH_done (by kernel_rfl) ?_ _
  refine NoPanic.normal ?_
  go_wp2
  go_ret
  exact ⟨x, v, lv, ρ', FsDone.mk rfl (by rw [Hfb.out]; exact hF) hst⟩
set_option maxHeartbeats 8000000 in
theorem lay3_calls (sb tb s : Nat) (tmp : Nm) (d : StoD) (ρ : Rho) (bb : Nat) (aB : Option Addr) (cB : Nat) (bs : List UInt8) (w : World) (h : StoAt w s d ρ) (hx : LayBox w ρ sb tb s tmp) (ht : tmp.length ≤ maxLen) (hfu : -1 ≤ d.fs.fuse ∧ d.fs.fuse ≤ 9223372036854775807) (hnl : d.fs.now.length ≤ 256) (hll : d.fs.loose.length ≤ 1000000) (hroom : 0 ≤ d.fs.room ∧ d.fs.room ≤ 16777216) (hbb : w.heap[bb]? = some (.cells #[.slice aB bs.length cB] 22 (0, 0))) (hrb : ρ bb = none) (hv : RdB w (.slice aB bs.length cB) bs) (hnv : NilOk (.slice aB bs.length cB)) (hfree : ∀ k, (Value.slice aB bs.length cB).ownBlock = some k → ρ k = none) :
    Calls Tryz.prog 168 #[.pointer (some ⟨sb, 0, none⟩), .pointer (some ⟨tb, 0, none⟩), .pointer (some ⟨bb, 0, none⟩)] w fun e w' => ∃ row ρ', FsDone d.fb ρ w e w' (appendD d.fs tmp bs row).1 (appendD d.fs tmp bs row).2 ρ' := by
  have hS0 : (fun w' => w'.cell? ⟨sb, 0, none⟩ = some (.pointer (some ⟨s, 0, none⟩)) ∧ w'.cell? ⟨s, 0, none⟩ = some (.pointer (some ⟨d.fb, 0, none⟩)) ∧ w'.cell? ⟨tb, 0, none⟩ = some (.string (strL tmp)) ∧ w'.cell? ⟨bb, 0, none⟩ = some (.slice aB bs.length cB)) w := ⟨cell1 hx.bs, (cells4 h.hd).1.1, cell1 hx.bt, cell1 hbb⟩
  have hGo : ∀ w' ρ', FsStep w ρ w' ρ' → (fun w' => w'.cell? ⟨sb, 0, none⟩ = some (.pointer (some ⟨s, 0, none⟩)) ∧ w'.cell? ⟨s, 0, none⟩ = some (.pointer (some ⟨d.fb, 0, none⟩)) ∧ w'.cell? ⟨tb, 0, none⟩ = some (.string (strL tmp)) ∧ w'.cell? ⟨bb, 0, none⟩ = some (.slice aB bs.length cB)) w' := fun w' ρ' hst => ⟨hst.cell hx.rs hS0.1, hst.cell h.rs hS0.2.1, hst.cell hx.rt hS0.2.2.1, hst.cell hrb hS0.2.2.2⟩
  have hcall : Calls Tryz.prog 16 #[.pointer (some ⟨d.fb, 0, none⟩), .string (strL tmp), .slice aB bs.length cB] w.drew fun e w' => ∃ row ρ', e = .returned (.int .i64 (appendD d.fs tmp bs row).1) ∧ FsAt w' d.fb (appendD d.fs tmp bs row).2 ρ' ∧ FsStep w.drew ρ w' ρ' := append_calls d.fb d.fs ρ tmp _ bs w.drew (h.fs.below (Below.refl w.heap.size w).drew) ht hfu hnl hroom (hv.below (Nat.le_refl _) (Below.refl w.heap.size w).drew) hnv hfree
  have hcall : Calls Tryz.prog 16 #[.pointer (some ⟨d.fb, 0, none⟩), .string (strL tmp), .slice aB bs.length cB] w.drew fun e w' => ∃ row ρ', e = .returned (.int .i64 (appendD d.fs tmp bs row).1) ∧ (fun w' => w'.cell? ⟨sb, 0, none⟩ = some (.pointer (some ⟨s, 0, none⟩)) ∧ w'.cell? ⟨s, 0, none⟩ = some (.pointer (some ⟨d.fb, 0, none⟩)) ∧ w'.cell? ⟨tb, 0, none⟩ = some (.string (strL tmp)) ∧ w'.cell? ⟨bb, 0, none⟩ = some (.slice aB bs.length cB)) w' ∧ FsAt w' d.fb (appendD d.fs tmp bs row).2 ρ' ∧ FsStep w ρ w' ρ' :=
    hcall.mono fun e w' ⟨row, ρ', he, hF, hst⟩ => ⟨row, ρ', he, hGo _ _ ((FsStep.below (ρ := ρ) (Below.refl w.heap.size w).drew).trans hst), hF, (FsStep.below (ρ := ρ) (Below.refl w.heap.size w).drew).trans hst⟩
  obtain ⟨fb, hfb⟩ : ∃ fb, d.fb = fb := ⟨_, rfl⟩
  obtain ⟨tm, htm⟩ : ∃ tm, strL tmp = tm := ⟨_, rfl⟩
  rw [htm, hfb] at hS0 hcall
  have Hc := Lib.hid hcall
  have HS : Hid ((fun w' => w'.cell? ⟨sb, 0, none⟩ = some (.pointer (some ⟨s, 0, none⟩)) ∧ w'.cell? ⟨s, 0, none⟩ = some (.pointer (some ⟨fb, 0, none⟩)) ∧ w'.cell? ⟨tb, 0, none⟩ = some (.string tm) ∧ w'.cell? ⟨bb, 0, none⟩ = some (.slice aB bs.length cB)) w.drew) := hS0
  have Hfb := Lib.hid hfb
  clear hcall hGo hfb htm h hx hfu hnl hll ht
  go_enter Tryz.func168, Tryz.ntmps168
  go_upto_region 1 with fail
  refine wp_region_noPanic ?_
  refine wp_region_held_drew (S := (fun w' => w'.cell? ⟨sb, 0, none⟩ = some (.pointer (some ⟨s, 0, none⟩)) ∧ w'.cell? ⟨s, 0, none⟩ = some (.pointer (some ⟨fb, 0, none⟩)) ∧ w'.cell? ⟨tb, 0, none⟩ = some (.string tm) ∧ w'.cell? ⟨bb, 0, none⟩ = some (.slice aB bs.length cB))) (by kernel_rfl) (by first | with_reducible exact HS.out | with_reducible exact hS1) (fun hHeld => ?_)
  refine wpAnyH_take (i := 0) (oi := _) (v := ?_) (by simp only [List.getElem?_toArray, List.getElem?_cons_succ, List.getElem?_cons_zero]; rfl) (by kernel_rfl) (by kernel_rfl) (by kernel_rfl) (fun _ _ _ h => h) (Or.inl ⟨by rfl, ?_⟩) (by assumption) ?_
  rotate_left
  · intro w hSw; (try dsimp only at hSw); go_simp; (try with_reducible rfl)
  try simp only [Act.put, List.setIfInBounds_toArray, List.set_cons_zero, List.set_cons_succ]
  refine wpAnyH_take (i := 1) (oi := _) (v := ?_) (by simp only [List.getElem?_toArray, List.getElem?_cons_succ, List.getElem?_cons_zero]; rfl) (by kernel_rfl) (by kernel_rfl) (by kernel_rfl) (fun _ _ _ h => h) (Or.inl ⟨by rfl, ?_⟩) (by assumption) ?_
  rotate_left
  · intro w hSw; (try dsimp only at hSw); go_simp; (try with_reducible rfl)
  try simp only [Act.put, List.setIfInBounds_toArray, List.set_cons_zero, List.set_cons_succ]
  refine wpAnyH_take (i := 2) (oi := _) (v := ?_) (by simp only [List.getElem?_toArray, List.getElem?_cons_succ, List.getElem?_cons_zero]; rfl) (by kernel_rfl) (by kernel_rfl) (by kernel_rfl) (fun _ _ _ h => h) (Or.inl ⟨by rfl, ?_⟩) (by assumption) ?_
  rotate_left
  · intro w hSw; (try dsimp only at hSw); go_simp; (try with_reducible rfl)
  try simp only [Act.put, List.setIfInBounds_toArray, List.set_cons_zero, List.set_cons_succ]
  refine wpAnyH_take (i := 3) (oi := _) (v := ?_) (by simp only [List.getElem?_toArray, List.getElem?_cons_succ, List.getElem?_cons_zero]; rfl) (by kernel_rfl) (by kernel_rfl) (by kernel_rfl) (fun _ _ _ h => h) (Or.inl ⟨by rfl, ?_⟩) (by assumption) ?_
  rotate_left
  · intro w hSw; (try dsimp only at hSw); go_simp; (try with_reducible rfl)
  try simp only [Act.put, List.setIfInBounds_toArray, List.set_cons_zero, List.set_cons_succ]
  refine wpAnyH_take (i := 4) (oi := _) (v := ?_) (by simp only [List.getElem?_toArray, List.getElem?_cons_succ, List.getElem?_cons_zero]; rfl) (by kernel_rfl) (by kernel_rfl) (by kernel_rfl) (fun _ _ _ h => h) (Or.inl ⟨by rfl, ?_⟩) (by assumption) ?_
  rotate_left
  · intro w hSw; (try dsimp only at hSw); go_simp; (try with_reducible rfl)
  try simp only [Act.put, List.setIfInBounds_toArray, List.set_cons_zero, List.set_cons_succ]
  refine wpAnyH_take (i := 5) (oi := _) (v := ?_) (by simp only [List.getElem?_toArray, List.getElem?_cons_succ, List.getElem?_cons_zero]; rfl) (by kernel_rfl) (by kernel_rfl) (by kernel_rfl) (fun _ _ _ h => h) (Or.inl ⟨by rfl, ?_⟩) (by assumption) ?_
  rotate_left
  · intro w hSw; (try dsimp only at hSw); go_simp; (try with_reducible rfl)
  try simp only [Act.put, List.setIfInBounds_toArray, List.set_cons_zero, List.set_cons_succ]
  refine wpAnyH_ready (rs := [6]) (by kernel_rfl) (by simp) ?_
  refine AllReadyH.cons (o := _) (by simp only [List.getElem?_toArray, List.getElem?_cons_succ, List.getElem?_cons_zero]; rfl) (fun K hK => ?_) AllReadyH.nil
  go_simp
  go_at_call 16; refine (Hc.out).mono ?_; rintro e wu ⟨row, ρ', rfl, hS1, hF, hst⟩
  refine hK.out _ _ (by (try dsimp only); first | with_reducible exact HS.out | with_reducible exact hS1) (fun hHeld => ?_)
  clear hK K
  try simp only [Act.put, List.setIfInBounds_toArray, List.set_cons_zero, List.set_cons_succ]
  refine wpAnyH_take (i := 7) (oi := _) (v := ?_) (by simp only [List.getElem?_toArray, List.getElem?_cons_succ, List.getElem?_cons_zero]; rfl) (by kernel_rfl) (by kernel_rfl) (by kernel_rfl) (fun _ _ _ h => h) (Or.inl ⟨by rfl, ?_⟩) (by assumption) ?_
  rotate_left
  · intro w hSw; (try dsimp only at hSw); go_simp; (try with_reducible rfl)
  try simp only [Act.put, List.setIfInBounds_toArray, List.set_cons_zero, List.set_cons_succ]
  refine wpAnyH_done (by kernel_rfl) ?_ _
  refine NoPanic.normal ?_
  go_wp2
  go_ret
  exact ⟨row, ρ', FsDone.mk rfl (by rw [Hfb.out]; exact hF) hst⟩
set_option maxHeartbeats 8000000 in
theorem lay4_calls (sb tb s : Nat) (tmp : Nm) (d : StoD) (ρ : Rho) (w : World) (h : StoAt w s d ρ) (hx : LayBox w ρ sb tb s tmp) (ht : tmp.length ≤ maxLen) (hfu : -1 ≤ d.fs.fuse ∧ d.fs.fuse ≤ 9223372036854775807) (hnl : d.fs.now.length ≤ 256) (hll : d.fs.loose.length ≤ 1000000) :
    Calls Tryz.prog 169 #[.pointer (some ⟨sb, 0, none⟩), .pointer (some ⟨tb, 0, none⟩)] w fun e w' => FsDone d.fb ρ w e w' (syncD d.fs tmp).1 (syncD d.fs tmp).2 ρ := by
  have hS0 : (fun w' => w'.cell? ⟨sb, 0, none⟩ = some (.pointer (some ⟨s, 0, none⟩)) ∧ w'.cell? ⟨s, 0, none⟩ = some (.pointer (some ⟨d.fb, 0, none⟩)) ∧ w'.cell? ⟨tb, 0, none⟩ = some (.string (strL tmp))) w := ⟨cell1 hx.bs, (cells4 h.hd).1.1, cell1 hx.bt⟩
  have hGo : ∀ w' ρ', FsStep w ρ w' ρ' → (fun w' => w'.cell? ⟨sb, 0, none⟩ = some (.pointer (some ⟨s, 0, none⟩)) ∧ w'.cell? ⟨s, 0, none⟩ = some (.pointer (some ⟨d.fb, 0, none⟩)) ∧ w'.cell? ⟨tb, 0, none⟩ = some (.string (strL tmp))) w' := fun w' ρ' hst => ⟨hst.cell hx.rs hS0.1, hst.cell h.rs hS0.2.1, hst.cell hx.rt hS0.2.2⟩
  have hcall : Calls Tryz.prog 70 #[.pointer (some ⟨d.fb, 0, none⟩), .string (strL tmp)] w.drew fun e w' => e = .returned (.int .i64 (syncD d.fs tmp).1) ∧ FsAt w' d.fb (syncD d.fs tmp).2 ρ ∧ FsStep w.drew ρ w' ρ := sync_calls d.fb d.fs ρ tmp w.drew (h.fs.below (Below.refl w.heap.size w).drew) ht hfu
  have hcall : Calls Tryz.prog 70 #[.pointer (some ⟨d.fb, 0, none⟩), .string (strL tmp)] w.drew fun e w' => e = .returned (.int .i64 (syncD d.fs tmp).1) ∧ (fun w' => w'.cell? ⟨sb, 0, none⟩ = some (.pointer (some ⟨s, 0, none⟩)) ∧ w'.cell? ⟨s, 0, none⟩ = some (.pointer (some ⟨d.fb, 0, none⟩)) ∧ w'.cell? ⟨tb, 0, none⟩ = some (.string (strL tmp))) w' ∧ FsAt w' d.fb (syncD d.fs tmp).2 ρ ∧ FsStep w ρ w' ρ :=
    hcall.mono fun e w' ⟨he, hF, hst⟩ => ⟨he, hGo _ _ ((FsStep.below (ρ := ρ) (Below.refl w.heap.size w).drew).trans hst), hF, (FsStep.below (ρ := ρ) (Below.refl w.heap.size w).drew).trans hst⟩
  obtain ⟨fb, hfb⟩ : ∃ fb, d.fb = fb := ⟨_, rfl⟩
  obtain ⟨tm, htm⟩ : ∃ tm, strL tmp = tm := ⟨_, rfl⟩
  rw [htm, hfb] at hS0 hcall
  have Hc := Lib.hid hcall
  have HS : Hid ((fun w' => w'.cell? ⟨sb, 0, none⟩ = some (.pointer (some ⟨s, 0, none⟩)) ∧ w'.cell? ⟨s, 0, none⟩ = some (.pointer (some ⟨fb, 0, none⟩)) ∧ w'.cell? ⟨tb, 0, none⟩ = some (.string tm)) w.drew) := hS0
  have Hfb := Lib.hid hfb
  clear hcall hGo hfb htm h hx hfu hnl hll ht
  go_enter Tryz.func169, Tryz.ntmps169
  go_upto_region 1 with fail
  refine wp_region_noPanic ?_
  refine wp_region_held_drew (S := (fun w' => w'.cell? ⟨sb, 0, none⟩ = some (.pointer (some ⟨s, 0, none⟩)) ∧ w'.cell? ⟨s, 0, none⟩ = some (.pointer (some ⟨fb, 0, none⟩)) ∧ w'.cell? ⟨tb, 0, none⟩ = some (.string tm))) (by kernel_rfl) (by first | with_reducible exact HS.out | with_reducible exact hS1) (fun hHeld => ?_)
  refine wpAnyH_take (i := 0) (oi := _) (v := ?_) (by simp only [List.getElem?_toArray, List.getElem?_cons_succ, List.getElem?_cons_zero]; rfl) (by kernel_rfl) (by kernel_rfl) (by kernel_rfl) (fun _ _ _ h => h) (Or.inl ⟨by rfl, ?_⟩) (by assumption) ?_
  rotate_left
  · intro w hSw; (try dsimp only at hSw); go_simp; (try with_reducible rfl)
  try simp only [Act.put, List.setIfInBounds_toArray, List.set_cons_zero, List.set_cons_succ]
  refine wpAnyH_take (i := 1) (oi := _) (v := ?_) (by simp only [List.getElem?_toArray, List.getElem?_cons_succ, List.getElem?_cons_zero]; rfl) (by kernel_rfl) (by kernel_rfl) (by kernel_rfl) (fun _ _ _ h => h) (Or.inl ⟨by rfl, ?_⟩) (by assumption) ?_
  rotate_left
  · intro w hSw; (try dsimp only at hSw); go_simp; (try with_reducible rfl)
  try simp only [Act.put, List.setIfInBounds_toArray, List.set_cons_zero, List.set_cons_succ]
  refine wpAnyH_take (i := 2) (oi := _) (v := ?_) (by simp only [List.getElem?_toArray, List.getElem?_cons_succ, List.getElem?_cons_zero]; rfl) (by kernel_rfl) (by kernel_rfl) (by kernel_rfl) (fun _ _ _ h => h) (Or.inl ⟨by rfl, ?_⟩) (by assumption) ?_
  rotate_left
  · intro w hSw; (try dsimp only at hSw); go_simp; (try with_reducible rfl)
  try simp only [Act.put, List.setIfInBounds_toArray, List.set_cons_zero, List.set_cons_succ]
  refine wpAnyH_take (i := 3) (oi := _) (v := ?_) (by simp only [List.getElem?_toArray, List.getElem?_cons_succ, List.getElem?_cons_zero]; rfl) (by kernel_rfl) (by kernel_rfl) (by kernel_rfl) (fun _ _ _ h => h) (Or.inl ⟨by rfl, ?_⟩) (by assumption) ?_
  rotate_left
  · intro w hSw; (try dsimp only at hSw); go_simp; (try with_reducible rfl)
  try simp only [Act.put, List.setIfInBounds_toArray, List.set_cons_zero, List.set_cons_succ]
  refine wpAnyH_take (i := 4) (oi := _) (v := ?_) (by simp only [List.getElem?_toArray, List.getElem?_cons_succ, List.getElem?_cons_zero]; rfl) (by kernel_rfl) (by kernel_rfl) (by kernel_rfl) (fun _ _ _ h => h) (Or.inl ⟨by rfl, ?_⟩) (by assumption) ?_
  rotate_left
  · intro w hSw; (try dsimp only at hSw); go_simp; (try with_reducible rfl)
  try simp only [Act.put, List.setIfInBounds_toArray, List.set_cons_zero, List.set_cons_succ]
  refine wpAnyH_ready (rs := [5]) (by kernel_rfl) (by simp) ?_
  refine AllReadyH.cons (o := _) (by simp only [List.getElem?_toArray, List.getElem?_cons_succ, List.getElem?_cons_zero]; rfl) (fun K hK => ?_) AllReadyH.nil
  go_simp
  go_at_call 70; refine (Hc.out).mono ?_; rintro e wu ⟨rfl, hS1, hF, hst⟩
  refine hK.out _ _ (by (try dsimp only); first | with_reducible exact HS.out | with_reducible exact hS1) (fun hHeld => ?_)
  clear hK K
  try simp only [Act.put, List.setIfInBounds_toArray, List.set_cons_zero, List.set_cons_succ]
  refine wpAnyH_take (i := 6) (oi := _) (v := ?_) (by simp only [List.getElem?_toArray, List.getElem?_cons_succ, List.getElem?_cons_zero]; rfl) (by kernel_rfl) (by kernel_rfl) (by kernel_rfl) (fun _ _ _ h => h) (Or.inl ⟨by rfl, ?_⟩) (by assumption) ?_
  rotate_left
  · intro w hSw; (try dsimp only at hSw); go_simp; (try with_reducible rfl)
  try simp only [Act.put, List.setIfInBounds_toArray, List.set_cons_zero, List.set_cons_succ]
  refine wpAnyH_done (by kernel_rfl) ?_ _
  refine NoPanic.normal ?_
  go_wp2
  go_ret
  exact FsDone.mk rfl (by rw [Hfb.out]; exact hF) hst
theorem nameD_len (q : UInt8) (id : Int) : (nameD q id).length ≤ 11 := by
  unfold nameD; split
  · rw [List.length_append, numD_length (by omega)]; simp
  · simp
set_option maxHeartbeats 8000000 in
theorem lay5_calls (sb tb s : Nat) (tmp : Nm) (d : StoD) (ρ : Rho) (qb nb : Nat) (q : UInt8) (id : Int) (w : World) (h : StoAt w s d ρ) (hx : LayBox w ρ sb tb s tmp) (ht : tmp.length ≤ maxLen) (hfu : -1 ≤ d.fs.fuse ∧ d.fs.fuse ≤ 9223372036854775807) (hnl : d.fs.now.length ≤ 256) (hll : d.fs.loose.length ≤ 1000000) (hqb : w.heap[qb]? = some (.cells #[.int .u8 q.toNat] 5 (0, 0))) (hnb : w.heap[nb]? = some (.cells #[.int .i64 id] 3 (0, 0))) (rqb : ρ qb = none) (rnb : ρ nb = none) (hI : 0 ≤ id → id ≤ 999999999 → ItoaOk id.toNat w) :
    Calls Tryz.prog 170 #[.pointer (some ⟨sb, 0, none⟩), .pointer (some ⟨tb, 0, none⟩), .pointer (some ⟨qb, 0, none⟩), .pointer (some ⟨nb, 0, none⟩)] w fun e w' => ∃ v lv ρ', FsDone d.fb ρ w e w' (renameD d.fs tmp (nameD q id) v lv).1 (renameD d.fs tmp (nameD q id) v lv).2 ρ' := by
  have hS0 : (fun w' => w'.cell? ⟨sb, 0, none⟩ = some (.pointer (some ⟨s, 0, none⟩)) ∧ w'.cell? ⟨s, 0, none⟩ = some (.pointer (some ⟨d.fb, 0, none⟩)) ∧ w'.cell? ⟨tb, 0, none⟩ = some (.string (strL tmp)) ∧ w'.cell? ⟨qb, 0, none⟩ = some (.int .u8 q.toNat) ∧ w'.cell? ⟨nb, 0, none⟩ = some (.int .i64 id)) w := ⟨cell1 hx.bs, (cells4 h.hd).1.1, cell1 hx.bt, cell1 hqb, cell1 hnb⟩
  have hGo : ∀ w' ρ', FsStep w ρ w' ρ' → (fun w' => w'.cell? ⟨sb, 0, none⟩ = some (.pointer (some ⟨s, 0, none⟩)) ∧ w'.cell? ⟨s, 0, none⟩ = some (.pointer (some ⟨d.fb, 0, none⟩)) ∧ w'.cell? ⟨tb, 0, none⟩ = some (.string (strL tmp)) ∧ w'.cell? ⟨qb, 0, none⟩ = some (.int .u8 q.toNat) ∧ w'.cell? ⟨nb, 0, none⟩ = some (.int .i64 id)) w' := fun w' ρ' hst => ⟨hst.cell hx.rs hS0.1, hst.cell h.rs hS0.2.1, hst.cell hx.rt hS0.2.2.1, hst.cell rqb hS0.2.2.2.1, hst.cell rnb hS0.2.2.2.2⟩
  have hbd : Below w.heap.size w w.drew := (Below.refl _ _).drew
  have hname : Calls Tryz.prog 12 #[.int .u8 q.toNat, .int .i64 id] w.drew fun e w' => e = .returned (.string (strL (nameD q id))) ∧ (fun w' => w'.cell? ⟨sb, 0, none⟩ = some (.pointer (some ⟨s, 0, none⟩)) ∧ w'.cell? ⟨s, 0, none⟩ = some (.pointer (some ⟨d.fb, 0, none⟩)) ∧ w'.cell? ⟨tb, 0, none⟩ = some (.string (strL tmp)) ∧ w'.cell? ⟨qb, 0, none⟩ = some (.int .u8 q.toNat) ∧ w'.cell? ⟨nb, 0, none⟩ = some (.int .i64 id)) w' ∧ Below w.heap.size w w' :=
    (name_calls q id w.drew (fun a b => (hI a b).below hbd)).mono fun e w' ⟨he, hb⟩ => ⟨he, hGo _ ρ (FsStep.below (hbd.trans (hb.mono hbd.size))), hbd.trans (hb.mono hbd.size)⟩
  have hren : ∀ W, Below w.heap.size w W → Calls Tryz.prog 111 #[.pointer (some ⟨d.fb, 0, none⟩), .string (strL tmp), .string (strL (nameD q id))] W fun e w' => ∃ v lv ρ', e = .returned (.int .i64 (renameD d.fs tmp (nameD q id) v lv).1) ∧ (fun w' => w'.cell? ⟨sb, 0, none⟩ = some (.pointer (some ⟨s, 0, none⟩)) ∧ w'.cell? ⟨s, 0, none⟩ = some (.pointer (some ⟨d.fb, 0, none⟩)) ∧ w'.cell? ⟨tb, 0, none⟩ = some (.string (strL tmp)) ∧ w'.cell? ⟨qb, 0, none⟩ = some (.int .u8 q.toNat) ∧ w'.cell? ⟨nb, 0, none⟩ = some (.int .i64 id)) w' ∧ FsAt w' d.fb (renameD d.fs tmp (nameD q id) v lv).2 ρ' ∧ FsStep w ρ w' ρ' :=
    fun W hb => (rename_calls d.fb d.fs ρ tmp (nameD q id) W (h.fs.below hb) ht (by have := nameD_len q id; unfold maxLen; omega) hfu hnl hll).mono fun e w' ⟨v, lv, ρ', he, hF, hst⟩ => ⟨v, lv, ρ', he, hGo _ _ ((FsStep.below (ρ := ρ) hb).trans hst), hF, (FsStep.below (ρ := ρ) hb).trans hst⟩
  obtain ⟨fb, hfb⟩ : ∃ fb, d.fb = fb := ⟨_, rfl⟩
  obtain ⟨tm, htm⟩ : ∃ tm, strL tmp = tm := ⟨_, rfl⟩
  obtain ⟨qn, hqn⟩ : ∃ qn : Nat, q.toNat = qn := ⟨_, rfl⟩
  obtain ⟨nm, hnm⟩ : ∃ nm, strL (nameD q id) = nm := ⟨_, rfl⟩
  rw [htm, hfb, hqn] at hS0 hname hren
  rw [hnm] at hname hren
  have Hn := Lib.hid hname
  have Hr := Lib.hid hren
  have HS : Hid ((fun w' => w'.cell? ⟨sb, 0, none⟩ = some (.pointer (some ⟨s, 0, none⟩)) ∧ w'.cell? ⟨s, 0, none⟩ = some (.pointer (some ⟨fb, 0, none⟩)) ∧ w'.cell? ⟨tb, 0, none⟩ = some (.string tm) ∧ w'.cell? ⟨qb, 0, none⟩ = some (.int .u8 qn) ∧ w'.cell? ⟨nb, 0, none⟩ = some (.int .i64 id)) w.drew) := hS0
  have Hfb := Lib.hid hfb
  clear hname hren hGo hfb htm hqn hnm h hx hfu hnl hll ht hI hqb hnb rqb rnb hbd
  go_enter Tryz.func170, Tryz.ntmps170
  go_upto_region 1 with fail
  refine wp_region_noPanic ?_
  refine wp_region_held_drew (S := (fun w' => w'.cell? ⟨sb, 0, none⟩ = some (.pointer (some ⟨s, 0, none⟩)) ∧ w'.cell? ⟨s, 0, none⟩ = some (.pointer (some ⟨fb, 0, none⟩)) ∧ w'.cell? ⟨tb, 0, none⟩ = some (.string tm) ∧ w'.cell? ⟨qb, 0, none⟩ = some (.int .u8 qn) ∧ w'.cell? ⟨nb, 0, none⟩ = some (.int .i64 id))) (by kernel_rfl) (by first | with_reducible exact HS.out | with_reducible exact hSn | with_reducible exact hS1) (fun hHeld => ?_)
  refine wpAnyH_take (i := 0) (oi := _) (v := ?_) (by simp only [List.getElem?_toArray, List.getElem?_cons_succ, List.getElem?_cons_zero]; rfl) (by kernel_rfl) (by kernel_rfl) (by kernel_rfl) (fun _ _ _ h => h) (Or.inl ⟨by rfl, ?_⟩) (by assumption) ?_
  rotate_left
  · intro w hSw; (try dsimp only at hSw); go_simp; (try with_reducible rfl)
  try simp only [Act.put, List.setIfInBounds_toArray, List.set_cons_zero, List.set_cons_succ]
  refine wpAnyH_take (i := 1) (oi := _) (v := ?_) (by simp only [List.getElem?_toArray, List.getElem?_cons_succ, List.getElem?_cons_zero]; rfl) (by kernel_rfl) (by kernel_rfl) (by kernel_rfl) (fun _ _ _ h => h) (Or.inl ⟨by rfl, ?_⟩) (by assumption) ?_
  rotate_left
  · intro w hSw; (try dsimp only at hSw); go_simp; (try with_reducible rfl)
  try simp only [Act.put, List.setIfInBounds_toArray, List.set_cons_zero, List.set_cons_succ]
  refine wpAnyH_take (i := 2) (oi := _) (v := ?_) (by simp only [List.getElem?_toArray, List.getElem?_cons_succ, List.getElem?_cons_zero]; rfl) (by kernel_rfl) (by kernel_rfl) (by kernel_rfl) (fun _ _ _ h => h) (Or.inl ⟨by rfl, ?_⟩) (by assumption) ?_
  rotate_left
  · intro w hSw; (try dsimp only at hSw); go_simp; (try with_reducible rfl)
  try simp only [Act.put, List.setIfInBounds_toArray, List.set_cons_zero, List.set_cons_succ]
  refine wpAnyH_take (i := 3) (oi := _) (v := ?_) (by simp only [List.getElem?_toArray, List.getElem?_cons_succ, List.getElem?_cons_zero]; rfl) (by kernel_rfl) (by kernel_rfl) (by kernel_rfl) (fun _ _ _ h => h) (Or.inl ⟨by rfl, ?_⟩) (by assumption) ?_
  rotate_left
  · intro w hSw; (try dsimp only at hSw); go_simp; (try with_reducible rfl)
  try simp only [Act.put, List.setIfInBounds_toArray, List.set_cons_zero, List.set_cons_succ]
  refine wpAnyH_take (i := 4) (oi := _) (v := ?_) (by simp only [List.getElem?_toArray, List.getElem?_cons_succ, List.getElem?_cons_zero]; rfl) (by kernel_rfl) (by kernel_rfl) (by kernel_rfl) (fun _ _ _ h => h) (Or.inl ⟨by rfl, ?_⟩) (by assumption) ?_
  rotate_left
  · intro w hSw; (try dsimp only at hSw); go_simp; (try with_reducible rfl)
  try simp only [Act.put, List.setIfInBounds_toArray, List.set_cons_zero, List.set_cons_succ]
  refine wpAnyH_take (i := 5) (oi := _) (v := ?_) (by simp only [List.getElem?_toArray, List.getElem?_cons_succ, List.getElem?_cons_zero]; rfl) (by kernel_rfl) (by kernel_rfl) (by kernel_rfl) (fun _ _ _ h => h) (Or.inl ⟨by rfl, ?_⟩) (by assumption) ?_
  rotate_left
  · intro w hSw; (try dsimp only at hSw); go_simp; (try with_reducible rfl)
  try simp only [Act.put, List.setIfInBounds_toArray, List.set_cons_zero, List.set_cons_succ]
  refine wpAnyH_take (i := 6) (oi := _) (v := ?_) (by simp only [List.getElem?_toArray, List.getElem?_cons_succ, List.getElem?_cons_zero]; rfl) (by kernel_rfl) (by kernel_rfl) (by kernel_rfl) (fun _ _ _ h => h) (Or.inl ⟨by rfl, ?_⟩) (by assumption) ?_
  rotate_left
  · intro w hSw; (try dsimp only at hSw); go_simp; (try with_reducible rfl)
  try simp only [Act.put, List.setIfInBounds_toArray, List.set_cons_zero, List.set_cons_succ]
  refine wpAnyH_ready (rs := [7]) (by kernel_rfl) (by simp) ?_
  refine AllReadyH.cons (o := _) (by simp only [List.getElem?_toArray, List.getElem?_cons_succ, List.getElem?_cons_zero]; rfl) (fun K hK => ?_) AllReadyH.nil
  go_simp
  go_at_call 12; refine (Hn.out).mono ?_; rintro e wn ⟨rfl, hSn, hbn⟩
  refine hK.out _ _ (by (try dsimp only); first | with_reducible exact HS.out | with_reducible exact hSn | with_reducible exact hS1) (fun hHeld => ?_)
  clear hK K
  try simp only [Act.put, List.setIfInBounds_toArray, List.set_cons_zero, List.set_cons_succ]
  refine wpAnyH_ready (rs := [8]) (by kernel_rfl) (by simp) ?_
  refine AllReadyH.cons (o := _) (by simp only [List.getElem?_toArray, List.getElem?_cons_succ, List.getElem?_cons_zero]; rfl) (fun K hK => ?_) AllReadyH.nil
  go_simp
  go_at_call 111; refine (Hr.out wn hbn).mono ?_; rintro e wu ⟨v, lv, ρ', rfl, hS1, hF, hst⟩
  refine hK.out _ _ (by (try dsimp only); first | with_reducible exact HS.out | with_reducible exact hSn | with_reducible exact hS1) (fun hHeld => ?_)
  clear hK K
  try simp only [Act.put, List.setIfInBounds_toArray, List.set_cons_zero, List.set_cons_succ]
  refine wpAnyH_take (i := 9) (oi := _) (v := ?_) (by simp only [List.getElem?_toArray, List.getElem?_cons_succ, List.getElem?_cons_zero]; rfl) (by kernel_rfl) (by kernel_rfl) (by kernel_rfl) (fun _ _ _ h => h) (Or.inl ⟨by rfl, ?_⟩) (by assumption) ?_
  rotate_left
  · intro w hSw; (try dsimp only at hSw); go_simp; (try with_reducible rfl)
  try simp only [Act.put, List.setIfInBounds_toArray, List.set_cons_zero, List.set_cons_succ]
  refine wpAnyH_done (by kernel_rfl) ?_ _
  refine NoPanic.normal ?_
  go_wp2
  go_ret
  exact ⟨v, lv, ρ', FsDone.mk rfl (by rw [Hfb.out]; exact hF) hst⟩
end Go.Proofs.YtffnbkmigapmjaaGreatDoor
