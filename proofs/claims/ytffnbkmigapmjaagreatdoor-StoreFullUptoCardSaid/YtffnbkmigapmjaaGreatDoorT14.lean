/- Printed out of the texts of wip/tpl. -/
import Derived.Test.YtffnbkmigapmjaaGreatDoorT13
import Derived.Test.YtffnbkmigapmjaaGreatDoorShelfG
import Derived.Maps.RangeWalk
import Derived.Sort.KeysCollected
set_option linter.unusedSimpArgs false
set_option linter.unusedVariables false
set_option maxRecDepth 100000
namespace Go.Proofs.YtffnbkmigapmjaaGreatDoor
open Go.RowKit Go.Maps
def unlinkD (d : FsD) (n : Nm) (v lv : Value) : Int × FsD := if (foundD d n []).2 = 0 then changeD d (.unlink n) v lv else ((foundD d n []).2, d)
def renameD (d : FsD) (a b : Nm) (v lv : Value) : Int × FsD := if (foundD d a [b]).2 = 0 then (if a = b then powerD d else changeD d (.rename a b) v lv) else ((foundD d a [b]).2, d)
theorem found_ok {d : FsD} {n : Nm} {ns : List Nm} (h : (foundD d n ns).2 = 0) : (∀ k ∈ n :: ns, rightD k = true) ∧ d.down = false ∧ (foundD d n ns).1 = d.now.look n ∧ (d.now.look n).isSome = true := by
 unfold foundD at h ⊢
 by_cases h0 : readyE d (n :: ns) = 0
 ·rw [if_pos h0] at h ⊢
  refine ⟨readyE_right h0, ?_, rfl, ?_⟩
  ·unfold readyE at h0
   cases ha : (n :: ns).all rightD with
   | true =>
    rw [ha] at h0
    cases hd : d.down with
    | true => rw [hd] at h0; cases h0
    | false => rfl
   | false => rw [ha] at h0; cases h0
  ·cases hs : (d.now.look n).isSome with
   | true => rfl
   | false => rw [hs] at h; cases h
 ·rw [if_neg h0] at h; exact absurd h h0
theorem rdS_two {w : World} {g : Nat} {a b : Nm} {t : TypeId} (h : w.heap[g]? = some (.cells #[.string (strL a), .string (strL b)] t (0, 0))) : RdS w (.slice (some ⟨g, 0, none⟩) 2 2) [a, b] := by
 refine .inr ⟨g, 0, 2, rfl, by simp, Nat.le_refl _, by decide, (Array.getElem?_eq_some_iff.1 h).1, ?_⟩
 intro i x hx j u hu
 match i, hx with
 | 0, hx =>
  cases hx
  match j, hu with
  | 0, hu => cases hu; rw [cell_of_row _ _ _ _ _ _ h]; rfl
  | j + 1, hu => cases hu
 | 1, hx =>
  cases hx
  match j, hu with
  | 0, hu => cases hu; rw [cell_of_row _ _ _ _ _ _ h]; rfl
  | j + 1, hu => cases hu
 | i + 2, hx => cases hx
set_option maxHeartbeats 16000000 in
theorem unlink_calls (f : Nat) (d : FsD) (ρ : Rho) (n : Nm) (w : World) (h : FsAt w f d ρ) (hs : n.length ≤ maxLen) (hfu : -1 ≤ d.fuse ∧ d.fuse ≤ 9223372036854775807) (hl : d.now.length ≤ 256) (hll : d.loose.length ≤ 1000000) :
 Calls Tryz.prog 101 #[.pointer (some ⟨f, 0, none⟩), .string (strL n)] w fun e w' => ∃ v lv ρ', e = .returned (.int .i64 (unlinkD d n v lv).1) ∧ FsAt w' f (unlinkD d n v lv).2 ρ' ∧ FsStep w ρ w' ρ' := by
 obtain ⟨W1, hW1⟩ : ∃ W1, w.alloc (.cells #[.string (strL n)] 9) = W1 := ⟨_, rfl⟩
 obtain ⟨W2, hW2⟩ : ∃ W2, W1.alloc (.cells #[.string (strL n)] 9) = W2 := ⟨_, rfl⟩
 have hb1 : Below w.heap.size w W1 := by rw [← hW1]; exact (Below.refl _ _).alloc (Nat.le_refl _) _
 have hb2 : Below W1.heap.size W1 W2 := by rw [← hW2]; exact (Below.refl _ _).alloc (Nat.le_refl _) _
 have hz1 : W1.heap.size = w.heap.size + 1 := by rw [← hW1]; simp
 have hbw2 := hb1.trans (hb2.mono hb1.size)
 have hnh1 : W1.heap[w.heap.size]? = some (.cells #[.string (strL n)] 9 (0, 0)) := by rw [← hW1]; exact heap_new_at _ rfl
 have hnh2 : W2.heap[w.heap.size]? = some (.cells #[.string (strL n)] 9 (0, 0)) := (hb2.block _ (by omega)).trans hnh1
 have hnh3 : W2.heap[w.heap.size + 1]? = some (.cells #[.string (strL n)] 9 (0, 0)) := by rw [← hW2]; exact heap_new_at _ hz1.symm
 have h1 := found_calls f d ρ (.slice (some ⟨w.heap.size + 1, 0, none⟩) 1 1) n [] W2 (h.below hbw2) (rdS_one hnh3) (fun k hk => by rw [List.mem_singleton.1 hk]; exact hs)
 obtain ⟨e, he⟩ : ∃ e, (foundD d n []).2 = e := ⟨_, rfl⟩
 obtain ⟨pv, hpv⟩ : ∃ pv, ptrOf (foundD d n []).1 = pv := ⟨_, rfl⟩
 rw [he, hpv] at h1
 have Hud : Hid (∀ v lv, unlinkD d n v lv = if e = 0 then changeD d (.unlink n) v lv else (e, d)) := fun v lv => by unfold unlinkD; rw [he]
 have hok : e = 0 → n.length ≤ 80 := fun h0 => rightD_len ((found_ok (he.trans h0)).1 n (by simp))
 have H1 := Lib.hid h1
 have H := Lib.hid h
 have Hok := Lib.hid hok
 have Hbw2 := Lib.hid hbw2
 have Hnh2 := Lib.hid hnh2
 clear h1 h he hpv hok hbw2 hnh2 hnh1 hnh3 hb1 hb2 hz1 hs
 subst hW2
 subst hW1
 by_cases h0 : e = 0
 ·subst h0
  have Hud2 : Hid (∀ v lv, unlinkD d n v lv = changeD d (.unlink n) v lv) := fun v lv => by have := Hud.out v lv; rw [this]; rfl
  have Hn80 := Lib.hid (Hok.out rfl)
  clear Hud Hok
  go_enter Tryz.func101, Tryz.ntmps101
  go_wp2_with fail
  refine (H1.out).mono ?_; rintro e w3 ⟨rfl, hb3⟩
  have hbw3 := Hbw2.out.trans (hb3.mono Hbw2.out.size)
  have hb3s : w.heap.size + 2 ≤ w3.heap.size := by have := hb3.size; simp at this; omega
  have hnb3 := (hb3.block _ (Array.getElem?_eq_some_iff.1 Hnh2.out).1).trans Hnh2.out
  have hr1 : ρ w.heap.size = none := Rho.none_of H.out.rest.lt (Nat.le_refl _)
  have hf3 : FsAt w3 f d (ρ.set w.heap.size .box) := (H.out.below hbw3).grow (Below.refl _ _) (Rho.set_up hr1) (Rho.set_lt (by omega) (H.out.below hbw3).rest.lt)
  have hchg : ChgAt w3 (ρ.set w.heap.size .box) (.unlink n) (.func (.func 140) #[] #[.pointer (some ⟨w.heap.size, 0, none⟩)]) := ⟨_, rfl, Rho.set_same _ _ _, hnb3, Hn80.out⟩
  have hcall := change_calls f d _ (.unlink n) _ w3 hf3 hchg hfu trivial hl hll
  have hst : FsStep w ρ w3 (ρ.set w.heap.size .box) := ⟨Keeps.ofBelow hbw3, fun k hk => by
   by_cases e : k = w.heap.size
   ·exact .inr (by omega)
   ·unfold Rho.has at hk; rw [Rho.set_other e] at hk; exact .inl hk⟩
  have Hcall := Lib.hid hcall
  have Hst := Lib.hid hst
  clear hcall hst hf3 hchg hnb3 hbw3 hb3 hb3s hr1
  go_wp2_with fail
  refine (Hcall.out).mono ?_; rintro e w9 ⟨lv9, ρ9, rfl, hF9, hst9⟩
  go_wp2
  go_ret
  refine ⟨.func (.func 140) #[] #[.pointer (some ⟨w.heap.size, 0, none⟩)], lv9, ρ9, ?_, ?_, Hst.out.trans hst9⟩
  ·rw [Hud2.out]; rfl
  ·rw [Hud2.out]; exact hF9
 ·have h0' : (e == 0) = false := by simpa using h0
  have Hud2 : Hid (∀ v lv, unlinkD d n v lv = (e, d)) := fun v lv => by have := Hud.out v lv; rw [this, if_neg h0]
  go_enter Tryz.func101, Tryz.ntmps101
  go_wp2_with fail
  refine (H1.out).mono ?_; rintro e w3 ⟨rfl, hb3⟩
  have hbw3 := Hbw2.out.trans (hb3.mono Hbw2.out.size)
  go_wp2
  go_ret
  refine ⟨.nilFunc, d.lv, ρ, ?_⟩
  rw [Hud2.out]
  exact ⟨rfl, H.out.below hbw3, FsStep.below hbw3⟩
set_option maxHeartbeats 16000000 in
theorem rename_calls (f : Nat) (d : FsD) (ρ : Rho) (a b : Nm) (w : World) (h : FsAt w f d ρ) (hs : a.length ≤ maxLen) (hs2 : b.length ≤ maxLen) (hfu : -1 ≤ d.fuse ∧ d.fuse ≤ 9223372036854775807) (hl : d.now.length ≤ 256) (hll : d.loose.length ≤ 1000000) :
 Calls Tryz.prog 111 #[.pointer (some ⟨f, 0, none⟩), .string (strL a), .string (strL b)] w fun e w' => ∃ v lv ρ', e = .returned (.int .i64 (renameD d a b v lv).1) ∧ FsAt w' f (renameD d a b v lv).2 ρ' ∧ FsStep w ρ w' ρ' := by
 obtain ⟨W0, hW0⟩ : ∃ W0, w.alloc (.cells #[.string (strL a)] 9) = W0 := ⟨_, rfl⟩
 obtain ⟨W1, hW1⟩ : ∃ W1, W0.alloc (.cells #[.string (strL b)] 9) = W1 := ⟨_, rfl⟩
 obtain ⟨W2, hW2⟩ : ∃ W2, W1.alloc (.cells #[.string (strL a), .string (strL b)] 9) = W2 := ⟨_, rfl⟩
 have hb0 : Below w.heap.size w W0 := by rw [← hW0]; exact (Below.refl _ _).alloc (Nat.le_refl _) _
 have hb1 : Below W0.heap.size W0 W1 := by rw [← hW1]; exact (Below.refl _ _).alloc (Nat.le_refl _) _
 have hb2 : Below W1.heap.size W1 W2 := by rw [← hW2]; exact (Below.refl _ _).alloc (Nat.le_refl _) _
 have hz0 : W0.heap.size = w.heap.size + 1 := by rw [← hW0]; simp
 have hz1 : W1.heap.size = w.heap.size + 2 := by rw [← hW1]; simp [hz0]
 have hbw1 := hb0.trans (hb1.mono hb0.size)
 have hbw2 := hbw1.trans (hb2.mono hbw1.size)
 have hA0 : W0.heap[w.heap.size]? = some (.cells #[.string (strL a)] 9 (0, 0)) := by rw [← hW0]; exact heap_new_at _ rfl
 have hA1 := (hb1.block _ (by omega)).trans hA0
 have hA2 : W2.heap[w.heap.size]? = some (.cells #[.string (strL a)] 9 (0, 0)) := (hb2.block _ (by omega)).trans hA1
 have hB1 : W1.heap[w.heap.size + 1]? = some (.cells #[.string (strL b)] 9 (0, 0)) := by rw [← hW1]; exact heap_new_at _ hz0.symm
 have hB2 : W2.heap[w.heap.size + 1]? = some (.cells #[.string (strL b)] 9 (0, 0)) := (hb2.block _ (by omega)).trans hB1
 have hnh3 : W2.heap[w.heap.size + 2]? = some (.cells #[.string (strL a), .string (strL b)] 9 (0, 0)) := by rw [← hW2]; exact heap_new_at _ hz1.symm
 have h1 := found_calls f d ρ (.slice (some ⟨w.heap.size + 2, 0, none⟩) 2 2) a [b] W2 (h.below hbw2) (rdS_two hnh3) (fun k hk => by
  rcases List.mem_cons.1 hk with rfl | hk
  ·exact hs
  ·rw [List.mem_singleton.1 hk]; exact hs2)
 obtain ⟨e, he⟩ : ∃ e, (foundD d a [b]).2 = e := ⟨_, rfl⟩
 obtain ⟨pv, hpv⟩ : ∃ pv, ptrOf (foundD d a [b]).1 = pv := ⟨_, rfl⟩
 rw [he, hpv] at h1
 have Hud : Hid (∀ v lv, renameD d a b v lv = if e = 0 then (if a = b then powerD d else changeD d (.rename a b) v lv) else (e, d)) := fun v lv => by unfold renameD; rw [he]
 have hok : e = 0 → a.length ≤ 80 ∧ b.length ≤ 80 ∧ (d.now.look a).isSome = true := fun h0 => by
  have := found_ok (he.trans h0)
  exact ⟨rightD_len (this.1 a (by simp)), rightD_len (this.1 b (by simp)), this.2.2.2⟩
 have H1 := Lib.hid h1
 have H := Lib.hid h
 have Hok := Lib.hid hok
 have Hbw2 := Lib.hid hbw2
 have HA2 := Lib.hid hA2
 have HB2 := Lib.hid hB2
 clear h1 h he hpv hok hbw2 hA2 hB2 hA0 hA1 hB1 hnh3 hb0 hb1 hb2 hz0 hz1 hbw1 hs hs2
 subst hW2
 subst hW1
 subst hW0
 by_cases h0 : e = 0
 ·subst h0
  have Hud2 : Hid (∀ v lv, renameD d a b v lv = if a = b then powerD d else changeD d (.rename a b) v lv) := fun v lv => by have := Hud.out v lv; rw [this]; rfl
  have Hn80 := Lib.hid (Hok.out rfl)
  clear Hud Hok
  go_enter Tryz.func111, Tryz.ntmps111
  go_wp2_with fail
  refine (H1.out).mono ?_; rintro e w3 ⟨rfl, hb3⟩
  have hbw3 := Hbw2.out.trans (hb3.mono Hbw2.out.size)
  have hb3s : w.heap.size + 3 ≤ w3.heap.size := by have := hb3.size; simp at this; omega
  have hA3 := (hb3.block _ (Array.getElem?_eq_some_iff.1 HA2.out).1).trans HA2.out
  have hB3 := (hb3.block _ (Array.getElem?_eq_some_iff.1 HB2.out).1).trans HB2.out
  have ca : w3.cell? ⟨w.heap.size, 0, none⟩ = some (.string (strL a)) := by rw [cell_of_row _ _ _ _ _ _ hA3]; rfl
  have cb : w3.cell? ⟨w.heap.size + 1, 0, none⟩ = some (.string (strL b)) := by rw [cell_of_row _ _ _ _ _ _ hB3]; rfl
  by_cases hab : a = b
  ·have Hud3 : Hid (∀ v lv, renameD d a b v lv = powerD d) := fun v lv => by have := Hud2.out v lv; rw [this, if_pos hab]
   have hF3 := H.out.below hbw3
   have hp := power_calls f d ρ w3 hF3 hfu
   have Hp := Lib.hid hp
   have Hbw3 := Lib.hid hbw3
   have heq : ((strL a).toList == (strL b).toList) = true := by rw [hab]; simp
   have Hro := Lib.hid H.out.role
   clear hab hp hF3 hbw3 hA3 hB3 hb3 hb3s
   generalize strL a = sa at ca heq
   generalize strL b = sb at cb heq
   go_wp2_with fail
   refine (Hp.out).mono ?_; rintro e w9 ⟨rfl, hF9, hk9⟩
   go_wp2
   go_ret
   refine ⟨.nilFunc, d.lv, ρ, ?_⟩
   rw [Hud3.out]
   exact ⟨rfl, hF9, (FsStep.below Hbw3.out).trans (FsStep.one Hro.out hk9)⟩
  ·have Hud3 : Hid (∀ v lv, renameD d a b v lv = changeD d (.rename a b) v lv) := fun v lv => by have := Hud2.out v lv; rw [this, if_neg hab]
   have hr1 : ρ w.heap.size = none := Rho.none_of H.out.rest.lt (Nat.le_refl _)
   have hr2 : (ρ.set w.heap.size .box) (w.heap.size + 1) = none := by rw [Rho.set_other (by omega)]; exact Rho.none_of H.out.rest.lt (by omega)
   obtain ⟨σ, hσ⟩ : ∃ σ, (ρ.set w.heap.size .box).set (w.heap.size + 1) .box = σ := ⟨_, rfl⟩
   have hf3 : FsAt w3 f d σ := (H.out.below hbw3).grow (Below.refl _ _) (fun k r hr => by rw [← hσ]; exact Rho.set_up hr2 k r (Rho.set_up hr1 k r hr)) (by rw [← hσ]; exact Rho.set_lt (by omega) (Rho.set_lt (by omega) (H.out.below hbw3).rest.lt))
   have hchg : ChgAt w3 σ (.rename a b) (.func (.func 159) #[] #[.pointer (some ⟨w.heap.size, 0, none⟩), .pointer (some ⟨w.heap.size + 1, 0, none⟩)]) := ⟨_, _, rfl, by rw [← hσ, Rho.set_other (by omega), Rho.set_same], by rw [← hσ, Rho.set_same], hA3, hB3, Hn80.out.1, Hn80.out.2.1⟩
   have hcall := change_calls f d _ (.rename a b) _ w3 hf3 hchg hfu Hn80.out.2.2 hl hll
   have hst : FsStep w ρ w3 σ := ⟨Keeps.ofBelow hbw3, fun k hk => by
    by_cases e : k < w.heap.size
    ·rw [← hσ] at hk; unfold Rho.has at hk; rw [Rho.set_other (by omega), Rho.set_other (by omega)] at hk; exact .inl hk
    ·exact .inr (by omega)⟩
   have Hcall := Lib.hid hcall
   have Hst := Lib.hid hst
   have heq : ((strL a).toList == (strL b).toList) = false := (Lib.bytes_beq_false_iff _ _).2 (fun e => hab (strL_inj e))
   clear hcall hst hf3 hchg hA3 hB3 hbw3 hb3 hb3s hr1 hr2 hσ hab
   generalize strL a = sa at ca heq
   generalize strL b = sb at cb heq
   go_wp2_with fail
   refine (Hcall.out).mono ?_; rintro e w9 ⟨lv9, ρ9, rfl, hF9, hst9⟩
   go_wp2
   go_ret
   refine ⟨.func (.func 159) #[] #[.pointer (some ⟨w.heap.size, 0, none⟩), .pointer (some ⟨w.heap.size + 1, 0, none⟩)], lv9, ρ9, ?_, ?_, Hst.out.trans hst9⟩
   ·rw [Hud3.out]; rfl
   ·rw [Hud3.out]; exact hF9
 ·have h0' : (e == 0) = false := by simpa using h0
  have Hud2 : Hid (∀ v lv, renameD d a b v lv = (e, d)) := fun v lv => by have := Hud.out v lv; rw [this, if_neg h0]
  go_enter Tryz.func111, Tryz.ntmps111
  go_wp2_with fail
  refine (H1.out).mono ?_; rintro e w3 ⟨rfl, hb3⟩
  have hbw3 := Hbw2.out.trans (hb3.mono Hbw2.out.size)
  go_wp2
  go_ret
  refine ⟨.nilFunc, d.lv, ρ, ?_⟩
  rw [Hud2.out]
  exact ⟨rfl, H.out.below hbw3, FsStep.below hbw3⟩
theorem rdS_none {w : World} : RdS w (.slice none 0 0) [] := .inl ⟨none, 0, rfl, by decide, rfl⟩
def FsD.synced (d : FsD) (ms : Nat) : FsD := { d with sure := d.now, ms := ms, loose := [], lv := .slice none 0 0 }
def dirSyncD (d : FsD) (ms : Nat) : Int × FsD := if readyE d [] = 0 then (if (powerD d).1 = 0 then (0, (powerD d).2.synced ms) else powerD d) else (readyE d [], d)
theorem FsRest.synced {w w' : World} {d : FsD} {ρ : Rho} {f ms : Nat} (h : FsRest w d ρ) (hf : ρ f = some .fs) (hk : Keeps (fun k => k = f) w w') (hd : DirAt w' ms d.now) (hms : ρ ms = none) : FsRest w' (d.synced ms) (ρ.set ms .sure) := by
 have hup := Rho.set_up (r0 := .sure) hms
 have h' := h.keeps hk (fun k e => .inr (by rw [e]; exact hf))
 have hlt : ms < w'.heap.size := hd.lt
 exact ⟨hup _ _ h'.rnow, Rho.set_same _ _ _, h'.dnow, hd, (fun k e => by cases e), World.ownsRow_nil _ _ _ _, (fun p hp => by cases hp), fun x c hx => (h'.files x c hx).mono hup, h'.fnow, h'.fnow, Rho.set_lt hlt h'.lt⟩
set_option maxHeartbeats 8000000 in
theorem dirSync_calls (f : Nat) (d : FsD) (ρ : Rho) (w : World) (h : FsAt w f d ρ) (hfu : -1 ≤ d.fuse ∧ d.fuse ≤ 9223372036854775807) :
 Calls Tryz.prog 109 #[.pointer (some ⟨f, 0, none⟩)] w fun e w' => ∃ ms ρ', e = .returned (.int .i64 (dirSyncD d ms).1) ∧ FsAt w' f (dirSyncD d ms).2 ρ' ∧ FsStep w ρ w' ρ' := by
 have h1 := ready_calls f d ρ (.slice none 0 0) [] w h rdS_none (fun k hk => by cases hk)
 obtain ⟨e, he⟩ : ∃ e, readyE d [] = e := ⟨_, rfl⟩
 rw [he] at h1
 have Hd : Hid (∀ ms, dirSyncD d ms = if e = 0 then (if (powerD d).1 = 0 then (0, (powerD d).2.synced ms) else powerD d) else (e, d)) := fun ms => by unfold dirSyncD; rw [he]
 have H1 := Lib.hid h1
 have H := Lib.hid h
 have Hp : Hid (∀ w', Below w.heap.size w w' → Calls Tryz.prog 54 #[.pointer (some ⟨f, 0, none⟩)] w' fun e w'' => e = .returned (.int .i64 (powerD d).1) ∧ FsAt w'' f (powerD d).2 ρ ∧ Keeps (fun k => k = f) w' w'') := fun w' hb => power_calls f d ρ w' (h.below hb) hfu
 clear h1 he h
 by_cases h0 : e = 0
 ·subst h0
  have Hd2 : Hid (∀ ms, dirSyncD d ms = if (powerD d).1 = 0 then (0, (powerD d).2.synced ms) else powerD d) := fun ms => by have := Hd.out ms; rw [this]; rfl
  obtain ⟨pe, hpe⟩ : ∃ pe, (powerD d).1 = pe := ⟨_, rfl⟩
  obtain ⟨d1, hd1⟩ : ∃ d1, (powerD d).2 = d1 := ⟨_, rfl⟩
  rw [hpe, hd1] at Hp
  have Hd3 : Hid (∀ ms, dirSyncD d ms = if pe = 0 then (0, d1.synced ms) else (pe, d1)) := fun ms => by
   have := Hd2.out ms; rw [this, hpe, hd1]
   by_cases q : pe = 0
   ·rw [if_pos q, if_pos q]
   ·rw [if_neg q, if_neg q]; exact Prod.ext hpe hd1
  clear Hd Hd2 hpe hd1
  by_cases hp0 : pe = 0
  ·subst hp0
   have Hd4 : Hid (∀ ms, dirSyncD d ms = (0, d1.synced ms)) := fun ms => by have := Hd3.out ms; rw [this]; rfl
   go_enter Tryz.func109, Tryz.ntmps109
   go_wp2_with fail
   refine (H1.out).mono ?_; rintro e w1 ⟨rfl, hb1⟩
   have hp := Hp.out w1 hb1
   have Hp1 := Lib.hid hp
   have Hb1 := Lib.hid hb1
   clear hp hb1
   go_wp2_with fail
   refine (Hp1.out).mono ?_; rintro e w2 ⟨rfl, hF2, hk2⟩
   have hcl : Calls Tryz.prog 72 #[.map (some d1.mn)] w2 fun e w' => e = .returned (.map (some w2.heap.size)) ∧ w'.ownsMap Tryz.prog 9 ptrElem w2.heap.size d1.now.length (dirD d1.now) ∧ w'.ownsMap Tryz.prog 9 ptrElem d1.mn d1.now.length (dirD d1.now) ∧ Below w2.heap.size w2 w' :=
    AnyW.maps_Clone_owns Tryz.cloneM 9 ptrElem d1.mn d1.now.length (dirD d1.now) w2 hF2.rest.dnow
   obtain ⟨⟨c0, c1, c2, c3, c4, c5⟩, _⟩ := fsHd_cells hF2.hd
   have Hcl := Lib.hid hcl
   have HF2 := Lib.hid hF2
   have Hk2 := Lib.hid hk2
   clear hcl hF2 hk2 c1 c2 c3 c4 c5
   go_wp2_with fail
   refine (Hcl.out).mono ?_; rintro e w3 ⟨rfl, hd3, _, hb3⟩
   have hF3 := HF2.out.below hb3
   obtain ⟨⟨x0, x1, x2, x3, x4, x5⟩, hfz⟩ := fsHd_cells hF3.hd
   have y1 := hfz 1
   have y2 := hfz 2
   have HF3 := Lib.hid hF3
   have Hd3' := Lib.hid hd3
   have Hb3 := Lib.hid hb3
   obtain ⟨lv, hlv⟩ : ∃ lv, d1.lv = lv := ⟨_, rfl⟩
   rw [hlv] at x2
   clear hF3 hd3 hb3 x0 x3 x4 x5 hfz c0 hlv
   go_wp2
   go_ret
   obtain ⟨w4, hw4⟩ : ∃ w4, (w3.setCell ⟨f, 1, none⟩ (.map (some w2.heap.size))).setCell ⟨f, 2, none⟩ (.slice none 0 0) = w4 := ⟨_, rfl⟩
   rw [hw4]
   have hk4 : Keeps (fun k => k = f) w3 w4 := by rw [← hw4]; exact (Keeps.setCell (F := fun k => k = f) w3 ⟨f, 1, none⟩ _ rfl).trans (Keeps.setCell _ _ _ rfl)
   have hh4 : FsHd w4 f (d1.synced w2.heap.size) := by rw [← hw4]; exact heap_setCell_same _ _ 2 _ _ _ (heap_setCell_same _ _ 1 _ _ _ HF3.out.hd)
   have hms : ρ w2.heap.size = none := Rho.none_of HF2.out.rest.lt (Nat.le_refl _)
   have hd4 : DirAt w4 w2.heap.size d1.now := ownsMap_keeps Hd3'.out hk4 (fun e => by rw [e, HF2.out.role] at hms; cases hms)
   have hr4 := HF3.out.rest.synced HF3.out.role hk4 hd4 hms
   refine ⟨w2.heap.size, ρ.set w2.heap.size .sure, ?_, ?_, ?_⟩
   ·rw [Hd4.out]; rfl
   ·rw [Hd4.out]; exact ⟨Rho.set_up hms _ _ HF3.out.role, hh4, hr4⟩
   ·have hst := ((FsStep.below Hb1.out).trans (FsStep.one H.out.role Hk2.out)).trans (FsStep.below Hb3.out)
    have hs2 : w.heap.size ≤ w2.heap.size := ((FsStep.below Hb1.out).trans (FsStep.one H.out.role Hk2.out)).keeps.size
    refine ⟨hst.keeps.go hk4 (fun i e => .inl (by rw [e]; exact Rho.has_of H.out.role)), fun k hk => ?_⟩
    by_cases e : k = w2.heap.size
    ·exact .inr (by rw [e]; exact hs2)
    ·unfold Rho.has at hk; rw [Rho.set_other e] at hk; exact .inl hk
  ·have hpb : (pe == 0) = false := by simpa using hp0
   have Hd4 : Hid (∀ ms, dirSyncD d ms = (pe, d1)) := fun ms => by have := Hd3.out ms; rw [this, if_neg hp0]
   go_enter Tryz.func109, Tryz.ntmps109
   go_wp2_with fail
   refine (H1.out).mono ?_; rintro e w1 ⟨rfl, hb1⟩
   have hp := Hp.out w1 hb1
   have Hp1 := Lib.hid hp
   have Hb1 := Lib.hid hb1
   clear hp hb1
   go_wp2_with fail
   refine (Hp1.out).mono ?_; rintro e w2 ⟨rfl, hF2, hk2⟩
   go_wp2
   go_ret
   refine ⟨0, ρ, ?_, ?_, (FsStep.below Hb1.out).trans (FsStep.one H.out.role hk2)⟩
   ·rw [Hd4.out]; rfl
   ·rw [Hd4.out]; exact hF2
 ·have h0' : (e == 0) = false := by simpa using h0
  have Hd2 : Hid (∀ ms, dirSyncD d ms = (e, d)) := fun ms => by have := Hd.out ms; rw [this, if_neg h0]
  go_enter Tryz.func109, Tryz.ntmps109
  go_wp2_with fail
  refine (H1.out).mono ?_; rintro e w1 ⟨rfl, hb1⟩
  go_wp2
  go_ret
  refine ⟨0, ρ, ?_⟩
  rw [Hd2.out]
  exact ⟨rfl, H.out.below hb1, FsStep.below hb1⟩
def FsD.upd (d : FsD) (n : Nm) (g : FileC → FileC) : FsD :=
 match d.now.look n with
 | some x => match d.file x with
  | some c => d.setFile x (g c)
  | none => d
 | none => d
def syncD (d : FsD) (n : Nm) : Int × FsD := if (foundD d n []).2 = 0 then (if (powerD d).1 = 0 then (0, (powerD d).2.upd n (fun c => { c with sure := c.bytes.length })) else powerD d) else ((foundD d n []).2, d)
theorem FsRest.fileOf {w : World} {d : FsD} {ρ : Rho} (h : FsRest w d ρ) {n : Nm} {x : Nat} (hx : d.now.look n = some x) : ∃ c, d.file x = some c ∧ FileAt' w ρ x c := by
 obtain ⟨c, hc⟩ := Option.isSome_iff_exists.1 (h.fnow _ (look_mem hx))
 exact ⟨c, hc, h.files x c hc⟩
theorem FsRest.fileSet {w w' : World} {d : FsD} {ρ σ : Rho} {x : Nat} {c c' : FileC} (h : FsRest w d ρ) (hc : d.file x = some c) (hk : Keeps (fun k => k = x ∨ c.row.ownBlock = some k) w w') (hc' : FileAt' w' σ x c') (hup : ∀ k r, ρ k = some r → σ k = some r) (hlt : ∀ k, (σ k).isSome = true → k < w'.heap.size) : FsRest w' (d.setFile x c') σ := by
 have hx := h.files x c hc
 have hF : ∀ k, (k = x ∨ c.row.ownBlock = some k) → ρ k = some .file ∨ ρ k = some (.bytes x) := by
  rintro k (e | e)
  ·rw [e]; exact .inl hx.role
  ·exact .inr (hx.rown k e)
 have hn : ∀ {k : Nat} {r : Role}, ρ k = some r → r ≠ .file → (∀ y, r ≠ .bytes y) → ¬ (k = x ∨ c.row.ownBlock = some k) := by
  intro k r hr h1 h2 e
  rcases hF k e with q | q
  ·rw [q] at hr; exact h1 (Option.some.inj hr).symm
  ·rw [q] at hr; exact h2 x (Option.some.inj hr).symm
 have hs : ∀ k, (d.file k).isSome = true → ((d.setFile x c').file k).isSome = true := by
  intro k hk
  show (if k = x then some c' else d.file k).isSome = true
  by_cases e : k = x
  ·rw [if_pos e]; rfl
  ·rw [if_neg e]; exact hk
 refine ⟨hup _ _ h.rnow, hup _ _ h.rsure, ownsMap_keeps h.dnow hk (hn h.rnow (by decide) (fun y => by intro q; cases q)), ownsMap_keeps h.dsure hk (hn h.rsure (by decide) (fun y => by intro q; cases q)), fun k e => hup _ _ (h.rlv k e),
  own_keeps h.own hk (fun k e => hn (h.rlv k e) (by decide) (fun y => by intro q; cases q)), fun p hp => ((h.chg p hp).keeps hk (fun k e g => hn g (by decide) (fun y => by intro q; cases q) e)).mono hup, ?_, fun p hp => hs _ (h.fnow p hp), fun p hp => hs _ (h.fsure p hp), hlt⟩
 intro k cc hcc
 have hcc : (if k = x then some c' else d.file k) = some cc := hcc
 by_cases e : k = x
 ·rw [if_pos e] at hcc; cases hcc; rw [e]; exact hc'
 ·rw [if_neg e] at hcc
  have hk' := h.files k cc hcc
  refine (hk'.keeps hk ?_ ?_).mono hup
  ·rintro (q | q)
   ·exact e q
   ·have := hx.rown k q; rw [hk'.role] at this; cases this
  ·rintro j (q | q) g
   ·rw [q, hx.role] at g; cases g
   ·rw [hx.rown j q] at g; injection g with g; injection g with g; exact e g.symm
set_option maxHeartbeats 8000000 in
theorem sync_calls (f : Nat) (d : FsD) (ρ : Rho) (n : Nm) (w : World) (h : FsAt w f d ρ) (hs : n.length ≤ maxLen) (hfu : -1 ≤ d.fuse ∧ d.fuse ≤ 9223372036854775807) :
 Calls Tryz.prog 70 #[.pointer (some ⟨f, 0, none⟩), .string (strL n)] w fun e w' => e = .returned (.int .i64 (syncD d n).1) ∧ FsAt w' f (syncD d n).2 ρ ∧ FsStep w ρ w' ρ := by
 obtain ⟨W2, hW2⟩ : ∃ W2, w.alloc (.cells #[.string (strL n)] 9) = W2 := ⟨_, rfl⟩
 have hb2 : Below w.heap.size w W2 := by rw [← hW2]; exact (Below.refl _ _).alloc (Nat.le_refl _) _
 have hnh3 : W2.heap[w.heap.size]? = some (.cells #[.string (strL n)] 9 (0, 0)) := by rw [← hW2]; exact heap_new_at _ rfl
 have h1 := found_calls f d ρ (.slice (some ⟨w.heap.size, 0, none⟩) 1 1) n [] W2 (h.below hb2) (rdS_one hnh3) (fun k hk => by rw [List.mem_singleton.1 hk]; exact hs)
 obtain ⟨e, he⟩ : ∃ e, (foundD d n []).2 = e := ⟨_, rfl⟩
 have Hd : Hid (syncD d n = if e = 0 then (if (powerD d).1 = 0 then (0, (powerD d).2.upd n (fun c => { c with sure := c.bytes.length })) else powerD d) else (e, d)) := Lib.hid (by unfold syncD; rw [he])
 have H := Lib.hid h
 have Hb2 := Lib.hid hb2
 by_cases h0 : e = 0
 ·have hok := found_ok (he.trans h0)
  obtain ⟨x, hx⟩ := Option.isSome_iff_exists.1 hok.2.2.2
  rw [he, hok.2.2.1, hx] at h1
  have h1 : Calls Tryz.prog 53 #[.pointer (some ⟨f, 0, none⟩), .slice (some ⟨w.heap.size, 0, none⟩) 1 1] W2 fun e_1 w' => e_1 = .returned (.tuple #[.pointer (some ⟨x, 0, none⟩), .int .i64 e]) ∧ Below W2.heap.size W2 w' := h1
  obtain ⟨c, hc, _⟩ := h.rest.fileOf hx
  subst h0
  have Hp : Hid (∀ w', Below w.heap.size w w' → Calls Tryz.prog 54 #[.pointer (some ⟨f, 0, none⟩)] w' fun e w'' => e = .returned (.int .i64 (powerD d).1) ∧ FsAt w'' f (powerD d).2 ρ ∧ Keeps (fun k => k = f) w' w'') := fun w' hb => power_calls f d ρ w' (h.below hb) hfu
  have hnow : (powerD d).2.now = d.now := by unfold powerD; split <;> rfl
  have hfile : (powerD d).2.file = d.file := by unfold powerD; split <;> rfl
  have hupd : (powerD d).2.upd n (fun c => { c with sure := c.bytes.length }) = (powerD d).2.setFile x { c with sure := c.bytes.length } := by unfold FsD.upd; rw [hnow, hx]; show (match (powerD d).2.file x with | some c => _ | none => _) = _; rw [hfile, hc]
  obtain ⟨pe, hpe⟩ : ∃ pe, (powerD d).1 = pe := ⟨_, rfl⟩
  obtain ⟨d1, hd1⟩ : ∃ d1, (powerD d).2 = d1 := ⟨_, rfl⟩
  have hpd : powerD d = (pe, d1) := Prod.ext hpe hd1
  rw [hpe, hd1] at Hp
  rw [hd1] at hupd hfile
  rw [← hfile] at hc
  have Hd3 : Hid (syncD d n = if pe = 0 then (0, d1.setFile x { c with sure := c.bytes.length }) else (pe, d1)) := Lib.hid (by rw [Hd.out, if_pos rfl, hpe, hd1, hupd, hpd])
  have H1 := Lib.hid h1
  have Hc := Lib.hid hc
  clear h1 he hok hx hc h Hd hnow hfile hupd hpe hd1 hpd hnh3 hb2 hs
  subst hW2
  by_cases hp0 : pe = 0
  ·subst hp0
   have Hd4 : Hid (syncD d n = (0, d1.setFile x { c with sure := c.bytes.length })) := Lib.hid (by rw [Hd3.out, if_pos rfl])
   go_enter Tryz.func70, Tryz.ntmps70
   go_wp2_with fail
   refine (H1.out).mono ?_; rintro e w1 ⟨rfl, hb1⟩
   have hbw1 := Hb2.out.trans (hb1.mono Hb2.out.size)
   have hp := Hp.out w1 hbw1
   have Hp1 := Lib.hid hp
   have Hbw1 := Lib.hid hbw1
   clear hp hb1 hbw1
   go_wp2_with fail
   refine (Hp1.out).mono ?_; rintro e w2 ⟨rfl, hF2, hk2⟩
   have hfx := hF2.rest.files x c Hc.out
   obtain ⟨⟨x0, x1⟩, y0, y1⟩ := cells2 hfx.hd
   obtain ⟨aR, cR, hrow⟩ := own_form0 hfx.own
   rw [hrow] at x0
   have hsm : (c.bytes.length : Int) ≤ 16777216 := by have := hfx.small; omega
   have HF2 := Lib.hid hF2
   have Hfx := Lib.hid hfx
   clear hF2 hfx hrow
   go_wp2
   go_ret
   have hk3 : Keeps (fun k => k = x ∨ c.row.ownBlock = some k) w2 (w2.setCell ⟨x, 1, none⟩ (.int .i64 c.bytes.length)) := Keeps.setCell _ _ _ (.inl rfl)
   have hk3' : Keeps (fun k => k = x) w2 (w2.setCell ⟨x, 1, none⟩ (.int .i64 c.bytes.length)) := Keeps.setCell _ _ _ rfl
   have hxr : ∀ k, c.row.ownBlock = some k → k ≠ x := fun k e => Rho.ne (Hfx.out.rown k e) Hfx.out.role (by intro q; cases q)
   have hfx' : FileAt' (w2.setCell ⟨x, 1, none⟩ (.int .i64 c.bytes.length)) ρ x { c with sure := c.bytes.length } := ⟨Hfx.out.role, heap_setCell_same _ _ 1 _ _ _ Hfx.out.hd, own_keeps Hfx.out.own hk3' (fun k e q => hxr k e q), Hfx.out.rown, Hfx.out.small, Nat.le_refl _⟩
   have hr := HF2.out.rest.fileSet Hc.out hk3 hfx' (fun k r h => h) (fun k e => by have := HF2.out.rest.lt k e; have := hk3'.size; omega)
   rw [Hd4.out]
   refine ⟨rfl, ⟨HF2.out.role, hk3'.heap HF2.out.hd (fun e => Rho.ne HF2.out.role Hfx.out.role (by decide) e), hr⟩, ((FsStep.below Hbw1.out).trans (FsStep.one H.out.role hk2)).trans (FsStep.one Hfx.out.role hk3')⟩
  ·have hpb : (pe == 0) = false := by simpa using hp0
   have Hd4 : Hid (syncD d n = (pe, d1)) := Lib.hid (by rw [Hd3.out, if_neg hp0])
   go_enter Tryz.func70, Tryz.ntmps70
   go_wp2_with fail
   refine (H1.out).mono ?_; rintro e w1 ⟨rfl, hb1⟩
   have hbw1 := Hb2.out.trans (hb1.mono Hb2.out.size)
   have hp := Hp.out w1 hbw1
   have Hp1 := Lib.hid hp
   have Hbw1 := Lib.hid hbw1
   clear hp hb1 hbw1
   go_wp2_with fail
   refine (Hp1.out).mono ?_; rintro e w2 ⟨rfl, hF2, hk2⟩
   go_wp2
   go_ret
   rw [Hd4.out]
   exact ⟨rfl, hF2, (FsStep.below Hbw1.out).trans (FsStep.one H.out.role hk2)⟩
 ·have h0' : (e == 0) = false := by simpa using h0
  obtain ⟨pv, hpv⟩ : ∃ pv, ptrOf (foundD d n []).1 = pv := ⟨_, rfl⟩
  rw [he, hpv] at h1
  have Hd2 : Hid (syncD d n = (e, d)) := Lib.hid (by rw [Hd.out, if_neg h0])
  have H1 := Lib.hid h1
  clear h1 he hpv hnh3 hb2
  subst hW2
  go_enter Tryz.func70, Tryz.ntmps70
  go_wp2_with fail
  refine (H1.out).mono ?_; rintro e w1 ⟨rfl, hb1⟩
  have hbw1 := Hb2.out.trans (hb1.mono Hb2.out.size)
  go_wp2
  go_ret
  rw [Hd2.out]
  exact ⟨rfl, H.out.below hbw1, FsStep.below hbw1⟩
def lenOf (d : FsD) (x : Nat) : Nat := match d.file x with | some c => c.bytes.length | none => 0
def sumL (d : FsD) (l : Dir) (left : Lit → Bool) : Nat := ((l.filter (fun p => left (.string p.1))).map (fun p => lenOf d p.2)).sum
def usedD (d : FsD) : Nat := (d.now.map (fun p => lenOf d p.2)).sum
theorem sumL_all {d : FsD} : ∀ {l : Dir} {left : Lit → Bool}, (∀ p ∈ l, left (.string p.1) = true) → sumL d l left = (l.map (fun p => lenOf d p.2)).sum := by
 intro l left h
 unfold sumL
 rw [List.filter_eq_self.2 h]
theorem sumL_none {d : FsD} {l : Dir} {left : Lit → Bool} (h : ∀ k, left k = false) : sumL d l left = 0 := by
 unfold sumL
 have : l.filter (fun p => left (.string p.1)) = [] := List.filter_eq_nil_iff.2 (fun p _ => by rw [h]; simp)
 rw [this]; rfl
theorem sumL_cons {d : FsD} {p : Nm × Nat} {l : Dir} {left : Lit → Bool} : sumL d (p :: l) left = (if left (.string p.1) then lenOf d p.2 else 0) + sumL d l left := by
 unfold sumL
 rw [List.filter_cons]
 split <;> simp
theorem sumL_absent {d : FsD} {x : Nm} {left : Lit → Bool} : ∀ {l : Dir}, (∀ p ∈ l, p.1 ≠ x) → sumL d l (fun z => left z && !z.sameKey (.string x)) = sumL d l left := by
 intro l
 induction l with
 | nil => intro _; rfl
 | cons p r ih =>
  intro h
  rw [sumL_cons, sumL_cons, ih (fun q hq => h q (List.mem_cons_of_mem _ hq)), same_str]
  have : (p.1 == x) = false := by simpa using h p (by simp)
  rw [this]; simp
theorem sumL_step {d : FsD} {x : Nm} {f : Nat} {left : Lit → Bool} (hl : left (.string x) = true) : ∀ {l : Dir}, l.Pairwise (fun p q => p.1 ≠ q.1) → (x, f) ∈ l → sumL d l left = lenOf d f + sumL d l (fun z => left z && !z.sameKey (.string x)) := by
 intro l
 induction l with
 | nil => intro _ h; cases h
 | cons p r ih =>
  intro hp hm
  rw [sumL_cons, sumL_cons, same_str]
  obtain ⟨h1, h2⟩ := List.pairwise_cons.1 hp
  rcases List.mem_cons.1 hm with e | hm
  ·subst e
   rw [hl, sumL_absent (fun q hq e => h1 q hq e.symm)]
   simp
  ·have hne : (p.1 == x) = false := by simpa using h1 _ hm
   rw [hne, ih h2 hm]
   simp
   omega
theorem sumL_le {d : FsD} {left : Lit → Bool} {B : Nat} (hs : ∀ x c, d.file x = some c → c.bytes.length ≤ B) : ∀ (l : Dir), sumL d l left ≤ l.length * B := by
 intro l
 induction l with
 | nil => simp [sumL]
 | cons p r ih =>
  rw [sumL_cons, List.length_cons, Nat.succ_mul]
  have : lenOf d p.2 ≤ B := by
   unfold lenOf
   cases hc : d.file p.2 with
   | none => exact Nat.zero_le _
   | some c => exact hs _ _ hc
  split <;> omega
theorem dir_apart {w : World} {b : Nat} {l : Dir} (h : DirAt w b l) : l.Pairwise (fun p q => p.1 ≠ q.1) := by
 obtain ⟨es, he, hp, _⟩ := World.ownsMap.entries h keyed_str
 unfold dirD at he
 have he : l.map entD = es := by injection he
 rw [← he] at hp
 have := List.pairwise_map.1 hp
 exact this.imp (fun hne e => hne (by unfold entD; rw [e]))
set_option maxHeartbeats 8000000 in
theorem used_calls (f : Nat) (d : FsD) (ρ : Rho) (w : World) (h : FsAt w f d ρ) (hl : d.now.length ≤ 256) :
 Calls Tryz.prog 35 #[.pointer (some ⟨f, 0, none⟩)] w fun e w' => e = .returned (.int .i64 (usedD d)) ∧ Below w.heap.size w w' := by
 obtain ⟨⟨c0, c1, c2, c3, c4, c5⟩, _⟩ := fsHd_cells h.hd
 have hown : w.ownsMap Tryz.prog 9 ptrElem d.mn d.now.length (dirD d.now) := h.rest.dnow
 have hap := dir_apart h.rest.dnow
 have hstart : sumL d d.now (Maps.has (dirD d.now)) = usedD d := sumL_all (fun p hp => by
  rw [dirD_has]
  unfold Dir.look
  rw [Option.isSome_map, List.find?_isSome]
  exact ⟨p, hp, by simp⟩)
 have hbig : ∀ left, sumL d d.now left ≤ 4294967296 := fun left => by
  have h1 := sumL_le (left := left) (d := d) (B := 16777216) (fun x c hc => (h.rest.files x c hc).small) d.now
  have h2 : d.now.length * 16777216 ≤ 256 * 16777216 := Nat.mul_le_mul_right _ hl
  omega
 have Hstart := Lib.hid hstart
 have Hbig := Lib.hid hbig
 have Hap := Lib.hid hap
 have H := Lib.hid h
 have hnn : sumL d d.now (Maps.has (dirD d.now)) ≤ 4294967296 := hbig _
 rw [hstart] at hnn
 obtain ⟨T, hT⟩ : ∃ T, usedD d = T := ⟨_, rfl⟩
 rw [hT] at Hstart hnn
 have HT := Lib.hid hT
 clear hstart hbig hap hT c1 c2 c3 c4 c5 h
 go_enter Tryz.func35, Tryz.ntmps35
 go_wp2_with (at_range; go_loud (refine wpList_range_own _ rfl _ 93 rfl 9 98 keyed_str Tryz.underlying93 ptrElem d.mn d.now.length (dirD d.now) rfl hown ?_; intro w0 hrg0 hg0 hs0))
 have hb0 : Below w.heap.size w w0 := (Below.refl _ _).grown hg0 (Nat.le_refl _) (fun j hj => by cases hj)
 go_frame
 clear hs0
 go_loopw [3, 5] (fun n x wr => ∃ left cnt, ∃ acc : Nat, wr.ranges Tryz.prog 9 ptrElem d.mn w.heap.size d.now.length (dirD d.now) left cnt ∧ n = .int .i64 acc ∧ Hid (acc + sumL d d.now left = T) ∧ Below w.heap.size w wr) (fun _ _ wr => wr.rangeLeft d.mn w.heap.size)
 case atStart =>
  exact ⟨_, _, 0, hrg0, rfl, Lib.hid (by rw [Nat.zero_add]; exact Hstart.out), hb0⟩
 case round =>
  obtain ⟨left, cnt, acc, hrg, rfl, hacc, hbw⟩ := hrel
  have hacn : acc ≤ 4294967296 := by have := hacc.out; omega
  have hac1 : (0 : Int) ≤ (acc : Int) := by omega
  have hac2 : (acc : Int) ≤ 4294967296 := by omega
  go_wp2_with (at_next; go_loud (refine wpList_next_ranges (α := Nm) (β := Option Nat) _ rfl _ rfl 9 keyed_str ptrElem (fun l : Nm => .string (strL l)) ptrOf (fun key kl hk => by obtain ⟨x, hx, _⟩ := Maps.keyOf_str Tryz.underlying9 hk; exact ⟨x, hx⟩) (fun v y hv => by rcases ptrElem_inv hv with ⟨rfl, _⟩ | ⟨b, rfl, _⟩; exact ⟨none, rfl⟩; exact ⟨some b, rfl⟩) d.mn w.heap.size d.now.length (dirD d.now) left cnt rfl hrg ?_ ?_))
  ·intro hc0 hl0
   have hfin : acc = T := by have := hacc.out; rw [sumL_none hl0] at this; omega
   have Hfin := Lib.hid hfin
   clear hfin hc0 hl0
   go_wp2
   go_ret
   rw [HT.out, ← Hfin.out]
   exact ⟨rfl, hbw⟩
  ·intro x c kl yd yp w1 cnt1 hkey hlk hv hat hrg1 hlt hg1 hs1 hen
   have hkl : kl = .string x := by
    obtain ⟨x', ex, rfl, _⟩ := Maps.keyOf_str Tryz.underlying9 hkey
    have : strL x = strL x' := by injection ex
    rw [strL_inj this]
   subst hkl
   have h0 := hat .nil
   have h1 := hat (.lit (.bool true))
   rw [dirD_at] at h0 h1
   cases hlook : d.now.look x with
   | none => rw [hlook] at h0 h1; rw [← h0] at h1; cases h1
   | some fx =>
    rw [hlook] at h0
    have hcx : c = some fx := by
     cases c with
     | none => have : ptrElem (.pointer none) = some (yd, yp) := hv; cases this; cases h0
     | some c' =>
      have : ptrElem (.pointer (some ⟨c', 0, none⟩)) = some (yd, yp) := hv
      cases this
      injection h0 with h0; injection h0 with _ h0
      have : fx = c' := by omega
      rw [this]
    subst hcx
    have hen : (Instr.entry (.pointer (some ⟨w.heap.size, 0, none⟩))).run Tryz.prog w1 = .ok (.tuple #[.string (strL x), .pointer (some ⟨fx, 0, none⟩)]) w1 := hen
    have hbw1 : Below w.heap.size w w1 := hbw.grown hg1 hbw.size (fun j hj => by cases hj; exact Nat.le_refl _)
    obtain ⟨cf, hcf, _⟩ := H.out.rest.fileOf hlook
    have hfx := (H.out.below hbw1).rest.files fx cf hcf
    obtain ⟨⟨x0, x1⟩, _⟩ := cells2 hfx.hd
    obtain ⟨aR, cR, hrow⟩ := own_form0 hfx.own
    rw [hrow] at x0
    have hlen : lenOf d fx = cf.bytes.length := by unfold lenOf; rw [hcf]
    have hstep := sumL_step (d := d) (f := fx) hlk Hap.out (look_mem hlook)
    rw [hlen] at hstep
    have hnew : Hid ((acc + cf.bytes.length) + sumL d d.now (fun z => left z && !z.sameKey (.string x)) = T) := Lib.hid (by have := hacc.out; omega)
    have hsm : (cf.bytes.length : Int) ≤ 16777216 := by have := hfx.small; omega
    clear hs1 h0 h1 hat hlook hcf hfx hrow hlen hstep hlk hkey hv x1
    generalize strL x = sx at hen
    have hpo : ptrOf (some fx) = Value.pointer (some ⟨fx, 0, none⟩) := rfl
    rw [hpo]
    go_wp2
    go_roundw
    case rel => exact ⟨_, cnt1, acc + cf.bytes.length, hrg1, by push_cast; rfl, hnew, hbw1⟩
    case measure => rw [hrg1.left_eq, hrg.left_eq]; exact hlt
end Go.Proofs.YtffnbkmigapmjaaGreatDoor
