/-
  The walks of fs: Unlink, Rename.
-/
import Derived.Test.YtffnbkmigapmjaaGreatDoorS18
set_option linter.unusedSimpArgs false
set_option linter.unusedVariables false
set_option maxRecDepth 100000
namespace Go.Proofs.YtffnbkmigapmjaaGreatDoor
open Go.RowKit Go.Maps
def unlinkD (d : FsD) (n : Nm) (v lv : Value) : Int × FsD := if (foundD d n []).2 = 0 then changeD d (.unlink n) v lv else ((foundD d n []).2, d)
def renameD (d : FsD) (a b : Nm) (v lv : Value) : Int × FsD := if (foundD d a [b]).2 = 0 then (if a = b then powerD d else changeD d (.rename a b) v lv) else ((foundD d a [b]).2, d)
theorem found_ok {d : FsD} {n : Nm} {ns : List Nm} (h : (foundD d n ns).2 = 0) : (∀ k ∈ n :: ns, rightD k = true) ∧ d.down = false ∧ (foundD d n ns).1 = d.now.look n ∧ (d.now.look n).isSome = true := by
  unfold foundD at h ⊢
  by_cases h0 : readyE d (n :: ns) = 0
  · rw [if_pos h0] at h ⊢
    refine ⟨readyE_right h0, ?_, rfl, ?_⟩
    · unfold readyE at h0
      cases ha : (n :: ns).all rightD with
      | true =>
        rw [ha] at h0
        cases hd : d.down with
        | true => rw [hd] at h0; cases h0
        | false => rfl
      | false => rw [ha] at h0; cases h0
    · cases hs : (d.now.look n).isSome with
      | true => rfl
      | false => rw [hs] at h; cases h
  · rw [if_neg h0] at h; exact absurd h h0
theorem rdS_two {w : World} {g : Nat} {a b : Nm} {t : TypeId} (h : w.heap[g]? = some (.cells #[.string (strL a), .string (strL b)] t (0, 0))) : RdS w (.slice (some ⟨g, 0, none⟩) 2 2) [a, b] := by
  refine .inr ⟨g, 0, 2, rfl, by simp, Nat.le_refl _, by decide, (Array.getElem?_eq_some_iff.1 h).1, ?_⟩
  intro i x hx j u hu
  match i, hx with
  | 0, hx =>
    cases hx
    match j, hu with
    | 0, hu => cases hu; rw [cell_of_row _ _ _ _ _ _ h]; rfl
    | j + 1, hu => cases hu
  | 1, hx =>
    cases hx
    match j, hu with
    | 0, hu => cases hu; rw [cell_of_row _ _ _ _ _ _ h]; rfl
    | j + 1, hu => cases hu
  | i + 2, hx => cases hx
theorem foundD_ptr {o : Option Nat} (h : o.isSome = true) : ∃ x, ptrOf o = .pointer (some ⟨x, 0, none⟩) := by
  obtain ⟨x, rfl⟩ := Option.isSome_iff_exists.1 h; exact ⟨x, rfl⟩
set_option maxHeartbeats 16000000 in
theorem unlink_calls (f : Nat) (d : FsD) (ρ : Rho) (n : Nm) (w : World) (h : FsAt w f d ρ) (hs : n.length ≤ maxLen) (hfu : -1 ≤ d.fuse ∧ d.fuse ≤ 9223372036854775807) (hl : d.now.length ≤ 256) (hll : d.loose.length ≤ 1000000) :
    Calls Tryz.prog 101 #[.pointer (some ⟨f, 0, none⟩), .string (strL n)] w fun e w' => ∃ v lv ρ', e = .returned (.int .i64 (unlinkD d n v lv).1) ∧ FsAt w' f (unlinkD d n v lv).2 ρ' ∧ FsStep w ρ w' ρ' := by
  obtain ⟨W1, hW1⟩ : ∃ W1, w.alloc (.cells #[.string (strL n)] 9) = W1 := ⟨_, rfl⟩
  obtain ⟨W2, hW2⟩ : ∃ W2, W1.alloc (.cells #[.string (strL n)] 9) = W2 := ⟨_, rfl⟩
  have hb1 : Below w.heap.size w W1 := by rw [← hW1]; exact (Below.refl _ _).alloc (Nat.le_refl _) _
  have hb2 : Below W1.heap.size W1 W2 := by rw [← hW2]; exact (Below.refl _ _).alloc (Nat.le_refl _) _
  have hz1 : W1.heap.size = w.heap.size + 1 := by rw [← hW1]; simp
  have hbw2 := hb1.trans (hb2.mono hb1.size)
  have hnh1 : W1.heap[w.heap.size]? = some (.cells #[.string (strL n)] 9 (0, 0)) := by rw [← hW1]; exact heap_new_at _ rfl
  have hnh2 : W2.heap[w.heap.size]? = some (.cells #[.string (strL n)] 9 (0, 0)) := (hb2.block _ (by omega)).trans hnh1
  have hnh3 : W2.heap[w.heap.size + 1]? = some (.cells #[.string (strL n)] 9 (0, 0)) := by rw [← hW2]; exact heap_new_at _ hz1.symm
  have h1 := found_calls f d ρ (.slice (some ⟨w.heap.size + 1, 0, none⟩) 1 1) n [] W2 (h.below hbw2) (rdS_one hnh3) (fun k hk => by rw [List.mem_singleton.1 hk]; exact hs)
  obtain ⟨e, he⟩ : ∃ e, (foundD d n []).2 = e := ⟨_, rfl⟩
  obtain ⟨pv, hpv⟩ : ∃ pv, ptrOf (foundD d n []).1 = pv := ⟨_, rfl⟩
  rw [he, hpv] at h1
  have Hud : Hid (∀ v lv, unlinkD d n v lv = if e = 0 then changeD d (.unlink n) v lv else (e, d)) := fun v lv => by unfold unlinkD; rw [he]
  have hok : e = 0 → n.length ≤ 80 := fun h0 => rightD_len ((found_ok (he.trans h0)).1 n (by simp))
  have H1 := Lib.hid h1
  have H := Lib.hid h
  have Hok := Lib.hid hok
  have Hbw2 := Lib.hid hbw2
  have Hnh2 := Lib.hid hnh2
  clear h1 h he hpv hok hbw2 hnh2 hnh1 hnh3 hb1 hb2 hz1 hs
  subst hW2
  subst hW1
  by_cases h0 : e = 0
  · subst h0
    have Hud2 : Hid (∀ v lv, unlinkD d n v lv = changeD d (.unlink n) v lv) := fun v lv => by have := Hud.out v lv; rw [this]; rfl
    have Hn80 := Lib.hid (Hok.out rfl)
    clear Hud Hok
    go_enter Tryz.func101, Tryz.ntmps101
    go_wp2_with fail
    refine (H1.out).mono ?_; rintro e w3 ⟨rfl, hb3⟩
    have hbw3 := Hbw2.out.trans (hb3.mono Hbw2.out.size)
    have hb3s : w.heap.size + 2 ≤ w3.heap.size := by have := hb3.size; simp at this; omega
    have hnb3 := (hb3.block _ (Array.getElem?_eq_some_iff.1 Hnh2.out).1).trans Hnh2.out
    have hr1 : ρ w.heap.size = none := Rho.none_of H.out.rest.lt (Nat.le_refl _)
    have hf3 : FsAt w3 f d (ρ.set w.heap.size .box) := (H.out.below hbw3).grow (Below.refl _ _) (Rho.set_up hr1) (Rho.set_lt (by omega) (H.out.below hbw3).rest.lt)
    have hchg : ChgAt w3 (ρ.set w.heap.size .box) (.unlink n) (.func (.func 140) #[] #[.pointer (some ⟨w.heap.size, 0, none⟩)]) := ⟨_, rfl, Rho.set_same _ _ _, hnb3, Hn80.out⟩
    have hcall := change_calls f d _ (.unlink n) _ w3 hf3 hchg hfu trivial hl hll
    have hst : FsStep w ρ w3 (ρ.set w.heap.size .box) := ⟨Keeps.ofBelow hbw3, fun k hk => by
      by_cases e : k = w.heap.size
      · exact .inr (by omega)
      · unfold Rho.has at hk; rw [Rho.set_other e] at hk; exact .inl hk⟩
    have Hcall := Lib.hid hcall
    have Hst := Lib.hid hst
    clear hcall hst hf3 hchg hnb3 hbw3 hb3 hb3s hr1
    go_wp2_with fail
    refine (Hcall.out).mono ?_; rintro e w9 ⟨lv9, ρ9, rfl, hF9, hst9⟩
    go_wp2
    go_ret
    refine ⟨.func (.func 140) #[] #[.pointer (some ⟨w.heap.size, 0, none⟩)], lv9, ρ9, ?_, ?_, Hst.out.trans hst9⟩
    · rw [Hud2.out]; rfl
    · rw [Hud2.out]; exact hF9
  · have h0' : (e == 0) = false := by simpa using h0
    have Hud2 : Hid (∀ v lv, unlinkD d n v lv = (e, d)) := fun v lv => by have := Hud.out v lv; rw [this, if_neg h0]
    go_enter Tryz.func101, Tryz.ntmps101
    go_wp2_with fail
    refine (H1.out).mono ?_; rintro e w3 ⟨rfl, hb3⟩
    have hbw3 := Hbw2.out.trans (hb3.mono Hbw2.out.size)
    go_wp2
    go_ret
    refine ⟨.nilFunc, d.lv, ρ, ?_⟩
    rw [Hud2.out]
    exact ⟨rfl, H.out.below hbw3, FsStep.below hbw3⟩
set_option maxHeartbeats 16000000 in
theorem rename_calls (f : Nat) (d : FsD) (ρ : Rho) (a b : Nm) (w : World) (h : FsAt w f d ρ) (hs : a.length ≤ maxLen) (hs2 : b.length ≤ maxLen) (hfu : -1 ≤ d.fuse ∧ d.fuse ≤ 9223372036854775807) (hl : d.now.length ≤ 256) (hll : d.loose.length ≤ 1000000) :
    Calls Tryz.prog 111 #[.pointer (some ⟨f, 0, none⟩), .string (strL a), .string (strL b)] w fun e w' => ∃ v lv ρ', e = .returned (.int .i64 (renameD d a b v lv).1) ∧ FsAt w' f (renameD d a b v lv).2 ρ' ∧ FsStep w ρ w' ρ' := by
  obtain ⟨W0, hW0⟩ : ∃ W0, w.alloc (.cells #[.string (strL a)] 9) = W0 := ⟨_, rfl⟩
  obtain ⟨W1, hW1⟩ : ∃ W1, W0.alloc (.cells #[.string (strL b)] 9) = W1 := ⟨_, rfl⟩
  obtain ⟨W2, hW2⟩ : ∃ W2, W1.alloc (.cells #[.string (strL a), .string (strL b)] 9) = W2 := ⟨_, rfl⟩
  have hb0 : Below w.heap.size w W0 := by rw [← hW0]; exact (Below.refl _ _).alloc (Nat.le_refl _) _
  have hb1 : Below W0.heap.size W0 W1 := by rw [← hW1]; exact (Below.refl _ _).alloc (Nat.le_refl _) _
  have hb2 : Below W1.heap.size W1 W2 := by rw [← hW2]; exact (Below.refl _ _).alloc (Nat.le_refl _) _
  have hz0 : W0.heap.size = w.heap.size + 1 := by rw [← hW0]; simp
  have hz1 : W1.heap.size = w.heap.size + 2 := by rw [← hW1]; simp [hz0]
  have hbw1 := hb0.trans (hb1.mono hb0.size)
  have hbw2 := hbw1.trans (hb2.mono hbw1.size)
  have hA0 : W0.heap[w.heap.size]? = some (.cells #[.string (strL a)] 9 (0, 0)) := by rw [← hW0]; exact heap_new_at _ rfl
  have hA1 := (hb1.block _ (by omega)).trans hA0
  have hA2 : W2.heap[w.heap.size]? = some (.cells #[.string (strL a)] 9 (0, 0)) := (hb2.block _ (by omega)).trans hA1
  have hB1 : W1.heap[w.heap.size + 1]? = some (.cells #[.string (strL b)] 9 (0, 0)) := by rw [← hW1]; exact heap_new_at _ hz0.symm
  have hB2 : W2.heap[w.heap.size + 1]? = some (.cells #[.string (strL b)] 9 (0, 0)) := (hb2.block _ (by omega)).trans hB1
  have hnh3 : W2.heap[w.heap.size + 2]? = some (.cells #[.string (strL a), .string (strL b)] 9 (0, 0)) := by rw [← hW2]; exact heap_new_at _ hz1.symm
  have h1 := found_calls f d ρ (.slice (some ⟨w.heap.size + 2, 0, none⟩) 2 2) a [b] W2 (h.below hbw2) (rdS_two hnh3) (fun k hk => by
    rcases List.mem_cons.1 hk with rfl | hk
    · exact hs
    · rw [List.mem_singleton.1 hk]; exact hs2)
  obtain ⟨e, he⟩ : ∃ e, (foundD d a [b]).2 = e := ⟨_, rfl⟩
  obtain ⟨pv, hpv⟩ : ∃ pv, ptrOf (foundD d a [b]).1 = pv := ⟨_, rfl⟩
  rw [he, hpv] at h1
  have Hud : Hid (∀ v lv, renameD d a b v lv = if e = 0 then (if a = b then powerD d else changeD d (.rename a b) v lv) else (e, d)) := fun v lv => by unfold renameD; rw [he]
  have hok : e = 0 → a.length ≤ 80 ∧ b.length ≤ 80 ∧ (d.now.look a).isSome = true := fun h0 => by
    have := found_ok (he.trans h0)
    exact ⟨rightD_len (this.1 a (by simp)), rightD_len (this.1 b (by simp)), this.2.2.2⟩
  have H1 := Lib.hid h1
  have H := Lib.hid h
  have Hok := Lib.hid hok
  have Hbw2 := Lib.hid hbw2
  have HA2 := Lib.hid hA2
  have HB2 := Lib.hid hB2
  clear h1 h he hpv hok hbw2 hA2 hB2 hA0 hA1 hB1 hnh3 hb0 hb1 hb2 hz0 hz1 hbw1 hs hs2
  subst hW2
  subst hW1
  subst hW0
  by_cases h0 : e = 0
  · subst h0
    have Hud2 : Hid (∀ v lv, renameD d a b v lv = if a = b then powerD d else changeD d (.rename a b) v lv) := fun v lv => by have := Hud.out v lv; rw [this]; rfl
    have Hn80 := Lib.hid (Hok.out rfl)
    clear Hud Hok
    go_enter Tryz.func111, Tryz.ntmps111
    go_wp2_with fail
    refine (H1.out).mono ?_; rintro e w3 ⟨rfl, hb3⟩
    have hbw3 := Hbw2.out.trans (hb3.mono Hbw2.out.size)
    have hb3s : w.heap.size + 3 ≤ w3.heap.size := by have := hb3.size; simp at this; omega
    have hA3 := (hb3.block _ (Array.getElem?_eq_some_iff.1 HA2.out).1).trans HA2.out
    have hB3 := (hb3.block _ (Array.getElem?_eq_some_iff.1 HB2.out).1).trans HB2.out
    have ca : w3.cell? ⟨w.heap.size, 0, none⟩ = some (.string (strL a)) := by rw [cell_of_row _ _ _ _ _ _ hA3]; rfl
    have cb : w3.cell? ⟨w.heap.size + 1, 0, none⟩ = some (.string (strL b)) := by rw [cell_of_row _ _ _ _ _ _ hB3]; rfl
    by_cases hab : a = b
    · have Hud3 : Hid (∀ v lv, renameD d a b v lv = powerD d) := fun v lv => by have := Hud2.out v lv; rw [this, if_pos hab]
      have hF3 := H.out.below hbw3
      have hp := power_calls f d ρ w3 hF3 hfu
      have Hp := Lib.hid hp
      have Hbw3 := Lib.hid hbw3
      have heq : ((strL a).toList == (strL b).toList) = true := by rw [hab]; simp
      have Hro := Lib.hid H.out.role
      clear hab hp hF3 hbw3 hA3 hB3 hb3 hb3s
      generalize strL a = sa at ca heq
      generalize strL b = sb at cb heq
      go_wp2_with fail
      refine (Hp.out).mono ?_; rintro e w9 ⟨rfl, hF9, hk9⟩
      go_wp2
      go_ret
      refine ⟨.nilFunc, d.lv, ρ, ?_⟩
      rw [Hud3.out]
      exact ⟨rfl, hF9, (FsStep.below Hbw3.out).trans (FsStep.one Hro.out hk9)⟩
    · have Hud3 : Hid (∀ v lv, renameD d a b v lv = changeD d (.rename a b) v lv) := fun v lv => by have := Hud2.out v lv; rw [this, if_neg hab]
      have hr1 : ρ w.heap.size = none := Rho.none_of H.out.rest.lt (Nat.le_refl _)
      have hr2 : (ρ.set w.heap.size .box) (w.heap.size + 1) = none := by rw [Rho.set_other (by omega)]; exact Rho.none_of H.out.rest.lt (by omega)
      obtain ⟨σ, hσ⟩ : ∃ σ, (ρ.set w.heap.size .box).set (w.heap.size + 1) .box = σ := ⟨_, rfl⟩
      have hf3 : FsAt w3 f d σ := (H.out.below hbw3).grow (Below.refl _ _) (fun k r hr => by rw [← hσ]; exact Rho.set_up hr2 k r (Rho.set_up hr1 k r hr)) (by rw [← hσ]; exact Rho.set_lt (by omega) (Rho.set_lt (by omega) (H.out.below hbw3).rest.lt))
      have hchg : ChgAt w3 σ (.rename a b) (.func (.func 159) #[] #[.pointer (some ⟨w.heap.size, 0, none⟩), .pointer (some ⟨w.heap.size + 1, 0, none⟩)]) := ⟨_, _, rfl, by rw [← hσ, Rho.set_other (by omega), Rho.set_same], by rw [← hσ, Rho.set_same], hA3, hB3, Hn80.out.1, Hn80.out.2.1⟩
      have hcall := change_calls f d _ (.rename a b) _ w3 hf3 hchg hfu Hn80.out.2.2 hl hll
      have hst : FsStep w ρ w3 σ := ⟨Keeps.ofBelow hbw3, fun k hk => by
        by_cases e : k < w.heap.size
        · rw [← hσ] at hk; unfold Rho.has at hk; rw [Rho.set_other (by omega), Rho.set_other (by omega)] at hk; exact .inl hk
        · exact .inr (by omega)⟩
      have Hcall := Lib.hid hcall
      have Hst := Lib.hid hst
      have heq : ((strL a).toList == (strL b).toList) = false := (Lib.bytes_beq_false_iff _ _).2 (fun e => hab (strL_inj e))
      clear hcall hst hf3 hchg hA3 hB3 hbw3 hb3 hb3s hr1 hr2 hσ hab
      generalize strL a = sa at ca heq
      generalize strL b = sb at cb heq
      go_wp2_with fail
      refine (Hcall.out).mono ?_; rintro e w9 ⟨lv9, ρ9, rfl, hF9, hst9⟩
      go_wp2
      go_ret
      refine ⟨.func (.func 159) #[] #[.pointer (some ⟨w.heap.size, 0, none⟩), .pointer (some ⟨w.heap.size + 1, 0, none⟩)], lv9, ρ9, ?_, ?_, Hst.out.trans hst9⟩
      · rw [Hud3.out]; rfl
      · rw [Hud3.out]; exact hF9
  · have h0' : (e == 0) = false := by simpa using h0
    have Hud2 : Hid (∀ v lv, renameD d a b v lv = (e, d)) := fun v lv => by have := Hud.out v lv; rw [this, if_neg h0]
    go_enter Tryz.func111, Tryz.ntmps111
    go_wp2_with fail
    refine (H1.out).mono ?_; rintro e w3 ⟨rfl, hb3⟩
    have hbw3 := Hbw2.out.trans (hb3.mono Hbw2.out.size)
    go_wp2
    go_ret
    refine ⟨.nilFunc, d.lv, ρ, ?_⟩
    rw [Hud2.out]
    exact ⟨rfl, H.out.below hbw3, FsStep.below hbw3⟩
end Go.Proofs.YtffnbkmigapmjaaGreatDoor
