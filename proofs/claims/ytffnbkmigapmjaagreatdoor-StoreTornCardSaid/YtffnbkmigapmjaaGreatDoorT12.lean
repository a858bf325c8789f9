/-
  The walk of fs: Create (printed by gen_fscreate.py).
-/
import Derived.Test.YtffnbkmigapmjaaGreatDoorT11
set_option linter.unusedSimpArgs false
set_option linter.unusedVariables false
set_option maxRecDepth 100000
namespace Go.Proofs.YtffnbkmigapmjaaGreatDoor
open Go.RowKit Go.Maps
theorem FsRest.grow {w w' : World} {d : FsD} {ρ σ : Rho} (h : FsRest w d ρ) (hb : Below w.heap.size w w') (hup : ∀ k r, ρ k = some r → σ k = some r) (hlt : ∀ k, (σ k).isSome = true → k < w'.heap.size) : FsRest w' d σ := by
  have h' := h.keeps (F := fun _ => False) (Keeps.ofBelow hb) (fun _ e => e.elim)
  exact ⟨hup _ _ h'.rnow, hup _ _ h'.rsure, h'.dnow, h'.dsure, fun k e => hup _ _ (h'.rlv k e), h'.own, fun p hp => (h'.chg p hp).mono hup, fun x c hx => (h'.files x c hx).mono hup, h'.fnow, h'.fsure, hlt⟩
theorem FsAt.grow {w w' : World} {f : Nat} {d : FsD} {ρ σ : Rho} (h : FsAt w f d ρ) (hb : Below w.heap.size w w') (hup : ∀ k r, ρ k = some r → σ k = some r) (hlt : ∀ k, (σ k).isSome = true → k < w'.heap.size) : FsAt w' f d σ :=
  ⟨hup _ _ h.role, (hb.block _ (Array.getElem?_eq_some_iff.1 h.hd).1).trans h.hd, h.rest.grow hb hup hlt⟩
def FsD.setFile (d : FsD) (x : Nat) (c : FileC) : FsD := { d with file := fun k => if k = x then some c else d.file k }
theorem FsRest.setFile {w : World} {d : FsD} {ρ : Rho} {x : Nat} {c : FileC} (h : FsRest w d ρ) (hx : FileAt' w ρ x c) : FsRest w (d.setFile x c) ρ := by
  have hs : ∀ k, (d.file k).isSome = true → ((d.setFile x c).file k).isSome = true := by
    intro k hk
    show (if k = x then some c else d.file k).isSome = true
    by_cases e : k = x
    · rw [if_pos e]; rfl
    · rw [if_neg e]; exact hk
  refine ⟨h.rnow, h.rsure, h.dnow, h.dsure, h.rlv, h.own, h.chg, ?_, fun p hp => hs _ (h.fnow p hp), fun p hp => hs _ (h.fsure p hp), h.lt⟩
  intro k cc hk
  have hk : (if k = x then some c else d.file k) = some cc := hk
  by_cases e : k = x
  · rw [if_pos e] at hk; cases hk; rw [e]; exact hx
  · rw [if_neg e] at hk; exact h.files k cc hk
def Rho.set (ρ : Rho) (b : Nat) (r : Role) : Rho := fun k => if k = b then some r else ρ k
theorem Rho.set_same (ρ : Rho) (b : Nat) (r : Role) : (ρ.set b r) b = some r := by unfold Rho.set; rw [if_pos rfl]
theorem Rho.set_other {ρ : Rho} {b k : Nat} {r : Role} (h : k ≠ b) : (ρ.set b r) k = ρ k := by unfold Rho.set; rw [if_neg h]
theorem Rho.set_up {ρ : Rho} {b : Nat} {r0 : Role} (hb : ρ b = none) : ∀ k r, ρ k = some r → (ρ.set b r0) k = some r := by
  intro k r h
  by_cases e : k = b
  · rw [e, hb] at h; cases h
  · rw [Rho.set_other e]; exact h
theorem Rho.set_lt {ρ : Rho} {b n : Nat} {r0 : Role} (hb : b < n) (h : ∀ k, (ρ k).isSome = true → k < n) : ∀ k, ((ρ.set b r0) k).isSome = true → k < n := by
  intro k hk
  by_cases e : k = b
  · rw [e]; exact hb
  · rw [Rho.set_other e] at hk; exact h k hk
theorem Rho.none_of {ρ : Rho} {n b : Nat} (h : ∀ k, (ρ k).isSome = true → k < n) (hb : n ≤ b) : ρ b = none := by
  cases e : ρ b with
  | none => rfl
  | some r => have := h b (by rw [e]; rfl); omega
theorem rdS_one {w : World} {g : Nat} {n : Nm} {t : TypeId} (h : w.heap[g]? = some (.cells #[.string (strL n)] t (0, 0))) : RdS w (.slice (some ⟨g, 0, none⟩) 1 1) [n] := by
  refine .inr ⟨g, 0, 1, rfl, by simp, Nat.le_refl _, by decide, (Array.getElem?_eq_some_iff.1 h).1, ?_⟩
  intro i x hx j u hu
  match i, hx with
  | 0, hx =>
    cases hx
    match j, hu with
    | 0, hu => cases hu; rw [cell_of_row _ _ _ _ _ _ h]; rfl
    | j + 1, hu => cases hu
  | i + 1, hx => cases hx
def file0 : FileC := ⟨[], 0, .slice none 0 0⟩
def createD (d : FsD) (n : Nm) (x : Nat) (v lv : Value) : Int × FsD :=
  if readyE d [n] = 0 then (if (d.now.look n).isSome then (5, d) else if 256 ≤ d.now.length then (3, d) else changeD (d.setFile x file0) (.create n x) v lv) else (readyE d [n], d)
theorem rightD_len {n : Nm} (h : rightD n = true) : n.length ≤ 80 := by
  unfold rightD at h
  have := (Bool.and_eq_true _ _ ▸ h : _ ∧ _).2
  exact of_decide_eq_true this
theorem readyE_right {d : FsD} {ns : List Nm} (h : readyE d ns = 0) : ∀ n ∈ ns, rightD n = true := by
  intro n hn
  unfold readyE at h
  cases ha : ns.all rightD with
  | true => exact List.all_eq_true.1 ha n hn
  | false => rw [ha] at h; cases h
set_option maxHeartbeats 16000000 in
theorem create_calls (f : Nat) (d : FsD) (ρ : Rho) (n : Nm) (w : World) (h : FsAt w f d ρ) (hs : n.length ≤ maxLen) (hfu : -1 ≤ d.fuse ∧ d.fuse ≤ 9223372036854775807) (hll : d.loose.length ≤ 1000000) :
    Calls Tryz.prog 15 #[.pointer (some ⟨f, 0, none⟩), .string (strL n)] w fun e w' => ∃ x v lv ρ', w.heap.size ≤ x ∧ e = .returned (.int .i64 (createD d n x v lv).1) ∧ FsAt w' f (createD d n x v lv).2 ρ' ∧ FsStep w ρ w' ρ' := by
  obtain ⟨nb, hnb⟩ : ∃ nb, w.heap.size = nb := ⟨_, rfl⟩
  obtain ⟨W1, hW1⟩ : ∃ W1, w.alloc (.cells #[.string (strL n)] 9) = W1 := ⟨_, rfl⟩
  obtain ⟨W2, hW2⟩ : ∃ W2, W1.alloc (.cells #[.string (strL n)] 9) = W2 := ⟨_, rfl⟩
  have hb1 : Below w.heap.size w W1 := by rw [← hW1]; exact (Below.refl _ _).alloc (Nat.le_refl _) _
  have hb2 : Below W1.heap.size W1 W2 := by rw [← hW2]; exact (Below.refl _ _).alloc (Nat.le_refl _) _
  have hz1 : W1.heap.size = nb + 1 := by rw [← hW1, ← hnb]; simp
  have hbw2 := hb1.trans (hb2.mono hb1.size)
  have hnh1 : W1.heap[nb]? = some (.cells #[.string (strL n)] 9 (0, 0)) := by rw [← hW1]; exact heap_new_at _ hnb.symm
  have hnh2 : W2.heap[nb]? = some (.cells #[.string (strL n)] 9 (0, 0)) := (hb2.block nb (by omega)).trans hnh1
  have hnh3 : W2.heap[nb + 1]? = some (.cells #[.string (strL n)] 9 (0, 0)) := by rw [← hW2]; exact heap_new_at _ hz1.symm
  have h1 := ready_calls f d ρ (.slice (some ⟨nb + 1, 0, none⟩) 1 1) [n] W2 (h.below hbw2) (rdS_one hnh3) (fun k hk => by rw [List.mem_singleton.1 hk]; unfold maxLen at hs; exact hs)
  obtain ⟨e, he⟩ : ∃ e, readyE d [n] = e := ⟨_, rfl⟩
  rw [he] at h1
  have Hcd : Hid (∀ x v lv, createD d n x v lv = if e = 0 then (if (d.now.look n).isSome then (5, d) else if 256 ≤ d.now.length then (3, d) else changeD (d.setFile x file0) (.create n x) v lv) else (e, d)) := fun x v lv => by unfold createD; rw [he]
  have hr80 : e = 0 → n.length ≤ 80 := fun h0 => rightD_len (readyE_right (he.trans h0) n (by simp))
  have H1 := Lib.hid h1
  have H := Lib.hid h
  have Hr80 := Lib.hid hr80
  have Hbw2 := Lib.hid hbw2
  have Hnh2 := Lib.hid hnh2
  have Hnb := Lib.hid hnb
  have Hs := Lib.hid hs
  clear h1 h he hr80 hbw2 hnh2 hnh1 hnh3 hb1 hb2 hz1 hs
  subst hW2
  subst hW1
  subst hnb
  by_cases h0 : e = 0
  · subst h0
    have Hcd2 : Hid (∀ x v lv, createD d n x v lv = (if (d.now.look n).isSome then (5, d) else if 256 ≤ d.now.length then (3, d) else changeD (d.setFile x file0) (.create n x) v lv)) := fun x v lv => by have := Hcd.out x v lv; rw [this]; rfl
    clear Hcd
    have Hn80 := Lib.hid (Hr80.out rfl)
    clear Hr80
    go_enter Tryz.func15, Tryz.ntmps15
    go_wp2_with fail
    refine (H1.out).mono ?_; rintro e w3 ⟨rfl, hb3⟩
    have hbw3 := Hbw2.out.trans (hb3.mono Hbw2.out.size)
    have hb3s : w.heap.size + 2 ≤ w3.heap.size := by have := hb3.size; simp at this; omega
    have hF := H.out.below hbw3
    have hlk := dir_look (World.ownsMap.drew hF.rest.dnow) n Hs.out
    have hln := dir_len (World.ownsMap.drew hF.rest.dnow) 3
    obtain ⟨⟨c0, c1, c2, c3, c4, c5⟩, _⟩ := fsHd_cells hF.hd
    have hnb3 := (hb3.block _ (Array.getElem?_eq_some_iff.1 Hnh2.out).1).trans Hnh2.out
    have hcn : w3.cell? ⟨w.heap.size, 0, none⟩ = some (.string (strL n)) := by rw [cell_of_row _ _ _ _ _ _ hnb3]; rfl
    obtain ⟨nb, hnb⟩ : ∃ nb, w.heap.size = nb := ⟨_, rfl⟩
    obtain ⟨mn, hmn⟩ : ∃ mn, d.mn = mn := ⟨_, rfl⟩
    obtain ⟨o, ho⟩ : ∃ o, d.now.look n = o := ⟨_, rfl⟩
    obtain ⟨sn, hsn⟩ : ∃ sn, strL n = sn := ⟨_, rfl⟩
    obtain ⟨pv, hpv⟩ : ∃ pv, ptrOf o = pv := ⟨_, rfl⟩
    obtain ⟨ok, hok⟩ : ∃ ok, o.isSome = ok := ⟨_, rfl⟩
    rw [hmn, ho, hsn, hpv, hok] at hlk
    rw [hmn] at c0 hln
    rw [hsn, hnb] at hcn
    rw [hnb, hsn] at hnb3
    have HS : Hid ((fun w' => w'.cell? ⟨f, 0, none⟩ = some (.map (some mn)) ∧ w'.cell? ⟨nb, 0, none⟩ = some (.string sn) ∧ (Instr.lookup 93 (.map (some mn)) (.string sn) true).run Tryz.prog w' = .ok (.tuple #[pv, .bool ok]) w') w3.drew) := ⟨c0, hcn, hlk⟩
    have Hok := Lib.hid (show (d.now.look n).isSome = ok by rw [ho]; exact hok)
    have Hnb3 := Lib.hid hnb3
    have Hnb4 := Lib.hid hnb
    have Hsn := Lib.hid hsn
    have Hmn := Lib.hid hmn
    have HF := Lib.hid hF
    have Hbw3 := Lib.hid hbw3
    have c0d : w3.drew.cell? ⟨f, 0, none⟩ = some (.map (some mn)) := c0
    clear hlk hcn c1 c2 c3 c4 c5 hmn ho hsn hpv hok hnb3 hF hbw3 hb3
    go_upto_region 4 with fail
    (try rw [Hnb4.out]); (try rw [Hsn.out])
    clear hnb
    refine wp_region_noPanic ?_
    refine wp_region_held_drew (S := (fun w' => w'.cell? ⟨f, 0, none⟩ = some (.map (some mn)) ∧ w'.cell? ⟨nb, 0, none⟩ = some (.string sn) ∧ (Instr.lookup 93 (.map (some mn)) (.string sn) true).run Tryz.prog w' = .ok (.tuple #[pv, .bool ok]) w')) (by kernel_rfl) (by with_reducible exact HS.out) (fun hHeld => ?_)
    refine wpAnyH_take (i := 0) (oi := _) (v := ?_) (by simp only [List.getElem?_toArray, List.getElem?_cons_succ, List.getElem?_cons_zero]; rfl) (by kernel_rfl) (by kernel_rfl) (by kernel_rfl) (fun _ _ _ h => h) (Or.inl ⟨by rfl, ?_⟩) (by assumption) ?_
    rotate_left
    · intro w hSw; (try dsimp only at hSw); go_simp; (try with_reducible rfl)
    try simp only [Act.put, List.setIfInBounds_toArray, List.set_cons_zero, List.set_cons_succ]
    refine wpAnyH_take (i := 1) (oi := _) (v := ?_) (by simp only [List.getElem?_toArray, List.getElem?_cons_succ, List.getElem?_cons_zero]; rfl) (by kernel_rfl) (by kernel_rfl) (by kernel_rfl) (fun _ _ _ h => h) (Or.inl ⟨by rfl, ?_⟩) (by assumption) ?_
    rotate_left
    · intro w hSw; (try dsimp only at hSw); go_simp; (try with_reducible rfl)
    try simp only [Act.put, List.setIfInBounds_toArray, List.set_cons_zero, List.set_cons_succ]
    refine wpAnyH_take (i := 2) (oi := _) (v := ?_) (by simp only [List.getElem?_toArray, List.getElem?_cons_succ, List.getElem?_cons_zero]; rfl) (by kernel_rfl) (by kernel_rfl) (by kernel_rfl) (fun _ _ _ h => h) (Or.inl ⟨by rfl, ?_⟩) (by assumption) ?_
    rotate_left
    · intro w hSw; (try dsimp only at hSw); go_simp; (try with_reducible rfl)
    try simp only [Act.put, List.setIfInBounds_toArray, List.set_cons_zero, List.set_cons_succ]
    refine wpAnyH_take (i := 3) (oi := _) (v := ?_) (by simp only [List.getElem?_toArray, List.getElem?_cons_succ, List.getElem?_cons_zero]; rfl) (by kernel_rfl) (by kernel_rfl) (by kernel_rfl) (fun _ _ _ h => h) (Or.inl ⟨by rfl, ?_⟩) (by assumption) ?_
    rotate_left
    · intro w hSw; (try dsimp only at hSw); go_simp; (try with_reducible rfl)
    try simp only [Act.put, List.setIfInBounds_toArray, List.set_cons_zero, List.set_cons_succ]
    refine wpAnyH_take (i := 4) (oi := _) (v := ?_) (by simp only [List.getElem?_toArray, List.getElem?_cons_succ, List.getElem?_cons_zero]; rfl) (by kernel_rfl) (by kernel_rfl) (by kernel_rfl) (fun _ _ _ h => h) (Or.inl ⟨by rfl, ?_⟩) (by assumption) ?_
    rotate_left
    · intro w hSw; (try dsimp only at hSw); go_simp; (try with_reducible rfl)
    try simp only [Act.put, List.setIfInBounds_toArray, List.set_cons_zero, List.set_cons_succ]
    refine wpAnyH_take (i := 5) (oi := _) (v := ?_) (by simp only [List.getElem?_toArray, List.getElem?_cons_succ, List.getElem?_cons_zero]; rfl) (by kernel_rfl) (by kernel_rfl) (by kernel_rfl) (fun _ _ _ h => h) (Or.inl ⟨by rfl, ?_⟩) (by assumption) ?_
    rotate_left
    · intro w hSw; (try dsimp only at hSw); go_simp; (try with_reducible rfl)
    try simp only [Act.put, List.setIfInBounds_toArray, List.set_cons_zero, List.set_cons_succ]
    refine wpAnyH_take (i := 6) (oi := _) (v := ?_) (by simp only [List.getElem?_toArray, List.getElem?_cons_succ, List.getElem?_cons_zero]; rfl) (by kernel_rfl) (by kernel_rfl) (by kernel_rfl) (fun _ _ _ h => h) (Or.inl ⟨by rfl, ?_⟩) (by assumption) ?_
    rotate_left
    · intro w hSw; (try dsimp only at hSw); go_simp; (try with_reducible rfl)
    try simp only [Act.put, List.setIfInBounds_toArray, List.set_cons_zero, List.set_cons_succ]
    refine wpAnyH_take (i := 7) (oi := _) (v := ?_) (by simp only [List.getElem?_toArray, List.getElem?_cons_succ, List.getElem?_cons_zero]; rfl) (by kernel_rfl) (by kernel_rfl) (by kernel_rfl) (fun _ _ _ h => h) (Or.inl ⟨by rfl, ?_⟩) (by assumption) ?_
    rotate_left
    · intro w hSw; (try dsimp only at hSw); go_simp; (try with_reducible rfl)
    try simp only [Act.put, List.setIfInBounds_toArray, List.set_cons_zero, List.set_cons_succ]
    refine wpAnyH_take (i := 8) (oi := _) (v := ?_) (by simp only [List.getElem?_toArray, List.getElem?_cons_succ, List.getElem?_cons_zero]; rfl) (by kernel_rfl) (by kernel_rfl) (by kernel_rfl) (fun _ _ _ h => h) (Or.inl ⟨by rfl, ?_⟩) (by assumption) ?_
    rotate_left
    · intro w hSw; (try dsimp only at hSw); go_simp; (try with_reducible rfl)
    try simp only [Act.put, List.setIfInBounds_toArray, List.set_cons_zero, List.set_cons_succ]
    refine wpAnyH_take (i := 9) (oi := _) (v := ?_) (by simp only [List.getElem?_toArray, List.getElem?_cons_succ, List.getElem?_cons_zero]; rfl) (by kernel_rfl) (by kernel_rfl) (by kernel_rfl) (fun _ _ _ h => h) (Or.inl ⟨by rfl, ?_⟩) (by assumption) ?_
    rotate_left
    · intro w hSw; (try dsimp only at hSw); go_simp; (try with_reducible rfl)
    try simp only [Act.put, List.setIfInBounds_toArray, List.set_cons_zero, List.set_cons_succ]
    refine wpAnyH_take (i := 10) (oi := _) (v := ?_) (by simp only [List.getElem?_toArray, List.getElem?_cons_succ, List.getElem?_cons_zero]; rfl) (by kernel_rfl) (by kernel_rfl) (by kernel_rfl) (fun _ _ _ h => h) (Or.inl ⟨by rfl, ?_⟩) (by assumption) ?_
    rotate_left
    · intro w hSw; (try dsimp only at hSw); go_simp; (try with_reducible rfl)
    try simp only [Act.put, List.setIfInBounds_toArray, List.set_cons_zero, List.set_cons_succ]
    refine wpAnyH_done (by kernel_rfl) ?_ _
    refine NoPanic.normal ?_
    clear HS
    cases ok with
    | true =>
      have Hcd3 : Hid (∀ x v lv, createD d n x v lv = (5, d)) := fun x v lv => by have := Hcd2.out x v lv; rw [this, Hok.out]; rfl
      clear c0 c0d hln
      go_wp2
      go_ret
      refine ⟨nb, .nilFunc, d.lv, ρ, ?_⟩
      rw [Hcd3.out]
      exact ⟨by rw [Hnb4.out]; exact Nat.le_refl _, rfl, HF.out.below (Below.refl _ _).drew, FsStep.below (Hbw3.out.drew)⟩
    | false =>
      have Hcd3 : Hid (∀ x v lv, createD d n x v lv = if 256 ≤ d.now.length then (3, d) else changeD (d.setFile x file0) (.create n x) v lv) := fun x v lv => by have := Hcd2.out x v lv; rw [this, Hok.out]; rfl
      by_cases hfull : (256 : Int) ≤ (d.now.length : Int)
      · have Hcd4 : Hid (∀ x v lv, createD d n x v lv = (3, d)) := fun x v lv => by have := Hcd3.out x v lv; rw [this, if_pos (by omega)]
        go_wp2
        go_ret
        refine ⟨nb, .nilFunc, d.lv, ρ, ?_⟩
        rw [Hcd4.out]
        exact ⟨by rw [Hnb4.out]; exact Nat.le_refl _, rfl, HF.out.below (Below.refl _ _).drew, FsStep.below (Hbw3.out.drew)⟩
      · have Hcd4 : Hid (∀ x v lv, createD d n x v lv = changeD (d.setFile x file0) (.create n x) v lv) := fun x v lv => by have := Hcd3.out x v lv; rw [this, if_neg (by omega)]
        have hnd : ∀ k, (ρ k).isSome = true → k < nb := fun k hk => by have := H.out.rest.lt k hk; have := Hnb4.out; omega
        have hsz3 : nb + 2 ≤ w3.heap.size := by have := hb3s; have := Hnb4.out; omega
        obtain ⟨W4, hW4⟩ : ∃ W4, ((w3.alloc (.cells #[.slice none 0 0, .int .i64 0] 101)).alloc (.cells #[.pointer (some ⟨w3.heap.size, 0, none⟩)] 98)).drew = W4 := ⟨_, rfl⟩
        have hb4 : Below w3.heap.size w3 W4 := by rw [← hW4]; exact (((Below.refl _ _).alloc (Nat.le_refl _) _).alloc (by simp) _).drew
        have hX : W4.heap[w3.heap.size]? = some (.cells #[.slice none 0 0, .int .i64 0] 101 (0, 0)) := by rw [← hW4]; exact (Below.heap_alloc _ _ _ (by simp)).trans (heap_new_at _ rfl)
        have hXb : W4.heap[w3.heap.size + 1]? = some (.cells #[.pointer (some ⟨w3.heap.size, 0, none⟩)] 98 (0, 0)) := by rw [← hW4]; exact heap_new_at _ (by simp)
        have hNb : W4.heap[nb]? = some (.cells #[.string (strL n)] 9 (0, 0)) := by rw [Hsn.out]; exact (hb4.block nb (by omega)).trans Hnb3.out
        have hsz4 : W4.heap.size = w3.heap.size + 2 := by rw [← hW4]; simp
        obtain ⟨σ, hσ⟩ : ∃ σ, ((ρ.set nb .box).set w3.heap.size .file).set (w3.heap.size + 1) .box = σ := ⟨_, rfl⟩
        have r1 : ρ nb = none := Rho.none_of hnd (Nat.le_refl _)
        have r2 : (ρ.set nb .box) w3.heap.size = none := by rw [Rho.set_other (by omega)]; exact Rho.none_of hnd (by omega)
        have r3 : ((ρ.set nb .box).set w3.heap.size .file) (w3.heap.size + 1) = none := by rw [Rho.set_other (by omega), Rho.set_other (by omega)]; exact Rho.none_of hnd (by omega)
        have hup : ∀ k r, ρ k = some r → σ k = some r := fun k r hr => by rw [← hσ]; exact Rho.set_up r3 k r (Rho.set_up r2 k r (Rho.set_up r1 k r hr))
        have hlt : ∀ k, (σ k).isSome = true → k < W4.heap.size := by rw [← hσ]; exact Rho.set_lt (by omega) (Rho.set_lt (by omega) (Rho.set_lt (by omega) (fun k hk => by have := hnd k hk; omega)))
        have hf4 := HF.out.grow hb4 hup hlt
        have hfile : FileAt' W4 σ w3.heap.size file0 := ⟨by rw [← hσ, Rho.set_other (by omega), Rho.set_same], hX, World.ownsRow_nil _ _ _ _, (fun k hk => by cases hk), by decide, Nat.le_refl _⟩
        have hf5 : FsAt W4 f (d.setFile w3.heap.size file0) σ := ⟨hf4.role, hf4.hd, hf4.rest.setFile hfile⟩
        have hchg : ChgAt W4 σ (.create n w3.heap.size) (.func (.func 52) #[] #[.pointer (some ⟨w3.heap.size + 1, 0, none⟩), .pointer (some ⟨nb, 0, none⟩)]) :=
          ⟨_, _, rfl, by rw [← hσ, Rho.set_same], by rw [← hσ, Rho.set_other (by omega), Rho.set_other (by omega), Rho.set_same], hXb, hNb, Hn80.out⟩
        have hcall := change_calls f (d.setFile w3.heap.size file0) σ (.create n w3.heap.size) _ W4 hf5 hchg hfu (by show (if w3.heap.size = w3.heap.size then some file0 else d.file w3.heap.size).isSome = true; rw [if_pos rfl]; rfl) (by show d.now.length ≤ 256; omega) hll
        have hst : FsStep w ρ W4 σ := by
          refine ⟨Keeps.ofBelow (Hbw3.out.trans (hb4.mono Hbw3.out.size)), fun k hk => ?_⟩
          by_cases e : k < nb
          · rw [← hσ] at hk
            unfold Rho.has at hk
            rw [Rho.set_other (by omega), Rho.set_other (by omega), Rho.set_other (by omega)] at hk
            exact .inl hk
          · exact .inr (by have := Hnb4.out; omega)
        have Hcall := Lib.hid hcall
        have Hst := Lib.hid hst
        have HW4 := Lib.hid hW4
        clear hcall hst hW4 hf4 hf5 hfile hchg hup hlt hb4 hX hXb hNb hsz4 r1 r2 r3 hnd hσ
        go_wp2_with fail
        (try rw [HW4.out])
        refine (Hcall.out).mono ?_; rintro e w9 ⟨lv9, ρ9, rfl, hF9, hst9⟩
        go_wp2
        go_ret
        refine ⟨w3.heap.size, .func (.func 52) #[] #[.pointer (some ⟨w3.heap.size + 1, 0, none⟩), .pointer (some ⟨nb, 0, none⟩)], lv9, ρ9, ?_, ?_, ?_, Hst.out.trans hst9⟩
        · have := Hnb4.out; omega
        · rw [Hcd4.out]; rfl
        · rw [Hcd4.out]; exact hF9
  · have h0' : (e == 0) = false := by simpa using h0
    have Hcd2 : Hid (∀ x v lv, createD d n x v lv = (e, d)) := fun x v lv => by have := Hcd.out x v lv; rw [this, if_neg h0]
    go_enter Tryz.func15, Tryz.ntmps15
    go_wp2_with fail
    refine (H1.out).mono ?_; rintro e w3 ⟨rfl, hb3⟩
    have hbw3 := Hbw2.out.trans (hb3.mono Hbw2.out.size)
    go_wp2
    go_ret
    refine ⟨w.heap.size, .nilFunc, d.lv, ρ, ?_⟩
    rw [Hcd2.out]
    exact ⟨Nat.le_refl _, rfl, H.out.below hbw3, FsStep.below hbw3⟩
end Go.Proofs.YtffnbkmigapmjaaGreatDoor
