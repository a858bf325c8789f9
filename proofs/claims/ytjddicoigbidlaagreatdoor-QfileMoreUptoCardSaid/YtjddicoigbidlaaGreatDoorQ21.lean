/-
  The walk of pillarboxref10.Fates.
-/
import Derived.Test.YtjddicoigbidlaaGreatDoorQ3
set_option linter.unusedSimpArgs false
set_option linter.unusedVariables false
namespace Go.Proofs.YtjddicoigbidlaaGreatDoor
open Go.RowKit
/-- A mark at place o of block b, which is not block g. -/
abbrev FatesL (g b o : Nat) (k : MarkD) (w : World) : Prop :=
  w.cell? ⟨b, o, none⟩ = some (.int .i64 k.kind) ∧ w.cell? ⟨b, o + 1, none⟩ = some (.int .i64 k.rcpt) ∧ w.cell? ⟨b, o + 2, none⟩ = some (.int .i64 k.n) ∧ g ≠ b
theorem FatesL.go {g b o : Nat} {k : MarkD} {w w' : World} (hb : Below w.heap.size w w') (h : FatesL g b o k w) : FatesL g b o k w' := by
  obtain ⟨h1, h2, h3, h4⟩ := h
  have lm := World.block_lt_of_cell? w ⟨b, o, none⟩ h1
  obtain ⟨c, f⟩ := below_cell hb
  exact ⟨(c _ _ lm).trans h1, (c _ _ lm).trans h2, (c _ _ lm).trans h3, h4⟩
theorem FatesL.store {g kb o : Nat} {k : MarkD} {w : World} (a b c d e : Nat) (x0 x1 x2 x3 x4 : Value) (h : FatesL g kb o k w) :
    FatesL g kb o k (((((w.setCell ⟨g, a, none⟩ x0).setCell ⟨g, b, none⟩ x1).setCell ⟨g, c, none⟩ x2).setCell ⟨g, d, none⟩ x3).setCell ⟨g, e, none⟩ x4) := by
  obtain ⟨h1, h2, h3, h4⟩ := h
  have hK : Keeps (fun k => k = g) w (((((w.setCell ⟨g, a, none⟩ x0).setCell ⟨g, b, none⟩ x1).setCell ⟨g, c, none⟩ x2).setCell ⟨g, d, none⟩ x3).setCell ⟨g, e, none⟩ x4) :=
    ((((Keeps.setCell (F := fun k => k = g) w ⟨g, a, none⟩ x0 rfl).trans (Keeps.setCell _ ⟨g, b, none⟩ x1 rfl)).trans (Keeps.setCell _ ⟨g, c, none⟩ x2 rfl)).trans (Keeps.setCell _ ⟨g, d, none⟩ x3 rfl)).trans (Keeps.setCell _ ⟨g, e, none⟩ x4 rfl)
  have hne : ¬ (kb = g) := fun e => h4 e.symm
  exact ⟨hK.cell hne h1, hK.cell hne h2, hK.cell hne h3, h4⟩
set_option maxRecDepth 100000 in
set_option maxHeartbeats 8000000 in
theorem refFates_calls (m : Nat) (v : Value) (ks : List MarkD) (w : World) (hm8 : m ≤ 8) (hv : RdM w v ks) (hgood : ∀ k ∈ ks, k.good = true) :
    Calls Tryz.prog 31 #[.int .i64 m, v] w (FatesDone w (fatesD m ks)) := by
  obtain ⟨i0, hi, hz0, hz1, hz2⟩ := info_parts infoFate
  obtain ⟨a, cap, rfl, hlc, hcap⟩ := hv.form
  obtain ⟨w1, hrun, hown1, hg1⟩ := run_make_full (P := Tryz.prog) w w.heap.size 54 57 i0 _ 5 Tryz.underlying54 hi hz0 hz1 .i64 .i64 m (by rw [hz2]; omega) (by unfold maxLen; omega) (Nat.le_refl _)
  rw [zeros_flat m hm8] at hown1
  have hb1 : Below w.heap.size w w1 := (Below.refl _ _).grown hg1 (Nat.le_refl _) (fun _ h => by cases h)
  go_enter Tryz.func31, Tryz.ntmps31
  go_wp2
  go_loopw [6] (fun i wr => ∃ j : Nat, j ≤ ks.length ∧ i = .int .i64 j ∧ wr.ownsRow w.heap.size 57 5 (.slice (some ⟨w.heap.size, 0, none⟩) m m) m ((fatesD m (ks.take j)).flatMap FateD.cells) ∧ Below w.heap.size w wr) (fun i _ => ks.length - (intOf i).toNat)
  case atStart =>
    exact ⟨0, Nat.zero_le _, rfl, by simpa [fatesD] using hown1, hb1⟩
  case round =>
    obtain ⟨j, hj, rfl, hown, hbw⟩ := hrel
    by_cases hlt : j < ks.length
    · obtain ⟨k, hk⟩ : ∃ k, ks[j]? = some k := ⟨_, List.getElem?_eq_getElem hlt⟩
      obtain ⟨b, off, cap', hsl, hbl, y0, y1, y2⟩ := RdL.at3 hv hk
      cases hsl
      have x0 := (hbw.cell (p := ⟨b, off + j * 3, none⟩) hbl).trans y0
      have x1 := (hbw.cell (p := ⟨b, off + j * 3 + 1, none⟩) hbl).trans y1
      have x2 := (hbw.cell (p := ⟨b, off + j * 3 + 2, none⟩) hbl).trans y2
      have hg : k.good = true := hgood k (List.mem_of_getElem? hk)
      obtain ⟨kind, rcpt, nn⟩ := k
      simp only at x0 x1 x2
      have hfs : fatesD m (ks.take (j + 1)) = putD (fatesD m (ks.take j)) ⟨kind, rcpt, nn⟩ := by rw [take_snoc hk, fatesD_snoc]
      have hfl := fatesD_length m (ks.take j)
      have hrest : FRest w m (fatesD m (ks.take j)) wr := ⟨hbw, hown⟩
      generalize fatesD m (ks.take j) = fs at hfs hfl hrest hown
      have hg' : 1 ≤ kind ∧ kind ≤ 5 ∧ 0 ≤ rcpt ∧ rcpt < 8 ∧ 0 ≤ nn ∧ nn ≤ 1099511627776 := of_decide_eq_true hg
      obtain ⟨rn, rfl⟩ := Int.eq_ofNat_of_zero_le hg'.2.2.1
      rw [putD, if_pos hg] at hfs
      have Hfs := Lib.hid hfs
      have hj0 : (0 : Int) ≤ (j : Int) := by omega
      have hj1 : (j : Int) < (ks.length : Int) := by omega
      clear hfs hg hg' y0 y1 y2 hown
      by_cases hrm : rn < m
      · obtain ⟨f, hf⟩ : ∃ f, fs[rn]? = some f := ⟨_, List.getElem?_eq_getElem (by omega)⟩
        have hrd : FRest w m fs wr.drew := hrest.go (Below.refl _ _).drew
        obtain ⟨⟨o0, o1, o2, o3, o4⟩, z0, z1, z2, z3, z4⟩ := hrd.cells hf
        have hS : FatesL w.heap.size b (off + j * 3) ⟨kind, rn, nn⟩ wr.drew := FatesL.go (Below.refl _ _).drew ⟨x0, x1, x2, by omega⟩
        rw [modify_in (r := ((rn : Int)).toNat) (by simpa using hf)] at Hfs
        have hi0 : (0 : Int) ≤ (rn : Int) := by omega
        have hi1 : (rn : Int) < (m : Int) := by omega
        have hrf : rn < fs.length := by omega
        obtain ⟨s0, s1, s2, s3, s4, hst⟩ : ∃ s0 s1 s2 s3 s4, stepD f ⟨kind, rn, nn⟩ = ⟨s0, s1, s2, s3, s4⟩ := ⟨_, _, _, _, _, rfl⟩
        have hcall : ∀ W, Calls Tryz.prog 30 #[f.val, .agg #[.int .i64 kind, .int .i64 rn, .int .i64 nn]] W fun e w' => e = .returned (.agg #[.int .i64 s0, .int .i64 s1, .int .i64 s2, .int .i64 s3, .bool s4]) ∧ Below W.heap.size W w' := by
          intro W; have := refStep_calls f ⟨kind, rn, nn⟩ W; rw [hst] at this; exact this
        rw [hst] at Hfs
        have Hcall := Lib.hid hcall
        clear hcall hst
        go_wp2
        refine wp_region_noPanic ?_
        refine wp_region_held_drew (S := (fun w' => w'.cell? ⟨b, off + j * 3, none⟩ = some (.int .i64 kind) ∧ w'.cell? ⟨b, off + j * 3 + 1, none⟩ = some (.int .i64 rn) ∧ w'.cell? ⟨b, off + j * 3 + 2, none⟩ = some (.int .i64 nn) ∧ w.heap.size ≠ b)) (by kernel_rfl) (by first | with_reducible exact hS | with_reducible assumption | with_reducible exact FatesL.store (k := ⟨kind, rn, nn⟩) _ _ _ _ _ _ _ _ _ _ (by assumption) | with_reducible exact FatesL.go (k := ⟨kind, rn, nn⟩) (by assumption) (by assumption)) (fun hHeld => ?_)
        refine wpAnyH_take (i := 0) (oi := _) (v := ?_) rfl (by kernel_rfl) (by kernel_rfl) (by kernel_rfl) (fun _ _ _ h => h) (Or.inl ⟨by rfl, ?_⟩) (by assumption) ?_
        rotate_left
        · intro w hSw; (try dsimp only at hSw); go_simp; (try with_reducible rfl)
        try simp only [Act.put, List.setIfInBounds_toArray, List.set_cons_zero, List.set_cons_succ]
        refine wpAnyH_take (i := 1) (oi := _) (v := ?_) rfl (by kernel_rfl) (by kernel_rfl) (by kernel_rfl) (fun _ _ _ h => h) (Or.inl ⟨by rfl, ?_⟩) (by assumption) ?_
        rotate_left
        · intro w hSw; (try dsimp only at hSw); go_simp; (try with_reducible rfl)
        try simp only [Act.put, List.setIfInBounds_toArray, List.set_cons_zero, List.set_cons_succ]
        refine wpAnyH_take (i := 2) (oi := _) (v := ?_) rfl (by kernel_rfl) (by kernel_rfl) (by kernel_rfl) (fun _ _ _ h => h) (Or.inl ⟨by rfl, ?_⟩) (by assumption) ?_
        rotate_left
        · intro w hSw; (try dsimp only at hSw); go_simp; (try with_reducible rfl)
        try simp only [Act.put, List.setIfInBounds_toArray, List.set_cons_zero, List.set_cons_succ]
        refine wpAnyH_take (i := 3) (oi := _) (v := ?_) rfl (by kernel_rfl) (by kernel_rfl) (by kernel_rfl) (fun _ _ _ h => h) (Or.inl ⟨by rfl, ?_⟩) (by assumption) ?_
        rotate_left
        · intro w hSw; (try dsimp only at hSw); go_simp; (try with_reducible rfl)
        try simp only [Act.put, List.setIfInBounds_toArray, List.set_cons_zero, List.set_cons_succ]
        refine wpAnyH_take (i := 4) (oi := _) (v := ?_) rfl (by kernel_rfl) (by kernel_rfl) (by kernel_rfl) (fun _ _ _ h => h) (Or.inl ⟨by rfl, ?_⟩) (by assumption) ?_
        rotate_left
        · intro w hSw; (try dsimp only at hSw); go_simp; (try with_reducible rfl)
        try simp only [Act.put, List.setIfInBounds_toArray, List.set_cons_zero, List.set_cons_succ]
        refine wpAnyH_take (i := 5) (oi := _) (v := ?_) rfl (by kernel_rfl) (by kernel_rfl) (by kernel_rfl) (fun _ _ _ h => h) (Or.inl ⟨by rfl, ?_⟩) (by assumption) ?_
        rotate_left
        · intro w hSw; (try dsimp only at hSw); go_simp; (try with_reducible rfl)
        try simp only [Act.put, List.setIfInBounds_toArray, List.set_cons_zero, List.set_cons_succ]
        refine wpAnyH_take (i := 6) (oi := _) (v := ?_) rfl (by kernel_rfl) (by kernel_rfl) (by kernel_rfl) (fun _ _ _ h => h) (Or.inl ⟨by rfl, ?_⟩) (by assumption) ?_
        rotate_left
        · intro w hSw; (try dsimp only at hSw); go_simp; (try with_reducible rfl)
        try simp only [Act.put, List.setIfInBounds_toArray, List.set_cons_zero, List.set_cons_succ]
        refine wpAnyH_take (i := 7) (oi := _) (v := ?_) rfl (by kernel_rfl) (by kernel_rfl) (by kernel_rfl) (fun _ _ _ h => h) (Or.inl ⟨by rfl, ?_⟩) (by assumption) ?_
        rotate_left
        · intro w hSw; (try dsimp only at hSw); go_simp; (try with_reducible rfl)
        try simp only [Act.put, List.setIfInBounds_toArray, List.set_cons_zero, List.set_cons_succ]
        refine wpAnyH_take (i := 8) (oi := _) (v := ?_) rfl (by kernel_rfl) (by kernel_rfl) (by kernel_rfl) (fun _ _ _ h => h) (Or.inl ⟨by rfl, ?_⟩) (by assumption) ?_
        rotate_left
        · intro w hSw; (try dsimp only at hSw); go_simp; (try with_reducible rfl)
        try simp only [Act.put, List.setIfInBounds_toArray, List.set_cons_zero, List.set_cons_succ]
        refine wpAnyH_take (i := 9) (oi := _) (v := ?_) rfl (by kernel_rfl) (by kernel_rfl) (by kernel_rfl) (fun _ _ _ h => h) (Or.inl ⟨by rfl, ?_⟩) (by assumption) ?_
        rotate_left
        · intro w hSw; (try dsimp only at hSw); go_simp; (try with_reducible rfl)
        try simp only [Act.put, List.setIfInBounds_toArray, List.set_cons_zero, List.set_cons_succ]
        refine wpAnyH_take (i := 10) (oi := _) (v := ?_) rfl (by kernel_rfl) (by kernel_rfl) (by kernel_rfl) (fun _ _ _ h => h) (Or.inl ⟨by rfl, ?_⟩) (by assumption) ?_
        rotate_left
        · intro w hSw; (try dsimp only at hSw); go_simp; (try with_reducible rfl)
        try simp only [Act.put, List.setIfInBounds_toArray, List.set_cons_zero, List.set_cons_succ]
        refine wpAnyH_take (i := 11) (oi := _) (v := ?_) rfl (by kernel_rfl) (by kernel_rfl) (by kernel_rfl) (fun _ _ _ h => h) (Or.inl ⟨by rfl, ?_⟩) (by assumption) ?_
        rotate_left
        · intro w hSw; (try dsimp only at hSw); go_simp; (try with_reducible rfl)
        try simp only [Act.put, List.setIfInBounds_toArray, List.set_cons_zero, List.set_cons_succ]
        refine wpAnyH_take (i := 12) (oi := _) (v := ?_) rfl (by kernel_rfl) (by kernel_rfl) (by kernel_rfl) (fun _ _ _ h => h) (Or.inl ⟨by rfl, ?_⟩) (by assumption) ?_
        rotate_left
        · intro w hSw; (try dsimp only at hSw); go_simp; (try with_reducible rfl)
        try simp only [Act.put, List.setIfInBounds_toArray, List.set_cons_zero, List.set_cons_succ]
        refine wpAnyH_take (i := 14) (oi := _) (v := ?_) rfl (by kernel_rfl) (by kernel_rfl) (by kernel_rfl) (fun _ _ _ h => h) (Or.inl ⟨by rfl, ?_⟩) (by assumption) ?_
        rotate_left
        · intro w hSw; (try dsimp only at hSw); go_simp; (try with_reducible rfl)
        try simp only [Act.put, List.setIfInBounds_toArray, List.set_cons_zero, List.set_cons_succ]
        refine wpAnyH_take (i := 15) (oi := _) (v := ?_) rfl (by kernel_rfl) (by kernel_rfl) (by kernel_rfl) (fun _ _ _ h => h) (Or.inl ⟨by rfl, ?_⟩) (by assumption) ?_
        rotate_left
        · intro w hSw; (try dsimp only at hSw); go_simp; (try with_reducible rfl)
        try simp only [Act.put, List.setIfInBounds_toArray, List.set_cons_zero, List.set_cons_succ]
        refine wpAnyH_take (i := 16) (oi := _) (v := ?_) rfl (by kernel_rfl) (by kernel_rfl) (by kernel_rfl) (fun _ _ _ h => h) (Or.inl ⟨by rfl, ?_⟩) (by assumption) ?_
        rotate_left
        · intro w hSw; (try dsimp only at hSw); go_simp; (try with_reducible rfl)
        try simp only [Act.put, List.setIfInBounds_toArray, List.set_cons_zero, List.set_cons_succ]
        refine wpAnyH_take (i := 17) (oi := _) (v := ?_) rfl (by kernel_rfl) (by kernel_rfl) (by kernel_rfl) (fun _ _ _ h => h) (Or.inl ⟨by rfl, ?_⟩) (by assumption) ?_
        rotate_left
        · intro w hSw; (try dsimp only at hSw); go_simp; (try with_reducible rfl)
        try simp only [Act.put, List.setIfInBounds_toArray, List.set_cons_zero, List.set_cons_succ]
        refine wpAnyH_ready (rs := [13]) (by kernel_rfl) (by simp) ?_
        refine AllReadyH.cons (o := _) rfl (fun K hK => ?_) AllReadyH.nil
        go_simp
        refine hK.out _ _ (by (try dsimp only); first | with_reducible exact hS | with_reducible assumption | with_reducible exact FatesL.store (k := ⟨kind, rn, nn⟩) _ _ _ _ _ _ _ _ _ _ (by assumption) | with_reducible exact FatesL.go (k := ⟨kind, rn, nn⟩) (by assumption) (by assumption)) (fun hHeld => ?_)
        clear hK K
        try simp only [Act.put, List.setIfInBounds_toArray, List.set_cons_zero, List.set_cons_succ]
        refine wpAnyH_ready (rs := [18]) (by kernel_rfl) (by simp) ?_
        refine AllReadyH.cons (o := _) rfl (fun K hK => ?_) AllReadyH.nil
        go_simp
        (go_at_call 30; refine (Hcall.out _).mono ?_; rintro e w5 ⟨rfl, hb5⟩; have hfin5 := hrd.go hb5; obtain ⟨⟨p0, p1, p2, p3, p4⟩, q0, q1, q2, q3, q4⟩ := hfin5.cells hf); go_wp2_with fail
        refine hK.out _ _ (by (try dsimp only); first | with_reducible exact hS | with_reducible assumption | with_reducible exact FatesL.store (k := ⟨kind, rn, nn⟩) _ _ _ _ _ _ _ _ _ _ (by assumption) | with_reducible exact FatesL.go (k := ⟨kind, rn, nn⟩) (by assumption) (by assumption)) (fun hHeld => ?_)
        clear hK K
        try simp only [Act.put, List.setIfInBounds_toArray, List.set_cons_zero, List.set_cons_succ]
        refine wpAnyH_take (i := 19) (oi := _) (v := ?_) rfl (by kernel_rfl) (by kernel_rfl) (by kernel_rfl) (fun _ _ _ h => h) (Or.inl ⟨by rfl, ?_⟩) (by assumption) ?_
        rotate_left
        · intro w hSw; (try dsimp only at hSw); go_simp; (try with_reducible rfl)
        try simp only [Act.put, List.setIfInBounds_toArray, List.set_cons_zero, List.set_cons_succ]
        refine wpAnyH_ready (rs := [20]) (by kernel_rfl) (by simp) ?_
        refine AllReadyH.cons (o := _) rfl (fun K hK => ?_) AllReadyH.nil
        go_simp
        refine hK.out _ _ (by (try dsimp only); first | with_reducible exact hS | with_reducible assumption | with_reducible exact FatesL.store (k := ⟨kind, rn, nn⟩) _ _ _ _ _ _ _ _ _ _ (by assumption) | with_reducible exact FatesL.go (k := ⟨kind, rn, nn⟩) (by assumption) (by assumption)) (fun hHeld => ?_)
        clear hK K
        try simp only [Act.put, List.setIfInBounds_toArray, List.set_cons_zero, List.set_cons_succ]
        refine wpAnyH_done (by kernel_rfl) ?_ _
        refine NoPanic.normal ?_
        have hfin := hfin5.store hrf ⟨s0, s1, s2, s3, s4⟩
        go_wp2
        go_roundw
        case rel => exact ⟨j + 1, by omega, by simp, by rw [Hfs.out]; exact hfin.own, hfin.bel⟩
        case measure => simp [intOf] <;> omega
      · rw [modify_out (r := ((rn : Int)).toNat) (by simp; omega)] at Hfs
        go_wp2
        go_roundw
        case rel => exact ⟨j + 1, by omega, by simp, by rw [Hfs.out]; exact hrest.own, hrest.bel⟩
        case measure => simp [intOf] <;> omega
    · have hje : j = ks.length := by omega
      subst hje
      rw [List.take_of_length_le (Nat.le_refl _)] at hown
      have hfl := fatesD_length m ks
      go_wp2
      go_ret
      refine ⟨w.heap.size, m, ?_, by rw [hfl]; exact hown, hbw⟩
      rw [hfl]; rfl
end Go.Proofs.YtjddicoigbidlaaGreatDoor
