/-
  The walk of mark.Fates.
-/
import Derived.Test.YtjddicoigbidlaaGreatDoorQ2
set_option linter.unusedSimpArgs false
set_option linter.unusedVariables false
namespace Go.Proofs.YtjddicoigbidlaaGreatDoor
open Go.RowKit
theorem infoFate : (Tryz.prog.info? 57).map (fun i => (i.zero, i.size, i.bytes)) = some (some (.agg #[.int .i64 0, .int .i64 0, .int .i64 0, .int .i64 0, .bool false]), 5, 40) := by kernel_rfl
/-- How many fates Fates makes. -/
def nFates (n : Int) : Nat := (min (max n 0) 8).toNat
/-- Fates, in a row of the call's own. -/
def FatesDone (w : World) (fs : List FateD) (e : Ending) (w' : World) : Prop :=
  ∃ g cap, e = .returned (.slice (some ⟨g, 0, none⟩) fs.length cap) ∧ w'.ownsRow w.heap.size 57 5 (.slice (some ⟨g, 0, none⟩) fs.length cap) fs.length (fs.flatMap FateD.cells) ∧ Below w.heap.size w w'
/-- What stays while a step is carried out. -/
structure FRest (w0 : World) (m : Nat) (fs : List FateD) (w : World) : Prop where
  bel : Below w0.heap.size w0 w
  own : w.ownsRow w0.heap.size 57 5 (.slice (some ⟨w0.heap.size, 0, none⟩) m m) m (fs.flatMap FateD.cells)
theorem FRest.go {w0 : World} {m : Nat} {fs : List FateD} {w w' : World} (hb : Below w.heap.size w w') (h : FRest w0 m fs w) : FRest w0 m fs w' :=
  ⟨h.bel.trans (hb.mono h.bel.size), own_below h.own hb (Nat.le_refl _)⟩
/-- The loop's variable, in block kb. -/
abbrev FatesK (g kb : Nat) (k : MarkD) (w : World) : Prop :=
  w.cell? ⟨kb, 0, none⟩ = some (.int .i64 k.kind) ∧ w.cell? ⟨kb, 1, none⟩ = some (.int .i64 k.rcpt) ∧ w.cell? ⟨kb, 2, none⟩ = some (.int .i64 k.n) ∧ g ≠ kb
theorem FatesK.go {g kb : Nat} {k : MarkD} {w w' : World} (hb : Below w.heap.size w w') (h : FatesK g kb k w) : FatesK g kb k w' := by
  obtain ⟨h1, h2, h3, h4⟩ := h
  have lm := World.block_lt_of_cell? w ⟨kb, 0, none⟩ h1
  obtain ⟨c, f⟩ := below_cell hb
  exact ⟨(c _ _ lm).trans h1, (c _ _ lm).trans h2, (c _ _ lm).trans h3, h4⟩
theorem FatesK.store {g kb : Nat} {k : MarkD} {w : World} (a b c d e : Nat) (x0 x1 x2 x3 x4 : Value) (h : FatesK g kb k w) :
    FatesK g kb k (((((w.setCell ⟨g, a, none⟩ x0).setCell ⟨g, b, none⟩ x1).setCell ⟨g, c, none⟩ x2).setCell ⟨g, d, none⟩ x3).setCell ⟨g, e, none⟩ x4) := by
  obtain ⟨h1, h2, h3, h4⟩ := h
  have hK : Keeps (fun k => k = g) w (((((w.setCell ⟨g, a, none⟩ x0).setCell ⟨g, b, none⟩ x1).setCell ⟨g, c, none⟩ x2).setCell ⟨g, d, none⟩ x3).setCell ⟨g, e, none⟩ x4) :=
    ((((Keeps.setCell (F := fun k => k = g) w ⟨g, a, none⟩ x0 rfl).trans (Keeps.setCell _ ⟨g, b, none⟩ x1 rfl)).trans (Keeps.setCell _ ⟨g, c, none⟩ x2 rfl)).trans (Keeps.setCell _ ⟨g, d, none⟩ x3 rfl)).trans (Keeps.setCell _ ⟨g, e, none⟩ x4 rfl)
  have hne : ¬ (kb = g) := fun e => h4 e.symm
  exact ⟨hK.cell hne h1, hK.cell hne h2, hK.cell hne h3, h4⟩
theorem FRest.cells {w0 : World} {m : Nat} {fs : List FateD} {r : Nat} {f : FateD} {w : World} (h : FRest w0 m fs w) (hf : fs[r]? = some f) :
    (w.cell? ⟨w0.heap.size, r * 5, none⟩ = some (.int .i64 f.state) ∧ w.cell? ⟨w0.heap.size, r * 5 + 1, none⟩ = some (.int .i64 f.tries) ∧ w.cell? ⟨w0.heap.size, r * 5 + 2, none⟩ = some (.int .i64 f.next) ∧ w.cell? ⟨w0.heap.size, r * 5 + 3, none⟩ = some (.int .i64 f.crashes) ∧ w.cell? ⟨w0.heap.size, r * 5 + 4, none⟩ = some (.bool f.opened)) ∧
    w.frozen? ⟨w0.heap.size, r * 5, none⟩ = false ∧ w.frozen? ⟨w0.heap.size, r * 5 + 1, none⟩ = false ∧ w.frozen? ⟨w0.heap.size, r * 5 + 2, none⟩ = false ∧ w.frozen? ⟨w0.heap.size, r * 5 + 3, none⟩ = false ∧ w.frozen? ⟨w0.heap.size, r * 5 + 4, none⟩ = false := by
  obtain ⟨h1, h2, h3, h4, h5, h6⟩ := own_at5 h.own hf
  exact ⟨⟨h1, h2, h3, h4, h5⟩, h6 _, h6 _, h6 _, h6 _, h6 _⟩
/-- Behind the store of a stepped fate. -/
theorem FRest.store {w0 : World} {m : Nat} {fs : List FateD} {r : Nat} {w : World} (h : FRest w0 m fs w) (hr : r < fs.length) (g : FateD) :
    FRest w0 m (fs.set r g) (((((w.setCell ⟨w0.heap.size, r * 5, none⟩ (.int .i64 g.state)).setCell ⟨w0.heap.size, r * 5 + 1, none⟩ (.int .i64 g.tries)).setCell ⟨w0.heap.size, r * 5 + 2, none⟩ (.int .i64 g.next)).setCell ⟨w0.heap.size, r * 5 + 3, none⟩ (.int .i64 g.crashes)).setCell ⟨w0.heap.size, r * 5 + 4, none⟩ (.bool g.opened)) := by
  refine ⟨((((h.bel.setCell (by exact Nat.le_refl _) _).setCell (by exact Nat.le_refl _) _).setCell (by exact Nat.le_refl _) _).setCell (by exact Nat.le_refl _) _).setCell (by exact Nat.le_refl _) _, ?_⟩
  rw [← fates_set fs r g hr]
  exact (((((h.own.stored _ _).1.stored _ _).1.stored _ _).1.stored _ _).1.stored _ _).1
theorem modify_in {fs : List FateD} {r : Nat} {f : FateD} (hf : fs[r]? = some f) (g : FateD → FateD) : fs.modify r g = fs.set r (g f) := by
  apply List.ext_getElem?
  intro i
  rw [List.getElem?_modify, List.getElem?_set]
  by_cases h : r = i
  · subst h
    have := (List.getElem?_eq_some_iff.1 hf).1
    have e : fs[r] = f := by rw [List.getElem?_eq_getElem this] at hf; exact Option.some.inj hf
    simp [this, e]
  · simp [h]
theorem modify_out {fs : List FateD} {r : Nat} (hr : ¬ r < fs.length) (g : FateD → FateD) : fs.modify r g = fs := by
  apply List.ext_getElem?
  intro i
  rw [List.getElem?_modify]
  by_cases h : r = i
  · subst h; rw [List.getElem?_eq_none (by omega)]; simp
  · simp [h]
theorem zeros_flat (m : Nat) (hm : m ≤ 8) : (madeCells (Value.agg #[.int .i64 0, .int .i64 0, .int .i64 0, .int .i64 0, .bool false]).cells (m * 5)).toList = (List.replicate m FateD.zero).flatMap FateD.cells := by
  rcases (by omega : m = 0 ∨ m = 1 ∨ m = 2 ∨ m = 3 ∨ m = 4 ∨ m = 5 ∨ m = 6 ∨ m = 7 ∨ m = 8) with rfl | rfl | rfl | rfl | rfl | rfl | rfl | rfl | rfl <;> kernel_rfl
set_option maxRecDepth 100000 in
set_option maxHeartbeats 8000000 in
theorem fates_calls (n : Int) (v : Value) (ks : List MarkD) (w : World) (hv : RdM w v ks) :
    Calls Tryz.prog 63 #[.int .i64 n, v] w (FatesDone w (fatesD (nFates n) ks)) := by
  obtain ⟨i0, hi, hz0, hz1, hz2⟩ := info_parts infoFate
  obtain ⟨a, cap, rfl, hlc, hcap⟩ := hv.form
  obtain ⟨m, hm⟩ : ∃ m, nFates n = m := ⟨_, rfl⟩
  have hmn : min (max n 0) 8 = (m : Int) := by rw [← hm, nFates]; omega
  have hm8 : m ≤ 8 := by rw [← hm, nFates]; omega
  rw [hm]
  obtain ⟨w1, hrun, hown1, hg1⟩ := run_make_full (P := Tryz.prog) w w.heap.size 54 57 i0 _ 5 Tryz.underlying54 hi hz0 hz1 .i64 .i64 m (by rw [hz2]; omega) (by unfold maxLen; omega) (Nat.le_refl _)
  rw [zeros_flat m hm8] at hown1
  have hb1 : Below w.heap.size w w1 := (Below.refl _ _).grown hg1 (Nat.le_refl _) (fun _ h => by cases h)
  have h3 : (0 ≤ n ∧ n ≤ 8 ∧ (Instr.makeSlice 54 (.int .i64 n) (.int .i64 n)).run Tryz.prog w = .ok (.slice (some ⟨w.heap.size, 0, none⟩) m m) w1) ∨
      (8 < n ∧ (Instr.makeSlice 54 (.int .i64 8) (.int .i64 8)).run Tryz.prog w = .ok (.slice (some ⟨w.heap.size, 0, none⟩) m m) w1) ∨
      (n < 0 ∧ (Instr.makeSlice 54 (.int .i64 0) (.int .i64 0)).run Tryz.prog w = .ok (.slice (some ⟨w.heap.size, 0, none⟩) m m) w1) := by
    by_cases c1 : n < 0
    · refine .inr (.inr ⟨c1, ?_⟩); rw [show (m : Int) = 0 by omega] at hrun; exact hrun
    · by_cases c2 : 8 < n
      · refine .inr (.inl ⟨c2, ?_⟩); rw [show (m : Int) = 8 by omega] at hrun; exact hrun
      · refine .inl ⟨by omega, by omega, ?_⟩; rw [show (m : Int) = n by omega] at hrun; exact hrun
  clear hrun hmn hm
  rcases h3 with ⟨c1, c2, hrun⟩ | ⟨c2, hrun⟩ | ⟨c1, hrun⟩
  all_goals
    go_enter Tryz.func63, Tryz.ntmps63
    go_wp2
    go_loopw [14] (fun i wr => ∃ j : Nat, j ≤ ks.length ∧ i = .int .i64 j ∧ wr.ownsRow w.heap.size 57 5 (.slice (some ⟨w.heap.size, 0, none⟩) m m) m ((fatesD m (ks.take j)).flatMap FateD.cells) ∧ Below w.heap.size w wr) (fun i _ => ks.length - (intOf i).toNat)
    case atStart =>
      exact ⟨0, Nat.zero_le _, rfl, by simpa [fatesD] using hown1, hb1⟩
    case round =>
      obtain ⟨j, hj, rfl, hown, hbw⟩ := hrel
      by_cases hlt : j < ks.length
      · obtain ⟨k, hk⟩ : ∃ k, ks[j]? = some k := ⟨_, List.getElem?_eq_getElem hlt⟩
        obtain ⟨b, off, cap', hsl, hbl, hq0, hq1, hq2⟩ := RdL.at3 (hv.below (Nat.le_refl _) hbw) hk
        cases hsl
        obtain ⟨kind, rcpt, nn⟩ := k
        simp only at hq0 hq1 hq2
        go_wp2_with fail
        refine (markGood_calls ⟨kind, rcpt, nn⟩ _).mono ?_; rintro e w2 ⟨rfl, hb2⟩
        have hbW : Below wr.heap.size wr w2 := ((Below.refl _ _).alloc (Nat.le_refl _) _).trans (hb2.mono (by simp))
        have hM : w2.heap[wr.heap.size]? = some (.cells #[.int .i64 kind, .int .i64 rcpt, .int .i64 nn] 52 (0, 0)) := (hb2.block _ (by simp)).trans (heap_alloc_new wr _)
        have m0 : w2.cell? ⟨wr.heap.size, 0, none⟩ = some (.int .i64 kind) := by rw [cell_of_row _ _ _ _ _ _ hM]; rfl
        have m1 : w2.cell? ⟨wr.heap.size, 1, none⟩ = some (.int .i64 rcpt) := by rw [cell_of_row _ _ _ _ _ _ hM]; rfl
        have m2 : w2.cell? ⟨wr.heap.size, 2, none⟩ = some (.int .i64 nn) := by rw [cell_of_row _ _ _ _ _ _ hM]; rfl
        have hfs : fatesD m (ks.take (j + 1)) = putD (fatesD m (ks.take j)) ⟨kind, rcpt, nn⟩ := by rw [take_snoc hk, fatesD_snoc]
        have hfl := fatesD_length m (ks.take j)
        have hrest : FRest w m (fatesD m (ks.take j)) w2 := ⟨hbw.trans (hbW.mono hbw.size), own_below hown hbW (Nat.le_refl _)⟩
        generalize fatesD m (ks.take j) = fs at hfs hfl hrest hown
        have hbo : w.heap.size < wr.heap.size := (hown.lt _ rfl).2
        clear hM hq0 hq1 hq2 hown hb2
        by_cases hg : (MarkD.good ⟨kind, rcpt, nn⟩) = true
        · rw [hg]
          have hg' : 1 ≤ kind ∧ kind ≤ 5 ∧ 0 ≤ rcpt ∧ rcpt < 8 ∧ 0 ≤ nn ∧ nn ≤ 1099511627776 := of_decide_eq_true hg
          obtain ⟨rn, rfl⟩ := Int.eq_ofNat_of_zero_le hg'.2.2.1
          rw [putD, if_pos hg] at hfs
          have Hfs := Lib.hid hfs
          clear hfs hg hg'
          by_cases hrm : rn < m
          · obtain ⟨f, hf⟩ : ∃ f, fs[rn]? = some f := ⟨_, List.getElem?_eq_getElem (by omega)⟩
            have hrd : FRest w m fs w2.drew := hrest.go (Below.refl _ _).drew
            obtain ⟨⟨o0, o1, o2, o3, o4⟩, z0, z1, z2, z3, z4⟩ := hrd.cells hf
            have hS : FatesK w.heap.size wr.heap.size ⟨kind, rn, nn⟩ w2.drew := FatesK.go (Below.refl _ _).drew ⟨m0, m1, m2, by omega⟩
            rw [modify_in (r := ((rn : Int)).toNat) (by simpa using hf)] at Hfs
            have hi0 : (0 : Int) ≤ (rn : Int) := by omega
            have hi1 : (rn : Int) < (m : Int) := by omega
            have hrf : rn < fs.length := by omega
            obtain ⟨s0, s1, s2, s3, s4, hst⟩ : ∃ s0 s1 s2 s3 s4, stepD f ⟨kind, rn, nn⟩ = ⟨s0, s1, s2, s3, s4⟩ := ⟨_, _, _, _, _, rfl⟩
            have hcall : ∀ W, Calls Tryz.prog 81 #[f.val, .agg #[.int .i64 kind, .int .i64 rn, .int .i64 nn]] W fun e w' => e = .returned (.agg #[.int .i64 s0, .int .i64 s1, .int .i64 s2, .int .i64 s3, .bool s4]) ∧ Below W.heap.size W w' := by
              intro W; have := step_calls f ⟨kind, rn, nn⟩ W; rw [hst] at this; exact this
            rw [hst] at Hfs
            have Hcall := Lib.hid hcall
            clear hcall hst
            go_wp2
            refine wp_region_noPanic ?_
            refine wp_region_held_drew (S := (fun w' => w'.cell? ⟨wr.heap.size, 0, none⟩ = some (.int .i64 kind) ∧ w'.cell? ⟨wr.heap.size, 1, none⟩ = some (.int .i64 rn) ∧ w'.cell? ⟨wr.heap.size, 2, none⟩ = some (.int .i64 nn) ∧ w.heap.size ≠ wr.heap.size)) (by kernel_rfl) (by first | with_reducible exact hS | with_reducible assumption | with_reducible exact FatesK.store (k := ⟨kind, rn, nn⟩) _ _ _ _ _ _ _ _ _ _ (by assumption) | with_reducible exact FatesK.go (k := ⟨kind, rn, nn⟩) (by assumption) (by assumption)) (fun hHeld => ?_)
            refine wpAnyH_take (i := 0) (oi := _) (v := ?_) rfl (by kernel_rfl) (by kernel_rfl) (by kernel_rfl) (fun _ _ _ h => h) (Or.inl ⟨by rfl, ?_⟩) (by assumption) ?_
            rotate_left
            · intro w hSw; (try dsimp only at hSw); go_simp; (try with_reducible rfl)
            try simp only [Act.put, List.setIfInBounds_toArray, List.set_cons_zero, List.set_cons_succ]
            refine wpAnyH_take (i := 1) (oi := _) (v := ?_) rfl (by kernel_rfl) (by kernel_rfl) (by kernel_rfl) (fun _ _ _ h => h) (Or.inl ⟨by rfl, ?_⟩) (by assumption) ?_
            rotate_left
            · intro w hSw; (try dsimp only at hSw); go_simp; (try with_reducible rfl)
            try simp only [Act.put, List.setIfInBounds_toArray, List.set_cons_zero, List.set_cons_succ]
            refine wpAnyH_take (i := 2) (oi := _) (v := ?_) rfl (by kernel_rfl) (by kernel_rfl) (by kernel_rfl) (fun _ _ _ h => h) (Or.inl ⟨by rfl, ?_⟩) (by assumption) ?_
            rotate_left
            · intro w hSw; (try dsimp only at hSw); go_simp; (try with_reducible rfl)
            try simp only [Act.put, List.setIfInBounds_toArray, List.set_cons_zero, List.set_cons_succ]
            refine wpAnyH_take (i := 3) (oi := _) (v := ?_) rfl (by kernel_rfl) (by kernel_rfl) (by kernel_rfl) (fun _ _ _ h => h) (Or.inl ⟨by rfl, ?_⟩) (by assumption) ?_
            rotate_left
            · intro w hSw; (try dsimp only at hSw); go_simp; (try with_reducible rfl)
            try simp only [Act.put, List.setIfInBounds_toArray, List.set_cons_zero, List.set_cons_succ]
            refine wpAnyH_take (i := 4) (oi := _) (v := ?_) rfl (by kernel_rfl) (by kernel_rfl) (by kernel_rfl) (fun _ _ _ h => h) (Or.inl ⟨by rfl, ?_⟩) (by assumption) ?_
            rotate_left
            · intro w hSw; (try dsimp only at hSw); go_simp; (try with_reducible rfl)
            try simp only [Act.put, List.setIfInBounds_toArray, List.set_cons_zero, List.set_cons_succ]
            refine wpAnyH_take (i := 5) (oi := _) (v := ?_) rfl (by kernel_rfl) (by kernel_rfl) (by kernel_rfl) (fun _ _ _ h => h) (Or.inl ⟨by rfl, ?_⟩) (by assumption) ?_
            rotate_left
            · intro w hSw; (try dsimp only at hSw); go_simp; (try with_reducible rfl)
            try simp only [Act.put, List.setIfInBounds_toArray, List.set_cons_zero, List.set_cons_succ]
            refine wpAnyH_take (i := 6) (oi := _) (v := ?_) rfl (by kernel_rfl) (by kernel_rfl) (by kernel_rfl) (fun _ _ _ h => h) (Or.inl ⟨by rfl, ?_⟩) (by assumption) ?_
            rotate_left
            · intro w hSw; (try dsimp only at hSw); go_simp; (try with_reducible rfl)
            try simp only [Act.put, List.setIfInBounds_toArray, List.set_cons_zero, List.set_cons_succ]
            refine wpAnyH_take (i := 8) (oi := _) (v := ?_) rfl (by kernel_rfl) (by kernel_rfl) (by kernel_rfl) (fun _ _ _ h => h) (Or.inl ⟨by rfl, ?_⟩) (by assumption) ?_
            rotate_left
            · intro w hSw; (try dsimp only at hSw); go_simp; (try with_reducible rfl)
            try simp only [Act.put, List.setIfInBounds_toArray, List.set_cons_zero, List.set_cons_succ]
            refine wpAnyH_ready (rs := [7]) (by kernel_rfl) (by simp) ?_
            refine AllReadyH.cons (o := _) rfl (fun K hK => ?_) AllReadyH.nil
            go_simp
            refine hK.out _ _ (by (try dsimp only); first | with_reducible exact hS | with_reducible assumption | with_reducible exact FatesK.store (k := ⟨kind, rn, nn⟩) _ _ _ _ _ _ _ _ _ _ (by assumption) | with_reducible exact FatesK.go (k := ⟨kind, rn, nn⟩) (by assumption) (by assumption)) (fun hHeld => ?_)
            clear hK K
            try simp only [Act.put, List.setIfInBounds_toArray, List.set_cons_zero, List.set_cons_succ]
            refine wpAnyH_ready (rs := [9]) (by kernel_rfl) (by simp) ?_
            refine AllReadyH.cons (o := _) rfl (fun K hK => ?_) AllReadyH.nil
            go_simp
            (go_at_call 81; refine (Hcall.out _).mono ?_; rintro e w5 ⟨rfl, hb5⟩; have hfin5 := hrd.go hb5; obtain ⟨⟨p0, p1, p2, p3, p4⟩, q0, q1, q2, q3, q4⟩ := hfin5.cells hf); go_wp2_with fail
            refine hK.out _ _ (by (try dsimp only); first | with_reducible exact hS | with_reducible assumption | with_reducible exact FatesK.store (k := ⟨kind, rn, nn⟩) _ _ _ _ _ _ _ _ _ _ (by assumption) | with_reducible exact FatesK.go (k := ⟨kind, rn, nn⟩) (by assumption) (by assumption)) (fun hHeld => ?_)
            clear hK K
            try simp only [Act.put, List.setIfInBounds_toArray, List.set_cons_zero, List.set_cons_succ]
            refine wpAnyH_take (i := 10) (oi := _) (v := ?_) rfl (by kernel_rfl) (by kernel_rfl) (by kernel_rfl) (fun _ _ _ h => h) (Or.inl ⟨by rfl, ?_⟩) (by assumption) ?_
            rotate_left
            · intro w hSw; (try dsimp only at hSw); go_simp; (try with_reducible rfl)
            try simp only [Act.put, List.setIfInBounds_toArray, List.set_cons_zero, List.set_cons_succ]
            refine wpAnyH_ready (rs := [11]) (by kernel_rfl) (by simp) ?_
            refine AllReadyH.cons (o := _) rfl (fun K hK => ?_) AllReadyH.nil
            go_simp
            refine hK.out _ _ (by (try dsimp only); first | with_reducible exact hS | with_reducible assumption | with_reducible exact FatesK.store (k := ⟨kind, rn, nn⟩) _ _ _ _ _ _ _ _ _ _ (by assumption) | with_reducible exact FatesK.go (k := ⟨kind, rn, nn⟩) (by assumption) (by assumption)) (fun hHeld => ?_)
            clear hK K
            try simp only [Act.put, List.setIfInBounds_toArray, List.set_cons_zero, List.set_cons_succ]
            refine wpAnyH_done (by kernel_rfl) ?_ _
            refine NoPanic.normal ?_
            have hfin := hfin5.store hrf ⟨s0, s1, s2, s3, s4⟩
            go_wp2
            go_roundw
            case rel => exact ⟨j + 1, by omega, by simp, by rw [Hfs.out]; exact hfin.own, hfin.bel⟩
            case measure => simp [intOf] <;> omega
          · rw [modify_out (r := ((rn : Int)).toNat) (by simp; omega)] at Hfs
            go_wp2
            go_roundw
            case rel => exact ⟨j + 1, by omega, by simp, by rw [Hfs.out]; exact hrest.own, hrest.bel⟩
            case measure => simp [intOf] <;> omega
        · rw [show (MarkD.good ⟨kind, rcpt, nn⟩) = false by simpa using hg]
          rw [putD, if_neg hg] at hfs
          have Hfs := Lib.hid hfs
          clear hfs hg
          go_wp2
          go_roundw
          case rel => exact ⟨j + 1, by omega, by simp, by rw [Hfs.out]; exact hrest.own, hrest.bel⟩
          case measure => simp [intOf] <;> omega
      · have hje : j = ks.length := by omega
        subst hje
        rw [List.take_of_length_le (Nat.le_refl _)] at hown
        have hfl := fatesD_length m ks
        go_wp2
        go_ret
        refine ⟨w.heap.size, m, ?_, by rw [hfl]; exact hown, hbw⟩
        rw [hfl]; rfl
end Go.Proofs.YtjddicoigbidlaaGreatDoor
