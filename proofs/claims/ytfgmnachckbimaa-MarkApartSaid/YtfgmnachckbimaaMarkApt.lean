/-
  The walk of the law MarkApart.
-/
import Derived.Test.YtfgmnachckbimaaMarkFat
import Derived.Deep.RegionHeld3
set_option linter.unusedSimpArgs false
set_option linter.unusedVariables false
namespace Go.Proofs.Ytfgmnachckbimaa
open Go.RowKit
/-- Two fates' cells. -/
abbrev TwoF (w0 : World) (g1 g2 o : Nat) (x0 x1 x2 x3 : Int) (x4 : Bool) (w' : World) : Prop :=
  w'.cell? ⟨g1, o, none⟩ = some (.int .i64 x0) ∧ w'.cell? ⟨g1, o + 1, none⟩ = some (.int .i64 x1) ∧ w'.cell? ⟨g1, o + 2, none⟩ = some (.int .i64 x2) ∧ w'.cell? ⟨g1, o + 3, none⟩ = some (.int .i64 x3) ∧ w'.cell? ⟨g1, o + 4, none⟩ = some (.bool x4) ∧
  w'.cell? ⟨g2, o, none⟩ = some (.int .i64 x0) ∧ w'.cell? ⟨g2, o + 1, none⟩ = some (.int .i64 x1) ∧ w'.cell? ⟨g2, o + 2, none⟩ = some (.int .i64 x2) ∧ w'.cell? ⟨g2, o + 3, none⟩ = some (.int .i64 x3) ∧ w'.cell? ⟨g2, o + 4, none⟩ = some (.bool x4) ∧ Hid (Below w0.heap.size w0 w')
theorem TwoF.go {w0 : World} {g1 g2 o : Nat} {x0 x1 x2 x3 : Int} {x4 : Bool} {w w' : World} (hb : Below w.heap.size w w') (h : TwoF w0 g1 g2 o x0 x1 x2 x3 x4 w) : TwoF w0 g1 g2 o x0 x1 x2 x3 x4 w' := by
  obtain ⟨h1, h2, h3, h4, h5, k1, k2, k3, k4, k5, hB⟩ := h
  have l1 := World.block_lt_of_cell? w ⟨g1, o, none⟩ h1
  have l2 := World.block_lt_of_cell? w ⟨g2, o, none⟩ k1
  obtain ⟨c, f⟩ := below_cell hb
  exact ⟨(c _ _ l1).trans h1, (c _ _ l1).trans h2, (c _ _ l1).trans h3, (c _ _ l1).trans h4, (c _ _ l1).trans h5, (c _ _ l2).trans k1, (c _ _ l2).trans k2, (c _ _ l2).trans k3, (c _ _ l2).trans k4, (c _ _ l2).trans k5, Lib.hid (hB.out.trans (hb.mono hB.out.size))⟩
theorem apart_get (ks : List MarkD) (r : Nat) (hr : r < 8) : (fatesD 8 (ks.filter fun k => decide (k.rcpt = (r : Int))))[r]? = (fatesD 8 ks)[r]? := by
  rw [fatesD_get _ _ _ hr, fatesD_get _ _ _ hr, mineOf_own]
set_option maxRecDepth 100000 in
set_option maxHeartbeats 8000000 in
theorem markApart_walk (v : Value) (ks : List MarkD) (n : Nat) (w : World) (hv : RdM w v ks) (hn : n ≤ 255) :
    Calls Try.prog 12 #[v, .int .u8 n] w fun e w' => e = .returned (.bool true) ∧ Below w.heap.size w w' := by
  obtain ⟨i0, hi, hz0, hz1, hz2⟩ := info_parts infoMark
  obtain ⟨a, cap, rfl, hlc, hcap⟩ := hv.form
  obtain ⟨r, hrem⟩ : ∃ r : Nat, n % 8 = r := ⟨_, rfl⟩
  have hr8 : r < 8 := by omega
  have hrem1 : Int.tmod (n : Int) 8 = (r : Int) := by rw [Int.tmod_eq_emod_of_nonneg (by omega)]; omega
  have Hrem := Lib.hid hrem
  clear hrem
  by_cases hbig : (200 : Int) < (ks.length : Int)
  · go_enter Try.func12, Try.ntmps12
    go_wp2_with fail
    refine (markAns_calls _).mono ?_; rintro e w2 ⟨rfl, hb2⟩
    go_wp2
    go_ret
    exact ⟨rfl, hb2⟩
  · have hbig' : ks.length ≤ 200 := by omega
    go_enter Try.func12, Try.ntmps12
    go_wp2
    go_loopw [6, 7] (fun g i wr => ∃ j : Nat, j ≤ ks.length ∧ i = .int .i64 j ∧ wr.ownsRow w.heap.size 36 3 g ((ks.take j).filter fun k => decide (k.rcpt = (r : Int))).length (((ks.take j).filter fun k => decide (k.rcpt = (r : Int))).flatMap MarkD.cells) ∧ Below w.heap.size w wr) (fun _ i _ => ks.length - (intOf i).toNat)
    case atStart =>
      exact ⟨0, Nat.zero_le _, rfl, by simpa using nil_row w w.heap.size 3 36, Below.refl _ _⟩
    case round =>
      obtain ⟨j, hj, rfl, hown, hbw⟩ := hrel
      by_cases hlt : j < ks.length
      · obtain ⟨k, hk⟩ : ∃ k, ks[j]? = some k := ⟨_, List.getElem?_eq_getElem hlt⟩
        obtain ⟨b, off, cap', hsl, hbl, y0, y1, y2⟩ := RdL.at3 (hv.below (Nat.le_refl _) hbw) hk
        cases hsl
        have hfs := filter_snoc (fun k : MarkD => decide (k.rcpt = (r : Int))) hk
        have hgl : ((ks.take j).filter fun k : MarkD => decide (k.rcpt = (r : Int))).length ≤ 200 := Nat.le_trans (List.length_filter_le ..) (by simp; omega)
        generalize ((ks.take j).filter fun k : MarkD => decide (k.rcpt = (r : Int))) = gs at hfs hgl hown
        obtain ⟨kind, rcpt, nn⟩ := k
        simp only at y0 y1 y2
        have hj0 : (0 : Int) ≤ (j : Int) := by omega
        have hj1 : (j : Int) < (ks.length : Int) := by omega
        by_cases hok : rcpt = (r : Int)
        · simp only [hok, decide_true, if_true] at hfs
          have Hfs := Lib.hid hfs
          subst hok
          have hcs1 : ∀ u ∈ MarkD.cells ⟨kind, r, nn⟩, u.oneCell' = true := by intro u hu; exact cells_one [⟨kind, r, nn⟩] u (by simpa using hu)
          have hncell := news_new wr (MarkD.cells ⟨kind, r, nn⟩) 36 (0, 0)
          have Hncell := Lib.hid hncell
          have Hcs1 := Lib.hid hcs1
          have hbd1 : gs.length + 1 ≤ maxLen := by show gs.length + 1 ≤ 9223372036854775807; omega
          have hbd2 : (gs.length + 1) * 24 ≤ 140737488355328 := by omega
          have hbd3 : w.heap.size ≤ (wr.alloc (.cells #[.int .i64 kind, .int .i64 r, .int .i64 nn] 36)).heap.size := by have := hbw.size; simp; omega
          clear hncell hcs1 hfs
          go_wp2_with (at_builtin; go_must (refine wpList_append_own _ rfl _ _ 41 rfl w.heap.size 36 i0 _ 3 24 Try.underlying41 hi hz0 hz1 hz2 rfl (by decide) _ _ _ rfl (hown.alloc _) ⟨wr.heap.size, 0, none⟩ 1 1 (MarkD.cells ⟨kind, r, nn⟩) rfl rfl Hncell.out Hcs1.out hbd1 hbd2 hbd3 ?_); rintro v' w3 hown3 hg3 _)
          go_roundw
          case rel =>
            refine ⟨j + 1, by omega, by simp, by rw [Hfs.out]; simpa using hown3, ?_⟩
            exact Below.grown (hbw.alloc hbw.size _) hg3 (by have := hbw.size; simp; omega) (fun k hk => own_base hown k hk)
          case measure => simp [intOf] <;> omega
        · simp only [hok, decide_false, if_false, List.append_nil, Bool.false_eq_true] at hfs
          have Hfs := Lib.hid hfs
          clear hfs
          go_wp2
          go_roundw
          case rel => exact ⟨j + 1, by omega, by simp, by rw [Hfs.out]; exact hown, hbw⟩
          case measure => simp [intOf] <;> omega
      · have hje : j = ks.length := by omega
        subst hje
        rw [List.take_of_length_le (Nat.le_refl _)] at hown
        have hgr : RdM wr u6 (ks.filter fun k : MarkD => decide (k.rcpt = (r : Int))) := rdL_ofOwn mark_len (by decide) hown
        have hvr := hv.below (Nat.le_refl _) hbw
        have hget := apart_get ks r hr8
        have hf1 := fun W (h : RdM W (.slice a ks.length cap) ks) => fates_calls 8 (.slice a ks.length cap) ks W h
        have hf2 := fun W (h : RdM W u6 (ks.filter fun k : MarkD => decide (k.rcpt = (r : Int)))) => fates_calls 8 u6 _ W h
        have hl1 := fatesD_length 8 ks
        have hl2 := fatesD_length 8 (ks.filter fun k : MarkD => decide (k.rcpt = (r : Int)))
        rw [show nFates 8 = 8 from rfl] at hf1 hf2
        generalize (ks.filter fun k : MarkD => decide (k.rcpt = (r : Int))) = gs at hown hgr hget hf2 hl2
        generalize fatesD 8 ks = fs1 at hf1 hget hl1
        generalize fatesD 8 gs = fs2 at hf2 hget hl2
        obtain ⟨f, hf⟩ : ∃ f, fs1[r]? = some f := ⟨_, List.getElem?_eq_getElem (by omega)⟩
        rw [hf] at hget
        have Hf1 := Lib.hid hf1
        have Hf2 := Lib.hid hf2
        clear hf1 hf2 hown
        go_wp2_with fail
        refine (Hf1.out _ hvr).mono ?_; rintro e w4 ⟨g4, cap4, rfl, hown4, hb4⟩; rw [hl1]
        go_wp2_with fail
        refine (Hf2.out _ (hgr.below (Nat.le_refl _) hb4)).mono ?_; rintro e w5 ⟨g5, cap5, rfl, hown5, hb5⟩; rw [hl2]
        obtain ⟨b1, o1, c1, e1, _, p0, p1, p2, p3, p4⟩ := RdL.at5 ((rdL_ofOwn fate_len (by decide) hown4).below (Nat.le_refl _) hb5) hf
        obtain ⟨b2, o2, c2, e2, _, q0, q1, q2, q3, q4⟩ := RdL.at5 (rdL_ofOwn fate_len (by decide) hown5) hget
        cases e1; cases e2
        obtain ⟨x0, x1, x2, x3, x4⟩ := f
        simp only [Nat.zero_add] at p0 p1 p2 p3 p4 q0 q1 q2 q3 q4
        have hi0 : (0 : Int) ≤ (r : Int) := by omega
        have hi1 : (r : Int) < 8 := by omega
        have hS : TwoF w g4 g5 (r * 5) x0 x1 x2 x3 x4 w5.drew := TwoF.go (Below.refl _ _).drew ⟨p0, p1, p2, p3, p4, q0, q1, q2, q3, q4, Lib.hid ((hbw.trans (hb4.mono hbw.size)).trans (hb5.mono (Nat.le_trans hbw.size hb4.size)))⟩
        clear hb4 hb5 hown4 hown5 hbw hgr hvr hv p0 p1 p2 p3 p4 q0 q1 q2 q3 q4
        go_wp2
        go_region_held3 (fun w' => w'.cell? ⟨g4, r * 5, none⟩ = some (.int .i64 x0) ∧ w'.cell? ⟨g4, r * 5 + 1, none⟩ = some (.int .i64 x1) ∧ w'.cell? ⟨g4, r * 5 + 2, none⟩ = some (.int .i64 x2) ∧ w'.cell? ⟨g4, r * 5 + 3, none⟩ = some (.int .i64 x3) ∧ w'.cell? ⟨g4, r * 5 + 4, none⟩ = some (.bool x4) ∧
  w'.cell? ⟨g5, r * 5, none⟩ = some (.int .i64 x0) ∧ w'.cell? ⟨g5, r * 5 + 1, none⟩ = some (.int .i64 x1) ∧ w'.cell? ⟨g5, r * 5 + 2, none⟩ = some (.int .i64 x2) ∧ w'.cell? ⟨g5, r * 5 + 3, none⟩ = some (.int .i64 x3) ∧ w'.cell? ⟨g5, r * 5 + 4, none⟩ = some (.bool x4) ∧ Hid (Below w.heap.size w w'))
          (first | with_reducible exact hS | with_reducible assumption | with_reducible exact TwoF.go (by assumption) (by assumption))
          (first
            | (go_at_call 19; refine (markAns_calls _).mono ?_; rintro e w6 ⟨rfl, hb6⟩))
        have hfin := (by assumption : TwoF w g4 g5 (r * 5) x0 x1 x2 x3 x4 w6)
        obtain ⟨_, _, _, _, _, _, _, _, _, _, hB⟩ := hfin
        go_wp2
        go_ret
        exact ⟨rfl, hB.out⟩
theorem markApart_all (v : Value) (ks : List MarkD) (n : Int) (w : World) (hv : RdM w v ks) (hn : (Lit.int .u8 n).wf = true) :
    Calls Try.prog 12 #[v, .int .u8 n] w fun e w' => e = .returned (.bool true) ∧ Below w.heap.size w w' := by
  obtain ⟨l, u⟩ := bounds_u8 hn
  obtain ⟨m, rfl⟩ := Int.eq_ofNat_of_zero_le l
  exact markApart_walk v ks m w hv (by omega)
end Go.Proofs.Ytfgmnachckbimaa
