/-
  The walk of the law MarkLast.
-/
import Derived.Test.YtfgmnachckbimaaMarkFat
import Derived.Test.YtfgmnachckbimaaAppend
import Derived.Laws.OwnMore
import Derived.Deep.QuietTactic
import Derived.BigQuiet
set_option linter.unusedSimpArgs false
set_option linter.unusedVariables false
namespace Go.Proofs.Ytfgmnachckbimaa
open Go.RowKit
set_option maxRecDepth 100000 in
set_option maxHeartbeats 8000000 in
theorem markLast_walk (v1 v2 : Value) (ks ms : List MarkD) (w : World) (hv1 : RdM w v1 ks) (hv2 : RdM w v2 ms) (hn1 : NilOk v1) (hn2 : NilOk v2) (hl1 : ks.length ≤ 140737488351232) (hl2 : ms.length ≤ 140737488351232) :
    Calls Try.prog 11 #[v1, v2] w fun e w' => e = .returned (.bool true) ∧ Below w.heap.size w w' := by
  obtain ⟨i0, hi, hz0, hz1, hz2⟩ := info_parts infoMark
  obtain ⟨a1, cap1, rfl, hlc1, hcap1⟩ := hv1.form
  obtain ⟨a2, cap2, rfl, hlc2, hcap2⟩ := hv2.form
  have hl1' : (ks.length : Int) ≤ 140737488351232 := by omega
  have hl2' : (ms.length : Int) ≤ 140737488351232 := by omega
  by_cases hbig : (200 : Int) < (ks.length : Int) + (ms.length : Int)
  · go_enter Try.func11, Try.ntmps11
    go_wp2_with fail
    refine (markAns_calls _).mono ?_; rintro e w2 ⟨rfl, hb2⟩
    go_wp2
    go_ret
    exact ⟨rfl, hb2⟩
  · have hbig' : ks.length + ms.length ≤ 200 := by omega
    have hf1 := fun W (h : RdM W (.slice a1 ks.length cap1) ks) => fates_calls 8 (.slice a1 ks.length cap1) ks W h
    have hf2 := fun u W (h : RdM W u (ks ++ ms)) => fates_calls 8 u (ks ++ ms) W h
    have hq1 := fatesD_length 8 ks
    have hq2 := fatesD_length 8 (ks ++ ms)
    have hlast := fates_last ks ms hbig'
    rw [show nFates 8 = 8 from rfl] at hf1 hf2
    generalize fatesD 8 ks = fs1 at hf1 hlast hq1
    generalize fatesD 8 (ks ++ ms) = fs2 at hf2 hlast hq2
    have Hf1 := Lib.hid hf1
    have Hf2 := Lib.hid hf2
    have Hlast := Lib.hid hlast
    have Hq1 := Lib.hid hq1
    have Hq2 := Lib.hid hq2
    have hc1 : ∀ c ∈ ks.flatMap MarkD.cells, c.oneCell' = true := cells_one ks
    have hc2 : ∀ c ∈ ms.flatMap MarkD.cells, c.oneCell' = true := cells_one ms
    have Hc1 := Lib.hid hc1
    have Hc2 := Lib.hid hc2
    have Hn1 := Lib.hid hn1
    have Hn2 := Lib.hid hn2
    clear hf1 hf2 hlast hc1 hc2 hq1 hq2 hn1 hn2
    go_enter Try.func11, Try.ntmps11
    go_wp2_with fail
    refine (Hf1.out _ hv1).mono ?_; rintro e w1 ⟨g1, cp1, rfl, hown1, hb1⟩; rw [Hq1.out]
    have hE := World.ownsRow_lit (base := w1.heap.size) (size := 3) (e := 36) w1 #[] 0 (Nat.le_refl _) (by decide) rfl
    have hbA : Below w1.heap.size w1 (w1.alloc (.cells #[] 36)) := (Below.refl _ _).alloc (Nat.le_refl _) _
    have hv1' := (hv1.below (Nat.le_refl _) hb1).below (Nat.le_refl _) hbA
    have hv2' := hv2.below (Nat.le_refl _) hb1
    have hF1 : RdF w1 _ fs1 := rdL_ofOwn fate_len (by decide) hown1
    have hm1 : 0 + ks.length ≤ maxLen := by show 0 + ks.length ≤ 9223372036854775807; omega
    have hm2 : (0 + ks.length) * 24 ≤ 140737488355328 := by omega
    have hm3 : 0 + ks.length + ms.length ≤ maxLen := by show 0 + ks.length + ms.length ≤ 9223372036854775807; omega
    have hm4 : (0 + ks.length + ms.length) * 24 ≤ 140737488355328 := by omega
    clear hown1
    go_wp2_with (at_builtin; first
      | (refine wpList_append_any mark_len (by decide) rfl (.tmp 17) (.tmp 18) 41 rfl w1.heap.size 36 i0 _ 24 Try.underlying41 hi hz0 hz1 hz2 rfl _ _ _ rfl hE _ ks rfl hv1' Hn1.out Hc1.out hm1 hm2 hbA.size ?_; intro v3 w2 hown2 hg2 hn3; have hb2 := Below.grown hbA hg2 hbA.size (fun k hk => own_base hE k hk); have hv2'' := hv2'.below (Nat.le_refl _) hb2)
      | (refine wpList_append_any mark_len (by decide) rfl (.tmp 19) (.tmp 20) 41 rfl w1.heap.size 36 i0 _ 24 Try.underlying41 hi hz0 hz1 hz2 rfl _ _ _ rfl hown2 _ ms rfl hv2'' Hn2.out Hc2.out hm3 hm4 hb2.size ?_; intro v4 w3 hown3 hg3 hn4; have hb3 := Below.grown hb2 hg3 hb2.size (fun k hk => own_base hown2 k hk)))
    have hM : RdM w3 v4 (ks ++ ms) := rdL_ofOwn (n := 0 + ks.length + ms.length) (base := w1.heap.size) (e := 36) mark_len (by decide) (by rw [List.flatMap_append]; exact hown3)
    refine (Hf2.out _ _ hM).mono ?_; rintro e w4 ⟨g4, cp4, rfl, hown4, hb4⟩; rw [Hq2.out]
    have hF2 : RdF w4 _ fs2 := rdL_ofOwn fate_len (by decide) hown4
    have hF1' := (hF1.below (Nat.le_refl _) hb3).below (Nat.le_refl _) hb4
    have hbw4 : Below w.heap.size w w4 := (hb1.trans (hb3.mono hb1.size)).trans (hb4.mono (Nat.le_trans hb1.size hb3.size))
    clear hown4 hM hown3 hown2 hg2 hg3 hb1 hb2 hb3 hb4 hE hbA hv1' hv2' hv2'' hF1 hv1 hv2
    go_wp2
    go_loopw [7] (fun i wr => ∃ j : Nat, j ≤ 8 ∧ i = .int .i64 j ∧ Below w4.heap.size w4 wr) (fun i _ => 8 - (intOf i).toNat)
    case atStart => exact ⟨0, by omega, rfl, Below.refl _ _⟩
    case round =>
      obtain ⟨j, hj, rfl, hbw⟩ := hrel
      by_cases hlt : j < 8
      · obtain ⟨fa, hfa⟩ : ∃ f, fs1[j]? = some f := ⟨_, List.getElem?_eq_getElem (by have := Hq1.out; omega)⟩
        obtain ⟨fb, hfb⟩ : ∃ f, fs2[j]? = some f := ⟨_, List.getElem?_eq_getElem (by have := Hq2.out; omega)⟩
        obtain ⟨hs1, hs2, hs3⟩ := Hlast.out j fa fb hfa hfb
        obtain ⟨b1, o1, c1, e1, _, p0, p1, p2, p3, p4⟩ := RdL.at5 (hF1'.below (Nat.le_refl _) hbw) hfa
        obtain ⟨b2, o2, c2, e2, _, q0, q1, q2, q3, q4⟩ := RdL.at5 (hF2.below (Nat.le_refl _) hbw) hfb
        cases e1; cases e2
        obtain ⟨x0, x1, x2, x3, x4⟩ := fa
        obtain ⟨y0, y1, y2, y3, y4⟩ := fb
        simp only [Nat.zero_add] at p0 p1 p2 p3 p4 q0 q1 q2 q3 q4 hs1 hs2 hs3
        have hi0 : (0 : Int) ≤ (j : Int) := by omega
        have hi1 : (j : Int) < 8 := by omega
        have hd1 : decide (y1 < x1) = false := decide_eq_false (by omega)
        have hd3 : decide (y3 < x3) = false := decide_eq_false (by omega)
        by_cases hst : x0 = 0
        · subst hst
          clear hs1 hfa hfb
          go_wp2
          go_quiet (fail)
          go_wp2
          go_roundw
          case rel => exact ⟨j + 1, by omega, by simp, below_drewN hbw _⟩
          case measure => simp [intOf] <;> omega
        · obtain ⟨rfl, rfl, rfl, rfl, rfl⟩ : y0 = x0 ∧ y1 = x1 ∧ y2 = x2 ∧ y3 = x3 ∧ y4 = x4 := by
            have := hs1 hst
            injection this with h1 h2 h3 h4 h5
            exact ⟨h1, h2, h3, h4, h5⟩
          have hst' : decide (y0 = 0) = false := decide_eq_false hst
          clear hs1 hfa hfb
          go_wp2
          go_quiet (fail)
          go_wp2
          go_roundw
          case rel => exact ⟨j + 1, by omega, by simp, below_drewN hbw _⟩
          case measure => simp [intOf] <;> omega
      · have hje : j = 8 := by omega
        subst hje
        go_wp2_with fail
        refine (markAns_calls _).mono ?_; rintro e w6 ⟨rfl, hb6⟩
        go_wp2
        go_ret
        exact ⟨rfl, (hbw4.trans (hbw.mono hbw4.size)).trans (hb6.mono (Nat.le_trans hbw4.size hbw.size))⟩
end Go.Proofs.Ytfgmnachckbimaa
