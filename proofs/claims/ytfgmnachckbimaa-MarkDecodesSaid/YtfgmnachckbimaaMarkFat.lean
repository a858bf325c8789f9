/-
  The walk of the law MarkFates.
-/
import Derived.Test.YtfgmnachckbimaaMarkAns
import Derived.Test.YtfgmnachckbimaaRefFates
import Derived.Test.YtfgmnachckbimaaSame
import Derived.Test.YtfgmnachckbimaaFatesLaw
set_option linter.unusedSimpArgs false
set_option linter.unusedVariables false
namespace Go.Proofs.Ytfgmnachckbimaa
open Go.RowKit
theorem nil_row (w : World) (base size : Nat) (e : TypeId) : w.ownsRow base e size (.slice none 0 0) 0 [] := ⟨by simp, .inl ⟨rfl, rfl⟩⟩
theorem filter_snoc {α : Type} {ks : List α} {j : Nat} {k : α} (p : α → Bool) (h : ks[j]? = some k) : (ks.take (j + 1)).filter p = (ks.take j).filter p ++ (if p k then [k] else []) := by
  rw [take_snoc h, List.filter_append, List.filter_cons]; rfl
set_option maxRecDepth 100000 in
set_option maxHeartbeats 8000000 in
theorem markFates_walk (n : Int) (v : Value) (ks : List MarkD) (w : World) (hv : RdM w v ks) :
    Calls Try.prog 10 #[.int .i64 n, v] w fun e w' => e = .returned (.bool true) ∧ Below w.heap.size w w' := by
  obtain ⟨i0, hi, hz0, hz1, hz2⟩ := info_parts infoMark
  obtain ⟨a, cap, rfl, hlc, hcap⟩ := hv.form
  by_cases hbig : (200 : Int) < (ks.length : Int)
  · go_enter Try.func10, Try.ntmps10
    go_wp2_with fail
    refine (markAns_calls _).mono ?_; rintro e w2 ⟨rfl, hb2⟩
    go_wp2
    go_ret
    exact ⟨rfl, hb2⟩
  · have hbig' : ks.length ≤ 200 := by omega
    go_enter Try.func10, Try.ntmps10
    go_wp2
    go_loopw [5, 6] (fun g i wr => ∃ j : Nat, j ≤ ks.length ∧ i = .int .i64 j ∧ wr.ownsRow w.heap.size 36 3 g ((ks.take j).filter MarkD.good).length (((ks.take j).filter MarkD.good).flatMap MarkD.cells) ∧ Below w.heap.size w wr) (fun _ i _ => ks.length - (intOf i).toNat)
    case atStart =>
      exact ⟨0, Nat.zero_le _, rfl, by simpa using nil_row w w.heap.size 3 36, Below.refl _ _⟩
    case round =>
      obtain ⟨j, hj, rfl, hown, hbw⟩ := hrel
      by_cases hlt : j < ks.length
      · obtain ⟨k, hk⟩ : ∃ k, ks[j]? = some k := ⟨_, List.getElem?_eq_getElem hlt⟩
        obtain ⟨b, off, cap', hsl, hbl, y0, y1, y2⟩ := RdL.at3 (hv.below (Nat.le_refl _) hbw) hk
        cases hsl
        have hfs := filter_snoc MarkD.good hk
        have hgl : ((ks.take j).filter MarkD.good).length ≤ 200 := Nat.le_trans (List.length_filter_le ..) (by simp; omega)
        generalize (ks.take j).filter MarkD.good = gs at hfs hgl hown
        have hmay := mayMark_calls k
        generalize MarkD.good k = ok at hmay hfs
        obtain ⟨kind, rcpt, nn⟩ := k
        simp only at y0 y1 y2
        have Hmay := Lib.hid hmay
        have Hfs := Lib.hid hfs
        have hj0 : (0 : Int) ≤ (j : Int) := by omega
        have hj1 : (j : Int) < (ks.length : Int) := by omega
        clear hfs hmay
        go_wp2_with fail
        refine (Hmay.out _).mono ?_; rintro e w2 ⟨rfl, hb2⟩
        have hrow2 := own_below hown hb2 (Nat.le_refl _)
        have c0 := (hb2.cell (p := ⟨b, off + j * 3, none⟩) hbl).trans y0
        have c1 := (hb2.cell (p := ⟨b, off + j * 3 + 1, none⟩) hbl).trans y1
        have c2 := (hb2.cell (p := ⟨b, off + j * 3 + 2, none⟩) hbl).trans y2
        have hbw2 := hbw.trans (hb2.mono hbw.size)
        clear y0 y1 y2 hown hb2
        cases ok
        · go_wp2
          go_roundw
          case rel => exact ⟨j + 1, by omega, by simp, by rw [Hfs.out]; simpa using hrow2, hbw2⟩
          case measure => simp [intOf] <;> omega
        · have hcs1 : ∀ u ∈ MarkD.cells ⟨kind, rcpt, nn⟩, u.oneCell' = true := by intro u hu; exact cells_one [⟨kind, rcpt, nn⟩] u (by simpa using hu)
          have hncell := news_new w2 (MarkD.cells ⟨kind, rcpt, nn⟩) 36 (0, 0)
          have Hncell := Lib.hid hncell
          have Hcs1 := Lib.hid hcs1
          have hbd1 : gs.length + 1 ≤ maxLen := by show gs.length + 1 ≤ 9223372036854775807; omega
          have hbd2 : (gs.length + 1) * 24 ≤ 140737488355328 := by omega
          have hbd3 : w.heap.size ≤ (w2.alloc (.cells #[.int .i64 kind, .int .i64 rcpt, .int .i64 nn] 36)).heap.size := by have := hbw2.size; simp; omega
          clear hncell hcs1
          go_wp2_with (at_builtin; go_must (refine wpList_append_own _ rfl _ _ 41 rfl w.heap.size 36 i0 _ 3 24 Try.underlying41 hi hz0 hz1 hz2 rfl (by decide) _ _ _ rfl (hrow2.alloc _) ⟨w2.heap.size, 0, none⟩ 1 1 (MarkD.cells ⟨kind, rcpt, nn⟩) rfl rfl Hncell.out Hcs1.out hbd1 hbd2 hbd3 ?_); rintro v' w3 hown3 hg3 _)
          go_roundw
          case rel =>
            refine ⟨j + 1, by omega, by simp, by rw [Hfs.out]; simpa using hown3, ?_⟩
            exact Below.grown (hbw2.alloc hbw2.size _) hg3 (by have := hbw2.size; simp; omega) (fun k hk => own_base hrow2 k hk)
          case measure => simp [intOf] <;> omega
      · have hje : j = ks.length := by omega
        subst hje
        rw [List.take_of_length_le (Nat.le_refl _)] at hown
        have hgood : ∀ k ∈ ks.filter MarkD.good, k.good = true := fun k hk => (List.mem_filter.1 hk).2
        have hsame := fun m => fatesD_good m ks
        generalize ks.filter MarkD.good = gs at hown hgood hsame
        have hgr : RdM wr u5 gs := rdL_ofOwn mark_len (by decide) hown
        have hvr := hv.below (Nat.le_refl _) hbw
        have hnf : ∀ m, m ≤ 8 → (FatesDone wr (fatesD m gs)) = FatesDone wr (fatesD m gs) := fun _ _ => rfl
        have hthree : ∃ m : Nat, m ≤ 8 ∧ nFates n = m ∧ ((n < 0 ∧ m = 0) ∨ (8 < n ∧ m = 8) ∨ (0 ≤ n ∧ n ≤ 8 ∧ n = (m : Int))) := by
          refine ⟨nFates n, ?_, rfl, ?_⟩ <;> unfold nFates <;> omega
        obtain ⟨m, hm8, hnm, hcase⟩ := hthree
        have hf1 := fun W (h : RdM W (.slice a ks.length cap) ks) => fates_calls n (.slice a ks.length cap) ks W h
        have hf2 := fun W (h : RdM W u5 gs) => refFates_calls m u5 gs W hm8 h hgood
        rw [hsame m] at hf2
        rw [hnm] at hf1
        generalize fatesD m ks = fs at hf1 hf2
        have Hf1 := Lib.hid hf1
        have Hf2 := Lib.hid hf2
        clear hf1 hf2 hsame hgood hnm hown hnf
        rcases hcase with ⟨hc1, rfl⟩ | ⟨hc1, rfl⟩ | ⟨hc1, hc2, rfl⟩
        all_goals
          go_wp2_with fail
          refine (markAns_calls _).mono ?_; rintro e w3 ⟨rfl, hb3⟩
          go_wp2_with fail
          refine (Hf1.out _ (hvr.below (Nat.le_refl _) hb3)).mono ?_; rintro e w4 ⟨g4, cap4, rfl, hown4, hb4⟩
          go_wp2_with fail
          refine (Hf2.out _ ((hgr.below (Nat.le_refl _) hb3).below (Nat.le_refl _) hb4)).mono ?_; rintro e w5 ⟨g5, cap5, rfl, hown5, hb5⟩
          go_wp2_with fail
          refine (sameFates_calls _ _ fs _ ((rdL_ofOwn fate_len (by decide) hown4).below (Nat.le_refl _) hb5) (rdL_ofOwn fate_len (by decide) hown5)).mono ?_; rintro e w6 ⟨rfl, hb6⟩
          go_wp2
          go_ret
          exact ⟨rfl, (((hbw.trans (hb3.mono hbw.size)).trans (hb4.mono (Nat.le_trans hbw.size hb3.size))).trans (hb5.mono (Nat.le_trans (Nat.le_trans hbw.size hb3.size) hb4.size))).trans (hb6.mono (Nat.le_trans (Nat.le_trans (Nat.le_trans hbw.size hb3.size) hb4.size) hb5.size))⟩
end Go.Proofs.Ytfgmnachckbimaa
