/-
  The walk of the law MarkTorn.
-/
import Derived.Test.YtfgmnachckbimaaMarkFat
import Derived.Test.YtfgmnachckbimaaTorn
import Derived.Test.YtfgmnachckbimaaMarkRef
set_option linter.unusedSimpArgs false
set_option linter.unusedVariables false
namespace Go.Proofs.Ytfgmnachckbimaa
open Go.RowKit
theorem infoU8' : (Try.prog.info? 5).map (·.size) = some 1 := by kernel_rfl
theorem infoMark' : (Try.prog.info? 36).map (·.size) = some 3 := by kernel_rfl
theorem bytesM_snoc {ks : List MarkD} {j : Nat} {k : MarkD} (h : ks[j]? = some k) : bytesM (ks.take (j + 1)) = bytesM (ks.take j) ++ k.bytes := by
  unfold bytesM; rw [take_snoc h, List.flatMap_append, List.flatMap_singleton]
set_option maxRecDepth 100000 in
set_option maxHeartbeats 8000000 in
theorem markTorn_walk (v : Value) (ks : List MarkD) (c : Nat) (w : World) (hv : RdM w v ks) (hc : c ≤ 65535) :
    Calls Try.prog 9 #[v, .int .u16 c] w fun e w' => e = .returned (.bool true) ∧ Below w.heap.size w w' := by
  obtain ⟨i0, hi, hz0, hz1, hz2⟩ := info_parts infoU8
  obtain ⟨a, cap, rfl, hlc, hcap⟩ := hv.form
  go_enter Try.func9, Try.ntmps9
  go_wp2
  go_loopw [5, 6] (fun g i wr => ∃ j : Nat, j ≤ ks.length ∧ i = .int .i64 j ∧ wr.ownsRow w.heap.size 5 1 g (bytesM (ks.take j)).length ((bytesM (ks.take j)).map u8v) ∧ (∀ k ∈ ks.take j, k.good = true) ∧ (j = 0 ∨ ks.length ≤ 60) ∧ Below w.heap.size w wr) (fun _ i _ => ks.length - (intOf i).toNat)
  case atStart =>
    exact ⟨0, Nat.zero_le _, rfl, by simpa [bytesM] using nil_row w w.heap.size 1 5, by simp, .inl rfl, Below.refl _ _⟩
  case round =>
    obtain ⟨j, hj, rfl, hown, hgd, h60, hbw⟩ := hrel
    by_cases hlt : j < ks.length
    · obtain ⟨k, hk⟩ : ∃ k, ks[j]? = some k := ⟨_, List.getElem?_eq_getElem hlt⟩
      obtain ⟨b, off, cap', hsl, hbl, y0, y1, y2⟩ := RdL.at3 (hv.below (Nat.le_refl _) hbw) hk
      cases hsl
      have hbs := bytesM_snoc hk
      have hts := take_snoc hk
      have hbl2 : (bytesM (ks.take j)).length ≤ 28 * j := by rw [bytesM_length, List.length_take]; omega
      have hmay := mayMark_calls k
      have hgk : ∀ ok, k.good = ok → k.good = ok := fun _ h => h
      have hj0 : (0 : Int) ≤ (j : Int) := by omega
      have hj1 : (j : Int) < (ks.length : Int) := by omega
      by_cases hg : k.good = true
      · have hg' : 1 ≤ k.kind ∧ k.kind ≤ 5 ∧ 0 ≤ k.rcpt ∧ k.rcpt < 8 ∧ 0 ≤ k.n ∧ k.n ≤ 1099511627776 := of_decide_eq_true hg
        have hmk := fun W => refMark_calls k W (by omega) (by omega) (by omega) (by omega) (by omega) (by omega)
        rw [hg] at hmay
        have hgd' : ∀ x ∈ ks.take (j + 1), x.good = true := by
          intro x hx
          rw [hts] at hx
          rcases List.mem_append.1 hx with hx | hx
          · exact hgd x hx
          · simp at hx; rw [hx]; exact hg
        have hkl := bytes_length k
        generalize MarkD.bytes k = kb at hmk hkl hbs
        generalize bytesM (ks.take j) = pre at hbs hbl2 hown
        obtain ⟨kind, rcpt, nn⟩ := k
        simp only at y0 y1 y2
        have Hmay := Lib.hid hmay
        have Hmk := Lib.hid hmk
        have Hbs := Lib.hid hbs
        have Hgd' := Lib.hid hgd'
        clear hmay hmk hbs hgd' hgk hg hg' hgd hts
        by_cases hbig : (60 : Int) < (ks.length : Int)
        · go_wp2_with fail
          refine (Hmay.out _).mono ?_; rintro e w2 ⟨rfl, hb2⟩
          go_wp2_with fail
          refine (markAns_calls _).mono ?_; rintro e w3 ⟨rfl, hb3⟩
          go_wp2
          go_ret
          exact ⟨rfl, (hbw.trans (hb2.mono hbw.size)).trans (hb3.mono (Nat.le_trans hbw.size hb2.size))⟩
        · go_wp2_with fail
          refine (Hmay.out _).mono ?_; rintro e w2 ⟨rfl, hb2⟩
          have c0 := (hb2.cell (p := ⟨b, off + j * 3, none⟩) hbl).trans y0
          have c1 := (hb2.cell (p := ⟨b, off + j * 3 + 1, none⟩) hbl).trans y1
          have c2 := (hb2.cell (p := ⟨b, off + j * 3 + 2, none⟩) hbl).trans y2
          go_wp2_with fail
          refine (Hmk.out _).mono ?_; rintro e w3 ⟨vk, rfl, hownk, hb3⟩; rw [hkl] at hownk
          have hrow3 := own_below (own_below hown hb2 (Nat.le_refl _)) hb3 (Nat.le_refl _)
          have hbw3 := (hbw.trans (hb2.mono hbw.size)).trans (hb3.mono (Nat.le_trans hbw.size hb2.size))
          obtain ⟨gk, capk, rfl, _, _, _, _⟩ := own_form hownk (by omega)
          have hncell := news_own hownk
          have Hncell := Lib.hid hncell
          have hkl' : (kb.map u8v).length = 28 * 1 := by simp [hkl]
          have h63 : pre.length + 28 ≤ maxLen := by show pre.length + 28 ≤ 9223372036854775807; omega
          have hbd2 : (pre.length + 28) * 1 ≤ 140737488355328 := by omega
          have Hkl := Lib.hid hkl
          clear hncell hkl
          go_wp2_with (at_builtin; go_must (refine wpList_append_own _ rfl (.tmp 28) (.tmp 33) 22 rfl w.heap.size 5 i0 (.int .u8 0) 1 1 Try.underlying22 hi hz0 hz1 hz2 rfl (by decide) _ _ _ rfl hrow3 ⟨gk, 0, none⟩ 28 capk (kb.map u8v) rfl hkl' Hncell.out (one_u8 _) h63 hbd2 hbw3.size ?_); rintro v4 w4 hown4 hg4 _)
          go_roundw
          case rel =>
            refine ⟨j + 1, by omega, by simp, ?_, Hgd'.out, .inr (by omega), Below.grown hbw3 hg4 hbw3.size (fun k hk => own_base hrow3 k hk)⟩
            rw [Hbs.out, List.length_append, List.map_append, Hkl.out]; exact hown4
          case measure => simp [intOf] <;> omega
      · have hg2 : k.good = false := by simpa using hg
        rw [hg2] at hmay
        obtain ⟨kind, rcpt, nn⟩ := k
        simp only at y0 y1 y2
        have Hmay := Lib.hid hmay
        clear hmay hbs hgk hg hg2 hts
        go_wp2_with fail
        refine (Hmay.out _).mono ?_; rintro e w2 ⟨rfl, hb2⟩
        go_wp2_with fail
        refine (markAns_calls _).mono ?_; rintro e w3 ⟨rfl, hb3⟩
        go_wp2
        go_ret
        exact ⟨rfl, (hbw.trans (hb2.mono hbw.size)).trans (hb3.mono (Nat.le_trans hbw.size hb2.size))⟩
    · have hje : j = ks.length := by omega
      subst hje
      rw [List.take_of_length_le (Nat.le_refl _)] at hown hgd
      have hlen : ks.length ≤ 60 := by omega
      have hbsl := bytesM_length ks
      have hcut := fun n hn => decodeM_cut ks n hgd (by omega) hn
      have hrd : RdB wr u5 (bytesM ks) := rdB_ofOwn hown
      generalize bytesM ks = bs at hown hbsl hcut hrd
      obtain ⟨n, hn⟩ : ∃ n : Nat, c % (bs.length + 1) = n := ⟨_, rfl⟩
      have hnb : n ≤ bs.length := by have := Nat.mod_lt c (show 0 < bs.length + 1 by omega); omega
      have hrem : Int.tmod (c : Int) ((bs.length : Int) + 1) = (n : Int) := by rw [Int.tmod_eq_emod_of_nonneg (by omega), ← hn]; simp
      obtain ⟨ab, capb, hform, hlb, hcb⟩ := hrd.form
      subst hform
      have hvr := hv.below (Nat.le_refl _) hbw
      have hpre := hrd.pre n hnb
      obtain ⟨q, hq⟩ : ∃ q : Nat, n / 28 = q := ⟨_, rfl⟩
      have hql : q ≤ ks.length := by omega
      have hpm := hvr.pre q hql
      have hquo : Int.tdiv (n : Int) 28 = (q : Int) := by rw [Int.tdiv_eq_ediv_of_nonneg (by omega)]; omega
      have hsl1 := run_slice_pre (P := Try.prog) Try.underlying22 infoU8' ab bs.length capb n (by omega)
      have hsl2 := run_slice_pre (P := Try.prog) Try.underlying41 infoMark' a ks.length cap q (by omega)
      have hdec := fun W h => markDecode_calls (.slice ab n capb) (bs.take n) W h (by rw [List.length_take]; omega)
      have hdl : (decodeM (bs.take n)).length = q := by rw [hcut n hnb, List.length_take]; omega
      have hdm : decodeM (bs.take n) = ks.take q := by rw [hcut n hnb, hq]
      have hdec2 : ∀ W, RdB W (.slice ab n capb) (bs.take n) → Calls Try.prog 22 #[.slice ab n capb] W fun e w' => ∃ v, e = .returned (.tuple #[v, .int .i64 ((q : Int) * 28)]) ∧ w'.ownsRow W.heap.size 36 3 v q ((ks.take q).flatMap MarkD.cells) ∧ Below W.heap.size W w' := by
        intro W h
        refine (hdec W h).mono ?_
        rintro e w' ⟨v, he, h1, h2⟩
        rw [hdl] at he h1
        rw [hdm] at h1
        rw [Int.mul_comm] at he
        exact ⟨v, he, h1, h2⟩
      have Hdec := Lib.hid hdec2
      have hq0 : (0 : Int) ≤ (q : Int) := by omega
      have hq1 : (q : Int) ≤ 60 := by omega
      have hLi : (bs.length : Int) ≤ 1680 := by omega
      have hrem2 : (c : Int) % ((bs.length : Int) + 1) = (n : Int) := by rw [← hn]; simp
      clear hdec hdec2 hdl hdm hcut hn hq hown hgd hbsl hrd hnb
      generalize bs.length = L at *
      go_wp2_with fail
      refine (Hdec.out _ hpre).mono ?_; rintro e w3 ⟨vd, rfl, hownd, hb3⟩
      go_wp2_with fail
      refine (markAns_calls _).mono ?_; rintro e w4 ⟨rfl, hb4⟩
      go_wp2_with fail
      refine (sameMarks_calls _ _ (ks.take q) _ ((rdL_ofOwn mark_len (by decide) hownd).below (Nat.le_refl _) hb4) ((hpm.below (Nat.le_refl _) hb3).below (Nat.le_refl _) hb4)).mono ?_; rintro e w5 ⟨rfl, hb5⟩
      go_wp2
      go_ret
      exact ⟨rfl, ((hbw.trans (hb3.mono hbw.size)).trans (hb4.mono (Nat.le_trans hbw.size hb3.size))).trans (hb5.mono (Nat.le_trans (Nat.le_trans hbw.size hb3.size) hb4.size))⟩
theorem markTorn_all (v : Value) (ks : List MarkD) (n : Int) (w : World) (hv : RdM w v ks) (hn : (Lit.int .u16 n).wf = true) :
    Calls Try.prog 9 #[v, .int .u16 n] w fun e w' => e = .returned (.bool true) ∧ Below w.heap.size w w' := by
  obtain ⟨l, u⟩ := bounds_u16 hn
  obtain ⟨m, rfl⟩ := Int.eq_ofNat_of_zero_le l
  exact markTorn_walk v ks m w hv (by omega)
end Go.Proofs.Ytfgmnachckbimaa
