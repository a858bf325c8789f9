/-
  The walk of law12.file.
-/
import Derived.Test.YtjddicoigbidlaaGreatDoorQ28
set_option linter.unusedSimpArgs false
set_option linter.unusedVariables false
set_option maxRecDepth 100000
namespace Go.Proofs.YtjddicoigbidlaaGreatDoor
open Go.RowKit
theorem boxB_len {s : List UInt8} (h : boxB s = true) : s.length ≤ 64 := by
  unfold boxB parseBox at h
  cases hs : splitBox s with
  | none => rw [hs] at h; simp at h
  | some p =>
    unfold splitBox at hs
    split at hs
    · split at hs
      · next hc => simp only [Bool.and_eq_true, decide_eq_true_eq] at hc; exact hc.2
      · cases hs
    · cases hs
theorem small_of_good {m : MailD} (h : m.good = true) : m.small := by
  obtain ⟨_, _, _, _, _, _, h6, h7⟩ := (good_iff m).1 h
  constructor
  · rcases h6 with h6 | h6
    · omega
    · have := boxB_len h6; omega
  · intro l hl
    have := boxB_len (List.all_eq_true.1 h7 l hl)
    omega
theorem record_max {m : MailD} (h : m.good = true) : m.record.length ≤ 1000012 := by
  obtain ⟨_, _, _, h4, h5, _⟩ := (good_iff m).1 h
  have := inner_small m (small_of_good h) h4.2 h5
  rw [record_length]; omega
set_option maxHeartbeats 8000000 in
theorem qfile_calls (m : MailD) (vr vb vm : Value) (ks : List MarkD) (w : World) (hr : RdS w vr m.rcpts) (hb : RdB w vb m.body) (hnb : NilOk vb) (hm : RdM w vm ks) (hg : m.good = true) (hks : ∀ k ∈ ks, k.good = true) (hkl : ks.length ≤ 60) :
    Calls Tryz.prog 24 #[mailVal m vr vb, vm] w (RowDone w (m.record ++ bytesM ks)) := by
  obtain ⟨ar, capr, rfl, hlr, hcr⟩ := hr.form
  obtain ⟨ab, capb, rfl, hlb, hcb⟩ := hb.form
  obtain ⟨am, capm, rfl, hlm, hcm⟩ := hm.form
  have hb0 : Below w.heap.size w (w.alloc (.cells #[.int .i64 m.id, .int .i64 m.parent, .int .i64 m.born, .string (strL m.frm), .slice ar m.rcpts.length capr, .slice ab m.body.length capb] 25)) := (Below.refl _ _).alloc (Nat.le_refl _) _
  have hnew := MailAt.new (m := m) hr hb
  have hrec := record_calls m (.slice ar m.rcpts.length capr) (.slice ab m.body.length capb) _ hnew.rs hnew.rb hnb (small_of_good hg) hg
  obtain ⟨c0, c1, c2, c3, c4, c5⟩ := hnew.cells
  have hmx := record_max hg
  obtain ⟨R, hR⟩ : ∃ R, m.record = R := ⟨_, rfl⟩
  rw [hR] at hrec hmx
  rw [hR]
  obtain ⟨B, hB⟩ : ∃ B, R ++ bytesM ks = B := ⟨_, rfl⟩
  rw [hB]
  have HB := Lib.hid hB
  clear hB
  have Hrec := Lib.hid hrec
  have Hb0 := Lib.hid hb0
  have Hm := Lib.hid hm
  clear hrec hb0 hm hr hb hnb hnew hR hg
  go_enter Tryz.func24, Tryz.ntmps24
  go_wp2_with fail
  refine (Hrec.out).mono ?_; rintro e w1 ⟨v1, rfl, hown1, hb1⟩
  have hbw1 := Hb0.out.trans (hb1.mono Hb0.out.size)
  have hown1 := own_mono hown1 Hb0.out.size
  clear c0 c1 c2 c3 c4 c5 hb1 Hrec Hb0
  go_wp2
  go_loopw [5, 6] (fun g i wr => ∃ j : Nat, j ≤ ks.length ∧ i = .int .i64 j ∧ wr.ownsRow w.heap.size 5 1 g (R ++ bytesM (ks.take j)).length ((R ++ bytesM (ks.take j)).map u8v) ∧ Below w.heap.size w wr) (fun _ i _ => ks.length - (intOf i).toNat)
  case atStart =>
    refine ⟨0, Nat.zero_le _, rfl, ?_, hbw1⟩
    rw [List.take_zero, show bytesM [] = [] from rfl, List.append_nil]; exact hown1
  case round =>
    obtain ⟨j, hj, rfl, hown, hbw⟩ := hrel
    by_cases hlt : j < ks.length
    · obtain ⟨k, hk⟩ : ∃ k, ks[j]? = some k := ⟨_, List.getElem?_eq_getElem hlt⟩
      obtain ⟨b, off, cap', hsl, hbl, y0, y1, y2⟩ := RdL.at3 (Hm.out.below (Nat.le_refl _) hbw) hk
      cases hsl
      have hbs := bytesM_snoc hk
      have hbl2 : (R ++ bytesM (ks.take j)).length ≤ 1000012 + 28 * 60 := by rw [List.length_append, bytesM_length, List.length_take]; omega
      have hj0 : (0 : Int) ≤ (j : Int) := by omega
      have hj1 : (j : Int) < (ks.length : Int) := by omega
      have hg : k.good = true := hks k (List.mem_of_getElem? hk)
      have hg' : 1 ≤ k.kind ∧ k.kind ≤ 5 ∧ 0 ≤ k.rcpt ∧ k.rcpt < 8 ∧ 0 ≤ k.n ∧ k.n ≤ 1099511627776 := of_decide_eq_true hg
      have hmk := fun W => refMark_calls k W (by omega) (by omega) (by omega) (by omega) (by omega) (by omega)
      have hkl' := bytes_length k
      have hbs' : R ++ bytesM (ks.take (j + 1)) = (R ++ bytesM (ks.take j)) ++ k.bytes := by rw [hbs, List.append_assoc]
      generalize MarkD.bytes k = kb at hmk hkl' hbs'
      generalize R ++ bytesM (ks.take j) = pre at hbs' hbl2 hown
      obtain ⟨kind, rcpt, nn⟩ := k
      simp only at y0 y1 y2
      obtain ⟨ag, cg, hvg⟩ := own_form0 hown
      subst hvg
      have Hmk := Lib.hid hmk
      have Hbs := Lib.hid hbs'
      clear hmk hbs' hbs hg hg' hks hk
      go_wp2_with fail
      refine (Hmk.out _).mono ?_; rintro e w3 ⟨vk, rfl, hownk, hb3⟩
      have hrow3 := own_below hown hb3 (Nat.le_refl _)
      have hbw3 := hbw.trans (hb3.mono hbw.size)
      clear hown
      go_wp2_with (at_builtin; go_must (refine app_row rfl rfl (.tmp 15) (.tmp 20) rfl hrow3 hownk rfl rfl (by omega) hbw3.size ?_); rintro v4 w4 hown4 hg4)
      go_roundw
      case rel =>
        refine ⟨j + 1, by omega, by simp, ?_, Below.grown hbw3 hg4 hbw3.size (fun k hk => own_base hrow3 k hk)⟩
        rw [Hbs.out]; exact hown4
      case measure => simp [intOf] <;> omega
    · have hje : j = ks.length := by omega
      subst hje
      rw [List.take_of_length_le (Nat.le_refl _), HB.out] at hown
      have hjl : ¬ ((ks.length : Int) < (ks.length : Int)) := by omega
      obtain ⟨ag, cg, hvg⟩ := own_form0 hown
      subst hvg
      have Hown := Lib.hid hown
      clear hown
      go_wp2
      go_ret
      exact ⟨_, rfl, Hown.out, hbw⟩
end Go.Proofs.YtjddicoigbidlaaGreatDoor
