/-
  The walks of law12.good and law12.file.
-/
import Derived.Test.YtjddicoigbidlaaGreatDoorQ14
import Derived.Test.YtjddicoigbidlaaGreatDoorQ26
import Derived.Test.YtjddicoigbidlaaGreatDoorQ27
set_option linter.unusedSimpArgs false
set_option linter.unusedVariables false
set_option maxRecDepth 100000
namespace Go.Proofs.YtjddicoigbidlaaGreatDoor
open Go.RowKit
/-- A mail that is not too long, and marks that may be. -/
def qgood (m : MailD) (ks : List MarkD) : Bool := (ks.all MarkD.good && decide (ks.length ≤ 60)) && (m.good && decide (m.body.length ≤ 2000))
theorem qgood_iff {m : MailD} {ks : List MarkD} (h : qgood m ks = true) : (∀ k ∈ ks, k.good = true) ∧ ks.length ≤ 60 ∧ m.good = true ∧ m.body.length ≤ 2000 := by
  simp only [qgood, Bool.and_eq_true, decide_eq_true_eq, List.all_eq_true] at h
  exact ⟨h.1.1, h.1.2, h.2.1, h.2.2⟩
theorem qgood_bad {m : MailD} {ks : List MarkD} {k : MarkD} {j : Nat} (hk : ks[j]? = some k) (h : k.good = false) : qgood m ks = false := by
  cases hq : qgood m ks with
  | false => rfl
  | true => have := (qgood_iff hq).1 k (List.mem_of_getElem? hk); rw [h] at this; cases this
theorem qgood_long {m : MailD} {ks : List MarkD} (h : 60 < ks.length) : qgood m ks = false := by
  cases hq : qgood m ks with
  | false => rfl
  | true => have := (qgood_iff hq).2.1; omega
theorem qgood_rest {m : MailD} {ks : List MarkD} (h1 : ∀ k ∈ ks, k.good = true) (h2 : ks.length ≤ 60) : qgood m ks = (m.good && decide (m.body.length ≤ 2000)) := by
  rw [qgood, List.all_eq_true.2 h1, decide_eq_true h2]; rfl
set_option maxHeartbeats 8000000 in
theorem qgood_calls (m : MailD) (vr vb vm : Value) (ks : List MarkD) (w : World) (hr : RdS w vr m.rcpts) (hb : RdB w vb m.body) (hm : RdM w vm ks) (hsr : ∀ l ∈ m.rcpts, l.length ≤ 4294967270) (hsf : m.frm.length ≤ 4294967270) :
    Calls Tryz.prog 22 #[mailVal m vr vb, vm] w fun e w' => e = .returned (.bool (qgood m ks)) ∧ Below w.heap.size w w' := by
  obtain ⟨ar, capr, rfl, hlr, hcr⟩ := hr.form
  obtain ⟨ab, capb, rfl, hlb, hcb⟩ := hb.form
  obtain ⟨am, capm, rfl, hlm, hcm⟩ := hm.form
  have hnew := MailAt.new (m := m) hr hb
  obtain ⟨W, hW⟩ : ∃ W, w.alloc (.cells #[.int .i64 m.id, .int .i64 m.parent, .int .i64 m.born, .string (strL m.frm), .slice ar m.rcpts.length capr, .slice ab m.body.length capb] 25) = W := ⟨_, rfl⟩
  have hbW : Below w.heap.size w W := by rw [← hW]; exact (Below.refl _ _).alloc (Nat.le_refl _) _
  rw [hW] at hnew
  have hmW := hm.below (Nat.le_refl _) hbW
  have hg : ∀ W', Below W.heap.size W W' → Calls Tryz.prog 16 #[mailVal m (.slice ar m.rcpts.length capr) (.slice ab m.body.length capb)] W' fun e w' => e = .returned (.bool m.good) ∧ Below W'.heap.size W' w' :=
    fun W' h => refGood_calls m _ _ W' (hnew.below h).rs (hnew.below h).rb hsr hsf
  have hc : ∀ W', Below W.heap.size W W' → MailAt W' w.heap.size m (.slice ar m.rcpts.length capr) (.slice ab m.body.length capb) := fun W' h => hnew.below h
  obtain ⟨q, hq⟩ : ∃ q, qgood m ks = q := ⟨_, rfl⟩
  have hbad : ∀ (j : Nat) (k : MarkD), ks[j]? = some k → k.good = false → false = q := fun j k h1 h2 => by rw [← hq, qgood_bad h1 h2]
  have hlong : 60 < ks.length → false = q := fun h => by rw [← hq, qgood_long h]
  have hrest : (∀ k ∈ ks, k.good = true) → ks.length ≤ 60 → (m.good && decide (m.body.length ≤ 2000)) = q := fun h1 h2 => by rw [← hq, qgood_rest h1 h2]
  rw [hq]
  have hbl : (m.body.length : Int) ≤ 9223372036854775807 := by omega
  have hkl : (ks.length : Int) ≤ 9223372036854775807 := by omega
  generalize m.good = mg at hg hrest
  have Hg := Lib.hid hg
  have Hc := Lib.hid hc
  have Hbad := Lib.hid hbad
  have Hlong := Lib.hid hlong
  have Hrest := Lib.hid hrest
  have HmW := Lib.hid hmW
  have HbW := Lib.hid hbW
  clear hg hc hbad hlong hrest hq hr hb hm hsr hsf hnew hmW hbW
  subst hW
  generalize hWe : w.alloc (.cells #[.int .i64 m.id, .int .i64 m.parent, .int .i64 m.born, .string (strL m.frm), .slice ar m.rcpts.length capr, .slice ab m.body.length capb] 25) = W at Hg Hc HmW HbW
  have HW := Lib.hid hWe
  clear hWe
  go_enter Tryz.func22, Tryz.ntmps22
  go_wp2
  rw [HW.out]
  go_loopw [5] (fun i wr => ∃ j : Nat, j ≤ ks.length ∧ i = .int .i64 j ∧ (∀ k ∈ ks.take j, k.good = true) ∧ (j = 0 ∨ ks.length ≤ 60) ∧ Below W.heap.size W wr) (fun i _ => ks.length - (intOf i).toNat)
  case atStart => exact ⟨0, Nat.zero_le _, rfl, by simp, .inl rfl, Below.refl _ _⟩
  case round =>
    obtain ⟨j, hj, rfl, hgd, h60, hbw⟩ := hrel
    by_cases hlt : j < ks.length
    · obtain ⟨k, hk⟩ : ∃ k, ks[j]? = some k := ⟨_, List.getElem?_eq_getElem hlt⟩
      obtain ⟨b, off, cap', hsl, hbl', y0, y1, y2⟩ := RdL.at3 (HmW.out.below (Nat.le_refl _) hbw) hk
      cases hsl
      have hj0 : (0 : Int) ≤ (j : Int) := by omega
      have hj1 : (j : Int) < (ks.length : Int) := by omega
      have hts := take_snoc hk
      have hmay := mayMark_calls k
      obtain ⟨gk, hgk⟩ : ∃ gk, k.good = gk := ⟨_, rfl⟩
      rw [hgk] at hmay
      have hgd' : gk = true → ∀ x ∈ ks.take (j + 1), x.good = true := by
        intro ht x hx
        rw [hts] at hx
        rcases List.mem_append.1 hx with hx | hx
        · exact hgd x hx
        · rw [List.mem_singleton.1 hx, hgk, ht]
      have hbadk : gk = false → false = q := fun h => Hbad.out j k hk (by rw [hgk, h])
      obtain ⟨kind, rcpt, nn⟩ := k
      simp only at y0 y1 y2
      have Hmay := Lib.hid hmay
      have Hgd' := Lib.hid hgd'
      have Hbadk := Lib.hid hbadk
      clear hmay hgd' hbadk hgk hts hk hgd h60 Hg Hc
      go_wp2_with fail
      refine (Hmay.out _).mono ?_; rintro e w2 ⟨rfl, hb2⟩
      have hbw2 := hbw.trans (hb2.mono hbw.size)
      cases gk
      · have hqe := Hbadk.out rfl
        subst hqe
        go_wp2
        go_ret
        exact ⟨rfl, HbW.out.trans (hbw2.mono HbW.out.size)⟩
      · by_cases hbig : (60 : Int) < (ks.length : Int)
        · have hqe := Hlong.out (by omega)
          subst hqe
          go_wp2
          go_ret
          exact ⟨rfl, HbW.out.trans (hbw2.mono HbW.out.size)⟩
        · go_wp2
          go_roundw
          case rel => exact ⟨j + 1, by omega, by simp, Hgd'.out (by simp), .inr (by omega), hbw2⟩
          case measure => simp [intOf] <;> omega
    · have hje : j = ks.length := by omega
      subst hje
      rw [List.take_of_length_le (Nat.le_refl _)] at hgd
      have hlen : ks.length ≤ 60 := by omega
      have hre := Hrest.out hgd hlen
      have hM := Hc.out _ hbw
      obtain ⟨x0, x1, x2, x3, x4, x5⟩ := hM.cells
      have Hre := Lib.hid hre
      have HM := Lib.hid hM
      have hgc := Hg.out _ hbw
      have Hgc := Lib.hid hgc
      clear hre hM hgc hgd Hg Hc
      go_wp2_with fail
      refine (Hgc.out).mono ?_; rintro e w2 ⟨rfl, hb2⟩
      have hbw2 := hbw.trans (hb2.mono hbw.size)
      obtain ⟨y0, y1, y2, y3, y4, y5⟩ := (HM.out.below hb2).cells
      clear x0 x1 x2 x3 x4 x5
      have hfin := HbW.out.trans (hbw2.mono HbW.out.size)
      cases mg
      · have hqe := Hre.out
        rw [Bool.false_and] at hqe
        subst hqe
        go_wp2
        go_ret
        exact ⟨rfl, hfin⟩
      · by_cases hb2k : m.body.length ≤ 2000
        · have hqe := Hre.out
          rw [decide_eq_true hb2k, Bool.and_true] at hqe
          subst hqe
          have hbi : (m.body.length : Int) ≤ 2000 := by omega
          go_wp2
          go_ret
          exact ⟨rfl, hfin⟩
        · have hqe := Hre.out
          rw [decide_eq_false hb2k, Bool.and_false] at hqe
          subst hqe
          have hbi : decide ((m.body.length : Int) ≤ 2000) = false := decide_eq_false (by omega)
          go_wp2
          go_ret
          exact ⟨by first | rfl | (simp only [hbi]; rfl) | (rw [hbi]; rfl) | exact ret_bool hbi, hfin⟩
end Go.Proofs.YtjddicoigbidlaaGreatDoor
