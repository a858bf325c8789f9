/-
  Reader.Done, and slices.Equal of bytes.
-/
import Derived.Test.YtfgmnachckbimaaRead
import Derived.Deep.QuietTactic
import Derived.BigQuiet
set_option linter.unusedSimpArgs false
set_option linter.unusedVariables false
namespace Go.Proofs.Ytfgmnachckbimaa
open Go.RowKit
def rdDone (bs : List UInt8) (bad : Bool) : Bool := !bad && decide (bs.length = 0)
set_option maxRecDepth 100000 in
set_option maxHeartbeats 400000 in
theorem rDone_calls (b : Nat) (v : Value) (bs : List UInt8) (bad : Bool) (w : World) (hR : RdAt w b v bs bad) :
    Calls Try.prog 42 #[.pointer (some ⟨b, 0, none⟩)] w fun e w' => e = .returned (.bool (rdDone bs bad)) ∧ w = w' := by
  obtain ⟨hc0, hc1, hf0, hf1⟩ := hR.cells
  obtain ⟨a, cap, hv, hl, hc⟩ := hR.rd.form
  subst hv
  have hlen : ((bs.length : Int) == 0) = decide (bs.length = 0) := by rw [Bool.eq_iff_iff]; simp
  cases bad
  · by_cases h0 : bs.length = 0
    all_goals
      simp only [h0, decide_true, decide_false] at hlen
      go_enter Try.func42, Try.ntmps42
      go_wp2
      go_ret
      exact ⟨ret_bool (by simp [rdDone, h0]), rfl⟩
  · go_enter Try.func42, Try.ntmps42
    go_wp2
    go_ret
    exact ⟨ret_bool (by simp [rdDone]), rfl⟩
theorem RdB.cellAny {w : World} {a : Option Addr} {n cap : Nat} {bs : List UInt8} (h : RdB w (.slice a n cap) bs) (hne : 0 < bs.length) :
    ∃ b off, a = some ⟨b, off, none⟩ ∧ b < w.heap.size ∧ ∀ j x, bs[j]? = some x → w.cell? ⟨b, off + j, none⟩ = some (u8v x) := by
  rcases h with ⟨_, _, _, _, h⟩ | ⟨b, off, cap', h, _, _, _, h4, h5⟩
  · subst h; simp at hne
  · cases h; exact ⟨b, off, rfl, h4, h5⟩
set_option maxRecDepth 100000 in
set_option maxHeartbeats 1000000 in
theorem equal_calls (v1 v2 : Value) (xs ys : List UInt8) (w : World) (h1 : RdB w v1 xs) (h2 : RdB w v2 ys) :
    Calls Try.prog 43 #[v1, v2] w fun e w' => e = .returned (.bool (decide (xs = ys))) ∧ Below w.heap.size w w' := by
  obtain ⟨a1, c1, rfl, l1, m1⟩ := h1.form
  obtain ⟨a2, c2, rfl, l2, m2⟩ := h2.form
  by_cases hl : xs.length = ys.length
  · have hne : ((xs.length : Int) != (ys.length : Int)) = false := by rw [bne_eq_false_iff_eq]; omega
    go_enter Try.func43, Try.ntmps43
    go_wp2
    go_loopw [13] (fun i wr => ∃ k : Nat, k ≤ xs.length ∧ i = .int .i64 k ∧ xs.take k = ys.take k ∧ Below w.heap.size w wr) (fun i _ => xs.length - (intOf i).toNat)
    case atStart => exact ⟨0, Nat.zero_le _, rfl, rfl, Below.refl _ _⟩
    case round =>
      obtain ⟨k, hk, rfl, hpre, hb⟩ := hrel
      by_cases hlt : k < xs.length
      · obtain ⟨x, hx⟩ : ∃ x, xs[k]? = some x := ⟨xs[k], List.getElem?_eq_getElem hlt⟩
        obtain ⟨y, hy⟩ : ∃ y, ys[k]? = some y := ⟨ys[k], List.getElem?_eq_getElem (by omega)⟩
        obtain ⟨b1, o1, e1, hb1, hcell1⟩ := (h1.below (Nat.le_refl _) hb).cellAny (by omega)
        obtain ⟨b2, o2, e2, hb2, hcell2⟩ := (h2.below (Nat.le_refl _) hb).cellAny (by omega)
        have hcx := hcell1 k x hx
        have hcy := hcell2 k y hy
        subst e1 e2
        have hxs := take_snoc hx
        have hys := take_snoc hy
        have Hxs := Lib.hid hxs
        have Hys := Lib.hid hys
        have Hpre := Lib.hid hpre
        have Hx := Lib.hid hx
        have Hy := Lib.hid hy
        have hky : k < ys.length := by omega
        have hkI : (k : Int) < (xs.length : Int) := by omega
        have hkJ : (k : Int) < (ys.length : Int) := by omega
        clear hcell1 hcell2 hxs hys hpre hx hy h1 h2
        by_cases hxy : x = y
        · have htest : ((x.toNat : Int) != (y.toNat : Int)) = false := by rw [hxy]; simp
          have Hxy := Lib.hid hxy
          clear hxy
          go_wp2
          go_quiet (fail)
          go_wp2
          go_roundw
          case rel => exact ⟨k + 1, by omega, by go_num, by rw [Hxs.out, Hys.out, Hpre.out, Hxy.out], by first | exact hb | exact below_drewN hb _⟩
          case measure => simp [intOf] <;> omega
        · have htest : ((x.toNat : Int) != (y.toNat : Int)) = true := by rw [bne_iff_ne]; intro h; exact hxy (UInt8.toNat_inj.1 (by omega))
          go_wp2
          go_quiet (fail)
          go_wp2
          go_ret
          refine ⟨ret_bool (decide_eq_false ?_), by first | exact hb | exact below_drewN hb _⟩
          intro e
          have h := Hx.out
          rw [e, Hy.out] at h
          have : x = y := (Option.some.inj h).symm
          subst this
          simp at htest
      · have hkl : k = xs.length := by omega
        rw [List.take_of_length_le (by omega), List.take_of_length_le (by omega)] at hpre
        have Hpre := Lib.hid hpre
        clear hpre
        go_wp2
        go_ret
        exact ⟨ret_bool (decide_eq_true Hpre.out), hb⟩
  · have hne : ((xs.length : Int) != (ys.length : Int)) = true := by rw [bne_iff_ne]; omega
    go_enter Try.func43, Try.ntmps43
    go_wp2
    go_ret
    exact ⟨ret_bool (decide_eq_false (fun e => hl (by rw [e]))), Below.refl _ _⟩
end Go.Proofs.Ytfgmnachckbimaa
