/-
  What the reference's CRC computes, bit by bit: the same sum.
-/
import Derived.Test.YtfgmnachckbimaaCrcWalk
set_option linter.unusedSimpArgs false
set_option linter.unusedVariables false
namespace Go.Proofs.Ytfgmnachckbimaa
open Go.RowKit
set_option maxRecDepth 100000 in
set_option maxHeartbeats 400000 in
theorem refCRC_calls (v : Value) (bs : List UInt8) (w : World) (hv : RdB w v bs) :
    Calls Try.prog 15 #[v] w fun e w' => e = .returned (u32v (PbCrc.sum bs)) ∧ w = w' := by
  rcases hv with ⟨a, c, rfl, hc, rfl⟩ | ⟨b, off, cap, rfl, hne, hlc, hcap, hbw, hcell⟩
  · go_enter Try.func15, Try.ntmps15
    go_wp2
    go_loop [3, 4] (fun c i => i = .int .i64 0 ∧ c = .int .u32 4294967295) (fun _ _ => 0)
    case atStart => exact ⟨rfl, rfl⟩
    case round =>
      obtain ⟨rfl, rfl⟩ := hrel
      go_wp2
      go_ret
      exact ⟨rfl, rfl⟩
  · go_enter Try.func15, Try.ntmps15
    go_wp2
    go_loop [3, 4] (fun c i => ∃ k : Nat, k ≤ bs.length ∧ i = .int .i64 k ∧ c = u32v (PbCrc.run (BitVec.allOnes 32) (bs.take k))) (fun _ i => bs.length - (intOf i).toNat)
    case atStart => exact ⟨0, Nat.zero_le _, rfl, rfl⟩
    case round =>
      obtain ⟨k, hk, rfl, rfl⟩ := hrel
      by_cases hlt : k < bs.length
      · obtain ⟨x, hx⟩ : ∃ x, bs[k]? = some x := ⟨bs[k], List.getElem?_eq_getElem hlt⟩
        have hc := hcell k x hx
        have hrun := PbCrc.run_snoc (BitVec.allOnes 32) (bs.take k) x
        rw [← take_snoc hx, ← PbCrc.bitRun_byte] at hrun
        generalize PbCrc.run (BitVec.allOnes 32) (bs.take k) = c at hrun
        have Hrun := Lib.hid hrun
        clear hrun hx hcell
        go_wp2
        go_loop [3, 5] (fun d i => ∃ j : Nat, j ≤ 8 ∧ i = .int .i64 j ∧ d = u32v (PbCrc.bitRun c x j)) (fun _ i => 8 - (intOf i).toNat)
        case atStart => exact ⟨0, by omega, rfl, rfl⟩
        case round =>
          obtain ⟨j, hj, rfl, rfl⟩ := hrel
          have hs : PbCrc.bitRun c x (j + 1) = PbCrc.bitStep (PbCrc.bitRun c x j) (x.toNat.testBit j) := rfl
          by_cases hlt2 : j < 8
          · generalize PbCrc.bitRun c x j = d at hs
            have hlow := crc_low d
            have hbit := u8_bit x j
            have Hp := Lib.hid (crc_poly (d >>> 1))
            by_cases hd : d.getLsbD 0 = true <;> by_cases hb : x.toNat.testBit j = true
            all_goals
              first | (rw [hd] at hlow) | (rw [Bool.not_eq_true] at hd; rw [hd] at hlow)
              first | (rw [hb] at hbit) | (rw [Bool.not_eq_true] at hb; rw [hb] at hbit)
              rw [PbCrc.bitStep, hd, hb] at hs
              have Hs := Lib.hid hs
              clear hs hd hb
              go_wp2
              go_round
              case rel => exact ⟨j + 1, by omega, by go_num, by rw [Hs.out]; first | (rw [crc_shr1, Hp.out]; rfl) | (rw [crc_shr1]; rfl) | (rw [crc_shr1', Hp.out]; rfl) | (rw [crc_shr1']; rfl)⟩
              case measure => simp [intOf] <;> omega
          · have hj8 : j = 8 := by omega
            subst hj8
            generalize PbCrc.bitRun c x 8 = d at Hrun
            clear hs
            go_wp2
            go_round
            case rel => exact ⟨k + 1, by omega, by go_num, by rw [Hrun.out]⟩
            case measure => simp [intOf] <;> omega
      · have : bs.take k = bs := List.take_of_length_le (by omega)
        rw [this]
        go_wp2
        go_ret
        exact ⟨by rw [crc_not]; rfl, rfl⟩
end Go.Proofs.Ytfgmnachckbimaa
