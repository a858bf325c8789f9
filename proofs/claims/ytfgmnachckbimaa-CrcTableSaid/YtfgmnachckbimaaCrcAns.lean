/-
  The walks of the four statements on the checksum, but for their frames.
-/
import Derived.Test.YtfgmnachckbimaaCrcRef
import Derived.Lib.SlBytesConst
import Derived.WalkSpells
set_option linter.unusedSimpArgs false
set_option linter.unusedVariables false
namespace Go.Proofs.Ytfgmnachckbimaa
open Go.RowKit
theorem crc_mod2 (c : BitVec 32) : ((c.toNat : Int) % 2 == 1) = c.getLsbD 0 := by
  rw [← BitVec.testBit_toNat, Nat.testBit_zero]
  rw [Bool.eq_iff_iff]; simp; omega
theorem crc_known : PbCrc.sum [49, 50, 51, 52, 53, 54, 55, 56, 57] = 3421780262#32 := by decide +kernel
theorem crc_tab128 : PbCrc.tab 128 = 3988292384#32 := by decide +kernel
theorem crcTabV_index128 (w : World) : (Instr.index 27 (.agg crcTabV) (.int .i64 128)).run Try.prog w = .ok (.int .u32 3988292384) w := by
  have h := crcTabV_get 128
  have h' : crcTabV[128]? = some (.int .u32 3988292384) := by rw [show (128 : Nat) = (128 : UInt8).toNat from rfl, h]; show some (u32v (PbCrc.tab 128)) = _; rw [crc_tab128]; rfl
  simp [Instr.index, run_underlying Try.underlying27, asIntOf, go_sem, h']
theorem crcSum_known (v : Value) (w : World) (hv : RdB w v [49, 50, 51, 52, 53, 54, 55, 56, 57]) :
    Calls Try.prog 14 #[v] w fun e w' => e = .returned (.int .u32 3421780262) ∧ Below w.heap.size w w' :=
  (crcSum_calls v _ w hv).mono fun e w' h => ⟨by rw [h.1, crc_known]; rfl, h.2⟩
set_option maxRecDepth 100000 in
set_option maxHeartbeats 400000 in
theorem crcAnswers_calls (w : World) : Calls Try.prog 13 #[] w fun e w' => e = .returned (.bool true) ∧ Below w.heap.size w w' := by
  have hix := crcTabV_index128
  have kc := fun (w : World) (C : Array Value) (n c : Nat) => Lib.run_convert_bytes_const (P := Try.prog) w 22 5 C n c Try.underlying22 Try.underlying5
  go_enter Try.func13, Try.ntmps13
  go_wp2_with (first
    | (go_at_call 14; go_must (refine (crcSum_known _ _ (rdB_new _ [49, 50, 51, 52, 53, 54, 55, 56, 57] (by simp) _ _ _ _ rfl rfl _ (by decide) (by decide))).mono ?_); rintro e w1 ⟨rfl, hb⟩)
    | (go_at_call 16; refine (crcTable_calls _).mono ?_; rintro e w2 ⟨rfl, hb2⟩))
  go_ret
  exact ⟨rfl, (((Below.refl _ _).alloc (Nat.le_refl _) _).trans (hb.mono (by simp))).trans (hb2.mono (by have := hb.size; simp at this; omega))⟩

set_option maxRecDepth 100000 in
set_option maxHeartbeats 400000 in
theorem crcSums_walk (v : Value) (bs : List UInt8) (w : World) (hv : RdB w v bs) :
    Calls Try.prog 3 #[v] w fun e w' => e = .returned (.bool true) ∧ Below w.heap.size w w' := by
  obtain ⟨a, cap, rfl, hl, hc⟩ := hv.form
  by_cases hbig : 20000 < bs.length
  · go_enter Try.func3, Try.ntmps3
    go_wp2_with (go_at_call 13; refine (crcAnswers_calls _).mono ?_; rintro e w1 ⟨rfl, hb⟩)
    go_ret
    exact ⟨rfl, hb⟩
  · go_enter Try.func3, Try.ntmps3
    go_wp2_with (first
      | (go_at_call 13; refine (crcAnswers_calls _).mono ?_; rintro e w1 ⟨rfl, hb⟩)
      | (go_at_call 14; refine (crcSum_calls _ _ _ (hv.below (Nat.le_refl _) hb)).mono ?_; rintro e w2 ⟨rfl, hb2⟩)
      | (go_at_call 15; refine (refCRC_calls _ _ _ ((hv.below (Nat.le_refl _) hb).below (Nat.le_refl _) hb2)).mono ?_; rintro e w3 ⟨rfl, rfl⟩))
    go_ret
    exact ⟨rfl, hb.trans (hb2.mono hb.size)⟩
set_option maxRecDepth 100000 in
set_option maxHeartbeats 400000 in
theorem crcLawTable_walk (n : UInt8) (w : World) :
    Calls Try.prog 4 #[u8v n] w fun e w' => e = .returned (.bool true) ∧ Below w.heap.size w w' := by
  go_enter Try.func4, Try.ntmps4
  go_wp2
  go_loop [3, 4] (fun c i => ∃ j : Nat, j ≤ 8 ∧ i = .int .i64 j ∧ c = u32v (PbCrc.steps j (BitVec.ofNat 32 n.toNat))) (fun _ i => 8 - (intOf i).toNat)
  case atStart =>
    refine ⟨0, by omega, rfl, ?_⟩
    show _ = Value.int IntKind.u32 (((BitVec.ofNat 32 n.toNat).toNat : Nat) : Int)
    have := n.toNat_lt
    rw [BitVec.toNat_ofNat, Nat.mod_eq_of_lt (by omega)]
    congr 1
    omega
  case round =>
    obtain ⟨j, hj, rfl, rfl⟩ := hrel
    have hs := PbCrc.steps_succ j (BitVec.ofNat 32 n.toNat)
    by_cases hlt : j < 8
    · generalize PbCrc.steps j (BitVec.ofNat 32 n.toNat) = c at hs
      have hlow := crc_mod2 c
      by_cases hd : c.getLsbD 0 = true
      all_goals
        first | (rw [hd] at hlow) | (rw [Bool.not_eq_true] at hd; rw [hd] at hlow)
        rw [PbCrc.step, hd] at hs
        have Hs := Lib.hid hs
        have Hp := Lib.hid (crc_poly (c >>> 1))
        clear hs hd
        go_wp2
        go_round
        case rel => exact ⟨j + 1, by omega, by go_num, by rw [Hs.out]; first | (rw [crc_shr1, Hp.out]; rfl) | (rw [crc_shr1]; rfl) | (rw [crc_shr1', Hp.out]; rfl) | (rw [crc_shr1']; rfl)⟩
        case measure => simp [intOf]; omega
    · have hj8 : j = 8 := by omega
      subst hj8
      have ht : PbCrc.steps 8 (BitVec.ofNat 32 n.toNat) = PbCrc.tab n.toNat := rfl
      rw [ht]
      have hix := crcTabV_index n
      clear hs ht
      go_wp2_with (first
        | (go_at_call 13; refine (crcAnswers_calls _).mono ?_; rintro e w1 ⟨rfl, hb⟩)
        | (go_at_call 16; refine (crcTable_calls _).mono ?_; rintro e w2 ⟨rfl, hb2⟩))
      go_ret
      exact ⟨rfl, hb.trans (hb2.mono hb.size)⟩
end Go.Proofs.Ytfgmnachckbimaa
