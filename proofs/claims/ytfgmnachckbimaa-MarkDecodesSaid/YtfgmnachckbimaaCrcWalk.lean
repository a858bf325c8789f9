/-
  What the checksum's functions compute: crc.Table, crc.table, crc.Sum and the reference's CRC, for every input.
-/
import Derived.Test.YtfgmnachckbimaaProg
import Derived.Test.YtfgmnachckbimaaBase
import Derived.Test.YtfgmnachckbimaaCrcPure
set_option linter.unusedSimpArgs false
set_option linter.unusedVariables false
namespace Go.Proofs.Ytfgmnachckbimaa
open Go.RowKit
def crcTabV : Array Value := (Array.range 256).map fun n => u32v (PbCrc.tab n)
def crcTabK (k : Nat) : Array Value := (Array.range 256).map fun n => if n < k then u32v (PbCrc.tab n) else .int .u32 0
def crcZ : Array Value := Array.replicate 256 (.int .u32 0)
theorem crcZero (w : World) : (zeroValue 27).run Try.prog w = .ok (.agg crcZ) w := by kernel_rfl
theorem crcTabK_zero : crcTabK 0 = crcZ := by
  apply Array.ext (by simp [crcTabK, crcZ])
  intro i h1 h2; simp [crcTabK, crcZ]
theorem crcTabK_full : crcTabK 256 = crcTabV := by
  apply Array.ext (by simp [crcTabK, crcTabV])
  intro i h1 h2
  have : i < 256 := by simpa [crcTabK] using h1
  simp [crcTabK, crcTabV, this]
theorem crcTabK_set (k : Nat) (hk : k < 256) : (crcTabK k).setIfInBounds k (u32v (PbCrc.tab k)) = crcTabK (k + 1) := by
  apply Array.ext (by simp [crcTabK])
  intro i h1 h2
  have : i < 256 := by simpa [crcTabK] using h2
  rw [Array.getElem_setIfInBounds (by simpa [crcTabK] using this)]
  by_cases e : k = i
  · subst e; simp [crcTabK]
  · simp only [crcTabK, Array.getElem_map, Array.getElem_range, if_neg e]
    by_cases h : i < k
    · rw [if_pos h, if_pos (by omega)]
    · rw [if_neg h, if_neg (by omega)]
theorem crcTabK_size (k : Nat) : (crcTabK k).size = 256 := by simp [crcTabK]
theorem crc_low (c : BitVec 32) : (bits .and .u32 (c.toNat : Int) 1 == 1) = c.getLsbD 0 := by
  rw [show (1 : Int) = (((1 : BitVec 32).toNat : Nat) : Int) from rfl, bits_and32]
  have : c &&& 1#32 = if c.getLsbD 0 then 1#32 else 0#32 := by
    apply BitVec.eq_of_getLsbD_eq; intro i hi
    cases i with
    | zero => cases h : c.getLsbD 0 <;> simp at h <;> simp [h]
    | succ i => cases h : c.getLsbD 0 <;> simp
  show ((((c &&& 1#32).toNat : Nat) : Int) == _) = _
  rw [this]
  cases c.getLsbD 0 <;> decide
theorem crc_shr1 (c : BitVec 32) : (c.toNat : Int) / (2 : Int) = ((c >>> 1).toNat : Int) := by
  rw [BitVec.toNat_ushiftRight, Nat.shiftRight_eq_div_pow]; rfl
theorem crc_shr1' (c : BitVec 32) : (c.toNat : Int) >>> 1 = ((c >>> 1).toNat : Int) := rfl
theorem crc_shr8 (c : BitVec 32) : (c.toNat : Int) / (256 : Int) = ((c >>> 8).toNat : Int) := by
  rw [BitVec.toNat_ushiftRight, Nat.shiftRight_eq_div_pow]; rfl
theorem crc_poly (c : BitVec 32) : bits .xor .u32 (c.toNat : Int) 3988292384 = ((c ^^^ PbCrc.poly).toNat : Int) := bits_xor32 c PbCrc.poly
theorem crcTabV_size : crcTabV.size = 256 := by simp [crcTabV]
theorem crcTabV_one : crcTabV.all (·.oneCell') = true := by
  rw [Array.all_eq_true]; intro i h; simp [crcTabV, Value.oneCell']
set_option maxRecDepth 100000 in
set_option maxHeartbeats 400000 in
theorem crcTable_calls (w : World) : Calls Try.prog 16 #[] w fun e w' => e = .returned (.agg crcTabV) ∧ Below w.heap.size w w' := by
  have hz := crcZero
  go_enter Try.func16, Try.ntmps16
  go_wp2
  go_loopw [5] (fun i wr => ∃ (k : Nat), k ≤ 256 ∧ i = .int .i64 k ∧ wr = (w.alloc (Obj.cells crcZ 27)).alloc (Obj.cells (crcTabK k) 27)) (fun i _ => 256 - (intOf i).toNat)
  case atStart => exact ⟨0, by omega, rfl, by rw [crcTabK_zero]⟩
  case round =>
    obtain ⟨k, hk, rfl, rfl⟩ := hrel
    by_cases hlt : k < 256
    · go_wp2
      go_loop [3, 10] (fun c i => ∃ j : Nat, j ≤ 8 ∧ i = .int .i64 j ∧ c = u32v (PbCrc.steps j (BitVec.ofNat 32 k))) (fun _ i => 8 - (intOf i).toNat)
      case atStart =>
        refine ⟨0, by omega, rfl, ?_⟩
        show _ = Value.int IntKind.u32 (((BitVec.ofNat 32 k).toNat : Nat) : Int)
        rw [BitVec.toNat_ofNat, Nat.mod_eq_of_lt (by omega)]
      case round =>
        obtain ⟨j, hj, rfl, rfl⟩ := hrel
        have hs := PbCrc.steps_succ j (BitVec.ofNat 32 k)
        generalize hc : PbCrc.steps j (BitVec.ofNat 32 k) = c at hs
        have Hc := Lib.hid hc
        clear hc
        have hlow := crc_low c
        have Hs := Lib.hid hs
        clear hs
        by_cases hlt2 : j < 8
        · by_cases hb : c.getLsbD 0 = true
          · rw [hb] at hlow
            go_wp2
            have Hp := crc_poly (c >>> 1)
            go_round
            case rel => exact ⟨j + 1, by omega, by go_num, by rw [Hs.out, PbCrc.step, if_pos hb]; first | rw [crc_shr1, Hp] | rw [crc_shr1', Hp]⟩
            case measure => simp [intOf] <;> omega
          · have hb : c.getLsbD 0 = false := by simpa using hb
            rw [hb] at hlow
            go_wp2
            go_round
            case rel => exact ⟨j + 1, by omega, by go_num, by rw [Hs.out, PbCrc.step, if_neg (by rw [hb]; decide)]; first | rw [crc_shr1] | rw [crc_shr1']⟩
            case measure => simp [intOf] <;> omega
        · have hj8 : j = 8 := by omega
          subst hj8
          have hsz := crcTabK_size k
          go_wp2
          have hset := crcTabK_set k hlt
          have Hset : Hid ((crcTabK k).setIfInBounds k (u32v c) = crcTabK (k + 1)) := by rw [← Hc.out]; exact hset
          clear hset
          go_roundw
          case rel => exact ⟨k + 1, by omega, by go_num, by rw [Hset.out]⟩
          case measure => simp [intOf] <;> omega
    · have : k = 256 := by omega
      subst this
      rw [crcTabK_full]
      have hi : (Try.prog.info? 27).map (·.size) = some crcTabV.size := by rw [crcTabV_size]; kernel_rfl
      go_wp2_with (first
        | (refine wpList_load_row rfl 27 (.tmp 1) rfl (w.heap.size + 1) rfl 27 crcTabV (0, 0) _ (heap_alloc2_new _ _ _) Try.underlying27 rfl hi ?_)
        | (refine wpList_store_row rfl 27 (.tmp 0) (.tmp 25) rfl w.heap.size crcTabV rfl rfl 27 crcZ (heap_alloc2_old _ _ _) hi (by rw [crcTabV_size]; rfl) crcTabV_one ?_))
      refine bodyPost_ret (results_cell_row rfl _ _ w.heap.size 27 crcTabV (0, 0) _ rfl (setRow_heap _ _ crcZ _ _ _ (heap_alloc2_old _ _ _)) Try.underlying27 rfl hi) rfl ⟨rfl, ?_⟩
      exact below_setRow (((Below.refl _ _).alloc (Nat.le_refl _) _).alloc (by simp) _) (by simp) _

theorem crcTabV_get (x : UInt8) : crcTabV[x.toNat]? = some (u32v (PbCrc.tab x.toNat)) := by
  have := x.toNat_lt
  rw [Array.getElem?_eq_getElem (by rw [crcTabV_size]; omega)]
  simp [crcTabV]
theorem crcTabV_index (x : UInt8) (w : World) : (Instr.index 27 (.agg crcTabV) (.int .u8 (x.toNat : Int))).run Try.prog w = .ok (u32v (PbCrc.tab x.toNat)) w := by
  have hx := x.toNat_lt
  have h := crcTabV_get x
  have hlt : (x.toNat : Int) < 256 := by omega
  simp [Instr.index, run_underlying Try.underlying27, asIntOf, go_sem, h, hlt]
  intro h'; omega
set_option maxRecDepth 100000 in
set_option maxHeartbeats 400000 in
theorem crctable_calls (w : World) : Calls Try.prog 28 #[] w fun e w' => e = .returned (.agg crcTabV) ∧ Below w.heap.size w w' := by
  have hz := crcZero
  have hi : (Try.prog.info? 27).map (·.size) = some crcTabV.size := by rw [crcTabV_size]; kernel_rfl
  go_enter Try.func28, Try.ntmps28
  go_wp2_with (first
    | (go_at_call 16; refine (crcTable_calls _).mono ?_; rintro e w1 ⟨rfl, hb⟩)
    | (refine wpList_store_row rfl 27 (.tmp 0) (.tmp 1) rfl w.heap.size crcTabV rfl rfl 27 crcZ ((hb.block _ (by simp)).trans (heap_alloc_new _ _)) hi (by rw [crcTabV_size]; rfl) crcTabV_one ?_))
  refine bodyPost_ret (results_cell_row rfl _ _ w.heap.size 27 crcTabV (0, 0) _ rfl (setRow_heap _ _ crcZ _ _ _ ((hb.block _ (by simp)).trans (heap_alloc_new _ _))) Try.underlying27 rfl hi) rfl ⟨rfl, ?_⟩
  exact below_setRow (((Below.refl _ _).alloc (Nat.le_refl _) _).trans (hb.mono (by simp))) (by simp) _
theorem crc_u8 (c : BitVec 32) : (c.toNat : Int) % (256 : Int) = ((UInt8.ofNat c.toNat).toNat : Int) := by
  rw [UInt8.toNat_ofNat']; rfl
theorem crc_not (c : BitVec 32) : Value.int .u32 (bits .xor .u32 IntKind.u32.max (c.toNat : Int)) = u32v (~~~ c) := by
  have h : (IntKind.u32.max : Int) = ((BitVec.allOnes 32).toNat : Int) := by decide
  rw [h, bits_xor32, BitVec.allOnes_xor]
set_option maxRecDepth 100000 in
set_option maxHeartbeats 400000 in
theorem crcSum_calls (v : Value) (bs : List UInt8) (w : World) (hv : RdB w v bs) :
    Calls Try.prog 14 #[v] w fun e w' => e = .returned (u32v (PbCrc.sum bs)) ∧ Below w.heap.size w w' := by
  rcases hv with ⟨a, c, rfl, hc, rfl⟩ | ⟨b, off, cap, rfl, hne, hlc, hcap, hbw, hcell⟩
  · go_enter Try.func14, Try.ntmps14
    go_wp2
    go_loop [3, 8] (fun c i => i = .int .i64 0 ∧ c = .int .u32 4294967295) (fun _ _ => 0)
    case atStart => exact ⟨rfl, rfl⟩
    case round =>
      obtain ⟨rfl, rfl⟩ := hrel
      go_wp2
      go_ret
      exact ⟨rfl, Below.refl _ _⟩
  · go_enter Try.func14, Try.ntmps14
    go_wp2
    go_loopw [3, 8] (fun c i wr => ∃ k : Nat, k ≤ bs.length ∧ i = .int .i64 k ∧ c = u32v (PbCrc.run (BitVec.allOnes 32) (bs.take k)) ∧ Below w.heap.size w wr) (fun _ i _ => bs.length - (intOf i).toNat)
    case atStart => exact ⟨0, Nat.zero_le _, rfl, rfl, Below.refl _ _⟩
    case round =>
      obtain ⟨k, hk, rfl, rfl, hbw2⟩ := hrel
      by_cases hlt : k < bs.length
      · obtain ⟨x, hx⟩ : ∃ x, bs[k]? = some x := ⟨bs[k], List.getElem?_eq_getElem hlt⟩
        have hc := (hbw2.cell (p := ⟨b, off + k, none⟩) hbw).trans (hcell k x hx)
        have hrun := PbCrc.run_snoc (BitVec.allOnes 32) (bs.take k) x
        rw [← take_snoc hx, ← PbCrc.byteTab_eq] at hrun
        generalize PbCrc.run (BitVec.allOnes 32) (bs.take k) = c at hrun
        have Hrun := Lib.hid hrun
        clear hrun hx
        have hb8 : bits .xor .u8 ((c.toNat : Int) % 256) (x.toNat : Int) = ((UInt8.ofNat c.toNat ^^^ x).toNat : Int) := by rw [crc_u8, bits_xor8]
        have hix := crcTabV_index (UInt8.ofNat c.toNat ^^^ x)
        have hx32 : bits .xor .u32 ((PbCrc.tab (UInt8.ofNat c.toNat ^^^ x).toNat).toNat : Int) ((c.toNat : Int) / 256) = ((PbCrc.byteTab c x).toNat : Int) := by rw [crc_shr8, bits_xor32]; rfl
        generalize UInt8.ofNat c.toNat ^^^ x = y at hb8 hix hx32
        generalize PbCrc.byteTab c x = c2 at hx32 Hrun
        go_wp2_with (go_at_call 28; refine (crctable_calls _).mono ?_; rintro e w1 ⟨rfl, hb⟩)
        have hbw3 := hbw2.trans (hb.mono hbw2.size)
        go_roundw
        case rel => exact ⟨k + 1, by omega, by go_num, by rw [Hrun.out], hbw3⟩
        case measure => simp [intOf] <;> omega
      · have : bs.take k = bs := List.take_of_length_le (by omega)
        rw [this]
        go_wp2
        go_ret
        exact ⟨by rw [crc_not]; rfl, hbw2⟩
end Go.Proofs.Ytfgmnachckbimaa
