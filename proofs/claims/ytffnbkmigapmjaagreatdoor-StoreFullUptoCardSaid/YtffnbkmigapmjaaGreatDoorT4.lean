/- Printed out of the texts of wip/tpl. -/
import Derived.Test.YtffnbkmigapmjaaGreatDoorT1
import Derived.Test.YtffnbkmigapmjaaGreatDoorT2
import Derived.Test.YtffnbkmigapmjaaGreatDoorT3
import Derived.Test.YtffnbkmigapmjaaGreatDoorProg
import Derived.Deep.QuietTactic
import Derived.BigQuiet
set_option linter.unusedSimpArgs false
set_option linter.unusedVariables false
namespace Go.Proofs.YtffnbkmigapmjaaGreatDoor
open Go.RowKit
def crcTabV : Array Value := (Array.range 256).map fun n => u32v (PbCrc.tab n)
def crcTabK (k : Nat) : Array Value := (Array.range 256).map fun n => if n < k then u32v (PbCrc.tab n) else .int .u32 0
def crcZ : Array Value := Array.replicate 256 (.int .u32 0)
theorem crcZero (w : World) : (zeroValue 216).run Tryz.prog w = .ok (.agg crcZ) w := by kernel_rfl
theorem crcTabK_zero : crcTabK 0 = crcZ := by
 apply Array.ext (by simp [crcTabK, crcZ])
 intro i h1 h2; simp [crcTabK, crcZ]
theorem crcTabK_full : crcTabK 256 = crcTabV := by
 apply Array.ext (by simp [crcTabK, crcTabV])
 intro i h1 h2
 have : i < 256 := by simpa [crcTabK] using h1
 simp [crcTabK, crcTabV, this]
theorem crcTabK_set (k : Nat) (hk : k < 256) : (crcTabK k).setIfInBounds k (u32v (PbCrc.tab k)) = crcTabK (k + 1) := by
 apply Array.ext (by simp [crcTabK])
 intro i h1 h2
 have : i < 256 := by simpa [crcTabK] using h2
 rw [Array.getElem_setIfInBounds (by simpa [crcTabK] using this)]
 by_cases e : k = i
 ·subst e; simp [crcTabK]
 ·simp only [crcTabK, Array.getElem_map, Array.getElem_range, if_neg e]
  by_cases h : i < k
  ·rw [if_pos h, if_pos (by omega)]
  ·rw [if_neg h, if_neg (by omega)]
theorem crcTabK_size (k : Nat) : (crcTabK k).size = 256 := by simp [crcTabK]
theorem crc_low (c : BitVec 32) : (bits .and .u32 (c.toNat : Int) 1 == 1) = c.getLsbD 0 := by
 rw [show (1 : Int) = (((1 : BitVec 32).toNat : Nat) : Int) from rfl, bits_and32]
 have : c &&& 1#32 = if c.getLsbD 0 then 1#32 else 0#32 := by
  apply BitVec.eq_of_getLsbD_eq; intro i hi
  cases i with
  | zero => cases h : c.getLsbD 0 <;> simp at h <;> simp [h]
  | succ i => cases h : c.getLsbD 0 <;> simp
 show ((((c &&& 1#32).toNat : Nat) : Int) == _) = _
 rw [this]
 cases c.getLsbD 0 <;> decide
theorem crc_shr1 (c : BitVec 32) : (c.toNat : Int) / (2 : Int) = ((c >>> 1).toNat : Int) := by
 rw [BitVec.toNat_ushiftRight, Nat.shiftRight_eq_div_pow]; rfl
theorem crc_shr1' (c : BitVec 32) : (c.toNat : Int) >>> 1 = ((c >>> 1).toNat : Int) := rfl
theorem crc_shr8 (c : BitVec 32) : (c.toNat : Int) / (256 : Int) = ((c >>> 8).toNat : Int) := by
 rw [BitVec.toNat_ushiftRight, Nat.shiftRight_eq_div_pow]; rfl
theorem crc_poly (c : BitVec 32) : bits .xor .u32 (c.toNat : Int) 3988292384 = ((c ^^^ PbCrc.poly).toNat : Int) := bits_xor32 c PbCrc.poly
theorem crcTabV_size : crcTabV.size = 256 := by simp [crcTabV]
theorem crcTabV_one : crcTabV.all (·.oneCell') = true := by
 rw [Array.all_eq_true]; intro i h; simp [crcTabV, Value.oneCell']
set_option maxRecDepth 100000 in
set_option maxHeartbeats 400000 in
theorem crcTable_calls (w : World) : Calls Tryz.prog 200 #[] w fun e w' => e = .returned (.agg crcTabV) ∧ Below w.heap.size w w' := by
 have hz := crcZero
 go_enter Tryz.func200, Tryz.ntmps200
 go_wp2
 go_loopw [5] (fun i wr => ∃ (k : Nat), k ≤ 256 ∧ i = .int .i64 k ∧ wr = (w.alloc (Obj.cells crcZ 216)).alloc (Obj.cells (crcTabK k) 216)) (fun i _ => 256 - (intOf i).toNat)
 case atStart => exact ⟨0, by omega, rfl, by rw [crcTabK_zero]⟩
 case round =>
  obtain ⟨k, hk, rfl, rfl⟩ := hrel
  by_cases hlt : k < 256
  ·go_wp2
   go_loop [3, 10] (fun c i => ∃ j : Nat, j ≤ 8 ∧ i = .int .i64 j ∧ c = u32v (PbCrc.steps j (BitVec.ofNat 32 k))) (fun _ i => 8 - (intOf i).toNat)
   case atStart =>
    refine ⟨0, by omega, rfl, ?_⟩
    show _ = Value.int IntKind.u32 (((BitVec.ofNat 32 k).toNat : Nat) : Int)
    rw [BitVec.toNat_ofNat, Nat.mod_eq_of_lt (by omega)]
   case round =>
    obtain ⟨j, hj, rfl, rfl⟩ := hrel
    have hs := PbCrc.steps_succ j (BitVec.ofNat 32 k)
    generalize hc : PbCrc.steps j (BitVec.ofNat 32 k) = c at hs
    have Hc := Lib.hid hc
    clear hc
    have hlow := crc_low c
    have Hs := Lib.hid hs
    clear hs
    by_cases hlt2 : j < 8
    ·by_cases hb : c.getLsbD 0 = true
     ·rw [hb] at hlow
      go_wp2
      have Hp := crc_poly (c >>> 1)
      go_round
      case rel => exact ⟨j + 1, by omega, by go_num, by rw [Hs.out, PbCrc.step, if_pos hb]; first | rw [crc_shr1, Hp] | rw [crc_shr1', Hp]⟩
      case measure => simp [intOf] <;> omega
     ·have hb : c.getLsbD 0 = false := by simpa using hb
      rw [hb] at hlow
      go_wp2
      go_round
      case rel => exact ⟨j + 1, by omega, by go_num, by rw [Hs.out, PbCrc.step, if_neg (by rw [hb]; decide)]; first | rw [crc_shr1] | rw [crc_shr1']⟩
      case measure => simp [intOf] <;> omega
    ·have hj8 : j = 8 := by omega
     subst hj8
     have hsz := crcTabK_size k
     go_wp2
     have hset := crcTabK_set k hlt
     have Hset : Hid ((crcTabK k).setIfInBounds k (u32v c) = crcTabK (k + 1)) := by rw [← Hc.out]; exact hset
     clear hset
     go_roundw
     case rel => exact ⟨k + 1, by omega, by go_num, by rw [Hset.out]⟩
     case measure => simp [intOf] <;> omega
  ·have : k = 256 := by omega
   subst this
   rw [crcTabK_full]
   have hi : (Tryz.prog.info? 216).map (·.size) = some crcTabV.size := by rw [crcTabV_size]; kernel_rfl
   go_wp2_with (first
    | (refine wpList_load_row rfl 216 (.tmp 1) rfl (w.heap.size + 1) rfl 216 crcTabV (0, 0) _ (heap_alloc2_new _ _ _) Tryz.underlying216 rfl hi ?_)
    | (refine wpList_store_row rfl 216 (.tmp 0) (.tmp 25) rfl w.heap.size crcTabV rfl rfl 216 crcZ (heap_alloc2_old _ _ _) hi (by rw [crcTabV_size]; rfl) crcTabV_one ?_))
   refine bodyPost_ret (results_cell_row rfl _ _ w.heap.size 216 crcTabV (0, 0) _ rfl (setRow_heap _ _ crcZ _ _ _ (heap_alloc2_old _ _ _)) Tryz.underlying216 rfl hi) rfl ⟨rfl, ?_⟩
   exact below_setRow (((Below.refl _ _).alloc (Nat.le_refl _) _).alloc (by simp) _) (by simp) _
theorem crcTabV_get (x : UInt8) : crcTabV[x.toNat]? = some (u32v (PbCrc.tab x.toNat)) := by
 have := x.toNat_lt
 rw [Array.getElem?_eq_getElem (by rw [crcTabV_size]; omega)]
 simp [crcTabV]
theorem crcTabV_index (x : UInt8) (w : World) : (Instr.index 216 (.agg crcTabV) (.int .u8 (x.toNat : Int))).run Tryz.prog w = .ok (u32v (PbCrc.tab x.toNat)) w := by
 have hx := x.toNat_lt
 have h := crcTabV_get x
 have hlt : (x.toNat : Int) < 256 := by omega
 simp [Instr.index, run_underlying Tryz.underlying216, asIntOf, go_sem, h, hlt]
 intro h'; omega
set_option maxRecDepth 100000 in
set_option maxHeartbeats 400000 in
theorem crctable_calls (w : World) : Calls Tryz.prog 171 #[] w fun e w' => e = .returned (.agg crcTabV) ∧ Below w.heap.size w w' := by
 have hz := crcZero
 have hi : (Tryz.prog.info? 216).map (·.size) = some crcTabV.size := by rw [crcTabV_size]; kernel_rfl
 go_enter Tryz.func171, Tryz.ntmps171
 go_wp2_with (first
  | (go_at_call 200; refine (crcTable_calls _).mono ?_; rintro e w1 ⟨rfl, hb⟩)
  | (refine wpList_store_row rfl 216 (.tmp 0) (.tmp 1) rfl w.heap.size crcTabV rfl rfl 216 crcZ ((hb.block _ (by simp)).trans (heap_alloc_new _ _)) hi (by rw [crcTabV_size]; rfl) crcTabV_one ?_))
 refine bodyPost_ret (results_cell_row rfl _ _ w.heap.size 216 crcTabV (0, 0) _ rfl (setRow_heap _ _ crcZ _ _ _ ((hb.block _ (by simp)).trans (heap_alloc_new _ _))) Tryz.underlying216 rfl hi) rfl ⟨rfl, ?_⟩
 exact below_setRow (((Below.refl _ _).alloc (Nat.le_refl _) _).trans (hb.mono (by simp))) (by simp) _
theorem crc_u8 (c : BitVec 32) : (c.toNat : Int) % (256 : Int) = ((UInt8.ofNat c.toNat).toNat : Int) := by
 rw [UInt8.toNat_ofNat']; rfl
theorem crc_not (c : BitVec 32) : Value.int .u32 (bits .xor .u32 IntKind.u32.max (c.toNat : Int)) = u32v (~~~ c) := by
 have h : (IntKind.u32.max : Int) = ((BitVec.allOnes 32).toNat : Int) := by decide
 rw [h, bits_xor32, BitVec.allOnes_xor]
set_option maxRecDepth 100000 in
set_option maxHeartbeats 400000 in
theorem crcSum_calls (v : Value) (bs : List UInt8) (w : World) (hv : RdB w v bs) :
 Calls Tryz.prog 119 #[v] w fun e w' => e = .returned (u32v (PbCrc.sum bs)) ∧ Below w.heap.size w w' := by
 rcases hv with ⟨a, c, rfl, hc, rfl⟩ | ⟨b, off, cap, rfl, hne, hlc, hcap, hbw, hcell⟩
 ·go_enter Tryz.func119, Tryz.ntmps119
  go_wp2
  go_loop [3, 8] (fun c i => i = .int .i64 0 ∧ c = .int .u32 4294967295) (fun _ _ => 0)
  case atStart => exact ⟨rfl, rfl⟩
  case round =>
   obtain ⟨rfl, rfl⟩ := hrel
   go_wp2
   go_ret
   exact ⟨rfl, Below.refl _ _⟩
 ·go_enter Tryz.func119, Tryz.ntmps119
  go_wp2
  go_loopw [3, 8] (fun c i wr => ∃ k : Nat, k ≤ bs.length ∧ i = .int .i64 k ∧ c = u32v (PbCrc.run (BitVec.allOnes 32) (bs.take k)) ∧ Below w.heap.size w wr) (fun _ i _ => bs.length - (intOf i).toNat)
  case atStart => exact ⟨0, Nat.zero_le _, rfl, rfl, Below.refl _ _⟩
  case round =>
   obtain ⟨k, hk, rfl, rfl, hbw2⟩ := hrel
   by_cases hlt : k < bs.length
   ·obtain ⟨x, hx⟩ : ∃ x, bs[k]? = some x := ⟨bs[k], List.getElem?_eq_getElem hlt⟩
    have hc := (hbw2.cell (p := ⟨b, off + k, none⟩) hbw).trans (hcell k x hx)
    have hrun := PbCrc.run_snoc (BitVec.allOnes 32) (bs.take k) x
    rw [← take_snoc hx, ← PbCrc.byteTab_eq] at hrun
    generalize PbCrc.run (BitVec.allOnes 32) (bs.take k) = c at hrun
    have Hrun := Lib.hid hrun
    clear hrun hx
    have hb8 : bits .xor .u8 ((c.toNat : Int) % 256) (x.toNat : Int) = ((UInt8.ofNat c.toNat ^^^ x).toNat : Int) := by rw [crc_u8, bits_xor8]
    have hix := crcTabV_index (UInt8.ofNat c.toNat ^^^ x)
    have hx32 : bits .xor .u32 ((PbCrc.tab (UInt8.ofNat c.toNat ^^^ x).toNat).toNat : Int) ((c.toNat : Int) / 256) = ((PbCrc.byteTab c x).toNat : Int) := by rw [crc_shr8, bits_xor32]; rfl
    generalize UInt8.ofNat c.toNat ^^^ x = y at hb8 hix hx32
    generalize PbCrc.byteTab c x = c2 at hx32 Hrun
    go_wp2_with (go_at_call 171; refine (crctable_calls _).mono ?_; rintro e w1 ⟨rfl, hb⟩)
    have hbw3 := hbw2.trans (hb.mono hbw2.size)
    go_roundw
    case rel => exact ⟨k + 1, by omega, by go_num, by rw [Hrun.out], hbw3⟩
    case measure => simp [intOf] <;> omega
   ·have : bs.take k = bs := List.take_of_length_le (by omega)
    rw [this]
    go_wp2
    go_ret
    exact ⟨by rw [crc_not]; rfl, hbw2⟩
set_option maxRecDepth 100000 in
set_option maxHeartbeats 400000 in
theorem refCRC_calls (v : Value) (bs : List UInt8) (w : World) (hv : RdB w v bs) :
 Calls Tryz.prog 92 #[v] w fun e w' => e = .returned (u32v (PbCrc.sum bs)) ∧ w = w' := by
 rcases hv with ⟨a, c, rfl, hc, rfl⟩ | ⟨b, off, cap, rfl, hne, hlc, hcap, hbw, hcell⟩
 ·go_enter Tryz.func92, Tryz.ntmps92
  go_wp2
  go_loop [3, 4] (fun c i => i = .int .i64 0 ∧ c = .int .u32 4294967295) (fun _ _ => 0)
  case atStart => exact ⟨rfl, rfl⟩
  case round =>
   obtain ⟨rfl, rfl⟩ := hrel
   go_wp2
   go_ret
   exact ⟨rfl, rfl⟩
 ·go_enter Tryz.func92, Tryz.ntmps92
  go_wp2
  go_loop [3, 4] (fun c i => ∃ k : Nat, k ≤ bs.length ∧ i = .int .i64 k ∧ c = u32v (PbCrc.run (BitVec.allOnes 32) (bs.take k))) (fun _ i => bs.length - (intOf i).toNat)
  case atStart => exact ⟨0, Nat.zero_le _, rfl, rfl⟩
  case round =>
   obtain ⟨k, hk, rfl, rfl⟩ := hrel
   by_cases hlt : k < bs.length
   ·obtain ⟨x, hx⟩ : ∃ x, bs[k]? = some x := ⟨bs[k], List.getElem?_eq_getElem hlt⟩
    have hc := hcell k x hx
    have hrun := PbCrc.run_snoc (BitVec.allOnes 32) (bs.take k) x
    rw [← take_snoc hx, ← PbCrc.bitRun_byte] at hrun
    generalize PbCrc.run (BitVec.allOnes 32) (bs.take k) = c at hrun
    have Hrun := Lib.hid hrun
    clear hrun hx hcell
    go_wp2
    go_loop [3, 5] (fun d i => ∃ j : Nat, j ≤ 8 ∧ i = .int .i64 j ∧ d = u32v (PbCrc.bitRun c x j)) (fun _ i => 8 - (intOf i).toNat)
    case atStart => exact ⟨0, by omega, rfl, rfl⟩
    case round =>
     obtain ⟨j, hj, rfl, rfl⟩ := hrel
     have hs : PbCrc.bitRun c x (j + 1) = PbCrc.bitStep (PbCrc.bitRun c x j) (x.toNat.testBit j) := rfl
     by_cases hlt2 : j < 8
     ·generalize PbCrc.bitRun c x j = d at hs
      have hlow := crc_low d
      have hbit := u8_bit x j
      have Hp := Lib.hid (crc_poly (d >>> 1))
      by_cases hd : d.getLsbD 0 = true <;> by_cases hb : x.toNat.testBit j = true
      all_goals
       first | (rw [hd] at hlow) | (rw [Bool.not_eq_true] at hd; rw [hd] at hlow)
       first | (rw [hb] at hbit) | (rw [Bool.not_eq_true] at hb; rw [hb] at hbit)
       rw [PbCrc.bitStep, hd, hb] at hs
       have Hs := Lib.hid hs
       clear hs hd hb
       go_wp2
       go_round
       case rel => exact ⟨j + 1, by omega, by go_num, by rw [Hs.out]; first | (rw [crc_shr1, Hp.out]; rfl) | (rw [crc_shr1]; rfl) | (rw [crc_shr1', Hp.out]; rfl) | (rw [crc_shr1']; rfl)⟩
       case measure => simp [intOf] <;> omega
     ·have hj8 : j = 8 := by omega
      subst hj8
      generalize PbCrc.bitRun c x 8 = d at Hrun
      clear hs
      go_wp2
      go_round
      case rel => exact ⟨k + 1, by omega, by go_num, by rw [Hrun.out]⟩
      case measure => simp [intOf] <;> omega
   ·have : bs.take k = bs := List.take_of_length_le (by omega)
    rw [this]
    go_wp2
    go_ret
    exact ⟨by rw [crc_not]; rfl, rfl⟩
structure MarkD where
 kind : Int
 rcpt : Int
 n : Int
def MarkD.good (k : MarkD) : Bool := decide (1 ≤ k.kind ∧ k.kind ≤ 5 ∧ 0 ≤ k.rcpt ∧ k.rcpt < 8 ∧ 0 ≤ k.n ∧ k.n ≤ 1099511627776)
abbrev MarkD.cells (k : MarkD) : List Value := [.int .i64 k.kind, .int .i64 k.rcpt, .int .i64 k.n]
abbrev MarkD.val (k : MarkD) : Value := .agg #[.int .i64 k.kind, .int .i64 k.rcpt, .int .i64 k.n]
theorem good_true {k : MarkD} (h : 1 ≤ k.kind ∧ k.kind ≤ 5 ∧ 0 ≤ k.rcpt ∧ k.rcpt < 8 ∧ 0 ≤ k.n ∧ k.n ≤ 1099511627776) : k.good = true := decide_eq_true h
theorem good_false {k : MarkD} (h : ¬ (1 ≤ k.kind ∧ k.kind ≤ 5 ∧ 0 ≤ k.rcpt ∧ k.rcpt < 8 ∧ 0 ≤ k.n ∧ k.n ≤ 1099511627776)) : k.good = false := decide_eq_false h
set_option maxRecDepth 100000 in
set_option maxHeartbeats 400000 in
theorem markGood_calls (k : MarkD) (w : World) :
 Calls Tryz.prog 116 #[k.val] w fun e w' => e = .returned (.bool k.good) ∧ Below w.heap.size w w' := by
 obtain ⟨kind, rcpt, n⟩ := k
 by_cases hn : n ≤ 1099511627776
 all_goals
  go_enter Tryz.func116, Tryz.ntmps116
  go_wp2
  all_goals
   go_ret
   exact ⟨by first | exact ret_bool (good_true (by simp only; omega)) | exact ret_bool (good_false (by simp only; omega)), (Below.refl _ _).alloc (Nat.le_refl _) _⟩
set_option maxRecDepth 100000 in
set_option maxHeartbeats 400000 in
theorem mayMark_calls (k : MarkD) (w : World) :
 Calls Tryz.prog 26 #[k.val] w fun e w' => e = .returned (.bool k.good) ∧ Below w.heap.size w w' := by
 obtain ⟨kind, rcpt, n⟩ := k
 by_cases hn : n ≤ 1099511627776
 all_goals
  go_enter Tryz.func26, Tryz.ntmps26
  go_wp2
  all_goals
   go_ret
   exact ⟨by first | exact ret_bool (good_true (by simp only; omega)) | exact ret_bool (good_false (by simp only; omega)), (Below.refl _ _).alloc (Nat.le_refl _) _⟩
def be4 (c : BitVec 32) : List UInt8 := [UInt8.ofNat (c.toNat / 2 ^ 24), UInt8.ofNat (c.toNat / 2 ^ 16), UInt8.ofNat (c.toNat / 2 ^ 8), UInt8.ofNat c.toNat]
def MarkD.body (k : MarkD) : List UInt8 := num8 k.kind.toNat ++ num8 k.rcpt.toNat ++ num8 k.n.toNat
def MarkD.bytes (k : MarkD) : List UInt8 := k.body ++ be4 (PbCrc.sum k.body)
def markPre (k : MarkD) (j : Nat) : List UInt8 := ([k.kind, k.rcpt, k.n].take j).flatMap fun n => num8 n.toNat
theorem body_length (k : MarkD) : k.body.length = 24 := by simp [MarkD.body, num8_length]
theorem bytes_length (k : MarkD) : k.bytes.length = 28 := by simp [MarkD.bytes, body_length, be4]
def EncDone (w : World) (bs : List UInt8) (e : Ending) (w' : World) : Prop :=
 ∃ v', e = .returned (.tuple #[v', .bool true]) ∧ w'.ownsRow w.heap.size 5 1 v' bs.length (bs.map u8v) ∧ Below w.heap.size w w'
set_option maxRecDepth 100000 in
set_option maxHeartbeats 400000 in
theorem markEncode_bad (k : MarkD) (w : World) (hg : k.good = false) :
 Calls Tryz.prog 66 #[k.val] w fun e w' => e = .returned (.tuple #[.slice none 0 0, .bool false]) ∧ Below w.heap.size w w' := by
 obtain ⟨kind, rcpt, n⟩ := k
 go_enter Tryz.func66, Tryz.ntmps66
 go_wp2_with fail
 refine (markGood_calls ⟨kind, rcpt, n⟩ _).mono ?_; rintro e w1 ⟨rfl, hb⟩
 rw [hg]
 go_wp2
 go_ret2
 exact ⟨rfl, ((Below.refl _ _).alloc (Nat.le_refl _) _).trans (hb.mono (by simp))⟩
theorem wr_new (w : World) (base : Nat) : WrAt (w.alloc (.cells #[.slice none 0 0, .bool false] 167)) w.heap.size base (.slice none 0 0) [] false :=
 ⟨heap_alloc_new w _, World.ownsRow_nil _ _ _ _, by simp [Value.ownBlock]⟩
set_option maxRecDepth 100000 in
set_option maxHeartbeats 400000 in
theorem markEncode_good (k : MarkD) (w : World) (hg : k.good = true) :
 Calls Tryz.prog 66 #[k.val] w (EncDone w k.bytes) := by
 have hg' : 1 ≤ k.kind ∧ k.kind ≤ 5 ∧ 0 ≤ k.rcpt ∧ k.rcpt < 8 ∧ 0 ≤ k.n ∧ k.n ≤ 1099511627776 := of_decide_eq_true hg
 obtain ⟨kind, rcpt, n⟩ := k
 obtain ⟨h1, h2, h3, h4, h5, h6⟩ := hg'
 obtain ⟨kn, rfl⟩ := Int.eq_ofNat_of_zero_le (show (0 : Int) ≤ kind by simp only at h1; omega)
 obtain ⟨rn, rfl⟩ := Int.eq_ofNat_of_zero_le h3
 obtain ⟨nn, rfl⟩ := Int.eq_ofNat_of_zero_le h5
 simp only at h1 h2 h3 h4 h5 h6
 obtain ⟨i0, hi, hz0, hz1, hz2⟩ := info_parts infoU8
 go_enter Tryz.func66, Tryz.ntmps66
 go_wp2_with fail
 refine (markGood_calls ⟨kn, rn, nn⟩ _).mono ?_; rintro e w1 ⟨rfl, hb⟩
 rw [hg]
 have hbk : w1.heap[w.heap.size]? = some (.cells #[.int .i64 kn, .int .i64 rn, .int .i64 nn] 53 (0, 0)) := (hb.block _ (by simp)).trans (heap_alloc_new w _)
 have hbel : Below w.heap.size w w1 := ((Below.refl _ _).alloc (Nat.le_refl _) _).trans (hb.mono (by simp))
 have hsz1 : w.heap.size < w1.heap.size := (Array.getElem?_eq_some_iff.1 hbk).1
 have hc0 : w1.cell? ⟨w.heap.size, 0, none⟩ = some (.int .i64 kn) := by rw [cell_of_row _ _ _ _ _ _ hbk]; rfl
 have hc1 : w1.cell? ⟨w.heap.size, 1, none⟩ = some (.int .i64 rn) := by rw [cell_of_row _ _ _ _ _ _ hbk]; rfl
 have hc2 : w1.cell? ⟨w.heap.size, 2, none⟩ = some (.int .i64 nn) := by rw [cell_of_row _ _ _ _ _ _ hbk]; rfl
 have ix0 : ∀ w, (Instr.index 168 (.agg #[.int .i64 (kn : Int), .int .i64 (rn : Int), .int .i64 (nn : Int)]) (.int .i64 0)).run Tryz.prog w = .ok (.int .i64 (kn : Int)) w := fun _ => by kernel_rfl
 have ix1 : ∀ w, (Instr.index 168 (.agg #[.int .i64 (kn : Int), .int .i64 (rn : Int), .int .i64 (nn : Int)]) (.int .i64 1)).run Tryz.prog w = .ok (.int .i64 (rn : Int)) w := fun _ => by kernel_rfl
 have ix2 : ∀ w, (Instr.index 168 (.agg #[.int .i64 (kn : Int), .int .i64 (rn : Int), .int .i64 (nn : Int)]) (.int .i64 2)).run Tryz.prog w = .ok (.int .i64 (nn : Int)) w := fun _ => by kernel_rfl
 obtain ⟨pre, hpre⟩ : ∃ pre : Nat → List UInt8, pre = markPre ⟨kn, rn, nn⟩ := ⟨_, rfl⟩
 have p1 : pre 1 = pre 0 ++ num8 kn := by rw [hpre]; simp [markPre]
 have p2 : pre 2 = pre 1 ++ num8 rn := by rw [hpre]; simp [markPre]
 have p3 : pre 3 = pre 2 ++ num8 nn := by rw [hpre]; simp [markPre]
 have pb : pre 3 = MarkD.body ⟨kn, rn, nn⟩ := by rw [hpre]; simp [markPre, MarkD.body]
 have l0 : (pre 0).length = 0 := by rw [hpre]; simp [markPre]
 have l1 : (pre 1).length = 8 := by rw [p1, List.length_append, num8_length, l0]
 have l2 : (pre 2).length = 16 := by rw [p2, List.length_append, num8_length, l1]
 have hp0 : pre 0 = [] := List.length_eq_zero_iff.1 l0
 have P1 := Lib.hid p1
 have P2 := Lib.hid p2
 have P3 := Lib.hid p3
 have PB := Lib.hid pb
 clear p1 p2 p3 pb hpre
 go_wp2
 go_loopw [21] (fun i wr => ∃ (j : Nat) (v : Value), j ≤ 3 ∧ i = .int .i64 j ∧ WrAt wr w1.heap.size w.heap.size v (pre j) false ∧ Below w.heap.size w wr) (fun i _ => 3 - (intOf i).toNat)
 case atStart =>
  refine ⟨0, .slice none 0 0, by omega, rfl, ?_, hbel.alloc (Nat.le_of_lt hsz1) _⟩
  rw [hp0]; exact wr_new _ _
 case round =>
  obtain ⟨j, v, hj, rfl, hW, hbw⟩ := hrel
  rcases (by omega : j = 0 ∨ j = 1 ∨ j = 2 ∨ j = 3) with rfl | rfl | rfl | rfl
  ·go_wp2_with fail
   refine (wNum_good w1.heap.size w.heap.size v (pre 0) false kn _ hW (by omega) hbw.size (by omega)).mono ?_; rintro e w2 ⟨v', rfl, hW2, hK, _⟩
   rw [← P1.out] at hW2
   have hb2 := hbw.trans (hK.below (B := w.heap.size) (fun i hi => by rcases hi with h | h; omega; exact own_base hW.own i h) hbw.size)
   go_wp2
   go_roundw
   case rel => exact ⟨1, v', by omega, rfl, hW2, hb2⟩
   case measure => simp [intOf] <;> omega
  ·go_wp2_with fail
   refine (wNum_good w1.heap.size w.heap.size v (pre 1) false rn _ hW (by omega) hbw.size (by omega)).mono ?_; rintro e w2 ⟨v', rfl, hW2, hK, _⟩
   rw [← P2.out] at hW2
   have hb2 := hbw.trans (hK.below (B := w.heap.size) (fun i hi => by rcases hi with h | h; omega; exact own_base hW.own i h) hbw.size)
   go_wp2
   go_roundw
   case rel => exact ⟨2, v', by omega, rfl, hW2, hb2⟩
   case measure => simp [intOf] <;> omega
  ·go_wp2_with fail
   refine (wNum_good w1.heap.size w.heap.size v (pre 2) false nn _ hW (by omega) hbw.size (by omega)).mono ?_; rintro e w2 ⟨v', rfl, hW2, hK, _⟩
   rw [← P3.out] at hW2
   have hb2 := hbw.trans (hK.below (B := w.heap.size) (fun i hi => by rcases hi with h | h; omega; exact own_base hW.own i h) hbw.size)
   go_wp2
   go_roundw
   case rel => exact ⟨3, v', by omega, rfl, hW2, hb2⟩
   case measure => simp [intOf] <;> omega
  ·rw [PB.out] at hW
   have hbl : (MarkD.body ⟨kn, rn, nn⟩).length = 24 := body_length _
   go_wp2_with fail
   refine (wOut_calls w1.heap.size w.heap.size v _ _ hW (by omega)).mono ?_; rintro e w2 ⟨v2, rfl, hown2, hb2⟩
   go_wp2_with fail
   refine (crcSum_calls _ _ _ (rdB_ofOwn hown2)).mono ?_; rintro e w3 ⟨rfl, hb3⟩
   have hown3 := own_below hown2 hb3 (Nat.le_refl _)
   obtain ⟨c, hcs⟩ : ∃ c, PbCrc.sum (MarkD.body ⟨kn, rn, nn⟩) = c := ⟨_, rfl⟩
   rw [hcs]
   have u24 : (c.toNat : Int) / 16777216 = ((UInt8.ofNat (c.toNat / 2 ^ 24)).toNat : Int) := by have := c.isLt; rw [UInt8.toNat_ofNat', Nat.mod_eq_of_lt (by omega)]; simp
   have u16 : (c.toNat : Int) / 65536 % 256 = ((UInt8.ofNat (c.toNat / 2 ^ 16)).toNat : Int) := by rw [UInt8.toNat_ofNat']; simp
   have u8' : (c.toNat : Int) / 256 % 256 = ((UInt8.ofNat (c.toNat / 2 ^ 8)).toNat : Int) := by rw [UInt8.toNat_ofNat']; simp
   have u0 : (c.toNat : Int) % 256 = ((UInt8.ofNat c.toNat).toNat : Int) := by rw [UInt8.toNat_ofNat']; simp
   have hfin : MarkD.bytes ⟨kn, rn, nn⟩ = MarkD.body ⟨kn, rn, nn⟩ ++ [UInt8.ofNat (c.toNat / 2 ^ 24), UInt8.ofNat (c.toNat / 2 ^ 16), UInt8.ofNat (c.toNat / 2 ^ 8), UInt8.ofNat c.toNat] := by rw [← hcs]; rfl
   generalize UInt8.ofNat (c.toNat / 2 ^ 24) = b0 at u24 hfin
   generalize UInt8.ofNat (c.toNat / 2 ^ 16) = b1 at u16 hfin
   generalize UInt8.ofNat (c.toNat / 2 ^ 8) = b2 at u8' hfin
   generalize UInt8.ofNat c.toNat = b3 at u0 hfin
   have Hfin := Lib.hid hfin
   clear hcs hfin
   have hownA : (w3.alloc (.cells #[u8v b0, u8v b1, u8v b2, u8v b3] 5)).ownsRow w.heap.size 5 1 v2 (MarkD.body ⟨kn, rn, nn⟩).length ((MarkD.body ⟨kn, rn, nn⟩).map u8v) := World.ownsRow.alloc (own_mono hown3 hbw.size) _
   have hnewsA := Lib.hid (news_new w3 [u8v b0, u8v b1, u8v b2, u8v b3] 5 (0, 0))
   have h63 : (MarkD.body ⟨kn, rn, nn⟩).length + 4 ≤ maxLen := by rw [hbl]; decide
   have h47 : ((MarkD.body ⟨kn, rn, nn⟩).length + 4) * 1 ≤ 140737488355328 := by omega
   have hs2 := hbw.size
   have hs3 := hb2.size
   have hs4 := hb3.size
   have hbs : w.heap.size ≤ (w3.alloc (.cells #[u8v b0, u8v b1, u8v b2, u8v b3] 5)).heap.size := by simp; omega
   go_wp2_with (at_builtin; go_must (refine wpList_append_own _ rfl (.tmp 35) (.tmp 47) 22 rfl w.heap.size 5 i0 (.int .u8 0) 1 1 Tryz.underlying22 hi hz0 hz1 hz2 rfl (by decide) v2 _ _ rfl hownA ⟨w3.heap.size, 0, none⟩ 4 4 [u8v b0, u8v b1, u8v b2, u8v b3] rfl rfl hnewsA.out (one_u8 [b0, b1, b2, b3]) h63 h47 hbs ?_); rintro v3 w4 hown4 hg4 _)
   go_ret2
   refine ⟨v3, rfl, ?_, ?_⟩
   ·rw [Hfin.out]; simpa using hown4
   ·exact Below.grown ((((hbw.trans (hb2.mono hs2)).trans (hb3.mono (by omega)))).alloc (by omega) _) hg4 (by simp; omega) (fun k hk => own_base hownA k hk)
def rdDone (bs : List UInt8) (bad : Bool) : Bool := !bad && decide (bs.length = 0)
set_option maxRecDepth 100000 in
set_option maxHeartbeats 400000 in
theorem rDone_calls (b : Nat) (v : Value) (bs : List UInt8) (bad : Bool) (w : World) (hR : RdAt w b v bs bad) :
 Calls Tryz.prog 189 #[.pointer (some ⟨b, 0, none⟩)] w fun e w' => e = .returned (.bool (rdDone bs bad)) ∧ w = w' := by
 obtain ⟨hc0, hc1, hf0, hf1⟩ := hR.cells
 obtain ⟨a, cap, hv, hl, hc⟩ := hR.rd.form
 subst hv
 have hlen : ((bs.length : Int) == 0) = decide (bs.length = 0) := by rw [Bool.eq_iff_iff]; simp
 cases bad
 ·by_cases h0 : bs.length = 0
  all_goals
   simp only [h0, decide_true, decide_false] at hlen
   go_enter Tryz.func189, Tryz.ntmps189
   go_wp2
   go_ret
   exact ⟨ret_bool (by simp [rdDone, h0]), rfl⟩
 ·go_enter Tryz.func189, Tryz.ntmps189
  go_wp2
  go_ret
  exact ⟨ret_bool (by simp [rdDone]), rfl⟩
theorem RdB.cellAny {w : World} {a : Option Addr} {n cap : Nat} {bs : List UInt8} (h : RdB w (.slice a n cap) bs) (hne : 0 < bs.length) :
 ∃ b off, a = some ⟨b, off, none⟩ ∧ b < w.heap.size ∧ ∀ j x, bs[j]? = some x → w.cell? ⟨b, off + j, none⟩ = some (u8v x) := by
 rcases h with ⟨_, _, _, _, h⟩ | ⟨b, off, cap', h, _, _, _, h4, h5⟩
 ·subst h; simp at hne
 ·cases h; exact ⟨b, off, rfl, h4, h5⟩
set_option maxRecDepth 100000 in
set_option maxHeartbeats 1000000 in
theorem equal_calls (v1 v2 : Value) (xs ys : List UInt8) (w : World) (h1 : RdB w v1 xs) (h2 : RdB w v2 ys) :
 Calls Tryz.prog 143 #[v1, v2] w fun e w' => e = .returned (.bool (decide (xs = ys))) ∧ Below w.heap.size w w' := by
 obtain ⟨a1, c1, rfl, l1, m1⟩ := h1.form
 obtain ⟨a2, c2, rfl, l2, m2⟩ := h2.form
 by_cases hl : xs.length = ys.length
 ·have hne : ((xs.length : Int) != (ys.length : Int)) = false := by rw [bne_eq_false_iff_eq]; omega
  go_enter Tryz.func143, Tryz.ntmps143
  go_wp2
  go_loopw [13] (fun i wr => ∃ k : Nat, k ≤ xs.length ∧ i = .int .i64 k ∧ xs.take k = ys.take k ∧ Below w.heap.size w wr) (fun i _ => xs.length - (intOf i).toNat)
  case atStart => exact ⟨0, Nat.zero_le _, rfl, rfl, Below.refl _ _⟩
  case round =>
   obtain ⟨k, hk, rfl, hpre, hb⟩ := hrel
   by_cases hlt : k < xs.length
   ·obtain ⟨x, hx⟩ : ∃ x, xs[k]? = some x := ⟨xs[k], List.getElem?_eq_getElem hlt⟩
    obtain ⟨y, hy⟩ : ∃ y, ys[k]? = some y := ⟨ys[k], List.getElem?_eq_getElem (by omega)⟩
    obtain ⟨b1, o1, e1, hb1, hcell1⟩ := (h1.below (Nat.le_refl _) hb).cellAny (by omega)
    obtain ⟨b2, o2, e2, hb2, hcell2⟩ := (h2.below (Nat.le_refl _) hb).cellAny (by omega)
    have hcx := hcell1 k x hx
    have hcy := hcell2 k y hy
    subst e1 e2
    have hxs := take_snoc hx
    have hys := take_snoc hy
    have Hxs := Lib.hid hxs
    have Hys := Lib.hid hys
    have Hpre := Lib.hid hpre
    have Hx := Lib.hid hx
    have Hy := Lib.hid hy
    have hky : k < ys.length := by omega
    have hkI : (k : Int) < (xs.length : Int) := by omega
    have hkJ : (k : Int) < (ys.length : Int) := by omega
    clear hcell1 hcell2 hxs hys hpre hx hy h1 h2
    by_cases hxy : x = y
    ·have htest : ((x.toNat : Int) != (y.toNat : Int)) = false := by rw [hxy]; simp
     have Hxy := Lib.hid hxy
     clear hxy
     go_wp2
     go_quiet (fail)
     go_wp2
     go_roundw
     case rel => exact ⟨k + 1, by omega, by go_num, by rw [Hxs.out, Hys.out, Hpre.out, Hxy.out], by first | exact hb | exact below_drewN hb _⟩
     case measure => simp [intOf] <;> omega
    ·have htest : ((x.toNat : Int) != (y.toNat : Int)) = true := by rw [bne_iff_ne]; intro h; exact hxy (UInt8.toNat_inj.1 (by omega))
     go_wp2
     go_quiet (fail)
     go_wp2
     go_ret
     refine ⟨ret_bool (decide_eq_false ?_), by first | exact hb | exact below_drewN hb _⟩
     intro e
     have h := Hx.out
     rw [e, Hy.out] at h
     have : x = y := (Option.some.inj h).symm
     subst this
     simp at htest
   ·have hkl : k = xs.length := by omega
    rw [List.take_of_length_le (by omega), List.take_of_length_le (by omega)] at hpre
    have Hpre := Lib.hid hpre
    clear hpre
    go_wp2
    go_ret
    exact ⟨ret_bool (decide_eq_true Hpre.out), hb⟩
 ·have hne : ((xs.length : Int) != (ys.length : Int)) = true := by rw [bne_iff_ne]; omega
  go_enter Tryz.func143, Tryz.ntmps143
  go_wp2
  go_ret
  exact ⟨ret_bool (decide_eq_false (fun e => hl (by rw [e]))), Below.refl _ _⟩
end Go.Proofs.YtffnbkmigapmjaaGreatDoor
