/-
  The walk of the statement that a turn within 32 bits shows, but for its frame.
-/
import Derived.Test.YtfgmnachckbimaaCrcAns
set_option linter.unusedSimpArgs false
set_option linter.unusedVariables false
namespace Go.Proofs.Ytfgmnachckbimaa
open Go.RowKit
/-- Bytes of which, from k on, i are turned. -/
def turned (bs : List UInt8) (k X i : Nat) : List UInt8 := bs.mapIdx fun j y => if k ≤ j ∧ j < k + i then y ^^^ UInt8.ofNat (X >>> (8 * (j - k))) else y
theorem turned_zero (bs : List UInt8) (k X : Nat) : turned bs k X 0 = bs := by
  apply List.ext_getElem (by simp [turned]); intro j h1 h2
  simp [turned]; omega
theorem turned_length (bs : List UInt8) (k X i : Nat) : (turned bs k X i).length = bs.length := by simp [turned]
theorem turned_get (bs : List UInt8) (k X i : Nat) {y : UInt8} (h : bs[k + i]? = some y) : (turned bs k X i)[k + i]? = some y := by
  simp [turned, List.getElem?_mapIdx, h]
theorem turned_set (bs : List UInt8) (k X i : Nat) {y : UInt8} (h : bs[k + i]? = some y) : (turned bs k X i).set (k + i) (y ^^^ UInt8.ofNat (X >>> (8 * i))) = turned bs k X (i + 1) := by
  apply List.ext_getElem (by simp [turned]); intro j h1 h2
  rw [List.getElem_set]
  have hj : j < bs.length := by simpa [turned] using h2
  by_cases e : k + i = j
  · subst e
    rw [List.getElem?_eq_getElem hj] at h
    simp at h
    simp [turned, h, show k + i - k = i by omega]
  · rw [if_neg e]
    simp only [turned, List.getElem_mapIdx]
    by_cases h3 : k ≤ j ∧ j < k + i
    · rw [if_pos h3, if_pos (by omega)]
    · rw [if_neg h3, if_neg (by omega)]
theorem turned_five (bs : List UInt8) (k X : Nat) (hk : k + 5 ≤ bs.length) : turned bs k X 5 = bs.take k ++ PbCrc.lay ((bs.drop k).take 5) (PbCrc.five X) ++ bs.drop (k + 5) := by
  have hl : (PbCrc.lay ((bs.drop k).take 5) (PbCrc.five X)).length = 5 := by simp [PbCrc.lay, PbCrc.five]; omega
  have ht : (bs.take k).length = k := by simp; omega
  apply List.ext_getElem (by simp only [turned_length, List.length_append, hl, ht, List.length_drop]; omega); intro j h1 h2
  have hj : j < bs.length := by simpa [turned] using h1
  simp only [turned, List.getElem_mapIdx]
  by_cases a : j < k
  · rw [if_neg (by omega), List.getElem_append_left (by rw [List.length_append]; omega), List.getElem_append_left (by omega)]
    simp
  · by_cases b : j < k + 5
    · rw [if_pos (by omega), List.getElem_append_left (by rw [List.length_append]; omega), List.getElem_append_right (by omega)]
      simp [PbCrc.lay, PbCrc.five, ht, show k + (j - k) = j by omega]
    · rw [if_neg (by omega), List.getElem_append_right (by rw [List.length_append]; omega)]
      simp [ht, hl, show k + 5 + (j - (k + 5)) = j by omega]
theorem sum_turned (bs : List UInt8) (k : Nat) (turn : BitVec 32) (s : Nat) (hs : s < 8) (ht : turn ≠ 0#32) (hk : k + 5 ≤ bs.length) : PbCrc.sum bs ≠ PbCrc.sum (turned bs k (turn.toNat <<< s) 5) := by
  rw [turned_five bs k _ hk]
  have e : bs = bs.take k ++ (bs.drop k).take 5 ++ bs.drop (k + 5) := by
    rw [List.append_assoc, ← List.drop_drop, List.take_append_drop, List.take_append_drop]
  have := PbCrc.sum_burst (bs.take k) (bs.drop (k + 5)) ((bs.drop k).take 5) turn s hs ht (by simp; omega)
  rwa [← e] at this
theorem infoU8 : (Try.prog.info? 5).map (fun i => (i.zero, i.size, i.bytes)) = some (some (.int .u8 0), 1, 1) := by kernel_rfl
set_option maxRecDepth 100000 in
set_option maxHeartbeats 1000000 in
theorem crcTells_walk (v : Value) (bs : List UInt8) (at_ turn shift : Nat) (w : World) (hv : RdB w v bs) (ha : at_ < 65536) (ht : turn < 4294967296) (hs : shift < 256) :
    Calls Try.prog 5 #[v, .int .u16 at_, .int .u32 turn, .int .u8 shift] w fun e w' => e = .returned (.bool true) ∧ Below w.heap.size w w' := by
  obtain ⟨a, cap, rfl, hl, hc⟩ := hv.form
  have htok : ((turn : Int) == 0) = decide (turn = 0) := by rw [Bool.eq_iff_iff]; simp
  by_cases hbad : bs.length < 5 ∨ 5000 < bs.length ∨ turn = 0
  · by_cases h1 : bs.length < 5 <;> by_cases h2 : 5000 < bs.length <;> by_cases h3 : turn = 0 <;> first | omega | skip
    all_goals
      simp only [h3, decide_true, decide_false] at htok
      clear hbad
      go_enter Try.func5, Try.ntmps5
      go_wp2_with (go_at_call 13; refine (crcAnswers_calls _).mono ?_; rintro e w1 ⟨rfl, hb⟩)
      go_ret
      exact ⟨rfl, hb⟩
  · have h1 : 5 ≤ bs.length := by omega
    have h2 : bs.length ≤ 5000 := by omega
    have h3 : turn ≠ 0 := by omega
    simp only [h3, decide_false] at htok
    clear hbad
    rcases hv with ⟨a', c', hv, _, rfl⟩ | ⟨b, off, cap', hv, hne, hlc, hcap, hbw, hcell⟩
    · simp at h1
    cases hv
    have hnews : ∀ j u, (bs.map u8v)[j]? = some u → w.cell? ((⟨b, off, none⟩ : Addr).add j) = some u := by
      intro j u hu
      rw [List.getElem?_map] at hu
      obtain ⟨x, hx, rfl⟩ := Option.map_eq_some_iff.1 hu
      rw [show (⟨b, off, none⟩ : Addr).add j = ⟨b, off + j, none⟩ by unfold Addr.add; split <;> simp_all]
      exact hcell j x hx
    obtain ⟨k, hk⟩ : ∃ k, k = at_ % (bs.length - 4) := ⟨_, rfl⟩
    have hk5 : k + 5 ≤ bs.length := by have := Nat.mod_lt at_ (show 0 < bs.length - 4 by omega); omega
    have hkI : (at_ : Int) % ((bs.length : Int) - 4) = (k : Int) := by rw [hk, Int.natCast_emod, Int.ofNat_sub (by omega)]; rfl
    clear hk
    obtain ⟨i0, hi, hz0, hz1, hz2⟩ := info_parts (infoU8)
    have hown0 : (w.alloc (.cells #[] 5)).ownsRow w.heap.size 5 1 (.slice (some ⟨w.heap.size, 0, none⟩) 0 0) 0 [] := World.ownsRow_lit w #[] 0 (Nat.le_refl _) (by decide) rfl
    go_enter Try.func5, Try.ntmps5
    go_wp2_with (at_builtin; go_must (refine wpList_append_own _ rfl (.tmp 32) (.tmp 33) 22 rfl w.heap.size 5 i0 (.int .u8 0) 1 1 Try.underlying22 hi hz0 hz1 hz2 rfl (by decide) _ _ _ rfl hown0 ⟨b, off, none⟩ bs.length cap (bs.map u8v) rfl ?c1 ?c2 ?c3 ?c4 ?c5 ?c6 ?_))
    case c1 => simp
    case c2 => exact fun j u h => by have := hnews j u h; rw [← this]; exact Below.cell (B := w.heap.size) ((Below.refl _ _).alloc (Nat.le_refl _) _) (by simp [Addr.add]; split <;> exact hbw)
    case c3 => intro u hu; obtain ⟨x, _, rfl⟩ := List.mem_map.1 hu; rfl
    case c4 => unfold maxLen; omega
    case c5 => omega
    case c6 => simp
    rintro v1 w1 hown1 hg1 _
    have hbel : Below w.heap.size w w1 := ((Below.refl _ _).alloc (Nat.le_refl _) _).grown hg1 (by simp) (fun k hk => by simp [Value.ownBlock] at hk; omega)
    replace hown1 : w1.ownsRow w.heap.size 5 1 v1 bs.length (bs.map u8v) := by simpa using hown1
    obtain ⟨g, cap1, rfl, hgb, hgs, hn1, hm1⟩ := own_form hown1 (by omega)
    clear hg1 hown0 hnews hi hz0 hz1 hz2
    have hX : IntKind.u64.wrap ((turn : Int) * 2 ^ (shift % 8)) = ((turn <<< (shift % 8) : Nat) : Int) := by
      have h8 : 2 ^ (shift % 8) ≤ 2 ^ 7 := Nat.pow_le_pow_right (by omega) (by omega)
      have hb := Nat.mul_le_mul (Nat.le_of_lt ht) h8
      rw [Nat.shiftLeft_eq]
      have : ((turn : Int) * 2 ^ (shift % 8)) = ((turn * 2 ^ (shift % 8) : Nat) : Int) := by simp
      rw [this]
      exact IntWalk.u64_in _ (by omega)
    obtain ⟨X, hXe⟩ : ∃ X, X = turn <<< (shift % 8) := ⟨_, rfl⟩
    rw [← hXe] at hX
    have HX := Lib.hid hXe
    clear hXe
    go_wp2
    go_loopw [12] (fun i wr => ∃ j : Nat, j ≤ 5 ∧ i = .int .i64 j ∧ wr.ownsRow w.heap.size 5 1 (.slice (some ⟨g, 0, none⟩) bs.length cap1) bs.length ((turned bs k X j).map u8v) ∧ Below w.heap.size w wr) (fun i _ => 5 - (intOf i).toNat)
    case atStart => exact ⟨0, by omega, rfl, by rw [turned_zero]; exact hown1, hbel⟩
    case round =>
      obtain ⟨j, hj, rfl, hown, hbw2⟩ := hrel
      by_cases hlt : j < 5
      · obtain ⟨y, hy⟩ : ∃ y, bs[k + j]? = some y := ⟨bs[k + j], List.getElem?_eq_getElem (by omega)⟩
        have hyt := turned_get bs k X j hy
        have hc := hown.cellAt (k + j) (by omega)
        have hf := hown.frozenAt (k + j)
        rw [List.getElem?_map, hyt] at hc
        have hset := turned_set bs k X j hy
        have hxor : bits .xor .u8 (y.toNat : Int) ((X : Int) / 2 ^ (8 * j) % 256) = ((y ^^^ UInt8.ofNat (X >>> (8 * j))).toNat : Int) := by
          rw [← bits_xor8, UInt8.toNat_ofNat', Nat.shiftRight_eq_div_pow]; simp
        generalize y ^^^ UInt8.ofNat (X >>> (8 * j)) = y2 at hset hxor
        obtain ⟨hst, hgr⟩ := hown.stored (k + j) (u8v y2)
        rw [← List.map_set, hset] at hst
        clear hcell hyt hy hset hown
        have hbw3 := hbw2.grown hgr (by have := hbw2.size; omega) (fun q hq => by cases hq; exact hgb)
        go_wp2
        go_roundw
        case rel => exact ⟨j + 1, by omega, by go_num, hst, hbw3⟩
        case measure => simp [intOf]; omega
      · have hj5 : j = 5 := by omega
        subst hj5
        have hne2 : turned bs k X 5 ≠ [] := by rw [← List.length_pos_iff, turned_length]; omega
        have hr := rdB_own hown hm1
        have hrb : RdB w (.slice (some ⟨b, off, none⟩) bs.length cap) bs := .inr ⟨b, off, cap, rfl, hne, hlc, hcap, hbw, hcell⟩
        have hneq := sum_turned bs k (BitVec.ofNat 32 turn) (shift % 8) (by omega) (by
          intro e; have := congrArg BitVec.toNat e; simp at this; omega) hk5
        rw [BitVec.toNat_ofNat, Nat.mod_eq_of_lt (by omega), ← HX.out] at hneq
        have hneqI : (((PbCrc.sum bs).toNat : Int) != ((PbCrc.sum (turned bs k X 5)).toNat : Int)) = true := by
          rw [bne_iff_ne]; intro e; exact hneq (BitVec.eq_of_toNat_eq (by omega))
        clear hneq hcell hown hkI hX
        go_wp2_with fail
        refine (crcAnswers_calls _).mono ?_; rintro e w2 ⟨rfl, hb⟩
        go_wp2_with fail
        refine (crcSum_calls _ _ _ ((hrb.below (Nat.le_refl _) hbw2).below (Nat.le_refl _) hb)).mono ?_; rintro e w3 ⟨rfl, hb2⟩
        go_wp2_with fail
        refine (crcSum_calls _ _ _ ((hr.below (Nat.le_refl _) hb).below (Nat.le_refl _) hb2)).mono ?_; rintro e w4 ⟨rfl, hb3⟩
        go_wp2
        go_ret
        exact ⟨rfl, ((hbw2.trans (hb.mono hbw2.size)).trans (hb2.mono (by have := hbw2.size; have := hb.size; omega))).trans (hb3.mono (by have := hbw2.size; have := hb.size; have := hb2.size; omega))⟩
end Go.Proofs.Ytfgmnachckbimaa
