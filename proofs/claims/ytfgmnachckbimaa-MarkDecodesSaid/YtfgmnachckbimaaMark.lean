/-
  What package mark computes: which marks are good, their bytes.
-/
import Derived.Test.YtfgmnachckbimaaWord
import Derived.Test.YtfgmnachckbimaaCrcRef
set_option linter.unusedSimpArgs false
set_option linter.unusedVariables false
namespace Go.Proofs.Ytfgmnachckbimaa
open Go.RowKit
/-- A mark, as plain data. -/
structure MarkD where
  kind : Int
  rcpt : Int
  n : Int
def MarkD.good (k : MarkD) : Bool := decide (1 ≤ k.kind ∧ k.kind ≤ 5 ∧ 0 ≤ k.rcpt ∧ k.rcpt < 8 ∧ 0 ≤ k.n ∧ k.n ≤ 1099511627776)
abbrev MarkD.cells (k : MarkD) : List Value := [.int .i64 k.kind, .int .i64 k.rcpt, .int .i64 k.n]
abbrev MarkD.val (k : MarkD) : Value := .agg #[.int .i64 k.kind, .int .i64 k.rcpt, .int .i64 k.n]
theorem good_true {k : MarkD} (h : 1 ≤ k.kind ∧ k.kind ≤ 5 ∧ 0 ≤ k.rcpt ∧ k.rcpt < 8 ∧ 0 ≤ k.n ∧ k.n ≤ 1099511627776) : k.good = true := decide_eq_true h
theorem good_false {k : MarkD} (h : ¬ (1 ≤ k.kind ∧ k.kind ≤ 5 ∧ 0 ≤ k.rcpt ∧ k.rcpt < 8 ∧ 0 ≤ k.n ∧ k.n ≤ 1099511627776)) : k.good = false := decide_eq_false h
set_option maxRecDepth 100000 in
set_option maxHeartbeats 400000 in
theorem markGood_calls (k : MarkD) (w : World) :
    Calls Try.prog 20 #[k.val] w fun e w' => e = .returned (.bool k.good) ∧ Below w.heap.size w w' := by
  obtain ⟨kind, rcpt, n⟩ := k
  by_cases hn : n ≤ 1099511627776
  all_goals
    go_enter Try.func20, Try.ntmps20
    go_wp2
    all_goals
      go_ret
      exact ⟨by first | exact ret_bool (good_true (by simp only; omega)) | exact ret_bool (good_false (by simp only; omega)), (Below.refl _ _).alloc (Nat.le_refl _) _⟩
set_option maxRecDepth 100000 in
set_option maxHeartbeats 400000 in
theorem mayMark_calls (k : MarkD) (w : World) :
    Calls Try.prog 18 #[k.val] w fun e w' => e = .returned (.bool k.good) ∧ Below w.heap.size w w' := by
  obtain ⟨kind, rcpt, n⟩ := k
  by_cases hn : n ≤ 1099511627776
  all_goals
    go_enter Try.func18, Try.ntmps18
    go_wp2
    all_goals
      go_ret
      exact ⟨by first | exact ret_bool (good_true (by simp only; omega)) | exact ret_bool (good_false (by simp only; omega)), (Below.refl _ _).alloc (Nat.le_refl _) _⟩

/-- A number of 32 bits as four bytes. -/
def be4 (c : BitVec 32) : List UInt8 := [UInt8.ofNat (c.toNat / 2 ^ 24), UInt8.ofNat (c.toNat / 2 ^ 16), UInt8.ofNat (c.toNat / 2 ^ 8), UInt8.ofNat c.toNat]
def MarkD.body (k : MarkD) : List UInt8 := num8 k.kind.toNat ++ num8 k.rcpt.toNat ++ num8 k.n.toNat
def MarkD.bytes (k : MarkD) : List UInt8 := k.body ++ be4 (PbCrc.sum k.body)
def markPre (k : MarkD) (j : Nat) : List UInt8 := ([k.kind, k.rcpt, k.n].take j).flatMap fun n => num8 n.toNat
theorem body_length (k : MarkD) : k.body.length = 24 := by simp [MarkD.body, num8_length]
theorem bytes_length (k : MarkD) : k.bytes.length = 28 := by simp [MarkD.bytes, body_length, be4]
/-- What Encode answers of a good mark: its bytes, in a row of its own. -/
def EncDone (w : World) (bs : List UInt8) (e : Ending) (w' : World) : Prop :=
  ∃ v', e = .returned (.tuple #[v', .bool true]) ∧ w'.ownsRow w.heap.size 5 1 v' bs.length (bs.map u8v) ∧ Below w.heap.size w w'
set_option maxRecDepth 100000 in
set_option maxHeartbeats 400000 in
theorem markEncode_bad (k : MarkD) (w : World) (hg : k.good = false) :
    Calls Try.prog 17 #[k.val] w fun e w' => e = .returned (.tuple #[.slice none 0 0, .bool false]) ∧ Below w.heap.size w w' := by
  obtain ⟨kind, rcpt, n⟩ := k
  go_enter Try.func17, Try.ntmps17
  go_wp2_with fail
  refine (markGood_calls ⟨kind, rcpt, n⟩ _).mono ?_; rintro e w1 ⟨rfl, hb⟩
  rw [hg]
  go_wp2
  go_ret2
  exact ⟨rfl, ((Below.refl _ _).alloc (Nat.le_refl _) _).trans (hb.mono (by simp))⟩
theorem enc_frozen (w : World) (c : Array Value) (t : TypeId) : (w.alloc (.cells c t)).heap[w.heap.size]? = some (.cells c t (0, 0)) := heap_alloc_new w _
theorem wr_new (w : World) (base : Nat) : WrAt (w.alloc (.cells #[.slice none 0 0, .bool false] 56)) w.heap.size base (.slice none 0 0) [] false :=
  ⟨heap_alloc_new w _, World.ownsRow_nil _ _ _ _, by simp [Value.ownBlock]⟩
set_option maxRecDepth 100000 in
set_option maxHeartbeats 400000 in
theorem markEncode_good (k : MarkD) (w : World) (hg : k.good = true) :
    Calls Try.prog 17 #[k.val] w (EncDone w k.bytes) := by
  have hg' : 1 ≤ k.kind ∧ k.kind ≤ 5 ∧ 0 ≤ k.rcpt ∧ k.rcpt < 8 ∧ 0 ≤ k.n ∧ k.n ≤ 1099511627776 := of_decide_eq_true hg
  obtain ⟨kind, rcpt, n⟩ := k
  obtain ⟨h1, h2, h3, h4, h5, h6⟩ := hg'
  obtain ⟨kn, rfl⟩ := Int.eq_ofNat_of_zero_le (show (0 : Int) ≤ kind by simp only at h1; omega)
  obtain ⟨rn, rfl⟩ := Int.eq_ofNat_of_zero_le h3
  obtain ⟨nn, rfl⟩ := Int.eq_ofNat_of_zero_le h5
  simp only at h1 h2 h3 h4 h5 h6
  obtain ⟨i0, hi, hz0, hz1, hz2⟩ := info_parts infoU8
  go_enter Try.func17, Try.ntmps17
  go_wp2_with fail
  refine (markGood_calls ⟨kn, rn, nn⟩ _).mono ?_; rintro e w1 ⟨rfl, hb⟩
  rw [hg]
  have hbk : w1.heap[w.heap.size]? = some (.cells #[.int .i64 kn, .int .i64 rn, .int .i64 nn] 36 (0, 0)) := (hb.block _ (by simp)).trans (heap_alloc_new w _)
  have hbel : Below w.heap.size w w1 := ((Below.refl _ _).alloc (Nat.le_refl _) _).trans (hb.mono (by simp))
  have hsz1 : w.heap.size < w1.heap.size := (Array.getElem?_eq_some_iff.1 hbk).1
  have hc0 : w1.cell? ⟨w.heap.size, 0, none⟩ = some (.int .i64 kn) := by rw [cell_of_row _ _ _ _ _ _ hbk]; rfl
  have hc1 : w1.cell? ⟨w.heap.size, 1, none⟩ = some (.int .i64 rn) := by rw [cell_of_row _ _ _ _ _ _ hbk]; rfl
  have hc2 : w1.cell? ⟨w.heap.size, 2, none⟩ = some (.int .i64 nn) := by rw [cell_of_row _ _ _ _ _ _ hbk]; rfl
  have ix0 : ∀ w, (Instr.index 57 (.agg #[.int .i64 (kn : Int), .int .i64 (rn : Int), .int .i64 (nn : Int)]) (.int .i64 0)).run Try.prog w = .ok (.int .i64 (kn : Int)) w := fun _ => by kernel_rfl
  have ix1 : ∀ w, (Instr.index 57 (.agg #[.int .i64 (kn : Int), .int .i64 (rn : Int), .int .i64 (nn : Int)]) (.int .i64 1)).run Try.prog w = .ok (.int .i64 (rn : Int)) w := fun _ => by kernel_rfl
  have ix2 : ∀ w, (Instr.index 57 (.agg #[.int .i64 (kn : Int), .int .i64 (rn : Int), .int .i64 (nn : Int)]) (.int .i64 2)).run Try.prog w = .ok (.int .i64 (nn : Int)) w := fun _ => by kernel_rfl
  obtain ⟨pre, hpre⟩ : ∃ pre : Nat → List UInt8, pre = markPre ⟨kn, rn, nn⟩ := ⟨_, rfl⟩
  have p1 : pre 1 = pre 0 ++ num8 kn := by rw [hpre]; simp [markPre]
  have p2 : pre 2 = pre 1 ++ num8 rn := by rw [hpre]; simp [markPre]
  have p3 : pre 3 = pre 2 ++ num8 nn := by rw [hpre]; simp [markPre]
  have pb : pre 3 = MarkD.body ⟨kn, rn, nn⟩ := by rw [hpre]; simp [markPre, MarkD.body]
  have l0 : (pre 0).length = 0 := by rw [hpre]; simp [markPre]
  have l1 : (pre 1).length = 8 := by rw [p1, List.length_append, num8_length, l0]
  have l2 : (pre 2).length = 16 := by rw [p2, List.length_append, num8_length, l1]
  have hp0 : pre 0 = [] := List.length_eq_zero_iff.1 l0
  have P1 := Lib.hid p1
  have P2 := Lib.hid p2
  have P3 := Lib.hid p3
  have PB := Lib.hid pb
  clear p1 p2 p3 pb hpre
  go_wp2
  go_loopw [21] (fun i wr => ∃ (j : Nat) (v : Value), j ≤ 3 ∧ i = .int .i64 j ∧ WrAt wr w1.heap.size w.heap.size v (pre j) false ∧ Below w.heap.size w wr) (fun i _ => 3 - (intOf i).toNat)
  case atStart =>
    refine ⟨0, .slice none 0 0, by omega, rfl, ?_, hbel.alloc (Nat.le_of_lt hsz1) _⟩
    rw [hp0]; exact wr_new _ _
  case round =>
    obtain ⟨j, v, hj, rfl, hW, hbw⟩ := hrel
    rcases (by omega : j = 0 ∨ j = 1 ∨ j = 2 ∨ j = 3) with rfl | rfl | rfl | rfl
    · go_wp2_with fail
      refine (wNum_good w1.heap.size w.heap.size v (pre 0) false kn _ hW (by omega) hbw.size (by omega)).mono ?_; rintro e w2 ⟨v', rfl, hW2, hK, _⟩
      rw [← P1.out] at hW2
      have hb2 := hbw.trans (hK.below (B := w.heap.size) (fun i hi => by rcases hi with h | h; omega; exact own_base hW.own i h) hbw.size)
      go_wp2
      go_roundw
      case rel => exact ⟨1, v', by omega, rfl, hW2, hb2⟩
      case measure => simp [intOf] <;> omega
    · go_wp2_with fail
      refine (wNum_good w1.heap.size w.heap.size v (pre 1) false rn _ hW (by omega) hbw.size (by omega)).mono ?_; rintro e w2 ⟨v', rfl, hW2, hK, _⟩
      rw [← P2.out] at hW2
      have hb2 := hbw.trans (hK.below (B := w.heap.size) (fun i hi => by rcases hi with h | h; omega; exact own_base hW.own i h) hbw.size)
      go_wp2
      go_roundw
      case rel => exact ⟨2, v', by omega, rfl, hW2, hb2⟩
      case measure => simp [intOf] <;> omega
    · go_wp2_with fail
      refine (wNum_good w1.heap.size w.heap.size v (pre 2) false nn _ hW (by omega) hbw.size (by omega)).mono ?_; rintro e w2 ⟨v', rfl, hW2, hK, _⟩
      rw [← P3.out] at hW2
      have hb2 := hbw.trans (hK.below (B := w.heap.size) (fun i hi => by rcases hi with h | h; omega; exact own_base hW.own i h) hbw.size)
      go_wp2
      go_roundw
      case rel => exact ⟨3, v', by omega, rfl, hW2, hb2⟩
      case measure => simp [intOf] <;> omega
    · rw [PB.out] at hW
      have hbl : (MarkD.body ⟨kn, rn, nn⟩).length = 24 := body_length _
      go_wp2_with fail
      refine (wOut_calls w1.heap.size w.heap.size v _ _ hW (by omega)).mono ?_; rintro e w2 ⟨v2, rfl, hown2, hb2⟩
      go_wp2_with fail
      refine (crcSum_calls _ _ _ (rdB_ofOwn hown2)).mono ?_; rintro e w3 ⟨rfl, hb3⟩
      have hown3 := own_below hown2 hb3 (Nat.le_refl _)
      obtain ⟨c, hcs⟩ : ∃ c, PbCrc.sum (MarkD.body ⟨kn, rn, nn⟩) = c := ⟨_, rfl⟩
      rw [hcs]
      have u24 : (c.toNat : Int) / 16777216 = ((UInt8.ofNat (c.toNat / 2 ^ 24)).toNat : Int) := by have := c.isLt; rw [UInt8.toNat_ofNat', Nat.mod_eq_of_lt (by omega)]; simp
      have u16 : (c.toNat : Int) / 65536 % 256 = ((UInt8.ofNat (c.toNat / 2 ^ 16)).toNat : Int) := by rw [UInt8.toNat_ofNat']; simp
      have u8' : (c.toNat : Int) / 256 % 256 = ((UInt8.ofNat (c.toNat / 2 ^ 8)).toNat : Int) := by rw [UInt8.toNat_ofNat']; simp
      have u0 : (c.toNat : Int) % 256 = ((UInt8.ofNat c.toNat).toNat : Int) := by rw [UInt8.toNat_ofNat']; simp
      have hfin : MarkD.bytes ⟨kn, rn, nn⟩ = MarkD.body ⟨kn, rn, nn⟩ ++ [UInt8.ofNat (c.toNat / 2 ^ 24), UInt8.ofNat (c.toNat / 2 ^ 16), UInt8.ofNat (c.toNat / 2 ^ 8), UInt8.ofNat c.toNat] := by rw [← hcs]; rfl
      generalize UInt8.ofNat (c.toNat / 2 ^ 24) = b0 at u24 hfin
      generalize UInt8.ofNat (c.toNat / 2 ^ 16) = b1 at u16 hfin
      generalize UInt8.ofNat (c.toNat / 2 ^ 8) = b2 at u8' hfin
      generalize UInt8.ofNat c.toNat = b3 at u0 hfin
      have Hfin := Lib.hid hfin
      clear hcs hfin
      have hownA : (w3.alloc (.cells #[u8v b0, u8v b1, u8v b2, u8v b3] 5)).ownsRow w.heap.size 5 1 v2 (MarkD.body ⟨kn, rn, nn⟩).length ((MarkD.body ⟨kn, rn, nn⟩).map u8v) := World.ownsRow.alloc (own_mono hown3 hbw.size) _
      have hnewsA := Lib.hid (news_new w3 [u8v b0, u8v b1, u8v b2, u8v b3] 5 (0, 0))
      have h63 : (MarkD.body ⟨kn, rn, nn⟩).length + 4 ≤ maxLen := by rw [hbl]; decide
      have h47 : ((MarkD.body ⟨kn, rn, nn⟩).length + 4) * 1 ≤ 140737488355328 := by omega
      have hs2 := hbw.size
      have hs3 := hb2.size
      have hs4 := hb3.size
      have hbs : w.heap.size ≤ (w3.alloc (.cells #[u8v b0, u8v b1, u8v b2, u8v b3] 5)).heap.size := by simp; omega
      go_wp2_with (at_builtin; go_must (refine wpList_append_own _ rfl (.tmp 35) (.tmp 47) 22 rfl w.heap.size 5 i0 (.int .u8 0) 1 1 Try.underlying22 hi hz0 hz1 hz2 rfl (by decide) v2 _ _ rfl hownA ⟨w3.heap.size, 0, none⟩ 4 4 [u8v b0, u8v b1, u8v b2, u8v b3] rfl rfl hnewsA.out (one_u8 [b0, b1, b2, b3]) h63 h47 hbs ?_); rintro v3 w4 hown4 hg4 _)
      go_ret2
      refine ⟨v3, rfl, ?_, ?_⟩
      · rw [Hfin.out]; simpa using hown4
      · exact Below.grown ((((hbw.trans (hb2.mono hs2)).trans (hb3.mono (by omega)))).alloc (by omega) _) hg4 (by simp; omega) (fun k hk => own_base hownA k hk)
end Go.Proofs.Ytfgmnachckbimaa
