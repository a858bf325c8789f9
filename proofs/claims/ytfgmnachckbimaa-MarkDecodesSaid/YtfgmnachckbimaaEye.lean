/-
  The walk of pillarboxref01's Eye: its next number.
-/
import Derived.Test.YtfgmnachckbimaaRead
set_option linter.unusedSimpArgs false
set_option linter.unusedVariables false
namespace Go.Proofs.Ytfgmnachckbimaa
open Go.RowKit
/-- An Eye in block b, which has the bytes bs left, in v. -/
structure EyeAt (w : World) (b : Nat) (v : Value) (bs : List UInt8) (bad : Bool) : Prop where
  blk : w.heap[b]? = some (.cells #[v, .bool bad] 69 (0, 0))
  rd : RdB w v bs
  ne : v.ownBlock ≠ some b
theorem EyeAt.cells {w : World} {b : Nat} {v : Value} {bs : List UInt8} {bad : Bool} (h : EyeAt w b v bs bad) :
    w.cell? ⟨b, 0, none⟩ = some v ∧ w.cell? ⟨b, 1, none⟩ = some (.bool bad) ∧ w.frozen? ⟨b, 0, none⟩ = false ∧ w.frozen? ⟨b, 1, none⟩ = false := by
  have hb := h.blk
  refine ⟨?_, ?_, ?_, ?_⟩
  · rw [cell_of_row _ _ _ _ _ _ hb]; rfl
  · rw [cell_of_row _ _ _ _ _ _ hb]; rfl
  · unfold World.frozen?; rw [hb]; rfl
  · unfold World.frozen?; rw [hb]; rfl
/-- What the next number is: how much, and what is left, and whether something lacked. -/
def eyeNum (bs : List UInt8) (bad : Bool) : Nat × (List UInt8 × Bool) :=
  if bad = true ∨ bs.length < 8 then (0, (bs, true))
  else if 4611686018427387904 < beNat (bs.take 8) then (0, (bs, true))
  else (beNat (bs.take 8), (bs.drop 8, false))
def EyeNumDone (w : World) (b : Nat) (v : Value) (r : Nat × (List UInt8 × Bool)) (e : Ending) (w' : World) : Prop :=
  ∃ v', e = .returned (.int .i64 (r.1 : Int)) ∧ EyeAt w' b v' r.2.1 r.2.2 ∧ Keeps (fun k => k = b) w w' ∧ v'.ownBlock = v.ownBlock
set_option maxRecDepth 100000 in
set_option maxHeartbeats 400000 in
theorem eyeNum_calls (b : Nat) (v : Value) (bs : List UInt8) (bad : Bool) (w : World) (hR : EyeAt w b v bs bad) :
    Calls Try.prog 35 #[.pointer (some ⟨b, 0, none⟩)] w (EyeNumDone w b v (eyeNum bs bad)) := by
  obtain ⟨hc0, hc1, hf0, hf1⟩ := hR.cells
  obtain ⟨a, cap, hv, hl, hc⟩ := hR.rd.form
  have hr := hR.rd
  have hblk := hR.blk
  have hne := hR.ne
  have hK1 := Keeps.setCell (F := fun k => k = b) w ⟨b, 1, none⟩ (.bool true) rfl
  by_cases hbad : bad = true ∨ bs.length < 8
  · have hm : eyeNum bs bad = (0, (bs, true)) := by rw [eyeNum, if_pos hbad]
    rw [hm]
    cases bad
    all_goals
      first
      | (have hlt : bs.length < 8 := by rcases hbad with h | h; cases h; exact h)
      | skip
      clear hbad hm
      subst hv
      go_enter Try.func35, Try.ntmps35
      go_wp2
      go_ret
      exact ⟨_, rfl, ⟨heap_setCell_same _ _ 1 _ _ _ hblk, hr.keeps hK1 (fun k hk e => hne (e ▸ hk)), hne⟩, hK1, rfl⟩
  · have hb : bad = false := by cases bad <;> simp_all
    subst hb
    have hl8 : 8 ≤ bs.length := by simp at hbad; omega
    obtain ⟨q, hq⟩ : ∃ q, bs.take 8 = q := ⟨_, rfl⟩
    have hql : q.length = 8 := by rw [← hq]; simp; omega
    have hm : eyeNum bs false = if 4611686018427387904 < beNat q then (0, (bs, true)) else (beNat q, (bs.drop 8, false)) := by rw [eyeNum, if_neg hbad, hq]
    have Hm := Lib.hid hm
    subst hv
    have hcell : ∃ gb off, a = some ⟨gb, off, none⟩ ∧ ∀ (j : Nat) x, q[j]? = some x → w.cell? ⟨gb, off + j, none⟩ = some (.int .u8 x.toNat) := by
      rcases hr with ⟨_, _, _, _, h⟩ | ⟨gb, off, cap', h1, h2, h3, h4, h5, h6⟩
      · rw [h] at hl8; simp at hl8
      · cases h1
        refine ⟨gb, off, rfl, fun j x hx => ?_⟩
        rw [← hq, List.getElem?_take] at hx
        split at hx
        · exact h6 j x hx
        · cases hx
    obtain ⟨gb, off, rfl, hcell⟩ := hcell
    have hs2 : ∀ w, (Instr.sliceAt 22 (.slice (some ⟨gb, off, none⟩) bs.length cap) (some (.int .i64 8)) none none).run Try.prog w = .ok (.slice (if cap = 8 then (some ⟨gb, off, none⟩ : Option Addr) else (some ⟨gb, off, none⟩ : Option Addr).map (·.add 8)) (bs.length - 8) (cap - 8)) w := run_slice_l (P := Try.prog) Try.underlying22 u8size (some ⟨gb, off, none⟩) bs.length cap 8 hl8
    have hp2 := hr.part 8 bs.length hl8 (Nat.le_refl _)
    rw [List.take_of_length_le (Nat.le_refl _)] at hp2
    have ho := ownBlock_part (some ⟨gb, off, none⟩) cap 8 (bs.length - 8) (cap - 8) bs.length cap
    generalize (if cap = 8 then (some ⟨gb, off, none⟩ : Option Addr) else (some ⟨gb, off, none⟩ : Option Addr).map (·.add 8)) = a2 at hs2 hp2 ho
    clear hm hbad hq
    go_enter Try.func35, Try.ntmps35
    go_wp2
    go_loop [3, 4] (fun n i => ∃ j : Nat, j ≤ 8 ∧ i = .int .i64 j ∧ n = .int .u64 (beNat (q.take j) : Int)) (fun _ i => 8 - (intOf i).toNat)
    case atStart => exact ⟨0, by omega, rfl, rfl⟩
    case round =>
      obtain ⟨j, hj, rfl, rfl⟩ := hrel
      by_cases hlt : j < 8
      · obtain ⟨x, hx⟩ : ∃ x, q[j]? = some x := ⟨q[j], List.getElem?_eq_getElem (by omega)⟩
        have hcx := hcell j x hx
        have hsn := beNat_snoc (q.take j) x
        rw [← take_snoc hx] at hsn
        have hbl := beNat_lt (q.take j)
        rw [List.length_take, Nat.min_eq_left (by omega)] at hbl
        have hp : 256 ^ j ≤ 256 ^ 7 := Nat.pow_le_pow_right (by omega) (by omega)
        generalize beNat (q.take j) = m at hsn hbl
        have hm7 : m * 256 < 18446744073709551616 := by omega
        have hx8 := x.toNat_lt
        have hj0 : (0 : Int) ≤ (j : Int) := by omega
        have hj1 : (j : Int) < (bs.length : Int) := by omega
        have Hsn := Lib.hid hsn
        clear hsn hx hcell hp hbl
        go_wp2
        go_round
        case rel => exact ⟨j + 1, by omega, by go_num, by rw [Hsn.out]; simp⟩
        case measure => simp [intOf] <;> omega
      · have hj8 : j = 8 := by omega
        subst hj8
        rw [List.take_of_length_le (by omega)]
        have hbl := beNat_lt q
        rw [hql] at hbl
        clear hcell
        by_cases hbig : 4611686018427387904 < beNat q
        · have hm := Hm.out
          rw [if_pos hbig] at hm
          have Hm2 := Lib.hid hm
          clear hm
          generalize beNat q = m at hbig hbl
          go_wp2
          go_ret
          refine ⟨.slice (some ⟨gb, off, none⟩) bs.length cap, by rw [Hm2.out]; rfl, ?_, hK1, rfl⟩
          rw [Hm2.out]
          exact ⟨heap_setCell_same _ _ 1 _ _ _ hblk, hr.keeps hK1 (fun k hk e => hne (e ▸ hk)), hne⟩
        · have hm := Hm.out
          rw [if_neg hbig] at hm
          have Hm2 := Lib.hid hm
          clear hm
          generalize beNat q = m at hbig hbl Hm2
          have hK0 := Keeps.setCell (F := fun k => k = b) w ⟨b, 0, none⟩ (.slice a2 (bs.length - 8) (cap - 8)) rfl
          go_wp2
          go_ret
          refine ⟨.slice a2 (bs.length - 8) (cap - 8), by rw [Hm2.out]; rfl, ?_, hK0, ho⟩
          rw [Hm2.out]
          exact ⟨heap_setCell_same _ _ 0 _ _ _ hblk, hp2.keeps hK0 (fun k hk e => hne (by rw [← ho, hk]; exact congrArg some e)), by rw [ho]; exact hne⟩
end Go.Proofs.Ytfgmnachckbimaa
