/-
  What bytes say as a mail's record: plain functions over bytes, and their laws.
  The walk of word.Reader.Bytes.
  The walk of pillarboxref01's Eye: its next number.
-/
import Derived.Test.YtffnbkmigapmjaaGreatDoorC2
import Derived.Test.YtffnbkmigapmjaaGreatDoorC10
import Derived.Test.YtffnbkmigapmjaaGreatDoorC27
set_option linter.unusedSimpArgs false
set_option linter.unusedVariables false
namespace Go.Proofs.YtffnbkmigapmjaaGreatDoor
/-- The next number, and what is left (none: something lacked). -/
def numO : Option (List UInt8) → Nat × Option (List UInt8)
  | none => (0, none)
  | some bs => if bs.length < 8 then (0, none) else if 4611686018427387904 < beNat (bs.take 8) then (0, none) else (beNat (bs.take 8), some (bs.drop 8))
/-- The next bytes, and what is left. -/
def bytesO (o : Option (List UInt8)) : List UInt8 × Option (List UInt8) :=
  match (numO o).2 with
  | none => ([], none)
  | some r => if (numO o).1 ≤ r.length then (r.take (numO o).1, some (r.drop (numO o).1)) else ([], none)
def manyO : Nat → Option (List UInt8) → List (List UInt8) × Option (List UInt8)
  | 0, o => ([], o)
  | n + 1, o => ((manyO n o).1 ++ [(bytesO (manyO n o).2).1], (bytesO (manyO n o).2).2)
/-- A mail's parts, read one behind the other. -/
def readA (bs : List UInt8) := numO (some bs)
def readB (bs : List UInt8) := numO (readA bs).2
def readC (bs : List UInt8) := numO (readB bs).2
def readF (bs : List UInt8) := bytesO (readC bs).2
def readN (bs : List UInt8) := numO (readF bs).2
def readL (bs : List UInt8) := manyO (readN bs).1 (readN bs).2
def readT (bs : List UInt8) := bytesO (readL bs).2
def readMail (bs : List UInt8) : MailD := ⟨((readA bs).1 : Int), ((readB bs).1 : Int), ((readC bs).1 : Int), (readF bs).1, (readL bs).1, (readT bs).1⟩
def readM (bs : List UInt8) : Option MailD := if (readN bs).1 ≤ 8 ∧ (readT bs).2 = some [] ∧ (readMail bs).good = true then some (readMail bs) else none
/-- The good mail whose record bytes begin with, and the record's length. -/
def decodeMail (bs : List UInt8) : Option (MailD × Nat) :=
  match (bytesO (some bs)).2 with
  | none => none
  | some rest => if rest.length < 4 then none else if rest.take 4 = be4 (PbCrc.sum (bytesO (some bs)).1) then (readM (bytesO (some bs)).1).map fun m => (m, (bytesO (some bs)).1.length + 12) else none
theorem numO_num8 (n : Nat) (h : n ≤ 4611686018427387904) (r : List UInt8) : numO (some (num8 n ++ r)) = (n, some r) := by
  have hl := num8_length n
  have ht : (num8 n ++ r).take 8 = num8 n := by rw [List.take_append_of_le_length (by omega), List.take_of_length_le (by omega)]
  have hd : (num8 n ++ r).drop 8 = r := by rw [List.drop_append_of_le_length (by omega), List.drop_of_length_le (by omega), List.nil_append]
  rw [numO, ht, hd, beNat_num8 n (by omega), if_neg (by rw [List.length_append]; omega), if_neg (by omega)]
theorem bytesO_lenB (d : List UInt8) (h : d.length ≤ 4611686018427387904) (r : List UInt8) : bytesO (some (lenB d ++ r)) = (d, some r) := by
  rw [bytesO, lenB, List.append_assoc, numO_num8 _ h]
  simp only
  rw [if_pos (by rw [List.length_append]; omega), List.take_append_of_le_length (Nat.le_refl _), List.take_of_length_le (Nat.le_refl _), List.drop_append_of_le_length (Nat.le_refl _), List.drop_of_length_le (Nat.le_refl _), List.nil_append]
theorem manyO_snoc (n : Nat) (o : Option (List UInt8)) : manyO (n + 1) o = ((manyO n o).1 ++ [(bytesO (manyO n o).2).1], (bytesO (manyO n o).2).2) := rfl
theorem manyO_flat (ls : List (List UInt8)) (h : ∀ l ∈ ls, l.length ≤ 4611686018427387904) (r : List UInt8) : ∀ k, k ≤ ls.length → manyO k (some (ls.flatMap lenB ++ r)) = (ls.take k, some ((ls.drop k).flatMap lenB ++ r)) := by
  intro k
  induction k with
  | zero => intro _; simp [manyO]
  | succ k ih =>
    intro hk
    obtain ⟨x, hx⟩ : ∃ x, ls[k]? = some x := ⟨_, List.getElem?_eq_getElem (by omega)⟩
    have hd : ls.drop k = x :: ls.drop (k + 1) := by
      rw [List.drop_eq_getElem_cons (by omega)]; congr 1; exact (List.getElem?_eq_some_iff.1 hx).2
    rw [manyO_snoc, ih (by omega)]
    simp only
    rw [hd, List.flatMap_cons, List.append_assoc, bytesO_lenB x (h x (List.mem_of_getElem? hx)), take_snoc hx]
theorem inner_eq (m : MailD) : m.inner = num8 m.id.toNat ++ (num8 m.parent.toNat ++ (num8 m.born.toNat ++ (lenB m.frm ++ (num8 m.rcpts.length ++ (m.rcpts.flatMap lenB ++ (lenB m.body ++ [])))))) := by
  unfold MailD.inner; simp only [List.append_assoc, List.append_nil]
theorem read_steps (m : MailD) (hs : m.small) (hg : m.good = true) : (readMail m.inner) = m ∧ (readN m.inner).1 = m.rcpts.length ∧ (readT m.inner).2 = some [] := by
  obtain ⟨⟨h1a, h1b⟩, ⟨h2a, h2b⟩, ⟨h3a, h3b⟩, ⟨h4a, h4b⟩, h5, -⟩ := (good_iff m).1 hg
  obtain ⟨hs1, hs2⟩ := hs
  have eA : readA m.inner = (m.id.toNat, some (num8 m.parent.toNat ++ (num8 m.born.toNat ++ (lenB m.frm ++ (num8 m.rcpts.length ++ (m.rcpts.flatMap lenB ++ (lenB m.body ++ []))))))) := by rw [readA, inner_eq, numO_num8 _ (by omega)]
  have eB : readB m.inner = (m.parent.toNat, some (num8 m.born.toNat ++ (lenB m.frm ++ (num8 m.rcpts.length ++ (m.rcpts.flatMap lenB ++ (lenB m.body ++ [])))))) := by rw [readB, eA]; exact numO_num8 _ (by omega) _
  have eC : readC m.inner = (m.born.toNat, some (lenB m.frm ++ (num8 m.rcpts.length ++ (m.rcpts.flatMap lenB ++ (lenB m.body ++ []))))) := by rw [readC, eB]; exact numO_num8 _ (by omega) _
  have eF : readF m.inner = (m.frm, some (num8 m.rcpts.length ++ (m.rcpts.flatMap lenB ++ (lenB m.body ++ [])))) := by rw [readF, eC]; exact bytesO_lenB _ (by omega) _
  have eN : readN m.inner = (m.rcpts.length, some (m.rcpts.flatMap lenB ++ (lenB m.body ++ []))) := by rw [readN, eF]; exact numO_num8 _ (by omega) _
  have eL : readL m.inner = (m.rcpts, some (lenB m.body ++ [])) := by
    rw [readL, eN]
    have := manyO_flat m.rcpts (fun l h => by have := hs2 l h; omega) (lenB m.body ++ []) _ (Nat.le_refl _)
    rw [this, List.take_of_length_le (Nat.le_refl _), List.drop_of_length_le (Nat.le_refl _)]; rfl
  have eT : readT m.inner = (m.body, some []) := by rw [readT, eL]; exact bytesO_lenB _ (by omega) _
  refine ⟨?_, by rw [eN], by rw [eT]⟩
  rw [readMail, eA, eB, eC, eF, eL, eT]
  simp only
  rw [Int.toNat_of_nonneg (by omega), Int.toNat_of_nonneg (by omega), Int.toNat_of_nonneg (by omega)]
theorem readM_inner (m : MailD) (hs : m.small) (hg : m.good = true) : readM m.inner = some m := by
  obtain ⟨h1, h2, h3⟩ := read_steps m hs hg
  have := ((good_iff m).1 hg).2.2.2.1.2
  rw [readM, h1, h2, h3, if_pos ⟨by omega, rfl, hg⟩]
theorem record_bytes (m : MailD) (hs : m.small) (hg : m.good = true) (more : List UInt8) : bytesO (some (m.record ++ more)) = (m.inner, some (be4 (PbCrc.sum m.inner) ++ more)) := by
  have hi := (good_iff m).1 hg
  have := inner_small m hs hi.2.2.2.1.2 hi.2.2.2.2.1
  rw [MailD.record, List.append_assoc, bytesO_lenB _ (by omega)]
theorem be4_length (c : BitVec 32) : (be4 c).length = 4 := rfl
theorem record_length (m : MailD) : m.record.length = m.inner.length + 12 := by rw [MailD.record, List.length_append, lenB_length, be4_length]; omega
theorem decode_record (m : MailD) (hs : m.small) (hg : m.good = true) (more : List UInt8) : decodeMail (m.record ++ more) = some (m, m.record.length) := by
  rw [decodeMail, record_bytes m hs hg]
  simp only
  rw [if_neg (by rw [List.length_append, be4_length]; omega), List.take_append_of_le_length (by rw [be4_length]; omega), List.take_of_length_le (by rw [be4_length]; omega), if_pos rfl, readM_inner m hs hg, record_length]; rfl
/-! What is read of some bytes is read of more, too. -/
end Go.Proofs.YtffnbkmigapmjaaGreatDoor

set_option linter.unusedSimpArgs false
set_option linter.unusedVariables false
namespace Go.Proofs.YtffnbkmigapmjaaGreatDoor
open Go.RowKit
/-- The next bytes: which, whether they are there; what is left. -/
def rdBytes (bs : List UInt8) (bad : Bool) : (List UInt8 × Bool) × (List UInt8 × Bool) :=
  if (rdNum bs bad).1.2 = true then
    if (rdNum bs bad).1.1 ≤ (rdNum bs bad).2.1.length then (((rdNum bs bad).2.1.take (rdNum bs bad).1.1, true), ((rdNum bs bad).2.1.drop (rdNum bs bad).1.1, false))
    else (([], false), ((rdNum bs bad).2.1, true))
  else (([], false), (rdNum bs bad).2)
def RBytesDone (w : World) (b : Nat) (v : Value) (r : (List UInt8 × Bool) × (List UInt8 × Bool)) (e : Ending) (w' : World) : Prop :=
  ∃ v1 v2, e = .returned (.tuple #[v1, .bool r.1.2]) ∧ RdB w' v1 r.1.1 ∧ RdAt w' b v2 r.2.1 r.2.2 ∧ Keeps (fun k => k = b) w w' ∧ (v1.ownBlock = v.ownBlock ∨ v1 = .slice none 0 0) ∧ v2.ownBlock = v.ownBlock
theorem rdNum_good {bs : List UInt8} {bad : Bool} (h : (rdNum bs bad).1.2 = true) : (rdNum bs bad).2.2 = false := by
  unfold rdNum at h ⊢
  split
  · next h1 => rw [if_pos h1] at h; cases h
  · next h1 =>
    rw [if_neg h1] at h
    split
    · next h2 => rw [if_pos h2] at h; cases h
    · rfl
set_option maxRecDepth 100000 in
set_option maxHeartbeats 1000000 in
theorem rBytes_calls (b : Nat) (v : Value) (bs : List UInt8) (bad : Bool) (w : World) (hR : RdAt w b v bs bad) :
    Calls Tryz.prog 142 #[.pointer (some ⟨b, 0, none⟩)] w (RBytesDone w b v (rdBytes bs bad)) := by
  have hnum := rNum_calls b v bs bad w hR
  have hgood := @rdNum_good bs bad
  unfold rdBytes
  unfold NumDone at hnum
  generalize rdNum bs bad = r at hnum hgood
  obtain ⟨⟨n, ok⟩, ⟨bs1, bad1⟩⟩ := r
  simp only at hnum hgood ⊢
  have Hnum := Lib.hid hnum
  clear hnum
  cases ok
  · clear hgood
    go_enter Tryz.func142, Tryz.ntmps142
    go_wp2_with fail
    refine (Hnum.out).mono ?_; rintro e w1 ⟨v1, rfl, hR1, hK1, ho1⟩
    go_wp2
    go_ret2
    exact ⟨.slice none 0 0, v1, rfl, .inl ⟨_, _, rfl, by decide, rfl⟩, hR1, hK1, .inr rfl, ho1⟩
  · have hb1 : bad1 = false := hgood rfl
    subst hb1
    clear hgood
    by_cases hle : n ≤ bs1.length
    · rw [if_pos rfl, if_pos hle]
      have Hle := Lib.hid hle
      clear hle
      go_enter Tryz.func142, Tryz.ntmps142
      go_wp2_with fail
      refine (Hnum.out).mono ?_; rintro e w1 ⟨v1, rfl, hR1, hK1, ho1⟩
      go_wp2_with fail
      refine (rTake_good b v1 bs1 n w1 hR1 Hle.out).mono ?_; rintro e w2 ⟨v2, v3, rfl, hr2, hR2, hK2, ho2, ho3⟩
      go_wp2
      go_ret2
      exact ⟨v2, v3, rfl, hr2, hR2, hK1.trans hK2, .inl (ho2.trans ho1), ho3.trans ho1⟩
    · rw [if_pos rfl, if_neg hle]
      have Hle := Lib.hid hle
      clear hle
      go_enter Tryz.func142, Tryz.ntmps142
      go_wp2_with fail
      refine (Hnum.out).mono ?_; rintro e w1 ⟨v1, rfl, hR1, hK1, ho1⟩
      go_wp2_with fail
      refine (rTake_bad b v1 bs1 false n w1 hR1 (.inr (by have := Hle.out; omega))).mono ?_; rintro e w2 ⟨rfl, hR2, hK2⟩
      go_wp2
      go_ret2
      exact ⟨.slice none 0 0, v1, rfl, .inl ⟨_, _, rfl, by decide, rfl⟩, hR2, hK1.trans hK2, .inr rfl, ho1⟩
end Go.Proofs.YtffnbkmigapmjaaGreatDoor

set_option linter.unusedSimpArgs false
set_option linter.unusedVariables false
namespace Go.Proofs.YtffnbkmigapmjaaGreatDoor
open Go.RowKit
/-- An Eye in block b, which has the bytes bs left, in v. -/
structure EyeAt (w : World) (b : Nat) (v : Value) (bs : List UInt8) (bad : Bool) : Prop where
  blk : w.heap[b]? = some (.cells #[v, .bool bad] 90 (0, 0))
  rd : RdB w v bs
  ne : v.ownBlock ≠ some b
theorem EyeAt.cells {w : World} {b : Nat} {v : Value} {bs : List UInt8} {bad : Bool} (h : EyeAt w b v bs bad) :
    w.cell? ⟨b, 0, none⟩ = some v ∧ w.cell? ⟨b, 1, none⟩ = some (.bool bad) ∧ w.frozen? ⟨b, 0, none⟩ = false ∧ w.frozen? ⟨b, 1, none⟩ = false := by
  have hb := h.blk
  refine ⟨?_, ?_, ?_, ?_⟩
  · rw [cell_of_row _ _ _ _ _ _ hb]; rfl
  · rw [cell_of_row _ _ _ _ _ _ hb]; rfl
  · unfold World.frozen?; rw [hb]; rfl
  · unfold World.frozen?; rw [hb]; rfl
/-- What the next number is: how much, and what is left, and whether something lacked. -/
def eyeNum (bs : List UInt8) (bad : Bool) : Nat × (List UInt8 × Bool) :=
  if bad = true ∨ bs.length < 8 then (0, (bs, true))
  else if 4611686018427387904 < beNat (bs.take 8) then (0, (bs, true))
  else (beNat (bs.take 8), (bs.drop 8, false))
def EyeNumDone (w : World) (b : Nat) (v : Value) (r : Nat × (List UInt8 × Bool)) (e : Ending) (w' : World) : Prop :=
  ∃ v', e = .returned (.int .i64 (r.1 : Int)) ∧ EyeAt w' b v' r.2.1 r.2.2 ∧ Keeps (fun k => k = b) w w' ∧ v'.ownBlock = v.ownBlock ∧ (NilOk v → NilOk v')
set_option maxRecDepth 100000 in
set_option maxHeartbeats 400000 in
theorem eyeNum_calls (b : Nat) (v : Value) (bs : List UInt8) (bad : Bool) (w : World) (hR : EyeAt w b v bs bad) :
    Calls Tryz.prog 49 #[.pointer (some ⟨b, 0, none⟩)] w (EyeNumDone w b v (eyeNum bs bad)) := by
  obtain ⟨hc0, hc1, hf0, hf1⟩ := hR.cells
  obtain ⟨a, cap, hv, hl, hc⟩ := hR.rd.form
  have hr := hR.rd
  have hblk := hR.blk
  have hne := hR.ne
  have hK1 := Keeps.setCell (F := fun k => k = b) w ⟨b, 1, none⟩ (.bool true) rfl
  by_cases hbad : bad = true ∨ bs.length < 8
  · have hm : eyeNum bs bad = (0, (bs, true)) := by rw [eyeNum, if_pos hbad]
    rw [hm]
    cases bad
    all_goals
      first
      | (have hlt : bs.length < 8 := by rcases hbad with h | h; cases h; exact h)
      | skip
      clear hbad hm
      subst hv
      go_enter Tryz.func49, Tryz.ntmps49
      go_wp2
      go_ret
      exact ⟨_, rfl, ⟨heap_setCell_same _ _ 1 _ _ _ hblk, hr.keeps hK1 (fun k hk e => hne (e ▸ hk)), hne⟩, hK1, rfl, id⟩
  · have hb : bad = false := by cases bad <;> simp_all
    subst hb
    have hl8 : 8 ≤ bs.length := by simp at hbad; omega
    obtain ⟨q, hq⟩ : ∃ q, bs.take 8 = q := ⟨_, rfl⟩
    have hql : q.length = 8 := by rw [← hq]; simp; omega
    have hm : eyeNum bs false = if 4611686018427387904 < beNat q then (0, (bs, true)) else (beNat q, (bs.drop 8, false)) := by rw [eyeNum, if_neg hbad, hq]
    have Hm := Lib.hid hm
    subst hv
    have hcell : ∃ gb off, a = some ⟨gb, off, none⟩ ∧ ∀ (j : Nat) x, q[j]? = some x → w.cell? ⟨gb, off + j, none⟩ = some (.int .u8 x.toNat) := by
      rcases hr with ⟨_, _, _, _, h⟩ | ⟨gb, off, cap', h1, h2, h3, h4, h5, h6⟩
      · rw [h] at hl8; simp at hl8
      · cases h1
        refine ⟨gb, off, rfl, fun j x hx => ?_⟩
        rw [← hq, List.getElem?_take] at hx
        split at hx
        · exact h6 j x hx
        · cases hx
    obtain ⟨gb, off, rfl, hcell⟩ := hcell
    have hs2 : ∀ w, (Instr.sliceAt 22 (.slice (some ⟨gb, off, none⟩) bs.length cap) (some (.int .i64 8)) none none).run Tryz.prog w = .ok (.slice (if cap = 8 then (some ⟨gb, off, none⟩ : Option Addr) else (some ⟨gb, off, none⟩ : Option Addr).map (·.add 8)) (bs.length - 8) (cap - 8)) w := run_slice_l (P := Tryz.prog) Tryz.underlying22 u8size (some ⟨gb, off, none⟩) bs.length cap 8 hl8
    have hp2 := hr.part 8 bs.length hl8 (Nat.le_refl _)
    rw [List.take_of_length_le (Nat.le_refl _)] at hp2
    have ho := ownBlock_part (some ⟨gb, off, none⟩) cap 8 (bs.length - 8) (cap - 8) bs.length cap
    have hnn : NilOk (.slice (if cap = 8 then (some ⟨gb, off, none⟩ : Option Addr) else (some ⟨gb, off, none⟩ : Option Addr).map (·.add 8)) (bs.length - 8) (cap - 8)) := by
      intro l c e; split at e <;> cases e
    generalize (if cap = 8 then (some ⟨gb, off, none⟩ : Option Addr) else (some ⟨gb, off, none⟩ : Option Addr).map (·.add 8)) = a2 at hs2 hp2 ho hnn
    have Hnn := Lib.hid hnn
    clear hnn
    clear hm hbad hq
    go_enter Tryz.func49, Tryz.ntmps49
    go_wp2
    go_loop [3, 4] (fun n i => ∃ j : Nat, j ≤ 8 ∧ i = .int .i64 j ∧ n = .int .u64 (beNat (q.take j) : Int)) (fun _ i => 8 - (intOf i).toNat)
    case atStart => exact ⟨0, by omega, rfl, rfl⟩
    case round =>
      obtain ⟨j, hj, rfl, rfl⟩ := hrel
      by_cases hlt : j < 8
      · obtain ⟨x, hx⟩ : ∃ x, q[j]? = some x := ⟨q[j], List.getElem?_eq_getElem (by omega)⟩
        have hcx := hcell j x hx
        have hsn := beNat_snoc (q.take j) x
        rw [← take_snoc hx] at hsn
        have hbl := beNat_lt (q.take j)
        rw [List.length_take, Nat.min_eq_left (by omega)] at hbl
        have hp : 256 ^ j ≤ 256 ^ 7 := Nat.pow_le_pow_right (by omega) (by omega)
        generalize beNat (q.take j) = m at hsn hbl
        have hm7 : m * 256 < 18446744073709551616 := by omega
        have hx8 := x.toNat_lt
        have hj0 : (0 : Int) ≤ (j : Int) := by omega
        have hj1 : (j : Int) < (bs.length : Int) := by omega
        have Hsn := Lib.hid hsn
        clear hsn hx hcell hp hbl
        go_wp2
        go_round
        case rel => exact ⟨j + 1, by omega, by go_num, by rw [Hsn.out]; simp⟩
        case measure => simp [intOf] <;> omega
      · have hj8 : j = 8 := by omega
        subst hj8
        rw [List.take_of_length_le (by omega)]
        have hbl := beNat_lt q
        rw [hql] at hbl
        clear hcell
        by_cases hbig : 4611686018427387904 < beNat q
        · have hm := Hm.out
          rw [if_pos hbig] at hm
          have Hm2 := Lib.hid hm
          clear hm
          generalize beNat q = m at hbig hbl
          go_wp2
          go_ret
          refine ⟨.slice (some ⟨gb, off, none⟩) bs.length cap, by rw [Hm2.out]; rfl, ?_, hK1, rfl, id⟩
          rw [Hm2.out]
          exact ⟨heap_setCell_same _ _ 1 _ _ _ hblk, hr.keeps hK1 (fun k hk e => hne (e ▸ hk)), hne⟩
        · have hm := Hm.out
          rw [if_neg hbig] at hm
          have Hm2 := Lib.hid hm
          clear hm
          generalize beNat q = m at hbig hbl Hm2
          have hK0 := Keeps.setCell (F := fun k => k = b) w ⟨b, 0, none⟩ (.slice a2 (bs.length - 8) (cap - 8)) rfl
          go_wp2
          go_ret
          refine ⟨.slice a2 (bs.length - 8) (cap - 8), by rw [Hm2.out]; rfl, ?_, hK0, ho, fun _ => Hnn.out⟩
          rw [Hm2.out]
          exact ⟨heap_setCell_same _ _ 0 _ _ _ hblk, hp2.keeps hK0 (fun k hk e => hne (by rw [← ho, hk]; exact congrArg some e)), by rw [ho]; exact hne⟩
end Go.Proofs.YtffnbkmigapmjaaGreatDoor
