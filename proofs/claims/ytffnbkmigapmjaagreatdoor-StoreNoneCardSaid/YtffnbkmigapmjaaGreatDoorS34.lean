/-
  What bytes say as a mail's record: plain functions over bytes, and their laws.
  The walk of word.Reader.Bytes.
-/
import Derived.Test.YtffnbkmigapmjaaGreatDoorS3
import Derived.Test.YtffnbkmigapmjaaGreatDoorS33
set_option linter.unusedSimpArgs false
set_option linter.unusedVariables false
namespace Go.Proofs.YtffnbkmigapmjaaGreatDoor
/-- The next number, and what is left (none: something lacked). -/
def numO : Option (List UInt8) → Nat × Option (List UInt8)
  | none => (0, none)
  | some bs => if bs.length < 8 then (0, none) else if 4611686018427387904 < beNat (bs.take 8) then (0, none) else (beNat (bs.take 8), some (bs.drop 8))
/-- The next bytes, and what is left. -/
def bytesO (o : Option (List UInt8)) : List UInt8 × Option (List UInt8) :=
  match (numO o).2 with
  | none => ([], none)
  | some r => if (numO o).1 ≤ r.length then (r.take (numO o).1, some (r.drop (numO o).1)) else ([], none)
def manyO : Nat → Option (List UInt8) → List (List UInt8) × Option (List UInt8)
  | 0, o => ([], o)
  | n + 1, o => ((manyO n o).1 ++ [(bytesO (manyO n o).2).1], (bytesO (manyO n o).2).2)
/-- A mail's parts, read one behind the other. -/
def readA (bs : List UInt8) := numO (some bs)
def readB (bs : List UInt8) := numO (readA bs).2
def readC (bs : List UInt8) := numO (readB bs).2
def readF (bs : List UInt8) := bytesO (readC bs).2
def readN (bs : List UInt8) := numO (readF bs).2
def readL (bs : List UInt8) := manyO (readN bs).1 (readN bs).2
def readT (bs : List UInt8) := bytesO (readL bs).2
def readMail (bs : List UInt8) : MailD := ⟨((readA bs).1 : Int), ((readB bs).1 : Int), ((readC bs).1 : Int), (readF bs).1, (readL bs).1, (readT bs).1⟩
def readM (bs : List UInt8) : Option MailD := if (readN bs).1 ≤ 8 ∧ (readT bs).2 = some [] ∧ (readMail bs).good = true then some (readMail bs) else none
/-- The good mail whose record bytes begin with, and the record's length. -/
def decodeMail (bs : List UInt8) : Option (MailD × Nat) :=
  match (bytesO (some bs)).2 with
  | none => none
  | some rest => if rest.length < 4 then none else if rest.take 4 = be4 (PbCrc.sum (bytesO (some bs)).1) then (readM (bytesO (some bs)).1).map fun m => (m, (bytesO (some bs)).1.length + 12) else none
theorem numO_none : numO none = (0, none) := rfl
theorem bytesO_none : bytesO none = ([], none) := rfl
theorem manyO_none (n : Nat) : (manyO n none).2 = none := by
  induction n with
  | zero => rfl
  | succ n ih => rw [manyO, ih]; rfl
theorem numO_num8 (n : Nat) (h : n ≤ 4611686018427387904) (r : List UInt8) : numO (some (num8 n ++ r)) = (n, some r) := by
  have hl := num8_length n
  have ht : (num8 n ++ r).take 8 = num8 n := by rw [List.take_append_of_le_length (by omega), List.take_of_length_le (by omega)]
  have hd : (num8 n ++ r).drop 8 = r := by rw [List.drop_append_of_le_length (by omega), List.drop_of_length_le (by omega), List.nil_append]
  rw [numO, ht, hd, beNat_num8 n (by omega), if_neg (by rw [List.length_append]; omega), if_neg (by omega)]
theorem bytesO_lenB (d : List UInt8) (h : d.length ≤ 4611686018427387904) (r : List UInt8) : bytesO (some (lenB d ++ r)) = (d, some r) := by
  rw [bytesO, lenB, List.append_assoc, numO_num8 _ h]
  simp only
  rw [if_pos (by rw [List.length_append]; omega), List.take_append_of_le_length (Nat.le_refl _), List.take_of_length_le (Nat.le_refl _), List.drop_append_of_le_length (Nat.le_refl _), List.drop_of_length_le (Nat.le_refl _), List.nil_append]
theorem manyO_snoc (n : Nat) (o : Option (List UInt8)) : manyO (n + 1) o = ((manyO n o).1 ++ [(bytesO (manyO n o).2).1], (bytesO (manyO n o).2).2) := rfl
theorem manyO_flat (ls : List (List UInt8)) (h : ∀ l ∈ ls, l.length ≤ 4611686018427387904) (r : List UInt8) : ∀ k, k ≤ ls.length → manyO k (some (ls.flatMap lenB ++ r)) = (ls.take k, some ((ls.drop k).flatMap lenB ++ r)) := by
  intro k
  induction k with
  | zero => intro _; simp [manyO]
  | succ k ih =>
    intro hk
    obtain ⟨x, hx⟩ : ∃ x, ls[k]? = some x := ⟨_, List.getElem?_eq_getElem (by omega)⟩
    have hd : ls.drop k = x :: ls.drop (k + 1) := by
      rw [List.drop_eq_getElem_cons (by omega)]; congr 1; exact (List.getElem?_eq_some_iff.1 hx).2
    rw [manyO_snoc, ih (by omega)]
    simp only
    rw [hd, List.flatMap_cons, List.append_assoc, bytesO_lenB x (h x (List.mem_of_getElem? hx)), take_snoc hx]
theorem inner_eq (m : MailD) : m.inner = num8 m.id.toNat ++ (num8 m.parent.toNat ++ (num8 m.born.toNat ++ (lenB m.frm ++ (num8 m.rcpts.length ++ (m.rcpts.flatMap lenB ++ (lenB m.body ++ [])))))) := by
  unfold MailD.inner; simp only [List.append_assoc, List.append_nil]
theorem read_steps (m : MailD) (hs : m.small) (hg : m.good = true) : (readMail m.inner) = m ∧ (readN m.inner).1 = m.rcpts.length ∧ (readT m.inner).2 = some [] := by
  obtain ⟨⟨h1a, h1b⟩, ⟨h2a, h2b⟩, ⟨h3a, h3b⟩, ⟨h4a, h4b⟩, h5, -⟩ := (good_iff m).1 hg
  obtain ⟨hs1, hs2⟩ := hs
  have eA : readA m.inner = (m.id.toNat, some (num8 m.parent.toNat ++ (num8 m.born.toNat ++ (lenB m.frm ++ (num8 m.rcpts.length ++ (m.rcpts.flatMap lenB ++ (lenB m.body ++ []))))))) := by rw [readA, inner_eq, numO_num8 _ (by omega)]
  have eB : readB m.inner = (m.parent.toNat, some (num8 m.born.toNat ++ (lenB m.frm ++ (num8 m.rcpts.length ++ (m.rcpts.flatMap lenB ++ (lenB m.body ++ [])))))) := by rw [readB, eA]; exact numO_num8 _ (by omega) _
  have eC : readC m.inner = (m.born.toNat, some (lenB m.frm ++ (num8 m.rcpts.length ++ (m.rcpts.flatMap lenB ++ (lenB m.body ++ []))))) := by rw [readC, eB]; exact numO_num8 _ (by omega) _
  have eF : readF m.inner = (m.frm, some (num8 m.rcpts.length ++ (m.rcpts.flatMap lenB ++ (lenB m.body ++ [])))) := by rw [readF, eC]; exact bytesO_lenB _ (by omega) _
  have eN : readN m.inner = (m.rcpts.length, some (m.rcpts.flatMap lenB ++ (lenB m.body ++ []))) := by rw [readN, eF]; exact numO_num8 _ (by omega) _
  have eL : readL m.inner = (m.rcpts, some (lenB m.body ++ [])) := by
    rw [readL, eN]
    have := manyO_flat m.rcpts (fun l h => by have := hs2 l h; omega) (lenB m.body ++ []) _ (Nat.le_refl _)
    rw [this, List.take_of_length_le (Nat.le_refl _), List.drop_of_length_le (Nat.le_refl _)]; rfl
  have eT : readT m.inner = (m.body, some []) := by rw [readT, eL]; exact bytesO_lenB _ (by omega) _
  refine ⟨?_, by rw [eN], by rw [eT]⟩
  rw [readMail, eA, eB, eC, eF, eL, eT]
  simp only
  rw [Int.toNat_of_nonneg (by omega), Int.toNat_of_nonneg (by omega), Int.toNat_of_nonneg (by omega)]
theorem readM_inner (m : MailD) (hs : m.small) (hg : m.good = true) : readM m.inner = some m := by
  obtain ⟨h1, h2, h3⟩ := read_steps m hs hg
  have := ((good_iff m).1 hg).2.2.2.1.2
  rw [readM, h1, h2, h3, if_pos ⟨by omega, rfl, hg⟩]
theorem record_bytes (m : MailD) (hs : m.small) (hg : m.good = true) (more : List UInt8) : bytesO (some (m.record ++ more)) = (m.inner, some (be4 (PbCrc.sum m.inner) ++ more)) := by
  have hi := (good_iff m).1 hg
  have := inner_small m hs hi.2.2.2.1.2 hi.2.2.2.2.1
  rw [MailD.record, List.append_assoc, bytesO_lenB _ (by omega)]
theorem be4_length (c : BitVec 32) : (be4 c).length = 4 := rfl
theorem record_length (m : MailD) : m.record.length = m.inner.length + 12 := by rw [MailD.record, List.length_append, lenB_length, be4_length]; omega
theorem decode_record (m : MailD) (hs : m.small) (hg : m.good = true) (more : List UInt8) : decodeMail (m.record ++ more) = some (m, m.record.length) := by
  rw [decodeMail, record_bytes m hs hg]
  simp only
  rw [if_neg (by rw [List.length_append, be4_length]; omega), List.take_append_of_le_length (by rw [be4_length]; omega), List.take_of_length_le (by rw [be4_length]; omega), if_pos rfl, readM_inner m hs hg, record_length]; rfl
/-! What is read of some bytes is read of more, too. -/
theorem numO_more {o : Option (List UInt8)} {n : Nat} {r : List UInt8} (h : numO o = (n, some r)) (q : List UInt8) : ∃ p, o = some p ∧ numO (some (p ++ q)) = (n, some (r ++ q)) := by
  cases o with
  | none => cases h
  | some p =>
    refine ⟨p, rfl, ?_⟩
    rw [numO] at h ⊢
    by_cases h1 : p.length < 8
    · rw [if_pos h1] at h; cases h
    · rw [if_neg h1] at h
      rw [if_neg (by rw [List.length_append]; omega), List.take_append_of_le_length (by omega), List.drop_append_of_le_length (by omega)]
      by_cases h2 : 4611686018427387904 < beNat (p.take 8)
      · rw [if_pos h2] at h; cases h
      · rw [if_neg h2] at h ⊢; cases h; rfl
theorem bytesO_more {o : Option (List UInt8)} {d r : List UInt8} (h : bytesO o = (d, some r)) (q : List UInt8) : ∃ p, o = some p ∧ bytesO (some (p ++ q)) = (d, some (r ++ q)) := by
  rw [bytesO] at h
  obtain ⟨n, s, hn⟩ : ∃ n s, numO o = (n, s) := ⟨_, _, rfl⟩
  rw [hn] at h
  cases s with
  | none => cases h
  | some s =>
    obtain ⟨p, rfl, hp⟩ := numO_more hn q
    refine ⟨p, rfl, ?_⟩
    rw [bytesO, hp]
    simp only at h ⊢
    by_cases h1 : n ≤ s.length
    · rw [if_pos h1] at h
      rw [if_pos (by rw [List.length_append]; omega), List.take_append_of_le_length h1, List.drop_append_of_le_length h1]
      cases h; rfl
    · rw [if_neg h1] at h; cases h
theorem manyO_more (n : Nat) : ∀ {o : Option (List UInt8)} {d : List (List UInt8)} {r : List UInt8}, manyO n o = (d, some r) → ∀ (q : List UInt8), ∃ p, o = some p ∧ manyO n (some (p ++ q)) = (d, some (r ++ q)) := by
  induction n with
  | zero => intro o d r h q; cases h; exact ⟨r, rfl, rfl⟩
  | succ n ih =>
    intro o d r h q
    rw [manyO_snoc] at h
    obtain ⟨d1, s1, h1⟩ : ∃ d1 s1, manyO n o = (d1, s1) := ⟨_, _, rfl⟩
    obtain ⟨d2, s2, h2⟩ : ∃ d2 s2, bytesO s1 = (d2, s2) := ⟨_, _, rfl⟩
    rw [h1] at h
    simp only at h
    rw [h2] at h
    simp only at h
    cases h
    obtain ⟨p1, hp1, hp2⟩ := bytesO_more h2 q
    rw [hp1] at h1
    obtain ⟨p, hp, hq⟩ := ih h1 q
    refine ⟨p, hp, ?_⟩
    rw [manyO_snoc, hq]
    simp only
    rw [hp2]
theorem numO_some {o : Option (List UInt8)} {r : List UInt8} (h : (numO o).2 = some r) : numO o = ((numO o).1, some r) := by rw [← h]
theorem bytesO_some {o : Option (List UInt8)} {r : List UInt8} (h : (bytesO o).2 = some r) : bytesO o = ((bytesO o).1, some r) := by rw [← h]
theorem manyO_some {n : Nat} {o : Option (List UInt8)} {r : List UInt8} (h : (manyO n o).2 = some r) : manyO n o = ((manyO n o).1, some r) := by rw [← h]
theorem read_more (p q : List UInt8) (r : List UInt8) (h : (readT p).2 = some r) : (readT (p ++ q)).2 = some (r ++ q) := by
  obtain ⟨p6, e6, g6⟩ := bytesO_more (bytesO_some h) q
  obtain ⟨p5, e5, g5⟩ := manyO_more _ (manyO_some e6) q
  obtain ⟨p4, e4, g4⟩ := numO_more (numO_some e5) q
  obtain ⟨p3, e3, g3⟩ := bytesO_more (bytesO_some e4) q
  obtain ⟨p2, e2, g2⟩ := numO_more (numO_some e3) q
  obtain ⟨p1, e1, g1⟩ := numO_more (numO_some e2) q
  obtain ⟨p0, e0, g0⟩ := numO_more (numO_some e1) q
  cases e0
  have a1 : readA (p ++ q) = ((readA p).1, some (p1 ++ q)) := g0
  have a2 : readB (p ++ q) = ((readB p).1, some (p2 ++ q)) := by rw [readB, a1]; exact g1
  have a3 : readC (p ++ q) = ((readC p).1, some (p3 ++ q)) := by rw [readC, a2]; exact g2
  have a4 : readF (p ++ q) = ((readF p).1, some (p4 ++ q)) := by rw [readF, a3]; exact g3
  have a5 : readN (p ++ q) = ((readN p).1, some (p5 ++ q)) := by rw [readN, a4]; exact g4
  have a6 : readL (p ++ q) = ((readL p).1, some (p6 ++ q)) := by rw [readL, a5]; exact g5
  rw [readT, a6]
  exact congrArg Prod.snd g6
theorem readM_cut (m : MailD) (hs : m.small) (hg : m.good = true) (k : Nat) (hk : k < m.inner.length) : readM (m.inner.take k) = none := by
  rw [readM]
  split
  · next h =>
    have h2 := read_more (m.inner.take k) (m.inner.drop k) [] h.2.1
    rw [List.take_append_drop, (read_steps m hs hg).2.2, List.nil_append] at h2
    have h3 := congrArg List.length (Option.some.inj h2)
    rw [List.length_drop, List.length_nil] at h3
    omega
  · rfl
theorem decode_cut (m : MailD) (hs : m.small) (hg : m.good = true) (k : Nat) (hk : k < m.record.length) : decodeMail (m.record.take k) = none := by
  cases hd : (bytesO (some (m.record.take k))).2 with
  | none => rw [decodeMail, hd]
  | some r =>
    obtain ⟨p, hp, hq⟩ := bytesO_more (bytesO_some hd) (m.record.drop k)
    cases hp
    have h0 := record_bytes m hs hg []
    rw [List.append_nil, List.append_nil] at h0
    rw [List.take_append_drop, h0] at hq
    have h2 := congrArg List.length (Option.some.inj (congrArg Prod.snd hq))
    rw [List.length_append, be4_length, List.length_drop] at h2
    rw [decodeMail, hd]
    simp only
    rw [if_pos (by omega)]
/-- One byte that is turned gives another sum. -/
theorem sum_set (bs : List UInt8) (k : Nat) (x t : UInt8) (hx : bs[k]? = some x) (ht : t ≠ 0) : PbCrc.sum (bs.set k (x ^^^ t)) ≠ PbCrc.sum bs := by
  obtain ⟨hk, hxe⟩ := List.getElem?_eq_some_iff.1 hx
  have e1 : bs = bs.take k ++ x :: bs.drop (k + 1) := by
    rw [← hxe, ← List.drop_eq_getElem_cons hk, List.take_append_drop]
  have e2 : bs.set k (x ^^^ t) = bs.take k ++ (x ^^^ t) :: bs.drop (k + 1) := by
    rw [List.set_eq_take_append_cons_drop, if_pos hk]
  intro e
  rw [e2] at e
  conv at e => rhs; rw [e1]
  unfold PbCrc.sum at e
  have e := BitVec.not_inj.1 e
  rw [PbCrc.run_append, PbCrc.run_append] at e
  generalize PbCrc.run (BitVec.allOnes 32) (bs.take k) = c at e
  generalize bs.drop (k + 1) = q at e
  have h1 : PbCrc.run c ((x ^^^ t) :: q) = PbCrc.run (PbCrc.byteStep c (x ^^^ t)) q := rfl
  have h2 : PbCrc.run c (x :: q) = PbCrc.run (PbCrc.byteStep c x) q := rfl
  rw [h1, h2] at e
  have h3 := PbCrc.byteStep_xor c 0#32 x t
  rw [show c ^^^ 0#32 = c by simp] at h3
  rw [h3] at e
  have hd : PbCrc.byteStep 0#32 t ≠ 0#32 := by
    unfold PbCrc.byteStep
    refine PbCrc.steps_ne 8 ?_
    intro h
    apply ht
    have := congrArg BitVec.toNat h
    have hlt := t.toNat_lt
    rw [BitVec.zero_xor, BitVec.toNat_ofNat, Nat.mod_eq_of_lt (by omega)] at this
    exact UInt8.toNat_inj.1 (by simpa using this)
  generalize PbCrc.byteStep 0#32 t = d at e hd
  generalize PbCrc.byteStep c x = a at e
  have h4 := PbCrc.run_lay q (List.replicate q.length 0) a d (by simp)
  rw [show PbCrc.lay q (List.replicate q.length 0) = q by
    apply List.ext_getElem (by simp [PbCrc.lay]); intro i h1 h2; simp [PbCrc.lay]] at h4
  rw [h4] at e
  apply PbCrc.run_zeros_ne q.length hd
  generalize PbCrc.run d (List.replicate q.length 0) = z at e
  generalize PbCrc.run a q = y at e
  have : y ^^^ (y ^^^ z) = y ^^^ y := by rw [e]
  rw [← BitVec.xor_assoc] at this
  simpa using this
theorem beNat_fold_inj : ∀ (l k : List UInt8) (a b : Nat), l.length = k.length → l.foldl (fun n x => n * 256 + x.toNat) a = k.foldl (fun n x => n * 256 + x.toNat) b → a = b ∧ l = k
  | [], [], a, b, _, h => ⟨h, rfl⟩
  | x :: l, y :: k, a, b, hl, h => by
    rw [List.foldl_cons, List.foldl_cons] at h
    obtain ⟨h1, h2⟩ := beNat_fold_inj l k _ _ (by simpa using hl) h
    have hx := x.toNat_lt
    have hy := y.toNat_lt
    have h3 : a = b := by omega
    have h4 : x.toNat = y.toNat := by omega
    exact ⟨h3, by rw [UInt8.toNat_inj.1 h4, h2]⟩
theorem be4_inj {c d : BitVec 32} (h : be4 c = be4 d) : c = d := by
  unfold be4 at h
  simp only [List.cons.injEq, and_true] at h
  obtain ⟨h0, h1, h2, h3⟩ := h
  have t : ∀ {a b : Nat}, UInt8.ofNat a = UInt8.ofNat b → a % 256 = b % 256 := fun e => by
    have := congrArg UInt8.toNat e
    rwa [UInt8.toNat_ofNat', UInt8.toNat_ofNat'] at this
  have g0 := t h0
  have g1 := t h1
  have g2 := t h2
  have g3 := t h3
  have hc := c.isLt
  have hd := d.isLt
  apply BitVec.eq_of_toNat_eq
  omega
theorem xor_ne {x t : UInt8} (ht : t ≠ 0) : x ^^^ t ≠ x := by
  intro e
  apply ht
  have : x ^^^ (x ^^^ t) = x ^^^ x := by rw [e]
  rw [← UInt8.xor_assoc] at this
  simpa using this
theorem set_ne {l : List UInt8} {k : Nat} {x y : UInt8} (hx : l[k]? = some x) (hy : y ≠ x) : l.set k y ≠ l := by
  intro e
  have hk := (List.getElem?_eq_some_iff.1 hx).1
  have : (l.set k y)[k]? = some y := by rw [List.getElem?_set_self hk]
  rw [e, hx] at this
  exact hy (Option.some.inj this).symm
theorem decode_turned (m : MailD) (hs : m.small) (hg : m.good = true) (k : Nat) (x t : UInt8) (hx : m.record[k]? = some x) (ht : t ≠ 0) : decodeMail (m.record.set k (x ^^^ t)) = none := by
  have hyx := xor_ne (x := x) ht
  have hss := sum_set
  have hi := (good_iff m).1 hg
  have hin := inner_small m hs hi.2.2.2.1.2 hi.2.2.2.2.1
  have hcut := readM_cut m hs hg
  have hrl := record_length m
  have hkl := (List.getElem?_eq_some_iff.1 hx).1
  rw [MailD.record] at hx ⊢
  have hl8 := num8_length m.inner.length
  have h4 : (be4 (PbCrc.sum m.inner)).length = 4 := rfl
  rw [lenB] at hx ⊢
  generalize m.inner = I at hx hcut hrl hin hl8 h4 hkl ⊢
  by_cases h8 : k < 8
  · rw [List.append_assoc] at hx ⊢
    rw [List.getElem?_append_left (by omega)] at hx
    rw [List.set_append_left _ _ (by omega)]
    obtain ⟨H, hH⟩ : ∃ H, (num8 I.length).set k (x ^^^ t) = H := ⟨_, rfl⟩
    have hHne : H ≠ num8 I.length := by rw [← hH]; exact set_ne hx hyx
    have hHl : H.length = 8 := by rw [← hH, List.length_set, hl8]
    have hbn : beNat H ≠ I.length := by
      intro e
      apply hHne
      refine (beNat_fold_inj H (num8 I.length) 0 0 (by rw [hHl, hl8]) ?_).2
      show beNat H = beNat (num8 I.length)
      rw [beNat_num8 _ (by omega), e]
    rw [hH]
    have hn : numO (some (H ++ (I ++ be4 (PbCrc.sum I)))) = if 4611686018427387904 < beNat H then (0, none) else (beNat H, some (I ++ be4 (PbCrc.sum I))) := by
      rw [numO, if_neg (by rw [List.length_append]; omega), List.take_append_of_le_length (by omega), List.take_of_length_le (by omega), List.drop_append_of_le_length (by omega), List.drop_of_length_le (by omega), List.nil_append]
    rw [decodeMail]
    by_cases hb : 4611686018427387904 < beNat H
    · rw [if_pos hb] at hn
      rw [bytesO, hn]
    · rw [if_neg hb] at hn
      have hbo : bytesO (some (H ++ (I ++ be4 (PbCrc.sum I)))) = if beNat H ≤ (I ++ be4 (PbCrc.sum I)).length then ((I ++ be4 (PbCrc.sum I)).take (beNat H), some ((I ++ be4 (PbCrc.sum I)).drop (beNat H))) else ([], none) := by rw [bytesO, hn]
      rw [hbo]
      by_cases hle : beNat H ≤ (I ++ be4 (PbCrc.sum I)).length
      · rw [if_pos hle]
        simp only
        rw [List.length_drop, List.length_append, h4]
        rw [List.length_append, h4] at hle
        by_cases h5 : I.length + 4 - beNat H < 4
        · rw [if_pos h5]
        · rw [if_neg h5, List.take_append_of_le_length (by omega), hcut _ (by omega)]
          split <;> rfl
      · rw [if_neg hle]
  · by_cases h9 : k < 8 + I.length
    · rw [List.append_assoc] at hx ⊢
      rw [List.getElem?_append_right (by omega), hl8, List.getElem?_append_left (by omega)] at hx
      rw [List.set_append_right _ _ (by omega), hl8, List.set_append_left _ _ (by omega)]
      have hne := hss I (k - 8) x t hx ht
      obtain ⟨J, hJ⟩ : ∃ J, I.set (k - 8) (x ^^^ t) = J := ⟨_, rfl⟩
      have hJl : J.length = I.length := by rw [← hJ, List.length_set]
      rw [hJ] at hne ⊢
      have hb : bytesO (some (num8 I.length ++ (J ++ be4 (PbCrc.sum I)))) = (J, some (be4 (PbCrc.sum I))) := by
        have := bytesO_lenB J (by omega) (be4 (PbCrc.sum I))
        rw [lenB, hJl, List.append_assoc] at this
        exact this
      rw [decodeMail, hb]
      simp only
      rw [if_neg (by omega), List.take_of_length_le (by omega), if_neg (fun e => hne (be4_inj e).symm)]
    · have hlL : (num8 I.length ++ I).length = 8 + I.length := by rw [List.length_append, hl8]
      rw [List.getElem?_append_right (by omega), hlL] at hx
      rw [List.set_append_right _ _ (by omega), hlL]
      have hne := set_ne hx hyx
      have hl4 : ((be4 (PbCrc.sum I)).set (k - (8 + I.length)) (x ^^^ t)).length = 4 := by rw [List.length_set, h4]
      generalize (be4 (PbCrc.sum I)).set (k - (8 + I.length)) (x ^^^ t) = Z at hne hl4
      have hb := bytesO_lenB I (by omega) Z
      rw [lenB] at hb
      rw [decodeMail, hb]
      simp only
      rw [if_neg (by omega), List.take_of_length_le (by omega), if_neg hne]
end Go.Proofs.YtffnbkmigapmjaaGreatDoor

set_option linter.unusedSimpArgs false
set_option linter.unusedVariables false
namespace Go.Proofs.YtffnbkmigapmjaaGreatDoor
open Go.RowKit
/-- The next bytes: which, whether they are there; what is left. -/
def rdBytes (bs : List UInt8) (bad : Bool) : (List UInt8 × Bool) × (List UInt8 × Bool) :=
  if (rdNum bs bad).1.2 = true then
    if (rdNum bs bad).1.1 ≤ (rdNum bs bad).2.1.length then (((rdNum bs bad).2.1.take (rdNum bs bad).1.1, true), ((rdNum bs bad).2.1.drop (rdNum bs bad).1.1, false))
    else (([], false), ((rdNum bs bad).2.1, true))
  else (([], false), (rdNum bs bad).2)
def RBytesDone (w : World) (b : Nat) (v : Value) (r : (List UInt8 × Bool) × (List UInt8 × Bool)) (e : Ending) (w' : World) : Prop :=
  ∃ v1 v2, e = .returned (.tuple #[v1, .bool r.1.2]) ∧ RdB w' v1 r.1.1 ∧ RdAt w' b v2 r.2.1 r.2.2 ∧ Keeps (fun k => k = b) w w' ∧ (v1.ownBlock = v.ownBlock ∨ v1 = .slice none 0 0) ∧ v2.ownBlock = v.ownBlock
theorem rdNum_good {bs : List UInt8} {bad : Bool} (h : (rdNum bs bad).1.2 = true) : (rdNum bs bad).2.2 = false := by
  unfold rdNum at h ⊢
  split
  · next h1 => rw [if_pos h1] at h; cases h
  · next h1 =>
    rw [if_neg h1] at h
    split
    · next h2 => rw [if_pos h2] at h; cases h
    · rfl
set_option maxRecDepth 100000 in
set_option maxHeartbeats 1000000 in
theorem rBytes_calls (b : Nat) (v : Value) (bs : List UInt8) (bad : Bool) (w : World) (hR : RdAt w b v bs bad) :
    Calls Tryz.prog 142 #[.pointer (some ⟨b, 0, none⟩)] w (RBytesDone w b v (rdBytes bs bad)) := by
  have hnum := rNum_calls b v bs bad w hR
  have hgood := @rdNum_good bs bad
  unfold rdBytes
  unfold NumDone at hnum
  generalize rdNum bs bad = r at hnum hgood
  obtain ⟨⟨n, ok⟩, ⟨bs1, bad1⟩⟩ := r
  simp only at hnum hgood ⊢
  have Hnum := Lib.hid hnum
  clear hnum
  cases ok
  · clear hgood
    go_enter Tryz.func142, Tryz.ntmps142
    go_wp2_with fail
    refine (Hnum.out).mono ?_; rintro e w1 ⟨v1, rfl, hR1, hK1, ho1⟩
    go_wp2
    go_ret2
    exact ⟨.slice none 0 0, v1, rfl, .inl ⟨_, _, rfl, by decide, rfl⟩, hR1, hK1, .inr rfl, ho1⟩
  · have hb1 : bad1 = false := hgood rfl
    subst hb1
    clear hgood
    by_cases hle : n ≤ bs1.length
    · rw [if_pos rfl, if_pos hle]
      have Hle := Lib.hid hle
      clear hle
      go_enter Tryz.func142, Tryz.ntmps142
      go_wp2_with fail
      refine (Hnum.out).mono ?_; rintro e w1 ⟨v1, rfl, hR1, hK1, ho1⟩
      go_wp2_with fail
      refine (rTake_good b v1 bs1 n w1 hR1 Hle.out).mono ?_; rintro e w2 ⟨v2, v3, rfl, hr2, hR2, hK2, ho2, ho3⟩
      go_wp2
      go_ret2
      exact ⟨v2, v3, rfl, hr2, hR2, hK1.trans hK2, .inl (ho2.trans ho1), ho3.trans ho1⟩
    · rw [if_pos rfl, if_neg hle]
      have Hle := Lib.hid hle
      clear hle
      go_enter Tryz.func142, Tryz.ntmps142
      go_wp2_with fail
      refine (Hnum.out).mono ?_; rintro e w1 ⟨v1, rfl, hR1, hK1, ho1⟩
      go_wp2_with fail
      refine (rTake_bad b v1 bs1 false n w1 hR1 (.inr (by have := Hle.out; omega))).mono ?_; rintro e w2 ⟨rfl, hR2, hK2⟩
      go_wp2
      go_ret2
      exact ⟨.slice none 0 0, v1, rfl, .inl ⟨_, _, rfl, by decide, rfl⟩, hR2, hK1.trans hK2, .inr rfl, ho1⟩
end Go.Proofs.YtffnbkmigapmjaaGreatDoor
