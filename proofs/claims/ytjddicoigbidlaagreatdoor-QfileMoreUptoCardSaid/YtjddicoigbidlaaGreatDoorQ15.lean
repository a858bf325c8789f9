/-
  A file in a block; what the file of law12's answers says.
-/
import Derived.Test.YtjddicoigbidlaaGreatDoorQ4
import Derived.Test.YtjddicoigbidlaaGreatDoorQ8
import Derived.Test.YtjddicoigbidlaaGreatDoorQ13
import Derived.Test.YtjddicoigbidlaaGreatDoorQ14
set_option linter.unusedSimpArgs false
set_option linter.unusedVariables false
set_option maxRecDepth 100000
namespace Go.Proofs.YtjddicoigbidlaaGreatDoor
open Go.RowKit
/-- A file in a block of its own, and what its slices hold. -/
structure FileAt (w : World) (X : Nat) (f : FileD) (vr vb vm : Value) : Prop where
  blk : w.heap[X]? = some (.cells #[.int .i64 f.mail.id, .int .i64 f.mail.parent, .int .i64 f.mail.born, .string (strL f.mail.frm), vr, vb, vm, .int .i64 (f.good : Int)] 43 (0, 0))
  rs : RdS w vr f.mail.rcpts
  rb : RdB w vb f.mail.body
  rm : RdM w vm f.marks
theorem FileAt.below {w w' : World} {X : Nat} {f : FileD} {vr vb vm : Value} (h : FileAt w X f vr vb vm) (hb : Below w.heap.size w w') : FileAt w' X f vr vb vm :=
  ⟨(hb.block _ (Array.getElem?_eq_some_iff.1 h.blk).1).trans h.blk, h.rs.below (Nat.le_refl _) hb, h.rb.below (Nat.le_refl _) hb, h.rm.below (Nat.le_refl _) hb⟩
theorem FileAt.new {w : World} {f : FileD} {vr vb vm : Value} (hr : RdS w vr f.mail.rcpts) (hb : RdB w vb f.mail.body) (hm : RdM w vm f.marks) :
    FileAt (w.alloc (.cells #[.int .i64 f.mail.id, .int .i64 f.mail.parent, .int .i64 f.mail.born, .string (strL f.mail.frm), vr, vb, vm, .int .i64 (f.good : Int)] 43)) w.heap.size f vr vb vm :=
  ⟨heap_alloc_new w _, hr.below (Nat.le_refl _) ((Below.refl _ _).alloc (Nat.le_refl _) _), hb.below (Nat.le_refl _) ((Below.refl _ _).alloc (Nat.le_refl _) _), hm.below (Nat.le_refl _) ((Below.refl _ _).alloc (Nat.le_refl _) _)⟩
/-- What stays of a boxed file. -/
def FileRest (w0 : World) (X : Nat) (f : FileD) (vr vb vm : Value) (w : World) : Prop := Below w0.heap.size w0 w ∧ FileAt w X f vr vb vm
abbrev FileS (w0 : World) (X : Nat) (f : FileD) (vr vb vm : Value) (w' : World) : Prop :=
  w'.cell? ⟨X, 0, none⟩ = some (.int .i64 f.mail.id) ∧ w'.cell? ⟨X, 1, none⟩ = some (.int .i64 f.mail.parent) ∧ w'.cell? ⟨X, 2, none⟩ = some (.int .i64 f.mail.born) ∧ w'.cell? ⟨X, 3, none⟩ = some (.string (strL f.mail.frm)) ∧ w'.cell? ⟨X, 4, none⟩ = some vr ∧ w'.cell? ⟨X, 5, none⟩ = some vb ∧ w'.cell? ⟨X, 6, none⟩ = some vm ∧ w'.cell? ⟨X, 7, none⟩ = some (.int .i64 (f.good : Int)) ∧ FileRest w0 X f vr vb vm w'
theorem FileS.of {w0 w : World} {X : Nat} {f : FileD} {vr vb vm : Value} (h : FileRest w0 X f vr vb vm w) : FileS w0 X f vr vb vm w := by
  obtain ⟨c0, c1, c2, c3, c4, c5, c6, c7⟩ := (cells8 h.2.blk).1
  exact ⟨c0, c1, c2, c3, c4, c5, c6, c7, h⟩
theorem FileS.rest {w0 w : World} {X : Nat} {f : FileD} {vr vb vm : Value} (h : FileS w0 X f vr vb vm w) : FileRest w0 X f vr vb vm w := h.2.2.2.2.2.2.2.2
theorem FileS.go {w0 w w' : World} {X : Nat} {f : FileD} {vr vb vm : Value} (hb : Below w.heap.size w w') (h : FileS w0 X f vr vb vm w) : FileS w0 X f vr vb vm w' :=
  FileS.of ⟨h.rest.1.trans (hb.mono h.rest.1.size), h.rest.2.below hb⟩
def fil1M : MailD := ⟨1, 0, 0, [], [[97, 64, 98]], []⟩
def fil1K : MarkD := ⟨1, 0, 0⟩
theorem fil1_good : fil1M.good = true := by kernel_rfl
theorem fil1_small : fil1M.small := ⟨by decide, by decide⟩
theorem fil1K_good : fil1K.good = true := by kernel_rfl
theorem bytesM_one (k : MarkD) : bytesM [k] = k.bytes := by unfold bytesM; rw [List.flatMap_cons, List.flatMap_nil, List.append_nil]
/-- What a good mail's record and good marks say, whatever bytes of one more mark stand behind. -/
theorem fileD_cut (m : MailD) (hs : m.small) (hg : m.good = true) (ks : List MarkD) (hk : ∀ k ∈ ks, k.good = true) (hl : ks.length ≤ 4096) (n : Nat) (hn : n ≤ (bytesM ks).length) :
    fileD (m.record ++ (bytesM ks).take n) = some ⟨m, ks.take (n / 28), m.record.length + 28 * (ks.take (n / 28)).length⟩ := by
  rw [fileD, decode_record m hs hg]
  simp only [Option.map_some]
  rw [List.drop_left, decodeM_cut ks n hk hl hn]
theorem fileD_full (m : MailD) (hs : m.small) (hg : m.good = true) (ks : List MarkD) (hk : ∀ k ∈ ks, k.good = true) (hl : ks.length ≤ 4096) :
    fileD (m.record ++ bytesM ks) = some ⟨m, ks, m.record.length + 28 * ks.length⟩ := by
  have h := fileD_cut m hs hg ks hk hl (bytesM ks).length (Nat.le_refl _)
  rw [List.take_of_length_le (Nat.le_refl _), bytesM_length, Nat.mul_div_cancel_left _ (by decide), List.take_of_length_le (Nat.le_refl _)] at h
  exact h
theorem fil1_file : fileD (fil1M.record ++ fil1K.bytes) = some ⟨fil1M, [fil1K], (fil1M.record ++ fil1K.bytes).length⟩ := by
  have h := fileD_full fil1M fil1_small fil1_good [fil1K] (by intro k hk; rw [List.mem_singleton.1 hk]; exact fil1K_good) (by decide)
  rw [bytesM_one] at h
  rw [h, List.length_append, bytes_length]
  rfl
theorem fil1_len : fil1M.record.length ≤ 1000 ∧ 9 < fil1M.record.length := by rw [record_length]; decide
theorem fil1_none : fileD ((fil1M.record ++ fil1K.bytes).take 9) = none := by
  have := fil1_len.2
  rw [fileD, List.take_append_of_le_length (by omega), decode_cut fil1M fil1_small fil1_good 9 this]
  rfl
theorem fil1_open : openTo (fatesD (nFates 1) [fil1K]) (fatesD (nFates 1) [fil1K]).length = [0] := by kernel_rfl
theorem fil1_waits : (fatesD (nFates 1) [fil1K]).any FateD.waits = true := by kernel_rfl
end Go.Proofs.YtjddicoigbidlaaGreatDoor
