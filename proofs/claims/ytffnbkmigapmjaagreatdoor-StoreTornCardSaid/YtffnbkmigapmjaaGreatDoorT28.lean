/-
  The walk of word.Reader.Bytes.
  The walk of pillarboxref01's Eye: its next number.
  A Reader's and an Eye's state, as what is left; the walk of pillarboxref01.Eye.Bytes.
  The walk of pillarboxref10.Own.
-/
import Derived.Test.YtffnbkmigapmjaaGreatDoorT2
import Derived.Test.YtffnbkmigapmjaaGreatDoorT6
import Derived.Test.YtffnbkmigapmjaaGreatDoorT8
import Derived.Test.YtffnbkmigapmjaaGreatDoorT26
import Derived.Test.YtffnbkmigapmjaaGreatDoorT27
set_option linter.unusedSimpArgs false
set_option linter.unusedVariables false
namespace Go.Proofs.YtffnbkmigapmjaaGreatDoor
open Go.RowKit
/-- The next bytes: which, whether they are there; what is left. -/
def rdBytes (bs : List UInt8) (bad : Bool) : (List UInt8 × Bool) × (List UInt8 × Bool) :=
  if (rdNum bs bad).1.2 = true then
    if (rdNum bs bad).1.1 ≤ (rdNum bs bad).2.1.length then (((rdNum bs bad).2.1.take (rdNum bs bad).1.1, true), ((rdNum bs bad).2.1.drop (rdNum bs bad).1.1, false))
    else (([], false), ((rdNum bs bad).2.1, true))
  else (([], false), (rdNum bs bad).2)
def RBytesDone (w : World) (b : Nat) (v : Value) (r : (List UInt8 × Bool) × (List UInt8 × Bool)) (e : Ending) (w' : World) : Prop :=
  ∃ v1 v2, e = .returned (.tuple #[v1, .bool r.1.2]) ∧ RdB w' v1 r.1.1 ∧ RdAt w' b v2 r.2.1 r.2.2 ∧ Keeps (fun k => k = b) w w' ∧ (v1.ownBlock = v.ownBlock ∨ v1 = .slice none 0 0) ∧ v2.ownBlock = v.ownBlock
theorem rdNum_good {bs : List UInt8} {bad : Bool} (h : (rdNum bs bad).1.2 = true) : (rdNum bs bad).2.2 = false := by
  unfold rdNum at h ⊢
  split
  · next h1 => rw [if_pos h1] at h; cases h
  · next h1 =>
    rw [if_neg h1] at h
    split
    · next h2 => rw [if_pos h2] at h; cases h
    · rfl
set_option maxRecDepth 100000 in
set_option maxHeartbeats 1000000 in
theorem rBytes_calls (b : Nat) (v : Value) (bs : List UInt8) (bad : Bool) (w : World) (hR : RdAt w b v bs bad) :
    Calls Tryz.prog 142 #[.pointer (some ⟨b, 0, none⟩)] w (RBytesDone w b v (rdBytes bs bad)) := by
  have hnum := rNum_calls b v bs bad w hR
  have hgood := @rdNum_good bs bad
  unfold rdBytes
  unfold NumDone at hnum
  generalize rdNum bs bad = r at hnum hgood
  obtain ⟨⟨n, ok⟩, ⟨bs1, bad1⟩⟩ := r
  simp only at hnum hgood ⊢
  have Hnum := Lib.hid hnum
  clear hnum
  cases ok
  · clear hgood
    go_enter Tryz.func142, Tryz.ntmps142
    go_wp2_with fail
    refine (Hnum.out).mono ?_; rintro e w1 ⟨v1, rfl, hR1, hK1, ho1⟩
    go_wp2
    go_ret2
    exact ⟨.slice none 0 0, v1, rfl, .inl ⟨_, _, rfl, by decide, rfl⟩, hR1, hK1, .inr rfl, ho1⟩
  · have hb1 : bad1 = false := hgood rfl
    subst hb1
    clear hgood
    by_cases hle : n ≤ bs1.length
    · rw [if_pos rfl, if_pos hle]
      have Hle := Lib.hid hle
      clear hle
      go_enter Tryz.func142, Tryz.ntmps142
      go_wp2_with fail
      refine (Hnum.out).mono ?_; rintro e w1 ⟨v1, rfl, hR1, hK1, ho1⟩
      go_wp2_with fail
      refine (rTake_good b v1 bs1 n w1 hR1 Hle.out).mono ?_; rintro e w2 ⟨v2, v3, rfl, hr2, hR2, hK2, ho2, ho3⟩
      go_wp2
      go_ret2
      exact ⟨v2, v3, rfl, hr2, hR2, hK1.trans hK2, .inl (ho2.trans ho1), ho3.trans ho1⟩
    · rw [if_pos rfl, if_neg hle]
      have Hle := Lib.hid hle
      clear hle
      go_enter Tryz.func142, Tryz.ntmps142
      go_wp2_with fail
      refine (Hnum.out).mono ?_; rintro e w1 ⟨v1, rfl, hR1, hK1, ho1⟩
      go_wp2_with fail
      refine (rTake_bad b v1 bs1 false n w1 hR1 (.inr (by have := Hle.out; omega))).mono ?_; rintro e w2 ⟨rfl, hR2, hK2⟩
      go_wp2
      go_ret2
      exact ⟨.slice none 0 0, v1, rfl, .inl ⟨_, _, rfl, by decide, rfl⟩, hR2, hK1.trans hK2, .inr rfl, ho1⟩
end Go.Proofs.YtffnbkmigapmjaaGreatDoor

set_option linter.unusedSimpArgs false
set_option linter.unusedVariables false
namespace Go.Proofs.YtffnbkmigapmjaaGreatDoor
open Go.RowKit
/-- An Eye in block b, which has the bytes bs left, in v. -/
structure EyeAt (w : World) (b : Nat) (v : Value) (bs : List UInt8) (bad : Bool) : Prop where
  blk : w.heap[b]? = some (.cells #[v, .bool bad] 90 (0, 0))
  rd : RdB w v bs
  ne : v.ownBlock ≠ some b
theorem EyeAt.cells {w : World} {b : Nat} {v : Value} {bs : List UInt8} {bad : Bool} (h : EyeAt w b v bs bad) :
    w.cell? ⟨b, 0, none⟩ = some v ∧ w.cell? ⟨b, 1, none⟩ = some (.bool bad) ∧ w.frozen? ⟨b, 0, none⟩ = false ∧ w.frozen? ⟨b, 1, none⟩ = false := by
  have hb := h.blk
  refine ⟨?_, ?_, ?_, ?_⟩
  · rw [cell_of_row _ _ _ _ _ _ hb]; rfl
  · rw [cell_of_row _ _ _ _ _ _ hb]; rfl
  · unfold World.frozen?; rw [hb]; rfl
  · unfold World.frozen?; rw [hb]; rfl
end Go.Proofs.YtffnbkmigapmjaaGreatDoor

set_option linter.unusedSimpArgs false
set_option linter.unusedVariables false
namespace Go.Proofs.YtffnbkmigapmjaaGreatDoor
open Go.RowKit
/-- What a state leaves: none, when it is bad. -/
def leftO (bad : Bool) (bs : List UInt8) : Option (List UInt8) := if bad = true then none else some bs
def RdSt (w : World) (b : Nat) (ob : Option Nat) (o : Option (List UInt8)) : Prop := ∃ v bs bad, RdAt w b v bs bad ∧ v.ownBlock = ob ∧ o = leftO bad bs ∧ ∀ k, ob = some k → k < w.heap.size
theorem numO_rd (bs : List UInt8) (bad : Bool) : numO (leftO bad bs) = ((rdNum bs bad).1.1, leftO (rdNum bs bad).2.2 (rdNum bs bad).2.1) ∧ (rdNum bs bad).1.2 = (numO (leftO bad bs)).2.isSome := by
  cases bad
  · show numO (some bs) = _ ∧ _ = (numO (some bs)).2.isSome
    rw [numO, rdNum]
    by_cases h : bs.length < 8
    · rw [if_pos h, if_pos (Or.inr h)]; exact ⟨rfl, rfl⟩
    · have hx : ¬ (false = true ∨ bs.length < 8) := by rintro (h' | h'); cases h'; exact h h'
      rw [if_neg h, if_neg hx]
      by_cases h2 : 4611686018427387904 < beNat (bs.take 8)
      · rw [if_pos h2, if_pos h2]; exact ⟨rfl, rfl⟩
      · rw [if_neg h2, if_neg h2]; exact ⟨rfl, rfl⟩
  · rw [rdNum, if_pos (Or.inl rfl)]; exact ⟨rfl, rfl⟩
theorem bytesO_rd (bs : List UInt8) (bad : Bool) : bytesO (leftO bad bs) = ((rdBytes bs bad).1.1, leftO (rdBytes bs bad).2.2 (rdBytes bs bad).2.1) ∧ (rdBytes bs bad).1.2 = (bytesO (leftO bad bs)).2.isSome := by
  obtain ⟨h1, h2⟩ := numO_rd bs bad
  have h3 := @rdNum_good bs bad
  rw [bytesO, rdBytes, h1]
  rw [h1] at h2
  generalize rdNum bs bad = r at h1 h2 h3 ⊢
  obtain ⟨⟨n, ok⟩, ⟨bs1, bad1⟩⟩ := r
  simp only at h1 h2 h3 ⊢
  cases bad1
  · have hok : ok = true := h2
    subst hok
    show (if n ≤ bs1.length then _ else _) = _ ∧ _
    rw [if_pos rfl]
    by_cases hle : n ≤ bs1.length
    · rw [if_pos hle, if_pos hle]
      refine ⟨rfl, ?_⟩
      show true = Option.isSome _
      simp [leftO, hle]
    · rw [if_neg hle, if_neg hle]
      refine ⟨rfl, ?_⟩
      show false = Option.isSome _
      simp [leftO, hle]
  · have hok : ok = false := h2
    subst hok
    exact ⟨rfl, rfl⟩
theorem RdSt.start {w : World} {b : Nat} {v : Value} {bs : List UInt8} (h : RdAt w b v bs false) (hl : ∀ k, v.ownBlock = some k → k < w.heap.size) : RdSt w b v.ownBlock (some bs) := ⟨v, bs, false, h, rfl, rfl, hl⟩
theorem RdSt.keeps {F : Nat → Prop} {w w' : World} {b : Nat} {ob : Option Nat} {o : Option (List UInt8)} (h : RdSt w b ob o) (hk : Keeps F w w') (hb : ¬ F b) (ho : ∀ k, ob = some k → ¬ F k) : RdSt w' b ob o := by
  obtain ⟨v, bs, bad, hR, rfl, rfl, hl⟩ := h
  exact ⟨v, bs, bad, ⟨hk.heap hR.blk hb, hR.rd.keeps hk ho, hR.ne⟩, rfl, rfl, fun k e => Nat.lt_of_lt_of_le (hl k e) hk.size⟩
theorem RdSt.below {w w' : World} {b : Nat} {ob : Option Nat} {o : Option (List UInt8)} (h : RdSt w b ob o) (hb : Below w.heap.size w w') : RdSt w' b ob o :=
  h.keeps (F := fun _ => False) (Keeps.ofBelow hb) id (fun _ _ => id)
theorem RdSt.ne {w : World} {b : Nat} {ob : Option Nat} {o : Option (List UInt8)} (h : RdSt w b ob o) : ob ≠ some b := by
  obtain ⟨v, bs, bad, hR, rfl, rfl, _⟩ := h; exact hR.ne
theorem RdSt.obl {w : World} {b : Nat} {ob : Option Nat} {o : Option (List UInt8)} (h : RdSt w b ob o) : ∀ k, ob = some k → k < w.heap.size := by
  obtain ⟨v, bs, bad, hR, rfl, rfl, hl⟩ := h; exact hl
theorem RdSt.lt {w : World} {b : Nat} {ob : Option Nat} {o : Option (List UInt8)} (h : RdSt w b ob o) : b < w.heap.size := by
  obtain ⟨v, bs, bad, hR, rfl, rfl, _⟩ := h; exact (Array.getElem?_eq_some_iff.1 hR.blk).1
def NumS (w : World) (b : Nat) (ob : Option Nat) (p : Nat × Option (List UInt8)) (e : Ending) (w' : World) : Prop :=
  ∃ ok, e = .returned (.tuple #[.int .i64 (p.1 : Int), .bool ok]) ∧ RdSt w' b ob p.2 ∧ Keeps (fun k => k = b) w w'
theorem rNumS {w : World} {b : Nat} {ob : Option Nat} {o : Option (List UInt8)} (h : RdSt w b ob o) : Calls Tryz.prog 187 #[.pointer (some ⟨b, 0, none⟩)] w (NumS w b ob (numO o)) := by
  obtain ⟨v, bs, bad, hR, rfl, rfl, hl⟩ := h
  obtain ⟨h1, h2⟩ := numO_rd bs bad
  refine (rNum_calls b v bs bad w hR).mono ?_
  rintro e w' ⟨v', rfl, hR', hK, ho⟩
  refine ⟨_, by rw [h1], ⟨v', _, _, hR', ho, by rw [h1], fun k e => Nat.lt_of_lt_of_le (hl k e) hK.size⟩, hK⟩
def BytesS (w : World) (b : Nat) (ob : Option Nat) (p : List UInt8 × Option (List UInt8)) (e : Ending) (w' : World) : Prop :=
  ∃ v1, e = .returned (.tuple #[v1, .bool p.2.isSome]) ∧ RdB w' v1 p.1 ∧ (v1.ownBlock = ob ∨ v1 = .slice none 0 0) ∧ RdSt w' b ob p.2 ∧ Keeps (fun k => k = b) w w'
theorem rBytesS {w : World} {b : Nat} {ob : Option Nat} {o : Option (List UInt8)} (h : RdSt w b ob o) : Calls Tryz.prog 142 #[.pointer (some ⟨b, 0, none⟩)] w (BytesS w b ob (bytesO o)) := by
  obtain ⟨v, bs, bad, hR, rfl, rfl, hl⟩ := h
  obtain ⟨h1, h2⟩ := bytesO_rd bs bad
  refine (rBytes_calls b v bs bad w hR).mono ?_
  rintro e w' ⟨v1, v2, rfl, hb1, hR', hK, ho1, ho2⟩
  exact ⟨v1, by rw [h2], by rw [h1]; exact hb1, ho1, ⟨v2, _, _, hR', ho2, by rw [h1], fun k e => Nat.lt_of_lt_of_le (hl k e) hK.size⟩, hK⟩
/-! The same of an Eye. -/
def EySt (w : World) (b : Nat) (ob : Option Nat) (o : Option (List UInt8)) : Prop := ∃ v bs bad, EyeAt w b v bs bad ∧ v.ownBlock = ob ∧ o = leftO bad bs ∧ NilOk v ∧ ∀ k, ob = some k → k < w.heap.size
theorem EySt.start {w : World} {b : Nat} {v : Value} {bs : List UInt8} (h : EyeAt w b v bs false) (hn : NilOk v) (hl : ∀ k, v.ownBlock = some k → k < w.heap.size) : EySt w b v.ownBlock (some bs) := ⟨v, bs, false, h, rfl, rfl, hn, hl⟩
theorem EySt.keeps {F : Nat → Prop} {w w' : World} {b : Nat} {ob : Option Nat} {o : Option (List UInt8)} (h : EySt w b ob o) (hk : Keeps F w w') (hb : ¬ F b) (ho : ∀ k, ob = some k → ¬ F k) : EySt w' b ob o := by
  obtain ⟨v, bs, bad, hR, rfl, rfl, hn, hl⟩ := h
  exact ⟨v, bs, bad, ⟨hk.heap hR.blk hb, hR.rd.keeps hk ho, hR.ne⟩, rfl, rfl, hn, fun k e => Nat.lt_of_lt_of_le (hl k e) hk.size⟩
theorem EySt.below {w w' : World} {b : Nat} {ob : Option Nat} {o : Option (List UInt8)} (h : EySt w b ob o) (hb : Below w.heap.size w w') : EySt w' b ob o :=
  h.keeps (F := fun _ => False) (Keeps.ofBelow hb) id (fun _ _ => id)
theorem EySt.lt {w : World} {b : Nat} {ob : Option Nat} {o : Option (List UInt8)} (h : EySt w b ob o) : b < w.heap.size := by
  obtain ⟨v, bs, bad, hR, rfl, rfl, _⟩ := h; exact (Array.getElem?_eq_some_iff.1 hR.blk).1
end Go.Proofs.YtffnbkmigapmjaaGreatDoor

set_option linter.unusedSimpArgs false
set_option linter.unusedVariables false
namespace Go.Proofs.YtffnbkmigapmjaaGreatDoor
open Go.RowKit
theorem heap6 {w : World} {mb : Nat} (h : ∃ c0 c1 c2 c3 c4 c5, w.heap[mb]? = some (.cells #[c0, c1, c2, c3, c4, c5] 29 (0, 0))) (x0 x1 x2 x3 x4 x5 : Value) :
    ((((((w.setCell ⟨mb, 0, none⟩ x0).setCell ⟨mb, 1, none⟩ x1).setCell ⟨mb, 2, none⟩ x2).setCell ⟨mb, 3, none⟩ x3).setCell ⟨mb, 4, none⟩ x4).setCell ⟨mb, 5, none⟩ x5).heap[mb]? = some (.cells #[x0, x1, x2, x3, x4, x5] 29 (0, 0)) := by
  obtain ⟨c0, c1, c2, c3, c4, c5, hc⟩ := h
  exact heap_setCell_same _ _ 5 _ _ _ (heap_setCell_same _ _ 4 _ _ _ (heap_setCell_same _ _ 3 _ _ _ (heap_setCell_same _ _ 2 _ _ _ (heap_setCell_same _ _ 1 _ _ _ (heap_setCell_same _ _ 0 _ _ _ hc)))))
theorem cells6 {w : World} {mb : Nat} {c0 c1 c2 c3 c4 c5 : Value} (hb : w.heap[mb]? = some (.cells #[c0, c1, c2, c3, c4, c5] 29 (0, 0))) :
    (w.cell? ⟨mb, 0, none⟩ = some c0 ∧ w.cell? ⟨mb, 1, none⟩ = some c1 ∧ w.cell? ⟨mb, 2, none⟩ = some c2 ∧ w.cell? ⟨mb, 3, none⟩ = some c3 ∧ w.cell? ⟨mb, 4, none⟩ = some c4 ∧ w.cell? ⟨mb, 5, none⟩ = some c5) ∧
    (w.frozen? ⟨mb, 0, none⟩ = false ∧ w.frozen? ⟨mb, 1, none⟩ = false ∧ w.frozen? ⟨mb, 2, none⟩ = false ∧ w.frozen? ⟨mb, 3, none⟩ = false ∧ w.frozen? ⟨mb, 4, none⟩ = false ∧ w.frozen? ⟨mb, 5, none⟩ = false) := by
  refine ⟨⟨?_, ?_, ?_, ?_, ?_, ?_⟩, ?_, ?_, ?_, ?_, ?_, ?_⟩
  all_goals first | (rw [cell_of_row _ _ _ _ _ _ hb]; rfl) | simp [World.frozen?, hb]
end Go.Proofs.YtffnbkmigapmjaaGreatDoor
