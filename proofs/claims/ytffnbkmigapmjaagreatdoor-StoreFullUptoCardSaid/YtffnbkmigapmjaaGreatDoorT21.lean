/- Printed out of the texts of wip/tpl. -/
import Derived.Test.YtffnbkmigapmjaaGreatDoorT5
import Derived.Test.YtffnbkmigapmjaaGreatDoorT11
import Derived.Test.YtffnbkmigapmjaaGreatDoorT20
set_option linter.unusedSimpArgs false
set_option linter.unusedVariables false
namespace Go.Proofs.YtffnbkmigapmjaaGreatDoor
open Go.RowKit
def leftO (bad : Bool) (bs : List UInt8) : Option (List UInt8) := if bad = true then none else some bs
def RdSt (w : World) (b : Nat) (ob : Option Nat) (o : Option (List UInt8)) : Prop := ∃ v bs bad, RdAt w b v bs bad ∧ v.ownBlock = ob ∧ o = leftO bad bs ∧ ∀ k, ob = some k → k < w.heap.size
theorem numO_rd (bs : List UInt8) (bad : Bool) : numO (leftO bad bs) = ((rdNum bs bad).1.1, leftO (rdNum bs bad).2.2 (rdNum bs bad).2.1) ∧ (rdNum bs bad).1.2 = (numO (leftO bad bs)).2.isSome := by
 cases bad
 ·show numO (some bs) = _ ∧ _ = (numO (some bs)).2.isSome
  rw [numO, rdNum]
  by_cases h : bs.length < 8
  ·rw [if_pos h, if_pos (Or.inr h)]; exact ⟨rfl, rfl⟩
  ·have hx : ¬ (false = true ∨ bs.length < 8) := by rintro (h' | h'); cases h'; exact h h'
   rw [if_neg h, if_neg hx]
   by_cases h2 : 4611686018427387904 < beNat (bs.take 8)
   ·rw [if_pos h2, if_pos h2]; exact ⟨rfl, rfl⟩
   ·rw [if_neg h2, if_neg h2]; exact ⟨rfl, rfl⟩
 ·rw [rdNum, if_pos (Or.inl rfl)]; exact ⟨rfl, rfl⟩
theorem bytesO_rd (bs : List UInt8) (bad : Bool) : bytesO (leftO bad bs) = ((rdBytes bs bad).1.1, leftO (rdBytes bs bad).2.2 (rdBytes bs bad).2.1) ∧ (rdBytes bs bad).1.2 = (bytesO (leftO bad bs)).2.isSome := by
 obtain ⟨h1, h2⟩ := numO_rd bs bad
 have h3 := @rdNum_good bs bad
 rw [bytesO, rdBytes, h1]
 rw [h1] at h2
 generalize rdNum bs bad = r at h1 h2 h3 ⊢
 obtain ⟨⟨n, ok⟩, ⟨bs1, bad1⟩⟩ := r
 simp only at h1 h2 h3 ⊢
 cases bad1
 ·have hok : ok = true := h2
  subst hok
  show (if n ≤ bs1.length then _ else _) = _ ∧ _
  rw [if_pos rfl]
  by_cases hle : n ≤ bs1.length
  ·rw [if_pos hle, if_pos hle]
   refine ⟨rfl, ?_⟩
   show true = Option.isSome _
   simp [leftO, hle]
  ·rw [if_neg hle, if_neg hle]
   refine ⟨rfl, ?_⟩
   show false = Option.isSome _
   simp [leftO, hle]
 ·have hok : ok = false := h2
  subst hok
  exact ⟨rfl, rfl⟩
theorem RdSt.start {w : World} {b : Nat} {v : Value} {bs : List UInt8} (h : RdAt w b v bs false) (hl : ∀ k, v.ownBlock = some k → k < w.heap.size) : RdSt w b v.ownBlock (some bs) := ⟨v, bs, false, h, rfl, rfl, hl⟩
theorem RdSt.keeps {F : Nat → Prop} {w w' : World} {b : Nat} {ob : Option Nat} {o : Option (List UInt8)} (h : RdSt w b ob o) (hk : Keeps F w w') (hb : ¬ F b) (ho : ∀ k, ob = some k → ¬ F k) : RdSt w' b ob o := by
 obtain ⟨v, bs, bad, hR, rfl, rfl, hl⟩ := h
 exact ⟨v, bs, bad, ⟨hk.heap hR.blk hb, hR.rd.keeps hk ho, hR.ne⟩, rfl, rfl, fun k e => Nat.lt_of_lt_of_le (hl k e) hk.size⟩
theorem RdSt.below {w w' : World} {b : Nat} {ob : Option Nat} {o : Option (List UInt8)} (h : RdSt w b ob o) (hb : Below w.heap.size w w') : RdSt w' b ob o :=
 h.keeps (F := fun _ => False) (Keeps.ofBelow hb) id (fun _ _ => id)
theorem RdSt.ne {w : World} {b : Nat} {ob : Option Nat} {o : Option (List UInt8)} (h : RdSt w b ob o) : ob ≠ some b := by
 obtain ⟨v, bs, bad, hR, rfl, rfl, _⟩ := h; exact hR.ne
theorem RdSt.obl {w : World} {b : Nat} {ob : Option Nat} {o : Option (List UInt8)} (h : RdSt w b ob o) : ∀ k, ob = some k → k < w.heap.size := by
 obtain ⟨v, bs, bad, hR, rfl, rfl, hl⟩ := h; exact hl
theorem RdSt.lt {w : World} {b : Nat} {ob : Option Nat} {o : Option (List UInt8)} (h : RdSt w b ob o) : b < w.heap.size := by
 obtain ⟨v, bs, bad, hR, rfl, rfl, _⟩ := h; exact (Array.getElem?_eq_some_iff.1 hR.blk).1
def NumS (w : World) (b : Nat) (ob : Option Nat) (p : Nat × Option (List UInt8)) (e : Ending) (w' : World) : Prop :=
 ∃ ok, e = .returned (.tuple #[.int .i64 (p.1 : Int), .bool ok]) ∧ RdSt w' b ob p.2 ∧ Keeps (fun k => k = b) w w'
theorem rNumS {w : World} {b : Nat} {ob : Option Nat} {o : Option (List UInt8)} (h : RdSt w b ob o) : Calls Tryz.prog 187 #[.pointer (some ⟨b, 0, none⟩)] w (NumS w b ob (numO o)) := by
 obtain ⟨v, bs, bad, hR, rfl, rfl, hl⟩ := h
 obtain ⟨h1, h2⟩ := numO_rd bs bad
 refine (rNum_calls b v bs bad w hR).mono ?_
 rintro e w' ⟨v', rfl, hR', hK, ho⟩
 refine ⟨_, by rw [h1], ⟨v', _, _, hR', ho, by rw [h1], fun k e => Nat.lt_of_lt_of_le (hl k e) hK.size⟩, hK⟩
def BytesS (w : World) (b : Nat) (ob : Option Nat) (p : List UInt8 × Option (List UInt8)) (e : Ending) (w' : World) : Prop :=
 ∃ v1, e = .returned (.tuple #[v1, .bool p.2.isSome]) ∧ RdB w' v1 p.1 ∧ (v1.ownBlock = ob ∨ v1 = .slice none 0 0) ∧ RdSt w' b ob p.2 ∧ Keeps (fun k => k = b) w w'
theorem rBytesS {w : World} {b : Nat} {ob : Option Nat} {o : Option (List UInt8)} (h : RdSt w b ob o) : Calls Tryz.prog 142 #[.pointer (some ⟨b, 0, none⟩)] w (BytesS w b ob (bytesO o)) := by
 obtain ⟨v, bs, bad, hR, rfl, rfl, hl⟩ := h
 obtain ⟨h1, h2⟩ := bytesO_rd bs bad
 refine (rBytes_calls b v bs bad w hR).mono ?_
 rintro e w' ⟨v1, v2, rfl, hb1, hR', hK, ho1, ho2⟩
 exact ⟨v1, by rw [h2], by rw [h1]; exact hb1, ho1, ⟨v2, _, _, hR', ho2, by rw [h1], fun k e => Nat.lt_of_lt_of_le (hl k e) hK.size⟩, hK⟩
def EySt (w : World) (b : Nat) (ob : Option Nat) (o : Option (List UInt8)) : Prop := ∃ v bs bad, EyeAt w b v bs bad ∧ v.ownBlock = ob ∧ o = leftO bad bs ∧ NilOk v ∧ ∀ k, ob = some k → k < w.heap.size
theorem EySt.start {w : World} {b : Nat} {v : Value} {bs : List UInt8} (h : EyeAt w b v bs false) (hn : NilOk v) (hl : ∀ k, v.ownBlock = some k → k < w.heap.size) : EySt w b v.ownBlock (some bs) := ⟨v, bs, false, h, rfl, rfl, hn, hl⟩
theorem EySt.keeps {F : Nat → Prop} {w w' : World} {b : Nat} {ob : Option Nat} {o : Option (List UInt8)} (h : EySt w b ob o) (hk : Keeps F w w') (hb : ¬ F b) (ho : ∀ k, ob = some k → ¬ F k) : EySt w' b ob o := by
 obtain ⟨v, bs, bad, hR, rfl, rfl, hn, hl⟩ := h
 exact ⟨v, bs, bad, ⟨hk.heap hR.blk hb, hR.rd.keeps hk ho, hR.ne⟩, rfl, rfl, hn, fun k e => Nat.lt_of_lt_of_le (hl k e) hk.size⟩
theorem EySt.below {w w' : World} {b : Nat} {ob : Option Nat} {o : Option (List UInt8)} (h : EySt w b ob o) (hb : Below w.heap.size w w') : EySt w' b ob o :=
 h.keeps (F := fun _ => False) (Keeps.ofBelow hb) id (fun _ _ => id)
theorem EySt.lt {w : World} {b : Nat} {ob : Option Nat} {o : Option (List UInt8)} (h : EySt w b ob o) : b < w.heap.size := by
 obtain ⟨v, bs, bad, hR, rfl, rfl, _⟩ := h; exact (Array.getElem?_eq_some_iff.1 hR.blk).1
def MailD.zero : MailD := ⟨0, 0, 0, [], [], []⟩
def MailRes (w : World) (r : Option MailD) (e : Ending) (w' : World) : Prop :=
 ∃ vr vb, e = .returned (.tuple #[mailVal (r.getD MailD.zero) vr vb, .bool r.isSome]) ∧ w'.ownsRow w.heap.size 9 1 vr (r.getD MailD.zero).rcpts.length ((r.getD MailD.zero).rcpts.flatMap s1) ∧ w'.ownsRow w.heap.size 5 1 vb (r.getD MailD.zero).body.length ((r.getD MailD.zero).body.map u8v) ∧ Below w.heap.size w w'
def stR (bs : List UInt8) : Nat → Option (List UInt8)
 | 0 => some bs
 | j + 1 => (numO (stR bs j)).2
def nR (bs : List UInt8) (j : Nat) : Nat := (numO (stR bs j)).1
def mArr (bs : List UInt8) (j : Nat) : Array Value := #[.int .i64 (if 0 < j then (nR bs 0 : Int) else 0), .int .i64 (if 1 < j then (nR bs 1 : Int) else 0), .int .i64 (if 2 < j then (nR bs 2 : Int) else 0), .string ⟨#[]⟩, .slice none 0 0, .slice none 0 0]
theorem mArr_set (bs : List UInt8) (j : Nat) (h : j < 3) : (mArr bs j).setIfInBounds j (.int .i64 (nR bs j : Int)) = mArr bs (j + 1) := by
 rcases (by omega : j = 0 ∨ j = 1 ∨ j = 2) with rfl | rfl | rfl <;> simp [mArr]
theorem numO_le (o : Option (List UInt8)) : (numO o).1 ≤ 4611686018427387904 := by
 cases o with
 | none => simp [numO]
 | some bs => rw [numO]; split; · simp
              split
              ·simp
              ·simp only; omega
theorem left_le {bs : List UInt8} {L : Nat} (h : bs.length ≤ L) : ∀ j r, stR bs j = some r → r.length ≤ L := by
 intro j
 induction j with
 | zero => intro r e; cases e; exact h
 | succ j ih =>
  intro r e
  rw [stR] at e
  cases ho : stR bs j with
  | none => rw [ho] at e; cases e
  | some p =>
   rw [ho, numO] at e
   have := ih p ho
   split at e
   ·cases e
   ·split at e
    ·cases e
    ·cases e; rw [List.length_drop]; omega
theorem numO_left {o : Option (List UInt8)} {L : Nat} (h : ∀ r, o = some r → r.length ≤ L) : ∀ r, (numO o).2 = some r → r.length ≤ L := by
 intro r e
 cases o with
 | none => cases e
 | some p =>
  rw [numO] at e
  have := h p rfl
  split at e
  ·cases e
  ·split at e
   ·cases e
   ·cases e; rw [List.length_drop]; omega
theorem bytesO_left {o : Option (List UInt8)} {L : Nat} (h : ∀ r, o = some r → r.length ≤ L) : (bytesO o).1.length ≤ L ∧ ∀ r, (bytesO o).2 = some r → r.length ≤ L := by
 rw [bytesO]
 have h1 := numO_left h
 generalize numO o = p at h1
 obtain ⟨n, o2⟩ := p
 cases o2 with
 | none => exact ⟨by simp, fun r e => by cases e⟩
 | some q =>
  have := h1 q rfl
  simp only
  split
  ·exact ⟨by simp only [List.length_take]; omega, fun r e => by cases e; rw [List.length_drop]; omega⟩
  ·exact ⟨by simp, fun r e => by cases e⟩
theorem manyO_left {L : Nat} (n : Nat) : ∀ {o : Option (List UInt8)}, (∀ r, o = some r → r.length ≤ L) → (manyO n o).1.length = n ∧ (∀ l ∈ (manyO n o).1, l.length ≤ L) ∧ ∀ r, (manyO n o).2 = some r → r.length ≤ L := by
 induction n with
 | zero => intro o h; exact ⟨rfl, fun l hl => by simp [manyO] at hl, h⟩
 | succ n ih =>
  intro o h
  obtain ⟨h1, h2, h3⟩ := ih h
  obtain ⟨h4, h5⟩ := bytesO_left h3
  rw [manyO_snoc]
  refine ⟨by simp [h1], fun l hl => ?_, h5⟩
  rcases List.mem_append.1 hl with hl | hl
  ·exact h2 l hl
  ·rw [List.mem_singleton.1 hl]; exact h4
theorem rDoneS {w : World} {b : Nat} {ob : Option Nat} {o : Option (List UInt8)} {p : Bool} (hp : decide (o = some []) = p) (h : RdSt w b ob o) : Calls Tryz.prog 189 #[.pointer (some ⟨b, 0, none⟩)] w fun e w' => e = .returned (.bool p) ∧ w = w' := by
 obtain ⟨v, bs, bad, hR, -, rfl, -⟩ := h
 have : rdDone bs bad = p := by
  rw [← hp, rdDone, leftO]
  cases bad
  ·simp
  ·simp
 exact rDone_is b v bs bad p this w hR
theorem readM_is (bs : List UInt8) (F : List UInt8 × Option (List UInt8)) (N : Nat × Option (List UInt8)) (hF : bytesO (stR bs 3) = F) (hN : numO F.2 = N) :
 readM bs = if N.1 ≤ 8 ∧ (bytesO (manyO N.1 N.2).2).2 = some [] ∧ (MailD.mk (nR bs 0 : Int) (nR bs 1 : Int) (nR bs 2 : Int) F.1 (manyO N.1 N.2).1 (bytesO (manyO N.1 N.2).2).1).good = true then some ⟨(nR bs 0 : Int), (nR bs 1 : Int), (nR bs 2 : Int), F.1, (manyO N.1 N.2).1, (bytesO (manyO N.1 N.2).2).1⟩ else none := by
 subst hF
 subst hN
 rfl
theorem mailRes_none {w w' : World} {e : Ending} (he : e = .returned (.tuple #[.agg #[.int .i64 0, .int .i64 0, .int .i64 0, .string ⟨#[]⟩, .slice none 0 0, .slice none 0 0], .bool false])) (hb : Below w.heap.size w w') : MailRes w none e w' :=
 ⟨.slice none 0 0, .slice none 0 0, he, World.ownsRow_nil _ _ _ _, World.ownsRow_nil _ _ _ _, hb⟩
set_option maxRecDepth 100000 in
set_option maxHeartbeats 16000000 in
theorem envRead_calls (v : Value) (bs : List UInt8) (w : World) (hv : RdB w v bs) (hlen : bs.length ≤ 100000000) (hmax : MaxOk w) :
 Calls Tryz.prog 145 #[v] w (MailRes w (readM bs)) := by
 obtain ⟨i0, hi, hz0, hz1, hz2⟩ := info_parts infoStr
 obtain ⟨a, cap, rfl, hl, hc⟩ := hv.form
 have hz : ∀ w, (zeroValue 29).run Tryz.prog w = .ok (.agg #[.int .i64 0, .int .i64 0, .int .i64 0, .string ⟨#[]⟩, .slice none 0 0, .slice none 0 0]) w := fun _ => by kernel_rfl
 have hcall := wRead_calls _ bs (w.alloc (.cells #[.int .i64 0, .int .i64 0, .int .i64 0, .string ⟨#[]⟩, .slice none 0 0, .slice none 0 0] 29)) (hv.below (Nat.le_refl _) ((Below.refl _ _).alloc (Nat.le_refl _) _)) (by omega)
 obtain ⟨r, hr⟩ : ∃ r, readM bs = r := ⟨_, rfl⟩
 rw [hr]
 have Hr := Lib.hid hr
 clear hr
 have Hcall := Lib.hid hcall
 have Hmax := Lib.hid hmax
 clear hcall hmax hv
 go_enter Tryz.func145, Tryz.ntmps145
 go_wp2_with fail
 refine (Hcall.out).mono ?_; rintro e w1 ⟨v0, rb, rfl, hR, hb1, hrb, hv0⟩
 have hbel1 : Below w.heap.size w w1 := ((Below.refl _ _).alloc (Nat.le_refl _) _).trans (hb1.mono (by simp))
 simp only [World.size_alloc] at hrb hv0
 have hM1 : w1.heap[w.heap.size]? = some (.cells #[.int .i64 0, .int .i64 0, .int .i64 0, .string ⟨#[]⟩, .slice none 0 0, .slice none 0 0] 29 (0, 0)) := (hb1.block _ (by simp)).trans (heap_alloc_new w _)
 have hsz1 := (Array.getElem?_eq_some_iff.1 hM1).1
 have hst0 : RdSt w1 rb v0.ownBlock (some bs) := RdSt.start hR (fun k hk => (hv0 k hk).2)
 have hobM : ∀ k, v0.ownBlock = some k → k ≠ w.heap.size := fun k hk e => by have := (hv0 k hk).1; omega
 have hobl : ∀ k, v0.ownBlock = some k → k < w1.heap.size := fun k hk => (hv0 k hk).2
 have hrbl := hst0.lt
 have hrbM : rb ≠ w.heap.size := by omega
 generalize v0.ownBlock = ob at hst0 hobM hobl hv0
 obtain ⟨W2, hW2⟩ : ∃ W2, w1.alloc (.cells #[.pointer (some ⟨w.heap.size, 0, none⟩), .pointer (some ⟨w.heap.size, 1, none⟩), .pointer (some ⟨w.heap.size, 2, none⟩)] 233) = W2 := ⟨_, rfl⟩
 have hb2 : Below w1.heap.size w1 W2 := by rw [← hW2]; exact (Below.refl _ _).alloc (Nat.le_refl _) _
 have hP2 : W2.heap[w1.heap.size]? = some (.cells #[.pointer (some ⟨w.heap.size, 0, none⟩), .pointer (some ⟨w.heap.size, 1, none⟩), .pointer (some ⟨w.heap.size, 2, none⟩)] 233 (0, 0)) := by rw [← hW2]; exact heap_alloc_new w1 _
 have hst2 := hst0.below hb2
 have hM2 := (hb2.block _ hsz1).trans hM1
 have hbel2 := hbel1.trans (hb2.mono hbel1.size)
 have hs2 : W2.heap.size = w1.heap.size + 1 := by rw [← hW2]; simp
 have HobM := Lib.hid hobM
 have Hobl := Lib.hid hobl
 have HM2 := Lib.hid hM2
 have HP2 := Lib.hid hP2
 clear hR hM1 hM2 hobM hobl hst0 hP2 hb2 Hcall
 subst hW2
 go_wp2
 generalize hW2 : w1.alloc (.cells #[.pointer (some ⟨w.heap.size, 0, none⟩), .pointer (some ⟨w.heap.size, 1, none⟩), .pointer (some ⟨w.heap.size, 2, none⟩)] 233) = W2 at *
 have hPM : w1.heap.size ≠ w.heap.size := by omega
 have hPr : w1.heap.size ≠ rb := by omega
 clear hW2
 go_loopw [20] (fun i wr => ∃ j : Nat, j ≤ 3 ∧ i = .int .i64 j ∧ RdSt wr rb ob (stR bs j) ∧ wr.heap[w.heap.size]? = some (.cells (mArr bs j) 29 (0, 0)) ∧ wr.heap[w1.heap.size]? = some (.cells #[.pointer (some ⟨w.heap.size, 0, none⟩), .pointer (some ⟨w.heap.size, 1, none⟩), .pointer (some ⟨w.heap.size, 2, none⟩)] 233 (0, 0)) ∧ Below w.heap.size w wr) (fun i _ => 3 - (intOf i).toNat)
 case atStart => exact ⟨0, by omega, rfl, hst2, HM2.out, HP2.out, hbel2⟩
 case round =>
  obtain ⟨j, hj, rfl, hst, hM, hP, hbw⟩ := hrel
  by_cases hlt : j < 3
  ·have hP0 : wr.cell? ⟨w1.heap.size, j, none⟩ = some (.pointer (some ⟨w.heap.size, j, none⟩)) := by
    rw [cell_of_row _ _ _ _ _ _ hP]
    rcases (by omega : j = 0 ∨ j = 1 ∨ j = 2) with rfl | rfl | rfl <;> rfl
   have hj0 : (0 : Int) ≤ (j : Int) := by omega
   have hj1 : (j : Int) < 3 := by omega
   have hcall := rNumS hst
   have hle := numO_le (stR bs j)
   have hnj : numO (stR bs j) = (nR bs j, stR bs (j + 1)) := rfl
   rw [hnj] at hcall hle
   have Hcall := Lib.hid hcall
   have HM := Lib.hid hM
   have HP := Lib.hid hP
   clear hcall hM hP hnj hst
   go_wp2_with fail
   refine (Hcall.out).mono ?_; rintro e w2 ⟨ok, rfl, hst', hK⟩
   have hM2 := hK.heap HM.out (by omega)
   have hP2 := hK.heap HP.out (by omega)
   have hbw2 := hbw.trans (hK.below (B := w.heap.size) (fun i hi => by omega) hbw.size)
   have hc : w2.cell? ⟨w.heap.size, j, none⟩ = some ((mArr bs j).getD j undef) := by
    rw [cell_of_row _ _ _ _ _ _ hM2]
    rcases (by omega : j = 0 ∨ j = 1 ∨ j = 2) with rfl | rfl | rfl <;> rfl
   have hf : w2.frozen? ⟨w.heap.size, j, none⟩ = false := frozen_of_row _ _ _ _ _ hM2
   generalize (mArr bs j).getD j undef = old at hc
   have HM2' := Lib.hid hM2
   have HP2' := Lib.hid hP2
   clear hM2 hP2 HM HP Hcall
   go_wp2
   have hKs := Keeps.setCell (F := fun k => k = w.heap.size) w2 ⟨w.heap.size, j, none⟩ (.int .i64 (nR bs j : Int)) rfl
   go_roundw
   case rel =>
    refine ⟨j + 1, by omega, by go_num, hst'.keeps hKs hrbM (fun k hk => HobM.out k hk), ?_, hKs.heap HP2'.out hPM, hbw2.setCell (by simp only; omega) _⟩
    rw [heap_setCell_same _ _ j _ _ _ HM2'.out, mArr_set _ _ hlt]
   case measure => simp [intOf] <;> omega
  ·have hj3 : j = 3 := by omega
   subst hj3
   have hM3 : wr.heap[w.heap.size]? = some (.cells #[.int .i64 (nR bs 0 : Int), .int .i64 (nR bs 1 : Int), .int .i64 (nR bs 2 : Int), .string ⟨#[]⟩, .slice none 0 0, .slice none 0 0] 29 (0, 0)) := hM
   have hL3 := left_le hlen 3
   obtain ⟨F, hF⟩ : ∃ F, bytesO (stR bs 3) = F := ⟨_, rfl⟩
   obtain ⟨N, hN⟩ : ∃ N, numO F.2 = N := ⟨_, rfl⟩
   have hrm := (Hr.out).symm.trans (readM_is bs F N hF hN)
   have hFl := bytesO_left hL3
   rw [hF] at hFl
   have hNl := numO_left hFl.2
   have hNle := numO_le F.2
   rw [hN] at hNl hNle
   have hML := fun j => manyO_left j hNl
   have hcall := rBytesS hst
   rw [hF] at hcall
   have Hrm := Lib.hid hrm
   clear Hr hrm
   generalize nR bs 0 = n0 at *
   generalize nR bs 1 = n1 at *
   generalize nR bs 2 = n2 at *
   obtain ⟨F1, F2⟩ := F
   obtain ⟨n, N2⟩ := N
   simp only at hFl hNl hN hML hNle
   have Hcall := Lib.hid hcall
   have HM3 := Lib.hid hM3
   have HN := Lib.hid hN
   have HML := Lib.hid hML
   clear hM hM3 hcall hst hP hF hN hML hNl hL3 HM2 HP2 hst2 hbel2
   go_wp2_with fail
   refine (Hcall.out).mono ?_; rintro e w3 ⟨vf, rfl, hrf, -, hst3, hK3⟩
   have hM4 := hK3.heap HM3.out (by omega)
   have hbw3 := hbw.trans (hK3.below (B := w.heap.size) (fun i hi => by omega) hbw.size)
   have hcv := run_strL hrf
   obtain ⟨⟨-, -, -, c3, -, -⟩, -, -, -, f3, -, -⟩ := cells6 hM4
   have HM4 := Lib.hid hM4
   have hKs := Keeps.setCell (F := fun k => k = w.heap.size) w3 ⟨w.heap.size, 3, none⟩ (.string (strL F1)) rfl
   have hst4 := hst3.keeps hKs hrbM (fun k hk => HobM.out k hk)
   have hM5 : (w3.setCell ⟨w.heap.size, 3, none⟩ (.string (strL F1))).heap[w.heap.size]? = some (.cells #[.int .i64 n0, .int .i64 n1, .int .i64 n2, .string (strL F1), .slice none 0 0, .slice none 0 0] 29 (0, 0)) := heap_setCell_same _ _ 3 _ _ _ HM4.out
   have hbw4 := hbw3.setCell (by exact Nat.le_refl _) (.string (strL F1)) (p := ⟨w.heap.size, 3, none⟩)
   have hcallN := rNumS hst4
   rw [HN.out] at hcallN
   have HcallN := Lib.hid hcallN
   have HM5 := Lib.hid hM5
   generalize hsf : strL F1 = sf at *
   clear hcallN hM5 hst4 hst3 hrf hM4 hKs
   go_wp2_with fail
   refine (HcallN.out).mono ?_; rintro e w5 ⟨ok5, rfl, hst5, hK5⟩
   simp only at hst5 ⊢
   have hM6 := hK5.heap HM5.out (by omega)
   have hbw5 := hbw4.trans (hK5.below (B := w.heap.size) (fun i hi => by omega) hbw4.size)
   have hsz5 := (Array.getElem?_eq_some_iff.1 hM6).1
   have hrb5 := hst5.lt
   have hob5 := hst5.obl
   have HM6 := Lib.hid hM6
   clear HcallN Hcall HM3 HM4 HM5 hM6 c3 f3 hcv
   by_cases h8 : n ≤ 8
   ·have h8i : ¬ ((8 : Int) < (n : Int)) := by omega
    have hobB := hob5
    obtain ⟨B, hB⟩ : ∃ B, w5.heap.size = B := ⟨_, rfl⟩
    rw [hB] at hsz5 hrb5 hob5
    have hM0 : ∃ vr, w5.heap[w.heap.size]? = some (.cells #[.int .i64 n0, .int .i64 n1, .int .i64 n2, .string sf, vr, .slice none 0 0] 29 (0, 0)) ∧ w5.ownsRow B 9 1 vr (manyO 0 N2).1.length ((manyO 0 N2).1.flatMap s1) := ⟨.slice none 0 0, HM6.out, World.ownsRow_nil _ _ _ _⟩
    have hBle : B ≤ w5.heap.size := by omega
    have HM0 := Lib.hid hM0
    have Hst5 := Lib.hid hst5
    clear hM0 hobB hst5 HM6
    go_wp2
    go_loopw [49] (fun i wr => ∃ j : Nat, j ≤ n ∧ i = .int .i64 j ∧ RdSt wr rb ob (manyO j N2).2 ∧ (∃ vr, wr.heap[w.heap.size]? = some (.cells #[.int .i64 n0, .int .i64 n1, .int .i64 n2, .string sf, vr, .slice none 0 0] 29 (0, 0)) ∧ wr.ownsRow B 9 1 vr (manyO j N2).1.length ((manyO j N2).1.flatMap s1)) ∧ Below w.heap.size w wr ∧ B ≤ wr.heap.size) (fun i _ => n - (intOf i).toNat)
    case atStart => exact ⟨0, by omega, rfl, Hst5.out, HM0.out, hbw5, hBle⟩
    case round =>
     obtain ⟨j, hj, rfl, hst, ⟨vr, hM, hown⟩, hbw, hBw⟩ := hrel
     by_cases hlt : j < n
     ·have hlti : (j : Int) < (n : Int) := by omega
      have hcall := rBytesS hst
      obtain ⟨hl1, hl2, hl3⟩ := HML.out j
      have hmj := manyO_snoc j N2
      have hbl := (bytesO_left hl3).1
      generalize manyO j N2 = P at hcall hown hl1 hmj hbl
      obtain ⟨P1, P2⟩ := P
      simp only at hcall hown hl1 hmj hbl
      generalize bytesO P2 = Q at hcall hmj hbl
      obtain ⟨Q1, Q2⟩ := Q
      simp only at hmj hbl
      have Hmj := Lib.hid hmj
      have Hcall := Lib.hid hcall
      have HM := Lib.hid hM
      have Hown := Lib.hid hown
      have hownB := own_base hown
      have hP8 : P1.length ≤ 8 := by omega
      clear hcall hM hmj hst hl1 hl2 hl3 hown
      go_wp2_with fail
      refine (Hcall.out).mono ?_; rintro e w6 ⟨vs, rfl, hrs, -, hst6, hK6⟩
      simp only at hrs hst6 ⊢
      have hcv := run_strL hrs
      have hM7 := hK6.heap HM.out (by omega)
      obtain ⟨⟨-, -, -, -, c4, -⟩, -, -, -, -, f4, -⟩ := cells6 hM7
      have hown6 := own_keeps Hown.out hK6 (fun k hk e => by have := hownB k hk; omega)
      have hbw6 := hbw.trans (hK6.below (B := w.heap.size) (fun i hi => by omega) hbw.size)
      have hBw6 : B ≤ w6.heap.size := Nat.le_trans hBw hK6.size
      have hncell := news_new w6 (s1 Q1) 9 (0, 0)
      have hcs1 : ∀ u ∈ s1 Q1, u.oneCell' = true := by intro u hu; exact s1_one [Q1] u (by simpa using hu)
      have hbd1 : P1.length + 1 ≤ maxLen := by show P1.length + 1 ≤ 9223372036854775807; omega
      have hbd2 : (P1.length + 1) * 16 ≤ 140737488355328 := by omega
      have hbd3 : B ≤ (w6.alloc (.cells #[.string (strL Q1)] 9)).heap.size := by simp; omega
      have hownA : (w6.alloc (.cells #[.string (strL Q1)] 9)).ownsRow B 9 1 vr P1.length (P1.flatMap s1) := World.ownsRow.alloc hown6 _
      have hs1d : s1 Q1 = [.string (strL Q1)] := rfl
      rw [hs1d] at hncell hcs1
      generalize hsq : strL Q1 = sq at *
      have Hsq := Lib.hid hsq
      have Hncell := Lib.hid hncell
      have Hcs1 := Lib.hid hcs1
      have HM7 := Lib.hid hM7
      have Hst6 := Lib.hid hst6
      obtain ⟨av, cv, hvr⟩ := own_form0 hown6
      subst hvr
      clear hncell hcs1 hM7 hst6 hrs Hcall HM Hown hs1d hown6 hsq
      go_wp2_with (at_builtin; go_must (refine wpList_append_own _ rfl (.tmp 57) (.tmp 60) 27 rfl B 9 i0 _ 1 16 Tryz.underlying27 hi hz0 hz1 hz2 rfl (by decide) _ _ _ rfl hownA ⟨w6.heap.size, 0, none⟩ 1 1 [.string sq] rfl rfl Hncell.out Hcs1.out hbd1 hbd2 hbd3 ?_); rintro v' w7 hown7 hg7 _; obtain ⟨a7, c7, hv7⟩ := own_form0 hown7; subst hv7; have hM8 := (Keeps.grown hg7).heap (k := w.heap.size) ((Below.heap_alloc w6 _ w.heap.size (Array.getElem?_eq_some_iff.1 HM7.out).1).trans HM7.out) (fun e => by have := hownB _ e; omega); have g4 := (cells6 hM8).2.2.2.2.2.1; have a4 := (cells6 hM8).1.2.2.2.2.1)
      have hst7 := ((Hst6.out.below ((Below.refl _ _).alloc (Nat.le_refl _) _)).keeps (Keeps.grown hg7) (fun e => by have := hownB _ e; omega) (fun k hk e => by have := hownB _ e; have := hob5 k hk; omega))
      have hKs := Keeps.setCell (F := fun k => k = w.heap.size) w7 ⟨w.heap.size, 4, none⟩ (.slice a7 (P1.length + 1) c7) rfl
      have hv7b := own_base hown7
      have hbw7 : Below w.heap.size w w7 := (hbw6.alloc hbw6.size _).grown hg7 (by have := hbw6.size; simp; omega) (fun k hk => by have := hownB k hk; omega)
      have hB7 : B ≤ w7.heap.size := by have := hg7.size; simp at this; omega
      go_roundw
      case rel =>
       refine ⟨j + 1, by omega, by go_num, ?_, ⟨.slice a7 (P1.length + 1) c7, ?_, ?_⟩, hbw7.setCell (by exact Nat.le_refl _) _, by simp; omega⟩
       ·rw [Hmj.out]; exact hst7.keeps hKs hrbM (fun k hk => HobM.out k hk)
       ·exact heap_setCell_same _ _ 4 _ _ _ hM8
       ·rw [Hmj.out]
        have h := own_keeps hown7 hKs (fun k hk e => by have := hv7b k hk; omega)
        rw [List.length_append, List.flatMap_append, List.flatMap_singleton, s1, Hsq.out]
        exact h
      case measure => simp [intOf] <;> omega
     ·have hje : j = n := by omega
      subst hje
      obtain ⟨hl1, hl2, hl3⟩ := HML.out j
      have hcall := rBytesS hst
      have hrm2 := Hrm.out
      generalize manyO j N2 = P at hcall hown hl1 hl2 hl3 hrm2
      obtain ⟨P1, P2⟩ := P
      simp only at hcall hown hl1 hl2 hl3 hrm2
      have hbl := (bytesO_left hl3).1
      generalize bytesO P2 = Q at hcall hbl hrm2
      obtain ⟨Q1, Q2⟩ := Q
      simp only at hbl hrm2
      have Hrm2 := Lib.hid hrm2
      have Hcall := Lib.hid hcall
      have HM := Lib.hid hM
      have Hown := Lib.hid hown
      have hownB := own_base hown
      have Hl2 := Lib.hid hl2
      have hP8 : P1.length ≤ 8 := by omega
      obtain ⟨av, cv, hvr⟩ := own_form0 hown
      subst hvr
      clear hcall hM hst hl1 hl2 hl3 hown hrm2 Hrm
      go_wp2_with fail
      refine (Hcall.out).mono ?_; rintro e w6 ⟨vs, rfl, hrs, ho6, hst6, hK6⟩
      simp only at hrs hst6 ⊢
      have hM7 := hK6.heap HM.out (by omega)
      obtain ⟨⟨-, -, -, -, -, c5⟩, -, -, -, -, -, f5⟩ := cells6 hM7
      have hown6 := own_keeps Hown.out hK6 (fun k hk e => by have := hownB k hk; omega)
      have hbw6 := hbw.trans (hK6.below (B := w.heap.size) (fun i hi => by omega) hbw.size)
      have hBw6 : B ≤ w6.heap.size := Nat.le_trans hBw hK6.size
      obtain ⟨aw, cw, hvs, _, _⟩ := hrs.form
      subst hvs
      obtain ⟨W7, hW7⟩ : ∃ W7, w6.setCell ⟨w.heap.size, 5, none⟩ (.slice aw Q1.length cw) = W7 := ⟨_, rfl⟩
      have hKs := Keeps.setCell (F := fun k => k = w.heap.size) w6 ⟨w.heap.size, 5, none⟩ (.slice aw Q1.length cw) rfl
      rw [hW7] at hKs
      have hM8 : W7.heap[w.heap.size]? = some (.cells #[.int .i64 n0, .int .i64 n1, .int .i64 n2, .string sf, .slice av P1.length cv, .slice aw Q1.length cw] 29 (0, 0)) := by rw [← hW7]; exact heap_setCell_same _ _ 5 _ _ _ hM7
      have hrs7 := hrs.keeps hKs (fun k hk e => by rcases ho6 with h | h; exact HobM.out k (h ▸ hk) e; rw [h] at hk; cases hk)
      have hst7 := hst6.keeps hKs hrbM (fun k hk => HobM.out k hk)
      have hown7 := own_keeps hown6 hKs (fun k hk e => by have := hownB k hk; omega)
      have hbw7 : Below w.heap.size w W7 := by rw [← hW7]; exact hbw6.setCell (by exact Nat.le_refl _) _
      have hBw7 : B ≤ W7.heap.size := by rw [← hW7]; simpa using hBw6
      have hcl := clone_calls _ _ _ hrs7 (by omega)
      have d5 := (cells6 hM8).1.2.2.2.2.2
      have Hcl := Lib.hid hcl
      have HM8 := Lib.hid hM8
      have Hst7 := Lib.hid hst7
      have Hown7 := Lib.hid hown7
      have Hbw7 := Lib.hid hbw7
      clear hcl hM8 hst7 hown7 hst6 hown6 hrs7 hrs hM7 HM Hown Hcall hbw7 hKs
      subst hW7
      go_wp2_with fail
      refine (Hcl.out).mono ?_; rintro e w8 ⟨vb, rfl, hown8, hb8⟩
      have hM9 := (hb8.block _ (Array.getElem?_eq_some_iff.1 HM8.out).1).trans HM8.out
      obtain ⟨⟨-, -, -, -, -, c58⟩, -, -, -, -, -, f58⟩ := cells6 hM9
      obtain ⟨ab, cb, hvb⟩ := own_form0 hown8
      subst hvb
      obtain ⟨W9, hW9⟩ : ∃ W9, w8.setCell ⟨w.heap.size, 5, none⟩ (.slice ab Q1.length cb) = W9 := ⟨_, rfl⟩
      have hKt := Keeps.setCell (F := fun k => k = w.heap.size) w8 ⟨w.heap.size, 5, none⟩ (.slice ab Q1.length cb) rfl
      rw [hW9] at hKt
      have hM10 : W9.heap[w.heap.size]? = some (.cells #[.int .i64 n0, .int .i64 n1, .int .i64 n2, .string sf, .slice av P1.length cv, .slice ab Q1.length cb] 29 (0, 0)) := by rw [← hW9]; exact heap_setCell_same _ _ 5 _ _ _ hM9
      have hst9 := (Hst7.out.below hb8).keeps hKt hrbM (fun k hk => HobM.out k hk)
      have hownL := own_keeps (own_below Hown7.out hb8 (Nat.le_refl _)) hKt (fun k hk e => by have := hownB k hk; omega)
      have hownT := own_mono (own_keeps hown8 hKt (fun k hk e => by have := own_base hown8 k hk; omega)) (base' := B) hBw7
      have hbw9 : Below w.heap.size w W9 := by rw [← hW9]; exact (Hbw7.out.trans (hb8.mono Hbw7.out.size)).setCell (by exact Nat.le_refl _) _
      obtain ⟨dn, hdn⟩ : ∃ dn, decide (Q2 = some []) = dn := ⟨_, rfl⟩
      have hdone := rDoneS hdn hst9
      obtain ⟨md, hmd⟩ : ∃ md, md = MailD.mk (n0 : Int) (n1 : Int) (n2 : Int) F1 P1 Q1 := ⟨_, rfl⟩
      have hl2 := Hl2.out
      have hgood := envGood_calls md (.slice av P1.length cv) (.slice ab Q1.length cb) W9 (by rw [hmd]; exact rdL_ofOwn s1_len (by decide) hownL) (by rw [hmd]; exact rdB_ofOwn hownT) (by rw [hmd]; intro l h; have := hl2 l h; omega) (by rw [hmd]; have := hFl.1; simp only; omega) (Hmax.out.below hbw9)
      have hrm3 := Hrm2.out
      rw [← hmd] at hrm3
      have hmv : mailVal md (.slice av P1.length cv) (.slice ab Q1.length cb) = .agg #[.int .i64 n0, .int .i64 n1, .int .i64 n2, .string sf, .slice av P1.length cv, .slice ab Q1.length cb] := by rw [hmd, ← hsf]
      rw [hmv] at hgood
      have hlm : md.rcpts = P1 ∧ md.body = Q1 := by rw [hmd]; exact ⟨rfl, rfl⟩
      generalize md.good = gd at hgood hrm3
      obtain ⟨e0, e1, e2, e3, e4, e5⟩ := (cells6 hM10).1
      obtain ⟨g0, g1, g2, g3, g4, g5⟩ := (cells6 hM10).2
      have Hdone := Lib.hid hdone
      have Hgood := Lib.hid hgood
      have Hrm3 := Lib.hid hrm3
      have HM10 := Lib.hid hM10
      have Hmv := Lib.hid hmv
      have Hlm := Lib.hid hlm
      have HownL := Lib.hid hownL
      have HownT := Lib.hid hownT
      have Hbw9 := Lib.hid hbw9
      have Hdn := Lib.hid hdn
      clear hdone hgood hrm3 hM10 hmv hmd hlm hl2 hownL hownT hbw9 hdn hst9 hKt hM9 hown8 Hrm2
      subst hW9
      cases dn
      ·go_wp2_with fail
       refine (Hdone.out).mono ?_; rintro e _ ⟨rfl, rfl⟩
       go_wp2
       have hrn := Hrm3.out
       rw [if_neg (fun h => by have := Hdn.out; rw [decide_eq_false_iff_not] at this; exact this h.2.1)] at hrn
       subst hrn
       have hB5 := heap6 ⟨_, _, _, _, _, _, HM10.out⟩ (.int .i64 0) (.int .i64 0) (.int .i64 0) (.string ⟨#[]⟩) (.slice none 0 0) (.slice none 0 0)
       refine bodyPost_ret (results_row_tmp rfl _ _ w.heap.size 29 _ (0, 0) _ rfl hB5 Tryz.underlying29 rfl (by kernel_rfl)) rfl (mailRes_none rfl ?_)
       exact (((((Hbw9.out.setCell (by exact Nat.le_refl _) _).setCell (by exact Nat.le_refl _) _).setCell (by exact Nat.le_refl _) _).setCell (by exact Nat.le_refl _) _).setCell (by exact Nat.le_refl _) _).setCell (by exact Nat.le_refl _) _
      ·have hq : Q2 = some [] := of_decide_eq_true Hdn.out
       go_wp2_with fail
       refine (Hdone.out).mono ?_; rintro e _ ⟨rfl, rfl⟩
       go_wp2_with fail
       refine (Hgood.out).mono ?_; rintro e w10 ⟨rfl, hb10⟩
       have hM11 := (hb10.block _ (Array.getElem?_eq_some_iff.1 HM10.out).1).trans HM10.out
       have hbw10 := Hbw9.out.trans (hb10.mono Hbw9.out.size)
       obtain ⟨⟨x0, x1, x2, x3, x4, x5⟩, y0, y1, y2, y3, y4, y5⟩ := cells6 hM11
       cases gd
       ·go_wp2
        have hrn := Hrm3.out
        rw [if_neg (fun h => by cases h.2.2)] at hrn
        subst hrn
        have hB5 := heap6 ⟨_, _, _, _, _, _, hM11⟩ (.int .i64 0) (.int .i64 0) (.int .i64 0) (.string ⟨#[]⟩) (.slice none 0 0) (.slice none 0 0)
        refine bodyPost_ret (results_row_tmp rfl _ _ w.heap.size 29 _ (0, 0) _ rfl hB5 Tryz.underlying29 rfl (by kernel_rfl)) rfl (mailRes_none rfl ?_)
        exact (((((hbw10.setCell (by exact Nat.le_refl _) _).setCell (by exact Nat.le_refl _) _).setCell (by exact Nat.le_refl _) _).setCell (by exact Nat.le_refl _) _).setCell (by exact Nat.le_refl _) _).setCell (by exact Nat.le_refl _) _
       ·go_wp2
        have hrn := Hrm3.out
        rw [if_pos ⟨h8, hq, trivial⟩] at hrn
        subst hrn
        have hB5 := heap6 ⟨_, _, _, _, _, _, hM11⟩ (.int .i64 n0) (.int .i64 n1) (.int .i64 n2) (.string sf) (.slice av P1.length cv) (.slice ab Q1.length cb)
        have hst : ∀ (W : World) (j : Nat) (v : Value), Keeps (fun k => k = w.heap.size) W (W.setCell ⟨w.heap.size, j, none⟩ v) := fun W j v => Keeps.setCell _ _ _ rfl
        have hKf := ((((((hst w10 0 (.int .i64 n0)).trans (hst _ 1 (.int .i64 n1))).trans (hst _ 2 (.int .i64 n2))).trans (hst _ 3 (.string sf))).trans (hst _ 4 (.slice av P1.length cv))).trans (hst _ 5 (.slice ab Q1.length cb)))
        have hoL := own_mono (own_keeps (own_below HownL.out hb10 (Nat.le_refl _)) hKf (fun k hk e => by have := own_base HownL.out k hk; omega)) (base' := w.heap.size) (by omega)
        have hoT := own_mono (own_keeps (own_below HownT.out hb10 (Nat.le_refl _)) hKf (fun k hk e => by have := own_base HownT.out k hk; omega)) (base' := w.heap.size) (by omega)
        refine bodyPost_ret (results_row_tmp rfl _ _ w.heap.size 29 _ (0, 0) _ rfl hB5 Tryz.underlying29 rfl (by kernel_rfl)) rfl ⟨.slice av P1.length cv, .slice ab Q1.length cb, ?_, ?_, ?_, hbw10.trans (hKf.below (fun k hk => by omega) hbw10.size)⟩
        ·rw [← Hmv.out]; rfl
        ·show World.ownsRow _ _ _ _ _ md.rcpts.length (md.rcpts.flatMap s1)
         rw [Hlm.out.1]; exact hoL
        ·show World.ownsRow _ _ _ _ _ md.body.length (md.body.map u8v)
         rw [Hlm.out.2]; exact hoT
   ·have hrn := Hrm.out
    rw [if_neg (fun h => h8 h.1)] at hrn
    subst hrn
    have h8i : (8 : Int) < (n : Int) := by omega
    obtain ⟨⟨x0, x1, x2, x3, x4, x5⟩, y0, y1, y2, y3, y4, y5⟩ := cells6 HM6.out
    go_wp2
    have hB5 := heap6 ⟨_, _, _, _, _, _, HM6.out⟩ (.int .i64 0) (.int .i64 0) (.int .i64 0) (.string ⟨#[]⟩) (.slice none 0 0) (.slice none 0 0)
    refine bodyPost_ret (results_row_tmp rfl _ _ w.heap.size 29 _ (0, 0) _ rfl hB5 Tryz.underlying29 rfl (by kernel_rfl)) rfl (mailRes_none rfl ?_)
    exact (((((hbw5.setCell (by exact Nat.le_refl _) _).setCell (by exact Nat.le_refl _) _).setCell (by exact Nat.le_refl _) _).setCell (by exact Nat.le_refl _) _).setCell (by exact Nat.le_refl _) _).setCell (by exact Nat.le_refl _) _
end Go.Proofs.YtffnbkmigapmjaaGreatDoor
