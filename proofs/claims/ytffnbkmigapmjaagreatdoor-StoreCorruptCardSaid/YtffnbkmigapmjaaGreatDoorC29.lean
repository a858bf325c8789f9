/-
  A Reader's and an Eye's state, as what is left; the walk of pillarboxref01.Eye.Bytes.
  The walk of pillarboxref10.Own.
-/
import Derived.Test.YtffnbkmigapmjaaGreatDoorC7
import Derived.Test.YtffnbkmigapmjaaGreatDoorC27
import Derived.Test.YtffnbkmigapmjaaGreatDoorC28
set_option linter.unusedSimpArgs false
set_option linter.unusedVariables false
namespace Go.Proofs.YtffnbkmigapmjaaGreatDoor
open Go.RowKit
/-- What a state leaves: none, when it is bad. -/
def leftO (bad : Bool) (bs : List UInt8) : Option (List UInt8) := if bad = true then none else some bs
def RdSt (w : World) (b : Nat) (ob : Option Nat) (o : Option (List UInt8)) : Prop := ∃ v bs bad, RdAt w b v bs bad ∧ v.ownBlock = ob ∧ o = leftO bad bs ∧ ∀ k, ob = some k → k < w.heap.size
theorem numO_rd (bs : List UInt8) (bad : Bool) : numO (leftO bad bs) = ((rdNum bs bad).1.1, leftO (rdNum bs bad).2.2 (rdNum bs bad).2.1) ∧ (rdNum bs bad).1.2 = (numO (leftO bad bs)).2.isSome := by
  cases bad
  · show numO (some bs) = _ ∧ _ = (numO (some bs)).2.isSome
    rw [numO, rdNum]
    by_cases h : bs.length < 8
    · rw [if_pos h, if_pos (Or.inr h)]; exact ⟨rfl, rfl⟩
    · have hx : ¬ (false = true ∨ bs.length < 8) := by rintro (h' | h'); cases h'; exact h h'
      rw [if_neg h, if_neg hx]
      by_cases h2 : 4611686018427387904 < beNat (bs.take 8)
      · rw [if_pos h2, if_pos h2]; exact ⟨rfl, rfl⟩
      · rw [if_neg h2, if_neg h2]; exact ⟨rfl, rfl⟩
  · rw [rdNum, if_pos (Or.inl rfl)]; exact ⟨rfl, rfl⟩
theorem bytesO_rd (bs : List UInt8) (bad : Bool) : bytesO (leftO bad bs) = ((rdBytes bs bad).1.1, leftO (rdBytes bs bad).2.2 (rdBytes bs bad).2.1) ∧ (rdBytes bs bad).1.2 = (bytesO (leftO bad bs)).2.isSome := by
  obtain ⟨h1, h2⟩ := numO_rd bs bad
  have h3 := @rdNum_good bs bad
  rw [bytesO, rdBytes, h1]
  rw [h1] at h2
  generalize rdNum bs bad = r at h1 h2 h3 ⊢
  obtain ⟨⟨n, ok⟩, ⟨bs1, bad1⟩⟩ := r
  simp only at h1 h2 h3 ⊢
  cases bad1
  · have hok : ok = true := h2
    subst hok
    show (if n ≤ bs1.length then _ else _) = _ ∧ _
    rw [if_pos rfl]
    by_cases hle : n ≤ bs1.length
    · rw [if_pos hle, if_pos hle]
      refine ⟨rfl, ?_⟩
      show true = Option.isSome _
      simp [leftO, hle]
    · rw [if_neg hle, if_neg hle]
      refine ⟨rfl, ?_⟩
      show false = Option.isSome _
      simp [leftO, hle]
  · have hok : ok = false := h2
    subst hok
    exact ⟨rfl, rfl⟩
theorem RdSt.start {w : World} {b : Nat} {v : Value} {bs : List UInt8} (h : RdAt w b v bs false) (hl : ∀ k, v.ownBlock = some k → k < w.heap.size) : RdSt w b v.ownBlock (some bs) := ⟨v, bs, false, h, rfl, rfl, hl⟩
theorem RdSt.keeps {F : Nat → Prop} {w w' : World} {b : Nat} {ob : Option Nat} {o : Option (List UInt8)} (h : RdSt w b ob o) (hk : Keeps F w w') (hb : ¬ F b) (ho : ∀ k, ob = some k → ¬ F k) : RdSt w' b ob o := by
  obtain ⟨v, bs, bad, hR, rfl, rfl, hl⟩ := h
  exact ⟨v, bs, bad, ⟨hk.heap hR.blk hb, hR.rd.keeps hk ho, hR.ne⟩, rfl, rfl, fun k e => Nat.lt_of_lt_of_le (hl k e) hk.size⟩
theorem RdSt.below {w w' : World} {b : Nat} {ob : Option Nat} {o : Option (List UInt8)} (h : RdSt w b ob o) (hb : Below w.heap.size w w') : RdSt w' b ob o :=
  h.keeps (F := fun _ => False) (Keeps.ofBelow hb) id (fun _ _ => id)
theorem RdSt.ne {w : World} {b : Nat} {ob : Option Nat} {o : Option (List UInt8)} (h : RdSt w b ob o) : ob ≠ some b := by
  obtain ⟨v, bs, bad, hR, rfl, rfl, _⟩ := h; exact hR.ne
theorem RdSt.obl {w : World} {b : Nat} {ob : Option Nat} {o : Option (List UInt8)} (h : RdSt w b ob o) : ∀ k, ob = some k → k < w.heap.size := by
  obtain ⟨v, bs, bad, hR, rfl, rfl, hl⟩ := h; exact hl
theorem RdSt.lt {w : World} {b : Nat} {ob : Option Nat} {o : Option (List UInt8)} (h : RdSt w b ob o) : b < w.heap.size := by
  obtain ⟨v, bs, bad, hR, rfl, rfl, _⟩ := h; exact (Array.getElem?_eq_some_iff.1 hR.blk).1
def NumS (w : World) (b : Nat) (ob : Option Nat) (p : Nat × Option (List UInt8)) (e : Ending) (w' : World) : Prop :=
  ∃ ok, e = .returned (.tuple #[.int .i64 (p.1 : Int), .bool ok]) ∧ RdSt w' b ob p.2 ∧ Keeps (fun k => k = b) w w'
theorem rNumS {w : World} {b : Nat} {ob : Option Nat} {o : Option (List UInt8)} (h : RdSt w b ob o) : Calls Tryz.prog 187 #[.pointer (some ⟨b, 0, none⟩)] w (NumS w b ob (numO o)) := by
  obtain ⟨v, bs, bad, hR, rfl, rfl, hl⟩ := h
  obtain ⟨h1, h2⟩ := numO_rd bs bad
  refine (rNum_calls b v bs bad w hR).mono ?_
  rintro e w' ⟨v', rfl, hR', hK, ho⟩
  refine ⟨_, by rw [h1], ⟨v', _, _, hR', ho, by rw [h1], fun k e => Nat.lt_of_lt_of_le (hl k e) hK.size⟩, hK⟩
def BytesS (w : World) (b : Nat) (ob : Option Nat) (p : List UInt8 × Option (List UInt8)) (e : Ending) (w' : World) : Prop :=
  ∃ v1, e = .returned (.tuple #[v1, .bool p.2.isSome]) ∧ RdB w' v1 p.1 ∧ (v1.ownBlock = ob ∨ v1 = .slice none 0 0) ∧ RdSt w' b ob p.2 ∧ Keeps (fun k => k = b) w w'
theorem rBytesS {w : World} {b : Nat} {ob : Option Nat} {o : Option (List UInt8)} (h : RdSt w b ob o) : Calls Tryz.prog 142 #[.pointer (some ⟨b, 0, none⟩)] w (BytesS w b ob (bytesO o)) := by
  obtain ⟨v, bs, bad, hR, rfl, rfl, hl⟩ := h
  obtain ⟨h1, h2⟩ := bytesO_rd bs bad
  refine (rBytes_calls b v bs bad w hR).mono ?_
  rintro e w' ⟨v1, v2, rfl, hb1, hR', hK, ho1, ho2⟩
  exact ⟨v1, by rw [h2], by rw [h1]; exact hb1, ho1, ⟨v2, _, _, hR', ho2, by rw [h1], fun k e => Nat.lt_of_lt_of_le (hl k e) hK.size⟩, hK⟩
/-! The same of an Eye. -/
def EySt (w : World) (b : Nat) (ob : Option Nat) (o : Option (List UInt8)) : Prop := ∃ v bs bad, EyeAt w b v bs bad ∧ v.ownBlock = ob ∧ o = leftO bad bs ∧ NilOk v ∧ ∀ k, ob = some k → k < w.heap.size
theorem numO_eye (bs : List UInt8) (bad : Bool) : numO (leftO bad bs) = ((eyeNum bs bad).1, leftO (eyeNum bs bad).2.2 (eyeNum bs bad).2.1) := by
  cases bad
  · show numO (some bs) = _
    rw [numO, eyeNum]
    by_cases h : bs.length < 8
    · rw [if_pos h, if_pos (Or.inr h)]; rfl
    · have hx : ¬ (false = true ∨ bs.length < 8) := by rintro (h' | h'); cases h'; exact h h'
      rw [if_neg h, if_neg hx]
      by_cases h2 : 4611686018427387904 < beNat (bs.take 8)
      · rw [if_pos h2, if_pos h2]; rfl
      · rw [if_neg h2, if_neg h2]; rfl
  · rw [eyeNum, if_pos (Or.inl rfl)]; rfl
theorem EySt.start {w : World} {b : Nat} {v : Value} {bs : List UInt8} (h : EyeAt w b v bs false) (hn : NilOk v) (hl : ∀ k, v.ownBlock = some k → k < w.heap.size) : EySt w b v.ownBlock (some bs) := ⟨v, bs, false, h, rfl, rfl, hn, hl⟩
theorem EySt.keeps {F : Nat → Prop} {w w' : World} {b : Nat} {ob : Option Nat} {o : Option (List UInt8)} (h : EySt w b ob o) (hk : Keeps F w w') (hb : ¬ F b) (ho : ∀ k, ob = some k → ¬ F k) : EySt w' b ob o := by
  obtain ⟨v, bs, bad, hR, rfl, rfl, hn, hl⟩ := h
  exact ⟨v, bs, bad, ⟨hk.heap hR.blk hb, hR.rd.keeps hk ho, hR.ne⟩, rfl, rfl, hn, fun k e => Nat.lt_of_lt_of_le (hl k e) hk.size⟩
theorem EySt.below {w w' : World} {b : Nat} {ob : Option Nat} {o : Option (List UInt8)} (h : EySt w b ob o) (hb : Below w.heap.size w w') : EySt w' b ob o :=
  h.keeps (F := fun _ => False) (Keeps.ofBelow hb) id (fun _ _ => id)
theorem EySt.lt {w : World} {b : Nat} {ob : Option Nat} {o : Option (List UInt8)} (h : EySt w b ob o) : b < w.heap.size := by
  obtain ⟨v, bs, bad, hR, rfl, rfl, _⟩ := h; exact (Array.getElem?_eq_some_iff.1 hR.blk).1
def ENumS (w : World) (b : Nat) (ob : Option Nat) (p : Nat × Option (List UInt8)) (e : Ending) (w' : World) : Prop :=
  e = .returned (.int .i64 (p.1 : Int)) ∧ EySt w' b ob p.2 ∧ Keeps (fun k => k = b) w w'
theorem eNumS {w : World} {b : Nat} {ob : Option Nat} {o : Option (List UInt8)} (h : EySt w b ob o) : Calls Tryz.prog 49 #[.pointer (some ⟨b, 0, none⟩)] w (ENumS w b ob (numO o)) := by
  obtain ⟨v, bs, bad, hR, rfl, rfl, hn, hl⟩ := h
  have h1 := numO_eye bs bad
  refine (eyeNum_calls b v bs bad w hR).mono ?_
  rintro e w' ⟨v', rfl, hR', hK, ho, hnn⟩
  exact ⟨by rw [h1], ⟨v', _, _, hR', ho, by rw [h1], hnn hn, fun k e => Nat.lt_of_lt_of_le (hl k e) hK.size⟩, hK⟩
def EBytesS (w : World) (b : Nat) (ob : Option Nat) (p : List UInt8 × Option (List UInt8)) (e : Ending) (w' : World) : Prop :=
  ∃ v1, e = .returned v1 ∧ w'.ownsRow w.heap.size 5 1 v1 p.1.length (p.1.map u8v) ∧ EySt w' b ob p.2 ∧ Keeps (fun k => k = b) w w'
set_option maxRecDepth 100000 in
set_option maxHeartbeats 4000000 in
theorem eBytesS {w : World} {b : Nat} {ob : Option Nat} {o : Option (List UInt8)} (h : EySt w b ob o) (hs : ∀ bs, o = some bs → bs.length ≤ 1000000000) : Calls Tryz.prog 47 #[.pointer (some ⟨b, 0, none⟩)] w (EBytesS w b ob (bytesO o)) := by
  obtain ⟨i0, hi, hz0, hz1, hz2⟩ := info_parts infoU8
  obtain ⟨v, bs, bad, hR, hob, ho, hnv, hl⟩ := id h
  have hblk := hR.blk
  obtain ⟨hc0, hc1, hf0, hf1⟩ := hR.cells
  obtain ⟨av, capv, hv, _, _⟩ := hR.rd.form
  obtain ⟨W, hW⟩ : ∃ W, w.alloc (.cells #[v, .bool bad] 90) = W := ⟨_, rfl⟩
  have hbW : Below w.heap.size w W := by rw [← hW]; exact (Below.refl _ _).alloc (Nat.le_refl _) _
  have hsW : W.heap.size = w.heap.size + 1 := by rw [← hW]; simp
  have hbl := h.lt
  have hyS : EySt W w.heap.size ob o := ⟨v, bs, bad, ⟨by rw [← hW]; exact heap_alloc_new w _, hR.rd.below (Nat.le_refl _) hbW, by rw [hob]; intro e; have := hl _ e; omega⟩, hob, ho, hnv, fun k e => by have := hl k e; omega⟩
  have hnum := eNumS hyS
  have hxW := h.below hbW
  have hbo : bytesO o = match (numO o).2 with | none => ([], none) | some r => if (numO o).1 ≤ r.length then (r.take (numO o).1, some (r.drop (numO o).1)) else ([], none) := rfl
  have hr8 : ∀ r, (numO o).2 = some r → r.length ≤ 1000000000 := by
    intro r hr
    cases ho' : o with
    | none => rw [ho'] at hr; cases hr
    | some p =>
      rw [ho', numO] at hr
      have := hs p ho'
      split at hr
      · cases hr
      · split at hr
        · cases hr
        · cases hr; rw [List.length_drop]; omega
  have hxbad : (numO o).2.isSome = true → bad = false := by
    intro hh
    cases bad
    · rfl
    · rw [ho] at hh; cases hh
  rw [hbo]
  clear hbo
  unfold ENumS at hnum
  generalize numO o = p at hnum hr8 hxbad
  obtain ⟨n, o2⟩ := p
  simp only at hnum hr8 hxbad ⊢
  have Hnum := Lib.hid hnum
  have HxW := Lib.hid hxW
  have HW := Lib.hid hW
  have hne2 : b ≠ w.heap.size := by omega
  have hobl : ∀ k, ob = some k → ¬ (k = w.heap.size) := fun k e h => by have := hl k e; omega
  have Hobl := Lib.hid hobl
  have Hho := Lib.hid ho
  have hblW := (hbW.block _ hbl).trans hblk
  have HblW := Lib.hid hblW
  have hrW := hR.rd.below (Nat.le_refl _) hbW
  have HrW := Lib.hid hrW
  have Hob := Lib.hid hob
  have Hne := Lib.hid hR.ne
  have Hl := Lib.hid hl
  have Hnv := Lib.hid hnv
  clear hnum h hyS hxW ho hs hR hobl hblW hrW hob hl hnv
  subst hv
  rw [← hW] at Hnum hbW hsW HblW
  rw [← hW] at HrW
  clear hW HW HxW
  cases o2 with
  | none =>
    show Calls Tryz.prog 47 _ w (EBytesS w b ob ([], none))
    go_enter Tryz.func47, Tryz.ntmps47
    go_wp2_with fail
    refine (Hnum.out).mono ?_; rintro e w1 ⟨rfl, hy1, hK1⟩
    obtain ⟨vy, ys, bady, hRy, _, hly, _, _⟩ := hy1
    have hby : bady = true := by cases bady; cases hly; rfl
    subst hby
    obtain ⟨y0, y1, _, _⟩ := hRy.cells
    have hxb := hK1.heap HblW.out hne2
    have hx1 : w1.cell? ⟨b, 1, none⟩ = some (.bool bad) := by rw [cell_of_row _ _ _ _ _ _ hxb]; rfl
    have hf1' : w1.frozen? ⟨b, 1, none⟩ = false := by unfold World.frozen?; rw [hxb]; rfl
    have Hxb := Lib.hid hxb
    have hbw1 := hbW.trans (hK1.below (B := w.heap.size) (fun k hk => by omega) (by omega))
    have Hrd := Lib.hid (HrW.out.keeps hK1 (fun k hk => Hobl.out k (by rw [← Hob.out]; exact hk)))
    clear hRy hly hxb hblk
    go_wp2
    go_ret
    have hK2 := Keeps.setCell (F := fun k => k = b) w1 ⟨b, 1, none⟩ (.bool true) rfl
    refine ⟨.slice none 0 0, rfl, World.ownsRow_nil _ _ _ _, ⟨_, bs, true, ⟨heap_setCell_same _ _ 1 _ _ _ Hxb.out, Hrd.out.keeps hK2 (fun k hk e => Hne.out (by rw [hk, e])), Hne.out⟩, Hob.out, rfl, Hnv.out, fun k e => ?_⟩, (Keeps.ofBelow hbw1).trans hK2⟩
    have := Hl.out k e; have := hbw1.size; simp; omega
  | some r =>
    have hb : bad = false := hxbad rfl
    subst hb
    have hrl := hr8 r rfl
    clear hxbad hr8
    by_cases hle : n ≤ r.length
    · rw [show (match some r with | none => ([], none) | some r => if n ≤ r.length then (r.take n, some (r.drop n)) else ([], none)) = (r.take n, some (r.drop n)) from if_pos hle]
      have Hle := Lib.hid hle
      clear hle
      go_enter Tryz.func47, Tryz.ntmps47
      go_wp2_with fail
      refine (Hnum.out).mono ?_; rintro e w1 ⟨rfl, hy1, hK1⟩
      obtain ⟨vy, ys, bady, hRy, hoy, hly, hny, _⟩ := hy1
      have hby : bady = false := by cases bady; rfl; cases hly
      subst hby
      have hry : r = ys := Option.some.inj hly
      subst hry
      obtain ⟨y0, y1, _, _⟩ := hRy.cells
      obtain ⟨ay, capy, hvy, hcy1, hcy2⟩ := hRy.rd.form
      have hxb := hK1.heap HblW.out hne2
      have hx0 : w1.cell? ⟨b, 0, none⟩ = some (.slice av bs.length capv) := by rw [cell_of_row _ _ _ _ _ _ hxb]; rfl
      have hx1 : w1.cell? ⟨b, 1, none⟩ = some (.bool false) := by rw [cell_of_row _ _ _ _ _ _ hxb]; rfl
      have hf0' : w1.frozen? ⟨b, 0, none⟩ = false := by unfold World.frozen?; rw [hxb]; rfl
      have hf1' : w1.frozen? ⟨b, 1, none⟩ = false := by unfold World.frozen?; rw [hxb]; rfl
      have Hxb := Lib.hid hxb
      have hbw1 := hbW.trans (hK1.below (B := w.heap.size) (fun k hk => by omega) (by omega))
      have hrdx := HrW.out.keeps hK1 (fun k hk => Hobl.out k (by rw [← Hob.out]; exact hk))
      subst hvy
      have Hny := Lib.hid hny
      have hryd := hRy.rd
      have hbly := hRy.blk
      have hsy := (Array.getElem?_eq_some_iff.1 hbly).1
      have Hbly := Lib.hid hbly
      have hney := hRy.ne
      have Hney := Lib.hid hney
      have Hoy := Lib.hid hoy
      have hle := Hle.out
      have hs1 := run_slice_h (P := Tryz.prog) Tryz.underlying22 u8size ay r.length capy n (by omega)
      have hs2 := run_slice_l (P := Tryz.prog) Tryz.underlying22 u8size ay r.length capy n hle
      have hp1 := hryd.pre n hle
      have hp2 := hryd.part n r.length hle (Nat.le_refl _)
      rw [List.take_of_length_le (Nat.le_refl _)] at hp2
      have ho2 := ownBlock_part ay capy n (r.length - n) (capy - n) r.length capy
      have hnn : NilOk (.slice (if capy = n then ay else ay.map (·.add n)) (r.length - n) (capy - n)) := by
        intro l c e
        cases ay with
        | none =>
          obtain ⟨h1, h2⟩ := hny _ _ rfl
          rw [h1, h2] at e
          simp at e; omega
        | some x => split at e <;> cases e
      generalize (if capy = n then ay else ay.map (·.add n)) = a2 at hs2 hp2 ho2 hnn
      have Hnn := Lib.hid hnn
      clear hnn
      have Hp2 := Lib.hid hp2
      have Hp1 := Lib.hid hp1
      have Ho2 := Lib.hid ho2
      have hleI : ¬ ((r.length : Int) < (n : Int)) := by omega
      clear hRy hxb hblk hp1 hp2 ho2 hbly hney hoy hryd hrdx hly hny
      have htl : (r.take n).length = n := by rw [List.length_take]; omega
      obtain ⟨W1, hW1⟩ : ∃ W1, w1.alloc (.cells #[] 5) = W1 := ⟨_, rfl⟩
      have hbW1 : Below w1.heap.size w1 W1 := by rw [← hW1]; exact (Below.refl _ _).alloc (Nat.le_refl _) _
      have hown0 : W1.ownsRow w1.heap.size 5 1 (.slice (some ⟨w1.heap.size, 0, none⟩) 0 0) 0 [] := by rw [← hW1]; exact World.ownsRow_lit w1 #[] 0 (Nat.le_refl _) (by decide) rfl
      have hyc : W1.cell? ⟨w.heap.size, 0, none⟩ = some (.slice ay r.length capy) := (hbW1.cell (p := ⟨w.heap.size, 0, none⟩) hsy).trans y0
      have hnil : NilOk (.slice ay n capy) := by
        intro l c e
        simp only [Value.slice.injEq] at e
        obtain ⟨rfl, rfl, rfl⟩ := e
        obtain ⟨h1, h2⟩ := Hny.out _ _ rfl
        omega
      have hsrc := rdLB (Hp1.out.below (Nat.le_refl _) hbW1)
      have hone := bb1_one (r.take n)
      have hm1 : 0 + (r.take n).length ≤ maxLen := by show _ ≤ 9223372036854775807; omega
      have hm2 : (0 + (r.take n).length) * 1 ≤ 140737488355328 := by omega
      have hsW1 : w1.heap.size ≤ W1.heap.size := hbW1.size
      have Hone := Lib.hid hone
      have Hnil := Lib.hid hnil
      have hxl := (Array.getElem?_eq_some_iff.1 Hxb.out).1
      have hyl := (Array.getElem?_eq_some_iff.1 Hbly.out).1
      clear hone hnil Hnum Hho
      subst hW1
      go_wp2_with (at_builtin; go_must (refine wpList_append_any bb1_len (by decide) rfl (.tmp 22) (.tmp 26) 22 rfl w1.heap.size 5 i0 (.int .u8 0) 1 Tryz.underlying22 hi hz0 hz1 hz2 rfl _ _ _ rfl hown0 _ (r.take n) rfl hsrc Hnil.out Hone.out hm1 hm2 hsW1 ?_); rintro v2 w2 hown2 hg2 _; have hB2 := hbW1.grown hg2 hsW1 (fun k hk => by cases hk; exact Nat.le_refl _); have c2 := (hB2.cell (p := ⟨w.heap.size, 0, none⟩) hsy).trans y0; have x2 := (hB2.cell (p := ⟨b, 0, none⟩) hxl).trans hx0; have f2 := (hB2.frozen (p := ⟨b, 0, none⟩) hxl).trans hf0')
      go_ret
      have hx2 := (hB2.block _ hxl).trans Hxb.out
      have hK2 := Keeps.setCell (F := fun k => k = b) w2 ⟨b, 0, none⟩ (.slice a2 (r.length - n) (capy - n)) rfl
      have hob2 : (Value.slice a2 (r.length - n) (capy - n)).ownBlock = ob := Ho2.out.trans Hoy.out
      have hnb : ob ≠ some b := by rw [← Hob.out]; exact Hne.out
      have hvl := fun k hk => (own_base hown2 k hk)
      rw [Nat.zero_add, List.nil_append, bb1_flat] at hown2
      have hbw2 := hbw1.trans (hB2.mono hbw1.size)
      refine ⟨v2, rfl, own_keeps (own_mono hown2 hbw1.size) hK2 (fun k hk e => by have := hvl k hk; omega), ⟨_, r.drop n, false, ⟨heap_setCell_same _ _ 0 _ _ _ hx2, (Hp2.out.below (Nat.le_refl _) hB2).keeps hK2 (fun k hk e => hnb (by rw [← hob2, hk, e])), by rw [hob2]; exact hnb⟩, hob2, rfl, ?_, fun k e => ?_⟩, (Keeps.ofBelow hbw2).trans hK2⟩
      · intro l c e
        exact Hnn.out l c e
      · have := Hl.out k e; have := hbw2.size; simp; omega
    · rw [show (match some r with | none => ([], none) | some r => if n ≤ r.length then (r.take n, some (r.drop n)) else ([], none)) = ([], none) from if_neg hle]
      have Hle := Lib.hid hle
      clear hle
      go_enter Tryz.func47, Tryz.ntmps47
      go_wp2_with fail
      refine (Hnum.out).mono ?_; rintro e w1 ⟨rfl, hy1, hK1⟩
      obtain ⟨vy, ys, bady, hRy, hoy, hly, hny, _⟩ := hy1
      have hby : bady = false := by cases bady; rfl; cases hly
      subst hby
      have hry : r = ys := Option.some.inj hly
      subst hry
      obtain ⟨y0, y1, _, _⟩ := hRy.cells
      obtain ⟨ay, capy, hvy, hcy1, hcy2⟩ := hRy.rd.form
      have hxb := hK1.heap HblW.out hne2
      have hx0 : w1.cell? ⟨b, 0, none⟩ = some (.slice av bs.length capv) := by rw [cell_of_row _ _ _ _ _ _ hxb]; rfl
      have hx1 : w1.cell? ⟨b, 1, none⟩ = some (.bool false) := by rw [cell_of_row _ _ _ _ _ _ hxb]; rfl
      have hf0' : w1.frozen? ⟨b, 0, none⟩ = false := by unfold World.frozen?; rw [hxb]; rfl
      have hf1' : w1.frozen? ⟨b, 1, none⟩ = false := by unfold World.frozen?; rw [hxb]; rfl
      have Hxb := Lib.hid hxb
      have hbw1 := hbW.trans (hK1.below (B := w.heap.size) (fun k hk => by omega) (by omega))
      have hrdx := HrW.out.keeps hK1 (fun k hk => Hobl.out k (by rw [← Hob.out]; exact hk))
      subst hvy
      have Hny := Lib.hid hny
      have hryd := hRy.rd
      have hbly := hRy.blk
      have hsy := (Array.getElem?_eq_some_iff.1 hbly).1
      have Hbly := Lib.hid hbly
      have hney := hRy.ne
      have Hney := Lib.hid hney
      have Hoy := Lib.hid hoy
      have hle := Hle.out
      have hleI : (r.length : Int) < (n : Int) := by omega
      have Hrd := Lib.hid hrdx
      clear hRy hxb hblk hbly hney hoy hryd hrdx hly hny
      go_wp2
      go_ret
      have hK2 := Keeps.setCell (F := fun k => k = b) w1 ⟨b, 1, none⟩ (.bool true) rfl
      refine ⟨.slice none 0 0, rfl, World.ownsRow_nil _ _ _ _, ⟨_, bs, true, ⟨heap_setCell_same _ _ 1 _ _ _ Hxb.out, Hrd.out.keeps hK2 (fun k hk e => Hne.out (by rw [hk, e])), Hne.out⟩, Hob.out, rfl, Hnv.out, fun k e => ?_⟩, (Keeps.ofBelow hbw1).trans hK2⟩
      have := Hl.out k e; have := hbw1.size; simp; omega
end Go.Proofs.YtffnbkmigapmjaaGreatDoor

set_option linter.unusedSimpArgs false
set_option linter.unusedVariables false
namespace Go.Proofs.YtffnbkmigapmjaaGreatDoor
open Go.RowKit
theorem heap6 {w : World} {mb : Nat} (h : ∃ c0 c1 c2 c3 c4 c5, w.heap[mb]? = some (.cells #[c0, c1, c2, c3, c4, c5] 29 (0, 0))) (x0 x1 x2 x3 x4 x5 : Value) :
    ((((((w.setCell ⟨mb, 0, none⟩ x0).setCell ⟨mb, 1, none⟩ x1).setCell ⟨mb, 2, none⟩ x2).setCell ⟨mb, 3, none⟩ x3).setCell ⟨mb, 4, none⟩ x4).setCell ⟨mb, 5, none⟩ x5).heap[mb]? = some (.cells #[x0, x1, x2, x3, x4, x5] 29 (0, 0)) := by
  obtain ⟨c0, c1, c2, c3, c4, c5, hc⟩ := h
  exact heap_setCell_same _ _ 5 _ _ _ (heap_setCell_same _ _ 4 _ _ _ (heap_setCell_same _ _ 3 _ _ _ (heap_setCell_same _ _ 2 _ _ _ (heap_setCell_same _ _ 1 _ _ _ (heap_setCell_same _ _ 0 _ _ _ hc)))))
theorem cells6 {w : World} {mb : Nat} {c0 c1 c2 c3 c4 c5 : Value} (hb : w.heap[mb]? = some (.cells #[c0, c1, c2, c3, c4, c5] 29 (0, 0))) :
    (w.cell? ⟨mb, 0, none⟩ = some c0 ∧ w.cell? ⟨mb, 1, none⟩ = some c1 ∧ w.cell? ⟨mb, 2, none⟩ = some c2 ∧ w.cell? ⟨mb, 3, none⟩ = some c3 ∧ w.cell? ⟨mb, 4, none⟩ = some c4 ∧ w.cell? ⟨mb, 5, none⟩ = some c5) ∧
    (w.frozen? ⟨mb, 0, none⟩ = false ∧ w.frozen? ⟨mb, 1, none⟩ = false ∧ w.frozen? ⟨mb, 2, none⟩ = false ∧ w.frozen? ⟨mb, 3, none⟩ = false ∧ w.frozen? ⟨mb, 4, none⟩ = false ∧ w.frozen? ⟨mb, 5, none⟩ = false) := by
  refine ⟨⟨?_, ?_, ?_, ?_, ?_, ?_⟩, ?_, ?_, ?_, ?_, ?_, ?_⟩
  all_goals first | (rw [cell_of_row _ _ _ _ _ _ hb]; rfl) | simp [World.frozen?, hb]
end Go.Proofs.YtffnbkmigapmjaaGreatDoor
