/-
  The walks of qfile.Parse and qfile.File.Fates.
-/
import Derived.Test.YtffnbkmigapmjaaGreatDoorS9
import Derived.Test.YtffnbkmigapmjaaGreatDoorS38
set_option linter.unusedSimpArgs false
set_option linter.unusedVariables false
namespace Go.Proofs.YtffnbkmigapmjaaGreatDoor
open Go.RowKit
/-- What bytes say as a file: a mail, marks, how many bytes count. -/
def parseFile (bs : List UInt8) : Option (MailD × List MarkD × Nat) := (decodeMail bs).map fun p => (p.1, decodeM (bs.drop p.2), p.2 + 28 * (decodeM (bs.drop p.2)).length)
/-- A file, as plain data. -/
structure FileD where
  mail : MailD
  marks : List MarkD
  good : Nat
def FileD.zero : FileD := ⟨MailD.zero, [], 0⟩
def fileD (bs : List UInt8) : Option FileD := (decodeMail bs).map fun p => ⟨p.1, decodeM (bs.drop p.2), p.2 + 28 * (decodeM (bs.drop p.2)).length⟩
abbrev fileVal (f : FileD) (vr vb vm : Value) : Value := .agg #[.int .i64 f.mail.id, .int .i64 f.mail.parent, .int .i64 f.mail.born, .string (strL f.mail.frm), vr, vb, vm, .int .i64 (f.good : Int)]
def FileRes (w : World) (r : Option FileD) (e : Ending) (w' : World) : Prop :=
  ∃ vr vb vm, e = .returned (.tuple #[fileVal (r.getD FileD.zero) vr vb vm, .bool r.isSome]) ∧ w'.ownsRow w.heap.size 9 1 vr (r.getD FileD.zero).mail.rcpts.length ((r.getD FileD.zero).mail.rcpts.flatMap s1) ∧ w'.ownsRow w.heap.size 5 1 vb (r.getD FileD.zero).mail.body.length ((r.getD FileD.zero).mail.body.map u8v) ∧ w'.ownsRow w.heap.size 53 3 vm (r.getD FileD.zero).marks.length ((r.getD FileD.zero).marks.flatMap MarkD.cells) ∧ Below w.heap.size w w'
theorem decodeN_len : ∀ (n : Nat) (l : List UInt8), 28 * (decodeN n l).length ≤ l.length
  | 0, l => by rw [decodeN]; simp
  | n + 1, l => by
    rw [decodeN]
    by_cases h : l.length < 28
    · rw [if_pos h]; simp
    · rw [if_neg h]
      cases parseMark (l.take 28) with
      | none => simp
      | some k =>
        have := decodeN_len n (l.drop 28)
        rw [List.length_drop] at this
        simp only [List.length_cons]
        omega
theorem decode_len {bs : List UInt8} {m : MailD} {n : Nat} (h : decodeMail bs = some (m, n)) : n ≤ bs.length ∧ 12 ≤ n := by
  rw [decodeMail] at h
  cases hd : (bytesO (some bs)).2 with
  | none => rw [hd] at h; cases h
  | some rest =>
    rw [hd] at h
    obtain ⟨_, h2⟩ := bytesO_shape bs hd
    simp only at h
    split at h
    · cases h
    · split at h
      · obtain ⟨x, _, hx⟩ := Option.map_eq_some_iff.1 h
        cases hx
        omega
      · cases h
set_option maxHeartbeats 8000000 in
theorem heap8 {w : World} {mb : Nat} (h : ∃ c0 c1 c2 c3 c4 c5 c6 c7, w.heap[mb]? = some (.cells #[c0, c1, c2, c3, c4, c5, c6, c7] 43 (0, 0))) (x0 x1 x2 x3 x4 x5 x6 x7 : Value) :
    ((((((((w.setCell ⟨mb, 0, none⟩ x0).setCell ⟨mb, 1, none⟩ x1).setCell ⟨mb, 2, none⟩ x2).setCell ⟨mb, 3, none⟩ x3).setCell ⟨mb, 4, none⟩ x4).setCell ⟨mb, 5, none⟩ x5).setCell ⟨mb, 6, none⟩ x6).setCell ⟨mb, 7, none⟩ x7).heap[mb]? = some (.cells #[x0, x1, x2, x3, x4, x5, x6, x7] 43 (0, 0)) := by
  obtain ⟨c0, c1, c2, c3, c4, c5, c6, c7, hc⟩ := h
  exact heap_setCell_same _ _ 7 _ _ _ (heap_setCell_same _ _ 6 _ _ _ (heap_setCell_same _ _ 5 _ _ _ (heap_setCell_same _ _ 4 _ _ _ (heap_setCell_same _ _ 3 _ _ _ (heap_setCell_same _ _ 2 _ _ _ (heap_setCell_same _ _ 1 _ _ _ (heap_setCell_same _ _ 0 _ _ _ hc)))))))
set_option maxHeartbeats 8000000 in
theorem cells8 {w : World} {mb : Nat} {c0 c1 c2 c3 c4 c5 c6 c7 : Value} (hb : w.heap[mb]? = some (.cells #[c0, c1, c2, c3, c4, c5, c6, c7] 43 (0, 0))) :
    (w.cell? ⟨mb, 0, none⟩ = some c0 ∧ w.cell? ⟨mb, 1, none⟩ = some c1 ∧ w.cell? ⟨mb, 2, none⟩ = some c2 ∧ w.cell? ⟨mb, 3, none⟩ = some c3 ∧ w.cell? ⟨mb, 4, none⟩ = some c4 ∧ w.cell? ⟨mb, 5, none⟩ = some c5 ∧ w.cell? ⟨mb, 6, none⟩ = some c6 ∧ w.cell? ⟨mb, 7, none⟩ = some c7) ∧
    (w.frozen? ⟨mb, 0, none⟩ = false ∧ w.frozen? ⟨mb, 1, none⟩ = false ∧ w.frozen? ⟨mb, 2, none⟩ = false ∧ w.frozen? ⟨mb, 3, none⟩ = false ∧ w.frozen? ⟨mb, 4, none⟩ = false ∧ w.frozen? ⟨mb, 5, none⟩ = false ∧ w.frozen? ⟨mb, 6, none⟩ = false ∧ w.frozen? ⟨mb, 7, none⟩ = false) := by
  exact ⟨⟨(by rw [cell_of_row _ _ _ _ _ _ hb]; rfl), (by rw [cell_of_row _ _ _ _ _ _ hb]; rfl), (by rw [cell_of_row _ _ _ _ _ _ hb]; rfl), (by rw [cell_of_row _ _ _ _ _ _ hb]; rfl), (by rw [cell_of_row _ _ _ _ _ _ hb]; rfl), (by rw [cell_of_row _ _ _ _ _ _ hb]; rfl), (by rw [cell_of_row _ _ _ _ _ _ hb]; rfl), (by rw [cell_of_row _ _ _ _ _ _ hb]; rfl)⟩, frozen_of_row _ _ _ _ _ hb, frozen_of_row _ _ _ _ _ hb, frozen_of_row _ _ _ _ _ hb, frozen_of_row _ _ _ _ _ hb, frozen_of_row _ _ _ _ _ hb, frozen_of_row _ _ _ _ _ hb, frozen_of_row _ _ _ _ _ hb, frozen_of_row _ _ _ _ _ hb⟩
theorem fileRes_none {w w' : World} {e : Ending} (he : e = .returned (.tuple #[.agg #[.int .i64 0, .int .i64 0, .int .i64 0, .string ⟨#[]⟩, .slice none 0 0, .slice none 0 0, .slice none 0 0, .int .i64 0], .bool false])) (hb : Below w.heap.size w w') : FileRes w none e w' :=
  ⟨.slice none 0 0, .slice none 0 0, .slice none 0 0, he, World.ownsRow_nil _ _ _ _, World.ownsRow_nil _ _ _ _, World.ownsRow_nil _ _ _ _, hb⟩
set_option maxRecDepth 100000 in
set_option maxHeartbeats 8000000 in
theorem qparse_calls (v : Value) (bs : List UInt8) (w : World) (hv : RdB w v bs) (hlen : bs.length ≤ 100000000) (hmax : MaxOk w) :
    Calls Tryz.prog 58 #[v] w (FileRes w (fileD bs)) := by
  obtain ⟨a, cap, rfl, hl, hc⟩ := hv.form
  have hz : ∀ w, (zeroValue 43).run Tryz.prog w = .ok (.agg #[.int .i64 0, .int .i64 0, .int .i64 0, .string ⟨#[]⟩, .slice none 0 0, .slice none 0 0, .slice none 0 0, .int .i64 0]) w := fun _ => by kernel_rfl
  obtain ⟨W, hW⟩ : ∃ W, w.alloc (.cells #[.int .i64 0, .int .i64 0, .int .i64 0, .string ⟨#[]⟩, .slice none 0 0, .slice none 0 0, .slice none 0 0, .int .i64 0] 43) = W := ⟨_, rfl⟩
  have hbW : Below w.heap.size w W := by rw [← hW]; exact (Below.refl _ _).alloc (Nat.le_refl _) _
  have hF : W.heap[w.heap.size]? = some (.cells #[.int .i64 0, .int .i64 0, .int .i64 0, .string ⟨#[]⟩, .slice none 0 0, .slice none 0 0, .slice none 0 0, .int .i64 0] 43 (0, 0)) := by rw [← hW]; exact heap_alloc_new w _
  have hdec := envDecode_calls (.slice a bs.length cap) bs W (hv.below (Nat.le_refl _) hbW) hlen (hmax.below hbW)
  have hvW := hv.below (Nat.le_refl _) hbW
  obtain ⟨r, hr⟩ : ∃ r, decodeMail bs = r := ⟨_, rfl⟩
  rw [hr] at hdec
  have hfd : fileD bs = r.map fun p => ⟨p.1, decodeM (bs.drop p.2), p.2 + 28 * (decodeM (bs.drop p.2)).length⟩ := by rw [fileD, hr]
  rw [hfd]
  have Hr := Lib.hid hr
  have Hdec := Lib.hid hdec
  have HF := Lib.hid hF
  have HbW := Lib.hid hbW
  have HvW := Lib.hid hvW
  clear hr hdec hF hbW hvW hfd hv hmax
  have hst : ∀ (W : World) (j : Nat) (v : Value), Keeps (fun k => k = w.heap.size) W (W.setCell ⟨w.heap.size, j, none⟩ v) := fun W j v => Keeps.setCell _ _ _ rfl
  have Hst := Lib.hid hst
  clear hst
  subst hW
  cases r with
  | none =>
    show Calls Tryz.prog 58 _ w (FileRes w none)
    go_enter Tryz.func58, Tryz.ntmps58
    go_wp2_with fail
    refine (Hdec.out).mono ?_; rintro e w1 ⟨vr, vb, rfl, hoL, hoT, hb1⟩
    have he : mailVal ((none : Option (MailD × Nat)).elim MailD.zero Prod.fst) vr vb = .agg #[.int .i64 0, .int .i64 0, .int .i64 0, .string (strL []), vr, vb] := rfl
    have he2 : ((none : Option (MailD × Nat)).elim 0 Prod.snd : Nat) = 0 := rfl
    have he3 : Option.isSome (none : Option (MailD × Nat)) = false := rfl
    rw [he, he2, he3]
    have hb1' := HbW.out.trans (hb1.mono HbW.out.size)
    have hF1 := (hb1.block _ (Array.getElem?_eq_some_iff.1 HF.out).1).trans HF.out
    obtain ⟨l4, a4, c4, hv4⟩ : ∃ l a c, vr = .slice a l c := ⟨_, own_form0 hoL⟩
    obtain ⟨l4', a4', c4', hv4'⟩ : ∃ l a c, vb = .slice a l c := ⟨_, own_form0 hoT⟩
    subst hv4
    subst hv4'
    generalize strL [] = sf
    have hF2 := (Below.heap_alloc w1 (.cells #[.int .i64 0, .int .i64 0, .int .i64 0, .string sf, .slice a4 l4 c4, .slice a4' l4' c4'] 29) _ (Array.getElem?_eq_some_iff.1 hF1).1).trans hF1
    have hb2' := hb1'.alloc hb1'.size (.cells #[.int .i64 0, .int .i64 0, .int .i64 0, .string sf, .slice a4 l4 c4, .slice a4' l4' c4'] 29)
    obtain ⟨⟨x0, x1, x2, x3, x4, x5, x6, x7⟩, y0, y1, y2, y3, y4, y5, y6, y7⟩ := cells8 hF2
    have HF2 := Lib.hid hF2
    clear hF1 hF2 hoL hoT he he2 he3
    go_wp2
    have hB5 := heap8 ⟨_, _, _, _, _, _, _, _, HF2.out⟩ (.int .i64 0) (.int .i64 0) (.int .i64 0) (.string ⟨#[]⟩) (.slice none 0 0) (.slice none 0 0) (.slice none 0 0) (.int .i64 0)
    refine bodyPost_ret (results_row_tmp rfl _ _ w.heap.size 43 _ (0, 0) _ rfl hB5 Tryz.underlying43 rfl (by kernel_rfl)) rfl (fileRes_none rfl ?_)
    exact (((((((hb2'.setCell (by exact Nat.le_refl _) _).setCell (by exact Nat.le_refl _) _).setCell (by exact Nat.le_refl _) _).setCell (by exact Nat.le_refl _) _).setCell (by exact Nat.le_refl _) _).setCell (by exact Nat.le_refl _) _).setCell (by exact Nat.le_refl _) _).setCell (by exact Nat.le_refl _) _
  | some p =>
    obtain ⟨m, n⟩ := p
    obtain ⟨hn1, hn2⟩ := decode_len Hr.out
    have hmk := fun v W h => markDecode_calls v (bs.drop n) W h (by rw [List.length_drop]; omega)
    obtain ⟨ks, hks⟩ : ∃ ks, decodeM (bs.drop n) = ks := ⟨_, rfl⟩
    have hfin : (some (m, n)).map (fun p : MailD × Nat => (⟨p.1, decodeM (bs.drop p.2), p.2 + 28 * (decodeM (bs.drop p.2)).length⟩ : FileD)) = some ⟨m, ks, n + 28 * ks.length⟩ := by rw [← hks]; rfl
    rw [hfin]
    have hkl : ks.length ≤ bs.length := by
      have := decodeN_len 4096 (bs.drop n)
      rw [List.length_drop] at this
      rw [← hks]; unfold decodeM; omega
    have Hmk := Lib.hid hmk
    have Hks := Lib.hid hks
    have hs := run_slice_l (P := Tryz.prog) Tryz.underlying22 u8size a bs.length cap n hn1
    have hbi : (bs.length : Int) ≤ 100000000 := by omega
    have hni : (n : Int) ≤ (bs.length : Int) := by omega
    clear hmk hks hfin
    go_enter Tryz.func58, Tryz.ntmps58
    go_wp2_with fail
    refine (Hdec.out).mono ?_; rintro e w1 ⟨vr, vb, rfl, hoL, hoT, hb1⟩
    have hoL : w1.ownsRow _ 9 1 vr m.rcpts.length (m.rcpts.flatMap s1) := hoL
    have hoT : w1.ownsRow _ 5 1 vb m.body.length (m.body.map u8v) := hoT
    have he : mailVal ((some (m, n)).elim MailD.zero Prod.fst) vr vb = mailVal m vr vb := rfl
    have hel : (Option.elim (some (m, n)) 0 Prod.snd : Nat) = n := rfl
    have hsm : Option.isSome (some (m, n)) = true := rfl
    rw [he, hel, hsm]
    have hb1' := HbW.out.trans (hb1.mono HbW.out.size)
    have hF1 := (hb1.block _ (Array.getElem?_eq_some_iff.1 HF.out).1).trans HF.out
    obtain ⟨a4, c4, hv4⟩ := own_form0 hoL
    obtain ⟨a4', c4', hv4'⟩ := own_form0 hoT
    subst hv4
    subst hv4'
    obtain ⟨w2, hw2⟩ : ∃ w2, w1.alloc (.cells #[.int .i64 m.id, .int .i64 m.parent, .int .i64 m.born, .string (strL m.frm), .slice a4 m.rcpts.length c4, .slice a4' m.body.length c4'] 29) = w2 := ⟨_, rfl⟩
    have hb2 : Below w1.heap.size w1 w2 := by rw [← hw2]; exact (Below.refl _ _).alloc (Nat.le_refl _) _
    have hX : w2.heap[w1.heap.size]? = some (.cells #[.int .i64 m.id, .int .i64 m.parent, .int .i64 m.born, .string (strL m.frm), .slice a4 m.rcpts.length c4, .slice a4' m.body.length c4'] 29 (0, 0)) := by rw [← hw2]; exact heap_alloc_new w1 _
    have hb2' := hb1'.trans (hb2.mono hb1'.size)
    have hF2 := (hb2.block _ (Array.getElem?_eq_some_iff.1 hF1).1).trans hF1
    have hoL2 := own_below hoL hb2 (Nat.le_refl _)
    have hoT2 := own_below hoT hb2 (Nat.le_refl _)
    have hv2 := (HvW.out.below (Nat.le_refl _) hb1).below (Nat.le_refl _) hb2
    have hp2 := hv2.part n bs.length hn1 (Nat.le_refl _)
    rw [List.take_of_length_le (Nat.le_refl _)] at hp2
    generalize (if cap = n then a else a.map (·.add n)) = a2 at hs hp2
    have hcall := Hmk.out _ w2 hp2
    unfold DecDone at hcall
    rw [Hks.out] at hcall
    have Hcall := Lib.hid hcall
    have HX := Lib.hid hX
    have HF2 := Lib.hid hF2
    have HoL2 := Lib.hid hoL2
    have HoT2 := Lib.hid hoT2
    have Hb2' := Lib.hid hb2'
    have hs1 := (Array.getElem?_eq_some_iff.1 hF1).1
    have hsb := hb2.size
    clear hcall hX hF2 hoL2 hoT2 hb2' hoL hoT he hel hsm hv2 hp2 hF1 hb2 Hmk
    subst hw2
    go_wp2_with fail
    refine (Hcall.out).mono ?_; rintro e w3 ⟨vm, rfl, hoM, hb3⟩
    obtain ⟨am, cm, hvm⟩ := own_form0 hoM
    subst hvm
    have hF3 := (hb3.block _ (Array.getElem?_eq_some_iff.1 HF2.out).1).trans HF2.out
    have hX3 := (hb3.block _ (Array.getElem?_eq_some_iff.1 HX.out).1).trans HX.out
    have hb3' := Hb2'.out.trans (hb3.mono Hb2'.out.size)
    obtain ⟨⟨x0, x1, x2, x3, x4, x5, x6, x7⟩, y0, y1, y2, y3, y4, y5, y6, y7⟩ := cells8 hF3
    obtain ⟨z0, z1, z2, z3, z4, z5⟩ := (cells6 hX3).1
    have HF3 := Lib.hid hF3
    have HoM := Lib.hid hoM
    have hkI : (ks.length : Int) ≤ 100000000 := by omega
    clear hF3 hX3 hoM
    go_wp2
    have hB5 := heap8 ⟨_, _, _, _, _, _, _, _, HF3.out⟩ (.int .i64 m.id) (.int .i64 m.parent) (.int .i64 m.born) (.string (strL m.frm)) (.slice a4 m.rcpts.length c4) (.slice a4' m.body.length c4') (.slice am ks.length cm) (.int .i64 ((n : Int) + 28 * (ks.length : Int)))
    have hst := Hst.out
    have hKf := (((((((hst w3 0 (.int .i64 m.id)).trans (hst _ 1 (.int .i64 m.parent))).trans (hst _ 2 (.int .i64 m.born))).trans (hst _ 3 (.string (strL m.frm)))).trans (hst _ 4 (.slice a4 m.rcpts.length c4))).trans (hst _ 5 (.slice a4' m.body.length c4'))).trans (hst _ 6 (.slice am ks.length cm))).trans (hst _ 7 (.int .i64 ((n : Int) + 28 * (ks.length : Int))))
    have hWs := HbW.out.size
    have hWF := (Array.getElem?_eq_some_iff.1 HF.out).1
    have g1 := own_mono (own_keeps (own_below HoL2.out hb3 (Nat.le_refl _)) hKf (fun k hk e => by have := own_base HoL2.out k hk; omega)) (base' := w.heap.size) (by omega)
    have g2 := own_mono (own_keeps (own_below HoT2.out hb3 (Nat.le_refl _)) hKf (fun k hk e => by have := own_base HoT2.out k hk; omega)) (base' := w.heap.size) (by omega)
    have g3 := own_mono (own_keeps HoM.out hKf (fun k hk e => by have := own_base HoM.out k hk; have := Hb2'.out.size; have := (Array.getElem?_eq_some_iff.1 HF2.out).1; omega)) (base' := w.heap.size) (Hb2'.out.size)
    refine bodyPost_ret (results_row_tmp rfl _ _ w.heap.size 43 _ (0, 0) _ rfl hB5 Tryz.underlying43 rfl (by kernel_rfl)) rfl ⟨_, _, _, ?_, g1, g2, g3, hb3'.trans (hKf.below (fun k hk => by omega) hb3'.size)⟩
    show Ending.returned (.tuple #[.agg #[.int .i64 m.id, .int .i64 m.parent, .int .i64 m.born, .string (strL m.frm), .slice a4 m.rcpts.length c4, .slice a4' m.body.length c4', .slice am ks.length cm, .int .i64 ((n : Int) + 28 * (ks.length : Int))], .bool true]) = .returned (.tuple #[.agg #[.int .i64 m.id, .int .i64 m.parent, .int .i64 m.born, .string (strL m.frm), .slice a4 m.rcpts.length c4, .slice a4' m.body.length c4', .slice am ks.length cm, .int .i64 ((n + 28 * ks.length : Nat) : Int)], .bool true])
    rw [show ((n + 28 * ks.length : Nat) : Int) = (n : Int) + 28 * (ks.length : Int) by omega]
end Go.Proofs.YtffnbkmigapmjaaGreatDoor
