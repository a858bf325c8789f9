/-
  The walks of qfile.Parse and qfile.File.Fates.
  The walk of store.File.
-/
import Derived.Test.YtffnbkmigapmjaaGreatDoorT6
import Derived.Test.YtffnbkmigapmjaaGreatDoorT26
import Derived.Test.YtffnbkmigapmjaaGreatDoorT30
set_option linter.unusedSimpArgs false
set_option linter.unusedVariables false
namespace Go.Proofs.YtffnbkmigapmjaaGreatDoor
open Go.RowKit
/-- A file, as plain data. -/
structure FileD where
  mail : MailD
  marks : List MarkD
  good : Nat
def FileD.zero : FileD := ⟨MailD.zero, [], 0⟩
def fileD (bs : List UInt8) : Option FileD := (decodeMail bs).map fun p => ⟨p.1, decodeM (bs.drop p.2), p.2 + 28 * (decodeM (bs.drop p.2)).length⟩
abbrev fileVal (f : FileD) (vr vb vm : Value) : Value := .agg #[.int .i64 f.mail.id, .int .i64 f.mail.parent, .int .i64 f.mail.born, .string (strL f.mail.frm), vr, vb, vm, .int .i64 (f.good : Int)]
def FileRes (w : World) (r : Option FileD) (e : Ending) (w' : World) : Prop :=
  ∃ vr vb vm, e = .returned (.tuple #[fileVal (r.getD FileD.zero) vr vb vm, .bool r.isSome]) ∧ w'.ownsRow w.heap.size 9 1 vr (r.getD FileD.zero).mail.rcpts.length ((r.getD FileD.zero).mail.rcpts.flatMap s1) ∧ w'.ownsRow w.heap.size 5 1 vb (r.getD FileD.zero).mail.body.length ((r.getD FileD.zero).mail.body.map u8v) ∧ w'.ownsRow w.heap.size 53 3 vm (r.getD FileD.zero).marks.length ((r.getD FileD.zero).marks.flatMap MarkD.cells) ∧ Below w.heap.size w w'
theorem decodeN_len : ∀ (n : Nat) (l : List UInt8), 28 * (decodeN n l).length ≤ l.length
  | 0, l => by rw [decodeN]; simp
  | n + 1, l => by
    rw [decodeN]
    by_cases h : l.length < 28
    · rw [if_pos h]; simp
    · rw [if_neg h]
      cases parseMark (l.take 28) with
      | none => simp
      | some k =>
        have := decodeN_len n (l.drop 28)
        rw [List.length_drop] at this
        simp only [List.length_cons]
        omega
theorem decode_len {bs : List UInt8} {m : MailD} {n : Nat} (h : decodeMail bs = some (m, n)) : n ≤ bs.length ∧ 12 ≤ n := by
  rw [decodeMail] at h
  cases hd : (bytesO (some bs)).2 with
  | none => rw [hd] at h; cases h
  | some rest =>
    rw [hd] at h
    obtain ⟨_, h2⟩ := bytesO_shape bs hd
    simp only at h
    split at h
    · cases h
    · split at h
      · obtain ⟨x, _, hx⟩ := Option.map_eq_some_iff.1 h
        cases hx
        omega
      · cases h
set_option maxHeartbeats 8000000 in
theorem heap8 {w : World} {mb : Nat} (h : ∃ c0 c1 c2 c3 c4 c5 c6 c7, w.heap[mb]? = some (.cells #[c0, c1, c2, c3, c4, c5, c6, c7] 43 (0, 0))) (x0 x1 x2 x3 x4 x5 x6 x7 : Value) :
    ((((((((w.setCell ⟨mb, 0, none⟩ x0).setCell ⟨mb, 1, none⟩ x1).setCell ⟨mb, 2, none⟩ x2).setCell ⟨mb, 3, none⟩ x3).setCell ⟨mb, 4, none⟩ x4).setCell ⟨mb, 5, none⟩ x5).setCell ⟨mb, 6, none⟩ x6).setCell ⟨mb, 7, none⟩ x7).heap[mb]? = some (.cells #[x0, x1, x2, x3, x4, x5, x6, x7] 43 (0, 0)) := by
  obtain ⟨c0, c1, c2, c3, c4, c5, c6, c7, hc⟩ := h
  exact heap_setCell_same _ _ 7 _ _ _ (heap_setCell_same _ _ 6 _ _ _ (heap_setCell_same _ _ 5 _ _ _ (heap_setCell_same _ _ 4 _ _ _ (heap_setCell_same _ _ 3 _ _ _ (heap_setCell_same _ _ 2 _ _ _ (heap_setCell_same _ _ 1 _ _ _ (heap_setCell_same _ _ 0 _ _ _ hc)))))))
set_option maxHeartbeats 8000000 in
theorem cells8 {w : World} {mb : Nat} {c0 c1 c2 c3 c4 c5 c6 c7 : Value} (hb : w.heap[mb]? = some (.cells #[c0, c1, c2, c3, c4, c5, c6, c7] 43 (0, 0))) :
    (w.cell? ⟨mb, 0, none⟩ = some c0 ∧ w.cell? ⟨mb, 1, none⟩ = some c1 ∧ w.cell? ⟨mb, 2, none⟩ = some c2 ∧ w.cell? ⟨mb, 3, none⟩ = some c3 ∧ w.cell? ⟨mb, 4, none⟩ = some c4 ∧ w.cell? ⟨mb, 5, none⟩ = some c5 ∧ w.cell? ⟨mb, 6, none⟩ = some c6 ∧ w.cell? ⟨mb, 7, none⟩ = some c7) ∧
    (w.frozen? ⟨mb, 0, none⟩ = false ∧ w.frozen? ⟨mb, 1, none⟩ = false ∧ w.frozen? ⟨mb, 2, none⟩ = false ∧ w.frozen? ⟨mb, 3, none⟩ = false ∧ w.frozen? ⟨mb, 4, none⟩ = false ∧ w.frozen? ⟨mb, 5, none⟩ = false ∧ w.frozen? ⟨mb, 6, none⟩ = false ∧ w.frozen? ⟨mb, 7, none⟩ = false) := by
  exact ⟨⟨(by rw [cell_of_row _ _ _ _ _ _ hb]; rfl), (by rw [cell_of_row _ _ _ _ _ _ hb]; rfl), (by rw [cell_of_row _ _ _ _ _ _ hb]; rfl), (by rw [cell_of_row _ _ _ _ _ _ hb]; rfl), (by rw [cell_of_row _ _ _ _ _ _ hb]; rfl), (by rw [cell_of_row _ _ _ _ _ _ hb]; rfl), (by rw [cell_of_row _ _ _ _ _ _ hb]; rfl), (by rw [cell_of_row _ _ _ _ _ _ hb]; rfl)⟩, frozen_of_row _ _ _ _ _ hb, frozen_of_row _ _ _ _ _ hb, frozen_of_row _ _ _ _ _ hb, frozen_of_row _ _ _ _ _ hb, frozen_of_row _ _ _ _ _ hb, frozen_of_row _ _ _ _ _ hb, frozen_of_row _ _ _ _ _ hb, frozen_of_row _ _ _ _ _ hb⟩
theorem fileRes_none {w w' : World} {e : Ending} (he : e = .returned (.tuple #[.agg #[.int .i64 0, .int .i64 0, .int .i64 0, .string ⟨#[]⟩, .slice none 0 0, .slice none 0 0, .slice none 0 0, .int .i64 0], .bool false])) (hb : Below w.heap.size w w') : FileRes w none e w' :=
  ⟨.slice none 0 0, .slice none 0 0, .slice none 0 0, he, World.ownsRow_nil _ _ _ _, World.ownsRow_nil _ _ _ _, World.ownsRow_nil _ _ _ _, hb⟩
set_option maxRecDepth 100000 in
set_option maxHeartbeats 8000000 in
theorem qparse_calls (v : Value) (bs : List UInt8) (w : World) (hv : RdB w v bs) (hlen : bs.length ≤ 100000000) (hmax : MaxOk w) :
    Calls Tryz.prog 58 #[v] w (FileRes w (fileD bs)) := by
  obtain ⟨a, cap, rfl, hl, hc⟩ := hv.form
  have hz : ∀ w, (zeroValue 43).run Tryz.prog w = .ok (.agg #[.int .i64 0, .int .i64 0, .int .i64 0, .string ⟨#[]⟩, .slice none 0 0, .slice none 0 0, .slice none 0 0, .int .i64 0]) w := fun _ => by kernel_rfl
  obtain ⟨W, hW⟩ : ∃ W, w.alloc (.cells #[.int .i64 0, .int .i64 0, .int .i64 0, .string ⟨#[]⟩, .slice none 0 0, .slice none 0 0, .slice none 0 0, .int .i64 0] 43) = W := ⟨_, rfl⟩
  have hbW : Below w.heap.size w W := by rw [← hW]; exact (Below.refl _ _).alloc (Nat.le_refl _) _
  have hF : W.heap[w.heap.size]? = some (.cells #[.int .i64 0, .int .i64 0, .int .i64 0, .string ⟨#[]⟩, .slice none 0 0, .slice none 0 0, .slice none 0 0, .int .i64 0] 43 (0, 0)) := by rw [← hW]; exact heap_alloc_new w _
  have hdec := envDecode_calls (.slice a bs.length cap) bs W (hv.below (Nat.le_refl _) hbW) hlen (hmax.below hbW)
  have hvW := hv.below (Nat.le_refl _) hbW
  obtain ⟨r, hr⟩ : ∃ r, decodeMail bs = r := ⟨_, rfl⟩
  rw [hr] at hdec
  have hfd : fileD bs = r.map fun p => ⟨p.1, decodeM (bs.drop p.2), p.2 + 28 * (decodeM (bs.drop p.2)).length⟩ := by rw [fileD, hr]
  rw [hfd]
  have Hr := Lib.hid hr
  have Hdec := Lib.hid hdec
  have HF := Lib.hid hF
  have HbW := Lib.hid hbW
  have HvW := Lib.hid hvW
  clear hr hdec hF hbW hvW hfd hv hmax
  have hst : ∀ (W : World) (j : Nat) (v : Value), Keeps (fun k => k = w.heap.size) W (W.setCell ⟨w.heap.size, j, none⟩ v) := fun W j v => Keeps.setCell _ _ _ rfl
  have Hst := Lib.hid hst
  clear hst
  subst hW
  cases r with
  | none =>
    show Calls Tryz.prog 58 _ w (FileRes w none)
    go_enter Tryz.func58, Tryz.ntmps58
    go_wp2_with fail
    refine (Hdec.out).mono ?_; rintro e w1 ⟨vr, vb, rfl, hoL, hoT, hb1⟩
    have he : mailVal ((none : Option (MailD × Nat)).elim MailD.zero Prod.fst) vr vb = .agg #[.int .i64 0, .int .i64 0, .int .i64 0, .string (strL []), vr, vb] := rfl
    have he2 : ((none : Option (MailD × Nat)).elim 0 Prod.snd : Nat) = 0 := rfl
    have he3 : Option.isSome (none : Option (MailD × Nat)) = false := rfl
    rw [he, he2, he3]
    have hb1' := HbW.out.trans (hb1.mono HbW.out.size)
    have hF1 := (hb1.block _ (Array.getElem?_eq_some_iff.1 HF.out).1).trans HF.out
    obtain ⟨l4, a4, c4, hv4⟩ : ∃ l a c, vr = .slice a l c := ⟨_, own_form0 hoL⟩
    obtain ⟨l4', a4', c4', hv4'⟩ : ∃ l a c, vb = .slice a l c := ⟨_, own_form0 hoT⟩
    subst hv4
    subst hv4'
    generalize strL [] = sf
    have hF2 := (Below.heap_alloc w1 (.cells #[.int .i64 0, .int .i64 0, .int .i64 0, .string sf, .slice a4 l4 c4, .slice a4' l4' c4'] 29) _ (Array.getElem?_eq_some_iff.1 hF1).1).trans hF1
    have hb2' := hb1'.alloc hb1'.size (.cells #[.int .i64 0, .int .i64 0, .int .i64 0, .string sf, .slice a4 l4 c4, .slice a4' l4' c4'] 29)
    obtain ⟨⟨x0, x1, x2, x3, x4, x5, x6, x7⟩, y0, y1, y2, y3, y4, y5, y6, y7⟩ := cells8 hF2
    have HF2 := Lib.hid hF2
    clear hF1 hF2 hoL hoT he he2 he3
    go_wp2
    have hB5 := heap8 ⟨_, _, _, _, _, _, _, _, HF2.out⟩ (.int .i64 0) (.int .i64 0) (.int .i64 0) (.string ⟨#[]⟩) (.slice none 0 0) (.slice none 0 0) (.slice none 0 0) (.int .i64 0)
    refine bodyPost_ret (results_row_tmp rfl _ _ w.heap.size 43 _ (0, 0) _ rfl hB5 Tryz.underlying43 rfl (by kernel_rfl)) rfl (fileRes_none rfl ?_)
    exact (((((((hb2'.setCell (by exact Nat.le_refl _) _).setCell (by exact Nat.le_refl _) _).setCell (by exact Nat.le_refl _) _).setCell (by exact Nat.le_refl _) _).setCell (by exact Nat.le_refl _) _).setCell (by exact Nat.le_refl _) _).setCell (by exact Nat.le_refl _) _).setCell (by exact Nat.le_refl _) _
  | some p =>
    obtain ⟨m, n⟩ := p
    obtain ⟨hn1, hn2⟩ := decode_len Hr.out
    have hmk := fun v W h => markDecode_calls v (bs.drop n) W h (by rw [List.length_drop]; omega)
    obtain ⟨ks, hks⟩ : ∃ ks, decodeM (bs.drop n) = ks := ⟨_, rfl⟩
    have hfin : (some (m, n)).map (fun p : MailD × Nat => (⟨p.1, decodeM (bs.drop p.2), p.2 + 28 * (decodeM (bs.drop p.2)).length⟩ : FileD)) = some ⟨m, ks, n + 28 * ks.length⟩ := by rw [← hks]; rfl
    rw [hfin]
    have hkl : ks.length ≤ bs.length := by
      have := decodeN_len 4096 (bs.drop n)
      rw [List.length_drop] at this
      rw [← hks]; unfold decodeM; omega
    have Hmk := Lib.hid hmk
    have Hks := Lib.hid hks
    have hs := run_slice_l (P := Tryz.prog) Tryz.underlying22 u8size a bs.length cap n hn1
    have hbi : (bs.length : Int) ≤ 100000000 := by omega
    have hni : (n : Int) ≤ (bs.length : Int) := by omega
    clear hmk hks hfin
    go_enter Tryz.func58, Tryz.ntmps58
    go_wp2_with fail
    refine (Hdec.out).mono ?_; rintro e w1 ⟨vr, vb, rfl, hoL, hoT, hb1⟩
    have hoL : w1.ownsRow _ 9 1 vr m.rcpts.length (m.rcpts.flatMap s1) := hoL
    have hoT : w1.ownsRow _ 5 1 vb m.body.length (m.body.map u8v) := hoT
    have he : mailVal ((some (m, n)).elim MailD.zero Prod.fst) vr vb = mailVal m vr vb := rfl
    have hel : (Option.elim (some (m, n)) 0 Prod.snd : Nat) = n := rfl
    have hsm : Option.isSome (some (m, n)) = true := rfl
    rw [he, hel, hsm]
    have hb1' := HbW.out.trans (hb1.mono HbW.out.size)
    have hF1 := (hb1.block _ (Array.getElem?_eq_some_iff.1 HF.out).1).trans HF.out
    obtain ⟨a4, c4, hv4⟩ := own_form0 hoL
    obtain ⟨a4', c4', hv4'⟩ := own_form0 hoT
    subst hv4
    subst hv4'
    obtain ⟨w2, hw2⟩ : ∃ w2, w1.alloc (.cells #[.int .i64 m.id, .int .i64 m.parent, .int .i64 m.born, .string (strL m.frm), .slice a4 m.rcpts.length c4, .slice a4' m.body.length c4'] 29) = w2 := ⟨_, rfl⟩
    have hb2 : Below w1.heap.size w1 w2 := by rw [← hw2]; exact (Below.refl _ _).alloc (Nat.le_refl _) _
    have hX : w2.heap[w1.heap.size]? = some (.cells #[.int .i64 m.id, .int .i64 m.parent, .int .i64 m.born, .string (strL m.frm), .slice a4 m.rcpts.length c4, .slice a4' m.body.length c4'] 29 (0, 0)) := by rw [← hw2]; exact heap_alloc_new w1 _
    have hb2' := hb1'.trans (hb2.mono hb1'.size)
    have hF2 := (hb2.block _ (Array.getElem?_eq_some_iff.1 hF1).1).trans hF1
    have hoL2 := own_below hoL hb2 (Nat.le_refl _)
    have hoT2 := own_below hoT hb2 (Nat.le_refl _)
    have hv2 := (HvW.out.below (Nat.le_refl _) hb1).below (Nat.le_refl _) hb2
    have hp2 := hv2.part n bs.length hn1 (Nat.le_refl _)
    rw [List.take_of_length_le (Nat.le_refl _)] at hp2
    generalize (if cap = n then a else a.map (·.add n)) = a2 at hs hp2
    have hcall := Hmk.out _ w2 hp2
    unfold DecDone at hcall
    rw [Hks.out] at hcall
    have Hcall := Lib.hid hcall
    have HX := Lib.hid hX
    have HF2 := Lib.hid hF2
    have HoL2 := Lib.hid hoL2
    have HoT2 := Lib.hid hoT2
    have Hb2' := Lib.hid hb2'
    have hs1 := (Array.getElem?_eq_some_iff.1 hF1).1
    have hsb := hb2.size
    clear hcall hX hF2 hoL2 hoT2 hb2' hoL hoT he hel hsm hv2 hp2 hF1 hb2 Hmk
    subst hw2
    go_wp2_with fail
    refine (Hcall.out).mono ?_; rintro e w3 ⟨vm, rfl, hoM, hb3⟩
    obtain ⟨am, cm, hvm⟩ := own_form0 hoM
    subst hvm
    have hF3 := (hb3.block _ (Array.getElem?_eq_some_iff.1 HF2.out).1).trans HF2.out
    have hX3 := (hb3.block _ (Array.getElem?_eq_some_iff.1 HX.out).1).trans HX.out
    have hb3' := Hb2'.out.trans (hb3.mono Hb2'.out.size)
    obtain ⟨⟨x0, x1, x2, x3, x4, x5, x6, x7⟩, y0, y1, y2, y3, y4, y5, y6, y7⟩ := cells8 hF3
    obtain ⟨z0, z1, z2, z3, z4, z5⟩ := (cells6 hX3).1
    have HF3 := Lib.hid hF3
    have HoM := Lib.hid hoM
    have hkI : (ks.length : Int) ≤ 100000000 := by omega
    clear hF3 hX3 hoM
    go_wp2
    have hB5 := heap8 ⟨_, _, _, _, _, _, _, _, HF3.out⟩ (.int .i64 m.id) (.int .i64 m.parent) (.int .i64 m.born) (.string (strL m.frm)) (.slice a4 m.rcpts.length c4) (.slice a4' m.body.length c4') (.slice am ks.length cm) (.int .i64 ((n : Int) + 28 * (ks.length : Int)))
    have hst := Hst.out
    have hKf := (((((((hst w3 0 (.int .i64 m.id)).trans (hst _ 1 (.int .i64 m.parent))).trans (hst _ 2 (.int .i64 m.born))).trans (hst _ 3 (.string (strL m.frm)))).trans (hst _ 4 (.slice a4 m.rcpts.length c4))).trans (hst _ 5 (.slice a4' m.body.length c4'))).trans (hst _ 6 (.slice am ks.length cm))).trans (hst _ 7 (.int .i64 ((n : Int) + 28 * (ks.length : Int))))
    have hWs := HbW.out.size
    have hWF := (Array.getElem?_eq_some_iff.1 HF.out).1
    have g1 := own_mono (own_keeps (own_below HoL2.out hb3 (Nat.le_refl _)) hKf (fun k hk e => by have := own_base HoL2.out k hk; omega)) (base' := w.heap.size) (by omega)
    have g2 := own_mono (own_keeps (own_below HoT2.out hb3 (Nat.le_refl _)) hKf (fun k hk e => by have := own_base HoT2.out k hk; omega)) (base' := w.heap.size) (by omega)
    have g3 := own_mono (own_keeps HoM.out hKf (fun k hk e => by have := own_base HoM.out k hk; have := Hb2'.out.size; have := (Array.getElem?_eq_some_iff.1 HF2.out).1; omega)) (base' := w.heap.size) (Hb2'.out.size)
    refine bodyPost_ret (results_row_tmp rfl _ _ w.heap.size 43 _ (0, 0) _ rfl hB5 Tryz.underlying43 rfl (by kernel_rfl)) rfl ⟨_, _, _, ?_, g1, g2, g3, hb3'.trans (hKf.below (fun k hk => by omega) hb3'.size)⟩
    show Ending.returned (.tuple #[.agg #[.int .i64 m.id, .int .i64 m.parent, .int .i64 m.born, .string (strL m.frm), .slice a4 m.rcpts.length c4, .slice a4' m.body.length c4', .slice am ks.length cm, .int .i64 ((n : Int) + 28 * (ks.length : Int))], .bool true]) = .returned (.tuple #[.agg #[.int .i64 m.id, .int .i64 m.parent, .int .i64 m.born, .string (strL m.frm), .slice a4 m.rcpts.length c4, .slice a4' m.body.length c4', .slice am ks.length cm, .int .i64 ((n + 28 * ks.length : Nat) : Int)], .bool true])
    rw [show ((n + 28 * ks.length : Nat) : Int) = (n : Int) + 28 * (ks.length : Int) by omega]
end Go.Proofs.YtffnbkmigapmjaaGreatDoor

set_option linter.unusedSimpArgs false
set_option linter.unusedVariables false
set_option maxRecDepth 100000
namespace Go.Proofs.YtffnbkmigapmjaaGreatDoor
open Go.RowKit Go.Maps
def keepQ : List UInt8 := [105, 97, 100, 104]
def workQ : List UInt8 := [105, 97, 100]
def sfileD (d : StoD) (id : Int) : Option FileD :=
  if keepQ.contains (d.whr.at id) = true then (if (fsReadD d.fs (nameD (d.whr.at id) id)).1 = 0 then fileD (fsReadD d.fs (nameD (d.whr.at id) id)).2 else none) else none
theorem FileRes.mono {w w1 w' : World} {r : Option FileD} {e : Ending} (h : FileRes w1 r e w') (hb : Below w.heap.size w w1) : FileRes w r e w' := by
  obtain ⟨vr, vb, vm, he, h1, h2, h3, h4⟩ := h
  exact ⟨vr, vb, vm, he, own_mono h1 hb.size, own_mono h2 hb.size, own_mono h3 hb.size, hb.trans (h4.mono hb.size)⟩
theorem read_small {w : World} {f : Nat} {d : FsD} {ρ : Rho} (h : FsAt w f d ρ) (n : Nm) : (fsReadD d n).2.length ≤ 16777216 := by
  unfold fsReadD
  split
  · show (bytesOf d n).length ≤ _
    unfold bytesOf
    split
    · split
      · rename_i x _ _ c hc
        exact (h.rest.files x c hc).small
      · exact Nat.zero_le _
    · exact Nat.zero_le _
  · exact Nat.zero_le _
theorem in_keep (q : UInt8) (w : World) : Calls Tryz.prog 44 #[.string ⟨#[105, 97, 100, 104]⟩, .int .u8 q.toNat] w fun e w' => e = .returned (.bool (keepQ.contains q)) ∧ w' = w := in_calls keepQ q w
theorem in_work (q : UInt8) (w : World) : Calls Tryz.prog 44 #[.string ⟨#[105, 97, 100]⟩, .int .u8 q.toNat] w fun e w' => e = .returned (.bool (workQ.contains q)) ∧ w' = w := in_calls workQ q w
theorem below8 {b n : Nat} {w w' : World} (h : Below n w w') (hb : n ≤ b) (x0 x1 x2 x3 x4 x5 x6 x7 : Value) : Below n w ((((((((w'.setCell ⟨b, 0, none⟩ x0).setCell ⟨b, 1, none⟩ x1).setCell ⟨b, 2, none⟩ x2).setCell ⟨b, 3, none⟩ x3).setCell ⟨b, 4, none⟩ x4).setCell ⟨b, 5, none⟩ x5).setCell ⟨b, 6, none⟩ x6).setCell ⟨b, 7, none⟩ x7) :=
  (((((((h.setCell (by exact hb) _).setCell (by exact hb) _).setCell (by exact hb) _).setCell (by exact hb) _).setCell (by exact hb) _).setCell (by exact hb) _).setCell (by exact hb) _).setCell (by exact hb) _
theorem keeps8 (w' : World) (b : Nat) (x0 x1 x2 x3 x4 x5 x6 x7 : Value) : Keeps (fun k => k = b) w' ((((((((w'.setCell ⟨b, 0, none⟩ x0).setCell ⟨b, 1, none⟩ x1).setCell ⟨b, 2, none⟩ x2).setCell ⟨b, 3, none⟩ x3).setCell ⟨b, 4, none⟩ x4).setCell ⟨b, 5, none⟩ x5).setCell ⟨b, 6, none⟩ x6).setCell ⟨b, 7, none⟩ x7) :=
  have st : ∀ (W : World) (j : Nat) (v : Value), Keeps (fun k => k = b) W (W.setCell ⟨b, j, none⟩ v) := fun W j v => Keeps.setCell _ _ _ rfl
  (((((((st _ 0 x0).trans (st _ 1 x1)).trans (st _ 2 x2)).trans (st _ 3 x3)).trans (st _ 4 x4)).trans (st _ 5 x5)).trans (st _ 6 x6)).trans (st _ 7 x7)
set_option maxHeartbeats 8000000 in
theorem sfile_calls (s : Nat) (d : StoD) (ρ : Rho) (w : World) (h : StoAt w s d ρ) (id : Int) (hid : -9223372036854775808 ≤ id ∧ id ≤ 9223372036854775807) (hg : GOk w) (hmax : MaxOk w) :
    Calls Tryz.prog 19 #[.pointer (some ⟨s, 0, none⟩), .int .i64 id] w (FileRes w (sfileD d id)) := by
  have hz : ∀ w, (zeroValue 43).run Tryz.prog w = .ok (.agg #[.int .i64 0, .int .i64 0, .int .i64 0, .string ⟨#[]⟩, .slice none 0 0, .slice none 0 0, .slice none 0 0, .int .i64 0]) w := fun _ => by kernel_rfl
  obtain ⟨W, hW⟩ : ∃ W, w.alloc (.cells #[.int .i64 0, .int .i64 0, .int .i64 0, .string ⟨#[]⟩, .slice none 0 0, .slice none 0 0, .slice none 0 0, .int .i64 0] 43) = W := ⟨_, rfl⟩
  have hbW : Below w.heap.size w W := by rw [← hW]; exact (Below.refl _ _).alloc (Nat.le_refl _) _
  have hF : W.heap[w.heap.size]? = some (.cells #[.int .i64 0, .int .i64 0, .int .i64 0, .string ⟨#[]⟩, .slice none 0 0, .slice none 0 0, .slice none 0 0, .int .i64 0] 43 (0, 0)) := by rw [← hW]; exact heap_alloc_new w _
  have hlt : w.heap.size < W.heap.size := by rw [← hW]; simp
  have hwh := where_calls s d ρ W (h.below hbW) id hid
  obtain ⟨q, hq⟩ : ∃ q, d.whr.at id = q := ⟨_, rfl⟩
  have Hr : Hid (sfileD d id = if keepQ.contains q = true then (if (fsReadD d.fs (nameD q id)).1 = 0 then fileD (fsReadD d.fs (nameD q id)).2 else none) else none) := Lib.hid (by unfold sfileD; rw [hq])
  rw [hq] at hwh
  have hin := in_keep q
  obtain ⟨b, hb⟩ : ∃ b, keepQ.contains q = b := ⟨_, rfl⟩
  rw [hb] at Hr hin
  have hname := fun w1 (hg1 : GOk w1) => name_calls q id w1 (hg1.int _)
  obtain ⟨nm, hnm⟩ : ∃ nm, nameD q id = nm := ⟨_, rfl⟩
  have hnl : nm.length ≤ maxLen := by rw [← hnm]; have := nameD_len q id; unfold maxLen; omega
  rw [hnm] at Hr hname
  obtain ⟨qn, hqn⟩ : ∃ qn : Nat, q.toNat = qn := ⟨_, rfl⟩
  rw [hqn] at hwh hin hname
  have Hwh := Lib.hid hwh
  have Hin := Lib.hid hin
  have Hname := Lib.hid hname
  have Hhy := Lib.hid (And.intro h (And.intro hg (And.intro hmax hnl)))
  have HF := Lib.hid (And.intro hbW (And.intro hF hlt))
  obtain ⟨fb, hfb⟩ : ∃ fb, d.fb = fb := ⟨_, rfl⟩
  have Hfb := Lib.hid hfb
  clear hwh hin hname hq hb hnm hqn hid h hg hmax hnl hbW hF hlt hfb
  subst hW
  cases b with
  | false =>
    have Hr2 : Hid (sfileD d id = none) := Lib.hid (by rw [Hr.out]; rfl)
    clear Hr
    go_enter Tryz.func19, Tryz.ntmps19
    go_wp2_with fail
    refine (Hwh.out).mono ?_; rintro e w1 ⟨rfl, hb1⟩
    have hF1 := (hb1.block _ HF.out.2.2).trans HF.out.2.1
    have Hb1 := Lib.hid (HF.out.1.trans (hb1.mono HF.out.1.size))
    obtain ⟨⟨x0, x1, x2, x3, x4, x5, x6, x7⟩, y0, y1, y2, y3, y4, y5, y6, y7⟩ := cells8 hF1
    have HF1 := Lib.hid hF1
    clear hb1 hF1
    go_wp2_with fail
    refine (Hin.out w1).mono ?_; rintro e w2 ⟨rfl, hw2⟩; have hw2 := hw2.symm; subst hw2
    go_wp2
    have hB5 := heap8 ⟨_, _, _, _, _, _, _, _, HF1.out⟩ (.int .i64 0) (.int .i64 0) (.int .i64 0) (.string ⟨#[]⟩) (.slice none 0 0) (.slice none 0 0) (.slice none 0 0) (.int .i64 0)
    rw [Hr2.out]
    refine bodyPost_ret (results_row_tmp rfl _ _ w.heap.size 43 _ (0, 0) _ rfl hB5 Tryz.underlying43 rfl (by kernel_rfl)) rfl (fileRes_none rfl ?_)
    exact below8 Hb1.out (Nat.le_refl _) _ _ _ _ _ _ _ _
  | true =>
    obtain ⟨rr, hrr⟩ : ∃ rr, fsReadD d.fs nm = rr := ⟨_, rfl⟩
    obtain ⟨re, rb⟩ := rr
    have Hr1 : Hid (sfileD d id = if re = 0 then fileD rb else none) := Lib.hid (by rw [Hr.out, hrr]; rfl)
    have hrd := fun w1 (hb1 : Below w.heap.size w w1) => fsRead_calls d.fb d.fs ρ nm w1 (Hhy.out.1.below hb1).fs Hhy.out.2.2.2
    have hsm := read_small Hhy.out.1.fs nm
    rw [hrr] at hrd hsm
    rw [Hfb.out] at hrd
    have Hsm := Lib.hid (show rb.length ≤ 16777216 from hsm)
    obtain ⟨tn, htn⟩ : ∃ tn, strL nm = tn := ⟨_, rfl⟩
    rw [htn] at hrd Hname
    have Hrd := Lib.hid hrd
    clear hrr hrd hsm htn Hr
    go_enter Tryz.func19, Tryz.ntmps19
    go_wp2_with fail
    refine (Hwh.out).mono ?_; rintro e w1 ⟨rfl, hb1⟩
    have Hb1 := Lib.hid (HF.out.1.trans (hb1.mono HF.out.1.size))
    have Hg1 := Lib.hid hb1
    clear hb1
    go_wp2_with fail
    refine (Hin.out w1).mono ?_; rintro e w2 ⟨rfl, hw2⟩; have hw2 := hw2.symm; subst hw2
    have Hbd := Lib.hid (Hb1.out).drew
    have hS := (cells4 (Hhy.out.1.below Hbd.out).hd).1.1
    rw [Hfb.out] at hS
    have HS : Hid ((fun w' => w'.cell? ⟨s, 0, none⟩ = some (.pointer (some ⟨fb, 0, none⟩))) w1.drew) := Lib.hid hS
    clear hS
    go_upto_region 4 with fail
    refine wp_region_noPanic ?_
    refine wp_region_held_drew (S := (fun w' => w'.cell? ⟨s, 0, none⟩ = some (.pointer (some ⟨fb, 0, none⟩)))) (by kernel_rfl) (by first | with_reducible exact HS.out | with_reducible exact hS3 | with_reducible exact hS4) (fun hHeld => ?_)
    refine wpAnyH_take (i := 0) (oi := _) (v := ?_) (by simp only [List.getElem?_toArray, List.getElem?_cons_succ, List.getElem?_cons_zero]; rfl) (by kernel_rfl) (by kernel_rfl) (by kernel_rfl) (fun _ _ _ h => h) (Or.inl ⟨by rfl, ?_⟩) (by assumption) ?_
    rotate_left
    · intro w hSw; (try dsimp only at hSw); go_simp; (try with_reducible rfl)
    try simp only [Act.put, List.setIfInBounds_toArray, List.set_cons_zero, List.set_cons_succ]
    refine wpAnyH_take (i := 1) (oi := _) (v := ?_) (by simp only [List.getElem?_toArray, List.getElem?_cons_succ, List.getElem?_cons_zero]; rfl) (by kernel_rfl) (by kernel_rfl) (by kernel_rfl) (fun _ _ _ h => h) (Or.inl ⟨by rfl, ?_⟩) (by assumption) ?_
    rotate_left
    · intro w hSw; (try dsimp only at hSw); go_simp; (try with_reducible rfl)
    try simp only [Act.put, List.setIfInBounds_toArray, List.set_cons_zero, List.set_cons_succ]
    refine wpAnyH_take (i := 2) (oi := _) (v := ?_) (by simp only [List.getElem?_toArray, List.getElem?_cons_succ, List.getElem?_cons_zero]; rfl) (by kernel_rfl) (by kernel_rfl) (by kernel_rfl) (fun _ _ _ h => h) (Or.inl ⟨by rfl, ?_⟩) (by assumption) ?_
    rotate_left
    · intro w hSw; (try dsimp only at hSw); go_simp; (try with_reducible rfl)
    try simp only [Act.put, List.setIfInBounds_toArray, List.set_cons_zero, List.set_cons_succ]
    refine wpAnyH_take (i := 3) (oi := _) (v := ?_) (by simp only [List.getElem?_toArray, List.getElem?_cons_succ, List.getElem?_cons_zero]; rfl) (by kernel_rfl) (by kernel_rfl) (by kernel_rfl) (fun _ _ _ h => h) (Or.inl ⟨by rfl, ?_⟩) (by assumption) ?_
    rotate_left
    · intro w hSw; (try dsimp only at hSw); go_simp; (try with_reducible rfl)
    try simp only [Act.put, List.setIfInBounds_toArray, List.set_cons_zero, List.set_cons_succ]
    refine wpAnyH_take (i := 4) (oi := _) (v := ?_) (by simp only [List.getElem?_toArray, List.getElem?_cons_succ, List.getElem?_cons_zero]; rfl) (by kernel_rfl) (by kernel_rfl) (by kernel_rfl) (fun _ _ _ h => h) (Or.inl ⟨by rfl, ?_⟩) (by assumption) ?_
    rotate_left
    · intro w hSw; (try dsimp only at hSw); go_simp; (try with_reducible rfl)
    try simp only [Act.put, List.setIfInBounds_toArray, List.set_cons_zero, List.set_cons_succ]
    refine wpAnyH_take (i := 5) (oi := _) (v := ?_) (by simp only [List.getElem?_toArray, List.getElem?_cons_succ, List.getElem?_cons_zero]; rfl) (by kernel_rfl) (by kernel_rfl) (by kernel_rfl) (fun _ _ _ h => h) (Or.inl ⟨by rfl, ?_⟩) (by assumption) ?_
    rotate_left
    · intro w hSw; (try dsimp only at hSw); go_simp; (try with_reducible rfl)
    try simp only [Act.put, List.setIfInBounds_toArray, List.set_cons_zero, List.set_cons_succ]
    refine wpAnyH_ready (rs := [6]) (by kernel_rfl) (by simp) ?_
    refine AllReadyH.cons (o := _) (by simp only [List.getElem?_toArray, List.getElem?_cons_succ, List.getElem?_cons_zero]; rfl) (fun K hK => ?_) AllReadyH.nil
    go_simp
    go_at_call 12; refine (Hname.out _ (Hhy.out.2.1.below Hbd.out)).mono ?_; rintro e w3 ⟨rfl, hb3⟩; have hb3' := Hbd.out.trans (hb3.mono Hbd.out.size); have hS3 := (cells4 (Hhy.out.1.below hb3').hd).1.1; rw [Hfb.out] at hS3
    refine hK.out _ _ (by (try dsimp only); first | with_reducible exact HS.out | with_reducible exact hS3 | with_reducible exact hS4) (fun hHeld => ?_)
    clear hK K
    try simp only [Act.put, List.setIfInBounds_toArray, List.set_cons_zero, List.set_cons_succ]
    refine wpAnyH_ready (rs := [7]) (by kernel_rfl) (by simp) ?_
    refine AllReadyH.cons (o := _) (by simp only [List.getElem?_toArray, List.getElem?_cons_succ, List.getElem?_cons_zero]; rfl) (fun K hK => ?_) AllReadyH.nil
    go_simp
    go_at_call 57; refine (Hrd.out _ hb3').mono ?_; rintro e w4 ⟨v, rfl, hrow, hb4⟩; have hb4' := hb3'.trans (hb4.mono hb3'.size); have hS4 := (cells4 (Hhy.out.1.below hb4').hd).1.1; rw [Hfb.out] at hS4
    refine hK.out _ _ (by (try dsimp only); first | with_reducible exact HS.out | with_reducible exact hS3 | with_reducible exact hS4) (fun hHeld => ?_)
    clear hK K
    try simp only [Act.put, List.setIfInBounds_toArray, List.set_cons_zero, List.set_cons_succ]
    refine wpAnyH_take (i := 8) (oi := _) (v := ?_) (by simp only [List.getElem?_toArray, List.getElem?_cons_succ, List.getElem?_cons_zero]; rfl) (by kernel_rfl) (by kernel_rfl) (by kernel_rfl) (fun _ _ _ h => h) (Or.inl ⟨by rfl, ?_⟩) (by assumption) ?_
    rotate_left
    · intro w hSw; (try dsimp only at hSw); go_simp; (try with_reducible rfl)
    try simp only [Act.put, List.setIfInBounds_toArray, List.set_cons_zero, List.set_cons_succ]
    refine wpAnyH_take (i := 9) (oi := _) (v := ?_) (by simp only [List.getElem?_toArray, List.getElem?_cons_succ, List.getElem?_cons_zero]; rfl) (by kernel_rfl) (by kernel_rfl) (by kernel_rfl) (fun _ _ _ h => h) (Or.inl ⟨by rfl, ?_⟩) (by assumption) ?_
    rotate_left
    · intro w hSw; (try dsimp only at hSw); go_simp; (try with_reducible rfl)
    try simp only [Act.put, List.setIfInBounds_toArray, List.set_cons_zero, List.set_cons_succ]
    refine wpAnyH_take (i := 10) (oi := _) (v := ?_) (by simp only [List.getElem?_toArray, List.getElem?_cons_succ, List.getElem?_cons_zero]; rfl) (by kernel_rfl) (by kernel_rfl) (by kernel_rfl) (fun _ _ _ h => h) (Or.inl ⟨by rfl, ?_⟩) (by assumption) ?_
    rotate_left
    · intro w hSw; (try dsimp only at hSw); go_simp; (try with_reducible rfl)
    try simp only [Act.put, List.setIfInBounds_toArray, List.set_cons_zero, List.set_cons_succ]
    refine wpAnyH_take (i := 11) (oi := _) (v := ?_) (by simp only [List.getElem?_toArray, List.getElem?_cons_succ, List.getElem?_cons_zero]; rfl) (by kernel_rfl) (by kernel_rfl) (by kernel_rfl) (fun _ _ _ h => h) (Or.inl ⟨by rfl, ?_⟩) (by assumption) ?_
    rotate_left
    · intro w hSw; (try dsimp only at hSw); go_simp; (try with_reducible rfl)
    try simp only [Act.put, List.setIfInBounds_toArray, List.set_cons_zero, List.set_cons_succ]
    refine wpAnyH_take (i := 12) (oi := _) (v := ?_) (by simp only [List.getElem?_toArray, List.getElem?_cons_succ, List.getElem?_cons_zero]; rfl) (by kernel_rfl) (by kernel_rfl) (by kernel_rfl) (fun _ _ _ h => h) (Or.inl ⟨by rfl, ?_⟩) (by assumption) ?_
    rotate_left
    · intro w hSw; (try dsimp only at hSw); go_simp; (try with_reducible rfl)
    try simp only [Act.put, List.setIfInBounds_toArray, List.set_cons_zero, List.set_cons_succ]
    refine wpAnyH_done (by kernel_rfl) ?_ _
    refine NoPanic.normal ?_
    have hF4 := (((Hg1.out.drew).trans ((hb3.mono (Hg1.out).size).trans (hb4.mono (Nat.le_trans (Hg1.out).size hb3.size)))).block _ HF.out.2.2).trans HF.out.2.1
    have Hrb := Lib.hid (rdB_ofOwn hrow)
    obtain ⟨aa, ac, rfl⟩ := own_form0 hrow
    obtain ⟨⟨x0, x1, x2, x3, x4, x5, x6, x7⟩, y0, y1, y2, y3, y4, y5, y6, y7⟩ := cells8 hF4
    have HF4 := Lib.hid hF4
    have Hb4 := Lib.hid hb4'
    clear hb4 hb4' hrow hF4 hb3 hb3' hS3 hS4 hHeld
    by_cases h0 : re = 0
    · subst h0
      have Hr2 : Hid (sfileD d id = fileD rb) := Lib.hid (by rw [Hr1.out, if_pos rfl])
      have hp := qparse_calls _ rb w4 Hrb.out (by have := Hsm.out; omega) (Hhy.out.2.2.1.below Hb4.out)
      have Hp := Lib.hid hp
      clear hp Hr1 x0 x1 x2 x3 x4 x5 x6 x7 y0 y1 y2 y3 y4 y5 y6 y7
      go_wp2_with fail
      refine (Hp.out).mono ?_; rintro e w5 ⟨vr, vb, vm, rfl, h1, h2, h3, hb5⟩
      have hF5 := (hb5.block _ (Array.getElem?_eq_some_iff.1 HF4.out).1).trans HF4.out
      obtain ⟨⟨fm, fk, fg⟩, hfr⟩ : ∃ f : FileD, (fileD rb).getD FileD.zero = f := ⟨_, rfl⟩
      obtain ⟨ok, hok⟩ : ∃ ok, (fileD rb).isSome = ok := ⟨_, rfl⟩
      rw [hfr] at h1 h2 h3
      dsimp only at h1 h2 h3
      obtain ⟨a1, c1, rfl⟩ := own_form0 h1
      obtain ⟨a2, c2, rfl⟩ := own_form0 h2
      obtain ⟨a3, c3, rfl⟩ := own_form0 h3
      rw [hfr, hok]
      have Hfo := Lib.hid (And.intro hfr hok)
      have hB5 := heap8 ⟨_, _, _, _, _, _, _, _, hF5⟩ (.int .i64 fm.id) (.int .i64 fm.parent) (.int .i64 fm.born) (.string (strL fm.frm)) (.slice a1 fm.rcpts.length c1) (.slice a2 fm.body.length c2) (.slice a3 fk.length c3) (.int .i64 (fg : Int))
      have hkW := fun x0 x1 x2 x3 x4 x5 x6 x7 => keeps8 w5 w.heap.size x0 x1 x2 x3 x4 x5 x6 x7
      have hsz := Hb4.out.size
      have hne : ∀ {v : Value} {e : TypeId} {sz n : Nat} {xs : List Value}, w5.ownsRow w4.heap.size e sz v n xs → ∀ k, v.ownBlock = some k → ¬ k = w.heap.size := fun h k e f => by
        have := (h.lt k e).1
        have := (Array.getElem?_eq_some_iff.1 HF4.out).1
        omega
      have n1 := own_mono (own_keeps h1 (hkW (.int .i64 fm.id) (.int .i64 fm.parent) (.int .i64 fm.born) (.string (strL fm.frm)) (.slice a1 fm.rcpts.length c1) (.slice a2 fm.body.length c2) (.slice a3 fk.length c3) (.int .i64 (fg : Int))) (hne h1)) hsz
      have n2 := own_mono (own_keeps h2 (hkW (.int .i64 fm.id) (.int .i64 fm.parent) (.int .i64 fm.born) (.string (strL fm.frm)) (.slice a1 fm.rcpts.length c1) (.slice a2 fm.body.length c2) (.slice a3 fk.length c3) (.int .i64 (fg : Int))) (hne h2)) hsz
      have n3 := own_mono (own_keeps h3 (hkW (.int .i64 fm.id) (.int .i64 fm.parent) (.int .i64 fm.born) (.string (strL fm.frm)) (.slice a1 fm.rcpts.length c1) (.slice a2 fm.body.length c2) (.slice a3 fk.length c3) (.int .i64 (fg : Int))) (hne h3)) hsz
      have hb5' := below8 (Hb4.out.trans (hb5.mono Hb4.out.size)) (Nat.le_refl _) (.int .i64 fm.id) (.int .i64 fm.parent) (.int .i64 fm.born) (.string (strL fm.frm)) (.slice a1 fm.rcpts.length c1) (.slice a2 fm.body.length c2) (.slice a3 fk.length c3) (.int .i64 (fg : Int))
      have HN := Lib.hid (And.intro hB5 (And.intro n1 (And.intro n2 (And.intro n3 hb5'))))
      obtain ⟨⟨x0, x1, x2, x3, x4, x5, x6, x7⟩, y0, y1, y2, y3, y4, y5, y6, y7⟩ := cells8 hF5
      clear hB5 n1 n2 n3 hb5' hkW hne h1 h2 h3 hb5 hF5 hfr hok hsz
      go_wp2
      refine bodyPost_ret (results_row_tmp rfl _ _ w.heap.size 43 _ (0, 0) _ rfl HN.out.1 Tryz.underlying43 rfl (by kernel_rfl)) rfl ?_
      rw [Hr2.out]
      refine ⟨.slice a1 fm.rcpts.length c1, .slice a2 fm.body.length c2, .slice a3 fk.length c3, ?_, ?_, ?_, ?_, HN.out.2.2.2.2⟩
      · rw [Hfo.out.1, Hfo.out.2]; rfl
      · rw [Hfo.out.1]; exact HN.out.2.1
      · rw [Hfo.out.1]; exact HN.out.2.2.1
      · rw [Hfo.out.1]; exact HN.out.2.2.2.1
    · have h0' : (re == 0) = false := by simpa using h0
      have h0'' : (re != 0) = true := by simpa using h0
      have Hr2 : Hid (sfileD d id = none) := Lib.hid (by rw [Hr1.out, if_neg h0])
      clear h0 Hr1
      go_wp2
      have hB5 := heap8 ⟨_, _, _, _, _, _, _, _, HF4.out⟩ (.int .i64 0) (.int .i64 0) (.int .i64 0) (.string ⟨#[]⟩) (.slice none 0 0) (.slice none 0 0) (.slice none 0 0) (.int .i64 0)
      rw [Hr2.out]
      refine bodyPost_ret (results_row_tmp rfl _ _ w.heap.size 43 _ (0, 0) _ rfl hB5 Tryz.underlying43 rfl (by kernel_rfl)) rfl (fileRes_none rfl ?_)
      exact below8 Hb4.out (Nat.le_refl _) _ _ _ _ _ _ _ _
end Go.Proofs.YtffnbkmigapmjaaGreatDoor

