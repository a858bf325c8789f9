/- Printed out of the texts of wip/tpl. -/
import Derived.Test.YtffnbkmigapmjaaGreatDoorT6
import Derived.Test.YtffnbkmigapmjaaGreatDoorT21
set_option linter.unusedSimpArgs false
set_option linter.unusedVariables false
namespace Go.Proofs.YtffnbkmigapmjaaGreatDoor
open Go.RowKit
theorem results_row_tmp2 {P : Program} {fn : Func} {p u v : Tmp} {ty : TypeId} (h : fn.results = #[.cell p ty, .tmp u, .tmp v]) (tmps : Array Value) (w : World) (g : Nat) (t : TypeId) (cs : Array Value) (fr : Nat × Nat) (d : TypeDesc)
 (hp : tmps.getD p undef = .pointer (some ⟨g, 0, none⟩)) (hg : w.heap[g]? = some (.cells cs t fr)) (hu : P.underlying ty = some d) (hd : (match d with | .struct _ | .array _ _ => true | _ => false) = true) (hi : (P.info? ty).map (·.size) = some cs.size) :
 (results fn tmps).run P w = .ok (.tuple #[.agg cs, tmps.getD u undef, tmps.getD v undef]) w := by
 have hp' : tmps[p]?.getD undef = .pointer (some ⟨g, 0, none⟩) := by simpa using hp
 simp [results, h, hp', asAddr, run_loadVar_row w g t ty cs fr d hg hu hd hi]
theorem keepBel {W a b : World} (h : Below W.heap.size W a) (hb : Below a.heap.size a b) : Below W.heap.size W b := h.trans (hb.mono h.size)
def DecRes (w : World) (r : Option (MailD × Nat)) (e : Ending) (w' : World) : Prop :=
 ∃ vr vb, e = .returned (.tuple #[mailVal (r.elim MailD.zero Prod.fst) vr vb, .int .i64 ((r.elim 0 Prod.snd : Nat) : Int), .bool r.isSome]) ∧ w'.ownsRow w.heap.size 9 1 vr (r.elim MailD.zero Prod.fst).rcpts.length ((r.elim MailD.zero Prod.fst).rcpts.flatMap s1) ∧ w'.ownsRow w.heap.size 5 1 vb (r.elim MailD.zero Prod.fst).body.length ((r.elim MailD.zero Prod.fst).body.map u8v) ∧ Below w.heap.size w w'
theorem decRes_none {w w' : World} {e : Ending} (he : e = .returned (.tuple #[.agg #[.int .i64 0, .int .i64 0, .int .i64 0, .string ⟨#[]⟩, .slice none 0 0, .slice none 0 0], .int .i64 0, .bool false])) (hb : Below w.heap.size w w') : DecRes w none e w' :=
 ⟨.slice none 0 0, .slice none 0 0, he, World.ownsRow_nil _ _ _ _, World.ownsRow_nil _ _ _ _, hb⟩
theorem bytesO_shape (bs : List UInt8) {r : List UInt8} (h : (bytesO (some bs)).2 = some r) : r = bs.drop (8 + (bytesO (some bs)).1.length) ∧ 8 + (bytesO (some bs)).1.length + r.length = bs.length := by
 rw [bytesO, numO] at h ⊢
 by_cases h1 : bs.length < 8
 ·rw [if_pos h1] at h; cases h
 ·rw [if_neg h1] at h ⊢
  by_cases h2 : 4611686018427387904 < beNat (bs.take 8)
  ·rw [if_pos h2] at h; cases h
  ·rw [if_neg h2] at h ⊢
   simp only at h ⊢
   by_cases h3 : beNat (bs.take 8) ≤ (bs.drop 8).length
   ·rw [if_pos h3] at h ⊢
    simp only at h ⊢
    cases h
    rw [List.length_drop] at h3
    have e : ((bs.drop 8).take (beNat (bs.take 8))).length = beNat (bs.take 8) := by rw [List.length_take, List.length_drop]; omega
    rw [e, List.drop_drop, List.length_drop]
    exact ⟨rfl, by omega⟩
   ·rw [if_neg h3] at h; cases h
set_option maxRecDepth 100000 in
set_option maxHeartbeats 16000000 in
theorem envDecode_calls (v : Value) (bs : List UInt8) (w : World) (hv : RdB w v bs) (hlen : bs.length ≤ 100000000) (hmax : MaxOk w) :
 Calls Tryz.prog 104 #[v] w (DecRes w (decodeMail bs)) := by
 obtain ⟨a, cap, rfl, hl, hc⟩ := hv.form
 have hz : ∀ w, (zeroValue 29).run Tryz.prog w = .ok (.agg #[.int .i64 0, .int .i64 0, .int .i64 0, .string ⟨#[]⟩, .slice none 0 0, .slice none 0 0]) w := fun _ => by kernel_rfl
 have hcall := wRead_calls _ bs (w.alloc (.cells #[.int .i64 0, .int .i64 0, .int .i64 0, .string ⟨#[]⟩, .slice none 0 0, .slice none 0 0] 29)) (hv.below (Nat.le_refl _) ((Below.refl _ _).alloc (Nat.le_refl _) _)) (by omega)
 obtain ⟨r, hr⟩ : ∃ r, decodeMail bs = r := ⟨_, rfl⟩
 rw [hr]
 rw [decodeMail] at hr
 have hsh := fun q (h : (bytesO (some bs)).2 = some q) => bytesO_shape bs h
 have hle := (bytesO_left (o := some bs) (L := 100000000) (fun q e => by cases e; exact hlen)).1
 have Hr := Lib.hid hr
 have Hsh := Lib.hid hsh
 have Hle := Lib.hid hle
 clear hr hsh hle
 have Hcall := Lib.hid hcall
 have Hmax := Lib.hid hmax
 have Hv := Lib.hid hv
 clear hcall hmax hv
 go_enter Tryz.func104, Tryz.ntmps104
 go_wp2_with fail
 refine (Hcall.out).mono ?_; rintro e w1 ⟨v0, rb, rfl, hR, hb1, hrb, hv0⟩
 have hbel1 : Below w.heap.size w w1 := ((Below.refl _ _).alloc (Nat.le_refl _) _).trans (hb1.mono (by simp))
 simp only [World.size_alloc] at hrb hv0
 have hM1 : w1.heap[w.heap.size]? = some (.cells #[.int .i64 0, .int .i64 0, .int .i64 0, .string ⟨#[]⟩, .slice none 0 0, .slice none 0 0] 29 (0, 0)) := (hb1.block _ (by simp)).trans (heap_alloc_new w _)
 have hst0 : RdSt w1 rb v0.ownBlock (some bs) := RdSt.start hR (fun k hk => (hv0 k hk).2)
 have hcall2 := rBytesS hst0
 have hoM : v0.ownBlock ≠ some w.heap.size := fun e => by have := (hv0 _ e).1; omega
 generalize v0.ownBlock = ob at hst0 hv0 hcall2 hoM
 generalize bytesO (some bs) = P at Hr Hsh hcall2 Hle
 obtain ⟨I, o⟩ := P
 have Hcall2 := Lib.hid hcall2
 have HM1 := Lib.hid hM1
 clear hcall2 hM1 hst0 hR
 go_wp2_with fail
 refine (Hcall2.out).mono ?_; rintro e w2 ⟨vi, rfl, hrI, hoI, -, hK2⟩
 have hle := Hle.out
 simp only at hrI hle ⊢
 have hM2 := hK2.heap HM1.out (by omega)
 have hbw2 := hbel1.trans (hK2.below (B := w.heap.size) (fun i hi => by omega) hbel1.size)
 obtain ⟨ai, ci, rfl, hli, hci⟩ := hrI.form
 obtain ⟨⟨m0, m1, m2, m3, m4, m5⟩, n0, n1, n2, n3, n4, n5⟩ := cells6 hM2
 have HrI := Lib.hid hrI
 have HM2 := Lib.hid hM2
 have hi1 : (I.length : Int) ≤ 100000000 := by omega
 have hbi : (bs.length : Int) ≤ 100000000 := by omega
 clear hrI hM2 Hcall Hcall2
 cases o with
 | none =>
  have hrn : r = none := Hr.out.symm
  subst hrn
  have hsm : Option.isSome (none : Option (List UInt8)) = false := rfl
  rw [hsm]
  go_wp2_with fail
  go_quiet (fail)
  rename_i nq
  obtain ⟨⟨x0, x1, x2, x3, x4, x5⟩, y0, y1, y2, y3, y4, y5⟩ := cells6 (show (w2.drewN nq).heap[w.heap.size]? = _ from HM2.out)
  go_wp2
  have hB5 := heap6 ⟨_, _, _, _, _, _, (show (w2.drewN nq).heap[w.heap.size]? = _ from HM2.out)⟩ (.int .i64 0) (.int .i64 0) (.int .i64 0) (.string ⟨#[]⟩) (.slice none 0 0) (.slice none 0 0)
  refine bodyPost_ret (results_row_tmp2 rfl _ _ w.heap.size 29 _ (0, 0) _ rfl hB5 Tryz.underlying29 rfl (by kernel_rfl)) rfl (decRes_none rfl ?_)
  exact ((((((below_drewN hbw2 nq).setCell (by exact Nat.le_refl _) _).setCell (by exact Nat.le_refl _) _).setCell (by exact Nat.le_refl _) _).setCell (by exact Nat.le_refl _) _).setCell (by exact Nat.le_refl _) _).setCell (by exact Nat.le_refl _) _
 | some rest =>
  obtain ⟨hrest, hsum⟩ := Hsh.out rest rfl
  have hsm : Option.isSome (some rest) = true := rfl
  rw [hsm]
  have hr0 := Hr.out
  simp only at hr0
  have Hrest := Lib.hid hrest
  clear Hr Hsh hrest hsm
  have hw8 : IntKind.i64.wrap (8 + (I.length : Int)) = 8 + (I.length : Int) := IntWalk.i64_in _ (by omega)
  have hw12 : IntKind.i64.wrap (8 + (I.length : Int) + 4) = 8 + (I.length : Int) + 4 := IntWalk.i64_in _ (by omega)
  by_cases h4 : rest.length < 4
  ·rw [if_pos h4] at hr0
   subst hr0
   have hlt : decide ((bs.length : Int) < 8 + (I.length : Int) + 4) = true := by simp; omega
   go_wp2_with fail
   go_quiet (fail)
   rename_i nq
   obtain ⟨⟨x0, x1, x2, x3, x4, x5⟩, y0, y1, y2, y3, y4, y5⟩ := cells6 (show (w2.drewN nq).heap[w.heap.size]? = _ from HM2.out)
   go_wp2
   have hB5 := heap6 ⟨_, _, _, _, _, _, (show (w2.drewN nq).heap[w.heap.size]? = _ from HM2.out)⟩ (.int .i64 0) (.int .i64 0) (.int .i64 0) (.string ⟨#[]⟩) (.slice none 0 0) (.slice none 0 0)
   refine bodyPost_ret (results_row_tmp2 rfl _ _ w.heap.size 29 _ (0, 0) _ rfl hB5 Tryz.underlying29 rfl (by kernel_rfl)) rfl (decRes_none rfl ?_)
   exact ((((((below_drewN hbw2 nq).setCell (by exact Nat.le_refl _) _).setCell (by exact Nat.le_refl _) _).setCell (by exact Nat.le_refl _) _).setCell (by exact Nat.le_refl _) _).setCell (by exact Nat.le_refl _) _).setCell (by exact Nat.le_refl _) _
  ·rw [if_neg h4] at hr0
   have hge : decide ((bs.length : Int) < 8 + (I.length : Int) + 4) = false := by simp; omega
   obtain ⟨E, hE⟩ : ∃ E, 8 + I.length = E := ⟨_, rfl⟩
   have hsl : ∀ w, (Instr.sliceAt 22 (.slice a bs.length cap) (some (.int .i64 (8 + (I.length : Int)))) (some (.int .i64 (8 + (I.length : Int) + 4))) none).run Tryz.prog w = .ok (.slice (if cap = E then a else a.map (·.add E)) 4 (cap - E)) w := by
    have h := run_slice_lh (P := Tryz.prog) Tryz.underlying22 u8size a bs.length cap E (E + 4) (by omega) (by omega)
    rw [show E + 4 - E = 4 by omega, ← hE] at h
    rw [← hE]
    simpa using h
   have hp := Hv.out.part E (E + 4) (by omega) (by omega)
   rw [show E + 4 - E = 4 by omega] at hp
   have hx : (bs.take (E + 4)).drop E = rest.take 4 := by rw [List.drop_take, show E + 4 - E = 4 by omega, Hrest.out, hE]
   rw [hx] at hp
   generalize (if cap = E then a else a.map (·.add E)) = a2 at hsl hp
   generalize cap - E = c2 at hsl hp
   obtain ⟨sb, hsb⟩ : ∃ sb, be4 (PbCrc.sum I) = sb := ⟨_, rfl⟩
   have hsm := fun W h => envSum_calls (.slice ai I.length ci) I W h
   rw [hsb] at hsm hr0
   have hp2 := (hp.below (Nat.le_refl _) hbw2)
   have hr4 : Hid (∀ W, Below w2.heap.size w2 W → RdB W (.slice a2 4 c2) (rest.take 4) ∧ RdB W (.slice ai I.length ci) I) := fun W h => ⟨hp2.below (Nat.le_refl _) h, HrI.out.below (Nat.le_refl _) h⟩
   generalize rest.take 4 = q at hr0 hr4
   obtain ⟨eq, heq⟩ : ∃ eq, decide (q = sb) = eq := ⟨_, rfl⟩
   have hec := fun v1 v2 W h1 h2 => equal_calls v1 v2 q sb W h1 h2
   rw [heq] at hec
   have Hec := Lib.hid hec
   have Hsm := Lib.hid hsm
   have Heq := Lib.hid heq
   have Hr0 := Lib.hid hr0
   have H4 := Lib.hid h4
   clear hec hsm heq hr0 hp hp2 hx hsb h4 hE m0 m1 m2 m3 m4 m5 n0 n1 n2 n3 n4 n5
   go_wp2_with fail
   go_region_held3 (fun w' => Below w2.heap.size w2 w') (first | exact (Below.refl _ _).drew | assumption | exact keepBel (by assumption) (by assumption))
    (first
     | (go_at_call 144; refine (Hsm.out _ (hr4.out _ (by assumption)).2).mono ?_; rintro e w4 ⟨vs, rfl, hown4, hb4⟩; have hS4 := keepBel (W := w2) (by assumption) hb4)
     | (go_at_call 143; refine (Hec.out _ _ _ (hr4.out _ hS4).1 (rdB_ofOwn hown4)).mono ?_; rintro e w5 ⟨rfl, hb5⟩; have hfin5 := keepBel hS4 hb5))
   have hbw5 := hbw2.trans (hfin5.mono hbw2.size)
   have hM5 := (hfin5.block _ (Array.getElem?_eq_some_iff.1 HM2.out).1).trans HM2.out
   have hrI5 := (hr4.out _ hfin5).2
   obtain ⟨⟨x0, x1, x2, x3, x4, x5⟩, y0, y1, y2, y3, y4, y5⟩ := cells6 hM5
   have HM5 := Lib.hid hM5
   clear hM5 hown4 hb4 hS4 hb5 hsl
   cases eq
   ·have hrn := Hr0.out
    rw [if_neg (of_decide_eq_false Heq.out)] at hrn
    subst hrn
    clear hrI5
    go_wp2
    have hB5 := heap6 ⟨_, _, _, _, _, _, HM5.out⟩ (.int .i64 0) (.int .i64 0) (.int .i64 0) (.string ⟨#[]⟩) (.slice none 0 0) (.slice none 0 0)
    refine bodyPost_ret (results_row_tmp2 rfl _ _ w.heap.size 29 _ (0, 0) _ rfl hB5 Tryz.underlying29 rfl (by kernel_rfl)) rfl (decRes_none rfl ?_)
    exact (((((hbw5.setCell (by exact Nat.le_refl _) _).setCell (by exact Nat.le_refl _) _).setCell (by exact Nat.le_refl _) _).setCell (by exact Nat.le_refl _) _).setCell (by exact Nat.le_refl _) _).setCell (by exact Nat.le_refl _) _
   ·have hrn := Hr0.out
    rw [if_pos (of_decide_eq_true Heq.out)] at hrn
    have hrd := envRead_calls _ I w5 hrI5 (by omega) (Hmax.out.below hbw5)
    have hst : ∀ (W : World) (j : Nat) (v : Value), Keeps (fun k => k = w.heap.size) W (W.setCell ⟨w.heap.size, j, none⟩ v) := fun W j v => Keeps.setCell _ _ _ rfl
    have Hst := Lib.hid hst
    cases hrm : readM I with
    | none =>
     rw [hrm] at hrd hrn
     have hrn : r = none := hrn.symm
     subst hrn
     have Hrd := Lib.hid hrd
     clear hrd hrI5 hrm hst
     go_wp2_with fail
     refine (Hrd.out).mono ?_; rintro e w6 ⟨vr, vb, rfl, hoL, hoT, hb6⟩
     have hM6 := (hb6.block _ (Array.getElem?_eq_some_iff.1 HM5.out).1).trans HM5.out
     have hbw6 := hbw5.trans (hb6.mono hbw5.size)
     have he : mailVal ((none : Option MailD).getD MailD.zero) vr vb = .agg #[.int .i64 0, .int .i64 0, .int .i64 0, .string (strL []), vr, vb] := rfl
     rw [he]
     have hsn : Option.isSome (none : Option MailD) = false := rfl
     rw [hsn]
     obtain ⟨ar, cr, hvr⟩ := own_form0 hoL
     obtain ⟨ab, cb, hvb⟩ := own_form0 hoT
     subst hvr
     subst hvb
     generalize strL [] = sf
     obtain ⟨⟨x0, x1, x2, x3, x4, x5⟩, y0, y1, y2, y3, y4, y5⟩ := cells6 hM6
     have HM6 := Lib.hid hM6
     clear hM6 hoL hoT he
     go_wp2
     have hB6 := heap6 ⟨_, _, _, _, _, _, HM6.out⟩ (.int .i64 0) (.int .i64 0) (.int .i64 0) (.string sf) (.slice ar (none.getD MailD.zero).rcpts.length cr) (.slice ab (none.getD MailD.zero).body.length cb)
     have hB5 := heap6 ⟨_, _, _, _, _, _, hB6⟩ (.int .i64 0) (.int .i64 0) (.int .i64 0) (.string ⟨#[]⟩) (.slice none 0 0) (.slice none 0 0)
     refine bodyPost_ret (results_row_tmp2 rfl _ _ w.heap.size 29 _ (0, 0) _ rfl hB5 Tryz.underlying29 rfl (by kernel_rfl)) rfl (decRes_none rfl ?_)
     exact (((((((((((hbw6.setCell (by exact Nat.le_refl _) _).setCell (by exact Nat.le_refl _) _).setCell (by exact Nat.le_refl _) _).setCell (by exact Nat.le_refl _) _).setCell (by exact Nat.le_refl _) _).setCell (by exact Nat.le_refl _) _).setCell (by exact Nat.le_refl _) _).setCell (by exact Nat.le_refl _) _).setCell (by exact Nat.le_refl _) _).setCell (by exact Nat.le_refl _) _).setCell (by exact Nat.le_refl _) _).setCell (by exact Nat.le_refl _) _
    | some m =>
     rw [hrm] at hrd hrn
     have hrn : r = some (m, I.length + 12) := hrn.symm
     subst hrn
     have Hrd := Lib.hid hrd
     clear hrd hrI5 hrm hst
     go_wp2_with fail
     refine (Hrd.out).mono ?_; rintro e w6 ⟨vr, vb, rfl, hoL, hoT, hb6⟩
     have hM6 := (hb6.block _ (Array.getElem?_eq_some_iff.1 HM5.out).1).trans HM5.out
     have hbw6 := hbw5.trans (hb6.mono hbw5.size)
     obtain ⟨id, parent, born, frm, rcpts, body⟩ := m
     have he : mailVal ((some (MailD.mk id parent born frm rcpts body)).getD MailD.zero) vr vb = .agg #[.int .i64 id, .int .i64 parent, .int .i64 born, .string (strL frm), vr, vb] := rfl
     rw [he]
     have hsn : Option.isSome (some (MailD.mk id parent born frm rcpts body)) = true := rfl
     rw [hsn]
     have hoL : w6.ownsRow w5.heap.size 9 1 vr rcpts.length (rcpts.flatMap s1) := hoL
     have hoT : w6.ownsRow w5.heap.size 5 1 vb body.length (body.map u8v) := hoT
     obtain ⟨ar, cr, hvr⟩ := own_form0 hoL
     obtain ⟨ab, cb, hvb⟩ := own_form0 hoT
     subst hvr
     subst hvb
     generalize hsf : strL frm = sf
     have Hsf := Lib.hid hsf
     obtain ⟨⟨x0, x1, x2, x3, x4, x5⟩, y0, y1, y2, y3, y4, y5⟩ := cells6 hM6
     have HM6 := Lib.hid hM6
     have HoL := Lib.hid hoL
     have HoT := Lib.hid hoT
     have hl5 := (Array.getElem?_eq_some_iff.1 HM5.out).1
     clear hM6 hoL hoT he hsf
     go_wp2
     have hB6 := heap6 ⟨_, _, _, _, _, _, HM6.out⟩ (.int .i64 id) (.int .i64 parent) (.int .i64 born) (.string sf) (.slice ar rcpts.length cr) (.slice ab body.length cb)
     have hB5 := heap6 ⟨_, _, _, _, _, _, hB6⟩ (.int .i64 id) (.int .i64 parent) (.int .i64 born) (.string sf) (.slice ar rcpts.length cr) (.slice ab body.length cb)
     have hst := Hst.out
     have hKf := (((((((((((hst w6 0 (.int .i64 id)).trans (hst _ 1 (.int .i64 parent))).trans (hst _ 2 (.int .i64 born))).trans (hst _ 3 (.string sf))).trans (hst _ 4 (.slice ar rcpts.length cr))).trans (hst _ 5 (.slice ab body.length cb))).trans (hst _ 0 (.int .i64 id))).trans (hst _ 1 (.int .i64 parent))).trans (hst _ 2 (.int .i64 born))).trans (hst _ 3 (.string sf))).trans (hst _ 4 (.slice ar rcpts.length cr))).trans (hst _ 5 (.slice ab body.length cb))
     have hoL := own_mono (own_keeps HoL.out hKf (fun k hk e => by have := own_base HoL.out k hk; omega)) (base' := w.heap.size) (by omega)
     have hoT := own_mono (own_keeps HoT.out hKf (fun k hk e => by have := own_base HoT.out k hk; omega)) (base' := w.heap.size) (by omega)
     refine bodyPost_ret (results_row_tmp2 rfl _ _ w.heap.size 29 _ (0, 0) _ rfl hB5 Tryz.underlying29 rfl (by kernel_rfl)) rfl ⟨.slice ar rcpts.length cr, .slice ab body.length cb, ?_, hoL, hoT, hbw6.trans (hKf.below (fun k hk => by omega) hbw6.size)⟩
     show Ending.returned (.tuple #[.agg #[.int .i64 id, .int .i64 parent, .int .i64 born, .string sf, .slice ar rcpts.length cr, .slice ab body.length cb], _, .bool true]) = .returned (.tuple #[.agg #[.int .i64 id, .int .i64 parent, .int .i64 born, .string (strL frm), .slice ar rcpts.length cr, .slice ab body.length cb], .int .i64 ((I.length + 12 : Nat) : Int), .bool true])
     rw [Hsf.out, show ((I.length + 12 : Nat) : Int) = 8 + (I.length : Int) + 4 by omega]
     rfl
abbrev FatesK (g kb : Nat) (k : MarkD) (w : World) : Prop :=
 w.cell? ⟨kb, 0, none⟩ = some (.int .i64 k.kind) ∧ w.cell? ⟨kb, 1, none⟩ = some (.int .i64 k.rcpt) ∧ w.cell? ⟨kb, 2, none⟩ = some (.int .i64 k.n) ∧ g ≠ kb
theorem FatesK.go {g kb : Nat} {k : MarkD} {w w' : World} (hb : Below w.heap.size w w') (h : FatesK g kb k w) : FatesK g kb k w' := by
 obtain ⟨h1, h2, h3, h4⟩ := h
 have lm := World.block_lt_of_cell? w ⟨kb, 0, none⟩ h1
 obtain ⟨c, f⟩ := below_cell hb
 exact ⟨(c _ _ lm).trans h1, (c _ _ lm).trans h2, (c _ _ lm).trans h3, h4⟩
theorem FatesK.store {g kb : Nat} {k : MarkD} {w : World} (a b c d e : Nat) (x0 x1 x2 x3 x4 : Value) (h : FatesK g kb k w) :
 FatesK g kb k (((((w.setCell ⟨g, a, none⟩ x0).setCell ⟨g, b, none⟩ x1).setCell ⟨g, c, none⟩ x2).setCell ⟨g, d, none⟩ x3).setCell ⟨g, e, none⟩ x4) := by
 obtain ⟨h1, h2, h3, h4⟩ := h
 have hK : Keeps (fun k => k = g) w (((((w.setCell ⟨g, a, none⟩ x0).setCell ⟨g, b, none⟩ x1).setCell ⟨g, c, none⟩ x2).setCell ⟨g, d, none⟩ x3).setCell ⟨g, e, none⟩ x4) :=
  ((((Keeps.setCell (F := fun k => k = g) w ⟨g, a, none⟩ x0 rfl).trans (Keeps.setCell _ ⟨g, b, none⟩ x1 rfl)).trans (Keeps.setCell _ ⟨g, c, none⟩ x2 rfl)).trans (Keeps.setCell _ ⟨g, d, none⟩ x3 rfl)).trans (Keeps.setCell _ ⟨g, e, none⟩ x4 rfl)
 have hne : ¬ (kb = g) := fun e => h4 e.symm
 exact ⟨hK.cell hne h1, hK.cell hne h2, hK.cell hne h3, h4⟩
structure FileD where
 mail : MailD
 marks : List MarkD
 good : Nat
def FileD.zero : FileD := ⟨MailD.zero, [], 0⟩
def fileD (bs : List UInt8) : Option FileD := (decodeMail bs).map fun p => ⟨p.1, decodeM (bs.drop p.2), p.2 + 28 * (decodeM (bs.drop p.2)).length⟩
abbrev fileVal (f : FileD) (vr vb vm : Value) : Value := .agg #[.int .i64 f.mail.id, .int .i64 f.mail.parent, .int .i64 f.mail.born, .string (strL f.mail.frm), vr, vb, vm, .int .i64 (f.good : Int)]
def FileRes (w : World) (r : Option FileD) (e : Ending) (w' : World) : Prop :=
 ∃ vr vb vm, e = .returned (.tuple #[fileVal (r.getD FileD.zero) vr vb vm, .bool r.isSome]) ∧ w'.ownsRow w.heap.size 9 1 vr (r.getD FileD.zero).mail.rcpts.length ((r.getD FileD.zero).mail.rcpts.flatMap s1) ∧ w'.ownsRow w.heap.size 5 1 vb (r.getD FileD.zero).mail.body.length ((r.getD FileD.zero).mail.body.map u8v) ∧ w'.ownsRow w.heap.size 53 3 vm (r.getD FileD.zero).marks.length ((r.getD FileD.zero).marks.flatMap MarkD.cells) ∧ Below w.heap.size w w'
theorem decodeN_len : ∀ (n : Nat) (l : List UInt8), 28 * (decodeN n l).length ≤ l.length
 | 0, l => by rw [decodeN]; simp
 | n + 1, l => by
  rw [decodeN]
  by_cases h : l.length < 28
  ·rw [if_pos h]; simp
  ·rw [if_neg h]
   cases parseMark (l.take 28) with
   | none => simp
   | some k =>
    have := decodeN_len n (l.drop 28)
    rw [List.length_drop] at this
    simp only [List.length_cons]
    omega
theorem decode_len {bs : List UInt8} {m : MailD} {n : Nat} (h : decodeMail bs = some (m, n)) : n ≤ bs.length ∧ 12 ≤ n := by
 rw [decodeMail] at h
 cases hd : (bytesO (some bs)).2 with
 | none => rw [hd] at h; cases h
 | some rest =>
  rw [hd] at h
  obtain ⟨_, h2⟩ := bytesO_shape bs hd
  simp only at h
  split at h
  ·cases h
  ·split at h
   ·obtain ⟨x, _, hx⟩ := Option.map_eq_some_iff.1 h
    cases hx
    omega
   ·cases h
set_option maxHeartbeats 8000000 in
theorem heap8 {w : World} {mb : Nat} (h : ∃ c0 c1 c2 c3 c4 c5 c6 c7, w.heap[mb]? = some (.cells #[c0, c1, c2, c3, c4, c5, c6, c7] 43 (0, 0))) (x0 x1 x2 x3 x4 x5 x6 x7 : Value) :
 ((((((((w.setCell ⟨mb, 0, none⟩ x0).setCell ⟨mb, 1, none⟩ x1).setCell ⟨mb, 2, none⟩ x2).setCell ⟨mb, 3, none⟩ x3).setCell ⟨mb, 4, none⟩ x4).setCell ⟨mb, 5, none⟩ x5).setCell ⟨mb, 6, none⟩ x6).setCell ⟨mb, 7, none⟩ x7).heap[mb]? = some (.cells #[x0, x1, x2, x3, x4, x5, x6, x7] 43 (0, 0)) := by
 obtain ⟨c0, c1, c2, c3, c4, c5, c6, c7, hc⟩ := h
 exact heap_setCell_same _ _ 7 _ _ _ (heap_setCell_same _ _ 6 _ _ _ (heap_setCell_same _ _ 5 _ _ _ (heap_setCell_same _ _ 4 _ _ _ (heap_setCell_same _ _ 3 _ _ _ (heap_setCell_same _ _ 2 _ _ _ (heap_setCell_same _ _ 1 _ _ _ (heap_setCell_same _ _ 0 _ _ _ hc)))))))
set_option maxHeartbeats 8000000 in
theorem cells8 {w : World} {mb : Nat} {c0 c1 c2 c3 c4 c5 c6 c7 : Value} (hb : w.heap[mb]? = some (.cells #[c0, c1, c2, c3, c4, c5, c6, c7] 43 (0, 0))) :
 (w.cell? ⟨mb, 0, none⟩ = some c0 ∧ w.cell? ⟨mb, 1, none⟩ = some c1 ∧ w.cell? ⟨mb, 2, none⟩ = some c2 ∧ w.cell? ⟨mb, 3, none⟩ = some c3 ∧ w.cell? ⟨mb, 4, none⟩ = some c4 ∧ w.cell? ⟨mb, 5, none⟩ = some c5 ∧ w.cell? ⟨mb, 6, none⟩ = some c6 ∧ w.cell? ⟨mb, 7, none⟩ = some c7) ∧
 (w.frozen? ⟨mb, 0, none⟩ = false ∧ w.frozen? ⟨mb, 1, none⟩ = false ∧ w.frozen? ⟨mb, 2, none⟩ = false ∧ w.frozen? ⟨mb, 3, none⟩ = false ∧ w.frozen? ⟨mb, 4, none⟩ = false ∧ w.frozen? ⟨mb, 5, none⟩ = false ∧ w.frozen? ⟨mb, 6, none⟩ = false ∧ w.frozen? ⟨mb, 7, none⟩ = false) := by
 exact ⟨⟨(by rw [cell_of_row _ _ _ _ _ _ hb]; rfl), (by rw [cell_of_row _ _ _ _ _ _ hb]; rfl), (by rw [cell_of_row _ _ _ _ _ _ hb]; rfl), (by rw [cell_of_row _ _ _ _ _ _ hb]; rfl), (by rw [cell_of_row _ _ _ _ _ _ hb]; rfl), (by rw [cell_of_row _ _ _ _ _ _ hb]; rfl), (by rw [cell_of_row _ _ _ _ _ _ hb]; rfl), (by rw [cell_of_row _ _ _ _ _ _ hb]; rfl)⟩, frozen_of_row _ _ _ _ _ hb, frozen_of_row _ _ _ _ _ hb, frozen_of_row _ _ _ _ _ hb, frozen_of_row _ _ _ _ _ hb, frozen_of_row _ _ _ _ _ hb, frozen_of_row _ _ _ _ _ hb, frozen_of_row _ _ _ _ _ hb, frozen_of_row _ _ _ _ _ hb⟩
theorem fileRes_none {w w' : World} {e : Ending} (he : e = .returned (.tuple #[.agg #[.int .i64 0, .int .i64 0, .int .i64 0, .string ⟨#[]⟩, .slice none 0 0, .slice none 0 0, .slice none 0 0, .int .i64 0], .bool false])) (hb : Below w.heap.size w w') : FileRes w none e w' :=
 ⟨.slice none 0 0, .slice none 0 0, .slice none 0 0, he, World.ownsRow_nil _ _ _ _, World.ownsRow_nil _ _ _ _, World.ownsRow_nil _ _ _ _, hb⟩
set_option maxRecDepth 100000 in
set_option maxHeartbeats 8000000 in
theorem qparse_calls (v : Value) (bs : List UInt8) (w : World) (hv : RdB w v bs) (hlen : bs.length ≤ 100000000) (hmax : MaxOk w) :
 Calls Tryz.prog 58 #[v] w (FileRes w (fileD bs)) := by
 obtain ⟨a, cap, rfl, hl, hc⟩ := hv.form
 have hz : ∀ w, (zeroValue 43).run Tryz.prog w = .ok (.agg #[.int .i64 0, .int .i64 0, .int .i64 0, .string ⟨#[]⟩, .slice none 0 0, .slice none 0 0, .slice none 0 0, .int .i64 0]) w := fun _ => by kernel_rfl
 obtain ⟨W, hW⟩ : ∃ W, w.alloc (.cells #[.int .i64 0, .int .i64 0, .int .i64 0, .string ⟨#[]⟩, .slice none 0 0, .slice none 0 0, .slice none 0 0, .int .i64 0] 43) = W := ⟨_, rfl⟩
 have hbW : Below w.heap.size w W := by rw [← hW]; exact (Below.refl _ _).alloc (Nat.le_refl _) _
 have hF : W.heap[w.heap.size]? = some (.cells #[.int .i64 0, .int .i64 0, .int .i64 0, .string ⟨#[]⟩, .slice none 0 0, .slice none 0 0, .slice none 0 0, .int .i64 0] 43 (0, 0)) := by rw [← hW]; exact heap_alloc_new w _
 have hdec := envDecode_calls (.slice a bs.length cap) bs W (hv.below (Nat.le_refl _) hbW) hlen (hmax.below hbW)
 have hvW := hv.below (Nat.le_refl _) hbW
 obtain ⟨r, hr⟩ : ∃ r, decodeMail bs = r := ⟨_, rfl⟩
 rw [hr] at hdec
 have hfd : fileD bs = r.map fun p => ⟨p.1, decodeM (bs.drop p.2), p.2 + 28 * (decodeM (bs.drop p.2)).length⟩ := by rw [fileD, hr]
 rw [hfd]
 have Hr := Lib.hid hr
 have Hdec := Lib.hid hdec
 have HF := Lib.hid hF
 have HbW := Lib.hid hbW
 have HvW := Lib.hid hvW
 clear hr hdec hF hbW hvW hfd hv hmax
 have hst : ∀ (W : World) (j : Nat) (v : Value), Keeps (fun k => k = w.heap.size) W (W.setCell ⟨w.heap.size, j, none⟩ v) := fun W j v => Keeps.setCell _ _ _ rfl
 have Hst := Lib.hid hst
 clear hst
 subst hW
 cases r with
 | none =>
  show Calls Tryz.prog 58 _ w (FileRes w none)
  go_enter Tryz.func58, Tryz.ntmps58
  go_wp2_with fail
  refine (Hdec.out).mono ?_; rintro e w1 ⟨vr, vb, rfl, hoL, hoT, hb1⟩
  have he : mailVal ((none : Option (MailD × Nat)).elim MailD.zero Prod.fst) vr vb = .agg #[.int .i64 0, .int .i64 0, .int .i64 0, .string (strL []), vr, vb] := rfl
  have he2 : ((none : Option (MailD × Nat)).elim 0 Prod.snd : Nat) = 0 := rfl
  have he3 : Option.isSome (none : Option (MailD × Nat)) = false := rfl
  rw [he, he2, he3]
  have hb1' := HbW.out.trans (hb1.mono HbW.out.size)
  have hF1 := (hb1.block _ (Array.getElem?_eq_some_iff.1 HF.out).1).trans HF.out
  obtain ⟨l4, a4, c4, hv4⟩ : ∃ l a c, vr = .slice a l c := ⟨_, own_form0 hoL⟩
  obtain ⟨l4', a4', c4', hv4'⟩ : ∃ l a c, vb = .slice a l c := ⟨_, own_form0 hoT⟩
  subst hv4
  subst hv4'
  generalize strL [] = sf
  have hF2 := (Below.heap_alloc w1 (.cells #[.int .i64 0, .int .i64 0, .int .i64 0, .string sf, .slice a4 l4 c4, .slice a4' l4' c4'] 29) _ (Array.getElem?_eq_some_iff.1 hF1).1).trans hF1
  have hb2' := hb1'.alloc hb1'.size (.cells #[.int .i64 0, .int .i64 0, .int .i64 0, .string sf, .slice a4 l4 c4, .slice a4' l4' c4'] 29)
  obtain ⟨⟨x0, x1, x2, x3, x4, x5, x6, x7⟩, y0, y1, y2, y3, y4, y5, y6, y7⟩ := cells8 hF2
  have HF2 := Lib.hid hF2
  clear hF1 hF2 hoL hoT he he2 he3
  go_wp2
  have hB5 := heap8 ⟨_, _, _, _, _, _, _, _, HF2.out⟩ (.int .i64 0) (.int .i64 0) (.int .i64 0) (.string ⟨#[]⟩) (.slice none 0 0) (.slice none 0 0) (.slice none 0 0) (.int .i64 0)
  refine bodyPost_ret (results_row_tmp rfl _ _ w.heap.size 43 _ (0, 0) _ rfl hB5 Tryz.underlying43 rfl (by kernel_rfl)) rfl (fileRes_none rfl ?_)
  exact (((((((hb2'.setCell (by exact Nat.le_refl _) _).setCell (by exact Nat.le_refl _) _).setCell (by exact Nat.le_refl _) _).setCell (by exact Nat.le_refl _) _).setCell (by exact Nat.le_refl _) _).setCell (by exact Nat.le_refl _) _).setCell (by exact Nat.le_refl _) _).setCell (by exact Nat.le_refl _) _
 | some p =>
  obtain ⟨m, n⟩ := p
  obtain ⟨hn1, hn2⟩ := decode_len Hr.out
  have hmk := fun v W h => markDecode_calls v (bs.drop n) W h (by rw [List.length_drop]; omega)
  obtain ⟨ks, hks⟩ : ∃ ks, decodeM (bs.drop n) = ks := ⟨_, rfl⟩
  have hfin : (some (m, n)).map (fun p : MailD × Nat => (⟨p.1, decodeM (bs.drop p.2), p.2 + 28 * (decodeM (bs.drop p.2)).length⟩ : FileD)) = some ⟨m, ks, n + 28 * ks.length⟩ := by rw [← hks]; rfl
  rw [hfin]
  have hkl : ks.length ≤ bs.length := by
   have := decodeN_len 4096 (bs.drop n)
   rw [List.length_drop] at this
   rw [← hks]; unfold decodeM; omega
  have Hmk := Lib.hid hmk
  have Hks := Lib.hid hks
  have hs := run_slice_l (P := Tryz.prog) Tryz.underlying22 u8size a bs.length cap n hn1
  have hbi : (bs.length : Int) ≤ 100000000 := by omega
  have hni : (n : Int) ≤ (bs.length : Int) := by omega
  clear hmk hks hfin
  go_enter Tryz.func58, Tryz.ntmps58
  go_wp2_with fail
  refine (Hdec.out).mono ?_; rintro e w1 ⟨vr, vb, rfl, hoL, hoT, hb1⟩
  have hoL : w1.ownsRow _ 9 1 vr m.rcpts.length (m.rcpts.flatMap s1) := hoL
  have hoT : w1.ownsRow _ 5 1 vb m.body.length (m.body.map u8v) := hoT
  have he : mailVal ((some (m, n)).elim MailD.zero Prod.fst) vr vb = mailVal m vr vb := rfl
  have hel : (Option.elim (some (m, n)) 0 Prod.snd : Nat) = n := rfl
  have hsm : Option.isSome (some (m, n)) = true := rfl
  rw [he, hel, hsm]
  have hb1' := HbW.out.trans (hb1.mono HbW.out.size)
  have hF1 := (hb1.block _ (Array.getElem?_eq_some_iff.1 HF.out).1).trans HF.out
  obtain ⟨a4, c4, hv4⟩ := own_form0 hoL
  obtain ⟨a4', c4', hv4'⟩ := own_form0 hoT
  subst hv4
  subst hv4'
  obtain ⟨w2, hw2⟩ : ∃ w2, w1.alloc (.cells #[.int .i64 m.id, .int .i64 m.parent, .int .i64 m.born, .string (strL m.frm), .slice a4 m.rcpts.length c4, .slice a4' m.body.length c4'] 29) = w2 := ⟨_, rfl⟩
  have hb2 : Below w1.heap.size w1 w2 := by rw [← hw2]; exact (Below.refl _ _).alloc (Nat.le_refl _) _
  have hX : w2.heap[w1.heap.size]? = some (.cells #[.int .i64 m.id, .int .i64 m.parent, .int .i64 m.born, .string (strL m.frm), .slice a4 m.rcpts.length c4, .slice a4' m.body.length c4'] 29 (0, 0)) := by rw [← hw2]; exact heap_alloc_new w1 _
  have hb2' := hb1'.trans (hb2.mono hb1'.size)
  have hF2 := (hb2.block _ (Array.getElem?_eq_some_iff.1 hF1).1).trans hF1
  have hoL2 := own_below hoL hb2 (Nat.le_refl _)
  have hoT2 := own_below hoT hb2 (Nat.le_refl _)
  have hv2 := (HvW.out.below (Nat.le_refl _) hb1).below (Nat.le_refl _) hb2
  have hp2 := hv2.part n bs.length hn1 (Nat.le_refl _)
  rw [List.take_of_length_le (Nat.le_refl _)] at hp2
  generalize (if cap = n then a else a.map (·.add n)) = a2 at hs hp2
  have hcall := Hmk.out _ w2 hp2
  unfold DecDone at hcall
  rw [Hks.out] at hcall
  have Hcall := Lib.hid hcall
  have HX := Lib.hid hX
  have HF2 := Lib.hid hF2
  have HoL2 := Lib.hid hoL2
  have HoT2 := Lib.hid hoT2
  have Hb2' := Lib.hid hb2'
  have hs1 := (Array.getElem?_eq_some_iff.1 hF1).1
  have hsb := hb2.size
  clear hcall hX hF2 hoL2 hoT2 hb2' hoL hoT he hel hsm hv2 hp2 hF1 hb2 Hmk
  subst hw2
  go_wp2_with fail
  refine (Hcall.out).mono ?_; rintro e w3 ⟨vm, rfl, hoM, hb3⟩
  obtain ⟨am, cm, hvm⟩ := own_form0 hoM
  subst hvm
  have hF3 := (hb3.block _ (Array.getElem?_eq_some_iff.1 HF2.out).1).trans HF2.out
  have hX3 := (hb3.block _ (Array.getElem?_eq_some_iff.1 HX.out).1).trans HX.out
  have hb3' := Hb2'.out.trans (hb3.mono Hb2'.out.size)
  obtain ⟨⟨x0, x1, x2, x3, x4, x5, x6, x7⟩, y0, y1, y2, y3, y4, y5, y6, y7⟩ := cells8 hF3
  obtain ⟨z0, z1, z2, z3, z4, z5⟩ := (cells6 hX3).1
  have HF3 := Lib.hid hF3
  have HoM := Lib.hid hoM
  have hkI : (ks.length : Int) ≤ 100000000 := by omega
  clear hF3 hX3 hoM
  go_wp2
  have hB5 := heap8 ⟨_, _, _, _, _, _, _, _, HF3.out⟩ (.int .i64 m.id) (.int .i64 m.parent) (.int .i64 m.born) (.string (strL m.frm)) (.slice a4 m.rcpts.length c4) (.slice a4' m.body.length c4') (.slice am ks.length cm) (.int .i64 ((n : Int) + 28 * (ks.length : Int)))
  have hst := Hst.out
  have hKf := (((((((hst w3 0 (.int .i64 m.id)).trans (hst _ 1 (.int .i64 m.parent))).trans (hst _ 2 (.int .i64 m.born))).trans (hst _ 3 (.string (strL m.frm)))).trans (hst _ 4 (.slice a4 m.rcpts.length c4))).trans (hst _ 5 (.slice a4' m.body.length c4'))).trans (hst _ 6 (.slice am ks.length cm))).trans (hst _ 7 (.int .i64 ((n : Int) + 28 * (ks.length : Int))))
  have hWs := HbW.out.size
  have hWF := (Array.getElem?_eq_some_iff.1 HF.out).1
  have g1 := own_mono (own_keeps (own_below HoL2.out hb3 (Nat.le_refl _)) hKf (fun k hk e => by have := own_base HoL2.out k hk; omega)) (base' := w.heap.size) (by omega)
  have g2 := own_mono (own_keeps (own_below HoT2.out hb3 (Nat.le_refl _)) hKf (fun k hk e => by have := own_base HoT2.out k hk; omega)) (base' := w.heap.size) (by omega)
  have g3 := own_mono (own_keeps HoM.out hKf (fun k hk e => by have := own_base HoM.out k hk; have := Hb2'.out.size; have := (Array.getElem?_eq_some_iff.1 HF2.out).1; omega)) (base' := w.heap.size) (Hb2'.out.size)
  refine bodyPost_ret (results_row_tmp rfl _ _ w.heap.size 43 _ (0, 0) _ rfl hB5 Tryz.underlying43 rfl (by kernel_rfl)) rfl ⟨_, _, _, ?_, g1, g2, g3, hb3'.trans (hKf.below (fun k hk => by omega) hb3'.size)⟩
  show Ending.returned (.tuple #[.agg #[.int .i64 m.id, .int .i64 m.parent, .int .i64 m.born, .string (strL m.frm), .slice a4 m.rcpts.length c4, .slice a4' m.body.length c4', .slice am ks.length cm, .int .i64 ((n : Int) + 28 * (ks.length : Int))], .bool true]) = .returned (.tuple #[.agg #[.int .i64 m.id, .int .i64 m.parent, .int .i64 m.born, .string (strL m.frm), .slice a4 m.rcpts.length c4, .slice a4' m.body.length c4', .slice am ks.length cm, .int .i64 ((n + 28 * ks.length : Nat) : Int)], .bool true])
  rw [show ((n + 28 * ks.length : Nat) : Int) = (n : Int) + 28 * (ks.length : Int) by omega]
end Go.Proofs.YtffnbkmigapmjaaGreatDoor
