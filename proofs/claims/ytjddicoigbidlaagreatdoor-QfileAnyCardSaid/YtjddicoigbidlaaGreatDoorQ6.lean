/-
  The walk of env.Decode.
  The walk of mark.Fates.
  The walks of qfile.Parse and qfile.File.Fates.
  The walks of qfile's methods that look at fates: Fates, waits, Over, Open, Crashes, Due.
  The walks of slices.IndexFunc, ContainsFunc at waits, of qfile's Over, Open, and of pillarboxref01.Ints.
  The walk of qfile.File.Open.
  The walk of pillarboxref10.Good.
-/
import Derived.Test.YtjddicoigbidlaaGreatDoorQ3
import Derived.Test.YtjddicoigbidlaaGreatDoorQ4
import Derived.Test.YtjddicoigbidlaaGreatDoorQ5
set_option linter.unusedSimpArgs false
set_option linter.unusedVariables false
namespace Go.Proofs.YtjddicoigbidlaaGreatDoor
open Go.RowKit
/-- A struct and two values more as results. -/
theorem results_row_tmp2 {P : Program} {fn : Func} {p u v : Tmp} {ty : TypeId} (h : fn.results = #[.cell p ty, .tmp u, .tmp v]) (tmps : Array Value) (w : World) (g : Nat) (t : TypeId) (cs : Array Value) (fr : Nat × Nat) (d : TypeDesc)
    (hp : tmps.getD p undef = .pointer (some ⟨g, 0, none⟩)) (hg : w.heap[g]? = some (.cells cs t fr)) (hu : P.underlying ty = some d) (hd : (match d with | .struct _ | .array _ _ => true | _ => false) = true) (hi : (P.info? ty).map (·.size) = some cs.size) :
    (results fn tmps).run P w = .ok (.tuple #[.agg cs, tmps.getD u undef, tmps.getD v undef]) w := by
  have hp' : tmps[p]?.getD undef = .pointer (some ⟨g, 0, none⟩) := by simpa using hp
  simp [results, h, hp', asAddr, run_loadVar_row w g t ty cs fr d hg hu hd hi]
theorem keepBel {W a b : World} (h : Below W.heap.size W a) (hb : Below a.heap.size a b) : Below W.heap.size W b := h.trans (hb.mono h.size)
/-- What Decode answers. -/
def DecRes (w : World) (r : Option (MailD × Nat)) (e : Ending) (w' : World) : Prop :=
  ∃ vr vb, e = .returned (.tuple #[mailVal (r.elim MailD.zero Prod.fst) vr vb, .int .i64 ((r.elim 0 Prod.snd : Nat) : Int), .bool r.isSome]) ∧ w'.ownsRow w.heap.size 9 1 vr (r.elim MailD.zero Prod.fst).rcpts.length ((r.elim MailD.zero Prod.fst).rcpts.flatMap s1) ∧ w'.ownsRow w.heap.size 5 1 vb (r.elim MailD.zero Prod.fst).body.length ((r.elim MailD.zero Prod.fst).body.map u8v) ∧ Below w.heap.size w w'
theorem decRes_none {w w' : World} {e : Ending} (he : e = .returned (.tuple #[.agg #[.int .i64 0, .int .i64 0, .int .i64 0, .string ⟨#[]⟩, .slice none 0 0, .slice none 0 0], .int .i64 0, .bool false])) (hb : Below w.heap.size w w') : DecRes w none e w' :=
  ⟨.slice none 0 0, .slice none 0 0, he, World.ownsRow_nil _ _ _ _, World.ownsRow_nil _ _ _ _, hb⟩
theorem bytesO_shape (bs : List UInt8) {r : List UInt8} (h : (bytesO (some bs)).2 = some r) : r = bs.drop (8 + (bytesO (some bs)).1.length) ∧ 8 + (bytesO (some bs)).1.length + r.length = bs.length := by
  rw [bytesO, numO] at h ⊢
  by_cases h1 : bs.length < 8
  · rw [if_pos h1] at h; cases h
  · rw [if_neg h1] at h ⊢
    by_cases h2 : 4611686018427387904 < beNat (bs.take 8)
    · rw [if_pos h2] at h; cases h
    · rw [if_neg h2] at h ⊢
      simp only at h ⊢
      by_cases h3 : beNat (bs.take 8) ≤ (bs.drop 8).length
      · rw [if_pos h3] at h ⊢
        simp only at h ⊢
        cases h
        rw [List.length_drop] at h3
        have e : ((bs.drop 8).take (beNat (bs.take 8))).length = beNat (bs.take 8) := by rw [List.length_take, List.length_drop]; omega
        rw [e, List.drop_drop, List.length_drop]
        exact ⟨rfl, by omega⟩
      · rw [if_neg h3] at h; cases h
set_option maxRecDepth 100000 in
set_option maxHeartbeats 16000000 in
theorem envDecode_calls (v : Value) (bs : List UInt8) (w : World) (hv : RdB w v bs) (hlen : bs.length ≤ 100000000) (hmax : MaxOk w) :
    Calls Tryz.prog 18 #[v] w (DecRes w (decodeMail bs)) := by
  obtain ⟨a, cap, rfl, hl, hc⟩ := hv.form
  have hz : ∀ w, (zeroValue 25).run Tryz.prog w = .ok (.agg #[.int .i64 0, .int .i64 0, .int .i64 0, .string ⟨#[]⟩, .slice none 0 0, .slice none 0 0]) w := fun _ => by kernel_rfl
  have hcall := wRead_calls _ bs (w.alloc (.cells #[.int .i64 0, .int .i64 0, .int .i64 0, .string ⟨#[]⟩, .slice none 0 0, .slice none 0 0] 25)) (hv.below (Nat.le_refl _) ((Below.refl _ _).alloc (Nat.le_refl _) _)) (by omega)
  obtain ⟨r, hr⟩ : ∃ r, decodeMail bs = r := ⟨_, rfl⟩
  rw [hr]
  rw [decodeMail] at hr
  have hsh := fun q (h : (bytesO (some bs)).2 = some q) => bytesO_shape bs h
  have hle := (bytesO_left (o := some bs) (L := 100000000) (fun q e => by cases e; exact hlen)).1
  have Hr := Lib.hid hr
  have Hsh := Lib.hid hsh
  have Hle := Lib.hid hle
  clear hr hsh hle
  have Hcall := Lib.hid hcall
  have Hmax := Lib.hid hmax
  have Hv := Lib.hid hv
  clear hcall hmax hv
  go_enter Tryz.func18, Tryz.ntmps18
  go_wp2_with fail
  refine (Hcall.out).mono ?_; rintro e w1 ⟨v0, rb, rfl, hR, hb1, hrb, hv0⟩
  have hbel1 : Below w.heap.size w w1 := ((Below.refl _ _).alloc (Nat.le_refl _) _).trans (hb1.mono (by simp))
  simp only [World.size_alloc] at hrb hv0
  have hM1 : w1.heap[w.heap.size]? = some (.cells #[.int .i64 0, .int .i64 0, .int .i64 0, .string ⟨#[]⟩, .slice none 0 0, .slice none 0 0] 25 (0, 0)) := (hb1.block _ (by simp)).trans (heap_alloc_new w _)
  have hst0 : RdSt w1 rb v0.ownBlock (some bs) := RdSt.start hR (fun k hk => (hv0 k hk).2)
  have hcall2 := rBytesS hst0
  have hoM : v0.ownBlock ≠ some w.heap.size := fun e => by have := (hv0 _ e).1; omega
  generalize v0.ownBlock = ob at hst0 hv0 hcall2 hoM
  generalize bytesO (some bs) = P at Hr Hsh hcall2 Hle
  obtain ⟨I, o⟩ := P
  have Hcall2 := Lib.hid hcall2
  have HM1 := Lib.hid hM1
  clear hcall2 hM1 hst0 hR
  go_wp2_with fail
  refine (Hcall2.out).mono ?_; rintro e w2 ⟨vi, rfl, hrI, hoI, -, hK2⟩
  have hle := Hle.out
  simp only at hrI hle ⊢
  have hM2 := hK2.heap HM1.out (by omega)
  have hbw2 := hbel1.trans (hK2.below (B := w.heap.size) (fun i hi => by omega) hbel1.size)
  obtain ⟨ai, ci, rfl, hli, hci⟩ := hrI.form
  obtain ⟨⟨m0, m1, m2, m3, m4, m5⟩, n0, n1, n2, n3, n4, n5⟩ := cells6 hM2
  have HrI := Lib.hid hrI
  have HM2 := Lib.hid hM2
  have hi1 : (I.length : Int) ≤ 100000000 := by omega
  have hbi : (bs.length : Int) ≤ 100000000 := by omega
  clear hrI hM2 Hcall Hcall2
  cases o with
  | none =>
    have hrn : r = none := Hr.out.symm
    subst hrn
    have hsm : Option.isSome (none : Option (List UInt8)) = false := rfl
    rw [hsm]
    go_wp2_with fail
    go_quiet (fail)
    rename_i nq
    obtain ⟨⟨x0, x1, x2, x3, x4, x5⟩, y0, y1, y2, y3, y4, y5⟩ := cells6 (show (w2.drewN nq).heap[w.heap.size]? = _ from HM2.out)
    go_wp2
    have hB5 := heap6 ⟨_, _, _, _, _, _, (show (w2.drewN nq).heap[w.heap.size]? = _ from HM2.out)⟩ (.int .i64 0) (.int .i64 0) (.int .i64 0) (.string ⟨#[]⟩) (.slice none 0 0) (.slice none 0 0)
    refine bodyPost_ret (results_row_tmp2 rfl _ _ w.heap.size 25 _ (0, 0) _ rfl hB5 Tryz.underlying25 rfl (by kernel_rfl)) rfl (decRes_none rfl ?_)
    exact ((((((below_drewN hbw2 nq).setCell (by exact Nat.le_refl _) _).setCell (by exact Nat.le_refl _) _).setCell (by exact Nat.le_refl _) _).setCell (by exact Nat.le_refl _) _).setCell (by exact Nat.le_refl _) _).setCell (by exact Nat.le_refl _) _
  | some rest =>
    obtain ⟨hrest, hsum⟩ := Hsh.out rest rfl
    have hsm : Option.isSome (some rest) = true := rfl
    rw [hsm]
    have hr0 := Hr.out
    simp only at hr0
    have Hrest := Lib.hid hrest
    clear Hr Hsh hrest hsm
    have hw8 : IntKind.i64.wrap (8 + (I.length : Int)) = 8 + (I.length : Int) := IntWalk.i64_in _ (by omega)
    have hw12 : IntKind.i64.wrap (8 + (I.length : Int) + 4) = 8 + (I.length : Int) + 4 := IntWalk.i64_in _ (by omega)
    by_cases h4 : rest.length < 4
    · rw [if_pos h4] at hr0
      subst hr0
      have hlt : decide ((bs.length : Int) < 8 + (I.length : Int) + 4) = true := by simp; omega
      go_wp2_with fail
      go_quiet (fail)
      rename_i nq
      obtain ⟨⟨x0, x1, x2, x3, x4, x5⟩, y0, y1, y2, y3, y4, y5⟩ := cells6 (show (w2.drewN nq).heap[w.heap.size]? = _ from HM2.out)
      go_wp2
      have hB5 := heap6 ⟨_, _, _, _, _, _, (show (w2.drewN nq).heap[w.heap.size]? = _ from HM2.out)⟩ (.int .i64 0) (.int .i64 0) (.int .i64 0) (.string ⟨#[]⟩) (.slice none 0 0) (.slice none 0 0)
      refine bodyPost_ret (results_row_tmp2 rfl _ _ w.heap.size 25 _ (0, 0) _ rfl hB5 Tryz.underlying25 rfl (by kernel_rfl)) rfl (decRes_none rfl ?_)
      exact ((((((below_drewN hbw2 nq).setCell (by exact Nat.le_refl _) _).setCell (by exact Nat.le_refl _) _).setCell (by exact Nat.le_refl _) _).setCell (by exact Nat.le_refl _) _).setCell (by exact Nat.le_refl _) _).setCell (by exact Nat.le_refl _) _
    · rw [if_neg h4] at hr0
      have hge : decide ((bs.length : Int) < 8 + (I.length : Int) + 4) = false := by simp; omega
      obtain ⟨E, hE⟩ : ∃ E, 8 + I.length = E := ⟨_, rfl⟩
      have hsl : ∀ w, (Instr.sliceAt 23 (.slice a bs.length cap) (some (.int .i64 (8 + (I.length : Int)))) (some (.int .i64 (8 + (I.length : Int) + 4))) none).run Tryz.prog w = .ok (.slice (if cap = E then a else a.map (·.add E)) 4 (cap - E)) w := by
        have h := run_slice_lh (P := Tryz.prog) Tryz.underlying23 u8size a bs.length cap E (E + 4) (by omega) (by omega)
        rw [show E + 4 - E = 4 by omega, ← hE] at h
        rw [← hE]
        simpa using h
      have hp := Hv.out.part E (E + 4) (by omega) (by omega)
      rw [show E + 4 - E = 4 by omega] at hp
      have hx : (bs.take (E + 4)).drop E = rest.take 4 := by rw [List.drop_take, show E + 4 - E = 4 by omega, Hrest.out, hE]
      rw [hx] at hp
      generalize (if cap = E then a else a.map (·.add E)) = a2 at hsl hp
      generalize cap - E = c2 at hsl hp
      obtain ⟨sb, hsb⟩ : ∃ sb, be4 (PbCrc.sum I) = sb := ⟨_, rfl⟩
      have hsm := fun W h => envSum_calls (.slice ai I.length ci) I W h
      rw [hsb] at hsm hr0
      have hp2 := (hp.below (Nat.le_refl _) hbw2)
      have hr4 : Hid (∀ W, Below w2.heap.size w2 W → RdB W (.slice a2 4 c2) (rest.take 4) ∧ RdB W (.slice ai I.length ci) I) := fun W h => ⟨hp2.below (Nat.le_refl _) h, HrI.out.below (Nat.le_refl _) h⟩
      generalize rest.take 4 = q at hr0 hr4
      obtain ⟨eq, heq⟩ : ∃ eq, decide (q = sb) = eq := ⟨_, rfl⟩
      have hec := fun v1 v2 W h1 h2 => equal_calls v1 v2 q sb W h1 h2
      rw [heq] at hec
      have Hec := Lib.hid hec
      have Hsm := Lib.hid hsm
      have Heq := Lib.hid heq
      have Hr0 := Lib.hid hr0
      have H4 := Lib.hid h4
      clear hec hsm heq hr0 hp hp2 hx hsb h4 hE m0 m1 m2 m3 m4 m5 n0 n1 n2 n3 n4 n5
      go_wp2_with fail
      go_region_held3 (fun w' => Below w2.heap.size w2 w') (first | exact (Below.refl _ _).drew | assumption | exact keepBel (by assumption) (by assumption))
        (first
          | (go_at_call 43; refine (Hsm.out _ (hr4.out _ (by assumption)).2).mono ?_; rintro e w4 ⟨vs, rfl, hown4, hb4⟩; have hS4 := keepBel (W := w2) (by assumption) hb4)
          | (go_at_call 53; refine (Hec.out _ _ _ (hr4.out _ hS4).1 (rdB_ofOwn hown4)).mono ?_; rintro e w5 ⟨rfl, hb5⟩; have hfin5 := keepBel hS4 hb5))
      have hbw5 := hbw2.trans (hfin5.mono hbw2.size)
      have hM5 := (hfin5.block _ (Array.getElem?_eq_some_iff.1 HM2.out).1).trans HM2.out
      have hrI5 := (hr4.out _ hfin5).2
      obtain ⟨⟨x0, x1, x2, x3, x4, x5⟩, y0, y1, y2, y3, y4, y5⟩ := cells6 hM5
      have HM5 := Lib.hid hM5
      clear hM5 hown4 hb4 hS4 hb5 hsl
      cases eq
      · have hrn := Hr0.out
        rw [if_neg (of_decide_eq_false Heq.out)] at hrn
        subst hrn
        clear hrI5
        go_wp2
        have hB5 := heap6 ⟨_, _, _, _, _, _, HM5.out⟩ (.int .i64 0) (.int .i64 0) (.int .i64 0) (.string ⟨#[]⟩) (.slice none 0 0) (.slice none 0 0)
        refine bodyPost_ret (results_row_tmp2 rfl _ _ w.heap.size 25 _ (0, 0) _ rfl hB5 Tryz.underlying25 rfl (by kernel_rfl)) rfl (decRes_none rfl ?_)
        exact (((((hbw5.setCell (by exact Nat.le_refl _) _).setCell (by exact Nat.le_refl _) _).setCell (by exact Nat.le_refl _) _).setCell (by exact Nat.le_refl _) _).setCell (by exact Nat.le_refl _) _).setCell (by exact Nat.le_refl _) _
      · have hrn := Hr0.out
        rw [if_pos (of_decide_eq_true Heq.out)] at hrn
        have hrd := envRead_calls _ I w5 hrI5 (by omega) (Hmax.out.below hbw5)
        have hst : ∀ (W : World) (j : Nat) (v : Value), Keeps (fun k => k = w.heap.size) W (W.setCell ⟨w.heap.size, j, none⟩ v) := fun W j v => Keeps.setCell _ _ _ rfl
        have Hst := Lib.hid hst
        cases hrm : readM I with
        | none =>
          rw [hrm] at hrd hrn
          have hrn : r = none := hrn.symm
          subst hrn
          have Hrd := Lib.hid hrd
          clear hrd hrI5 hrm hst
          go_wp2_with fail
          refine (Hrd.out).mono ?_; rintro e w6 ⟨vr, vb, rfl, hoL, hoT, hb6⟩
          have hM6 := (hb6.block _ (Array.getElem?_eq_some_iff.1 HM5.out).1).trans HM5.out
          have hbw6 := hbw5.trans (hb6.mono hbw5.size)
          have he : mailVal ((none : Option MailD).getD MailD.zero) vr vb = .agg #[.int .i64 0, .int .i64 0, .int .i64 0, .string (strL []), vr, vb] := rfl
          rw [he]
          have hsn : Option.isSome (none : Option MailD) = false := rfl
          rw [hsn]
          obtain ⟨ar, cr, hvr⟩ := own_form0 hoL
          obtain ⟨ab, cb, hvb⟩ := own_form0 hoT
          subst hvr
          subst hvb
          generalize strL [] = sf
          obtain ⟨⟨x0, x1, x2, x3, x4, x5⟩, y0, y1, y2, y3, y4, y5⟩ := cells6 hM6
          have HM6 := Lib.hid hM6
          clear hM6 hoL hoT he
          go_wp2
          have hB6 := heap6 ⟨_, _, _, _, _, _, HM6.out⟩ (.int .i64 0) (.int .i64 0) (.int .i64 0) (.string sf) (.slice ar (none.getD MailD.zero).rcpts.length cr) (.slice ab (none.getD MailD.zero).body.length cb)
          have hB5 := heap6 ⟨_, _, _, _, _, _, hB6⟩ (.int .i64 0) (.int .i64 0) (.int .i64 0) (.string ⟨#[]⟩) (.slice none 0 0) (.slice none 0 0)
          refine bodyPost_ret (results_row_tmp2 rfl _ _ w.heap.size 25 _ (0, 0) _ rfl hB5 Tryz.underlying25 rfl (by kernel_rfl)) rfl (decRes_none rfl ?_)
          exact (((((((((((hbw6.setCell (by exact Nat.le_refl _) _).setCell (by exact Nat.le_refl _) _).setCell (by exact Nat.le_refl _) _).setCell (by exact Nat.le_refl _) _).setCell (by exact Nat.le_refl _) _).setCell (by exact Nat.le_refl _) _).setCell (by exact Nat.le_refl _) _).setCell (by exact Nat.le_refl _) _).setCell (by exact Nat.le_refl _) _).setCell (by exact Nat.le_refl _) _).setCell (by exact Nat.le_refl _) _).setCell (by exact Nat.le_refl _) _
        | some m =>
          rw [hrm] at hrd hrn
          have hrn : r = some (m, I.length + 12) := hrn.symm
          subst hrn
          have Hrd := Lib.hid hrd
          clear hrd hrI5 hrm hst
          go_wp2_with fail
          refine (Hrd.out).mono ?_; rintro e w6 ⟨vr, vb, rfl, hoL, hoT, hb6⟩
          have hM6 := (hb6.block _ (Array.getElem?_eq_some_iff.1 HM5.out).1).trans HM5.out
          have hbw6 := hbw5.trans (hb6.mono hbw5.size)
          obtain ⟨id, parent, born, frm, rcpts, body⟩ := m
          have he : mailVal ((some (MailD.mk id parent born frm rcpts body)).getD MailD.zero) vr vb = .agg #[.int .i64 id, .int .i64 parent, .int .i64 born, .string (strL frm), vr, vb] := rfl
          rw [he]
          have hsn : Option.isSome (some (MailD.mk id parent born frm rcpts body)) = true := rfl
          rw [hsn]
          have hoL : w6.ownsRow w5.heap.size 9 1 vr rcpts.length (rcpts.flatMap s1) := hoL
          have hoT : w6.ownsRow w5.heap.size 5 1 vb body.length (body.map u8v) := hoT
          obtain ⟨ar, cr, hvr⟩ := own_form0 hoL
          obtain ⟨ab, cb, hvb⟩ := own_form0 hoT
          subst hvr
          subst hvb
          generalize hsf : strL frm = sf
          have Hsf := Lib.hid hsf
          obtain ⟨⟨x0, x1, x2, x3, x4, x5⟩, y0, y1, y2, y3, y4, y5⟩ := cells6 hM6
          have HM6 := Lib.hid hM6
          have HoL := Lib.hid hoL
          have HoT := Lib.hid hoT
          have hl5 := (Array.getElem?_eq_some_iff.1 HM5.out).1
          clear hM6 hoL hoT he hsf
          go_wp2
          have hB6 := heap6 ⟨_, _, _, _, _, _, HM6.out⟩ (.int .i64 id) (.int .i64 parent) (.int .i64 born) (.string sf) (.slice ar rcpts.length cr) (.slice ab body.length cb)
          have hB5 := heap6 ⟨_, _, _, _, _, _, hB6⟩ (.int .i64 id) (.int .i64 parent) (.int .i64 born) (.string sf) (.slice ar rcpts.length cr) (.slice ab body.length cb)
          have hst := Hst.out
          have hKf := (((((((((((hst w6 0 (.int .i64 id)).trans (hst _ 1 (.int .i64 parent))).trans (hst _ 2 (.int .i64 born))).trans (hst _ 3 (.string sf))).trans (hst _ 4 (.slice ar rcpts.length cr))).trans (hst _ 5 (.slice ab body.length cb))).trans (hst _ 0 (.int .i64 id))).trans (hst _ 1 (.int .i64 parent))).trans (hst _ 2 (.int .i64 born))).trans (hst _ 3 (.string sf))).trans (hst _ 4 (.slice ar rcpts.length cr))).trans (hst _ 5 (.slice ab body.length cb))
          have hoL := own_mono (own_keeps HoL.out hKf (fun k hk e => by have := own_base HoL.out k hk; omega)) (base' := w.heap.size) (by omega)
          have hoT := own_mono (own_keeps HoT.out hKf (fun k hk e => by have := own_base HoT.out k hk; omega)) (base' := w.heap.size) (by omega)
          refine bodyPost_ret (results_row_tmp2 rfl _ _ w.heap.size 25 _ (0, 0) _ rfl hB5 Tryz.underlying25 rfl (by kernel_rfl)) rfl ⟨.slice ar rcpts.length cr, .slice ab body.length cb, ?_, hoL, hoT, hbw6.trans (hKf.below (fun k hk => by omega) hbw6.size)⟩
          show Ending.returned (.tuple #[.agg #[.int .i64 id, .int .i64 parent, .int .i64 born, .string sf, .slice ar rcpts.length cr, .slice ab body.length cb], _, .bool true]) = .returned (.tuple #[.agg #[.int .i64 id, .int .i64 parent, .int .i64 born, .string (strL frm), .slice ar rcpts.length cr, .slice ab body.length cb], .int .i64 ((I.length + 12 : Nat) : Int), .bool true])
          rw [Hsf.out, show ((I.length + 12 : Nat) : Int) = 8 + (I.length : Int) + 4 by omega]
          rfl
end Go.Proofs.YtjddicoigbidlaaGreatDoor

set_option linter.unusedSimpArgs false
set_option linter.unusedVariables false
namespace Go.Proofs.YtjddicoigbidlaaGreatDoor
open Go.RowKit
theorem infoFate : (Tryz.prog.info? 57).map (fun i => (i.zero, i.size, i.bytes)) = some (some (.agg #[.int .i64 0, .int .i64 0, .int .i64 0, .int .i64 0, .bool false]), 5, 40) := by kernel_rfl
/-- How many fates Fates makes. -/
def nFates (n : Int) : Nat := (min (max n 0) 8).toNat
/-- Fates, in a row of the call's own. -/
def FatesDone (w : World) (fs : List FateD) (e : Ending) (w' : World) : Prop :=
  ∃ g cap, e = .returned (.slice (some ⟨g, 0, none⟩) fs.length cap) ∧ w'.ownsRow w.heap.size 57 5 (.slice (some ⟨g, 0, none⟩) fs.length cap) fs.length (fs.flatMap FateD.cells) ∧ Below w.heap.size w w'
/-- What stays while a step is carried out. -/
structure FRest (w0 : World) (m : Nat) (fs : List FateD) (w : World) : Prop where
  bel : Below w0.heap.size w0 w
  own : w.ownsRow w0.heap.size 57 5 (.slice (some ⟨w0.heap.size, 0, none⟩) m m) m (fs.flatMap FateD.cells)
theorem FRest.go {w0 : World} {m : Nat} {fs : List FateD} {w w' : World} (hb : Below w.heap.size w w') (h : FRest w0 m fs w) : FRest w0 m fs w' :=
  ⟨h.bel.trans (hb.mono h.bel.size), own_below h.own hb (Nat.le_refl _)⟩
/-- The loop's variable, in block kb. -/
abbrev FatesK (g kb : Nat) (k : MarkD) (w : World) : Prop :=
  w.cell? ⟨kb, 0, none⟩ = some (.int .i64 k.kind) ∧ w.cell? ⟨kb, 1, none⟩ = some (.int .i64 k.rcpt) ∧ w.cell? ⟨kb, 2, none⟩ = some (.int .i64 k.n) ∧ g ≠ kb
theorem FatesK.go {g kb : Nat} {k : MarkD} {w w' : World} (hb : Below w.heap.size w w') (h : FatesK g kb k w) : FatesK g kb k w' := by
  obtain ⟨h1, h2, h3, h4⟩ := h
  have lm := World.block_lt_of_cell? w ⟨kb, 0, none⟩ h1
  obtain ⟨c, f⟩ := below_cell hb
  exact ⟨(c _ _ lm).trans h1, (c _ _ lm).trans h2, (c _ _ lm).trans h3, h4⟩
theorem FatesK.store {g kb : Nat} {k : MarkD} {w : World} (a b c d e : Nat) (x0 x1 x2 x3 x4 : Value) (h : FatesK g kb k w) :
    FatesK g kb k (((((w.setCell ⟨g, a, none⟩ x0).setCell ⟨g, b, none⟩ x1).setCell ⟨g, c, none⟩ x2).setCell ⟨g, d, none⟩ x3).setCell ⟨g, e, none⟩ x4) := by
  obtain ⟨h1, h2, h3, h4⟩ := h
  have hK : Keeps (fun k => k = g) w (((((w.setCell ⟨g, a, none⟩ x0).setCell ⟨g, b, none⟩ x1).setCell ⟨g, c, none⟩ x2).setCell ⟨g, d, none⟩ x3).setCell ⟨g, e, none⟩ x4) :=
    ((((Keeps.setCell (F := fun k => k = g) w ⟨g, a, none⟩ x0 rfl).trans (Keeps.setCell _ ⟨g, b, none⟩ x1 rfl)).trans (Keeps.setCell _ ⟨g, c, none⟩ x2 rfl)).trans (Keeps.setCell _ ⟨g, d, none⟩ x3 rfl)).trans (Keeps.setCell _ ⟨g, e, none⟩ x4 rfl)
  have hne : ¬ (kb = g) := fun e => h4 e.symm
  exact ⟨hK.cell hne h1, hK.cell hne h2, hK.cell hne h3, h4⟩
theorem FRest.cells {w0 : World} {m : Nat} {fs : List FateD} {r : Nat} {f : FateD} {w : World} (h : FRest w0 m fs w) (hf : fs[r]? = some f) :
    (w.cell? ⟨w0.heap.size, r * 5, none⟩ = some (.int .i64 f.state) ∧ w.cell? ⟨w0.heap.size, r * 5 + 1, none⟩ = some (.int .i64 f.tries) ∧ w.cell? ⟨w0.heap.size, r * 5 + 2, none⟩ = some (.int .i64 f.next) ∧ w.cell? ⟨w0.heap.size, r * 5 + 3, none⟩ = some (.int .i64 f.crashes) ∧ w.cell? ⟨w0.heap.size, r * 5 + 4, none⟩ = some (.bool f.opened)) ∧
    w.frozen? ⟨w0.heap.size, r * 5, none⟩ = false ∧ w.frozen? ⟨w0.heap.size, r * 5 + 1, none⟩ = false ∧ w.frozen? ⟨w0.heap.size, r * 5 + 2, none⟩ = false ∧ w.frozen? ⟨w0.heap.size, r * 5 + 3, none⟩ = false ∧ w.frozen? ⟨w0.heap.size, r * 5 + 4, none⟩ = false := by
  obtain ⟨h1, h2, h3, h4, h5, h6⟩ := own_at5 h.own hf
  exact ⟨⟨h1, h2, h3, h4, h5⟩, h6 _, h6 _, h6 _, h6 _, h6 _⟩
/-- Behind the store of a stepped fate. -/
theorem FRest.store {w0 : World} {m : Nat} {fs : List FateD} {r : Nat} {w : World} (h : FRest w0 m fs w) (hr : r < fs.length) (g : FateD) :
    FRest w0 m (fs.set r g) (((((w.setCell ⟨w0.heap.size, r * 5, none⟩ (.int .i64 g.state)).setCell ⟨w0.heap.size, r * 5 + 1, none⟩ (.int .i64 g.tries)).setCell ⟨w0.heap.size, r * 5 + 2, none⟩ (.int .i64 g.next)).setCell ⟨w0.heap.size, r * 5 + 3, none⟩ (.int .i64 g.crashes)).setCell ⟨w0.heap.size, r * 5 + 4, none⟩ (.bool g.opened)) := by
  refine ⟨((((h.bel.setCell (by exact Nat.le_refl _) _).setCell (by exact Nat.le_refl _) _).setCell (by exact Nat.le_refl _) _).setCell (by exact Nat.le_refl _) _).setCell (by exact Nat.le_refl _) _, ?_⟩
  rw [← fates_set fs r g hr]
  exact (((((h.own.stored _ _).1.stored _ _).1.stored _ _).1.stored _ _).1.stored _ _).1
theorem modify_in {fs : List FateD} {r : Nat} {f : FateD} (hf : fs[r]? = some f) (g : FateD → FateD) : fs.modify r g = fs.set r (g f) := by
  apply List.ext_getElem?
  intro i
  rw [List.getElem?_modify, List.getElem?_set]
  by_cases h : r = i
  · subst h
    have := (List.getElem?_eq_some_iff.1 hf).1
    have e : fs[r] = f := by rw [List.getElem?_eq_getElem this] at hf; exact Option.some.inj hf
    simp [this, e]
  · simp [h]
theorem modify_out {fs : List FateD} {r : Nat} (hr : ¬ r < fs.length) (g : FateD → FateD) : fs.modify r g = fs := by
  apply List.ext_getElem?
  intro i
  rw [List.getElem?_modify]
  by_cases h : r = i
  · subst h; rw [List.getElem?_eq_none (by omega)]; simp
  · simp [h]
theorem zeros_flat (m : Nat) (hm : m ≤ 8) : (madeCells (Value.agg #[.int .i64 0, .int .i64 0, .int .i64 0, .int .i64 0, .bool false]).cells (m * 5)).toList = (List.replicate m FateD.zero).flatMap FateD.cells := by
  rcases (by omega : m = 0 ∨ m = 1 ∨ m = 2 ∨ m = 3 ∨ m = 4 ∨ m = 5 ∨ m = 6 ∨ m = 7 ∨ m = 8) with rfl | rfl | rfl | rfl | rfl | rfl | rfl | rfl | rfl <;> kernel_rfl
set_option maxRecDepth 100000 in
set_option maxHeartbeats 8000000 in
theorem fates_calls (n : Int) (v : Value) (ks : List MarkD) (w : World) (hv : RdM w v ks) :
    Calls Tryz.prog 63 #[.int .i64 n, v] w (FatesDone w (fatesD (nFates n) ks)) := by
  obtain ⟨i0, hi, hz0, hz1, hz2⟩ := info_parts infoFate
  obtain ⟨a, cap, rfl, hlc, hcap⟩ := hv.form
  obtain ⟨m, hm⟩ : ∃ m, nFates n = m := ⟨_, rfl⟩
  have hmn : min (max n 0) 8 = (m : Int) := by rw [← hm, nFates]; omega
  have hm8 : m ≤ 8 := by rw [← hm, nFates]; omega
  rw [hm]
  obtain ⟨w1, hrun, hown1, hg1⟩ := run_make_full (P := Tryz.prog) w w.heap.size 54 57 i0 _ 5 Tryz.underlying54 hi hz0 hz1 .i64 .i64 m (by rw [hz2]; omega) (by unfold maxLen; omega) (Nat.le_refl _)
  rw [zeros_flat m hm8] at hown1
  have hb1 : Below w.heap.size w w1 := (Below.refl _ _).grown hg1 (Nat.le_refl _) (fun _ h => by cases h)
  have h3 : (0 ≤ n ∧ n ≤ 8 ∧ (Instr.makeSlice 54 (.int .i64 n) (.int .i64 n)).run Tryz.prog w = .ok (.slice (some ⟨w.heap.size, 0, none⟩) m m) w1) ∨
      (8 < n ∧ (Instr.makeSlice 54 (.int .i64 8) (.int .i64 8)).run Tryz.prog w = .ok (.slice (some ⟨w.heap.size, 0, none⟩) m m) w1) ∨
      (n < 0 ∧ (Instr.makeSlice 54 (.int .i64 0) (.int .i64 0)).run Tryz.prog w = .ok (.slice (some ⟨w.heap.size, 0, none⟩) m m) w1) := by
    by_cases c1 : n < 0
    · refine .inr (.inr ⟨c1, ?_⟩); rw [show (m : Int) = 0 by omega] at hrun; exact hrun
    · by_cases c2 : 8 < n
      · refine .inr (.inl ⟨c2, ?_⟩); rw [show (m : Int) = 8 by omega] at hrun; exact hrun
      · refine .inl ⟨by omega, by omega, ?_⟩; rw [show (m : Int) = n by omega] at hrun; exact hrun
  clear hrun hmn hm
  rcases h3 with ⟨c1, c2, hrun⟩ | ⟨c2, hrun⟩ | ⟨c1, hrun⟩
  all_goals
    go_enter Tryz.func63, Tryz.ntmps63
    go_wp2
    go_loopw [14] (fun i wr => ∃ j : Nat, j ≤ ks.length ∧ i = .int .i64 j ∧ wr.ownsRow w.heap.size 57 5 (.slice (some ⟨w.heap.size, 0, none⟩) m m) m ((fatesD m (ks.take j)).flatMap FateD.cells) ∧ Below w.heap.size w wr) (fun i _ => ks.length - (intOf i).toNat)
    case atStart =>
      exact ⟨0, Nat.zero_le _, rfl, by simpa [fatesD] using hown1, hb1⟩
    case round =>
      obtain ⟨j, hj, rfl, hown, hbw⟩ := hrel
      by_cases hlt : j < ks.length
      · obtain ⟨k, hk⟩ : ∃ k, ks[j]? = some k := ⟨_, List.getElem?_eq_getElem hlt⟩
        obtain ⟨b, off, cap', hsl, hbl, hq0, hq1, hq2⟩ := RdL.at3 (hv.below (Nat.le_refl _) hbw) hk
        cases hsl
        obtain ⟨kind, rcpt, nn⟩ := k
        simp only at hq0 hq1 hq2
        go_wp2_with fail
        refine (markGood_calls ⟨kind, rcpt, nn⟩ _).mono ?_; rintro e w2 ⟨rfl, hb2⟩
        have hbW : Below wr.heap.size wr w2 := ((Below.refl _ _).alloc (Nat.le_refl _) _).trans (hb2.mono (by simp))
        have hM : w2.heap[wr.heap.size]? = some (.cells #[.int .i64 kind, .int .i64 rcpt, .int .i64 nn] 52 (0, 0)) := (hb2.block _ (by simp)).trans (heap_alloc_new wr _)
        have m0 : w2.cell? ⟨wr.heap.size, 0, none⟩ = some (.int .i64 kind) := by rw [cell_of_row _ _ _ _ _ _ hM]; rfl
        have m1 : w2.cell? ⟨wr.heap.size, 1, none⟩ = some (.int .i64 rcpt) := by rw [cell_of_row _ _ _ _ _ _ hM]; rfl
        have m2 : w2.cell? ⟨wr.heap.size, 2, none⟩ = some (.int .i64 nn) := by rw [cell_of_row _ _ _ _ _ _ hM]; rfl
        have hfs : fatesD m (ks.take (j + 1)) = putD (fatesD m (ks.take j)) ⟨kind, rcpt, nn⟩ := by rw [take_snoc hk, fatesD_snoc]
        have hfl := fatesD_length m (ks.take j)
        have hrest : FRest w m (fatesD m (ks.take j)) w2 := ⟨hbw.trans (hbW.mono hbw.size), own_below hown hbW (Nat.le_refl _)⟩
        generalize fatesD m (ks.take j) = fs at hfs hfl hrest hown
        have hbo : w.heap.size < wr.heap.size := (hown.lt _ rfl).2
        clear hM hq0 hq1 hq2 hown hb2
        by_cases hg : (MarkD.good ⟨kind, rcpt, nn⟩) = true
        · rw [hg]
          have hg' : 1 ≤ kind ∧ kind ≤ 5 ∧ 0 ≤ rcpt ∧ rcpt < 8 ∧ 0 ≤ nn ∧ nn ≤ 1099511627776 := of_decide_eq_true hg
          obtain ⟨rn, rfl⟩ := Int.eq_ofNat_of_zero_le hg'.2.2.1
          rw [putD, if_pos hg] at hfs
          have Hfs := Lib.hid hfs
          clear hfs hg hg'
          by_cases hrm : rn < m
          · obtain ⟨f, hf⟩ : ∃ f, fs[rn]? = some f := ⟨_, List.getElem?_eq_getElem (by omega)⟩
            have hrd : FRest w m fs w2.drew := hrest.go (Below.refl _ _).drew
            obtain ⟨⟨o0, o1, o2, o3, o4⟩, z0, z1, z2, z3, z4⟩ := hrd.cells hf
            have hS : FatesK w.heap.size wr.heap.size ⟨kind, rn, nn⟩ w2.drew := FatesK.go (Below.refl _ _).drew ⟨m0, m1, m2, by omega⟩
            rw [modify_in (r := ((rn : Int)).toNat) (by simpa using hf)] at Hfs
            have hi0 : (0 : Int) ≤ (rn : Int) := by omega
            have hi1 : (rn : Int) < (m : Int) := by omega
            have hrf : rn < fs.length := by omega
            obtain ⟨s0, s1, s2, s3, s4, hst⟩ : ∃ s0 s1 s2 s3 s4, stepD f ⟨kind, rn, nn⟩ = ⟨s0, s1, s2, s3, s4⟩ := ⟨_, _, _, _, _, rfl⟩
            have hcall : ∀ W, Calls Tryz.prog 81 #[f.val, .agg #[.int .i64 kind, .int .i64 rn, .int .i64 nn]] W fun e w' => e = .returned (.agg #[.int .i64 s0, .int .i64 s1, .int .i64 s2, .int .i64 s3, .bool s4]) ∧ Below W.heap.size W w' := by
              intro W; have := step_calls f ⟨kind, rn, nn⟩ W; rw [hst] at this; exact this
            rw [hst] at Hfs
            have Hcall := Lib.hid hcall
            clear hcall hst
            go_wp2
            refine wp_region_noPanic ?_
            refine wp_region_held_drew (S := (fun w' => w'.cell? ⟨wr.heap.size, 0, none⟩ = some (.int .i64 kind) ∧ w'.cell? ⟨wr.heap.size, 1, none⟩ = some (.int .i64 rn) ∧ w'.cell? ⟨wr.heap.size, 2, none⟩ = some (.int .i64 nn) ∧ w.heap.size ≠ wr.heap.size)) (by kernel_rfl) (by first | with_reducible exact hS | with_reducible assumption | with_reducible exact FatesK.store (k := ⟨kind, rn, nn⟩) _ _ _ _ _ _ _ _ _ _ (by assumption) | with_reducible exact FatesK.go (k := ⟨kind, rn, nn⟩) (by assumption) (by assumption)) (fun hHeld => ?_)
            refine wpAnyH_take (i := 0) (oi := _) (v := ?_) rfl (by kernel_rfl) (by kernel_rfl) (by kernel_rfl) (fun _ _ _ h => h) (Or.inl ⟨by rfl, ?_⟩) (by assumption) ?_
            rotate_left
            · intro w hSw; (try dsimp only at hSw); go_simp; (try with_reducible rfl)
            try simp only [Act.put, List.setIfInBounds_toArray, List.set_cons_zero, List.set_cons_succ]
            refine wpAnyH_take (i := 1) (oi := _) (v := ?_) rfl (by kernel_rfl) (by kernel_rfl) (by kernel_rfl) (fun _ _ _ h => h) (Or.inl ⟨by rfl, ?_⟩) (by assumption) ?_
            rotate_left
            · intro w hSw; (try dsimp only at hSw); go_simp; (try with_reducible rfl)
            try simp only [Act.put, List.setIfInBounds_toArray, List.set_cons_zero, List.set_cons_succ]
            refine wpAnyH_take (i := 2) (oi := _) (v := ?_) rfl (by kernel_rfl) (by kernel_rfl) (by kernel_rfl) (fun _ _ _ h => h) (Or.inl ⟨by rfl, ?_⟩) (by assumption) ?_
            rotate_left
            · intro w hSw; (try dsimp only at hSw); go_simp; (try with_reducible rfl)
            try simp only [Act.put, List.setIfInBounds_toArray, List.set_cons_zero, List.set_cons_succ]
            refine wpAnyH_take (i := 3) (oi := _) (v := ?_) rfl (by kernel_rfl) (by kernel_rfl) (by kernel_rfl) (fun _ _ _ h => h) (Or.inl ⟨by rfl, ?_⟩) (by assumption) ?_
            rotate_left
            · intro w hSw; (try dsimp only at hSw); go_simp; (try with_reducible rfl)
            try simp only [Act.put, List.setIfInBounds_toArray, List.set_cons_zero, List.set_cons_succ]
            refine wpAnyH_take (i := 4) (oi := _) (v := ?_) rfl (by kernel_rfl) (by kernel_rfl) (by kernel_rfl) (fun _ _ _ h => h) (Or.inl ⟨by rfl, ?_⟩) (by assumption) ?_
            rotate_left
            · intro w hSw; (try dsimp only at hSw); go_simp; (try with_reducible rfl)
            try simp only [Act.put, List.setIfInBounds_toArray, List.set_cons_zero, List.set_cons_succ]
            refine wpAnyH_take (i := 5) (oi := _) (v := ?_) rfl (by kernel_rfl) (by kernel_rfl) (by kernel_rfl) (fun _ _ _ h => h) (Or.inl ⟨by rfl, ?_⟩) (by assumption) ?_
            rotate_left
            · intro w hSw; (try dsimp only at hSw); go_simp; (try with_reducible rfl)
            try simp only [Act.put, List.setIfInBounds_toArray, List.set_cons_zero, List.set_cons_succ]
            refine wpAnyH_take (i := 6) (oi := _) (v := ?_) rfl (by kernel_rfl) (by kernel_rfl) (by kernel_rfl) (fun _ _ _ h => h) (Or.inl ⟨by rfl, ?_⟩) (by assumption) ?_
            rotate_left
            · intro w hSw; (try dsimp only at hSw); go_simp; (try with_reducible rfl)
            try simp only [Act.put, List.setIfInBounds_toArray, List.set_cons_zero, List.set_cons_succ]
            refine wpAnyH_take (i := 8) (oi := _) (v := ?_) rfl (by kernel_rfl) (by kernel_rfl) (by kernel_rfl) (fun _ _ _ h => h) (Or.inl ⟨by rfl, ?_⟩) (by assumption) ?_
            rotate_left
            · intro w hSw; (try dsimp only at hSw); go_simp; (try with_reducible rfl)
            try simp only [Act.put, List.setIfInBounds_toArray, List.set_cons_zero, List.set_cons_succ]
            refine wpAnyH_ready (rs := [7]) (by kernel_rfl) (by simp) ?_
            refine AllReadyH.cons (o := _) rfl (fun K hK => ?_) AllReadyH.nil
            go_simp
            refine hK.out _ _ (by (try dsimp only); first | with_reducible exact hS | with_reducible assumption | with_reducible exact FatesK.store (k := ⟨kind, rn, nn⟩) _ _ _ _ _ _ _ _ _ _ (by assumption) | with_reducible exact FatesK.go (k := ⟨kind, rn, nn⟩) (by assumption) (by assumption)) (fun hHeld => ?_)
            clear hK K
            try simp only [Act.put, List.setIfInBounds_toArray, List.set_cons_zero, List.set_cons_succ]
            refine wpAnyH_ready (rs := [9]) (by kernel_rfl) (by simp) ?_
            refine AllReadyH.cons (o := _) rfl (fun K hK => ?_) AllReadyH.nil
            go_simp
            (go_at_call 81; refine (Hcall.out _).mono ?_; rintro e w5 ⟨rfl, hb5⟩; have hfin5 := hrd.go hb5; obtain ⟨⟨p0, p1, p2, p3, p4⟩, q0, q1, q2, q3, q4⟩ := hfin5.cells hf); go_wp2_with fail
            refine hK.out _ _ (by (try dsimp only); first | with_reducible exact hS | with_reducible assumption | with_reducible exact FatesK.store (k := ⟨kind, rn, nn⟩) _ _ _ _ _ _ _ _ _ _ (by assumption) | with_reducible exact FatesK.go (k := ⟨kind, rn, nn⟩) (by assumption) (by assumption)) (fun hHeld => ?_)
            clear hK K
            try simp only [Act.put, List.setIfInBounds_toArray, List.set_cons_zero, List.set_cons_succ]
            refine wpAnyH_take (i := 10) (oi := _) (v := ?_) rfl (by kernel_rfl) (by kernel_rfl) (by kernel_rfl) (fun _ _ _ h => h) (Or.inl ⟨by rfl, ?_⟩) (by assumption) ?_
            rotate_left
            · intro w hSw; (try dsimp only at hSw); go_simp; (try with_reducible rfl)
            try simp only [Act.put, List.setIfInBounds_toArray, List.set_cons_zero, List.set_cons_succ]
            refine wpAnyH_ready (rs := [11]) (by kernel_rfl) (by simp) ?_
            refine AllReadyH.cons (o := _) rfl (fun K hK => ?_) AllReadyH.nil
            go_simp
            refine hK.out _ _ (by (try dsimp only); first | with_reducible exact hS | with_reducible assumption | with_reducible exact FatesK.store (k := ⟨kind, rn, nn⟩) _ _ _ _ _ _ _ _ _ _ (by assumption) | with_reducible exact FatesK.go (k := ⟨kind, rn, nn⟩) (by assumption) (by assumption)) (fun hHeld => ?_)
            clear hK K
            try simp only [Act.put, List.setIfInBounds_toArray, List.set_cons_zero, List.set_cons_succ]
            refine wpAnyH_done (by kernel_rfl) ?_ _
            refine NoPanic.normal ?_
            have hfin := hfin5.store hrf ⟨s0, s1, s2, s3, s4⟩
            go_wp2
            go_roundw
            case rel => exact ⟨j + 1, by omega, by simp, by rw [Hfs.out]; exact hfin.own, hfin.bel⟩
            case measure => simp [intOf] <;> omega
          · rw [modify_out (r := ((rn : Int)).toNat) (by simp; omega)] at Hfs
            go_wp2
            go_roundw
            case rel => exact ⟨j + 1, by omega, by simp, by rw [Hfs.out]; exact hrest.own, hrest.bel⟩
            case measure => simp [intOf] <;> omega
        · rw [show (MarkD.good ⟨kind, rcpt, nn⟩) = false by simpa using hg]
          rw [putD, if_neg hg] at hfs
          have Hfs := Lib.hid hfs
          clear hfs hg
          go_wp2
          go_roundw
          case rel => exact ⟨j + 1, by omega, by simp, by rw [Hfs.out]; exact hrest.own, hrest.bel⟩
          case measure => simp [intOf] <;> omega
      · have hje : j = ks.length := by omega
        subst hje
        rw [List.take_of_length_le (Nat.le_refl _)] at hown
        have hfl := fatesD_length m ks
        go_wp2
        go_ret
        refine ⟨w.heap.size, m, ?_, by rw [hfl]; exact hown, hbw⟩
        rw [hfl]; rfl
end Go.Proofs.YtjddicoigbidlaaGreatDoor

set_option linter.unusedSimpArgs false
set_option linter.unusedVariables false
namespace Go.Proofs.YtjddicoigbidlaaGreatDoor
open Go.RowKit
/-- What bytes say as a file: a mail, marks, how many bytes count. -/
def parseFile (bs : List UInt8) : Option (MailD × List MarkD × Nat) := (decodeMail bs).map fun p => (p.1, decodeM (bs.drop p.2), p.2 + 28 * (decodeM (bs.drop p.2)).length)
/-- A file, as plain data. -/
structure FileD where
  mail : MailD
  marks : List MarkD
  good : Nat
def FileD.zero : FileD := ⟨MailD.zero, [], 0⟩
def fileD (bs : List UInt8) : Option FileD := (decodeMail bs).map fun p => ⟨p.1, decodeM (bs.drop p.2), p.2 + 28 * (decodeM (bs.drop p.2)).length⟩
abbrev fileVal (f : FileD) (vr vb vm : Value) : Value := .agg #[.int .i64 f.mail.id, .int .i64 f.mail.parent, .int .i64 f.mail.born, .string (strL f.mail.frm), vr, vb, vm, .int .i64 (f.good : Int)]
def FileRes (w : World) (r : Option FileD) (e : Ending) (w' : World) : Prop :=
  ∃ vr vb vm, e = .returned (.tuple #[fileVal (r.getD FileD.zero) vr vb vm, .bool r.isSome]) ∧ w'.ownsRow w.heap.size 9 1 vr (r.getD FileD.zero).mail.rcpts.length ((r.getD FileD.zero).mail.rcpts.flatMap s1) ∧ w'.ownsRow w.heap.size 5 1 vb (r.getD FileD.zero).mail.body.length ((r.getD FileD.zero).mail.body.map u8v) ∧ w'.ownsRow w.heap.size 52 3 vm (r.getD FileD.zero).marks.length ((r.getD FileD.zero).marks.flatMap MarkD.cells) ∧ Below w.heap.size w w'
theorem decodeN_len : ∀ (n : Nat) (l : List UInt8), 28 * (decodeN n l).length ≤ l.length
  | 0, l => by rw [decodeN]; simp
  | n + 1, l => by
    rw [decodeN]
    by_cases h : l.length < 28
    · rw [if_pos h]; simp
    · rw [if_neg h]
      cases parseMark (l.take 28) with
      | none => simp
      | some k =>
        have := decodeN_len n (l.drop 28)
        rw [List.length_drop] at this
        simp only [List.length_cons]
        omega
theorem decode_len {bs : List UInt8} {m : MailD} {n : Nat} (h : decodeMail bs = some (m, n)) : n ≤ bs.length ∧ 12 ≤ n := by
  rw [decodeMail] at h
  cases hd : (bytesO (some bs)).2 with
  | none => rw [hd] at h; cases h
  | some rest =>
    rw [hd] at h
    obtain ⟨_, h2⟩ := bytesO_shape bs hd
    simp only at h
    split at h
    · cases h
    · split at h
      · obtain ⟨x, _, hx⟩ := Option.map_eq_some_iff.1 h
        cases hx
        omega
      · cases h
set_option maxHeartbeats 8000000 in
theorem heap8 {w : World} {mb : Nat} (h : ∃ c0 c1 c2 c3 c4 c5 c6 c7, w.heap[mb]? = some (.cells #[c0, c1, c2, c3, c4, c5, c6, c7] 43 (0, 0))) (x0 x1 x2 x3 x4 x5 x6 x7 : Value) :
    ((((((((w.setCell ⟨mb, 0, none⟩ x0).setCell ⟨mb, 1, none⟩ x1).setCell ⟨mb, 2, none⟩ x2).setCell ⟨mb, 3, none⟩ x3).setCell ⟨mb, 4, none⟩ x4).setCell ⟨mb, 5, none⟩ x5).setCell ⟨mb, 6, none⟩ x6).setCell ⟨mb, 7, none⟩ x7).heap[mb]? = some (.cells #[x0, x1, x2, x3, x4, x5, x6, x7] 43 (0, 0)) := by
  obtain ⟨c0, c1, c2, c3, c4, c5, c6, c7, hc⟩ := h
  exact heap_setCell_same _ _ 7 _ _ _ (heap_setCell_same _ _ 6 _ _ _ (heap_setCell_same _ _ 5 _ _ _ (heap_setCell_same _ _ 4 _ _ _ (heap_setCell_same _ _ 3 _ _ _ (heap_setCell_same _ _ 2 _ _ _ (heap_setCell_same _ _ 1 _ _ _ (heap_setCell_same _ _ 0 _ _ _ hc)))))))
set_option maxHeartbeats 8000000 in
theorem cells8 {w : World} {mb : Nat} {c0 c1 c2 c3 c4 c5 c6 c7 : Value} (hb : w.heap[mb]? = some (.cells #[c0, c1, c2, c3, c4, c5, c6, c7] 43 (0, 0))) :
    (w.cell? ⟨mb, 0, none⟩ = some c0 ∧ w.cell? ⟨mb, 1, none⟩ = some c1 ∧ w.cell? ⟨mb, 2, none⟩ = some c2 ∧ w.cell? ⟨mb, 3, none⟩ = some c3 ∧ w.cell? ⟨mb, 4, none⟩ = some c4 ∧ w.cell? ⟨mb, 5, none⟩ = some c5 ∧ w.cell? ⟨mb, 6, none⟩ = some c6 ∧ w.cell? ⟨mb, 7, none⟩ = some c7) ∧
    (w.frozen? ⟨mb, 0, none⟩ = false ∧ w.frozen? ⟨mb, 1, none⟩ = false ∧ w.frozen? ⟨mb, 2, none⟩ = false ∧ w.frozen? ⟨mb, 3, none⟩ = false ∧ w.frozen? ⟨mb, 4, none⟩ = false ∧ w.frozen? ⟨mb, 5, none⟩ = false ∧ w.frozen? ⟨mb, 6, none⟩ = false ∧ w.frozen? ⟨mb, 7, none⟩ = false) := by
  exact ⟨⟨(by rw [cell_of_row _ _ _ _ _ _ hb]; rfl), (by rw [cell_of_row _ _ _ _ _ _ hb]; rfl), (by rw [cell_of_row _ _ _ _ _ _ hb]; rfl), (by rw [cell_of_row _ _ _ _ _ _ hb]; rfl), (by rw [cell_of_row _ _ _ _ _ _ hb]; rfl), (by rw [cell_of_row _ _ _ _ _ _ hb]; rfl), (by rw [cell_of_row _ _ _ _ _ _ hb]; rfl), (by rw [cell_of_row _ _ _ _ _ _ hb]; rfl)⟩, frozen_of_row _ _ _ _ _ hb, frozen_of_row _ _ _ _ _ hb, frozen_of_row _ _ _ _ _ hb, frozen_of_row _ _ _ _ _ hb, frozen_of_row _ _ _ _ _ hb, frozen_of_row _ _ _ _ _ hb, frozen_of_row _ _ _ _ _ hb, frozen_of_row _ _ _ _ _ hb⟩
theorem fileRes_none {w w' : World} {e : Ending} (he : e = .returned (.tuple #[.agg #[.int .i64 0, .int .i64 0, .int .i64 0, .string ⟨#[]⟩, .slice none 0 0, .slice none 0 0, .slice none 0 0, .int .i64 0], .bool false])) (hb : Below w.heap.size w w') : FileRes w none e w' :=
  ⟨.slice none 0 0, .slice none 0 0, .slice none 0 0, he, World.ownsRow_nil _ _ _ _, World.ownsRow_nil _ _ _ _, World.ownsRow_nil _ _ _ _, hb⟩
set_option maxRecDepth 100000 in
set_option maxHeartbeats 8000000 in
theorem qparse_calls (v : Value) (bs : List UInt8) (w : World) (hv : RdB w v bs) (hlen : bs.length ≤ 100000000) (hmax : MaxOk w) :
    Calls Tryz.prog 25 #[v] w (FileRes w (fileD bs)) := by
  obtain ⟨a, cap, rfl, hl, hc⟩ := hv.form
  have hz : ∀ w, (zeroValue 43).run Tryz.prog w = .ok (.agg #[.int .i64 0, .int .i64 0, .int .i64 0, .string ⟨#[]⟩, .slice none 0 0, .slice none 0 0, .slice none 0 0, .int .i64 0]) w := fun _ => by kernel_rfl
  obtain ⟨W, hW⟩ : ∃ W, w.alloc (.cells #[.int .i64 0, .int .i64 0, .int .i64 0, .string ⟨#[]⟩, .slice none 0 0, .slice none 0 0, .slice none 0 0, .int .i64 0] 43) = W := ⟨_, rfl⟩
  have hbW : Below w.heap.size w W := by rw [← hW]; exact (Below.refl _ _).alloc (Nat.le_refl _) _
  have hF : W.heap[w.heap.size]? = some (.cells #[.int .i64 0, .int .i64 0, .int .i64 0, .string ⟨#[]⟩, .slice none 0 0, .slice none 0 0, .slice none 0 0, .int .i64 0] 43 (0, 0)) := by rw [← hW]; exact heap_alloc_new w _
  have hdec := envDecode_calls (.slice a bs.length cap) bs W (hv.below (Nat.le_refl _) hbW) hlen (hmax.below hbW)
  have hvW := hv.below (Nat.le_refl _) hbW
  obtain ⟨r, hr⟩ : ∃ r, decodeMail bs = r := ⟨_, rfl⟩
  rw [hr] at hdec
  have hfd : fileD bs = r.map fun p => ⟨p.1, decodeM (bs.drop p.2), p.2 + 28 * (decodeM (bs.drop p.2)).length⟩ := by rw [fileD, hr]
  rw [hfd]
  have Hr := Lib.hid hr
  have Hdec := Lib.hid hdec
  have HF := Lib.hid hF
  have HbW := Lib.hid hbW
  have HvW := Lib.hid hvW
  clear hr hdec hF hbW hvW hfd hv hmax
  have hst : ∀ (W : World) (j : Nat) (v : Value), Keeps (fun k => k = w.heap.size) W (W.setCell ⟨w.heap.size, j, none⟩ v) := fun W j v => Keeps.setCell _ _ _ rfl
  have Hst := Lib.hid hst
  clear hst
  subst hW
  cases r with
  | none =>
    show Calls Tryz.prog 25 _ w (FileRes w none)
    go_enter Tryz.func25, Tryz.ntmps25
    go_wp2_with fail
    refine (Hdec.out).mono ?_; rintro e w1 ⟨vr, vb, rfl, hoL, hoT, hb1⟩
    have he : mailVal ((none : Option (MailD × Nat)).elim MailD.zero Prod.fst) vr vb = .agg #[.int .i64 0, .int .i64 0, .int .i64 0, .string (strL []), vr, vb] := rfl
    have he2 : ((none : Option (MailD × Nat)).elim 0 Prod.snd : Nat) = 0 := rfl
    have he3 : Option.isSome (none : Option (MailD × Nat)) = false := rfl
    rw [he, he2, he3]
    have hb1' := HbW.out.trans (hb1.mono HbW.out.size)
    have hF1 := (hb1.block _ (Array.getElem?_eq_some_iff.1 HF.out).1).trans HF.out
    obtain ⟨l4, a4, c4, hv4⟩ : ∃ l a c, vr = .slice a l c := ⟨_, own_form0 hoL⟩
    obtain ⟨l4', a4', c4', hv4'⟩ : ∃ l a c, vb = .slice a l c := ⟨_, own_form0 hoT⟩
    subst hv4
    subst hv4'
    generalize strL [] = sf
    have hF2 := (Below.heap_alloc w1 (.cells #[.int .i64 0, .int .i64 0, .int .i64 0, .string sf, .slice a4 l4 c4, .slice a4' l4' c4'] 25) _ (Array.getElem?_eq_some_iff.1 hF1).1).trans hF1
    have hb2' := hb1'.alloc hb1'.size (.cells #[.int .i64 0, .int .i64 0, .int .i64 0, .string sf, .slice a4 l4 c4, .slice a4' l4' c4'] 25)
    obtain ⟨⟨x0, x1, x2, x3, x4, x5, x6, x7⟩, y0, y1, y2, y3, y4, y5, y6, y7⟩ := cells8 hF2
    have HF2 := Lib.hid hF2
    clear hF1 hF2 hoL hoT he he2 he3
    go_wp2
    have hB5 := heap8 ⟨_, _, _, _, _, _, _, _, HF2.out⟩ (.int .i64 0) (.int .i64 0) (.int .i64 0) (.string ⟨#[]⟩) (.slice none 0 0) (.slice none 0 0) (.slice none 0 0) (.int .i64 0)
    refine bodyPost_ret (results_row_tmp rfl _ _ w.heap.size 43 _ (0, 0) _ rfl hB5 Tryz.underlying43 rfl (by kernel_rfl)) rfl (fileRes_none rfl ?_)
    exact (((((((hb2'.setCell (by exact Nat.le_refl _) _).setCell (by exact Nat.le_refl _) _).setCell (by exact Nat.le_refl _) _).setCell (by exact Nat.le_refl _) _).setCell (by exact Nat.le_refl _) _).setCell (by exact Nat.le_refl _) _).setCell (by exact Nat.le_refl _) _).setCell (by exact Nat.le_refl _) _
  | some p =>
    obtain ⟨m, n⟩ := p
    obtain ⟨hn1, hn2⟩ := decode_len Hr.out
    have hmk := fun v W h => markDecode_calls v (bs.drop n) W h (by rw [List.length_drop]; omega)
    obtain ⟨ks, hks⟩ : ∃ ks, decodeM (bs.drop n) = ks := ⟨_, rfl⟩
    have hfin : (some (m, n)).map (fun p : MailD × Nat => (⟨p.1, decodeM (bs.drop p.2), p.2 + 28 * (decodeM (bs.drop p.2)).length⟩ : FileD)) = some ⟨m, ks, n + 28 * ks.length⟩ := by rw [← hks]; rfl
    rw [hfin]
    have hkl : ks.length ≤ bs.length := by
      have := decodeN_len 4096 (bs.drop n)
      rw [List.length_drop] at this
      rw [← hks]; unfold decodeM; omega
    have Hmk := Lib.hid hmk
    have Hks := Lib.hid hks
    have hs := run_slice_l (P := Tryz.prog) Tryz.underlying23 u8size a bs.length cap n hn1
    have hbi : (bs.length : Int) ≤ 100000000 := by omega
    have hni : (n : Int) ≤ (bs.length : Int) := by omega
    clear hmk hks hfin
    go_enter Tryz.func25, Tryz.ntmps25
    go_wp2_with fail
    refine (Hdec.out).mono ?_; rintro e w1 ⟨vr, vb, rfl, hoL, hoT, hb1⟩
    have hoL : w1.ownsRow _ 9 1 vr m.rcpts.length (m.rcpts.flatMap s1) := hoL
    have hoT : w1.ownsRow _ 5 1 vb m.body.length (m.body.map u8v) := hoT
    have he : mailVal ((some (m, n)).elim MailD.zero Prod.fst) vr vb = mailVal m vr vb := rfl
    have hel : (Option.elim (some (m, n)) 0 Prod.snd : Nat) = n := rfl
    have hsm : Option.isSome (some (m, n)) = true := rfl
    rw [he, hel, hsm]
    have hb1' := HbW.out.trans (hb1.mono HbW.out.size)
    have hF1 := (hb1.block _ (Array.getElem?_eq_some_iff.1 HF.out).1).trans HF.out
    obtain ⟨a4, c4, hv4⟩ := own_form0 hoL
    obtain ⟨a4', c4', hv4'⟩ := own_form0 hoT
    subst hv4
    subst hv4'
    obtain ⟨w2, hw2⟩ : ∃ w2, w1.alloc (.cells #[.int .i64 m.id, .int .i64 m.parent, .int .i64 m.born, .string (strL m.frm), .slice a4 m.rcpts.length c4, .slice a4' m.body.length c4'] 25) = w2 := ⟨_, rfl⟩
    have hb2 : Below w1.heap.size w1 w2 := by rw [← hw2]; exact (Below.refl _ _).alloc (Nat.le_refl _) _
    have hX : w2.heap[w1.heap.size]? = some (.cells #[.int .i64 m.id, .int .i64 m.parent, .int .i64 m.born, .string (strL m.frm), .slice a4 m.rcpts.length c4, .slice a4' m.body.length c4'] 25 (0, 0)) := by rw [← hw2]; exact heap_alloc_new w1 _
    have hb2' := hb1'.trans (hb2.mono hb1'.size)
    have hF2 := (hb2.block _ (Array.getElem?_eq_some_iff.1 hF1).1).trans hF1
    have hoL2 := own_below hoL hb2 (Nat.le_refl _)
    have hoT2 := own_below hoT hb2 (Nat.le_refl _)
    have hv2 := (HvW.out.below (Nat.le_refl _) hb1).below (Nat.le_refl _) hb2
    have hp2 := hv2.part n bs.length hn1 (Nat.le_refl _)
    rw [List.take_of_length_le (Nat.le_refl _)] at hp2
    generalize (if cap = n then a else a.map (·.add n)) = a2 at hs hp2
    have hcall := Hmk.out _ w2 hp2
    unfold DecDone at hcall
    rw [Hks.out] at hcall
    have Hcall := Lib.hid hcall
    have HX := Lib.hid hX
    have HF2 := Lib.hid hF2
    have HoL2 := Lib.hid hoL2
    have HoT2 := Lib.hid hoT2
    have Hb2' := Lib.hid hb2'
    have hs1 := (Array.getElem?_eq_some_iff.1 hF1).1
    have hsb := hb2.size
    clear hcall hX hF2 hoL2 hoT2 hb2' hoL hoT he hel hsm hv2 hp2 hF1 hb2 Hmk
    subst hw2
    go_wp2_with fail
    refine (Hcall.out).mono ?_; rintro e w3 ⟨vm, rfl, hoM, hb3⟩
    obtain ⟨am, cm, hvm⟩ := own_form0 hoM
    subst hvm
    have hF3 := (hb3.block _ (Array.getElem?_eq_some_iff.1 HF2.out).1).trans HF2.out
    have hX3 := (hb3.block _ (Array.getElem?_eq_some_iff.1 HX.out).1).trans HX.out
    have hb3' := Hb2'.out.trans (hb3.mono Hb2'.out.size)
    obtain ⟨⟨x0, x1, x2, x3, x4, x5, x6, x7⟩, y0, y1, y2, y3, y4, y5, y6, y7⟩ := cells8 hF3
    obtain ⟨z0, z1, z2, z3, z4, z5⟩ := (cells6 hX3).1
    have HF3 := Lib.hid hF3
    have HoM := Lib.hid hoM
    have hkI : (ks.length : Int) ≤ 100000000 := by omega
    clear hF3 hX3 hoM
    go_wp2
    have hB5 := heap8 ⟨_, _, _, _, _, _, _, _, HF3.out⟩ (.int .i64 m.id) (.int .i64 m.parent) (.int .i64 m.born) (.string (strL m.frm)) (.slice a4 m.rcpts.length c4) (.slice a4' m.body.length c4') (.slice am ks.length cm) (.int .i64 ((n : Int) + 28 * (ks.length : Int)))
    have hst := Hst.out
    have hKf := (((((((hst w3 0 (.int .i64 m.id)).trans (hst _ 1 (.int .i64 m.parent))).trans (hst _ 2 (.int .i64 m.born))).trans (hst _ 3 (.string (strL m.frm)))).trans (hst _ 4 (.slice a4 m.rcpts.length c4))).trans (hst _ 5 (.slice a4' m.body.length c4'))).trans (hst _ 6 (.slice am ks.length cm))).trans (hst _ 7 (.int .i64 ((n : Int) + 28 * (ks.length : Int))))
    have hWs := HbW.out.size
    have hWF := (Array.getElem?_eq_some_iff.1 HF.out).1
    have g1 := own_mono (own_keeps (own_below HoL2.out hb3 (Nat.le_refl _)) hKf (fun k hk e => by have := own_base HoL2.out k hk; omega)) (base' := w.heap.size) (by omega)
    have g2 := own_mono (own_keeps (own_below HoT2.out hb3 (Nat.le_refl _)) hKf (fun k hk e => by have := own_base HoT2.out k hk; omega)) (base' := w.heap.size) (by omega)
    have g3 := own_mono (own_keeps HoM.out hKf (fun k hk e => by have := own_base HoM.out k hk; have := Hb2'.out.size; have := (Array.getElem?_eq_some_iff.1 HF2.out).1; omega)) (base' := w.heap.size) (Hb2'.out.size)
    refine bodyPost_ret (results_row_tmp rfl _ _ w.heap.size 43 _ (0, 0) _ rfl hB5 Tryz.underlying43 rfl (by kernel_rfl)) rfl ⟨_, _, _, ?_, g1, g2, g3, hb3'.trans (hKf.below (fun k hk => by omega) hb3'.size)⟩
    show Ending.returned (.tuple #[.agg #[.int .i64 m.id, .int .i64 m.parent, .int .i64 m.born, .string (strL m.frm), .slice a4 m.rcpts.length c4, .slice a4' m.body.length c4', .slice am ks.length cm, .int .i64 ((n : Int) + 28 * (ks.length : Int))], .bool true]) = .returned (.tuple #[.agg #[.int .i64 m.id, .int .i64 m.parent, .int .i64 m.born, .string (strL m.frm), .slice a4 m.rcpts.length c4, .slice a4' m.body.length c4', .slice am ks.length cm, .int .i64 ((n + 28 * ks.length : Nat) : Int)], .bool true])
    rw [show ((n + 28 * ks.length : Nat) : Int) = (n : Int) + 28 * (ks.length : Int) by omega]
end Go.Proofs.YtjddicoigbidlaaGreatDoor

set_option linter.unusedSimpArgs false
set_option linter.unusedVariables false
namespace Go.Proofs.YtjddicoigbidlaaGreatDoor
open Go.RowKit
/-- A file's fates. -/
def FileD.fates (f : FileD) : List FateD := fatesD (nFates (f.mail.rcpts.length : Int)) f.marks
set_option maxRecDepth 100000 in
set_option maxHeartbeats 4000000 in
theorem fileFates_calls (f : FileD) (vr vb vm : Value) (w : World) (hr : RdS w vr f.mail.rcpts) (hm : RdM w vm f.marks) :
    Calls Tryz.prog 29 #[fileVal f vr vb vm] w (FatesDone w f.fates) := by
  obtain ⟨ar, capr, rfl, _, _⟩ := hr.form
  obtain ⟨am, capm, rfl, _, _⟩ := hm.form
  obtain ⟨W, hW⟩ : ∃ W, w.alloc (.cells #[.int .i64 f.mail.id, .int .i64 f.mail.parent, .int .i64 f.mail.born, .string (strL f.mail.frm), .slice ar f.mail.rcpts.length capr, vb, .slice am f.marks.length capm, .int .i64 (f.good : Int)] 43) = W := ⟨_, rfl⟩
  have hbW : Below w.heap.size w W := by rw [← hW]; exact (Below.refl _ _).alloc (Nat.le_refl _) _
  have hF : W.heap[w.heap.size]? = some (.cells #[.int .i64 f.mail.id, .int .i64 f.mail.parent, .int .i64 f.mail.born, .string (strL f.mail.frm), .slice ar f.mail.rcpts.length capr, vb, .slice am f.marks.length capm, .int .i64 (f.good : Int)] 43 (0, 0)) := by rw [← hW]; exact heap_alloc_new w _
  have c4 := (cells8 hF).1.2.2.2.2.1
  have c6 := (cells8 hF).1.2.2.2.2.2.2.1
  have hcall := fates_calls (f.mail.rcpts.length : Int) (.slice am f.marks.length capm) f.marks W (hm.below (Nat.le_refl _) hbW)
  have Hcall := Lib.hid hcall
  have HbW := Lib.hid hbW
  clear hcall hF hbW hr hm
  subst hW
  go_enter Tryz.func29, Tryz.ntmps29
  go_wp2_with fail
  refine (Hcall.out).mono ?_; rintro e w1 ⟨g, cap, rfl, hown, hb1⟩
  go_wp2
  go_ret
  exact ⟨g, cap, rfl, own_mono hown HbW.out.size, HbW.out.trans (hb1.mono HbW.out.size)⟩
/-- Does a recipient wait? -/
def FateD.waits (x : FateD) : Bool := x.state == 0
set_option maxRecDepth 100000 in
set_option maxHeartbeats 1000000 in
theorem waits_calls (x : FateD) (w : World) : Calls Tryz.prog 65 #[x.val] w fun e w' => e = .returned (.bool x.waits) ∧ Below w.heap.size w w' := by
  obtain ⟨p, hp⟩ : ∃ p, x.waits = p := ⟨_, rfl⟩
  have hp' : (x.state == 0) = p := hp
  rw [hp]
  clear hp
  obtain ⟨st, tr, nx, cr, op⟩ := x
  simp only at hp'
  go_enter Tryz.func65, Tryz.ntmps65
  go_wp2
  go_ret
  exact ⟨by first | rfl | (rw [← hp']) | exact ret_bool hp'.symm, (Below.refl _ _).alloc (Nat.le_refl _) _⟩
end Go.Proofs.YtjddicoigbidlaaGreatDoor

set_option linter.unusedSimpArgs false
set_option linter.unusedVariables false
set_option maxRecDepth 100000
namespace Go.Proofs.YtjddicoigbidlaaGreatDoor
open Go.RowKit
set_option maxHeartbeats 4000000 in
theorem indexWaits_calls (v : Value) (fs : List FateD) (w : World) (hv : RdF w v fs) :
    Calls Tryz.prog 82 #[v, .func (.func 65) #[] #[]] w fun e w' => (∃ i : Int, e = .returned (.int .i64 i) ∧ ((0 ≤ i ∧ fs.any FateD.waits = true) ∨ (i = -1 ∧ fs.any FateD.waits = false))) ∧ Below w.heap.size w w' := by
  obtain ⟨a, cap, rfl, hlc, hcap⟩ := hv.form
  have Hv := Lib.hid hv
  have hni : (fs.length : Int) ≤ 9223372036854775807 := by omega
  clear hv
  go_enter Tryz.func82, Tryz.ntmps82
  go_wp2
  go_loopw [8] (fun i wr => ∃ j : Nat, j ≤ fs.length ∧ i = .int .i64 j ∧ (fs.take j).any FateD.waits = false ∧ Below w.heap.size w wr) (fun i _ => fs.length - (intOf i).toNat)
  case atStart => exact ⟨0, Nat.zero_le _, rfl, rfl, Below.refl _ _⟩
  case round =>
    obtain ⟨j, hj, rfl, hall, hbw⟩ := hrel
    by_cases hlt : j < fs.length
    · obtain ⟨l, hl⟩ : ∃ l, fs[j]? = some l := ⟨_, List.getElem?_eq_getElem hlt⟩
      obtain ⟨b, off, cap', hsl, hbl, y0, y1, y2, y3, y4⟩ := RdL.at5 (Hv.out.below (Nat.le_refl _) hbw) hl
      cases hsl
      have hcall := fun W => waits_calls l W
      have htk : l.waits = false → (fs.take (j + 1)).any FateD.waits = false := fun h => by rw [take_snoc hl, List.any_append, hall]; simpa using h
      have hno : l.waits = true → fs.any FateD.waits = true := fun h => by rw [List.any_eq_true]; exact ⟨l, List.mem_of_getElem? hl, h⟩
      generalize l.waits = p at hcall htk hno
      have Hcall := Lib.hid hcall
      have Htk := Lib.hid htk
      have Hno := Lib.hid hno
      have hj0 : (0 : Int) ≤ (j : Int) := by omega
      have hj1 : (j : Int) < (fs.length : Int) := by omega
      obtain ⟨st, tr, nx, cr, op⟩ := l
      simp only at y0 y1 y2 y3 y4
      clear hcall htk hno hall hl
      cases p
      · go_wp2_with fail
        refine (Hcall.out _).mono ?_; rintro e w2 ⟨rfl, hb2⟩
        go_wp2
        go_roundw
        case rel => exact ⟨j + 1, by omega, by simp, Htk.out (by trivial), hbw.trans (hb2.mono hbw.size)⟩
        case measure => simp [intOf] <;> omega
      · go_wp2_with fail
        refine (Hcall.out _).mono ?_; rintro e w2 ⟨rfl, hb2⟩
        go_wp2
        go_ret
        exact ⟨⟨_, rfl, .inl ⟨hj0, Hno.out (by trivial)⟩⟩, hbw.trans (hb2.mono hbw.size)⟩
    · have hje : j = fs.length := by omega
      subst hje
      rw [List.take_of_length_le (Nat.le_refl _)] at hall
      have Hall := Lib.hid hall
      clear hall
      go_wp2
      go_ret
      exact ⟨⟨_, rfl, .inr ⟨rfl, Hall.out⟩⟩, hbw⟩
set_option maxHeartbeats 4000000 in
theorem containsWaits_calls (v : Value) (fs : List FateD) (w : World) (hv : RdF w v fs) :
    Calls Tryz.prog 64 #[v, .func (.func 65) #[] #[]] w fun e w' => e = .returned (.bool (fs.any FateD.waits)) ∧ Below w.heap.size w w' := by
  have h1 := indexWaits_calls v fs w hv
  generalize fs.any FateD.waits = p at h1
  have H1 := Lib.hid h1
  clear h1 hv
  go_enter Tryz.func64, Tryz.ntmps64
  go_wp2_with fail
  refine (H1.out).mono ?_; rintro e w1 ⟨⟨i, rfl, hi⟩, hb1⟩
  rcases hi with ⟨h0, rfl⟩ | ⟨rfl, rfl⟩
  · go_wp2
    go_ret
    exact ⟨by first | rfl | simp [h0], hb1⟩
  · go_wp2
    go_ret
    exact ⟨rfl, hb1⟩
/-- A file that came in by value, in a block of its own. -/
theorem file_box (f : FileD) (vr vb vm : Value) (w : World) : Below w.heap.size w (w.alloc (.cells #[.int .i64 f.mail.id, .int .i64 f.mail.parent, .int .i64 f.mail.born, .string (strL f.mail.frm), vr, vb, vm, .int .i64 (f.good : Int)] 43)) ∧
    (w.alloc (.cells #[.int .i64 f.mail.id, .int .i64 f.mail.parent, .int .i64 f.mail.born, .string (strL f.mail.frm), vr, vb, vm, .int .i64 (f.good : Int)] 43)).heap[w.heap.size]? = some (.cells #[.int .i64 f.mail.id, .int .i64 f.mail.parent, .int .i64 f.mail.born, .string (strL f.mail.frm), vr, vb, vm, .int .i64 (f.good : Int)] 43 (0, 0)) :=
  ⟨(Below.refl _ _).alloc (Nat.le_refl _) _, heap_alloc_new w _⟩
set_option maxHeartbeats 4000000 in
theorem fileOver_calls (f : FileD) (vr vb vm : Value) (w : World) (hr : RdS w vr f.mail.rcpts) (hm : RdM w vm f.marks) (hbf : ∃ a c, vb = .slice a f.mail.body.length c) :
    Calls Tryz.prog 36 #[fileVal f vr vb vm] w fun e w' => e = .returned (.bool (!f.fates.any FateD.waits)) ∧ Below w.heap.size w w' := by
  obtain ⟨ar, capr, rfl, _, _⟩ := hr.form
  obtain ⟨am, capm, rfl, _, _⟩ := hm.form
  obtain ⟨ab, capb, rfl⟩ := hbf
  obtain ⟨hbW, hF⟩ := file_box f (.slice ar f.mail.rcpts.length capr) (.slice ab f.mail.body.length capb) (.slice am f.marks.length capm) w
  obtain ⟨W, hW⟩ : ∃ W, w.alloc (.cells #[.int .i64 f.mail.id, .int .i64 f.mail.parent, .int .i64 f.mail.born, .string (strL f.mail.frm), .slice ar f.mail.rcpts.length capr, .slice ab f.mail.body.length capb, .slice am f.marks.length capm, .int .i64 (f.good : Int)] 43) = W := ⟨_, rfl⟩
  rw [hW] at hbW hF
  obtain ⟨c0, c1, c2, c3, c4, c5, c6, c7⟩ := (cells8 hF).1
  have hcall := fileFates_calls f (.slice ar f.mail.rcpts.length capr) (.slice ab f.mail.body.length capb) (.slice am f.marks.length capm) W (hr.below (Nat.le_refl _) hbW) (hm.below (Nat.le_refl _) hbW)
  generalize f.fates = fs at hcall
  obtain ⟨p, hp⟩ : ∃ p, fs.any FateD.waits = p := ⟨_, rfl⟩
  rw [hp]
  have Hp := Lib.hid hp
  clear hp
  have Hcall := Lib.hid hcall
  have HbW := Lib.hid hbW
  clear hcall hbW hF hr hm
  subst hW
  go_enter Tryz.func36, Tryz.ntmps36
  go_wp2_with fail
  refine (Hcall.out).mono ?_; rintro e w1 ⟨g, cap, rfl, hown, hb1⟩
  have hbw1 := HbW.out.trans (hb1.mono HbW.out.size)
  have hcc := containsWaits_calls _ fs w1 (rdL_ofOwn fate_len (by decide) hown)
  rw [Hp.out] at hcc
  have Hcc := Lib.hid hcc
  clear hcc hown
  go_wp2_with fail
  refine (Hcc.out).mono ?_; rintro e w2 ⟨rfl, hb2⟩
  go_wp2
  go_ret
  exact ⟨rfl, hbw1.trans (hb2.mono hbw1.size)⟩
/-- A number's cell. -/
def i1 (n : Nat) : List Value := [.int .i64 (n : Int)]
theorem i1_len (n : Nat) : (i1 n).length = 1 := rfl
abbrev RdI := RdL 1 i1
theorem RdI.at {w : World} {v : Value} {ls : List Nat} (h : RdI w v ls) {i l : Nat} (hl : ls[i]? = some l) :
    ∃ b off cap, v = .slice (some ⟨b, off, none⟩) ls.length cap ∧ b < w.heap.size ∧ w.cell? ⟨b, off + i, none⟩ = some (.int .i64 (l : Int)) := by
  obtain ⟨b, off, cap, h1, h2, h3⟩ := RdL.at h hl
  have := h3 0 _ rfl
  rw [Nat.mul_one, Nat.add_zero] at this
  exact ⟨b, off, cap, h1, h2, this⟩
set_option maxHeartbeats 4000000 in
theorem refInts_calls (v1 v2 : Value) (xs : List Nat) (w : World) (h1 : RdI w v1 xs) (h2 : RdI w v2 xs) :
    Calls Tryz.prog 33 #[v1, v2] w fun e w' => e = .returned (.bool true) ∧ Below w.heap.size w w' := by
  obtain ⟨a1, cap1, rfl, hl1, hc1⟩ := h1.form
  obtain ⟨a2, cap2, rfl, hl2, hc2⟩ := h2.form
  have H1 := Lib.hid h1
  have H2 := Lib.hid h2
  have hni : (xs.length : Int) ≤ 9223372036854775807 := by omega
  clear h1 h2
  go_enter Tryz.func33, Tryz.ntmps33
  go_wp2
  go_loopw [5] (fun i wr => ∃ j : Nat, j ≤ xs.length ∧ i = .int .i64 j ∧ Below w.heap.size w wr) (fun i _ => xs.length - (intOf i).toNat)
  case atStart => exact ⟨0, Nat.zero_le _, rfl, Below.refl _ _⟩
  case round =>
    obtain ⟨j, hj, rfl, hbw⟩ := hrel
    by_cases hlt : j < xs.length
    · obtain ⟨x, hx⟩ : ∃ x, xs[j]? = some x := ⟨_, List.getElem?_eq_getElem hlt⟩
      obtain ⟨b1, o1, k1, e1, _, p1⟩ := RdI.at (H1.out.below (Nat.le_refl _) hbw) hx
      obtain ⟨b2, o2, k2, e2, _, p2⟩ := RdI.at (H2.out.below (Nat.le_refl _) hbw) hx
      cases e1
      simp only [Value.slice.injEq] at e2
      obtain ⟨rfl, _, rfl⟩ := e2
      have hj0 : (0 : Int) ≤ (j : Int) := by omega
      have hj1 : (j : Int) < (xs.length : Int) := by omega
      clear hx
      go_wp2
      go_quiet (fail)
      go_wp2
      go_roundw
      case rel => exact ⟨j + 1, by omega, by simp, below_drewN hbw _⟩
      case measure => simp [intOf] <;> omega
    · have hjl : ¬ ((j : Int) < (xs.length : Int)) := by omega
      go_wp2
      go_ret
      exact ⟨rfl, hbw⟩
end Go.Proofs.YtjddicoigbidlaaGreatDoor

set_option linter.unusedSimpArgs false
set_option linter.unusedVariables false
set_option maxRecDepth 100000
namespace Go.Proofs.YtjddicoigbidlaaGreatDoor
open Go.RowKit
/-- Has an attempt begun, and not ended? -/
def FateD.isOpen (x : FateD) : Bool := x.opened && x.waits
/-- Those of the first ones whose attempts are open. -/
def openTo (fs : List FateD) (j : Nat) : List Nat := (List.range j).filter fun i => match fs[i]? with
  | some x => x.isOpen
  | none => false
theorem openTo_succ {fs : List FateD} {j : Nat} {x : FateD} (h : fs[j]? = some x) : openTo fs (j + 1) = openTo fs j ++ if x.isOpen then [j] else [] := by
  unfold openTo
  rw [List.range_succ, List.filter_append]
  congr 1
  rw [List.filter_cons, h]
  cases hx : x.isOpen <;> simp [hx]
theorem openTo_len (fs : List FateD) (j : Nat) : (openTo fs j).length ≤ j := by
  unfold openTo
  have := List.length_filter_le (fun i => match fs[i]? with | some x => x.isOpen | none => false) (List.range j)
  rw [List.length_range] at this
  exact this
def IntsDone (w : World) (ns : List Nat) (e : Ending) (w' : World) : Prop :=
  ∃ v, e = .returned v ∧ w'.ownsRow w.heap.size 3 1 v ns.length (ns.flatMap i1) ∧ Below w.heap.size w w'
theorem infoInt : (Tryz.prog.info? 3).map (fun i => (i.zero, i.size, i.bytes)) = some (some (.int .i64 0), 1, 8) := by kernel_rfl
set_option maxHeartbeats 8000000 in
theorem fileOpen_calls (f : FileD) (vr vb vm : Value) (w : World) (hr : RdS w vr f.mail.rcpts) (hm : RdM w vm f.marks) (hbf : ∃ a c, vb = .slice a f.mail.body.length c) (hl8 : f.fates.length ≤ 8) :
    Calls Tryz.prog 34 #[fileVal f vr vb vm] w (IntsDone w (openTo f.fates f.fates.length)) := by
  obtain ⟨i0, hi, hz0, hz1, hz2⟩ := info_parts infoInt
  obtain ⟨ar, capr, rfl, _, _⟩ := hr.form
  obtain ⟨am, capm, rfl, _, _⟩ := hm.form
  obtain ⟨ab, capb, rfl⟩ := hbf
  obtain ⟨hbW, hF⟩ := file_box f (.slice ar f.mail.rcpts.length capr) (.slice ab f.mail.body.length capb) (.slice am f.marks.length capm) w
  obtain ⟨W, hW⟩ : ∃ W, w.alloc (.cells #[.int .i64 f.mail.id, .int .i64 f.mail.parent, .int .i64 f.mail.born, .string (strL f.mail.frm), .slice ar f.mail.rcpts.length capr, .slice ab f.mail.body.length capb, .slice am f.marks.length capm, .int .i64 (f.good : Int)] 43) = W := ⟨_, rfl⟩
  rw [hW] at hbW hF
  obtain ⟨c0, c1, c2, c3, c4, c5, c6, c7⟩ := (cells8 hF).1
  have hcall := fileFates_calls f (.slice ar f.mail.rcpts.length capr) (.slice ab f.mail.body.length capb) (.slice am f.marks.length capm) W (hr.below (Nat.le_refl _) hbW) (hm.below (Nat.le_refl _) hbW)
  generalize f.fates = fs at hcall hl8
  have Hcall := Lib.hid hcall
  have HbW := Lib.hid hbW
  clear hcall hbW hF hr hm
  subst hW
  have hz : ∀ w, (zeroValue 57).run Tryz.prog w = .ok (.agg #[.int .i64 0, .int .i64 0, .int .i64 0, .int .i64 0, .bool false]) w := fun _ => by kernel_rfl
  go_enter Tryz.func34, Tryz.ntmps34
  go_wp2_with fail
  refine (Hcall.out).mono ?_; rintro e w1 ⟨g, cap, rfl, hown, hb1⟩
  have hbw1 := HbW.out.trans (hb1.mono HbW.out.size)
  have hrd := rdL_ofOwn fate_len (by decide) hown
  have Hrd := Lib.hid hrd
  have hg1 : w.heap.size ≤ g := by have := own_base hown g rfl; have := HbW.out.size; omega
  have hs1 : w.heap.size ≤ w1.heap.size := hbw1.size
  have hnil : w1.ownsRow w1.heap.size 3 1 (.slice none 0 0) 0 [] := World.ownsRow_nil _ _ _ _
  clear hown hrd
  go_wp2
  go_loopw [3, 9] (fun o i wr => ∃ j : Nat, j ≤ fs.length ∧ i = .int .i64 j ∧ wr.ownsRow w1.heap.size 3 1 o (openTo fs j).length ((openTo fs j).flatMap i1) ∧ Below w1.heap.size w1 wr) (fun _ i _ => fs.length - (intOf i).toNat)
  case atStart => exact ⟨0, Nat.zero_le _, rfl, hnil, Below.refl _ _⟩
  case round =>
    obtain ⟨j, hj, rfl, hown, hbw⟩ := hrel
    by_cases hlt : j < fs.length
    · obtain ⟨x, hx⟩ : ∃ x, fs[j]? = some x := ⟨_, List.getElem?_eq_getElem hlt⟩
      obtain ⟨b, off, cap', hsl, hbl, y0, y1, y2, y3, y4⟩ := RdL.at5 (Hrd.out.below (Nat.le_refl _) hbw) hx
      cases hsl
      simp only [Nat.zero_add] at y0 y1 y2 y3 y4
      have hj0 : (0 : Int) ≤ (j : Int) := by omega
      have hj1 : (j : Int) < (fs.length : Int) := by omega
      have hsucc := openTo_succ hx
      have hol := openTo_len fs j
      generalize openTo fs j = os at hown hsucc hol
      obtain ⟨st, tr, nx, cr, op⟩ := x
      simp only at y0 y1 y2 y3 y4
      obtain ⟨ao, co, hvo⟩ := own_form0 hown
      subst hvo
      have Hsucc := Lib.hid hsucc
      have Hown := Lib.hid hown
      clear hsucc hx hown
      cases op
      · go_wp2
        go_roundw
        case rel =>
          have h := Hsucc.out
          simp only [FateD.isOpen, Bool.false_and, Bool.false_eq_true, if_false, List.append_nil] at h
          refine ⟨j + 1, by omega, by simp, ?_, hbw.alloc hbw.size _⟩
          rw [h]; exact World.ownsRow.alloc Hown.out _
        case measure => simp [intOf] <;> omega
      · by_cases hst : st = 0
        · subst hst
          obtain ⟨wa, hwa⟩ : ∃ wa, wr.alloc (.cells #[.int .i64 0, .int .i64 tr, .int .i64 nx, .int .i64 cr, .bool true] 57) = wa := ⟨_, rfl⟩
          have hba : Below wr.heap.size wr wa := by rw [← hwa]; exact (Below.refl _ _).alloc (Nat.le_refl _) _
          have hsa : wa.heap.size = wr.heap.size + 1 := by rw [← hwa]; simp
          have howna := own_below Hown.out hba (Nat.le_refl _)
          have hncell := news_new wa [.int .i64 (j : Int)] 3 (0, 0)
          have hcs1 : ∀ u ∈ [Value.int .i64 (j : Int)], u.oneCell' = true := by intro u hu; rw [List.mem_singleton.1 hu]; rfl
          have hbd1 : os.length + 1 ≤ maxLen := by show _ ≤ 9223372036854775807; omega
          have hbd2 : (os.length + 1) * 8 ≤ 140737488355328 := by omega
          have hbd3 : w1.heap.size ≤ (wa.alloc (.cells #[.int .i64 (j : Int)] 3)).heap.size := by have := hbw.size; simp; omega
          have hownA : (wa.alloc (.cells #[.int .i64 (j : Int)] 3)).ownsRow w1.heap.size 3 1 (.slice ao os.length co) os.length (os.flatMap i1) := World.ownsRow.alloc howna _
          rw [hsa] at hncell
          have Hncell := Lib.hid hncell
          have Hcs1 := Lib.hid hcs1
          have HownA := Lib.hid hownA
          have Hba := Lib.hid hba
          have hbwa := hbw.trans (hba.mono hbw.size)
          have hownBase := own_base Hown.out
          clear hncell hcs1 hownA hba howna hsa
          subst hwa
          go_wp2_with (at_builtin; go_must (refine wpList_append_own _ rfl (.tmp 21) (.tmp 23) 61 rfl w1.heap.size 3 i0 _ 1 8 Tryz.underlying61 hi hz0 hz1 hz2 rfl (by decide) _ _ _ rfl HownA.out ⟨wr.heap.size + 1, 0, none⟩ 1 1 [.int .i64 (j : Int)] rfl rfl Hncell.out Hcs1.out hbd1 hbd2 hbd3 ?_); rintro v' w3 hown3 hg3 _)
          go_wp2
          have hb3 := (hbwa.alloc hbwa.size (.cells #[.int .i64 (j : Int)] 3)).grown hg3 (by have := hbwa.size; simp only [World.size_alloc] at this ⊢; omega) (fun k hk => hownBase k hk)
          have Hown3 := Lib.hid hown3
          clear hown3 hg3
          go_roundw
          case rel =>
            have h := Hsucc.out
            refine ⟨j + 1, by omega, by simp, ?_, hb3⟩
            rw [show openTo fs (j + 1) = os ++ [j] from h, List.length_append, List.flatMap_append, List.flatMap_singleton]
            exact Hown3.out
          case measure => simp [intOf] <;> omega
        · have hst' : (st == 0) = false := by simpa using hst
          go_wp2
          go_roundw
          case rel =>
            have h := Hsucc.out
            simp only [FateD.isOpen, FateD.waits, hst', Bool.and_false, Bool.false_eq_true, if_false, List.append_nil] at h
            refine ⟨j + 1, by omega, by simp, ?_, hbw.alloc hbw.size _⟩
            rw [h]; exact World.ownsRow.alloc Hown.out _
          case measure => simp [intOf] <;> omega
    · have hje : j = fs.length := by omega
      subst hje
      have hjl : ¬ ((fs.length : Int) < (fs.length : Int)) := by omega
      have Hown := Lib.hid hown
      clear hown
      go_wp2
      go_ret
      exact ⟨_, rfl, own_mono Hown.out hs1, hbw1.trans (hbw.mono hs1)⟩
end Go.Proofs.YtjddicoigbidlaaGreatDoor

set_option linter.unusedSimpArgs false
set_option linter.unusedVariables false
namespace Go.Proofs.YtjddicoigbidlaaGreatDoor
open Go.RowKit
set_option maxRecDepth 100000 in
set_option maxHeartbeats 8000000 in
theorem refGood_calls (m : MailD) (vr vb : Value) (w : World) (hr : RdS w vr m.rcpts) (hb : RdB w vb m.body) (hsr : ∀ l ∈ m.rcpts, l.length ≤ 4294967270) (hsf : m.frm.length ≤ 4294967270) :
    Calls Tryz.prog 16 #[mailVal m vr vb] w fun e w' => e = .returned (.bool m.good) ∧ Below w.heap.size w w' := by
  obtain ⟨ar, capr, rfl, hlr, hcr⟩ := hr.form
  obtain ⟨ab, capb, rfl, hlb, hcb⟩ := hb.form
  obtain ⟨g, hg⟩ : ∃ g, m.good = g := ⟨_, rfl⟩
  rw [hg]
  obtain ⟨id, parent, born, frm, rcpts, body⟩ := m
  simp only at hr hb hsr hsf hlr hlb
  unfold MailD.good at hg
  unfold mailVal
  simp only at hg ⊢
  obtain ⟨W, hW⟩ : ∃ W, w.alloc (.cells #[.int .i64 id, .int .i64 parent, .int .i64 born, .string (strL frm), .slice ar rcpts.length capr, .slice ab body.length capb] 25) = W := ⟨_, rfl⟩
  have hbW : Below w.heap.size w W := by rw [← hW]; exact (Below.refl _ _).alloc (Nat.le_refl _) _
  have hblk : W.heap[w.heap.size]? = some (.cells #[.int .i64 id, .int .i64 parent, .int .i64 born, .string (strL frm), .slice ar rcpts.length capr, .slice ab body.length capb] 25 (0, 0)) := by rw [← hW]; exact heap_alloc_new w _
  have hbd := refBody_calls (.slice ab body.length capb) body W (hb.below (Nat.le_refl _) hbW)
  have hbx := fun W => refBox_calls (strL frm) W (by rw [strL_size]; exact hsf)
  have hbr := fun (l : List UInt8) W (h : l ∈ rcpts) => refBox_calls (strL l) W (by rw [strL_size]; exact hsr l h)
  simp only [strL_data] at hbx hbr
  have hcell : ∀ W', Below W.heap.size W W' → ∀ (j : Nat) v, (#[Value.int .i64 id, .int .i64 parent, .int .i64 born, .string (strL frm), .slice ar rcpts.length capr, .slice ab body.length capb] : Array Value)[j]? = some v → W'.cell? ⟨w.heap.size, j, none⟩ = some v := by
    intro W' hB j v hv
    rw [cell_of_row _ _ _ _ _ _ ((hB.block _ (Array.getElem?_eq_some_iff.1 hblk).1).trans hblk)]
    exact hv
  have hRW : ∀ W', Below W.heap.size W W' → RdS W' (.slice ar rcpts.length capr) rcpts := fun W' hB => (hr.below (Nat.le_refl _) hbW).below (Nat.le_refl _) hB
  have c0 := hcell W (Below.refl _ _) 0 _ rfl
  have c1 := hcell W (Below.refl _ _) 1 _ rfl
  have c2 := hcell W (Below.refl _ _) 2 _ rfl
  have c4 := hcell W (Below.refl _ _) 4 _ rfl
  have c5 := hcell W (Below.refl _ _) 5 _ rfl
  have hsf0 := strL_size frm
  generalize bodyB body = p6 at hbd hg
  generalize boxB frm = p8 at hbx hg
  have Hg := Lib.hid hg
  have Hbd := Lib.hid hbd
  have Hbx := Lib.hid hbx
  have Hbr := Lib.hid hbr
  have Hcell := Lib.hid hcell
  have HRW := Lib.hid hRW
  have hfl : frm.length = 0 ↔ (strL frm).size = 0 := by rw [hsf0]
  have Hfl := Lib.hid hfl
  clear hg hbd hbx hbr hcell hRW hr hb hsr hsf hblk hsf0 hfl
  have hlri : (rcpts.length : Int) ≤ 9223372036854775807 := by omega
  have hlbi : (body.length : Int) ≤ 9223372036854775807 := by omega
  by_cases k0 : id < 1
  · have hgf := Hg.out
    rw [decide_eq_false (by omega : ¬ (1 ≤ id ∧ id ≤ 999999999))] at hgf
    simp only [Bool.false_and, Bool.and_false] at hgf
    subst hgf
    clear Hg
    go_enter Tryz.func16, Tryz.ntmps16
    go_wp2
    go_ret
    exact ⟨rfl, hbW⟩
  by_cases k1 : 999999999 < id
  · have hgf := Hg.out
    rw [decide_eq_false (by omega : ¬ (1 ≤ id ∧ id ≤ 999999999))] at hgf
    simp only [Bool.false_and, Bool.and_false] at hgf
    subst hgf
    clear Hg
    go_enter Tryz.func16, Tryz.ntmps16
    go_wp2
    go_ret
    exact ⟨rfl, hbW⟩
  by_cases k2 : parent < 0
  · have hgf := Hg.out
    rw [decide_eq_false (by omega : ¬ (0 ≤ parent ∧ parent ≤ id - 1))] at hgf
    simp only [Bool.false_and, Bool.and_false] at hgf
    subst hgf
    clear Hg
    go_enter Tryz.func16, Tryz.ntmps16
    go_wp2
    go_ret
    exact ⟨rfl, hbW⟩
  by_cases k3 : id ≤ parent
  · have hgf := Hg.out
    rw [decide_eq_false (by omega : ¬ (0 ≤ parent ∧ parent ≤ id - 1))] at hgf
    simp only [Bool.false_and, Bool.and_false] at hgf
    subst hgf
    clear Hg
    go_enter Tryz.func16, Tryz.ntmps16
    go_wp2
    go_ret
    exact ⟨rfl, hbW⟩
  by_cases k4 : born < 0
  · have hgf := Hg.out
    rw [decide_eq_false (by omega : ¬ (0 ≤ born ∧ born ≤ 1099511627776))] at hgf
    simp only [Bool.false_and, Bool.and_false] at hgf
    subst hgf
    clear Hg
    go_enter Tryz.func16, Tryz.ntmps16
    go_wp2
    go_ret
    exact ⟨rfl, hbW⟩
  by_cases k5 : 1099511627776 < born
  · have hgf := Hg.out
    rw [decide_eq_false (by omega : ¬ (0 ≤ born ∧ born ≤ 1099511627776))] at hgf
    simp only [Bool.false_and, Bool.and_false] at hgf
    subst hgf
    clear Hg
    go_enter Tryz.func16, Tryz.ntmps16
    go_wp2
    go_ret
    exact ⟨rfl, hbW⟩
  by_cases k6 : (rcpts.length : Int) < 1
  · have hgf := Hg.out
    rw [decide_eq_false (by omega : ¬ (1 ≤ (rcpts.length : Int) ∧ (rcpts.length : Int) ≤ 8))] at hgf
    simp only [Bool.false_and, Bool.and_false] at hgf
    subst hgf
    clear Hg
    go_enter Tryz.func16, Tryz.ntmps16
    go_wp2
    go_ret
    exact ⟨rfl, hbW⟩
  by_cases k7 : 8 < (rcpts.length : Int)
  · have hgf := Hg.out
    rw [decide_eq_false (by omega : ¬ (1 ≤ (rcpts.length : Int) ∧ (rcpts.length : Int) ≤ 8))] at hgf
    simp only [Bool.false_and, Bool.and_false] at hgf
    subst hgf
    clear Hg
    go_enter Tryz.func16, Tryz.ntmps16
    go_wp2
    go_ret
    exact ⟨rfl, hbW⟩
  by_cases k8 : 8192 < (body.length : Int)
  · have hgf := Hg.out
    rw [decide_eq_false (by omega : ¬ (body.length ≤ 8192))] at hgf
    simp only [Bool.false_and, Bool.and_false] at hgf
    subst hgf
    clear Hg
    go_enter Tryz.func16, Tryz.ntmps16
    go_wp2
    go_ret
    exact ⟨rfl, hbW⟩
  have hg := Hg.out
  rw [decide_eq_true (by omega : 1 ≤ id ∧ id ≤ 999999999)] at hg
  rw [decide_eq_true (by omega : 0 ≤ parent ∧ parent ≤ id - 1)] at hg
  rw [decide_eq_true (by omega : 0 ≤ born ∧ born ≤ 1099511627776)] at hg
  rw [decide_eq_true (by omega : 1 ≤ (rcpts.length : Int) ∧ (rcpts.length : Int) ≤ 8)] at hg
  rw [decide_eq_true (by omega : body.length ≤ 8192)] at hg
  simp only [Bool.true_and] at hg
  have Hg2 := Lib.hid hg
  clear Hg hg
  cases p6
  · have hgf := Hg2.out
    simp only [Bool.false_and] at hgf
    subst hgf
    clear Hg2
    go_enter Tryz.func16, Tryz.ntmps16
    go_wp2_with fail
    refine (Hbd.out).mono ?_; rintro e w6 ⟨rfl, rfl⟩
    go_wp2
    go_ret
    exact ⟨rfl, hbW⟩
  go_enter Tryz.func16, Tryz.ntmps16
  go_wp2_with fail
  refine (Hbd.out).mono ?_; rintro e w6 ⟨rfl, hw6⟩
  subst hw6
  go_wp2
  go_loopw [3] (fun i wr => ∃ j : Nat, j ≤ rcpts.length ∧ i = .int .i64 j ∧ (rcpts.take j).all boxB = true ∧ Below w6.heap.size w6 wr) (fun i _ => rcpts.length - (intOf i).toNat)
  case atStart => exact ⟨0, Nat.zero_le _, rfl, rfl, Below.refl _ _⟩
  case round =>
    obtain ⟨j, hj, rfl, hall, hbw⟩ := hrel
    have c4' := Hcell.out wr hbw 4 _ rfl
    have c3' := Hcell.out wr hbw 3 _ rfl
    have hbw' := hbW.trans (hbw.mono hbW.size)
    by_cases hlt : j < rcpts.length
    · obtain ⟨l, hl⟩ : ∃ l, rcpts[j]? = some l := ⟨_, List.getElem?_eq_getElem hlt⟩
      obtain ⟨b, off, cap', hsl, hbl, hc⟩ := RdS.at (HRW.out wr hbw) hl
      cases hsl
      have hcall := fun W => Hbr.out l W (List.mem_of_getElem? hl)
      have htk : boxB l = true → (rcpts.take (j + 1)).all boxB = true := fun h => by rw [take_snoc hl, List.all_append, hall]; simpa using h
      have hno : boxB l = false → g = false := fun h => by
        have : rcpts.all boxB = false := by rw [List.all_eq_false]; exact ⟨l, List.mem_of_getElem? hl, by rw [h]; simp⟩
        rw [← Hg2.out, this]; simp
      generalize boxB l = q at hcall htk hno
      have Hcall := Lib.hid hcall
      have Htk := Lib.hid htk
      have Hno := Lib.hid hno
      have hj0 : (0 : Int) ≤ (j : Int) := by omega
      have hj1 : (j : Int) < (rcpts.length : Int) := by omega
      clear hcall htk hno hall hl
      generalize strL l = sl at hc Hcall
      cases q
      · go_wp2_with fail
        refine (Hcall.out _).mono ?_; rintro e w7 ⟨rfl, hb7⟩
        go_wp2
        go_ret
        exact ⟨by rw [Hno.out (by trivial)]; rfl, hbw'.trans (hb7.mono hbw'.size)⟩
      · go_wp2_with fail
        refine (Hcall.out _).mono ?_; rintro e w7 ⟨rfl, hb7⟩
        go_wp2
        go_roundw
        case rel => exact ⟨j + 1, by omega, by simp, Htk.out (by trivial), hbw.trans (hb7.mono hbw.size)⟩
        case measure => simp [intOf] <;> omega
    · have hje : j = rcpts.length := by omega
      rw [hje, List.take_of_length_le (Nat.le_refl _)] at hall
      have hg2 := Hg2.out
      rw [hall, Bool.and_true, Bool.true_and] at hg2
      have hjn : (j : Int) = (rcpts.length : Int) := by omega
      have Hg3 := Lib.hid hg2
      have hjl : ¬ ((j : Int) < (rcpts.length : Int)) := by omega
      clear hall hg2 hje hjn
      by_cases h7 : frm.length = 0
      · have hz := empty_of_size (Hfl.out.1 h7)
        rw [hz] at c3'
        have hgt : g = true := by rw [← Hg3.out, decide_eq_true h7]; rfl
        subst hgt
        clear hz h7 Hg2
        go_wp2
        go_ret
        exact ⟨rfl, hbw'⟩
      · have hne : (strL frm).size ≠ 0 := fun h => h7 (Hfl.out.2 h)
        have hb1 := empty_ne hne
        have hb2 : (strL frm).toList.isEmpty = false := by simpa using hb1
        have hgt : g = p8 := by rw [← Hg3.out, decide_eq_false h7]; rfl
        subst hgt
        clear h7 hne Hg2
        go_wp2_with fail
        refine (Hbx.out _).mono ?_; rintro e w8 ⟨rfl, hb8⟩
        go_wp2
        go_ret
        exact ⟨rfl, hbw'.trans (hb8.mono hbw'.size)⟩
end Go.Proofs.YtjddicoigbidlaaGreatDoor
