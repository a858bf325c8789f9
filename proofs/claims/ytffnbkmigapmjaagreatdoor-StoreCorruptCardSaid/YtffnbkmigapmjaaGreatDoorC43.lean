/-
  The walk of pillarboxref10.Begins.
-/
import Derived.Test.YtffnbkmigapmjaaGreatDoorC31
import Derived.Test.YtffnbkmigapmjaaGreatDoorC42
set_option linter.unusedSimpArgs false
set_option linter.unusedVariables false
namespace Go.Proofs.YtffnbkmigapmjaaGreatDoor
open Go.RowKit
theorem eye_new {w : World} {v : Value} {bs : List UInt8} (h : RdB w v bs) (hn : NilOk v) (hl : ∀ k, v.ownBlock = some k → k < w.heap.size) :
    EySt (w.alloc (.cells #[v, .bool false] 90)) w.heap.size v.ownBlock (some bs) :=
  EySt.start ⟨heap_alloc_new w _, h.below (Nat.le_refl _) ((Below.refl _ _).alloc (Nat.le_refl _) _), fun e => by have := hl _ e; omega⟩ hn (fun k e => by have := hl k e; simp; omega)
/-- What stays while the checksum is compared. -/
def BgRest (w0 : World) (v4 : Value) (q : List UInt8) (w : World) : Prop := Below w0.heap.size w0 w ∧ RdB w v4 q
abbrev BgS (w0 : World) (X : Nat) (vx v4 : Value) (q : List UInt8) (sq : ByteArray) (w : World) : Prop :=
  w.cell? ⟨X, 0, none⟩ = some vx ∧ w.cell? ⟨X, 1, none⟩ = some (.bool false) ∧ (convert 22 9 v4).run Tryz.prog w = .ok (.string sq) w ∧ BgRest w0 v4 q w
theorem BgS.go {w0 w w' : World} {X : Nat} {vx v4 : Value} {q : List UInt8} {sq : ByteArray} (hq : Hid (strL q = sq)) (hb : Below w.heap.size w w') (h : BgS w0 X vx v4 q sq w) : BgS w0 X vx v4 q sq w' := by
  have hq := hq.out
  subst hq
  obtain ⟨h1, h2, _, h3, h4⟩ := h
  have l1 := World.block_lt_of_cell? w ⟨X, 0, none⟩ h1
  obtain ⟨cc, f⟩ := below_cell hb
  have h4' := h4.below (Nat.le_refl _) hb
  exact ⟨(cc _ _ l1).trans h1, (cc _ _ l1).trans h2, run_strL h4', h3.trans (hb.mono h3.size), h4'⟩
set_option maxRecDepth 100000 in
set_option maxHeartbeats 16000000 in
theorem refBegins_calls (v : Value) (bs : List UInt8) (w : World) (hv : RdB w v bs) (hlen : bs.length ≤ 100000000) (hnv : NilOk v) (hol : ∀ k, v.ownBlock = some k → k < w.heap.size) :
    Calls Tryz.prog 13 #[v] w (DecRes w (decodeMail bs)) := by
  obtain ⟨i0, hi, hz0, hz1, hz2⟩ := info_parts infoStr
  obtain ⟨a, cap, rfl, hl, hc⟩ := hv.form
  have hz : ∀ w, (zeroValue 29).run Tryz.prog w = .ok (.agg #[.int .i64 0, .int .i64 0, .int .i64 0, .string ⟨#[]⟩, .slice none 0 0, .slice none 0 0]) w := fun _ => by kernel_rfl
  obtain ⟨r, hr⟩ : ∃ r, decodeMail bs = r := ⟨_, rfl⟩
  rw [hr]
  rw [decodeMail] at hr
  have hsh := fun q (h : (bytesO (some bs)).2 = some q) => bytesO_shape bs h
  have hle := (bytesO_left (o := some bs) (L := 100000000) (fun q e => by cases e; exact hlen)).1
  have hb0 : Below w.heap.size w (w.alloc (.cells #[.int .i64 0, .int .i64 0, .int .i64 0, .string ⟨#[]⟩, .slice none 0 0, .slice none 0 0] 29)) := (Below.refl _ _).alloc (Nat.le_refl _) _
  have hx0 := eye_new (hv.below (Nat.le_refl _) hb0) hnv (fun k e => by have := hol k e; simp; omega)
  have hcall := eBytesS hx0 (fun q e => by cases e; omega)
  have hM0 : ((w.alloc (.cells #[.int .i64 0, .int .i64 0, .int .i64 0, .string ⟨#[]⟩, .slice none 0 0, .slice none 0 0] 29)).alloc (.cells #[.slice a bs.length cap, .bool false] 90)).heap[w.heap.size]? = some (.cells #[.int .i64 0, .int .i64 0, .int .i64 0, .string ⟨#[]⟩, .slice none 0 0, .slice none 0 0] 29 (0, 0)) := heap_alloc2_old w _ _
  have hbx : Below w.heap.size w ((w.alloc (.cells #[.int .i64 0, .int .i64 0, .int .i64 0, .string ⟨#[]⟩, .slice none 0 0, .slice none 0 0] 29)).alloc (.cells #[.slice a bs.length cap, .bool false] 90)) := hb0.alloc (by simp) _
  simp only [World.size_alloc] at hcall
  generalize bytesO (some bs) = P at hr hsh hle hcall
  obtain ⟨I, o⟩ := P
  have Hr := Lib.hid hr
  have Hsh := Lib.hid hsh
  have Hle := Lib.hid hle
  have Hcall := Lib.hid hcall
  have HM0 := Lib.hid hM0
  have Hbx := Lib.hid hbx
  have hbsl : (bs.length : Int) ≤ 100000000 := by omega
  generalize (Value.slice a bs.length cap).ownBlock = ob at *
  clear hr hsh hle hcall hM0 hbx hx0 hb0 hv hol
  go_enter Tryz.func13, Tryz.ntmps13
  go_wp2_with fail
  refine (Hcall.out).mono ?_; rintro e w1 ⟨vi, rfl, hoI, hx1, hK1⟩
  have hle := Hle.out
  simp only at hoI hx1 hle ⊢
  have hM1 := hK1.heap HM0.out (by omega)
  have hbw1 : Below w.heap.size w w1 := Hbx.out.trans (hK1.below (B := w.heap.size) (fun i hi => by omega) Hbx.out.size)
  obtain ⟨ai, ci, hvi⟩ := own_form0 hoI
  subst hvi
  obtain ⟨vx, xs, badx, hEx, hobx, hox, hnx, hlx⟩ := hx1
  obtain ⟨x0, x1, -, -⟩ := hEx.cells
  obtain ⟨ax, cx, rfl, hcx1, hcx2⟩ := hEx.rd.form
  have hrx := hEx.rd
  have HM1 := Lib.hid hM1
  have HoI := Lib.hid hoI
  have hi1 : (I.length : Int) ≤ 100000000 := by omega
  clear hM1 hoI Hcall hEx hobx
  cases o with
  | none =>
    have hrn : r = none := Hr.out.symm
    subst hrn
    have hbt : badx = true := by cases badx; cases hox; rfl
    subst hbt
    go_wp2_with fail
    go_quiet (fail)
    rename_i nq
    obtain ⟨⟨y0, y1, y2, y3, y4, y5⟩, z0, z1, z2, z3, z4, z5⟩ := cells6 (show (w1.drewN nq).heap[w.heap.size]? = _ from HM1.out)
    go_wp2
    have hB5 := heap6 ⟨_, _, _, _, _, _, (show (w1.drewN nq).heap[w.heap.size]? = _ from HM1.out)⟩ (.int .i64 0) (.int .i64 0) (.int .i64 0) (.string ⟨#[]⟩) (.slice none 0 0) (.slice none 0 0)
    refine bodyPost_ret (results_row_tmp2 rfl _ _ w.heap.size 29 _ (0, 0) _ rfl hB5 Tryz.underlying29 rfl (by kernel_rfl)) rfl (decRes_none rfl ?_)
    exact ((((((below_drewN hbw1 nq).setCell (by exact Nat.le_refl _) _).setCell (by exact Nat.le_refl _) _).setCell (by exact Nat.le_refl _) _).setCell (by exact Nat.le_refl _) _).setCell (by exact Nat.le_refl _) _).setCell (by exact Nat.le_refl _) _
  | some rest =>
    have hbf : badx = false := by cases badx; rfl; cases hox
    subst hbf
    have hxs : rest = xs := Option.some.inj hox
    subst hxs
    have hr0 := Hr.out
    simp only at hr0
    clear Hr hox
    by_cases h4 : rest.length < 4
    · rw [if_pos h4] at hr0
      subst hr0
      have hlt : decide ((rest.length : Int) < 4) = true := by simp; omega
      go_wp2_with fail
      go_quiet (fail)
      rename_i nq
      obtain ⟨⟨y0, y1, y2, y3, y4, y5⟩, z0, z1, z2, z3, z4, z5⟩ := cells6 (show (w1.drewN nq).heap[w.heap.size]? = _ from HM1.out)
      go_wp2
      have hB5 := heap6 ⟨_, _, _, _, _, _, (show (w1.drewN nq).heap[w.heap.size]? = _ from HM1.out)⟩ (.int .i64 0) (.int .i64 0) (.int .i64 0) (.string ⟨#[]⟩) (.slice none 0 0) (.slice none 0 0)
      refine bodyPost_ret (results_row_tmp2 rfl _ _ w.heap.size 29 _ (0, 0) _ rfl hB5 Tryz.underlying29 rfl (by kernel_rfl)) rfl (decRes_none rfl ?_)
      exact ((((((below_drewN hbw1 nq).setCell (by exact Nat.le_refl _) _).setCell (by exact Nat.le_refl _) _).setCell (by exact Nat.le_refl _) _).setCell (by exact Nat.le_refl _) _).setCell (by exact Nat.le_refl _) _).setCell (by exact Nat.le_refl _) _
    · rw [if_neg h4] at hr0
      have hge : decide ((rest.length : Int) < 4) = false := by simp; omega
      have hsl : ∀ w, (Instr.sliceAt 22 (.slice ax rest.length cx) none (some (.int .i64 4)) none).run Tryz.prog w = .ok (.slice ax 4 cx) w := run_slice_h (P := Tryz.prog) Tryz.underlying22 u8size ax rest.length cx 4 (by omega)
      have hp4 := hrx.pre 4 (by omega)
      obtain ⟨sb, hsb⟩ : ∃ sb, be4 (PbCrc.sum I) = sb := ⟨_, rfl⟩
      have hsm := fun W h => refSum_calls (.slice ai I.length ci) I W h
      rw [hsb] at hsm hr0
      generalize rest.take 4 = q at hr0 hp4
      have hS : BgS w1 (w.heap.size + 1) (.slice ax rest.length cx) (.slice ax 4 cx) q (strL q) w1.drew := BgS.go rfl ((Below.refl _ _).drew) ⟨x0, x1, run_strL hp4, Below.refl _ _, hp4⟩
      have hrI : Hid (∀ W, Below w1.heap.size w1 W → RdB W (.slice ai I.length ci) I) := fun W h => (rdB_ofOwn HoI.out).below (Nat.le_refl _) h
      obtain ⟨eq, heq⟩ : ∃ eq, decide (q = sb) = eq := ⟨_, rfl⟩
      have hcmp : ((strL q).toList == (strL sb).toList) = eq := by
        cases eq
        · exact (Lib.bytes_beq_false_iff _ _).2 (fun e => of_decide_eq_false heq (strL_inj e))
        · rw [of_decide_eq_true heq]; simp
      have hcmp2 : (!((strL q).toList == (strL sb).toList)) = !eq := by rw [hcmp]
      have hcmp3 : ((strL q).toList != (strL sb).toList) = !eq := by rw [bne, hcmp]
      have hcvs := fun W v' (h : RdB W v' sb) => run_strL h
      generalize hsq : strL q = sq at hcmp hcmp2 hcmp3 hS
      have Hsq := Lib.hid hsq
      generalize strL sb = ss at hcmp hcmp2 hcmp3 hcvs
      have Hsm := Lib.hid hsm
      have Heq := Lib.hid heq
      have Hr0 := Lib.hid hr0
      have H4 := Lib.hid h4
      have HS := Lib.hid hS
      have Hcvs := Lib.hid hcvs
      clear hsq hsm heq hr0 hp4 hsb h4 hS hcvs
      have getB : Hid (∀ W, (W.cell? ⟨w.heap.size + 1, 0, none⟩ = some (.slice ax rest.length cx) ∧ W.cell? ⟨w.heap.size + 1, 1, none⟩ = some (.bool false) ∧ (convert 22 9 (.slice ax 4 cx)).run Tryz.prog W = .ok (.string sq) W ∧ BgRest w1 (.slice ax 4 cx) q W) → Below w1.heap.size w1 W) := fun _ h => h.2.2.2.1
      cases eq
      all_goals
        simp only [Bool.not_false, Bool.not_true] at hcmp2 hcmp3
        go_wp2_with fail
        refine wp_region_noPanic ?_
        refine wp_region_held_drew (S := (fun w' => w'.cell? ⟨w.heap.size + 1, 0, none⟩ = some (.slice ax rest.length cx) ∧ w'.cell? ⟨w.heap.size + 1, 1, none⟩ = some (.bool false) ∧ (convert 22 9 (.slice ax 4 cx)).run Tryz.prog w' = .ok (.string sq) w' ∧ BgRest w1 (.slice ax 4 cx) q w')) (by kernel_rfl) (by first | with_reducible exact HS.out | with_reducible assumption | with_reducible exact BgS.go Hsq (by assumption) (by assumption)) (fun hHeld => ?_)
        refine wpAnyH_take (i := 0) (oi := _) (v := ?_) (by simp only [List.getElem?_toArray, List.getElem?_cons_succ, List.getElem?_cons_zero]; rfl) (by kernel_rfl) (by kernel_rfl) (by kernel_rfl) (fun _ _ _ h => h) (Or.inl ⟨by rfl, ?_⟩) (by assumption) ?_
        rotate_left
        · intro w hSw; (try dsimp only at hSw); go_simp; (try with_reducible rfl)
        try simp only [Act.put, List.setIfInBounds_toArray, List.set_cons_zero, List.set_cons_succ]
        refine wpAnyH_take (i := 1) (oi := _) (v := ?_) (by simp only [List.getElem?_toArray, List.getElem?_cons_succ, List.getElem?_cons_zero]; rfl) (by kernel_rfl) (by kernel_rfl) (by kernel_rfl) (fun _ _ _ h => h) (Or.inl ⟨by rfl, ?_⟩) (by assumption) ?_
        rotate_left
        · intro w hSw; (try dsimp only at hSw); go_simp; (try with_reducible rfl)
        try simp only [Act.put, List.setIfInBounds_toArray, List.set_cons_zero, List.set_cons_succ]
        refine wpAnyH_take (i := 2) (oi := _) (v := ?_) (by simp only [List.getElem?_toArray, List.getElem?_cons_succ, List.getElem?_cons_zero]; rfl) (by kernel_rfl) (by kernel_rfl) (by kernel_rfl) (fun _ _ _ h => h) (Or.inl ⟨by rfl, ?_⟩) (by assumption) ?_
        rotate_left
        · intro w hSw; (try dsimp only at hSw); go_simp; (try with_reducible rfl)
        try simp only [Act.put, List.setIfInBounds_toArray, List.set_cons_zero, List.set_cons_succ]
        refine wpAnyH_take (i := 3) (oi := _) (v := ?_) (by simp only [List.getElem?_toArray, List.getElem?_cons_succ, List.getElem?_cons_zero]; rfl) (by kernel_rfl) (by kernel_rfl) (by kernel_rfl) (fun _ _ _ h => h) (Or.inl ⟨by rfl, ?_⟩) (by assumption) ?_
        rotate_left
        · intro w hSw; (try dsimp only at hSw); go_simp; (try with_reducible rfl)
        try simp only [Act.put, List.setIfInBounds_toArray, List.set_cons_zero, List.set_cons_succ]
        refine wpAnyH_take (i := 4) (oi := _) (v := ?_) (by simp only [List.getElem?_toArray, List.getElem?_cons_succ, List.getElem?_cons_zero]; rfl) (by kernel_rfl) (by kernel_rfl) (by kernel_rfl) (fun _ _ _ h => h) (Or.inl ⟨by rfl, ?_⟩) (by assumption) ?_
        rotate_left
        · intro w hSw; (try dsimp only at hSw); go_simp; (try with_reducible rfl)
        try simp only [Act.put, List.setIfInBounds_toArray, List.set_cons_zero, List.set_cons_succ]
        refine wpAnyH_take (i := 5) (oi := _) (v := ?_) (by simp only [List.getElem?_toArray, List.getElem?_cons_succ, List.getElem?_cons_zero]; rfl) (by kernel_rfl) (by kernel_rfl) (by kernel_rfl) (fun _ _ _ h => h) (Or.inl ⟨by rfl, ?_⟩) (by assumption) ?_
        rotate_left
        · intro w hSw; (try dsimp only at hSw); go_simp; (try with_reducible rfl)
        try simp only [Act.put, List.setIfInBounds_toArray, List.set_cons_zero, List.set_cons_succ]
        refine wpAnyH_take (i := 6) (oi := _) (v := ?_) (by simp only [List.getElem?_toArray, List.getElem?_cons_succ, List.getElem?_cons_zero]; rfl) (by kernel_rfl) (by kernel_rfl) (by kernel_rfl) (fun _ _ _ h => h) (Or.inl ⟨by rfl, ?_⟩) (by assumption) ?_
        rotate_left
        · intro w hSw; (try dsimp only at hSw); go_simp; (try with_reducible rfl)
        try simp only [Act.put, List.setIfInBounds_toArray, List.set_cons_zero, List.set_cons_succ]
        refine wpAnyH_take (i := 7) (oi := _) (v := ?_) (by simp only [List.getElem?_toArray, List.getElem?_cons_succ, List.getElem?_cons_zero]; rfl) (by kernel_rfl) (by kernel_rfl) (by kernel_rfl) (fun _ _ _ h => h) (Or.inl ⟨by rfl, ?_⟩) (by assumption) ?_
        rotate_left
        · intro w hSw; (try dsimp only at hSw); go_simp; (try with_reducible rfl)
        try simp only [Act.put, List.setIfInBounds_toArray, List.set_cons_zero, List.set_cons_succ]
        refine wpAnyH_take (i := 8) (oi := _) (v := ?_) (by simp only [List.getElem?_toArray, List.getElem?_cons_succ, List.getElem?_cons_zero]; rfl) (by kernel_rfl) (by kernel_rfl) (by kernel_rfl) (fun _ _ _ h => h) (Or.inl ⟨by rfl, ?_⟩) (by assumption) ?_
        rotate_left
        · intro w hSw; (try dsimp only at hSw); go_simp; (try with_reducible rfl)
        try simp only [Act.put, List.setIfInBounds_toArray, List.set_cons_zero, List.set_cons_succ]
        refine wpAnyH_take (i := 9) (oi := _) (v := ?_) (by simp only [List.getElem?_toArray, List.getElem?_cons_succ, List.getElem?_cons_zero]; rfl) (by kernel_rfl) (by kernel_rfl) (by kernel_rfl) (fun _ _ _ h => h) (Or.inl ⟨by rfl, ?_⟩) (by assumption) ?_
        rotate_left
        · intro w hSw; (try dsimp only at hSw); go_simp; (try with_reducible rfl)
        try simp only [Act.put, List.setIfInBounds_toArray, List.set_cons_zero, List.set_cons_succ]
        refine wpAnyH_take (i := 10) (oi := _) (v := ?_) (by simp only [List.getElem?_toArray, List.getElem?_cons_succ, List.getElem?_cons_zero]; rfl) (by kernel_rfl) (by kernel_rfl) (by kernel_rfl) (fun _ _ _ h => h) (Or.inl ⟨by rfl, ?_⟩) (by assumption) ?_
        rotate_left
        · intro w hSw; (try dsimp only at hSw); go_simp; (try with_reducible rfl)
        try simp only [Act.put, List.setIfInBounds_toArray, List.set_cons_zero, List.set_cons_succ]
        refine wpAnyH_take (i := 11) (oi := _) (v := ?_) (by simp only [List.getElem?_toArray, List.getElem?_cons_succ, List.getElem?_cons_zero]; rfl) (by kernel_rfl) (by kernel_rfl) (by kernel_rfl) (fun _ _ _ h => h) (Or.inl ⟨by rfl, ?_⟩) (by assumption) ?_
        rotate_left
        · intro w hSw; (try dsimp only at hSw); go_simp; (try with_reducible rfl)
        try simp only [Act.put, List.setIfInBounds_toArray, List.set_cons_zero, List.set_cons_succ]
        refine wpAnyH_take (i := 12) (oi := _) (v := ?_) (by simp only [List.getElem?_toArray, List.getElem?_cons_succ, List.getElem?_cons_zero]; rfl) (by kernel_rfl) (by kernel_rfl) (by kernel_rfl) (fun _ _ _ h => h) (Or.inl ⟨by rfl, ?_⟩) (by assumption) ?_
        rotate_left
        · intro w hSw; (try dsimp only at hSw); go_simp; (try with_reducible rfl)
        try simp only [Act.put, List.setIfInBounds_toArray, List.set_cons_zero, List.set_cons_succ]
        refine wpAnyH_take (i := 13) (oi := _) (v := ?_) (by simp only [List.getElem?_toArray, List.getElem?_cons_succ, List.getElem?_cons_zero]; rfl) (by kernel_rfl) (by kernel_rfl) (by kernel_rfl) (fun _ _ _ h => h) (Or.inl ⟨by rfl, ?_⟩) (by assumption) ?_
        rotate_left
        · intro w hSw; (try dsimp only at hSw); go_simp; (try with_reducible rfl)
        try simp only [Act.put, List.setIfInBounds_toArray, List.set_cons_zero, List.set_cons_succ]
        refine wpAnyH_take (i := 14) (oi := _) (v := ?_) (by simp only [List.getElem?_toArray, List.getElem?_cons_succ, List.getElem?_cons_zero]; rfl) (by kernel_rfl) (by kernel_rfl) (by kernel_rfl) (fun _ _ _ h => h) (Or.inl ⟨by rfl, ?_⟩) (by assumption) ?_
        rotate_left
        · intro w hSw; (try dsimp only at hSw); go_simp; (try with_reducible rfl)
        try simp only [Act.put, List.setIfInBounds_toArray, List.set_cons_zero, List.set_cons_succ]
        refine wpAnyH_take (i := 15) (oi := _) (v := ?_) (by simp only [List.getElem?_toArray, List.getElem?_cons_succ, List.getElem?_cons_zero]; rfl) (by kernel_rfl) (by kernel_rfl) (by kernel_rfl) (fun _ _ _ h => h) (Or.inl ⟨by rfl, ?_⟩) (by assumption) ?_
        rotate_left
        · intro w hSw; (try dsimp only at hSw); go_simp; (try with_reducible rfl)
        try simp only [Act.put, List.setIfInBounds_toArray, List.set_cons_zero, List.set_cons_succ]
        refine wpAnyH_take (i := 16) (oi := _) (v := ?_) (by simp only [List.getElem?_toArray, List.getElem?_cons_succ, List.getElem?_cons_zero]; rfl) (by kernel_rfl) (by kernel_rfl) (by kernel_rfl) (fun _ _ _ h => h) (Or.inl ⟨by rfl, ?_⟩) (by assumption) ?_
        rotate_left
        · intro w hSw; (try dsimp only at hSw); go_simp; (try with_reducible rfl)
        try simp only [Act.put, List.setIfInBounds_toArray, List.set_cons_zero, List.set_cons_succ]
        refine wpAnyH_take (i := 17) (oi := _) (v := ?_) (by simp only [List.getElem?_toArray, List.getElem?_cons_succ, List.getElem?_cons_zero]; rfl) (by kernel_rfl) (by kernel_rfl) (by kernel_rfl) (fun _ _ _ h => h) (Or.inl ⟨by rfl, ?_⟩) (by assumption) ?_
        rotate_left
        · intro w hSw; (try dsimp only at hSw); go_simp; (try with_reducible rfl)
        try simp only [Act.put, List.setIfInBounds_toArray, List.set_cons_zero, List.set_cons_succ]
        refine wpAnyH_take (i := 18) (oi := _) (v := ?_) (by simp only [List.getElem?_toArray, List.getElem?_cons_succ, List.getElem?_cons_zero]; rfl) (by kernel_rfl) (by kernel_rfl) (by kernel_rfl) (fun _ _ _ h => h) (Or.inl ⟨by rfl, ?_⟩) (by assumption) ?_
        rotate_left
        · intro w hSw; (try dsimp only at hSw); go_simp; (try with_reducible rfl)
        try simp only [Act.put, List.setIfInBounds_toArray, List.set_cons_zero, List.set_cons_succ]
        refine wpAnyH_take (i := 19) (oi := _) (v := ?_) (by simp only [List.getElem?_toArray, List.getElem?_cons_succ, List.getElem?_cons_zero]; rfl) (by kernel_rfl) (by kernel_rfl) (by kernel_rfl) (fun _ _ _ h => h) (Or.inl ⟨by rfl, ?_⟩) (by assumption) ?_
        rotate_left
        · intro w hSw; (try dsimp only at hSw); go_simp; (try with_reducible rfl)
        try simp only [Act.put, List.setIfInBounds_toArray, List.set_cons_zero, List.set_cons_succ]
        refine wpAnyH_ready (rs := [20]) (by kernel_rfl) (by simp) ?_
        refine AllReadyH.cons (o := _) (by simp only [List.getElem?_toArray, List.getElem?_cons_succ, List.getElem?_cons_zero]; rfl) (fun K hK => ?_) AllReadyH.nil
        go_simp
        (go_at_call 48; refine (Hsm.out _ (hrI.out _ (getB.out _ (by with_reducible assumption)))).mono ?_; rintro e w4 ⟨vs, rfl, hown4, hb4⟩; have hB4 := Lib.hid (keepBel (W := w1) (getB.out _ (by with_reducible assumption)) hb4); have hcv4 := Hcvs.out _ _ (rdB_ofOwn hown4))
        refine hK.out _ _ (by (try dsimp only); first | with_reducible exact HS.out | with_reducible assumption | with_reducible exact BgS.go Hsq (by assumption) (by assumption)) (fun hHeld => ?_)
        clear hK K
        try simp only [Act.put, List.setIfInBounds_toArray, List.set_cons_zero, List.set_cons_succ]
        refine wpAnyH_ready (rs := [21]) (by kernel_rfl) (by simp) ?_
        refine AllReadyH.cons (o := _) (by simp only [List.getElem?_toArray, List.getElem?_cons_succ, List.getElem?_cons_zero]; rfl) (fun K hK => ?_) AllReadyH.nil
        go_simp
        refine hK.out _ _ (by (try dsimp only); first | with_reducible exact HS.out | with_reducible assumption | with_reducible exact BgS.go Hsq (by assumption) (by assumption)) (fun hHeld => ?_)
        clear hK K
        try simp only [Act.put, List.setIfInBounds_toArray, List.set_cons_zero, List.set_cons_succ]
        refine wpAnyH_take (i := 22) (oi := _) (v := ?_) (by simp only [List.getElem?_toArray, List.getElem?_cons_succ, List.getElem?_cons_zero]; rfl) (by kernel_rfl) (by kernel_rfl) (by kernel_rfl) (fun _ _ _ h => h) (Or.inl ⟨by rfl, ?_⟩) (by assumption) ?_
        rotate_left
        · intro w hSw; (try dsimp only at hSw); go_simp; (try with_reducible rfl)
        try simp only [Act.put, List.setIfInBounds_toArray, List.set_cons_zero, List.set_cons_succ]
        refine wpAnyH_take (i := 23) (oi := _) (v := ?_) (by simp only [List.getElem?_toArray, List.getElem?_cons_succ, List.getElem?_cons_zero]; rfl) (by kernel_rfl) (by kernel_rfl) (by kernel_rfl) (fun _ _ _ h => h) (Or.inl ⟨by rfl, ?_⟩) (by assumption) ?_
        rotate_left
        · intro w hSw; (try dsimp only at hSw); go_simp; (try with_reducible rfl)
        try simp only [Act.put, List.setIfInBounds_toArray, List.set_cons_zero, List.set_cons_succ]
        refine wpAnyH_done (by kernel_rfl) ?_ _
        refine NoPanic.normal ?_
      · have hrn := Hr0.out
        rw [if_neg (of_decide_eq_false Heq.out)] at hrn
        subst hrn
        have hbw4 := hbw1.trans (hB4.out.mono hbw1.size)
        have hM4 := (hB4.out.block _ (Array.getElem?_eq_some_iff.1 HM1.out).1).trans HM1.out
        obtain ⟨⟨y0, y1, y2, y3, y4, y5⟩, z0, z1, z2, z3, z4, z5⟩ := cells6 hM4
        have HM4 := Lib.hid hM4
        clear hM4 hown4 hb4 hcv4
        go_wp2
        have hB5 := heap6 ⟨_, _, _, _, _, _, HM4.out⟩ (.int .i64 0) (.int .i64 0) (.int .i64 0) (.string ⟨#[]⟩) (.slice none 0 0) (.slice none 0 0)
        refine bodyPost_ret (results_row_tmp2 rfl _ _ w.heap.size 29 _ (0, 0) _ rfl hB5 Tryz.underlying29 rfl (by kernel_rfl)) rfl (decRes_none rfl ?_)
        exact (((((hbw4.setCell (by exact Nat.le_refl _) _).setCell (by exact Nat.le_refl _) _).setCell (by exact Nat.le_refl _) _).setCell (by exact Nat.le_refl _) _).setCell (by exact Nat.le_refl _) _).setCell (by exact Nat.le_refl _) _
      · have hr1 := Hr0.out
        rw [if_pos (of_decide_eq_true Heq.out)] at hr1
        have hbw4 := hbw1.trans (hB4.out.mono hbw1.size)
        have hM4 := (hB4.out.block _ (Array.getElem?_eq_some_iff.1 HM1.out).1).trans HM1.out
        have hI4 := hrI.out _ hB4.out
        have hIlt : ∀ k, (Value.slice ai I.length ci).ownBlock = some k → k < w4.heap.size := fun k hk => by have := (HoI.out.lt k hk).2; have := hB4.out.size; omega
        have hy0 := eye_new hI4 (nilOk_own HoI.out) hIlt
        have hM5 := (Below.heap_alloc w4 (.cells #[.slice ai I.length ci, .bool false] 90) _ (Array.getElem?_eq_some_iff.1 hM4).1).trans hM4
        have hbw5 := hbw4.alloc hbw4.size (.cells #[.slice ai I.length ci, .bool false] 90)
        have hYM : w4.heap.size ≠ w.heap.size := by have := (Array.getElem?_eq_some_iff.1 hM4).1; omega
        have hY0 : w.heap.size < w4.heap.size := (Array.getElem?_eq_some_iff.1 hM4).1
        have hL := left_le hle
        obtain ⟨F, hF⟩ : ∃ F, bytesO (stR I 3) = F := ⟨_, rfl⟩
        obtain ⟨N, hN⟩ : ∃ N, numO F.2 = N := ⟨_, rfl⟩
        have hrm := readM_is I F N hF hN
        have hFl := bytesO_left (hL 3)
        have h0 : numO (some I) = (nR I 0, stR I 1) := rfl
        have h1 : numO (stR I 1) = (nR I 1, stR I 2) := rfl
        have h2 : numO (stR I 2) = (nR I 2, stR I 3) := rfl
        have hL3 := hL 3
        have hd0 := eNumS hy0
        rw [h0] at hd0
        have hd1 := fun W ob (h : EySt W w4.heap.size ob (stR I 1)) => eNumS h
        rw [h1] at hd1
        have hd2 := fun W ob (h : EySt W w4.heap.size ob (stR I 2)) => eNumS h
        rw [h2] at hd2
        have hd3 := fun W ob (h : EySt W w4.heap.size ob (stR I 3)) => eBytesS h (fun q e => by have := hL3 q e; omega)
        rw [hF] at hd3 hFl
        have hNl := numO_left hFl.2
        have hNle := numO_le F.2
        have hd4 := fun W ob (h : EySt W w4.heap.size ob F.2) => eNumS h
        rw [hN] at hNl hNle hd4
        have hML := fun j => manyO_left j hNl
        rw [hrm] at hr1
        generalize nR I 0 = n0 at *
        generalize nR I 1 = n1 at *
        generalize nR I 2 = n2 at *
        generalize stR I 1 = s1' at *
        generalize stR I 2 = s2' at *
        generalize stR I 3 = s3' at *
        generalize (Value.slice ai I.length ci).ownBlock = oy at hy0 hd0 hIlt
        obtain ⟨F1, F2⟩ := F
        obtain ⟨n, N2⟩ := N
        simp only at hFl hNl hN hML hNle hr1 hd4
        have Hd0 := Lib.hid hd0
        have Hd1 := Lib.hid hd1
        have Hd2 := Lib.hid hd2
        have Hd3 := Lib.hid hd3
        have Hd4 := Lib.hid hd4
        have Hr1 := Lib.hid hr1
        have HML := Lib.hid hML
        have HM5 := Lib.hid hM5
        have HIlt := Lib.hid hIlt
        clear hd0 hd1 hd2 hd3 hd4 hr1 hML hM5 hM4 hI4 hy0 hrm hF hN h0 h1 h2 hL hL3 hNl hIlt hown4 hb4 hcv4 x0 x1 hrx hsl
        go_wp2_with fail
        refine (Hd0.out).mono ?_; rintro e w5 ⟨rfl, hy1, hK5⟩
        go_wp2_with fail
        refine (Hd1.out _ _ hy1).mono ?_; rintro e w6 ⟨rfl, hy2, hK6⟩
        go_wp2_with fail
        refine (Hd2.out _ _ hy2).mono ?_; rintro e w7 ⟨rfl, hy3, hK7⟩
        go_wp2_with fail
        refine (Hd3.out _ _ hy3).mono ?_; rintro e w8 ⟨vf, rfl, hoF, hy4, hK8⟩
        simp only at hoF hy4 ⊢
        have hcvF := run_strL (rdB_ofOwn hoF)
        have hK58 := ((hK5.trans hK6).trans hK7).trans hK8
        have hM8 := hK58.heap HM5.out (by omega)
        have hbw8 := hbw5.trans (hK58.below (B := w.heap.size) (fun i hi => by omega) hbw5.size)
        have hs8 := hK58.size
        simp only [World.size_alloc] at hs8
        obtain ⟨af, cf, hvf⟩ := own_form0 hoF
        subst hvf
        generalize hsf : strL F1 = sf at *
        have hM9 := (Below.heap_alloc w8 (.cells #[.int .i64 n0, .int .i64 n1, .int .i64 n2, .string sf, .slice none 0 0, .slice none 0 0] 29) _ (Array.getElem?_eq_some_iff.1 hM8).1).trans hM8
        have hm9 : (w8.alloc (.cells #[.int .i64 n0, .int .i64 n1, .int .i64 n2, .string sf, .slice none 0 0, .slice none 0 0] 29)).heap[w8.heap.size]? = some (.cells #[.int .i64 n0, .int .i64 n1, .int .i64 n2, .string sf, .slice none 0 0, .slice none 0 0] 29 (0, 0)) := heap_alloc_new w8 _
        have hy5 := hy4.below ((Below.refl _ _).alloc (Nat.le_refl _) (.cells #[.int .i64 n0, .int .i64 n1, .int .i64 n2, .string sf, .slice none 0 0, .slice none 0 0] 29))
        have hbw9 := hbw8.alloc hbw8.size (.cells #[.int .i64 n0, .int .i64 n1, .int .i64 n2, .string sf, .slice none 0 0, .slice none 0 0] 29)
        have Hd5 := Lib.hid (Hd4.out _ _ hy5)
        have HM9 := Lib.hid hM9
        have Hm9 := Lib.hid hm9
        clear hM9 hm9 hM8 hoF hy1 hy2 hy3 hy4 hy5 Hd0 Hd1 Hd2 Hd3 Hd4
        go_wp2_with fail
        refine (Hd5.out).mono ?_; rintro e w9 ⟨rfl, hy6, hK9⟩
        simp only at hy6 ⊢
        have hM10 := hK9.heap HM9.out (by omega)
        have hm10 := hK9.heap Hm9.out (by omega)
        have hbw10 := hbw9.trans (hK9.below (B := w.heap.size) (fun i hi => by omega) hbw9.size)
        have hs9 := hK9.size
        simp only [World.size_alloc] at hs9
        obtain ⟨M, hMd⟩ : ∃ M, w.heap.size = M := ⟨_, rfl⟩
        obtain ⟨Y, hYd⟩ : ∃ Y, w4.heap.size = Y := ⟨_, rfl⟩
        obtain ⟨m8, hm8d⟩ : ∃ m8, w8.heap.size = m8 := ⟨_, rfl⟩
        obtain ⟨B, hBd⟩ : ∃ B, w9.heap.size = B := ⟨_, rfl⟩
        have hoyB : ∀ k, oy = some k → k < Y := by rw [← hYd]; exact HIlt.out
        rw [hYd, hm8d] at hs8
        rw [hm8d, hBd] at hs9
        have hm0 : ∃ vr, w9.heap[m8]? = some (.cells #[.int .i64 n0, .int .i64 n1, .int .i64 n2, .string sf, vr, .slice none 0 0] 29 (0, 0)) ∧ w9.ownsRow B 9 1 vr (manyO 0 N2).1.length ((manyO 0 N2).1.flatMap s1) := ⟨.slice none 0 0, by rw [← hm8d]; exact hm10, World.ownsRow_nil _ _ _ _⟩
        have hBle : B ≤ w9.heap.size := by omega
        have Hm0 := Lib.hid hm0
        have Hy6 := Lib.hid hy6
        have HM10 := Lib.hid hM10
        have Hbw10 := Lib.hid hbw10
        have HoyB := Lib.hid hoyB
        have hYM : M < Y := by omega
        clear hm0 hy6 hM10 hm10 hbw10 hoyB HIlt Hd5 hK9 HM9 Hm9 hBd
        rw [hMd] at HM10
        rw [hYd] at Hy6
        simp only [hMd, hYd, hm8d]
        have HMd := Lib.hid hMd
        have HYd := Lib.hid hYd
        have Hm8d := Lib.hid hm8d
        clear hMd hYd hm8d
        go_wp2
        have hMs : M + 1 ≤ Y := by omega
        have hYs : Y < m8 := by omega
        have hms : m8 < B := by omega
        clear hs8 hs9 hY0
        go_loopw [10] (fun i wr => ∃ j : Nat, j ≤ n ∧ j ≤ 9 ∧ i = .int .i64 j ∧ EySt wr Y oy (manyO j N2).2 ∧ (∃ vr, wr.heap[m8]? = some (.cells #[.int .i64 n0, .int .i64 n1, .int .i64 n2, .string sf, vr, .slice none 0 0] 29 (0, 0)) ∧ wr.ownsRow B 9 1 vr (manyO j N2).1.length ((manyO j N2).1.flatMap s1)) ∧ wr.heap[M]? = some (.cells #[.int .i64 0, .int .i64 0, .int .i64 0, .string ⟨#[]⟩, .slice none 0 0, .slice none 0 0] 29 (0, 0)) ∧ Below w.heap.size w wr ∧ B ≤ wr.heap.size) (fun i _ => 9 - (intOf i).toNat)
        case atStart => exact ⟨0, by omega, by omega, rfl, Hy6.out, Hm0.out, HM10.out, Hbw10.out, hBle⟩
        case round =>
          obtain ⟨j, hj, hj9, rfl, hy, ⟨vr, hm, hown⟩, hM, hbw, hBw⟩ := hrel
          by_cases hlt : j < n ∧ j < 9
          · obtain ⟨hlt1, hlt2⟩ := hlt
            have hlti : (j : Int) < (n : Int) := by omega
            have hlti2 : (j : Int) < 9 := by omega
            obtain ⟨hl1, hl2, hl3⟩ := HML.out j
            have hcall := eBytesS (hy.below ((Below.refl _ _).drew)) (fun q e => by have := hl3 q e; omega)
            have hmj := manyO_snoc j N2
            have hbl := (bytesO_left hl3).1
            generalize manyO j N2 = P at hcall hown hl1 hmj hbl
            obtain ⟨P1, P2⟩ := P
            simp only at hcall hown hl1 hmj hbl
            generalize bytesO P2 = Q at hcall hmj hbl
            obtain ⟨Q1, Q2⟩ := Q
            simp only at hmj hbl
            have hP9 : P1.length ≤ 9 := by omega
            have hownB := own_base hown
            obtain ⟨av, cv, hvr⟩ := own_form0 hown
            subst hvr
            have hvy : (Value.slice av P1.length cv).ownBlock ≠ some Y := fun e => by have := hownB _ e; omega
            obtain ⟨⟨-, -, -, -, c4, -⟩, -, -, -, -, f4, -⟩ := cells6 hm
            have hrest : Hid (∀ w6 : World, Keeps (fun k => k = Y) wr.drew w6 → w6.heap[m8]? = some (.cells #[.int .i64 n0, .int .i64 n1, .int .i64 n2, .string sf, .slice av P1.length cv, .slice none 0 0] 29 (0, 0)) ∧ w6.ownsRow B 9 1 (.slice av P1.length cv) P1.length (P1.flatMap s1) ∧ w6.heap[M]? = some (.cells #[.int .i64 0, .int .i64 0, .int .i64 0, .string ⟨#[]⟩, .slice none 0 0, .slice none 0 0] 29 (0, 0)) ∧ Below w.heap.size w w6 ∧ B ≤ w6.heap.size) := fun w6 hK =>
              ⟨hK.heap hm (by omega), own_keeps (World.ownsRow.drew hown) hK (fun k hk e => hvy (by rw [hk, e])), hK.heap hM (by omega), (hbw.drew).trans (hK.below (B := w.heap.size) (fun k hk => by have := HMd.out; omega) hbw.size), Nat.le_trans hBw hK.size⟩
            have Hmj := Lib.hid hmj
            have Hcall := Lib.hid hcall
            clear hcall hm hmj hl1 hl2 hl3 hown hM hy hvy
            have hbd1 : P1.length + 1 ≤ maxLen := by show P1.length + 1 ≤ 9223372036854775807; omega
            have hbd2 : (P1.length + 1) * 16 ≤ 140737488355328 := by omega
            have hs1d : s1 Q1 = [.string (strL Q1)] := rfl
            have hcs1 : ∀ u ∈ [Value.string (strL Q1)], u.oneCell' = true := by intro u hu; exact s1_one [Q1] u (by simpa [s1] using hu)
            have hcvs := fun W v' (h : RdB W v' Q1) => run_strL h
            generalize hsq2 : strL Q1 = sq2 at *
            have Hsq2 := Lib.hid hsq2
            have Hcs1 := Lib.hid hcs1
            have Hcvs2 := Lib.hid hcvs
            clear hsq2 hcs1 hcvs hs1d
            go_wp2
            go_region_law (first
              | (refine step_append_lies (w6.alloc (.cells #[.string sq2] 9)) rfl (.tmp 66) (.tmp 70) 27 rfl B 9 i0 _ 1 16 Tryz.underlying27 hi hz0 hz1 hz2 rfl (by decide) (.slice av P1.length cv) P1.length (P1.flatMap s1) (by rfl) hownA ⟨w6.heap.size, 0, none⟩ 1 1 [.string sq2] (by rfl) rfl Hncell.out Hcs1.out (by decide) hbd1 hbd2 hbd3 (w6.heap.size + 1) Hsz7.out ?_; rintro g cap7 w7 hown7 hg7 hat7 hlt7; have hM8 := (Keeps.grown hg7).heap (k := m8) ((Below.heap_alloc w6 _ m8 (Array.getElem?_eq_some_iff.1 q1).1).trans q1) (fun e => by have := hownB _ e; omega); have g47 := (cells6 hM8).2.2.2.2.2.1; have a47 := (cells6 hM8).1.2.2.2.2.1)
              | (go_simp; go_at_call 47; refine (Hcall.out).mono ?_; rintro e w6 ⟨vs6, rfl, hos6, hy6, hK6⟩; have hcv6 := Hcvs2.out _ _ (rdB_ofOwn hos6); obtain ⟨q1, q2, q3, q4, q5⟩ := hrest.out w6 hK6; have c46 := (cells6 q1).1.2.2.2.2.1; have c47 : (w6.alloc (.cells #[.string sq2] 9)).cell? ⟨m8, 4, none⟩ = some (.slice av P1.length cv) := (((Below.refl w6.heap.size w6).alloc (Nat.le_refl _) _).cell (p := ⟨m8, 4, none⟩) (Array.getElem?_eq_some_iff.1 q1).1).trans c46; have Hncell := Lib.hid (news_new w6 [.string sq2] 9 (0, 0)); have hbd3 : B ≤ (w6.alloc (.cells #[.string sq2] 9)).heap.size := (by simp; omega); have hownA : (w6.alloc (.cells #[.string sq2] 9)).ownsRow B 9 1 (.slice av P1.length cv) P1.length (P1.flatMap s1) := World.ownsRow.alloc q2 _; have Hsz7 : Hid ((w6.alloc (.cells #[.string sq2] 9)).heap.size = w6.heap.size + 1) := (by show _ = _; simp)))
            all_goals
              have hy6' : EySt w6 Y oy Q2 := hy6
              have hy7 := (hy6'.below ((Below.refl w6.heap.size w6).alloc (Nat.le_refl _) (.cells #[.string sq2] 9))).keeps (Keeps.grown hg7) (fun e => by have := hownB _ e; omega) (fun k hk e => by have := hownB _ e; have := HoyB.out k hk; omega)
              have hKs := Keeps.setCell (F := fun k => k = m8) w7 ⟨m8, 4, none⟩ (.slice (some ⟨g, 0, none⟩) (P1.length + 1) cap7) rfl
              have hgB : B ≤ g := by
                rcases hat7 with h | h
                · exact hownB _ h
                · omega
              have hM7 := hKs.heap ((Keeps.grown hg7).heap (k := M) ((Below.heap_alloc w6 _ M (Array.getElem?_eq_some_iff.1 q3).1).trans q3) (fun e => by have := hownB _ e; omega)) (show ¬ M = m8 by omega)
              have hbw7 : Below w.heap.size w w7 := (q4.alloc q4.size _).grown hg7 (by have := q4.size; simp; omega) (fun k hk => by have := hownB k hk; have := HMd.out; omega)
              have hB7 : B ≤ w7.heap.size := by have := hg7.size; simp at this; omega
              have hmm := heap_setCell_same _ _ 4 _ _ (.slice (some ⟨g, 0, none⟩) (P1.length + 1) cap7) hM8
              have hoo := own_keeps hown7 hKs (fun k hk e => by have : g = k := Option.some.inj hk; omega)
              have hyy := hy7.keeps hKs (show ¬ Y = m8 by omega) (fun k hk e => by have := HoyB.out k hk; omega)
              have hbb := hbw7.setCell (p := ⟨m8, 4, none⟩) (show w.heap.size ≤ m8 by have := HMd.out; omega) (.slice (some ⟨g, 0, none⟩) (P1.length + 1) cap7)
              have Hfin := Lib.hid (And.intro hmm (And.intro hoo (And.intro hyy (And.intro hbb hM7))))
              clear hy6 hy6' hy7 hKs hM7 hmm hoo hyy hbb hown7 hg7 hM8 q1 q2 q3 q4 q5 hownA
              go_wp2
              go_roundw
              case rel =>
                obtain ⟨hmm, hoo, hyy, hbb, hM7⟩ := Hfin.out
                refine ⟨j + 1, by omega, by omega, by go_num, ?_, ⟨.slice (some ⟨g, 0, none⟩) (P1.length + 1) cap7, hmm, ?_⟩, hM7, hbb, by simp; omega⟩
                · rw [Hmj.out]; exact hyy
                · rw [Hmj.out, List.length_append, List.flatMap_append, List.flatMap_singleton, s1, Hsq2.out]
                  exact hoo
              case measure => simp [intOf] <;> omega
          · have hji : ¬ ((j : Int) < (n : Int) ∧ (j : Int) < 9) := by omega
            obtain ⟨hl1, hl2, hl3⟩ := HML.out j
            have hcall := eBytesS hy (fun q e => by have := hl3 q e; omega)
            have hbl := (bytesO_left hl3).1
            have hr3 : (n ≤ 8 ∧ (if (bytesO (manyO j N2).2).2 = some [] ∧ (MailD.mk (n0 : Int) (n1 : Int) (n2 : Int) F1 (manyO j N2).1 (bytesO (manyO j N2).2).1).good = true then some (MailD.mk (n0 : Int) (n1 : Int) (n2 : Int) F1 (manyO j N2).1 (bytesO (manyO j N2).2).1, I.length + 12) else none) = r) ∨ (8 < n ∧ r = none) := by
              have h := Hr1.out
              by_cases h8 : n ≤ 8
              · have hje : j = n := by omega
                subst hje
                refine .inl ⟨h8, ?_⟩
                rw [← h]
                by_cases hq : (bytesO (manyO j N2).2).2 = some [] ∧ (MailD.mk (n0 : Int) (n1 : Int) (n2 : Int) F1 (manyO j N2).1 (bytesO (manyO j N2).2).1).good = true
                · rw [if_pos hq, if_pos ⟨h8, hq⟩]; rfl
                · rw [if_neg hq, if_neg (fun e => hq e.2)]; rfl
              · rw [if_neg (fun e => h8 e.1)] at h
                exact .inr ⟨by omega, h.symm⟩
            generalize manyO j N2 = P at hcall hown hl1 hl2 hbl hr3
            obtain ⟨P1, P2⟩ := P
            simp only at hcall hown hl1 hl2 hbl hr3
            generalize bytesO P2 = Q at hcall hbl hr3
            obtain ⟨Q1, Q2⟩ := Q
            simp only at hbl hr3
            have hownB := own_base hown
            have hownL := fun k hk => (hown.lt k hk).2
            obtain ⟨av, cv, hvr⟩ := own_form0 hown
            subst hvr
            have Hcall := Lib.hid hcall
            have Hr3 := Lib.hid hr3
            have Hm := Lib.hid hm
            have HM := Lib.hid hM
            have Hown := Lib.hid hown
            have Hl2 := Lib.hid hl2
            have HownB := Lib.hid hownB
            have HownL := Lib.hid hownL
            have hexit : decide ((j : Int) < (n : Int)) = false ∨ (decide ((j : Int) < (n : Int)) = true ∧ decide ((j : Int) < 9) = false) := by
              by_cases h : (j : Int) < (n : Int)
              · exact .inr ⟨decide_eq_true h, decide_eq_false (fun h2 => hji ⟨h, h2⟩)⟩
              · exact .inl (decide_eq_false h)
            clear hcall hr3 hm hM hown hl1 hl2 hl3 hownB hownL hy hji hlt
            have hjn : (n : Int) ≤ (j : Int) ∨ ((j : Int) < (n : Int) ∧ (9 : Int) ≤ (j : Int)) := by
              rcases hexit with h | ⟨h, h'⟩
              · exact .inl (by have := of_decide_eq_false h; omega)
              · exact .inr ⟨of_decide_eq_true h, by have := of_decide_eq_false h'; omega⟩
            clear hexit
            have hfin : Hid (∀ w6 vb, w6.ownsRow wr.heap.size 5 1 vb Q1.length (Q1.map u8v) → EySt w6 Y oy Q2 → Keeps (fun k => k = Y) wr w6 → ∃ (ab : Option Addr) (cb : Nat) (ay : Option Addr) (L cy : Nat) (bady : Bool), vb = .slice ab Q1.length cb ∧ (w6.cell? ⟨m8, 5, none⟩).isSome = true ∧ w6.frozen? ⟨m8, 5, none⟩ = false ∧
                (w6.setCell ⟨m8, 5, none⟩ vb).heap[m8]? = some (.cells #[.int .i64 n0, .int .i64 n1, .int .i64 n2, .string sf, .slice av P1.length cv, vb] 29 (0, 0)) ∧
                (w6.setCell ⟨m8, 5, none⟩ vb).heap[M]? = some (.cells #[.int .i64 0, .int .i64 0, .int .i64 0, .string ⟨#[]⟩, .slice none 0 0, .slice none 0 0] 29 (0, 0)) ∧
                (w6.setCell ⟨m8, 5, none⟩ vb).cell? ⟨Y, 0, none⟩ = some (.slice ay L cy) ∧ (w6.setCell ⟨m8, 5, none⟩ vb).cell? ⟨Y, 1, none⟩ = some (.bool bady) ∧ (bady = true → Q2 = none) ∧ (bady = false → (Q2 = some [] ↔ L = 0)) ∧ L ≤ 9223372036854775807 ∧
                (w6.setCell ⟨m8, 5, none⟩ vb).ownsRow B 9 1 (.slice av P1.length cv) P1.length (P1.flatMap s1) ∧ (w6.setCell ⟨m8, 5, none⟩ vb).ownsRow B 5 1 vb Q1.length (Q1.map u8v) ∧ Below w.heap.size w (w6.setCell ⟨m8, 5, none⟩ vb)) := by
              intro w6 vb hob hy6 hK6
              have hm6 := hK6.heap Hm.out (by omega)
              have hM6 := hK6.heap HM.out (by omega)
              have hown6 := own_keeps Hown.out hK6 (fun k hk e => by have := HownB.out k hk; omega)
              have hbw6 := hbw.trans (hK6.below (B := w.heap.size) (fun k hk => by have := HMd.out; omega) hbw.size)
              obtain ⟨ab, cb, hvb⟩ := own_form0 hob
              have hKs := Keeps.setCell (F := fun k => k = m8) w6 ⟨m8, 5, none⟩ vb rfl
              have hy7 := hy6.keeps hKs (show ¬ Y = m8 by omega) (fun k hk e => by have := HoyB.out k hk; omega)
              obtain ⟨vy, ys, bady, hEy, _, hoy7, _, _⟩ := hy7
              obtain ⟨y0, y1, _, _⟩ := hEy.cells
              obtain ⟨ay, cy, hvy, hy1, hy2⟩ := hEy.rd.form
              have c5 := (cells6 hm6).1.2.2.2.2.2
              have f5 := (cells6 hm6).2.2.2.2.2.2
              refine ⟨ab, cb, ay, ys.length, cy, bady, hvb, by rw [c5]; rfl, f5, heap_setCell_same _ _ 5 _ _ _ hm6, hKs.heap hM6 (by omega), by rw [y0, hvy], y1, fun e => by rw [hoy7, e]; rfl, fun e => ?_, by omega, own_keeps hown6 hKs (fun k hk e => by have := HownB.out k hk; omega), own_mono (own_keeps hob hKs (fun k hk e => by have := own_base hob k hk; omega)) hBw, hbw6.setCell (by show w.heap.size ≤ m8; have := HMd.out; omega) _⟩
              rw [hoy7, e, leftO, if_neg (by decide)]
              constructor
              · intro h; rw [Option.some.inj h]; rfl
              · intro h; rw [List.length_eq_zero_iff.1 h]
            clear Hm HM Hown HownB HownL Hm0 Hy6 HM10 Hbw10 HoyB HM0 Hbx HM1 HoI
            rcases hjn with hjn | ⟨hjn, hj9'⟩
            · go_wp2_with fail
              refine (Hcall.out).mono ?_; rintro e w6 ⟨vb, rfl, hob, hy6, hK6⟩
              obtain ⟨ab, cb, ay, L, cy, bady, rfl, c5, f5, hm7, hM7, y0, y1, hq1, hq2, hLm, hoL, hoT, hbw7⟩ := hfin.out w6 vb hob hy6 hK6
              obtain ⟨v5, c5⟩ := Option.isSome_iff_exists.1 c5
              obtain ⟨x0, x1, x2, x3, x4, x5⟩ := (cells6 hm7).1
              obtain ⟨⟨p0, p1, p2, p3, p4, p5⟩, u0, u1, u2, u3, u4, u5⟩ := cells6 hM7
              have Hm7 := Lib.hid hm7
              have HM7 := Lib.hid hM7
              have HoL := Lib.hid hoL
              have HoT := Lib.hid hoT
              have Hq1 := Lib.hid hq1
              have Hq2 := Lib.hid hq2
              clear hm7 hM7 hoL hoT hob hy6 hK6 hq1 hq2
              have hfz : Hid (∀ w' , Below w.heap.size w w' → Below w.heap.size w ((((((w'.setCell ⟨M, 0, none⟩ (.int .i64 0)).setCell ⟨M, 1, none⟩ (.int .i64 0)).setCell ⟨M, 2, none⟩ (.int .i64 0)).setCell ⟨M, 3, none⟩ (.string ⟨#[]⟩)).setCell ⟨M, 4, none⟩ (.slice none 0 0)).setCell ⟨M, 5, none⟩ (.slice none 0 0))) := fun w' h =>
                have hle : w.heap.size ≤ M := by have := HMd.out; omega
                (((((h.setCell hle _).setCell hle _).setCell hle _).setCell hle _).setCell hle _).setCell hle _
              have hrn : Hid (bady = true ∨ 0 < L ∨ 8 < n → r = none) := by
                intro h
                rcases Hr3.out with ⟨h8, hr⟩ | ⟨_, hr⟩
                · rw [← hr, if_neg]
                  rintro ⟨hq, _⟩
                  rcases h with h | h | h
                  · rw [Hq1.out h] at hq; cases hq
                  · cases bady
                    · have := (Hq2.out rfl).1 hq; omega
                    · rw [Hq1.out rfl] at hq; cases hq
                  · omega
                · exact hr
              cases bady
              · by_cases hL : 0 < L
                · have hLi : (0 : Int) < (L : Int) := by omega
                  have hr := hrn.out (.inr (.inl hL))
                  subst hr
                  go_wp2
                  have hB5 := heap6 ⟨_, _, _, _, _, _, HM7.out⟩ (.int .i64 0) (.int .i64 0) (.int .i64 0) (.string ⟨#[]⟩) (.slice none 0 0) (.slice none 0 0)
                  exact bodyPost_ret (results_row_tmp2 rfl _ _ M 29 _ (0, 0) _ rfl hB5 Tryz.underlying29 rfl (by kernel_rfl)) rfl (decRes_none rfl (hfz.out _ hbw7))
                · have hL0 : L = 0 := by omega
                  subst hL0
                  by_cases h8 : n ≤ 8
                  · have h8i : ¬ ((8 : Int) < (n : Int)) := by omega
                    have hQ := (Hq2.out rfl).2 rfl
                    have hr4 : (if (MailD.mk (n0 : Int) (n1 : Int) (n2 : Int) F1 P1 Q1).good = true then some (MailD.mk (n0 : Int) (n1 : Int) (n2 : Int) F1 P1 Q1, I.length + 12) else none) = r := by
                      rcases Hr3.out with ⟨_, hr⟩ | ⟨h, _⟩
                      · rw [← hr]
                        by_cases hg : (MailD.mk (n0 : Int) (n1 : Int) (n2 : Int) F1 P1 Q1).good = true
                        · rw [if_pos hg, if_pos ⟨hQ, hg⟩]
                        · rw [if_neg hg, if_neg (fun e => hg e.2)]
                      · omega
                    obtain ⟨md, hmd⟩ : ∃ md, md = MailD.mk (n0 : Int) (n1 : Int) (n2 : Int) F1 P1 Q1 := ⟨_, rfl⟩
                    obtain ⟨W7, hW7⟩ : ∃ W7, w6.setCell ⟨m8, 5, none⟩ (.slice ab Q1.length cb) = W7 := ⟨_, rfl⟩
                    have hoL := HoL.out
                    have hoT := HoT.out
                    have hm7 := Hm7.out
                    have hM7 := HM7.out
                    rw [hW7] at hoL hoT hm7 hM7 hbw7
                    have hl2 := Hl2.out
                    have hgood := refGood_calls md (.slice av P1.length cv) (.slice ab Q1.length cb) W7 (by rw [hmd]; exact rdL_ofOwn s1_len (by decide) hoL) (by rw [hmd]; exact rdB_ofOwn hoT) (by rw [hmd]; intro l h; have := hl2 l h; omega) (by rw [hmd]; have := hFl.1; simp only; omega)
                    have hmv : mailVal md (.slice av P1.length cv) (.slice ab Q1.length cb) = .agg #[.int .i64 n0, .int .i64 n1, .int .i64 n2, .string sf, .slice av P1.length cv, .slice ab Q1.length cb] := by rw [hmd, ← hsf]
                    rw [hmv] at hgood
                    have hlm : md.rcpts = P1 ∧ md.body = Q1 := by rw [hmd]; exact ⟨rfl, rfl⟩
                    rw [← hmd] at hr4
                    generalize md.good = gd at hgood hr4
                    have Hgood := Lib.hid hgood
                    have Hr4 := Lib.hid hr4
                    have Hmv := Lib.hid hmv
                    have Hlm := Lib.hid hlm
                    have HoL2 := Lib.hid hoL
                    have HoT2 := Lib.hid hoT
                    have Hm8' := Lib.hid hm7
                    have HM8' := Lib.hid hM7
                    have Hbw7 := Lib.hid hbw7
                    clear hgood hr4 hmv hlm hmd hl2 hoL hoT hm7 hM7 HoL HoT Hm7 HM7 hQ hrn hbw7
                    subst hW7
                    go_wp2_with fail
                    refine (Hgood.out).mono ?_; rintro e w8 ⟨rfl, hb8⟩
                    have hM9 := (hb8.block _ (Array.getElem?_eq_some_iff.1 HM8'.out).1).trans HM8'.out
                    have hm9 := (hb8.block _ (Array.getElem?_eq_some_iff.1 Hm8'.out).1).trans Hm8'.out
                    have hbw8 := Hbw7.out.trans (hb8.mono Hbw7.out.size)
                    obtain ⟨⟨p0, p1, p2, p3, p4, p5⟩, u0, u1, u2, u3, u4, u5⟩ := cells6 hM9
                    obtain ⟨k0, k1, k2, k3, k4, k5⟩ := (cells6 hm9).1
                    have HM9 := Lib.hid hM9
                    clear hM9 hm9
                    cases gd
                    · have hr := Hr4.out
                      rw [if_neg (by decide)] at hr
                      subst hr
                      go_wp2
                      have hB5 := heap6 ⟨_, _, _, _, _, _, HM9.out⟩ (.int .i64 0) (.int .i64 0) (.int .i64 0) (.string ⟨#[]⟩) (.slice none 0 0) (.slice none 0 0)
                      exact bodyPost_ret (results_row_tmp2 rfl _ _ M 29 _ (0, 0) _ rfl hB5 Tryz.underlying29 rfl (by kernel_rfl)) rfl (decRes_none rfl (hfz.out _ hbw8))
                    · have hr := Hr4.out
                      rw [if_pos rfl] at hr
                      subst hr
                      have hwI : IntKind.i64.wrap ((I.length : Int) + 12) = (I.length : Int) + 12 := IntWalk.i64_in _ (by omega)
                      go_wp2
                      have hB5 := heap6 ⟨_, _, _, _, _, _, HM9.out⟩ (.int .i64 n0) (.int .i64 n1) (.int .i64 n2) (.string sf) (.slice av P1.length cv) (.slice ab Q1.length cb)
                      have hst : ∀ (W : World) (j : Nat) (v : Value), Keeps (fun k => k = M) W (W.setCell ⟨M, j, none⟩ v) := fun W j v => Keeps.setCell _ _ _ rfl
                      have hKf := ((((((hst w8 0 (.int .i64 n0)).trans (hst _ 1 (.int .i64 n1))).trans (hst _ 2 (.int .i64 n2))).trans (hst _ 3 (.string sf))).trans (hst _ 4 (.slice av P1.length cv))).trans (hst _ 5 (.slice ab Q1.length cb)))
                      have hMw := HMd.out
                      have hoL := own_mono (own_keeps (own_below HoL2.out hb8 (Nat.le_refl _)) hKf (fun k hk e => by have := own_base HoL2.out k hk; omega)) (base' := w.heap.size) (by omega)
                      have hoT := own_mono (own_keeps (own_below HoT2.out hb8 (Nat.le_refl _)) hKf (fun k hk e => by have := own_base HoT2.out k hk; omega)) (base' := w.heap.size) (by omega)
                      refine bodyPost_ret (results_row_tmp2 rfl _ _ M 29 _ (0, 0) _ rfl hB5 Tryz.underlying29 rfl (by kernel_rfl)) rfl ⟨.slice av P1.length cv, .slice ab Q1.length cb, ?_, ?_, ?_, hbw8.trans (hKf.below (fun k hk => by omega) hbw8.size)⟩
                      · show Ending.returned (.tuple #[.agg #[.int .i64 n0, .int .i64 n1, .int .i64 n2, .string sf, .slice av P1.length cv, .slice ab Q1.length cb], _, .bool true]) = .returned (.tuple #[mailVal md (.slice av P1.length cv) (.slice ab Q1.length cb), .int .i64 ((I.length + 12 : Nat) : Int), .bool true])
                        rw [Hmv.out, show ((I.length + 12 : Nat) : Int) = (I.length : Int) + 12 by omega]
                        rfl
                      · show World.ownsRow _ _ _ _ _ md.rcpts.length (md.rcpts.flatMap s1)
                        rw [Hlm.out.1]; exact hoL
                      · show World.ownsRow _ _ _ _ _ md.body.length (md.body.map u8v)
                        rw [Hlm.out.2]; exact hoT
                  · have h8i : (8 : Int) < (n : Int) := by omega
                    have hr := hrn.out (.inr (.inr (by omega)))
                    subst hr
                    go_wp2
                    have hB5 := heap6 ⟨_, _, _, _, _, _, HM7.out⟩ (.int .i64 0) (.int .i64 0) (.int .i64 0) (.string ⟨#[]⟩) (.slice none 0 0) (.slice none 0 0)
                    exact bodyPost_ret (results_row_tmp2 rfl _ _ M 29 _ (0, 0) _ rfl hB5 Tryz.underlying29 rfl (by kernel_rfl)) rfl (decRes_none rfl (hfz.out _ hbw7))
              · have hr := hrn.out (.inl rfl)
                subst hr
                go_wp2
                have hB5 := heap6 ⟨_, _, _, _, _, _, HM7.out⟩ (.int .i64 0) (.int .i64 0) (.int .i64 0) (.string ⟨#[]⟩) (.slice none 0 0) (.slice none 0 0)
                exact bodyPost_ret (results_row_tmp2 rfl _ _ M 29 _ (0, 0) _ rfl hB5 Tryz.underlying29 rfl (by kernel_rfl)) rfl (decRes_none rfl (hfz.out _ hbw7))
            · go_wp2_with fail
              refine (Hcall.out).mono ?_; rintro e w6 ⟨vb, rfl, hob, hy6, hK6⟩
              obtain ⟨ab, cb, ay, L, cy, bady, rfl, c5, f5, hm7, hM7, y0, y1, hq1, hq2, hLm, hoL, hoT, hbw7⟩ := hfin.out w6 vb hob hy6 hK6
              obtain ⟨v5, c5⟩ := Option.isSome_iff_exists.1 c5
              obtain ⟨x0, x1, x2, x3, x4, x5⟩ := (cells6 hm7).1
              obtain ⟨⟨p0, p1, p2, p3, p4, p5⟩, u0, u1, u2, u3, u4, u5⟩ := cells6 hM7
              have Hm7 := Lib.hid hm7
              have HM7 := Lib.hid hM7
              have HoL := Lib.hid hoL
              have HoT := Lib.hid hoT
              have Hq1 := Lib.hid hq1
              have Hq2 := Lib.hid hq2
              clear hm7 hM7 hoL hoT hob hy6 hK6 hq1 hq2
              have hfz : Hid (∀ w' , Below w.heap.size w w' → Below w.heap.size w ((((((w'.setCell ⟨M, 0, none⟩ (.int .i64 0)).setCell ⟨M, 1, none⟩ (.int .i64 0)).setCell ⟨M, 2, none⟩ (.int .i64 0)).setCell ⟨M, 3, none⟩ (.string ⟨#[]⟩)).setCell ⟨M, 4, none⟩ (.slice none 0 0)).setCell ⟨M, 5, none⟩ (.slice none 0 0))) := fun w' h =>
                have hle : w.heap.size ≤ M := by have := HMd.out; omega
                (((((h.setCell hle _).setCell hle _).setCell hle _).setCell hle _).setCell hle _).setCell hle _
              have hrn : Hid (bady = true ∨ 0 < L ∨ 8 < n → r = none) := by
                intro h
                rcases Hr3.out with ⟨h8, hr⟩ | ⟨_, hr⟩
                · rw [← hr, if_neg]
                  rintro ⟨hq, _⟩
                  rcases h with h | h | h
                  · rw [Hq1.out h] at hq; cases hq
                  · cases bady
                    · have := (Hq2.out rfl).1 hq; omega
                    · rw [Hq1.out rfl] at hq; cases hq
                  · omega
                · exact hr
              cases bady
              · by_cases hL : 0 < L
                · have hLi : (0 : Int) < (L : Int) := by omega
                  have hr := hrn.out (.inr (.inl hL))
                  subst hr
                  go_wp2
                  have hB5 := heap6 ⟨_, _, _, _, _, _, HM7.out⟩ (.int .i64 0) (.int .i64 0) (.int .i64 0) (.string ⟨#[]⟩) (.slice none 0 0) (.slice none 0 0)
                  exact bodyPost_ret (results_row_tmp2 rfl _ _ M 29 _ (0, 0) _ rfl hB5 Tryz.underlying29 rfl (by kernel_rfl)) rfl (decRes_none rfl (hfz.out _ hbw7))
                · have hL0 : L = 0 := by omega
                  subst hL0
                  have h8i : (8 : Int) < (n : Int) := by omega
                  have hr := hrn.out (.inr (.inr (by omega)))
                  subst hr
                  go_wp2
                  have hB5 := heap6 ⟨_, _, _, _, _, _, HM7.out⟩ (.int .i64 0) (.int .i64 0) (.int .i64 0) (.string ⟨#[]⟩) (.slice none 0 0) (.slice none 0 0)
                  exact bodyPost_ret (results_row_tmp2 rfl _ _ M 29 _ (0, 0) _ rfl hB5 Tryz.underlying29 rfl (by kernel_rfl)) rfl (decRes_none rfl (hfz.out _ hbw7))
              · have hr := hrn.out (.inl rfl)
                subst hr
                go_wp2
                have hB5 := heap6 ⟨_, _, _, _, _, _, HM7.out⟩ (.int .i64 0) (.int .i64 0) (.int .i64 0) (.string ⟨#[]⟩) (.slice none 0 0) (.slice none 0 0)
                exact bodyPost_ret (results_row_tmp2 rfl _ _ M 29 _ (0, 0) _ rfl hB5 Tryz.underlying29 rfl (by kernel_rfl)) rfl (decRes_none rfl (hfz.out _ hbw7))
end Go.Proofs.YtffnbkmigapmjaaGreatDoor
