/-
  The walk of store.File.
  The walks of qfile's methods that look at fates: Fates, waits, Over, Open, Crashes, Due.
  The walks of slices.IndexFunc, ContainsFunc at waits, of qfile's Over, Open, and of pillarboxref01.Ints.
  The walk of qfile.File.Open.
-/
import Derived.Test.YtffnbkmigapmjaaGreatDoorS32
import Derived.Test.YtffnbkmigapmjaaGreatDoorS39
set_option linter.unusedSimpArgs false
set_option linter.unusedVariables false
set_option maxRecDepth 100000
namespace Go.Proofs.YtffnbkmigapmjaaGreatDoor
open Go.RowKit Go.Maps
def keepQ : List UInt8 := [105, 97, 100, 104]
def workQ : List UInt8 := [105, 97, 100]
def sfileD (d : StoD) (id : Int) : Option FileD :=
  if keepQ.contains (d.whr.at id) = true then (if (fsReadD d.fs (nameD (d.whr.at id) id)).1 = 0 then fileD (fsReadD d.fs (nameD (d.whr.at id) id)).2 else none) else none
theorem FileRes.mono {w w1 w' : World} {r : Option FileD} {e : Ending} (h : FileRes w1 r e w') (hb : Below w.heap.size w w1) : FileRes w r e w' := by
  obtain ⟨vr, vb, vm, he, h1, h2, h3, h4⟩ := h
  exact ⟨vr, vb, vm, he, own_mono h1 hb.size, own_mono h2 hb.size, own_mono h3 hb.size, hb.trans (h4.mono hb.size)⟩
theorem read_small {w : World} {f : Nat} {d : FsD} {ρ : Rho} (h : FsAt w f d ρ) (n : Nm) : (fsReadD d n).2.length ≤ 16777216 := by
  unfold fsReadD
  split
  · show (bytesOf d n).length ≤ _
    unfold bytesOf
    split
    · split
      · rename_i x _ _ c hc
        exact (h.rest.files x c hc).small
      · exact Nat.zero_le _
    · exact Nat.zero_le _
  · exact Nat.zero_le _
theorem in_keep (q : UInt8) (w : World) : Calls Tryz.prog 44 #[.string ⟨#[105, 97, 100, 104]⟩, .int .u8 q.toNat] w fun e w' => e = .returned (.bool (keepQ.contains q)) ∧ w' = w := in_calls keepQ q w
theorem in_work (q : UInt8) (w : World) : Calls Tryz.prog 44 #[.string ⟨#[105, 97, 100]⟩, .int .u8 q.toNat] w fun e w' => e = .returned (.bool (workQ.contains q)) ∧ w' = w := in_calls workQ q w
theorem below8 {b n : Nat} {w w' : World} (h : Below n w w') (hb : n ≤ b) (x0 x1 x2 x3 x4 x5 x6 x7 : Value) : Below n w ((((((((w'.setCell ⟨b, 0, none⟩ x0).setCell ⟨b, 1, none⟩ x1).setCell ⟨b, 2, none⟩ x2).setCell ⟨b, 3, none⟩ x3).setCell ⟨b, 4, none⟩ x4).setCell ⟨b, 5, none⟩ x5).setCell ⟨b, 6, none⟩ x6).setCell ⟨b, 7, none⟩ x7) :=
  (((((((h.setCell (by exact hb) _).setCell (by exact hb) _).setCell (by exact hb) _).setCell (by exact hb) _).setCell (by exact hb) _).setCell (by exact hb) _).setCell (by exact hb) _).setCell (by exact hb) _
theorem keeps8 (w' : World) (b : Nat) (x0 x1 x2 x3 x4 x5 x6 x7 : Value) : Keeps (fun k => k = b) w' ((((((((w'.setCell ⟨b, 0, none⟩ x0).setCell ⟨b, 1, none⟩ x1).setCell ⟨b, 2, none⟩ x2).setCell ⟨b, 3, none⟩ x3).setCell ⟨b, 4, none⟩ x4).setCell ⟨b, 5, none⟩ x5).setCell ⟨b, 6, none⟩ x6).setCell ⟨b, 7, none⟩ x7) :=
  have st : ∀ (W : World) (j : Nat) (v : Value), Keeps (fun k => k = b) W (W.setCell ⟨b, j, none⟩ v) := fun W j v => Keeps.setCell _ _ _ rfl
  (((((((st _ 0 x0).trans (st _ 1 x1)).trans (st _ 2 x2)).trans (st _ 3 x3)).trans (st _ 4 x4)).trans (st _ 5 x5)).trans (st _ 6 x6)).trans (st _ 7 x7)
set_option maxHeartbeats 8000000 in
theorem sfile_calls (s : Nat) (d : StoD) (ρ : Rho) (w : World) (h : StoAt w s d ρ) (id : Int) (hid : -9223372036854775808 ≤ id ∧ id ≤ 9223372036854775807) (hg : GOk w) (hmax : MaxOk w) :
    Calls Tryz.prog 19 #[.pointer (some ⟨s, 0, none⟩), .int .i64 id] w (FileRes w (sfileD d id)) := by
  have hz : ∀ w, (zeroValue 43).run Tryz.prog w = .ok (.agg #[.int .i64 0, .int .i64 0, .int .i64 0, .string ⟨#[]⟩, .slice none 0 0, .slice none 0 0, .slice none 0 0, .int .i64 0]) w := fun _ => by kernel_rfl
  obtain ⟨W, hW⟩ : ∃ W, w.alloc (.cells #[.int .i64 0, .int .i64 0, .int .i64 0, .string ⟨#[]⟩, .slice none 0 0, .slice none 0 0, .slice none 0 0, .int .i64 0] 43) = W := ⟨_, rfl⟩
  have hbW : Below w.heap.size w W := by rw [← hW]; exact (Below.refl _ _).alloc (Nat.le_refl _) _
  have hF : W.heap[w.heap.size]? = some (.cells #[.int .i64 0, .int .i64 0, .int .i64 0, .string ⟨#[]⟩, .slice none 0 0, .slice none 0 0, .slice none 0 0, .int .i64 0] 43 (0, 0)) := by rw [← hW]; exact heap_alloc_new w _
  have hlt : w.heap.size < W.heap.size := by rw [← hW]; simp
  have hwh := where_calls s d ρ W (h.below hbW) id hid
  obtain ⟨q, hq⟩ : ∃ q, d.whr.at id = q := ⟨_, rfl⟩
  have Hr : Hid (sfileD d id = if keepQ.contains q = true then (if (fsReadD d.fs (nameD q id)).1 = 0 then fileD (fsReadD d.fs (nameD q id)).2 else none) else none) := Lib.hid (by unfold sfileD; rw [hq])
  rw [hq] at hwh
  have hin := in_keep q
  obtain ⟨b, hb⟩ : ∃ b, keepQ.contains q = b := ⟨_, rfl⟩
  rw [hb] at Hr hin
  have hname := fun w1 (hg1 : GOk w1) => name_calls q id w1 (hg1.int _)
  obtain ⟨nm, hnm⟩ : ∃ nm, nameD q id = nm := ⟨_, rfl⟩
  have hnl : nm.length ≤ maxLen := by rw [← hnm]; have := nameD_len q id; unfold maxLen; omega
  rw [hnm] at Hr hname
  obtain ⟨qn, hqn⟩ : ∃ qn : Nat, q.toNat = qn := ⟨_, rfl⟩
  rw [hqn] at hwh hin hname
  have Hwh := Lib.hid hwh
  have Hin := Lib.hid hin
  have Hname := Lib.hid hname
  have Hhy := Lib.hid (And.intro h (And.intro hg (And.intro hmax hnl)))
  have HF := Lib.hid (And.intro hbW (And.intro hF hlt))
  obtain ⟨fb, hfb⟩ : ∃ fb, d.fb = fb := ⟨_, rfl⟩
  have Hfb := Lib.hid hfb
  clear hwh hin hname hq hb hnm hqn hid h hg hmax hnl hbW hF hlt hfb
  subst hW
  cases b with
  | false =>
    have Hr2 : Hid (sfileD d id = none) := Lib.hid (by rw [Hr.out]; rfl)
    clear Hr
    go_enter Tryz.func19, Tryz.ntmps19
    go_wp2_with fail
    refine (Hwh.out).mono ?_; rintro e w1 ⟨rfl, hb1⟩
    have hF1 := (hb1.block _ HF.out.2.2).trans HF.out.2.1
    have Hb1 := Lib.hid (HF.out.1.trans (hb1.mono HF.out.1.size))
    obtain ⟨⟨x0, x1, x2, x3, x4, x5, x6, x7⟩, y0, y1, y2, y3, y4, y5, y6, y7⟩ := cells8 hF1
    have HF1 := Lib.hid hF1
    clear hb1 hF1
    go_wp2_with fail
    refine (Hin.out w1).mono ?_; rintro e w2 ⟨rfl, hw2⟩; have hw2 := hw2.symm; subst hw2
    go_wp2
    have hB5 := heap8 ⟨_, _, _, _, _, _, _, _, HF1.out⟩ (.int .i64 0) (.int .i64 0) (.int .i64 0) (.string ⟨#[]⟩) (.slice none 0 0) (.slice none 0 0) (.slice none 0 0) (.int .i64 0)
    rw [Hr2.out]
    refine bodyPost_ret (results_row_tmp rfl _ _ w.heap.size 43 _ (0, 0) _ rfl hB5 Tryz.underlying43 rfl (by kernel_rfl)) rfl (fileRes_none rfl ?_)
    exact below8 Hb1.out (Nat.le_refl _) _ _ _ _ _ _ _ _
  | true =>
    obtain ⟨rr, hrr⟩ : ∃ rr, fsReadD d.fs nm = rr := ⟨_, rfl⟩
    obtain ⟨re, rb⟩ := rr
    have Hr1 : Hid (sfileD d id = if re = 0 then fileD rb else none) := Lib.hid (by rw [Hr.out, hrr]; rfl)
    have hrd := fun w1 (hb1 : Below w.heap.size w w1) => fsRead_calls d.fb d.fs ρ nm w1 (Hhy.out.1.below hb1).fs Hhy.out.2.2.2
    have hsm := read_small Hhy.out.1.fs nm
    rw [hrr] at hrd hsm
    rw [Hfb.out] at hrd
    have Hsm := Lib.hid (show rb.length ≤ 16777216 from hsm)
    obtain ⟨tn, htn⟩ : ∃ tn, strL nm = tn := ⟨_, rfl⟩
    rw [htn] at hrd Hname
    have Hrd := Lib.hid hrd
    clear hrr hrd hsm htn Hr
    go_enter Tryz.func19, Tryz.ntmps19
    go_wp2_with fail
    refine (Hwh.out).mono ?_; rintro e w1 ⟨rfl, hb1⟩
    have Hb1 := Lib.hid (HF.out.1.trans (hb1.mono HF.out.1.size))
    have Hg1 := Lib.hid hb1
    clear hb1
    go_wp2_with fail
    refine (Hin.out w1).mono ?_; rintro e w2 ⟨rfl, hw2⟩; have hw2 := hw2.symm; subst hw2
    have Hbd := Lib.hid (Hb1.out).drew
    have hS := (cells4 (Hhy.out.1.below Hbd.out).hd).1.1
    rw [Hfb.out] at hS
    have HS : Hid ((fun w' => w'.cell? ⟨s, 0, none⟩ = some (.pointer (some ⟨fb, 0, none⟩))) w1.drew) := Lib.hid hS
    clear hS
    go_upto_region 4 with fail
    refine wp_region_noPanic ?_
    refine wp_region_held_drew (S := (fun w' => w'.cell? ⟨s, 0, none⟩ = some (.pointer (some ⟨fb, 0, none⟩)))) (by kernel_rfl) (by first | with_reducible exact HS.out | with_reducible exact hS3 | with_reducible exact hS4) (fun hHeld => ?_)
    refine wpAnyH_take (i := 0) (oi := _) (v := ?_) (by simp only [List.getElem?_toArray, List.getElem?_cons_succ, List.getElem?_cons_zero]; rfl) (by kernel_rfl) (by kernel_rfl) (by kernel_rfl) (fun _ _ _ h => h) (Or.inl ⟨by rfl, ?_⟩) (by assumption) ?_
    rotate_left
    · intro w hSw; (try dsimp only at hSw); go_simp; (try with_reducible rfl)
    try simp only [Act.put, List.setIfInBounds_toArray, List.set_cons_zero, List.set_cons_succ]
    refine wpAnyH_take (i := 1) (oi := _) (v := ?_) (by simp only [List.getElem?_toArray, List.getElem?_cons_succ, List.getElem?_cons_zero]; rfl) (by kernel_rfl) (by kernel_rfl) (by kernel_rfl) (fun _ _ _ h => h) (Or.inl ⟨by rfl, ?_⟩) (by assumption) ?_
    rotate_left
    · intro w hSw; (try dsimp only at hSw); go_simp; (try with_reducible rfl)
    try simp only [Act.put, List.setIfInBounds_toArray, List.set_cons_zero, List.set_cons_succ]
    refine wpAnyH_take (i := 2) (oi := _) (v := ?_) (by simp only [List.getElem?_toArray, List.getElem?_cons_succ, List.getElem?_cons_zero]; rfl) (by kernel_rfl) (by kernel_rfl) (by kernel_rfl) (fun _ _ _ h => h) (Or.inl ⟨by rfl, ?_⟩) (by assumption) ?_
    rotate_left
    · intro w hSw; (try dsimp only at hSw); go_simp; (try with_reducible rfl)
    try simp only [Act.put, List.setIfInBounds_toArray, List.set_cons_zero, List.set_cons_succ]
    refine wpAnyH_take (i := 3) (oi := _) (v := ?_) (by simp only [List.getElem?_toArray, List.getElem?_cons_succ, List.getElem?_cons_zero]; rfl) (by kernel_rfl) (by kernel_rfl) (by kernel_rfl) (fun _ _ _ h => h) (Or.inl ⟨by rfl, ?_⟩) (by assumption) ?_
    rotate_left
    · intro w hSw; (try dsimp only at hSw); go_simp; (try with_reducible rfl)
    try simp only [Act.put, List.setIfInBounds_toArray, List.set_cons_zero, List.set_cons_succ]
    refine wpAnyH_take (i := 4) (oi := _) (v := ?_) (by simp only [List.getElem?_toArray, List.getElem?_cons_succ, List.getElem?_cons_zero]; rfl) (by kernel_rfl) (by kernel_rfl) (by kernel_rfl) (fun _ _ _ h => h) (Or.inl ⟨by rfl, ?_⟩) (by assumption) ?_
    rotate_left
    · intro w hSw; (try dsimp only at hSw); go_simp; (try with_reducible rfl)
    try simp only [Act.put, List.setIfInBounds_toArray, List.set_cons_zero, List.set_cons_succ]
    refine wpAnyH_take (i := 5) (oi := _) (v := ?_) (by simp only [List.getElem?_toArray, List.getElem?_cons_succ, List.getElem?_cons_zero]; rfl) (by kernel_rfl) (by kernel_rfl) (by kernel_rfl) (fun _ _ _ h => h) (Or.inl ⟨by rfl, ?_⟩) (by assumption) ?_
    rotate_left
    · intro w hSw; (try dsimp only at hSw); go_simp; (try with_reducible rfl)
    try simp only [Act.put, List.setIfInBounds_toArray, List.set_cons_zero, List.set_cons_succ]
    refine wpAnyH_ready (rs := [6]) (by kernel_rfl) (by simp) ?_
    refine AllReadyH.cons (o := _) (by simp only [List.getElem?_toArray, List.getElem?_cons_succ, List.getElem?_cons_zero]; rfl) (fun K hK => ?_) AllReadyH.nil
    go_simp
    go_at_call 12; refine (Hname.out _ (Hhy.out.2.1.below Hbd.out)).mono ?_; rintro e w3 ⟨rfl, hb3⟩; have hb3' := Hbd.out.trans (hb3.mono Hbd.out.size); have hS3 := (cells4 (Hhy.out.1.below hb3').hd).1.1; rw [Hfb.out] at hS3
    refine hK.out _ _ (by (try dsimp only); first | with_reducible exact HS.out | with_reducible exact hS3 | with_reducible exact hS4) (fun hHeld => ?_)
    clear hK K
    try simp only [Act.put, List.setIfInBounds_toArray, List.set_cons_zero, List.set_cons_succ]
    refine wpAnyH_ready (rs := [7]) (by kernel_rfl) (by simp) ?_
    refine AllReadyH.cons (o := _) (by simp only [List.getElem?_toArray, List.getElem?_cons_succ, List.getElem?_cons_zero]; rfl) (fun K hK => ?_) AllReadyH.nil
    go_simp
    go_at_call 57; refine (Hrd.out _ hb3').mono ?_; rintro e w4 ⟨v, rfl, hrow, hb4⟩; have hb4' := hb3'.trans (hb4.mono hb3'.size); have hS4 := (cells4 (Hhy.out.1.below hb4').hd).1.1; rw [Hfb.out] at hS4
    refine hK.out _ _ (by (try dsimp only); first | with_reducible exact HS.out | with_reducible exact hS3 | with_reducible exact hS4) (fun hHeld => ?_)
    clear hK K
    try simp only [Act.put, List.setIfInBounds_toArray, List.set_cons_zero, List.set_cons_succ]
    refine wpAnyH_take (i := 8) (oi := _) (v := ?_) (by simp only [List.getElem?_toArray, List.getElem?_cons_succ, List.getElem?_cons_zero]; rfl) (by kernel_rfl) (by kernel_rfl) (by kernel_rfl) (fun _ _ _ h => h) (Or.inl ⟨by rfl, ?_⟩) (by assumption) ?_
    rotate_left
    · intro w hSw; (try dsimp only at hSw); go_simp; (try with_reducible rfl)
    try simp only [Act.put, List.setIfInBounds_toArray, List.set_cons_zero, List.set_cons_succ]
    refine wpAnyH_take (i := 9) (oi := _) (v := ?_) (by simp only [List.getElem?_toArray, List.getElem?_cons_succ, List.getElem?_cons_zero]; rfl) (by kernel_rfl) (by kernel_rfl) (by kernel_rfl) (fun _ _ _ h => h) (Or.inl ⟨by rfl, ?_⟩) (by assumption) ?_
    rotate_left
    · intro w hSw; (try dsimp only at hSw); go_simp; (try with_reducible rfl)
    try simp only [Act.put, List.setIfInBounds_toArray, List.set_cons_zero, List.set_cons_succ]
    refine wpAnyH_take (i := 10) (oi := _) (v := ?_) (by simp only [List.getElem?_toArray, List.getElem?_cons_succ, List.getElem?_cons_zero]; rfl) (by kernel_rfl) (by kernel_rfl) (by kernel_rfl) (fun _ _ _ h => h) (Or.inl ⟨by rfl, ?_⟩) (by assumption) ?_
    rotate_left
    · intro w hSw; (try dsimp only at hSw); go_simp; (try with_reducible rfl)
    try simp only [Act.put, List.setIfInBounds_toArray, List.set_cons_zero, List.set_cons_succ]
    refine wpAnyH_take (i := 11) (oi := _) (v := ?_) (by simp only [List.getElem?_toArray, List.getElem?_cons_succ, List.getElem?_cons_zero]; rfl) (by kernel_rfl) (by kernel_rfl) (by kernel_rfl) (fun _ _ _ h => h) (Or.inl ⟨by rfl, ?_⟩) (by assumption) ?_
    rotate_left
    · intro w hSw; (try dsimp only at hSw); go_simp; (try with_reducible rfl)
    try simp only [Act.put, List.setIfInBounds_toArray, List.set_cons_zero, List.set_cons_succ]
    refine wpAnyH_take (i := 12) (oi := _) (v := ?_) (by simp only [List.getElem?_toArray, List.getElem?_cons_succ, List.getElem?_cons_zero]; rfl) (by kernel_rfl) (by kernel_rfl) (by kernel_rfl) (fun _ _ _ h => h) (Or.inl ⟨by rfl, ?_⟩) (by assumption) ?_
    rotate_left
    · intro w hSw; (try dsimp only at hSw); go_simp; (try with_reducible rfl)
    try simp only [Act.put, List.setIfInBounds_toArray, List.set_cons_zero, List.set_cons_succ]
    refine wpAnyH_done (by kernel_rfl) ?_ _
    refine NoPanic.normal ?_
    have hF4 := (((Hg1.out.drew).trans ((hb3.mono (Hg1.out).size).trans (hb4.mono (Nat.le_trans (Hg1.out).size hb3.size)))).block _ HF.out.2.2).trans HF.out.2.1
    have Hrb := Lib.hid (rdB_ofOwn hrow)
    obtain ⟨aa, ac, rfl⟩ := own_form0 hrow
    obtain ⟨⟨x0, x1, x2, x3, x4, x5, x6, x7⟩, y0, y1, y2, y3, y4, y5, y6, y7⟩ := cells8 hF4
    have HF4 := Lib.hid hF4
    have Hb4 := Lib.hid hb4'
    clear hb4 hb4' hrow hF4 hb3 hb3' hS3 hS4 hHeld
    by_cases h0 : re = 0
    · subst h0
      have Hr2 : Hid (sfileD d id = fileD rb) := Lib.hid (by rw [Hr1.out, if_pos rfl])
      have hp := qparse_calls _ rb w4 Hrb.out (by have := Hsm.out; omega) (Hhy.out.2.2.1.below Hb4.out)
      have Hp := Lib.hid hp
      clear hp Hr1 x0 x1 x2 x3 x4 x5 x6 x7 y0 y1 y2 y3 y4 y5 y6 y7
      go_wp2_with fail
      refine (Hp.out).mono ?_; rintro e w5 ⟨vr, vb, vm, rfl, h1, h2, h3, hb5⟩
      have hF5 := (hb5.block _ (Array.getElem?_eq_some_iff.1 HF4.out).1).trans HF4.out
      obtain ⟨⟨fm, fk, fg⟩, hfr⟩ : ∃ f : FileD, (fileD rb).getD FileD.zero = f := ⟨_, rfl⟩
      obtain ⟨ok, hok⟩ : ∃ ok, (fileD rb).isSome = ok := ⟨_, rfl⟩
      rw [hfr] at h1 h2 h3
      dsimp only at h1 h2 h3
      obtain ⟨a1, c1, rfl⟩ := own_form0 h1
      obtain ⟨a2, c2, rfl⟩ := own_form0 h2
      obtain ⟨a3, c3, rfl⟩ := own_form0 h3
      rw [hfr, hok]
      have Hfo := Lib.hid (And.intro hfr hok)
      have hB5 := heap8 ⟨_, _, _, _, _, _, _, _, hF5⟩ (.int .i64 fm.id) (.int .i64 fm.parent) (.int .i64 fm.born) (.string (strL fm.frm)) (.slice a1 fm.rcpts.length c1) (.slice a2 fm.body.length c2) (.slice a3 fk.length c3) (.int .i64 (fg : Int))
      have hkW := fun x0 x1 x2 x3 x4 x5 x6 x7 => keeps8 w5 w.heap.size x0 x1 x2 x3 x4 x5 x6 x7
      have hsz := Hb4.out.size
      have hne : ∀ {v : Value} {e : TypeId} {sz n : Nat} {xs : List Value}, w5.ownsRow w4.heap.size e sz v n xs → ∀ k, v.ownBlock = some k → ¬ k = w.heap.size := fun h k e f => by
        have := (h.lt k e).1
        have := (Array.getElem?_eq_some_iff.1 HF4.out).1
        omega
      have n1 := own_mono (own_keeps h1 (hkW (.int .i64 fm.id) (.int .i64 fm.parent) (.int .i64 fm.born) (.string (strL fm.frm)) (.slice a1 fm.rcpts.length c1) (.slice a2 fm.body.length c2) (.slice a3 fk.length c3) (.int .i64 (fg : Int))) (hne h1)) hsz
      have n2 := own_mono (own_keeps h2 (hkW (.int .i64 fm.id) (.int .i64 fm.parent) (.int .i64 fm.born) (.string (strL fm.frm)) (.slice a1 fm.rcpts.length c1) (.slice a2 fm.body.length c2) (.slice a3 fk.length c3) (.int .i64 (fg : Int))) (hne h2)) hsz
      have n3 := own_mono (own_keeps h3 (hkW (.int .i64 fm.id) (.int .i64 fm.parent) (.int .i64 fm.born) (.string (strL fm.frm)) (.slice a1 fm.rcpts.length c1) (.slice a2 fm.body.length c2) (.slice a3 fk.length c3) (.int .i64 (fg : Int))) (hne h3)) hsz
      have hb5' := below8 (Hb4.out.trans (hb5.mono Hb4.out.size)) (Nat.le_refl _) (.int .i64 fm.id) (.int .i64 fm.parent) (.int .i64 fm.born) (.string (strL fm.frm)) (.slice a1 fm.rcpts.length c1) (.slice a2 fm.body.length c2) (.slice a3 fk.length c3) (.int .i64 (fg : Int))
      have HN := Lib.hid (And.intro hB5 (And.intro n1 (And.intro n2 (And.intro n3 hb5'))))
      obtain ⟨⟨x0, x1, x2, x3, x4, x5, x6, x7⟩, y0, y1, y2, y3, y4, y5, y6, y7⟩ := cells8 hF5
      clear hB5 n1 n2 n3 hb5' hkW hne h1 h2 h3 hb5 hF5 hfr hok hsz
      go_wp2
      refine bodyPost_ret (results_row_tmp rfl _ _ w.heap.size 43 _ (0, 0) _ rfl HN.out.1 Tryz.underlying43 rfl (by kernel_rfl)) rfl ?_
      rw [Hr2.out]
      refine ⟨.slice a1 fm.rcpts.length c1, .slice a2 fm.body.length c2, .slice a3 fk.length c3, ?_, ?_, ?_, ?_, HN.out.2.2.2.2⟩
      · rw [Hfo.out.1, Hfo.out.2]; rfl
      · rw [Hfo.out.1]; exact HN.out.2.1
      · rw [Hfo.out.1]; exact HN.out.2.2.1
      · rw [Hfo.out.1]; exact HN.out.2.2.2.1
    · have h0' : (re == 0) = false := by simpa using h0
      have h0'' : (re != 0) = true := by simpa using h0
      have Hr2 : Hid (sfileD d id = none) := Lib.hid (by rw [Hr1.out, if_neg h0])
      clear h0 Hr1
      go_wp2
      have hB5 := heap8 ⟨_, _, _, _, _, _, _, _, HF4.out⟩ (.int .i64 0) (.int .i64 0) (.int .i64 0) (.string ⟨#[]⟩) (.slice none 0 0) (.slice none 0 0) (.slice none 0 0) (.int .i64 0)
      rw [Hr2.out]
      refine bodyPost_ret (results_row_tmp rfl _ _ w.heap.size 43 _ (0, 0) _ rfl hB5 Tryz.underlying43 rfl (by kernel_rfl)) rfl (fileRes_none rfl ?_)
      exact below8 Hb4.out (Nat.le_refl _) _ _ _ _ _ _ _ _
end Go.Proofs.YtffnbkmigapmjaaGreatDoor


set_option linter.unusedSimpArgs false
set_option linter.unusedVariables false
namespace Go.Proofs.YtffnbkmigapmjaaGreatDoor
open Go.RowKit
/-- A file's fates. -/
def FileD.fates (f : FileD) : List FateD := fatesD (nFates (f.mail.rcpts.length : Int)) f.marks
/-- Does a recipient wait? -/
def FateD.waits (x : FateD) : Bool := x.state == 0
end Go.Proofs.YtffnbkmigapmjaaGreatDoor

set_option linter.unusedSimpArgs false
set_option linter.unusedVariables false
set_option maxRecDepth 100000
namespace Go.Proofs.YtffnbkmigapmjaaGreatDoor
open Go.RowKit
/-- A file that came in by value, in a block of its own. -/
theorem file_box (f : FileD) (vr vb vm : Value) (w : World) : Below w.heap.size w (w.alloc (.cells #[.int .i64 f.mail.id, .int .i64 f.mail.parent, .int .i64 f.mail.born, .string (strL f.mail.frm), vr, vb, vm, .int .i64 (f.good : Int)] 43)) ∧
    (w.alloc (.cells #[.int .i64 f.mail.id, .int .i64 f.mail.parent, .int .i64 f.mail.born, .string (strL f.mail.frm), vr, vb, vm, .int .i64 (f.good : Int)] 43)).heap[w.heap.size]? = some (.cells #[.int .i64 f.mail.id, .int .i64 f.mail.parent, .int .i64 f.mail.born, .string (strL f.mail.frm), vr, vb, vm, .int .i64 (f.good : Int)] 43 (0, 0)) :=
  ⟨(Below.refl _ _).alloc (Nat.le_refl _) _, heap_alloc_new w _⟩
/-- A number's cell. -/
def i1 (n : Nat) : List Value := [.int .i64 (n : Int)]
theorem i1_len (n : Nat) : (i1 n).length = 1 := rfl
abbrev RdI := RdL 1 i1
theorem RdI.at {w : World} {v : Value} {ls : List Nat} (h : RdI w v ls) {i l : Nat} (hl : ls[i]? = some l) :
    ∃ b off cap, v = .slice (some ⟨b, off, none⟩) ls.length cap ∧ b < w.heap.size ∧ w.cell? ⟨b, off + i, none⟩ = some (.int .i64 (l : Int)) := by
  obtain ⟨b, off, cap, h1, h2, h3⟩ := RdL.at h hl
  have := h3 0 _ rfl
  rw [Nat.mul_one, Nat.add_zero] at this
  exact ⟨b, off, cap, h1, h2, this⟩
set_option maxHeartbeats 4000000 in
theorem refInts_calls (v1 v2 : Value) (xs : List Nat) (w : World) (h1 : RdI w v1 xs) (h2 : RdI w v2 xs) :
    Calls Tryz.prog 20 #[v1, v2] w fun e w' => e = .returned (.bool true) ∧ Below w.heap.size w w' := by
  obtain ⟨a1, cap1, rfl, hl1, hc1⟩ := h1.form
  obtain ⟨a2, cap2, rfl, hl2, hc2⟩ := h2.form
  have H1 := Lib.hid h1
  have H2 := Lib.hid h2
  have hni : (xs.length : Int) ≤ 9223372036854775807 := by omega
  clear h1 h2
  go_enter Tryz.func20, Tryz.ntmps20
  go_wp2
  go_loopw [5] (fun i wr => ∃ j : Nat, j ≤ xs.length ∧ i = .int .i64 j ∧ Below w.heap.size w wr) (fun i _ => xs.length - (intOf i).toNat)
  case atStart => exact ⟨0, Nat.zero_le _, rfl, Below.refl _ _⟩
  case round =>
    obtain ⟨j, hj, rfl, hbw⟩ := hrel
    by_cases hlt : j < xs.length
    · obtain ⟨x, hx⟩ : ∃ x, xs[j]? = some x := ⟨_, List.getElem?_eq_getElem hlt⟩
      obtain ⟨b1, o1, k1, e1, _, p1⟩ := RdI.at (H1.out.below (Nat.le_refl _) hbw) hx
      obtain ⟨b2, o2, k2, e2, _, p2⟩ := RdI.at (H2.out.below (Nat.le_refl _) hbw) hx
      cases e1
      simp only [Value.slice.injEq] at e2
      obtain ⟨rfl, _, rfl⟩ := e2
      have hj0 : (0 : Int) ≤ (j : Int) := by omega
      have hj1 : (j : Int) < (xs.length : Int) := by omega
      clear hx
      go_wp2
      go_quiet (fail)
      go_wp2
      go_roundw
      case rel => exact ⟨j + 1, by omega, by simp, below_drewN hbw _⟩
      case measure => simp [intOf] <;> omega
    · have hjl : ¬ ((j : Int) < (xs.length : Int)) := by omega
      go_wp2
      go_ret
      exact ⟨rfl, hbw⟩
end Go.Proofs.YtffnbkmigapmjaaGreatDoor

set_option linter.unusedSimpArgs false
set_option linter.unusedVariables false
set_option maxRecDepth 100000
namespace Go.Proofs.YtffnbkmigapmjaaGreatDoor
open Go.RowKit
/-- Has an attempt begun, and not ended? -/
def FateD.isOpen (x : FateD) : Bool := x.opened && x.waits
/-- Those of the first ones whose attempts are open. -/
def openTo (fs : List FateD) (j : Nat) : List Nat := (List.range j).filter fun i => match fs[i]? with
  | some x => x.isOpen
  | none => false
theorem openTo_succ {fs : List FateD} {j : Nat} {x : FateD} (h : fs[j]? = some x) : openTo fs (j + 1) = openTo fs j ++ if x.isOpen then [j] else [] := by
  unfold openTo
  rw [List.range_succ, List.filter_append]
  congr 1
  rw [List.filter_cons, h]
  cases hx : x.isOpen <;> simp [hx]
theorem openTo_len (fs : List FateD) (j : Nat) : (openTo fs j).length ≤ j := by
  unfold openTo
  have := List.length_filter_le (fun i => match fs[i]? with | some x => x.isOpen | none => false) (List.range j)
  rw [List.length_range] at this
  exact this
def IntsDone (w : World) (ns : List Nat) (e : Ending) (w' : World) : Prop :=
  ∃ v, e = .returned v ∧ w'.ownsRow w.heap.size 3 1 v ns.length (ns.flatMap i1) ∧ Below w.heap.size w w'
theorem infoInt : (Tryz.prog.info? 3).map (fun i => (i.zero, i.size, i.bytes)) = some (some (.int .i64 0), 1, 8) := by kernel_rfl
end Go.Proofs.YtffnbkmigapmjaaGreatDoor
