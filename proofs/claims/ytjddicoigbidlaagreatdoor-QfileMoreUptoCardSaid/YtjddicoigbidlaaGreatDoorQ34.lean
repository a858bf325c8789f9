/-
  The walk of the law QfileMore (printed by gen_qmore.py).
-/
import Derived.Test.YtjddicoigbidlaaGreatDoorQ33
set_option linter.unusedSimpArgs false
set_option linter.unusedVariables false
set_option maxRecDepth 100000
namespace Go.Proofs.YtjddicoigbidlaaGreatDoor
open Go.RowKit
/-- What stands since the parameters were boxed. -/
structure MoreAt (M : Nat) (m : MailD) (k : MarkD) (vr vb vm : Value) (ks : List MarkD) (w : World) : Prop where
  mail : MailAt w M m vr vb
  mark : w.heap[M + 1]? = some (.cells #[.int .i64 k.kind, .int .i64 k.rcpt, .int .i64 k.n] 52 (0, 0))
  marks : RdM w vm ks
  max : MaxOk w
theorem MoreAt.below {M : Nat} {m : MailD} {k : MarkD} {vr vb vm : Value} {ks : List MarkD} {w w' : World} (h : MoreAt M m k vr vb vm ks w) (hb : Below w.heap.size w w') : MoreAt M m k vr vb vm ks w' :=
  ⟨h.mail.below hb, (hb.block _ (Array.getElem?_eq_some_iff.1 h.mark).1).trans h.mark, h.marks.below (Nat.le_refl _) hb, h.max.below hb⟩
theorem moreK_cells {w : World} {K : Nat} {k : MarkD} (h : w.heap[K]? = some (.cells #[.int .i64 k.kind, .int .i64 k.rcpt, .int .i64 k.n] 52 (0, 0))) : w.cell? ⟨K, 0, none⟩ = some (.int .i64 k.kind) ∧ w.cell? ⟨K, 1, none⟩ = some (.int .i64 k.rcpt) ∧ w.cell? ⟨K, 2, none⟩ = some (.int .i64 k.n) :=
  ⟨by rw [cell_of_row _ _ _ _ _ _ h]; rfl, by rw [cell_of_row _ _ _ _ _ _ h]; rfl, by rw [cell_of_row _ _ _ _ _ _ h]; rfl⟩
theorem more_row {w : World} {base : Nat} {a : Option Addr} {c : Nat} {ks : List MarkD} {k : MarkD} (h : w.ownsRow base 52 3 (.slice a (0 + ks.length + [k].length) c) (0 + ks.length + [k].length) ([] ++ ks.flatMap MarkD.cells ++ [k].flatMap MarkD.cells)) : RdM w (.slice a (0 + ks.length + [k].length) c) (ks ++ [k]) := by
  refine rdL_ofOwn (base := base) (n := 0 + ks.length + [k].length) (e := 52) mark_len (by decide) ?_
  rw [List.flatMap_append]; exact h
set_option maxHeartbeats 16000000 in
theorem qfileMore_walk (m : MailD) (vr vb vm : Value) (ks : List MarkD) (k : MarkD) (w : World) (hr : RdS w vr m.rcpts) (hb : RdB w vb m.body) (hnb : NilOk vb) (hm : RdM w vm ks) (hnm : NilOk vm) (hkl : ks.length ≤ 1048576) (hsr : ∀ l ∈ m.rcpts, l.length ≤ 4294967270) (hsf : m.frm.length ≤ 4294967270) (hmax : MaxOk w) :
    Calls Tryz.prog 10 #[mailVal m vr vb, vm, k.val] w fun e w' => e = .returned (.bool true) ∧ Below w.heap.size w w' := by
  obtain ⟨i0, hi, hz0, hz1, hz2⟩ := info_parts infoMark
  obtain ⟨ar, capr, rfl, hlr, hcr⟩ := hr.form
  obtain ⟨ab, capb, rfl, hlb, hcb⟩ := hb.form
  obtain ⟨am, capm, rfl, hlm, hcm⟩ := hm.form
  obtain ⟨W0, hW0⟩ : ∃ W0, (w.alloc (.cells #[.int .i64 m.id, .int .i64 m.parent, .int .i64 m.born, .string (strL m.frm), .slice ar m.rcpts.length capr, .slice ab m.body.length capb] 25)).alloc (.cells #[.int .i64 k.kind, .int .i64 k.rcpt, .int .i64 k.n] 52) = W0 := ⟨_, rfl⟩
  have hbW : Below w.heap.size w W0 := by rw [← hW0]; exact ((Below.refl _ _).alloc (Nat.le_refl _) _).alloc (by simp) _
  obtain ⟨M, hM⟩ : ∃ M, w.heap.size = M := ⟨_, rfl⟩
  have h0 : MoreAt M m k (.slice ar m.rcpts.length capr) (.slice ab m.body.length capb) (.slice am ks.length capm) ks W0 := by
    have h1 := MailAt.new (m := m) hr hb
    have hb1 : Below (w.alloc (.cells #[.int .i64 m.id, .int .i64 m.parent, .int .i64 m.born, .string (strL m.frm), .slice ar m.rcpts.length capr, .slice ab m.body.length capb] 25)).heap.size (w.alloc (.cells #[.int .i64 m.id, .int .i64 m.parent, .int .i64 m.born, .string (strL m.frm), .slice ar m.rcpts.length capr, .slice ab m.body.length capb] 25)) W0 := by rw [← hW0]; exact (Below.refl _ _).alloc (Nat.le_refl _) _
    refine ⟨?_, ?_, hm.below (Nat.le_refl _) hbW, hmax.below hbW⟩
    · rw [← hM]; exact h1.below hb1
    · rw [← hM, ← hW0]; exact heap_new_at _ (by simp)
  have H0 : Hid (∀ W, Below W0.heap.size W0 W → MoreAt M m k (.slice ar m.rcpts.length capr) (.slice ab m.body.length capb) (.slice am ks.length capm) ks W) := fun W h => h0.below h
  obtain ⟨q, hq⟩ : ∃ q, qgood m (ks ++ [k]) = q := ⟨_, rfl⟩
  have Hgood : Hid (∀ a c W, Below W0.heap.size W0 W → RdM W (.slice a (0 + ks.length + [k].length) c) (ks ++ [k]) → Calls Tryz.prog 22 #[(.agg #[.int .i64 m.id, .int .i64 m.parent, .int .i64 m.born, .string (strL m.frm), .slice ar m.rcpts.length capr, .slice ab m.body.length capb]), .slice a (0 + ks.length + [k].length) c] W fun e w' => e = .returned (.bool q) ∧ Below W.heap.size W w') := by
    intro a c W h1 h2
    have h3 := (h0.below h1).mail
    have := qgood_calls m _ _ (.slice a (0 + ks.length + [k].length) c) (ks ++ [k]) W h3.rs h3.rb h2 hsr hsf
    rw [hq] at this; exact this
  have Hans : Hid (∀ W, Below W0.heap.size W0 W → Calls Tryz.prog 23 #[] W fun e w' => e = .returned (.bool true) ∧ Below W.heap.size W w') := fun W h => filAns_calls W (h0.below h).max
  have Hc1 := Lib.hid (cells_one ks)
  have Hc2 := Lib.hid (cells_one [k])
  have hq1 : 0 + ks.length ≤ maxLen := by show _ ≤ 9223372036854775807; omega
  have hq2 : (0 + ks.length) * 24 ≤ 140737488355328 := by omega
  have hq3 : 0 + ks.length + [k].length ≤ maxLen := by show _ ≤ 9223372036854775807; simp; omega
  have hq4 : (0 + ks.length + [k].length) * 24 ≤ 140737488355328 := by simp; omega
  have Hnm := Lib.hid hnm
  have Hnb := Lib.hid hnb
  have Hq := Lib.hid hq
  have HbW := Lib.hid hbW
  have HM := Lib.hid hM
  obtain ⟨kind, rcpt, nn⟩ := k
  have Hs : Hid (∀ W, Below W0.heap.size W0 W → (fun w' => w'.cell? ⟨M, 0, none⟩ = some (.int .i64 m.id) ∧ w'.cell? ⟨M, 1, none⟩ = some (.int .i64 m.parent) ∧ w'.cell? ⟨M, 2, none⟩ = some (.int .i64 m.born) ∧ w'.cell? ⟨M, 3, none⟩ = some (.string (strL m.frm)) ∧ w'.cell? ⟨M, 4, none⟩ = some (.slice ar m.rcpts.length capr) ∧ w'.cell? ⟨M, 5, none⟩ = some (.slice ab m.body.length capb) ∧ w'.cell? ⟨M + 1, 0, none⟩ = some (.int .i64 kind) ∧ w'.cell? ⟨M + 1, 1, none⟩ = some (.int .i64 rcpt) ∧ w'.cell? ⟨M + 1, 2, none⟩ = some (.int .i64 nn) ∧ Hid (Below W0.heap.size W0 w')) W) := by
    intro W h
    have h1 := h0.below h
    obtain ⟨c0, c1, c2, c3, c4, c5⟩ := h1.mail.cells
    obtain ⟨y0, y1, y2⟩ := moreK_cells h1.mark
    exact ⟨c0, c1, c2, c3, c4, c5, y0, y1, y2, Lib.hid h⟩
  have hb0 : Below W0.heap.size W0 W0.drew := (Below.refl _ _).drew
  have HS := Lib.hid (Hs.out _ hb0)
  have HW0 := Lib.hid hW0
  clear hW0 hbW h0 hq hr hb hm hnb hnm hmax hsr hsf hM
  go_enter Tryz.func10, Tryz.ntmps10
  go_upto_region 1 with fail
  rw [HM.out, HW0.out]
  go_cut [22] from 14 (fun x wx => x = .bool (!q) ∧ Hid (Below W0.heap.size W0 wx))
  case first =>
      refine wp_region_noPanic ?_
      refine wp_region_held_drew (S := (fun w' => w'.cell? ⟨M, 0, none⟩ = some (.int .i64 m.id) ∧ w'.cell? ⟨M, 1, none⟩ = some (.int .i64 m.parent) ∧ w'.cell? ⟨M, 2, none⟩ = some (.int .i64 m.born) ∧ w'.cell? ⟨M, 3, none⟩ = some (.string (strL m.frm)) ∧ w'.cell? ⟨M, 4, none⟩ = some (.slice ar m.rcpts.length capr) ∧ w'.cell? ⟨M, 5, none⟩ = some (.slice ab m.body.length capb) ∧ w'.cell? ⟨M + 1, 0, none⟩ = some (.int .i64 kind) ∧ w'.cell? ⟨M + 1, 1, none⟩ = some (.int .i64 rcpt) ∧ w'.cell? ⟨M + 1, 2, none⟩ = some (.int .i64 nn) ∧ Hid (Below W0.heap.size W0 w'))) (by kernel_rfl) (by first | with_reducible exact HS.out | exact Hs.out _ (by with_reducible assumption)) (fun hHeld => ?_)
      refine wpAnyH_take (i := 0) (oi := _) (v := ?_) (by simp only [List.getElem?_toArray, List.getElem?_cons_succ, List.getElem?_cons_zero]; rfl) (by kernel_rfl) (by kernel_rfl) (by kernel_rfl) (fun _ _ _ h => h) (Or.inl ⟨by rfl, ?_⟩) (by assumption) ?_
      rotate_left
      · intro w hSw; (try dsimp only at hSw); go_simp; (try with_reducible rfl)
      try simp only [Act.put, List.setIfInBounds_toArray, List.set_cons_zero, List.set_cons_succ]
      refine wpAnyH_take (i := 2) (oi := _) (v := ?_) (by simp only [List.getElem?_toArray, List.getElem?_cons_succ, List.getElem?_cons_zero]; rfl) (by kernel_rfl) (by kernel_rfl) (by kernel_rfl) (fun _ _ _ h => h) (Or.inl ⟨by rfl, ?_⟩) (by assumption) ?_
      rotate_left
      · intro w hSw; (try dsimp only at hSw); go_simp; (try with_reducible rfl)
      try simp only [Act.put, List.setIfInBounds_toArray, List.set_cons_zero, List.set_cons_succ]
      refine wpAnyH_take (i := 4) (oi := _) (v := ?_) (by simp only [List.getElem?_toArray, List.getElem?_cons_succ, List.getElem?_cons_zero]; rfl) (by kernel_rfl) (by kernel_rfl) (by kernel_rfl) (fun _ _ _ h => h) (Or.inl ⟨by rfl, ?_⟩) (by assumption) ?_
      rotate_left
      · intro w hSw; (try dsimp only at hSw); go_simp; (try with_reducible rfl)
      try simp only [Act.put, List.setIfInBounds_toArray, List.set_cons_zero, List.set_cons_succ]
      refine wpAnyH_ready (rs := [1, 5]) (by kernel_rfl) (by simp) ?_
      refine AllReadyH.cons (o := _) (by simp only [List.getElem?_toArray, List.getElem?_cons_succ, List.getElem?_cons_zero]; rfl) (fun K hK => ?_) (AllReadyH.cons (o := _) (by simp only [List.getElem?_toArray, List.getElem?_cons_succ, List.getElem?_cons_zero]; rfl) (fun K hK => ?_) (AllReadyH.nil))
      · skip
        refine step_build0 rfl (by rfl) ?_; rintro g0 w1 hE1 hg0 hd1 hw1; have hb1 := (hb0.trans (hd1.mono hb0.size)); have hE1 := own_mono hE1 (base' := W0.heap.size) hb0.size
        refine hK.out _ _ (by (try dsimp only); first | with_reducible exact HS.out | exact Hs.out _ (by with_reducible assumption)) (fun hHeld => ?_)
        clear hK K
        try simp only [Act.put, List.setIfInBounds_toArray, List.set_cons_zero, List.set_cons_succ]
        refine wpAnyH_ready (rs := [3, 5]) (by kernel_rfl) (by simp) ?_
        refine AllReadyH.cons (o := _) (by simp only [List.getElem?_toArray, List.getElem?_cons_succ, List.getElem?_cons_zero]; rfl) (fun K hK => ?_) (AllReadyH.cons (o := _) (by simp only [List.getElem?_toArray, List.getElem?_cons_succ, List.getElem?_cons_zero]; rfl) (fun K hK => ?_) (AllReadyH.nil))
        · skip
          have hsrc := (H0.out _ hb1).marks; refine step_append_any mark_len (by decide) rfl (.tmp 15) (.tmp 16) 39 (by rfl) W0.heap.size 52 i0 _ 24 Tryz.underlying39 hi hz0 hz1 hz2 rfl _ _ _ (by rfl) hE1 _ ks (by rfl) hsrc Hnm.out Hc1.out hq1 hq2 hb1.size ?_; rintro v2 w2 hown2 hgr2 hn2; have hb2 := hb1.grown hgr2 hb1.size (fun j hj => own_base hE1 j hj)
          refine hK.out _ _ (by (try dsimp only); first | with_reducible exact HS.out | exact Hs.out _ (by with_reducible assumption)) (fun hHeld => ?_)
          clear hK K
          try simp only [Act.put, List.setIfInBounds_toArray, List.set_cons_zero, List.set_cons_succ]
          refine wpAnyH_ready (rs := [5]) (by kernel_rfl) (by simp) ?_
          refine AllReadyH.cons (o := _) (by simp only [List.getElem?_toArray, List.getElem?_cons_succ, List.getElem?_cons_zero]; rfl) (fun K hK => ?_) AllReadyH.nil
          refine step_build1 ⟨kind, rcpt, nn⟩ rfl (by rfl) (by rfl) ?_; rintro g1 w3 hK3 hg1 hd3 hw3; have hb3 := (hb2.trans (hd3.mono hb2.size)); have hown3 := own_below hown2 hd3 (Nat.le_refl _)
          refine hK.out _ _ (by (try dsimp only); first | with_reducible exact HS.out | exact Hs.out _ (by with_reducible assumption)) (fun hHeld => ?_)
          clear hK K
          try simp only [Act.put, List.setIfInBounds_toArray, List.set_cons_zero, List.set_cons_succ]
          refine wpAnyH_ready (rs := [6]) (by kernel_rfl) (by simp) ?_
          refine AllReadyH.cons (o := _) (by simp only [List.getElem?_toArray, List.getElem?_cons_succ, List.getElem?_cons_zero]; rfl) (fun K hK => ?_) AllReadyH.nil
          have hk1 := rdM_one hK3; refine step_append_any mark_len (by decide) rfl (.tmp 17) (.tmp 19) 39 (by rfl) W0.heap.size 52 i0 _ 24 Tryz.underlying39 hi hz0 hz1 hz2 rfl _ _ _ (by rfl) hown3 _ [⟨kind, rcpt, nn⟩] (by rfl) hk1 (by intro _ _ e; cases e) Hc2.out hq3 hq4 hb3.size ?_; rintro v4 w4 hown4 hgr4 hn4; have hb4 := hb3.grown hgr4 hb3.size (fun j hj => own_base hown3 j hj)
          refine hK.out _ _ (by (try dsimp only); first | with_reducible exact HS.out | exact Hs.out _ (by with_reducible assumption)) (fun hHeld => ?_)
          clear hK K
          try simp only [Act.put, List.setIfInBounds_toArray, List.set_cons_zero, List.set_cons_succ]
          refine wpAnyH_ready (rs := [7]) (by kernel_rfl) (by simp) ?_
          refine AllReadyH.cons (o := _) (by simp only [List.getElem?_toArray, List.getElem?_cons_succ, List.getElem?_cons_zero]; rfl) (fun K hK => ?_) AllReadyH.nil
          go_simp
          obtain ⟨af, cf, hvf⟩ := own_form0 hown4; subst hvf; go_at_call 22; refine (Hgood.out _ _ _ hb4 (more_row hown4)).mono ?_; rintro e wg ⟨rfl, hbg⟩; have hbG := hb4.trans (hbg.mono hb4.size)
          refine hK.out _ _ (by (try dsimp only); first | with_reducible exact HS.out | exact Hs.out _ (by with_reducible assumption)) (fun hHeld => ?_)
          clear hK K
          try simp only [Act.put, List.setIfInBounds_toArray, List.set_cons_zero, List.set_cons_succ]
          refine wpAnyH_take (i := 8) (oi := _) (v := ?_) (by simp only [List.getElem?_toArray, List.getElem?_cons_succ, List.getElem?_cons_zero]; rfl) (by kernel_rfl) (by kernel_rfl) (by kernel_rfl) (fun _ _ _ h => h) (Or.inl ⟨by rfl, ?_⟩) (by assumption) ?_
          rotate_left
          · intro w hSw; (try dsimp only at hSw); go_simp; (try with_reducible rfl)
          try simp only [Act.put, List.setIfInBounds_toArray, List.set_cons_zero, List.set_cons_succ]
          refine wpAnyH_done (by kernel_rfl) ?_ _
          refine NoPanic.normal ?_
          go_wp2_with fail
          go_meet
          exact ⟨rfl, Lib.hid hbG⟩
        · skip
          refine step_build1 ⟨kind, rcpt, nn⟩ rfl (by rfl) (by rfl) ?_; rintro g1 w2 hK2 hg1 hd2 hw2; have hb2 := (hb1.trans (hd2.mono hb1.size)); have hE2 := own_below hE1 hd2 (Nat.le_refl _)
          refine hK.out _ _ (by (try dsimp only); first | with_reducible exact HS.out | exact Hs.out _ (by with_reducible assumption)) (fun hHeld => ?_)
          clear hK K
          try simp only [Act.put, List.setIfInBounds_toArray, List.set_cons_zero, List.set_cons_succ]
          refine wpAnyH_ready (rs := [3]) (by kernel_rfl) (by simp) ?_
          refine AllReadyH.cons (o := _) (by simp only [List.getElem?_toArray, List.getElem?_cons_succ, List.getElem?_cons_zero]; rfl) (fun K hK => ?_) AllReadyH.nil
          have hsrc := (H0.out _ hb2).marks; refine step_append_any mark_len (by decide) rfl (.tmp 15) (.tmp 16) 39 (by rfl) W0.heap.size 52 i0 _ 24 Tryz.underlying39 hi hz0 hz1 hz2 rfl _ _ _ (by rfl) hE2 _ ks (by rfl) hsrc Hnm.out Hc1.out hq1 hq2 hb2.size ?_; rintro v3 w3 hown3 hgr3 hn3; have hb3 := hb2.grown hgr3 hb2.size (fun j hj => own_base hE2 j hj); have hK3 := (hgr3.block g1 (Array.getElem?_eq_some_iff.1 hK2).1 (by intro e; have hx : g0 = g1 := (by injection e with e1; exact e1.symm); subst hx; have := (Array.getElem?_eq_some_iff.1 hK2).1; have := hE1.lt g0 rfl; omega)).trans hK2
          refine hK.out _ _ (by (try dsimp only); first | with_reducible exact HS.out | exact Hs.out _ (by with_reducible assumption)) (fun hHeld => ?_)
          clear hK K
          try simp only [Act.put, List.setIfInBounds_toArray, List.set_cons_zero, List.set_cons_succ]
          refine wpAnyH_ready (rs := [6]) (by kernel_rfl) (by simp) ?_
          refine AllReadyH.cons (o := _) (by simp only [List.getElem?_toArray, List.getElem?_cons_succ, List.getElem?_cons_zero]; rfl) (fun K hK => ?_) AllReadyH.nil
          have hk1 := rdM_one hK3; refine step_append_any mark_len (by decide) rfl (.tmp 17) (.tmp 19) 39 (by rfl) W0.heap.size 52 i0 _ 24 Tryz.underlying39 hi hz0 hz1 hz2 rfl _ _ _ (by rfl) hown3 _ [⟨kind, rcpt, nn⟩] (by rfl) hk1 (by intro _ _ e; cases e) Hc2.out hq3 hq4 hb3.size ?_; rintro v4 w4 hown4 hgr4 hn4; have hb4 := hb3.grown hgr4 hb3.size (fun j hj => own_base hown3 j hj)
          refine hK.out _ _ (by (try dsimp only); first | with_reducible exact HS.out | exact Hs.out _ (by with_reducible assumption)) (fun hHeld => ?_)
          clear hK K
          try simp only [Act.put, List.setIfInBounds_toArray, List.set_cons_zero, List.set_cons_succ]
          refine wpAnyH_ready (rs := [7]) (by kernel_rfl) (by simp) ?_
          refine AllReadyH.cons (o := _) (by simp only [List.getElem?_toArray, List.getElem?_cons_succ, List.getElem?_cons_zero]; rfl) (fun K hK => ?_) AllReadyH.nil
          go_simp
          obtain ⟨af, cf, hvf⟩ := own_form0 hown4; subst hvf; go_at_call 22; refine (Hgood.out _ _ _ hb4 (more_row hown4)).mono ?_; rintro e wg ⟨rfl, hbg⟩; have hbG := hb4.trans (hbg.mono hb4.size)
          refine hK.out _ _ (by (try dsimp only); first | with_reducible exact HS.out | exact Hs.out _ (by with_reducible assumption)) (fun hHeld => ?_)
          clear hK K
          try simp only [Act.put, List.setIfInBounds_toArray, List.set_cons_zero, List.set_cons_succ]
          refine wpAnyH_take (i := 8) (oi := _) (v := ?_) (by simp only [List.getElem?_toArray, List.getElem?_cons_succ, List.getElem?_cons_zero]; rfl) (by kernel_rfl) (by kernel_rfl) (by kernel_rfl) (fun _ _ _ h => h) (Or.inl ⟨by rfl, ?_⟩) (by assumption) ?_
          rotate_left
          · intro w hSw; (try dsimp only at hSw); go_simp; (try with_reducible rfl)
          try simp only [Act.put, List.setIfInBounds_toArray, List.set_cons_zero, List.set_cons_succ]
          refine wpAnyH_done (by kernel_rfl) ?_ _
          refine NoPanic.normal ?_
          go_wp2_with fail
          go_meet
          exact ⟨rfl, Lib.hid hbG⟩
      · skip
        refine step_build1 ⟨kind, rcpt, nn⟩ rfl (by rfl) (by rfl) ?_; rintro g1 w1 hK1 hg1 hd1 hw1; have hb1 := (hb0.trans (hd1.mono hb0.size))
        refine hK.out _ _ (by (try dsimp only); first | with_reducible exact HS.out | exact Hs.out _ (by with_reducible assumption)) (fun hHeld => ?_)
        clear hK K
        try simp only [Act.put, List.setIfInBounds_toArray, List.set_cons_zero, List.set_cons_succ]
        refine wpAnyH_ready (rs := [1]) (by kernel_rfl) (by simp) ?_
        refine AllReadyH.cons (o := _) (by simp only [List.getElem?_toArray, List.getElem?_cons_succ, List.getElem?_cons_zero]; rfl) (fun K hK => ?_) AllReadyH.nil
        refine step_build0 rfl (by rfl) ?_; rintro g0 w2 hE2 hg0 hd2 hw2; have hb2 := (hb1.trans (hd2.mono hb1.size)); have hE2 := own_mono hE2 (base' := W0.heap.size) hb1.size
        refine hK.out _ _ (by (try dsimp only); first | with_reducible exact HS.out | exact Hs.out _ (by with_reducible assumption)) (fun hHeld => ?_)
        clear hK K
        try simp only [Act.put, List.setIfInBounds_toArray, List.set_cons_zero, List.set_cons_succ]
        refine wpAnyH_ready (rs := [3]) (by kernel_rfl) (by simp) ?_
        refine AllReadyH.cons (o := _) (by simp only [List.getElem?_toArray, List.getElem?_cons_succ, List.getElem?_cons_zero]; rfl) (fun K hK => ?_) AllReadyH.nil
        have hsrc := (H0.out _ hb2).marks; refine step_append_any mark_len (by decide) rfl (.tmp 15) (.tmp 16) 39 (by rfl) W0.heap.size 52 i0 _ 24 Tryz.underlying39 hi hz0 hz1 hz2 rfl _ _ _ (by rfl) hE2 _ ks (by rfl) hsrc Hnm.out Hc1.out hq1 hq2 hb2.size ?_; rintro v3 w3 hown3 hgr3 hn3; have hb3 := hb2.grown hgr3 hb2.size (fun j hj => own_base hE2 j hj); have hK3 := (hgr3.block g1 (Nat.lt_of_lt_of_le (Array.getElem?_eq_some_iff.1 hK1).1 hd2.size) (by intro e; have hx : g0 = g1 := (by injection e with e1; exact e1.symm); subst hx; have := (Array.getElem?_eq_some_iff.1 hK1).1; omega)).trans ((hd2.block g1 (Array.getElem?_eq_some_iff.1 hK1).1).trans hK1)
        refine hK.out _ _ (by (try dsimp only); first | with_reducible exact HS.out | exact Hs.out _ (by with_reducible assumption)) (fun hHeld => ?_)
        clear hK K
        try simp only [Act.put, List.setIfInBounds_toArray, List.set_cons_zero, List.set_cons_succ]
        refine wpAnyH_ready (rs := [6]) (by kernel_rfl) (by simp) ?_
        refine AllReadyH.cons (o := _) (by simp only [List.getElem?_toArray, List.getElem?_cons_succ, List.getElem?_cons_zero]; rfl) (fun K hK => ?_) AllReadyH.nil
        have hk1 := rdM_one hK3; refine step_append_any mark_len (by decide) rfl (.tmp 17) (.tmp 19) 39 (by rfl) W0.heap.size 52 i0 _ 24 Tryz.underlying39 hi hz0 hz1 hz2 rfl _ _ _ (by rfl) hown3 _ [⟨kind, rcpt, nn⟩] (by rfl) hk1 (by intro _ _ e; cases e) Hc2.out hq3 hq4 hb3.size ?_; rintro v4 w4 hown4 hgr4 hn4; have hb4 := hb3.grown hgr4 hb3.size (fun j hj => own_base hown3 j hj)
        refine hK.out _ _ (by (try dsimp only); first | with_reducible exact HS.out | exact Hs.out _ (by with_reducible assumption)) (fun hHeld => ?_)
        clear hK K
        try simp only [Act.put, List.setIfInBounds_toArray, List.set_cons_zero, List.set_cons_succ]
        refine wpAnyH_ready (rs := [7]) (by kernel_rfl) (by simp) ?_
        refine AllReadyH.cons (o := _) (by simp only [List.getElem?_toArray, List.getElem?_cons_succ, List.getElem?_cons_zero]; rfl) (fun K hK => ?_) AllReadyH.nil
        go_simp
        obtain ⟨af, cf, hvf⟩ := own_form0 hown4; subst hvf; go_at_call 22; refine (Hgood.out _ _ _ hb4 (more_row hown4)).mono ?_; rintro e wg ⟨rfl, hbg⟩; have hbG := hb4.trans (hbg.mono hb4.size)
        refine hK.out _ _ (by (try dsimp only); first | with_reducible exact HS.out | exact Hs.out _ (by with_reducible assumption)) (fun hHeld => ?_)
        clear hK K
        try simp only [Act.put, List.setIfInBounds_toArray, List.set_cons_zero, List.set_cons_succ]
        refine wpAnyH_take (i := 8) (oi := _) (v := ?_) (by simp only [List.getElem?_toArray, List.getElem?_cons_succ, List.getElem?_cons_zero]; rfl) (by kernel_rfl) (by kernel_rfl) (by kernel_rfl) (fun _ _ _ h => h) (Or.inl ⟨by rfl, ?_⟩) (by assumption) ?_
        rotate_left
        · intro w hSw; (try dsimp only at hSw); go_simp; (try with_reducible rfl)
        try simp only [Act.put, List.setIfInBounds_toArray, List.set_cons_zero, List.set_cons_succ]
        refine wpAnyH_done (by kernel_rfl) ?_ _
        refine NoPanic.normal ?_
        go_wp2_with fail
        go_meet
        exact ⟨rfl, Lib.hid hbG⟩
  case rest =>
    obtain ⟨rfl, hcut⟩ := hcut
    cases q with
    | false =>
      go_wp2_with fail
      refine (Hans.out _ hcut.out).mono ?_; rintro e wz ⟨rfl, hbz⟩
      have hfin := HbW.out.trans ((hcut.out.trans (hbz.mono hcut.out.size)).mono HbW.out.size)
      go_wp2
      go_ret
      exact ⟨rfl, hfin⟩
    | true =>
      obtain ⟨hk1, hkg, hk2, hg1, hg2⟩ := qgood_more Hq.out
      have hr8 : m.rcpts.length ≤ 8 := ((good_iff m).1 hg1).2.2.2.1.2
      have hkg' : 1 ≤ kind ∧ kind ≤ 5 ∧ 0 ≤ rcpt ∧ rcpt < 8 ∧ 0 ≤ nn ∧ nn ≤ 1099511627776 := of_decide_eq_true hkg
      have hks2 : ∀ x ∈ ks ++ [⟨kind, rcpt, nn⟩], MarkD.good x = true := by
        intro x hx
        rcases List.mem_append.1 hx with h | h
        · exact hk1 x h
        · rw [List.mem_singleton.1 h]; exact hkg
      have Hfile : Hid (∀ W, Below W0.heap.size W0 W → Calls Tryz.prog 24 #[(.agg #[.int .i64 m.id, .int .i64 m.parent, .int .i64 m.born, .string (strL m.frm), .slice ar m.rcpts.length capr, .slice ab m.body.length capb]), .slice am ks.length capm] W (RowDone W (m.record ++ bytesM ks))) := fun W h => by
        have h1 := H0.out W h
        exact qfile_calls m _ _ _ ks W h1.mail.rs h1.mail.rb Hnb.out h1.marks hg1 hk1 (by omega)
      have hfd := fileD_full m (small_of_good hg1) hg1 ks hk1 (by omega)
      have hfd2 := fileD_full m (small_of_good hg1) hg1 (ks ++ [⟨kind, rcpt, nn⟩]) hks2 (by simp; omega)
      rw [bytesM_append, show bytesM [(⟨kind, rcpt, nn⟩ : MarkD)] = MarkD.bytes ⟨kind, rcpt, nn⟩ by simp [bytesM], ← List.append_assoc] at hfd2
      have hmx := record_max hg1
      have hBl : (m.record ++ bytesM ks).length ≤ 1000012 + 28 * 60 := by rw [List.length_append, bytesM_length]; omega
      have hkb : (MarkD.bytes ⟨kind, rcpt, nn⟩).length = 28 := bytes_length _
      have hmk := fun W => refMark_calls ⟨kind, rcpt, nn⟩ W (by simp only; omega) (by simp only; omega) (by simp only; omega) (by simp only; omega) (by simp only; omega) (by simp only; omega)
      obtain ⟨ls, hls⟩ : ∃ ls, ks ++ [(⟨kind, rcpt, nn⟩ : MarkD)] = ls := ⟨_, rfl⟩
      rw [hls] at hfd2
      have Hls := Lib.hid hls
      obtain ⟨B, hB⟩ : ∃ B, m.record ++ bytesM ks = B := ⟨_, rfl⟩
      obtain ⟨kb, hkbe⟩ : ∃ kb, MarkD.bytes ⟨kind, rcpt, nn⟩ = kb := ⟨_, rfl⟩
      obtain ⟨G, hG⟩ : ∃ G, m.record.length + 28 * ks.length = G := ⟨_, rfl⟩
      obtain ⟨G2, hG2'⟩ : ∃ G2, m.record.length + 28 * ls.length = G2 := ⟨_, rfl⟩
      rw [hB] at hfd hfd2 hBl Hfile
      rw [hkbe] at hfd2 hkb hmk
      rw [hG] at hfd
      rw [hG2'] at hfd2
      have hG2 : Hid ((G2 : Int) = (G2 : Int)) := rfl
      have Hmark : Hid (∀ W, Calls Tryz.prog 28 #[.agg #[.int .i64 kind, .int .i64 rcpt, .int .i64 nn]] W (RowDone W kb)) := hmk
      have Hpar : Hid (∀ v W, RdB W v B → MaxOk W → Calls Tryz.prog 25 #[v] W (FilDone m ks (G : Int) W)) := by
        intro v W h1 h2
        refine (qparse_calls v B W h1 (by omega) h2).mono fun e w' h => ?_
        rw [hfd] at h; exact fil_some rfl h
      have Hpar2 : Hid (∀ v W, RdB W v (B ++ kb) → MaxOk W → Calls Tryz.prog 25 #[v] W (FilOwn m ls (G2 : Int) W)) := by
        intro v W h1 h2
        refine (qparse_calls v _ W h1 (by rw [List.length_append]; omega) h2).mono fun e w' h => ?_
        rw [hfd2] at h; exact fil_own rfl h
      have Hrd : Hid (∀ base v W, World.ownsRow W base 5 1 v (B.length + kb.length) ((B ++ kb).map u8v) → RdB W v (B ++ kb)) := fun base v W h => rdB_ofOwn h
      have hr1 : B.length + kb.length ≤ maxLen := by show _ ≤ 9223372036854775807; omega
      have hr2 : (B.length + kb.length) * 1 ≤ 140737488355328 := by omega
      have Hone := Lib.hid (bb1_one kb)
      obtain ⟨j0, hj, hy0, hy1, hy2⟩ := info_parts infoU8
      have Hkg := Lib.hid hkg
      have Hr8 := Lib.hid hr8
      have hb1 := hcut.out
      have Hb1 := Lib.hid hb1
      have hn1 := (H0.out _ hb1).mail
      have hf := Hfile.out _ hb1
      obtain ⟨c0, c1, c2, c3, c4, c5⟩ := hn1.cells
      have Hf := Lib.hid hf
      clear hls hf hn1 hb1 hcut hfd hfd2 hBl hkb hmk hB hkbe hG hG2' hmx hk1 hkg hkg' hks2 hg1 hg2 hk2 hr8
      go_wp2_with fail
      refine (Hf.out).mono ?_; rintro e w2 ⟨v2, rfl, hown2, hb2⟩
      have hbw2 := Hb1.out.trans (hb2.mono Hb1.out.size)
      have hpc := Hpar.out _ w2 (rdB_ofOwn hown2) (H0.out _ hbw2).max
      have Hpc := Lib.hid hpc
      have Hbw2 := Lib.hid hbw2
      clear hpc hb2 hown2 hbw2 Hf c0 c1 c2 c3 c4 c5
      go_wp2_with fail
      refine (Hpc.out).mono ?_; rintro e w5 ⟨ar5, cr5, ab5, cb5, am5, cm5, rfl, hrs5, hrb5, hrm5, hb5⟩
      have hbw5 := Hbw2.out.trans (hb5.mono Hbw2.out.size)
      have hnew := fileAt_new (G := G) rfl hrs5 hrb5 hrm5
      obtain ⟨w6, hw6⟩ : ∃ w6, w5.alloc (.cells #[.int .i64 m.id, .int .i64 m.parent, .int .i64 m.born, .string (strL m.frm), .slice ar5 m.rcpts.length cr5, .slice ab5 m.body.length cb5, .slice am5 ks.length cm5, .int .i64 (G : Int)] 43) = w6 := ⟨_, rfl⟩
      rw [hw6] at hnew
      have hb6 : Below w5.heap.size w5 w6 := by rw [← hw6]; exact (Below.refl _ _).alloc (Nat.le_refl _) _
      have hbw6 := hbw5.trans (hb6.mono hbw5.size)
      obtain ⟨X, hX⟩ : ∃ X, w5.heap.size = X := ⟨_, rfl⟩
      rw [hX] at hnew
      have Hw6 := Lib.hid hw6
      have HX := Lib.hid hX
      have Hnew6 := Lib.hid hnew
      have hb6d : Below w6.heap.size w6 w6.drew := (Below.refl _ _).drew
      have hs6d := hb6d.size
      have hB6d := hbw6.trans (hb6d.mono hbw6.size)
      have HS := Lib.hid (Hs.out _ hB6d)
      clear hw6 hX hnew hb6 hbw5 hb5 hrs5 hrb5 hrm5 Hpc
      go_upto_region 4 with fail
      rw [Hw6.out, HX.out]
      go_cut [9, 10] from 31 (fun p b wx => ∃ Y ar9 cr9 ab9 cb9 am9 cm9, p = .pointer (some ⟨Y, 0, none⟩) ∧ b = .bool true ∧ Hid (FileAt wx Y ⟨m, ls, G2⟩ (.slice ar9 m.rcpts.length cr9) (.slice ab9 m.body.length cb9) (.slice am9 ls.length cm9)) ∧ Hid (Below w6.heap.size w6 wx))
      case first =>
        refine wp_region_noPanic ?_
        refine wp_region_held_drew (S := (fun w' => w'.cell? ⟨M, 0, none⟩ = some (.int .i64 m.id) ∧ w'.cell? ⟨M, 1, none⟩ = some (.int .i64 m.parent) ∧ w'.cell? ⟨M, 2, none⟩ = some (.int .i64 m.born) ∧ w'.cell? ⟨M, 3, none⟩ = some (.string (strL m.frm)) ∧ w'.cell? ⟨M, 4, none⟩ = some (.slice ar m.rcpts.length capr) ∧ w'.cell? ⟨M, 5, none⟩ = some (.slice ab m.body.length capb) ∧ w'.cell? ⟨M + 1, 0, none⟩ = some (.int .i64 kind) ∧ w'.cell? ⟨M + 1, 1, none⟩ = some (.int .i64 rcpt) ∧ w'.cell? ⟨M + 1, 2, none⟩ = some (.int .i64 nn) ∧ Hid (Below W0.heap.size W0 w'))) (by kernel_rfl) (by first | with_reducible exact HS.out | exact Hs.out _ (by with_reducible assumption)) (fun hHeld => ?_)
        refine wpAnyH_take (i := 0) (oi := _) (v := ?_) (by simp only [List.getElem?_toArray, List.getElem?_cons_succ, List.getElem?_cons_zero]; rfl) (by kernel_rfl) (by kernel_rfl) (by kernel_rfl) (fun _ _ _ h => h) (Or.inl ⟨by rfl, ?_⟩) (by assumption) ?_
        rotate_left
        · intro w hSw; (try dsimp only at hSw); go_simp; (try with_reducible rfl)
        try simp only [Act.put, List.setIfInBounds_toArray, List.set_cons_zero, List.set_cons_succ]
        refine wpAnyH_take (i := 1) (oi := _) (v := ?_) (by simp only [List.getElem?_toArray, List.getElem?_cons_succ, List.getElem?_cons_zero]; rfl) (by kernel_rfl) (by kernel_rfl) (by kernel_rfl) (fun _ _ _ h => h) (Or.inl ⟨by rfl, ?_⟩) (by assumption) ?_
        rotate_left
        · intro w hSw; (try dsimp only at hSw); go_simp; (try with_reducible rfl)
        try simp only [Act.put, List.setIfInBounds_toArray, List.set_cons_zero, List.set_cons_succ]
        refine wpAnyH_take (i := 3) (oi := _) (v := ?_) (by simp only [List.getElem?_toArray, List.getElem?_cons_succ, List.getElem?_cons_zero]; rfl) (by kernel_rfl) (by kernel_rfl) (by kernel_rfl) (fun _ _ _ h => h) (Or.inl ⟨by rfl, ?_⟩) (by assumption) ?_
        rotate_left
        · intro w hSw; (try dsimp only at hSw); go_simp; (try with_reducible rfl)
        try simp only [Act.put, List.setIfInBounds_toArray, List.set_cons_zero, List.set_cons_succ]
        refine wpAnyH_ready (rs := [2, 10]) (by kernel_rfl) (by simp) ?_
        refine AllReadyH.cons (o := _) (by simp only [List.getElem?_toArray, List.getElem?_cons_succ, List.getElem?_cons_zero]; rfl) (fun K hK => ?_) (AllReadyH.cons (o := _) (by simp only [List.getElem?_toArray, List.getElem?_cons_succ, List.getElem?_cons_zero]; rfl) (fun K hK => ?_) (AllReadyH.nil))
        · go_simp
          go_at_call 24; refine (Hfile.out _ hB6d).mono ?_; rintro e x1 ⟨v2, rfl, hO_x1, hd_x1⟩; have hb_x1 := hb6d.trans (hd_x1.mono hb6d.size); have hB_x1 := hbw6.trans (hb_x1.mono hbw6.size); have hs_x1 := hd_x1.size
          refine hK.out _ _ (by (try dsimp only); first | with_reducible exact HS.out | exact Hs.out _ (by with_reducible assumption)) (fun hHeld => ?_)
          clear hK K
          try simp only [Act.put, List.setIfInBounds_toArray, List.set_cons_zero, List.set_cons_succ]
          refine wpAnyH_ready (rs := [4, 10]) (by kernel_rfl) (by simp) ?_
          refine AllReadyH.cons (o := _) (by simp only [List.getElem?_toArray, List.getElem?_cons_succ, List.getElem?_cons_zero]; rfl) (fun K hK => ?_) (AllReadyH.cons (o := _) (by simp only [List.getElem?_toArray, List.getElem?_cons_succ, List.getElem?_cons_zero]; rfl) (fun K hK => ?_) (AllReadyH.nil))
          · go_simp
            go_at_call 28; refine (Hmark.out _).mono ?_; rintro e x2 ⟨v4, rfl, hM_x2, hd_x2⟩; have hb_x2 := hb_x1.trans (hd_x2.mono hb_x1.size); have hB_x2 := hbw6.trans (hb_x2.mono hbw6.size); have hs_x2 := hd_x2.size; have hO_x2 := own_below hO_x1 hd_x2 (Nat.le_refl _); have hR_x2 := rdB_ofOwn hM_x2; have hRn := own_nilOk hM_x2
            refine hK.out _ _ (by (try dsimp only); first | with_reducible exact HS.out | exact Hs.out _ (by with_reducible assumption)) (fun hHeld => ?_)
            clear hK K
            try simp only [Act.put, List.setIfInBounds_toArray, List.set_cons_zero, List.set_cons_succ]
            refine wpAnyH_ready (rs := [5, 10]) (by kernel_rfl) (by simp) ?_
            refine AllReadyH.cons (o := _) (by simp only [List.getElem?_toArray, List.getElem?_cons_succ, List.getElem?_cons_zero]; rfl) (fun K hK => ?_) (AllReadyH.cons (o := _) (by simp only [List.getElem?_toArray, List.getElem?_cons_succ, List.getElem?_cons_zero]; rfl) (fun K hK => ?_) (AllReadyH.nil))
            · skip
              refine step_append_any bb1_len (by decide) rfl (.tmp 34) (.tmp 36) 23 (by rfl) _ 5 j0 (.int .u8 0) 1 Tryz.underlying23 hj hy0 hy1 hy2 rfl _ _ _ (by rfl) hO_x2 _ kb (by rfl) (rdLB hR_x2) hRn Hone.out hr1 hr2 (by omega) ?_; rintro v5 x3 hA_x3 hg_x3 hn_x3; rw [bb1_flat, ← List.map_append] at hA_x3; have hb_x3 := hb_x2.grown hg_x3 hb_x2.size (fun j hj => by have := own_base hO_x2 j hj; omega); have hB_x3 := hbw6.trans (hb_x3.mono hbw6.size); have hs_x3 := hg_x3.size; have hP_x3 := Hrd.out _ _ _ hA_x3
              refine hK.out _ _ (by (try dsimp only); first | with_reducible exact HS.out | exact Hs.out _ (by with_reducible assumption)) (fun hHeld => ?_)
              clear hK K
              try simp only [Act.put, List.setIfInBounds_toArray, List.set_cons_zero, List.set_cons_succ]
              refine wpAnyH_ready (rs := [6, 10]) (by kernel_rfl) (by simp) ?_
              refine AllReadyH.cons (o := _) (by simp only [List.getElem?_toArray, List.getElem?_cons_succ, List.getElem?_cons_zero]; rfl) (fun K hK => ?_) (AllReadyH.cons (o := _) (by simp only [List.getElem?_toArray, List.getElem?_cons_succ, List.getElem?_cons_zero]; rfl) (fun K hK => ?_) (AllReadyH.nil))
              · go_simp
                go_at_call 25; refine (Hpar2.out _ _ hP_x3 (H0.out _ hB_x3).max).mono ?_; rintro e x4 ⟨ar9, cr9, ab9, cb9, am9, cm9, rfl, hF1_x4, hF2_x4, hF3_x4, hd_x4⟩; have hb_x4 := hb_x3.trans (hd_x4.mono hb_x3.size); have hB_x4 := hbw6.trans (hb_x4.mono hbw6.size); have hs_x4 := hd_x4.size
                refine hK.out _ _ (by (try dsimp only); first | with_reducible exact HS.out | exact Hs.out _ (by with_reducible assumption)) (fun hHeld => ?_)
                clear hK K
                try simp only [Act.put, List.setIfInBounds_toArray, List.set_cons_zero, List.set_cons_succ]
                refine wpAnyH_take (i := 7) (oi := _) (v := ?_) (by simp only [List.getElem?_toArray, List.getElem?_cons_succ, List.getElem?_cons_zero]; rfl) (by kernel_rfl) (by kernel_rfl) (by kernel_rfl) (fun _ _ _ h => h) (Or.inl ⟨by rfl, ?_⟩) (by assumption) ?_
                rotate_left
                · intro w hSw; (try dsimp only at hSw); go_simp; (try with_reducible rfl)
                try simp only [Act.put, List.setIfInBounds_toArray, List.set_cons_zero, List.set_cons_succ]
                refine wpAnyH_take (i := 8) (oi := _) (v := ?_) (by simp only [List.getElem?_toArray, List.getElem?_cons_succ, List.getElem?_cons_zero]; rfl) (by kernel_rfl) (by kernel_rfl) (by kernel_rfl) (fun _ _ _ h => h) (Or.inl ⟨by rfl, ?_⟩) (by assumption) ?_
                rotate_left
                · intro w hSw; (try dsimp only at hSw); go_simp; (try with_reducible rfl)
                try simp only [Act.put, List.setIfInBounds_toArray, List.set_cons_zero, List.set_cons_succ]
                refine wpAnyH_take (i := 9) (oi := _) (v := ?_) (by simp only [List.getElem?_toArray, List.getElem?_cons_succ, List.getElem?_cons_zero]; rfl) (by kernel_rfl) (by kernel_rfl) (by kernel_rfl) (fun _ _ _ h => h) (Or.inl ⟨by rfl, ?_⟩) (by assumption) ?_
                rotate_left
                · intro w hSw; (try dsimp only at hSw); go_simp; (try with_reducible rfl)
                try simp only [Act.put, List.setIfInBounds_toArray, List.set_cons_zero, List.set_cons_succ]
                refine wpAnyH_ready (rs := [10]) (by kernel_rfl) (by simp) ?_
                refine AllReadyH.cons (o := _) (by simp only [List.getElem?_toArray, List.getElem?_cons_succ, List.getElem?_cons_zero]; rfl) (fun K hK => ?_) AllReadyH.nil
                refine step_allocF rfl (by rfl) ?_; rintro Y x5 hY_x5 hYe hd_x5 hz_x5; have hb_x5 := hb_x4.trans (hd_x5.mono hb_x4.size); have hB_x5 := hbw6.trans (hb_x5.mono hbw6.size); have hs_x5 := hd_x5.size; have hF1_x5 := own_below hF1_x4 hd_x5 (Nat.le_refl _); have hF2_x5 := own_below hF2_x4 hd_x5 (Nat.le_refl _); have hF3_x5 := own_below hF3_x4 hd_x5 (Nat.le_refl _); have hn1 : ∀ j, (Value.slice ar9 m.rcpts.length cr9).ownBlock = some j → j ≠ Y := fun j hj => (by have := (hF1_x4.lt j hj).2; omega); have hn2 : ∀ j, (Value.slice ab9 m.body.length cb9).ownBlock = some j → j ≠ Y := fun j hj => (by have := (hF2_x4.lt j hj).2; omega); have hn3 : ∀ j, (Value.slice am9 ls.length cm9).ownBlock = some j → j ≠ Y := fun j hj => (by have := (hF3_x4.lt j hj).2; omega); have hYw : w6.heap.size ≤ Y := (by have := hb_x4.size; omega); clear hYe hz_x5
                refine hK.out _ _ (by (try dsimp only); first | with_reducible exact HS.out | exact Hs.out _ (by with_reducible assumption)) (fun hHeld => ?_)
                clear hK K
                try simp only [Act.put, List.setIfInBounds_toArray, List.set_cons_zero, List.set_cons_succ]
                obtain ⟨⟨p0, p1, p2, p3, p4, p5, p6, p7⟩, q0, q1, q2, q3, q4, q5, q6, q7⟩ := cells8 hY_x5
                refine wpAnyH_ready (rs := [11]) (by kernel_rfl) (by simp) ?_
                refine AllReadyH.cons (o := _) (by simp only [List.getElem?_toArray, List.getElem?_cons_succ, List.getElem?_cons_zero]; rfl) (fun K hK => ?_) AllReadyH.nil
                go_simp
                skip; have hfst := file_stored (G := G2) (g := (G2 : Int)) rfl hF1_x5 hF2_x5 hF3_x5 ⟨_, _, _, _, _, _, _, _, hY_x5⟩ hn1 hn2 hn3; have hbF := hb_x5.trans (hfst.2.below (B := w6.heap.size) (fun k hk => by omega) hb_x5.size); have hBF := hbw6.trans (hbF.mono hbw6.size)
                refine hK.out _ _ (by (try dsimp only); first | with_reducible exact HS.out | exact Hs.out _ (by with_reducible assumption)) (fun hHeld => ?_)
                clear hK K
                try simp only [Act.put, List.setIfInBounds_toArray, List.set_cons_zero, List.set_cons_succ]
                refine wpAnyH_take (i := 12) (oi := _) (v := ?_) (by simp only [List.getElem?_toArray, List.getElem?_cons_succ, List.getElem?_cons_zero]; rfl) (by kernel_rfl) (by kernel_rfl) (by kernel_rfl) (fun _ _ _ h => h) (Or.inl ⟨by rfl, ?_⟩) (by assumption) ?_
                rotate_left
                · intro w hSw; (try dsimp only at hSw); go_simp; (try with_reducible rfl)
                try simp only [Act.put, List.setIfInBounds_toArray, List.set_cons_zero, List.set_cons_succ]
                refine wpAnyH_done (by kernel_rfl) ?_ _
                refine NoPanic.normal ?_
                go_wp2_with fail
                go_meet
                exact ⟨Y, ar9, cr9, ab9, cb9, am9, cm9, rfl, rfl, Lib.hid hfst.1, Lib.hid hbF⟩
              · skip
                refine step_allocF rfl (by rfl) ?_; rintro Y x6 hY_x6 hYe hd_x6 hz_x6; have hb_x6 := hb_x3.trans (hd_x6.mono hb_x3.size); have hB_x6 := hbw6.trans (hb_x6.mono hbw6.size); have hs_x6 := hd_x6.size; have hP_x6 := hP_x3.below (Nat.le_refl _) hd_x6; have hYw : w6.heap.size ≤ Y := (by have := hb_x3.size; omega); clear hYe hz_x6
                refine hK.out _ _ (by (try dsimp only); first | with_reducible exact HS.out | exact Hs.out _ (by with_reducible assumption)) (fun hHeld => ?_)
                clear hK K
                try simp only [Act.put, List.setIfInBounds_toArray, List.set_cons_zero, List.set_cons_succ]
                refine wpAnyH_ready (rs := [6]) (by kernel_rfl) (by simp) ?_
                refine AllReadyH.cons (o := _) (by simp only [List.getElem?_toArray, List.getElem?_cons_succ, List.getElem?_cons_zero]; rfl) (fun K hK => ?_) AllReadyH.nil
                go_simp
                go_at_call 25; refine (Hpar2.out _ _ hP_x6 (H0.out _ hB_x6).max).mono ?_; rintro e x7 ⟨ar9, cr9, ab9, cb9, am9, cm9, rfl, hF1_x7, hF2_x7, hF3_x7, hd_x7⟩; have hYl := (Array.getElem?_eq_some_iff.1 hY_x6).1; have hb_x7 := hb_x6.trans (hd_x7.mono hb_x6.size); have hB_x7 := hbw6.trans (hb_x7.mono hbw6.size); have hs_x7 := hd_x7.size; have hY_x7 := (hd_x7.block _ (Array.getElem?_eq_some_iff.1 hY_x6).1).trans hY_x6; have hn1 : ∀ j, (Value.slice ar9 m.rcpts.length cr9).ownBlock = some j → j ≠ Y := fun j hj => (by have := own_base hF1_x7 j hj; omega); have hn2 : ∀ j, (Value.slice ab9 m.body.length cb9).ownBlock = some j → j ≠ Y := fun j hj => (by have := own_base hF2_x7 j hj; omega); have hn3 : ∀ j, (Value.slice am9 ls.length cm9).ownBlock = some j → j ≠ Y := fun j hj => (by have := own_base hF3_x7 j hj; omega)
                refine hK.out _ _ (by (try dsimp only); first | with_reducible exact HS.out | exact Hs.out _ (by with_reducible assumption)) (fun hHeld => ?_)
                clear hK K
                try simp only [Act.put, List.setIfInBounds_toArray, List.set_cons_zero, List.set_cons_succ]
                refine wpAnyH_take (i := 7) (oi := _) (v := ?_) (by simp only [List.getElem?_toArray, List.getElem?_cons_succ, List.getElem?_cons_zero]; rfl) (by kernel_rfl) (by kernel_rfl) (by kernel_rfl) (fun _ _ _ h => h) (Or.inl ⟨by rfl, ?_⟩) (by assumption) ?_
                rotate_left
                · intro w hSw; (try dsimp only at hSw); go_simp; (try with_reducible rfl)
                try simp only [Act.put, List.setIfInBounds_toArray, List.set_cons_zero, List.set_cons_succ]
                refine wpAnyH_take (i := 8) (oi := _) (v := ?_) (by simp only [List.getElem?_toArray, List.getElem?_cons_succ, List.getElem?_cons_zero]; rfl) (by kernel_rfl) (by kernel_rfl) (by kernel_rfl) (fun _ _ _ h => h) (Or.inl ⟨by rfl, ?_⟩) (by assumption) ?_
                rotate_left
                · intro w hSw; (try dsimp only at hSw); go_simp; (try with_reducible rfl)
                try simp only [Act.put, List.setIfInBounds_toArray, List.set_cons_zero, List.set_cons_succ]
                refine wpAnyH_take (i := 9) (oi := _) (v := ?_) (by simp only [List.getElem?_toArray, List.getElem?_cons_succ, List.getElem?_cons_zero]; rfl) (by kernel_rfl) (by kernel_rfl) (by kernel_rfl) (fun _ _ _ h => h) (Or.inl ⟨by rfl, ?_⟩) (by assumption) ?_
                rotate_left
                · intro w hSw; (try dsimp only at hSw); go_simp; (try with_reducible rfl)
                try simp only [Act.put, List.setIfInBounds_toArray, List.set_cons_zero, List.set_cons_succ]
                obtain ⟨⟨p0, p1, p2, p3, p4, p5, p6, p7⟩, q0, q1, q2, q3, q4, q5, q6, q7⟩ := cells8 hY_x7
                refine wpAnyH_ready (rs := [11]) (by kernel_rfl) (by simp) ?_
                refine AllReadyH.cons (o := _) (by simp only [List.getElem?_toArray, List.getElem?_cons_succ, List.getElem?_cons_zero]; rfl) (fun K hK => ?_) AllReadyH.nil
                go_simp
                skip; have hfst := file_stored (G := G2) (g := (G2 : Int)) rfl hF1_x7 hF2_x7 hF3_x7 ⟨_, _, _, _, _, _, _, _, hY_x7⟩ hn1 hn2 hn3; have hbF := hb_x7.trans (hfst.2.below (B := w6.heap.size) (fun k hk => by omega) hb_x7.size); have hBF := hbw6.trans (hbF.mono hbw6.size)
                refine hK.out _ _ (by (try dsimp only); first | with_reducible exact HS.out | exact Hs.out _ (by with_reducible assumption)) (fun hHeld => ?_)
                clear hK K
                try simp only [Act.put, List.setIfInBounds_toArray, List.set_cons_zero, List.set_cons_succ]
                refine wpAnyH_take (i := 12) (oi := _) (v := ?_) (by simp only [List.getElem?_toArray, List.getElem?_cons_succ, List.getElem?_cons_zero]; rfl) (by kernel_rfl) (by kernel_rfl) (by kernel_rfl) (fun _ _ _ h => h) (Or.inl ⟨by rfl, ?_⟩) (by assumption) ?_
                rotate_left
                · intro w hSw; (try dsimp only at hSw); go_simp; (try with_reducible rfl)
                try simp only [Act.put, List.setIfInBounds_toArray, List.set_cons_zero, List.set_cons_succ]
                refine wpAnyH_done (by kernel_rfl) ?_ _
                refine NoPanic.normal ?_
                go_wp2_with fail
                go_meet
                exact ⟨Y, ar9, cr9, ab9, cb9, am9, cm9, rfl, rfl, Lib.hid hfst.1, Lib.hid hbF⟩
            · skip
              refine step_allocF rfl (by rfl) ?_; rintro Y x8 hY_x8 hYe hd_x8 hz_x8; have hb_x8 := hb_x2.trans (hd_x8.mono hb_x2.size); have hB_x8 := hbw6.trans (hb_x8.mono hbw6.size); have hs_x8 := hd_x8.size; have hO_x8 := own_below hO_x2 hd_x8 (Nat.le_refl _); have hR_x8 := hR_x2.below (Nat.le_refl _) hd_x8; have hneO : ∀ j, v2.ownBlock = some j → j ≠ Y := fun j hj => (by have := (hO_x2.lt j hj).2; omega); have hYw : w6.heap.size ≤ Y := (by have := hb_x2.size; omega); clear hYe hz_x8
              refine hK.out _ _ (by (try dsimp only); first | with_reducible exact HS.out | exact Hs.out _ (by with_reducible assumption)) (fun hHeld => ?_)
              clear hK K
              try simp only [Act.put, List.setIfInBounds_toArray, List.set_cons_zero, List.set_cons_succ]
              refine wpAnyH_ready (rs := [5]) (by kernel_rfl) (by simp) ?_
              refine AllReadyH.cons (o := _) (by simp only [List.getElem?_toArray, List.getElem?_cons_succ, List.getElem?_cons_zero]; rfl) (fun K hK => ?_) AllReadyH.nil
              refine step_append_any bb1_len (by decide) rfl (.tmp 34) (.tmp 36) 23 (by rfl) _ 5 j0 (.int .u8 0) 1 Tryz.underlying23 hj hy0 hy1 hy2 rfl _ _ _ (by rfl) hO_x8 _ kb (by rfl) (rdLB hR_x8) hRn Hone.out hr1 hr2 (by omega) ?_; rintro v5 x9 hA_x9 hg_x9 hn_x9; rw [bb1_flat, ← List.map_append] at hA_x9; have hb_x9 := hb_x8.grown hg_x9 hb_x8.size (fun j hj => by have := own_base hO_x8 j hj; omega); have hB_x9 := hbw6.trans (hb_x9.mono hbw6.size); have hs_x9 := hg_x9.size; have hP_x9 := Hrd.out _ _ _ hA_x9; have hY_x9 := (hg_x9.block Y (Array.getElem?_eq_some_iff.1 hY_x8).1 (fun e => hneO Y e.symm rfl)).trans hY_x8
              refine hK.out _ _ (by (try dsimp only); first | with_reducible exact HS.out | exact Hs.out _ (by with_reducible assumption)) (fun hHeld => ?_)
              clear hK K
              try simp only [Act.put, List.setIfInBounds_toArray, List.set_cons_zero, List.set_cons_succ]
              refine wpAnyH_ready (rs := [6]) (by kernel_rfl) (by simp) ?_
              refine AllReadyH.cons (o := _) (by simp only [List.getElem?_toArray, List.getElem?_cons_succ, List.getElem?_cons_zero]; rfl) (fun K hK => ?_) AllReadyH.nil
              go_simp
              go_at_call 25; refine (Hpar2.out _ _ hP_x9 (H0.out _ hB_x9).max).mono ?_; rintro e x10 ⟨ar9, cr9, ab9, cb9, am9, cm9, rfl, hF1_x10, hF2_x10, hF3_x10, hd_x10⟩; have hYl := (Array.getElem?_eq_some_iff.1 hY_x9).1; have hb_x10 := hb_x9.trans (hd_x10.mono hb_x9.size); have hB_x10 := hbw6.trans (hb_x10.mono hbw6.size); have hs_x10 := hd_x10.size; have hY_x10 := (hd_x10.block _ (Array.getElem?_eq_some_iff.1 hY_x9).1).trans hY_x9; have hn1 : ∀ j, (Value.slice ar9 m.rcpts.length cr9).ownBlock = some j → j ≠ Y := fun j hj => (by have := own_base hF1_x10 j hj; omega); have hn2 : ∀ j, (Value.slice ab9 m.body.length cb9).ownBlock = some j → j ≠ Y := fun j hj => (by have := own_base hF2_x10 j hj; omega); have hn3 : ∀ j, (Value.slice am9 ls.length cm9).ownBlock = some j → j ≠ Y := fun j hj => (by have := own_base hF3_x10 j hj; omega)
              refine hK.out _ _ (by (try dsimp only); first | with_reducible exact HS.out | exact Hs.out _ (by with_reducible assumption)) (fun hHeld => ?_)
              clear hK K
              try simp only [Act.put, List.setIfInBounds_toArray, List.set_cons_zero, List.set_cons_succ]
              refine wpAnyH_take (i := 7) (oi := _) (v := ?_) (by simp only [List.getElem?_toArray, List.getElem?_cons_succ, List.getElem?_cons_zero]; rfl) (by kernel_rfl) (by kernel_rfl) (by kernel_rfl) (fun _ _ _ h => h) (Or.inl ⟨by rfl, ?_⟩) (by assumption) ?_
              rotate_left
              · intro w hSw; (try dsimp only at hSw); go_simp; (try with_reducible rfl)
              try simp only [Act.put, List.setIfInBounds_toArray, List.set_cons_zero, List.set_cons_succ]
              refine wpAnyH_take (i := 8) (oi := _) (v := ?_) (by simp only [List.getElem?_toArray, List.getElem?_cons_succ, List.getElem?_cons_zero]; rfl) (by kernel_rfl) (by kernel_rfl) (by kernel_rfl) (fun _ _ _ h => h) (Or.inl ⟨by rfl, ?_⟩) (by assumption) ?_
              rotate_left
              · intro w hSw; (try dsimp only at hSw); go_simp; (try with_reducible rfl)
              try simp only [Act.put, List.setIfInBounds_toArray, List.set_cons_zero, List.set_cons_succ]
              refine wpAnyH_take (i := 9) (oi := _) (v := ?_) (by simp only [List.getElem?_toArray, List.getElem?_cons_succ, List.getElem?_cons_zero]; rfl) (by kernel_rfl) (by kernel_rfl) (by kernel_rfl) (fun _ _ _ h => h) (Or.inl ⟨by rfl, ?_⟩) (by assumption) ?_
              rotate_left
              · intro w hSw; (try dsimp only at hSw); go_simp; (try with_reducible rfl)
              try simp only [Act.put, List.setIfInBounds_toArray, List.set_cons_zero, List.set_cons_succ]
              obtain ⟨⟨p0, p1, p2, p3, p4, p5, p6, p7⟩, q0, q1, q2, q3, q4, q5, q6, q7⟩ := cells8 hY_x10
              refine wpAnyH_ready (rs := [11]) (by kernel_rfl) (by simp) ?_
              refine AllReadyH.cons (o := _) (by simp only [List.getElem?_toArray, List.getElem?_cons_succ, List.getElem?_cons_zero]; rfl) (fun K hK => ?_) AllReadyH.nil
              go_simp
              skip; have hfst := file_stored (G := G2) (g := (G2 : Int)) rfl hF1_x10 hF2_x10 hF3_x10 ⟨_, _, _, _, _, _, _, _, hY_x10⟩ hn1 hn2 hn3; have hbF := hb_x10.trans (hfst.2.below (B := w6.heap.size) (fun k hk => by omega) hb_x10.size); have hBF := hbw6.trans (hbF.mono hbw6.size)
              refine hK.out _ _ (by (try dsimp only); first | with_reducible exact HS.out | exact Hs.out _ (by with_reducible assumption)) (fun hHeld => ?_)
              clear hK K
              try simp only [Act.put, List.setIfInBounds_toArray, List.set_cons_zero, List.set_cons_succ]
              refine wpAnyH_take (i := 12) (oi := _) (v := ?_) (by simp only [List.getElem?_toArray, List.getElem?_cons_succ, List.getElem?_cons_zero]; rfl) (by kernel_rfl) (by kernel_rfl) (by kernel_rfl) (fun _ _ _ h => h) (Or.inl ⟨by rfl, ?_⟩) (by assumption) ?_
              rotate_left
              · intro w hSw; (try dsimp only at hSw); go_simp; (try with_reducible rfl)
              try simp only [Act.put, List.setIfInBounds_toArray, List.set_cons_zero, List.set_cons_succ]
              refine wpAnyH_done (by kernel_rfl) ?_ _
              refine NoPanic.normal ?_
              go_wp2_with fail
              go_meet
              exact ⟨Y, ar9, cr9, ab9, cb9, am9, cm9, rfl, rfl, Lib.hid hfst.1, Lib.hid hbF⟩
          · skip
            refine step_allocF rfl (by rfl) ?_; rintro Y x11 hY_x11 hYe hd_x11 hz_x11; have hb_x11 := hb_x1.trans (hd_x11.mono hb_x1.size); have hB_x11 := hbw6.trans (hb_x11.mono hbw6.size); have hs_x11 := hd_x11.size; have hO_x11 := own_below hO_x1 hd_x11 (Nat.le_refl _); have hneO : ∀ j, v2.ownBlock = some j → j ≠ Y := fun j hj => (by have := (hO_x1.lt j hj).2; omega); have hYw : w6.heap.size ≤ Y := (by have := hb_x1.size; omega); clear hYe hz_x11
            refine hK.out _ _ (by (try dsimp only); first | with_reducible exact HS.out | exact Hs.out _ (by with_reducible assumption)) (fun hHeld => ?_)
            clear hK K
            try simp only [Act.put, List.setIfInBounds_toArray, List.set_cons_zero, List.set_cons_succ]
            refine wpAnyH_ready (rs := [4]) (by kernel_rfl) (by simp) ?_
            refine AllReadyH.cons (o := _) (by simp only [List.getElem?_toArray, List.getElem?_cons_succ, List.getElem?_cons_zero]; rfl) (fun K hK => ?_) AllReadyH.nil
            go_simp
            go_at_call 28; refine (Hmark.out _).mono ?_; rintro e x12 ⟨v4, rfl, hM_x12, hd_x12⟩; have hb_x12 := hb_x11.trans (hd_x12.mono hb_x11.size); have hB_x12 := hbw6.trans (hb_x12.mono hbw6.size); have hs_x12 := hd_x12.size; have hO_x12 := own_below hO_x11 hd_x12 (Nat.le_refl _); have hY_x12 := (hd_x12.block _ (Array.getElem?_eq_some_iff.1 hY_x11).1).trans hY_x11; have hR_x12 := rdB_ofOwn hM_x12; have hRn := own_nilOk hM_x12
            refine hK.out _ _ (by (try dsimp only); first | with_reducible exact HS.out | exact Hs.out _ (by with_reducible assumption)) (fun hHeld => ?_)
            clear hK K
            try simp only [Act.put, List.setIfInBounds_toArray, List.set_cons_zero, List.set_cons_succ]
            refine wpAnyH_ready (rs := [5]) (by kernel_rfl) (by simp) ?_
            refine AllReadyH.cons (o := _) (by simp only [List.getElem?_toArray, List.getElem?_cons_succ, List.getElem?_cons_zero]; rfl) (fun K hK => ?_) AllReadyH.nil
            refine step_append_any bb1_len (by decide) rfl (.tmp 34) (.tmp 36) 23 (by rfl) _ 5 j0 (.int .u8 0) 1 Tryz.underlying23 hj hy0 hy1 hy2 rfl _ _ _ (by rfl) hO_x12 _ kb (by rfl) (rdLB hR_x12) hRn Hone.out hr1 hr2 (by omega) ?_; rintro v5 x13 hA_x13 hg_x13 hn_x13; rw [bb1_flat, ← List.map_append] at hA_x13; have hb_x13 := hb_x12.grown hg_x13 hb_x12.size (fun j hj => by have := own_base hO_x12 j hj; omega); have hB_x13 := hbw6.trans (hb_x13.mono hbw6.size); have hs_x13 := hg_x13.size; have hP_x13 := Hrd.out _ _ _ hA_x13; have hY_x13 := (hg_x13.block Y (Array.getElem?_eq_some_iff.1 hY_x12).1 (fun e => hneO Y e.symm rfl)).trans hY_x12
            refine hK.out _ _ (by (try dsimp only); first | with_reducible exact HS.out | exact Hs.out _ (by with_reducible assumption)) (fun hHeld => ?_)
            clear hK K
            try simp only [Act.put, List.setIfInBounds_toArray, List.set_cons_zero, List.set_cons_succ]
            refine wpAnyH_ready (rs := [6]) (by kernel_rfl) (by simp) ?_
            refine AllReadyH.cons (o := _) (by simp only [List.getElem?_toArray, List.getElem?_cons_succ, List.getElem?_cons_zero]; rfl) (fun K hK => ?_) AllReadyH.nil
            go_simp
            go_at_call 25; refine (Hpar2.out _ _ hP_x13 (H0.out _ hB_x13).max).mono ?_; rintro e x14 ⟨ar9, cr9, ab9, cb9, am9, cm9, rfl, hF1_x14, hF2_x14, hF3_x14, hd_x14⟩; have hYl := (Array.getElem?_eq_some_iff.1 hY_x13).1; have hb_x14 := hb_x13.trans (hd_x14.mono hb_x13.size); have hB_x14 := hbw6.trans (hb_x14.mono hbw6.size); have hs_x14 := hd_x14.size; have hY_x14 := (hd_x14.block _ (Array.getElem?_eq_some_iff.1 hY_x13).1).trans hY_x13; have hn1 : ∀ j, (Value.slice ar9 m.rcpts.length cr9).ownBlock = some j → j ≠ Y := fun j hj => (by have := own_base hF1_x14 j hj; omega); have hn2 : ∀ j, (Value.slice ab9 m.body.length cb9).ownBlock = some j → j ≠ Y := fun j hj => (by have := own_base hF2_x14 j hj; omega); have hn3 : ∀ j, (Value.slice am9 ls.length cm9).ownBlock = some j → j ≠ Y := fun j hj => (by have := own_base hF3_x14 j hj; omega)
            refine hK.out _ _ (by (try dsimp only); first | with_reducible exact HS.out | exact Hs.out _ (by with_reducible assumption)) (fun hHeld => ?_)
            clear hK K
            try simp only [Act.put, List.setIfInBounds_toArray, List.set_cons_zero, List.set_cons_succ]
            refine wpAnyH_take (i := 7) (oi := _) (v := ?_) (by simp only [List.getElem?_toArray, List.getElem?_cons_succ, List.getElem?_cons_zero]; rfl) (by kernel_rfl) (by kernel_rfl) (by kernel_rfl) (fun _ _ _ h => h) (Or.inl ⟨by rfl, ?_⟩) (by assumption) ?_
            rotate_left
            · intro w hSw; (try dsimp only at hSw); go_simp; (try with_reducible rfl)
            try simp only [Act.put, List.setIfInBounds_toArray, List.set_cons_zero, List.set_cons_succ]
            refine wpAnyH_take (i := 8) (oi := _) (v := ?_) (by simp only [List.getElem?_toArray, List.getElem?_cons_succ, List.getElem?_cons_zero]; rfl) (by kernel_rfl) (by kernel_rfl) (by kernel_rfl) (fun _ _ _ h => h) (Or.inl ⟨by rfl, ?_⟩) (by assumption) ?_
            rotate_left
            · intro w hSw; (try dsimp only at hSw); go_simp; (try with_reducible rfl)
            try simp only [Act.put, List.setIfInBounds_toArray, List.set_cons_zero, List.set_cons_succ]
            refine wpAnyH_take (i := 9) (oi := _) (v := ?_) (by simp only [List.getElem?_toArray, List.getElem?_cons_succ, List.getElem?_cons_zero]; rfl) (by kernel_rfl) (by kernel_rfl) (by kernel_rfl) (fun _ _ _ h => h) (Or.inl ⟨by rfl, ?_⟩) (by assumption) ?_
            rotate_left
            · intro w hSw; (try dsimp only at hSw); go_simp; (try with_reducible rfl)
            try simp only [Act.put, List.setIfInBounds_toArray, List.set_cons_zero, List.set_cons_succ]
            obtain ⟨⟨p0, p1, p2, p3, p4, p5, p6, p7⟩, q0, q1, q2, q3, q4, q5, q6, q7⟩ := cells8 hY_x14
            refine wpAnyH_ready (rs := [11]) (by kernel_rfl) (by simp) ?_
            refine AllReadyH.cons (o := _) (by simp only [List.getElem?_toArray, List.getElem?_cons_succ, List.getElem?_cons_zero]; rfl) (fun K hK => ?_) AllReadyH.nil
            go_simp
            skip; have hfst := file_stored (G := G2) (g := (G2 : Int)) rfl hF1_x14 hF2_x14 hF3_x14 ⟨_, _, _, _, _, _, _, _, hY_x14⟩ hn1 hn2 hn3; have hbF := hb_x14.trans (hfst.2.below (B := w6.heap.size) (fun k hk => by omega) hb_x14.size); have hBF := hbw6.trans (hbF.mono hbw6.size)
            refine hK.out _ _ (by (try dsimp only); first | with_reducible exact HS.out | exact Hs.out _ (by with_reducible assumption)) (fun hHeld => ?_)
            clear hK K
            try simp only [Act.put, List.setIfInBounds_toArray, List.set_cons_zero, List.set_cons_succ]
            refine wpAnyH_take (i := 12) (oi := _) (v := ?_) (by simp only [List.getElem?_toArray, List.getElem?_cons_succ, List.getElem?_cons_zero]; rfl) (by kernel_rfl) (by kernel_rfl) (by kernel_rfl) (fun _ _ _ h => h) (Or.inl ⟨by rfl, ?_⟩) (by assumption) ?_
            rotate_left
            · intro w hSw; (try dsimp only at hSw); go_simp; (try with_reducible rfl)
            try simp only [Act.put, List.setIfInBounds_toArray, List.set_cons_zero, List.set_cons_succ]
            refine wpAnyH_done (by kernel_rfl) ?_ _
            refine NoPanic.normal ?_
            go_wp2_with fail
            go_meet
            exact ⟨Y, ar9, cr9, ab9, cb9, am9, cm9, rfl, rfl, Lib.hid hfst.1, Lib.hid hbF⟩
        · skip
          refine step_allocF rfl (by rfl) ?_; rintro Y x15 hY_x15 hYe hd_x15 hz_x15; have hb_x15 := hb6d.trans (hd_x15.mono hb6d.size); have hB_x15 := hbw6.trans (hb_x15.mono hbw6.size); have hs_x15 := hd_x15.size; have hYw : w6.heap.size ≤ Y := (by have := hb6d.size; omega); clear hYe hz_x15
          refine hK.out _ _ (by (try dsimp only); first | with_reducible exact HS.out | exact Hs.out _ (by with_reducible assumption)) (fun hHeld => ?_)
          clear hK K
          try simp only [Act.put, List.setIfInBounds_toArray, List.set_cons_zero, List.set_cons_succ]
          refine wpAnyH_ready (rs := [2]) (by kernel_rfl) (by simp) ?_
          refine AllReadyH.cons (o := _) (by simp only [List.getElem?_toArray, List.getElem?_cons_succ, List.getElem?_cons_zero]; rfl) (fun K hK => ?_) AllReadyH.nil
          go_simp
          go_at_call 24; refine (Hfile.out _ hB_x15).mono ?_; rintro e x16 ⟨v2, rfl, hO_x16, hd_x16⟩; have hb_x16 := hb_x15.trans (hd_x16.mono hb_x15.size); have hB_x16 := hbw6.trans (hb_x16.mono hbw6.size); have hs_x16 := hd_x16.size; have hY_x16 := (hd_x16.block _ (Array.getElem?_eq_some_iff.1 hY_x15).1).trans hY_x15; have hYO := (Array.getElem?_eq_some_iff.1 hY_x15).1; have hneO : ∀ j, v2.ownBlock = some j → j ≠ Y := fun j hj => (by have := own_base hO_x16 j hj; omega)
          refine hK.out _ _ (by (try dsimp only); first | with_reducible exact HS.out | exact Hs.out _ (by with_reducible assumption)) (fun hHeld => ?_)
          clear hK K
          try simp only [Act.put, List.setIfInBounds_toArray, List.set_cons_zero, List.set_cons_succ]
          refine wpAnyH_ready (rs := [4]) (by kernel_rfl) (by simp) ?_
          refine AllReadyH.cons (o := _) (by simp only [List.getElem?_toArray, List.getElem?_cons_succ, List.getElem?_cons_zero]; rfl) (fun K hK => ?_) AllReadyH.nil
          go_simp
          go_at_call 28; refine (Hmark.out _).mono ?_; rintro e x17 ⟨v4, rfl, hM_x17, hd_x17⟩; have hb_x17 := hb_x16.trans (hd_x17.mono hb_x16.size); have hB_x17 := hbw6.trans (hb_x17.mono hbw6.size); have hs_x17 := hd_x17.size; have hO_x17 := own_below hO_x16 hd_x17 (Nat.le_refl _); have hY_x17 := (hd_x17.block _ (Array.getElem?_eq_some_iff.1 hY_x16).1).trans hY_x16; have hR_x17 := rdB_ofOwn hM_x17; have hRn := own_nilOk hM_x17
          refine hK.out _ _ (by (try dsimp only); first | with_reducible exact HS.out | exact Hs.out _ (by with_reducible assumption)) (fun hHeld => ?_)
          clear hK K
          try simp only [Act.put, List.setIfInBounds_toArray, List.set_cons_zero, List.set_cons_succ]
          refine wpAnyH_ready (rs := [5]) (by kernel_rfl) (by simp) ?_
          refine AllReadyH.cons (o := _) (by simp only [List.getElem?_toArray, List.getElem?_cons_succ, List.getElem?_cons_zero]; rfl) (fun K hK => ?_) AllReadyH.nil
          refine step_append_any bb1_len (by decide) rfl (.tmp 34) (.tmp 36) 23 (by rfl) _ 5 j0 (.int .u8 0) 1 Tryz.underlying23 hj hy0 hy1 hy2 rfl _ _ _ (by rfl) hO_x17 _ kb (by rfl) (rdLB hR_x17) hRn Hone.out hr1 hr2 (by omega) ?_; rintro v5 x18 hA_x18 hg_x18 hn_x18; rw [bb1_flat, ← List.map_append] at hA_x18; have hb_x18 := hb_x17.grown hg_x18 hb_x17.size (fun j hj => by have := own_base hO_x17 j hj; omega); have hB_x18 := hbw6.trans (hb_x18.mono hbw6.size); have hs_x18 := hg_x18.size; have hP_x18 := Hrd.out _ _ _ hA_x18; have hY_x18 := (hg_x18.block Y (Array.getElem?_eq_some_iff.1 hY_x17).1 (fun e => hneO Y e.symm rfl)).trans hY_x17
          refine hK.out _ _ (by (try dsimp only); first | with_reducible exact HS.out | exact Hs.out _ (by with_reducible assumption)) (fun hHeld => ?_)
          clear hK K
          try simp only [Act.put, List.setIfInBounds_toArray, List.set_cons_zero, List.set_cons_succ]
          refine wpAnyH_ready (rs := [6]) (by kernel_rfl) (by simp) ?_
          refine AllReadyH.cons (o := _) (by simp only [List.getElem?_toArray, List.getElem?_cons_succ, List.getElem?_cons_zero]; rfl) (fun K hK => ?_) AllReadyH.nil
          go_simp
          go_at_call 25; refine (Hpar2.out _ _ hP_x18 (H0.out _ hB_x18).max).mono ?_; rintro e x19 ⟨ar9, cr9, ab9, cb9, am9, cm9, rfl, hF1_x19, hF2_x19, hF3_x19, hd_x19⟩; have hYl := (Array.getElem?_eq_some_iff.1 hY_x18).1; have hb_x19 := hb_x18.trans (hd_x19.mono hb_x18.size); have hB_x19 := hbw6.trans (hb_x19.mono hbw6.size); have hs_x19 := hd_x19.size; have hY_x19 := (hd_x19.block _ (Array.getElem?_eq_some_iff.1 hY_x18).1).trans hY_x18; have hn1 : ∀ j, (Value.slice ar9 m.rcpts.length cr9).ownBlock = some j → j ≠ Y := fun j hj => (by have := own_base hF1_x19 j hj; omega); have hn2 : ∀ j, (Value.slice ab9 m.body.length cb9).ownBlock = some j → j ≠ Y := fun j hj => (by have := own_base hF2_x19 j hj; omega); have hn3 : ∀ j, (Value.slice am9 ls.length cm9).ownBlock = some j → j ≠ Y := fun j hj => (by have := own_base hF3_x19 j hj; omega)
          refine hK.out _ _ (by (try dsimp only); first | with_reducible exact HS.out | exact Hs.out _ (by with_reducible assumption)) (fun hHeld => ?_)
          clear hK K
          try simp only [Act.put, List.setIfInBounds_toArray, List.set_cons_zero, List.set_cons_succ]
          refine wpAnyH_take (i := 7) (oi := _) (v := ?_) (by simp only [List.getElem?_toArray, List.getElem?_cons_succ, List.getElem?_cons_zero]; rfl) (by kernel_rfl) (by kernel_rfl) (by kernel_rfl) (fun _ _ _ h => h) (Or.inl ⟨by rfl, ?_⟩) (by assumption) ?_
          rotate_left
          · intro w hSw; (try dsimp only at hSw); go_simp; (try with_reducible rfl)
          try simp only [Act.put, List.setIfInBounds_toArray, List.set_cons_zero, List.set_cons_succ]
          refine wpAnyH_take (i := 8) (oi := _) (v := ?_) (by simp only [List.getElem?_toArray, List.getElem?_cons_succ, List.getElem?_cons_zero]; rfl) (by kernel_rfl) (by kernel_rfl) (by kernel_rfl) (fun _ _ _ h => h) (Or.inl ⟨by rfl, ?_⟩) (by assumption) ?_
          rotate_left
          · intro w hSw; (try dsimp only at hSw); go_simp; (try with_reducible rfl)
          try simp only [Act.put, List.setIfInBounds_toArray, List.set_cons_zero, List.set_cons_succ]
          refine wpAnyH_take (i := 9) (oi := _) (v := ?_) (by simp only [List.getElem?_toArray, List.getElem?_cons_succ, List.getElem?_cons_zero]; rfl) (by kernel_rfl) (by kernel_rfl) (by kernel_rfl) (fun _ _ _ h => h) (Or.inl ⟨by rfl, ?_⟩) (by assumption) ?_
          rotate_left
          · intro w hSw; (try dsimp only at hSw); go_simp; (try with_reducible rfl)
          try simp only [Act.put, List.setIfInBounds_toArray, List.set_cons_zero, List.set_cons_succ]
          obtain ⟨⟨p0, p1, p2, p3, p4, p5, p6, p7⟩, q0, q1, q2, q3, q4, q5, q6, q7⟩ := cells8 hY_x19
          refine wpAnyH_ready (rs := [11]) (by kernel_rfl) (by simp) ?_
          refine AllReadyH.cons (o := _) (by simp only [List.getElem?_toArray, List.getElem?_cons_succ, List.getElem?_cons_zero]; rfl) (fun K hK => ?_) AllReadyH.nil
          go_simp
          skip; have hfst := file_stored (G := G2) (g := (G2 : Int)) rfl hF1_x19 hF2_x19 hF3_x19 ⟨_, _, _, _, _, _, _, _, hY_x19⟩ hn1 hn2 hn3; have hbF := hb_x19.trans (hfst.2.below (B := w6.heap.size) (fun k hk => by omega) hb_x19.size); have hBF := hbw6.trans (hbF.mono hbw6.size)
          refine hK.out _ _ (by (try dsimp only); first | with_reducible exact HS.out | exact Hs.out _ (by with_reducible assumption)) (fun hHeld => ?_)
          clear hK K
          try simp only [Act.put, List.setIfInBounds_toArray, List.set_cons_zero, List.set_cons_succ]
          refine wpAnyH_take (i := 12) (oi := _) (v := ?_) (by simp only [List.getElem?_toArray, List.getElem?_cons_succ, List.getElem?_cons_zero]; rfl) (by kernel_rfl) (by kernel_rfl) (by kernel_rfl) (fun _ _ _ h => h) (Or.inl ⟨by rfl, ?_⟩) (by assumption) ?_
          rotate_left
          · intro w hSw; (try dsimp only at hSw); go_simp; (try with_reducible rfl)
          try simp only [Act.put, List.setIfInBounds_toArray, List.set_cons_zero, List.set_cons_succ]
          refine wpAnyH_done (by kernel_rfl) ?_ _
          refine NoPanic.normal ?_
          go_wp2_with fail
          go_meet
          exact ⟨Y, ar9, cr9, ab9, cb9, am9, cm9, rfl, rfl, Lib.hid hfst.1, Lib.hid hbF⟩
      case rest =>
        obtain ⟨wd, hwd⟩ : ∃ x, x = wc := ⟨_, rfl⟩
        subst hwd
        obtain ⟨Y, ar9, cr9, ab9, cb9, am9, cm9, rfl, rfl, hFY, hb6c⟩ := hcut
        have hcw := hbw6.trans (hb6c.out.mono hbw6.size)
        have hFX := Hnew6.out.below hb6c.out
        have hff : ∀ k', (FileD.mk m k' G).fates = fatesD m.rcpts.length k' := fun k' => by unfold FileD.fates; rw [show nFates (m.rcpts.length : Int) = m.rcpts.length by have := Hr8.out; unfold nFates; omega]
        have hff2 : ∀ k', (FileD.mk m k' G2).fates = fatesD m.rcpts.length k' := fun k' => by unfold FileD.fates; rw [show nFates (m.rcpts.length : Int) = m.rcpts.length by have := Hr8.out; unfold nFates; omega]
        obtain ⟨fs, hfs⟩ : ∃ fs, fatesD m.rcpts.length ks = fs := ⟨_, rfl⟩
        obtain ⟨gs, hgs⟩ : ∃ gs, fatesD m.rcpts.length ls = gs := ⟨_, rfl⟩
        have hfl : fs.length = m.rcpts.length := by rw [← hfs]; exact fatesD_length _ _
        have hgl : gs.length = m.rcpts.length := by rw [← hgs]; exact fatesD_length _ _
        have hput : gs = putD fs ⟨kind, rcpt, nn⟩ := by rw [← hgs, ← hfs, ← Hls.out]; exact fatesD_snoc _ _ _
        have HfX : Hid (∀ W, Below wd.heap.size wd W → Calls Tryz.prog 29 #[.agg #[.int .i64 m.id, .int .i64 m.parent, .int .i64 m.born, .string (strL m.frm), .slice ar5 m.rcpts.length cr5, .slice ab5 m.body.length cb5, .slice am5 ks.length cm5, .int .i64 (G : Int)]] W fun e w' => ∃ g cap, e = .returned (.slice (some ⟨g, 0, none⟩) m.rcpts.length cap) ∧ w'.ownsRow W.heap.size 57 5 (.slice (some ⟨g, 0, none⟩) m.rcpts.length cap) m.rcpts.length (fs.flatMap FateD.cells) ∧ Below W.heap.size W w') := by
          intro W h
          have h1 := hFX.below h
          have h2 := fileFates_calls ⟨m, ks, G⟩ _ (.slice ab5 m.body.length cb5) _ W h1.rs h1.rm
          rw [hff, hfs] at h2
          refine h2.mono fun e w' h3 => ?_
          obtain ⟨g, cap, h4, h5, h6⟩ := h3
          rw [hfl] at h4 h5
          exact ⟨g, cap, h4, h5, h6⟩
        have HfY : Hid (∀ W, Below wd.heap.size wd W → Calls Tryz.prog 29 #[.agg #[.int .i64 m.id, .int .i64 m.parent, .int .i64 m.born, .string (strL m.frm), .slice ar9 m.rcpts.length cr9, .slice ab9 m.body.length cb9, .slice am9 ls.length cm9, .int .i64 (G2 : Int)]] W fun e w' => ∃ g cap, e = .returned (.slice (some ⟨g, 0, none⟩) m.rcpts.length cap) ∧ w'.ownsRow W.heap.size 57 5 (.slice (some ⟨g, 0, none⟩) m.rcpts.length cap) m.rcpts.length (gs.flatMap FateD.cells) ∧ Below W.heap.size W w') := by
          intro W h
          have h1 := hFY.out.below h
          have h2 := fileFates_calls ⟨m, ls, G2⟩ _ (.slice ab9 m.body.length cb9) _ W h1.rs h1.rm
          rw [hff2, hgs] at h2
          refine h2.mono fun e w' h3 => ?_
          obtain ⟨g, cap, h4, h5, h6⟩ := h3
          rw [hgl] at h4 h5
          exact ⟨g, cap, h4, h5, h6⟩
        have Hs5 : Hid (∀ W, Below wd.heap.size wd W → (fun w' => w'.cell? ⟨X, 0, none⟩ = some (.int .i64 m.id) ∧ w'.cell? ⟨X, 1, none⟩ = some (.int .i64 m.parent) ∧ w'.cell? ⟨X, 2, none⟩ = some (.int .i64 m.born) ∧ w'.cell? ⟨X, 3, none⟩ = some (.string (strL m.frm)) ∧ w'.cell? ⟨X, 4, none⟩ = some (.slice ar5 m.rcpts.length cr5) ∧ w'.cell? ⟨X, 5, none⟩ = some (.slice ab5 m.body.length cb5) ∧ w'.cell? ⟨X, 6, none⟩ = some (.slice am5 ks.length cm5) ∧ w'.cell? ⟨X, 7, none⟩ = some (.int .i64 (G : Int)) ∧ w'.cell? ⟨Y, 0, none⟩ = some (.int .i64 m.id) ∧ w'.cell? ⟨Y, 1, none⟩ = some (.int .i64 m.parent) ∧ w'.cell? ⟨Y, 2, none⟩ = some (.int .i64 m.born) ∧ w'.cell? ⟨Y, 3, none⟩ = some (.string (strL m.frm)) ∧ w'.cell? ⟨Y, 4, none⟩ = some (.slice ar9 m.rcpts.length cr9) ∧ w'.cell? ⟨Y, 5, none⟩ = some (.slice ab9 m.body.length cb9) ∧ w'.cell? ⟨Y, 6, none⟩ = some (.slice am9 ls.length cm9) ∧ w'.cell? ⟨Y, 7, none⟩ = some (.int .i64 (G2 : Int)) ∧ Hid (Below wd.heap.size wd w')) W) := by
          intro W h
          obtain ⟨c0, c1, c2, c3, c4, c5, c6, c7⟩ := fileAt_cells (g := (G : Int)) rfl (hFX.below h)
          obtain ⟨d0, d1, d2, d3, d4, d5, d6, d7⟩ := fileAt_cells (g := (G2 : Int)) rfl (hFY.out.below h)
          exact ⟨c0, c1, c2, c3, c4, c5, c6, c7, d0, d1, d2, d3, d4, d5, d6, d7, Lib.hid h⟩
        have hb5d : Below wd.heap.size wd wd.drew := (Below.refl _ _).drew
        have HS5 := Lib.hid (Hs5.out _ hb5d)
        have Hput := Lib.hid hput
        have Hfl := Lib.hid hfl
        have Hcw := Lib.hid hcw
        clear hput hfl hgl hfs hgs hff hff2 hFX hFY hb6c hcw hb6d hs6d hbw6 hB6d
        go_upto_region 5 with fail
        go_cut [11, 12] from 41 (fun p r wx => ∃ ga ca gb cb, p = .slice (some ⟨ga, 0, none⟩) m.rcpts.length ca ∧ r = .slice (some ⟨gb, 0, none⟩) m.rcpts.length cb ∧ Hid (RdF wx (.slice (some ⟨ga, 0, none⟩) m.rcpts.length ca) fs) ∧ Hid (RdF wx (.slice (some ⟨gb, 0, none⟩) m.rcpts.length cb) gs) ∧ Hid (Below wd.heap.size wd wx))
        case first =>
          refine wp_region_noPanic ?_
          refine wp_region_held_drew (S := (fun w' => w'.cell? ⟨X, 0, none⟩ = some (.int .i64 m.id) ∧ w'.cell? ⟨X, 1, none⟩ = some (.int .i64 m.parent) ∧ w'.cell? ⟨X, 2, none⟩ = some (.int .i64 m.born) ∧ w'.cell? ⟨X, 3, none⟩ = some (.string (strL m.frm)) ∧ w'.cell? ⟨X, 4, none⟩ = some (.slice ar5 m.rcpts.length cr5) ∧ w'.cell? ⟨X, 5, none⟩ = some (.slice ab5 m.body.length cb5) ∧ w'.cell? ⟨X, 6, none⟩ = some (.slice am5 ks.length cm5) ∧ w'.cell? ⟨X, 7, none⟩ = some (.int .i64 (G : Int)) ∧ w'.cell? ⟨Y, 0, none⟩ = some (.int .i64 m.id) ∧ w'.cell? ⟨Y, 1, none⟩ = some (.int .i64 m.parent) ∧ w'.cell? ⟨Y, 2, none⟩ = some (.int .i64 m.born) ∧ w'.cell? ⟨Y, 3, none⟩ = some (.string (strL m.frm)) ∧ w'.cell? ⟨Y, 4, none⟩ = some (.slice ar9 m.rcpts.length cr9) ∧ w'.cell? ⟨Y, 5, none⟩ = some (.slice ab9 m.body.length cb9) ∧ w'.cell? ⟨Y, 6, none⟩ = some (.slice am9 ls.length cm9) ∧ w'.cell? ⟨Y, 7, none⟩ = some (.int .i64 (G2 : Int)) ∧ Hid (Below wd.heap.size wd w'))) (by kernel_rfl) (by first | with_reducible exact HS5.out | exact Hs5.out _ (by with_reducible assumption)) (fun hHeld => ?_)
          refine wpAnyH_take (i := 0) (oi := _) (v := ?_) (by simp only [List.getElem?_toArray, List.getElem?_cons_succ, List.getElem?_cons_zero]; rfl) (by kernel_rfl) (by kernel_rfl) (by kernel_rfl) (fun _ _ _ h => h) (Or.inl ⟨by rfl, ?_⟩) (by assumption) ?_
          rotate_left
          · intro w hSw; (try dsimp only at hSw); go_simp; (try with_reducible rfl)
          try simp only [Act.put, List.setIfInBounds_toArray, List.set_cons_zero, List.set_cons_succ]
          refine wpAnyH_take (i := 2) (oi := _) (v := ?_) (by simp only [List.getElem?_toArray, List.getElem?_cons_succ, List.getElem?_cons_zero]; rfl) (by kernel_rfl) (by kernel_rfl) (by kernel_rfl) (fun _ _ _ h => h) (Or.inl ⟨by rfl, ?_⟩) (by assumption) ?_
          rotate_left
          · intro w hSw; (try dsimp only at hSw); go_simp; (try with_reducible rfl)
          try simp only [Act.put, List.setIfInBounds_toArray, List.set_cons_zero, List.set_cons_succ]
          refine wpAnyH_ready (rs := [1]) (by kernel_rfl) (by simp) ?_
          refine AllReadyH.cons (o := _) (by simp only [List.getElem?_toArray, List.getElem?_cons_succ, List.getElem?_cons_zero]; rfl) (fun K hK => ?_) AllReadyH.nil
          go_simp
          go_at_call 29; refine (HfX.out _ hb5d).mono ?_; rintro e wA ⟨ga, ca, rfl, hownA, hdA⟩; have hbA := hb5d.trans (hdA.mono hb5d.size); have hrA := rdL_ofOwn fate_len (by decide) hownA; clear hownA
          refine hK.out _ _ (by (try dsimp only); first | with_reducible exact HS5.out | exact Hs5.out _ (by with_reducible assumption)) (fun hHeld => ?_)
          clear hK K
          try simp only [Act.put, List.setIfInBounds_toArray, List.set_cons_zero, List.set_cons_succ]
          refine wpAnyH_ready (rs := [3]) (by kernel_rfl) (by simp) ?_
          refine AllReadyH.cons (o := _) (by simp only [List.getElem?_toArray, List.getElem?_cons_succ, List.getElem?_cons_zero]; rfl) (fun K hK => ?_) AllReadyH.nil
          go_simp
          go_at_call 29; refine (HfY.out _ hbA).mono ?_; rintro e wB ⟨gb, cb, rfl, hownB, hdB⟩; have hbB := hbA.trans (hdB.mono hbA.size); have hrB := rdL_ofOwn fate_len (by decide) hownB; have hrA2 := hrA.below (Nat.le_refl _) hdB; clear hownB
          refine hK.out _ _ (by (try dsimp only); first | with_reducible exact HS5.out | exact Hs5.out _ (by with_reducible assumption)) (fun hHeld => ?_)
          clear hK K
          try simp only [Act.put, List.setIfInBounds_toArray, List.set_cons_zero, List.set_cons_succ]
          refine wpAnyH_take (i := 4) (oi := _) (v := ?_) (by simp only [List.getElem?_toArray, List.getElem?_cons_succ, List.getElem?_cons_zero]; rfl) (by kernel_rfl) (by kernel_rfl) (by kernel_rfl) (fun _ _ _ h => h) (Or.inl ⟨by rfl, ?_⟩) (by assumption) ?_
          rotate_left
          · intro w hSw; (try dsimp only at hSw); go_simp; (try with_reducible rfl)
          try simp only [Act.put, List.setIfInBounds_toArray, List.set_cons_zero, List.set_cons_succ]
          refine wpAnyH_take (i := 5) (oi := _) (v := ?_) (by simp only [List.getElem?_toArray, List.getElem?_cons_succ, List.getElem?_cons_zero]; rfl) (by kernel_rfl) (by kernel_rfl) (by kernel_rfl) (fun _ _ _ h => h) (Or.inl ⟨by rfl, ?_⟩) (by assumption) ?_
          rotate_left
          · intro w hSw; (try dsimp only at hSw); go_simp; (try with_reducible rfl)
          try simp only [Act.put, List.setIfInBounds_toArray, List.set_cons_zero, List.set_cons_succ]
          refine wpAnyH_done (by kernel_rfl) ?_ _
          refine NoPanic.normal ?_
          go_wp2_with fail
          go_meet
          exact ⟨ga, ca, gb, cb, rfl, rfl, Lib.hid hrA2, Lib.hid hrB, Lib.hid hbB⟩
        case rest =>
          obtain ⟨ga, ca, gb, cb, rfl, rfl, hrA, hrB, hbc5⟩ := hcut
          have hcw9 := Hcw.out.trans (hbc5.out.mono Hcw.out.size)
          have hn9 := (H0.out _ hcw9).mail
          obtain ⟨c0, c1, c2, c3, c4, c5⟩ := hn9.cells
          have Hcw9 := Lib.hid hcw9
          clear hcw9 hn9
          go_wp2
          go_loopw [13] (fun i wr => ∃ j : Nat, j ≤ m.rcpts.length ∧ i = .int .i64 j ∧ Hid (Below wc.heap.size wc wr)) (fun i _ => m.rcpts.length - (intOf i).toNat)
          case atStart => exact ⟨0, Nat.zero_le _, rfl, Lib.hid (Below.refl _ _)⟩
          case round =>
            obtain ⟨j, hj, rfl, hbw⟩ := hrel
            by_cases hlt : j < m.rcpts.length
            · have hj0 : (0 : Int) ≤ (j : Int) := by omega
              have hj1 : (j : Int) < (m.rcpts.length : Int) := by omega
              have hBr := Hcw9.out.trans (hbw.out.mono Hcw9.out.size)
              obtain ⟨k0, k1, k2⟩ := moreK_cells (H0.out _ hBr).mark
              obtain ⟨x, hx⟩ : ∃ x, fs[j]? = some x := ⟨_, List.getElem?_eq_getElem (by have := Hfl.out; omega)⟩
              obtain ⟨p0, p1, p2, p3, p4⟩ := fate_at (hrA.out.below (Nat.le_refl _) hbw.out) hx
              by_cases hown : (j : Int) = rcpt
              · subst hown
                have hy := putD_own Hkg.out rfl hx
                rw [← Hput.out] at hy
                have hst := fun W => refStep_calls x ⟨kind, (j : Int), nn⟩ W
                obtain ⟨y, hye⟩ : ∃ y, stepD x ⟨kind, (j : Int), nn⟩ = y := ⟨_, rfl⟩
                rw [hye] at hy hst
                obtain ⟨q0, q1, q2, q3, q4⟩ := fate_at (hrB.out.below (Nat.le_refl _) hbw.out) hy
                obtain ⟨x0, x1, x2, x3, x4⟩ := x
                obtain ⟨y0, y1, y2, y3, y4⟩ := y
                have Hst : Hid (∀ W, Calls Tryz.prog 30 #[.agg #[.int .i64 x0, .int .i64 x1, .int .i64 x2, .int .i64 x3, .bool x4], .agg #[.int .i64 kind, .int .i64 (j : Int), .int .i64 nn]] W fun e w' => e = .returned (.agg #[.int .i64 y0, .int .i64 y1, .int .i64 y2, .int .i64 y3, .bool y4]) ∧ Below W.heap.size W w') := hst
                have h11 : (fun w' => w'.cell? ⟨M + 1, 0, none⟩ = some (.int .i64 kind) ∧ w'.cell? ⟨M + 1, 1, none⟩ = some (.int .i64 (j : Int)) ∧ w'.cell? ⟨M + 1, 2, none⟩ = some (.int .i64 nn) ∧ w'.cell? ⟨ga, j * 5, none⟩ = some (.int .i64 x0) ∧ w'.cell? ⟨ga, j * 5 + 1, none⟩ = some (.int .i64 x1) ∧ w'.cell? ⟨ga, j * 5 + 2, none⟩ = some (.int .i64 x2) ∧ w'.cell? ⟨ga, j * 5 + 3, none⟩ = some (.int .i64 x3) ∧ w'.cell? ⟨ga, j * 5 + 4, none⟩ = some (.bool x4) ∧ w'.cell? ⟨gb, j * 5, none⟩ = some (.int .i64 y0) ∧ w'.cell? ⟨gb, j * 5 + 1, none⟩ = some (.int .i64 y1) ∧ w'.cell? ⟨gb, j * 5 + 2, none⟩ = some (.int .i64 y2) ∧ w'.cell? ⟨gb, j * 5 + 3, none⟩ = some (.int .i64 y3) ∧ w'.cell? ⟨gb, j * 5 + 4, none⟩ = some (.bool y4) ∧ Hid (Below wr.heap.size wr w')) wr := ⟨k0, k1, k2, p0, p1, p2, p3, p4, q0, q1, q2, q3, q4, Lib.hid (Below.refl _ _)⟩
                have Hs11 : Hid (∀ W, Below wr.heap.size wr W → (fun w' => w'.cell? ⟨M + 1, 0, none⟩ = some (.int .i64 kind) ∧ w'.cell? ⟨M + 1, 1, none⟩ = some (.int .i64 (j : Int)) ∧ w'.cell? ⟨M + 1, 2, none⟩ = some (.int .i64 nn) ∧ w'.cell? ⟨ga, j * 5, none⟩ = some (.int .i64 x0) ∧ w'.cell? ⟨ga, j * 5 + 1, none⟩ = some (.int .i64 x1) ∧ w'.cell? ⟨ga, j * 5 + 2, none⟩ = some (.int .i64 x2) ∧ w'.cell? ⟨ga, j * 5 + 3, none⟩ = some (.int .i64 x3) ∧ w'.cell? ⟨ga, j * 5 + 4, none⟩ = some (.bool x4) ∧ w'.cell? ⟨gb, j * 5, none⟩ = some (.int .i64 y0) ∧ w'.cell? ⟨gb, j * 5 + 1, none⟩ = some (.int .i64 y1) ∧ w'.cell? ⟨gb, j * 5 + 2, none⟩ = some (.int .i64 y2) ∧ w'.cell? ⟨gb, j * 5 + 3, none⟩ = some (.int .i64 y3) ∧ w'.cell? ⟨gb, j * 5 + 4, none⟩ = some (.bool y4) ∧ Hid (Below wr.heap.size wr w')) W) := by
                  intro W h
                  have c := (below_cell h).1
                  obtain ⟨k0, k1, k2, p0, p1, p2, p3, p4, q0, q1, q2, q3, q4, _⟩ := h11
                  have l0 := World.block_lt_of_cell? wr _ k0
                  have l1 := World.block_lt_of_cell? wr _ p0
                  have l2 := World.block_lt_of_cell? wr _ q0
                  exact ⟨(c _ _ l0).trans k0, (c _ _ l0).trans k1, (c _ _ l0).trans k2, (c _ _ l1).trans p0, (c _ _ l1).trans p1, (c _ _ l1).trans p2, (c _ _ l1).trans p3, (c _ _ l1).trans p4, (c _ _ l2).trans q0, (c _ _ l2).trans q1, (c _ _ l2).trans q2, (c _ _ l2).trans q3, (c _ _ l2).trans q4, Lib.hid h⟩
                have HS11 := Lib.hid (Hs11.out _ (Below.refl wr.heap.size wr).drew)
                clear h11 k0 k1 k2 p0 p1 p2 p3 p4 q0 q1 q2 q3 q4 hst hye hy hx hBr c0 c1 c2 c3 c4 c5
                go_upto_region 11 with fail
                refine wp_region_noPanic ?_
                refine wp_region_held_drew (S := (fun w' => w'.cell? ⟨M + 1, 0, none⟩ = some (.int .i64 kind) ∧ w'.cell? ⟨M + 1, 1, none⟩ = some (.int .i64 (j : Int)) ∧ w'.cell? ⟨M + 1, 2, none⟩ = some (.int .i64 nn) ∧ w'.cell? ⟨ga, j * 5, none⟩ = some (.int .i64 x0) ∧ w'.cell? ⟨ga, j * 5 + 1, none⟩ = some (.int .i64 x1) ∧ w'.cell? ⟨ga, j * 5 + 2, none⟩ = some (.int .i64 x2) ∧ w'.cell? ⟨ga, j * 5 + 3, none⟩ = some (.int .i64 x3) ∧ w'.cell? ⟨ga, j * 5 + 4, none⟩ = some (.bool x4) ∧ w'.cell? ⟨gb, j * 5, none⟩ = some (.int .i64 y0) ∧ w'.cell? ⟨gb, j * 5 + 1, none⟩ = some (.int .i64 y1) ∧ w'.cell? ⟨gb, j * 5 + 2, none⟩ = some (.int .i64 y2) ∧ w'.cell? ⟨gb, j * 5 + 3, none⟩ = some (.int .i64 y3) ∧ w'.cell? ⟨gb, j * 5 + 4, none⟩ = some (.bool y4) ∧ Hid (Below wr.heap.size wr w'))) (by kernel_rfl) (by first | with_reducible exact HS11.out | exact Hs11.out _ (by with_reducible assumption)) (fun hHeld => ?_)
                refine wpAnyH_take (i := 0) (oi := _) (v := ?_) (by simp only [List.getElem?_toArray, List.getElem?_cons_succ, List.getElem?_cons_zero]; rfl) (by kernel_rfl) (by kernel_rfl) (by kernel_rfl) (fun _ _ _ h => h) (Or.inl ⟨by rfl, ?_⟩) (by assumption) ?_
                rotate_left
                · intro w hSw; (try dsimp only at hSw); go_simp; (try with_reducible rfl)
                try simp only [Act.put, List.setIfInBounds_toArray, List.set_cons_zero, List.set_cons_succ]
                refine wpAnyH_take (i := 1) (oi := _) (v := ?_) (by simp only [List.getElem?_toArray, List.getElem?_cons_succ, List.getElem?_cons_zero]; rfl) (by kernel_rfl) (by kernel_rfl) (by kernel_rfl) (fun _ _ _ h => h) (Or.inl ⟨by rfl, ?_⟩) (by assumption) ?_
                rotate_left
                · intro w hSw; (try dsimp only at hSw); go_simp; (try with_reducible rfl)
                try simp only [Act.put, List.setIfInBounds_toArray, List.set_cons_zero, List.set_cons_succ]
                refine wpAnyH_take (i := 2) (oi := _) (v := ?_) (by simp only [List.getElem?_toArray, List.getElem?_cons_succ, List.getElem?_cons_zero]; rfl) (by kernel_rfl) (by kernel_rfl) (by kernel_rfl) (fun _ _ _ h => h) (Or.inl ⟨by rfl, ?_⟩) (by assumption) ?_
                rotate_left
                · intro w hSw; (try dsimp only at hSw); go_simp; (try with_reducible rfl)
                try simp only [Act.put, List.setIfInBounds_toArray, List.set_cons_zero, List.set_cons_succ]
                refine wpAnyH_take (i := 3) (oi := _) (v := ?_) (by simp only [List.getElem?_toArray, List.getElem?_cons_succ, List.getElem?_cons_zero]; rfl) (by kernel_rfl) (by kernel_rfl) (by kernel_rfl) (fun _ _ _ h => h) (Or.inl ⟨by rfl, ?_⟩) (by assumption) ?_
                rotate_left
                · intro w hSw; (try dsimp only at hSw); go_simp; (try with_reducible rfl)
                try simp only [Act.put, List.setIfInBounds_toArray, List.set_cons_zero, List.set_cons_succ]
                refine wpAnyH_take (i := 4) (oi := _) (v := ?_) (by simp only [List.getElem?_toArray, List.getElem?_cons_succ, List.getElem?_cons_zero]; rfl) (by kernel_rfl) (by kernel_rfl) (by kernel_rfl) (fun _ _ _ h => h) (Or.inl ⟨by rfl, ?_⟩) (by assumption) ?_
                rotate_left
                · intro w hSw; (try dsimp only at hSw); go_simp; (try with_reducible rfl)
                try simp only [Act.put, List.setIfInBounds_toArray, List.set_cons_zero, List.set_cons_succ]
                refine wpAnyH_take (i := 5) (oi := _) (v := undef) (by simp only [List.getElem?_toArray, List.getElem?_cons_succ, List.getElem?_cons_zero]; rfl) (by kernel_rfl) (by kernel_rfl) (by kernel_rfl) (fun _ _ _ h => h) (Or.inr ⟨by rfl, rfl⟩) (by assumption) ?_
                try simp only [Act.put, List.setIfInBounds_toArray, List.set_cons_zero, List.set_cons_succ]
                refine wpAnyH_take (i := 6) (oi := _) (v := undef) (by simp only [List.getElem?_toArray, List.getElem?_cons_succ, List.getElem?_cons_zero]; rfl) (by kernel_rfl) (by kernel_rfl) (by kernel_rfl) (fun _ _ _ h => h) (Or.inr ⟨by rfl, rfl⟩) (by assumption) ?_
                try simp only [Act.put, List.setIfInBounds_toArray, List.set_cons_zero, List.set_cons_succ]
                refine wpAnyH_take (i := 7) (oi := _) (v := undef) (by simp only [List.getElem?_toArray, List.getElem?_cons_succ, List.getElem?_cons_zero]; rfl) (by kernel_rfl) (by kernel_rfl) (by kernel_rfl) (fun _ _ _ h => h) (Or.inr ⟨by rfl, rfl⟩) (by assumption) ?_
                try simp only [Act.put, List.setIfInBounds_toArray, List.set_cons_zero, List.set_cons_succ]
                refine wpAnyH_take (i := 8) (oi := _) (v := undef) (by simp only [List.getElem?_toArray, List.getElem?_cons_succ, List.getElem?_cons_zero]; rfl) (by kernel_rfl) (by kernel_rfl) (by kernel_rfl) (fun _ _ _ h => h) (Or.inr ⟨by rfl, rfl⟩) (by assumption) ?_
                try simp only [Act.put, List.setIfInBounds_toArray, List.set_cons_zero, List.set_cons_succ]
                refine wpAnyH_take (i := 9) (oi := _) (v := undef) (by simp only [List.getElem?_toArray, List.getElem?_cons_succ, List.getElem?_cons_zero]; rfl) (by kernel_rfl) (by kernel_rfl) (by kernel_rfl) (fun _ _ _ h => h) (Or.inr ⟨by rfl, rfl⟩) (by assumption) ?_
                try simp only [Act.put, List.setIfInBounds_toArray, List.set_cons_zero, List.set_cons_succ]
                refine wpAnyH_take (i := 10) (oi := _) (v := undef) (by simp only [List.getElem?_toArray, List.getElem?_cons_succ, List.getElem?_cons_zero]; rfl) (by kernel_rfl) (by kernel_rfl) (by kernel_rfl) (fun _ _ _ h => h) (Or.inr ⟨by rfl, rfl⟩) (by assumption) ?_
                try simp only [Act.put, List.setIfInBounds_toArray, List.set_cons_zero, List.set_cons_succ]
                refine wpAnyH_take (i := 11) (oi := _) (v := undef) (by simp only [List.getElem?_toArray, List.getElem?_cons_succ, List.getElem?_cons_zero]; rfl) (by kernel_rfl) (by kernel_rfl) (by kernel_rfl) (fun _ _ _ h => h) (Or.inr ⟨by rfl, rfl⟩) (by assumption) ?_
                try simp only [Act.put, List.setIfInBounds_toArray, List.set_cons_zero, List.set_cons_succ]
                refine wpAnyH_take (i := 12) (oi := _) (v := undef) (by simp only [List.getElem?_toArray, List.getElem?_cons_succ, List.getElem?_cons_zero]; rfl) (by kernel_rfl) (by kernel_rfl) (by kernel_rfl) (fun _ _ _ h => h) (Or.inr ⟨by rfl, rfl⟩) (by assumption) ?_
                try simp only [Act.put, List.setIfInBounds_toArray, List.set_cons_zero, List.set_cons_succ]
                refine wpAnyH_take (i := 13) (oi := _) (v := undef) (by simp only [List.getElem?_toArray, List.getElem?_cons_succ, List.getElem?_cons_zero]; rfl) (by kernel_rfl) (by kernel_rfl) (by kernel_rfl) (fun _ _ _ h => h) (Or.inr ⟨by rfl, rfl⟩) (by assumption) ?_
                try simp only [Act.put, List.setIfInBounds_toArray, List.set_cons_zero, List.set_cons_succ]
                refine wpAnyH_take (i := 14) (oi := _) (v := ?_) (by simp only [List.getElem?_toArray, List.getElem?_cons_succ, List.getElem?_cons_zero]; rfl) (by kernel_rfl) (by kernel_rfl) (by kernel_rfl) (fun _ _ _ h => h) (Or.inl ⟨by rfl, ?_⟩) (by assumption) ?_
                rotate_left
                · intro w hSw; (try dsimp only at hSw); go_simp; (try with_reducible rfl)
                try simp only [Act.put, List.setIfInBounds_toArray, List.set_cons_zero, List.set_cons_succ]
                refine wpAnyH_take (i := 15) (oi := _) (v := ?_) (by simp only [List.getElem?_toArray, List.getElem?_cons_succ, List.getElem?_cons_zero]; rfl) (by kernel_rfl) (by kernel_rfl) (by kernel_rfl) (fun _ _ _ h => h) (Or.inl ⟨by rfl, ?_⟩) (by assumption) ?_
                rotate_left
                · intro w hSw; (try dsimp only at hSw); go_simp; (try with_reducible rfl)
                try simp only [Act.put, List.setIfInBounds_toArray, List.set_cons_zero, List.set_cons_succ]
                refine wpAnyH_take (i := 16) (oi := _) (v := ?_) (by simp only [List.getElem?_toArray, List.getElem?_cons_succ, List.getElem?_cons_zero]; rfl) (by kernel_rfl) (by kernel_rfl) (by kernel_rfl) (fun _ _ _ h => h) (Or.inl ⟨by rfl, ?_⟩) (by assumption) ?_
                rotate_left
                · intro w hSw; (try dsimp only at hSw); go_simp; (try with_reducible rfl)
                try simp only [Act.put, List.setIfInBounds_toArray, List.set_cons_zero, List.set_cons_succ]
                refine wpAnyH_take (i := 17) (oi := _) (v := ?_) (by simp only [List.getElem?_toArray, List.getElem?_cons_succ, List.getElem?_cons_zero]; rfl) (by kernel_rfl) (by kernel_rfl) (by kernel_rfl) (fun _ _ _ h => h) (Or.inl ⟨by rfl, ?_⟩) (by assumption) ?_
                rotate_left
                · intro w hSw; (try dsimp only at hSw); go_simp; (try with_reducible rfl)
                try simp only [Act.put, List.setIfInBounds_toArray, List.set_cons_zero, List.set_cons_succ]
                refine wpAnyH_take (i := 18) (oi := _) (v := ?_) (by simp only [List.getElem?_toArray, List.getElem?_cons_succ, List.getElem?_cons_zero]; rfl) (by kernel_rfl) (by kernel_rfl) (by kernel_rfl) (fun _ _ _ h => h) (Or.inl ⟨by rfl, ?_⟩) (by assumption) ?_
                rotate_left
                · intro w hSw; (try dsimp only at hSw); go_simp; (try with_reducible rfl)
                try simp only [Act.put, List.setIfInBounds_toArray, List.set_cons_zero, List.set_cons_succ]
                refine wpAnyH_take (i := 19) (oi := _) (v := ?_) (by simp only [List.getElem?_toArray, List.getElem?_cons_succ, List.getElem?_cons_zero]; rfl) (by kernel_rfl) (by kernel_rfl) (by kernel_rfl) (fun _ _ _ h => h) (Or.inl ⟨by rfl, ?_⟩) (by assumption) ?_
                rotate_left
                · intro w hSw; (try dsimp only at hSw); go_simp; (try with_reducible rfl)
                try simp only [Act.put, List.setIfInBounds_toArray, List.set_cons_zero, List.set_cons_succ]
                refine wpAnyH_take (i := 20) (oi := _) (v := ?_) (by simp only [List.getElem?_toArray, List.getElem?_cons_succ, List.getElem?_cons_zero]; rfl) (by kernel_rfl) (by kernel_rfl) (by kernel_rfl) (fun _ _ _ h => h) (Or.inl ⟨by rfl, ?_⟩) (by assumption) ?_
                rotate_left
                · intro w hSw; (try dsimp only at hSw); go_simp; (try with_reducible rfl)
                try simp only [Act.put, List.setIfInBounds_toArray, List.set_cons_zero, List.set_cons_succ]
                refine wpAnyH_take (i := 21) (oi := _) (v := ?_) (by simp only [List.getElem?_toArray, List.getElem?_cons_succ, List.getElem?_cons_zero]; rfl) (by kernel_rfl) (by kernel_rfl) (by kernel_rfl) (fun _ _ _ h => h) (Or.inl ⟨by rfl, ?_⟩) (by assumption) ?_
                rotate_left
                · intro w hSw; (try dsimp only at hSw); go_simp; (try with_reducible rfl)
                try simp only [Act.put, List.setIfInBounds_toArray, List.set_cons_zero, List.set_cons_succ]
                refine wpAnyH_take (i := 22) (oi := _) (v := ?_) (by simp only [List.getElem?_toArray, List.getElem?_cons_succ, List.getElem?_cons_zero]; rfl) (by kernel_rfl) (by kernel_rfl) (by kernel_rfl) (fun _ _ _ h => h) (Or.inl ⟨by rfl, ?_⟩) (by assumption) ?_
                rotate_left
                · intro w hSw; (try dsimp only at hSw); go_simp; (try with_reducible rfl)
                try simp only [Act.put, List.setIfInBounds_toArray, List.set_cons_zero, List.set_cons_succ]
                refine wpAnyH_take (i := 23) (oi := _) (v := ?_) (by simp only [List.getElem?_toArray, List.getElem?_cons_succ, List.getElem?_cons_zero]; rfl) (by kernel_rfl) (by kernel_rfl) (by kernel_rfl) (fun _ _ _ h => h) (Or.inl ⟨by rfl, ?_⟩) (by assumption) ?_
                rotate_left
                · intro w hSw; (try dsimp only at hSw); go_simp; (try with_reducible rfl)
                try simp only [Act.put, List.setIfInBounds_toArray, List.set_cons_zero, List.set_cons_succ]
                refine wpAnyH_take (i := 24) (oi := _) (v := ?_) (by simp only [List.getElem?_toArray, List.getElem?_cons_succ, List.getElem?_cons_zero]; rfl) (by kernel_rfl) (by kernel_rfl) (by kernel_rfl) (fun _ _ _ h => h) (Or.inl ⟨by rfl, ?_⟩) (by assumption) ?_
                rotate_left
                · intro w hSw; (try dsimp only at hSw); go_simp; (try with_reducible rfl)
                try simp only [Act.put, List.setIfInBounds_toArray, List.set_cons_zero, List.set_cons_succ]
                refine wpAnyH_take (i := 25) (oi := _) (v := ?_) (by simp only [List.getElem?_toArray, List.getElem?_cons_succ, List.getElem?_cons_zero]; rfl) (by kernel_rfl) (by kernel_rfl) (by kernel_rfl) (fun _ _ _ h => h) (Or.inl ⟨by rfl, ?_⟩) (by assumption) ?_
                rotate_left
                · intro w hSw; (try dsimp only at hSw); go_simp; (try with_reducible rfl)
                try simp only [Act.put, List.setIfInBounds_toArray, List.set_cons_zero, List.set_cons_succ]
                refine wpAnyH_take (i := 26) (oi := _) (v := ?_) (by simp only [List.getElem?_toArray, List.getElem?_cons_succ, List.getElem?_cons_zero]; rfl) (by kernel_rfl) (by kernel_rfl) (by kernel_rfl) (fun _ _ _ h => h) (Or.inl ⟨by rfl, ?_⟩) (by assumption) ?_
                rotate_left
                · intro w hSw; (try dsimp only at hSw); go_simp; (try with_reducible rfl)
                try simp only [Act.put, List.setIfInBounds_toArray, List.set_cons_zero, List.set_cons_succ]
                refine wpAnyH_take (i := 27) (oi := _) (v := ?_) (by simp only [List.getElem?_toArray, List.getElem?_cons_succ, List.getElem?_cons_zero]; rfl) (by kernel_rfl) (by kernel_rfl) (by kernel_rfl) (fun _ _ _ h => h) (Or.inl ⟨by rfl, ?_⟩) (by assumption) ?_
                rotate_left
                · intro w hSw; (try dsimp only at hSw); go_simp; (try with_reducible rfl)
                try simp only [Act.put, List.setIfInBounds_toArray, List.set_cons_zero, List.set_cons_succ]
                refine wpAnyH_take (i := 28) (oi := _) (v := ?_) (by simp only [List.getElem?_toArray, List.getElem?_cons_succ, List.getElem?_cons_zero]; rfl) (by kernel_rfl) (by kernel_rfl) (by kernel_rfl) (fun _ _ _ h => h) (Or.inl ⟨by rfl, ?_⟩) (by assumption) ?_
                rotate_left
                · intro w hSw; (try dsimp only at hSw); go_simp; (try with_reducible rfl)
                try simp only [Act.put, List.setIfInBounds_toArray, List.set_cons_zero, List.set_cons_succ]
                refine wpAnyH_take (i := 29) (oi := _) (v := ?_) (by simp only [List.getElem?_toArray, List.getElem?_cons_succ, List.getElem?_cons_zero]; rfl) (by kernel_rfl) (by kernel_rfl) (by kernel_rfl) (fun _ _ _ h => h) (Or.inl ⟨by rfl, ?_⟩) (by assumption) ?_
                rotate_left
                · intro w hSw; (try dsimp only at hSw); go_simp; (try with_reducible rfl)
                try simp only [Act.put, List.setIfInBounds_toArray, List.set_cons_zero, List.set_cons_succ]
                refine wpAnyH_ready (rs := [30]) (by kernel_rfl) (by simp) ?_
                refine AllReadyH.cons (o := _) (by simp only [List.getElem?_toArray, List.getElem?_cons_succ, List.getElem?_cons_zero]; rfl) (fun K hK => ?_) AllReadyH.nil
                go_simp
                go_at_call 30; refine (Hst.out _).mono ?_; rintro e wS ⟨rfl, hdS⟩; have hbS := (Below.refl wr.heap.size wr).drew.trans (hdS.mono (Nat.le_refl _))
                refine hK.out _ _ (by (try dsimp only); first | with_reducible exact HS11.out | exact Hs11.out _ (by with_reducible assumption)) (fun hHeld => ?_)
                clear hK K
                try simp only [Act.put, List.setIfInBounds_toArray, List.set_cons_zero, List.set_cons_succ]
                refine wpAnyH_take (i := 31) (oi := _) (v := ?_) (by simp only [List.getElem?_toArray, List.getElem?_cons_succ, List.getElem?_cons_zero]; rfl) (by kernel_rfl) (by kernel_rfl) (by kernel_rfl) (fun _ _ _ h => h) (Or.inl ⟨by rfl, ?_⟩) (by assumption) ?_
                rotate_left
                · intro w hSw; (try dsimp only at hSw); go_simp; (try with_reducible rfl)
                try simp only [Act.put, List.setIfInBounds_toArray, List.set_cons_zero, List.set_cons_succ]
                refine wpAnyH_take (i := 32) (oi := _) (v := ?_) (by simp only [List.getElem?_toArray, List.getElem?_cons_succ, List.getElem?_cons_zero]; rfl) (by kernel_rfl) (by kernel_rfl) (by kernel_rfl) (fun _ _ _ h => h) (Or.inl ⟨by rfl, ?_⟩) (by assumption) ?_
                rotate_left
                · intro w hSw; (try dsimp only at hSw); go_simp; (try with_reducible rfl)
                try simp only [Act.put, List.setIfInBounds_toArray, List.set_cons_zero, List.set_cons_succ]
                refine wpAnyH_take (i := 33) (oi := _) (v := ?_) (by simp only [List.getElem?_toArray, List.getElem?_cons_succ, List.getElem?_cons_zero]; rfl) (by kernel_rfl) (by kernel_rfl) (by kernel_rfl) (fun _ _ _ h => h) (Or.inl ⟨by rfl, ?_⟩) (by assumption) ?_
                rotate_left
                · intro w hSw; (try dsimp only at hSw); go_simp; (try with_reducible rfl)
                try simp only [Act.put, List.setIfInBounds_toArray, List.set_cons_zero, List.set_cons_succ]
                refine wpAnyH_done (by kernel_rfl) ?_ _
                refine NoPanic.normal ?_
                have hfin := Lib.hid (hbw.out.trans (hbS.mono hbw.out.size))
                go_wp2
                go_roundw
                case rel => exact ⟨j + 1, by omega, by simp, hfin⟩
                case measure => simp [intOf] <;> omega
              · have hy := putD_other (fs := fs) (k := ⟨kind, rcpt, nn⟩) hown
                rw [← Hput.out, hx] at hy
                obtain ⟨q0, q1, q2, q3, q4⟩ := fate_at (hrB.out.below (Nat.le_refl _) hbw.out) hy
                obtain ⟨x0, x1, x2, x3, x4⟩ := x
                have hne : ((j : Int) == rcpt) = false := by simpa using hown
                have hnb : ((j : Int) != rcpt) = true := by simpa using hown
                simp only at p0 p1 p2 p3 p4 q0 q1 q2 q3 q4
                have h11 : (fun w' => w'.cell? ⟨M + 1, 0, none⟩ = some (.int .i64 kind) ∧ w'.cell? ⟨M + 1, 1, none⟩ = some (.int .i64 rcpt) ∧ w'.cell? ⟨M + 1, 2, none⟩ = some (.int .i64 nn) ∧ w'.cell? ⟨ga, j * 5, none⟩ = some (.int .i64 x0) ∧ w'.cell? ⟨ga, j * 5 + 1, none⟩ = some (.int .i64 x1) ∧ w'.cell? ⟨ga, j * 5 + 2, none⟩ = some (.int .i64 x2) ∧ w'.cell? ⟨ga, j * 5 + 3, none⟩ = some (.int .i64 x3) ∧ w'.cell? ⟨ga, j * 5 + 4, none⟩ = some (.bool x4) ∧ w'.cell? ⟨gb, j * 5, none⟩ = some (.int .i64 x0) ∧ w'.cell? ⟨gb, j * 5 + 1, none⟩ = some (.int .i64 x1) ∧ w'.cell? ⟨gb, j * 5 + 2, none⟩ = some (.int .i64 x2) ∧ w'.cell? ⟨gb, j * 5 + 3, none⟩ = some (.int .i64 x3) ∧ w'.cell? ⟨gb, j * 5 + 4, none⟩ = some (.bool x4) ∧ Hid (Below wr.heap.size wr w')) wr.drew := ⟨k0, k1, k2, p0, p1, p2, p3, p4, q0, q1, q2, q3, q4, Lib.hid (Below.refl _ _).drew⟩
                have HS11 := Lib.hid h11
                have hbd := Lib.hid (hbw.out.drew)
                clear h11 k0 k1 k2 p0 p1 p2 p3 p4 q0 q1 q2 q3 q4 hy hx hBr c0 c1 c2 c3 c4 c5
                go_upto_region 11 with fail
                refine wp_region_noPanic ?_
                refine wp_region_held_drew (S := (fun w' => w'.cell? ⟨M + 1, 0, none⟩ = some (.int .i64 kind) ∧ w'.cell? ⟨M + 1, 1, none⟩ = some (.int .i64 rcpt) ∧ w'.cell? ⟨M + 1, 2, none⟩ = some (.int .i64 nn) ∧ w'.cell? ⟨ga, j * 5, none⟩ = some (.int .i64 x0) ∧ w'.cell? ⟨ga, j * 5 + 1, none⟩ = some (.int .i64 x1) ∧ w'.cell? ⟨ga, j * 5 + 2, none⟩ = some (.int .i64 x2) ∧ w'.cell? ⟨ga, j * 5 + 3, none⟩ = some (.int .i64 x3) ∧ w'.cell? ⟨ga, j * 5 + 4, none⟩ = some (.bool x4) ∧ w'.cell? ⟨gb, j * 5, none⟩ = some (.int .i64 x0) ∧ w'.cell? ⟨gb, j * 5 + 1, none⟩ = some (.int .i64 x1) ∧ w'.cell? ⟨gb, j * 5 + 2, none⟩ = some (.int .i64 x2) ∧ w'.cell? ⟨gb, j * 5 + 3, none⟩ = some (.int .i64 x3) ∧ w'.cell? ⟨gb, j * 5 + 4, none⟩ = some (.bool x4) ∧ Hid (Below wr.heap.size wr w'))) (by kernel_rfl) (by with_reducible exact HS11.out) (fun hHeld => ?_)
                refine wpAnyH_take (i := 0) (oi := _) (v := ?_) (by simp only [List.getElem?_toArray, List.getElem?_cons_succ, List.getElem?_cons_zero]; rfl) (by kernel_rfl) (by kernel_rfl) (by kernel_rfl) (fun _ _ _ h => h) (Or.inl ⟨by rfl, ?_⟩) (by assumption) ?_
                rotate_left
                · intro w hSw; (try dsimp only at hSw); go_simp; (try with_reducible rfl)
                try simp only [Act.put, List.setIfInBounds_toArray, List.set_cons_zero, List.set_cons_succ]
                refine wpAnyH_take (i := 1) (oi := _) (v := ?_) (by simp only [List.getElem?_toArray, List.getElem?_cons_succ, List.getElem?_cons_zero]; rfl) (by kernel_rfl) (by kernel_rfl) (by kernel_rfl) (fun _ _ _ h => h) (Or.inl ⟨by rfl, ?_⟩) (by assumption) ?_
                rotate_left
                · intro w hSw; (try dsimp only at hSw); go_simp; (try with_reducible rfl)
                try simp only [Act.put, List.setIfInBounds_toArray, List.set_cons_zero, List.set_cons_succ]
                refine wpAnyH_take (i := 2) (oi := _) (v := ?_) (by simp only [List.getElem?_toArray, List.getElem?_cons_succ, List.getElem?_cons_zero]; rfl) (by kernel_rfl) (by kernel_rfl) (by kernel_rfl) (fun _ _ _ h => h) (Or.inl ⟨by rfl, ?_⟩) (by assumption) ?_
                rotate_left
                · intro w hSw; (try dsimp only at hSw); go_simp; (try with_reducible rfl)
                try simp only [Act.put, List.setIfInBounds_toArray, List.set_cons_zero, List.set_cons_succ]
                refine wpAnyH_take (i := 3) (oi := _) (v := ?_) (by simp only [List.getElem?_toArray, List.getElem?_cons_succ, List.getElem?_cons_zero]; rfl) (by kernel_rfl) (by kernel_rfl) (by kernel_rfl) (fun _ _ _ h => h) (Or.inl ⟨by rfl, ?_⟩) (by assumption) ?_
                rotate_left
                · intro w hSw; (try dsimp only at hSw); go_simp; (try with_reducible rfl)
                try simp only [Act.put, List.setIfInBounds_toArray, List.set_cons_zero, List.set_cons_succ]
                refine wpAnyH_take (i := 4) (oi := _) (v := ?_) (by simp only [List.getElem?_toArray, List.getElem?_cons_succ, List.getElem?_cons_zero]; rfl) (by kernel_rfl) (by kernel_rfl) (by kernel_rfl) (fun _ _ _ h => h) (Or.inl ⟨by rfl, ?_⟩) (by assumption) ?_
                rotate_left
                · intro w hSw; (try dsimp only at hSw); go_simp; (try with_reducible rfl)
                try simp only [Act.put, List.setIfInBounds_toArray, List.set_cons_zero, List.set_cons_succ]
                refine wpAnyH_take (i := 5) (oi := _) (v := ?_) (by simp only [List.getElem?_toArray, List.getElem?_cons_succ, List.getElem?_cons_zero]; rfl) (by kernel_rfl) (by kernel_rfl) (by kernel_rfl) (fun _ _ _ h => h) (Or.inl ⟨by rfl, ?_⟩) (by assumption) ?_
                rotate_left
                · intro w hSw; (try dsimp only at hSw); go_simp; (try with_reducible rfl)
                try simp only [Act.put, List.setIfInBounds_toArray, List.set_cons_zero, List.set_cons_succ]
                refine wpAnyH_take (i := 6) (oi := _) (v := ?_) (by simp only [List.getElem?_toArray, List.getElem?_cons_succ, List.getElem?_cons_zero]; rfl) (by kernel_rfl) (by kernel_rfl) (by kernel_rfl) (fun _ _ _ h => h) (Or.inl ⟨by rfl, ?_⟩) (by assumption) ?_
                rotate_left
                · intro w hSw; (try dsimp only at hSw); go_simp; (try with_reducible rfl)
                try simp only [Act.put, List.setIfInBounds_toArray, List.set_cons_zero, List.set_cons_succ]
                refine wpAnyH_take (i := 7) (oi := _) (v := ?_) (by simp only [List.getElem?_toArray, List.getElem?_cons_succ, List.getElem?_cons_zero]; rfl) (by kernel_rfl) (by kernel_rfl) (by kernel_rfl) (fun _ _ _ h => h) (Or.inl ⟨by rfl, ?_⟩) (by assumption) ?_
                rotate_left
                · intro w hSw; (try dsimp only at hSw); go_simp; (try with_reducible rfl)
                try simp only [Act.put, List.setIfInBounds_toArray, List.set_cons_zero, List.set_cons_succ]
                refine wpAnyH_take (i := 8) (oi := _) (v := ?_) (by simp only [List.getElem?_toArray, List.getElem?_cons_succ, List.getElem?_cons_zero]; rfl) (by kernel_rfl) (by kernel_rfl) (by kernel_rfl) (fun _ _ _ h => h) (Or.inl ⟨by rfl, ?_⟩) (by assumption) ?_
                rotate_left
                · intro w hSw; (try dsimp only at hSw); go_simp; (try with_reducible rfl)
                try simp only [Act.put, List.setIfInBounds_toArray, List.set_cons_zero, List.set_cons_succ]
                refine wpAnyH_take (i := 9) (oi := _) (v := ?_) (by simp only [List.getElem?_toArray, List.getElem?_cons_succ, List.getElem?_cons_zero]; rfl) (by kernel_rfl) (by kernel_rfl) (by kernel_rfl) (fun _ _ _ h => h) (Or.inl ⟨by rfl, ?_⟩) (by assumption) ?_
                rotate_left
                · intro w hSw; (try dsimp only at hSw); go_simp; (try with_reducible rfl)
                try simp only [Act.put, List.setIfInBounds_toArray, List.set_cons_zero, List.set_cons_succ]
                refine wpAnyH_take (i := 10) (oi := _) (v := ?_) (by simp only [List.getElem?_toArray, List.getElem?_cons_succ, List.getElem?_cons_zero]; rfl) (by kernel_rfl) (by kernel_rfl) (by kernel_rfl) (fun _ _ _ h => h) (Or.inl ⟨by rfl, ?_⟩) (by assumption) ?_
                rotate_left
                · intro w hSw; (try dsimp only at hSw); go_simp; (try with_reducible rfl)
                try simp only [Act.put, List.setIfInBounds_toArray, List.set_cons_zero, List.set_cons_succ]
                refine wpAnyH_take (i := 11) (oi := _) (v := ?_) (by simp only [List.getElem?_toArray, List.getElem?_cons_succ, List.getElem?_cons_zero]; rfl) (by kernel_rfl) (by kernel_rfl) (by kernel_rfl) (fun _ _ _ h => h) (Or.inl ⟨by rfl, ?_⟩) (by assumption) ?_
                rotate_left
                · intro w hSw; (try dsimp only at hSw); go_simp; (try with_reducible rfl)
                try simp only [Act.put, List.setIfInBounds_toArray, List.set_cons_zero, List.set_cons_succ]
                refine wpAnyH_take (i := 12) (oi := _) (v := ?_) (by simp only [List.getElem?_toArray, List.getElem?_cons_succ, List.getElem?_cons_zero]; rfl) (by kernel_rfl) (by kernel_rfl) (by kernel_rfl) (fun _ _ _ h => h) (Or.inl ⟨by rfl, ?_⟩) (by assumption) ?_
                rotate_left
                · intro w hSw; (try dsimp only at hSw); go_simp; (try with_reducible rfl)
                try simp only [Act.put, List.setIfInBounds_toArray, List.set_cons_zero, List.set_cons_succ]
                refine wpAnyH_take (i := 13) (oi := _) (v := ?_) (by simp only [List.getElem?_toArray, List.getElem?_cons_succ, List.getElem?_cons_zero]; rfl) (by kernel_rfl) (by kernel_rfl) (by kernel_rfl) (fun _ _ _ h => h) (Or.inl ⟨by rfl, ?_⟩) (by assumption) ?_
                rotate_left
                · intro w hSw; (try dsimp only at hSw); go_simp; (try with_reducible rfl)
                try simp only [Act.put, List.setIfInBounds_toArray, List.set_cons_zero, List.set_cons_succ]
                refine wpAnyH_take (i := 14) (oi := _) (v := ?_) (by simp only [List.getElem?_toArray, List.getElem?_cons_succ, List.getElem?_cons_zero]; rfl) (by kernel_rfl) (by kernel_rfl) (by kernel_rfl) (fun _ _ _ h => h) (Or.inl ⟨by rfl, ?_⟩) (by assumption) ?_
                rotate_left
                · intro w hSw; (try dsimp only at hSw); go_simp; (try with_reducible rfl)
                try simp only [Act.put, List.setIfInBounds_toArray, List.set_cons_zero, List.set_cons_succ]
                refine wpAnyH_take (i := 15) (oi := _) (v := ?_) (by simp only [List.getElem?_toArray, List.getElem?_cons_succ, List.getElem?_cons_zero]; rfl) (by kernel_rfl) (by kernel_rfl) (by kernel_rfl) (fun _ _ _ h => h) (Or.inl ⟨by rfl, ?_⟩) (by assumption) ?_
                rotate_left
                · intro w hSw; (try dsimp only at hSw); go_simp; (try with_reducible rfl)
                try simp only [Act.put, List.setIfInBounds_toArray, List.set_cons_zero, List.set_cons_succ]
                refine wpAnyH_take (i := 16) (oi := _) (v := ?_) (by simp only [List.getElem?_toArray, List.getElem?_cons_succ, List.getElem?_cons_zero]; rfl) (by kernel_rfl) (by kernel_rfl) (by kernel_rfl) (fun _ _ _ h => h) (Or.inl ⟨by rfl, ?_⟩) (by assumption) ?_
                rotate_left
                · intro w hSw; (try dsimp only at hSw); go_simp; (try with_reducible rfl)
                try simp only [Act.put, List.setIfInBounds_toArray, List.set_cons_zero, List.set_cons_succ]
                refine wpAnyH_take (i := 17) (oi := _) (v := ?_) (by simp only [List.getElem?_toArray, List.getElem?_cons_succ, List.getElem?_cons_zero]; rfl) (by kernel_rfl) (by kernel_rfl) (by kernel_rfl) (fun _ _ _ h => h) (Or.inl ⟨by rfl, ?_⟩) (by assumption) ?_
                rotate_left
                · intro w hSw; (try dsimp only at hSw); go_simp; (try with_reducible rfl)
                try simp only [Act.put, List.setIfInBounds_toArray, List.set_cons_zero, List.set_cons_succ]
                refine wpAnyH_take (i := 18) (oi := _) (v := ?_) (by simp only [List.getElem?_toArray, List.getElem?_cons_succ, List.getElem?_cons_zero]; rfl) (by kernel_rfl) (by kernel_rfl) (by kernel_rfl) (fun _ _ _ h => h) (Or.inl ⟨by rfl, ?_⟩) (by assumption) ?_
                rotate_left
                · intro w hSw; (try dsimp only at hSw); go_simp; (try with_reducible rfl)
                try simp only [Act.put, List.setIfInBounds_toArray, List.set_cons_zero, List.set_cons_succ]
                refine wpAnyH_take (i := 19) (oi := _) (v := ?_) (by simp only [List.getElem?_toArray, List.getElem?_cons_succ, List.getElem?_cons_zero]; rfl) (by kernel_rfl) (by kernel_rfl) (by kernel_rfl) (fun _ _ _ h => h) (Or.inl ⟨by rfl, ?_⟩) (by assumption) ?_
                rotate_left
                · intro w hSw; (try dsimp only at hSw); go_simp; (try with_reducible rfl)
                try simp only [Act.put, List.setIfInBounds_toArray, List.set_cons_zero, List.set_cons_succ]
                refine wpAnyH_take (i := 20) (oi := _) (v := ?_) (by simp only [List.getElem?_toArray, List.getElem?_cons_succ, List.getElem?_cons_zero]; rfl) (by kernel_rfl) (by kernel_rfl) (by kernel_rfl) (fun _ _ _ h => h) (Or.inl ⟨by rfl, ?_⟩) (by assumption) ?_
                rotate_left
                · intro w hSw; (try dsimp only at hSw); go_simp; (try with_reducible rfl)
                try simp only [Act.put, List.setIfInBounds_toArray, List.set_cons_zero, List.set_cons_succ]
                refine wpAnyH_take (i := 21) (oi := _) (v := undef) (by simp only [List.getElem?_toArray, List.getElem?_cons_succ, List.getElem?_cons_zero]; rfl) (by kernel_rfl) (by kernel_rfl) (by kernel_rfl) (fun _ _ _ h => h) (Or.inr ⟨by rfl, rfl⟩) (by assumption) ?_
                try simp only [Act.put, List.setIfInBounds_toArray, List.set_cons_zero, List.set_cons_succ]
                refine wpAnyH_take (i := 22) (oi := _) (v := undef) (by simp only [List.getElem?_toArray, List.getElem?_cons_succ, List.getElem?_cons_zero]; rfl) (by kernel_rfl) (by kernel_rfl) (by kernel_rfl) (fun _ _ _ h => h) (Or.inr ⟨by rfl, rfl⟩) (by assumption) ?_
                try simp only [Act.put, List.setIfInBounds_toArray, List.set_cons_zero, List.set_cons_succ]
                refine wpAnyH_take (i := 23) (oi := _) (v := undef) (by simp only [List.getElem?_toArray, List.getElem?_cons_succ, List.getElem?_cons_zero]; rfl) (by kernel_rfl) (by kernel_rfl) (by kernel_rfl) (fun _ _ _ h => h) (Or.inr ⟨by rfl, rfl⟩) (by assumption) ?_
                try simp only [Act.put, List.setIfInBounds_toArray, List.set_cons_zero, List.set_cons_succ]
                refine wpAnyH_take (i := 24) (oi := _) (v := undef) (by simp only [List.getElem?_toArray, List.getElem?_cons_succ, List.getElem?_cons_zero]; rfl) (by kernel_rfl) (by kernel_rfl) (by kernel_rfl) (fun _ _ _ h => h) (Or.inr ⟨by rfl, rfl⟩) (by assumption) ?_
                try simp only [Act.put, List.setIfInBounds_toArray, List.set_cons_zero, List.set_cons_succ]
                refine wpAnyH_take (i := 25) (oi := _) (v := undef) (by simp only [List.getElem?_toArray, List.getElem?_cons_succ, List.getElem?_cons_zero]; rfl) (by kernel_rfl) (by kernel_rfl) (by kernel_rfl) (fun _ _ _ h => h) (Or.inr ⟨by rfl, rfl⟩) (by assumption) ?_
                try simp only [Act.put, List.setIfInBounds_toArray, List.set_cons_zero, List.set_cons_succ]
                refine wpAnyH_take (i := 26) (oi := _) (v := undef) (by simp only [List.getElem?_toArray, List.getElem?_cons_succ, List.getElem?_cons_zero]; rfl) (by kernel_rfl) (by kernel_rfl) (by kernel_rfl) (fun _ _ _ h => h) (Or.inr ⟨by rfl, rfl⟩) (by assumption) ?_
                try simp only [Act.put, List.setIfInBounds_toArray, List.set_cons_zero, List.set_cons_succ]
                refine wpAnyH_take (i := 27) (oi := _) (v := undef) (by simp only [List.getElem?_toArray, List.getElem?_cons_succ, List.getElem?_cons_zero]; rfl) (by kernel_rfl) (by kernel_rfl) (by kernel_rfl) (fun _ _ _ h => h) (Or.inr ⟨by rfl, rfl⟩) (by assumption) ?_
                try simp only [Act.put, List.setIfInBounds_toArray, List.set_cons_zero, List.set_cons_succ]
                refine wpAnyH_take (i := 28) (oi := _) (v := undef) (by simp only [List.getElem?_toArray, List.getElem?_cons_succ, List.getElem?_cons_zero]; rfl) (by kernel_rfl) (by kernel_rfl) (by kernel_rfl) (fun _ _ _ h => h) (Or.inr ⟨by rfl, rfl⟩) (by assumption) ?_
                try simp only [Act.put, List.setIfInBounds_toArray, List.set_cons_zero, List.set_cons_succ]
                refine wpAnyH_take (i := 29) (oi := _) (v := undef) (by simp only [List.getElem?_toArray, List.getElem?_cons_succ, List.getElem?_cons_zero]; rfl) (by kernel_rfl) (by kernel_rfl) (by kernel_rfl) (fun _ _ _ h => h) (Or.inr ⟨by rfl, rfl⟩) (by assumption) ?_
                try simp only [Act.put, List.setIfInBounds_toArray, List.set_cons_zero, List.set_cons_succ]
                refine wpAnyH_take (i := 30) (oi := _) (v := undef) (by simp only [List.getElem?_toArray, List.getElem?_cons_succ, List.getElem?_cons_zero]; rfl) (by kernel_rfl) (by kernel_rfl) (by kernel_rfl) (fun _ _ _ h => h) (Or.inr ⟨by rfl, rfl⟩) (by assumption) ?_
                try simp only [Act.put, List.setIfInBounds_toArray, List.set_cons_zero, List.set_cons_succ]
                refine wpAnyH_take (i := 31) (oi := _) (v := undef) (by simp only [List.getElem?_toArray, List.getElem?_cons_succ, List.getElem?_cons_zero]; rfl) (by kernel_rfl) (by kernel_rfl) (by kernel_rfl) (fun _ _ _ h => h) (Or.inr ⟨by rfl, rfl⟩) (by assumption) ?_
                try simp only [Act.put, List.setIfInBounds_toArray, List.set_cons_zero, List.set_cons_succ]
                refine wpAnyH_take (i := 32) (oi := _) (v := ?_) (by simp only [List.getElem?_toArray, List.getElem?_cons_succ, List.getElem?_cons_zero]; rfl) (by kernel_rfl) (by kernel_rfl) (by kernel_rfl) (fun _ _ _ h => h) (Or.inl ⟨by rfl, ?_⟩) (by assumption) ?_
                rotate_left
                · intro w hSw; (try dsimp only at hSw); go_simp; (try with_reducible rfl)
                try simp only [Act.put, List.setIfInBounds_toArray, List.set_cons_zero, List.set_cons_succ]
                refine wpAnyH_take (i := 33) (oi := _) (v := ?_) (by simp only [List.getElem?_toArray, List.getElem?_cons_succ, List.getElem?_cons_zero]; rfl) (by kernel_rfl) (by kernel_rfl) (by kernel_rfl) (fun _ _ _ h => h) (Or.inl ⟨by rfl, ?_⟩) (by assumption) ?_
                rotate_left
                · intro w hSw; (try dsimp only at hSw); go_simp; (try with_reducible rfl)
                try simp only [Act.put, List.setIfInBounds_toArray, List.set_cons_zero, List.set_cons_succ]
                refine wpAnyH_done (by kernel_rfl) ?_ _
                refine NoPanic.normal ?_
                go_wp2
                go_roundw
                case rel => exact ⟨j + 1, by omega, by simp, hbd⟩
                case measure => simp [intOf] <;> omega
            · have hje : j = m.rcpts.length := by omega
              subst hje
              have hBr := Hcw9.out.trans (hbw.out.mono Hcw9.out.size)
              have hjl : ¬ ((m.rcpts.length : Int) < (m.rcpts.length : Int)) := by omega
              have hans := Hans.out _ hBr
              have Hans9 := Lib.hid hans
              have HBr := Lib.hid (HbW.out.trans (hBr.mono HbW.out.size))
              clear hans hBr c0 c1 c2 c3 c4 c5
              go_wp2_with fail
              refine (Hans9.out).mono ?_; rintro e wz ⟨rfl, hbz⟩
              have hfin := HBr.out.trans (hbz.mono HBr.out.size)
              go_wp2
              go_ret
              exact ⟨rfl, hfin⟩
end Go.Proofs.YtjddicoigbidlaaGreatDoor
