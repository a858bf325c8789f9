/-
  The walk of pillarboxref10.Own.
-/
import Derived.Test.YtffnbkmigapmjaaGreatDoorS9
import Derived.Test.YtffnbkmigapmjaaGreatDoorS32
set_option linter.unusedSimpArgs false
set_option linter.unusedVariables false
namespace Go.Proofs.YtffnbkmigapmjaaGreatDoor
open Go.RowKit
theorem heap6 {w : World} {mb : Nat} (h : ∃ c0 c1 c2 c3 c4 c5, w.heap[mb]? = some (.cells #[c0, c1, c2, c3, c4, c5] 29 (0, 0))) (x0 x1 x2 x3 x4 x5 : Value) :
    ((((((w.setCell ⟨mb, 0, none⟩ x0).setCell ⟨mb, 1, none⟩ x1).setCell ⟨mb, 2, none⟩ x2).setCell ⟨mb, 3, none⟩ x3).setCell ⟨mb, 4, none⟩ x4).setCell ⟨mb, 5, none⟩ x5).heap[mb]? = some (.cells #[x0, x1, x2, x3, x4, x5] 29 (0, 0)) := by
  obtain ⟨c0, c1, c2, c3, c4, c5, hc⟩ := h
  exact heap_setCell_same _ _ 5 _ _ _ (heap_setCell_same _ _ 4 _ _ _ (heap_setCell_same _ _ 3 _ _ _ (heap_setCell_same _ _ 2 _ _ _ (heap_setCell_same _ _ 1 _ _ _ (heap_setCell_same _ _ 0 _ _ _ hc)))))
theorem cells6 {w : World} {mb : Nat} {c0 c1 c2 c3 c4 c5 : Value} (hb : w.heap[mb]? = some (.cells #[c0, c1, c2, c3, c4, c5] 29 (0, 0))) :
    (w.cell? ⟨mb, 0, none⟩ = some c0 ∧ w.cell? ⟨mb, 1, none⟩ = some c1 ∧ w.cell? ⟨mb, 2, none⟩ = some c2 ∧ w.cell? ⟨mb, 3, none⟩ = some c3 ∧ w.cell? ⟨mb, 4, none⟩ = some c4 ∧ w.cell? ⟨mb, 5, none⟩ = some c5) ∧
    (w.frozen? ⟨mb, 0, none⟩ = false ∧ w.frozen? ⟨mb, 1, none⟩ = false ∧ w.frozen? ⟨mb, 2, none⟩ = false ∧ w.frozen? ⟨mb, 3, none⟩ = false ∧ w.frozen? ⟨mb, 4, none⟩ = false ∧ w.frozen? ⟨mb, 5, none⟩ = false) := by
  refine ⟨⟨?_, ?_, ?_, ?_, ?_, ?_⟩, ?_, ?_, ?_, ?_, ?_, ?_⟩
  all_goals first | (rw [cell_of_row _ _ _ _ _ _ hb]; rfl) | simp [World.frozen?, hb]
theorem RdB.keepsN {F : Nat → Prop} {w w' : World} {v : Value} {bs : List UInt8} (h : RdB w v bs) (hk : Keeps F w w') (hF : bs ≠ [] → ∀ k, v.ownBlock = some k → ¬ F k) : RdB w' v bs := by
  rcases h with ⟨a, c, h1, h2⟩ | h
  · exact .inl ⟨a, c, h1, h2⟩
  · obtain ⟨b, off, cap, h1, h0, h2⟩ := id h
    exact RdB.keeps (.inr h) hk (hF h0)
def OwnDone (w : World) (m : MailD) (e : Ending) (w' : World) : Prop :=
  ∃ vr vb, e = .returned (mailVal m vr vb) ∧ w'.ownsRow w.heap.size 9 1 vr m.rcpts.length (m.rcpts.flatMap s1) ∧ w'.ownsRow w.heap.size 5 1 vb m.body.length (m.body.map u8v) ∧ Below w.heap.size w w'
set_option maxRecDepth 100000 in
set_option maxHeartbeats 4000000 in
theorem own_calls (m : MailD) (vr vb : Value) (w : World) (hr : RdS w vr m.rcpts) (hb : RdB w vb m.body) (hnr : NilOk vr) (hnb : NilOk vb) (hlr : m.rcpts.length ≤ 1000000) (hlb : m.body.length ≤ 1000000000) :
    Calls Tryz.prog 73 #[mailVal m vr vb] w (OwnDone w m) := by
  obtain ⟨i0, hi, hz0, hz1, hz2⟩ := info_parts infoU8
  obtain ⟨i1, hi1, hy0, hy1, hy2⟩ := info_parts infoStr
  obtain ⟨id, parent, born, frm, rcpts, body⟩ := m
  unfold mailVal OwnDone mailVal
  simp only at hr hb hlr hlb ⊢
  obtain ⟨W, hW⟩ : ∃ W, (w.alloc (.cells #[.int .i64 id, .int .i64 parent, .int .i64 born, .string (strL frm), vr, vb] 29)).alloc (.cells #[.int .i64 0, .int .i64 0, .int .i64 0, .string ⟨#[]⟩, .slice none 0 0, .slice none 0 0] 29) = W := ⟨_, rfl⟩
  have hbW : Below w.heap.size w W := by rw [← hW]; exact ((Below.refl _ _).alloc (Nat.le_refl _) _).alloc (by simp) _
  have hsW : W.heap.size = w.heap.size + 2 := by rw [← hW]; simp
  have hk1 : W.heap[w.heap.size]? = some (.cells #[.int .i64 id, .int .i64 parent, .int .i64 born, .string (strL frm), vr, vb] 29 (0, 0)) := by rw [← hW]; exact heap_alloc2_old _ _ _
  have hk2 : W.heap[w.heap.size + 1]? = some (.cells #[.int .i64 0, .int .i64 0, .int .i64 0, .string ⟨#[]⟩, .slice none 0 0, .slice none 0 0] 29 (0, 0)) := by rw [← hW]; exact heap_alloc2_new _ _ _
  have hr1 := hr.below (Nat.le_refl _) hbW
  have hb1 := hb.below (Nat.le_refl _) hbW
  obtain ⟨ar, capr, rfl, _, _⟩ := hr.form
  obtain ⟨ab, capb, rfl, _, _⟩ := hb.form
  have Hk1 := Lib.hid hk1
  have Hr1 := Lib.hid hr1
  have Hb1 := Lib.hid hb1
  have HW := Lib.hid hW
  generalize strL frm = sf at *
  have Hk2 := Lib.hid hk2
  have hnoM : body ≠ [] → ∀ k, (Value.slice ab body.length capb).ownBlock = some k → k < w.heap.size := fun hne => rdB_lt hb hne
  have HnoM := Lib.hid hnoM
  clear hr hb hr1 hb1 hk1 hk2 hnoM
  obtain ⟨Wa, hWa⟩ : ∃ Wa, W.alloc (.cells #[] 9) = Wa := ⟨_, rfl⟩
  have hba : Below W.heap.size W Wa := by rw [← hWa]; exact (Below.refl _ _).alloc (Nat.le_refl _) _
  have hsa : Wa.heap.size = w.heap.size + 3 := by rw [← hWa]; simp; omega
  have hown0 : Wa.ownsRow W.heap.size 9 1 (.slice (some ⟨W.heap.size, 0, none⟩) 0 0) 0 [] := by rw [← hWa]; exact World.ownsRow_lit W #[] 0 (Nat.le_refl _) (by decide) rfl
  have hka := (hba.block _ (by omega)).trans Hk1.out
  have hka2 := (hba.block _ (by omega)).trans Hk2.out
  have hra := Hr1.out.below (Nat.le_refl _) hba
  have hbda := Hb1.out.below (Nat.le_refl _) hba
  have hm1 : 0 + rcpts.length ≤ maxLen := by show _ ≤ 9223372036854775807; omega
  have hm2 : (0 + rcpts.length) * 16 ≤ 140737488355328 := by omega
  have hbs : W.heap.size ≤ Wa.heap.size := by omega
  have hone := s1_one rcpts
  have ca : Wa.cell? ⟨w.heap.size, 4, none⟩ = some (.slice ar rcpts.length capr) := by rw [cell_of_row _ _ _ _ _ _ hka]; rfl
  have Hka := Lib.hid hka
  have Hka2 := Lib.hid hka2
  have Hra := Lib.hid hra
  have Hbda := Lib.hid hbda
  have Hone := Lib.hid hone
  have Hown0 := Lib.hid hown0
  have Hba := Lib.hid hba
  have HsW := Lib.hid hsW
  have hsz0 : (⟨w.heap.size, 0, none⟩ : Addr) = ⟨w.heap.size, 0, none⟩ := rfl
  clear hka hka2 hra hbda hone hown0 hba
  subst hWa
  subst hW
  have hwsz : ((w.alloc (.cells #[.int .i64 id, .int .i64 parent, .int .i64 born, .string sf, .slice ar rcpts.length capr, .slice ab body.length capb] 29)).alloc (.cells #[.int .i64 0, .int .i64 0, .int .i64 0, .string ⟨#[]⟩, .slice none 0 0, .slice none 0 0] 29)).heap.size = w.heap.size + 2 := by simp
  rw [hwsz] at Hown0 hbs
  go_enter Tryz.func73, Tryz.ntmps73
  go_upto_region 2 with (at_builtin; go_must (refine wpList_append_any s1_len (by decide) rfl (.tmp 3) (.tmp 5) 27 rfl (w.heap.size + 2) 9 i1 (.string ⟨#[]⟩) 16 Tryz.underlying27 hi1 hy0 hy1 hy2 rfl _ _ _ rfl Hown0.out _ rcpts rfl Hra.out hnr Hone.out hm1 hm2 hbs ?_); rintro v2 w2 hown2 hg2 _; rw [Nat.zero_add, List.nil_append] at hown2; obtain ⟨a2, c2, hv2⟩ := own_form0 hown2; subst hv2; have hB2 := (Hba.out).grown hg2 (by rw [hsa, hwsz]; omega) (fun k hk => by cases hk; rw [hwsz]; exact Nat.le_refl _); have hp2 := (hB2.block _ (by rw [hwsz]; omega)).trans Hk1.out; have hq2 := (hB2.block _ (by rw [hwsz]; omega)).trans Hk2.out; have g4 := (cells6 hp2).2.2.2.2.2.1; have a4 := (cells6 hp2).1.2.2.2.2.1)
  have hbel2 : Below w.heap.size w w2 := hbW.trans (hB2.mono (by rw [hwsz]; omega))
  have hbd2 := Hb1.out.below (Nat.le_refl _) hB2
  have hsz2 := hB2.size
  rw [hwsz] at hsz2
  have hv2 := own_base hown2
  have hvl2 := fun k hk => (hown2.lt k hk).2
  clear Hk1 Hk2 Hba Hb1 Hr1 hB2 Hka Hka2 Hra Hbda Hown0 hbs hwsz ca hsa HsW hsW hg2 hm1 hm2 hbW Hone
  obtain ⟨W3, hW3⟩ : ∃ W3, w2.setCell ⟨w.heap.size, 4, none⟩ (.slice a2 rcpts.length c2) = W3 := ⟨_, rfl⟩
  have hK3 : Keeps (fun k => k = w.heap.size) w2 W3 := by rw [← hW3]; exact Keeps.setCell w2 ⟨w.heap.size, 4, none⟩ _ rfl
  have hp3 : W3.heap[w.heap.size]? = some (.cells #[.int .i64 id, .int .i64 parent, .int .i64 born, .string sf, .slice a2 rcpts.length c2, .slice ab body.length capb] 29 (0, 0)) := by rw [← hW3]; exact heap_setCell_same _ _ 4 _ _ _ hp2
  have hq3 := hK3.heap hq2 (by omega)
  have hown3 := own_keeps hown2 hK3 (fun k hk e => by have := hv2 k hk; omega)
  have hbd3 := hbd2.keepsN hK3 (fun hne k hk e => by have := HnoM.out hne k hk; omega)
  have hs3 : W3.heap.size = w2.heap.size := by rw [← hW3]; simp
  have hbel3 : Below w.heap.size w W3 := hbel2.trans (hK3.below (fun k hk => by omega) hbel2.size)
  obtain ⟨Wb, hWb⟩ : ∃ Wb, W3.alloc (.cells #[] 5) = Wb := ⟨_, rfl⟩
  have hbb : Below W3.heap.size W3 Wb := by rw [← hWb]; exact (Below.refl _ _).alloc (Nat.le_refl _) _
  have hsb : Wb.heap.size = w2.heap.size + 1 := by rw [← hWb]; simp [hs3]
  have hownB : Wb.ownsRow w2.heap.size 5 1 (.slice (some ⟨w2.heap.size, 0, none⟩) 0 0) 0 [] := by
    have : (W3.alloc (.cells #[] 5)).ownsRow W3.heap.size 5 1 (.slice (some ⟨W3.heap.size, 0, none⟩) 0 0) 0 [] := World.ownsRow_lit W3 #[] 0 (Nat.le_refl _) (by decide) rfl
    rw [hWb, hs3] at this; exact this
  have hp4 := (hbb.block _ (by omega)).trans hp3
  have hq4 := (hbb.block _ (by omega)).trans hq3
  have hown4 := own_below hown3 hbb (Nat.le_refl _)
  have hbd4 := rdLB (hbd3.below (Nat.le_refl _) hbb)
  have c5 : Wb.cell? ⟨w.heap.size, 5, none⟩ = some (.slice ab body.length capb) := by rw [cell_of_row _ _ _ _ _ _ hp4]; rfl
  have hm1 : 0 + body.length ≤ maxLen := by show _ ≤ 9223372036854775807; omega
  have hm2 : (0 + body.length) * 1 ≤ 140737488355328 := by omega
  have hbs : w2.heap.size ≤ Wb.heap.size := by omega
  have hone := bb1_one body
  have Hone := Lib.hid hone
  have Hbel := Lib.hid (hbel3.trans (hbb.mono hbel3.size))
  have Hp4 := Lib.hid hp4
  have Hq4 := Lib.hid hq4
  have Hown4 := Lib.hid hown4
  have Hvl2 := Lib.hid hvl2
  have Hv2 := Lib.hid hv2
  clear hone hp4 hq4 hown4 hown3 hbd3 hp3 hq3 hK3 hbb hbel3 hvl2 hv2 hbd2 hp2 hq2 hown2 hbel2 hs3 a4 g4
  subst hWb
  subst hW3
  go_wp2_with (at_builtin; go_must (refine wpList_append_any bb1_len (by decide) rfl (.tmp 8) (.tmp 10) 22 rfl w2.heap.size 5 i0 (.int .u8 0) 1 Tryz.underlying22 hi hz0 hz1 hz2 rfl _ _ _ rfl hownB _ body rfl hbd4 hnb Hone.out hm1 hm2 hbs ?_); rintro v5 w5 hown5 hg5 _; rw [Nat.zero_add, List.nil_append] at hown5; obtain ⟨a6, c6, hv6⟩ := own_form0 hown5; subst hv6; have hB5 := ((Below.refl w2.heap.size _)).grown hg5 (by omega) (fun k hk => by cases hk; exact Nat.le_refl _); have hp5 := (hB5.block _ (by omega)).trans Hp4.out; have hq5 := (hB5.block _ (by omega)).trans Hq4.out; obtain ⟨⟨x0, x1, x2, x3, x4, x5⟩, y0, y1, y2, y3, y4, y5⟩ := cells6 hp5; obtain ⟨⟨u0, u1, u2, u3, u4, u5⟩, z0, z1, z2, z3, z4, z5⟩ := cells6 hq5)
  have hown6 := own_keeps Hown4.out (Keeps.grown hg5) (fun k hk e => by have h1 := Hvl2.out _ hk; have h2 : w2.heap.size = k := Option.some.inj e; omega)
  have hbel5 := (Hbel.out).trans (hB5.mono (by omega))
  have hs5 := hB5.size
  have hvb5 := own_base hown5
  have Hp5 := Lib.hid hp5
  have Hq5 := Lib.hid hq5
  have Hown6 := Lib.hid hown6
  have Hown5 := Lib.hid hown5
  have Hvb5 := Lib.hid hvb5
  clear hp5 hq5 hown6 hB5 hg5 hown5 hvb5 Hp4 Hq4 Hown4 hownB hbd4 c5 hm1 hm2 hbs Hbel
  have hK6 : Keeps (fun k => k = w.heap.size ∨ k = w.heap.size + 1) w5 (w5.setCell ⟨w.heap.size, 5, none⟩ (.slice a6 body.length c6)) := Keeps.setCell _ _ _ (.inl rfl)
  have hq6 := (Keeps.setCell (F := fun k => k = w.heap.size) w5 ⟨w.heap.size, 5, none⟩ (.slice a6 body.length c6) rfl).heap Hq5.out (show ¬ (w.heap.size + 1 = w.heap.size) by omega)
  have hB := heap6 ⟨_, _, _, _, _, _, hq6⟩ (.int .i64 id) (.int .i64 parent) (.int .i64 born) (.string sf) (.slice a2 rcpts.length c2) (.slice a6 body.length c6)
  have hst : ∀ (W : World) (j : Nat) (v : Value), Keeps (fun k => k = w.heap.size ∨ k = w.heap.size + 1) W (W.setCell ⟨w.heap.size + 1, j, none⟩ v) := fun W j v => Keeps.setCell _ _ _ (.inr rfl)
  have hKf := (((((hK6.trans (hst _ 0 (.int .i64 id))).trans (hst _ 1 (.int .i64 parent))).trans (hst _ 2 (.int .i64 born))).trans (hst _ 3 (.string sf))).trans (hst _ 4 (.slice a2 rcpts.length c2))).trans (hst _ 5 (.slice a6 body.length c6))
  refine bodyPost_ret (results_row1 rfl _ _ (w.heap.size + 1) 29 _ (0, 0) _ rfl hB Tryz.underlying29 rfl (by kernel_rfl)) rfl ⟨_, _, rfl, own_mono (own_keeps Hown6.out hKf ?_) (by omega), ?_, hbel5.trans (hKf.below (fun k hk => by omega) hbel5.size)⟩
  · intro k hk e; have := Hv2.out k hk; omega
  · have h := own_mono (own_keeps Hown5.out hKf (fun k hk e => by have := Hvb5.out k hk; omega)) (base' := w.heap.size) (by omega)
    rw [bb1_flat] at h
    exact h
end Go.Proofs.YtffnbkmigapmjaaGreatDoor
