/- Printed out of the texts of wip/tpl. -/
import Derived.Test.YtffnbkmigapmjaaGreatDoorT20
import Derived.Test.YtffnbkmigapmjaaGreatDoorT28
set_option linter.unusedSimpArgs false
set_option linter.unusedVariables false
set_option maxRecDepth 100000
namespace Go.Proofs.YtffnbkmigapmjaaGreatDoor
open Go.RowKit Go.Maps
theorem run_slice_suf {P : Program} {t e : TypeId} {s : Nat} (ht : P.underlying t = some (.slice e)) (hi : (P.info? e).map (·.size) = some s) (a : Option Addr) (len cap l : Nat) (hl : l ≤ len) (w : World) :
 (Instr.sliceAt t (.slice a len cap) (some (.int .i64 (l : Int))) none none).run P w = .ok (.slice (if cap = l then a else a.map (·.add (l * s))) (len - l) (cap - l)) w := by
 obtain ⟨i, hi1, hi2⟩ := Option.map_eq_some_iff.1 hi
 simp [Instr.sliceAt, Instr.slice, Instr.sliceBounds, Instr.sliceBound, run_underlying ht, asIntOf, go_sem, hi1, hi2, sizeOf, typeInfo]
 intro h'; omega
theorem RdL.suf {α : Type} {s : Nat} {f : α → List Value} {w : World} {g len cap : Nat} {xs : List α} (h : RdL s f w (.slice (some ⟨g, 0, none⟩) len cap) xs) (l : Nat) (hl : l ≤ xs.length) : RdL s f w (.slice (if cap = l then some ⟨g, 0, none⟩ else some ⟨g, l * s, none⟩) (len - l) (cap - l)) (xs.drop l) := by
 rcases h with ⟨a', c, hv, hc, rfl⟩ | ⟨b, off, cap', hv, hne, h1, h2, h3, h4⟩
 ·cases hv
  have : l = 0 := by simpa using hl
  subst this
  exact .inl ⟨_, _, rfl, by omega, rfl⟩
 ·cases hv
  by_cases e : l = xs.length
  ·subst e
   refine .inl ⟨_, _, by rw [Nat.sub_self], by omega, List.drop_length⟩
  ·have hlt : l < xs.length := by omega
   refine .inr ⟨g, l * s, cap - l, ?_, ?_, ?_, by omega, h3, ?_⟩
   ·rw [if_neg (by omega), List.length_drop]
   ·intro h5; have := congrArg List.length h5; rw [List.length_drop] at this; simp at this; omega
   ·rw [List.length_drop]; omega
   ·intro i x hx j u hu
    rw [List.getElem?_drop] at hx
    have := h4 (l + i) x hx j u hu
    rw [Nat.zero_add] at this
    rw [show l * s + (i * s + j) = (l + i) * s + j by rw [Nat.add_mul]; omega]
    exact this
theorem boxes_one (l : List BoxV) : ∀ c ∈ l.flatMap boxCells, c.oneCell' = true := fun c hc => by
 obtain ⟨b, _, hb⟩ := List.mem_flatMap.1 hc
 exact boxCells_one b c (by rw [List.flatMap_cons, List.flatMap_nil, List.append_nil]; exact hb)
theorem MdlAt.relist {w0 w : World} {mb : Nat} {M M' : ModD} {lv lv' : Value} {bs bs' : List BoxV} {σ : Nat → Prop} (h0 : MdlAt w0 mb M lv bs σ) (hb : Below w0.heap.size w0 w) (hsub : ∀ b ∈ bs', b ∈ bs) (hl : bs'.map (·.d) = M'.list)
 (hlb : M'.last = M.last ∧ M'.bound = M.bound ∧ M'.room = M.room) (hown : w.ownsRow w0.heap.size 80 8 lv' bs'.length (bs'.flatMap boxCells)) :
 ∃ σ', MdlAt (w.setCell ⟨mb, 0, none⟩ lv') mb M' lv' bs' σ' ∧ MdlStep w0 σ (w.setCell ⟨mb, 0, none⟩ lv') σ' := by
 have h := h0.below hb
 have hk : Keeps (fun k => k = mb) w (w.setCell ⟨mb, 0, none⟩ lv') := Keeps.setCell _ _ _ rfl
 have hlt := h0.lt _ h0.smb
 have hn : ∀ k, lv'.ownBlock = some k → w0.heap.size ≤ k ∧ k < w.heap.size := fun k e => hown.lt k e
 refine ⟨fun k => σ k ∨ lv'.ownBlock = some k, ⟨?_, hl, own_mono (own_keeps hown hk (fun k e f => by have := (hn k e).1; omega)) (Nat.zero_le _), fun b hb' => (h.rd b (hsub b hb')).keeps hk (fun k e f => (h.sbx b (hsub b hb') k e).2.1 f), .inl h.smb, fun k e => ⟨.inr e, by have := (hn k e).1; omega⟩, ?_, ?_⟩, ⟨?_, ?_⟩⟩
 ·rw [hlb.1, hlb.2.1, hlb.2.2]
  exact heap_setCell_same _ _ 0 _ _ _ h.hd
 ·intro b hb' k e
  obtain ⟨q1, q2, _⟩ := h.sbx b (hsub b hb') k e
  exact ⟨.inl q1, q2, fun f => by have := h0.lt k q1; have := (hn k f).1; omega⟩
 ·intro k e
  have := hk.size
  have := hb.size
  rcases e with e | e
  ·have := h0.lt k e; omega
  ·have := (hn k e).2; omega
 ·exact (Keeps.ofBelow hb).go hk (fun i e => .inl (by rw [e]; exact h0.smb))
 ·intro k e
  rcases e with e | e
  ·exact .inl e
  ·exact .inr (hn k e).1
theorem step_buildX0 {ops : Array Oper} {o : Oper} {a : Act} {K : Act → World → Prop} {Q : Exit → Act → World → Prop} {E : Prop} {w : World} (hgd : Region.wanted o (yielded ops a.tmps) = true) (ho : o.op = .buildSlice 67 0 #[])
 (h : ∀ g w', w'.ownsRow w.heap.size 80 8 (.slice (some ⟨g, 0, none⟩) 0 0) 0 [] → Below w.heap.size w w' → K (a.put o.dst (.slice (some ⟨g, 0, none⟩) 0 0)) w') :
 if Region.wanted o (yielded ops a.tmps) = true then Oper.wp Tryz.prog o a w K Q else E := by
 rw [if_pos hgd]
 obtain ⟨i0, hi, hz0, hz1, hz2⟩ := info_parts infoBox
 have := h w.heap.size (w.alloc (.cells #[] 80)) (World.ownsRow_lit (base := w.heap.size) (size := 8) (e := 80) w #[] 0 (Nat.le_refl _) (by decide) rfl) ((Below.refl _ _).alloc (Nat.le_refl _) _)
 unfold Oper.wp
 have he : (Array.map (fun x => (default : Value)) (Array.range 0)) = #[] := by kernel_rfl
 simp [execOp, ho, Instr.buildSlice, run_underlying Tryz.underlying67, sizeOf, typeInfo, hi, Instr.fill, newRow, Result.andThen]
 rw [he]
 exact this
theorem erase_at {α : Type} : ∀ (l : List α) (k : Nat), l.eraseIdx k = l.take k ++ l.drop (k + 1)
 | [], k => by simp
 | a :: l, 0 => rfl
 | a :: l, k + 1 => by rw [List.eraseIdx_cons_succ, erase_at l k]; rfl
set_option maxHeartbeats 32000000 in
theorem mDrop_calls {mb : Nat} {M0 : ModD} {lv : Value} {bs : List BoxV} {σ : Nat → Prop} (id : Int) (w : World) (h : MdlAt w mb M0 lv bs σ) (hn : M0.list.length ≤ 200) :
 Calls Tryz.prog 77 #[.pointer (some ⟨mb, 0, none⟩), .int .i64 id] w (ModDone1 w mb σ (M0.drop id)) := by
 obtain ⟨i0, hi, hz0, hz1, hz2⟩ := info_parts infoBox
 have hat := mAt_calls id w h hn
 rcases M0.at_range id with e | ⟨k, b, e, hb, _, _⟩
 ·rw [e] at hat
  have Hr : Hid (M0.drop id = (4, M0)) := Lib.hid (by unfold ModD.drop; rw [e]; rfl)
  have Hat := Lib.hid hat
  have H := Lib.hid h
  clear hat h hn e
  go_enter Tryz.func77, Tryz.ntmps77
  go_wp2_with fail
  refine (Hat.out).mono ?_; rintro e w1 ⟨rfl, hb1⟩
  go_wp2
  go_ret
  rw [Hr.out]
  exact ⟨_, _, _, rfl, H.out.below hb1, MdlStep.below hb1⟩
 ·obtain ⟨g, cl, bv, rfl, hbv, rfl⟩ := h.form hb
  have hlt : k < bs.length := (List.getElem?_eq_some_iff.1 hbv).1
  have hbl : bs.length ≤ 200 := by rw [← List.length_map (f := fun b : BoxV => b.d), h.lst]; exact hn
  rw [e] at hat
  have Hr : Hid (M0.drop id = (0, { M0 with list := M0.list.eraseIdx k })) := Lib.hid (by unfold ModD.drop; rw [e, if_neg (by omega), Int.toNat_natCast])
  have hform := h.rdl.form
  obtain ⟨_, _, hv, hcl1, hcl2⟩ := hform
  cases hv
  have hk0 : (0 : Int) ≤ (k : Int) := by omega
  have hkn : ¬ ((k : Int) < 0) := by omega
  have hk1 : (k : Int) < (bs.length : Int) := by omega
  have hw1 : IntKind.i64.wrap ((k : Int) + 1) = (k : Int) + 1 := IntWalk.i64_in _ (by omega)
  have hi8 : (Tryz.prog.info? 80).map (·.size) = some 8 := by kernel_rfl
  have hs1 : ∀ w, (Instr.sliceAt 67 (.slice (some ⟨g, 0, none⟩) bs.length cl) none (some (.int .i64 (k : Int))) none).run Tryz.prog w = .ok (.slice (some ⟨g, 0, none⟩) k cl) w := fun w => run_slice_pre Tryz.underlying67 hi8 _ _ _ k (by omega) w
  obtain ⟨ad, had⟩ : ∃ ad, (if cl = k + 1 then some (⟨g, 0, none⟩ : Addr) else some ⟨g, (k + 1) * 8, none⟩) = ad := ⟨_, rfl⟩
  obtain ⟨m2, hm2⟩ : ∃ m2, bs.length - (k + 1) = m2 := ⟨_, rfl⟩
  obtain ⟨c2, hc2⟩ : ∃ c2, cl - (k + 1) = c2 := ⟨_, rfl⟩
  have hs2 : ∀ w, (Instr.sliceAt 67 (.slice (some ⟨g, 0, none⟩) bs.length cl) (some (.int .i64 ((k : Int) + 1))) none none).run Tryz.prog w = .ok (.slice ad m2 c2) w := fun w => by
   have := run_slice_suf (P := Tryz.prog) Tryz.underlying67 hi8 (some ⟨g, 0, none⟩) bs.length cl (k + 1) (by omega) w
   rw [hm2, hc2] at this
   have h3 : (if cl = k + 1 then some (⟨g, 0, none⟩ : Addr) else (some (⟨g, 0, none⟩ : Addr)).map (·.add ((k + 1) * 8))) = ad := by
    rw [← had]
    show (if cl = k + 1 then _ else some ((⟨g, 0, none⟩ : Addr).add ((k + 1) * 8))) = _
    rw [add_at, Nat.zero_add]
   rw [h3] at this
   rw [show ((k : Int) + 1) = ((k + 1 : Nat) : Int) by push_cast; rfl]
   exact this
  have hpre : ∀ w1, Below w.heap.size w w1 → RdL 8 boxCells w1 (.slice (some ⟨g, 0, none⟩) k cl) (bs.take k) := fun w1 h1 => (h.below h1).rdl.pre k (by omega)
  have hsuf : ∀ w1, Below w.heap.size w w1 → RdL 8 boxCells w1 (.slice ad m2 c2) (bs.drop (k + 1)) := fun w1 h1 => by
   have := (h.below h1).rdl.suf (k + 1) (by omega)
   rw [had, hm2, hc2] at this; exact this
  have hnil : NilOk (.slice ad m2 c2) := by
   rw [← had]
   intro l c e
   split at e <;> cases e
  have hfin : ∀ (w7 : World) (a7 : Option Addr) (c7 : Nat), Below w.heap.size w w7 → w7.ownsRow w.heap.size 80 8 (.slice a7 ((bs.take k).length + (bs.drop (k + 1)).length) c7) ((bs.take k).length + (bs.drop (k + 1)).length) ((bs.take k).flatMap boxCells ++ (bs.drop (k + 1)).flatMap boxCells) →
   ∃ bs' σ', MdlAt (w7.setCell ⟨mb, 0, none⟩ (.slice a7 ((bs.take k).length + (bs.drop (k + 1)).length) c7)) mb { M0 with list := M0.list.eraseIdx k } (.slice a7 ((bs.take k).length + (bs.drop (k + 1)).length) c7) bs' σ' ∧ MdlStep w σ (w7.setCell ⟨mb, 0, none⟩ (.slice a7 ((bs.take k).length + (bs.drop (k + 1)).length) c7)) σ' := fun w7 a7 c7 h7 o7 => by
   obtain ⟨σ', q⟩ := h.relist (M' := { M0 with list := M0.list.eraseIdx k }) (bs' := bs.take k ++ bs.drop (k + 1)) h7 (fun b hb => by
    rcases List.mem_append.1 hb with hb | hb
    ·exact List.mem_of_mem_take hb
    ·exact List.mem_of_mem_drop hb) (by rw [List.map_append, List.map_take, List.map_drop, h.lst, erase_at]) ⟨rfl, rfl, rfl⟩ (by rw [List.length_append, List.flatMap_append]; exact o7)
   exact ⟨_, σ', q⟩
  have hcell : ∀ w1, Below w.heap.size w w1 → w1.cell? ⟨mb, 0, none⟩ = some (.slice (some ⟨g, 0, none⟩) bs.length cl) ∧ w1.frozen? ⟨mb, 0, none⟩ = false := fun w1 h1 => ⟨(h.below h1).cells.1, (h.below h1).frz 0⟩
  have hy1 : (bs.take k).length ≤ 200 := by rw [List.length_take]; omega
  have hy2 : (bs.drop (k + 1)).length ≤ 200 := by rw [List.length_drop]; omega
  generalize bs.take k = ys1 at hpre hfin hy1
  generalize bs.drop (k + 1) = ys2 at hsuf hfin hy2
  have hq1 : 0 + ys1.length ≤ maxLen := by show _ ≤ 9223372036854775807; omega
  have hq2 : (0 + ys1.length) * 120 ≤ 140737488355328 := by omega
  have hq3 : 0 + ys1.length + ys2.length ≤ maxLen := by show _ ≤ 9223372036854775807; omega
  have hq4 : (0 + ys1.length + ys2.length) * 120 ≤ 140737488355328 := by omega
  obtain ⟨nl, hnl⟩ : ∃ nl, bs.length = nl := ⟨_, rfl⟩
  rw [hnl] at hs1 hs2 hk1 hcell
  have Hat := Lib.hid hat
  have Hpre0 := Lib.hid hpre
  have Hsuf0 := Lib.hid hsuf
  have Hfin0 := Lib.hid hfin
  have Hcell := Lib.hid hcell
  have Hnil := Lib.hid hnil
  have Hc1 := Lib.hid (boxes_one ys1)
  have Hc2 := Lib.hid (boxes_one ys2)
  clear hat hpre hsuf hfin hcell hnil had hm2 hc2 hnl h hn e hb hbv hlt hcl1 hcl2 hbl
  go_enter Tryz.func77, Tryz.ntmps77
  go_wp2_with fail
  refine (Hat.out).mono ?_; rintro e W0 ⟨rfl, hbW⟩
  have Hpre : Hid (∀ w1, Below W0.heap.size W0 w1 → RdL 8 boxCells w1 (.slice (some ⟨g, 0, none⟩) k cl) ys1) := Lib.hid (fun w1 h1 => Hpre0.out w1 (hbW.trans (h1.mono hbW.size)))
  have Hsuf : Hid (∀ w1, Below W0.heap.size W0 w1 → RdL 8 boxCells w1 (.slice ad m2 c2) ys2) := Lib.hid (fun w1 h1 => Hsuf0.out w1 (hbW.trans (h1.mono hbW.size)))
  have Hs : Hid (∀ w1, Below W0.heap.size W0 w1 → (fun w' => w'.cell? ⟨mb, 0, none⟩ = some (.slice (some ⟨g, 0, none⟩) nl cl)) w1) := Lib.hid (fun w1 h1 => (Hcell.out w1 (hbW.trans (h1.mono hbW.size))).1)
  have Hfz : Hid (∀ w1, Below W0.heap.size W0 w1 → w1.frozen? ⟨mb, 0, none⟩ = false) := Lib.hid (fun w1 h1 => (Hcell.out w1 (hbW.trans (h1.mono hbW.size))).2)
  have Hfin : Hid (∀ (w7 : World) (a7 : Option Addr) (c7 : Nat), Below W0.heap.size W0 w7 → w7.ownsRow W0.heap.size 80 8 (.slice a7 (ys1.length + ys2.length) c7) (ys1.length + ys2.length) (ys1.flatMap boxCells ++ ys2.flatMap boxCells) →
   ∃ bs' σ', MdlAt (w7.setCell ⟨mb, 0, none⟩ (.slice a7 (ys1.length + ys2.length) c7)) mb { M0 with list := M0.list.eraseIdx k } (.slice a7 (ys1.length + ys2.length) c7) bs' σ' ∧ MdlStep w σ (w7.setCell ⟨mb, 0, none⟩ (.slice a7 (ys1.length + ys2.length) c7)) σ') := Lib.hid (fun w7 a7 c7 h7 o7 => Hfin0.out w7 a7 c7 (hbW.trans (h7.mono hbW.size)) (own_mono o7 hbW.size))
  have hd0 : Below W0.heap.size W0 W0.drew := (Below.refl _ _).drew
  have hHeld := Hs.out _ hd0
  have HS := Lib.hid hHeld
  clear hbW
  go_upto_region 4 with fail
  refine wp_region_noPanic ?_
  refine wp_region_gate (S := (fun w' => w'.cell? ⟨mb, 0, none⟩ = some (.slice (some ⟨g, 0, none⟩) nl cl))) (z := 19) (by kernel_rfl) ?_
  refine tkQ 0 ?_
  refine tkQ 2 ?_
  refine tkQ 3 ?_
  refine tkQ 4 ?_
  refine tkQ 5 ?_
  refine tkQ 6 ?_
  refine tkQ 7 ?_
  refine tkQ 9 ?_
  refine tkQ 10 ?_
  refine tkQ 11 ?_
  refine tkQ 12 ?_
  refine tkQ 13 ?_
  refine tkQ 14 ?_
  refine tkQ 15 ?_
  refine rdG 1 fun K hK => ?_
  refine step_buildX0 (by first | rfl | kernel_rfl) (by rfl) ?_; rintro g0 x1 hr1 hd1; have hb1 := hd0.trans (hd1.mono hd0.size); have hr1 := own_mono hr1 (base' := W0.heap.size) hd0.size
  refine hK.out _ _ (by (try dsimp only); first | with_reducible exact HS.out | exact Hs.out _ (by with_reducible assumption)) (fun hHeld => ?_)
  clear hK K
  try simp only [Act.put, qA, qB, qC]
  refine rdG 8 fun K hK => ?_
  have hsrc2 := Hpre.out _ hb1; refine step_append_w boxCells_len (by decide) (by first | rfl | kernel_rfl) (.tmp 12) (.tmp 18) 67 (by rfl) W0.heap.size 80 i0 _ 120 Tryz.underlying67 hi hz0 hz1 hz2 rfl _ _ _ (by rfl) hr1 _ ys1 (by rfl) hsrc2 (by intro _ _ e; cases e) Hc1.out hq1 hq2 hb1.size ?_; rintro v2 x2 hr2 hg2 hn2; have hb2 := hb1.grown hg2 hb1.size (fun j hj => own_base hr1 j hj)
  refine hK.out _ _ (by (try dsimp only); first | with_reducible exact HS.out | exact Hs.out _ (by with_reducible assumption)) (fun hHeld => ?_)
  clear hK K
  try simp only [Act.put, qA, qB, qC]
  refine rdG 16 fun K hK => ?_
  have hsrc3 := Hsuf.out _ hb2; refine step_append_w boxCells_len (by decide) (by first | rfl | kernel_rfl) (.tmp 19) (.tmp 26) 67 (by rfl) W0.heap.size 80 i0 _ 120 Tryz.underlying67 hi hz0 hz1 hz2 rfl _ _ _ (by rfl) hr2 _ ys2 (by rfl) hsrc3 Hnil.out Hc2.out hq3 hq4 hb2.size ?_; rintro v3 x3 hr3 hg3 hn3; have hb3 := hb2.grown hg3 hb2.size (fun j hj => own_base hr2 j hj)
  refine hK.out _ _ (by (try dsimp only); first | with_reducible exact HS.out | exact Hs.out _ (by with_reducible assumption)) (fun hHeld => ?_)
  clear hK K
  try simp only [Act.put, qA, qB, qC]
  refine tkQ 17 ?_
  refine tkQ 18 ?_
  refine rdZ fun K hK => ?_
  have hrow := hr3; rw [Nat.zero_add, List.nil_append] at hrow; obtain ⟨a7, c7, hv7⟩ := own_form0 hrow; subst hv7; have f7 := Hfz.out _ hb3; have z7 := hHeld; go_simp
  refine hK.out _ _ ?_
  clear hK K
  try simp only [Act.put, qA, qB, qC]
  refine wpAnyG_done (by kernel_rfl) ?_ _
  refine NoPanic.normal ?_
  go_wp2
  go_ret
  obtain ⟨bs', σ', q1, q2⟩ := Hfin.out _ _ _ hb3 hrow
  rw [Hr.out]
  exact ⟨_, bs', σ', rfl, q1, q2⟩
set_option maxHeartbeats 32000000 in
theorem mBounce_calls {mb : Nat} {M0 : ModD} {lv : Value} {bs : List BoxV} {σ : Nat → Prop} (m : MailD) (vr vb : Value) (w : World) (h : MdlAt w mb M0 lv bs σ) (hok : ModOk M0) (h199 : M0.list.length ≤ 199) (ha : MdlArg w σ m vr vb) (hpa : -9223372036854775808 ≤ m.parent ∧ m.parent ≤ 9223372036854775807) :
 Calls Tryz.prog 74 #[.pointer (some ⟨mb, 0, none⟩), mailVal m vr vb] w (ModDone2 w mb σ (M0.bounce m)) := by
 obtain ⟨ar, capr, rfl, hlr, hcr⟩ := ha.r.form
 obtain ⟨ab, capb, rfl, hlb, hcb⟩ := ha.b.form
 obtain ⟨mid, parent, born, frm, rcpts, body⟩ := m
 dsimp only at hlr hlb hpa
 obtain ⟨tf, htf⟩ : ∃ tf, strL frm = tf := ⟨_, rfl⟩
 obtain ⟨n1, hn1⟩ : ∃ n1, rcpts.length = n1 := ⟨_, rfl⟩
 obtain ⟨n2, hn2⟩ : ∃ n2, body.length = n2 := ⟨_, rfl⟩
 obtain ⟨K0, hK0⟩ : ∃ K0, w.heap.size = K0 := ⟨_, rfl⟩
 obtain ⟨W, hW⟩ : ∃ W, w.alloc (.cells #[.int .i64 mid, .int .i64 parent, .int .i64 born, .string tf, .slice ar n1 capr, .slice ab n2 capb] 29) = W := ⟨_, rfl⟩
 have hbW : Below w.heap.size w W := by rw [← hW]; exact (Below.refl _ _).alloc (Nat.le_refl _) _
 have hM : W.heap[K0]? = some (.cells #[.int .i64 mid, .int .i64 parent, .int .i64 born, .string tf, .slice ar n1 capr, .slice ab n2 capb] 29 (0, 0)) := by rw [← hW, ← hK0]; exact heap_alloc_new w _
 have hnK : ¬ σ K0 := fun e => by have := h.lt _ e; omega
 have hP : AddP w mb K0 M0 lv bs σ #[.int .i64 mid, .int .i64 parent, .int .i64 born, .string tf, .slice ar n1 capr, .slice ab n2 capb] ⟨mid, parent, born, frm, rcpts, body⟩ (.slice ar rcpts.length capr) (.slice ab body.length capb) W :=
  ⟨h.below hbW, MdlStep.below hbW, hM, ha.r.below (Nat.le_refl _) hbW, ha.b.below (Nat.le_refl _) hbW, fun k e => by
   rcases e with e | e
   ·exact ⟨by have := (ha.or k e).1; omega, (ha.or k e).2⟩
   ·exact ⟨by have := (ha.ob k e).1; omega, (ha.ob k e).2⟩⟩
 have hcs : ∀ w1, Below W.heap.size W w1 → w1.cell? ⟨K0, 0, none⟩ = some (.int .i64 mid) ∧ w1.cell? ⟨K0, 1, none⟩ = some (.int .i64 parent) ∧ w1.cell? ⟨K0, 2, none⟩ = some (.int .i64 born) ∧ w1.cell? ⟨K0, 3, none⟩ = some (.string tf) ∧ w1.cell? ⟨K0, 4, none⟩ = some (.slice ar n1 capr) ∧ w1.cell? ⟨K0, 5, none⟩ = some (.slice ab n2 capb) := fun w1 h1 => by
  have hb := (hP.below h1).box
  exact ⟨by rw [cell_of_row _ _ _ _ _ _ hb]; rfl, by rw [cell_of_row _ _ _ _ _ _ hb]; rfl, by rw [cell_of_row _ _ _ _ _ _ hb]; rfl, by rw [cell_of_row _ _ _ _ _ _ hb]; rfl, by rw [cell_of_row _ _ _ _ _ _ hb]; rfl, by rw [cell_of_row _ _ _ _ _ _ hb]; rfl⟩
 obtain ⟨gd, hgd⟩ : ∃ gd, goodM ⟨mid, parent, born, frm, rcpts, body⟩ = gd := ⟨_, rfl⟩
 have hat := mAt_calls parent W hP.at_ hok.n
 have hgc : ∀ w1, Below W.heap.size W w1 → Calls Tryz.prog 38 #[.agg #[.int .i64 999999999, .int .i64 parent, .int .i64 born, .string tf, .slice ar n1 capr, .slice ab n2 capb]] w1 fun e w' => e = .returned (.bool gd) ∧ Below w1.heap.size w1 w' := fun w1 h1 => by
  have := refGood_calls ⟨999999999, parent, born, frm, rcpts, body⟩ (.slice ar rcpts.length capr) (.slice ab body.length capb) w1 (hP.below h1).r (hP.below h1).b ha.sm.2 ha.sm.1
  unfold mailVal at this
  dsimp only at this
  rw [htf, hn1, hn2, show MailD.good ⟨999999999, parent, born, frm, rcpts, body⟩ = gd from hgd] at this
  exact this
 have hadd : ∀ w1, Below W.heap.size W w1 → gd = true → parent ≤ M0.last → Calls Tryz.prog 83 #[.pointer (some ⟨mb, 0, none⟩), .agg #[.int .i64 mid, .int .i64 parent, .int .i64 born, .string tf, .slice ar n1 capr, .slice ab n2 capb]] w1 (ModDone2 w1 mb σ (M0.add ⟨mid, parent, born, frm, rcpts, body⟩)) := fun w1 h1 hg hp => by
  have h2 := hP.below h1
  have := mAdd_calls ⟨mid, parent, born, frm, rcpts, body⟩ (.slice ar rcpts.length capr) (.slice ab body.length capb) w1 h2.at_ hok (h2.arg ha.nr ha.nb ha.sm) (good_at (m := ⟨mid, parent, born, frm, rcpts, body⟩) (hgd.trans hg) (by dsimp only; omega) (by have := hok.last; omega))
  unfold mailVal at this
  dsimp only at this
  rw [htf, hn1, hn2] at this
  exact this
 have hbc : M0.bounce ⟨mid, parent, born, frm, rcpts, body⟩ = if gd = true ∧ ¬ M0.at parent < 0 ∧ M0.qAt parent ≠ 104 then (if (M0.add ⟨mid, parent, born, frm, rcpts, body⟩).2.1 = 0 then ((M0.add ⟨mid, parent, born, frm, rcpts, body⟩).1, 0, ((M0.add ⟨mid, parent, born, frm, rcpts, body⟩).2.2.drop parent).2) else (0, (M0.add ⟨mid, parent, born, frm, rcpts, body⟩).2.1, (M0.add ⟨mid, parent, born, frm, rcpts, body⟩).2.2)) else (0, 1, M0) := by unfold ModD.bounce; rw [hgd]
 have hal : (M0.add ⟨mid, parent, born, frm, rcpts, body⟩).2.2.list.length ≤ 200 := by
  unfold ModD.add
  split
  ·exact Nat.le_trans h199 (by decide)
  ·show (M0.list ++ [_]).length ≤ 200
   rw [List.length_append, List.length_singleton]; omega
 unfold mailVal
 dsimp only
 rw [htf, hn1, hn2]
 have Hgc := Lib.hid hgc
 have Hadd := Lib.hid hadd
 have Hbc := Lib.hid hbc
 have HP := Lib.hid (And.intro hP (And.intro hok hal))
 have Hcs := Lib.hid hcs
 have Hat := Lib.hid hat
 have hbs := h.lst
 have Hbs := Lib.hid hbs
 have hform : ∀ k b, M0.list[k]? = some b → ∃ (g cl : Nat) (bv : BoxV), lv = .slice (some ⟨g, 0, none⟩) bs.length cl ∧ bs[k]? = some bv ∧ bv.d = b := fun k b hb => h.form hb
 have Hform := Lib.hid hform
 have HnK := Lib.hid hnK
 obtain ⟨e0, e1, e2, e3, e4, e5⟩ := hcs W (Below.refl _ _)
 clear hgc hadd hbc hcs hP hgd htf hn1 hn2 h hok ha hM hbW hnK hat hal hbs hform
 have hstep : ∀ w1, Below W.heap.size W w1 → ∀ X : Nat, w1.heap.size = X → ∀ w2, w1.alloc (.cells #[.int .i64 mid, .int .i64 parent, .int .i64 born, .string tf, .slice ar n1 capr, .slice ab n2 capb] 29) = w2 → ∀ w3, w2.setCell ⟨X, 0, none⟩ (.int .i64 999999999) = w3 →
  Below W.heap.size W w3 ∧ w2.cell? ⟨X, 0, none⟩ = some (.int .i64 mid) ∧ w2.frozen? ⟨X, 0, none⟩ = false ∧ w3.cell? ⟨X, 0, none⟩ = some (.int .i64 999999999) ∧ w3.cell? ⟨X, 1, none⟩ = some (.int .i64 parent) ∧ w3.cell? ⟨X, 2, none⟩ = some (.int .i64 born) ∧ w3.cell? ⟨X, 3, none⟩ = some (.string tf) ∧ w3.cell? ⟨X, 4, none⟩ = some (.slice ar n1 capr) ∧ w3.cell? ⟨X, 5, none⟩ = some (.slice ab n2 capb) := by
  rintro w1 h1 X rfl w2 rfl w3 rfl
  have hx : (w1.alloc (.cells #[.int .i64 mid, .int .i64 parent, .int .i64 born, .string tf, .slice ar n1 capr, .slice ab n2 capb] 29)).heap[w1.heap.size]? = some (.cells #[.int .i64 mid, .int .i64 parent, .int .i64 born, .string tf, .slice ar n1 capr, .slice ab n2 capb] 29 (0, 0)) := heap_alloc_new w1 _
  have hb2 : Below W.heap.size W (w1.alloc (.cells #[.int .i64 mid, .int .i64 parent, .int .i64 born, .string tf, .slice ar n1 capr, .slice ab n2 capb] 29)) := h1.alloc h1.size _
  have hk : Keeps (fun k => k = w1.heap.size) _ _ := Keeps.setCell (w1.alloc (.cells #[.int .i64 mid, .int .i64 parent, .int .i64 born, .string tf, .slice ar n1 capr, .slice ab n2 capb] 29)) ⟨w1.heap.size, 0, none⟩ (.int .i64 999999999) rfl
  have hx3 := heap_setCell_same _ _ 0 _ _ (.int .i64 999999999) hx
  refine ⟨hb2.trans (hk.below (fun i e => by rw [e]; exact h1.size) hb2.size), by rw [cell_of_row _ _ _ _ _ _ hx]; rfl, frozen_of_row _ _ _ _ _ hx, by rw [cell_of_row _ _ _ _ _ _ hx3]; rfl, by rw [cell_of_row _ _ _ _ _ _ hx3]; rfl, by rw [cell_of_row _ _ _ _ _ _ hx3]; rfl, by rw [cell_of_row _ _ _ _ _ _ hx3]; rfl, by rw [cell_of_row _ _ _ _ _ _ hx3]; rfl, by rw [cell_of_row _ _ _ _ _ _ hx3]; rfl⟩
 have Hstep := Lib.hid hstep
 clear hstep
 go_enter Tryz.func74, Tryz.ntmps74
 go_wp2_with fail
 try rw [hW]
 refine (Hat.out).mono ?_; rintro e w1 ⟨rfl, hb1⟩
 obtain ⟨X, hX⟩ : ∃ X, w1.heap.size = X := ⟨_, rfl⟩
 obtain ⟨w2, hw2⟩ : ∃ w2, w1.alloc (.cells #[.int .i64 mid, .int .i64 parent, .int .i64 born, .string tf, .slice ar n1 capr, .slice ab n2 capb] 29) = w2 := ⟨_, rfl⟩
 obtain ⟨w3, hw3⟩ : ∃ w3, w2.setCell ⟨X, 0, none⟩ (.int .i64 999999999) = w3 := ⟨_, rfl⟩
 obtain ⟨hb3, z0, zf, y0, y1, y2, y3, y4, y5⟩ := Hstep.out w1 hb1 X hX w2 hw2 w3 hw3
 clear e0 e1 e2 e3 e4 e5
 obtain ⟨e0, e1, e2, e3, e4, e5⟩ := Hcs.out w1 hb1
 have Hg3 := Lib.hid (Hgc.out w3 hb3)
 have Hb3 := Lib.hid hb3
 obtain ⟨at0, hat0⟩ : ∃ at0, M0.at parent = at0 := ⟨_, rfl⟩
 have Hat0 := Lib.hid hat0
 rw [hat0]
 clear hb3 hb1 hat0
 go_wp2_with fail
 try rw [hw2]
 try rw [hw3]
 refine (Hg3.out).mono ?_; rintro e w4 ⟨rfl, hb4⟩
 have Hb4 := Lib.hid (Hb3.out.trans (hb4.mono Hb3.out.size))
 clear hb4 e0 e1 e2 e3 e4 e5 z0 zf y0 y1 y2 y3 y4 y5 hw2 hw3 hX
 cases gd with
 | false =>
  have Hr : Hid (M0.bounce ⟨mid, parent, born, frm, rcpts, body⟩ = (0, 1, M0)) := Lib.hid (by rw [Hbc.out, if_neg (fun e => by cases e.1)])
  go_wp2
  go_ret2
  have h5 := HP.out.1.below Hb4.out
  rw [Hr.out]
  exact ⟨_, _, _, rfl, h5.at_, h5.step⟩
 | true =>
  rcases M0.at_range parent with e | ⟨k, b, e, hb, hid, hq99⟩
  ·have Hr : Hid (M0.bounce ⟨mid, parent, born, frm, rcpts, body⟩ = (0, 1, M0)) := Lib.hid (by rw [Hbc.out, if_neg (fun f => by have := f.2.1; omega)])
   have hneg : at0 < 0 := by rw [← Hat0.out, e]; decide
   clear e
   go_wp2
   go_ret2
   have h5 := HP.out.1.below Hb4.out
   rw [Hr.out]
   exact ⟨_, _, _, rfl, h5.at_, h5.step⟩
  ·have hat1 : at0 = (k : Int) := by rw [← Hat0.out, e]
   subst hat1
   obtain ⟨g, cl, bv, hlv, hbv, hbd⟩ := Hform.out k b hb
   subst hlv
   subst hbd
   have hlt : k < bs.length := (List.getElem?_eq_some_iff.1 hbv).1
   have hk0 : (0 : Int) ≤ (k : Int) := by omega
   have hkn : ¬ ((k : Int) < 0) := by omega
   have hk1 : (k : Int) < (bs.length : Int) := by omega
   have hqa : M0.qAt parent = bv.d.q := by unfold ModD.qAt; rw [e, Int.toNat_natCast, hb]; rfl
   have h5 := HP.out.1.below Hb4.out
   have c0 := h5.at_.cells.1
   obtain ⟨_, _, _, hs, _, h3⟩ := RdL.at h5.at_.rdl hbv
   cases hs
   have c6 := h3 6 _ rfl
   rw [Nat.zero_add] at c6
   obtain ⟨q, hq⟩ : ∃ q, bv.d.q = q := ⟨_, rfl⟩
   obtain ⟨qn, hqn⟩ : ∃ qn : Nat, q.toNat = qn := ⟨_, rfl⟩
   rw [hq, hqn] at c6
   rw [hq] at hqa
   have hpl : parent ≤ M0.last := by
    have := HP.out.2.1.id _ (List.mem_of_getElem? hb)
    rw [hid] at this; exact this.2
   obtain ⟨e0, e1, e2, e3, e4, e5⟩ := Hcs.out w4 Hb4.out
   by_cases h104 : (qn : Int) = 104
   ·have hq104 : q = 104 := UInt8.toNat_inj.1 (show q.toNat = 104 by omega)
    have Hr : Hid (M0.bounce ⟨mid, parent, born, frm, rcpts, body⟩ = (0, 1, M0)) := Lib.hid (by rw [Hbc.out, if_neg (fun f => f.2.2 (by rw [hqa, hq104]))])
    have H5 := Lib.hid h5
    clear h5 h3 hb hbv hid hqa hq hqn e hlt hq99
    go_wp2
    go_ret2
    rw [Hr.out]
    exact ⟨_, _, _, rfl, H5.out.at_, H5.out.step⟩
   ·have h104' : ((qn : Int) == 104) = false := by rw [beq_eq_false_iff_ne]; exact h104
    have hq104 : q ≠ 104 := fun f => h104 (by rw [← hqn, f]; rfl)
    have Hr0 : Hid (M0.bounce ⟨mid, parent, born, frm, rcpts, body⟩ = if (M0.add ⟨mid, parent, born, frm, rcpts, body⟩).2.1 = 0 then ((M0.add ⟨mid, parent, born, frm, rcpts, body⟩).1, 0, ((M0.add ⟨mid, parent, born, frm, rcpts, body⟩).2.2.drop parent).2) else (0, (M0.add ⟨mid, parent, born, frm, rcpts, body⟩).2.1, (M0.add ⟨mid, parent, born, frm, rcpts, body⟩).2.2)) := Lib.hid (by rw [Hbc.out, if_pos ⟨rfl, by rw [e]; omega, by rw [hqa]; exact hq104⟩])
    have Ha := Lib.hid (Hadd.out w4 Hb4.out rfl hpl)
    have H5 := Lib.hid h5
    have Hl := Lib.hid HP.out.2.2
    clear h5 h3 hb hbv hid hqa hq hqn e hlt hq99 hpl hq104
    generalize M0.add ⟨mid, parent, born, frm, rcpts, body⟩ = r at Ha Hr0 Hl
    obtain ⟨r1, r2, r3⟩ := r
    dsimp only at Ha Hr0 Hl
    go_wp2_with fail
    refine (Ha.out).mono ?_; rintro e w5 ⟨lv5, bs5, σ5, rfl, hA5, hT5⟩
    have hT5' := H5.out.step.trans hT5
    have hbx : w5.heap[K0]? = _ := hT5.keeps.heap H5.out.box (fun f => HnK.out f)
    have d1 : w5.cell? ⟨K0, 1, none⟩ = some (.int .i64 parent) := by rw [cell_of_row _ _ _ _ _ _ hbx]; rfl
    have H6 := Lib.hid (And.intro hA5 hT5')
    clear hA5 hT5 hT5' hbx e0 e1 e2 e3 e4 e5 c0 c6
    by_cases h0 : r2 = 0
    ·subst h0
     have Hr : Hid (M0.bounce ⟨mid, parent, born, frm, rcpts, body⟩ = (r1, 0, (r3.drop parent).2)) := Lib.hid (by rw [Hr0.out, if_pos rfl])
     have Hd := Lib.hid (mDrop_calls parent w5 H6.out.1 Hl.out)
     go_wp2_with fail
     refine (Hd.out).mono ?_; rintro e w6 ⟨lv6, bs6, σ6, rfl, hA6, hT6⟩
     have H7 := Lib.hid (And.intro hA6 (H6.out.2.trans hT6))
     generalize (r3.drop parent).2 = r4 at H7 Hr
     clear hA6 hT6
     go_wp2
     go_ret2
     rw [Hr.out]
     exact ⟨_, _, _, by first | exact rfl | exact trivial, H7.out.1, H7.out.2⟩
    ·have Hr : Hid (M0.bounce ⟨mid, parent, born, frm, rcpts, body⟩ = (0, r2, r3)) := Lib.hid (by rw [Hr0.out, if_neg h0])
     have h0' : (r2 != 0) = true := by simpa using h0
     clear h0
     go_wp2
     go_ret2
     rw [Hr.out]
     exact ⟨_, _, _, by first | exact rfl | exact trivial, H6.out.1, H6.out.2⟩
end Go.Proofs.YtffnbkmigapmjaaGreatDoor
