/- Printed out of the texts of wip/tpl. -/
import Derived.Test.YtffnbkmigapmjaaGreatDoorT6
import Derived.Test.YtffnbkmigapmjaaGreatDoorT25
import Derived.Test.YtffnbkmigapmjaaGreatDoorT26
import Derived.Great.BuildSlice
set_option linter.unusedSimpArgs false
set_option linter.unusedVariables false
set_option maxRecDepth 100000
namespace Go.Proofs.YtffnbkmigapmjaaGreatDoor
open Go.RowKit Go.Maps
def ModDone2 (w : World) (mb : Nat) (σ : Nat → Prop) (r : Int × Int × ModD) (e : Ending) (w' : World) : Prop :=
 ∃ lv' bs' σ', e = .returned (.tuple #[.int .i64 r.1, .int .i64 r.2.1]) ∧ MdlAt w' mb r.2.2 lv' bs' σ' ∧ MdlStep w σ w' σ'
def ModDone1 (w : World) (mb : Nat) (σ : Nat → Prop) (r : Int × ModD) (e : Ending) (w' : World) : Prop :=
 ∃ lv' bs' σ', e = .returned (.int .i64 r.1) ∧ MdlAt w' mb r.2 lv' bs' σ' ∧ MdlStep w σ w' σ'
theorem AddP.arg {w0 w : World} {mb K0 : Nat} {M : ModD} {lv : Value} {bs : List BoxV} {σ : Nat → Prop} {m : MailD} {vr vb : Value} {cs : Array Value} (h : AddP w0 mb K0 M lv bs σ cs m vr vb w) (hr : NilOk vr) (hb : NilOk vb) (hs : m.lens) : MdlArg w σ m vr vb := by
 have hK := (Array.getElem?_eq_some_iff.1 h.box).1
 exact ⟨h.r, h.b, hr, hb, fun k e => ⟨by have := (h.own k (.inl e)).1; omega, (h.own k (.inl e)).2⟩, fun k e => ⟨by have := (h.own k (.inr e)).1; omega, (h.own k (.inr e)).2⟩, hs⟩
set_option maxHeartbeats 16000000 in
theorem mCommit_calls {mb : Nat} {M0 : ModD} {lv : Value} {bs : List BoxV} {σ : Nat → Prop} (m : MailD) (vr vb : Value) (w : World) (h : MdlAt w mb M0 lv bs σ) (hok : ModOk M0) (ha : MdlArg w σ m vr vb) :
 Calls Tryz.prog 39 #[.pointer (some ⟨mb, 0, none⟩), mailVal m vr vb] w (ModDone2 w mb σ (M0.commit m)) := by
 obtain ⟨ar, capr, rfl, hlr, hcr⟩ := ha.r.form
 obtain ⟨ab, capb, rfl, hlb, hcb⟩ := ha.b.form
 obtain ⟨mid, parent, born, frm, rcpts, body⟩ := m
 dsimp only at hlr hlb
 obtain ⟨tf, htf⟩ : ∃ tf, strL frm = tf := ⟨_, rfl⟩
 obtain ⟨n1, hn1⟩ : ∃ n1, rcpts.length = n1 := ⟨_, rfl⟩
 obtain ⟨n2, hn2⟩ : ∃ n2, body.length = n2 := ⟨_, rfl⟩
 obtain ⟨K0, hK0⟩ : ∃ K0, w.heap.size = K0 := ⟨_, rfl⟩
 obtain ⟨W, hW⟩ : ∃ W, w.alloc (.cells #[.int .i64 mid, .int .i64 parent, .int .i64 born, .string tf, .slice ar n1 capr, .slice ab n2 capb] 29) = W := ⟨_, rfl⟩
 have hbW : Below w.heap.size w W := by rw [← hW]; exact (Below.refl _ _).alloc (Nat.le_refl _) _
 have hM : W.heap[K0]? = some (.cells #[.int .i64 mid, .int .i64 parent, .int .i64 born, .string tf, .slice ar n1 capr, .slice ab n2 capb] 29 (0, 0)) := by rw [← hW, ← hK0]; exact heap_alloc_new w _
 have hnK : ¬ σ K0 := fun e => by have := h.lt _ e; omega
 have hP : AddP w mb K0 M0 lv bs σ #[.int .i64 mid, .int .i64 parent, .int .i64 born, .string tf, .slice ar n1 capr, .slice ab n2 capb] ⟨mid, parent, born, frm, rcpts, body⟩ (.slice ar rcpts.length capr) (.slice ab body.length capb) W :=
  ⟨h.below hbW, MdlStep.below hbW, hM, ha.r.below (Nat.le_refl _) hbW, ha.b.below (Nat.le_refl _) hbW, fun k e => by
   rcases e with e | e
   ·exact ⟨by have := (ha.or k e).1; omega, (ha.or k e).2⟩
   ·exact ⟨by have := (ha.ob k e).1; omega, (ha.ob k e).2⟩⟩
 obtain ⟨W2, hW2⟩ : ∃ W2, W.setCell ⟨K0, 0, none⟩ (.int .i64 999999999) = W2 := ⟨_, rfl⟩
 have hP2 := hP.num hnK (by omega) (.int .i64 999999999)
 rw [hW2] at hP2
 have x0 : W.cell? ⟨K0, 0, none⟩ = some (.int .i64 mid) := by rw [cell_of_row _ _ _ _ _ _ hM]; rfl
 have y0 : W.frozen? ⟨K0, 0, none⟩ = false := frozen_of_row _ _ _ _ _ hM
 have hcs : ∀ w1, Below W2.heap.size W2 w1 → w1.cell? ⟨K0, 0, none⟩ = some (.int .i64 999999999) ∧ w1.cell? ⟨K0, 1, none⟩ = some (.int .i64 parent) ∧ w1.cell? ⟨K0, 2, none⟩ = some (.int .i64 born) ∧ w1.cell? ⟨K0, 3, none⟩ = some (.string tf) ∧ w1.cell? ⟨K0, 4, none⟩ = some (.slice ar n1 capr) ∧ w1.cell? ⟨K0, 5, none⟩ = some (.slice ab n2 capb) := fun w1 h1 => by
  have hb := (hP2.below h1).box
  exact ⟨by rw [cell_of_row _ _ _ _ _ _ hb]; rfl, by rw [cell_of_row _ _ _ _ _ _ hb]; rfl, by rw [cell_of_row _ _ _ _ _ _ hb]; rfl, by rw [cell_of_row _ _ _ _ _ _ hb]; rfl, by rw [cell_of_row _ _ _ _ _ _ hb]; rfl, by rw [cell_of_row _ _ _ _ _ _ hb]; rfl⟩
 obtain ⟨gd, hgd⟩ : ∃ gd, goodM ⟨mid, parent, born, frm, rcpts, body⟩ = gd := ⟨_, rfl⟩
 have hgc : Calls Tryz.prog 38 #[.agg #[.int .i64 999999999, .int .i64 parent, .int .i64 born, .string tf, .slice ar n1 capr, .slice ab n2 capb]] W2 fun e w' => e = .returned (.bool gd) ∧ Below W2.heap.size W2 w' := by
  have := refGood_calls ⟨999999999, parent, born, frm, rcpts, body⟩ (.slice ar rcpts.length capr) (.slice ab body.length capb) W2 hP2.r hP2.b ha.sm.2 ha.sm.1
  unfold mailVal at this
  dsimp only at this
  rw [htf, hn1, hn2, show MailD.good ⟨999999999, parent, born, frm, rcpts, body⟩ = gd from hgd] at this
  exact this
 have hadd : ∀ w1, Below W2.heap.size W2 w1 → gd = true → parent = 0 → Calls Tryz.prog 83 #[.pointer (some ⟨mb, 0, none⟩), .agg #[.int .i64 999999999, .int .i64 parent, .int .i64 born, .string tf, .slice ar n1 capr, .slice ab n2 capb]] w1 (ModDone2 w1 mb σ (M0.add ⟨mid, parent, born, frm, rcpts, body⟩)) := fun w1 h1 hg hp => by
  have h2 := hP2.below h1
  have hargs : MdlArg w1 σ ⟨999999999, parent, born, frm, rcpts, body⟩ (.slice ar rcpts.length capr) (.slice ab body.length capb) := by
   have := h2.arg ha.nr ha.nb ha.sm
   exact ⟨this.r, this.b, this.nr, this.nb, this.or, this.ob, this.sm⟩
  have := mAdd_calls ⟨999999999, parent, born, frm, rcpts, body⟩ (.slice ar rcpts.length capr) (.slice ab body.length capb) w1 h2.at_ hok hargs (good_at (m := ⟨mid, parent, born, frm, rcpts, body⟩) (hgd.trans hg) (by dsimp only; have := hok.last.1; omega) (by have := hok.last; omega))
  unfold mailVal at this
  dsimp only at this
  rw [htf, hn1, hn2] at this
  exact this
 have hcm : M0.commit ⟨mid, parent, born, frm, rcpts, body⟩ = if gd = true ∧ parent = 0 then M0.add ⟨mid, parent, born, frm, rcpts, body⟩ else (0, 1, M0) := by unfold ModD.commit; rw [hgd]
 unfold mailVal
 dsimp only
 rw [htf, hn1, hn2]
 have Hgc := Lib.hid hgc
 have Hadd := Lib.hid hadd
 have Hcm := Lib.hid hcm
 have Hp2 := Lib.hid hP2
 have Hcs := Lib.hid hcs
 obtain ⟨e0, e1, e2, e3, e4, e5⟩ := hcs W2 (Below.refl _ _)
 clear hgc hadd hcm hP2 hcs hP hgd htf hn1 hn2 h hok ha hM hbW hnK
 go_enter Tryz.func39, Tryz.ntmps39
 go_wp2_with fail
 try rw [hW2]
 refine (Hgc.out).mono ?_; rintro e w3 ⟨rfl, hb3⟩
 have Hb3 := Lib.hid hb3
 obtain ⟨e0', e1', e2', e3', e4', e5'⟩ := Hcs.out _ hb3
 clear hb3 e0 e1 e2 e3 e4 e5
 cases gd with
 | false =>
  go_wp2
  go_ret2
  have hc := Hcm.out
  rw [if_neg (fun e => by cases e.1)] at hc
  have h5 := Hp2.out.below Hb3.out
  rw [hc]
  exact ⟨_, _, _, rfl, h5.at_, h5.step⟩
 | true =>
  by_cases hp : parent = 0
  ·have hpb : (parent != 0) = false := by simp [hp]
   have Ha := Lib.hid (Hadd.out w3 Hb3.out rfl hp)
   have Hp0 := Lib.hid hp
   clear hp
   go_wp2_with fail
   refine (Ha.out).mono ?_; rintro e w4 ⟨lv', bs', σ', rfl, hA4, hT4⟩
   have hc := Hcm.out
   rw [if_pos ⟨by first | rfl | trivial, Hp0.out⟩] at hc
   have hT5 := (Hp2.out.below Hb3.out).step.trans hT4
   have H4 := Lib.hid (And.intro hA4 hT5)
   have Hc := Lib.hid hc
   generalize M0.add ⟨mid, parent, born, frm, rcpts, body⟩ = r at H4 Hc ⊢
   obtain ⟨r1, r2, r3⟩ := r
   clear hA4 hT4 hT5 hc
   go_wp2
   go_ret2
   rw [Hc.out]
   exact ⟨_, _, _, by first | exact rfl | exact trivial, H4.out.1, H4.out.2⟩
  ·have hpb : (parent != 0) = true := by simpa using hp
   have Hp0 := Lib.hid hp
   clear hp
   go_wp2
   go_ret2
   have hc := Hcm.out
   rw [if_neg (fun e => Hp0.out e.2)] at hc
   have h5 := Hp2.out.below Hb3.out
   rw [hc]
   exact ⟨_, _, _, rfl, h5.at_, h5.step⟩
open Go.RowKit
theorem step_build0w {ops : Array Oper} {o : Oper} {a : Act} {K : Act → World → Prop} {Q : Exit → Act → World → Prop} {E : Prop} {w : World} (hgd : Region.wanted o (yielded ops a.tmps) = true) (ho : o.op = .buildSlice 41 0 #[])
 (h : ∀ g w', w'.ownsRow w.heap.size 53 3 (.slice (some ⟨g, 0, none⟩) 0 0) 0 [] → g = w.heap.size → Below w.heap.size w w' → w'.heap.size = w.heap.size + 1 → K (a.put o.dst (.slice (some ⟨g, 0, none⟩) 0 0)) w') :
 if Region.wanted o (yielded ops a.tmps) = true then Oper.wp Tryz.prog o a w K Q else E := by
 rw [if_pos hgd]
 obtain ⟨i0, hi, hz0, hz1, hz2⟩ := info_parts infoMark
 have := h w.heap.size (w.alloc (.cells #[] 53)) (World.ownsRow_lit (base := w.heap.size) (size := 3) (e := 53) w #[] 0 (Nat.le_refl _) (by decide) rfl) rfl ((Below.refl _ _).alloc (Nat.le_refl _) _) (by simp)
 unfold Oper.wp
 have he : (Array.map (fun x => (default : Value)) (Array.range 0)) = #[] := by kernel_rfl
 simp [execOp, ho, Instr.buildSlice, run_underlying Tryz.underlying41, sizeOf, typeInfo, hi, Instr.fill, newRow, Result.andThen]
 rw [he]
 exact this
theorem step_build1w (k : MarkD) {ops : Array Oper} {o : Oper} {a : Act} {K : Act → World → Prop} {Q : Exit → Act → World → Prop} {E : Prop} {w : World} {x : Operand} (hgd : Region.wanted o (yielded ops a.tmps) = true) (ho : o.op = .buildSlice 41 1 #[(0, x)]) (hx : a.eval x = .agg #[.int .i64 k.kind, .int .i64 k.rcpt, .int .i64 k.n])
 (h : ∀ g w', w'.heap[g]? = some (.cells #[.int .i64 k.kind, .int .i64 k.rcpt, .int .i64 k.n] 53 (0, 0)) → g = w.heap.size → Below w.heap.size w w' → w'.heap.size = w.heap.size + 1 → K (a.put o.dst (.slice (some ⟨g, 0, none⟩) 1 1)) w') :
 if Region.wanted o (yielded ops a.tmps) = true then Oper.wp Tryz.prog o a w K Q else E := by
 rw [if_pos hgd]
 obtain ⟨i0, hi, hz0, hz1, hz2⟩ := info_parts infoMark
 have := h w.heap.size (w.alloc (.cells #[.int .i64 k.kind, .int .i64 k.rcpt, .int .i64 k.n] 53)) (heap_alloc_new w _) rfl ((Below.refl _ _).alloc (Nat.le_refl _) _) (by simp)
 refine wp_buildSlice 41 53 1 _ ho #[.int .i64 k.kind, .int .i64 k.rcpt, .int .i64 k.n] i0 _ Tryz.underlying41 hi hz0 (by rw [hz1]; decide) (by rw [hz1]; decide) ?_ this
 rw [hz1]
 simp [hx]
 kernel_rfl
theorem rdM_one {w : World} {g : Nat} {k : MarkD} (h : w.heap[g]? = some (.cells #[.int .i64 k.kind, .int .i64 k.rcpt, .int .i64 k.n] 53 (0, 0))) : RdM w (.slice (some ⟨g, 0, none⟩) 1 1) [k] := by
 refine .inr ⟨g, 0, 1, rfl, by simp, Nat.le_refl _, by decide, (Array.getElem?_eq_some_iff.1 h).1, ?_⟩
 intro i x hx j u hu
 match i, hx with
 | 0, hx =>
  cases hx
  have hj : j < 3 := (List.getElem?_eq_some_iff.1 hu).1
  match j, hj, hu with
  | 0, _, hu => cases hu; rw [cell_of_row _ _ _ _ _ _ h]; rfl
  | 1, _, hu => cases hu; rw [cell_of_row _ _ _ _ _ _ h]; rfl
  | 2, _, hu => cases hu; rw [cell_of_row _ _ _ _ _ _ h]; rfl
 | i + 1, hx => cases hx
end Go.Proofs.YtffnbkmigapmjaaGreatDoor
