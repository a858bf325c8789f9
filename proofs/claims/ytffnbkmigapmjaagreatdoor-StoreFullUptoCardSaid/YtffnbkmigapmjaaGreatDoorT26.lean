/- Printed out of the texts of wip/tpl. -/
import Derived.Test.YtffnbkmigapmjaaGreatDoorT10
import Derived.Test.YtffnbkmigapmjaaGreatDoorT25
import Derived.Great.BuildSlice
import Derived.Deep.QuietTactic
import Derived.BigQuiet
import Derived.Deep.CutRange
set_option linter.unusedSimpArgs false
set_option linter.unusedVariables false
set_option maxRecDepth 100000
namespace Go.Proofs.YtffnbkmigapmjaaGreatDoor
open Go.RowKit Go.Maps
def liveB : Value → Option Nat
 | .slice (some a) l _ => if l = 0 then none else some a.block
 | _ => none
theorem RdL.keepsL {α : Type} {s : Nat} {f : α → List Value} {F : Nat → Prop} {w w' : World} {v : Value} {xs : List α} (h : RdL s f w v xs) (hk : Keeps F w w') (hF : ∀ k, liveB v = some k → ¬ F k) : RdL s f w' v xs := by
 rcases h with ⟨a, c, h1, h2⟩ | h
 ·exact .inl ⟨a, c, h1, h2⟩
 ·obtain ⟨b, off, cap, h1, h0, h2⟩ := id h
  refine RdL.keeps (.inr h) hk (fun b' o' l' c' e => hF b' ?_)
  rw [h1] at e
  cases e
  rw [h1]
  exact if_neg (fun e => h0 (List.length_eq_zero_iff.1 e))
theorem RdB.keepsL {F : Nat → Prop} {w w' : World} {v : Value} {bs : List UInt8} (h : RdB w v bs) (hk : Keeps F w w') (hF : ∀ k, liveB v = some k → ¬ F k) : RdB w' v bs := by
 rcases h with ⟨a, c, h1, h2⟩ | h
 ·exact .inl ⟨a, c, h1, h2⟩
 ·obtain ⟨b, off, cap, h1, h0, h2⟩ := id h
  refine RdB.keeps (.inr h) hk (fun k e => hF k ?_)
  rw [h1] at e
  cases e
  rw [h1]
  exact if_neg (fun e => h0 (List.length_eq_zero_iff.1 e))
theorem RdL.liveLt {α : Type} {s : Nat} {f : α → List Value} {w : World} {v : Value} {xs : List α} (h : RdL s f w v xs) : ∀ k, liveB v = some k → k < w.heap.size := fun k e => by
 rcases h with ⟨a, c, h1, h2⟩ | ⟨b, off, cap, h1, h0, _, _, h4, _⟩
 ·rw [h1] at e; cases a <;> cases e
 ·rw [h1] at e
  have : (if xs.length = 0 then none else some b) = some k := e
  rw [if_neg (fun e => h0 (List.length_eq_zero_iff.1 e))] at this
  cases this; exact h4
theorem RdB.liveLt {w : World} {v : Value} {bs : List UInt8} (h : RdB w v bs) : ∀ k, liveB v = some k → k < w.heap.size := fun k e => by
 rcases h with ⟨a, c, h1, h2⟩ | ⟨b, off, cap, h1, h0, _, _, h4, _⟩
 ·rw [h1] at e; cases a <;> cases e
 ·rw [h1] at e
  have : (if bs.length = 0 then none else some b) = some k := e
  rw [if_neg (fun e => h0 (List.length_eq_zero_iff.1 e))] at this
  cases this; exact h4
structure MdlArg (w : World) (σ : Nat → Prop) (m : MailD) (vr vb : Value) : Prop where
 r : RdS w vr m.rcpts
 b : RdB w vb m.body
 nr : NilOk vr
 nb : NilOk vb
 or : ∀ k, liveB vr = some k → k < w.heap.size ∧ ¬ σ k
 ob : ∀ k, liveB vb = some k → k < w.heap.size ∧ ¬ σ k
 sm : m.lens
section
variable {w w' : World} {mb : Nat} {M M' : ModD} {lv lv' : Value} {bs : List BoxV} {σ σ' : Nat → Prop} {F : Nat → Prop} {m : MailD} {vr vb : Value}
theorem MdlArg.keeps (h : MdlArg w σ m vr vb) (hk : Keeps F w w') (hF : ∀ k, F k → σ k ∨ w.heap.size ≤ k) : MdlArg w' σ m vr vb := by
 have hn : ∀ k, k < w.heap.size ∧ ¬ σ k → ¬ F k := fun k h e => by
  rcases hF k e with e | e
  ·exact h.2 e
  ·omega
 exact ⟨h.r.keepsL hk (fun k e => hn k (h.or k e)), h.b.keepsL hk (fun k e => hn k (h.ob k e)), h.nr, h.nb, fun k e => ⟨Nat.lt_of_lt_of_le (h.or k e).1 hk.size, (h.or k e).2⟩, fun k e => ⟨Nat.lt_of_lt_of_le (h.ob k e).1 hk.size, (h.ob k e).2⟩, h.sm⟩
theorem MdlArg.below (h : MdlArg w σ m vr vb) (hb : Below w.heap.size w w') : MdlArg w' σ m vr vb := h.keeps (F := fun _ => False) (Keeps.ofBelow hb) (fun _ e => e.elim)
theorem MdlAt.head (h : MdlAt w mb M lv bs σ) (hk : Keeps (fun k => k = mb) w w') (hd : w'.heap[mb]? = some (.cells #[lv, .int .i64 M'.last, .int .i64 M'.bound, .int .i64 M'.room] 69 (0, 0))) (hl : M'.list = M.list) : MdlAt w' mb M' lv bs σ ∧ MdlStep w σ w' σ := by
 refine ⟨⟨hd, h.lst.trans hl.symm, own_keeps h.own hk (fun k e => (h.slv k e).2), fun b hb => (h.rd b hb).keeps hk (fun k e => (h.sbx b hb k e).2.1), h.smb, h.slv, h.sbx, fun k e => Nat.lt_of_lt_of_le (h.lt k e) hk.size⟩, ⟨⟨hk.os, hk.tape, hk.output, hk.size, fun k h1 h2 => hk.block k h1 (fun e => h2 (by rw [e]; exact h.smb))⟩, fun k e => .inl e⟩⟩
theorem MdlAt.last (h : MdlAt w mb M lv bs σ) (n : Int) : MdlAt (w.setCell ⟨mb, 1, none⟩ (.int .i64 n)) mb { M with last := n } lv bs σ ∧ MdlStep w σ (w.setCell ⟨mb, 1, none⟩ (.int .i64 n)) σ :=
 h.head (M' := { M with last := n }) (Keeps.setCell _ _ _ rfl) (heap_setCell_same _ _ 1 _ _ _ h.hd) rfl
theorem MdlAt.bnd (h : MdlAt w mb M lv bs σ) (n : Int) : MdlAt (w.setCell ⟨mb, 2, none⟩ (.int .i64 n)) mb { M with bound := n } lv bs σ ∧ MdlStep w σ (w.setCell ⟨mb, 2, none⟩ (.int .i64 n)) σ :=
 h.head (M' := { M with bound := n }) (Keeps.setCell _ _ _ rfl) (heap_setCell_same _ _ 2 _ _ _ h.hd) rfl
theorem MdlAt.frz (h : MdlAt w mb M lv bs σ) : ∀ j, w.frozen? ⟨mb, j, none⟩ = false := fun j => frozen_of_row _ _ _ _ _ h.hd
end
theorem ModOk.files {M : ModD} (h : ModOk M) : M.files ≤ 201 := by
 have := h.n
 unfold ModD.files
 split <;> omega
structure AddP (w0 : World) (mb K0 : Nat) (M : ModD) (lv : Value) (bs : List BoxV) (σ : Nat → Prop) (cs : Array Value) (m : MailD) (vr vb : Value) (wx : World) : Prop where
 at_ : MdlAt wx mb M lv bs σ
 step : MdlStep w0 σ wx σ
 box : wx.heap[K0]? = some (.cells cs 29 (0, 0))
 r : RdS wx vr m.rcpts
 b : RdB wx vb m.body
 own : ∀ k, liveB vr = some k ∨ liveB vb = some k → k < K0 ∧ ¬ σ k
section
variable {w0 w w' : World} {mb K0 : Nat} {M M' : ModD} {lv : Value} {bs : List BoxV} {σ : Nat → Prop} {m : MailD} {vr vb : Value} {cs : Array Value}
theorem AddP.below (h : AddP w0 mb K0 M lv bs σ cs m vr vb w) (hb : Below w.heap.size w w') : AddP w0 mb K0 M lv bs σ cs m vr vb w' :=
 ⟨h.at_.below hb, h.step.trans (MdlStep.below hb), (hb.block _ (Array.getElem?_eq_some_iff.1 h.box).1).trans h.box, h.r.below (Nat.le_refl _) hb, h.b.below (Nat.le_refl _) hb, h.own⟩
theorem AddP.head (h : AddP w0 mb K0 M lv bs σ cs m vr vb w) (hK : ¬ σ K0) {j : Nat} {v : Value} (hA : MdlAt (w.setCell ⟨mb, j, none⟩ v) mb M' lv bs σ) (hT : MdlStep w σ (w.setCell ⟨mb, j, none⟩ v) σ) : AddP w0 mb K0 M' lv bs σ cs m vr vb (w.setCell ⟨mb, j, none⟩ v) := by
 have hk : Keeps (fun k => k = mb) w (w.setCell ⟨mb, j, none⟩ v) := Keeps.setCell _ _ _ rfl
 have hs := h.at_.smb
 exact ⟨hA, h.step.trans hT, hk.heap h.box (fun e => hK (by rw [e]; exact hs)), h.r.keepsL hk (fun k e f => (h.own k (.inl e)).2 (by rw [f]; exact hs)), h.b.keepsL hk (fun k e f => (h.own k (.inr e)).2 (by rw [f]; exact hs)), h.own⟩
theorem AddP.num {x0 x1 x2 x3 x4 x5 : Value} (h : AddP w0 mb K0 M lv bs σ #[x0, x1, x2, x3, x4, x5] m vr vb w) (hK : ¬ σ K0) (hw : w0.heap.size ≤ K0) (u : Value) : AddP w0 mb K0 M lv bs σ #[u, x1, x2, x3, x4, x5] m vr vb (w.setCell ⟨K0, 0, none⟩ u) := by
 have hk : Keeps (fun k => k = K0) w (w.setCell ⟨K0, 0, none⟩ u) := Keeps.setCell _ _ _ rfl
 refine ⟨h.at_.keeps hk (fun k e f => hK (by rw [← f]; exact e)), ⟨h.step.keeps.go hk (fun i e => .inr (by omega)), h.step.grow⟩, heap_setCell_same _ _ 0 _ _ _ h.box, h.r.keepsL hk (fun k e f => by have := (h.own k (.inl e)).1; omega), h.b.keepsL hk (fun k e f => by have := (h.own k (.inr e)).1; omega), h.own⟩
end
theorem infoBox : (Tryz.prog.info? 80).map (fun i => (i.zero, i.size, i.bytes)) = some (some (.agg #[.int .i64 0, .int .i64 0, .int .i64 0, .string ⟨#[]⟩, .slice none 0 0, .slice none 0 0, .int .u8 0, .slice none 0 0]), 8, 120) := by kernel_rfl
theorem rdBox_one {w : World} {g : Nat} {b : BoxV} (h : w.heap[g]? = some (.cells (boxCells b).toArray 80 (0, 0))) : RdL 8 boxCells w (.slice (some ⟨g, 0, none⟩) 1 1) [b] := by
 refine .inr ⟨g, 0, 1, rfl, by simp, Nat.le_refl _, by decide, (Array.getElem?_eq_some_iff.1 h).1, ?_⟩
 intro i x hx j u hu
 match i, hx with
 | 0, hx =>
  cases hx
  rw [cell_of_row _ _ _ _ _ _ h, List.getElem?_toArray, show 0 + (0 * 8 + j) = j by omega, hu]
 | i + 1, hx => cases hx
theorem boxCells_one (b : BoxV) : ∀ c ∈ [b].flatMap boxCells, c.oneCell' = true := by
 intro c hc
 rw [List.flatMap_cons, List.flatMap_nil, List.append_nil] at hc
 simp only [boxCells, List.mem_cons, List.not_mem_nil, or_false] at hc
 rcases hc with rfl | rfl | rfl | rfl | rfl | rfl | rfl | rfl <;> rfl
theorem step_box (b : BoxV) {ops : Array Oper} {o : Oper} {a : Act} {K : Act → World → Prop} {Q : Exit → Act → World → Prop} {E : Prop} {w : World} {x : Operand} (hgd : Region.wanted o (yielded ops a.tmps) = true) (ho : o.op = .buildSlice 67 1 #[(0, x)]) (hx : a.eval x = .agg (boxCells b).toArray)
 (h : ∀ w', w'.heap[w.heap.size]? = some (.cells (boxCells b).toArray 80 (0, 0)) → Below w.heap.size w w' → K (a.put o.dst (.slice (some ⟨w.heap.size, 0, none⟩) 1 1)) w') :
 if Region.wanted o (yielded ops a.tmps) = true then Oper.wp Tryz.prog o a w K Q else E := by
 rw [if_pos hgd]
 obtain ⟨i0, hi, hz0, hz1, hz2⟩ := info_parts infoBox
 have := h (w.alloc (.cells (boxCells b).toArray 80)) (heap_alloc_new w _) ((Below.refl _ _).alloc (Nat.le_refl _) _)
 refine wp_buildSlice 67 80 1 _ ho (boxCells b).toArray i0 _ Tryz.underlying67 hi hz0 (by rw [hz1]; first | decide | rfl) (by rw [hz1]; first | decide | rfl) ?_ this
 rw [hz1]
 simp [hx, boxCells]
 try kernel_rfl
theorem MdlAt.more {w0 w w2 : World} {mb : Nat} {M M' : ModD} {lv lv' : Value} {bs : List BoxV} {σ : Nat → Prop} {bx : BoxV} (h0 : MdlAt w0 mb M lv bs σ) (hb : Below w0.heap.size w0 w)
 (hbx : BoxRd w bx) (hbn : ∀ k, boxOwn bx k → w0.heap.size ≤ k ∧ k < w.heap.size) (hl : M'.list = M.list ++ [bx.d]) (hlb : M'.last = M.last ∧ M'.bound = M.bound ∧ M'.room = M.room)
 (hown : w2.ownsRow 0 80 8 lv' (bs.length + [bx].length) (bs.flatMap boxCells ++ [bx].flatMap boxCells)) (hg : w.grownBy w2 lv.ownBlock) (hloc : lv'.ownBlock = lv.ownBlock ∨ lv'.ownBlock = some w.heap.size) :
 ∃ σ', MdlAt (w2.setCell ⟨mb, 0, none⟩ lv') mb M' lv' (bs ++ [bx]) σ' ∧ MdlStep w0 σ (w2.setCell ⟨mb, 0, none⟩ lv') σ' := by
 have h := h0.below hb
 have hk1 : Keeps (fun k => lv.ownBlock = some k) w w2 := Keeps.grown hg
 have hk2 : Keeps (fun k => k = mb) w2 (w2.setCell ⟨mb, 0, none⟩ lv') := Keeps.setCell _ _ _ rfl
 have hk : Keeps (fun k => lv.ownBlock = some k ∨ k = mb) w (w2.setCell ⟨mb, 0, none⟩ lv') := (hk1.mono (fun k _ e => .inl e)).go hk2 (fun i e => .inl (.inr e))
 have l0 := hb.size
 have lm := h0.lt _ h0.smb
 have hlo : ∀ k, lv.ownBlock = some k → k < w0.heap.size ∧ k ≠ mb := fun k e => ⟨h0.lt _ (h0.slv k e).1, (h0.slv k e).2⟩
 have hlo' : ∀ k, lv'.ownBlock = some k → lv.ownBlock = some k ∨ k = w.heap.size := fun k e => by
  rcases hloc with h1 | h1
  ·exact .inl (h1 ▸ e)
  ·rw [h1] at e; exact .inr (Option.some.inj e).symm
 have hlm : ∀ k, lv'.ownBlock = some k → k ≠ mb := fun k e => by
  rcases hlo' k e with e | e
  ·exact (hlo k e).2
  ·omega
 refine ⟨fun k => σ k ∨ (w0.heap.size ≤ k ∧ k < w.heap.size) ∨ lv'.ownBlock = some k, ⟨?_, ?_, ?_, ?_, .inl h0.smb, fun k e => ⟨.inr (.inr e), hlm k e⟩, ?_, ?_⟩, ⟨?_, ?_⟩⟩
 ·rw [hlb.1, hlb.2.1, hlb.2.2]
  exact heap_setCell_same _ _ 0 _ _ _ (hk1.heap h.hd (fun e => (hlo _ e).2 rfl))
 ·rw [List.map_append, h0.lst, hl]; rfl
 ·rw [List.length_append, List.flatMap_append]
  exact own_keeps hown hk2 hlm
 ·intro b hb'
  rcases List.mem_append.1 hb' with hb' | hb'
  ·refine (h.rd b hb').keeps hk (fun k e f => ?_)
   obtain ⟨_, h2, h3⟩ := h.sbx b hb' k e
   rcases f with f | f
   ·exact h3 f
   ·exact h2 f
  ·rw [List.mem_singleton.1 hb']
   refine hbx.keeps hk (fun k e f => ?_)
   have h1 := (hbn k e).1
   rcases f with f | f
   ·have := (hlo k f).1; omega
   ·omega
 ·intro b hb' k e
  rcases List.mem_append.1 hb' with hb' | hb'
  ·obtain ⟨h1, h2, h3⟩ := h.sbx b hb' k e
   refine ⟨.inl h1, h2, fun f => ?_⟩
   rcases hlo' k f with f | f
   ·exact h3 f
   ·have := h0.lt k h1; omega
  ·rw [List.mem_singleton.1 hb'] at e
   have h1 := hbn k e
   refine ⟨.inr (.inl h1), by omega, fun f => ?_⟩
   rcases hlo' k f with f | f
   ·have := (hlo k f).1; omega
   ·omega
 ·intro k e
  have l2 := hk2.size
  have l1 := hk1.size
  rcases e with e | e | e
  ·have := h0.lt k e; omega
  ·omega
  ·have := (hown.lt k e).2; omega
 ·exact (Keeps.ofBelow hb).go hk (fun i e => by
   rcases e with e | e
   ·exact .inl (h0.slv i e).1
   ·exact .inl (by rw [e]; exact h0.smb))
 ·intro k e
  rcases e with e | e | e
  ·exact .inl e
  ·exact .inr e.1
  ·rcases hlo' k e with e | e
   ·exact .inl (h0.slv k e).1
   ·exact .inr (by omega)
set_option maxHeartbeats 16000000 in
theorem mAdd_calls {mb : Nat} {M0 : ModD} {lv : Value} {bs : List BoxV} {σ : Nat → Prop} (m : MailD) (vr vb : Value) (w : World) (h : MdlAt w mb M0 lv bs σ) (hok : ModOk M0) (ha : MdlArg w σ m vr vb) (hgd : ({ m with id := M0.last + 1 } : MailD).good = true) :
 Calls Tryz.prog 83 #[.pointer (some ⟨mb, 0, none⟩), mailVal m vr vb] w fun e w' => ∃ lv' bs' σ', e = .returned (.tuple #[.int .i64 (M0.add m).1, .int .i64 (M0.add m).2.1]) ∧ MdlAt w' mb (M0.add m).2.2 lv' bs' σ' ∧ MdlStep w σ w' σ' := by
 obtain ⟨i0, hi, hz0, hz1, hz2⟩ := info_parts infoBox
 obtain ⟨ar, capr, rfl, hlr, hcr⟩ := ha.r.form
 obtain ⟨ab, capb, rfl, hlb, hcb⟩ := ha.b.form
 obtain ⟨al, cl, rfl, hll, hlc⟩ := h.rdl.form
 obtain ⟨mid, parent, born, frm, rcpts, body⟩ := m
 dsimp only at hlr hlb hgd
 obtain ⟨tf, htf⟩ : ∃ tf, strL frm = tf := ⟨_, rfl⟩
 obtain ⟨n1, hn1⟩ : ∃ n1, rcpts.length = n1 := ⟨_, rfl⟩
 obtain ⟨n2, hn2⟩ : ∃ n2, body.length = n2 := ⟨_, rfl⟩
 obtain ⟨nl, hnl⟩ : ∃ nl, bs.length = nl := ⟨_, rfl⟩
 obtain ⟨K0, hK0⟩ : ∃ K0, w.heap.size = K0 := ⟨_, rfl⟩
 obtain ⟨la, hla⟩ : ∃ la, M0.last = la := ⟨_, rfl⟩
 obtain ⟨bo, hbo⟩ : ∃ bo, M0.bound = bo := ⟨_, rfl⟩
 obtain ⟨ro, hro⟩ : ∃ ro, M0.room = ro := ⟨_, rfl⟩
 obtain ⟨W, hW⟩ : ∃ W, w.alloc (.cells #[.int .i64 mid, .int .i64 parent, .int .i64 born, .string tf, .slice ar n1 capr, .slice ab n2 capb] 29) = W := ⟨_, rfl⟩
 have hbW : Below w.heap.size w W := by rw [← hW]; exact (Below.refl _ _).alloc (Nat.le_refl _) _
 have hM : W.heap[K0]? = some (.cells #[.int .i64 mid, .int .i64 parent, .int .i64 born, .string tf, .slice ar n1 capr, .slice ab n2 capb] 29 (0, 0)) := by rw [← hW, ← hK0]; exact heap_alloc_new w _
 have hnK : ¬ σ K0 := fun e => by have := h.lt _ e; omega
 have hnl2 : nl ≤ 200 := by rw [← hnl, ← List.length_map (f := fun b : BoxV => b.d), h.lst]; exact hok.n
 rw [hnl] at h
 have hP : AddP w mb K0 M0 (.slice al nl cl) bs σ #[.int .i64 mid, .int .i64 parent, .int .i64 born, .string tf, .slice ar n1 capr, .slice ab n2 capb] ⟨mid, parent, born, frm, rcpts, body⟩ (.slice ar rcpts.length capr) (.slice ab body.length capb) W :=
  ⟨h.below hbW, MdlStep.below hbW, hM, ha.r.below (Nat.le_refl _) hbW, ha.b.below (Nat.le_refl _) hbW, fun k e => by
   rcases e with e | e
   ·exact ⟨by have := (ha.or k e).1; omega, (ha.or k e).2⟩
   ·exact ⟨by have := (ha.ob k e).1; omega, (ha.ob k e).2⟩⟩
 have hl2 := hok.last
 have hb2 := hok.bound
 have hr2 := hok.room
 rw [hla] at hl2
 rw [hbo] at hb2
 rw [hro] at hr2
 have hE : (la == 999999999) = false := by rw [beq_eq_false_iff_ne]; omega
 have hw1 : IntKind.i64.wrap (la + 1) = la + 1 := IntWalk.i64_in _ (by omega)
 have hw16 : IntKind.i64.wrap (la + 16) = la + 16 := IntWalk.i64_in _ (by omega)
 have hw1' : wrap64 (la + 1) = la + 1 := IntWalk.wrap64_in _ (by omega)
 have hw16' : wrap64 (la + 16) = la + 16 := IntWalk.wrap64_in _ (by omega)
 have hbig : ¬ ((999999999 : Int) < la + 16) := by omega
 obtain ⟨fi, hfi⟩ : ∃ fi : Int, (M0.files : Int) = fi := ⟨_, rfl⟩
 have hfi2 : ¬ ((256 : Int) ≤ fi) := by have := hok.files; omega
 have hfc : ∀ W1, Below W.heap.size W W1 → Calls Tryz.prog 126 #[.pointer (some ⟨mb, 0, none⟩)] W1 fun e w' => e = .returned (.int .i64 fi) ∧ Below W1.heap.size W1 w' := fun W1 h1 => by
  have := mFiles_calls W1 (hP.below h1).at_ hok.n
  rw [hfi] at this; exact this
 unfold mailVal
 dsimp only
 rw [htf, hn1, hn2]
 have Hfc := Lib.hid hfc
 have Htf := Lib.hid htf
 have Hp := Lib.hid hP
 have Hk := Lib.hid (And.intro hnK (And.intro hK0 (And.intro hla (And.intro hbo (And.intro hro (And.intro hn1 (And.intro hn2 hnl)))))))
 have Ho := Lib.hid (And.intro hok (And.intro ha (And.intro hgd hfi)))
 obtain ⟨c0, c1, c2, c3⟩ := hP.at_.cells
 rw [hla] at c1
 rw [hbo] at c2
 clear hfc htf hP hnK hla hbo hro hn1 hn2 hnl hok ha hgd hfi hM hbW h c0 c3
 go_enter Tryz.func83, Tryz.ntmps83
 go_wp2
 go_quiet (fail)
 go_upto_if 19 with fail
 go_cut [] from 19 to 38 (fun wx => Hid (AddP w mb K0 { M0 with bound := if bo ≤ la then la + 16 else bo } (.slice al nl cl) bs σ #[.int .i64 mid, .int .i64 parent, .int .i64 born, .string tf, .slice ar n1 capr, .slice ab n2 capb] ⟨mid, parent, born, frm, rcpts, body⟩ (.slice ar rcpts.length capr) (.slice ab body.length capb) wx))
 case first =>
  by_cases hb : bo ≤ la
  ·have hdr : Below W.heap.size W (W.drewN nq) := below_drewN (Below.refl _ _) _
   have Hf1 := Lib.hid (Hfc.out _ hdr)
   have Hdr := Lib.hid hdr
   clear hdr
   go_wp2_with fail
   refine (Hf1.out).mono ?_; rintro e w3 ⟨rfl, hb3⟩
   have hP3 := Hp.out.below (Hdr.out.trans (hb3.mono Hdr.out.size))
   obtain ⟨_, d1, d2, _⟩ := hP3.at_.cells
   rw [Hk.out.2.2.1] at d1
   rw [Hk.out.2.2.2.1] at d2
   have f2 := hP3.at_.frz 2
   have HP3 := Lib.hid hP3
   clear hP3 hb3 c1 c2
   go_wp2_with fail
   go_meet
   refine Lib.hid ?_
   rw [if_pos hb]
   exact HP3.out.head Hk.out.1 (HP3.out.at_.bnd _).1 (HP3.out.at_.bnd _).2
  ·go_wp2_with fail
   go_meet
   refine Lib.hid ?_
   rw [if_neg (by omega)]
   have he : ({ M0 with bound := bo } : ModD) = M0 := by rw [← Hk.out.2.2.2.1]
   rw [he]
   exact Hp.out.below (below_drewN (Below.refl _ _) _)
 case rest =>
  have hPc := hcut.out
  have hnx : ({ ({ M0 with bound := if bo ≤ la then la + 16 else bo } : ModD) with last := la + 1 } : ModD) = M0.next := by unfold ModD.next; rw [Hk.out.2.2.1, Hk.out.2.2.2.1]
  obtain ⟨W4, hW4⟩ : ∃ W4, (wc.setCell ⟨mb, 1, none⟩ (.int .i64 (la + 1))).setCell ⟨K0, 0, none⟩ (.int .i64 (la + 1)) = W4 := ⟨_, rfl⟩
  have hP4 : AddP w mb K0 M0.next (.slice al nl cl) bs σ #[.int .i64 (la + 1), .int .i64 parent, .int .i64 born, .string tf, .slice ar n1 capr, .slice ab n2 capb] ⟨mid, parent, born, frm, rcpts, body⟩ (.slice ar rcpts.length capr) (.slice ab body.length capb) W4 := by
   rw [← hnx, ← hW4]
   exact (hPc.head Hk.out.1 (hPc.at_.last _).1 (hPc.at_.last _).2).num Hk.out.1 (by have := Hk.out.2.1; omega) _
  have d1 : wc.cell? ⟨mb, 1, none⟩ = some (.int .i64 la) := hPc.at_.cells.2.1.trans (by show some (Value.int .i64 M0.last) = _; rw [Hk.out.2.2.1])
  have f1 := hPc.at_.frz 1
  have y0 : wc.frozen? ⟨K0, 0, none⟩ = false := frozen_of_row _ _ _ _ _ hPc.box
  have x0 : wc.cell? ⟨K0, 0, none⟩ = some (.int .i64 mid) := by rw [cell_of_row _ _ _ _ _ _ hPc.box]; rfl
  have hKm : ¬ K0 = mb := fun e => Hk.out.1 (by rw [e]; exact hPc.at_.smb)
  have hKm' : ¬ mb = K0 := fun e => hKm e.symm
  obtain ⟨us, hus⟩ : ∃ us, M0.used = us := ⟨_, rfl⟩
  have husl : us ≤ 3800012 * 200 := by
   rw [← hus]
   have h1 : M0.used = usedTo M0.list := rfl
   rw [h1]
   refine Nat.le_trans (usedTo_le (C := 3800012) (fun x hx => BoxD.len_le (hPc.at_.good x hx) (Ho.out.1.ks x hx))) (Nat.mul_le_mul_left _ Ho.out.1.n)
  obtain ⟨R, hR⟩ : ∃ R, MailD.record ⟨la + 1, parent, born, frm, rcpts, body⟩ = R := ⟨_, rfl⟩
  obtain ⟨rl, hrl⟩ : ∃ rl, R.length = rl := ⟨_, rfl⟩
  have hgd : MailD.good ⟨la + 1, parent, born, frm, rcpts, body⟩ = true := by have := Ho.out.2.2.1; rw [Hk.out.2.2.1] at this; exact this
  have hsm : MailD.small ⟨la + 1, parent, born, frm, rcpts, body⟩ := small_of_good hgd
  have hrec : ∀ w1, Below W4.heap.size W4 w1 → Calls Tryz.prog 80 #[.agg #[.int .i64 (la + 1), .int .i64 parent, .int .i64 born, .string tf, .slice ar n1 capr, .slice ab n2 capb]] w1 (RowDone w1 R) := fun w1 h1 => by
   have h2 := record_calls ⟨la + 1, parent, born, frm, rcpts, body⟩ (.slice ar rcpts.length capr) (.slice ab body.length capb) w1 (hP4.below h1).r (hP4.below h1).b Ho.out.2.1.nb hsm hgd
   unfold mailVal at h2
   dsimp only at h2
   rw [Htf.out, Hk.out.2.2.2.2.2.1, Hk.out.2.2.2.2.2.2.1, hR] at h2
   exact h2
  obtain ⟨fj, hfj⟩ : ∃ fj : Int, (M0.next.files : Int) = fj := ⟨_, rfl⟩
  have hfj2 : ¬ ((256 : Int) ≤ fj) := by
   have h1 : M0.next.files ≤ M0.list.length + 1 := by
    have h0 : (if 0 < M0.next.bound then 1 else 0) ≤ 1 := by split <;> omega
    exact Nat.add_le_add_left h0 _
   have := Ho.out.1.n
   omega
  have hfi2' : ∀ w1, Below W4.heap.size W4 w1 → Calls Tryz.prog 126 #[.pointer (some ⟨mb, 0, none⟩)] w1 fun e w' => e = .returned (.int .i64 fj) ∧ Below w1.heap.size w1 w' := fun w1 h1 => by
   have := mFiles_calls w1 (hP4.below h1).at_ Ho.out.1.n
   rw [hfj] at this; exact this
  have husc : ∀ w1, Below W4.heap.size W4 w1 → Calls Tryz.prog 36 #[.pointer (some ⟨mb, 0, none⟩)] w1 fun e w' => e = .returned (.int .i64 (us : Int)) ∧ Below w1.heap.size w1 w' := fun w1 h1 => by
   have := mUsed_calls w1 (hP4.below h1).at_ Ho.out.1.n Ho.out.1.ks
   have h1 : M0.next.used = M0.used := rfl
   rw [h1, hus] at this; exact this
  have hrl2 := record_max hgd
  rw [hR, hrl] at hrl2
  have hwr : IntKind.i64.wrap (ro - (us : Int)) = ro - (us : Int) := IntWalk.i64_in _ (by omega)
  have hadd : M0.add ⟨mid, parent, born, frm, rcpts, body⟩ = if ro - (us : Int) < (rl : Int) then (0, 3, M0.next) else (la + 1, 0, { M0.next with list := M0.list ++ [⟨⟨la + 1, parent, born, frm, rcpts, body⟩, 105, []⟩] }) := by
   unfold ModD.add
   dsimp only
   rw [Hk.out.2.2.1, Hk.out.2.2.2.2.1, hus, hR, hrl]
  have Hs : Hid (∀ w1, Below W4.heap.size W4 w1 → (fun w' => w'.cell? ⟨mb, 3, none⟩ = some (.int .i64 ro) ∧ w'.cell? ⟨K0, 0, none⟩ = some (.int .i64 (la + 1)) ∧ w'.cell? ⟨K0, 1, none⟩ = some (.int .i64 parent) ∧ w'.cell? ⟨K0, 2, none⟩ = some (.int .i64 born) ∧ w'.cell? ⟨K0, 3, none⟩ = some (.string tf) ∧ w'.cell? ⟨K0, 4, none⟩ = some (.slice ar n1 capr) ∧ w'.cell? ⟨K0, 5, none⟩ = some (.slice ab n2 capb) ∧ Hid (Below W4.heap.size W4 w')) w1) := Lib.hid (fun w1 h1 => by
   have h2 := hP4.below h1
   obtain ⟨_, _, _, e3⟩ := h2.at_.cells
   have e3 : w1.cell? ⟨mb, 3, none⟩ = some (.int .i64 ro) := by rw [e3]; show some (Value.int .i64 M0.room) = _; rw [Hk.out.2.2.2.2.1]
   exact ⟨e3, by rw [cell_of_row _ _ _ _ _ _ h2.box]; rfl, by rw [cell_of_row _ _ _ _ _ _ h2.box]; rfl, by rw [cell_of_row _ _ _ _ _ _ h2.box]; rfl, by rw [cell_of_row _ _ _ _ _ _ h2.box]; rfl, by rw [cell_of_row _ _ _ _ _ _ h2.box]; rfl, by rw [cell_of_row _ _ _ _ _ _ h2.box]; rfl, Lib.hid h1⟩)
  have hd0 : Below W4.heap.size W4 W4.drew := (Below.refl _ _).drew
  have HS := Lib.hid (Hs.out _ hd0)
  have Hrec := Lib.hid hrec
  have Hrl := Lib.hid hrl
  have Hfi2 := Lib.hid hfi2'
  have Hus := Lib.hid husc
  have Hm4 := Lib.hid hP4
  have Hadd := Lib.hid hadd
  have Hgd := Lib.hid (And.intro hgd hsm)
  clear hrec hrl hfi2' husc hP4 hadd hPc hcut hnx hR hfj hus hgd hsm c1 c2
  go_upto_region 11 with fail
  refine wp_region_noPanic ?_
  refine wp_region_held_drew (S := (fun w' => w'.cell? ⟨mb, 3, none⟩ = some (.int .i64 ro) ∧ w'.cell? ⟨K0, 0, none⟩ = some (.int .i64 (la + 1)) ∧ w'.cell? ⟨K0, 1, none⟩ = some (.int .i64 parent) ∧ w'.cell? ⟨K0, 2, none⟩ = some (.int .i64 born) ∧ w'.cell? ⟨K0, 3, none⟩ = some (.string tf) ∧ w'.cell? ⟨K0, 4, none⟩ = some (.slice ar n1 capr) ∧ w'.cell? ⟨K0, 5, none⟩ = some (.slice ab n2 capb) ∧ Hid (Below W4.heap.size W4 w'))) (by kernel_rfl) (by first | with_reducible exact HS.out | exact Hs.out _ (by with_reducible assumption)) (fun hHeld => ?_)
  refine tkP 0 ?_
  refine rdH 1 fun K hK => ?_
  go_simp
  go_at_call 126; refine (Hfi2.out _ hd0).mono ?_; rintro e wa ⟨rfl, hda⟩; have hba := hd0.trans (hda.mono hd0.size)
  refine hK.out _ _ (by (try dsimp only); first | with_reducible exact HS.out | exact Hs.out _ (by with_reducible assumption)) (fun hHeld => ?_)
  clear hK K
  try simp only [Act.put, qA, qB, qC]
  refine tkP 2 ?_
  refine tkP 3 ?_
  refine tkP 4 ?_
  refine tkP 7 ?_
  refine tkP 8 ?_
  refine tkP 9 ?_
  refine tkP 10 ?_
  refine tkP 11 ?_
  refine rdH 5 fun K hK => ?_
  go_simp
  go_at_call 80; refine (Hrec.out _ hba).mono ?_; rintro e wb ⟨v', rfl, hown, hdb⟩; obtain ⟨a', c', rfl⟩ := own_form0 hown; have hbb := hba.trans (hdb.mono hba.size); rw [Hrl.out]
  refine hK.out _ _ (by (try dsimp only); first | with_reducible exact HS.out | exact Hs.out _ (by with_reducible assumption)) (fun hHeld => ?_)
  clear hK K
  try simp only [Act.put, qA, qB, qC]
  refine tkP 6 ?_
  refine rdH 12 fun K hK => ?_
  go_simp
  go_at_call 36; refine (Hus.out _ hbb).mono ?_; rintro e wd ⟨rfl, hdd⟩; have hbd := hbb.trans (hdd.mono hbb.size)
  refine hK.out _ _ (by (try dsimp only); first | with_reducible exact HS.out | exact Hs.out _ (by with_reducible assumption)) (fun hHeld => ?_)
  clear hK K
  try simp only [Act.put, qA, qB, qC]
  refine tkP 13 ?_
  refine tkP 14 ?_
  refine tkP 15 ?_
  refine wpAnyH_done (by kernel_rfl) ?_ _
  refine NoPanic.normal ?_
  by_cases hfull : ro - (us : Int) < (rl : Int)
  ·have Hbd := Lib.hid (And.intro hbd hfull)
   clear hbd hba hbb hd0 hHeld
   go_wp2
   go_ret2
   have ha := Hadd.out
   rw [if_pos Hbd.out.2] at ha
   have h5 := Hm4.out.below Hbd.out.1
   rw [ha]
   exact ⟨rfl, _, _, _, h5.at_, h5.step⟩
  have hP5 := Hm4.out.below hbd
  obtain ⟨FL, hFL⟩ : ∃ FL : Nat → Prop, (fun k => (Value.slice al nl cl).ownBlock = some k) = FL := ⟨_, rfl⟩
  have hFs : ∀ k, FL k → σ k ∧ k ≠ mb := fun k hk => by rw [← hFL] at hk; exact hP5.at_.slv k hk
  have Hs2 : Hid (∀ w1, Keeps FL wd w1 → (fun w' => w'.cell? ⟨mb, 0, none⟩ = some (.slice al nl cl) ∧ w'.cell? ⟨K0, 0, none⟩ = some (.int .i64 (la + 1)) ∧ w'.cell? ⟨K0, 1, none⟩ = some (.int .i64 parent) ∧ w'.cell? ⟨K0, 2, none⟩ = some (.int .i64 born) ∧ w'.cell? ⟨K0, 3, none⟩ = some (.string tf) ∧ w'.cell? ⟨K0, 4, none⟩ = some (.slice ar n1 capr) ∧ w'.cell? ⟨K0, 5, none⟩ = some (.slice ab n2 capb)) w1) := Lib.hid (fun w1 h1 => by
   have hmd := h1.heap hP5.at_.hd (fun e => (hFs _ e).2 rfl)
   have hbx := h1.heap hP5.box (fun e => Hk.out.1 (hFs _ e).1)
   exact ⟨by rw [cell_of_row _ _ _ _ _ _ hmd]; rfl, by rw [cell_of_row _ _ _ _ _ _ hbx]; rfl, by rw [cell_of_row _ _ _ _ _ _ hbx]; rfl, by rw [cell_of_row _ _ _ _ _ _ hbx]; rfl, by rw [cell_of_row _ _ _ _ _ _ hbx]; rfl, by rw [cell_of_row _ _ _ _ _ _ hbx]; rfl, by rw [cell_of_row _ _ _ _ _ _ hbx]; rfl⟩)
  have Hfz : Hid (∀ w1, Keeps FL wd w1 → w1.frozen? ⟨mb, 0, none⟩ = false) := Lib.hid (fun w1 h1 => frozen_of_row _ _ _ _ _ (h1.heap hP5.at_.hd (fun e => (hFs _ e).2 rfl)))
  have hd2 : Below wd.heap.size wd wd.drew := (Below.refl _ _).drew
  have hkD : Keeps FL wd wd.drew := Keeps.ofBelow hd2
  have hHeld2 := Hs2.out _ hkD
  have HS2 := Lib.hid hHeld2
  have hgi := (good_iff _).1 Hgd.out.1
  have hownc : Calls Tryz.prog 73 #[.agg #[.int .i64 (la + 1), .int .i64 parent, .int .i64 born, .string tf, .slice ar n1 capr, .slice ab n2 capb]] wd.drew (OwnDone wd.drew ⟨la + 1, parent, born, frm, rcpts, body⟩) := by
   have h2 := own_calls ⟨la + 1, parent, born, frm, rcpts, body⟩ (.slice ar rcpts.length capr) (.slice ab body.length capb) wd.drew (hP5.below hd2).r (hP5.below hd2).b Ho.out.2.1.nr Ho.out.2.1.nb (by have := hgi.2.2.2.1.2; dsimp only at this ⊢; omega) (by have := hgi.2.2.2.2.1; dsimp only at this ⊢; omega)
   unfold mailVal at h2
   dsimp only at h2
   rw [Htf.out, Hk.out.2.2.2.2.2.1, Hk.out.2.2.2.2.2.2.1] at h2
   exact h2
  have hown0 : ∀ w1, Below wd.heap.size wd w1 → w1.ownsRow 0 80 8 (.slice al nl cl) nl (bs.flatMap boxCells) := fun w1 h1 => by
   have := (hP5.at_.below h1).own
   rw [Hk.out.2.2.2.2.2.2.2] at this; exact this
  have hq3 : nl + [(⟨⟨⟨la + 1, parent, born, frm, rcpts, body⟩, 105, []⟩, none, 0, none, 0, none, 0⟩ : BoxV)].length ≤ maxLen := by show _ ≤ 9223372036854775807; simp; omega
  have hq4 : (nl + [(⟨⟨⟨la + 1, parent, born, frm, rcpts, body⟩, 105, []⟩, none, 0, none, 0, none, 0⟩ : BoxV)].length) * 120 ≤ 140737488355328 := by simp; omega
  have hfin : ∀ (wo wg w7 : World) (ar' : Option Addr) (cr' : Nat) (ab' : Option Addr) (cb' : Nat) (v7 : Value), wo.ownsRow wd.drew.heap.size 9 1 (.slice ar' rcpts.length cr') rcpts.length (rcpts.flatMap s1) → wo.ownsRow wd.drew.heap.size 5 1 (.slice ab' body.length cb') body.length (body.map u8v) → Below wo.heap.size wo wg → Below wd.heap.size wd wg → w7.ownsRow 0 80 8 v7 (nl + 1) (bs.flatMap boxCells ++ [(⟨⟨⟨la + 1, parent, born, frm, rcpts, body⟩, 105, []⟩, ar', cr', ab', cb', none, 0⟩ : BoxV)].flatMap boxCells) → wg.grownBy w7 (Value.slice al nl cl).ownBlock → (v7.ownBlock = (Value.slice al nl cl).ownBlock ∨ v7.ownBlock = some wg.heap.size) →
   ∃ lv' bs' σ', Ending.returned (.tuple #[.int .i64 (la + 1), .int .i64 0]) = .returned (.tuple #[.int .i64 (M0.add ⟨mid, parent, born, frm, rcpts, body⟩).1, .int .i64 (M0.add ⟨mid, parent, born, frm, rcpts, body⟩).2.1]) ∧ MdlAt (w7.setCell ⟨mb, 0, none⟩ v7) mb (M0.add ⟨mid, parent, born, frm, rcpts, body⟩).2.2 lv' bs' σ' ∧ MdlStep w σ (w7.setCell ⟨mb, 0, none⟩ v7) σ' := by
   intro wo wg w7 ar' cr' ab' cb' v7 o1 o2 hdg hbg hown7 hgr7 hloc7
   have ha := Hadd.out
   rw [if_neg hfull] at ha
   rw [ha]
   have o1g := own_below o1 hdg (Nat.le_refl _)
   have o2g := own_below o2 hdg (Nat.le_refl _)
   obtain ⟨σ', q1, q2⟩ := hP5.at_.more (M' := { M0.next with list := M0.list ++ [⟨⟨la + 1, parent, born, frm, rcpts, body⟩, 105, []⟩] }) (bx := ⟨⟨⟨la + 1, parent, born, frm, rcpts, body⟩, 105, []⟩, ar', cr', ab', cb', none, 0⟩) hbg
    ⟨rdL_ofOwn s1_len (by decide) o1g, rdB_ofOwn o2g, .inl ⟨_, _, rfl, Nat.zero_le _, rfl⟩, nilOk_own o1g, nilOk_own o2g, (fun l c e => by cases e; exact ⟨rfl, rfl⟩), Hgd.out.1, Hgd.out.2⟩
    (fun k e => by
     rcases e with e | e | e
     ·exact o1g.lt k e
     ·exact o2g.lt k e
     ·cases e) rfl ⟨rfl, rfl, rfl⟩ (by rw [Hk.out.2.2.2.2.2.2.2]; exact hown7) hgr7 hloc7
   exact ⟨_, _, σ', rfl, q1, hP5.step.trans q2⟩
  have Hownc := Lib.hid hownc
  have Hown0 := Lib.hid hown0
  have Hfin := Lib.hid hfin
  have HFL := Lib.hid hFL
  clear hownc hown0 hfin hFL hFs hP5 hgi hba hbb hd0 hHeld HS
  have hHeld := hHeld2
  clear hHeld2
  go_upto_region 13 with fail
  refine wp_region_noPanic ?_
  refine wp_region_gate (S := (fun w' => w'.cell? ⟨mb, 0, none⟩ = some (.slice al nl cl) ∧ w'.cell? ⟨K0, 0, none⟩ = some (.int .i64 (la + 1)) ∧ w'.cell? ⟨K0, 1, none⟩ = some (.int .i64 parent) ∧ w'.cell? ⟨K0, 2, none⟩ = some (.int .i64 born) ∧ w'.cell? ⟨K0, 3, none⟩ = some (.string tf) ∧ w'.cell? ⟨K0, 4, none⟩ = some (.slice ar n1 capr) ∧ w'.cell? ⟨K0, 5, none⟩ = some (.slice ab n2 capb))) (z := 12) (by kernel_rfl) ?_
  refine tkQ 0 ?_
  refine tkQ 1 ?_
  refine tkQ 2 ?_
  refine tkQ 3 ?_
  refine tkQ 4 ?_
  refine tkQ 5 ?_
  refine rdG 6 fun K hK => ?_
  go_simp
  go_at_call 73; refine (Hownc.out).mono ?_; rintro e wo ⟨vr', vb', rfl, o1, o2, hdo⟩; obtain ⟨ar', cr', rfl⟩ := own_form0 o1; obtain ⟨ab', cb', rfl⟩ := own_form0 o2; have hbo := hd2.trans (hdo.mono hd2.size); have hkO : Keeps FL wd wo := Keeps.ofBelow hbo; (try dsimp only [mailVal]); rw [Htf.out]
  refine hK.out _ _ (by (try dsimp only); first | with_reducible exact HS2.out | exact Hs2.out _ (by with_reducible assumption)) (fun hHeld => ?_)
  clear hK K
  try simp only [Act.put, qA, qB, qC]
  refine tkQ 7 ?_
  refine rdG 8 fun K hK => ?_
  refine step_box ⟨⟨⟨la + 1, parent, born, frm, rcpts, body⟩, 105, []⟩, ar', cr', ab', cb', none, 0⟩ (by first | rfl | kernel_rfl) (by rfl) (by rw [← Htf.out]; rfl) ?_; rintro wg hG hdg; have hbg := hbo.trans (hdg.mono hbo.size); have hkG : Keeps FL wd wg := Keeps.ofBelow hbg
  refine hK.out _ _ (by (try dsimp only); first | with_reducible exact HS2.out | exact Hs2.out _ (by with_reducible assumption)) (fun hHeld => ?_)
  clear hK K
  try simp only [Act.put, qA, qB, qC]
  refine rdG 9 fun K hK => ?_
  refine step_append_at boxCells_len (by decide) (by first | rfl | kernel_rfl) (.tmp 71) (.tmp 75) 67 (by rfl) 0 80 i0 _ 120 Tryz.underlying67 hi hz0 hz1 hz2 rfl _ _ _ (by rfl) (Hown0.out _ hbg) _ [⟨⟨⟨la + 1, parent, born, frm, rcpts, body⟩, 105, []⟩, ar', cr', ab', cb', none, 0⟩] (by rfl) (rdBox_one hG) (by intro _ _ e; cases e) (boxCells_one _) hq3 hq4 (Nat.zero_le _) ?_; rintro v7 w7 hown7 hgr7 hloc7; have hk7 : Keeps FL wd w7 := hkG.go (Keeps.grown hgr7) (fun k e => .inl (by rw [← HFL.out]; exact e))
  refine hK.out _ _ (by (try dsimp only); first | with_reducible exact HS2.out | exact Hs2.out _ (by with_reducible assumption)) (fun hHeld => ?_)
  clear hK K
  try simp only [Act.put, qA, qB, qC]
  refine tkQ 10 ?_
  refine tkQ 11 ?_
  refine rdZ fun K hK => ?_
  obtain ⟨a7, c7, hv7⟩ := own_form0 hown7; subst hv7; have f0 := Hfz.out _ hk7; obtain ⟨z0, _⟩ := hHeld; go_simp
  refine hK.out _ _ ?_
  clear hK K
  try simp only [Act.put, qA, qB, qC]
  refine wpAnyG_done (by kernel_rfl) ?_ _
  refine NoPanic.normal ?_
  go_wp2
  go_ret2
  obtain ⟨lv', bs', σ', q0, q1, q2⟩ := Hfin.out wo wg w7 _ _ _ _ _ o1 o2 hdg hbg hown7 hgr7 hloc7
  exact ⟨q0, lv', bs', σ', q1, q2⟩
end Go.Proofs.YtffnbkmigapmjaaGreatDoor
