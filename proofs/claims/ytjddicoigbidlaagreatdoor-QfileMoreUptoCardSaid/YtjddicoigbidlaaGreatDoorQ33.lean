/-
  Steps of drawn regions for the law QfileMore: a slice literal of marks; what a file that was read owns.
-/
import Derived.Test.YtjddicoigbidlaaGreatDoorQ11
import Derived.Test.YtjddicoigbidlaaGreatDoorQ21
import Derived.Test.YtjddicoigbidlaaGreatDoorQ30
import Derived.Test.YtjddicoigbidlaaGreatDoorQ31
import Derived.Test.YtjddicoigbidlaaGreatDoorQ32
import Derived.Great.BuildSlice
set_option linter.unusedSimpArgs false
set_option linter.unusedVariables false
set_option maxRecDepth 100000
namespace Go.Proofs.YtjddicoigbidlaaGreatDoor
open Go.RowKit
/-- A literal of no marks. -/
theorem step_build0 {ops : Array Oper} {o : Oper} {a : Act} {K : Act → World → Prop} {Q : Exit → Act → World → Prop} {E : Prop} {w : World} (hgd : o.guard = none) (ho : o.op = .buildSlice 39 0 #[])
    (h : ∀ g w', w'.ownsRow w.heap.size 52 3 (.slice (some ⟨g, 0, none⟩) 0 0) 0 [] → g = w.heap.size → Below w.heap.size w w' → w'.heap.size = w.heap.size + 1 → K (a.put o.dst (.slice (some ⟨g, 0, none⟩) 0 0)) w') :
    if Region.wanted o (yielded ops a.tmps) = true then Oper.wp Tryz.prog o a w K Q else E := by
  rw [if_pos (by simp [Region.wanted, hgd])]
  obtain ⟨i0, hi, hz0, hz1, hz2⟩ := info_parts infoMark
  have := h w.heap.size (w.alloc (.cells #[] 52)) (World.ownsRow_lit (base := w.heap.size) (size := 3) (e := 52) w #[] 0 (Nat.le_refl _) (by decide) rfl) rfl ((Below.refl _ _).alloc (Nat.le_refl _) _) (by simp)
  unfold Oper.wp
  have he : (Array.map (fun x => (default : Value)) (Array.range 0)) = #[] := by kernel_rfl
  simp [execOp, ho, Instr.buildSlice, run_underlying Tryz.underlying39, sizeOf, typeInfo, hi, Instr.fill, newRow, Result.andThen]
  rw [he]
  exact this
/-- A literal of one mark. -/
theorem step_build1 (k : MarkD) {ops : Array Oper} {o : Oper} {a : Act} {K : Act → World → Prop} {Q : Exit → Act → World → Prop} {E : Prop} {w : World} {x : Operand} (hgd : o.guard = none) (ho : o.op = .buildSlice 39 1 #[(0, x)]) (hx : a.eval x = .agg #[.int .i64 k.kind, .int .i64 k.rcpt, .int .i64 k.n])
    (h : ∀ g w', w'.heap[g]? = some (.cells #[.int .i64 k.kind, .int .i64 k.rcpt, .int .i64 k.n] 52 (0, 0)) → g = w.heap.size → Below w.heap.size w w' → w'.heap.size = w.heap.size + 1 → K (a.put o.dst (.slice (some ⟨g, 0, none⟩) 1 1)) w') :
    if Region.wanted o (yielded ops a.tmps) = true then Oper.wp Tryz.prog o a w K Q else E := by
  rw [if_pos (by simp [Region.wanted, hgd])]
  obtain ⟨i0, hi, hz0, hz1, hz2⟩ := info_parts infoMark
  have := h w.heap.size (w.alloc (.cells #[.int .i64 k.kind, .int .i64 k.rcpt, .int .i64 k.n] 52)) (heap_alloc_new w _) rfl ((Below.refl _ _).alloc (Nat.le_refl _) _) (by simp)
  refine wp_buildSlice 39 52 1 _ ho #[.int .i64 k.kind, .int .i64 k.rcpt, .int .i64 k.n] i0 _ Tryz.underlying39 hi hz0 (by rw [hz1]; decide) (by rw [hz1]; decide) ?_ this
  rw [hz1]
  simp [hx]
  kernel_rfl
/-- One mark in a block is a slice of one mark. -/
theorem rdM_one {w : World} {g : Nat} {k : MarkD} (h : w.heap[g]? = some (.cells #[.int .i64 k.kind, .int .i64 k.rcpt, .int .i64 k.n] 52 (0, 0))) : RdM w (.slice (some ⟨g, 0, none⟩) 1 1) [k] := by
  refine .inr ⟨g, 0, 1, rfl, by simp, Nat.le_refl _, by decide, (Array.getElem?_eq_some_iff.1 h).1, ?_⟩
  intro i x hx j u hu
  match i, hx with
  | 0, hx =>
    cases hx
    have hj : j < 3 := (List.getElem?_eq_some_iff.1 hu).1
    match j, hj, hu with
    | 0, _, hu => cases hu; rw [cell_of_row _ _ _ _ _ _ h]; rfl
    | 1, _, hu => cases hu; rw [cell_of_row _ _ _ _ _ _ h]; rfl
    | 2, _, hu => cases hu; rw [cell_of_row _ _ _ _ _ _ h]; rfl
  | i + 1, hx => cases hx
/-- What a file that was read owns. -/
def FilOwn (m : MailD) (ks : List MarkD) (g : Int) (w : World) (e : Ending) (w' : World) : Prop :=
  ∃ ar cr ab cb am cm, e = .returned (.tuple #[.agg #[.int .i64 m.id, .int .i64 m.parent, .int .i64 m.born, .string (strL m.frm), .slice ar m.rcpts.length cr, .slice ab m.body.length cb, .slice am ks.length cm, .int .i64 g], .bool true]) ∧ w'.ownsRow w.heap.size 9 1 (.slice ar m.rcpts.length cr) m.rcpts.length (m.rcpts.flatMap s1) ∧ w'.ownsRow w.heap.size 5 1 (.slice ab m.body.length cb) m.body.length (m.body.map u8v) ∧ w'.ownsRow w.heap.size 52 3 (.slice am ks.length cm) ks.length (ks.flatMap MarkD.cells) ∧ Below w.heap.size w w'
theorem fil_own {m : MailD} {ks : List MarkD} {G : Nat} {g : Int} (hg : (G : Int) = g) {w : World} {e : Ending} {w' : World} (h : FileRes w (some ⟨m, ks, G⟩) e w') : FilOwn m ks g w e w' := by
  subst hg
  obtain ⟨vr, vb, vm, he, h1, h2, h3, hb⟩ := h
  have h1 : w'.ownsRow w.heap.size 9 1 vr m.rcpts.length (m.rcpts.flatMap s1) := h1
  have h2 : w'.ownsRow w.heap.size 5 1 vb m.body.length (m.body.map u8v) := h2
  have h3 : w'.ownsRow w.heap.size 52 3 vm ks.length (ks.flatMap MarkD.cells) := h3
  obtain ⟨ar, cr, rfl⟩ := own_form0 h1
  obtain ⟨ab, cb, rfl⟩ := own_form0 h2
  obtain ⟨am, cm, rfl⟩ := own_form0 h3
  exact ⟨ar, cr, ab, cb, am, cm, he, h1, h2, h3, hb⟩
/-- A boxed file is written. -/
theorem file_stored {B : Nat} {w : World} {Y : Nat} {m : MailD} {ks : List MarkD} {G : Nat} {g : Int} (hg : (G : Int) = g) {ar ab am : Option Addr} {cr cb cm : Nat}
    (h1 : w.ownsRow B 9 1 (.slice ar m.rcpts.length cr) m.rcpts.length (m.rcpts.flatMap s1)) (h2 : w.ownsRow B 5 1 (.slice ab m.body.length cb) m.body.length (m.body.map u8v)) (h3 : w.ownsRow B 52 3 (.slice am ks.length cm) ks.length (ks.flatMap MarkD.cells))
    (hY : ∃ c0 c1 c2 c3 c4 c5 c6 c7, w.heap[Y]? = some (.cells #[c0, c1, c2, c3, c4, c5, c6, c7] 43 (0, 0))) (hn1 : ∀ j, (Value.slice ar m.rcpts.length cr).ownBlock = some j → j ≠ Y) (hn2 : ∀ j, (Value.slice ab m.body.length cb).ownBlock = some j → j ≠ Y) (hn3 : ∀ j, (Value.slice am ks.length cm).ownBlock = some j → j ≠ Y) :
    FileAt ((((((((w.setCell ⟨Y, 0, none⟩ (.int .i64 m.id)).setCell ⟨Y, 1, none⟩ (.int .i64 m.parent)).setCell ⟨Y, 2, none⟩ (.int .i64 m.born)).setCell ⟨Y, 3, none⟩ (.string (strL m.frm))).setCell ⟨Y, 4, none⟩ (.slice ar m.rcpts.length cr)).setCell ⟨Y, 5, none⟩ (.slice ab m.body.length cb)).setCell ⟨Y, 6, none⟩ (.slice am ks.length cm)).setCell ⟨Y, 7, none⟩ (.int .i64 g)) Y ⟨m, ks, G⟩ (.slice ar m.rcpts.length cr) (.slice ab m.body.length cb) (.slice am ks.length cm) ∧
    Keeps (fun k => k = Y) w ((((((((w.setCell ⟨Y, 0, none⟩ (.int .i64 m.id)).setCell ⟨Y, 1, none⟩ (.int .i64 m.parent)).setCell ⟨Y, 2, none⟩ (.int .i64 m.born)).setCell ⟨Y, 3, none⟩ (.string (strL m.frm))).setCell ⟨Y, 4, none⟩ (.slice ar m.rcpts.length cr)).setCell ⟨Y, 5, none⟩ (.slice ab m.body.length cb)).setCell ⟨Y, 6, none⟩ (.slice am ks.length cm)).setCell ⟨Y, 7, none⟩ (.int .i64 g)) := by
  subst hg
  have hst : ∀ (W : World) (j : Nat) (v : Value), Keeps (fun k => k = Y) W (W.setCell ⟨Y, j, none⟩ v) := fun W j v => Keeps.setCell _ _ _ rfl
  have hB5 := heap8 hY (.int .i64 m.id) (.int .i64 m.parent) (.int .i64 m.born) (.string (strL m.frm)) (.slice ar m.rcpts.length cr) (.slice ab m.body.length cb) (.slice am ks.length cm) (.int .i64 (G : Int))
  have hK := (((((((hst w 0 (.int .i64 m.id)).trans (hst _ 1 (.int .i64 m.parent))).trans (hst _ 2 (.int .i64 m.born))).trans (hst _ 3 (.string (strL m.frm)))).trans (hst _ 4 (.slice ar m.rcpts.length cr))).trans (hst _ 5 (.slice ab m.body.length cb))).trans (hst _ 6 (.slice am ks.length cm))).trans (hst _ 7 (.int .i64 (G : Int)))
  exact ⟨⟨hB5, rdL_ofOwn s1_len (by decide) (own_keeps h1 hK hn1), rdB_ofOwn (own_keeps h2 hK hn2), rdL_ofOwn mark_len (by decide) (own_keeps h3 hK hn3)⟩, hK⟩
/-- A zero file is laid. -/
theorem step_allocF {ops : Array Oper} {o : Oper} {a : Act} {K : Act → World → Prop} {Q : Exit → Act → World → Prop} {E : Prop} {w : World} (hgd : o.guard = none) (ho : o.op = .alloc 43)
    (h : ∀ g w', w'.heap[g]? = some (.cells #[.int .i64 0, .int .i64 0, .int .i64 0, .string ⟨#[]⟩, .slice none 0 0, .slice none 0 0, .slice none 0 0, .int .i64 0] 43 (0, 0)) → g = w.heap.size → Below w.heap.size w w' → w'.heap.size = w.heap.size + 1 → K (a.put o.dst (.pointer (some ⟨g, 0, none⟩))) w') :
    if Region.wanted o (yielded ops a.tmps) = true then Oper.wp Tryz.prog o a w K Q else E := by
  rw [if_pos (by simp [Region.wanted, hgd])]
  have hzF : ∀ w, (zeroValue 43).run Tryz.prog w = .ok (.agg #[.int .i64 0, .int .i64 0, .int .i64 0, .string ⟨#[]⟩, .slice none 0 0, .slice none 0 0, .slice none 0 0, .int .i64 0]) w := fun _ => by kernel_rfl
  have := h w.heap.size (w.alloc (.cells #[.int .i64 0, .int .i64 0, .int .i64 0, .string ⟨#[]⟩, .slice none 0 0, .slice none 0 0, .slice none 0 0, .int .i64 0] 43)) (heap_alloc_new w _) rfl ((Below.refl _ _).alloc (Nat.le_refl _) _) (by simp)
  unfold Oper.wp
  simp [execOp, ho, Instr.alloc, hzF, newVar, newRow, Result.andThen]
  exact this
theorem own_nilOk {w : World} {base : Nat} {e : TypeId} {size : Nat} {v : Value} {n : Nat} {xs : List Value} (h : w.ownsRow base e size v n xs) : NilOk v := by
  intro l c hv
  obtain ⟨_, ⟨h2, h3⟩ | ⟨g, cap, cur, hv', _⟩⟩ := h
  · rw [hv] at h2; cases h2; exact ⟨rfl, rfl⟩
  · rw [hv] at hv'; cases hv'
/-- The cells of a fate of a slice at a block's beginning. -/
theorem fate_at {w : World} {g n cap : Nat} {fs : List FateD} (h : RdF w (.slice (some ⟨g, 0, none⟩) n cap) fs) {i : Nat} {f : FateD} (hf : fs[i]? = some f) :
    w.cell? ⟨g, i * 5, none⟩ = some (.int .i64 f.state) ∧ w.cell? ⟨g, i * 5 + 1, none⟩ = some (.int .i64 f.tries) ∧ w.cell? ⟨g, i * 5 + 2, none⟩ = some (.int .i64 f.next) ∧ w.cell? ⟨g, i * 5 + 3, none⟩ = some (.int .i64 f.crashes) ∧ w.cell? ⟨g, i * 5 + 4, none⟩ = some (.bool f.opened) := by
  obtain ⟨b, off, cap', e, _, h0, h1, h2, h3, h4⟩ := RdL.at5 h hf
  injection e with e1 e2 e3
  injection e1 with e1
  injection e1 with e1 e4
  subst e1; subst e4
  simp only [Nat.zero_add] at h0 h1 h2 h3 h4
  exact ⟨h0, h1, h2, h3, h4⟩
end Go.Proofs.YtjddicoigbidlaaGreatDoor
