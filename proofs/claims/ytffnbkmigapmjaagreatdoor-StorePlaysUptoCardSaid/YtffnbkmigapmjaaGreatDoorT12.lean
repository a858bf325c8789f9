/-
  The walk of pillarboxref10.Own.
  A directory of files as data, and as a map that the program holds.
  The disk of files (package fs): what it holds, as data; how it lies in memory; and how that stays.
  A directory in memory: look-up, length, store, delete.
  The walks of the closures that change a directory.
-/
import Derived.Test.YtffnbkmigapmjaaGreatDoorT1
import Derived.Test.YtffnbkmigapmjaaGreatDoorT6
import Derived.Test.YtffnbkmigapmjaaGreatDoorT9
import Derived.Test.YtffnbkmigapmjaaGreatDoorT11
import Derived.Maps.Own
import Derived.Maps.OwnSet
import Derived.StringKeys
set_option linter.unusedSimpArgs false
set_option linter.unusedVariables false
namespace Go.Proofs.YtffnbkmigapmjaaGreatDoor
open Go.RowKit
theorem heap6 {w : World} {mb : Nat} (h : ∃ c0 c1 c2 c3 c4 c5, w.heap[mb]? = some (.cells #[c0, c1, c2, c3, c4, c5] 29 (0, 0))) (x0 x1 x2 x3 x4 x5 : Value) :
 ((((((w.setCell ⟨mb, 0, none⟩ x0).setCell ⟨mb, 1, none⟩ x1).setCell ⟨mb, 2, none⟩ x2).setCell ⟨mb, 3, none⟩ x3).setCell ⟨mb, 4, none⟩ x4).setCell ⟨mb, 5, none⟩ x5).heap[mb]? = some (.cells #[x0, x1, x2, x3, x4, x5] 29 (0, 0)) := by
 obtain ⟨c0, c1, c2, c3, c4, c5, hc⟩ := h
 exact heap_setCell_same _ _ 5 _ _ _ (heap_setCell_same _ _ 4 _ _ _ (heap_setCell_same _ _ 3 _ _ _ (heap_setCell_same _ _ 2 _ _ _ (heap_setCell_same _ _ 1 _ _ _ (heap_setCell_same _ _ 0 _ _ _ hc)))))
theorem cells6 {w : World} {mb : Nat} {c0 c1 c2 c3 c4 c5 : Value} (hb : w.heap[mb]? = some (.cells #[c0, c1, c2, c3, c4, c5] 29 (0, 0))) :
 (w.cell? ⟨mb, 0, none⟩ = some c0 ∧ w.cell? ⟨mb, 1, none⟩ = some c1 ∧ w.cell? ⟨mb, 2, none⟩ = some c2 ∧ w.cell? ⟨mb, 3, none⟩ = some c3 ∧ w.cell? ⟨mb, 4, none⟩ = some c4 ∧ w.cell? ⟨mb, 5, none⟩ = some c5) ∧
 (w.frozen? ⟨mb, 0, none⟩ = false ∧ w.frozen? ⟨mb, 1, none⟩ = false ∧ w.frozen? ⟨mb, 2, none⟩ = false ∧ w.frozen? ⟨mb, 3, none⟩ = false ∧ w.frozen? ⟨mb, 4, none⟩ = false ∧ w.frozen? ⟨mb, 5, none⟩ = false) := by
 refine ⟨⟨?_, ?_, ?_, ?_, ?_, ?_⟩, ?_, ?_, ?_, ?_, ?_, ?_⟩
 all_goals first | (rw [cell_of_row _ _ _ _ _ _ hb]; rfl) | simp [World.frozen?, hb]
theorem RdB.keepsN {F : Nat → Prop} {w w' : World} {v : Value} {bs : List UInt8} (h : RdB w v bs) (hk : Keeps F w w') (hF : bs ≠ [] → ∀ k, v.ownBlock = some k → ¬ F k) : RdB w' v bs := by
 rcases h with ⟨a, c, h1, h2⟩ | h
 ·exact .inl ⟨a, c, h1, h2⟩
 ·obtain ⟨b, off, cap, h1, h0, h2⟩ := id h
  exact RdB.keeps (.inr h) hk (hF h0)
def OwnDone (w : World) (m : MailD) (e : Ending) (w' : World) : Prop :=
 ∃ vr vb, e = .returned (mailVal m vr vb) ∧ w'.ownsRow w.heap.size 9 1 vr m.rcpts.length (m.rcpts.flatMap s1) ∧ w'.ownsRow w.heap.size 5 1 vb m.body.length (m.body.map u8v) ∧ Below w.heap.size w w'
set_option maxRecDepth 100000 in
set_option maxHeartbeats 4000000 in
theorem own_calls (m : MailD) (vr vb : Value) (w : World) (hr : RdS w vr m.rcpts) (hb : RdB w vb m.body) (hnr : NilOk vr) (hnb : NilOk vb) (hlr : m.rcpts.length ≤ 1000000) (hlb : m.body.length ≤ 1000000000) :
 Calls Tryz.prog 73 #[mailVal m vr vb] w (OwnDone w m) := by
 obtain ⟨i0, hi, hz0, hz1, hz2⟩ := info_parts infoU8
 obtain ⟨i1, hi1, hy0, hy1, hy2⟩ := info_parts infoStr
 obtain ⟨id, parent, born, frm, rcpts, body⟩ := m
 unfold mailVal OwnDone mailVal
 simp only at hr hb hlr hlb ⊢
 obtain ⟨W, hW⟩ : ∃ W, (w.alloc (.cells #[.int .i64 id, .int .i64 parent, .int .i64 born, .string (strL frm), vr, vb] 29)).alloc (.cells #[.int .i64 0, .int .i64 0, .int .i64 0, .string ⟨#[]⟩, .slice none 0 0, .slice none 0 0] 29) = W := ⟨_, rfl⟩
 have hbW : Below w.heap.size w W := by rw [← hW]; exact ((Below.refl _ _).alloc (Nat.le_refl _) _).alloc (by simp) _
 have hsW : W.heap.size = w.heap.size + 2 := by rw [← hW]; simp
 have hk1 : W.heap[w.heap.size]? = some (.cells #[.int .i64 id, .int .i64 parent, .int .i64 born, .string (strL frm), vr, vb] 29 (0, 0)) := by rw [← hW]; exact heap_alloc2_old _ _ _
 have hk2 : W.heap[w.heap.size + 1]? = some (.cells #[.int .i64 0, .int .i64 0, .int .i64 0, .string ⟨#[]⟩, .slice none 0 0, .slice none 0 0] 29 (0, 0)) := by rw [← hW]; exact heap_alloc2_new _ _ _
 have hr1 := hr.below (Nat.le_refl _) hbW
 have hb1 := hb.below (Nat.le_refl _) hbW
 obtain ⟨ar, capr, rfl, _, _⟩ := hr.form
 obtain ⟨ab, capb, rfl, _, _⟩ := hb.form
 have Hk1 := Lib.hid hk1
 have Hr1 := Lib.hid hr1
 have Hb1 := Lib.hid hb1
 have HW := Lib.hid hW
 generalize strL frm = sf at *
 have Hk2 := Lib.hid hk2
 have hnoM : body ≠ [] → ∀ k, (Value.slice ab body.length capb).ownBlock = some k → k < w.heap.size := fun hne => rdB_lt hb hne
 have HnoM := Lib.hid hnoM
 clear hr hb hr1 hb1 hk1 hk2 hnoM
 obtain ⟨Wa, hWa⟩ : ∃ Wa, W.alloc (.cells #[] 9) = Wa := ⟨_, rfl⟩
 have hba : Below W.heap.size W Wa := by rw [← hWa]; exact (Below.refl _ _).alloc (Nat.le_refl _) _
 have hsa : Wa.heap.size = w.heap.size + 3 := by rw [← hWa]; simp; omega
 have hown0 : Wa.ownsRow W.heap.size 9 1 (.slice (some ⟨W.heap.size, 0, none⟩) 0 0) 0 [] := by rw [← hWa]; exact World.ownsRow_lit W #[] 0 (Nat.le_refl _) (by decide) rfl
 have hka := (hba.block _ (by omega)).trans Hk1.out
 have hka2 := (hba.block _ (by omega)).trans Hk2.out
 have hra := Hr1.out.below (Nat.le_refl _) hba
 have hbda := Hb1.out.below (Nat.le_refl _) hba
 have hm1 : 0 + rcpts.length ≤ maxLen := by show _ ≤ 9223372036854775807; omega
 have hm2 : (0 + rcpts.length) * 16 ≤ 140737488355328 := by omega
 have hbs : W.heap.size ≤ Wa.heap.size := by omega
 have hone := s1_one rcpts
 have ca : Wa.cell? ⟨w.heap.size, 4, none⟩ = some (.slice ar rcpts.length capr) := by rw [cell_of_row _ _ _ _ _ _ hka]; rfl
 have Hka := Lib.hid hka
 have Hka2 := Lib.hid hka2
 have Hra := Lib.hid hra
 have Hbda := Lib.hid hbda
 have Hone := Lib.hid hone
 have Hown0 := Lib.hid hown0
 have Hba := Lib.hid hba
 have HsW := Lib.hid hsW
 have hsz0 : (⟨w.heap.size, 0, none⟩ : Addr) = ⟨w.heap.size, 0, none⟩ := rfl
 clear hka hka2 hra hbda hone hown0 hba
 subst hWa
 subst hW
 have hwsz : ((w.alloc (.cells #[.int .i64 id, .int .i64 parent, .int .i64 born, .string sf, .slice ar rcpts.length capr, .slice ab body.length capb] 29)).alloc (.cells #[.int .i64 0, .int .i64 0, .int .i64 0, .string ⟨#[]⟩, .slice none 0 0, .slice none 0 0] 29)).heap.size = w.heap.size + 2 := by simp
 rw [hwsz] at Hown0 hbs
 go_enter Tryz.func73, Tryz.ntmps73
 go_upto_region 2 with (at_builtin; go_must (refine wpList_append_any s1_len (by decide) rfl (.tmp 3) (.tmp 5) 27 rfl (w.heap.size + 2) 9 i1 (.string ⟨#[]⟩) 16 Tryz.underlying27 hi1 hy0 hy1 hy2 rfl _ _ _ rfl Hown0.out _ rcpts rfl Hra.out hnr Hone.out hm1 hm2 hbs ?_); rintro v2 w2 hown2 hg2 _; rw [Nat.zero_add, List.nil_append] at hown2; obtain ⟨a2, c2, hv2⟩ := own_form0 hown2; subst hv2; have hB2 := (Hba.out).grown hg2 (by rw [hsa, hwsz]; omega) (fun k hk => by cases hk; rw [hwsz]; exact Nat.le_refl _); have hp2 := (hB2.block _ (by rw [hwsz]; omega)).trans Hk1.out; have hq2 := (hB2.block _ (by rw [hwsz]; omega)).trans Hk2.out; have g4 := (cells6 hp2).2.2.2.2.2.1; have a4 := (cells6 hp2).1.2.2.2.2.1)
 have hbel2 : Below w.heap.size w w2 := hbW.trans (hB2.mono (by rw [hwsz]; omega))
 have hbd2 := Hb1.out.below (Nat.le_refl _) hB2
 have hsz2 := hB2.size
 rw [hwsz] at hsz2
 have hv2 := own_base hown2
 have hvl2 := fun k hk => (hown2.lt k hk).2
 clear Hk1 Hk2 Hba Hb1 Hr1 hB2 Hka Hka2 Hra Hbda Hown0 hbs hwsz ca hsa HsW hsW hg2 hm1 hm2 hbW Hone
 obtain ⟨W3, hW3⟩ : ∃ W3, w2.setCell ⟨w.heap.size, 4, none⟩ (.slice a2 rcpts.length c2) = W3 := ⟨_, rfl⟩
 have hK3 : Keeps (fun k => k = w.heap.size) w2 W3 := by rw [← hW3]; exact Keeps.setCell w2 ⟨w.heap.size, 4, none⟩ _ rfl
 have hp3 : W3.heap[w.heap.size]? = some (.cells #[.int .i64 id, .int .i64 parent, .int .i64 born, .string sf, .slice a2 rcpts.length c2, .slice ab body.length capb] 29 (0, 0)) := by rw [← hW3]; exact heap_setCell_same _ _ 4 _ _ _ hp2
 have hq3 := hK3.heap hq2 (by omega)
 have hown3 := own_keeps hown2 hK3 (fun k hk e => by have := hv2 k hk; omega)
 have hbd3 := hbd2.keepsN hK3 (fun hne k hk e => by have := HnoM.out hne k hk; omega)
 have hs3 : W3.heap.size = w2.heap.size := by rw [← hW3]; simp
 have hbel3 : Below w.heap.size w W3 := hbel2.trans (hK3.below (fun k hk => by omega) hbel2.size)
 obtain ⟨Wb, hWb⟩ : ∃ Wb, W3.alloc (.cells #[] 5) = Wb := ⟨_, rfl⟩
 have hbb : Below W3.heap.size W3 Wb := by rw [← hWb]; exact (Below.refl _ _).alloc (Nat.le_refl _) _
 have hsb : Wb.heap.size = w2.heap.size + 1 := by rw [← hWb]; simp [hs3]
 have hownB : Wb.ownsRow w2.heap.size 5 1 (.slice (some ⟨w2.heap.size, 0, none⟩) 0 0) 0 [] := by
  have : (W3.alloc (.cells #[] 5)).ownsRow W3.heap.size 5 1 (.slice (some ⟨W3.heap.size, 0, none⟩) 0 0) 0 [] := World.ownsRow_lit W3 #[] 0 (Nat.le_refl _) (by decide) rfl
  rw [hWb, hs3] at this; exact this
 have hp4 := (hbb.block _ (by omega)).trans hp3
 have hq4 := (hbb.block _ (by omega)).trans hq3
 have hown4 := own_below hown3 hbb (Nat.le_refl _)
 have hbd4 := rdLB (hbd3.below (Nat.le_refl _) hbb)
 have c5 : Wb.cell? ⟨w.heap.size, 5, none⟩ = some (.slice ab body.length capb) := by rw [cell_of_row _ _ _ _ _ _ hp4]; rfl
 have hm1 : 0 + body.length ≤ maxLen := by show _ ≤ 9223372036854775807; omega
 have hm2 : (0 + body.length) * 1 ≤ 140737488355328 := by omega
 have hbs : w2.heap.size ≤ Wb.heap.size := by omega
 have hone := bb1_one body
 have Hone := Lib.hid hone
 have Hbel := Lib.hid (hbel3.trans (hbb.mono hbel3.size))
 have Hp4 := Lib.hid hp4
 have Hq4 := Lib.hid hq4
 have Hown4 := Lib.hid hown4
 have Hvl2 := Lib.hid hvl2
 have Hv2 := Lib.hid hv2
 clear hone hp4 hq4 hown4 hown3 hbd3 hp3 hq3 hK3 hbb hbel3 hvl2 hv2 hbd2 hp2 hq2 hown2 hbel2 hs3 a4 g4
 subst hWb
 subst hW3
 go_wp2_with (at_builtin; go_must (refine wpList_append_any bb1_len (by decide) rfl (.tmp 8) (.tmp 10) 22 rfl w2.heap.size 5 i0 (.int .u8 0) 1 Tryz.underlying22 hi hz0 hz1 hz2 rfl _ _ _ rfl hownB _ body rfl hbd4 hnb Hone.out hm1 hm2 hbs ?_); rintro v5 w5 hown5 hg5 _; rw [Nat.zero_add, List.nil_append] at hown5; obtain ⟨a6, c6, hv6⟩ := own_form0 hown5; subst hv6; have hB5 := ((Below.refl w2.heap.size _)).grown hg5 (by omega) (fun k hk => by cases hk; exact Nat.le_refl _); have hp5 := (hB5.block _ (by omega)).trans Hp4.out; have hq5 := (hB5.block _ (by omega)).trans Hq4.out; obtain ⟨⟨x0, x1, x2, x3, x4, x5⟩, y0, y1, y2, y3, y4, y5⟩ := cells6 hp5; obtain ⟨⟨u0, u1, u2, u3, u4, u5⟩, z0, z1, z2, z3, z4, z5⟩ := cells6 hq5)
 have hown6 := own_keeps Hown4.out (Keeps.grown hg5) (fun k hk e => by have h1 := Hvl2.out _ hk; have h2 : w2.heap.size = k := Option.some.inj e; omega)
 have hbel5 := (Hbel.out).trans (hB5.mono (by omega))
 have hs5 := hB5.size
 have hvb5 := own_base hown5
 have Hp5 := Lib.hid hp5
 have Hq5 := Lib.hid hq5
 have Hown6 := Lib.hid hown6
 have Hown5 := Lib.hid hown5
 have Hvb5 := Lib.hid hvb5
 clear hp5 hq5 hown6 hB5 hg5 hown5 hvb5 Hp4 Hq4 Hown4 hownB hbd4 c5 hm1 hm2 hbs Hbel
 have hK6 : Keeps (fun k => k = w.heap.size ∨ k = w.heap.size + 1) w5 (w5.setCell ⟨w.heap.size, 5, none⟩ (.slice a6 body.length c6)) := Keeps.setCell _ _ _ (.inl rfl)
 have hq6 := (Keeps.setCell (F := fun k => k = w.heap.size) w5 ⟨w.heap.size, 5, none⟩ (.slice a6 body.length c6) rfl).heap Hq5.out (show ¬ (w.heap.size + 1 = w.heap.size) by omega)
 have hB := heap6 ⟨_, _, _, _, _, _, hq6⟩ (.int .i64 id) (.int .i64 parent) (.int .i64 born) (.string sf) (.slice a2 rcpts.length c2) (.slice a6 body.length c6)
 have hst : ∀ (W : World) (j : Nat) (v : Value), Keeps (fun k => k = w.heap.size ∨ k = w.heap.size + 1) W (W.setCell ⟨w.heap.size + 1, j, none⟩ v) := fun W j v => Keeps.setCell _ _ _ (.inr rfl)
 have hKf := (((((hK6.trans (hst _ 0 (.int .i64 id))).trans (hst _ 1 (.int .i64 parent))).trans (hst _ 2 (.int .i64 born))).trans (hst _ 3 (.string sf))).trans (hst _ 4 (.slice a2 rcpts.length c2))).trans (hst _ 5 (.slice a6 body.length c6))
 refine bodyPost_ret (results_row1 rfl _ _ (w.heap.size + 1) 29 _ (0, 0) _ rfl hB Tryz.underlying29 rfl (by kernel_rfl)) rfl ⟨_, _, rfl, own_mono (own_keeps Hown6.out hKf ?_) (by omega), ?_, hbel5.trans (hKf.below (fun k hk => by omega) hbel5.size)⟩
 ·intro k hk e; have := Hv2.out k hk; omega
 ·have h := own_mono (own_keeps Hown5.out hKf (fun k hk e => by have := Hvb5.out k hk; omega)) (base' := w.heap.size) (by omega)
  rw [bb1_flat] at h
  exact h
end Go.Proofs.YtffnbkmigapmjaaGreatDoor
set_option maxRecDepth 100000
namespace Go.Proofs.YtffnbkmigapmjaaGreatDoor
open Go.RowKit Go.Maps
abbrev Nm := List UInt8
def ptrElem : Value → Option (DataW Unit × List MemPlace)
 | .pointer (some ⟨b, 0, none⟩) => some (.lit (.int .i64 b), [])
 | .pointer none => some (.nil, [])
 | _ => none
theorem ptrElem_inv {v : Value} {z : DataW Unit × List MemPlace} (h : ptrElem v = some z) : (v = .pointer none ∧ z = (.nil, [])) ∨ ∃ b : Nat, v = .pointer (some ⟨b, 0, none⟩) ∧ z = (.lit (.int .i64 b), []) := by
 unfold ptrElem at h
 split at h
 ·cases h; exact .inr ⟨_, rfl, rfl⟩
 ·cases h; exact .inl ⟨rfl, rfl⟩
 ·cases h
abbrev Dir := List (Nm × Nat)
def entD (p : Nm × Nat) : Lit × DataW Unit := (.string p.1, .lit (.int .i64 p.2))
def dirD (l : Dir) : DataW Unit := .map (l.map entD)
def Dir.look (l : Dir) (n : Nm) : Option Nat := (l.find? (fun p => p.1 == n)).map (·.2)
def Dir.ins (x : Nm × Nat) : Dir → Dir
 | [] => [x]
 | y :: r => if Lit.before (.string x.1) (.string y.1) then x :: y :: r else y :: Dir.ins x r
def Dir.del (l : Dir) (n : Nm) : Dir := l.filter (fun p => !(p.1 == n))
def Dir.put (l : Dir) (n : Nm) (x : Nat) : Dir := (Dir.del l n).ins (n, x)
theorem same_str (a b : Nm) : (Lit.string a).sameKey (.string b) = (a == b) := by
 unfold Lit.sameKey; rfl
theorem dirD_ins (x : Nm × Nat) : ∀ l : Dir, DataW.insert (entD x) (l.map entD) = (l.ins x).map entD
 | [] => rfl
 | y :: r => by
  rw [List.map_cons, DataW.insert, Dir.ins]
  show (if Lit.before (.string x.1) (.string y.1) then _ else _) = _
  split
  ·rfl
  ·rw [List.map_cons, dirD_ins x r]
theorem dirD_del (l : Dir) (n : Nm) : (dirD l).del (.string n) = dirD (l.del n) := by
 unfold dirD Dir.del
 show DataW.map _ = DataW.map _
 rw [List.filter_map]
 congr 1
theorem dirD_put (l : Dir) (n : Nm) (x : Nat) : (dirD l).put (.string n) (.lit (.int .i64 x)) = dirD (l.put n x) := by
 unfold Dir.put
 show DataW.map (DataW.insert (entD (n, x)) _) = _
 unfold dirD
 rw [← dirD_ins]
 congr 2
 unfold Dir.del
 rw [List.filter_map]
 congr 1
theorem dirD_has (l : Dir) (n : Nm) : Maps.has (dirD l) (.string n) = (l.look n).isSome := by
 unfold dirD Dir.look
 rw [Maps.has_eq, List.any_map, Option.isSome_map]
 induction l with
 | nil => rfl
 | cons p r ih =>
  rw [List.any_cons, List.find?_cons, ih]
  show ((p.1 == n) || _) = _
  cases p.1 == n <;> rfl
theorem dirD_at (l : Dir) (n : Nm) (z : DataW Unit) : (dirD l).atKey (.string n) z = match l.look n with | some x => DataW.lit (.int .i64 (x : Int)) | none => z := by
 unfold dirD Dir.look
 unfold DataW.atKey
 dsimp only
 rw [List.find?_map]
 have : ((fun p : Lit × DataW Unit => p.1.sameKey (.string n)) ∘ entD) = (fun p : Nm × Nat => p.1 == n) := rfl
 rw [this]
 cases List.find? (fun p : Nm × Nat => p.1 == n) l <;> rfl
theorem dirD_size (l : Dir) : Maps.size (dirD l) = l.length := by unfold dirD; rw [Maps.size_eq, List.length_map]
end Go.Proofs.YtffnbkmigapmjaaGreatDoor
set_option maxRecDepth 100000
namespace Go.Proofs.YtffnbkmigapmjaaGreatDoor
open Go.RowKit Go.Maps
inductive Chg where
 | create (n : Nm) (x : Nat)
 | rename (a b : Nm)
 | unlink (n : Nm)
def Chg.on (c : Chg) (l : Dir) : Dir :=
 match c with
 | .create n x => l.put n x
 | .rename a b => match l.look a with | some x => (l.put b x).del a | none => l
 | .unlink n => l.del n
structure FileC where
 bytes : List UInt8
 sure : Nat
 row : Value
inductive Role where
 | fs | now | sure | loose | box | file
 | bytes (x : Nat)
deriving DecidableEq
structure FsD where
 mn : Nat
 ms : Nat
 now : Dir
 sure : Dir
 lv : Value
 loose : List (Chg × Value)
 room : Int
 fuse : Int
 down : Bool
 file : Nat → Option FileC
abbrev Rho := Nat → Option Role
def FsHd (w : World) (f : Nat) (d : FsD) : Prop :=
 w.heap[f]? = some (.cells #[.map (some d.mn), .map (some d.ms), d.lv, .int .i64 d.room, .int .i64 d.fuse, .bool d.down] 96 (0, 0))
def ChgAt (w : World) (ρ : Rho) : Chg → Value → Prop
 | .create n x, v => ∃ b1 b2, v = .func (.func 52) #[] #[.pointer (some ⟨b1, 0, none⟩), .pointer (some ⟨b2, 0, none⟩)] ∧ ρ b1 = some .box ∧ ρ b2 = some .box ∧ w.heap[b1]? = some (.cells #[.pointer (some ⟨x, 0, none⟩)] 98 (0, 0)) ∧ w.heap[b2]? = some (.cells #[.string (strL n)] 9 (0, 0)) ∧ n.length ≤ 80
 | .rename a b, v => ∃ b1 b2, v = .func (.func 159) #[] #[.pointer (some ⟨b1, 0, none⟩), .pointer (some ⟨b2, 0, none⟩)] ∧ ρ b1 = some .box ∧ ρ b2 = some .box ∧ w.heap[b1]? = some (.cells #[.string (strL a)] 9 (0, 0)) ∧ w.heap[b2]? = some (.cells #[.string (strL b)] 9 (0, 0)) ∧ a.length ≤ 80 ∧ b.length ≤ 80
 | .unlink n, v => ∃ b1, v = .func (.func 140) #[] #[.pointer (some ⟨b1, 0, none⟩)] ∧ ρ b1 = some .box ∧ w.heap[b1]? = some (.cells #[.string (strL n)] 9 (0, 0)) ∧ n.length ≤ 80
structure FileAt' (w : World) (ρ : Rho) (x : Nat) (c : FileC) : Prop where
 role : ρ x = some .file
 hd : w.heap[x]? = some (.cells #[c.row, .int .i64 c.sure] 101 (0, 0))
 own : w.ownsRow 0 5 1 c.row c.bytes.length (c.bytes.map u8v)
 rown : ∀ k, c.row.ownBlock = some k → ρ k = some (.bytes x)
 small : c.bytes.length ≤ 16777216
 sure : c.sure ≤ c.bytes.length
structure FsRest (w : World) (d : FsD) (ρ : Rho) : Prop where
 rnow : ρ d.mn = some .now
 rsure : ρ d.ms = some .sure
 dnow : w.ownsMap Tryz.prog 9 ptrElem d.mn d.now.length (dirD d.now)
 dsure : w.ownsMap Tryz.prog 9 ptrElem d.ms d.sure.length (dirD d.sure)
 rlv : ∀ k, d.lv.ownBlock = some k → ρ k = some .loose
 own : w.ownsRow 0 124 1 d.lv d.loose.length (d.loose.map (·.2))
 chg : ∀ p ∈ d.loose, ChgAt w ρ p.1 p.2
 files : ∀ x c, d.file x = some c → FileAt' w ρ x c
 fnow : ∀ p ∈ d.now, (d.file p.2).isSome = true
 fsure : ∀ p ∈ d.sure, (d.file p.2).isSome = true
 lt : ∀ k, (ρ k).isSome = true → k < w.heap.size
structure FsAt (w : World) (f : Nat) (d : FsD) (ρ : Rho) : Prop where
 role : ρ f = some .fs
 hd : FsHd w f d
 rest : FsRest w d ρ
def Rho.has (ρ : Rho) (k : Nat) : Prop := (ρ k).isSome = true
theorem Rho.has_of {ρ : Rho} {k : Nat} {r : Role} (h : ρ k = some r) : ρ.has k := by unfold Rho.has; rw [h]; rfl
theorem Rho.ne {ρ : Rho} {j k : Nat} {r s : Role} (h : ρ j = some r) (h' : ρ k = some s) (hrs : r ≠ s) : j ≠ k := fun e => hrs (by rw [e, h'] at h; exact (Option.some.inj h).symm)
section
variable {w w' : World} {ρ : Rho} {F : Nat → Prop} {f : Nat} {d : FsD}
theorem ownsMap_keeps {b n : Nat} {k : TypeId} {D : DataW Unit} {R : Value → Option (DataW Unit × List MemPlace)} (h : w.ownsMap Tryz.prog k R b n D) (hk : Keeps F w w') (hF : ¬ F b) : w'.ownsMap Tryz.prog k R b n D := by
 obtain ⟨es, clock, h1, h2⟩ := h
 exact ⟨es, clock, hk.heap h1 hF, h2⟩
theorem ChgAt.keeps {c : Chg} {v : Value} (h : ChgAt w ρ c v) (hk : Keeps F w w') (hF : ∀ k, F k → ρ k ≠ some .box) : ChgAt w' ρ c v := by
 cases c with
 | create n x => obtain ⟨b1, b2, h1, h2, h3, h4, h5, h6⟩ := h; exact ⟨b1, b2, h1, h2, h3, hk.heap h4 (fun e => hF _ e h2), hk.heap h5 (fun e => hF _ e h3), h6⟩
 | rename a b => obtain ⟨b1, b2, h1, h2, h3, h4, h5, h6⟩ := h; exact ⟨b1, b2, h1, h2, h3, hk.heap h4 (fun e => hF _ e h2), hk.heap h5 (fun e => hF _ e h3), h6⟩
 | unlink n => obtain ⟨b1, h1, h2, h3, h4⟩ := h; exact ⟨b1, h1, h2, hk.heap h3 (fun e => hF _ e h2), h4⟩
theorem FileAt'.keeps {x : Nat} {c : FileC} (h : FileAt' w ρ x c) (hk : Keeps F w w') (h1 : ¬ F x) (h2 : ∀ k, F k → ρ k ≠ some (.bytes x)) : FileAt' w' ρ x c :=
 ⟨h.role, hk.heap h.hd h1, own_keeps h.own hk (fun k e g => h2 k g (h.rown k e)), h.rown, h.small, h.sure⟩
theorem FsRest.keeps (h : FsRest w d ρ) (hk : Keeps F w w') (hF : ∀ k, F k → ρ k = none ∨ ρ k = some .fs) : FsRest w' d ρ := by
 have hn : ∀ {k : Nat} {r : Role}, ρ k = some r → r ≠ .fs → ¬ F k := fun h1 h2 h3 => by
  rcases hF _ h3 with e | e
  ·rw [e] at h1; cases h1
  ·rw [e] at h1; exact h2 (Option.some.inj h1).symm
 exact ⟨h.rnow, h.rsure, ownsMap_keeps h.dnow hk (hn h.rnow (by decide)), ownsMap_keeps h.dsure hk (hn h.rsure (by decide)), h.rlv, own_keeps h.own hk (fun k e => hn (h.rlv k e) (by decide)),
  fun p hp => (h.chg p hp).keeps hk (fun k e g => hn g (by decide) e), fun x c hx => (h.files x c hx).keeps hk (hn (h.files x c hx).role (by decide)) (fun k e g => hn g (by intro q; cases q) e),
  h.fnow, h.fsure, fun k e => Nat.lt_of_lt_of_le (h.lt k e) hk.size⟩
theorem FsAt.keeps (h : FsAt w f d ρ) (hk : Keeps F w w') (hF : ∀ k, F k → ρ k = none) : FsAt w' f d ρ :=
 ⟨h.role, hk.heap h.hd (fun e => by have := hF _ e; rw [h.role] at this; cases this), h.rest.keeps hk (fun k e => .inl (hF k e))⟩
theorem FsAt.below (h : FsAt w f d ρ) (hb : Below w.heap.size w w') : FsAt w' f d ρ :=
 h.keeps (F := fun _ => False) (Keeps.ofBelow hb) (fun _ e => e.elim)
end
theorem cells2 {w : World} {b : Nat} {t : TypeId} {c0 c1 : Value} (hb : w.heap[b]? = some (.cells #[c0, c1] t (0, 0))) :
 (w.cell? ⟨b, 0, none⟩ = some c0 ∧ w.cell? ⟨b, 1, none⟩ = some c1) ∧ (w.frozen? ⟨b, 0, none⟩ = false ∧ w.frozen? ⟨b, 1, none⟩ = false) :=
 ⟨⟨by rw [cell_of_row _ _ _ _ _ _ hb]; rfl, by rw [cell_of_row _ _ _ _ _ _ hb]; rfl⟩, frozen_of_row _ _ _ _ _ hb, frozen_of_row _ _ _ _ _ hb⟩
theorem fsHd_cells {w : World} {f : Nat} {d : FsD} (hb : FsHd w f d) :
 (w.cell? ⟨f, 0, none⟩ = some (.map (some d.mn)) ∧ w.cell? ⟨f, 1, none⟩ = some (.map (some d.ms)) ∧ w.cell? ⟨f, 2, none⟩ = some d.lv ∧ w.cell? ⟨f, 3, none⟩ = some (.int .i64 d.room) ∧ w.cell? ⟨f, 4, none⟩ = some (.int .i64 d.fuse) ∧ w.cell? ⟨f, 5, none⟩ = some (.bool d.down)) ∧
 (∀ j, w.frozen? ⟨f, j, none⟩ = false) :=
 ⟨⟨by rw [cell_of_row _ _ _ _ _ _ hb]; rfl, by rw [cell_of_row _ _ _ _ _ _ hb]; rfl, by rw [cell_of_row _ _ _ _ _ _ hb]; rfl, by rw [cell_of_row _ _ _ _ _ _ hb]; rfl, by rw [cell_of_row _ _ _ _ _ _ hb]; rfl, by rw [cell_of_row _ _ _ _ _ _ hb]; rfl⟩, fun j => frozen_of_row _ _ _ _ _ hb⟩
end Go.Proofs.YtffnbkmigapmjaaGreatDoor
set_option maxRecDepth 100000
namespace Go.Proofs.YtffnbkmigapmjaaGreatDoor
open Go.RowKit Go.Maps
abbrev DirAt (w : World) (b : Nat) (l : Dir) : Prop := w.ownsMap Tryz.prog 9 ptrElem b l.length (dirD l)
def ptrOf (o : Option Nat) : Value := match o with | some x => .pointer (some ⟨x, 0, none⟩) | none => .pointer none
theorem keyed_str : Keyed Tryz.prog 9 := string_keyed Tryz.underlying9
theorem zero_file (w : World) : (zeroValue 98).run Tryz.prog w = .ok (.pointer none) w := by kernel_rfl
theorem key_str (n : Nm) (hn : n.length ≤ maxLen) : keyOf Tryz.prog 9 (.string (strL n)) = some (.string n) := by
 have := Go.WideMaps.keyOf_string_mk (P := Tryz.prog) Tryz.underlying9 (s := strL n) (by rw [strL_size]; exact hn)
 rw [strL_data] at this; exact this
section
variable {w : World} {b n : Nat} {l : Dir}
theorem dir_fit (h : w.ownsMap Tryz.prog 9 ptrElem b n (dirD l)) : DirAt w b l := by
 obtain ⟨es, clock, h1, h2, h3, h4⟩ := h
 refine ⟨es, clock, h1, h2, ?_, h4⟩
 unfold dirD at h4
 have h5 : l.map entD = ((es.toList.map (Go.WideElems.rg Tryz.prog 9 ptrElem)).foldr DataW.insert []) := by injection h4
 have h6 := congrArg List.length h5
 rw [length_sorted] at h6
 simp at h6
 omega
theorem dir_look (h : DirAt w b l) (k : Nm) (hk : k.length ≤ maxLen) : (Instr.lookup 93 (.map (some b)) (.string (strL k)) true).run Tryz.prog w = .ok (.tuple #[ptrOf (l.look k), .bool (l.look k).isSome]) w := by
 obtain ⟨v, ps, hrun, hv⟩ := h.look_ok keyed_str Tryz.underlying93 (zero_file w) (zd := .nil) (zp := []) rfl (key_str k hk)
 rw [dirD_has, dirD_at] at *
 rw [hrun]
 cases hl : l.look k with
 | none =>
  rw [hl] at hv
  rcases ptrElem_inv hv with ⟨rfl, _⟩ | ⟨x, _, h2⟩
  ·rfl
  ·injection h2 with h3 h4; cases h3
 | some x =>
  rw [hl] at hv
  rcases ptrElem_inv hv with ⟨_, h2⟩ | ⟨y, rfl, h2⟩
  ·injection h2 with h3 h4; cases h3
  ·injection h2 with h3 h4
   have : (x : Int) = (y : Int) := by injection h3 with h3; injection h3
   rw [show y = x by omega]; rfl
theorem dir_len (h : DirAt w b l) (ty : TypeId) : (Builtin.len_ #[93] ty #[.map (some b)]).run Tryz.prog w = .ok (.int .i64 l.length) w := by
 rw [h.len Tryz.underlying93 ty, dirD_size]
theorem dir_put (h : DirAt w b l) (hl : l.length < maxLen) (k : Nm) (hk : k.length ≤ maxLen) (x : Nat) : ∃ w', (Instr.mapUpdate 93 (.map (some b)) (.string (strL k)) (.pointer (some ⟨x, 0, none⟩))).run Tryz.prog w = .ok () w' ∧ DirAt w' b (l.put k x) ∧ Keeps (fun j => j = b) w w' := by
 obtain ⟨w', h1, h2, h3⟩ := h.update keyed_str Tryz.underlying93 hl (key_str k hk) (val := .pointer (some ⟨x, 0, none⟩)) (d := .lit (.int .i64 x)) (ps := []) rfl
 rw [dirD_put] at h2
 exact ⟨w', h1, dir_fit h2, (Keeps.grown h3).mono (fun i _ e => (Option.some.inj e).symm)⟩
theorem dir_del (h : DirAt w b l) (k : Nm) (hk : k.length ≤ maxLen) (ty : TypeId) : ∃ w', (Builtin.delete_ #[93, 9] ty #[.map (some b), .string (strL k)]).run Tryz.prog w = .ok (.tuple #[]) w' ∧ DirAt w' b (l.del k) ∧ Keeps (fun j => j = b) w w' := by
 obtain ⟨w', h1, h2, h3⟩ := h.drop keyed_str Tryz.underlying93 (key_str k hk) ty
 rw [dirD_del] at h2
 exact ⟨w', h1, dir_fit h2, (Keeps.grown h3.grown).mono (fun i _ e => (Option.some.inj e).symm)⟩
end
end Go.Proofs.YtffnbkmigapmjaaGreatDoor
set_option maxRecDepth 100000
namespace Go.Proofs.YtffnbkmigapmjaaGreatDoor
open Go.RowKit Go.Maps
set_option maxHeartbeats 4000000 in
theorem create1_calls (b b1 b2 x : Nat) (n : Nm) (l : Dir) (w : World) (hd : DirAt w b l) (h1 : w.heap[b1]? = some (.cells #[.pointer (some ⟨x, 0, none⟩)] 98 (0, 0))) (h2 : w.heap[b2]? = some (.cells #[.string (strL n)] 9 (0, 0))) (hl : l.length < maxLen) (hn : n.length ≤ maxLen) :
 Calls Tryz.prog 52 #[.map (some b), .pointer (some ⟨b1, 0, none⟩), .pointer (some ⟨b2, 0, none⟩)] w fun e w' => e = .returned (.tuple #[]) ∧ DirAt w' b (l.put n x) ∧ Keeps (fun j => j = b) w w' := by
 obtain ⟨w1, hrun, hd1, hk⟩ := dir_put hd hl n hn x
 have c1 : w.cell? ⟨b1, 0, none⟩ = some (.pointer (some ⟨x, 0, none⟩)) := by rw [cell_of_row _ _ _ _ _ _ h1]; rfl
 have c2 : w.cell? ⟨b2, 0, none⟩ = some (.string (strL n)) := by rw [cell_of_row _ _ _ _ _ _ h2]; rfl
 have Hd := Lib.hid hd1
 clear hd hd1 h1 h2 hn
 generalize strL n = sn at hrun c2
 go_enter Tryz.func52, Tryz.ntmps52
 go_wp2
 go_end0
 exact ⟨rfl, Hd.out, hk⟩
set_option maxHeartbeats 4000000 in
theorem unlink1_calls (b b1 : Nat) (n : Nm) (l : Dir) (w : World) (hd : DirAt w b l) (h1 : w.heap[b1]? = some (.cells #[.string (strL n)] 9 (0, 0))) (hn : n.length ≤ maxLen) :
 Calls Tryz.prog 140 #[.map (some b), .pointer (some ⟨b1, 0, none⟩)] w fun e w' => e = .returned (.tuple #[]) ∧ DirAt w' b (l.del n) ∧ Keeps (fun j => j = b) w w' := by
 obtain ⟨w1, hrun, hd1, hk⟩ := dir_del hd n hn 0
 have c1 : w.cell? ⟨b1, 0, none⟩ = some (.string (strL n)) := by rw [cell_of_row _ _ _ _ _ _ h1]; rfl
 have Hd := Lib.hid hd1
 clear hd hd1 h1 hn
 generalize strL n = sn at hrun c1
 go_enter Tryz.func140, Tryz.ntmps140
 go_wp2
 go_end0
 exact ⟨rfl, Hd.out, hk⟩
theorem dir_look0 {w : World} {b : Nat} {l : Dir} (h : DirAt w b l) (k : Nm) (hk : k.length ≤ maxLen) : (Instr.lookup 93 (.map (some b)) (.string (strL k)) false).run Tryz.prog w = .ok (ptrOf (l.look k)) w := by
 obtain ⟨v, ps, hrun, hv⟩ := h.lookup keyed_str Tryz.underlying93 (zero_file w) (zd := .nil) (zp := []) rfl (key_str k hk)
 rw [dirD_at] at hv
 rw [hrun]
 cases hl : l.look k with
 | none =>
  rw [hl] at hv
  rcases ptrElem_inv hv with ⟨rfl, _⟩ | ⟨x, _, h2⟩
  ·rfl
  ·injection h2 with h3 h4; cases h3
 | some x =>
  rw [hl] at hv
  rcases ptrElem_inv hv with ⟨_, h2⟩ | ⟨y, rfl, h2⟩
  ·injection h2 with h3 h4; cases h3
  ·injection h2 with h3 h4
   have : (x : Int) = (y : Int) := by injection h3 with h3; injection h3
   rw [show y = x by omega]; rfl
set_option maxHeartbeats 4000000 in
theorem rename1_calls (b b1 b2 x : Nat) (m n : Nm) (l : Dir) (w : World) (hd : DirAt w b l) (hx : l.look m = some x) (h1 : w.heap[b1]? = some (.cells #[.string (strL m)] 9 (0, 0))) (h2 : w.heap[b2]? = some (.cells #[.string (strL n)] 9 (0, 0))) (hne : b1 ≠ b) (hl : l.length < maxLen) (hm : m.length ≤ maxLen) (hn : n.length ≤ maxLen) :
 Calls Tryz.prog 159 #[.map (some b), .pointer (some ⟨b1, 0, none⟩), .pointer (some ⟨b2, 0, none⟩)] w fun e w' => e = .returned (.tuple #[]) ∧ DirAt w' b ((l.put n x).del m) ∧ Keeps (fun j => j = b) w w' := by
 have hlook := dir_look0 hd m hm
 rw [hx] at hlook
 have hlook : (Instr.lookup 93 (.map (some b)) (.string (strL m)) false).run Tryz.prog w = .ok (.pointer (some ⟨x, 0, none⟩)) w := hlook
 obtain ⟨w1, hrun, hd1, hk⟩ := dir_put hd hl n hn x
 obtain ⟨w2, hrun2, hd2, hk2⟩ := dir_del hd1 m hm 0
 have c1 : w.cell? ⟨b1, 0, none⟩ = some (.string (strL m)) := by rw [cell_of_row _ _ _ _ _ _ h1]; rfl
 have c2 : w.cell? ⟨b2, 0, none⟩ = some (.string (strL n)) := by rw [cell_of_row _ _ _ _ _ _ h2]; rfl
 have c3 : w1.cell? ⟨b1, 0, none⟩ = some (.string (strL m)) := by rw [cell_of_row _ _ _ _ _ _ (hk.heap h1 hne)]; rfl
 have Hd := Lib.hid hd2
 have Hk := Lib.hid (hk.trans hk2)
 clear hd hd1 hd2 h1 h2 hn hm hx hk hk2 hne
 generalize strL n = sn at hrun c2
 generalize strL m = sm at hrun2 c1 c3 hlook
 go_enter Tryz.func159, Tryz.ntmps159
 go_wp2
 go_end0
 exact ⟨rfl, Hd.out, Hk.out⟩
end Go.Proofs.YtffnbkmigapmjaaGreatDoor
