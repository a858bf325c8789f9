/-
  The walk of pillarboxref10.Record.
  The walk of pillarboxlaw10.one.
  The walk of pillarboxlaw14.one.
  The walk of pillarboxlaw10.answers.
  A file in a block; what the file of law12's answers says.
-/
import Derived.Test.YtffnbkmigapmjaaGreatDoorS10
import Derived.Test.YtffnbkmigapmjaaGreatDoorS14
import Derived.Test.YtffnbkmigapmjaaGreatDoorS33
import Derived.Test.YtffnbkmigapmjaaGreatDoorS36
import Derived.Test.YtffnbkmigapmjaaGreatDoorS40
import Derived.Test.YtffnbkmigapmjaaGreatDoorS46
import Derived.Lib.SlBytesConst
set_option linter.unusedSimpArgs false
set_option linter.unusedVariables false
namespace Go.Proofs.YtffnbkmigapmjaaGreatDoor
open Go.RowKit
/-- One owned row of bytes appended to another one. -/
theorem app_row {P : Program} (hP : P = Tryz.prog) {w : World} {ops : Array Oper} {rest : List Oper} {o : Oper} {a : Act} {Q : Exit → Act → World → Prop} (hgd : o.guard = none) (s1 x : Operand)
    (ho : o.op = .call { callee := .builtin .append, args := #[s1, x], argTypes := #[22, 22] })
    {base b2 : Nat} {v u : Value} {bs ys : List UInt8} (hown : w.ownsRow base 5 1 v bs.length (bs.map u8v)) (hr : w.ownsRow b2 5 1 u ys.length (ys.map u8v))
    (hs : a.eval s1 = v) (hx : a.eval x = u) (hlen : bs.length + ys.length ≤ 1000000000000) (hbase : base ≤ w.heap.size)
    (h : ∀ v' w', w'.ownsRow base 5 1 v' (bs ++ ys).length ((bs ++ ys).map u8v) → w.grownBy w' v.ownBlock → wpList P ops Q rest (a.put o.dst v') w') : wpList P ops Q (o :: rest) a w := by
  subst hP
  obtain ⟨i0, hi, hz0, hz1, hz2⟩ := info_parts infoU8
  refine wpList_append_any bb1_len (by decide) hgd s1 x 22 ho base 5 i0 (.int .u8 0) 1 Tryz.underlying22 hi hz0 hz1 hz2 rfl v bs.length _ hs hown u ys hx (rdLB (rdB_ofOwn hr)) (nilOk_own hr) (bb1_one ys) (by show _ ≤ 9223372036854775807; omega) (by omega) hbase ?_
  intro v' w' h1 h2 _
  rw [bb1_flat, ← List.map_append, ← List.length_append] at h1
  exact h v' w' h1 h2
/-- Three cells below what a call has made, and nothing older has turned. -/
def CellsM (W : World) (M : Nat) (x y z : Value) (w : World) : Prop := w.cell? ⟨M, 0, none⟩ = some x ∧ w.cell? ⟨M, 1, none⟩ = some y ∧ w.cell? ⟨M, 2, none⟩ = some z ∧ Below W.heap.size W w
theorem keepM {W w1 w2 : World} {M : Nat} {x y z : Value} (h : CellsM W M x y z w1) (hb : Below w1.heap.size w1 w2) : CellsM W M x y z w2 := by
  have hl : M < w1.heap.size := World.block_lt_of_cell? w1 ⟨M, 0, none⟩ h.1
  obtain ⟨h1, h2, h3, h4⟩ := h
  have hc := (below_cell hb).1
  exact ⟨by rw [hc _ _ hl]; exact h1, by rw [hc _ _ hl]; exact h2, by rw [hc _ _ hl]; exact h3, h4.trans (hb.mono h4.size)⟩
theorem keepMg {W w1 w2 : World} {M : Nat} {x y z : Value} {row : Option Nat} (hM : M < W.heap.size) (h : CellsM W M x y z w1) (hg : w1.grownBy w2 row) (hr : ∀ k, row = some k → W.heap.size ≤ k) : CellsM W M x y z w2 := by
  have hne : some M ≠ row := fun e => by have := hr _ e.symm; omega
  exact ⟨hg.cell h.1 hne, hg.cell h.2.1 hne, hg.cell h.2.2.1 hne, h.2.2.2.grown hg h.2.2.2.size (fun k hk => hr k hk)⟩
theorem CellsM.lt {W w : World} {M : Nat} {x y z : Value} (h : CellsM W M x y z w) : W.heap.size ≤ w.heap.size := h.2.2.2.size
set_option maxRecDepth 100000 in
set_option maxHeartbeats 16000000 in
theorem record_calls (m : MailD) (vr vb : Value) (w : World) (hr : RdS w vr m.rcpts) (hb : RdB w vb m.body) (hnb : NilOk vb) (hsm : m.small) (hg : m.good = true) :
    Calls Tryz.prog 80 #[mailVal m vr vb] w (RowDone w m.record) := by
  have hgi := (good_iff m).1 hg
  have hin := inner_small m hsm hgi.2.2.2.1.2 hgi.2.2.2.2.1
  have hrec : m.record = lenB m.inner ++ be4 (PbCrc.sum m.inner) := rfl
  clear hg
  obtain ⟨id, parent, born, frm, rcpts, body⟩ := m
  unfold MailD.small at hsm
  unfold mailVal
  simp only at hgi hr hb hsm ⊢
  obtain ⟨⟨h1a, h1b⟩, ⟨h2a, h2b⟩, ⟨h3a, h3b⟩, ⟨h4a, h4b⟩, h5, -⟩ := hgi
  obtain ⟨n0, rfl⟩ := Int.eq_ofNat_of_zero_le (show 0 ≤ id by omega)
  obtain ⟨n1, rfl⟩ := Int.eq_ofNat_of_zero_le h2a
  obtain ⟨n2, rfl⟩ := Int.eq_ofNat_of_zero_le h3a
  obtain ⟨bs, hbs⟩ : ∃ bs, bs = (MailD.mk (n0 : Int) n1 n2 frm rcpts body).inner := ⟨_, rfl⟩
  rw [← hbs] at hin hrec
  rw [hrec]
  have hbs' : bs = ((((num8 n0 ++ num8 n1 ++ num8 n2) ++ lenB frm) ++ num8 rcpts.length) ++ rcpts.flatMap lenB) ++ lenB body := hbs
  clear hbs hrec
  have hlen := fun (j : Nat) => flat_lenB_le (rcpts.take j) 100000 (fun l h => hsm.2 l (List.mem_of_mem_take h))
  obtain ⟨hs1, hs2⟩ := hsm
  obtain ⟨ar, capr, rfl, hlr, hcr⟩ := hr.form
  obtain ⟨ab, capb, rfl, hlb, hcb⟩ := hb.form
  obtain ⟨W, hW⟩ : ∃ W, w.alloc (.cells #[.int .i64 n0, .int .i64 n1, .int .i64 n2, .string (strL frm), .slice ar rcpts.length capr, .slice ab body.length capb] 29) = W := ⟨_, rfl⟩
  have hbW : Below w.heap.size w W := by rw [← hW]; exact (Below.refl _ _).alloc (Nat.le_refl _) _
  have hblkM : W.heap[w.heap.size]? = some (.cells #[.int .i64 n0, .int .i64 n1, .int .i64 n2, .string (strL frm), .slice ar rcpts.length capr, .slice ab body.length capb] 29 (0, 0)) := by rw [← hW]; exact heap_alloc_new w _
  have hsW : W.heap.size = w.heap.size + 1 := by rw [← hW]; simp
  have hcM : ∀ wr, Below W.heap.size W wr → ∀ (j : Nat) v, (#[Value.int .i64 n0, .int .i64 n1, .int .i64 n2, .string (strL frm), .slice ar rcpts.length capr, .slice ab body.length capb] : Array Value)[j]? = some v → wr.cell? ⟨w.heap.size, j, none⟩ = some v := by
    intro wr hB j v hv; rw [cell_of_row _ _ _ _ _ _ ((hB.block _ (by omega)).trans hblkM)]; exact hv
  have hrW := hr.below (Nat.le_refl _) hbW
  have hbdW := hb.below (Nat.le_refl _) hbW
  have Hbs := Lib.hid hbs'
  have Hr := Lib.hid hrW
  have Hb := Lib.hid hbdW
  have HcM := Lib.hid hcM
  have Hnb := Lib.hid hnb
  have Hlen := Lib.hid hlen
  have Hs2 := Lib.hid hs2
  have hc3 := fun W' h => hcM W' h 3 _ rfl
  clear hbs' hr hb hrW hbdW hblkM hnb hlen hs2 hcM hc3
  have hcW := (HcM.out W (Below.refl _ _))
  have hs0 : Hid (CellsM W w.heap.size (.int .i64 (n0 : Int)) (.int .i64 (n1 : Int)) (.int .i64 (n2 : Int)) W.drew) := ⟨hcW 0 _ rfl, hcW 1 _ rfl, hcW 2 _ rfl, (Below.refl _ _).drew⟩
  have hMW : w.heap.size < W.heap.size := by omega
  clear hcW
  have HW := Lib.hid hW.symm
  have hl := num8_length
  go_enter Tryz.func80, Tryz.ntmps80
  go_wp2
  go_region_held3 (fun w' => w'.cell? ⟨w.heap.size, 0, none⟩ = some (.int .i64 (n0 : Int)) ∧ w'.cell? ⟨w.heap.size, 1, none⟩ = some (.int .i64 (n1 : Int)) ∧ w'.cell? ⟨w.heap.size, 2, none⟩ = some (.int .i64 (n2 : Int)) ∧ Below W.heap.size W w') (first | exact hs0.out | exact keepM (by assumption) (by assumption) | exact keepMg hMW (by assumption) (by assumption) (by intro k hk; cases hk; omega))
    (first
      | (go_at_call 123; refine (refNum8 _ (by omega) _).mono ?_; rintro e w2 ⟨g, cap, rfl, hown, hb, hg⟩; have hBg := Nat.le_trans (CellsM.lt (M := w.heap.size) (x := .int .i64 (n0 : Int)) (y := .int .i64 (n1 : Int)) (z := .int .i64 (n2 : Int)) (W := W) (by assumption)) hg)
      | (refine step_app_own rfl (.tmp 7) (.tmp 10) rfl (by rfl) (by rfl) (by first | assumption | exact own_below (by assumption) (by assumption) (Nat.le_refl _)) (by assumption) (by decide) (by decide) ?_; rintro g cap w4 hown4 hg4 hat4 hlt4; have hBc := CellsM.lt (W := W) (M := w.heap.size) (x := .int .i64 (n0 : Int)) (y := .int .i64 (n1 : Int)) (z := .int .i64 (n2 : Int)) (by assumption); have hBg4 : W.heap.size ≤ g := by omega)
      | (refine step_app_own rfl (.tmp 11) (.tmp 14) rfl (by rfl) (by rfl) (by first | assumption | exact own_below (by assumption) (by assumption) (Nat.le_refl _)) (by assumption) (by decide) (by decide) ?_; rintro g cap w4 hown4 hg4 hat4 hlt4; have hBc := CellsM.lt (W := W) (M := w.heap.size) (x := .int .i64 (n0 : Int)) (y := .int .i64 (n1 : Int)) (z := .int .i64 (n2 : Int)) (by assumption); have hBg4 : W.heap.size ≤ g := by omega))
  have hbel : Below W.heap.size W w4 := ((by assumption : CellsM W w.heap.size (.int .i64 (n0 : Int)) (.int .i64 (n1 : Int)) (.int .i64 (n2 : Int)) w4)).2.2.2
  have hl24 : (num8 n0 ++ num8 n1 ++ num8 n2).length = 24 := by simp [num8_length]
  have hown5 : w4.ownsRow W.heap.size 5 1 (.slice (some ⟨g, 0, none⟩) 24 cap) (num8 n0 ++ num8 n1 ++ num8 n2).length ((num8 n0 ++ num8 n1 ++ num8 n2).map u8v) := by rw [hl24]; exact own_mono hown4 (by simp)
  generalize Value.slice (some ⟨g, 0, none⟩) 24 cap = v3 at hown5 ⊢
  generalize num8 n0 ++ num8 n1 ++ num8 n2 = p3 at hown5 Hbs hl24
  clear hown4 hg4 hat4 hlt4 hBc hBg4 hBg hg hb hown
  have c3 := HcM.out w4 hbel 3 _ rfl
  obtain ⟨C, W5, hrun, hrd, hb5⟩ := conv_text frm (by omega) w4
  have hcall := refBytes_calls _ frm W5 hrd (fun l c e => by cases e) (by omega)
  generalize strL frm = sf at c3 hrun
  have Hcall := Lib.hid hcall
  have hbel5 := hbel.trans (hb5.mono hbel.size)
  clear hcall hrd hW HW
  go_wp2_with fail
  refine (Hcall.out).mono ?_; rintro e w6 ⟨v6, rfl, hown6, hb6⟩
  have hbel6 := hbel5.trans (hb6.mono hbel5.size)
  have hownA := own_below (own_below hown5 hb5 (Nat.le_refl _)) hb6 (Nat.le_refl _)
  have hlL := lenB_length frm
  go_upto_region 3 with (at_builtin; go_must (refine app_row rfl rfl (.tmp 16) (.tmp 20) rfl hownA hown6 rfl rfl (by omega) hbel6.size ?_); rintro v7 w7 hown7 hg7)
  have hbel7 : Below W.heap.size W w7 := hbel6.grown hg7 hbel6.size (fun k hk => own_base hownA k hk)
  generalize hp4 : p3 ++ lenB frm = p4 at hown7
  have hl4 : p4.length ≤ 24 + 8 + 100000 := by rw [← hp4, List.length_append]; omega
  have Hp4 := Lib.hid hp4
  have c4 := HcM.out w7 hbel7 4 _ rfl
  have hcall2 := refNum_calls rcpts.length (by omega) w7
  have Hcall2 := Lib.hid hcall2
  clear hp4 hownA hown6 hb6 hg7 hcall2 hown5 hbel6 hbel5 hb5
  go_wp2_with fail
  refine (Hcall2.out).mono ?_; rintro e w8 ⟨v8, rfl, hown8, hb8⟩
  have hbel8 := hbel7.trans (hb8.mono hbel7.size)
  have hownA := own_below hown7 hb8 (Nat.le_refl _)
  have hl8 := num8_length rcpts.length
  go_upto_region 4 with (at_builtin; go_must (refine app_row rfl rfl (.tmp 22) (.tmp 26) rfl hownA hown8 rfl rfl (by omega) hbel8.size ?_); rintro v9 w9 hown9 hg9)
  have hbel9 : Below W.heap.size W w9 := hbel8.grown hg9 hbel8.size (fun k hk => own_base hownA k hk)
  generalize hp5 : p4 ++ num8 rcpts.length = p5 at hown9
  have hl5 : p5.length ≤ 24 + 8 + 100000 + 8 := by rw [← hp5, List.length_append]; omega
  have Hp5 := Lib.hid hp5
  have Hown9 := Lib.hid hown9
  clear hp5 hownA hown8 hb8 hg9 hbel8 hown9 hbel7 hown7 c4 c3
  go_wp2
  go_loopw [3, 4] (fun v i wr => ∃ j : Nat, j ≤ rcpts.length ∧ i = .int .i64 j ∧ wr.ownsRow W.heap.size 5 1 v (p5 ++ (rcpts.take j).flatMap lenB).length ((p5 ++ (rcpts.take j).flatMap lenB).map u8v) ∧ Below W.heap.size W wr) (fun _ i _ => rcpts.length - (intOf i).toNat)
  case atStart => exact ⟨0, Nat.zero_le _, rfl, by simpa using Hown9.out, hbel9⟩
  case round =>
    obtain ⟨j, hj, rfl, hown, hbw⟩ := hrel
    by_cases hlt : j < rcpts.length
    · obtain ⟨x, hx⟩ : ∃ x, rcpts[j]? = some x := ⟨_, List.getElem?_eq_getElem hlt⟩
      obtain ⟨b1, o1, k1, e1, _, q1⟩ := RdS.at (Hr.out.below (Nat.le_refl _) hbw) hx
      cases e1
      have c4 := HcM.out _ hbw 4 _ rfl
      have hxl := Hs2.out x (List.mem_of_getElem? hx)
      have hlj := Hlen.out j
      have hlj2 : (rcpts.take j).length * (8 + 100000) ≤ 8 * (8 + 100000) := Nat.mul_le_mul_right _ (by rw [List.length_take]; omega)
      have hnx : p5 ++ (rcpts.take (j + 1)).flatMap lenB = (p5 ++ (rcpts.take j).flatMap lenB) ++ lenB x := by rw [take_snoc hx, List.flatMap_append, List.append_assoc]; simp
      have hql : (p5 ++ (rcpts.take j).flatMap lenB).length ≤ 1000000 := by rw [List.length_append]; omega
      generalize p5 ++ (rcpts.take j).flatMap lenB = q at hown hnx hql
      have Hnx := Lib.hid hnx
      obtain ⟨C, W2, hrun, hrd, hb2⟩ := conv_text x (by omega) ‹World›
      have hcall := refBytes_calls _ x W2 hrd (fun l c e => by cases e) (by omega)
      generalize strL x = sx at q1 hrun
      have Hcall := Lib.hid hcall
      have hj0 : (0 : Int) ≤ (j : Int) := by omega
      have hj1 : (j : Int) < (rcpts.length : Int) := by omega
      have hbel2 := hbw.trans (hb2.mono hbw.size)
      have hownA := own_below hown hb2 (Nat.le_refl _)
      clear hcall hrd hnx hx hlj hlj2
      go_wp2_with fail
      refine (Hcall.out).mono ?_; rintro e w4 ⟨v4, rfl, hown4, hb4⟩
      have hbel4 := hbel2.trans (hb4.mono hbel2.size)
      have hownB := own_below hownA hb4 (Nat.le_refl _)
      have hlL := lenB_length x
      go_wp2_with (at_builtin; go_must (refine app_row rfl rfl (.tmp 35) (.tmp 42) rfl hownB hown4 rfl rfl (by omega) hbel4.size ?_); rintro v5 w5 hown5 hg5)
      have hbel5 : Below W.heap.size W w5 := hbel4.grown hg5 hbel4.size (fun k hk => own_base hownB k hk)
      rw [← Hnx.out] at hown5
      have Hown5 := Lib.hid hown5
      clear hown5
      go_roundw
      case rel => exact ⟨j + 1, by omega, by simp, Hown5.out, hbel5⟩
      case measure => simp [intOf] <;> omega
    · have hje : j = rcpts.length := by omega
      have hlj := Hlen.out j
      have hlj2 : (rcpts.take j).length * (8 + 100000) ≤ 8 * (8 + 100000) := Nat.mul_le_mul_right _ (by rw [List.length_take]; omega)
      subst hje
      rw [List.take_of_length_le (Nat.le_refl _)] at hown hlj hlj2
      generalize hp6 : p5 ++ rcpts.flatMap lenB = p6 at hown
      have hl6 : p6.length ≤ 1000000 := by rw [← hp6, List.length_append]; omega
      have Hp6 := Lib.hid hp6
      clear hp6 hlj hlj2
      have c4 := HcM.out _ hbw 4 _ rfl
      have c5 := HcM.out _ hbw 5 _ rfl
      have hcall := refBytes_calls _ body _ (Hb.out.below (Nat.le_refl _) hbw) Hnb.out (by omega)
      have Hcall := Lib.hid hcall
      clear hcall
      go_wp2_with fail
      refine (Hcall.out).mono ?_; rintro e wA ⟨vA, rfl, hownA, hbA⟩
      have hbelA := hbw.trans (hbA.mono hbw.size)
      have hownB := own_below hown hbA (Nat.le_refl _)
      have hlL := lenB_length body
      go_upto_region 9 with (at_builtin; go_must (refine app_row rfl rfl (.tmp 44) (.tmp 47) rfl hownB hownA rfl rfl (by omega) hbelA.size ?_); rintro vB wB hownC hgB)
      have hbelB : Below W.heap.size W wB := hbelA.grown hgB hbelA.size (fun k hk => own_base hownB k hk)
      have hin' : p6 ++ lenB body = bs := by rw [Hbs.out, ← Hp6.out, ← Hp5.out, ← Hp4.out]
      rw [hin'] at hownC
      have hrb := rdB_ofOwn hownC
      have hcallC := refBytes_calls _ bs _ hrb (nilOk_own hownC) (by omega)
      have HcallC := Lib.hid hcallC
      have Hrb := Lib.hid hrb
      clear hcallC hrb hownB hownA hgB hin'
      go_wp2_with fail
      refine (HcallC.out).mono ?_; rintro e wC ⟨vC, rfl, hownD, hbC⟩
      have hcallD := refSum_calls _ bs wC (Hrb.out.below (Nat.le_refl _) hbC)
      have HcallD := Lib.hid hcallD
      have hbelC := hbelB.trans (hbC.mono hbelB.size)
      clear hcallD
      go_wp2_with fail
      refine (HcallD.out).mono ?_; rintro e wD ⟨vD, rfl, hownE, hbD⟩
      have hbelD := hbelC.trans (hbD.mono hbelC.size)
      have hownF := own_mono (own_below hownD hbD (Nat.le_refl _)) hbelB.size
      have hlB := lenB_length bs
      have hl4' : (be4 (PbCrc.sum bs)).length = 4 := rfl
      go_wp2_with (at_builtin; go_must (refine app_row rfl rfl (.tmp 50) (.tmp 52) rfl hownF hownE rfl rfl (by omega) hbelD.size ?_); rintro vG wG hownG hgG)
      go_ret
      have hbelG : Below W.heap.size W wG := hbelD.grown hgG hbelD.size (fun k hk => own_base hownF k hk)
      exact ⟨vG, rfl, own_mono hownG (by omega), hbW.trans (hbelG.mono hbW.size)⟩
end Go.Proofs.YtffnbkmigapmjaaGreatDoor

set_option linter.unusedSimpArgs false
set_option linter.unusedVariables false
namespace Go.Proofs.YtffnbkmigapmjaaGreatDoor
open Go.RowKit
/-- A mail whose slices are new rows. -/
def MailNew (w : World) (m : MailD) (e : Ending) (w' : World) : Prop :=
  ∃ vr vb, e = .returned (mailVal m vr vb) ∧ RdS w' vr m.rcpts ∧ RdB w' vb m.body ∧ NilOk vr ∧ NilOk vb ∧ (∀ k, vr.ownBlock = some k → w.heap.size ≤ k ∧ k < w'.heap.size) ∧ (∀ k, vb.ownBlock = some k → w.heap.size ≤ k ∧ k < w'.heap.size) ∧ Below w.heap.size w w'
def oneD : MailD := ⟨1, 0, 0, [], [[97, 64, 98]], [120, 10]⟩
theorem oneD_good : oneD.good = true := by kernel_rfl
theorem oneD_small : oneD.small := ⟨by decide, by decide⟩
end Go.Proofs.YtffnbkmigapmjaaGreatDoor

set_option linter.unusedSimpArgs false
set_option linter.unusedVariables false
namespace Go.Proofs.YtffnbkmigapmjaaGreatDoor
open Go.RowKit
def one14 : MailD := ⟨0, 0, 0, [], [[97, 64, 98]], [120, 10]⟩
theorem one14_good : ({ one14 with id := 999999999 } : MailD).good = true := by kernel_rfl
theorem one14_good1 : ({ one14 with id := 1 } : MailD).good = true := by kernel_rfl
theorem one14_small : one14.small := ⟨by decide, by decide⟩
set_option maxRecDepth 100000 in
set_option maxHeartbeats 4000000 in
theorem one14_calls (w : World) : Calls Tryz.prog 25 #[] w (MailNew w one14) := by
  have hz : ∀ w, (zeroValue 29).run Tryz.prog w = .ok (.agg #[.int .i64 0, .int .i64 0, .int .i64 0, .string ⟨#[]⟩, .slice none 0 0, .slice none 0 0]) w := fun _ => by kernel_rfl
  have kc := fun (w : World) (C : Array Value) (n c : Nat) => Lib.run_convert_bytes_const (P := Tryz.prog) w 22 5 C n c Tryz.underlying22 Tryz.underlying5
  have hkc : (convert 22 22 (.slice (some ⟨w.heap.size + 1 + 1, 0, none⟩) 2 2)).run Tryz.prog (((w.alloc (.cells #[.int .i64 0, .int .i64 0, .int .i64 0, .string ⟨#[]⟩, .slice none 0 0, .slice none 0 0] 29)).alloc (.cells #[.string ⟨#[97, 64, 98]⟩] 9)).alloc (.cells #[.int .u8 120, .int .u8 10] 5)) = .ok (.slice (some ⟨w.heap.size + 1 + 1, 0, none⟩) 2 2) (((w.alloc (.cells #[.int .i64 0, .int .i64 0, .int .i64 0, .string ⟨#[]⟩, .slice none 0 0, .slice none 0 0] 29)).alloc (.cells #[.string ⟨#[97, 64, 98]⟩] 9)).alloc (.cells #[.int .u8 120, .int .u8 10] 5 (2, 3))) := by
    have h : (convert 22 22 _).run Tryz.prog _ = Result.ok _ (World.alloc _ (.cells #[.int .u8 120, .int .u8 10] 5 (2, 3))) := kc ((w.alloc (.cells #[.int .i64 0, .int .i64 0, .int .i64 0, .string ⟨#[]⟩, .slice none 0 0, .slice none 0 0] 29)).alloc (.cells #[.string ⟨#[97, 64, 98]⟩] 9)) #[.int .u8 120, .int .u8 10] 2 2
    simp only [World.size_alloc] at h
    exact h
  clear kc
  go_enter Tryz.func25, Tryz.ntmps25
  go_wp2
  obtain ⟨cs, hcs⟩ : ∃ cs, #[Value.int .i64 0, .int .i64 0, .int .i64 0, .string ⟨#[]⟩, .slice (some ⟨w.heap.size + 1, 0, none⟩) 1 1, .slice (some ⟨w.heap.size + 1 + 1, 0, none⟩) 2 2] = cs := ⟨_, rfl⟩
  obtain ⟨W1, hW1⟩ : ∃ W1, w.alloc (.cells cs 29) = W1 := ⟨_, rfl⟩
  obtain ⟨W2, hW2⟩ : ∃ W2, W1.alloc (.cells #[.string ⟨#[97, 64, 98]⟩] 9) = W2 := ⟨_, rfl⟩
  obtain ⟨W3, hW3⟩ : ∃ W3, W2.alloc (.cells #[.int .u8 120, .int .u8 10] 5 (2, 3)) = W3 := ⟨_, rfl⟩
  have hb1 : Below w.heap.size w W1 := by rw [← hW1]; exact (Below.refl _ _).alloc (Nat.le_refl _) _
  have hb2 : Below W1.heap.size W1 W2 := by rw [← hW2]; exact (Below.refl _ _).alloc (Nat.le_refl _) _
  have hb3 : Below W2.heap.size W2 W3 := by rw [← hW3]; exact (Below.refl _ _).alloc (Nat.le_refl _) _
  have h1 : W1.heap.size = w.heap.size + 1 := by rw [← hW1]; simp
  have h2 : W2.heap.size = w.heap.size + 1 + 1 := by rw [← hW2]; simp [h1]
  have h3 : W3.heap.size = w.heap.size + 1 + 1 + 1 := by rw [← hW3]; simp [h2]
  have hM : W3.heap[w.heap.size]? = some (.cells cs 29 (0, 0)) :=
    (hb3.block _ (by omega)).trans ((hb2.block _ (by omega)).trans (by rw [← hW1]; exact heap_alloc_new w _))
  have ho1 : W2.ownsRow W1.heap.size 9 1 (.slice (some ⟨W1.heap.size, 0, none⟩) 1 1) 1 [.string ⟨#[97, 64, 98]⟩] := by rw [← hW2]; exact World.ownsRow_lit W1 #[.string ⟨#[97, 64, 98]⟩] 1 (Nat.le_refl _) (by decide) rfl
  have ho2 : RdB W3 (.slice (some ⟨W2.heap.size, 0, none⟩) 2 2) [120, 10] := by
    have hh : W3.heap[W2.heap.size]? = some (.cells ([120, 10].map u8v).toArray 5 (2, 3)) := by rw [← hW3]; exact heap_alloc_new W2 _
    exact rdB_row hh (by decide) (by decide)
  have ho1' := own_below ho1 hb3 (Nat.le_refl _)
  have hbw : Below w.heap.size w W3 := (hb1.trans (hb2.mono (by omega))).trans (hb3.mono (by omega))
  rw [h1] at ho1'
  rw [h2] at ho2
  rw [hcs, hW1, hW2, hW3]
  have hcz : cs.size = 6 := by rw [← hcs]; rfl
  refine bodyPost_ret (results_row1 rfl _ _ w.heap.size 29 cs (0, 0) _ rfl hM Tryz.underlying29 rfl (by rw [hcz]; kernel_rfl)) rfl ?_
  refine ⟨.slice (some ⟨w.heap.size + 1, 0, none⟩) 1 1, .slice (some ⟨w.heap.size + 1 + 1, 0, none⟩) 2 2, by rw [← hcs]; rfl, rdL_ofOwn (xs := [[97, 64, 98]]) s1_len (by decide) ho1', ho2, (fun l c e => by cases e), (fun l c e => by cases e), fun k hk => ?_, fun k hk => ?_, hbw⟩
  · cases hk; show w.heap.size ≤ w.heap.size + 1 ∧ w.heap.size + 1 < _; omega
  · cases hk; show w.heap.size ≤ w.heap.size + 1 + 1 ∧ w.heap.size + 1 + 1 < _; omega
end Go.Proofs.YtffnbkmigapmjaaGreatDoor

set_option linter.unusedSimpArgs false
set_option linter.unusedVariables false
namespace Go.Proofs.YtffnbkmigapmjaaGreatDoor
open Go.RowKit
/-- A mail in a block of its own, and what its slices hold. -/
structure MailAt (w : World) (M : Nat) (m : MailD) (vr vb : Value) : Prop where
  blk : w.heap[M]? = some (.cells #[.int .i64 m.id, .int .i64 m.parent, .int .i64 m.born, .string (strL m.frm), vr, vb] 29 (0, 0))
  rs : RdS w vr m.rcpts
  rb : RdB w vb m.body
theorem MailAt.below {w w' : World} {M : Nat} {m : MailD} {vr vb : Value} (h : MailAt w M m vr vb) (hb : Below w.heap.size w w') : MailAt w' M m vr vb :=
  ⟨(hb.block _ (Array.getElem?_eq_some_iff.1 h.blk).1).trans h.blk, h.rs.below (Nat.le_refl _) hb, h.rb.below (Nat.le_refl _) hb⟩
theorem MailAt.cells {w : World} {M : Nat} {m : MailD} {vr vb : Value} (h : MailAt w M m vr vb) : w.cell? ⟨M, 0, none⟩ = some (.int .i64 m.id) ∧ w.cell? ⟨M, 1, none⟩ = some (.int .i64 m.parent) ∧ w.cell? ⟨M, 2, none⟩ = some (.int .i64 m.born) ∧ w.cell? ⟨M, 3, none⟩ = some (.string (strL m.frm)) ∧ w.cell? ⟨M, 4, none⟩ = some vr ∧ w.cell? ⟨M, 5, none⟩ = some vb := (cells6 h.blk).1
/-- A mail laid into a new block. -/
theorem MailAt.new {w : World} {m : MailD} {vr vb : Value} (hr : RdS w vr m.rcpts) (hb : RdB w vb m.body) :
    MailAt (w.alloc (.cells #[.int .i64 m.id, .int .i64 m.parent, .int .i64 m.born, .string (strL m.frm), vr, vb] 29)) w.heap.size m vr vb :=
  ⟨heap_alloc_new w _, hr.below (Nat.le_refl _) ((Below.refl _ _).alloc (Nat.le_refl _) _), hb.below (Nat.le_refl _) ((Below.refl _ _).alloc (Nat.le_refl _) _)⟩
/-- What stays of a boxed mail. -/
def MailRest (w0 : World) (X : Nat) (m : MailD) (vr vb : Value) (w : World) : Prop := Below w0.heap.size w0 w ∧ MailAt w X m vr vb
abbrev MailS (w0 : World) (X : Nat) (m : MailD) (vr vb : Value) (w' : World) : Prop :=
  w'.cell? ⟨X, 0, none⟩ = some (.int .i64 m.id) ∧ w'.cell? ⟨X, 1, none⟩ = some (.int .i64 m.parent) ∧ w'.cell? ⟨X, 2, none⟩ = some (.int .i64 m.born) ∧ w'.cell? ⟨X, 3, none⟩ = some (.string (strL m.frm)) ∧ w'.cell? ⟨X, 4, none⟩ = some vr ∧ w'.cell? ⟨X, 5, none⟩ = some vb ∧ MailRest w0 X m vr vb w'
theorem MailS.go {w0 w w' : World} {X : Nat} {m : MailD} {vr vb : Value} (hb : Below w.heap.size w w') (h : MailS w0 X m vr vb w) : MailS w0 X m vr vb w' := by
  obtain ⟨_, _, _, _, _, _, h1, h2⟩ := h
  have h2' := h2.below hb
  exact ⟨h2'.cells.1, h2'.cells.2.1, h2'.cells.2.2.1, h2'.cells.2.2.2.1, h2'.cells.2.2.2.2.1, h2'.cells.2.2.2.2.2, h1.trans (hb.mono h1.size), h2'⟩
theorem rdS_nil {w : World} : RdS w (.slice none 0 0) [] := .inl ⟨_, _, rfl, by decide, rfl⟩
theorem rdB_nil {w : World} : RdB w (.slice none 0 0) [] := .inl ⟨_, _, rfl, by decide, rfl⟩
end Go.Proofs.YtffnbkmigapmjaaGreatDoor

set_option linter.unusedSimpArgs false
set_option linter.unusedVariables false
set_option maxRecDepth 100000
namespace Go.Proofs.YtffnbkmigapmjaaGreatDoor
open Go.RowKit
/-- A file in a block of its own, and what its slices hold. -/
structure FileAt (w : World) (X : Nat) (f : FileD) (vr vb vm : Value) : Prop where
  blk : w.heap[X]? = some (.cells #[.int .i64 f.mail.id, .int .i64 f.mail.parent, .int .i64 f.mail.born, .string (strL f.mail.frm), vr, vb, vm, .int .i64 (f.good : Int)] 43 (0, 0))
  rs : RdS w vr f.mail.rcpts
  rb : RdB w vb f.mail.body
  rm : RdM w vm f.marks
theorem FileAt.below {w w' : World} {X : Nat} {f : FileD} {vr vb vm : Value} (h : FileAt w X f vr vb vm) (hb : Below w.heap.size w w') : FileAt w' X f vr vb vm :=
  ⟨(hb.block _ (Array.getElem?_eq_some_iff.1 h.blk).1).trans h.blk, h.rs.below (Nat.le_refl _) hb, h.rb.below (Nat.le_refl _) hb, h.rm.below (Nat.le_refl _) hb⟩
theorem FileAt.new {w : World} {f : FileD} {vr vb vm : Value} (hr : RdS w vr f.mail.rcpts) (hb : RdB w vb f.mail.body) (hm : RdM w vm f.marks) :
    FileAt (w.alloc (.cells #[.int .i64 f.mail.id, .int .i64 f.mail.parent, .int .i64 f.mail.born, .string (strL f.mail.frm), vr, vb, vm, .int .i64 (f.good : Int)] 43)) w.heap.size f vr vb vm :=
  ⟨heap_alloc_new w _, hr.below (Nat.le_refl _) ((Below.refl _ _).alloc (Nat.le_refl _) _), hb.below (Nat.le_refl _) ((Below.refl _ _).alloc (Nat.le_refl _) _), hm.below (Nat.le_refl _) ((Below.refl _ _).alloc (Nat.le_refl _) _)⟩
/-- What stays of a boxed file. -/
def FileRest (w0 : World) (X : Nat) (f : FileD) (vr vb vm : Value) (w : World) : Prop := Below w0.heap.size w0 w ∧ FileAt w X f vr vb vm
abbrev FileS (w0 : World) (X : Nat) (f : FileD) (vr vb vm : Value) (w' : World) : Prop :=
  w'.cell? ⟨X, 0, none⟩ = some (.int .i64 f.mail.id) ∧ w'.cell? ⟨X, 1, none⟩ = some (.int .i64 f.mail.parent) ∧ w'.cell? ⟨X, 2, none⟩ = some (.int .i64 f.mail.born) ∧ w'.cell? ⟨X, 3, none⟩ = some (.string (strL f.mail.frm)) ∧ w'.cell? ⟨X, 4, none⟩ = some vr ∧ w'.cell? ⟨X, 5, none⟩ = some vb ∧ w'.cell? ⟨X, 6, none⟩ = some vm ∧ w'.cell? ⟨X, 7, none⟩ = some (.int .i64 (f.good : Int)) ∧ FileRest w0 X f vr vb vm w'
theorem FileS.of {w0 w : World} {X : Nat} {f : FileD} {vr vb vm : Value} (h : FileRest w0 X f vr vb vm w) : FileS w0 X f vr vb vm w := by
  obtain ⟨c0, c1, c2, c3, c4, c5, c6, c7⟩ := (cells8 h.2.blk).1
  exact ⟨c0, c1, c2, c3, c4, c5, c6, c7, h⟩
theorem FileS.rest {w0 w : World} {X : Nat} {f : FileD} {vr vb vm : Value} (h : FileS w0 X f vr vb vm w) : FileRest w0 X f vr vb vm w := h.2.2.2.2.2.2.2.2
theorem FileS.go {w0 w w' : World} {X : Nat} {f : FileD} {vr vb vm : Value} (hb : Below w.heap.size w w') (h : FileS w0 X f vr vb vm w) : FileS w0 X f vr vb vm w' :=
  FileS.of ⟨h.rest.1.trans (hb.mono h.rest.1.size), h.rest.2.below hb⟩
def fil1M : MailD := ⟨1, 0, 0, [], [[97, 64, 98]], []⟩
def fil1K : MarkD := ⟨1, 0, 0⟩
theorem fil1_good : fil1M.good = true := by kernel_rfl
theorem fil1_small : fil1M.small := ⟨by decide, by decide⟩
theorem fil1K_good : fil1K.good = true := by kernel_rfl
theorem bytesM_one (k : MarkD) : bytesM [k] = k.bytes := by unfold bytesM; rw [List.flatMap_cons, List.flatMap_nil, List.append_nil]
/-- What a good mail's record and good marks say, whatever bytes of one more mark stand behind. -/
theorem fileD_cut (m : MailD) (hs : m.small) (hg : m.good = true) (ks : List MarkD) (hk : ∀ k ∈ ks, k.good = true) (hl : ks.length ≤ 4096) (n : Nat) (hn : n ≤ (bytesM ks).length) :
    fileD (m.record ++ (bytesM ks).take n) = some ⟨m, ks.take (n / 28), m.record.length + 28 * (ks.take (n / 28)).length⟩ := by
  rw [fileD, decode_record m hs hg]
  simp only [Option.map_some]
  rw [List.drop_left, decodeM_cut ks n hk hl hn]
theorem fileD_full (m : MailD) (hs : m.small) (hg : m.good = true) (ks : List MarkD) (hk : ∀ k ∈ ks, k.good = true) (hl : ks.length ≤ 4096) :
    fileD (m.record ++ bytesM ks) = some ⟨m, ks, m.record.length + 28 * ks.length⟩ := by
  have h := fileD_cut m hs hg ks hk hl (bytesM ks).length (Nat.le_refl _)
  rw [List.take_of_length_le (Nat.le_refl _), bytesM_length, Nat.mul_div_cancel_left _ (by decide), List.take_of_length_le (Nat.le_refl _)] at h
  exact h
theorem fil1_file : fileD (fil1M.record ++ fil1K.bytes) = some ⟨fil1M, [fil1K], (fil1M.record ++ fil1K.bytes).length⟩ := by
  have h := fileD_full fil1M fil1_small fil1_good [fil1K] (by intro k hk; rw [List.mem_singleton.1 hk]; exact fil1K_good) (by decide)
  rw [bytesM_one] at h
  rw [h, List.length_append, bytes_length]
  rfl
theorem fil1_len : fil1M.record.length ≤ 1000 ∧ 9 < fil1M.record.length := by rw [record_length]; decide
theorem fil1_none : fileD ((fil1M.record ++ fil1K.bytes).take 9) = none := by
  have := fil1_len.2
  rw [fileD, List.take_append_of_le_length (by omega), decode_cut fil1M fil1_small fil1_good 9 this]
  rfl
theorem fil1_open : openTo (fatesD (nFates 1) [fil1K]) (fatesD (nFates 1) [fil1K]).length = [0] := by kernel_rfl
theorem fil1_waits : (fatesD (nFates 1) [fil1K]).any FateD.waits = true := by kernel_rfl
end Go.Proofs.YtffnbkmigapmjaaGreatDoor
