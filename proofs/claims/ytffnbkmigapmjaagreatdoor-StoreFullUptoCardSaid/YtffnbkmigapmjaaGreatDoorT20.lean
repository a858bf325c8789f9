/- Printed out of the texts of wip/tpl. -/
import Derived.Test.YtffnbkmigapmjaaGreatDoorT2
import Derived.Test.YtffnbkmigapmjaaGreatDoorT5
import Derived.Test.YtffnbkmigapmjaaGreatDoorT6
import Derived.Test.YtffnbkmigapmjaaGreatDoorT9
import Derived.Test.YtffnbkmigapmjaaGreatDoorT11
set_option linter.unusedSimpArgs false
set_option linter.unusedVariables false
namespace Go.Proofs.YtffnbkmigapmjaaGreatDoor
open Go.RowKit
theorem good_iff (m : MailD) : m.good = true ↔ (1 ≤ m.id ∧ m.id ≤ 999999999) ∧ (0 ≤ m.parent ∧ m.parent ≤ m.id - 1) ∧ (0 ≤ m.born ∧ m.born ≤ 1099511627776) ∧ (1 ≤ m.rcpts.length ∧ m.rcpts.length ≤ 8) ∧ m.body.length ≤ 8192 ∧ bodyB m.body = true ∧ (m.frm.length = 0 ∨ boxB m.frm = true) ∧ m.rcpts.all boxB = true := by
 unfold MailD.good
 simp only [Bool.and_eq_true, Bool.or_eq_true, decide_eq_true_eq]
 constructor
 ·rintro ⟨a, b, c, d, e⟩; exact ⟨a, b, c, by omega, e⟩
 ·rintro ⟨a, b, c, d, e⟩; exact ⟨a, b, c, by omega, e⟩
def MailD.small (m : MailD) : Prop := m.frm.length ≤ 100000 ∧ ∀ l ∈ m.rcpts, l.length ≤ 100000
theorem inner_small (m : MailD) (h : m.small) (hr : m.rcpts.length ≤ 8) (hb : m.body.length ≤ 8192) : m.inner.length ≤ 1000000 := by
 have := flat_lenB_le m.rcpts 100000 h.2
 have h2 := h.1
 have h3 : m.rcpts.length * (8 + 100000) ≤ 8 * (8 + 100000) := Nat.mul_le_mul_right _ hr
 unfold MailD.inner
 simp only [List.length_append, num8_length, lenB_length]
 omega
def EncBad (e : Ending) : Prop := e = .returned (.tuple #[.slice none 0 0, .bool false])
set_option maxRecDepth 100000 in
set_option maxHeartbeats 8000000 in
theorem encode_bad (m : MailD) (vr vb : Value) (w : World) (hr : RdS w vr m.rcpts) (hb : RdB w vb m.body) (hsr : ∀ l ∈ m.rcpts, l.length < 4294967281) (hsf : m.frm.length < 4294967281) (hmax : MaxOk w) (hg : m.good = false) :
 Calls Tryz.prog 114 #[mailVal m vr vb] w fun e w' => EncBad e ∧ Below w.heap.size w w' := by
 obtain ⟨W, hW⟩ : ∃ W, w.alloc (.cells #[.int .i64 m.id, .int .i64 m.parent, .int .i64 m.born, .string (strL m.frm), vr, vb] 29) = W := ⟨_, rfl⟩
 have hbW : Below w.heap.size w W := by rw [← hW]; exact (Below.refl _ _).alloc (Nat.le_refl _) _
 have hgd := envGood_calls m vr vb W (hr.below (Nat.le_refl _) hbW) (hb.below (Nat.le_refl _) hbW) hsr hsf (hmax.below hbW)
 rw [hg] at hgd
 have Hgd := Lib.hid hgd
 clear hgd hg hsr hsf hmax hr hb
 subst hW
 obtain ⟨id, parent, born, frm, rcpts, body⟩ := m
 unfold mailVal at Hgd ⊢
 simp only at Hgd ⊢
 generalize strL frm = sf at *
 go_enter Tryz.func114, Tryz.ntmps114
 go_wp2_with fail
 refine (Hgd.out).mono ?_; rintro e w1 ⟨rfl, hb1⟩
 have hbw1 := hbW.trans (hb1.mono hbW.size)
 go_wp2
 go_ret2
 exact ⟨rfl, hbw1⟩
def EnvEncDone (w : World) (bs : List UInt8) (e : Ending) (w' : World) : Prop :=
 ∃ v', e = .returned (.tuple #[v', .bool true]) ∧ w'.ownsRow w.heap.size 5 1 v' bs.length (bs.map u8v) ∧ Below w.heap.size w w'
set_option maxRecDepth 100000 in
set_option maxHeartbeats 16000000 in
theorem encode_good (m : MailD) (vr vb : Value) (w : World) (hr : RdS w vr m.rcpts) (hb : RdB w vb m.body) (hnb : NilOk vb) (hsm : m.small) (hmax : MaxOk w) (hg : m.good = true) (hor : ∀ k, vr.ownBlock = some k → k < w.heap.size) (hob : ∀ k, vb.ownBlock = some k → k < w.heap.size) :
 Calls Tryz.prog 114 #[mailVal m vr vb] w (EnvEncDone w m.record) := by
 obtain ⟨W, hW⟩ : ∃ W, w.alloc (.cells #[.int .i64 m.id, .int .i64 m.parent, .int .i64 m.born, .string (strL m.frm), vr, vb] 29) = W := ⟨_, rfl⟩
 have hbW : Below w.heap.size w W := by rw [← hW]; exact (Below.refl _ _).alloc (Nat.le_refl _) _
 have hgd := envGood_calls m vr vb W (hr.below (Nat.le_refl _) hbW) (hb.below (Nat.le_refl _) hbW) (fun l h => by have := hsm.2 l h; omega) (by have := hsm.1; omega) (hmax.below hbW)
 rw [hg] at hgd
 have hgi := (good_iff m).1 hg
 have hin := inner_small m hsm hgi.2.2.2.1.2 hgi.2.2.2.2.1
 have hrec : m.record = lenB m.inner ++ be4 (PbCrc.sum m.inner) := rfl
 have Hgd := Lib.hid hgd
 clear hgd hg hmax
 obtain ⟨id, parent, born, frm, rcpts, body⟩ := m
 unfold MailD.small at hsm
 unfold mailVal at Hgd ⊢
 simp only at Hgd hgi hr hb hsm hW ⊢
 obtain ⟨⟨h1a, h1b⟩, ⟨h2a, h2b⟩, ⟨h3a, h3b⟩, ⟨h4a, h4b⟩, h5, -⟩ := hgi
 obtain ⟨n0, rfl⟩ := Int.eq_ofNat_of_zero_le (show 0 ≤ id by omega)
 obtain ⟨n1, rfl⟩ := Int.eq_ofNat_of_zero_le h2a
 obtain ⟨n2, rfl⟩ := Int.eq_ofNat_of_zero_le h3a
 obtain ⟨bs, hbs⟩ : ∃ bs, bs = (MailD.mk (n0 : Int) n1 n2 frm rcpts body).inner := ⟨_, rfl⟩
 rw [← hbs] at hin hrec
 rw [hrec]
 have hbs' : bs = ((((num8 n0 ++ num8 n1 ++ num8 n2) ++ lenB frm) ++ num8 rcpts.length) ++ rcpts.flatMap lenB) ++ lenB body := hbs
 clear hbs hrec
 have hlen := fun (j : Nat) => flat_lenB_le (rcpts.take j) 100000 (fun l h => hsm.2 l (List.mem_of_mem_take h))
 obtain ⟨hs1, hs2⟩ := hsm
 obtain ⟨ar, capr, rfl, hlr, hcr⟩ := hr.form
 obtain ⟨ab, capb, rfl, hlb, hcb⟩ := hb.form
 have hblkM : W.heap[w.heap.size]? = some (.cells #[.int .i64 n0, .int .i64 n1, .int .i64 n2, .string (strL frm), .slice ar rcpts.length capr, .slice ab body.length capb] 29 (0, 0)) := by rw [← hW]; exact heap_alloc_new w _
 have hrW := hr.below (Nat.le_refl _) hbW
 have hbdW := hb.below (Nat.le_refl _) hbW
 have Hbs := Lib.hid hbs'
 have Hr := Lib.hid hrW
 have Hb := Lib.hid hbdW
 have HblkM := Lib.hid hblkM
 have Hor := Lib.hid hor
 have Hob := Lib.hid hob
 have Hnb := Lib.hid hnb
 have Hlen := Lib.hid hlen
 have Hs2 := Lib.hid hs2
 have hsW : W.heap.size = w.heap.size + 1 := by rw [← hW]; simp
 have HsW := Lib.hid hsW
 clear hbs' hr hb hrW hbdW hblkM hor hob hnb hlen hs2 hsW
 subst hW
 go_enter Tryz.func114, Tryz.ntmps114
 go_wp2_with fail
 refine (Hgd.out).mono ?_; rintro e w1 ⟨rfl, hb1⟩
 have hbw1 := hbW.trans (hb1.mono hbW.size)
 have hM : w.heap.size < w1.heap.size := by have := hb1.size; have := HsW.out; omega
 have hblk1 := (hb1.block _ (by rw [HsW.out]; omega)).trans HblkM.out
 have hcM : ∀ (j : Nat) v, (#[Value.int .i64 n0, .int .i64 n1, .int .i64 n2, .string (strL frm), .slice ar rcpts.length capr, .slice ab body.length capb] : Array Value)[j]? = some v → w1.cell? ⟨w.heap.size, j, none⟩ = some v := by
  intro j v hv; rw [cell_of_row _ _ _ _ _ _ hblk1]; exact hv
 obtain ⟨W0, hW0⟩ : ∃ W0, (w1.alloc (.cells #[.slice none 0 0, .bool false] 167)).alloc (.cells #[.int .i64 n0, .int .i64 n1, .int .i64 n2] 3) = W0 := ⟨_, rfl⟩
 have hb10 : Below w1.heap.size w1 W0 := by rw [← hW0]; exact ((Below.refl _ _).alloc (Nat.le_refl _) _).alloc (by simp) _
 have hs0 : W0.heap.size = w1.heap.size + 2 := by rw [← hW0]; simp
 have hwr0 : WrOn W0 w1.heap.size W0 [] := WrOn.start (by rw [← hW0]; exact heap_alloc2_old _ _ _)
 have hi3 : W0.heap[w1.heap.size + 1]? = some (.cells #[.int .i64 n0, .int .i64 n1, .int .i64 n2] 3 (0, 0)) := by rw [← hW0]; exact heap_alloc2_new _ _ _
 have hcI : ∀ (j : Nat) v, (#[Value.int .i64 n0, .int .i64 n1, .int .i64 n2] : Array Value)[j]? = some v → W0.cell? ⟨w1.heap.size + 1, j, none⟩ = some v := by
  intro j v hv; rw [cell_of_row _ _ _ _ _ _ hi3]; exact hv
 have hcM0 : ∀ (j : Nat) v, (#[Value.int .i64 n0, .int .i64 n1, .int .i64 n2, .string (strL frm), .slice ar rcpts.length capr, .slice ab body.length capb] : Array Value)[j]? = some v → W0.cell? ⟨w.heap.size, j, none⟩ = some v :=
  fun j v hv => (hb10.cell (p := ⟨w.heap.size, j, none⟩) hM).trans (hcM j v hv)
 have m0 := hcM 0 _ rfl
 have m1 := hcM 1 _ rfl
 have m2 := hcM 2 _ rfl
 have hr0 := (Hr.out.below (Nat.le_refl _) hb1).below (Nat.le_refl _) hb10
 have hbd0 := (Hb.out.below (Nat.le_refl _) hb1).below (Nat.le_refl _) hb10
 have HcM0 := Lib.hid hcM0
 have HcI := Lib.hid hcI
 have Hr0 := Lib.hid hr0
 have Hbd0 := Lib.hid hbd0
 have Hwr0 := Lib.hid hwr0
 clear hcM0 hcI hr0 hbd0 hwr0 hi3 hcM hblk1
 subst hW0
 go_wp2
 generalize hW0 : (w1.alloc (.cells #[.slice none 0 0, .bool false] 167)).alloc (.cells #[.int .i64 n0, .int .i64 n1, .int .i64 n2] 3) = W0 at *
 have hne1 : w1.heap.size + 1 ≠ w1.heap.size := by omega
 have hneM : w.heap.size ≠ w1.heap.size := by omega
 have hnes : (Value.slice ar rcpts.length capr).ownBlock ≠ some w1.heap.size := fun e => by have := Hor.out _ e; omega
 have hneb : (Value.slice ab body.length capb).ownBlock ≠ some w1.heap.size := fun e => by have := Hob.out _ e; omega
 have Hneb := Lib.hid hneb
 have Hnes := Lib.hid hnes
 clear hnes hneb m0 m1 m2 hb1 Hgd Hr Hb HblkM HsW hW0
 go_loopw [26] (fun i wr => ∃ j : Nat, j ≤ 3 ∧ i = .int .i64 j ∧ WrOn W0 w1.heap.size wr (((num8 n0 ++ num8 n1) ++ num8 n2).take (8 * j))) (fun i _ => 3 - (intOf i).toNat)
 case atStart => exact ⟨0, Nat.zero_le _, rfl, by simpa using Hwr0.out⟩
 case round =>
  obtain ⟨j, hj, rfl, hon⟩ := hrel
  by_cases hlt : j < 3
  ·obtain ⟨n, hn, hcn, hnx⟩ : ∃ n : Nat, n ≤ 4611686018427387904 ∧ wr.cell? ⟨w1.heap.size + 1, j, none⟩ = some (.int .i64 n) ∧ ((num8 n0 ++ num8 n1) ++ num8 n2).take (8 * (j + 1)) = ((num8 n0 ++ num8 n1) ++ num8 n2).take (8 * j) ++ num8 n := by
    have e0 := num8_length n0
    have e1 := num8_length n1
    have e2 := num8_length n2
    match j, hlt with
    | 0, _ => exact ⟨n0, by omega, hon.cell hne1 (HcI.out 0 _ rfl), by rw [List.append_assoc, List.take_append_of_le_length (by omega), List.take_of_length_le (by omega)]; simp⟩
    | 1, _ => exact ⟨n1, by omega, hon.cell hne1 (HcI.out 1 _ rfl), by rw [List.take_append_of_le_length (by simp; omega), List.take_of_length_le (by simp; omega), List.take_append_of_le_length (by simp; omega), List.take_append_of_le_length (by omega), List.take_of_length_le (by omega)]⟩
    | 2, _ => exact ⟨n2, by omega, hon.cell hne1 (HcI.out 2 _ rfl), by rw [List.take_of_length_le (by simp; omega), List.take_append_of_le_length (by simp; omega), List.take_of_length_le (by simp; omega)]⟩
   have hcall := hon.num n hn (by simp; omega)
   rw [← hnx] at hcall
   have Hcall := Lib.hid hcall
   have hj0 : (0 : Int) ≤ (j : Int) := by omega
   have hj1 : (j : Int) < 3 := by omega
   clear hcall hnx hn hon
   go_wp2_with fail
   refine (Hcall.out).mono ?_; rintro e w2 ⟨rfl, hon2⟩
   have Hon2 := Lib.hid hon2
   clear hon2
   go_wp2
   go_roundw
   case rel => exact ⟨j + 1, by omega, by simp, Hon2.out⟩
   case measure => simp [intOf] <;> omega
  ·have hje : j = 3 := by omega
   subst hje
   rw [List.take_of_length_le (by simp [num8_length])] at hon
   generalize hp3 : (num8 n0 ++ num8 n1) ++ num8 n2 = p3 at hon
   have hl3 : p3.length = 24 := by rw [← hp3]; simp [num8_length]
   have Hp3 := Lib.hid hp3
   clear hp3
   have c3 := hon.cell hneM (HcM0.out 3 _ rfl)
   obtain ⟨C, W2, hrun, hrd, hb2⟩ := conv_text frm (by omega) wr
   have hcall := hon.bytes hb2 hrd (fun l c e => by cases e) (fun k hk => by cases hk; have := hon.size; exact ⟨by show wr.heap.size ≠ _; omega, .inr (Nat.le_refl _)⟩) (by omega) (by omega)
   generalize strL frm = sf at c3 hrun
   have Hcall := Lib.hid hcall
   clear hcall hon hrd hb2
   go_wp2_with fail
   refine (Hcall.out).mono ?_; rintro e w2 ⟨rfl, hon2⟩
   generalize hp4 : p3 ++ lenB frm = p4 at hon2
   have hl4 : p4.length ≤ 24 + 8 + 100000 := by rw [← hp4, List.length_append, lenB_length]; omega
   have Hp4 := Lib.hid hp4
   clear hp4
   have c4 := hon2.cell hneM (HcM0.out 4 _ rfl)
   have hcall2 := hon2.num rcpts.length (by omega) (by omega)
   have Hcall2 := Lib.hid hcall2
   clear hcall2 hon2
   go_wp2_with fail
   refine (Hcall2.out).mono ?_; rintro e w3 ⟨rfl, hon3⟩
   generalize hp5 : p4 ++ num8 rcpts.length = p5 at hon3
   have hl5 : p5.length ≤ 24 + 8 + 100000 + 8 := by rw [← hp5, List.length_append, num8_length]; omega
   have Hp5 := Lib.hid hp5
   clear hp5
   have c4' := hon3.cell hneM (HcM0.out 4 _ rfl)
   have Hon3 := Lib.hid hon3
   clear hon3
   go_wp2
   go_loopw [47] (fun i wr => ∃ j : Nat, j ≤ rcpts.length ∧ i = .int .i64 j ∧ WrOn W0 w1.heap.size wr (p5 ++ (rcpts.take j).flatMap lenB)) (fun i _ => rcpts.length - (intOf i).toNat)
   case atStart => exact ⟨0, Nat.zero_le _, rfl, by simpa using Hon3.out⟩
   case round =>
    obtain ⟨j, hj, rfl, hon⟩ := hrel
    by_cases hlt : j < rcpts.length
    ·obtain ⟨x, hx⟩ : ∃ x, rcpts[j]? = some x := ⟨_, List.getElem?_eq_getElem hlt⟩
     obtain ⟨b1, o1, k1, e1, _, p1⟩ := RdS.at (hon.rds Hr0.out Hnes.out) hx
     cases e1
     have hxl := Hs2.out x (List.mem_of_getElem? hx)
     have hlj := Hlen.out j
     have hlj2 : (rcpts.take j).length * (8 + 100000) ≤ 8 * (8 + 100000) := Nat.mul_le_mul_right _ (by rw [List.length_take]; omega)
     obtain ⟨C, W2, hrun, hrd, hb2⟩ := conv_text x (by omega) wr
     have hcall := hon.bytes hb2 hrd (fun l c e => by cases e) (fun k hk => by cases hk; have := hon.size; exact ⟨by show wr.heap.size ≠ _; omega, .inr (Nat.le_refl _)⟩) (by rw [List.length_append]; omega) (by omega)
     have hnx : p5 ++ (rcpts.take (j + 1)).flatMap lenB = (p5 ++ (rcpts.take j).flatMap lenB) ++ lenB x := by rw [take_snoc hx, List.flatMap_append, List.append_assoc]; simp
     rw [← hnx] at hcall
     generalize strL x = sx at p1 hrun
     have Hcall := Lib.hid hcall
     have hj0 : (0 : Int) ≤ (j : Int) := by omega
     have hj1 : (j : Int) < (rcpts.length : Int) := by omega
     clear hcall hon hrd hb2 hnx hx
     go_wp2_with fail
     refine (Hcall.out).mono ?_; rintro e w4 ⟨rfl, hon4⟩
     have Hon4 := Lib.hid hon4
     clear hon4
     go_wp2
     go_roundw
     case rel => exact ⟨j + 1, by omega, by simp, Hon4.out⟩
     case measure => simp [intOf] <;> omega
    ·have hje : j = rcpts.length := by omega
     have hlj := Hlen.out j
     have hlj2 : (rcpts.take j).length * (8 + 100000) ≤ 8 * (8 + 100000) := Nat.mul_le_mul_right _ (by rw [List.length_take]; omega)
     subst hje
     rw [List.take_of_length_le (Nat.le_refl _)] at hon hlj hlj2
     generalize hp6 : p5 ++ rcpts.flatMap lenB = p6 at hon
     have hl6 : p6.length ≤ 1000000 := by rw [← hp6, List.length_append]; omega
     have Hp6 := Lib.hid hp6
     clear hp6 hlj hlj2
     have c5 := hon.cell hneM (HcM0.out 5 _ rfl)
     have hcall := hon.bytes (Below.refl _ _) (hon.rdb Hbd0.out Hneb.out) Hnb.out (fun k hk => ⟨fun e => Hneb.out (by rw [hk, e]), .inl (by have := Hob.out k hk; omega)⟩) (by omega) (by omega)
     have hin' : p6 ++ lenB body = bs := by rw [Hbs.out, ← Hp6.out, ← Hp5.out, ← Hp4.out, ← Hp3.out]
     rw [hin'] at hcall
     have Hcall := Lib.hid hcall
     clear hcall hon hin'
     go_wp2_with fail
     refine (Hcall.out).mono ?_; rintro e w5 ⟨rfl, hon5⟩
     have hout := hon5.out (by omega)
     have hbw5 : Below w1.heap.size w1 w5 := hb10.trans (hon5.below (Nat.le_refl _) (by omega))
     have Hout := Lib.hid hout
     clear hout hon5
     go_wp2_with fail
     refine (Hout.out).mono ?_; rintro e w6 ⟨vi, rfl, hown6, hb6⟩
     have hbw6 := hbw5.trans (hb6.mono hbw5.size)
     have hri := rdB_ofOwn hown6
     have hvb := own_base hown6
     have hvl := fun k hk => (hown6.lt k hk).2
     obtain ⟨W7, hW7⟩ : ∃ W7, w6.alloc (.cells #[.slice none 0 0, .bool false] 167) = W7 := ⟨_, rfl⟩
     have hb7 : Below w6.heap.size w6 W7 := by rw [← hW7]; exact (Below.refl _ _).alloc (Nat.le_refl _) _
     have hs7 : W7.heap.size = w6.heap.size + 1 := by rw [← hW7]; simp
     have hwr7 : WrOn W7 w6.heap.size W7 [] := WrOn.start (by rw [← hW7]; exact heap_alloc_new w6 _)
     have hri7 := hri.below (Nat.le_refl _) hb7
     obtain ⟨ai, capi, hvi⟩ := own_form0 hown6
     have hnil : NilOk vi := by
      obtain ⟨_, ⟨h2, h3⟩ | ⟨g, cap, cur, hv', _⟩⟩ := hown6
      ·intro l c e; rw [e] at h2; cases h2; exact ⟨rfl, rfl⟩
      ·intro l c e; rw [e] at hv'; cases hv'
     have hcall := hwr7.bytes (Below.refl _ _) hri7 hnil (fun k hk => by have := hvl k hk; exact ⟨by omega, .inl (by omega)⟩) (by simp) (by omega)
     rw [List.nil_append] at hcall
     have Hcall := Lib.hid hcall
     have Hri := Lib.hid hri7
     have Hvl := Lib.hid hvl
     have hbw7 := hbw6.trans (hb7.mono hbw6.size)
     have hsz5 := hb6.size
     have hsz1 := hbw5.size
     clear hcall hri hri7 hvl hown6 hwr7 hvb hnil
     subst hvi
     subst hW7
     go_wp2_with fail
     refine (Hcall.out).mono ?_; rintro e w8 ⟨rfl, hon8⟩
     have hout8 := hon8.out (by rw [lenB_length]; omega)
     have hri8 := hon8.rdb Hri.out (fun e => by have := Hvl.out _ e; omega)
     have hb8 : Below w6.heap.size _ w8 := hon8.below (Nat.le_refl _) (by omega)
     have hbw8 := hbw7.trans (hb8.mono (by omega))
     have Hout8 := Lib.hid hout8
     have Hri8 := Lib.hid hri8
     have hs8 := hon8.size
     clear hout8 hri8 hon8
     go_wp2_with fail
     refine (Hout8.out).mono ?_; rintro e w9 ⟨vo, rfl, hown9, hb9⟩
     have hri9 := Hri8.out.below (Nat.le_refl _) hb9
     have hbw9 := hbw8.trans (hb9.mono hbw8.size)
     have hsum := envSum_calls _ bs w9 hri9
     have Hsum := Lib.hid hsum
     clear hsum hri9
     go_wp2_with fail
     refine (Hsum.out).mono ?_; rintro e w10 ⟨vs, rfl, hown10, hb10'⟩
     have hownO := own_below hown9 hb10' (Nat.le_refl _)
     have hsrc := rdLB (rdB_ofOwn hown10)
     have hnils : NilOk vs := by
      obtain ⟨_, ⟨h2, h3⟩ | ⟨g, cap, cur, hv', _⟩⟩ := hown10
      ·intro l c e; rw [e] at h2; cases h2; exact ⟨rfl, rfl⟩
      ·intro l c e; rw [e] at hv'; cases hv'
     have hone := bb1_one (be4 (PbCrc.sum bs))
     have h4 : (be4 (PbCrc.sum bs)).length = 4 := rfl
     have hLb := lenB_length bs
     have hm1 : (lenB bs).length + (be4 (PbCrc.sum bs)).length ≤ maxLen := by show _ ≤ 9223372036854775807; omega
     have hm2 : ((lenB bs).length + (be4 (PbCrc.sum bs)).length) * 1 ≤ 140737488355328 := by omega
     have hbs10 : w8.heap.size ≤ w10.heap.size := by have := hb9.size; have := hb10'.size; omega
     have hbw10 := hbw9.trans (hb10'.mono hbw9.size)
     obtain ⟨i0, hi, hz0, hz1, hz2⟩ := info_parts infoU8
     have Hone := Lib.hid hone
     clear hone hown9 hown10
     go_wp2_with (at_builtin; go_must (refine wpList_append_any bb1_len (by decide) rfl (.tmp 74) (.tmp 76) 22 rfl w8.heap.size 5 i0 (.int .u8 0) 1 Tryz.underlying22 hi hz0 hz1 hz2 rfl _ _ _ rfl hownO _ (be4 (PbCrc.sum bs)) rfl hsrc hnils Hone.out hm1 hm2 hbs10 ?_); rintro v2 w11 hown11 hg11 _)
     go_ret2
     have hsw8 : w.heap.size ≤ w8.heap.size := by omega
     refine ⟨v2, rfl, ?_, (hbw1.trans (hbw10.mono hbw1.size)).grown hg11 (by have := hbw10.size; omega) (fun k hk => by have := own_base hownO k hk; omega)⟩
     rw [bb1_flat, ← List.map_append, ← List.length_append] at hown11
     exact own_mono hown11 hsw8
theorem beNat_num8 (n : Nat) (h : n < 18446744073709551616) : beNat (num8 n) = n := by
 have e : num8 n = [UInt8.ofNat (n / 2 ^ 56), UInt8.ofNat (n / 2 ^ 48), UInt8.ofNat (n / 2 ^ 40), UInt8.ofNat (n / 2 ^ 32), UInt8.ofNat (n / 2 ^ 24), UInt8.ofNat (n / 2 ^ 16), UInt8.ofNat (n / 2 ^ 8), UInt8.ofNat (n / 2 ^ 0)] := rfl
 rw [e]
 simp only [beNat, List.foldl_cons, List.foldl_nil, UInt8.toNat_ofNat']
 omega
theorem parse_bytes (k : MarkD) (hg : k.good = true) : parseMark k.bytes = some k := by
 have hg' : 1 ≤ k.kind ∧ k.kind ≤ 5 ∧ 0 ≤ k.rcpt ∧ k.rcpt < 8 ∧ 0 ≤ k.n ∧ k.n ≤ 1099511627776 := of_decide_eq_true hg
 have hm : markOf k.bytes = k := by
  obtain ⟨kind, rcpt, n⟩ := k
  simp only at hg'
  obtain ⟨a, rfl⟩ := Int.eq_ofNat_of_zero_le (show 0 ≤ kind by omega)
  obtain ⟨b, rfl⟩ := Int.eq_ofNat_of_zero_le (show 0 ≤ rcpt by omega)
  obtain ⟨c, rfl⟩ := Int.eq_ofNat_of_zero_le (show 0 ≤ n by omega)
  have ea : (num8 a).length = 8 := num8_length a
  have eb : (num8 b).length = 8 := num8_length b
  have ec : (num8 c).length = 8 := num8_length c
  unfold markOf MarkD.bytes MarkD.body
  simp only [Int.toNat_natCast]
  rw [List.append_assoc, List.append_assoc]
  have t1 : (num8 a ++ (num8 b ++ (num8 c ++ be4 (PbCrc.sum (num8 a ++ num8 b ++ num8 c))))).take 8 = num8 a := by rw [List.take_append_of_le_length (by omega), List.take_of_length_le (by omega)]
  have d1 : (num8 a ++ (num8 b ++ (num8 c ++ be4 (PbCrc.sum (num8 a ++ num8 b ++ num8 c))))).drop 8 = num8 b ++ (num8 c ++ be4 (PbCrc.sum (num8 a ++ num8 b ++ num8 c))) := List.drop_left' ea
  have d2 : (num8 a ++ (num8 b ++ (num8 c ++ be4 (PbCrc.sum (num8 a ++ num8 b ++ num8 c))))).drop 16 = num8 c ++ be4 (PbCrc.sum (num8 a ++ num8 b ++ num8 c)) := by
   rw [show 16 = 8 + 8 from rfl, ← List.drop_drop, d1]; exact List.drop_left' eb
  rw [t1, d1, d2, List.take_append_of_le_length (by omega), List.take_of_length_le (by omega), List.take_append_of_le_length (by omega), List.take_of_length_le (by omega)]
  rw [beNat_num8 a (by omega), beNat_num8 b (by omega), beNat_num8 c (by omega)]
 unfold parseMark
 rw [hm, if_pos ⟨hg, rfl⟩]
def bytesM (ks : List MarkD) : List UInt8 := ks.flatMap MarkD.bytes
theorem bytesM_length (ks : List MarkD) : (bytesM ks).length = 28 * ks.length := by
 induction ks with
 | nil => rfl
 | cons k ks ih => unfold bytesM at *; rw [List.flatMap_cons, List.length_append, ih, bytes_length, List.length_cons]; omega
theorem decodeN_cut : ∀ (ks : List MarkD) (m n : Nat), (∀ k ∈ ks, k.good = true) → ks.length ≤ m → n ≤ (bytesM ks).length → decodeN m ((bytesM ks).take n) = ks.take (n / 28) := by
 intro ks
 induction ks with
 | nil => intro m n _ _ _; cases m <;> simp [bytesM, decodeN]
 | cons k ks ih =>
  intro m n hg hm hn
  rw [bytesM_length] at hn
  rw [List.length_cons] at hm hn
  obtain ⟨m, rfl⟩ : ∃ m', m = m' + 1 := ⟨m - 1, by omega⟩
  have hl := bytes_length k
  have hb : bytesM (k :: ks) = k.bytes ++ bytesM ks := rfl
  rw [decodeN]
  by_cases hn28 : n < 28
  ·rw [if_pos (by rw [List.length_take]; omega), show n / 28 = 0 by omega]; rfl
  ·have hle : ((bytesM (k :: ks)).take n).length = n := by rw [List.length_take, bytesM_length, List.length_cons]; omega
   rw [if_neg (by omega)]
   have ht : ((bytesM (k :: ks)).take n).take 28 = k.bytes := by
    rw [List.take_take, hb, Nat.min_eq_left (by omega), List.take_append_of_le_length (by omega), List.take_of_length_le (by omega)]
   have hd : ((bytesM (k :: ks)).take n).drop 28 = (bytesM ks).take (n - 28) := by
    rw [List.drop_take, hb, List.drop_left' hl]
   rw [ht, hd, parse_bytes k (hg k List.mem_cons_self)]
   simp only
   rw [ih m (n - 28) (fun x hx => hg x (List.mem_cons_of_mem _ hx)) (by omega) (by rw [bytesM_length]; omega)]
   rw [show n / 28 = (n - 28) / 28 + 1 by omega, List.take_succ_cons]
theorem decodeM_cut (ks : List MarkD) (n : Nat) (hg : ∀ k ∈ ks, k.good = true) (hm : ks.length ≤ 4096) (hn : n ≤ (bytesM ks).length) : decodeM ((bytesM ks).take n) = ks.take (n / 28) :=
 decodeN_cut ks 4096 n hg hm hn
theorem run_slice_pre {P : Program} {t e : TypeId} {s : Nat} (ht : P.underlying t = some (.slice e)) (hi : (P.info? e).map (·.size) = some s) (a : Option Addr) (len cap h : Nat) (hh : h ≤ cap) (w : World) :
 (Instr.sliceAt t (.slice a len cap) none (some (.int .i64 (h : Int))) none).run P w = .ok (.slice a h cap) w := by
 obtain ⟨i, hi1, hi2⟩ := Option.map_eq_some_iff.1 hi
 simp [Instr.sliceAt, Instr.slice, Instr.sliceBounds, Instr.sliceBound, run_underlying ht, asIntOf, go_sem, hi1, hi2, sizeOf, typeInfo]
 intro h'; omega
theorem RdL.pre {α : Type} {s : Nat} {f : α → List Value} {w : World} {a : Option Addr} {len cap : Nat} {xs : List α} (h : RdL s f w (.slice a len cap) xs) (k : Nat) (hk : k ≤ xs.length) : RdL s f w (.slice a k cap) (xs.take k) := by
 rcases h with ⟨a', c, hv, hc, rfl⟩ | ⟨b, off, cap', hv, hne, h1, h2, h3, h4⟩
 ·cases hv
  obtain rfl : k = 0 := by simpa using hk
  exact .inl ⟨_, _, rfl, hc, rfl⟩
 ·cases hv
  by_cases e : k = 0
  ·subst e; exact .inl ⟨_, _, rfl, h2, rfl⟩
  ·have hl : (xs.take k).length = k := by rw [List.length_take]; omega
   refine .inr ⟨b, off, cap, by rw [hl], by intro h; rw [h] at hl; simp at hl; omega, by omega, h2, h3, ?_⟩
   intro i x hx j u hu
   rw [List.getElem?_take] at hx
   split at hx
   ·exact h4 i x hx j u hu
   ·cases hx
def numO : Option (List UInt8) → Nat × Option (List UInt8)
 | none => (0, none)
 | some bs => if bs.length < 8 then (0, none) else if 4611686018427387904 < beNat (bs.take 8) then (0, none) else (beNat (bs.take 8), some (bs.drop 8))
def bytesO (o : Option (List UInt8)) : List UInt8 × Option (List UInt8) :=
 match (numO o).2 with
 | none => ([], none)
 | some r => if (numO o).1 ≤ r.length then (r.take (numO o).1, some (r.drop (numO o).1)) else ([], none)
def manyO : Nat → Option (List UInt8) → List (List UInt8) × Option (List UInt8)
 | 0, o => ([], o)
 | n + 1, o => ((manyO n o).1 ++ [(bytesO (manyO n o).2).1], (bytesO (manyO n o).2).2)
def readA (bs : List UInt8) := numO (some bs)
def readB (bs : List UInt8) := numO (readA bs).2
def readC (bs : List UInt8) := numO (readB bs).2
def readF (bs : List UInt8) := bytesO (readC bs).2
def readN (bs : List UInt8) := numO (readF bs).2
def readL (bs : List UInt8) := manyO (readN bs).1 (readN bs).2
def readT (bs : List UInt8) := bytesO (readL bs).2
def readMail (bs : List UInt8) : MailD := ⟨((readA bs).1 : Int), ((readB bs).1 : Int), ((readC bs).1 : Int), (readF bs).1, (readL bs).1, (readT bs).1⟩
def readM (bs : List UInt8) : Option MailD := if (readN bs).1 ≤ 8 ∧ (readT bs).2 = some [] ∧ (readMail bs).good = true then some (readMail bs) else none
def decodeMail (bs : List UInt8) : Option (MailD × Nat) :=
 match (bytesO (some bs)).2 with
 | none => none
 | some rest => if rest.length < 4 then none else if rest.take 4 = be4 (PbCrc.sum (bytesO (some bs)).1) then (readM (bytesO (some bs)).1).map fun m => (m, (bytesO (some bs)).1.length + 12) else none
theorem numO_num8 (n : Nat) (h : n ≤ 4611686018427387904) (r : List UInt8) : numO (some (num8 n ++ r)) = (n, some r) := by
 have hl := num8_length n
 have ht : (num8 n ++ r).take 8 = num8 n := by rw [List.take_append_of_le_length (by omega), List.take_of_length_le (by omega)]
 have hd : (num8 n ++ r).drop 8 = r := by rw [List.drop_append_of_le_length (by omega), List.drop_of_length_le (by omega), List.nil_append]
 rw [numO, ht, hd, beNat_num8 n (by omega), if_neg (by rw [List.length_append]; omega), if_neg (by omega)]
theorem bytesO_lenB (d : List UInt8) (h : d.length ≤ 4611686018427387904) (r : List UInt8) : bytesO (some (lenB d ++ r)) = (d, some r) := by
 rw [bytesO, lenB, List.append_assoc, numO_num8 _ h]
 simp only
 rw [if_pos (by rw [List.length_append]; omega), List.take_append_of_le_length (Nat.le_refl _), List.take_of_length_le (Nat.le_refl _), List.drop_append_of_le_length (Nat.le_refl _), List.drop_of_length_le (Nat.le_refl _), List.nil_append]
theorem manyO_snoc (n : Nat) (o : Option (List UInt8)) : manyO (n + 1) o = ((manyO n o).1 ++ [(bytesO (manyO n o).2).1], (bytesO (manyO n o).2).2) := rfl
theorem manyO_flat (ls : List (List UInt8)) (h : ∀ l ∈ ls, l.length ≤ 4611686018427387904) (r : List UInt8) : ∀ k, k ≤ ls.length → manyO k (some (ls.flatMap lenB ++ r)) = (ls.take k, some ((ls.drop k).flatMap lenB ++ r)) := by
 intro k
 induction k with
 | zero => intro _; simp [manyO]
 | succ k ih =>
  intro hk
  obtain ⟨x, hx⟩ : ∃ x, ls[k]? = some x := ⟨_, List.getElem?_eq_getElem (by omega)⟩
  have hd : ls.drop k = x :: ls.drop (k + 1) := by
   rw [List.drop_eq_getElem_cons (by omega)]; congr 1; exact (List.getElem?_eq_some_iff.1 hx).2
  rw [manyO_snoc, ih (by omega)]
  simp only
  rw [hd, List.flatMap_cons, List.append_assoc, bytesO_lenB x (h x (List.mem_of_getElem? hx)), take_snoc hx]
theorem inner_eq (m : MailD) : m.inner = num8 m.id.toNat ++ (num8 m.parent.toNat ++ (num8 m.born.toNat ++ (lenB m.frm ++ (num8 m.rcpts.length ++ (m.rcpts.flatMap lenB ++ (lenB m.body ++ [])))))) := by
 unfold MailD.inner; simp only [List.append_assoc, List.append_nil]
theorem read_steps (m : MailD) (hs : m.small) (hg : m.good = true) : (readMail m.inner) = m ∧ (readN m.inner).1 = m.rcpts.length ∧ (readT m.inner).2 = some [] := by
 obtain ⟨⟨h1a, h1b⟩, ⟨h2a, h2b⟩, ⟨h3a, h3b⟩, ⟨h4a, h4b⟩, h5, -⟩ := (good_iff m).1 hg
 obtain ⟨hs1, hs2⟩ := hs
 have eA : readA m.inner = (m.id.toNat, some (num8 m.parent.toNat ++ (num8 m.born.toNat ++ (lenB m.frm ++ (num8 m.rcpts.length ++ (m.rcpts.flatMap lenB ++ (lenB m.body ++ []))))))) := by rw [readA, inner_eq, numO_num8 _ (by omega)]
 have eB : readB m.inner = (m.parent.toNat, some (num8 m.born.toNat ++ (lenB m.frm ++ (num8 m.rcpts.length ++ (m.rcpts.flatMap lenB ++ (lenB m.body ++ [])))))) := by rw [readB, eA]; exact numO_num8 _ (by omega) _
 have eC : readC m.inner = (m.born.toNat, some (lenB m.frm ++ (num8 m.rcpts.length ++ (m.rcpts.flatMap lenB ++ (lenB m.body ++ []))))) := by rw [readC, eB]; exact numO_num8 _ (by omega) _
 have eF : readF m.inner = (m.frm, some (num8 m.rcpts.length ++ (m.rcpts.flatMap lenB ++ (lenB m.body ++ [])))) := by rw [readF, eC]; exact bytesO_lenB _ (by omega) _
 have eN : readN m.inner = (m.rcpts.length, some (m.rcpts.flatMap lenB ++ (lenB m.body ++ []))) := by rw [readN, eF]; exact numO_num8 _ (by omega) _
 have eL : readL m.inner = (m.rcpts, some (lenB m.body ++ [])) := by
  rw [readL, eN]
  have := manyO_flat m.rcpts (fun l h => by have := hs2 l h; omega) (lenB m.body ++ []) _ (Nat.le_refl _)
  rw [this, List.take_of_length_le (Nat.le_refl _), List.drop_of_length_le (Nat.le_refl _)]; rfl
 have eT : readT m.inner = (m.body, some []) := by rw [readT, eL]; exact bytesO_lenB _ (by omega) _
 refine ⟨?_, by rw [eN], by rw [eT]⟩
 rw [readMail, eA, eB, eC, eF, eL, eT]
 simp only
 rw [Int.toNat_of_nonneg (by omega), Int.toNat_of_nonneg (by omega), Int.toNat_of_nonneg (by omega)]
theorem readM_inner (m : MailD) (hs : m.small) (hg : m.good = true) : readM m.inner = some m := by
 obtain ⟨h1, h2, h3⟩ := read_steps m hs hg
 have := ((good_iff m).1 hg).2.2.2.1.2
 rw [readM, h1, h2, h3, if_pos ⟨by omega, rfl, hg⟩]
theorem record_bytes (m : MailD) (hs : m.small) (hg : m.good = true) (more : List UInt8) : bytesO (some (m.record ++ more)) = (m.inner, some (be4 (PbCrc.sum m.inner) ++ more)) := by
 have hi := (good_iff m).1 hg
 have := inner_small m hs hi.2.2.2.1.2 hi.2.2.2.2.1
 rw [MailD.record, List.append_assoc, bytesO_lenB _ (by omega)]
theorem be4_length (c : BitVec 32) : (be4 c).length = 4 := rfl
theorem record_length (m : MailD) : m.record.length = m.inner.length + 12 := by rw [MailD.record, List.length_append, lenB_length, be4_length]; omega
theorem decode_record (m : MailD) (hs : m.small) (hg : m.good = true) (more : List UInt8) : decodeMail (m.record ++ more) = some (m, m.record.length) := by
 rw [decodeMail, record_bytes m hs hg]
 simp only
 rw [if_neg (by rw [List.length_append, be4_length]; omega), List.take_append_of_le_length (by rw [be4_length]; omega), List.take_of_length_le (by rw [be4_length]; omega), if_pos rfl, readM_inner m hs hg, record_length]; rfl
def rdBytes (bs : List UInt8) (bad : Bool) : (List UInt8 × Bool) × (List UInt8 × Bool) :=
 if (rdNum bs bad).1.2 = true then
  if (rdNum bs bad).1.1 ≤ (rdNum bs bad).2.1.length then (((rdNum bs bad).2.1.take (rdNum bs bad).1.1, true), ((rdNum bs bad).2.1.drop (rdNum bs bad).1.1, false))
  else (([], false), ((rdNum bs bad).2.1, true))
 else (([], false), (rdNum bs bad).2)
def RBytesDone (w : World) (b : Nat) (v : Value) (r : (List UInt8 × Bool) × (List UInt8 × Bool)) (e : Ending) (w' : World) : Prop :=
 ∃ v1 v2, e = .returned (.tuple #[v1, .bool r.1.2]) ∧ RdB w' v1 r.1.1 ∧ RdAt w' b v2 r.2.1 r.2.2 ∧ Keeps (fun k => k = b) w w' ∧ (v1.ownBlock = v.ownBlock ∨ v1 = .slice none 0 0) ∧ v2.ownBlock = v.ownBlock
theorem rdNum_good {bs : List UInt8} {bad : Bool} (h : (rdNum bs bad).1.2 = true) : (rdNum bs bad).2.2 = false := by
 unfold rdNum at h ⊢
 split
 ·next h1 => rw [if_pos h1] at h; cases h
 ·next h1 =>
  rw [if_neg h1] at h
  split
  ·next h2 => rw [if_pos h2] at h; cases h
  ·rfl
set_option maxRecDepth 100000 in
set_option maxHeartbeats 1000000 in
theorem rBytes_calls (b : Nat) (v : Value) (bs : List UInt8) (bad : Bool) (w : World) (hR : RdAt w b v bs bad) :
 Calls Tryz.prog 142 #[.pointer (some ⟨b, 0, none⟩)] w (RBytesDone w b v (rdBytes bs bad)) := by
 have hnum := rNum_calls b v bs bad w hR
 have hgood := @rdNum_good bs bad
 unfold rdBytes
 unfold NumDone at hnum
 generalize rdNum bs bad = r at hnum hgood
 obtain ⟨⟨n, ok⟩, ⟨bs1, bad1⟩⟩ := r
 simp only at hnum hgood ⊢
 have Hnum := Lib.hid hnum
 clear hnum
 cases ok
 ·clear hgood
  go_enter Tryz.func142, Tryz.ntmps142
  go_wp2_with fail
  refine (Hnum.out).mono ?_; rintro e w1 ⟨v1, rfl, hR1, hK1, ho1⟩
  go_wp2
  go_ret2
  exact ⟨.slice none 0 0, v1, rfl, .inl ⟨_, _, rfl, by decide, rfl⟩, hR1, hK1, .inr rfl, ho1⟩
 ·have hb1 : bad1 = false := hgood rfl
  subst hb1
  clear hgood
  by_cases hle : n ≤ bs1.length
  ·rw [if_pos rfl, if_pos hle]
   have Hle := Lib.hid hle
   clear hle
   go_enter Tryz.func142, Tryz.ntmps142
   go_wp2_with fail
   refine (Hnum.out).mono ?_; rintro e w1 ⟨v1, rfl, hR1, hK1, ho1⟩
   go_wp2_with fail
   refine (rTake_good b v1 bs1 n w1 hR1 Hle.out).mono ?_; rintro e w2 ⟨v2, v3, rfl, hr2, hR2, hK2, ho2, ho3⟩
   go_wp2
   go_ret2
   exact ⟨v2, v3, rfl, hr2, hR2, hK1.trans hK2, .inl (ho2.trans ho1), ho3.trans ho1⟩
  ·rw [if_pos rfl, if_neg hle]
   have Hle := Lib.hid hle
   clear hle
   go_enter Tryz.func142, Tryz.ntmps142
   go_wp2_with fail
   refine (Hnum.out).mono ?_; rintro e w1 ⟨v1, rfl, hR1, hK1, ho1⟩
   go_wp2_with fail
   refine (rTake_bad b v1 bs1 false n w1 hR1 (.inr (by have := Hle.out; omega))).mono ?_; rintro e w2 ⟨rfl, hR2, hK2⟩
   go_wp2
   go_ret2
   exact ⟨.slice none 0 0, v1, rfl, .inl ⟨_, _, rfl, by decide, rfl⟩, hR2, hK1.trans hK2, .inr rfl, ho1⟩
structure EyeAt (w : World) (b : Nat) (v : Value) (bs : List UInt8) (bad : Bool) : Prop where
 blk : w.heap[b]? = some (.cells #[v, .bool bad] 90 (0, 0))
 rd : RdB w v bs
 ne : v.ownBlock ≠ some b
theorem EyeAt.cells {w : World} {b : Nat} {v : Value} {bs : List UInt8} {bad : Bool} (h : EyeAt w b v bs bad) :
 w.cell? ⟨b, 0, none⟩ = some v ∧ w.cell? ⟨b, 1, none⟩ = some (.bool bad) ∧ w.frozen? ⟨b, 0, none⟩ = false ∧ w.frozen? ⟨b, 1, none⟩ = false := by
 have hb := h.blk
 refine ⟨?_, ?_, ?_, ?_⟩
 ·rw [cell_of_row _ _ _ _ _ _ hb]; rfl
 ·rw [cell_of_row _ _ _ _ _ _ hb]; rfl
 ·unfold World.frozen?; rw [hb]; rfl
 ·unfold World.frozen?; rw [hb]; rfl
end Go.Proofs.YtffnbkmigapmjaaGreatDoor
