/- Printed out of the texts of wip/tpl. -/
import Derived.Test.YtffnbkmigapmjaaGreatDoorT9
import Derived.Test.YtffnbkmigapmjaaGreatDoorT10
import Derived.Test.YtffnbkmigapmjaaGreatDoorT24
import Derived.Maps.AppendAt
set_option linter.unusedSimpArgs false
set_option linter.unusedVariables false
set_option maxRecDepth 100000
namespace Go.Proofs.YtffnbkmigapmjaaGreatDoor
open Go.RowKit Go.Maps
def usedTo (l : List BoxD) : Nat := (l.map BoxD.len).sum
theorem usedTo_le {C : Nat} : ∀ {l : List BoxD}, (∀ b ∈ l, b.len ≤ C) → usedTo l ≤ C * l.length
 | [], _ => Nat.zero_le _
 | b :: l, h => by
  have h1 := usedTo_le (fun x hx => h x (List.mem_cons_of_mem _ hx))
  have h2 := h b (List.mem_cons_self ..)
  have h3 : usedTo (b :: l) = b.len + usedTo l := by unfold usedTo; rw [List.map_cons, List.sum_cons]
  rw [h3, List.length_cons, Nat.mul_add]
  omega
theorem usedTo_snoc (l : List BoxD) (b : BoxD) : usedTo (l ++ [b]) = usedTo l + b.len := by
 unfold usedTo; rw [List.map_append, List.sum_append, List.map_cons, List.map_nil, List.sum_cons, List.sum_nil, Nat.add_zero]
theorem BoxD.len_le {b : BoxD} (hg : b.m.good = true) (hk : b.ks.length ≤ 100000) : b.len ≤ 3800012 := by
 have := record_max hg
 unfold BoxD.len; omega
section
variable {mb : Nat} {M : ModD} {lv : Value} {bs : List BoxV} {σ : Nat → Prop}
theorem MdlAt.good {w : World} (h : MdlAt w mb M lv bs σ) : ∀ b ∈ M.list, b.m.good = true := fun b hb => by
 rw [← h.lst] at hb
 obtain ⟨v, hv, rfl⟩ := List.mem_map.1 hb
 exact (h.rd v hv).good
set_option maxHeartbeats 16000000 in
theorem mUsed_calls (w : World) (h : MdlAt w mb M lv bs σ) (hn : M.list.length ≤ 200) (hks : ∀ b ∈ M.list, b.ks.length ≤ 100000) :
 Calls Tryz.prog 36 #[.pointer (some ⟨mb, 0, none⟩)] w fun e w' => e = .returned (.int .i64 (M.used : Int)) ∧ Below w.heap.size w w' := by
 obtain ⟨al, cl, rfl, hl, hc⟩ := h.rdl.form
 have hbe : bs.length = M.list.length := by rw [← h.lst, List.length_map]
 have hbl : bs.length ≤ 1000 := by omega
 have hst : ∀ wr, Below w.heap.size w wr → wr.cell? ⟨mb, 0, none⟩ = some (.slice al bs.length cl) ∧ RdL 8 boxCells wr (.slice al bs.length cl) bs ∧ ∀ b ∈ bs, BoxRd wr b := fun wr hb => ⟨(h.below hb).cells.1, (h.below hb).rdl, (h.below hb).rd⟩
 have hlen : ∀ b ∈ bs, b.d.len ≤ 3800012 ∧ b.d.ks.length ≤ 100000 := fun b hb => by
  have h1 := hks b.d (by rw [← h.lst]; exact List.mem_map.2 ⟨b, hb, rfl⟩)
  exact ⟨BoxD.len_le (h.rd b hb).good h1, h1⟩
 have hu0 : M.used = usedTo (bs.map (·.d)) := by rw [h.lst]; rfl
 rw [hu0]
 have Hst := Lib.hid (And.intro hst hlen)
 have c0 := (hst w (Below.refl _ _)).1
 clear hst hu0 h hn hks hl hc hbe hlen
 go_enter Tryz.func36, Tryz.ntmps36
 go_wp2
 go_loopw [3, 4] (fun n i wr => ∃ j : Nat, j ≤ bs.length ∧ i = .int .i64 j ∧ n = .int .i64 (usedTo ((bs.take j).map (·.d)) : Int) ∧ Below w.heap.size w wr) (fun n i _ => bs.length - (intOf i).toNat)
 case atStart => exact ⟨0, Nat.zero_le _, rfl, rfl, Below.refl _ _⟩
 case round =>
  obtain ⟨j, hj, rfl, rfl, hbw⟩ := hrel
  clear c0
  obtain ⟨c0, hR, hrd⟩ := Hst.out.1 wr hbw
  by_cases hlt : j < bs.length
  ·obtain ⟨o, ho⟩ : ∃ o, bs[j]? = some o := ⟨_, List.getElem?_eq_getElem hlt⟩
   have hom := List.mem_of_getElem? ho
   obtain ⟨b, off, cap', hsl, hbl', h3⟩ := RdL.at hR ho
   have k0 := h3 0 _ rfl
   rw [Nat.add_zero] at k0
   have k1 := h3 1 _ rfl
   rw [← Nat.add_assoc] at k1
   have k2 := h3 2 _ rfl
   rw [← Nat.add_assoc] at k2
   have k3 := h3 3 _ rfl
   rw [← Nat.add_assoc] at k3
   have k4 := h3 4 _ rfl
   rw [← Nat.add_assoc] at k4
   have k5 := h3 5 _ rfl
   rw [← Nat.add_assoc] at k5
   have k7 := h3 7 _ rfl
   rw [← Nat.add_assoc] at k7
   cases hsl
   have hj0 : (0 : Int) ≤ (j : Int) := by omega
   have hj1 : (j : Int) < (bs.length : Int) := by omega
   have hrdo := hrd o hom
   have hrec : ∀ W, Below wr.heap.size wr W → Calls Tryz.prog 80 #[mailVal o.d.m (.slice o.ar o.d.m.rcpts.length o.cr) (.slice o.ab o.d.m.body.length o.cb)] W (RowDone W o.d.m.record) := fun W hW => by
    have := hrdo.keeps (F := fun _ => False) (Keeps.ofBelow hW) (fun _ _ e => e)
    exact record_calls o.d.m _ _ W this.r this.b this.nb this.small this.good
   have hsum : usedTo ((bs.take (j + 1)).map (·.d)) = usedTo ((bs.take j).map (·.d)) + (o.d.m.record.length + 28 * o.d.ks.length) := by rw [take_snoc ho, List.map_append, List.map_cons, List.map_nil, usedTo_snoc]; rfl
   have hub : usedTo ((bs.take j).map (·.d)) ≤ 3800012 * 1000 := by
    refine Nat.le_trans (usedTo_le (fun x hx => ?_)) (Nat.mul_le_mul_left _ (show ((bs.take j).map (·.d)).length ≤ 1000 by rw [List.length_map, List.length_take]; omega))
    obtain ⟨v, hv, rfl⟩ := List.mem_map.1 hx
    exact (Hst.out.2 v (List.mem_of_mem_take hv)).1
   have hkl := (Hst.out.2 o hom).2
   have hrl := record_max hrdo.good
   obtain ⟨⟨⟨⟨oid, op, ob, frm, rcpts, body⟩, oq, oks⟩, oar, ocr, oab, ocb, oam, ocm⟩, hoe⟩ : ∃ o', o' = o := ⟨_, rfl⟩
   subst hoe
   dsimp only at k0 k1 k2 k3 k4 k5 k7 hrec hsum hkl hrl
   unfold mailVal at hrec
   dsimp only at hrec
   generalize hrr : MailD.record ⟨oid, op, ob, frm, rcpts, body⟩ = R at hrec hsum hrl
   generalize hus : usedTo ((bs.take j).map (·.d)) = u at hsum hub ⊢
   obtain ⟨tf, htf⟩ : ∃ tf, strL frm = tf := ⟨_, rfl⟩
   obtain ⟨n1, hn1⟩ : ∃ n1, rcpts.length = n1 := ⟨_, rfl⟩
   obtain ⟨n2, hn2⟩ : ∃ n2, body.length = n2 := ⟨_, rfl⟩
   obtain ⟨n3, hn3⟩ : ∃ n3, oks.length = n3 := ⟨_, rfl⟩
   obtain ⟨rl, hrl'⟩ : ∃ rl, R.length = rl := ⟨_, rfl⟩
   rw [htf] at k3 hrec
   rw [hn1] at k4 hrec
   rw [hn2] at k5 hrec
   rw [hn3] at k7 hsum hkl
   rw [hrl'] at hsum hrl
   have hw1 : IntKind.i64.wrap ((u : Int) + (rl : Int)) = (u : Int) + (rl : Int) := IntWalk.i64_in _ (by omega)
   have hw2 : IntKind.i64.wrap (28 * (n3 : Int)) = 28 * (n3 : Int) := IntWalk.i64_in _ (by omega)
   have hw3 : IntKind.i64.wrap ((u : Int) + (rl : Int) + 28 * (n3 : Int)) = (u : Int) + (rl : Int) + 28 * (n3 : Int) := IntWalk.i64_in _ (by omega)
   have Hrec := Lib.hid hrec
   have Hrl := Lib.hid hrl'
   have Hsum := Lib.hid hsum
   have Hs : Hid (∀ w1, Below wr.heap.size wr w1 → (fun w' => w'.cell? ⟨mb, 0, none⟩ = some (.slice (some ⟨b, off, none⟩) bs.length cl) ∧ w'.cell? ⟨b, off + j * 8, none⟩ = some (.int .i64 oid) ∧ w'.cell? ⟨b, off + j * 8 + 1, none⟩ = some (.int .i64 op) ∧ w'.cell? ⟨b, off + j * 8 + 2, none⟩ = some (.int .i64 ob) ∧ w'.cell? ⟨b, off + j * 8 + 3, none⟩ = some (.string tf) ∧ w'.cell? ⟨b, off + j * 8 + 4, none⟩ = some (.slice oar n1 ocr) ∧ w'.cell? ⟨b, off + j * 8 + 5, none⟩ = some (.slice oab n2 ocb) ∧ w'.cell? ⟨b, off + j * 8 + 7, none⟩ = some (.slice oam n3 ocm) ∧ Hid (Below wr.heap.size wr w')) w1) := Lib.hid (fun w1 h1 => by
    have hg := fun (p : Nat) => h1.cell (show (⟨b, p, none⟩ : Addr).block < wr.heap.size from hbl')
    exact ⟨((Hst.out.1 w1 (hbw.trans (h1.mono hbw.size))).1), (hg _).trans k0, (hg _).trans k1, (hg _).trans k2, (hg _).trans k3, (hg _).trans k4, (hg _).trans k5, (hg _).trans k7, Lib.hid h1⟩)
   have hd0 : Below wr.heap.size wr wr.drew := (Below.refl _ _).drew
   have HS := Lib.hid (Hs.out _ hd0)
   clear hrec hrl' hsum hrdo hrd hR h3 hom ho hrr hus htf hn1 hn2 hn3 hkl hrl k0 k1 k2 k3 k4 k5 k7
   go_upto_region 5 with fail
   refine wp_region_noPanic ?_
   refine wp_region_held_drew (S := (fun w' => w'.cell? ⟨mb, 0, none⟩ = some (.slice (some ⟨b, off, none⟩) bs.length cl) ∧ w'.cell? ⟨b, off + j * 8, none⟩ = some (.int .i64 oid) ∧ w'.cell? ⟨b, off + j * 8 + 1, none⟩ = some (.int .i64 op) ∧ w'.cell? ⟨b, off + j * 8 + 2, none⟩ = some (.int .i64 ob) ∧ w'.cell? ⟨b, off + j * 8 + 3, none⟩ = some (.string tf) ∧ w'.cell? ⟨b, off + j * 8 + 4, none⟩ = some (.slice oar n1 ocr) ∧ w'.cell? ⟨b, off + j * 8 + 5, none⟩ = some (.slice oab n2 ocb) ∧ w'.cell? ⟨b, off + j * 8 + 7, none⟩ = some (.slice oam n3 ocm) ∧ Hid (Below wr.heap.size wr w'))) (by kernel_rfl) (by first | with_reducible exact HS.out | exact Hs.out _ (by with_reducible assumption)) (fun hHeld => ?_)
   refine tkP 0 ?_
   refine tkP 1 ?_
   refine tkP 2 ?_
   refine tkP 3 ?_
   refine tkP 4 ?_
   refine tkP 5 ?_
   refine tkP 6 ?_
   refine tkP 7 ?_
   refine tkP 8 ?_
   refine tkP 12 ?_
   refine tkP 13 ?_
   refine tkP 14 ?_
   refine tkP 15 ?_
   refine tkP 16 ?_
   refine tkP 17 ?_
   refine tkP 18 ?_
   refine tkP 19 ?_
   refine tkP 20 ?_
   refine tkP 21 ?_
   refine rdH 9 fun K hK => ?_
   go_simp
   go_at_call 80; refine (Hrec.out _ hd0).mono ?_; rintro e wa ⟨v', rfl, hown, hda⟩; obtain ⟨a', c', rfl⟩ := own_form0 hown; have hba := hd0.trans (hda.mono hd0.size); rw [Hrl.out]
   refine hK.out _ _ (by (try dsimp only); first | with_reducible exact HS.out | exact Hs.out _ (by with_reducible assumption)) (fun hHeld => ?_)
   clear hK K
   try simp only [Act.put, qA, qB, qC]
   refine tkP 10 ?_
   refine tkP 11 ?_
   refine tkP 22 ?_
   refine tkP 23 ?_
   refine wpAnyH_done (by kernel_rfl) ?_ _
   refine NoPanic.normal ?_
   go_wp2
   go_roundw
   case rel => exact ⟨j + 1, by omega, by simp, by rw [Hsum.out]; exact congrArg (Value.int .i64) (by push_cast; omega), hbw.trans (hba.mono hbw.size)⟩
   case measure => simp [intOf] <;> omega
  ·have hje : j = bs.length := by omega
   subst hje
   rw [List.take_of_length_le (Nat.le_refl _)]
   clear hR hrd
   go_wp2
   go_ret
   exact ⟨rfl, hbw⟩
end
open Go.RowKit
set_option maxRecDepth 100000 in
set_option maxHeartbeats 8000000 in
theorem refGood_calls (m : MailD) (vr vb : Value) (w : World) (hr : RdS w vr m.rcpts) (hb : RdB w vb m.body) (hsr : ∀ l ∈ m.rcpts, l.length ≤ 4294967270) (hsf : m.frm.length ≤ 4294967270) :
 Calls Tryz.prog 38 #[mailVal m vr vb] w fun e w' => e = .returned (.bool m.good) ∧ Below w.heap.size w w' := by
 obtain ⟨ar, capr, rfl, hlr, hcr⟩ := hr.form
 obtain ⟨ab, capb, rfl, hlb, hcb⟩ := hb.form
 obtain ⟨g, hg⟩ : ∃ g, m.good = g := ⟨_, rfl⟩
 rw [hg]
 obtain ⟨id, parent, born, frm, rcpts, body⟩ := m
 simp only at hr hb hsr hsf hlr hlb
 unfold MailD.good at hg
 unfold mailVal
 simp only at hg ⊢
 obtain ⟨W, hW⟩ : ∃ W, w.alloc (.cells #[.int .i64 id, .int .i64 parent, .int .i64 born, .string (strL frm), .slice ar rcpts.length capr, .slice ab body.length capb] 29) = W := ⟨_, rfl⟩
 have hbW : Below w.heap.size w W := by rw [← hW]; exact (Below.refl _ _).alloc (Nat.le_refl _) _
 have hblk : W.heap[w.heap.size]? = some (.cells #[.int .i64 id, .int .i64 parent, .int .i64 born, .string (strL frm), .slice ar rcpts.length capr, .slice ab body.length capb] 29 (0, 0)) := by rw [← hW]; exact heap_alloc_new w _
 have hbd := refBody_calls (.slice ab body.length capb) body W (hb.below (Nat.le_refl _) hbW)
 have hbx := fun W => refBox_calls (strL frm) W (by rw [strL_size]; exact hsf)
 have hbr := fun (l : List UInt8) W (h : l ∈ rcpts) => refBox_calls (strL l) W (by rw [strL_size]; exact hsr l h)
 simp only [strL_data] at hbx hbr
 have hcell : ∀ W', Below W.heap.size W W' → ∀ (j : Nat) v, (#[Value.int .i64 id, .int .i64 parent, .int .i64 born, .string (strL frm), .slice ar rcpts.length capr, .slice ab body.length capb] : Array Value)[j]? = some v → W'.cell? ⟨w.heap.size, j, none⟩ = some v := by
  intro W' hB j v hv
  rw [cell_of_row _ _ _ _ _ _ ((hB.block _ (Array.getElem?_eq_some_iff.1 hblk).1).trans hblk)]
  exact hv
 have hRW : ∀ W', Below W.heap.size W W' → RdS W' (.slice ar rcpts.length capr) rcpts := fun W' hB => (hr.below (Nat.le_refl _) hbW).below (Nat.le_refl _) hB
 have c0 := hcell W (Below.refl _ _) 0 _ rfl
 have c1 := hcell W (Below.refl _ _) 1 _ rfl
 have c2 := hcell W (Below.refl _ _) 2 _ rfl
 have c4 := hcell W (Below.refl _ _) 4 _ rfl
 have c5 := hcell W (Below.refl _ _) 5 _ rfl
 have hsf0 := strL_size frm
 generalize bodyB body = p6 at hbd hg
 generalize boxB frm = p8 at hbx hg
 have Hg := Lib.hid hg
 have Hbd := Lib.hid hbd
 have Hbx := Lib.hid hbx
 have Hbr := Lib.hid hbr
 have Hcell := Lib.hid hcell
 have HRW := Lib.hid hRW
 have hfl : frm.length = 0 ↔ (strL frm).size = 0 := by rw [hsf0]
 have Hfl := Lib.hid hfl
 clear hg hbd hbx hbr hcell hRW hr hb hsr hsf hblk hsf0 hfl
 have hlri : (rcpts.length : Int) ≤ 9223372036854775807 := by omega
 have hlbi : (body.length : Int) ≤ 9223372036854775807 := by omega
 by_cases k0 : id < 1
 ·have hgf := Hg.out
  rw [decide_eq_false (by omega : ¬ (1 ≤ id ∧ id ≤ 999999999))] at hgf
  simp only [Bool.false_and, Bool.and_false] at hgf
  subst hgf
  clear Hg
  go_enter Tryz.func38, Tryz.ntmps38
  go_wp2
  go_ret
  exact ⟨rfl, hbW⟩
 by_cases k1 : 999999999 < id
 ·have hgf := Hg.out
  rw [decide_eq_false (by omega : ¬ (1 ≤ id ∧ id ≤ 999999999))] at hgf
  simp only [Bool.false_and, Bool.and_false] at hgf
  subst hgf
  clear Hg
  go_enter Tryz.func38, Tryz.ntmps38
  go_wp2
  go_ret
  exact ⟨rfl, hbW⟩
 by_cases k2 : parent < 0
 ·have hgf := Hg.out
  rw [decide_eq_false (by omega : ¬ (0 ≤ parent ∧ parent ≤ id - 1))] at hgf
  simp only [Bool.false_and, Bool.and_false] at hgf
  subst hgf
  clear Hg
  go_enter Tryz.func38, Tryz.ntmps38
  go_wp2
  go_ret
  exact ⟨rfl, hbW⟩
 by_cases k3 : id ≤ parent
 ·have hgf := Hg.out
  rw [decide_eq_false (by omega : ¬ (0 ≤ parent ∧ parent ≤ id - 1))] at hgf
  simp only [Bool.false_and, Bool.and_false] at hgf
  subst hgf
  clear Hg
  go_enter Tryz.func38, Tryz.ntmps38
  go_wp2
  go_ret
  exact ⟨rfl, hbW⟩
 by_cases k4 : born < 0
 ·have hgf := Hg.out
  rw [decide_eq_false (by omega : ¬ (0 ≤ born ∧ born ≤ 1099511627776))] at hgf
  simp only [Bool.false_and, Bool.and_false] at hgf
  subst hgf
  clear Hg
  go_enter Tryz.func38, Tryz.ntmps38
  go_wp2
  go_ret
  exact ⟨rfl, hbW⟩
 by_cases k5 : 1099511627776 < born
 ·have hgf := Hg.out
  rw [decide_eq_false (by omega : ¬ (0 ≤ born ∧ born ≤ 1099511627776))] at hgf
  simp only [Bool.false_and, Bool.and_false] at hgf
  subst hgf
  clear Hg
  go_enter Tryz.func38, Tryz.ntmps38
  go_wp2
  go_ret
  exact ⟨rfl, hbW⟩
 by_cases k6 : (rcpts.length : Int) < 1
 ·have hgf := Hg.out
  rw [decide_eq_false (by omega : ¬ (1 ≤ (rcpts.length : Int) ∧ (rcpts.length : Int) ≤ 8))] at hgf
  simp only [Bool.false_and, Bool.and_false] at hgf
  subst hgf
  clear Hg
  go_enter Tryz.func38, Tryz.ntmps38
  go_wp2
  go_ret
  exact ⟨rfl, hbW⟩
 by_cases k7 : 8 < (rcpts.length : Int)
 ·have hgf := Hg.out
  rw [decide_eq_false (by omega : ¬ (1 ≤ (rcpts.length : Int) ∧ (rcpts.length : Int) ≤ 8))] at hgf
  simp only [Bool.false_and, Bool.and_false] at hgf
  subst hgf
  clear Hg
  go_enter Tryz.func38, Tryz.ntmps38
  go_wp2
  go_ret
  exact ⟨rfl, hbW⟩
 by_cases k8 : 8192 < (body.length : Int)
 ·have hgf := Hg.out
  rw [decide_eq_false (by omega : ¬ (body.length ≤ 8192))] at hgf
  simp only [Bool.false_and, Bool.and_false] at hgf
  subst hgf
  clear Hg
  go_enter Tryz.func38, Tryz.ntmps38
  go_wp2
  go_ret
  exact ⟨rfl, hbW⟩
 have hg := Hg.out
 rw [decide_eq_true (by omega : 1 ≤ id ∧ id ≤ 999999999)] at hg
 rw [decide_eq_true (by omega : 0 ≤ parent ∧ parent ≤ id - 1)] at hg
 rw [decide_eq_true (by omega : 0 ≤ born ∧ born ≤ 1099511627776)] at hg
 rw [decide_eq_true (by omega : 1 ≤ (rcpts.length : Int) ∧ (rcpts.length : Int) ≤ 8)] at hg
 rw [decide_eq_true (by omega : body.length ≤ 8192)] at hg
 simp only [Bool.true_and] at hg
 have Hg2 := Lib.hid hg
 clear Hg hg
 cases p6
 ·have hgf := Hg2.out
  simp only [Bool.false_and] at hgf
  subst hgf
  clear Hg2
  go_enter Tryz.func38, Tryz.ntmps38
  go_wp2_with fail
  refine (Hbd.out).mono ?_; rintro e w6 ⟨rfl, rfl⟩
  go_wp2
  go_ret
  exact ⟨rfl, hbW⟩
 go_enter Tryz.func38, Tryz.ntmps38
 go_wp2_with fail
 refine (Hbd.out).mono ?_; rintro e w6 ⟨rfl, hw6⟩
 subst hw6
 go_wp2
 go_loopw [3] (fun i wr => ∃ j : Nat, j ≤ rcpts.length ∧ i = .int .i64 j ∧ (rcpts.take j).all boxB = true ∧ Below w6.heap.size w6 wr) (fun i _ => rcpts.length - (intOf i).toNat)
 case atStart => exact ⟨0, Nat.zero_le _, rfl, rfl, Below.refl _ _⟩
 case round =>
  obtain ⟨j, hj, rfl, hall, hbw⟩ := hrel
  have c4' := Hcell.out wr hbw 4 _ rfl
  have c3' := Hcell.out wr hbw 3 _ rfl
  have hbw' := hbW.trans (hbw.mono hbW.size)
  by_cases hlt : j < rcpts.length
  ·obtain ⟨l, hl⟩ : ∃ l, rcpts[j]? = some l := ⟨_, List.getElem?_eq_getElem hlt⟩
   obtain ⟨b, off, cap', hsl, hbl, hc⟩ := RdS.at (HRW.out wr hbw) hl
   cases hsl
   have hcall := fun W => Hbr.out l W (List.mem_of_getElem? hl)
   have htk : boxB l = true → (rcpts.take (j + 1)).all boxB = true := fun h => by rw [take_snoc hl, List.all_append, hall]; simpa using h
   have hno : boxB l = false → g = false := fun h => by
    have : rcpts.all boxB = false := by rw [List.all_eq_false]; exact ⟨l, List.mem_of_getElem? hl, by rw [h]; simp⟩
    rw [← Hg2.out, this]; simp
   generalize boxB l = q at hcall htk hno
   have Hcall := Lib.hid hcall
   have Htk := Lib.hid htk
   have Hno := Lib.hid hno
   have hj0 : (0 : Int) ≤ (j : Int) := by omega
   have hj1 : (j : Int) < (rcpts.length : Int) := by omega
   clear hcall htk hno hall hl
   generalize strL l = sl at hc Hcall
   cases q
   ·go_wp2_with fail
    refine (Hcall.out _).mono ?_; rintro e w7 ⟨rfl, hb7⟩
    go_wp2
    go_ret
    exact ⟨by rw [Hno.out (by trivial)]; rfl, hbw'.trans (hb7.mono hbw'.size)⟩
   ·go_wp2_with fail
    refine (Hcall.out _).mono ?_; rintro e w7 ⟨rfl, hb7⟩
    go_wp2
    go_roundw
    case rel => exact ⟨j + 1, by omega, by simp, Htk.out (by trivial), hbw.trans (hb7.mono hbw.size)⟩
    case measure => simp [intOf] <;> omega
  ·have hje : j = rcpts.length := by omega
   rw [hje, List.take_of_length_le (Nat.le_refl _)] at hall
   have hg2 := Hg2.out
   rw [hall, Bool.and_true, Bool.true_and] at hg2
   have hjn : (j : Int) = (rcpts.length : Int) := by omega
   have Hg3 := Lib.hid hg2
   have hjl : ¬ ((j : Int) < (rcpts.length : Int)) := by omega
   clear hall hg2 hje hjn
   by_cases h7 : frm.length = 0
   ·have hz := empty_of_size (Hfl.out.1 h7)
    rw [hz] at c3'
    have hgt : g = true := by rw [← Hg3.out, decide_eq_true h7]; rfl
    subst hgt
    clear hz h7 Hg2
    go_wp2
    go_ret
    exact ⟨rfl, hbw'⟩
   ·have hne : (strL frm).size ≠ 0 := fun h => h7 (Hfl.out.2 h)
    have hb1 := empty_ne hne
    have hb2 : (strL frm).toList.isEmpty = false := by simpa using hb1
    have hgt : g = p8 := by rw [← Hg3.out, decide_eq_false h7]; rfl
    subst hgt
    clear h7 hne Hg2
    go_wp2_with fail
    refine (Hbx.out _).mono ?_; rintro e w8 ⟨rfl, hb8⟩
    go_wp2
    go_ret
    exact ⟨rfl, hbw'.trans (hb8.mono hbw'.size)⟩
theorem step_append_at {α : Type} {s : Nat} {f : α → List Value} (hf : ∀ x, (f x).length = s) (hs0 : 0 < s) {P : Program} {w : World} {ops : Array Oper} {o : Oper} {a : Act} {K : Act → World → Prop} {Q : Exit → Act → World → Prop} {E : Prop} (hgd : Region.wanted o (yielded ops a.tmps) = true) (s1 x : Operand) (t : TypeId)
 (ho : o.op = .call { callee := .builtin .append, args := #[s1, x], argTypes := #[t, t] })
 (base : Nat) (e : TypeId) (i : TypeInfo) (z : Value) (bytes : Nat) (ht : P.underlying t = some (.slice e)) (hi : P.info? e = some i) (hz : i.zero = some z)
 (hsize : i.size = s) (hby : i.bytes = bytes) (hzs : z.cells.size = s)
 (v : Value) (n : Nat) (xs : List Value) (hs : a.eval s1 = v) (hown : w.ownsRow base e s v n xs)
 (u : Value) (ys : List α) (hx : a.eval x = u) (hr : RdL s f w u ys) (hn : NilOk u) (h1 : ∀ c ∈ ys.flatMap f, c.oneCell' = true)
 (h63 : n + ys.length ≤ maxLen) (hbytes : (n + ys.length) * bytes ≤ 140737488355328) (hbase : base ≤ w.heap.size)
 (h : ∀ v' w', w'.ownsRow base e s v' (n + ys.length) (xs ++ ys.flatMap f) → w.grownBy w' v.ownBlock → (v'.ownBlock = v.ownBlock ∨ v'.ownBlock = some w.heap.size) → K (a.put o.dst v') w') : if Region.wanted o (yielded ops a.tmps) = true then Oper.wp P o a w K Q else E := by
 rw [if_pos hgd]
 obtain ⟨ad, cap, rfl, _, _⟩ := hr.form
 cases ad with
 | none =>
  obtain ⟨hl, hc⟩ := hn _ _ rfl
  have hy : ys = [] := List.length_eq_zero_iff.1 hl
  subst hy
  subst hc
  have hrun := run_append_owned_none (P := P) (w := w) base t o.type e i s ht hi v n xs hown
  unfold Oper.wp
  simp [execOp, ho, resolve, invoke, builtin, hs, hx, hrun, Result.andThen]
  exact h v w (by simpa using hown) (World.grownBy.refl _ _) (.inl rfl)
 | some ad =>
  obtain ⟨v', w', hrun, h2, h3, h4, h5⟩ := run_append_own_at (P := P) w base t o.type e i z s bytes ht hi hz hsize hby hzs hs0 v n xs hown ad ys.length cap (ys.flatMap f) (flat_len hf ys) (by
   by_cases hy : ys = []
   ·subst hy; intro j u hu; cases hu
   ·obtain ⟨b, off, e⟩ := addr_some hr hy
    cases e
    exact hr.news hf hs0) h1 h63 hbytes hbase
  unfold Oper.wp execOp
  simp only [ho, resolve, invoke, builtin, Sem.run_bind, Sem.run_pure, Result.andThen_ok, List.map_toArray, List.map_cons, List.map_nil, hs, hx, hrun]
  exact h v' w' h2 h3 h5
theorem step_append_w {α : Type} {s : Nat} {f : α → List Value} (hf : ∀ x, (f x).length = s) (hs0 : 0 < s) {P : Program} {w : World} {ops : Array Oper} {o : Oper} {a : Act} {K : Act → World → Prop} {Q : Exit → Act → World → Prop} {E : Prop} (hgd : Region.wanted o (yielded ops a.tmps) = true) (s1 x : Operand) (t : TypeId)
 (ho : o.op = .call { callee := .builtin .append, args := #[s1, x], argTypes := #[t, t] })
 (base : Nat) (e : TypeId) (i : TypeInfo) (z : Value) (bytes : Nat) (ht : P.underlying t = some (.slice e)) (hi : P.info? e = some i) (hz : i.zero = some z)
 (hsize : i.size = s) (hby : i.bytes = bytes) (hzs : z.cells.size = s)
 (v : Value) (n : Nat) (xs : List Value) (hs : a.eval s1 = v) (hown : w.ownsRow base e s v n xs)
 (u : Value) (ys : List α) (hx : a.eval x = u) (hr : RdL s f w u ys) (hn : NilOk u) (h1 : ∀ c ∈ ys.flatMap f, c.oneCell' = true)
 (h63 : n + ys.length ≤ maxLen) (hbytes : (n + ys.length) * bytes ≤ 140737488355328) (hbase : base ≤ w.heap.size)
 (h : ∀ v' w', w'.ownsRow base e s v' (n + ys.length) (xs ++ ys.flatMap f) → w.grownBy w' v.ownBlock → NilOk v' → K (a.put o.dst v') w') : if Region.wanted o (yielded ops a.tmps) = true then Oper.wp P o a w K Q else E :=
 step_append_at hf hs0 hgd s1 x t ho base e i z bytes ht hi hz hsize hby hzs v n xs hs hown u ys hx hr hn h1 h63 hbytes hbase (fun v' w' h2 h3 _ => h v' w' h2 h3 (by
  intro l c hv
  obtain ⟨_, ⟨h2, h3⟩ | ⟨g, cap, cur, hv', _⟩⟩ := h2
  ·rw [hv] at h2; cases h2; exact ⟨rfl, rfl⟩
  ·rw [hv] at hv'; cases hv'))
end Go.Proofs.YtffnbkmigapmjaaGreatDoor
