/- Printed out of the texts of wip/tpl. -/
import Derived.Test.YtffnbkmigapmjaaGreatDoorT10
import Derived.Test.YtffnbkmigapmjaaGreatDoorT23
import Derived.Test.YtffnbkmigapmjaaGreatDoorT30
import Derived.Test.YtffnbkmigapmjaaGreatDoorT32
import Derived.Test.YtffnbkmigapmjaaGreatDoorT34
import Derived.Test.YtffnbkmigapmjaaGreatDoorT37
import Derived.Lib.SlBytesConst
set_option linter.unusedSimpArgs false
set_option linter.unusedVariables false
set_option maxRecDepth 100000
namespace Go.Proofs.YtffnbkmigapmjaaGreatDoor
open Go.RowKit Go.Maps
def alkQ : List UInt8 := [105, 97, 100, 104, 99]
structure Like (d : StoD) (M : ModD) : Prop where
 q : ∀ q ∈ alkQ, listD d.whr q = M.queue q
 f : ∀ b ∈ M.list, (∃ g, sfileD d b.m.id = some ⟨b.m, b.ks, g⟩) ∧ d.whr.at b.m.id = b.q
 t : listD d.whr 116 = []
theorem queue_pos {M : ModD} (h : ∀ b ∈ M.list, 1 ≤ b.m.id ∧ b.m.id ≤ M.last) (q : UInt8) : ∀ n ∈ M.queue q, 0 ≤ n := fun n hn => by
 unfold ModD.queue at hn
 obtain ⟨b, hb, rfl⟩ := List.mem_map.1 hn
 have := (h b (List.mem_filter.1 hb).1).1
 omega
theorem iv_nat : ∀ {l : List Int}, (∀ n ∈ l, 0 ≤ n) → l.map iv = (l.map Int.toNat).flatMap i1
 | [], _ => rfl
 | a :: l, h => by
  have ih := iv_nat (fun n hn => h n (List.mem_cons_of_mem _ hn))
  have ha := h a (List.mem_cons_self ..)
  rw [List.map_cons, List.map_cons, List.flatMap_cons, ih]
  show [Value.int .i64 a] ++ _ = [Value.int .i64 (a.toNat : Int)] ++ _
  rw [Int.toNat_of_nonneg ha]; rfl
theorem file_res {m : MailD} {ks : List MarkD} {G : Nat} {w : World} {e : Ending} {w' : World} (h : FileRes w (some ⟨m, ks, G⟩) e w') :
 ∃ (u1 : Option Addr) (k1 : Nat) (u2 : Option Addr) (k2 : Nat) (u3 : Option Addr) (k3 : Nat), e = .returned (.tuple #[.agg #[.int .i64 m.id, .int .i64 m.parent, .int .i64 m.born, .string (strL m.frm), .slice u1 m.rcpts.length k1, .slice u2 m.body.length k2, .slice u3 ks.length k3, .int .i64 (G : Int)], .bool true]) ∧
  RdS w' (.slice u1 m.rcpts.length k1) m.rcpts ∧ RdB w' (.slice u2 m.body.length k2) m.body ∧ RdM w' (.slice u3 ks.length k3) ks ∧ Below w.heap.size w w' := by
 obtain ⟨vr, vb, vm, he, h1, h2, h3, hb⟩ := h
 have h1 : w'.ownsRow w.heap.size 9 1 vr m.rcpts.length (m.rcpts.flatMap s1) := h1
 have h2 : w'.ownsRow w.heap.size 5 1 vb m.body.length (m.body.map u8v) := h2
 have h3 : w'.ownsRow w.heap.size 53 3 vm ks.length (ks.flatMap MarkD.cells) := h3
 obtain ⟨ar, cr, rfl⟩ := own_form0 h1
 obtain ⟨ab, cb, rfl⟩ := own_form0 h2
 obtain ⟨am, cm, rfl⟩ := own_form0 h3
 exact ⟨ar, cr, ab, cb, am, cm, he, rdL_ofOwn s1_len (by decide) h1, rdB_ofOwn h2, rdL_ofOwn mark_len (by decide) h3, hb⟩
set_option maxHeartbeats 32000000 in
theorem alike_calls {mb s : Nat} {d : StoD} {ρ : Rho} {M : ModD} {lv : Value} {bs : List BoxV} {σ : Nat → Prop} (w : World) (h : StoOk w s d ρ) (hwl : d.whr.length ≤ 100000) (hm : MdlAt w mb M lv bs σ) (hok : ModOk M) (hlk : Like d M) :
 Calls Tryz.prog 34 #[.pointer (some ⟨s, 0, none⟩), .pointer (some ⟨mb, 0, none⟩)] w fun e w' => e = .returned (.bool true) ∧ Below w.heap.size w w' := by
 obtain ⟨al, cl, rfl, hll, hlc⟩ := hm.rdl.form
 have hbl : bs.length ≤ 200 := by rw [← List.length_map (f := fun b : BoxV => b.d), hm.lst]; exact hok.n
 obtain ⟨W, hW⟩ : ∃ W, w.alloc (.cells (alkQ.map u8v).toArray 5 (5, 6)) = W := ⟨_, rfl⟩
 obtain ⟨G, hG⟩ : ∃ G, w.heap.size = G := ⟨_, rfl⟩
 have hbW : Below w.heap.size w W := by rw [← hW]; exact (Below.refl _ _).alloc (Nat.le_refl _) _
 have hh : W.heap[G]? = some (.cells (alkQ.map u8v).toArray 5 (5, 6)) := by rw [← hW, ← hG]; exact heap_alloc_new w _
 have hkc : (convert 22 22 (.slice (some ⟨G, 0, none⟩) 5 5)).run Tryz.prog (w.alloc (.cells #[.int .u8 105, .int .u8 97, .int .u8 100, .int .u8 104, .int .u8 99] 5)) = .ok (.slice (some ⟨G, 0, none⟩) 5 5) W := by
  rw [← hG, ← hW]
  exact Lib.run_convert_bytes_const (P := Tryz.prog) w 22 5 #[.int .u8 105, .int .u8 97, .int .u8 100, .int .u8 104, .int .u8 99] 5 5 Tryz.underlying22 Tryz.underlying5
 have hst : ∀ wr, Below W.heap.size W wr → StoOk wr s d ρ ∧ MdlAt wr mb M (.slice al bs.length cl) bs σ ∧ Below w.heap.size w wr ∧ ∀ j q, alkQ[j]? = some q → wr.cell? ⟨G, j, none⟩ = some (.int .u8 q.toNat) := fun wr hb => by
  have h0 := hbW.trans (hb.mono hbW.size)
  refine ⟨h.below h0, hm.below h0, h0, fun j q hj => ?_⟩
  rw [cell_of_row _ _ _ _ _ _ ((hb.block _ (Array.getElem?_eq_some_iff.1 hh).1).trans hh), List.getElem?_toArray, List.getElem?_map, hj]; rfl
 have hI : ∀ (w1 : World) (v1 v2 : Value) (base : Nat) (q : UInt8), q ∈ alkQ → w1.ownsRow base 3 1 v1 (listD d.whr q).length ((listD d.whr q).map iv) → ∀ base2, w1.ownsRow base2 3 1 v2 (M.queue q).length ((M.queue q).map iv) → Calls Tryz.prog 20 #[v1, v2] w1 fun e w' => e = .returned (.bool true) ∧ Below w1.heap.size w1 w' := fun w1 v1 v2 base q hq o1 base2 o2 => by
  rw [hlk.q q hq] at o1
  have hp := queue_pos hok.id q
  have r1 : RdI w1 v1 ((M.queue q).map Int.toNat) := rdL_ofOwn (n := (M.queue q).length) i1_len (by decide) (by rw [← iv_nat hp]; exact o1)
  have r2 : RdI w1 v2 ((M.queue q).map Int.toNat) := rdL_ofOwn (n := (M.queue q).length) i1_len (by decide) (by rw [← iv_nat hp]; exact o2)
  exact refInts_calls v1 v2 _ w1 r1 r2
 have Hst := Lib.hid hst
 have HI := Lib.hid hI
 have Hl := Lib.hid (And.intro hlk (And.intro hwl (And.intro hok hm.lst)))
 clear hst hI hlk hwl hok hm h hh hbW hll hlc
 go_enter Tryz.func34, Tryz.ntmps34
 go_wp2
 go_loopw [14] (fun i wr => ∃ j : Nat, j ≤ 5 ∧ i = .int .i64 j ∧ Below W.heap.size W wr) (fun i _ => 5 - (intOf i).toNat)
 case atStart => exact ⟨0, by decide, rfl, Below.refl _ _⟩
 case round =>
  obtain ⟨j, hj, rfl, hbw⟩ := hrel
  by_cases hlt : j < 5
  ·obtain ⟨q, hq⟩ : ∃ q, alkQ[j]? = some q := ⟨_, List.getElem?_eq_getElem (by show j < 5; exact hlt)⟩
   obtain ⟨hO, hA, hb0, hc⟩ := Hst.out wr hbw
   have cq := hc j q hq
   obtain ⟨qn, hqn⟩ : ∃ qn : Nat, q.toNat = qn := ⟨_, rfl⟩
   rw [hqn] at cq
   have hj0 : (0 : Int) ≤ (j : Int) := by omega
   have hj1 : (j : Int) < 5 := by omega
   have hls := slist_calls s d ρ wr hO.at_ q Hl.out.2.1
   rw [hqn] at hls
   have hmq := fun w1 (h1 : Below W.heap.size W w1) => mQueue_calls q w1 (Hst.out w1 h1).2.1 Hl.out.2.2.1.n
   rw [hqn] at hmq
   have Hls := Lib.hid hls
   have Hmq := Lib.hid hmq
   have Hq := Lib.hid (List.mem_of_getElem? hq)
   have Hbw := Lib.hid hbw
   clear hls hmq hq hO hA hb0 hc hqn
   go_wp2_with fail
   refine (Hls.out).mono ?_; rintro e w1 ⟨v1, rfl, o1, hb1⟩
   have hbw1 := Hbw.out.trans (hb1.mono Hbw.out.size)
   have Hm1 := Lib.hid (Hmq.out w1 hbw1)
   have H1 := Lib.hid (And.intro o1 hbw1)
   clear o1 hb1 hbw1 cq
   go_wp2_with fail
   refine (Hm1.out).mono ?_; rintro e w2 ⟨v2, rfl, o2, hb2⟩
   have Hi2 := Lib.hid (HI.out w2 v1 v2 _ q Hq.out (own_below H1.out.1 hb2 (Nat.le_refl _)) _ o2)
   have H2 := Lib.hid (H1.out.2.trans (hb2.mono H1.out.2.size))
   clear o2 hb2
   go_wp2_with fail
   refine (Hi2.out).mono ?_; rintro e w3 ⟨rfl, hb3⟩
   have H3 := Lib.hid (H2.out.trans (hb3.mono H2.out.size))
   clear hb3 hbw
   go_wp2
   go_roundw
   case rel => exact ⟨j + 1, by omega, by simp, H3.out⟩
   case measure => simp [intOf] <;> omega
  ·have hje : j = 5 := by omega
   subst hje
   go_wp2
   go_loopw [7] (fun i wx => ∃ j : Nat, j ≤ bs.length ∧ i = .int .i64 j ∧ Below W.heap.size W wx) (fun i _ => bs.length - (intOf i).toNat)
   case atStart => exact ⟨0, Nat.zero_le _, rfl, hbw⟩
   case round =>
    obtain ⟨j, hj, rfl, hbw'⟩ := hrel
    clear hbw
    obtain ⟨hO, hA, hb0, _⟩ := Hst.out _ hbw'
    have c0 := hA.cells.1
    by_cases hlt : j < bs.length
    ·obtain ⟨o, ho⟩ : ∃ o, bs[j]? = some o := ⟨_, List.getElem?_eq_getElem hlt⟩
     have hom := List.mem_of_getElem? ho
     obtain ⟨b, off, cap', hsl, hbl', h3⟩ := RdL.at hA.rdl ho
     have y0 := h3 0 _ rfl
     have y1 := h3 1 _ rfl
     have y2 := h3 2 _ rfl
     have y3 := h3 3 _ rfl
     have y4 := h3 4 _ rfl
     have y5 := h3 5 _ rfl
     have y6 := h3 6 _ rfl
     have y7 := h3 7 _ rfl
     rw [Nat.add_zero] at y0
     rw [← Nat.add_assoc] at y1 y2 y3 y4 y5 y6 y7
     cases hsl
     have hj0 : (0 : Int) ≤ (j : Int) := by omega
     have hj1 : (j : Int) < (bs.length : Int) := by omega
     have hlo := Hl.out.1.f o.d (by rw [← Hl.out.2.2.2]; exact List.mem_map.2 ⟨o, hom, rfl⟩)
     obtain ⟨⟨gd0, hsf⟩, hwo⟩ := hlo
     have hrdo := hA.rd o hom
     have hido := Hl.out.2.2.1.id o.d (by rw [← Hl.out.2.2.2]; exact List.mem_map.2 ⟨o, hom, rfl⟩)
     have hlast := Hl.out.2.2.1.last
     have hid : -9223372036854775808 ≤ o.d.m.id ∧ o.d.m.id ≤ 9223372036854775807 := by omega
     have hsfc := fun w1 (h1 : Below W.heap.size W w1) => sfile_calls s d ρ w1 (Hst.out w1 h1).1.at_ o.d.m.id hid (Hst.out w1 h1).1.g (Hst.out w1 h1).1.mx
     rw [hsf] at hsfc
     have hwhc := fun w1 (h1 : Below W.heap.size W w1) => where_calls s d ρ w1 (Hst.out w1 h1).1.at_ o.d.m.id hid
     rw [hwo] at hwhc
     obtain ⟨⟨⟨⟨fid, fp, fb, frm, rcpts, body⟩, oq, oks⟩, oar, ocr, oab, ocb, oam, ocm⟩, hoe⟩ : ∃ o', o' = o := ⟨_, rfl⟩
     subst hoe
     dsimp only at y0 y1 y2 y3 y4 y5 y6 y7 hsfc hwhc
     have Hrd := Lib.hid hrdo
     obtain ⟨tf, htf⟩ : ∃ tf, strL frm = tf := ⟨_, rfl⟩
     obtain ⟨n1, hn1⟩ : ∃ n1, rcpts.length = n1 := ⟨_, rfl⟩
     obtain ⟨n2, hn2⟩ : ∃ n2, body.length = n2 := ⟨_, rfl⟩
     obtain ⟨n3, hn3⟩ : ∃ n3, oks.length = n3 := ⟨_, rfl⟩
     obtain ⟨qn, hqn⟩ : ∃ qn : Nat, oq.toNat = qn := ⟨_, rfl⟩
     rw [htf] at y3
     rw [hn1] at y4
     rw [hn2] at y5
     rw [hqn] at y6 hwhc
     rw [hn3] at y7
     have Hn := Lib.hid (And.intro htf (And.intro hn1 (And.intro hn2 hn3)))
     obtain ⟨Y, hY⟩ : ∃ Y, wr.heap.size = Y := ⟨_, rfl⟩
     obtain ⟨W1, hW1⟩ : ∃ W1, wr.alloc (.cells #[.int .i64 fid, .int .i64 fp, .int .i64 fb, .string tf, .slice oar n1 ocr, .slice oab n2 ocb, .int .u8 (qn : Int), .slice oam n3 ocm] 80) = W1 := ⟨_, rfl⟩
     have hb1 : Below wr.heap.size wr W1 := by rw [← hW1]; exact (Below.refl _ _).alloc (Nat.le_refl _) _
     have hYc : W1.heap[Y]? = some (.cells #[.int .i64 fid, .int .i64 fp, .int .i64 fb, .string tf, .slice oar n1 ocr, .slice oab n2 ocb, .int .u8 (qn : Int), .slice oam n3 ocm] 80 (0, 0)) := by rw [← hW1, ← hY]; exact heap_alloc_new wr _
     have hbw1 := hbw'.trans (hb1.mono hbw'.size)
     have z0 : W1.cell? ⟨Y, 0, none⟩ = some (.int .i64 fid) := by rw [cell_of_row _ _ _ _ _ _ hYc]; rfl
     have Hsf := Lib.hid (hsfc W1 hbw1)
     have Hwhc := Lib.hid hwhc
     have H1 := Lib.hid (And.intro hbw1 (And.intro hYc hb1))
     clear hsfc hwhc hbw1 hYc hb1 h3 ho hom hsf hwo hrdo hido htf hn1 hn2 hn3 hqn hO hA hb0 hbw' hid
     go_wp2_with fail
     try rw [hW1]
     refine (Hsf.out).mono ?_; rintro e w2 hres
     obtain ⟨u1, k1, u2, k2, u3, k3, rfl, r1, r2, r3, hb2⟩ := file_res hres
     dsimp only at r1 r2 r3 ⊢
     rw [Hn.out.1, Hn.out.2.1, Hn.out.2.2.1, Hn.out.2.2.2]
     obtain ⟨gd, hgd⟩ : ∃ gd : Int, (gd0 : Int) = gd := ⟨_, rfl⟩
     rw [hgd]
     obtain ⟨X, hX⟩ : ∃ X, w2.heap.size = X := ⟨_, rfl⟩
     obtain ⟨W4, hW4⟩ : ∃ W4, w2.alloc (.cells #[.int .i64 fid, .int .i64 fp, .int .i64 fb, .string tf, .slice u1 n1 k1, .slice u2 n2 k2, .slice u3 n3 k3, .int .i64 gd] 43) = W4 := ⟨_, rfl⟩
     have hb4 : Below w2.heap.size w2 W4 := by rw [← hW4]; exact (Below.refl _ _).alloc (Nat.le_refl _) _
     have hXc : W4.heap[X]? = some (.cells #[.int .i64 fid, .int .i64 fp, .int .i64 fb, .string tf, .slice u1 n1 k1, .slice u2 n2 k2, .slice u3 n3 k3, .int .i64 gd] 43 (0, 0)) := by rw [← hW4, ← hX]; exact heap_alloc_new w2 _
     have hb24 := hb2.trans (hb4.mono hb2.size)
     have hYc := (hb24.block _ (Array.getElem?_eq_some_iff.1 H1.out.2.1).1).trans H1.out.2.1
     have hbw4 := H1.out.1.trans (hb24.mono H1.out.1.size)
     have hbx4 := H1.out.2.2.trans (hb24.mono H1.out.2.2.size)
     have Hs : Hid (∀ w1, Below W4.heap.size W4 w1 → (fun w' => w'.cell? ⟨X, 0, none⟩ = some (.int .i64 fid) ∧ w'.cell? ⟨X, 1, none⟩ = some (.int .i64 fp) ∧ w'.cell? ⟨X, 2, none⟩ = some (.int .i64 fb) ∧ w'.cell? ⟨X, 3, none⟩ = some (.string tf) ∧ w'.cell? ⟨X, 4, none⟩ = some (.slice u1 n1 k1) ∧ w'.cell? ⟨X, 5, none⟩ = some (.slice u2 n2 k2) ∧ w'.cell? ⟨X, 6, none⟩ = some (.slice u3 n3 k3) ∧ w'.cell? ⟨Y, 0, none⟩ = some (.int .i64 fid) ∧ w'.cell? ⟨Y, 1, none⟩ = some (.int .i64 fp) ∧ w'.cell? ⟨Y, 2, none⟩ = some (.int .i64 fb) ∧ w'.cell? ⟨Y, 3, none⟩ = some (.string tf) ∧ w'.cell? ⟨Y, 4, none⟩ = some (.slice oar n1 ocr) ∧ w'.cell? ⟨Y, 5, none⟩ = some (.slice oab n2 ocb) ∧ w'.cell? ⟨Y, 6, none⟩ = some (.int .u8 (qn : Int)) ∧ w'.cell? ⟨Y, 7, none⟩ = some (.slice oam n3 ocm) ∧ Hid (Below W4.heap.size W4 w')) w1) := Lib.hid (fun w1 h1 => by
      have hx := (h1.block _ (Array.getElem?_eq_some_iff.1 hXc).1).trans hXc
      have hy := (h1.block _ (Array.getElem?_eq_some_iff.1 hYc).1).trans hYc
      exact ⟨by rw [cell_of_row _ _ _ _ _ _ hx]; rfl, by rw [cell_of_row _ _ _ _ _ _ hx]; rfl, by rw [cell_of_row _ _ _ _ _ _ hx]; rfl, by rw [cell_of_row _ _ _ _ _ _ hx]; rfl, by rw [cell_of_row _ _ _ _ _ _ hx]; rfl, by rw [cell_of_row _ _ _ _ _ _ hx]; rfl, by rw [cell_of_row _ _ _ _ _ _ hx]; rfl, by rw [cell_of_row _ _ _ _ _ _ hy]; rfl, by rw [cell_of_row _ _ _ _ _ _ hy]; rfl, by rw [cell_of_row _ _ _ _ _ _ hy]; rfl, by rw [cell_of_row _ _ _ _ _ _ hy]; rfl, by rw [cell_of_row _ _ _ _ _ _ hy]; rfl, by rw [cell_of_row _ _ _ _ _ _ hy]; rfl, by rw [cell_of_row _ _ _ _ _ _ hy]; rfl, by rw [cell_of_row _ _ _ _ _ _ hy]; rfl, Lib.hid h1⟩)
     have hd0 : Below W4.heap.size W4 W4.drew := (Below.refl _ _).drew
     have HS := Lib.hid (Hs.out _ hd0)
     have hrb : BoxRd W4 ⟨⟨⟨fid, fp, fb, frm, rcpts, body⟩, oq, oks⟩, oar, ocr, oab, ocb, oam, ocm⟩ := Hrd.out.keeps (F := fun _ => False) (Keeps.ofBelow hbx4) (fun _ _ e => e)
     have hsame : ∀ w1, Below W4.heap.size W4 w1 → Calls Tryz.prog 79 #[.agg #[.int .i64 fid, .int .i64 fp, .int .i64 fb, .string tf, .slice u1 n1 k1, .slice u2 n2 k2], .agg #[.int .i64 fid, .int .i64 fp, .int .i64 fb, .string tf, .slice oar n1 ocr, .slice oab n2 ocb]] w1 fun e w' => e = .returned (.bool true) ∧ Below w1.heap.size w1 w' := fun w1 h1 => by
      have hrb1 := hrb.keeps (F := fun _ => False) (Keeps.ofBelow h1) (fun _ _ e => e)
      have := refSame_calls ⟨fid, fp, fb, frm, rcpts, body⟩ ⟨fid, fp, fb, frm, rcpts, body⟩ (.slice u1 rcpts.length k1) (.slice u2 body.length k2) (.slice oar rcpts.length ocr) (.slice oab body.length ocb) w1 ((r1.below (Nat.le_refl _) hb4).below (Nat.le_refl _) h1) ((r2.below (Nat.le_refl _) hb4).below (Nat.le_refl _) h1) hrb1.r hrb1.b
      unfold mailVal at this
      dsimp only at this
      rw [Hn.out.1, Hn.out.2.1, Hn.out.2.2.1, decide_eq_true rfl] at this
      exact this
     have hsm : ∀ w1, Below W4.heap.size W4 w1 → Calls Tryz.prog 30 #[.slice u3 n3 k3, .slice oam n3 ocm] w1 fun e w' => e = .returned (.bool true) ∧ Below w1.heap.size w1 w' := fun w1 h1 => by
      have hrb1 := hrb.keeps (F := fun _ => False) (Keeps.ofBelow h1) (fun _ _ e => e)
      have := sameMarks_calls (.slice u3 oks.length k3) (.slice oam oks.length ocm) oks w1 ((r3.below (Nat.le_refl _) hb4).below (Nat.le_refl _) h1) hrb1.m
      rw [Hn.out.2.2.2] at this
      exact this
     have Hsame := Lib.hid hsame
     have Hsm := Lib.hid hsm
     have Hwh : Hid (∀ w1, Below W4.heap.size W4 w1 → Calls Tryz.prog 18 #[.pointer (some ⟨s, 0, none⟩), .int .i64 fid] w1 fun e w' => e = .returned (.int .u8 (qn : Int)) ∧ Below w1.heap.size w1 w') := Lib.hid (fun w1 h1 => Hwhc.out w1 (hbw4.trans (h1.mono hbw4.size)))
     clear hsame hsm hrb hYc hXc hbx4 hb24 hb4 hb2 r1 r2 r3 hres hgd y0 y1 y2 y3 y4 y5 y6 y7 z0
     go_upto_region 12 with fail
     try rw [hX]
     try rw [hW4]
     refine wp_region_noPanic ?_
     refine wp_region_held_drew (S := (fun w' => w'.cell? ⟨X, 0, none⟩ = some (.int .i64 fid) ∧ w'.cell? ⟨X, 1, none⟩ = some (.int .i64 fp) ∧ w'.cell? ⟨X, 2, none⟩ = some (.int .i64 fb) ∧ w'.cell? ⟨X, 3, none⟩ = some (.string tf) ∧ w'.cell? ⟨X, 4, none⟩ = some (.slice u1 n1 k1) ∧ w'.cell? ⟨X, 5, none⟩ = some (.slice u2 n2 k2) ∧ w'.cell? ⟨X, 6, none⟩ = some (.slice u3 n3 k3) ∧ w'.cell? ⟨Y, 0, none⟩ = some (.int .i64 fid) ∧ w'.cell? ⟨Y, 1, none⟩ = some (.int .i64 fp) ∧ w'.cell? ⟨Y, 2, none⟩ = some (.int .i64 fb) ∧ w'.cell? ⟨Y, 3, none⟩ = some (.string tf) ∧ w'.cell? ⟨Y, 4, none⟩ = some (.slice oar n1 ocr) ∧ w'.cell? ⟨Y, 5, none⟩ = some (.slice oab n2 ocb) ∧ w'.cell? ⟨Y, 6, none⟩ = some (.int .u8 (qn : Int)) ∧ w'.cell? ⟨Y, 7, none⟩ = some (.slice oam n3 ocm) ∧ Hid (Below W4.heap.size W4 w'))) (by kernel_rfl) (by first | with_reducible exact HS.out | exact Hs.out _ (by with_reducible assumption)) (fun hHeld => ?_)
     refine tkP 0 ?_
     refine tkP 1 ?_
     refine tkP 2 ?_
     refine tkP 3 ?_
     refine tkP 4 ?_
     refine tkP 5 ?_
     refine tkP 6 ?_
     refine rdH 7 fun K hK => ?_
     go_simp
     go_at_call 79; refine (Hsame.out _ hd0).mono ?_; rintro e wa ⟨rfl, hda⟩; have hba := hd0.trans (hda.mono hd0.size)
     refine hK.out _ _ (by (try dsimp only); first | with_reducible exact HS.out | exact Hs.out _ (by with_reducible assumption)) (fun hHeld => ?_)
     clear hK K
     try simp only [Act.put, qA, qB, qC]
     refine tkP 8 ?_
     refine tkP 9 ?_
     refine tkP 10 ?_
     refine tkP 11 ?_
     refine tkP 12 ?_
     refine tkP 13 ?_
     refine tkP 14 ?_
     refine rdH 15 fun K hK => ?_
     go_simp
     go_at_call 30; refine (Hsm.out _ hba).mono ?_; rintro e wb ⟨rfl, hdb⟩; have hbb := hba.trans (hdb.mono hba.size)
     refine hK.out _ _ (by (try dsimp only); first | with_reducible exact HS.out | exact Hs.out _ (by with_reducible assumption)) (fun hHeld => ?_)
     clear hK K
     try simp only [Act.put, qA, qB, qC]
     refine tkP 16 ?_
     refine tkP 17 ?_
     refine tkP 18 ?_
     refine tkP 19 ?_
     refine tkP 20 ?_
     refine tkP 21 ?_
     refine tkP 22 ?_
     refine tkP 24 ?_
     refine tkP 25 ?_
     refine rdH 23 fun K hK => ?_
     go_simp
     go_at_call 18; refine (Hwh.out _ hbb).mono ?_; rintro e wd ⟨rfl, hdd⟩; have hbd := hbb.trans (hdd.mono hbb.size)
     refine hK.out _ _ (by (try dsimp only); first | with_reducible exact HS.out | exact Hs.out _ (by with_reducible assumption)) (fun hHeld => ?_)
     clear hK K
     try simp only [Act.put, qA, qB, qC]
     refine tkP 26 ?_
     refine tkP 27 ?_
     refine wpAnyH_done (by kernel_rfl) ?_ _
     refine NoPanic.normal ?_
     have Hbd := Lib.hid (hbw4.trans (hbd.mono hbw4.size))
     clear hbd hba hbb hd0 hbw4
     go_wp2
     go_roundw
     case rel => exact ⟨j + 1, by omega, by simp, Hbd.out⟩
     case measure => simp [intOf] <;> omega
    ·have hje : j = bs.length := by omega
     subst hje
     have hlt' := slist_calls s d ρ wr hO.at_ 116 Hl.out.2.1
     rw [Hl.out.1.t] at hlt'
     have Hls : Hid (Calls Tryz.prog 21 #[.pointer (some ⟨s, 0, none⟩), .int .u8 116] wr fun e w' => ∃ v, e = .returned v ∧ w'.ownsRow wr.heap.size 3 1 v 0 [] ∧ Below wr.heap.size wr w') := Lib.hid hlt'
     have Hb0 := Lib.hid hb0
     clear hlt' hO hA hb0 hbw'
     go_wp2_with fail
     refine (Hls.out).mono ?_; rintro e w1 ⟨v1, rfl, o1, hb1⟩
     obtain ⟨a1, c1, rfl⟩ := own_form0 o1
     have H1 := Lib.hid (Hb0.out.trans (hb1.mono Hb0.out.size))
     clear o1 hb1
     go_wp2
     go_ret
     exact ⟨rfl, H1.out⟩
def MendR (d : StoD) (q : UInt8) (id er : Int) (d' : StoD) : Prop :=
 ((fsReadD d.fs (nameD q id)).1 ≠ 0 ∧ er = (fsReadD d.fs (nameD q id)).1 ∧ d' = { d with down := d.down || decide (er = 2) }) ∨
 ((fsReadD d.fs (nameD q id)).1 = 0 ∧
   (((∀ f, fileD (fsReadD d.fs (nameD q id)).2 = some f → f.mail.id ≠ id) ∧ ∃ fs2, Outcome (renS (nameD q id) (nameD 99 id)) 2 d.fs er fs2 ∧ d' = { d with whr := d.whr.put id 99, fs := fs2, down := d.down || decide (er = 2) }) ∨
    (∃ f, fileD (fsReadD d.fs (nameD q id)).2 = some f ∧ f.mail.id = id ∧
     ((f.good < (fsReadD d.fs (nameD q id)).2.length ∧ ∃ fs2, Outcome (layS (nameD 116 id) (nameD q id) ((fsReadD d.fs (nameD q id)).2.take f.good)) 6 d.fs er fs2 ∧ d' = { d with fs := fs2, down := d.down || decide (er = 2) }) ∨
      (f.good = (fsReadD d.fs (nameD q id)).2.length ∧ er = 0 ∧ d' = d)))))
inductive RunL {α : Type} (S : α → StoD → Int → StoD → Prop) (d0 : StoD) : List α → StoD → Prop
 | nil : RunL S d0 [] d0
 | snoc {pre : List α} {x : α} {d d' : StoD} : RunL S d0 pre d → S x d 0 d' → RunL S d0 (pre ++ [x]) d'
def OutL {α : Type} (S : α → StoD → Int → StoD → Prop) (l : List α) (d0 : StoD) (er : Int) (d' : StoD) : Prop :=
 (er = 0 ∧ RunL S d0 l d') ∨ (er ≠ 0 ∧ ∃ j x d, l[j]? = some x ∧ RunL S d0 (l.take j) d ∧ S x d er d')
def TmpS (n : Nm) (d : StoD) (er : Int) (d' : StoD) : Prop :=
 ((∀ m, ¬ StoOf n 116 m) ∧ er = 0 ∧ d' = d) ∨ ((∃ m, StoOf n 116 m) ∧ ∃ v lv, er = (unlinkD d.fs n v lv).1 ∧ d' = { d with fs := (unlinkD d.fs n v lv).2, down := d.down || decide (er = 2) })
def RecS (n : Nm) (d : StoD) (er : Int) (d' : StoD) : Prop :=
 ((∀ q m, ¬ StoOf n q m) ∧ er = 0 ∧ d' = d) ∨ (∃ q m, StoOf n q m ∧ ((keepQ.contains q = false ∧ er = 0 ∧ d' = { d with whr := d.whr.put m q }) ∨ (keepQ.contains q = true ∧ MendR { d with whr := d.whr.put m q } q m er d')))
def NmOk (fs : FsD) : Prop := ∀ p ∈ fs.now, p.1.length ≤ 1000
structure TmpI (w1 : World) (s : Nat) (d : StoD) (ρ : Rho) (ss : List Nm) (j : Nat) (dj : StoD) (ρj : Rho) (wr : World) : Prop where
 run : RunL TmpS d (ss.take j) dj
 at_ : StoOk wr s dj ρj
 step : StoStep w1 s d ρ wr dj ρj
 go : FsGo d.fs dj.fs j
 down : dj.fs.down = false
 nm : NmOk dj.fs
 wh : dj.whr = d.whr
theorem TmpI.bel {w1 : World} {s : Nat} {d : StoD} {ρ : Rho} {ss : List Nm} {j : Nat} {dj : StoD} {ρj : Rho} {wr w2 : World} (h : TmpI w1 s d ρ ss j dj ρj wr) (hb : Below wr.heap.size wr w2) : TmpI w1 s d ρ ss j dj ρj w2 :=
 ⟨h.run, h.at_.below hb, h.step.bel hb, h.go, h.down, h.nm, h.wh⟩
def WhOk (l : Wh) : Prop := ∀ p ∈ l, 1 ≤ p.1 ∧ p.1 ≤ 999999999
def ParS (id : Int) (d : StoD) (er : Int) (d' : StoD) : Prop :=
 (¬ ((sfileD d id).isSome = true ∧ workQ.contains (d.whr.at ((sfileD d id).getD FileD.zero).mail.parent) = true) ∧ er = 0 ∧ d' = d) ∨
 ((sfileD d id).isSome = true ∧ workQ.contains (d.whr.at ((sfileD d id).getD FileD.zero).mail.parent) = true ∧
   ∃ fs2, Outcome (unlS (nameD (d.whr.at ((sfileD d id).getD FileD.zero).mail.parent) ((sfileD d id).getD FileD.zero).mail.parent)) 2 d.fs er fs2 ∧
    ((er ≠ 0 ∧ d' = { d with fs := fs2, down := d.down || decide (er = 2) }) ∨ (er = 0 ∧ d' = { d with fs := fs2, whr := d.whr.del ((sfileD d id).getD FileD.zero).mail.parent })))
def parL (d : StoD) : List Int := (([105, 97, 100] : List UInt8).flatMap (listD d.whr)).mergeSort (fun x y => decide (x ≤ y))
structure ParI (w1 : World) (s : Nat) (d : StoD) (ρ : Rho) (ll : List Int) (j : Nat) (dj : StoD) (ρj : Rho) (wr : World) : Prop where
 run : RunL ParS d (ll.take j) dj
 at_ : StoOk wr s dj ρj
 step : StoStep w1 s d ρ wr dj ρj
 go : FsGo d.fs dj.fs (2 * j)
theorem ParI.bel {w1 : World} {s : Nat} {d : StoD} {ρ : Rho} {ll : List Int} {j : Nat} {dj : StoD} {ρj : Rho} {wr w2 : World} (h : ParI w1 s d ρ ll j dj ρj wr) (hb : Below wr.heap.size wr w2) : ParI w1 s d ρ ll j dj ρj w2 :=
 ⟨h.run, h.at_.below hb, h.step.bel hb, h.go⟩
def RecoverR (d : StoD) (er : Int) (d' : StoD) : Prop :=
 ∃ ss1 e1 d1, sortedNm d.fs ss1 ∧ OutL TmpS ss1 d e1 d1 ∧ ((e1 ≠ 0 ∧ er = e1 ∧ d' = d1) ∨
  (e1 = 0 ∧ ∃ ss2 e2 d2, sortedNm d1.fs ss2 ∧ OutL RecS ss2 d1 e2 d2 ∧ ((e2 ≠ 0 ∧ er = e2 ∧ d' = d2) ∨ (e2 = 0 ∧ OutL ParS (parL d2) d2 er d'))))
structure RecI (w1 : World) (s : Nat) (d : StoD) (ρ : Rho) (ss : List Nm) (j : Nat) (dj : StoD) (ρj : Rho) (wr : World) : Prop where
 run : RunL RecS d (ss.take j) dj
 at_ : StoOk wr s dj ρj
 step : StoStep w1 s d ρ wr dj ρj
 go : FsGo d.fs dj.fs (6 * j)
 wl : dj.whr.length ≤ d.whr.length + 2 * j
 wk : WhOk dj.whr
theorem RecI.bel {w1 : World} {s : Nat} {d : StoD} {ρ : Rho} {ss : List Nm} {j : Nat} {dj : StoD} {ρj : Rho} {wr w2 : World} (h : RecI w1 s d ρ ss j dj ρj wr) (hb : Below wr.heap.size wr w2) : RecI w1 s d ρ ss j dj ρj w2 :=
 ⟨h.run, h.at_.below hb, h.step.bel hb, h.go, h.wl, h.wk⟩
theorem whOk_put {l : Wh} (h : WhOk l) {n : Int} (hn : 1 ≤ n ∧ n ≤ 999999999) (x : UInt8) : WhOk (l.put n x) := by
 have hi : ∀ (y : Int × UInt8) (l : Wh) (p : Int × UInt8), p ∈ Wh.ins y l → p = y ∨ p ∈ l := by
  intro y l
  induction l with
  | nil => intro p hp; exact .inl (List.mem_singleton.1 hp)
  | cons z r ih =>
   intro p hp
   rw [Wh.ins] at hp
   split at hp
   ·rcases List.mem_cons.1 hp with e | e
    ·exact .inl e
    ·exact .inr e
   ·rcases List.mem_cons.1 hp with e | e
    ·exact .inr (e ▸ List.mem_cons_self ..)
    ·rcases ih p e with e | e
     ·exact .inl e
     ·exact .inr (List.mem_cons_of_mem _ e)
 intro p hp
 rcases hi _ _ p hp with e | e
 ·rw [e]; exact hn
 ·exact h p (List.mem_filter.1 e).1
theorem MendR.wk {d d' : StoD} {q : UInt8} {id er : Int} (h : MendR d q id er d') (hw : WhOk d.whr) (hid : 1 ≤ id ∧ id ≤ 999999999) : WhOk d'.whr := by
 rcases h with ⟨_, _, rfl⟩ | ⟨_, ⟨_, fs2, _, rfl⟩ | ⟨f, _, _, ⟨_, fs2, _, rfl⟩ | ⟨_, _, rfl⟩⟩⟩
 ·exact hw
 ·exact whOk_put hw hid _
 ·exact hw
 ·exact hw
theorem MendR.blk {d d' : StoD} {q : UInt8} {id er : Int} (h : MendR d q id er d') : d'.fb = d.fb ∧ d'.ib = d.ib ∧ d'.mb = d.mb ∧ d'.last = d.last ∧ d'.bound = d.bound ∧ d'.nfile = d.nfile := by
 rcases h with ⟨_, _, rfl⟩ | ⟨_, ⟨_, fs2, _, rfl⟩ | ⟨f, _, _, ⟨_, fs2, _, rfl⟩ | ⟨_, _, rfl⟩⟩⟩ <;> exact ⟨rfl, rfl, rfl, rfl, rfl, rfl⟩
def Blk (d d' : StoD) : Prop := d'.fb = d.fb ∧ d'.ib = d.ib ∧ d'.mb = d.mb ∧ d'.last = d.last ∧ d'.bound = d.bound ∧ d'.nfile = d.nfile
theorem Blk.refl (d : StoD) : Blk d d := ⟨rfl, rfl, rfl, rfl, rfl, rfl⟩
theorem Blk.trans {a b c : StoD} (h : Blk a b) (g : Blk b c) : Blk a c := by
 obtain ⟨a1, a2, a3, a4, a5, a6⟩ := h
 obtain ⟨b1, b2, b3, b4, b5, b6⟩ := g
 exact ⟨b1.trans a1, b2.trans a2, b3.trans a3, b4.trans a4, b5.trans a5, b6.trans a6⟩
theorem RunL.blk {α : Type} {S : α → StoD → Int → StoD → Prop} (hS : ∀ x d er d', S x d er d' → Blk d d') {d0 d : StoD} {l : List α} (h : RunL S d0 l d) : Blk d0 d := by
 induction h with
 | nil => exact Blk.refl _
 | snoc _ h2 ih => exact ih.trans (hS _ _ _ _ h2)
theorem OutL.blk {α : Type} {S : α → StoD → Int → StoD → Prop} (hS : ∀ x d er d', S x d er d' → Blk d d') {d0 d : StoD} {l : List α} {er : Int} (h : OutL S l d0 er d) : Blk d0 d := by
 rcases h with ⟨_, h⟩ | ⟨_, j, x, dj, _, h1, h2⟩
 ·exact h.blk hS
 ·exact (h1.blk hS).trans (hS _ _ _ _ h2)
theorem TmpS.blk {n : Nm} {d d' : StoD} {er : Int} (h : TmpS n d er d') : Blk d d' := by
 rcases h with ⟨_, _, rfl⟩ | ⟨_, v, lv, _, rfl⟩ <;> exact ⟨rfl, rfl, rfl, rfl, rfl, rfl⟩
theorem RecS.blk {n : Nm} {d d' : StoD} {er : Int} (h : RecS n d er d') : Blk d d' := by
 rcases h with ⟨_, _, rfl⟩ | ⟨q, m, _, ⟨_, _, rfl⟩ | ⟨_, h⟩⟩
 ·exact Blk.refl _
 ·exact ⟨rfl, rfl, rfl, rfl, rfl, rfl⟩
 ·exact h.blk
theorem ParS.blk {n : Int} {d d' : StoD} {er : Int} (h : ParS n d er d') : Blk d d' := by
 rcases h with ⟨_, _, rfl⟩ | ⟨_, _, fs2, _, ⟨_, rfl⟩ | ⟨_, rfl⟩⟩ <;> exact ⟨rfl, rfl, rfl, rfl, rfl, rfl⟩
theorem RecoverR.blk {d d' : StoD} {er : Int} (h : RecoverR d er d') : Blk d d' := by
 obtain ⟨ss1, e1, d1, _, h1, ⟨_, _, rfl⟩ | ⟨_, ss2, e2, d2, _, h2, ⟨_, _, rfl⟩ | ⟨_, h3⟩⟩⟩ := h
 ·exact h1.blk (fun _ _ _ _ h => h.blk)
 ·exact (h1.blk (fun _ _ _ _ h => h.blk)).trans (h2.blk (fun _ _ _ _ h => h.blk))
 ·exact ((h1.blk (fun _ _ _ _ h => h.blk)).trans (h2.blk (fun _ _ _ _ h => h.blk))).trans (h3.blk (fun _ _ _ _ h => h.blk))
section
variable {α : Type} {S : α → StoD → Int → StoD → Prop} {d d' : StoD} {er : Int} {x : α}
end
section
variable {fs : FsD} {C : Cont} {N U : Nat} {R : Int}
theorem Vw.renS (h : Vw fs C N U R) {a b : Nm} {z : List UInt8} (ha : rightD a = true) (hb : rightD b = true) (hab : a ≠ b) (hz : C a = some z) {er : Int} {fs' : FsD} (ho : Outcome (Go.Proofs.YtffnbkmigapmjaaGreatDoor.renS a b) 2 fs er fs') :
 er = 0 ∧ Vw fs' (updC (updC C b (some z)) a none) (if (C b).isSome then N - 1 else N) (U - ((C b).getD []).length) R := by
 let V : Nat → FsD → Prop := fun i x => match i with
  | 0 => Vw x C N U R
  | _ => Vw x (updC (updC C b (some z)) a none) (if (C b).isSome then N - 1 else N) (U - ((C b).getD []).length) R
 exact run_good (V := V) (n := 2) (d := fs) (S := Go.Proofs.YtffnbkmigapmjaaGreatDoor.renS a b) h (by
  intro i x er y hi hV hS
  match i, hi, hV, hS with
  | 0, _, hV, ⟨v, lv, he, hy⟩ =>
   have hV : Vw x C N U R := hV
   obtain ⟨q1, q2⟩ := hV.rename ha hb hab hz v lv
   subst he; subst hy
   exact ⟨q1, q2⟩
  | 1, _, hV, ⟨ms, he, hy⟩ =>
   have hV : Vw x (updC (updC C b (some z)) a none) (if (C b).isSome then N - 1 else N) (U - ((C b).getD []).length) R := hV
   obtain ⟨q1, q2⟩ := hV.dirSync ms
   subst he; subst hy
   exact ⟨q1, q2⟩) er fs' ho
end
theorem nameD_ne {q r : UInt8} {id : Int} (hq : allQ.contains q = true) (hr : allQ.contains r = true) (h1 : 1 ≤ id) (h2 : id ≤ 999999999) (h : q ≠ r) : nameD q id ≠ nameD r id := fun e => by
 rw [nameD_of hq h1 h2, nameD_of hr h1 h2] at e
 injection e with e _
 exact h e
end Go.Proofs.YtffnbkmigapmjaaGreatDoor
