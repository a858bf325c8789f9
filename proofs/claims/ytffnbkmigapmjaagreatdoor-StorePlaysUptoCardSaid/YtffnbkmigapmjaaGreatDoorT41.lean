/-
  The walk of pillarboxlaw14.alike, of a store that is like the model (printed by gen_alk14.py).
-/
import Derived.Test.YtffnbkmigapmjaaGreatDoorT10
import Derived.Test.YtffnbkmigapmjaaGreatDoorT26
import Derived.Test.YtffnbkmigapmjaaGreatDoorT40
import Derived.Lib.SlBytesConst
set_option linter.unusedSimpArgs false
set_option linter.unusedVariables false
set_option maxRecDepth 100000
namespace Go.Proofs.YtffnbkmigapmjaaGreatDoor
open Go.RowKit Go.Maps
def alkQ : List UInt8 := [105, 97, 100, 104, 99]
structure Like (d : StoD) (M : ModD) : Prop where
 q : ∀ q ∈ alkQ, listD d.whr q = M.queue q
 f : ∀ b ∈ M.list, (∃ g, sfileD d b.m.id = some ⟨b.m, b.ks, g⟩) ∧ d.whr.at b.m.id = b.q
 t : listD d.whr 116 = []
theorem queue_pos {M : ModD} (h : ∀ b ∈ M.list, 1 ≤ b.m.id ∧ b.m.id ≤ M.last) (q : UInt8) : ∀ n ∈ M.queue q, 0 ≤ n := fun n hn => by
 unfold ModD.queue at hn
 obtain ⟨b, hb, rfl⟩ := List.mem_map.1 hn
 have := (h b (List.mem_filter.1 hb).1).1
 omega
theorem iv_nat : ∀ {l : List Int}, (∀ n ∈ l, 0 ≤ n) → l.map iv = (l.map Int.toNat).flatMap i1
 | [], _ => rfl
 | a :: l, h => by
  have ih := iv_nat (fun n hn => h n (List.mem_cons_of_mem _ hn))
  have ha := h a (List.mem_cons_self ..)
  rw [List.map_cons, List.map_cons, List.flatMap_cons, ih]
  show [Value.int .i64 a] ++ _ = [Value.int .i64 (a.toNat : Int)] ++ _
  rw [Int.toNat_of_nonneg ha]; rfl
theorem file_res {m : MailD} {ks : List MarkD} {G : Nat} {w : World} {e : Ending} {w' : World} (h : FileRes w (some ⟨m, ks, G⟩) e w') :
 ∃ (u1 : Option Addr) (k1 : Nat) (u2 : Option Addr) (k2 : Nat) (u3 : Option Addr) (k3 : Nat), e = .returned (.tuple #[.agg #[.int .i64 m.id, .int .i64 m.parent, .int .i64 m.born, .string (strL m.frm), .slice u1 m.rcpts.length k1, .slice u2 m.body.length k2, .slice u3 ks.length k3, .int .i64 (G : Int)], .bool true]) ∧
  RdS w' (.slice u1 m.rcpts.length k1) m.rcpts ∧ RdB w' (.slice u2 m.body.length k2) m.body ∧ RdM w' (.slice u3 ks.length k3) ks ∧ Below w.heap.size w w' := by
 obtain ⟨vr, vb, vm, he, h1, h2, h3, hb⟩ := h
 have h1 : w'.ownsRow w.heap.size 9 1 vr m.rcpts.length (m.rcpts.flatMap s1) := h1
 have h2 : w'.ownsRow w.heap.size 5 1 vb m.body.length (m.body.map u8v) := h2
 have h3 : w'.ownsRow w.heap.size 53 3 vm ks.length (ks.flatMap MarkD.cells) := h3
 obtain ⟨ar, cr, rfl⟩ := own_form0 h1
 obtain ⟨ab, cb, rfl⟩ := own_form0 h2
 obtain ⟨am, cm, rfl⟩ := own_form0 h3
 exact ⟨ar, cr, ab, cb, am, cm, he, rdL_ofOwn s1_len (by decide) h1, rdB_ofOwn h2, rdL_ofOwn mark_len (by decide) h3, hb⟩
set_option maxHeartbeats 32000000 in
theorem alike_calls {mb s : Nat} {d : StoD} {ρ : Rho} {M : ModD} {lv : Value} {bs : List BoxV} {σ : Nat → Prop} (w : World) (h : StoOk w s d ρ) (hwl : d.whr.length ≤ 100000) (hm : MdlAt w mb M lv bs σ) (hok : ModOk M) (hlk : Like d M) :
 Calls Tryz.prog 34 #[.pointer (some ⟨s, 0, none⟩), .pointer (some ⟨mb, 0, none⟩)] w fun e w' => e = .returned (.bool true) ∧ Below w.heap.size w w' := by
 obtain ⟨al, cl, rfl, hll, hlc⟩ := hm.rdl.form
 have hbl : bs.length ≤ 200 := by rw [← List.length_map (f := fun b : BoxV => b.d), hm.lst]; exact hok.n
 obtain ⟨W, hW⟩ : ∃ W, w.alloc (.cells (alkQ.map u8v).toArray 5 (5, 6)) = W := ⟨_, rfl⟩
 obtain ⟨G, hG⟩ : ∃ G, w.heap.size = G := ⟨_, rfl⟩
 have hbW : Below w.heap.size w W := by rw [← hW]; exact (Below.refl _ _).alloc (Nat.le_refl _) _
 have hh : W.heap[G]? = some (.cells (alkQ.map u8v).toArray 5 (5, 6)) := by rw [← hW, ← hG]; exact heap_alloc_new w _
 have hkc : (convert 22 22 (.slice (some ⟨G, 0, none⟩) 5 5)).run Tryz.prog (w.alloc (.cells #[.int .u8 105, .int .u8 97, .int .u8 100, .int .u8 104, .int .u8 99] 5)) = .ok (.slice (some ⟨G, 0, none⟩) 5 5) W := by
  rw [← hG, ← hW]
  exact Lib.run_convert_bytes_const (P := Tryz.prog) w 22 5 #[.int .u8 105, .int .u8 97, .int .u8 100, .int .u8 104, .int .u8 99] 5 5 Tryz.underlying22 Tryz.underlying5
 have hst : ∀ wr, Below W.heap.size W wr → StoOk wr s d ρ ∧ MdlAt wr mb M (.slice al bs.length cl) bs σ ∧ Below w.heap.size w wr ∧ ∀ j q, alkQ[j]? = some q → wr.cell? ⟨G, j, none⟩ = some (.int .u8 q.toNat) := fun wr hb => by
  have h0 := hbW.trans (hb.mono hbW.size)
  refine ⟨h.below h0, hm.below h0, h0, fun j q hj => ?_⟩
  rw [cell_of_row _ _ _ _ _ _ ((hb.block _ (Array.getElem?_eq_some_iff.1 hh).1).trans hh), List.getElem?_toArray, List.getElem?_map, hj]; rfl
 have hI : ∀ (w1 : World) (v1 v2 : Value) (base : Nat) (q : UInt8), q ∈ alkQ → w1.ownsRow base 3 1 v1 (listD d.whr q).length ((listD d.whr q).map iv) → ∀ base2, w1.ownsRow base2 3 1 v2 (M.queue q).length ((M.queue q).map iv) → Calls Tryz.prog 20 #[v1, v2] w1 fun e w' => e = .returned (.bool true) ∧ Below w1.heap.size w1 w' := fun w1 v1 v2 base q hq o1 base2 o2 => by
  rw [hlk.q q hq] at o1
  have hp := queue_pos hok.id q
  have r1 : RdI w1 v1 ((M.queue q).map Int.toNat) := rdL_ofOwn (n := (M.queue q).length) i1_len (by decide) (by rw [← iv_nat hp]; exact o1)
  have r2 : RdI w1 v2 ((M.queue q).map Int.toNat) := rdL_ofOwn (n := (M.queue q).length) i1_len (by decide) (by rw [← iv_nat hp]; exact o2)
  exact refInts_calls v1 v2 _ w1 r1 r2
 have Hst := Lib.hid hst
 have HI := Lib.hid hI
 have Hl := Lib.hid (And.intro hlk (And.intro hwl (And.intro hok hm.lst)))
 clear hst hI hlk hwl hok hm h hh hbW hll hlc
 go_enter Tryz.func34, Tryz.ntmps34
 go_wp2
 go_loopw [14] (fun i wr => ∃ j : Nat, j ≤ 5 ∧ i = .int .i64 j ∧ Below W.heap.size W wr) (fun i _ => 5 - (intOf i).toNat)
 case atStart => exact ⟨0, by decide, rfl, Below.refl _ _⟩
 case round =>
  obtain ⟨j, hj, rfl, hbw⟩ := hrel
  by_cases hlt : j < 5
  ·obtain ⟨q, hq⟩ : ∃ q, alkQ[j]? = some q := ⟨_, List.getElem?_eq_getElem (by show j < 5; exact hlt)⟩
   obtain ⟨hO, hA, hb0, hc⟩ := Hst.out wr hbw
   have cq := hc j q hq
   obtain ⟨qn, hqn⟩ : ∃ qn : Nat, q.toNat = qn := ⟨_, rfl⟩
   rw [hqn] at cq
   have hj0 : (0 : Int) ≤ (j : Int) := by omega
   have hj1 : (j : Int) < 5 := by omega
   have hls := slist_calls s d ρ wr hO.at_ q Hl.out.2.1
   rw [hqn] at hls
   have hmq := fun w1 (h1 : Below W.heap.size W w1) => mQueue_calls q w1 (Hst.out w1 h1).2.1 Hl.out.2.2.1.n
   rw [hqn] at hmq
   have Hls := Lib.hid hls
   have Hmq := Lib.hid hmq
   have Hq := Lib.hid (List.mem_of_getElem? hq)
   have Hbw := Lib.hid hbw
   clear hls hmq hq hO hA hb0 hc hqn
   go_wp2_with fail
   refine (Hls.out).mono ?_; rintro e w1 ⟨v1, rfl, o1, hb1⟩
   have hbw1 := Hbw.out.trans (hb1.mono Hbw.out.size)
   have Hm1 := Lib.hid (Hmq.out w1 hbw1)
   have H1 := Lib.hid (And.intro o1 hbw1)
   clear o1 hb1 hbw1 cq
   go_wp2_with fail
   refine (Hm1.out).mono ?_; rintro e w2 ⟨v2, rfl, o2, hb2⟩
   have Hi2 := Lib.hid (HI.out w2 v1 v2 _ q Hq.out (own_below H1.out.1 hb2 (Nat.le_refl _)) _ o2)
   have H2 := Lib.hid (H1.out.2.trans (hb2.mono H1.out.2.size))
   clear o2 hb2
   go_wp2_with fail
   refine (Hi2.out).mono ?_; rintro e w3 ⟨rfl, hb3⟩
   have H3 := Lib.hid (H2.out.trans (hb3.mono H2.out.size))
   clear hb3 hbw
   go_wp2
   go_roundw
   case rel => exact ⟨j + 1, by omega, by simp, H3.out⟩
   case measure => simp [intOf] <;> omega
  ·have hje : j = 5 := by omega
   subst hje
   go_wp2
   go_loopw [7] (fun i wx => ∃ j : Nat, j ≤ bs.length ∧ i = .int .i64 j ∧ Below W.heap.size W wx) (fun i _ => bs.length - (intOf i).toNat)
   case atStart => exact ⟨0, Nat.zero_le _, rfl, hbw⟩
   case round =>
    obtain ⟨j, hj, rfl, hbw'⟩ := hrel
    clear hbw
    obtain ⟨hO, hA, hb0, _⟩ := Hst.out _ hbw'
    have c0 := hA.cells.1
    by_cases hlt : j < bs.length
    ·obtain ⟨o, ho⟩ : ∃ o, bs[j]? = some o := ⟨_, List.getElem?_eq_getElem hlt⟩
     have hom := List.mem_of_getElem? ho
     obtain ⟨b, off, cap', hsl, hbl', h3⟩ := RdL.at hA.rdl ho
     have y0 := h3 0 _ rfl
     have y1 := h3 1 _ rfl
     have y2 := h3 2 _ rfl
     have y3 := h3 3 _ rfl
     have y4 := h3 4 _ rfl
     have y5 := h3 5 _ rfl
     have y6 := h3 6 _ rfl
     have y7 := h3 7 _ rfl
     rw [Nat.add_zero] at y0
     rw [← Nat.add_assoc] at y1 y2 y3 y4 y5 y6 y7
     cases hsl
     have hj0 : (0 : Int) ≤ (j : Int) := by omega
     have hj1 : (j : Int) < (bs.length : Int) := by omega
     have hlo := Hl.out.1.f o.d (by rw [← Hl.out.2.2.2]; exact List.mem_map.2 ⟨o, hom, rfl⟩)
     obtain ⟨⟨gd0, hsf⟩, hwo⟩ := hlo
     have hrdo := hA.rd o hom
     have hido := Hl.out.2.2.1.id o.d (by rw [← Hl.out.2.2.2]; exact List.mem_map.2 ⟨o, hom, rfl⟩)
     have hlast := Hl.out.2.2.1.last
     have hid : -9223372036854775808 ≤ o.d.m.id ∧ o.d.m.id ≤ 9223372036854775807 := by omega
     have hsfc := fun w1 (h1 : Below W.heap.size W w1) => sfile_calls s d ρ w1 (Hst.out w1 h1).1.at_ o.d.m.id hid (Hst.out w1 h1).1.g (Hst.out w1 h1).1.mx
     rw [hsf] at hsfc
     have hwhc := fun w1 (h1 : Below W.heap.size W w1) => where_calls s d ρ w1 (Hst.out w1 h1).1.at_ o.d.m.id hid
     rw [hwo] at hwhc
     obtain ⟨⟨⟨⟨fid, fp, fb, frm, rcpts, body⟩, oq, oks⟩, oar, ocr, oab, ocb, oam, ocm⟩, hoe⟩ : ∃ o', o' = o := ⟨_, rfl⟩
     subst hoe
     dsimp only at y0 y1 y2 y3 y4 y5 y6 y7 hsfc hwhc
     have Hrd := Lib.hid hrdo
     obtain ⟨tf, htf⟩ : ∃ tf, strL frm = tf := ⟨_, rfl⟩
     obtain ⟨n1, hn1⟩ : ∃ n1, rcpts.length = n1 := ⟨_, rfl⟩
     obtain ⟨n2, hn2⟩ : ∃ n2, body.length = n2 := ⟨_, rfl⟩
     obtain ⟨n3, hn3⟩ : ∃ n3, oks.length = n3 := ⟨_, rfl⟩
     obtain ⟨qn, hqn⟩ : ∃ qn : Nat, oq.toNat = qn := ⟨_, rfl⟩
     rw [htf] at y3
     rw [hn1] at y4
     rw [hn2] at y5
     rw [hqn] at y6 hwhc
     rw [hn3] at y7
     have Hn := Lib.hid (And.intro htf (And.intro hn1 (And.intro hn2 hn3)))
     obtain ⟨Y, hY⟩ : ∃ Y, wr.heap.size = Y := ⟨_, rfl⟩
     obtain ⟨W1, hW1⟩ : ∃ W1, wr.alloc (.cells #[.int .i64 fid, .int .i64 fp, .int .i64 fb, .string tf, .slice oar n1 ocr, .slice oab n2 ocb, .int .u8 (qn : Int), .slice oam n3 ocm] 80) = W1 := ⟨_, rfl⟩
     have hb1 : Below wr.heap.size wr W1 := by rw [← hW1]; exact (Below.refl _ _).alloc (Nat.le_refl _) _
     have hYc : W1.heap[Y]? = some (.cells #[.int .i64 fid, .int .i64 fp, .int .i64 fb, .string tf, .slice oar n1 ocr, .slice oab n2 ocb, .int .u8 (qn : Int), .slice oam n3 ocm] 80 (0, 0)) := by rw [← hW1, ← hY]; exact heap_alloc_new wr _
     have hbw1 := hbw'.trans (hb1.mono hbw'.size)
     have z0 : W1.cell? ⟨Y, 0, none⟩ = some (.int .i64 fid) := by rw [cell_of_row _ _ _ _ _ _ hYc]; rfl
     have Hsf := Lib.hid (hsfc W1 hbw1)
     have Hwhc := Lib.hid hwhc
     have H1 := Lib.hid (And.intro hbw1 (And.intro hYc hb1))
     clear hsfc hwhc hbw1 hYc hb1 h3 ho hom hsf hwo hrdo hido htf hn1 hn2 hn3 hqn hO hA hb0 hbw' hid
     go_wp2_with fail
     try rw [hW1]
     refine (Hsf.out).mono ?_; rintro e w2 hres
     obtain ⟨u1, k1, u2, k2, u3, k3, rfl, r1, r2, r3, hb2⟩ := file_res hres
     dsimp only at r1 r2 r3 ⊢
     rw [Hn.out.1, Hn.out.2.1, Hn.out.2.2.1, Hn.out.2.2.2]
     obtain ⟨gd, hgd⟩ : ∃ gd : Int, (gd0 : Int) = gd := ⟨_, rfl⟩
     rw [hgd]
     obtain ⟨X, hX⟩ : ∃ X, w2.heap.size = X := ⟨_, rfl⟩
     obtain ⟨W4, hW4⟩ : ∃ W4, w2.alloc (.cells #[.int .i64 fid, .int .i64 fp, .int .i64 fb, .string tf, .slice u1 n1 k1, .slice u2 n2 k2, .slice u3 n3 k3, .int .i64 gd] 43) = W4 := ⟨_, rfl⟩
     have hb4 : Below w2.heap.size w2 W4 := by rw [← hW4]; exact (Below.refl _ _).alloc (Nat.le_refl _) _
     have hXc : W4.heap[X]? = some (.cells #[.int .i64 fid, .int .i64 fp, .int .i64 fb, .string tf, .slice u1 n1 k1, .slice u2 n2 k2, .slice u3 n3 k3, .int .i64 gd] 43 (0, 0)) := by rw [← hW4, ← hX]; exact heap_alloc_new w2 _
     have hb24 := hb2.trans (hb4.mono hb2.size)
     have hYc := (hb24.block _ (Array.getElem?_eq_some_iff.1 H1.out.2.1).1).trans H1.out.2.1
     have hbw4 := H1.out.1.trans (hb24.mono H1.out.1.size)
     have hbx4 := H1.out.2.2.trans (hb24.mono H1.out.2.2.size)
     have Hs : Hid (∀ w1, Below W4.heap.size W4 w1 → (fun w' => w'.cell? ⟨X, 0, none⟩ = some (.int .i64 fid) ∧ w'.cell? ⟨X, 1, none⟩ = some (.int .i64 fp) ∧ w'.cell? ⟨X, 2, none⟩ = some (.int .i64 fb) ∧ w'.cell? ⟨X, 3, none⟩ = some (.string tf) ∧ w'.cell? ⟨X, 4, none⟩ = some (.slice u1 n1 k1) ∧ w'.cell? ⟨X, 5, none⟩ = some (.slice u2 n2 k2) ∧ w'.cell? ⟨X, 6, none⟩ = some (.slice u3 n3 k3) ∧ w'.cell? ⟨Y, 0, none⟩ = some (.int .i64 fid) ∧ w'.cell? ⟨Y, 1, none⟩ = some (.int .i64 fp) ∧ w'.cell? ⟨Y, 2, none⟩ = some (.int .i64 fb) ∧ w'.cell? ⟨Y, 3, none⟩ = some (.string tf) ∧ w'.cell? ⟨Y, 4, none⟩ = some (.slice oar n1 ocr) ∧ w'.cell? ⟨Y, 5, none⟩ = some (.slice oab n2 ocb) ∧ w'.cell? ⟨Y, 6, none⟩ = some (.int .u8 (qn : Int)) ∧ w'.cell? ⟨Y, 7, none⟩ = some (.slice oam n3 ocm) ∧ Hid (Below W4.heap.size W4 w')) w1) := Lib.hid (fun w1 h1 => by
      have hx := (h1.block _ (Array.getElem?_eq_some_iff.1 hXc).1).trans hXc
      have hy := (h1.block _ (Array.getElem?_eq_some_iff.1 hYc).1).trans hYc
      exact ⟨by rw [cell_of_row _ _ _ _ _ _ hx]; rfl, by rw [cell_of_row _ _ _ _ _ _ hx]; rfl, by rw [cell_of_row _ _ _ _ _ _ hx]; rfl, by rw [cell_of_row _ _ _ _ _ _ hx]; rfl, by rw [cell_of_row _ _ _ _ _ _ hx]; rfl, by rw [cell_of_row _ _ _ _ _ _ hx]; rfl, by rw [cell_of_row _ _ _ _ _ _ hx]; rfl, by rw [cell_of_row _ _ _ _ _ _ hy]; rfl, by rw [cell_of_row _ _ _ _ _ _ hy]; rfl, by rw [cell_of_row _ _ _ _ _ _ hy]; rfl, by rw [cell_of_row _ _ _ _ _ _ hy]; rfl, by rw [cell_of_row _ _ _ _ _ _ hy]; rfl, by rw [cell_of_row _ _ _ _ _ _ hy]; rfl, by rw [cell_of_row _ _ _ _ _ _ hy]; rfl, by rw [cell_of_row _ _ _ _ _ _ hy]; rfl, Lib.hid h1⟩)
     have hd0 : Below W4.heap.size W4 W4.drew := (Below.refl _ _).drew
     have HS := Lib.hid (Hs.out _ hd0)
     have hrb : BoxRd W4 ⟨⟨⟨fid, fp, fb, frm, rcpts, body⟩, oq, oks⟩, oar, ocr, oab, ocb, oam, ocm⟩ := Hrd.out.keeps (F := fun _ => False) (Keeps.ofBelow hbx4) (fun _ _ e => e)
     have hsame : ∀ w1, Below W4.heap.size W4 w1 → Calls Tryz.prog 79 #[.agg #[.int .i64 fid, .int .i64 fp, .int .i64 fb, .string tf, .slice u1 n1 k1, .slice u2 n2 k2], .agg #[.int .i64 fid, .int .i64 fp, .int .i64 fb, .string tf, .slice oar n1 ocr, .slice oab n2 ocb]] w1 fun e w' => e = .returned (.bool true) ∧ Below w1.heap.size w1 w' := fun w1 h1 => by
      have hrb1 := hrb.keeps (F := fun _ => False) (Keeps.ofBelow h1) (fun _ _ e => e)
      have := refSame_calls ⟨fid, fp, fb, frm, rcpts, body⟩ ⟨fid, fp, fb, frm, rcpts, body⟩ (.slice u1 rcpts.length k1) (.slice u2 body.length k2) (.slice oar rcpts.length ocr) (.slice oab body.length ocb) w1 ((r1.below (Nat.le_refl _) hb4).below (Nat.le_refl _) h1) ((r2.below (Nat.le_refl _) hb4).below (Nat.le_refl _) h1) hrb1.r hrb1.b
      unfold mailVal at this
      dsimp only at this
      rw [Hn.out.1, Hn.out.2.1, Hn.out.2.2.1, decide_eq_true rfl] at this
      exact this
     have hsm : ∀ w1, Below W4.heap.size W4 w1 → Calls Tryz.prog 30 #[.slice u3 n3 k3, .slice oam n3 ocm] w1 fun e w' => e = .returned (.bool true) ∧ Below w1.heap.size w1 w' := fun w1 h1 => by
      have hrb1 := hrb.keeps (F := fun _ => False) (Keeps.ofBelow h1) (fun _ _ e => e)
      have := sameMarks_calls (.slice u3 oks.length k3) (.slice oam oks.length ocm) oks w1 ((r3.below (Nat.le_refl _) hb4).below (Nat.le_refl _) h1) hrb1.m
      rw [Hn.out.2.2.2] at this
      exact this
     have Hsame := Lib.hid hsame
     have Hsm := Lib.hid hsm
     have Hwh : Hid (∀ w1, Below W4.heap.size W4 w1 → Calls Tryz.prog 18 #[.pointer (some ⟨s, 0, none⟩), .int .i64 fid] w1 fun e w' => e = .returned (.int .u8 (qn : Int)) ∧ Below w1.heap.size w1 w') := Lib.hid (fun w1 h1 => Hwhc.out w1 (hbw4.trans (h1.mono hbw4.size)))
     clear hsame hsm hrb hYc hXc hbx4 hb24 hb4 hb2 r1 r2 r3 hres hgd y0 y1 y2 y3 y4 y5 y6 y7 z0
     go_upto_region 12 with fail
     try rw [hX]
     try rw [hW4]
     refine wp_region_noPanic ?_
     refine wp_region_held_drew (S := (fun w' => w'.cell? ⟨X, 0, none⟩ = some (.int .i64 fid) ∧ w'.cell? ⟨X, 1, none⟩ = some (.int .i64 fp) ∧ w'.cell? ⟨X, 2, none⟩ = some (.int .i64 fb) ∧ w'.cell? ⟨X, 3, none⟩ = some (.string tf) ∧ w'.cell? ⟨X, 4, none⟩ = some (.slice u1 n1 k1) ∧ w'.cell? ⟨X, 5, none⟩ = some (.slice u2 n2 k2) ∧ w'.cell? ⟨X, 6, none⟩ = some (.slice u3 n3 k3) ∧ w'.cell? ⟨Y, 0, none⟩ = some (.int .i64 fid) ∧ w'.cell? ⟨Y, 1, none⟩ = some (.int .i64 fp) ∧ w'.cell? ⟨Y, 2, none⟩ = some (.int .i64 fb) ∧ w'.cell? ⟨Y, 3, none⟩ = some (.string tf) ∧ w'.cell? ⟨Y, 4, none⟩ = some (.slice oar n1 ocr) ∧ w'.cell? ⟨Y, 5, none⟩ = some (.slice oab n2 ocb) ∧ w'.cell? ⟨Y, 6, none⟩ = some (.int .u8 (qn : Int)) ∧ w'.cell? ⟨Y, 7, none⟩ = some (.slice oam n3 ocm) ∧ Hid (Below W4.heap.size W4 w'))) (by kernel_rfl) (by first | with_reducible exact HS.out | exact Hs.out _ (by with_reducible assumption)) (fun hHeld => ?_)
     refine tkH 0 ?_
     try simp only [Act.put, List.setIfInBounds_toArray, List.set_cons_zero, List.set_cons_succ]
     refine tkH 1 ?_
     try simp only [Act.put, List.setIfInBounds_toArray, List.set_cons_zero, List.set_cons_succ]
     refine tkH 2 ?_
     try simp only [Act.put, List.setIfInBounds_toArray, List.set_cons_zero, List.set_cons_succ]
     refine tkH 3 ?_
     try simp only [Act.put, List.setIfInBounds_toArray, List.set_cons_zero, List.set_cons_succ]
     refine tkH 4 ?_
     try simp only [Act.put, List.setIfInBounds_toArray, List.set_cons_zero, List.set_cons_succ]
     refine tkH 5 ?_
     try simp only [Act.put, List.setIfInBounds_toArray, List.set_cons_zero, List.set_cons_succ]
     refine tkH 6 ?_
     try simp only [Act.put, List.setIfInBounds_toArray, List.set_cons_zero, List.set_cons_succ]
     refine rdH 7 fun K hK => ?_
     go_simp
     go_at_call 79; refine (Hsame.out _ hd0).mono ?_; rintro e wa ⟨rfl, hda⟩; have hba := hd0.trans (hda.mono hd0.size)
     refine hK.out _ _ (by (try dsimp only); first | with_reducible exact HS.out | exact Hs.out _ (by with_reducible assumption)) (fun hHeld => ?_)
     clear hK K
     try simp only [Act.put, List.setIfInBounds_toArray, List.set_cons_zero, List.set_cons_succ]
     refine tkH 8 ?_
     try simp only [Act.put, List.setIfInBounds_toArray, List.set_cons_zero, List.set_cons_succ]
     refine tkH 9 ?_
     try simp only [Act.put, List.setIfInBounds_toArray, List.set_cons_zero, List.set_cons_succ]
     refine tkH 10 ?_
     try simp only [Act.put, List.setIfInBounds_toArray, List.set_cons_zero, List.set_cons_succ]
     refine tkH 11 ?_
     try simp only [Act.put, List.setIfInBounds_toArray, List.set_cons_zero, List.set_cons_succ]
     refine tkH 12 ?_
     try simp only [Act.put, List.setIfInBounds_toArray, List.set_cons_zero, List.set_cons_succ]
     refine tkH 13 ?_
     try simp only [Act.put, List.setIfInBounds_toArray, List.set_cons_zero, List.set_cons_succ]
     refine tkH 14 ?_
     try simp only [Act.put, List.setIfInBounds_toArray, List.set_cons_zero, List.set_cons_succ]
     refine rdH 15 fun K hK => ?_
     go_simp
     go_at_call 30; refine (Hsm.out _ hba).mono ?_; rintro e wb ⟨rfl, hdb⟩; have hbb := hba.trans (hdb.mono hba.size)
     refine hK.out _ _ (by (try dsimp only); first | with_reducible exact HS.out | exact Hs.out _ (by with_reducible assumption)) (fun hHeld => ?_)
     clear hK K
     try simp only [Act.put, List.setIfInBounds_toArray, List.set_cons_zero, List.set_cons_succ]
     refine tkH 16 ?_
     try simp only [Act.put, List.setIfInBounds_toArray, List.set_cons_zero, List.set_cons_succ]
     refine tkH 17 ?_
     try simp only [Act.put, List.setIfInBounds_toArray, List.set_cons_zero, List.set_cons_succ]
     refine tkH 18 ?_
     try simp only [Act.put, List.setIfInBounds_toArray, List.set_cons_zero, List.set_cons_succ]
     refine tkH 19 ?_
     try simp only [Act.put, List.setIfInBounds_toArray, List.set_cons_zero, List.set_cons_succ]
     refine tkH 20 ?_
     try simp only [Act.put, List.setIfInBounds_toArray, List.set_cons_zero, List.set_cons_succ]
     refine tkH 21 ?_
     try simp only [Act.put, List.setIfInBounds_toArray, List.set_cons_zero, List.set_cons_succ]
     refine tkH 22 ?_
     try simp only [Act.put, List.setIfInBounds_toArray, List.set_cons_zero, List.set_cons_succ]
     refine tkH 24 ?_
     try simp only [Act.put, List.setIfInBounds_toArray, List.set_cons_zero, List.set_cons_succ]
     refine tkH 25 ?_
     try simp only [Act.put, List.setIfInBounds_toArray, List.set_cons_zero, List.set_cons_succ]
     refine rdH 23 fun K hK => ?_
     go_simp
     go_at_call 18; refine (Hwh.out _ hbb).mono ?_; rintro e wd ⟨rfl, hdd⟩; have hbd := hbb.trans (hdd.mono hbb.size)
     refine hK.out _ _ (by (try dsimp only); first | with_reducible exact HS.out | exact Hs.out _ (by with_reducible assumption)) (fun hHeld => ?_)
     clear hK K
     try simp only [Act.put, List.setIfInBounds_toArray, List.set_cons_zero, List.set_cons_succ]
     refine tkH 26 ?_
     try simp only [Act.put, List.setIfInBounds_toArray, List.set_cons_zero, List.set_cons_succ]
     refine tkH 27 ?_
     try simp only [Act.put, List.setIfInBounds_toArray, List.set_cons_zero, List.set_cons_succ]
     refine wpAnyH_done (by kernel_rfl) ?_ _
     refine NoPanic.normal ?_
     have Hbd := Lib.hid (hbw4.trans (hbd.mono hbw4.size))
     clear hbd hba hbb hd0 hbw4
     go_wp2
     go_roundw
     case rel => exact ⟨j + 1, by omega, by simp, Hbd.out⟩
     case measure => simp [intOf] <;> omega
    ·have hje : j = bs.length := by omega
     subst hje
     have hlt' := slist_calls s d ρ wr hO.at_ 116 Hl.out.2.1
     rw [Hl.out.1.t] at hlt'
     have Hls : Hid (Calls Tryz.prog 21 #[.pointer (some ⟨s, 0, none⟩), .int .u8 116] wr fun e w' => ∃ v, e = .returned v ∧ w'.ownsRow wr.heap.size 3 1 v 0 [] ∧ Below wr.heap.size wr w') := Lib.hid hlt'
     have Hb0 := Lib.hid hb0
     clear hlt' hO hA hb0 hbw'
     go_wp2_with fail
     refine (Hls.out).mono ?_; rintro e w1 ⟨v1, rfl, o1, hb1⟩
     obtain ⟨a1, c1, rfl⟩ := own_form0 o1
     have H1 := Lib.hid (Hb0.out.trans (hb1.mono Hb0.out.size))
     clear o1 hb1
     go_wp2
     go_ret
     exact ⟨rfl, H1.out⟩
end Go.Proofs.YtffnbkmigapmjaaGreatDoor
