/- Printed out of the texts of wip/tpl. -/
import Derived.Test.YtffnbkmigapmjaaGreatDoorT6
import Derived.Test.YtffnbkmigapmjaaGreatDoorT27
set_option linter.unusedSimpArgs false
set_option linter.unusedVariables false
set_option maxRecDepth 100000
namespace Go.Proofs.YtffnbkmigapmjaaGreatDoor
open Go.RowKit Go.Maps
theorem flat_set {α : Type} {f : α → List Value} {s : Nat} (hf : ∀ x, (f x).length = s) {y : α} {j : Nat} {u : Value} : ∀ {l : List α} {n : Nat} {x : α}, l[n]? = some x → f y = (f x).set j u → j < s → (l.set n y).flatMap f = (l.flatMap f).set (n * s + j) u
 | a :: l, 0, x, h, he, hj => by
  cases h
  rw [List.set_cons_zero, List.flatMap_cons, List.flatMap_cons, he, Nat.zero_mul, Nat.zero_add, List.set_append_left _ _ (by rw [hf]; exact hj)]
 | a :: l, n + 1, x, h, he, hj => by
  have ih := flat_set hf (l := l) (n := n) (y := y) (j := j) (u := u) h he hj
  rw [List.set_cons_succ, List.flatMap_cons, List.flatMap_cons, ih, List.set_append_right _ _ (by rw [hf, Nat.succ_mul]; omega), hf, show (n + 1) * s + j - s = n * s + j by rw [Nat.succ_mul]; omega]
theorem modify_at {α : Type} {f : α → α} : ∀ {l : List α} {n : Nat} {b : α}, l[n]? = some b → l.modify n f = l.set n (f b)
 | a :: l, 0, b, h => by cases h; rfl
 | a :: l, n + 1, b, h => by
  have ih := modify_at (f := f) (l := l) (n := n) (b := b) h
  rw [List.modify_succ_cons, List.set_cons_succ, ih]
theorem MdlAt.setBox {w0 w : World} {mb n j g cl nl : Nat} {M : ModD} {bs : List BoxV} {σ : Nat → Prop} {b b' : BoxV} {u : Value} (h0 : MdlAt w0 mb M (.slice (some ⟨g, 0, none⟩) nl cl) bs σ) (hb : Below w0.heap.size w0 w) (hnl : bs.length = nl) (hn : bs[n]? = some b)
 (hc : boxCells b' = (boxCells b).set j u) (hj : j < 8) (hbx : BoxRd w b') (hbn : ∀ k, boxOwn b' k → boxOwn b k ∨ (w0.heap.size ≤ k ∧ k < w.heap.size)) :
 ∃ σ', MdlAt (w.setCell ⟨g, n * 8 + j, none⟩ u) mb { M with list := M.list.set n b'.d } (.slice (some ⟨g, 0, none⟩) nl cl) (bs.set n b') σ' ∧ MdlStep w0 σ (w.setCell ⟨g, n * 8 + j, none⟩ u) σ' := by
 have h := h0.below hb
 have hk : Keeps (fun k => k = g) w (w.setCell ⟨g, n * 8 + j, none⟩ u) := Keeps.setCell _ _ _ rfl
 have hgs := h.slv g rfl
 have l0 := hb.size
 have hgl := h0.lt _ hgs.1
 have hown := h.own
 rw [hnl] at hown
 have hst := (hown.stored (n * 8 + j) u).1
 rw [← flat_set boxCells_len hn hc hj] at hst
 have hnew : ∀ k, boxOwn b' k → k ≠ g ∧ k ≠ mb ∧ (σ k ∨ (w0.heap.size ≤ k ∧ k < w.heap.size)) := fun k e => by
  rcases hbn k e with e | e
  ·obtain ⟨q1, q2, q3⟩ := h.sbx b (List.mem_of_getElem? hn) k e
   exact ⟨fun f => q3 (by rw [f]; rfl), q2, .inl q1⟩
  ·have := h0.lt _ h0.smb
   exact ⟨by omega, by omega, .inr e⟩
 refine ⟨fun k => σ k ∨ (w0.heap.size ≤ k ∧ k < w.heap.size), ⟨hk.heap h.hd (fun e => hgs.2 e.symm), ?_, ?_, ?_, .inl h.smb, fun k e => ⟨.inl (h.slv k e).1, (h.slv k e).2⟩, ?_, ?_⟩, ⟨?_, ?_⟩⟩
 ·rw [List.map_set, h.lst]
 ·rw [List.length_set, hnl]; exact hst
 ·intro x hx
  rcases List.mem_or_eq_of_mem_set hx with hx | rfl
  ·exact (h.rd x hx).keeps hk (fun k e f => (h.sbx x hx k e).2.2 (by rw [f]; rfl))
  ·exact hbx.keeps hk (fun k e f => (hnew k e).1 f)
 ·intro x hx k e
  rcases List.mem_or_eq_of_mem_set hx with hx | rfl
  ·obtain ⟨q1, q2, q3⟩ := h.sbx x hx k e
   exact ⟨.inl q1, q2, q3⟩
  ·obtain ⟨q1, q2, q3⟩ := hnew k e
   exact ⟨q3, q2, fun f => q1 (Option.some.inj f).symm⟩
 ·intro k e
  have := hk.size
  rcases e with e | e
  ·have := h0.lt k e; omega
  ·omega
 ·exact (Keeps.ofBelow hb).go hk (fun i e => .inl (by rw [e]; exact hgs.1))
 ·intro k e
  rcases e with e | e
  ·exact .inl e
  ·exact .inr e.1
theorem MdlAt.form {w : World} {mb n : Nat} {M : ModD} {lv : Value} {bs : List BoxV} {σ : Nat → Prop} {b : BoxD} (h : MdlAt w mb M lv bs σ) (hn : M.list[n]? = some b) : ∃ g cl bv, lv = .slice (some ⟨g, 0, none⟩) bs.length cl ∧ bs[n]? = some bv ∧ bv.d = b := by
 rw [← h.lst, List.getElem?_map] at hn
 obtain ⟨bv, h1, h2⟩ := Option.map_eq_some_iff.1 hn
 obtain ⟨_, ⟨h3, h4⟩ | ⟨g, cap, cur, hv, _⟩⟩ := h.own
 ·have : bs.length = 0 := h4
  rw [List.length_eq_zero_iff.1 this] at h1; cases h1
 ·exact ⟨g, cap, bv, hv, h1, h2⟩
theorem work_mem {q : UInt8} : workK.contains q = true ↔ q = 105 ∨ q = 97 ∨ q = 100 ∨ q = 104 := by
 unfold workK
 simp
set_option maxHeartbeats 16000000 in
theorem mMove_calls {mb : Nat} {M0 : ModD} {lv : Value} {bs : List BoxV} {σ : Nat → Prop} (id : Int) (q : UInt8) (w : World) (h : MdlAt w mb M0 lv bs σ) (hn : M0.list.length ≤ 200) :
 Calls Tryz.prog 76 #[.pointer (some ⟨mb, 0, none⟩), .int .i64 id, .int .u8 q.toNat] w (ModDone1 w mb σ (M0.move id q)) := by
 obtain ⟨qn, hqn⟩ : ∃ qn : Nat, q.toNat = qn := ⟨_, rfl⟩
 have hat := mAt_calls id w h hn
 rw [hqn]
 by_cases hq : workK.contains q = true
 ·have hmv : M0.move id q = if M0.at id < 0 then (4, M0) else (0, M0.upd id (fun b => { b with q := q })) := by unfold ModD.move; rw [if_pos hq]
  have Hat := Lib.hid hat
  have H := Lib.hid (And.intro h hn)
  have Hmv := Lib.hid hmv
  have Hqn := Lib.hid hqn
  rcases M0.at_range id with e | ⟨k, b, e, hb, _, _⟩
  ·rw [e] at Hat
   have Hr : Hid (M0.move id q = (4, M0)) := Lib.hid (by rw [Hmv.out, e]; rfl)
   rcases work_mem.1 hq with rfl | rfl | rfl | rfl
   all_goals
    have hqq := Hqn.out
    subst hqq
    clear hat h hn hmv hqn hq e Hmv Hqn
    go_enter Tryz.func76, Tryz.ntmps76
    go_wp2_with fail
    refine (Hat.out).mono ?_; rintro e w1 ⟨rfl, hb1⟩
    go_wp2
    go_ret
    rw [Hr.out]
    exact ⟨_, _, _, rfl, H.out.1.below hb1, MdlStep.below hb1⟩
  ·obtain ⟨g, cl, bv, rfl, hbv, rfl⟩ := h.form hb
   have hlt : k < bs.length := (List.getElem?_eq_some_iff.1 hbv).1
   rw [e] at Hat
   have hr : M0.move id q = (0, { M0 with list := M0.list.set k { bv.d with q := q } }) := by
    rw [Hmv.out, e, if_neg (by omega)]
    unfold ModD.upd
    rw [e, Int.toNat_natCast, modify_at hb]
   have hk0 : (0 : Int) ≤ (k : Int) := by omega
   have hk1 : (k : Int) < (bs.length : Int) := by omega
   have hkn : ¬ ((k : Int) < 0) := by omega
   have hfin : ∀ w1, Below w.heap.size w w1 → ∃ σ', MdlAt (w1.setCell ⟨g, k * 8 + 6, none⟩ (.int .u8 qn)) mb { M0 with list := M0.list.set k { bv.d with q := q } } (.slice (some ⟨g, 0, none⟩) bs.length cl) (bs.set k { bv with d := { bv.d with q := q } }) σ' ∧ MdlStep w σ (w1.setCell ⟨g, k * 8 + 6, none⟩ (.int .u8 qn)) σ' := fun w1 h1 => by
    have hrd := (h.below h1).rd bv (List.mem_of_getElem? hbv)
    have := h.setBox (b' := { bv with d := { bv.d with q := q } }) (j := 6) (u := .int .u8 qn) h1 rfl hbv (by rw [← hqn]; rfl) (by decide) ⟨hrd.r, hrd.b, hrd.m, hrd.nr, hrd.nb, hrd.nm, hrd.good, hrd.small⟩ (fun k e => .inl e)
    exact this
   have hcl : ∀ w1, Below w.heap.size w w1 → w1.cell? ⟨mb, 0, none⟩ = some (.slice (some ⟨g, 0, none⟩) bs.length cl) ∧ w1.cell? ⟨g, k * 8 + 6, none⟩ = some (.int .u8 (bv.d.q.toNat : Int)) ∧ w1.frozen? ⟨g, k * 8 + 6, none⟩ = false := fun w1 h1 => by
    have h2 := h.below h1
    obtain ⟨_, _, _, hs, _, h3⟩ := RdL.at h2.rdl hbv
    cases hs
    have h4 := h3 6 _ rfl
    rw [Nat.zero_add] at h4
    exact ⟨h2.cells.1, h4, h2.own.frozenAt _⟩
   have Hr := Lib.hid hr
   have Hfin := Lib.hid hfin
   have Hcl := Lib.hid hcl
   rcases work_mem.1 hq with rfl | rfl | rfl | rfl
   all_goals
    have hqq := Hqn.out
    subst hqq
    clear hat h hn hmv hqn hq e Hmv Hqn hr hfin hcl hb hbv hlt
    go_enter Tryz.func76, Tryz.ntmps76
    go_wp2_with fail
    refine (Hat.out).mono ?_; rintro e w1 ⟨rfl, hb1⟩
    obtain ⟨c0, c6, f6⟩ := Hcl.out _ hb1
    have Hb1 := Lib.hid hb1
    clear hb1
    go_wp2
    go_ret
    obtain ⟨σ', q1, q2⟩ := Hfin.out _ Hb1.out
    rw [Hr.out]
    exact ⟨_, _, σ', rfl, q1, q2⟩
 ·have Hr : Hid (M0.move id q = (1, M0)) := Lib.hid (by unfold ModD.move; rw [if_neg hq])
  have hne : ∀ x : UInt8, workK.contains x = true → ((qn : Int) != (x.toNat : Int)) = true := fun x hx => by
   rw [bne_iff_ne]
   intro e
   have : q = x := UInt8.toNat_inj.1 (by omega)
   rw [this] at hq
   exact hq hx
  have n1 : ((qn : Int) != 105) = true := hne 105 (by decide)
  have n2 : ((qn : Int) != 97) = true := hne 97 (by decide)
  have n3 : ((qn : Int) != 100) = true := hne 100 (by decide)
  have n4 : ((qn : Int) != 104) = true := hne 104 (by decide)
  have H := Lib.hid h
  clear hat h hn hqn hq hne
  go_enter Tryz.func76, Tryz.ntmps76
  go_wp2
  go_ret
  rw [Hr.out]
  exact ⟨_, _, _, rfl, H.out, MdlStep.refl _ _⟩
set_option maxHeartbeats 32000000 in
theorem mMark_calls {mb : Nat} {M0 : ModD} {lv : Value} {bs : List BoxV} {σ : Nat → Prop} (id : Int) (km : MarkD) (w : World) (h : MdlAt w mb M0 lv bs σ) (hok : ModOk M0) :
 Calls Tryz.prog 75 #[.pointer (some ⟨mb, 0, none⟩), .int .i64 id, km.val] w (ModDone1 w mb σ (M0.mark id km)) := by
 obtain ⟨i0, hi, hz0, hz1, hz2⟩ := info_parts infoMark
 obtain ⟨kind, rcpt, nn⟩ := km
 obtain ⟨K0, hK0⟩ : ∃ K0, w.heap.size = K0 := ⟨_, rfl⟩
 obtain ⟨W, hW⟩ : ∃ W, w.alloc (.cells #[.int .i64 kind, .int .i64 rcpt, .int .i64 nn] 53) = W := ⟨_, rfl⟩
 have hbW : Below w.heap.size w W := by rw [← hW]; exact (Below.refl _ _).alloc (Nat.le_refl _) _
 have hM : W.heap[K0]? = some (.cells #[.int .i64 kind, .int .i64 rcpt, .int .i64 nn] 53 (0, 0)) := by rw [← hW, ← hK0]; exact heap_alloc_new w _
 have hA := h.below hbW
 have hcl : ∀ w1, Below W.heap.size W w1 → w1.cell? ⟨K0, 0, none⟩ = some (.int .i64 kind) ∧ w1.cell? ⟨K0, 1, none⟩ = some (.int .i64 rcpt) ∧ w1.cell? ⟨K0, 2, none⟩ = some (.int .i64 nn) := fun w1 h1 => by
  have hk := (h1.block _ (Array.getElem?_eq_some_iff.1 hM).1).trans hM
  exact ⟨by rw [cell_of_row _ _ _ _ _ _ hk]; rfl, by rw [cell_of_row _ _ _ _ _ _ hk]; rfl, by rw [cell_of_row _ _ _ _ _ _ hk]; rfl⟩
 obtain ⟨gd, hgd⟩ : ∃ gd, (MarkD.mk kind rcpt nn).good = gd := ⟨_, rfl⟩
 have hmk := mayMark_calls ⟨kind, rcpt, nn⟩ W
 rw [hgd] at hmk
 have Hmk : Hid (Calls Tryz.prog 26 #[.agg #[.int .i64 kind, .int .i64 rcpt, .int .i64 nn]] W fun e w' => e = .returned (.bool gd) ∧ Below W.heap.size W w') := hmk
 have hat := fun w1 (h1 : Below W.heap.size W w1) => mAt_calls id w1 (hA.below h1) hok.n
 have Hat := Lib.hid hat
 have HA := Lib.hid (And.intro hA (And.intro hbW hok))
 have HC := Lib.hid hcl
 have Hg := Lib.hid hgd
 have hmd : M0.mark id ⟨kind, rcpt, nn⟩ = if gd = true then (if M0.at id < 0 then (4, M0) else if M0.room - (M0.used : Int) < 28 then (3, M0) else (0, M0.upd id (fun b => { b with ks := b.ks ++ [⟨kind, rcpt, nn⟩] }))) else (1, M0) := by unfold ModD.mark; rw [hgd]
 have Hmd := Lib.hid hmd
 obtain ⟨x0, x1, x2⟩ := hcl W (Below.refl _ _)
 have hK := Lib.hid hK0
 clear hmk hat hgd hmd hcl hM h hok hA hbW
 go_enter Tryz.func75, Tryz.ntmps75
 go_wp2_with fail
 try rw [hW]
 refine (Hmk.out).mono ?_; rintro e w2 ⟨rfl, hb2⟩
 have Hb2 := Lib.hid hb2
 clear hb2 x0 x1 x2
 cases gd with
 | false =>
  have Hr : Hid (M0.mark id ⟨kind, rcpt, nn⟩ = (1, M0)) := Lib.hid (by rw [Hmd.out, if_neg (by decide)])
  go_wp2
  go_ret
  have h2 := HA.out.2.1.trans (Hb2.out.mono HA.out.2.1.size)
  rw [Hr.out]
  exact ⟨_, _, _, rfl, HA.out.1.below Hb2.out, MdlStep.below h2⟩
 | true =>
  have Ha2 := Lib.hid (Hat.out _ Hb2.out)
  rcases M0.at_range id with e | ⟨k, b, e, hb, _, _⟩
  ·rw [e] at Ha2
   have Hr : Hid (M0.mark id ⟨kind, rcpt, nn⟩ = (4, M0)) := Lib.hid (by rw [Hmd.out, if_pos rfl, e, if_pos (by decide)])
   clear e
   go_wp2_with fail
   refine (Ha2.out).mono ?_; rintro e w3 ⟨rfl, hb3⟩
   go_wp2
   go_ret
   have h3 := Hb2.out.trans (hb3.mono Hb2.out.size)
   rw [Hr.out]
   exact ⟨_, _, _, rfl, HA.out.1.below h3, MdlStep.below (HA.out.2.1.trans (h3.mono HA.out.2.1.size))⟩
  ·rw [e] at Ha2
   obtain ⟨g, cl, bv, rfl, hbv, rfl⟩ := HA.out.1.form hb
   have hlt : k < bs.length := (List.getElem?_eq_some_iff.1 hbv).1
   have hr1 : M0.mark id ⟨kind, rcpt, nn⟩ = if M0.room - (M0.used : Int) < 28 then (3, M0) else (0, { M0 with list := M0.list.set k { bv.d with ks := bv.d.ks ++ [⟨kind, rcpt, nn⟩] } }) := by
    rw [Hmd.out, if_pos rfl, e, if_neg (by omega)]
    unfold ModD.upd
    rw [e, Int.toNat_natCast, modify_at hb]
   have hk0 : (0 : Int) ≤ (k : Int) := by omega
   have hkn : ¬ ((k : Int) < 0) := by omega
   obtain ⟨us, hus⟩ : ∃ us, M0.used = us := ⟨_, rfl⟩
   obtain ⟨ro, hro⟩ : ∃ ro, M0.room = ro := ⟨_, rfl⟩
   have husl : us ≤ 3800012 * 200 := by
    rw [← hus]
    exact Nat.le_trans (usedTo_le (C := 3800012) (l := M0.list) (fun x hx => BoxD.len_le (HA.out.1.good x hx) (HA.out.2.2.ks x hx))) (Nat.mul_le_mul_left _ HA.out.2.2.n)
   have hrr := HA.out.2.2.room
   rw [hro] at hrr
   rw [hus, show M0.room - (us : Int) = ro - (us : Int) by rw [hro]] at hr1
   have hwr : IntKind.i64.wrap (ro - (us : Int)) = ro - (us : Int) := IntWalk.i64_in _ (by omega)
   have husc : ∀ w1, Below W.heap.size W w1 → Calls Tryz.prog 36 #[.pointer (some ⟨mb, 0, none⟩)] w1 fun e w' => e = .returned (.int .i64 (us : Int)) ∧ Below w1.heap.size w1 w' := fun w1 h1 => by
    have := mUsed_calls w1 (HA.out.1.below h1) HA.out.2.2.n HA.out.2.2.ks
    rw [hus] at this; exact this
   have Husc := Lib.hid husc
   have Hr1 := Lib.hid hr1
   have Hbv := Lib.hid (And.intro hbv (And.intro hlt (And.intro hro hb)))
   have hk1 : (k : Int) < (bs.length : Int) := by omega
   obtain ⟨nl, hnl⟩ : ∃ nl, bs.length = nl := ⟨_, rfl⟩
   rw [hnl] at hk1
   have Hnl := Lib.hid hnl
   clear e husc hr1 hbv hlt hus hro hrr hb hnl
   go_wp2_with fail
   refine (Ha2.out).mono ?_; rintro e w3 ⟨rfl, hb3⟩
   have h3 := Hb2.out.trans (hb3.mono Hb2.out.size)
   have Hs6 : Hid (∀ w1, Below w3.heap.size w3 w1 → (fun w' => w'.cell? ⟨mb, 3, none⟩ = some (.int .i64 ro) ∧ Hid (Below w3.heap.size w3 w')) w1) := Lib.hid (fun w1 h1 => ⟨by
    have := (HA.out.1.below (h3.trans (h1.mono h3.size))).cells.2.2.2
    rw [Hbv.out.2.2.1] at this; exact this, Lib.hid h1⟩)
   have hd6 : Below w3.heap.size w3 w3.drew := (Below.refl _ _).drew
   have HS6 := Lib.hid (Hs6.out _ hd6)
   have Hus : Hid (∀ w1, Below w3.heap.size w3 w1 → Calls Tryz.prog 36 #[.pointer (some ⟨mb, 0, none⟩)] w1 fun e w' => e = .returned (.int .i64 (us : Int)) ∧ Below w1.heap.size w1 w') := Lib.hid (fun w1 h1 => Husc.out w1 (h3.trans (h1.mono h3.size)))
   have H3 := Lib.hid h3
   clear h3 hb3
   go_upto_region 6 with fail
   refine wp_region_noPanic ?_
   refine wp_region_held_drew (S := (fun w' => w'.cell? ⟨mb, 3, none⟩ = some (.int .i64 ro) ∧ Hid (Below w3.heap.size w3 w'))) (by kernel_rfl) (by first | with_reducible exact HS6.out | exact Hs6.out _ (by with_reducible assumption)) (fun hHeld => ?_)
   refine tkP 0 ?_
   refine tkP 1 ?_
   refine tkP 2 ?_
   refine tkP 3 ?_
   refine tkP 4 ?_
   refine rdH 5 fun K hK => ?_
   go_simp
   go_at_call 36; refine (Hus.out _ hd6).mono ?_; rintro e w4 ⟨rfl, hd4⟩; have hb4 := hd6.trans (hd4.mono hd6.size)
   refine hK.out _ _ (by (try dsimp only); first | with_reducible exact HS6.out | exact Hs6.out _ (by with_reducible assumption)) (fun hHeld => ?_)
   clear hK K
   try simp only [Act.put, qA, qB, qC]
   refine tkP 6 ?_
   refine tkP 7 ?_
   refine wpAnyH_done (by kernel_rfl) ?_ _
   refine NoPanic.normal ?_
   by_cases hfull : ro - (us : Int) < 28
   ·have Hr : Hid (M0.mark id ⟨kind, rcpt, nn⟩ = (3, M0)) := Lib.hid (by rw [Hr1.out, if_pos hfull])
    have Hb4 := Lib.hid (H3.out.trans (hb4.mono H3.out.size))
    clear hb4 hHeld hd6
    go_wp2
    go_ret
    rw [Hr.out]
    exact ⟨_, _, _, rfl, HA.out.1.below Hb4.out, MdlStep.below (HA.out.2.1.trans (Hb4.out.mono HA.out.2.1.size))⟩
   ·have Hr : Hid (M0.mark id ⟨kind, rcpt, nn⟩ = (0, { M0 with list := M0.list.set k { bv.d with ks := bv.d.ks ++ [⟨kind, rcpt, nn⟩] } })) := Lib.hid (by rw [Hr1.out, if_neg hfull])
    have h4 := H3.out.trans (hb4.mono H3.out.size)
    have hA4 := HA.out.1.below h4
    obtain ⟨W0, hW0⟩ : ∃ W0, w4 = W0 := ⟨_, rfl⟩
    subst hW0
    have hbm := List.mem_of_getElem? Hbv.out.1
    have hks : bv.d.ks.length ≤ 100000 := HA.out.2.2.ks _ (by rw [← HA.out.1.lst]; exact List.mem_map.2 ⟨bv, hbm, rfl⟩)
    have hnm := (hA4.rd bv hbm).nm
    have hsrc : ∀ w1, Below w4.heap.size w4 w1 → RdM w1 (.slice bv.am bv.d.ks.length bv.cm) bv.d.ks := fun w1 h1 => ((hA4.below h1).rd bv hbm).m
    have hfin : ∀ (w7 : World) (a7 : Option Addr) (c7 : Nat), Below w4.heap.size w4 w7 → w7.ownsRow w4.heap.size 53 3 (.slice a7 (bv.d.ks.length + 1) c7) (bv.d.ks.length + 1) (bv.d.ks.flatMap MarkD.cells ++ [(⟨kind, rcpt, nn⟩ : MarkD)].flatMap MarkD.cells) →
     ∃ bs' σ', MdlAt (w7.setCell ⟨g, k * 8 + 7, none⟩ (.slice a7 (bv.d.ks.length + 1) c7)) mb { M0 with list := M0.list.set k { bv.d with ks := bv.d.ks ++ [⟨kind, rcpt, nn⟩] } } (.slice (some ⟨g, 0, none⟩) nl cl) bs' σ' ∧ MdlStep w σ (w7.setCell ⟨g, k * 8 + 7, none⟩ (.slice a7 (bv.d.ks.length + 1) c7)) σ' := fun w7 a7 c7 h7 o7 => by
     have hrd := (hA4.below h7).rd bv hbm
     have hA4' := hA4
     rw [Hnl.out] at hA4'
     have o7' : w7.ownsRow w4.heap.size 53 3 (.slice a7 (bv.d.ks ++ [(⟨kind, rcpt, nn⟩ : MarkD)]).length c7) (bv.d.ks ++ [(⟨kind, rcpt, nn⟩ : MarkD)]).length ((bv.d.ks ++ [(⟨kind, rcpt, nn⟩ : MarkD)]).flatMap MarkD.cells) := by
      rw [List.length_append, List.flatMap_append]; exact o7
     obtain ⟨σ', q1, q2⟩ := hA4'.setBox (b' := { bv with d := { bv.d with ks := bv.d.ks ++ [⟨kind, rcpt, nn⟩] }, am := a7, cm := c7 }) (j := 7) (u := .slice a7 (bv.d.ks.length + 1) c7) h7 Hnl.out Hbv.out.1 (by
      show [_, _, _, _, _, _, _, Value.slice a7 (bv.d.ks ++ [(⟨kind, rcpt, nn⟩ : MarkD)]).length c7] = _
      rw [List.length_append]; rfl) (by decide)
      ⟨hrd.r, hrd.b, rdL_ofOwn mark_len (by decide) o7', hrd.nr, hrd.nb, nilOk_own o7', hrd.good, hrd.small⟩
      (fun j e => by
       rcases e with e | e | e
       ·exact .inl (.inl e)
       ·exact .inl (.inr (.inl e))
       ·exact .inr (o7'.lt j e))
     exact ⟨_, σ', q1, (MdlStep.below (HA.out.2.1.trans (h4.mono HA.out.2.1.size))).trans q2⟩
    have hs : ∀ w1, Below w4.heap.size w4 w1 → (w1.cell? ⟨mb, 0, none⟩ = some (.slice (some ⟨g, 0, none⟩) nl cl) ∧ w1.cell? ⟨g, k * 8 + 7, none⟩ = some (.slice bv.am bv.d.ks.length bv.cm) ∧ w1.cell? ⟨K0, 0, none⟩ = some (.int .i64 kind) ∧ w1.cell? ⟨K0, 1, none⟩ = some (.int .i64 rcpt) ∧ w1.cell? ⟨K0, 2, none⟩ = some (.int .i64 nn)) ∧ w1.frozen? ⟨g, k * 8 + 7, none⟩ = false := fun w1 h1 => by
     have h2 := hA4.below h1
     obtain ⟨_, _, _, hs, _, h3⟩ := RdL.at h2.rdl Hbv.out.1
     cases hs
     have h5 := h3 7 _ rfl
     rw [Nat.zero_add] at h5
     obtain ⟨y0, y1, y2⟩ := HC.out w1 (h4.trans (h1.mono h4.size))
     rw [← Hnl.out]
     exact ⟨⟨h2.cells.1, h5, y0, y1, y2⟩, h2.own.frozenAt _⟩
    have hq0 : bv.d.ks.length ≤ 100000 := hks
    generalize bv.d.ks = ks at hsrc hfin hs hq0 hnm Hr
    generalize bv.am = am at hsrc hs hnm
    generalize bv.cm = cm at hsrc hs hnm
    have hq1 : 0 + ks.length ≤ maxLen := by show _ ≤ 9223372036854775807; omega
    have hq2 : (0 + ks.length) * 24 ≤ 140737488355328 := by omega
    have hq3 : 0 + ks.length + [(⟨kind, rcpt, nn⟩ : MarkD)].length ≤ maxLen := by show _ ≤ 9223372036854775807; simp; omega
    have hq4 : (0 + ks.length + [(⟨kind, rcpt, nn⟩ : MarkD)].length) * 24 ≤ 140737488355328 := by simp; omega
    have Hc1 := Lib.hid (cells_one ks)
    have Hc2 := Lib.hid (cells_one [(⟨kind, rcpt, nn⟩ : MarkD)])
    have Hs : Hid (∀ w1, Below w4.heap.size w4 w1 → (fun w' => w'.cell? ⟨mb, 0, none⟩ = some (.slice (some ⟨g, 0, none⟩) nl cl) ∧ w'.cell? ⟨g, k * 8 + 7, none⟩ = some (.slice am ks.length cm) ∧ w'.cell? ⟨K0, 0, none⟩ = some (.int .i64 kind) ∧ w'.cell? ⟨K0, 1, none⟩ = some (.int .i64 rcpt) ∧ w'.cell? ⟨K0, 2, none⟩ = some (.int .i64 nn)) w1) := Lib.hid (fun w1 h1 => (hs w1 h1).1)
    have Hcl : Hid (∀ w1, Below w4.heap.size w4 w1 → True ∧ w1.frozen? ⟨g, k * 8 + 7, none⟩ = false) := Lib.hid (fun w1 h1 => ⟨trivial, (hs w1 h1).2⟩)
    have hd0 : Below w4.heap.size w4 w4.drew := (Below.refl _ _).drew
    have hHeld0 := Hs.out _ hd0
    have HS := Lib.hid hHeld0
    have Hsrc := Lib.hid hsrc
    have Hfin := Lib.hid hfin
    have Hnm := Lib.hid hnm
    clear hsrc hfin hs hnm hks hA4 h4 hb4 hHeld hd6
    have hHeld := hHeld0
    clear hHeld0
    go_upto_region 8 with fail
    refine wp_region_noPanic ?_
    refine wp_region_gate (S := (fun w' => w'.cell? ⟨mb, 0, none⟩ = some (.slice (some ⟨g, 0, none⟩) nl cl) ∧ w'.cell? ⟨g, k * 8 + 7, none⟩ = some (.slice am ks.length cm) ∧ w'.cell? ⟨K0, 0, none⟩ = some (.int .i64 kind) ∧ w'.cell? ⟨K0, 1, none⟩ = some (.int .i64 rcpt) ∧ w'.cell? ⟨K0, 2, none⟩ = some (.int .i64 nn))) (z := 20) (by kernel_rfl) ?_
    refine tkQ 0 ?_
    refine tkQ 1 ?_
    refine tkQ 2 ?_
    refine tkQ 3 ?_
    refine tkQ 4 ?_
    refine tkQ 6 ?_
    refine tkQ 7 ?_
    refine tkQ 8 ?_
    refine tkQ 9 ?_
    refine tkQ 10 ?_
    refine tkQ 11 ?_
    refine tkQ 12 ?_
    refine tkQ 13 ?_
    refine tkQ 15 ?_
    refine rdG2 5 16 (fun K hK => ?_) (fun K hK => ?_)
    ·skip
     refine step_build0w (by first | rfl | kernel_rfl) (by rfl) ?_; rintro g0 x1 hr_x1 hg0 hd_x1 hz_x1; have hb_x1 := hd0.trans (hd_x1.mono hd0.size); have hr_x1 := own_mono hr_x1 (base' := w4.heap.size) hd0.size
     refine hK.out _ _ (by (try dsimp only); first | with_reducible exact HS.out | exact Hs.out _ (by with_reducible assumption)) (fun hHeld => ?_)
     clear hK K
     try simp only [Act.put, qA, qB, qC]
     refine rdG2 14 16 (fun K hK => ?_) (fun K hK => ?_)
     ·skip
      have hsrc := Hsrc.out _ hb_x1; refine step_append_w mark_len (by decide) (by first | rfl | kernel_rfl) (.tmp 29) (.tmp 37) 41 (by rfl) w4.heap.size 53 i0 _ 24 Tryz.underlying41 hi hz0 hz1 hz2 rfl _ _ _ (by rfl) hr_x1 _ ks (by rfl) hsrc Hnm.out Hc1.out hq1 hq2 hb_x1.size ?_; rintro v_x2 x2 hr_x2 hg_x2 hn_x2; have hb_x2 := hb_x1.grown hg_x2 hb_x1.size (fun j hj => own_base hr_x1 j hj)
      refine hK.out _ _ (by (try dsimp only); first | with_reducible exact HS.out | exact Hs.out _ (by with_reducible assumption)) (fun hHeld => ?_)
      clear hK K
      try simp only [Act.put, qA, qB, qC]
      refine rdG 16 fun K hK => ?_
      refine step_build1w ⟨kind, rcpt, nn⟩ (by first | rfl | kernel_rfl) (by rfl) (by rfl) ?_; rintro g1 x3 hK_x3 hg1 hd_x3 hz_x3; have hb_x3 := hb_x2.trans (hd_x3.mono hb_x2.size); have hr_x3 := own_below hr_x2 hd_x3 (Nat.le_refl _)
      refine hK.out _ _ (by (try dsimp only); first | with_reducible exact HS.out | exact Hs.out _ (by with_reducible assumption)) (fun hHeld => ?_)
      clear hK K
      try simp only [Act.put, qA, qB, qC]
      refine rdG 17 fun K hK => ?_
      have hk1 := rdM_one hK_x3; refine step_append_w mark_len (by decide) (by first | rfl | kernel_rfl) (.tmp 38) (.tmp 40) 41 (by rfl) w4.heap.size 53 i0 _ 24 Tryz.underlying41 hi hz0 hz1 hz2 rfl _ _ _ (by rfl) hr_x3 _ [⟨kind, rcpt, nn⟩] (by rfl) hk1 (by intro _ _ e; cases e) Hc2.out hq3 hq4 hb_x3.size ?_; rintro v_x4 x4 hr_x4 hg_x4 hn_x4; have hb_x4 := hb_x3.grown hg_x4 hb_x3.size (fun j hj => own_base hr_x3 j hj)
      refine hK.out _ _ (by (try dsimp only); first | with_reducible exact HS.out | exact Hs.out _ (by with_reducible assumption)) (fun hHeld => ?_)
      clear hK K
      try simp only [Act.put, qA, qB, qC]
      refine tkQ 18 ?_
      refine tkQ 19 ?_
      refine rdZ fun K hK => ?_
      have hrow7 := hr_x4; rw [Nat.zero_add, List.nil_append] at hrow7; obtain ⟨a7, c7, hv7⟩ := own_form0 hrow7; subst hv7; have f7 := (Hcl.out _ hb_x4).2; obtain ⟨_, z7, _⟩ := hHeld; have hown7 := hrow7; have hb7 := hb_x4; go_simp
      refine hK.out _ _ ?_
      clear hK K
      try simp only [Act.put, qA, qB, qC]
      refine wpAnyG_done (by kernel_rfl) ?_ _
      refine NoPanic.normal ?_
      go_wp2
      go_ret
      obtain ⟨bs', σ', q1, q2⟩ := Hfin.out _ _ _ hb7 hown7
      rw [Hr.out]
      exact ⟨_, bs', σ', rfl, q1, q2⟩
     ·skip
      refine step_build1w ⟨kind, rcpt, nn⟩ (by first | rfl | kernel_rfl) (by rfl) (by rfl) ?_; rintro g1 x2 hK_x2 hg1 hd_x2 hz_x2; have hb_x2 := hb_x1.trans (hd_x2.mono hb_x1.size); have hr_x2 := own_below hr_x1 hd_x2 (Nat.le_refl _); have hne : g1 ≠ g0 := (by rw [hg1]; exact Nat.ne_of_gt (hr_x1.lt g0 rfl).2)
      refine hK.out _ _ (by (try dsimp only); first | with_reducible exact HS.out | exact Hs.out _ (by with_reducible assumption)) (fun hHeld => ?_)
      clear hK K
      try simp only [Act.put, qA, qB, qC]
      refine rdG 14 fun K hK => ?_
      have hsrc := Hsrc.out _ hb_x2; refine step_append_w mark_len (by decide) (by first | rfl | kernel_rfl) (.tmp 29) (.tmp 37) 41 (by rfl) w4.heap.size 53 i0 _ 24 Tryz.underlying41 hi hz0 hz1 hz2 rfl _ _ _ (by rfl) hr_x2 _ ks (by rfl) hsrc Hnm.out Hc1.out hq1 hq2 hb_x2.size ?_; rintro v_x3 x3 hr_x3 hg_x3 hn_x3; have hb_x3 := hb_x2.grown hg_x3 hb_x2.size (fun j hj => own_base hr_x2 j hj); have hK_x3 := (hg_x3.block g1 (Array.getElem?_eq_some_iff.1 hK_x2).1 (fun e => hne (Option.some.inj e))).trans hK_x2
      refine hK.out _ _ (by (try dsimp only); first | with_reducible exact HS.out | exact Hs.out _ (by with_reducible assumption)) (fun hHeld => ?_)
      clear hK K
      try simp only [Act.put, qA, qB, qC]
      refine rdG 17 fun K hK => ?_
      have hk1 := rdM_one hK_x3; refine step_append_w mark_len (by decide) (by first | rfl | kernel_rfl) (.tmp 38) (.tmp 40) 41 (by rfl) w4.heap.size 53 i0 _ 24 Tryz.underlying41 hi hz0 hz1 hz2 rfl _ _ _ (by rfl) hr_x3 _ [⟨kind, rcpt, nn⟩] (by rfl) hk1 (by intro _ _ e; cases e) Hc2.out hq3 hq4 hb_x3.size ?_; rintro v_x4 x4 hr_x4 hg_x4 hn_x4; have hb_x4 := hb_x3.grown hg_x4 hb_x3.size (fun j hj => own_base hr_x3 j hj)
      refine hK.out _ _ (by (try dsimp only); first | with_reducible exact HS.out | exact Hs.out _ (by with_reducible assumption)) (fun hHeld => ?_)
      clear hK K
      try simp only [Act.put, qA, qB, qC]
      refine tkQ 18 ?_
      refine tkQ 19 ?_
      refine rdZ fun K hK => ?_
      have hrow7 := hr_x4; rw [Nat.zero_add, List.nil_append] at hrow7; obtain ⟨a7, c7, hv7⟩ := own_form0 hrow7; subst hv7; have f7 := (Hcl.out _ hb_x4).2; obtain ⟨_, z7, _⟩ := hHeld; have hown7 := hrow7; have hb7 := hb_x4; go_simp
      refine hK.out _ _ ?_
      clear hK K
      try simp only [Act.put, qA, qB, qC]
      refine wpAnyG_done (by kernel_rfl) ?_ _
      refine NoPanic.normal ?_
      go_wp2
      go_ret
      obtain ⟨bs', σ', q1, q2⟩ := Hfin.out _ _ _ hb7 hown7
      rw [Hr.out]
      exact ⟨_, bs', σ', rfl, q1, q2⟩
    ·skip
     refine step_build1w ⟨kind, rcpt, nn⟩ (by first | rfl | kernel_rfl) (by rfl) (by rfl) ?_; rintro g1 x1 hK_x1 hg1 hd_x1 hz_x1; have hb_x1 := hd0.trans (hd_x1.mono hd0.size)
     refine hK.out _ _ (by (try dsimp only); first | with_reducible exact HS.out | exact Hs.out _ (by with_reducible assumption)) (fun hHeld => ?_)
     clear hK K
     try simp only [Act.put, qA, qB, qC]
     refine rdG 5 fun K hK => ?_
     refine step_build0w (by first | rfl | kernel_rfl) (by rfl) ?_; rintro g0 x2 hr_x2 hg0 hd_x2 hz_x2; have hb_x2 := hb_x1.trans (hd_x2.mono hb_x1.size); have hr_x2 := own_mono hr_x2 (base' := w4.heap.size) hb_x1.size; have hne : g1 ≠ g0 := (by rw [hg0]; exact Nat.ne_of_lt (Array.getElem?_eq_some_iff.1 hK_x1).1); have hK_x2 := (hd_x2.block g1 (Array.getElem?_eq_some_iff.1 hK_x1).1).trans hK_x1
     refine hK.out _ _ (by (try dsimp only); first | with_reducible exact HS.out | exact Hs.out _ (by with_reducible assumption)) (fun hHeld => ?_)
     clear hK K
     try simp only [Act.put, qA, qB, qC]
     refine rdG 14 fun K hK => ?_
     have hsrc := Hsrc.out _ hb_x2; refine step_append_w mark_len (by decide) (by first | rfl | kernel_rfl) (.tmp 29) (.tmp 37) 41 (by rfl) w4.heap.size 53 i0 _ 24 Tryz.underlying41 hi hz0 hz1 hz2 rfl _ _ _ (by rfl) hr_x2 _ ks (by rfl) hsrc Hnm.out Hc1.out hq1 hq2 hb_x2.size ?_; rintro v_x3 x3 hr_x3 hg_x3 hn_x3; have hb_x3 := hb_x2.grown hg_x3 hb_x2.size (fun j hj => own_base hr_x2 j hj); have hK_x3 := (hg_x3.block g1 (Array.getElem?_eq_some_iff.1 hK_x2).1 (fun e => hne (Option.some.inj e))).trans hK_x2
     refine hK.out _ _ (by (try dsimp only); first | with_reducible exact HS.out | exact Hs.out _ (by with_reducible assumption)) (fun hHeld => ?_)
     clear hK K
     try simp only [Act.put, qA, qB, qC]
     refine rdG 17 fun K hK => ?_
     have hk1 := rdM_one hK_x3; refine step_append_w mark_len (by decide) (by first | rfl | kernel_rfl) (.tmp 38) (.tmp 40) 41 (by rfl) w4.heap.size 53 i0 _ 24 Tryz.underlying41 hi hz0 hz1 hz2 rfl _ _ _ (by rfl) hr_x3 _ [⟨kind, rcpt, nn⟩] (by rfl) hk1 (by intro _ _ e; cases e) Hc2.out hq3 hq4 hb_x3.size ?_; rintro v_x4 x4 hr_x4 hg_x4 hn_x4; have hb_x4 := hb_x3.grown hg_x4 hb_x3.size (fun j hj => own_base hr_x3 j hj)
     refine hK.out _ _ (by (try dsimp only); first | with_reducible exact HS.out | exact Hs.out _ (by with_reducible assumption)) (fun hHeld => ?_)
     clear hK K
     try simp only [Act.put, qA, qB, qC]
     refine tkQ 18 ?_
     refine tkQ 19 ?_
     refine rdZ fun K hK => ?_
     have hrow7 := hr_x4; rw [Nat.zero_add, List.nil_append] at hrow7; obtain ⟨a7, c7, hv7⟩ := own_form0 hrow7; subst hv7; have f7 := (Hcl.out _ hb_x4).2; obtain ⟨_, z7, _⟩ := hHeld; have hown7 := hrow7; have hb7 := hb_x4; go_simp
     refine hK.out _ _ ?_
     clear hK K
     try simp only [Act.put, qA, qB, qC]
     refine wpAnyG_done (by kernel_rfl) ?_ _
     refine NoPanic.normal ?_
     go_wp2
     go_ret
     obtain ⟨bs', σ', q1, q2⟩ := Hfin.out _ _ _ hb7 hown7
     rw [Hr.out]
     exact ⟨_, bs', σ', rfl, q1, q2⟩
end Go.Proofs.YtffnbkmigapmjaaGreatDoor
