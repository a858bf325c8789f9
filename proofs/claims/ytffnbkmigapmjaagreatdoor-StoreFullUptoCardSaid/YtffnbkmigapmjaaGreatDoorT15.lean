/- Printed out of the texts of wip/tpl. -/
import Derived.Test.YtffnbkmigapmjaaGreatDoorT10
import Derived.Test.YtffnbkmigapmjaaGreatDoorT11
import Derived.Test.YtffnbkmigapmjaaGreatDoorT14
import Derived.Test.YtffnbkmigapmjaaGreatDoorShelfN
import Derived.Shelf.AbstractIn
import Derived.TacticsInMore
import Derived.OwnWalkIn
set_option linter.unusedSimpArgs false
set_option linter.unusedVariables false
set_option maxRecDepth 100000
namespace Go.Proofs.YtffnbkmigapmjaaGreatDoor
open Go.RowKit Go.Maps
theorem wpList_append_any_at {α : Type} {s : Nat} {f : α → List Value} (hf : ∀ x, (f x).length = s) (hs0 : 0 < s) {P : Program} {w : World} {ops : Array Oper} {rest : List Oper} {o : Oper} {a : Act} {Q : Exit → Act → World → Prop} (hgd : o.guard = none) (s1 x : Operand) (t : TypeId)
 (ho : o.op = .call { callee := .builtin .append, args := #[s1, x], argTypes := #[t, t] })
 (base : Nat) (e : TypeId) (i : TypeInfo) (z : Value) (bytes : Nat) (ht : P.underlying t = some (.slice e)) (hi : P.info? e = some i) (hz : i.zero = some z)
 (hsize : i.size = s) (hby : i.bytes = bytes) (hzs : z.cells.size = s)
 (v : Value) (n : Nat) (xs : List Value) (hs : a.eval s1 = v) (hown : w.ownsRow base e s v n xs)
 (u : Value) (ys : List α) (hx : a.eval x = u) (hr : RdL s f w u ys) (hn : NilOk u) (h1 : ∀ c ∈ ys.flatMap f, c.oneCell' = true)
 (h63 : n + ys.length ≤ maxLen) (hbytes : (n + ys.length) * bytes ≤ 140737488355328) (hbase : base ≤ w.heap.size)
 (h : ∀ v' w', w'.ownsRow base e s v' (n + ys.length) (xs ++ ys.flatMap f) → w.grownBy w' v.ownBlock → (v'.ownBlock = v.ownBlock ∨ v'.ownBlock = some w.heap.size) → wpList P ops Q rest (a.put o.dst v') w') : wpList P ops Q (o :: rest) a w := by
 obtain ⟨ad, cap, rfl, _, _⟩ := hr.form
 cases ad with
 | none =>
  obtain ⟨hl, hc⟩ := hn _ _ rfl
  have hy : ys = [] := List.length_eq_zero_iff.1 hl
  subst hy
  subst hc
  refine wpList_append_own_none hgd s1 x t ho base e i s ht hi v n xs hs hown hx (h v w (by simpa using hown) (World.grownBy.refl _ _) (.inl rfl))
 | some ad =>
  refine wpList_append_own_at w hgd s1 x t ho base e i z s bytes ht hi hz hsize hby hzs hs0 v n xs hs hown ad ys.length cap (ys.flatMap f) hx (flat_len hf ys) ?_ h1 h63 hbytes hbase (fun v' w' h2 h3 _ h4 => h v' w' h2 h3 h4)
  by_cases hy : ys = []
  ·subst hy; intro j u hu; cases hu
  ·obtain ⟨b, off, e⟩ := addr_some hr hy
   cases e
   exact hr.news hf hs0
def appendD (d : FsD) (n : Nm) (bs : List UInt8) (row : Value) : Int × FsD :=
 if (foundD d n []).2 = 0 then (if d.room - (usedD d : Int) < (bs.length : Int) then (3, d) else if (powerD d).1 = 0 then (0, (powerD d).2.upd n (fun c => ⟨c.bytes ++ bs, c.sure, row⟩)) else powerD d) else ((foundD d n []).2, d)
theorem len_le_used {d : FsD} {p : Nm × Nat} : ∀ {l : Dir}, p ∈ l → lenOf d p.2 ≤ (l.map (fun p => lenOf d p.2)).sum
 | q :: r, h => by
  rw [List.map_cons, List.sum_cons]
  rcases List.mem_cons.1 h with rfl | h
  ·omega
  ·have := len_le_used (d := d) h; omega
set_option maxHeartbeats 16000000 in
theorem append_calls (f : Nat) (d : FsD) (ρ : Rho) (n : Nm) (v : Value) (bs : List UInt8) (w : World) (h : FsAt w f d ρ) (hs : n.length ≤ maxLen) (hfu : -1 ≤ d.fuse ∧ d.fuse ≤ 9223372036854775807) (hl : d.now.length ≤ 256) (hroom : 0 ≤ d.room ∧ d.room ≤ 16777216) (hv : RdB w v bs) (hnv : NilOk v) (hfree : ∀ k, v.ownBlock = some k → ρ k = none) :
 Calls Tryz.prog 16 #[.pointer (some ⟨f, 0, none⟩), .string (strL n), v] w fun e w' => ∃ row ρ', e = .returned (.int .i64 (appendD d n bs row).1) ∧ FsAt w' f (appendD d n bs row).2 ρ' ∧ FsStep w ρ w' ρ' := by
 obtain ⟨i0, hi, hz0, hz1, hz2⟩ := info_parts infoU8
 obtain ⟨aB, cB, rfl, hlB, hcB⟩ := hv.form
 have hbi : (bs.length : Int) ≤ 9223372036854775807 := by omega
 obtain ⟨W2, hW2⟩ : ∃ W2, w.alloc (.cells #[.string (strL n)] 9) = W2 := ⟨_, rfl⟩
 have hb2 : Below w.heap.size w W2 := by rw [← hW2]; exact (Below.refl _ _).alloc (Nat.le_refl _) _
 have hnh3 : W2.heap[w.heap.size]? = some (.cells #[.string (strL n)] 9 (0, 0)) := by rw [← hW2]; exact heap_new_at _ rfl
 have h1 := found_calls f d ρ (.slice (some ⟨w.heap.size, 0, none⟩) 1 1) n [] W2 (h.below hb2) (rdS_one hnh3) (fun k hk => by rw [List.mem_singleton.1 hk]; exact hs)
 obtain ⟨e, he⟩ : ∃ e, (foundD d n []).2 = e := ⟨_, rfl⟩
 have Hd : Hid (∀ row, appendD d n bs row = if e = 0 then (if d.room - (usedD d : Int) < (bs.length : Int) then (3, d) else if (powerD d).1 = 0 then (0, (powerD d).2.upd n (fun c => ⟨c.bytes ++ bs, c.sure, row⟩)) else powerD d) else (e, d)) := fun row => by unfold appendD; rw [he]
 have H := Lib.hid h
 have Hb2 := Lib.hid hb2
 have Hv := Lib.hid hv
 have Hnv := Lib.hid hnv
 have Hfree := Lib.hid hfree
 clear hv hnv hfree
 by_cases h0 : e = 0
 ·have hok := found_ok (he.trans h0)
  obtain ⟨x, hx⟩ := Option.isSome_iff_exists.1 hok.2.2.2
  rw [he, hok.2.2.1, hx] at h1
  have h1 : Calls Tryz.prog 53 #[.pointer (some ⟨f, 0, none⟩), .slice (some ⟨w.heap.size, 0, none⟩) 1 1] W2 fun e_1 w' => e_1 = .returned (.tuple #[.pointer (some ⟨x, 0, none⟩), .int .i64 e]) ∧ Below W2.heap.size W2 w' := h1
  obtain ⟨c, hc, hfc⟩ := h.rest.fileOf hx
  have hcu : c.bytes.length ≤ usedD d := by have := len_le_used (d := d) (look_mem hx); unfold lenOf at this; simp only [hc] at this; unfold usedD lenOf; exact this
  subst h0
  have Hp : Hid (∀ w', Below w.heap.size w w' → Calls Tryz.prog 54 #[.pointer (some ⟨f, 0, none⟩)] w' fun e w'' => e = .returned (.int .i64 (powerD d).1) ∧ FsAt w'' f (powerD d).2 ρ ∧ Keeps (fun k => k = f) w' w'') := fun w' hb => power_calls f d ρ w' (h.below hb) hfu
  have hnow : (powerD d).2.now = d.now := by unfold powerD; split <;> rfl
  have hfile : (powerD d).2.file = d.file := by unfold powerD; split <;> rfl
  have hupd : ∀ g, (powerD d).2.upd n g = (powerD d).2.setFile x (g c) := fun g => by unfold FsD.upd; rw [hnow, hx]; show (match (powerD d).2.file x with | some c => _ | none => _) = _; rw [hfile, hc]
  have hus := (used_calls f d ρ · · hl)
  have Hu : Hid (∀ w', Below w.heap.size w w' → Calls Tryz.prog 35 #[.pointer (some ⟨f, 0, none⟩)] w' fun e w'' => e = .returned (.int .i64 (usedD d)) ∧ Below w'.heap.size w' w'') := fun w' hb => used_calls f d ρ w' (h.below hb) hl
  have hub : usedD d ≤ 4294967296 := by
   have h3 := sumL_le (left := fun _ => true) (d := d) (B := 16777216) (fun x c hc => (h.rest.files x c hc).small) d.now
   rw [sumL_all (fun _ _ => rfl)] at h3
   have h2 : d.now.length * 16777216 ≤ 256 * 16777216 := Nat.mul_le_mul_right _ hl
   unfold usedD; omega
  obtain ⟨pe, hpe⟩ : ∃ pe, (powerD d).1 = pe := ⟨_, rfl⟩
  obtain ⟨d1, hd1⟩ : ∃ d1, (powerD d).2 = d1 := ⟨_, rfl⟩
  obtain ⟨U, hU⟩ : ∃ U, usedD d = U := ⟨_, rfl⟩
  obtain ⟨room, hroo⟩ : ∃ room, d.room = room := ⟨_, rfl⟩
  have hpd : powerD d = (pe, d1) := Prod.ext hpe hd1
  rw [hpe, hd1] at Hp
  rw [hd1] at hupd hfile
  rw [hU] at Hu hcu hub
  rw [hroo] at hroom
  rw [← hfile] at hc
  have Hd3 : Hid (∀ row, appendD d n bs row = if room - (U : Int) < (bs.length : Int) then (3, d) else if pe = 0 then (0, d1.setFile x ⟨c.bytes ++ bs, c.sure, row⟩) else (pe, d1)) := fun row => by have := Hd.out row; rw [this, if_pos rfl, hpe, hd1, hupd, hpd, hU, hroo]
  have H1 := Lib.hid h1
  have Hc := Lib.hid hc
  have Hroo := Lib.hid hroo
  have hui : (0 : Int) ≤ (U : Int) := by omega
  have hui2 : (U : Int) ≤ 4294967296 := by omega
  have hr0 : 0 ≤ room := hroom.1
  have hr1 : room ≤ 16777216 := hroom.2
  clear h1 he hok hx hc h Hd hnow hfile hupd hpe hd1 hpd hnh3 hb2 hs hU hroo hus hroom hfc
  subst hW2
  have Hs : Hid (∀ W, Below w.heap.size w W → (fun w' => w'.cell? ⟨f, 3, none⟩ = some (.int .i64 room) ∧ Hid (Below w.heap.size w w')) W) := fun W hb => by
   obtain ⟨⟨_, _, _, c3, _, _⟩, _⟩ := fsHd_cells (H.out.below hb).hd
   rw [Hroo.out] at c3
   exact ⟨c3, Lib.hid hb⟩
  by_cases hfit : room - (U : Int) < (bs.length : Int)
  ·have Hd4 : Hid (∀ row, appendD d n bs row = (3, d)) := fun row => by have := Hd3.out row; rw [this, if_pos hfit]
   go_enter Tryz.func16, Tryz.ntmps16
   go_wp2_with fail
   refine (H1.out).mono ?_; rintro e w1 ⟨rfl, hb1⟩
   have hbw1 := Hb2.out.trans (hb1.mono Hb2.out.size)
   have hbd : Below w.heap.size w w1.drew := hbw1.drew
   have HS := Lib.hid (Hs.out _ hbd)
   have hwr : IntKind.i64.wrap (room - (U : Int)) = room - (U : Int) := IntWalk.i64_in _ (by omega)
   clear hb1 hbw1
   go_upto_region 4 with fail
   refine wp_region_noPanic ?_
   refine wp_region_held_drew (S := (fun w' => w'.cell? ⟨f, 3, none⟩ = some (.int .i64 room) ∧ Hid (Below w.heap.size w w'))) (by kernel_rfl) (by first | with_reducible exact HS.out | exact Hs.out _ (by with_reducible assumption)) (fun hHeld => ?_)
   refine tkP 0 ?_
   refine tkP 1 ?_
   refine tkP 2 ?_
   refine tkP 3 ?_
   refine tkP 4 ?_
   refine tkP 5 ?_
   refine tkP 6 ?_
   refine rdH 7 fun K hK => ?_
   go_simp
   go_at_call 35; refine (Hu.out _ hbd).mono ?_; rintro e wu ⟨rfl, hbu⟩; have hbU := hbd.trans (hbu.mono hbd.size)
   refine hK.out _ _ (by (try dsimp only); first | with_reducible exact HS.out | exact Hs.out _ (by with_reducible assumption)) (fun hHeld => ?_)
   clear hK K
   try simp only [Act.put, qA, qB, qC]
   refine tkP 8 ?_
   refine tkP 9 ?_
   refine tkP 10 ?_
   refine wpAnyH_done (by kernel_rfl) ?_ _
   refine NoPanic.normal ?_
   clear HS Hs
   go_wp2
   go_ret
   refine ⟨d.lv, ρ, ?_⟩
   rw [Hd4.out]
   exact ⟨rfl, H.out.below hbU, FsStep.below hbU⟩
  ·have hfit2 : ¬ (room - (U : Int) < (bs.length : Int)) := hfit
   have Hd4 : Hid (∀ row, appendD d n bs row = if pe = 0 then (0, d1.setFile x ⟨c.bytes ++ bs, c.sure, row⟩) else (pe, d1)) := fun row => by have := Hd3.out row; rw [this, if_neg hfit]
   by_cases hp0 : pe = 0
   ·subst hp0
    have Hd5 : Hid (∀ row, appendD d n bs row = (0, d1.setFile x ⟨c.bytes ++ bs, c.sure, row⟩)) := fun row => by have := Hd4.out row; rw [this, if_pos rfl]
    have hcb : c.bytes.length + bs.length ≤ 16777216 := by omega
    have hm1 : c.bytes.length + bs.length ≤ maxLen := by unfold maxLen; omega
    have hm2 : (c.bytes.length + bs.length) * 1 ≤ 140737488355328 := by omega
    have Hone := Lib.hid (bb1_one bs)
    go_enter Tryz.func16, Tryz.ntmps16
    go_wp2_with fail
    refine (H1.out).mono ?_; rintro e w1 ⟨rfl, hb1⟩
    have hbw1 := Hb2.out.trans (hb1.mono Hb2.out.size)
    have hbd : Below w.heap.size w w1.drew := hbw1.drew
    have HS := Lib.hid (Hs.out _ hbd)
    have hwr : IntKind.i64.wrap (room - (U : Int)) = room - (U : Int) := IntWalk.i64_in _ (by omega)
    clear hb1 hbw1
    go_upto_region 4 with fail
    refine wp_region_noPanic ?_
    refine wp_region_held_drew (S := (fun w' => w'.cell? ⟨f, 3, none⟩ = some (.int .i64 room) ∧ Hid (Below w.heap.size w w'))) (by kernel_rfl) (by first | with_reducible exact HS.out | exact Hs.out _ (by with_reducible assumption)) (fun hHeld => ?_)
    refine tkP 0 ?_
    refine tkP 1 ?_
    refine tkP 2 ?_
    refine tkP 3 ?_
    refine tkP 4 ?_
    refine tkP 5 ?_
    refine tkP 6 ?_
    refine rdH 7 fun K hK => ?_
    go_simp
    go_at_call 35; refine (Hu.out _ hbd).mono ?_; rintro e wu ⟨rfl, hbu⟩; have hbU := hbd.trans (hbu.mono hbd.size)
    refine hK.out _ _ (by (try dsimp only); first | with_reducible exact HS.out | exact Hs.out _ (by with_reducible assumption)) (fun hHeld => ?_)
    clear hK K
    try simp only [Act.put, qA, qB, qC]
    refine tkP 8 ?_
    refine tkP 9 ?_
    refine tkP 10 ?_
    refine wpAnyH_done (by kernel_rfl) ?_ _
    refine NoPanic.normal ?_
    clear HS Hs
    have hp := Hp.out wu hbU
    have Hp1 := Lib.hid hp
    have HbU := Lib.hid hbU
    clear hp hbU hbd hbu hwr
    go_wp2_with fail
    refine (Hp1.out).mono ?_; rintro e w2 ⟨rfl, hF2, hk2⟩
    have hfx := hF2.rest.files x c Hc.out
    obtain ⟨⟨x0, x1⟩, y0, y1⟩ := cells2 hfx.hd
    obtain ⟨aR, cR, hrow⟩ := own_form0 hfx.own
    rw [hrow] at x0
    have hown2 : w2.ownsRow 0 5 1 (.slice aR c.bytes.length cR) c.bytes.length (c.bytes.map u8v) := by rw [← hrow]; exact hfx.own
    have hst2 := (FsStep.below (ρ := ρ) HbU.out).trans (FsStep.one H.out.role hk2)
    have hvb : RdB w2 (.slice aB bs.length cB) bs := by
     exact Hv.out.keeps hst2.keeps (fun k e g => by have := Hfree.out k e; unfold Rho.has at g; rw [this] at g; cases g)
    have hsrc := rdLB hvb
    have hxr : ∀ k, c.row.ownBlock = some k → k ≠ x := fun k e => Rho.ne (hfx.rown k e) hfx.role (by intro q; cases q)
    have HF2 := Lib.hid hF2
    have Hfx := Lib.hid hfx
    have Hst2 := Lib.hid hst2
    have Hrow := Lib.hid hrow
    have Hxr := Lib.hid hxr
    have Hown2 := Lib.hid hown2
    have Hsrc := Lib.hid hsrc
    clear hF2 hfx hst2 hrow hxr hown2 hsrc hvb x1 y1
    go_wp2_with (at_builtin; go_loud (refine wpList_append_any_at bb1_len (by decide) rfl (.tmp 41) (.tmp 42) 22 rfl 0 5 i0 (.int .u8 0) 1 Tryz.underlying22 hi hz0 hz1 hz2 rfl _ _ _ rfl Hown2.out _ bs rfl Hsrc.out Hnv.out Hone.out hm1 hm2 (Nat.zero_le _) ?_; rintro v' w4 hown4 hg4 hloc4; have hh4 := (Keeps.grown hg4).heap Hfx.out.hd (fun e => Hxr.out x (by rw [Hrow.out]; exact e) rfl); have q2 := (cells2 hh4).1.1; have q3 := (cells2 hh4).2.1; have Hh4 := Lib.hid hh4; have Hown4 := Lib.hid hown4; have Hg4 := Lib.hid hg4; have Hloc4 := Lib.hid hloc4; obtain ⟨aN, cN, hvN⟩ := own_form0 hown4; subst hvN; clear hh4 hown4 hg4 hloc4 x0))
    go_ret
    obtain ⟨w5, hw5⟩ : ∃ w5, w4.setCell ⟨x, 0, none⟩ (.slice aN (c.bytes.length + bs.length) cN) = w5 := ⟨_, rfl⟩
    rw [hw5]
    obtain ⟨VL, hVL⟩ : ∃ VL, Value.slice aN (c.bytes.length + bs.length) cN = VL := ⟨_, rfl⟩
    have hkr : Keeps (fun k => k = x ∨ c.row.ownBlock = some k) w2 w5 := by
     have k2 : Keeps (fun k => k = x ∨ c.row.ownBlock = some k) w2 w4 := (Keeps.grown Hg4.out).mono (fun i _ e => .inr (by rw [Hrow.out]; exact e))
     have k3 := k2.go (Keeps.setCell (F := fun k => k = x) w4 ⟨x, 0, none⟩ (.slice aN (c.bytes.length + bs.length) cN) rfl) (fun i e => .inl (.inl e))
     rw [hw5] at k3; exact k3
    have hloc : VL.ownBlock = c.row.ownBlock ∨ ∃ k0, VL.ownBlock = some k0 ∧ w2.heap.size ≤ k0 := by
     rw [← hVL, Hrow.out]
     rcases Hloc4.out with h1 | h1
     ·exact .inl h1
     ·exact .inr ⟨_, h1, Nat.le_refl _⟩
    have hup := Rho.add_up (w := w2) HF2.out.rest.lt Hfx.out.rown hloc
    have hown5 : w5.ownsRow 0 5 1 VL (c.bytes ++ bs).length ((c.bytes ++ bs).map u8v) := by
     rw [← hw5, ← hVL, List.length_append, List.map_append, ← bb1_flat bs]
     refine own_keeps Hown4.out (Keeps.setCell (F := fun k => k = x) w4 _ _ rfl) (fun k e q => ?_)
     rw [hVL] at e
     rcases hloc with h1 | ⟨k0, h1, h2⟩
     ·rw [h1] at e; exact Hxr.out k e q
     ·rw [h1] at e; cases e
      have := HF2.out.rest.lt x (by rw [Hfx.out.role]; rfl)
      omega
    have hfx5 : FileAt' w5 (ρ.add VL (.bytes x)) x ⟨c.bytes ++ bs, c.sure, VL⟩ := by
     refine ⟨hup _ _ Hfx.out.role, ?_, hown5, ?_, ?_, ?_⟩
     ·rw [← hw5, hVL]; exact heap_setCell_same _ _ 0 _ _ _ Hh4.out
     ·intro k e; show (ρ.add VL (.bytes x)) k = _; unfold Rho.add; rw [if_pos e]
     ·show (c.bytes ++ bs).length ≤ _; rw [List.length_append]; exact hcb
     ·show c.sure ≤ (c.bytes ++ bs).length; rw [List.length_append]; have := Hfx.out.sure; omega
    have hlt5 : ∀ k, ((ρ.add VL (.bytes x)) k).isSome = true → k < w5.heap.size := by
     intro k e
     unfold Rho.add at e
     by_cases q : VL.ownBlock = some k
     ·exact (hown5.lt k q).2
     ·rw [if_neg q] at e; exact Nat.lt_of_lt_of_le (HF2.out.rest.lt k e) hkr.size
    have hr := HF2.out.rest.fileSet Hc.out hkr hfx5 hup hlt5
    have hxf : f ≠ x := Rho.ne HF2.out.role Hfx.out.role (by decide)
    have hh5 : FsHd w5 f d1 := hkr.heap HF2.out.hd (fun e => by
     rcases e with e | e
     ·exact hxf e
     ·have := Hfx.out.rown f e; rw [HF2.out.role] at this; cases this)
    refine ⟨VL, ρ.add VL (.bytes x), ?_, ?_, ?_⟩
    ·rw [Hd5.out]; rfl
    ·rw [Hd5.out]; exact ⟨hup _ _ HF2.out.role, hh5, hr⟩
    ·refine ⟨Hst2.out.keeps.go hkr ?_, fun k hk => ?_⟩
     ·rintro i (e | e)
      ·rw [e]; exact .inl (Rho.has_of Hfx.out.role)
      ·exact .inl (Rho.has_of (Hfx.out.rown i e))
     ·rcases Rho.add_has (w := w2) Hfx.out.rown hloc k hk with e | e
      ·exact .inl e
      ·exact .inr (Nat.le_trans Hst2.out.keeps.size e)
   ·have hpb : (pe == 0) = false := by simpa using hp0
    have Hd5 : Hid (∀ row, appendD d n bs row = (pe, d1)) := fun row => by have := Hd4.out row; rw [this, if_neg hp0]
    go_enter Tryz.func16, Tryz.ntmps16
    go_wp2_with fail
    refine (H1.out).mono ?_; rintro e w1 ⟨rfl, hb1⟩
    have hbw1 := Hb2.out.trans (hb1.mono Hb2.out.size)
    have hbd : Below w.heap.size w w1.drew := hbw1.drew
    have HS := Lib.hid (Hs.out _ hbd)
    have hwr : IntKind.i64.wrap (room - (U : Int)) = room - (U : Int) := IntWalk.i64_in _ (by omega)
    clear hb1 hbw1
    go_upto_region 4 with fail
    refine wp_region_noPanic ?_
    refine wp_region_held_drew (S := (fun w' => w'.cell? ⟨f, 3, none⟩ = some (.int .i64 room) ∧ Hid (Below w.heap.size w w'))) (by kernel_rfl) (by first | with_reducible exact HS.out | exact Hs.out _ (by with_reducible assumption)) (fun hHeld => ?_)
    refine tkP 0 ?_
    refine tkP 1 ?_
    refine tkP 2 ?_
    refine tkP 3 ?_
    refine tkP 4 ?_
    refine tkP 5 ?_
    refine tkP 6 ?_
    refine rdH 7 fun K hK => ?_
    go_simp
    go_at_call 35; refine (Hu.out _ hbd).mono ?_; rintro e wu ⟨rfl, hbu⟩; have hbU := hbd.trans (hbu.mono hbd.size)
    refine hK.out _ _ (by (try dsimp only); first | with_reducible exact HS.out | exact Hs.out _ (by with_reducible assumption)) (fun hHeld => ?_)
    clear hK K
    try simp only [Act.put, qA, qB, qC]
    refine tkP 8 ?_
    refine tkP 9 ?_
    refine tkP 10 ?_
    refine wpAnyH_done (by kernel_rfl) ?_ _
    refine NoPanic.normal ?_
    clear HS Hs
    have hp := Hp.out wu hbU
    have Hp1 := Lib.hid hp
    have HbU := Lib.hid hbU
    clear hp hbU hbd hbu hwr
    go_wp2_with fail
    refine (Hp1.out).mono ?_; rintro e w2 ⟨rfl, hF2, hk2⟩
    go_wp2
    go_ret
    refine ⟨d.lv, ρ, ?_, ?_, (FsStep.below HbU.out).trans (FsStep.one H.out.role hk2)⟩
    ·rw [Hd5.out]; rfl
    ·rw [Hd5.out]; exact hF2
 ·have h0' : (e == 0) = false := by simpa using h0
  obtain ⟨pv, hpv⟩ : ∃ pv, ptrOf (foundD d n []).1 = pv := ⟨_, rfl⟩
  rw [he, hpv] at h1
  have Hd2 : Hid (∀ row, appendD d n bs row = (e, d)) := fun row => by have := Hd.out row; rw [this, if_neg h0]
  have H1 := Lib.hid h1
  clear h1 he hpv hnh3 hb2
  subst hW2
  go_enter Tryz.func16, Tryz.ntmps16
  go_wp2_with fail
  refine (H1.out).mono ?_; rintro e w1 ⟨rfl, hb1⟩
  have hbw1 := Hb2.out.trans (hb1.mono Hb2.out.size)
  go_wp2
  go_ret
  refine ⟨d.lv, ρ, ?_⟩
  rw [Hd2.out]
  exact ⟨rfl, H.out.below hbw1, FsStep.below hbw1⟩
def bytesOf (d : FsD) (n : Nm) : List UInt8 := match d.now.look n with | some x => (match d.file x with | some c => c.bytes | none => []) | none => []
def fsReadD (d : FsD) (n : Nm) : Int × List UInt8 := if (foundD d n []).2 = 0 then (0, bytesOf d n) else ((foundD d n []).2, [])
def FsReadDone (w : World) (r : Int × List UInt8) (e : Ending) (w' : World) : Prop := ∃ v, e = .returned (.tuple #[v, .int .i64 r.1]) ∧ w'.ownsRow w.heap.size 5 1 v r.2.length (r.2.map u8v) ∧ Below w.heap.size w w'
set_option maxHeartbeats 8000000 in
theorem fsRead_calls (f : Nat) (d : FsD) (ρ : Rho) (n : Nm) (w : World) (h : FsAt w f d ρ) (hs : n.length ≤ maxLen) :
 Calls Tryz.prog 57 #[.pointer (some ⟨f, 0, none⟩), .string (strL n)] w (FsReadDone w (fsReadD d n)) := by
 obtain ⟨W2, hW2⟩ : ∃ W2, w.alloc (.cells #[.string (strL n)] 9) = W2 := ⟨_, rfl⟩
 have hb2 : Below w.heap.size w W2 := by rw [← hW2]; exact (Below.refl _ _).alloc (Nat.le_refl _) _
 have hnh3 : W2.heap[w.heap.size]? = some (.cells #[.string (strL n)] 9 (0, 0)) := by rw [← hW2]; exact heap_new_at _ rfl
 have h1 := found_calls f d ρ (.slice (some ⟨w.heap.size, 0, none⟩) 1 1) n [] W2 (h.below hb2) (rdS_one hnh3) (fun k hk => by rw [List.mem_singleton.1 hk]; exact hs)
 obtain ⟨e, he⟩ : ∃ e, (foundD d n []).2 = e := ⟨_, rfl⟩
 have H := Lib.hid h
 have Hb2 := Lib.hid hb2
 by_cases h0 : e = 0
 ·have hok := found_ok (he.trans h0)
  obtain ⟨x, hx⟩ := Option.isSome_iff_exists.1 hok.2.2.2
  rw [he, hok.2.2.1, hx] at h1
  have h1 : Calls Tryz.prog 53 #[.pointer (some ⟨f, 0, none⟩), .slice (some ⟨w.heap.size, 0, none⟩) 1 1] W2 fun e_1 w' => e_1 = .returned (.tuple #[.pointer (some ⟨x, 0, none⟩), .int .i64 e]) ∧ Below W2.heap.size W2 w' := h1
  obtain ⟨c, hc, _⟩ := h.rest.fileOf hx
  have hrd : fsReadD d n = (0, c.bytes) := by unfold fsReadD bytesOf; rw [he, if_pos h0, hx]; show ((0 : Int), (match d.file x with | some c => c.bytes | none => [])) = _; rw [hc]
  subst h0
  have H1 := Lib.hid h1
  have Hc := Lib.hid hc
  have Hrd := Lib.hid hrd
  clear h1 he hok hx hc h hrd hnh3 hb2 hs
  subst hW2
  go_enter Tryz.func57, Tryz.ntmps57
  go_wp2_with fail
  refine (H1.out).mono ?_; rintro e w1 ⟨rfl, hb1⟩
  have hbw1 := Hb2.out.trans (hb1.mono Hb2.out.size)
  have hfx := (H.out.below hbw1).rest.files x c Hc.out
  obtain ⟨⟨x0, x1⟩, _⟩ := cells2 hfx.hd
  have hcl := clone_calls c.row c.bytes w1 (rdB_ofOwn hfx.own) (by have := hfx.small; omega)
  obtain ⟨aR, cR, hrow⟩ := own_form0 hfx.own
  rw [hrow] at x0 hcl
  have Hcl := Lib.hid hcl
  have Hbw1 := Lib.hid hbw1
  clear hcl hfx hrow hbw1 hb1 x1
  go_wp2_with fail
  refine (Hcl.out).mono ?_; rintro e w2 ⟨v2, rfl, hown2, hb2⟩
  have hfin := Lib.hid (show FsReadDone w (fsReadD d n) (.returned (.tuple #[v2, .int .i64 0])) w2 from by
   rw [Hrd.out]; exact ⟨v2, rfl, own_mono hown2 Hbw1.out.size, Hbw1.out.trans (hb2.mono Hbw1.out.size)⟩)
  clear hown2 hb2
  go_wp2
  go_ret2
  exact hfin.out
 ·have h0' : (e == 0) = false := by simpa using h0
  obtain ⟨pv, hpv⟩ : ∃ pv, ptrOf (foundD d n []).1 = pv := ⟨_, rfl⟩
  rw [he, hpv] at h1
  have Hrd : Hid (fsReadD d n = (e, [])) := Lib.hid (by unfold fsReadD; rw [he, if_neg h0])
  have H1 := Lib.hid h1
  clear h1 he hpv hnh3 hb2
  subst hW2
  go_enter Tryz.func57, Tryz.ntmps57
  go_wp2_with fail
  refine (H1.out).mono ?_; rintro e w1 ⟨rfl, hb1⟩
  have hbw1 := Hb2.out.trans (hb1.mono Hb2.out.size)
  go_wp2
  go_ret2
  rw [Hrd.out]
  exact ⟨.slice none 0 0, rfl, World.ownsRow_nil _ _ _ _, hbw1⟩
set_option maxHeartbeats 4000000 in
theorem down_calls (f : Nat) (d : FsD) (ρ : Rho) (w : World) (h : FsAt w f d ρ) :
 Calls Tryz.prog 96 #[.pointer (some ⟨f, 0, none⟩)] w fun e w' => e = .returned (.bool d.down) ∧ w' = w := by
 obtain ⟨⟨c0, c1, c2, c3, c4, c5⟩, _⟩ := fsHd_cells h.hd
 clear c0 c1 c2 c3 c4 h
 generalize d.down = dn at c5
 go_enter Tryz.func96, Tryz.ntmps96
 go_wp2
 go_ret
 exact ⟨rfl, rfl⟩
def roomD (n : Int) : Int := min (max n 0) 16777216
set_option maxHeartbeats 4000000 in
theorem room_calls (f : Nat) (d : FsD) (ρ : Rho) (n : Int) (w : World) (h : FsAt w f d ρ) :
 Calls Tryz.prog 40 #[.pointer (some ⟨f, 0, none⟩), .int .i64 n] w fun e w' => e = .returned (.tuple #[]) ∧ FsAt w' f { d with room := roomD n } ρ ∧ Keeps (fun k => k = f) w w' := by
 obtain ⟨⟨c0, c1, c2, c3, c4, c5⟩, hfz⟩ := fsHd_cells h.hd
 have f3 := hfz 3
 have H := Lib.hid h
 clear c0 c1 c2 c4 c5 hfz h
 have hcase : (n < 0 ∧ roomD n = 0) ∨ (0 ≤ n ∧ n ≤ 16777216 ∧ roomD n = n) ∨ (16777216 < n ∧ roomD n = 16777216) := by unfold roomD; omega
 have hfin : ∀ r : Int, r = roomD n → FsAt (w.setCell ⟨f, 3, none⟩ (.int .i64 r)) f { d with room := roomD n } ρ ∧ Keeps (fun k => k = f) w (w.setCell ⟨f, 3, none⟩ (.int .i64 r)) := by
  intro r hr
  subst hr
  have hk : Keeps (fun k => k = f) w (w.setCell ⟨f, 3, none⟩ (.int .i64 (roomD n))) := Keeps.setCell _ _ _ rfl
  exact ⟨H.out.head hk (heap_setCell_same _ _ 3 _ _ _ H.out.hd) (fun r => ⟨r.rnow, r.rsure, r.dnow, r.dsure, r.rlv, r.own, r.chg, r.files, r.fnow, r.fsure, r.lt⟩), hk⟩
 have Hfin := Lib.hid hfin
 clear hfin
 rcases hcase with ⟨h1, h2⟩ | ⟨h1, h3, h2⟩ | ⟨h1, h2⟩
 all_goals
  have H2 := Lib.hid h2
  clear h2
  go_enter Tryz.func40, Tryz.ntmps40
  go_wp2
  go_end0
  exact ⟨rfl, Hfin.out _ (by rw [H2.out] <;> first | rfl | omega)⟩
open Go.RowKit Go.Maps Go.Sort Go.Shelf
def newD (B : Nat) (room : Int) : FsD := { mn := B, ms := B + 1, now := [], sure := [], lv := .slice none 0 0, loose := [], room := room, fuse := -1, down := false, file := fun _ => none }
def newRho (B : Nat) : Rho := fun k => if k = B then some .now else if k = B + 1 then some .sure else if k = B + 2 then some .fs else none
theorem newRho_has {B k : Nat} (h : (newRho B).has k) : B ≤ k ∧ k < B + 3 := by
 unfold Rho.has newRho at h
 by_cases h1 : k = B
 ·omega
 ·rw [if_neg h1] at h
  by_cases h2 : k = B + 1
  ·omega
  ·rw [if_neg h2] at h
   by_cases h3 : k = B + 2
   ·omega
   ·rw [if_neg h3] at h; cases h
set_option maxHeartbeats 4000000 in
theorem new_calls (n : Int) (w : World) :
 Calls Tryz.prog 14 #[.int .i64 n] w fun e w' => e = .returned (.pointer (some ⟨w.heap.size + 2, 0, none⟩)) ∧ FsAt w' (w.heap.size + 2) (newD w.heap.size (roomD n)) (newRho w.heap.size) ∧ Below w.heap.size w w' := by
 have hmm := @run_makeMap Tryz.prog
 obtain ⟨W1, hW1⟩ : ∃ W1, w.alloc (.map #[] 0) = W1 := ⟨_, rfl⟩
 obtain ⟨W2, hW2⟩ : ∃ W2, W1.alloc (.map #[] 0) = W2 := ⟨_, rfl⟩
 obtain ⟨W3, hW3⟩ : ∃ W3, W2.alloc (.cells #[.map (some w.heap.size), .map (some (w.heap.size + 1)), .slice none 0 0, .int .i64 0, .int .i64 (-1), .bool false] 96) = W3 := ⟨_, rfl⟩
 have z1 : W1.heap.size = w.heap.size + 1 := by rw [← hW1]; simp
 have z2 : W2.heap.size = w.heap.size + 2 := by rw [← hW2]; simp [z1]
 have z3 : W3.heap.size = w.heap.size + 3 := by rw [← hW3]; simp [z2]
 have b1 : Below w.heap.size w W1 := by rw [← hW1]; exact (Below.refl _ _).alloc (Nat.le_refl _) _
 have b2 : Below W1.heap.size W1 W2 := by rw [← hW2]; exact (Below.refl _ _).alloc (Nat.le_refl _) _
 have b3 : Below W2.heap.size W2 W3 := by rw [← hW3]; exact (Below.refl _ _).alloc (Nat.le_refl _) _
 have m1 : DirAt W1 w.heap.size [] := by rw [← hW1]; exact World.ownsMap_made w Tryz.prog 9 ptrElem
 have m1' : DirAt W3 w.heap.size [] := ownsMap_keeps (F := fun _ => False) (ownsMap_keeps (F := fun _ => False) m1 (Keeps.ofBelow b2) id) (Keeps.ofBelow b3) id
 have m2 : DirAt W2 W1.heap.size [] := by rw [← hW2]; exact World.ownsMap_made W1 Tryz.prog 9 ptrElem
 rw [z1] at m2
 have m2' : DirAt W3 (w.heap.size + 1) [] := ownsMap_keeps (F := fun _ => False) m2 (Keeps.ofBelow b3) id
 have hh : W3.heap[w.heap.size + 2]? = some (.cells #[.map (some w.heap.size), .map (some (w.heap.size + 1)), .slice none 0 0, .int .i64 0, .int .i64 (-1), .bool false] 96 (0, 0)) := by rw [← hW3]; exact heap_new_at _ z2.symm
 have hF : FsAt W3 (w.heap.size + 2) (newD w.heap.size 0) (newRho w.heap.size) := by
  refine ⟨by unfold newRho; rw [if_neg (by omega), if_neg (by omega), if_pos rfl], hh, ⟨by show newRho w.heap.size w.heap.size = _; unfold newRho; rw [if_pos rfl], ?_, m1', m2', (fun k e => by cases e), World.ownsRow_nil _ _ _ _, (fun p hp => by cases hp), (fun x c e => by cases e), (fun p hp => by cases hp), (fun p hp => by cases hp), fun k e => by have := newRho_has e; omega⟩⟩
  show newRho w.heap.size (w.heap.size + 1) = _
  unfold newRho; rw [if_neg (by omega), if_pos rfl]
 have hr := room_calls (w.heap.size + 2) _ _ n W3 hF
 have Hr := Lib.hid hr
 have Hb := Lib.hid ((b1.trans (b2.mono b1.size)).trans (b3.mono (by omega)))
 have Hz := Lib.hid z3
 clear hr hF hh m1 m1' m2 m2' b1 b2 b3 z1 z2 z3
 subst hW3
 subst hW2
 subst hW1
 go_enter Tryz.func14, Tryz.ntmps14
 go_wp2_with fail
 refine (Hr.out).mono ?_; rintro e w4 ⟨rfl, hF4, hk4⟩
 go_wp2
 go_ret
 refine ⟨rfl, hF4, Hb.out.trans (hk4.below (fun i e => by rw [e]; omega) ?_)⟩
 simp; omega
theorem keys_dir (l : Dir) : strKeys (dirD l) = l.map (·.1) := by
 unfold dirD
 show (l.map entD).map _ = _
 rw [List.map_map]; rfl
theorem sortsA (m : Nat) : AnyZ.SortsIn Tryz.prog Tryz.sortedA_ren Fence.wide m :=
 ⟨fun blk off cap ss W hH hblk hsz => callsIn_wide.2 (Tryz.slices_Sort_string blk off cap ss W hH hblk hsz),
  fun p cap W => callsIn_wide.2 (Tryz.slices_Sort_string_none p cap W)⟩
set_option maxHeartbeats 4000000 in
theorem list_up (f : Nat) (d : FsD) (ρ : Rho) (w : World) (h : FsAt w f d ρ) (hdn : d.down = false) (hl : d.now.length ≤ 256) :
 Calls Tryz.prog 98 #[.pointer (some ⟨f, 0, none⟩)] w fun e w' => ∃ (v : Value) (ss : List Nm), e = .returned v ∧ ss.Perm (d.now.map (·.1)) ∧ w'.ownsRow w.heap.size 9 1 v ss.length ((ss.mergeSort (fun x y => decide (x ≤ y))).map encStr) ∧ (v = .slice none 0 0 ↔ ss = []) ∧ Below w.heap.size w w' := by
 obtain ⟨⟨c0, c1, c2, c3, c4, c5⟩, _⟩ := fsHd_cells h.hd
 rw [hdn] at c5
 have hown : w.ownsMap Tryz.prog 9 ptrElem d.mn d.now.length (dirD d.now) := h.rest.dnow
 have hmax : Maps.size (dirD d.now) ≤ maxLen := by rw [dirD_size]; unfold maxLen; omega
 have hbytes : Maps.size (dirD d.now) * 16 ≤ 140737488355328 := by rw [dirD_size]; omega
 rw [← keys_dir]
 generalize dirD d.now = D0 at hown hmax hbytes
 generalize d.now.length = nn at hown
 generalize d.mn = b at hown c0
 clear c1 c2 c3 c4 h hdn hl
 refine (callsIn_wide (n := 6)).1 ?_
 have hbl := hown.lt
 have hseq : SeqGives Fence.wide 2 Tryz.prog 184 #[.pointer (some ⟨w.heap.size, 0, none⟩)] encStr (fun ss => ss.Perm (strKeys D0)) (Maps.size D0) (w.alloc (.cells #[.map (some b)] 93)) :=
  AnyZ.keys_gives (ρ := Tryz.keysA_ren) { Tryz.keysA with } Fence.wide _ trivial rfl (by omega) w.heap.size b nn D0 _ (by simp) (by simp) (by
   obtain ⟨es, clock, hb, Ft, hs, hD⟩ := hown
   exact ⟨es, clock, (Below.heap_alloc _ _ b hbl).trans hb, Ft, hs, hD⟩)
 have cK : ∀ mb W, CallsIn Fence.wide 5 Tryz.prog 138 #[.map mb] W fun e w' => e = .returned (.func (.func 184) #[] #[.pointer (some ⟨W.heap.size, 0, none⟩)]) ∧ w' = W.alloc (.cells #[.map mb] 93) := fun mb W => AnyZ.keys_in Tryz.keysA Fence.wide 5 trivial rfl mb W
 have cS := AnyZ.sorted_in Tryz.sortedA Fence.wide 5 trivial trivial trivial trivial rfl (by omega) (sortsA _) (enters_of Tryz.func183 (by kernel_rfl) rfl) 184 #[.pointer (some ⟨w.heap.size, 0, none⟩)] trivial (enters_of Tryz.func184 (by kernel_rfl) rfl) _ _ hmax hbytes _ hseq
 change CallsIn _ _ Tryz.prog 137 _ _ _ at cS
 have hfK : Fence.wide.fn 138 := trivial
 have hfS : Fence.wide.fn 137 := trivial
 refine callsIn_of_wp Tryz.func98 rfl trivial ?_ rfl
 simp only [Tryz.ntmps98, List.size_toArray, List.length_cons, List.length_nil, Nat.reduceAdd, Nat.reduceSub, Array.replicate_succ, Array.replicate_zero, List.push_toArray, List.append_toArray, List.nil_append, List.cons_append]
 gi_wp2_with (first
  | (gi_at_call 138; refine (cK _ _).mono ?_; rintro e w' ⟨rfl, rfl⟩)
  | (gi_at_call 137; refine cS.mono ?_; rintro e w' ⟨v, ss, rfl, hS, hrow, hnil, hb⟩))
 go_ret
 exact ⟨v, ss, rfl, hS, ownsRow_base_a hrow (by simp), hnil, ((Below.refl _ w).alloc (Nat.le_refl _) _).trans (hb.mono (by simp))⟩
def numD (n : Nat) : List UInt8 := List.replicate (9 - (Lib.decDigits n).length) 48 ++ Lib.decDigits n
def NG : Nat := max (max 1 0) (max 2 3) + 1
structure GB (w w' : World) : Prop where
 size : w.heap.size ≤ w'.heap.size
 block : ∀ k, k < NG → k < w.heap.size → w'.heap[k]? = w.heap[k]?
theorem GB.refl (w : World) : GB w w := ⟨Nat.le_refl _, fun _ _ _ => rfl⟩
theorem GB.trans {a b c : World} (h : GB a b) (g : GB b c) : GB a c := ⟨Nat.le_trans h.size g.size, fun k h1 h2 => (g.block k h1 (Nat.lt_of_lt_of_le h2 h.size)).trans (h.block k h1 h2)⟩
theorem GB.below {w w' : World} (h : Below w.heap.size w w') : GB w w' := ⟨h.size, fun k _ h2 => h.block k h2⟩
theorem GB.keeps {w w' : World} {F : Nat → Prop} (h : Keeps F w w') (hF : ∀ k, F k → NG ≤ k) : GB w w' := ⟨h.size, fun k h1 h2 => h.block k h2 (fun e => by have := hF k e; omega)⟩
def ItoaOk (n : Nat) (w : World) : Prop := ∀ w', GB w w' → Calls Tryz.prog 45 #[.int .i64 (n : Int)] w' fun e w'' => e = .returned (.string (strL (Lib.decDigits n))) ∧ Below w'.heap.size w' w''
theorem ItoaOk.gb {n : Nat} {w w' : World} (h : ItoaOk n w) (hb : GB w w') : ItoaOk n w' := fun w2 h2 => h w2 (hb.trans h2)
theorem ItoaOk.below {n : Nat} {w w' : World} (h : ItoaOk n w) (hb : Below w.heap.size w w') : ItoaOk n w' := h.gb (GB.below hb)
theorem nDigits_le : ∀ (k n : Nat), n < 10 ^ (k + 1) → Lib.nDigits n ≤ k + 1
 | 0, n, h => by rw [Lib.nDigits_small (by omega)]; omega
 | k + 1, n, h => by
  rw [Lib.nDigits]
  by_cases h1 : n < 10
  ·rw [dif_pos h1]; omega
  ·rw [dif_neg h1]
   have := nDigits_le k (n / 10) (by rw [Nat.pow_succ] at h; omega)
   omega
theorem digits_le {n : Nat} (h : n ≤ 999999999) : (Lib.decDigits n).length ≤ 9 := by
 rw [Lib.decDigits_length]; exact nDigits_le 8 n (by omega)
theorem repeat_zeros : ∀ k, Lib.repeatL [48] k = List.replicate k 48
 | 0 => rfl
 | k + 1 => by rw [Lib.repeatL, repeat_zeros k]; rfl
theorem repeat_calls (k : Nat) (hk : k ≤ 9) (w : World) : Calls Tryz.prog 46 #[.string ⟨#[48]⟩, .int .i64 (k : Int)] w fun e w' => e = .returned (.string (strL (List.replicate k 48))) ∧ Below w.heap.size w w' := by
 have h := Tryz.strings_Repeat ⟨#[48]⟩ k w (by omega) (by show 1 * k ≤ _; omega)
 refine h.mono fun e w' h => ?_
 have e1 : Lib.repeatL (⟨#[48]⟩ : ByteArray).data.toList k = List.replicate k 48 := repeat_zeros k
 rw [← e1]
 exact h
theorem numD_length {n : Nat} (h : n ≤ 999999999) : (numD n).length = 9 := by
 unfold numD; rw [List.length_append, List.length_replicate]; have := digits_le h; omega
def idsNameD (n : Int) : Nm := if 0 ≤ n ∧ n ≤ 999999999 then [110, 101, 120, 116, 45] ++ numD n.toNat else []
set_option maxHeartbeats 4000000 in
theorem idsName_calls (n : Int) (w : World) (hI : 0 ≤ n → n ≤ 999999999 → ItoaOk n.toNat w) :
 Calls Tryz.prog 181 #[.int .i64 n] w fun e w' => e = .returned (.string (strL (idsNameD n))) ∧ Below w.heap.size w w' := by
 by_cases h0 : n < 0
 ·have Hn : Hid (idsNameD n = []) := Lib.hid (by unfold idsNameD; rw [if_neg (by omega)])
  clear hI
  go_enter Tryz.func181, Tryz.ntmps181
  go_wp2
  go_ret
  rw [Hn.out]
  exact ⟨rfl, Below.refl _ _⟩
 ·by_cases h1 : 999999999 < n
  ·have Hn : Hid (idsNameD n = []) := Lib.hid (by unfold idsNameD; rw [if_neg (by omega)])
   clear hI
   go_enter Tryz.func181, Tryz.ntmps181
   go_wp2
   go_ret
   rw [Hn.out]
   exact ⟨rfl, Below.refl _ _⟩
  ·obtain ⟨k, rfl⟩ := Int.eq_ofNat_of_zero_le (show 0 ≤ n by omega)
   have hk : k ≤ 999999999 := by omega
   have hI' := hI (by omega) (by omega)
   rw [Int.toNat_natCast] at hI'
   have Hn : Hid (idsNameD (k : Int) = [110, 101, 120, 116, 45] ++ (List.replicate (9 - (Lib.decDigits k).length) 48 ++ Lib.decDigits k)) := Lib.hid (by unfold idsNameD; rw [if_pos (by omega), Int.toNat_natCast]; rfl)
   have hd := digits_le hk
   have hc := hI' w (GB.refl _)
   obtain ⟨ds, hds⟩ : ∃ ds, Lib.decDigits k = ds := ⟨_, rfl⟩
   rw [hds] at hc Hn hd
   obtain ⟨s, hs⟩ : ∃ s, strL ds = s := ⟨_, rfl⟩
   have hsz : s.size = ds.length := by rw [← hs, strL_size]
   rw [hs] at hc
   have hdi : (s.size : Int) ≤ 9 := by omega
   have hr := fun w => repeat_calls (9 - ds.length) (by omega) w
   obtain ⟨z, hz⟩ : ∃ z, strL (List.replicate (9 - ds.length) 48) = z := ⟨_, rfl⟩
   have hzl : z.size = 9 - ds.length := by rw [← hz, strL_size, List.length_replicate]
   have ha1 : 5 + z.size ≤ 9223372036854775807 := by omega
   have ha2 : 5 + z.size + s.size ≤ 9223372036854775807 := by omega
   rw [hz] at hr
   have hcast : ((9 - ds.length : Nat) : Int) = 9 - (s.size : Int) := by omega
   rw [hcast] at hr
   have Hr := Lib.hid hr
   have Hc := Lib.hid hc
   have Hs := Lib.hid hs
   have Hz := Lib.hid hz
   clear hI hI' hd hc hds hs hsz hr hz hcast hzl
   go_enter Tryz.func181, Tryz.ntmps181
   go_wp2_with fail
   refine (Hc.out).mono ?_; rintro e w1 ⟨rfl, hb1⟩
   go_wp2_with fail
   refine (Hr.out w1).mono ?_; rintro e w2 ⟨rfl, hb2⟩
   go_wp2
   go_ret
   refine ⟨?_, hb1.trans (hb2.mono hb1.size)⟩
   rw [Hn.out, ← strL_append, ← strL_append, Hs.out, Hz.out]
   show Ending.returned (.string (⟨#[110, 101, 120, 116, 45]⟩ ++ z ++ s)) = _
   rw [ByteArray.append_assoc]; rfl
end Go.Proofs.YtffnbkmigapmjaaGreatDoor
