/- Printed out of the texts of wip/tpl. -/
import Derived.Test.YtffnbkmigapmjaaGreatDoorT25
import Derived.Test.YtffnbkmigapmjaaGreatDoorT40
import Derived.Test.YtffnbkmigapmjaaGreatDoorT41
import Derived.BigQuiet
set_option linter.unusedSimpArgs false
set_option linter.unusedVariables false
set_option maxRecDepth 100000
namespace Go.Proofs.YtffnbkmigapmjaaGreatDoor
open Go.RowKit Go.Maps
theorem run_room (M : ModD) (o : OpV) : (M.run o).2.2.room = M.room := by
 have hadd : ∀ m, (M.add m).2.2.room = M.room := fun m => by unfold ModD.add; split <;> rfl
 unfold ModD.run
 split
 ·unfold ModD.commit; split
  ·exact hadd _
  ·rfl
 ·split
  ·unfold ModD.bounce; split
   ·split
    ·show ((M.add o.m).2.2.drop o.m.parent).2.room = _
     unfold ModD.drop
     split
     ·exact hadd _
     ·exact hadd _
    ·exact hadd _
   ·rfl
  ·split
   ·show (M.mark o.id o.k).2.room = _
    unfold ModD.mark; repeat' split
    all_goals rfl
   ·split
    ·show (M.move o.id o.dest).2.room = _
     unfold ModD.move; repeat' split
     all_goals rfl
    ·split
     ·show (M.drop o.id).2.room = _
      unfold ModD.drop; split <;> rfl
     ·rfl
theorem liveB_own {v : Value} {k : Nat} (h : liveB v = some k) : v.ownBlock = some k := by
 unfold liveB at h
 split at h
 ·split at h
  ·cases h
  ·exact h
 ·cases h
def oneOp : OpV := ⟨1, 0, one14, ⟨0, 0, 0⟩, 0, none, 0, none, 0⟩
theorem commit_ok {T : Nat} {M : ModD} {m : MailD} (hi : ModI T M) (hT : T ≤ 90) (hr : M.room = 16777216) (hg : goodM m = true) (hp : m.parent = 0) : ∃ M1, M.commit m = (M.last + 1, 0, M1) ∧ M1.list = M.list ++ [⟨{ m with id := M.last + 1 }, 105, []⟩] ∧ M1.room = 16777216 := by
 have hu := hi.used60 (by omega)
 have hl := hi.last
 have hgd : ({ m with id := M.last + 1 } : MailD).good = true := good_at hg (by omega) (by omega)
 have hlen := record_len hgd
 refine ⟨{ M.next with list := M.list ++ [⟨{ m with id := M.last + 1 }, 105, []⟩] }, ?_, rfl, hr⟩
 unfold ModD.commit
 rw [if_pos ⟨hg, hp⟩]
 unfold ModD.add
 rw [if_neg (by rw [hr]; omega)]
theorem one_commit {T : Nat} {M : ModD} (hi : ModI T M) (hT : T ≤ 90) (hr : M.room = 16777216) : ∃ M1, M.run oneOp = (M.last + 1, 0, M1) ∧ M1.list = M.list ++ [⟨{ one14 with id := M.last + 1 }, 105, []⟩] ∧ M1.room = 16777216 := by
 obtain ⟨M1, h1, h2, h3⟩ := commit_ok hi hT hr (m := one14) one14_good rfl
 refine ⟨M1, ?_, h2, h3⟩
 rw [← h1]
 unfold ModD.run
 exact if_pos (show oneOp.kind = 1 from rfl)
structure Beside (w0 w : World) (B s f mb : Nat) (σ : Nat → Prop) (M : ModD) (lv : Value) (bs : List BoxV) (L : Nat) (d : StoD) (ρ : Rho) : Prop where
 sto : StoOk w s d ρ
 fb : d.fb = f
 mdl : MdlAt w mb M lv bs σ
 so : ∀ k, stoOwn s d ρ k → B ≤ k
 dis : ∀ k, stoOwn s d ρ k → ¬ σ k
 loose : d.fs.loose.length ≤ L
 bel : Below B w0 w
 size : B ≤ w.heap.size
section
variable {w0 w w' : World} {B s f mb L : Nat} {σ : Nat → Prop} {M : ModD} {lv : Value} {bs : List BoxV} {d d' : StoD} {ρ ρ' : Rho}
theorem Pair.beside {T : Nat} (h : Pair w0 w B s f mb T d ρ M lv bs σ) : Beside w0 w B s f mb σ M lv bs (20 * T) d ρ := ⟨h.sto, h.fb, h.mdl, h.so, h.dis, h.loose, h.bel, h.size⟩
theorem Beside.below (h : Beside w0 w B s f mb σ M lv bs L d ρ) (hb : Below w.heap.size w w') : Beside w0 w' B s f mb σ M lv bs L d ρ :=
 ⟨h.sto.below hb, h.fb, h.mdl.below hb, h.so, h.dis, h.loose, h.bel.trans (hb.mono h.size), Nat.le_trans h.size hb.size⟩
theorem Beside.step (h : Beside w0 w B s f mb σ M lv bs L d ρ) (hO : StoOk w' s d' ρ') (hT : StoStep w s d ρ w' d' ρ') (hfb : d'.fb = d.fb) (hg : FsGo d.fs d'.fs 9) : Beside w0 w' B s f mb σ M lv bs (L + 9) d' ρ' := by
 refine ⟨hO, hfb.trans h.fb, h.mdl.keeps hT.keeps (fun k e g => h.dis k g e), fun k hk => ?_, fun k hk hs => ?_, by have := hg.2; have := h.loose; omega, h.bel.trans (hT.belB h.so h.size), Nat.le_trans h.size hT.keeps.size⟩
 ·rcases hT.grow k hk with e | e
  ·exact h.so k e
  ·have := h.size; omega
 ·rcases hT.grow k hk with e | e
  ·exact h.dis k e hs
  ·have := h.mdl.lt k hs; omega
theorem Beside.fs (h : Beside w0 w B s f mb σ M lv bs L d ρ) : FsAt w f d.fs ρ := by have := h.sto.at_.fs; rw [h.fb] at this; exact this
theorem Beside.room {r : Int} (h : Beside w0 w B s f mb σ M lv bs L d ρ) (hNB : NG ≤ B) (hr : 0 ≤ r ∧ r ≤ 16777216) (hF : FsAt w' f { d.fs with room := r } ρ) (hk : Keeps (fun k => k = f) w w') : Beside w0 w' B s f mb σ M lv bs L (d.rm r) ρ := by
 have hof : stoOwn s d ρ f := .inl (Rho.has_of hF.role)
 have hfB := h.so f hof
 have hA : StoAt w' s (d.rm r) ρ := h.sto.at_.other_fs (by rw [h.fb]; exact hF) (by rw [h.fb]; exact hk)
 have hb : Below B w w' := hk.below (fun i e => by rw [e]; exact hfB) h.size
 have hgb := GB.keeps hk (fun k e => by rw [e]; exact Nat.le_trans hNB hfB)
 exact ⟨⟨hA, ⟨h.sto.ok.f0, h.sto.ok.f1, h.sto.ok.n, hr.1, hr.2⟩, h.sto.g.gb hgb, h.sto.mx.gb hgb, h.sto.own, h.sto.last, h.sto.nf⟩, h.fb, h.mdl.keeps hk (fun k e g => h.dis f hof (by rw [← g]; exact e)), h.so, h.dis, h.loose, h.bel.trans hb, Nat.le_trans h.size hb.size⟩
theorem CommitR.fb {m : MailD} {er id : Int} (h : CommitR d m er id d') : d'.fb = d.fb := DoR.fb (o := ⟨1, 0, m, ⟨0, 0, 0⟩, 0, none, 0, none, 0⟩) (.inl ⟨rfl, h⟩)
theorem MarkR.fb {k : MarkD} {er id : Int} (h : MarkR d id k er d') : d'.fb = d.fb := DoR.fb (o := ⟨3, id, one14, k, 0, none, 0, none, 0⟩) (.inr (.inr (.inl ⟨rfl, rfl, h⟩)))
end
theorem rdO_one {w : World} {g : Nat} {o : OpV} {ts : Nat × Nat} (h : w.heap[g]? = some (.cells (opCells o).toArray 72 ts)) : RdO w (.slice (some ⟨g, 0, none⟩) 1 1) [o] := by
 refine .inr ⟨g, 0, 1, rfl, by simp, Nat.le_refl _, by decide, (Array.getElem?_eq_some_iff.1 h).1, ?_⟩
 intro i x hx j u hu
 have hi : i = 0 := by have := (List.getElem?_eq_some_iff.1 hx).1; simpa using this
 subst hi
 cases hx
 rw [cell_of_row _ _ _ _ _ _ h]
 simpa using hu
def PairR (w0 : World) (B s f mb T : Nat) (w : World) : Prop := ∃ d ρ M lv bs σ, Pair w0 w B s f mb T d ρ M lv bs σ ∧ M.room = 16777216
theorem pair_start {w0 wa w3 W4 : World} {B s f ib mp room mb : Nat} (hNB : NG ≤ B) (hBa : B ≤ wa.heap.size) (hf : wa.heap.size + 2 = f) (hs : B ≤ s) (hib : B ≤ ib) (hmp : B ≤ mp) (hroom : room ≤ 16777216)
 (hA3 : StoAt w3 s ⟨newD wa.heap.size room, f, ib, mp, 0, 0, [], [], false⟩ (newRho wa.heap.size)) (hg : GOk w3) (hmx : MaxOk w3) (hbel : Below B w0 w3) (hsz : B ≤ w3.heap.size)
 (hW4 : w3.alloc (.cells #[.slice none 0 0, .int .i64 0, .int .i64 0, .int .i64 (room : Int)] 69) = W4) (hmb : w3.heap.size = mb) : ∃ d ρ lv bs σ, Pair w0 W4 B s f mb 0 d ρ ⟨[], 0, 0, room⟩ lv bs σ := by
 have hb4 : Below w3.heap.size w3 W4 := by rw [← hW4]; exact (Below.refl _ _).alloc (Nat.le_refl _) _
 have hM4 : W4.heap[mb]? = some (.cells #[.slice none 0 0, .int .i64 0, .int .i64 0, .int .i64 (room : Int)] 69 (0, 0)) := by rw [← hW4, ← hmb]; exact heap_alloc_new w3 _
 obtain ⟨p1, p2, p3⟩ := same_start (B := wa.heap.size) (r := room) (fb := f) (ib := ib) (mb := mp) hroom
 have hso : ∀ k, stoOwn s ⟨newD wa.heap.size room, f, ib, mp, 0, 0, [], [], false⟩ (newRho wa.heap.size) k → B ≤ k := fun k hk => by
  rcases hk with e | e | e | e
  ·have := (newRho_has e).1; omega
  ·omega
  ·have : k = ib := e; omega
  ·have : k = mp := e; omega
 have hO4 : StoOk W4 s ⟨newD wa.heap.size room, f, ib, mp, 0, 0, [], [], false⟩ (newRho wa.heap.size) :=
  ⟨hA3.below hb4, ⟨by show (-1 : Int) ≤ -1; omega, by show (-1 : Int) ≤ _; omega, by show 0 ≤ 256; omega, by show (0 : Int) ≤ (room : Int); omega, by show (room : Int) ≤ 16777216; omega⟩, hg.below hb4, hmx.below hb4, fun k hk => Nat.le_trans hNB (hso k hk), by show (0 : Int) ≤ 0 ∧ (0 : Int) ≤ 999999999; omega, by show 0 ≤ 1000; omega⟩
 refine ⟨_, _, .slice none 0 0, [], fun k => k = mb, ⟨p1, p2, p3, hO4, rfl, ⟨hM4, rfl, World.ownsRow_nil _ _ _ _, fun b hb => (by cases hb), rfl, fun k e => (by cases e), fun b hb => (by cases hb), fun k e => ?_⟩, hso, fun k e => ?_, fun k hk e => ?_, Nat.zero_le _, hbel.trans (hb4.mono hsz), Nat.le_trans hsz hb4.size⟩⟩
 ·rw [e]; exact (Array.getElem?_eq_some_iff.1 hM4).1
 ·have : k = mb := e; omega
 ·have h1 := stoOwn_lt hA3 hk
  have : k = mb := e
  omega
set_option maxHeartbeats 32000000 in
theorem storeFull_calls (v : Value) (ops : List OpV) (m : MailD) (vr vb : Value) (k : MarkD) (w : World) (hv : RdO w v ops) (ho : ∀ o ∈ ops, OpArg0 w o) (hr : RdS w vr m.rcpts) (hb : RdB w vb m.body) (hnb : NilOk vb) (hor : ∀ k, vr.ownBlock = some k → k < w.heap.size) (hob : ∀ k, vb.ownBlock = some k → k < w.heap.size) (hln : m.lens) (hg : GOk w) (hmax : MaxOk w) :
 Calls Tryz.prog 8 #[v, mailVal m vr vb, k.val] w fun e w' => e = .returned (.bool true) ∧ Below w.heap.size w w' := by
 obtain ⟨a, cap, rfl, hl, hc⟩ := hv.form
 obtain ⟨ar, capr, rfl, hlr, hcr⟩ := hr.form
 obtain ⟨ab, capb, rfl, hlb, hcb⟩ := hb.form
 obtain ⟨mid, parent, born, frm, rcpts, body⟩ := m
 obtain ⟨kq, hkq⟩ : ∃ kq, k = kq := ⟨_, rfl⟩
 obtain ⟨kind, rcpt, kn⟩ := k
 dsimp only at hlr hlb
 obtain ⟨tf, htf⟩ : ∃ tf, strL frm = tf := ⟨_, rfl⟩
 obtain ⟨n1, hn1⟩ : ∃ n1, rcpts.length = n1 := ⟨_, rfl⟩
 obtain ⟨n2, hn2⟩ : ∃ n2, body.length = n2 := ⟨_, rfl⟩
 obtain ⟨K1, hK1⟩ : ∃ K, w.heap.size = K := ⟨_, rfl⟩
 obtain ⟨K2, hK2⟩ : ∃ K, K1 + 1 = K := ⟨_, rfl⟩
 obtain ⟨mq, hmq⟩ : ∃ mq : MailD, (⟨1, 0, born, frm, rcpts, body⟩ : MailD) = mq := ⟨_, rfl⟩
 obtain ⟨W1, hW1⟩ : ∃ W1, w.alloc (.cells #[.int .i64 mid, .int .i64 parent, .int .i64 born, .string tf, .slice ar n1 capr, .slice ab n2 capb] 29) = W1 := ⟨_, rfl⟩
 have hM1 : W1.heap[K1]? = some (.cells #[.int .i64 mid, .int .i64 parent, .int .i64 born, .string tf, .slice ar n1 capr, .slice ab n2 capb] 29 (0, 0)) := by rw [← hW1, ← hK1]; exact heap_alloc_new w _
 have hb1 : Below w.heap.size w W1 := by rw [← hW1]; exact (Below.refl _ _).alloc (Nat.le_refl _) _
 have hs1 : W1.heap.size = K2 := by rw [← hW1, ← hK2, ← hK1]; exact Array.size_push ..
 obtain ⟨W2, hW2⟩ : ∃ W2, W1.alloc (.cells #[.int .i64 kind, .int .i64 rcpt, .int .i64 kn] 53) = W2 := ⟨_, rfl⟩
 have hb2 : Below W1.heap.size W1 W2 := by rw [← hW2]; exact (Below.refl _ _).alloc (Nat.le_refl _) _
 have hM2 : W2.heap[K1]? = _ := (hb2.block _ (Array.getElem?_eq_some_iff.1 hM1).1).trans hM1
 have hN2 : W2.heap[K2]? = some (.cells #[.int .i64 kind, .int .i64 rcpt, .int .i64 kn] 53 (0, 0)) := by rw [← hW2, ← hs1]; exact heap_alloc_new W1 _
 obtain ⟨W3, hW3⟩ : ∃ W3, W2.setCell ⟨K1, 0, none⟩ (.int .i64 1) = W3 := ⟨_, rfl⟩
 have hk3 : Keeps (fun k => k = K1) W2 W3 := by rw [← hW3]; exact Keeps.setCell _ _ _ rfl
 have hM3 : W3.heap[K1]? = some (.cells #[.int .i64 1, .int .i64 parent, .int .i64 born, .string tf, .slice ar n1 capr, .slice ab n2 capb] 29 (0, 0)) := by rw [← hW3]; exact heap_setCell_same _ _ 0 _ _ _ hM2
 obtain ⟨W, hW⟩ : ∃ W, W3.setCell ⟨K1, 1, none⟩ (.int .i64 0) = W := ⟨_, rfl⟩
 have hk4 : Keeps (fun k => k = K1) W3 W := by rw [← hW]; exact Keeps.setCell _ _ _ rfl
 have hM : W.heap[K1]? = some (.cells #[.int .i64 1, .int .i64 0, .int .i64 born, .string tf, .slice ar n1 capr, .slice ab n2 capb] 29 (0, 0)) := by rw [← hW]; exact heap_setCell_same _ _ 1 _ _ _ hM3
 have hN : W.heap[K2]? = _ := hk4.heap (hk3.heap hN2 (by omega)) (by omega)
 have hbW : Below w.heap.size w W := by
  have h2 := hb1.trans (hb2.mono hb1.size)
  have h3 := h2.trans (hk3.below (fun k e => by omega) h2.size)
  exact h3.trans (hk4.below (fun k e => by omega) h3.size)
 have x0 : W2.cell? ⟨K1, 0, none⟩ = some (.int .i64 mid) := by rw [cell_of_row _ _ _ _ _ _ hM2]; rfl
 have y0 : W2.frozen? ⟨K1, 0, none⟩ = false := frozen_of_row _ _ _ _ _ hM2
 have x1 : W3.cell? ⟨K1, 1, none⟩ = some (.int .i64 parent) := by rw [cell_of_row _ _ _ _ _ _ hM3]; rfl
 have y1 : W3.frozen? ⟨K1, 1, none⟩ = false := frozen_of_row _ _ _ _ _ hM3
 obtain ⟨B, hB⟩ : ∃ B, W.heap.size = B := ⟨_, rfl⟩
 have hst : ∀ wr, Below B W wr → Below w.heap.size w wr ∧ (wr.cell? ⟨K1, 0, none⟩ = some (.int .i64 1) ∧ wr.cell? ⟨K1, 1, none⟩ = some (.int .i64 0) ∧ wr.cell? ⟨K1, 2, none⟩ = some (.int .i64 born) ∧ wr.cell? ⟨K1, 3, none⟩ = some (.string tf) ∧ wr.cell? ⟨K1, 4, none⟩ = some (.slice ar n1 capr) ∧ wr.cell? ⟨K1, 5, none⟩ = some (.slice ab n2 capb)) ∧ (wr.cell? ⟨K2, 0, none⟩ = some (.int .i64 kind) ∧ wr.cell? ⟨K2, 1, none⟩ = some (.int .i64 rcpt) ∧ wr.cell? ⟨K2, 2, none⟩ = some (.int .i64 kn)) ∧ RdO wr (.slice a ops.length cap) ops ∧ RdS wr (.slice ar n1 capr) rcpts ∧ RdB wr (.slice ab n2 capb) body ∧ GOk wr ∧ MaxOk wr := fun wr hb' => by
  rw [← hB] at hb'
  have h0 := hbW.trans (hb'.mono hbW.size)
  have hk := (hb'.block _ (Array.getElem?_eq_some_iff.1 hM).1).trans hM
  have hn := (hb'.block _ (Array.getElem?_eq_some_iff.1 hN).1).trans hN
  refine ⟨h0, ⟨by rw [cell_of_row _ _ _ _ _ _ hk]; rfl, by rw [cell_of_row _ _ _ _ _ _ hk]; rfl, by rw [cell_of_row _ _ _ _ _ _ hk]; rfl, by rw [cell_of_row _ _ _ _ _ _ hk]; rfl, by rw [cell_of_row _ _ _ _ _ _ hk]; rfl, by rw [cell_of_row _ _ _ _ _ _ hk]; rfl⟩, ⟨by rw [cell_of_row _ _ _ _ _ _ hn]; rfl, by rw [cell_of_row _ _ _ _ _ _ hn]; rfl, by rw [cell_of_row _ _ _ _ _ _ hn]; rfl⟩, hv.below (Nat.le_refl _) h0, ?_, ?_, hg.below h0, hmax.below h0⟩
  ·rw [← hn1]; exact hr.below (Nat.le_refl _) h0
  ·rw [← hn2]; exact hb.below (Nat.le_refl _) h0
 have hans := fun w1 (hb : Below B W w1) => answers14_calls w1 (hst w1 hb).2.2.2.2.2.2.1 (hst w1 hb).2.2.2.2.2.2.2
 have hlt := light14_calls (.slice a ops.length cap) ops W (hst W (Below.refl _ _)).2.2.2.1
 obtain ⟨lt, hlt2⟩ : ∃ lt, lightB ops = lt := ⟨_, rfl⟩
 rw [hlt2] at hlt
 have Hans := Lib.hid hans
 have Hlt := Lib.hid hlt
 have Hst := Lib.hid hst
 have H := Lib.hid (And.intro hbW (And.intro hB (And.intro hmq (And.intro hkq hlt2))))
 have Ho := Lib.hid (And.intro ho (And.intro hor (And.intro hob (And.intro hln hnb))))
 unfold mailVal MarkD.val
 dsimp only
 rw [htf, hn1, hn2]
 clear hans hlt hst hbW hB hmq hkq hlt2 hM hN hk4 hM3 hk3 hN2 hM2 hb2 hb1 hM1 hv hg hmax hr hb hor hob hln hnb ho
 go_enter Tryz.func8, Tryz.ntmps8
 go_wp2_with fail
 refine (Hlt.out).mono ?_; rintro e w1 ⟨rfl, hb1⟩
 have hb1' : Below B W w1 := by rw [← H.out.2.1]; exact hb1
 have Hb1 := Lib.hid hb1'
 obtain ⟨_, ⟨c0, c1, c2, c3, c4, c5⟩, ⟨z0, z1, z2⟩, _⟩ := Hst.out w1 hb1'
 clear x0 y0 x1 y1 hb1 hb1' Hlt
 cases lt with
 | false =>
  have Ha := Lib.hid (Hans.out w1 Hb1.out)
  go_wp2_with fail
  refine (Ha.out).mono ?_; rintro e w2 ⟨rfl, hb2⟩
  have hfin := (Hst.out w1 Hb1.out).1.trans (hb2.mono (Hst.out w1 Hb1.out).1.size)
  go_wp2
  go_ret
  exact ⟨rfl, hfin⟩
 | true =>
  obtain ⟨V, hV⟩ : ∃ V, w1.alloc (.cells #[.int .i64 0, .int .i64 0, .int .i64 1, .int .i64 0, .int .i64 born, .string tf, .slice ar n1 capr, .slice ab n2 capb, .int .i64 0, .int .i64 0, .int .i64 0, .int .u8 0] 72) = V := ⟨_, rfl⟩
  obtain ⟨g, hgs⟩ : ∃ g, w1.heap.size = g := ⟨_, rfl⟩
  have hbV : Below w1.heap.size w1 V := by rw [← hV]; exact (Below.refl _ _).alloc (Nat.le_refl _) _
  have hBV : Below B W V := Hb1.out.trans (hbV.mono (by have := Hb1.out.size; have := H.out.2.1; omega))
  have hOV : V.heap[g]? = some (.cells (opCells ⟨0, 0, ⟨1, 0, born, frm, rcpts, body⟩, ⟨0, 0, 0⟩, 0, ar, capr, ab, capb⟩).toArray 72 (0, 0)) := by
   unfold opCells
   dsimp only
   rw [htf, hn1, hn2, ← hV, ← hgs]
   exact heap_alloc_new w1 _
  have hlm := light14_calls (.slice (some ⟨g, 0, none⟩) 1 1) _ V (rdO_one hOV)
  obtain ⟨lm, hlm2⟩ : ∃ lm, lightB [⟨0, 0, ⟨1, 0, born, frm, rcpts, body⟩, ⟨0, 0, 0⟩, 0, ar, capr, ab, capb⟩] = lm := ⟨_, rfl⟩
  rw [hlm2] at hlm
  have hgd := fun wr (hb : Below B W wr) => refGood_calls ⟨1, 0, born, frm, rcpts, body⟩ (.slice ar rcpts.length capr) (.slice ab body.length capb) wr (by rw [hn1]; exact (Hst.out wr hb).2.2.2.2.1) (by rw [hn2]; exact (Hst.out wr hb).2.2.2.2.2.1) Ho.out.2.2.2.1.2 Ho.out.2.2.2.1.1
  obtain ⟨gm, hgm⟩ : ∃ gm, (⟨1, 0, born, frm, rcpts, body⟩ : MailD).good = gm := ⟨_, rfl⟩
  unfold mailVal at hgd
  dsimp only at hgd
  rw [hgm, htf, hn1, hn2] at hgd
  have hmk := fun wr => mayMark_calls ⟨kind, rcpt, kn⟩ wr
  obtain ⟨gk, hgk⟩ : ∃ gk, (⟨kind, rcpt, kn⟩ : MarkD).good = gk := ⟨_, rfl⟩
  unfold MarkD.val at hmk
  dsimp only at hmk
  rw [hgk] at hmk
  have Hlm := Lib.hid hlm
  have Hgd := Lib.hid hgd
  have Hmk := Lib.hid hmk
  have HbV := Lib.hid hBV
  have Hg := Lib.hid (And.intro hgm hgk)
  clear hlm hgd hmk hbV hBV hOV hlm2 hgm hgk
  go_wp2_with fail
  refine (Hlm.out).mono ?_; rintro e w2 ⟨rfl, hb2⟩
  have hb2' : Below B W w2 := HbV.out.trans (hb2.mono (by have := HbV.out.size; have := H.out.2.1; omega))
  have Hb2 := Lib.hid hb2'
  obtain ⟨_, ⟨c0, c1, c2, c3, c4, c5⟩, ⟨z0, z1, z2⟩, _⟩ := Hst.out w2 hb2'
  clear hb2 hb2' hV hgs Hlm
  cases lm with
  | false =>
   have Ha := Lib.hid (Hans.out w2 Hb2.out)
   go_wp2_with fail
   refine (Ha.out).mono ?_; rintro e wz ⟨rfl, hbz⟩
   have hfin := (Hst.out w2 Hb2.out).1.trans (hbz.mono (Hst.out w2 Hb2.out).1.size)
   go_wp2
   go_ret
   exact ⟨rfl, hfin⟩
  | true =>
   go_wp2_with fail
   refine (Hgd.out w2 Hb2.out).mono ?_; rintro e w3 ⟨rfl, hb3⟩
   have hb3' : Below B W w3 := Hb2.out.trans (hb3.mono (by have := Hb2.out.size; have := H.out.2.1; omega))
   have Hb3 := Lib.hid hb3'
   obtain ⟨_, ⟨c0, c1, c2, c3, c4, c5⟩, ⟨z0, z1, z2⟩, _⟩ := Hst.out w3 hb3'
   clear hb3 hb3' Hgd
   cases gm with
   | false =>
    have Ha := Lib.hid (Hans.out w3 Hb3.out)
    go_wp2_with fail
    refine (Ha.out).mono ?_; rintro e wz ⟨rfl, hbz⟩
    have hfin := (Hst.out w3 Hb3.out).1.trans (hbz.mono (Hst.out w3 Hb3.out).1.size)
    go_wp2
    go_ret
    exact ⟨rfl, hfin⟩
   | true =>
    go_wp2_with fail
    refine (Hmk.out w3).mono ?_; rintro e w4 ⟨rfl, hb4⟩
    have hb4' : Below B W w4 := Hb3.out.trans (hb4.mono (by have := Hb3.out.size; have := H.out.2.1; omega))
    have Hb4 := Lib.hid hb4'
    clear hb4 hb4' Hmk c0 c1 c2 c3 c4 c5 z0 z1 z2
    cases gk with
    | false =>
     have Ha := Lib.hid (Hans.out w4 Hb4.out)
     go_wp2_with fail
     refine (Ha.out).mono ?_; rintro e wz ⟨rfl, hbz⟩
     have hfin := (Hst.out w4 Hb4.out).1.trans (hbz.mono (Hst.out w4 Hb4.out).1.size)
     go_wp2
     go_ret
     exact ⟨rfl, hfin⟩
    | true =>
     have hnew := new_calls 16777216 w4
     have hroom : roomD 16777216 = 16777216 := by decide
     rw [hroom] at hnew
     have hB4 : B ≤ w4.heap.size := by have := Hb4.out.size; have := H.out.2.1; omega
     have hNB : NG ≤ B := by have := (Hst.out W (Below.refl _ _)).2.2.2.2.2.2.1.size; rw [H.out.2.1] at this; exact this
     have Hnew := Lib.hid hnew
     have HB := Lib.hid (And.intro hB4 hNB)
     clear hnew hroom hB4 hNB
     go_wp2_with fail
     refine (Hnew.out).mono ?_; rintro e w5 ⟨rfl, hF5, hb5⟩
     have hb5' : Below B W w5 := Hb4.out.trans (hb5.mono HB.out.1)
     have hop := open0_calls (w4.heap.size + 2) _ _ w5 hF5 rfl rfl (Hst.out w5 hb5').2.2.2.2.2.2.1
     obtain ⟨f, hf⟩ : ∃ f, w4.heap.size + 2 = f := ⟨_, rfl⟩
     rw [hf] at hop hF5
     rw [hf]
     have Hop := Lib.hid hop
     have H5 := Lib.hid (And.intro hb5' (And.intro hf (Nat.le_trans HB.out.1 hb5.size)))
     clear hop hF5 hb5 hb5' hf
     go_wp2_with fail
     refine (Hop.out).mono ?_; rintro e w6 ⟨s, d, rfl, hA6, ⟨ib, mp, rfl, hib, hmp⟩, hns, hb6⟩
     have hb6' : Below B W w6 := H5.out.1.trans (hb6.mono H5.out.2.2)
     have hS6 := Hst.out w6 hb6'
     obtain ⟨W7, hW7⟩ : ∃ W7, w6.alloc (.cells #[.slice none 0 0, .int .i64 0, .int .i64 0, .int .i64 16777216] 69) = W7 := ⟨_, rfl⟩
     obtain ⟨mb, hmb⟩ : ∃ mb, w6.heap.size = mb := ⟨_, rfl⟩
     have hP : PairR W B s f mb 0 W7 := by
      have hB5 := H5.out.2.2
      obtain ⟨d, ρ, lv, bs, σ, hp⟩ := pair_start (w0 := W) (room := 16777216) HB.out.2 HB.out.1 H5.out.2.1 (by omega) (by omega) (by omega) (Nat.le_refl _) hA6 hS6.2.2.2.2.2.2.1 hS6.2.2.2.2.2.2.2 hb6' (Nat.le_trans hB5 hb6.size) hW7 hmb
      exact ⟨d, ρ, _, lv, bs, σ, hp, rfl⟩
     have HP := Lib.hid hP
     have h60 := lightB_iff H.out.2.2.2.2
     have H60 := Lib.hid h60
     clear hP hA6 hib hmp hns hb6 hb6' hS6 h60 Hop Hnew H5
     go_wp2
     go_loopw [11] (fun i wr => ∃ j : Nat, j ≤ ops.length ∧ i = .int .i64 j ∧ Hid (PairR W B s f mb j wr)) (fun i _ => ops.length - (intOf i).toNat)
     case atStart => exact ⟨0, Nat.zero_le _, rfl, HP⟩
     case round =>
      obtain ⟨j, hj, rfl, hPj⟩ := hrel
      obtain ⟨d, ρ, M, lv, bs, σ, hp, hrm⟩ := hPj.out
      have hS := Hst.out wr hp.bel
      by_cases hlt : j < ops.length
      ·obtain ⟨o, ho⟩ : ∃ o, ops[j]? = some o := ⟨_, List.getElem?_eq_getElem hlt⟩
       have hom := List.mem_of_getElem? ho
       obtain ⟨b, off, cap', hsl, hbl, h3⟩ := RdL.at hS.2.2.2.1 ho
       have hoa : OpArg wr o B := by
        have h1 := ((Ho.out.1 o hom).light (H60.out.2 o hom)).below hS.1
        have h2 : w.heap.size ≤ B := by have := H.out.1.size; have := H.out.2.1; omega
        exact ⟨h1.r, h1.b, h1.nr, h1.nb, fun k e => Nat.lt_of_lt_of_le (h1.own k e) h2, h1.ln, h1.sz, h1.id, h1.pa⟩
       obtain ⟨y0, y1, y2, y3, y4, y5, y6, y7, y8, y9, ya, yb, hoc⟩ : ∃ x0 x1 x2 x3 x4 x5 x6 x7 x8 x9 xa xb, opCells o = [x0, x1, x2, x3, x4, x5, x6, x7, x8, x9, xa, xb] := ⟨_, _, _, _, _, _, _, _, _, _, _, _, rfl⟩
       have hcl : ∀ w', Below B W w' → w'.cell? ⟨b, off + j * 12, none⟩ = some y0 ∧ w'.cell? ⟨b, off + j * 12 + 1, none⟩ = some y1 ∧ w'.cell? ⟨b, off + j * 12 + 2, none⟩ = some y2 ∧ w'.cell? ⟨b, off + j * 12 + 3, none⟩ = some y3 ∧ w'.cell? ⟨b, off + j * 12 + 4, none⟩ = some y4 ∧ w'.cell? ⟨b, off + j * 12 + 5, none⟩ = some y5 ∧ w'.cell? ⟨b, off + j * 12 + 6, none⟩ = some y6 ∧ w'.cell? ⟨b, off + j * 12 + 7, none⟩ = some y7 ∧ w'.cell? ⟨b, off + j * 12 + 8, none⟩ = some y8 ∧ w'.cell? ⟨b, off + j * 12 + 9, none⟩ = some y9 ∧ w'.cell? ⟨b, off + j * 12 + 10, none⟩ = some ya ∧ w'.cell? ⟨b, off + j * 12 + 11, none⟩ = some yb := fun w' h' => by
        obtain ⟨b', off', cap2, hs', _, h⟩ := RdL.at (Hst.out w' h').2.2.2.1 ho
        rw [hsl] at hs'
        cases hs'
        rw [hoc] at h
        exact ⟨h 0 _ rfl, by rw [Nat.add_assoc]; exact h 1 _ rfl, by rw [Nat.add_assoc]; exact h 2 _ rfl, by rw [Nat.add_assoc]; exact h 3 _ rfl, by rw [Nat.add_assoc]; exact h 4 _ rfl, by rw [Nat.add_assoc]; exact h 5 _ rfl, by rw [Nat.add_assoc]; exact h 6 _ rfl, by rw [Nat.add_assoc]; exact h 7 _ rfl, by rw [Nat.add_assoc]; exact h 8 _ rfl, by rw [Nat.add_assoc]; exact h 9 _ rfl, by rw [Nat.add_assoc]; exact h 10 _ rfl, by rw [Nat.add_assoc]; exact h 11 _ rfl⟩
       cases hsl
       have hj0 : (0 : Int) ≤ (j : Int) := by omega
       have hj1 : (j : Int) < (ops.length : Int) := by omega
       have h60 := H60.out.1
       have hdo : Calls Tryz.prog 32 #[.pointer (some ⟨s, 0, none⟩), .agg #[y0, y1, y2, y3, y4, y5, y6, y7, y8, y9, ya, yb]] wr fun e w' => ∃ er id d' ρ', DoDone wr s d ρ o e w' er id d' ρ' := by
        have := do_calls s d ρ o B wr hp.sto (by have := hp.loose; omega) (by rw [hp.same.whr]; unfold whM; rw [List.length_map]; have := hp.mi.n; omega) hoa
        rw [hoc] at this; exact this
       have hbo := fun e w1 er id d1 ρ1 (hD : DoDone wr s d ρ o e w1 er id d1 ρ1) => hp.both (by omega) HB.out.2 hD
       have hmod := fun w1 (hA : MdlAt w1 mb M lv bs σ) (hb : Below wr.heap.size wr w1 ∨ B ≤ w1.heap.size ∧ OpArg w1 o B) => model_calls o B w1 hA (hp.mi.ok (by omega)) (by have := hp.mi.n; omega) (hb.elim (fun h => hoa.below h) (fun h => h.2)) (fun k e => hp.mo k e) (hb.elim (fun h => Nat.le_trans hp.size h.size) (fun h => h.1))
       rw [hoc] at hmod
       have hbl1 := fun e w1 er id d1 ρ1 (hD : DoDone wr s d ρ o e w1 er id d1 ρ1) => hp.bel.trans (hD.step.belB hp.so hp.size)
       have harg := fun w1 (hb : Below B W w1) => (show OpArg w1 o B from by
        have h1 := ((Ho.out.1 o hom).light (H60.out.2 o hom)).below (Hst.out w1 hb).1
        have h2 : w.heap.size ≤ B := by have := H.out.1.size; have := H.out.2.1; omega
        exact ⟨h1.r, h1.b, h1.nr, h1.nb, fun k e => Nat.lt_of_lt_of_le (h1.own k e) h2, h1.ln, h1.sz, h1.id, h1.pa⟩)
       have hrr := (run_room M o).trans hrm
       have Hdo := Lib.hid hdo
       have Hmod := Lib.hid hmod
       have Hcl := Lib.hid hcl
       have Hbo := Lib.hid hbo
       have Hbl := Lib.hid hbl1
       have Harg := Lib.hid harg
       have Hrr := Lib.hid hrr
       obtain ⟨c0, c1, c2, c3, c4, c5, c6, c7, c8, c9, ca, cb⟩ := hcl wr hp.bel
       clear hdo hmod hcl hbo hbl1 harg hrr hp hrm hoa hom ho h3 hoc h60 hPj hS
       go_wp2_with fail
       refine (Hdo.out).mono ?_; rintro e w8 ⟨er, id, d1, ρ1, hD⟩
       have hb8 := Hbl.out _ _ _ _ _ _ hD
       obtain ⟨q1, q2, hA8, hsz8, hnx⟩ := Hbo.out _ _ _ _ _ _ hD
       have hre := hD.ret
       subst hre
       have hm8 := Hmod.out w8 hA8 (.inr ⟨hsz8, Harg.out w8 hb8⟩)
       have Hm8 := Lib.hid hm8
       have Hnx := Lib.hid hnx
       obtain ⟨c0, c1, c2, c3, c4, c5, c6, c7, c8, c9, ca, cb⟩ := Hcl.out w8 hb8
       clear hm8 hnx hA8 hsz8 hD q1 q2 hb8
       go_wp2_with fail
       refine (Hm8.out).mono ?_; rintro e w9 ⟨lv9, bs9, σ9, rfl, hA9, hS9⟩
       have hp9 := Hnx.out _ _ _ _ hA9 hS9
       have HP9 := Lib.hid hp9
       clear hA9 hS9 c0 c1 c2 c3 c4 c5 c6 c7 c8 c9 ca cb hp9
       go_wp2
       go_roundw
       case rel => exact ⟨j + 1, by omega, by simp, Lib.hid ⟨_, _, _, _, _, _, HP9.out, Hrr.out⟩⟩
       case measure => simp [intOf] <;> omega
      ·have hjn : ¬ ((j : Int) < (ops.length : Int)) := by omega
       have h60 := H60.out.1
       have Hp0 := Lib.hid (And.intro hp hrm)
       clear hp hrm hPj hS
       go_wp2_with fail
       refine (one14_calls _).mono ?_; rintro e w8 ⟨vr, vb, rfl, hr8, hbb8, hnr8, hnb8, hor8, hob8, hb8⟩
       have hp8 := Hp0.out.1.below hb8
       have hMA : MailArg w8 s d ρ one14 vr vb := ⟨hr8, hbb8, hnb8, fun k hk => ⟨(hor8 k hk).2, fun g => by have := stoOwn_lt Hp0.out.1.sto.at_ g; have := (hor8 k hk).1; omega⟩, fun k hk => ⟨(hob8 k hk).2, fun g => by have := stoOwn_lt Hp0.out.1.sto.at_ g; have := (hob8 k hk).1; omega⟩, one14_small.lens⟩
       have hcm := commit_calls s d ρ one14 vr vb w8 hp8.sto (by have := hp8.loose; omega) (by rw [hp8.same.whr]; unfold whM; rw [List.length_map]; have := hp8.mi.n; omega) hMA
       have Hcm := Lib.hid hcm
       have Hp8 := Lib.hid hp8
       clear hcm hMA hp8 hr8 hbb8 hnr8 hnb8 hor8 hob8 hb8
       generalize hmv : mailVal one14 vr vb = mv at Hcm ⊢
       clear hmv
       go_wp2_with fail
       refine (Hcm.out).mono ?_; rintro e w9 ⟨er9, id9, d9, ρ9, rfl, hout9, hO9, hT9, hg9⟩
       have hD : DoDone w8 s d ρ oneOp (.returned (.tuple #[.int .i64 id9, .int .i64 er9])) w9 er9 id9 d9 ρ9 := ⟨rfl, .inl ⟨rfl, hout9⟩, hO9, hT9, ⟨hg9.1, by have := hg9.2; omega⟩⟩
       obtain ⟨_, _, hA9, hsz9, hnx9⟩ := Hp8.out.both (by omega) HB.out.2 hD
       have HA9 := Lib.hid hA9
       have Hnx9 := Lib.hid hnx9
       clear hD hA9 hnx9 hout9 hO9 hT9 hg9 Hcm
       go_wp2_with fail
       refine (one14_calls _).mono ?_; rintro e w10 ⟨vr2, vb2, rfl, hr8, hbb8, hnr8, hnb8, hor8, hob8, hb10⟩
       have hMA2 : MdlArg w10 σ one14 vr2 vb2 := ⟨hr8, hbb8, hnr8, hnb8, fun k e => ⟨(hor8 k (liveB_own e)).2, fun g => by have := HA9.out.lt k g; have := (hor8 k (liveB_own e)).1; omega⟩, fun k e => ⟨(hob8 k (liveB_own e)).2, fun g => by have := HA9.out.lt k g; have := (hob8 k (liveB_own e)).1; omega⟩, one14_small.lens⟩
       have hmc := mCommit_calls one14 vr2 vb2 w10 (HA9.out.below hb10) (Hp8.out.mi.ok (by omega)) hMA2
       obtain ⟨M11, hrun, hl11, hrm11⟩ := one_commit Hp8.out.mi (by omega) Hp0.out.2
       have hrun2 : M.commit one14 = M.run oneOp := by unfold ModD.run; exact (if_pos (show oneOp.kind = 1 from rfl)).symm
       rw [hrun2, hrun] at hmc
       have hnx := Hnx9.out
       rw [hrun] at hnx
       have Hmc := Lib.hid hmc
       have Hnx := Lib.hid hnx
       have H11 := Lib.hid (And.intro hl11 (And.intro hrm11 (And.intro Hp0.out.1.mi.last hb10)))
       clear hmc hMA2 hr8 hbb8 hnr8 hnb8 hor8 hob8 hrun hrun2 hnx Hnx9 HA9 hl11 hrm11 hb10 Hp8 Hp0
       generalize hmv : mailVal one14 vr2 vb2 = mv at Hmc ⊢
       clear hmv
       go_wp2_with fail
       refine (Hmc.out).mono ?_; rintro e w11 ⟨lv11, bs11, σ11, rfl, hA11, hS11⟩
       have hp11 := Hnx.out lv11 bs11 σ11 w11 hA11 ((MdlStep.below H11.out.2.2.2).trans hS11)
       clear hA11 hS11
       obtain ⟨al, cl, hlv, hll, hlc⟩ := hp11.mdl.rdl.form
       subst hlv
       obtain ⟨n, hn⟩ : ∃ n, M.list.length = n := ⟨_, rfl⟩
       have hbl : bs11.length = n + 1 := by rw [← List.length_map (f := fun b : BoxV => b.d), hp11.mdl.lst, H11.out.1, List.length_append, List.length_singleton, hn]
       have hx11 : bs11[n]? = some (bs11[n]'(by omega)) := List.getElem?_eq_getElem (by omega)
       generalize bs11[n]'(by omega) = bx at hx11
       have hbx : bx.d = ⟨{ one14 with id := M.last + 1 }, 105, []⟩ := by
        have h1 : (bs11.map (·.d))[n]? = some bx.d := by rw [List.getElem?_map, hx11]; rfl
        rw [hp11.mdl.lst, H11.out.1, ← hn, List.getElem?_append_right (Nat.le_refl _), Nat.sub_self] at h1
        exact (Option.some.inj h1).symm
       obtain ⟨b, off, cap', hsl, hbl', h3⟩ := RdL.at hp11.mdl.rdl hx11
       have k0 := h3 0 _ rfl
       have c0 := hp11.mdl.cells.1
       rw [hsl, hbl] at c0
       rw [Nat.add_zero] at k0
       rw [hbx] at k0
       have hn0 : (0 : Int) ≤ (n : Int) := by omega
       have hn1' : (n : Int) < ((n + 1 : Nat) : Int) := by omega
       have hnl : n ≤ 60 := by have := hp11.mi.n; rw [H11.out.1, List.length_append, List.length_singleton] at this; omega
       have Hp := Lib.hid hp11
       obtain ⟨L, hL⟩ : ∃ L, M.last + 1 = L := ⟨_, rfl⟩
       dsimp only at k0
       rw [hL] at k0
       clear hp11 h3 hx11 hbx hsl hbl' hbl hll hlc
       go_wp2_with fail
       go_quiet (fail)
       obtain ⟨w12, hw12⟩ : ∃ w12, w11.drewN nq = w12 := ⟨_, rfl⟩
       have hb12 : Below w11.heap.size w11 w12 := by rw [← hw12]; exact below_drewN (Below.refl _ _) nq
       rw [hw12]
       have hp12 := Hp.out.below hb12
       have hbs := hp12.beside
       have hus := used_calls f d9.fs ρ9 w12 hbs.fs hp12.sto.ok.n
       have hue : usedD d9.fs = M11.used := by obtain ⟨C, hv, _⟩ := hp12.same.vw; exact hv.used
       rw [hue] at hus
       have hu60 := hp12.mi.used60 (by omega)
       have hbm : ∃ b ∈ M11.list, b.m.id = L := ⟨⟨{ one14 with id := M.last + 1 }, 105, []⟩, by rw [H11.out.1]; exact List.mem_append_right _ (List.mem_singleton.2 rfl), hL⟩
       have hgm : (⟨1, 0, born, frm, rcpts, body⟩ : MailD).good = true := Hg.out.1
       have hgm2 : goodM ⟨1, 0, born, frm, rcpts, body⟩ = true := by
        obtain ⟨_, h2, h3⟩ := (good_iff _).1 hgm
        exact (good_iff _).2 ⟨⟨by show (1 : Int) ≤ 999999999; omega, by show (999999999 : Int) ≤ 999999999; omega⟩, ⟨h2.1, by show (0 : Int) ≤ 999999999 - 1; omega⟩, h3⟩
       have hful := fun er1 id1 d1 (h1 : CommitR (d9.rm M11.used) ⟨1, 0, born, frm, rcpts, body⟩ er1 id1 d1) => ful_plain hp12.same hp12.mi hp12.par (by omega) hgm2 rfl Hg.out.2 hbm h1
       have hok := hp12.mi.ok (by omega)
       have hLb : -9223372036854775808 ≤ L ∧ L ≤ 9223372036854775807 := by have := H11.out.2.2.1; omega
       have hMAg := fun (wx : World) (dx : StoD) (ρx : Rho) (hb : Below B W wx) (hso : ∀ k, stoOwn s dx ρx k → B ≤ k) => (show MailArg wx s dx ρx ⟨1, 0, born, frm, rcpts, body⟩ (.slice ar rcpts.length capr) (.slice ab body.length capb) from by
        have hS := Hst.out wx hb
        have h2 : w.heap.size ≤ B := by have := H.out.1.size; have := H.out.2.1; omega
        have h3 : w.heap.size ≤ wx.heap.size := hS.1.size
        refine ⟨by rw [hn1]; exact hS.2.2.2.2.1, by rw [hn2]; exact hS.2.2.2.2.2.1, Ho.out.2.2.2.2, fun k e => ⟨by have := Ho.out.2.1 k e; omega, fun g => by have := Ho.out.2.1 k e; have := hso k g; omega⟩, fun k e => ⟨by have := Ho.out.2.2.1 k e; omega, fun g => by have := Ho.out.2.2.1 k e; have := hso k g; omega⟩, Ho.out.2.2.2.1⟩)
       have hcmg := fun (wx : World) (dx : StoD) (ρx : Rho) (h : StoOk wx s dx ρx) (hll : dx.fs.loose.length ≤ 800000) (hwl : dx.whr.length ≤ 1000000) (hb : Below B W wx) (hso : ∀ k, stoOwn s dx ρx k → B ≤ k) => commit_calls s dx ρx ⟨1, 0, born, frm, rcpts, body⟩ (.slice ar rcpts.length capr) (.slice ab body.length capb) wx h hll hwl (hMAg wx dx ρx hb hso)
       unfold mailVal at hcmg
       dsimp only at hcmg
       rw [htf, hn1, hn2] at hcmg
       have hmkg := fun (wx : World) (dx : StoD) (ρx : Rho) (h : StoOk wx s dx ρx) (hll : dx.fs.loose.length ≤ 800000) => mark_calls s dx ρx L ⟨kind, rcpt, kn⟩ wx h hll hLb
       unfold MarkD.val at hmkg
       dsimp only at hmkg
       have hwl : d9.whr.length ≤ 1000000 := by rw [hp12.same.whr]; unfold whM; rw [List.length_map]; have := hp12.mi.n; omega
       have Hus := Lib.hid hus
       have Hful := Lib.hid hful
       have Hcmg := Lib.hid hcmg
       have Hmkg := Lib.hid hmkg
       have Hbs := Lib.hid hbs
       have Hok := Lib.hid (And.intro hok (And.intro hLb (And.intro hu60 (And.intro hwl h60))))
       clear hus hful hcmg hmkg hbs hok hMAg hgm hgm2 hbm hue hp12 hb12 hw12 Hp c0 k0 hn0 hn1' hLb hL hu60 hwl h60 hnl
       go_wp2_with fail
       refine (Hus.out).mono ?_; rintro e w13 ⟨rfl, hb13⟩
       have hbs13 := Hbs.out.below hb13
       have hro := room_calls f d9.fs ρ9 (M11.used : Int) w13 hbs13.fs
       rw [show roomD (M11.used : Int) = (M11.used : Int) from by unfold roomD; have := Hok.out.2.2.1; omega] at hro
       have Hro := Lib.hid hro
       have Hbs13 := Lib.hid hbs13
       clear hb13 hro hbs13 Hus
       go_wp2_with fail
       refine (Hro.out).mono ?_; rintro e w14 ⟨rfl, hF14, hk14⟩
       have hbs14 := Hbs13.out.room HB.out.2 (by have := Hok.out.2.2.1; omega) hF14 hk14
       have hcm := Hcmg.out w14 _ ρ9 hbs14.sto (by have := hbs14.loose; have := Hok.out.2.2.2.2; omega) Hok.out.2.2.2.1 hbs14.bel hbs14.so
       have Hcm := Lib.hid hcm
       have Hbs14 := Lib.hid hbs14
       obtain ⟨_, ⟨c0, c1, c2, c3, c4, c5⟩, _⟩ := Hst.out w14 hbs14.bel
       clear hcm hbs14 hF14 hk14 Hro Hbs13 Hbs
       go_wp2_with fail
       refine (Hcm.out).mono ?_; rintro e w15 ⟨er15, id15, d15, ρ15, rfl, hout15, hO15, hT15, hg15⟩
       obtain ⟨rfl, hful2⟩ := Hful.out _ _ _ hout15
       have hbs15 := Hbs14.out.step hO15 hT15 hout15.fb hg15
       have hmk := Hmkg.out w15 d15 ρ15 hbs15.sto (by have := hbs15.loose; have := Hok.out.2.2.2.2; omega)
       have Hmk := Lib.hid hmk
       have Hful2 := Lib.hid hful2
       have Hbs15 := Lib.hid hbs15
       obtain ⟨_, _, ⟨z0, z1, z2⟩, _⟩ := Hst.out w15 hbs15.bel
       clear hmk hful2 hbs15 hout15 hO15 hT15 hg15 Hcm Hbs14 Hful c0 c1 c2 c3 c4 c5
       go_wp2_with fail
       refine (Hmk.out).mono ?_; rintro e w16 ⟨er16, d16, ρ16, rfl, hout16, hO16, hT16, hg16⟩
       obtain ⟨rfl, hlk16, hwl16, hful3⟩ := Hful2.out _ _ hout16
       have hbs16 := Hbs15.out.step hO16 hT16 hout16.fb hg16
       have halk := alike_calls w16 hbs16.sto (by omega) hbs16.mdl Hok.out.1 hlk16
       have Halk := Lib.hid halk
       have Hful3 := Lib.hid hful3
       have Hbs16 := Lib.hid (And.intro hbs16 hwl16)
       clear halk hful3 hbs16 hout16 hO16 hT16 hg16 Hmk Hbs15 Hful2 z0 z1 z2 hlk16 hwl16
       go_wp2_with fail
       refine (Halk.out).mono ?_; rintro e w17 ⟨rfl, hb17⟩
       have hbs17 := Hbs16.out.1.below hb17
       have hro := room_calls f d16.fs ρ16 16777216 w17 hbs17.fs
       rw [show roomD 16777216 = 16777216 from by decide] at hro
       have Hro := Lib.hid hro
       have Hbs17 := Lib.hid hbs17
       clear hb17 hro hbs17 Halk
       go_wp2_with fail
       refine (Hro.out).mono ?_; rintro e w18 ⟨rfl, hF18, hk18⟩
       have hbs18 := Hbs17.out.room HB.out.2 (by omega) hF18 hk18
       have hcm := Hcmg.out w18 _ ρ16 hbs18.sto (by have := hbs18.loose; have := Hok.out.2.2.2.2; omega) (by show d16.whr.length ≤ _; have := Hbs16.out.2; omega) hbs18.bel hbs18.so
       have Hcm := Lib.hid hcm
       have Hbs18 := Lib.hid hbs18
       obtain ⟨_, ⟨c0, c1, c2, c3, c4, c5⟩, _⟩ := Hst.out w18 hbs18.bel
       clear hcm hbs18 hF18 hk18 Hro Hbs17 Hbs16
       go_wp2_with fail
       refine (Hcm.out).mono ?_; rintro e w19 ⟨er19, id19, d19, ρ19, rfl, hout19, hO19, hT19, hg19⟩
       obtain ⟨rfl, hid1, hid2, hwl19, hful4⟩ := Hful3.out _ _ _ hout19
       have hbs19 := Hbs18.out.step hO19 hT19 hout19.fb hg19
       have Ha := Lib.hid (Hans.out w19 hbs19.bel)
       have Hful4 := Lib.hid hful4
       have Hbs19 := Lib.hid (And.intro hbs19 hid2)
       clear hful4 hbs19 hout19 hO19 hT19 hg19 Hcm Hbs18 Hful3 c0 c1 c2 c3 c4 c5 hwl19 hid2
       go_wp2_with fail
       refine (Ha.out).mono ?_; rintro e w20 ⟨rfl, hb20⟩
       have hbs20 := Hbs19.out.1.below hb20
       have hmk := Hmkg.out w20 d19 ρ19 hbs20.sto (by have := hbs20.loose; have := Hok.out.2.2.2.2; omega)
       have Hmk := Lib.hid hmk
       have Hbs20 := Lib.hid hbs20
       obtain ⟨_, _, ⟨z0, z1, z2⟩, _⟩ := Hst.out w20 hbs20.bel
       clear hmk hbs20 hb20 Ha
       go_wp2_with fail
       refine (Hmk.out).mono ?_; rintro e w21 ⟨er21, d21, ρ21, rfl, hout21, hO21, hT21, hg21⟩
       obtain ⟨rfl, hat⟩ := Hful4.out _ _ hout21
       have hbs21 := Hbs20.out.step hO21 hT21 hout21.fb hg21
       have hwh := where_calls s d21 ρ21 w21 hbs21.sto.at_ id19 (by have := Hok.out.2.1; have := Hbs19.out.2; omega)
       rw [hat] at hwh
       have Hwh := Lib.hid hwh
       have Hbs21 := Lib.hid hbs21
       clear hwh hbs21 hout21 hO21 hT21 hg21 Hmk Hbs20 Hful4 z0 z1 z2 hat
       go_wp2_with fail
       refine (Hwh.out).mono ?_; rintro e w22 ⟨rfl, hb22⟩
       have hfin := Hbs21.out.bel.trans (hb22.mono Hbs21.out.size)
       have hfin2 := (Hst.out w22 hfin).1
       clear hb22 hfin
       go_wp2
       go_ret
       exact ⟨rfl, hfin2⟩
end Go.Proofs.YtffnbkmigapmjaaGreatDoor
