/-
  The body of the law StoreTorn.
-/
import Derived.Test.YtffnbkmigapmjaaGreatDoorT42
import Derived.Test.YtffnbkmigapmjaaGreatDoorT43
import Derived.Test.YtffnbkmigapmjaaGreatDoorT44
set_option linter.unusedSimpArgs false
set_option linter.unusedVariables false
set_option maxRecDepth 100000
namespace Go.Proofs.YtffnbkmigapmjaaGreatDoor
open Go.RowKit Go.Maps
/-- The store in memory, behind some marks. -/
def TorI (W : World) (B s f : Nat) (ks : List MarkD) (wr : World) : Prop :=
  ∃ d ρ, Torn1 d ks ∧ StoOk wr s d ρ ∧ d.fb = f ∧ (∀ k, stoOwn s d ρ k → B ≤ k) ∧ Below B W wr ∧ B ≤ wr.heap.size
/-- A store's disk is another one. -/
theorem StoAt.other_fs {w w' : World} {s : Nat} {d : StoD} {ρ : Rho} {fs : FsD} (h : StoAt w s d ρ) (hf : FsAt w' d.fb fs ρ) (hk : Keeps (fun k => k = d.fb) w w') : StoAt w' s { d with fs := fs } ρ := by
  have hn : ∀ {j : Nat}, ρ j = none → j ≠ d.fb := fun hj e => by
    have := h.fs.role
    rw [← e, hj] at this; cases this
  exact ⟨hf, hk.heap h.hd (hn h.rs), hk.heap h.ids (hn h.ri), whMap_keeps h.whr hk (hn h.rm), h.rs, h.ri, h.rm⟩
/-- A file that was read, with its marks. -/
theorem tor_file {m : MailD} {ks : List MarkD} {G : Nat} {w : World} {e : Ending} {w' : World} (h : FileRes w (some ⟨m, ks, G⟩) e w') :
    ∃ (m0 m1 m2 : Int) (m3 : ByteArray) (u1 : Option Addr) (n1 k1 : Nat) (u2 : Option Addr) (n2 k2 : Nat) (am : Option Addr) (cm : Nat) (gd : Int), e = .returned (.tuple #[.agg #[.int .i64 m0, .int .i64 m1, .int .i64 m2, .string m3, .slice u1 n1 k1, .slice u2 n2 k2, .slice am ks.length cm, .int .i64 gd], .bool true]) ∧
      w'.ownsRow w.heap.size 53 3 (.slice am ks.length cm) ks.length (ks.flatMap MarkD.cells) ∧ Below w.heap.size w w' := by
  obtain ⟨vr, vb, vm, he, h1, h2, h3, hb⟩ := h
  have h3 : w'.ownsRow w.heap.size 53 3 vm ks.length (ks.flatMap MarkD.cells) := h3
  obtain ⟨ar, cr, rfl⟩ := own_form0 h1
  obtain ⟨ab, cb, rfl⟩ := own_form0 h2
  obtain ⟨am, cm, rfl⟩ := own_form0 h3
  exact ⟨_, _, _, _, ar, _, cr, ab, _, cb, am, cm, _, he, h3, hb⟩
theorem tor_row {w : World} {base : Nat} {a : Option Addr} {c : Nat} {ks : List MarkD} {k0 k : MarkD} (hk : k0 = k) (h : w.ownsRow base 53 3 (.slice a (ks.length + [k0].length) c) (ks.length + [k0].length) (ks.flatMap MarkD.cells ++ [k0].flatMap MarkD.cells)) : RdM w (.slice a (ks.length + [k0].length) c) (ks ++ [k]) := by
  subst hk
  refine rdL_ofOwn (base := base) (n := ks.length + [k0].length) (e := 53) mark_len (by decide) ?_
  rw [List.flatMap_append]; exact h
set_option maxHeartbeats 32000000 in
theorem storeTorn_calls (vm : Value) (ks : List MarkD) (nb : Nat) (k : MarkD) (w : World) (hm : RdM w vm ks) (hnm : NilOk vm) (hnb : nb ≤ 255) (hg : GOk w) (hmax : MaxOk w) :
    Calls Tryz.prog 5 #[vm, .int .u8 nb, k.val] w fun e w' => e = .returned (.bool true) ∧ Below w.heap.size w w' := by
  obtain ⟨am, capm, rfl, hlm, hcm⟩ := hm.form
  obtain ⟨i0, hi, hz0, hz1, hz2⟩ := info_parts infoMark
  obtain ⟨kind, rcpt, nn⟩ := k
  obtain ⟨kq, hkq⟩ : ∃ kq : MarkD, MarkD.mk kind rcpt nn = kq := ⟨_, rfl⟩
  obtain ⟨W, hW⟩ : ∃ W, w.alloc (.cells #[.int .i64 kind, .int .i64 rcpt, .int .i64 nn] 53) = W := ⟨_, rfl⟩
  have hbW : Below w.heap.size w W := by rw [← hW]; exact (Below.refl _ _).alloc (Nat.le_refl _) _
  have hK : W.heap[w.heap.size]? = some (.cells #[.int .i64 kind, .int .i64 rcpt, .int .i64 nn] 53 (0, 0)) := by rw [← hW]; exact heap_alloc_new w _
  obtain ⟨B, hB⟩ : ∃ B, W.heap.size = B := ⟨_, rfl⟩
  obtain ⟨K, hKe⟩ : ∃ K, w.heap.size = K := ⟨_, rfl⟩
  rw [hKe] at hK
  -- what stays in each world beside the disk
  have hst : ∀ wr, Below B W wr → Below w.heap.size w wr ∧ (wr.cell? ⟨K, 0, none⟩ = some (.int .i64 kind) ∧ wr.cell? ⟨K, 1, none⟩ = some (.int .i64 rcpt) ∧ wr.cell? ⟨K, 2, none⟩ = some (.int .i64 nn)) ∧ RdM wr (.slice am ks.length capm) ks ∧ GOk wr ∧ MaxOk wr := fun wr hb => by
    rw [← hB] at hb
    have h0 := hbW.trans (hb.mono hbW.size)
    have hk := (hb.block _ (Array.getElem?_eq_some_iff.1 hK).1).trans hK
    exact ⟨h0, ⟨by rw [cell_of_row _ _ _ _ _ _ hk]; rfl, by rw [cell_of_row _ _ _ _ _ _ hk]; rfl, by rw [cell_of_row _ _ _ _ _ _ hk]; rfl⟩, hm.below (Nat.le_refl _) h0, hg.below h0, hmax.below h0⟩
  have hans := fun w1 (hb : Below B W w1) => answers14_calls w1 (hst w1 hb).2.2.2.1 (hst w1 hb).2.2.2.2
  have hnew := new_calls 16777216 W
  have hroom : roomD 16777216 = 16777216 := by decide
  rw [hroom, hB] at hnew
  obtain ⟨f, hf⟩ : ∃ f, B + 2 = f := ⟨_, rfl⟩
  rw [hf] at hnew
  have hmay := fun w1 => mayMark_calls kq w1
  have hBw : w.heap.size ≤ B := by rw [← hB]; exact hbW.size
  have Hnew := Lib.hid hnew
  have Hst := Lib.hid hst
  have Hans := Lib.hid hans
  have Hmay := Lib.hid hmay
  have Hf := Lib.hid (And.intro hf (And.intro hBw (And.intro hB (And.intro hbW hkq))))
  have Hnm := Lib.hid hnm
  clear hnew hroom hst hans hmay hf hBw hB hbW hK hm hg hmax hnm hkq
  go_enter Tryz.func5, Tryz.ntmps5
  go_wp2_with fail
  try rw [hKe]
  try rw [hW]
  refine (Hnew.out).mono ?_; rintro e w1 ⟨rfl, hF1, hb1⟩
  have hb1' : Below B W w1 := hb1
  have hop := open0_calls f _ _ w1 hF1 rfl rfl (Hst.out w1 hb1').2.2.2.1
  have Hop := Lib.hid hop
  have H1 := Lib.hid (And.intro hF1 hb1')
  clear hop hF1 hb1 hb1' hW
  go_wp2_with fail
  refine (Hop.out).mono ?_; rintro e w2 ⟨s, d, rfl, hA2, ⟨ib, mb, rfl, hib, hmb⟩, hns, hb2⟩
  have hB1 : B ≤ w1.heap.size := by rw [← Hf.out.2.2.1]; exact (show Below B W w1 from H1.out.2).size
  have hb2' : Below B W w2 := H1.out.2.trans (hb2.mono hB1)
  have hS2 := Hst.out w2 hb2'
  have hO2 : StoOk w2 s ⟨newD B 16777216, f, ib, mb, 0, 0, [], [], false⟩ (newRho B) := by
    refine ⟨hA2, ⟨by show (-1 : Int) ≤ -1; omega, by show (-1 : Int) ≤ _; omega, by show 0 ≤ 256; omega, by show (0 : Int) ≤ 16777216; omega, by show (16777216 : Int) ≤ _; omega⟩, hS2.2.2.2.1, hS2.2.2.2.2, fun k hk => ?_, by show (0 : Int) ≤ 0 ∧ (0 : Int) ≤ 999999999; omega, by show 0 ≤ 1000; omega⟩
    have h0 := (Hst.out W (Below.refl _ _)).2.2.2.1.size
    rw [Hf.out.2.2.1] at h0
    rcases hk with e | e | e | e
    · have := newRho_has e; omega
    · omega
    · have : k = ib := e; omega
    · have : k = mb := e; omega
  have hown : ∀ k, stoOwn s ⟨newD B 16777216, f, ib, mb, 0, 0, [], [], false⟩ (newRho B) k → B ≤ k := fun k hk => by
    rcases hk with e | e | e | e
    · exact (newRho_has e).1
    · omega
    · have : k = ib := e; omega
    · have : k = mb := e; omega
  have hone := one14_calls w2
  have Hone := Lib.hid hone
  have H2 := Lib.hid (And.intro hO2 (And.intro hb2' (And.intro hown (Nat.le_trans hB1 hb2.size))))
  clear hone hO2 hb2' hA2 hib hmb hns hb2 hown hB1 hS2 H1
  go_wp2_with fail
  refine (Hone.out).mono ?_; rintro e w3 ⟨vr, vb, rfl, hr3, hb3, hnr, hnb3, hor, hob, hbl3⟩
  have hO3 := H2.out.1.below hbl3
  have hMA : MailArg w3 s ⟨newD B 16777216, f, ib, mb, 0, 0, [], [], false⟩ (newRho B) one14 vr vb :=
    ⟨hr3, hb3, hnb3, fun k hk => ⟨(hor k hk).2, fun g => by have := stoOwn_lt H2.out.1.at_ g; have := (hor k hk).1; omega⟩, fun k hk => ⟨(hob k hk).2, fun g => by have := stoOwn_lt H2.out.1.at_ g; have := (hob k hk).1; omega⟩, one14_small⟩
  have hcm := commit_calls s _ _ one14 vr vb w3 hO3 (by show 0 ≤ 800000; omega) (by show 0 ≤ 1000000; omega) hMA
  have Hcm := Lib.hid hcm
  have H3 := Lib.hid (And.intro hO3 (H2.out.2.1.trans (hbl3.mono H2.out.2.2.2)))
  clear hcm hMA hO3 hr3 hb3 hnr hnb3 hor hob
  generalize hmv : mailVal one14 vr vb = mv at Hcm ⊢
  clear hmv
  go_wp2_with fail
  refine (Hcm.out).mono ?_; rintro e w4 ⟨er, id, d, ρ, rfl, hout, hO4, hT4, hg4⟩
  obtain ⟨rfl, rfl, ht4, hfb4⟩ := torn_commit hout
  have hB3 : B ≤ w3.heap.size := Nat.le_trans H2.out.2.2.2 hbl3.size
  have hI4 : TorI W B s f [] w4 := ⟨d, ρ, ht4, hO4, hfb4, fun k hk => by
    rcases hT4.grow k hk with e | e
    · exact H2.out.2.2.1 k e
    · omega, H3.out.2.trans (hT4.belB H2.out.2.2.1 hB3), Nat.le_trans hB3 hT4.keeps.size⟩
  have HI4 := Lib.hid hI4
  clear hI4 hB3 hout hO4 hT4 hg4 ht4 hfb4 hbl3 H3 H2 Hone Hcm Hop
  go_wp2
  go_loopw [10] (fun i wr => ∃ j : Nat, j ≤ ks.length ∧ i = .int .i64 j ∧ Hid ((∀ x ∈ ks.take j, x.good = true) ∧ (0 < j → ks.length ≤ 30) ∧ TorI W B s f (ks.take j) wr)) (fun i _ => ks.length - (intOf i).toNat)
  case atStart => exact ⟨0, Nat.zero_le _, rfl, Lib.hid ⟨fun x hx => by simp at hx, fun e => by omega, by simpa using HI4.out⟩⟩
  case round =>
    obtain ⟨j, hj, rfl, hP⟩ := hrel
    by_cases hlt : j < ks.length
    · obtain ⟨k', hk'⟩ : ∃ k', ks[j]? = some k' := ⟨_, List.getElem?_eq_getElem hlt⟩
      have hbw : Below B W wr := by obtain ⟨d, ρ, _, _, _, _, h, _⟩ := hP.out.2.2; exact h
      obtain ⟨b, off, cap', hsl, hbl', y0, y1, y2⟩ := RdL.at3 (Hst.out wr hbw).2.2.1 hk'
      cases hsl
      have hj0 : (0 : Int) ≤ (j : Int) := by omega
      have hj1 : (j : Int) < (ks.length : Int) := by omega
      by_cases hbig : (30 : Int) < (ks.length : Int)
      · have Ha := Lib.hid (Hans.out wr hbw)
        have Hb := Lib.hid (And.intro (Hst.out wr hbw).1 Hf.out.2.1)
        clear hbw
        go_wp2_with fail
        refine (Ha.out).mono ?_; rintro e w5 ⟨rfl, hb5⟩
        go_wp2
        go_ret
        exact ⟨rfl, Hb.out.1.trans (hb5.mono Hb.out.1.size)⟩
      · have hts := take_snoc hk'
        have hmk := mayMark_calls k' wr
        obtain ⟨gk, hgk⟩ : ∃ gk, k'.good = gk := ⟨_, rfl⟩
        rw [hgk] at hmk
        cases gk with
        | false =>
          have hmk2 := fun w1 => mayMark_calls k' w1
          rw [hgk] at hmk2
          obtain ⟨kd, rc, n'⟩ := k'
          simp only at y0 y1 y2
          have Hmk := Lib.hid hmk
          have Hmk2 := Lib.hid hmk2
          have Hrd : Hid (∀ w1, Below wr.heap.size wr w1 → w1.cell? ⟨b, off + 3 * j, none⟩ = w1.cell? ⟨b, off + 3 * j, none⟩) := Lib.hid (fun _ _ => rfl)
          have Hb := Lib.hid (And.intro hbw (And.intro hk' hj))
          clear hmk hmk2 hts hbw hgk
          go_wp2_with fail
          refine (Hmk.out).mono ?_; rintro e w5 ⟨rfl, hb5⟩
          have hb5' : Below B W w5 := Hb.out.1.trans (hb5.mono (by obtain ⟨d, ρ, _, _, _, _, _, h⟩ := hP.out.2.2; exact h))
          have Ha := Lib.hid (Hans.out w5 hb5')
          have Hb5 := Lib.hid hb5'
          clear hb5 hb5' y0 y1 y2
          go_wp2_with fail
          refine (Ha.out).mono ?_; rintro e w6 ⟨rfl, hb6⟩
          have hB5 : B ≤ w5.heap.size := by rw [← Hf.out.2.2.1]; exact (show Below W.heap.size W w5 by rw [Hf.out.2.2.1]; exact Hb5.out).size
          have hb6' : Below B W w6 := Hb5.out.trans (hb6.mono hB5)
          obtain ⟨b2, off2, cap2, hsl2, hbl2, y0, y1, y2⟩ := RdL.at3 (Hst.out w6 hb6').2.2.1 Hb.out.2.1
          cases hsl2
          simp only at y0 y1 y2
          have Hb6 := Lib.hid (Hst.out w6 hb6').1
          clear hb6 hb6' hB5
          go_wp2_with fail
          refine (Hmk2.out _).mono ?_; rintro e w7 ⟨rfl, hb7⟩
          go_wp2
          go_ret
          exact ⟨rfl, Hb6.out.trans (hb7.mono Hb6.out.size)⟩
        | true =>
          have hgd' : ∀ x ∈ ks.take (j + 1), x.good = true := by
            intro x hx
            rw [hts] at hx
            rcases List.mem_append.1 hx with hx | hx
            · exact hP.out.1 x hx
            · rw [List.mem_singleton.1 hx, hgk]
          have Hgd := Lib.hid (And.intro hgd' (And.intro hts hgk))
          obtain ⟨kk, hkk⟩ : ∃ kk, kk = k' := ⟨_, rfl⟩
          rw [← hkk] at Hgd
          have Hkk := Lib.hid hkk
          obtain ⟨kd, rc, n'⟩ := k'
          simp only at y0 y1 y2
          have Hmk := Lib.hid hmk
          have Hb := Lib.hid (And.intro hbw hk')
          clear hmk hts hbw hgk hkk hgd' hk'
          go_wp2_with fail
          refine (Hmk.out).mono ?_; rintro e w5 ⟨rfl, hb5⟩
          obtain ⟨d, ρ, t1, t2, t3, t4, t5, t6⟩ := hP.out.2.2
          have hO5 := t2.below hb5
          have hmc := mark_calls s d ρ 1 kk w5 hO5 (by rw [t1.loose]; show 0 ≤ 800000; omega) (by decide)
          rw [Hkk.out] at hmc
          have Hmc := Lib.hid hmc
          have Ht := Lib.hid (And.intro t1 (And.intro t3 (And.intro t4 (And.intro (t5.trans (hb5.mono t6)) (Nat.le_trans t6 hb5.size)))))
          have y0' := (hb5.cell hbl').trans y0
          have y1' := (hb5.cell hbl').trans y1
          have y2' := (hb5.cell hbl').trans y2
          clear hmc t1 t2 t3 t4 t5 t6 hO5 hb5 y0 y1 y2
          go_wp2_with fail
          refine (Hmc.out).mono ?_; rintro e w6 ⟨er, d6, ρ6, rfl, hout, hO6, hT6, hg6⟩
          have hl30 : ks.length ≤ 30 := by omega
          obtain ⟨rfl, ht6, hfb6⟩ := torn_mark (ks := ks.take j) Ht.out.1 (by have := Hgd.out.2.2; rw [Hkk.out] at this; exact this) (by rw [List.length_take]; omega) hout
          have hI6 : TorI W B s f (ks.take (j + 1)) w6 := by
            refine ⟨d6, ρ6, ?_, hO6, hfb6.trans Ht.out.2.1, fun k hk => ?_, Ht.out.2.2.2.1.trans (hT6.belB Ht.out.2.2.1 Ht.out.2.2.2.2), Nat.le_trans Ht.out.2.2.2.2 hT6.keeps.size⟩
            · rw [Hgd.out.2.1, Hkk.out]; exact ht6
            · rcases hT6.grow k hk with e | e
              · exact Ht.out.2.2.1 k e
              · have := Ht.out.2.2.2.2; omega
          have HI6 := Lib.hid hI6
          clear hI6 ht6 hfb6 hout hO6 hT6 hg6
          go_wp2
          go_roundw
          case rel => exact ⟨j + 1, by omega, by simp, Lib.hid ⟨Hgd.out.1, fun _ => hl30, HI6.out⟩⟩
          case measure => simp [intOf] <;> omega
    · have hje : j = ks.length := by omega
      subst hje
      have hP' := hP.out
      rw [List.take_of_length_le (Nat.le_refl _)] at hP'
      obtain ⟨hgood, h30, hI⟩ := hP'
      have hl30 : ks.length ≤ 30 := by
        by_cases h0 : 0 < ks.length
        · exact h30 h0
        · omega
      obtain ⟨d, ρ, t1, t2, t3, t4, t5, t6⟩ := hI
      obtain ⟨x0, x1, x2⟩ := (Hst.out wr t5).2.1
      have hmk := Hmay.out wr
      obtain ⟨gk, hgk⟩ : ∃ gk, kq.good = gk := ⟨_, rfl⟩
      rw [hgk] at hmk
      have Ht := Lib.hid (And.intro t1 (And.intro t2 (And.intro t3 (And.intro t4 (And.intro t5 t6)))))
      have Hq := Lib.hid (And.intro hgood (And.intro hl30 hgk))
      clear hgood h30 hl30 t1 t2 t3 t4 t5 t6 hgk hP
      have hmk' : Calls Tryz.prog 26 #[.agg #[.int .i64 kind, .int .i64 rcpt, .int .i64 nn]] wr fun e w' => e = .returned (.bool gk) ∧ Below wr.heap.size wr w' := by
        have := hmk
        rw [← Hf.out.2.2.2.2] at this
        exact this
      have Hmk := Lib.hid hmk'
      clear hmk hmk'
      go_wp2_with fail
      refine (Hmk.out).mono ?_; rintro e w5 ⟨rfl, hb5⟩
      obtain ⟨t1, t2, t3, t4, t5, t6⟩ := Ht.out
      have hb5' := t5.trans (hb5.mono t6)
      cases gk with
      | false =>
        have Ha := Lib.hid (Hans.out w5 hb5')
        have Hb := Lib.hid (Hst.out w5 hb5').1
        clear t1 t2 t3 t4 t5 t6 hb5 hb5' x0 x1 x2
        go_wp2_with fail
        refine (Ha.out).mono ?_; rintro e w6 ⟨rfl, hb6⟩
        go_wp2
        go_ret
        exact ⟨rfl, Hb.out.trans (hb6.mono Hb.out.size)⟩
      | true =>
        have hO5 := t2.below hb5
        have hfu := fuse_calls f d.fs ρ 1 w5 (by have := hO5.at_.fs; rw [t3] at this; exact this)
        have Hfu := Lib.hid hfu
        have H5 := Lib.hid (And.intro hO5 (And.intro hb5' (Nat.le_trans t6 hb5.size)))
        clear hfu hO5 hb5 hb5' t1 t2 t3 t4 t5 t6 x0 x1 x2
        go_wp2_with fail
        refine (Hfu.out).mono ?_; rintro e w6 ⟨rfl, hF6, hk6⟩
        obtain ⟨t1, t2, t3, t4, t5, t6⟩ := Ht.out
        obtain ⟨hO5, hb5', hB5⟩ := H5.out
        have hA6 : StoAt w6 s { d with fs := { d.fs with fuse := max 1 0 } } ρ := hO5.at_.other_fs (by rw [t3]; exact hF6) (by rw [t3]; exact hk6)
        have hfB : B ≤ f := t4 f (.inl (Rho.has_of hF6.role))
        have hb56 : Below B w5 w6 := hk6.below (fun i e => by rw [e]; exact hfB) hB5
        have hb6' := hb5'.trans hb56
        have hO6 : StoOk w6 s { d with fs := { d.fs with fuse := max 1 0 } } ρ := ⟨hA6, ⟨by show (-1 : Int) ≤ max 1 0; decide, by show (max 1 0 : Int) ≤ _; decide, hO5.ok.n, hO5.ok.r0, hO5.ok.r1⟩, (Hst.out w6 hb6').2.2.2.1, (Hst.out w6 hb6').2.2.2.2, hO5.own, hO5.last, hO5.nf⟩
        have hmc := mark_calls s _ ρ 1 kq w6 hO6 (by show d.fs.loose.length ≤ 800000; rw [t1.loose]; show 0 ≤ 800000; omega) (by decide)
        rw [← Hf.out.2.2.2.2] at hmc
        have Hmc := Lib.hid hmc
        obtain ⟨x0, x1, x2⟩ := (Hst.out w6 hb6').2.1
        have H6 := Lib.hid (And.intro hO6 (And.intro hb6' (Nat.le_trans hB5 hb56.size)))
        clear hmc hO6 hb6' hfB hb56 hA6 hO5 hb5' hB5 hF6 hk6 t1 t2 t3 t4 t5 t6
        go_wp2_with fail
        refine (Hmc.out).mono ?_; rintro e w7 ⟨er, d7, ρ7, rfl, hout, hO7, hT7, hg7⟩
        rw [Hf.out.2.2.2.2] at hout
        obtain ⟨rfl, hfb7, hpl7, hlo7, hcr7⟩ := torn_down (ks := ks) Ht.out.1 Hq.out.2.2 (by have := Hq.out.2.1; omega) hout
        have hfb7 := hfb7.trans Ht.out.2.2.1
        obtain ⟨hO6, hb6', hB6⟩ := H6.out
        have ho6 : ∀ k, stoOwn s { d with fs := { d.fs with fuse := max 1 0 } } ρ k → B ≤ k := fun k hk => Ht.out.2.2.2.1 k hk
        have hb7' := hb6'.trans (hT7.belB ho6 hB6)
        have hρ7 : ∀ k, ρ7.has k → B ≤ k := fun k hk => by
          rcases hT7.grow k (.inl hk) with e | e
          · exact ho6 k e
          · omega
        have hF7 := hO7.at_.fs
        rw [hfb7] at hF7
        have hc0 : cutNat 0 d7.fs.loose.length = 0 := by rw [hlo7]; rfl
        have hcc := crash_calls f d7.fs ρ7 0 (nb : Int) w7 hF7 (by rw [hc0]; exact hpl7) (by omega) (by omega)
        rw [hc0, show ((nb : Int)).toNat = nb by omega] at hcc
        have Hcc := Lib.hid hcc
        have H7 := Lib.hid (And.intro hcr7 (And.intro hb7' (And.intro hρ7 (Nat.le_trans hB6 hT7.keeps.size))))
        have hnb0 : (0 : Int) ≤ (nb : Int) := by omega
        have hnb1 : (nb : Int) ≤ 255 := by omega
        clear hcc hcr7 hb7' hρ7 hO6 hb6' hB6 ho6 hF7 hc0 hfb7 hpl7 hlo7 hout hO7 hT7 hg7 x0 x1 x2
        go_wp2_with fail
        refine (Hcc.out).mono ?_; rintro e w8 ⟨fs8, ρ8, rfl, hcr8, hF8, hT8⟩
        obtain ⟨hcr7, hb7', hρ7, hB7⟩ := H7.out
        have h28 := hcr7 nb fs8 hcr8
        obtain ⟨hb78, hρ8⟩ := hT8.bel hρ7 hB7
        have hb8' := hb7'.trans hb78
        have hS8 := Hst.out w8 hb8'
        have hNG : NG ≤ B := by
          have := (Hst.out W (Below.refl _ _)).2.2.2.1.size
          rw [Hf.out.2.2.1] at this; exact this
        have hvw : Up fs8 := by obtain ⟨C, U, hv, _⟩ := h28; exact hv.up
        have hoc := open_calls f fs8 ρ8 w8 hF8 hvw.ok hvw.down (two_nm h28) (by rw [hcr8.loose]; show 0 ≤ 500000; omega) (fun k hk => Nat.le_trans hNG (hρ8 k hk)) hS8.2.2.2.1 hS8.2.2.2.2
        have Hoc := Lib.hid hoc
        have H8 := Lib.hid (And.intro h28 (And.intro hb8' (And.intro hρ8 (And.intro (Nat.le_trans hB7 hb78.size) hNG))))
        have Hlo8 : Hid (fs8.loose.length = 0) := Lib.hid (by rw [hcr8.loose]; rfl)
        clear hoc h28 hb8' hρ8 hS8 hNG hvw hb78 hcr7 hb7' hρ7 hB7 hcr8 hF8 hT8
        go_wp2_with fail
        refine (Hoc.out).mono ?_; rintro e w9 ⟨er, t, d9, ρ9, hdone⟩
        obtain ⟨ib9, mb9, ss9, hs9, hr9⟩ := hdone.out
        obtain ⟨h28, hb8', hρ8, hB8, hNG⟩ := H8.out
        obtain ⟨rfl, hw9, hd9, h29⟩ := torn_open h28 Hq.out.1 Hq.out.2.2 (by have := Hq.out.2.1; omega) hs9 hr9
        have hret : e = .returned (.tuple #[.pointer (some ⟨t, 0, none⟩), .int .i64 0]) := by
          rcases hdone.ret with ⟨_, h⟩ | ⟨hc, _⟩
          · exact h
          · exact absurd rfl hc
        subst hret
        obtain ⟨hb89, hρ9⟩ := hdone.step.bel hρ8 hB8
        have hb9' := hb8'.trans hb89
        have ho9 : ∀ k, stoOwn t d9 ρ9 k → B ≤ k := fun k hk => by
          rcases hk with e | e
          · exact hρ9 k e
          · exact Nat.le_trans hB8 (hdone.new k e)
        have hO9 := hdone.at_
        have hlo9 : d9.fs.loose.length ≤ 100000 := by have := hdone.go.2; have := Hlo8.out; omega
        obtain ⟨wt, hwt⟩ : ∃ wt, (if 28 ≤ nb then ks ++ [kq] else ks) = wt := ⟨_, rfl⟩
        rw [hwt] at h29
        have hwg : (∀ x ∈ wt, x.good = true) ∧ wt.length ≤ 31 := by
          rw [← hwt]
          split
          · refine ⟨fun x hx => ?_, by rw [List.length_append]; have := Hq.out.2.1; simp; omega⟩
            rcases List.mem_append.1 hx with hx | hx
            · exact Hq.out.1 x hx
            · rw [List.mem_singleton.1 hx]; exact Hq.out.2.2
          · exact ⟨Hq.out.1, by have := Hq.out.2.1; omega⟩
        have hE := World.ownsRow_lit (base := w9.heap.size) (size := 3) (e := 53) w9 #[] 0 (Nat.le_refl _) (by decide) rfl
        have hbA : Below w9.heap.size w9 (w9.alloc (.cells #[] 53)) := (Below.refl _ _).alloc (Nat.le_refl _) _
        have hv9 := (Hst.out w9 hb9').2.2.1.below (Nat.le_refl _) hbA
        have Hc1 := Lib.hid (cells_one ks)
        have Hc2 := Lib.hid (cells_one [(⟨kind, rcpt, nn⟩ : MarkD)])
        have hl30 := Hq.out.2.1
        have hm1 : 0 + ks.length ≤ maxLen := by show _ ≤ 9223372036854775807; omega
        have hm2 : (0 + ks.length) * 24 ≤ 140737488355328 := by omega
        have hm3 : 0 + ks.length + [(⟨kind, rcpt, nn⟩ : MarkD)].length ≤ maxLen := by show _ ≤ 9223372036854775807; simp; omega
        have hm4 : (0 + ks.length + [(⟨kind, rcpt, nn⟩ : MarkD)].length) * 24 ≤ 140737488355328 := by simp; omega
        have Hm := Lib.hid (And.intro hm1 (And.intro hm2 (And.intro hm3 hm4)))
        have HE := Lib.hid (And.intro hE (And.intro hbA hv9))
        have Hw := Lib.hid (And.intro hwt hwg)
        have H9 := Lib.hid (And.intro hw9 (And.intro hd9 (And.intro h29 (And.intro hO9 (And.intro hb9' (And.intro ho9 (And.intro (Nat.le_trans hB8 hb89.size) hlo9)))))))
        clear hw9 hd9 h29 hO9 hb9' ho9 hb89 hρ9 hdone hs9 hr9 h28 hb8' hρ8 hB8 hNG hlo9 hwt hwg hE hbA hv9 hm1 hm2 hm3 hm4 hl30
        go_upto_if 91 with (at_builtin; go_must (refine wpList_append_any mark_len (by decide) rfl (.tmp 87) (.tmp 88) 41 rfl w9.heap.size 53 i0 _ 24 Tryz.underlying41 hi hz0 hz1 hz2 rfl _ _ _ rfl HE.out.1 _ ks rfl HE.out.2.2 Hnm.out Hc1.out Hm.out.1 Hm.out.2.1 HE.out.2.1.size ?_); intro v3 w10 hown2 hg2 hn3; have hb10 := Below.grown HE.out.2.1 hg2 HE.out.2.1.size (fun k hk => own_base HE.out.1 k hk); obtain ⟨x0, x1, x2⟩ := (Hst.out w10 (H9.out.2.2.2.2.1.trans (hb10.mono H9.out.2.2.2.2.2.2.1))).2.1; have Hown2 := Lib.hid (And.intro hown2 hb10); clear hown2 hg2 hn3 hb10)
        go_cut [14] from 90 to 95 (fun v wx => Hid (wx.ownsRow w9.heap.size 53 3 v wt.length (wt.flatMap MarkD.cells) ∧ Below w9.heap.size w9 wx))
        case first =>
          by_cases h28 : (28 : Int) ≤ (nb : Int)
          · go_wp2_with (at_builtin; go_must (refine wpList_append_any mark_len (by decide) rfl (.tmp 92) (.tmp 94) 41 rfl w9.heap.size 53 i0 _ 24 Tryz.underlying41 hi hz0 hz1 hz2 rfl _ _ _ rfl (own_below Hown2.out.1 ((Below.refl w10.heap.size w10).alloc (Nat.le_refl _) _) (Nat.le_refl _)) _ [⟨kind, rcpt, nn⟩] rfl (rdM_one (heap_alloc_new w10 _)) (by intro _ _ e; cases e) Hc2.out Hm.out.2.2.1 Hm.out.2.2.2 (Nat.le_trans Hown2.out.2.size (Below.size ((Below.refl w10.heap.size w10).alloc (Nat.le_refl _) _))) ?_); intro v4 w11 hown3 hg3 hn4; have hb11 := Below.grown (Hown2.out.2.alloc Hown2.out.2.size _) hg3 (Nat.le_trans Hown2.out.2.size (Below.size ((Below.refl w10.heap.size w10).alloc (Nat.le_refl _) _))) (fun k hk => own_base Hown2.out.1 k hk))
            go_meet
            refine Lib.hid ⟨?_, hb11⟩
            have hwt := Hw.out.1
            rw [if_pos (by omega)] at hwt
            rw [← hwt, ← Hf.out.2.2.2.2, List.flatMap_append, List.length_append]
            have := hown3
            rw [Nat.zero_add, List.nil_append] at this
            exact this
          · go_wp2_with fail
            go_meet
            refine Lib.hid ⟨?_, Hown2.out.2⟩
            have hwt := Hw.out.1
            rw [if_neg (by omega)] at hwt
            rw [← hwt]
            have := Hown2.out.1
            rw [Nat.zero_add, List.nil_append] at this
            exact this
        case rest =>
          obtain ⟨hwo, hwb⟩ := hcut.out
          obtain ⟨aw, cw, rfl⟩ := own_form0 hwo
          obtain ⟨hw9, hd9, h29, hO9, hb9', ho9, hB9, hlo9⟩ := H9.out
          have hOc := hO9.below hwb
          have hsf := sfile_calls t d9 ρ9 wc hOc.at_ 1 (by decide) hOc.g hOc.mx
          rw [torn_file hw9 h29 Hw.out.2.1 (by have := Hw.out.2.2; omega)] at hsf
          have hsf' := hsf.mono (fun e w' h => tor_file h)
          have Hsf := Lib.hid hsf'
          have Hc := Lib.hid (And.intro hwo (And.intro hwb hOc))
          clear hsf hsf' hwo hwb hOc hcut hw9 hd9 h29 hO9 hb9' ho9 hB9 hlo9
          go_wp2_with fail
          refine (Hsf.out).mono ?_; rintro e w11 ⟨m0, m1, m2, m3, u1, n1, k1, u2, n2, k2, am1, cm1, gd, rfl, o3, hb11⟩
          obtain ⟨W12, hW12⟩ : ∃ W12, w11.alloc (.cells #[.int .i64 m0, .int .i64 m1, .int .i64 m2, .string m3, .slice u1 n1 k1, .slice u2 n2 k2, .slice am1 wt.length cm1, .int .i64 gd] 43) = W12 := ⟨_, rfl⟩
          have hbX : Below w11.heap.size w11 W12 := by rw [← hW12]; exact (Below.refl _ _).alloc (Nat.le_refl _) _
          have hX : W12.heap[w11.heap.size]? = some (.cells #[.int .i64 m0, .int .i64 m1, .int .i64 m2, .string m3, .slice u1 n1 k1, .slice u2 n2 k2, .slice am1 wt.length cm1, .int .i64 gd] 43 (0, 0)) := by rw [← hW12]; exact heap_alloc_new w11 _
          have x6 : W12.cell? ⟨w11.heap.size, 6, none⟩ = some (.slice am1 wt.length cm1) := by rw [cell_of_row _ _ _ _ _ _ hX]; rfl
          have hbc := hb11.trans (hbX.mono hb11.size)
          have hr1 : RdM W12 (.slice am1 wt.length cm1) wt := (rdL_ofOwn (xs := wt) mark_len (by decide) o3).below (Nat.le_refl _) hbX
          have hwo12 := own_below Hc.out.1 hbc (Nat.le_refl _)
          have hr2 : RdM W12 (.slice aw wt.length cw) wt := rdL_ofOwn (xs := wt) mark_len (by decide) hwo12
          have hsm := sameMarks_calls _ _ wt W12 hr1 hr2
          have Hsm1 := Lib.hid hsm
          have H12 := Lib.hid (And.intro hwo12 (And.intro (Hc.out.2.1.trans (hbc.mono Hc.out.2.1.size)) (Hc.out.2.2.below hbc)))
          clear hsm hr1 hr2 hwo12 hbc hX hbX o3 hb11 Hsf Hc
          subst hW12
          go_wp2_with fail
          refine (Hsm1.out).mono ?_; rintro e w13 ⟨rfl, hb13⟩
          obtain ⟨hwo12, hwb12, hO12⟩ := H12.out
          obtain ⟨hw9, hd9, h29, hO9, hb9', ho9, hB9, hlo9⟩ := H9.out
          have hwb13 := hwb12.trans (hb13.mono hwb12.size)
          have hO13 := hO12.below hb13
          have hwo13 := own_below hwo12 hb13 (Nat.le_refl _)
          have hmc := mark_calls t d9 ρ9 1 ⟨kind, rcpt, nn⟩ w13 hO13 (by omega) (by decide)
          obtain ⟨x0, x1, x2⟩ := (Hst.out w13 (hb9'.trans (hwb13.mono hB9))).2.1
          have Hmc9 := Lib.hid hmc
          have H13 := Lib.hid (And.intro hwo13 hwb13)
          clear hmc hwo12 hwb12 hO12 hwb13 hO13 hwo13 hb13 x6 hw9 hd9 h29 hO9 hb9' ho9 hB9 hlo9
          go_wp2_with fail
          refine (Hmc9.out).mono ?_; rintro e w14 ⟨er, d14, ρ14, rfl, hout, hO14, hT14, hg14⟩
          obtain ⟨hw9, hd9, h29, hO9, hb9', ho9, hB9, hlo9⟩ := H9.out
          rw [Hf.out.2.2.2.2] at hout
          obtain ⟨rfl, hw14, h214⟩ := torn_more hw9 hd9 h29 Hq.out.2.2 (by have := Hw.out.2.2; omega) hout
          have hfr : ∀ k, stoOwn t d9 ρ9 k → k < w9.heap.size := fun k hk => stoOwn_lt hO9.at_ hk
          have hwo14 := own_keeps H13.out.1 hT14.keeps (fun k hk hs => by have := own_base H13.out.1 k hk; have := hfr k hs; omega)
          have hB13 := Nat.le_trans hB9 H13.out.2.size
          have hb13 := hb9'.trans (H13.out.2.mono hB9)
          have hb14' := hb13.trans (hT14.belB ho9 hB13)
          have hB14 := Nat.le_trans hB13 hT14.keeps.size
          have h9s := Nat.le_trans H13.out.2.size hT14.keeps.size
          have hsf := sfile_calls t d14 ρ14 w14 hO14.at_ 1 (by decide) hO14.g hO14.mx
          rw [torn_file hw14 h214 (fun x hx => by
            rcases List.mem_append.1 hx with hx | hx
            · exact Hw.out.2.1 x hx
            · rw [List.mem_singleton.1 hx]; exact Hq.out.2.2) (by rw [List.length_append]; have := Hw.out.2.2; simp; omega)] at hsf
          have hsf' := hsf.mono (fun e w' h => tor_file h)
          have Hsf := Lib.hid hsf'
          have H14 := Lib.hid (And.intro hwo14 (And.intro hb14' (And.intro hB14 h9s)))
          clear hsf hsf' hwo14 hb14' hB14 h9s hB13 hb13 hfr hw14 h214 hout hO14 hT14 hg14 hw9 hd9 h29 hO9 hb9' ho9 hB9 hlo9 x0 x1 x2
          go_wp2_with fail
          refine (Hsf.out).mono ?_; rintro e w15 ⟨m0, m1, m2, m3, u1, n1, k1, u2, n2, k2, am2, cm2, gd, rfl, o3, hb15⟩
          obtain ⟨L2, hL2⟩ : ∃ L2, (wt ++ [kq]).length = L2 := ⟨_, rfl⟩
          rw [hL2] at o3 ⊢
          obtain ⟨W16, hW16⟩ : ∃ W16, w15.alloc (.cells #[.int .i64 m0, .int .i64 m1, .int .i64 m2, .string m3, .slice u1 n1 k1, .slice u2 n2 k2, .slice am2 L2 cm2, .int .i64 gd] 43) = W16 := ⟨_, rfl⟩
          have hbX : Below w15.heap.size w15 W16 := by rw [← hW16]; exact (Below.refl _ _).alloc (Nat.le_refl _) _
          obtain ⟨X2, hX2⟩ : ∃ X2, w15.heap.size = X2 := ⟨_, rfl⟩
          have hX : W16.heap[X2]? = some (.cells #[.int .i64 m0, .int .i64 m1, .int .i64 m2, .string m3, .slice u1 n1 k1, .slice u2 n2 k2, .slice am2 L2 cm2, .int .i64 gd] 43 (0, 0)) := by rw [← hW16, ← hX2]; exact heap_alloc_new w15 _
          have hbc := hb15.trans (hbX.mono hb15.size)
          obtain ⟨hwo14, hb14', hB14, h9s⟩ := H14.out
          have hb16 := hb14'.trans (hbc.mono hB14)
          have hB16 := Nat.le_trans hB14 hbc.size
          have hwo5 := own_below hwo14 hbc (Nat.le_refl _)
          have hwb5 := Nat.le_trans h9s hbc.size
          have hr1 : RdM W16 (.slice am2 L2 cm2) (wt ++ [kq]) := (rdL_ofOwn (xs := wt ++ [kq]) mark_len (by decide) o3).below (Nat.le_refl _) hbX
          obtain ⟨FW, hFW⟩ : ∃ FW : Nat → Prop, (fun k => (Value.slice aw wt.length cw).ownBlock = some k) = FW := ⟨_, rfl⟩
          have hF0 : ∀ k, FW k → w9.heap.size ≤ k ∧ k < w14.heap.size := fun k hk => by
            rw [← hFW] at hk
            exact ⟨own_base hwo14 k hk, (hwo14.lt k hk).2⟩
          have hBF : ∀ k, FW k → B ≤ k := fun k hk => Nat.le_trans H9.out.2.2.2.2.2.2.1 (hF0 k hk).1
          have hX2l : w14.heap.size ≤ X2 := by rw [← hX2]; exact hb15.size
          have hb16B : ∀ w1, Keeps FW W16 w1 → Below B W w1 := fun w1 h1 => hb16.trans (h1.below hBF hB16)
          have Hs : Hid (∀ w1, Keeps FW W16 w1 → (fun w' => w'.cell? ⟨X2, 6, none⟩ = some (.slice am2 L2 cm2) ∧ w'.cell? ⟨K, 0, none⟩ = some (.int .i64 kind) ∧ w'.cell? ⟨K, 1, none⟩ = some (.int .i64 rcpt) ∧ w'.cell? ⟨K, 2, none⟩ = some (.int .i64 nn)) w1) := Lib.hid (fun w1 h1 => by
            have hXk := h1.heap hX (fun e => by have := (hF0 _ e).2; omega)
            obtain ⟨x0, x1, x2⟩ := (Hst.out w1 (hb16B w1 h1)).2.1
            exact ⟨by rw [cell_of_row _ _ _ _ _ _ hXk]; rfl, x0, x1, x2⟩)
          have hkD : Keeps FW W16 W16.drew := Keeps.ofBelow (Below.refl _ _).drew
          have hbD := hb16B _ hkD
          have HS := Lib.hid (Hs.out _ hkD)
          have o3l : ∀ k, (Value.slice am2 L2 cm2).ownBlock = some k → ¬ FW k := fun k hk e => by
            have h1 := own_base o3 k hk
            have h2 := (hF0 k e).2
            omega
          have hr1' : ∀ w1, Keeps FW W16 w1 → RdM w1 (.slice am2 L2 cm2) (wt ++ [kq]) := fun w1 h1 => hr1.keeps h1 (fun b o l c e => o3l b (by rw [e]; rfl))
          have Hsm : Hid (∀ a c w1, Keeps FW W16 w1 → RdM w1 (.slice a (wt.length + [(⟨kind, rcpt, nn⟩ : MarkD)].length) c) (wt ++ [kq]) → Calls Tryz.prog 30 #[.slice am2 L2 cm2, .slice a (wt.length + [(⟨kind, rcpt, nn⟩ : MarkD)].length) c] w1 fun e w' => e = .returned (.bool true) ∧ Below w1.heap.size w1 w') := Lib.hid (fun a c w1 h1 h2 => sameMarks_calls _ _ (wt ++ [kq]) w1 (hr1' w1 h1) h2)
          have hwl := Hw.out.2.2
          have hq3 : wt.length + [(⟨kind, rcpt, nn⟩ : MarkD)].length ≤ maxLen := by show _ ≤ 9223372036854775807; simp; omega
          have hq4 : (wt.length + [(⟨kind, rcpt, nn⟩ : MarkD)].length) * 24 ≤ 140737488355328 := by simp; omega
          have H16 := Lib.hid (And.intro hb16B (And.intro hFW hKe))
          have HKq := Lib.hid Hf.out.2.2.2.2
          clear hb16 hB16 hbX hX hbc hwo14 hb14' hB14 h9s hr1 hr1' o3 o3l hb15 hwl hL2 hF0 hBF hX2l hb16B hFW
          subst hW16
          generalize hWe : w15.alloc (.cells #[.int .i64 m0, .int .i64 m1, .int .i64 m2, .string m3, .slice u1 n1 k1, .slice u2 n2 k2, .slice am2 L2 cm2, .int .i64 gd] 43) = W16 at Hs HS hkD hbD Hsm H16 hwo5 hwb5
          have HWe := Lib.hid (And.intro hWe hX2)
          clear hWe hX2
          go_upto_region 23 with fail
          rw [HWe.out.2, HWe.out.1]
          refine wp_region_noPanic ?_
          refine wp_region_held_drew (S := (fun w' => w'.cell? ⟨X2, 6, none⟩ = some (.slice am2 L2 cm2) ∧ w'.cell? ⟨K, 0, none⟩ = some (.int .i64 kind) ∧ w'.cell? ⟨K, 1, none⟩ = some (.int .i64 rcpt) ∧ w'.cell? ⟨K, 2, none⟩ = some (.int .i64 nn))) (by kernel_rfl) (by first | with_reducible exact HS.out | exact Hs.out _ (by with_reducible assumption)) (fun hHeld => ?_)
          refine wpAnyH_ready (rs := [0]) (by kernel_rfl) (by simp) ?_
          refine AllReadyH.cons (o := _) (by simp only [List.getElem?_toArray, List.getElem?_cons_succ, List.getElem?_cons_zero]; rfl) (fun K hK => ?_) AllReadyH.nil
          go_simp
          go_at_call 11; refine (Hans.out _ hbD).mono ?_; rintro e wA ⟨rfl, hdA⟩; have hkA := hkD.go (Keeps.ofBelow (F := FW) hdA) (fun _ e => .inl e)
          refine hK.out _ _ (by (try dsimp only); first | with_reducible exact HS.out | exact Hs.out _ (by with_reducible assumption)) (fun hHeld => ?_)
          clear hK K
          try simp only [Act.put, List.setIfInBounds_toArray, List.set_cons_zero, List.set_cons_succ]
          refine wpAnyH_take (i := 1) (oi := _) (v := ?_) (by simp only [List.getElem?_toArray, List.getElem?_cons_succ, List.getElem?_cons_zero]; rfl) (by kernel_rfl) (by kernel_rfl) (by kernel_rfl) (fun _ _ _ h => h) (Or.inl ⟨by rfl, ?_⟩) (by assumption) ?_
          rotate_left
          · intro w hSw; (try dsimp only at hSw); go_simp; (try with_reducible rfl)
          try simp only [Act.put, List.setIfInBounds_toArray, List.set_cons_zero, List.set_cons_succ]
          refine wpAnyH_take (i := 2) (oi := _) (v := ?_) (by simp only [List.getElem?_toArray, List.getElem?_cons_succ, List.getElem?_cons_zero]; rfl) (by kernel_rfl) (by kernel_rfl) (by kernel_rfl) (fun _ _ _ h => h) (Or.inl ⟨by rfl, ?_⟩) (by assumption) ?_
          rotate_left
          · intro w hSw; (try dsimp only at hSw); go_simp; (try with_reducible rfl)
          try simp only [Act.put, List.setIfInBounds_toArray, List.set_cons_zero, List.set_cons_succ]
          refine wpAnyH_take (i := 3) (oi := _) (v := ?_) (by simp only [List.getElem?_toArray, List.getElem?_cons_succ, List.getElem?_cons_zero]; rfl) (by kernel_rfl) (by kernel_rfl) (by kernel_rfl) (fun _ _ _ h => h) (Or.inl ⟨by rfl, ?_⟩) (by assumption) ?_
          rotate_left
          · intro w hSw; (try dsimp only at hSw); go_simp; (try with_reducible rfl)
          try simp only [Act.put, List.setIfInBounds_toArray, List.set_cons_zero, List.set_cons_succ]
          refine wpAnyH_take (i := 4) (oi := _) (v := ?_) (by simp only [List.getElem?_toArray, List.getElem?_cons_succ, List.getElem?_cons_zero]; rfl) (by kernel_rfl) (by kernel_rfl) (by kernel_rfl) (fun _ _ _ h => h) (Or.inl ⟨by rfl, ?_⟩) (by assumption) ?_
          rotate_left
          · intro w hSw; (try dsimp only at hSw); go_simp; (try with_reducible rfl)
          try simp only [Act.put, List.setIfInBounds_toArray, List.set_cons_zero, List.set_cons_succ]
          refine wpAnyH_take (i := 5) (oi := _) (v := ?_) (by simp only [List.getElem?_toArray, List.getElem?_cons_succ, List.getElem?_cons_zero]; rfl) (by kernel_rfl) (by kernel_rfl) (by kernel_rfl) (fun _ _ _ h => h) (Or.inl ⟨by rfl, ?_⟩) (by assumption) ?_
          rotate_left
          · intro w hSw; (try dsimp only at hSw); go_simp; (try with_reducible rfl)
          try simp only [Act.put, List.setIfInBounds_toArray, List.set_cons_zero, List.set_cons_succ]
          refine wpAnyH_take (i := 6) (oi := _) (v := ?_) (by simp only [List.getElem?_toArray, List.getElem?_cons_succ, List.getElem?_cons_zero]; rfl) (by kernel_rfl) (by kernel_rfl) (by kernel_rfl) (fun _ _ _ h => h) (Or.inl ⟨by rfl, ?_⟩) (by assumption) ?_
          rotate_left
          · intro w hSw; (try dsimp only at hSw); go_simp; (try with_reducible rfl)
          try simp only [Act.put, List.setIfInBounds_toArray, List.set_cons_zero, List.set_cons_succ]
          refine wpAnyH_take (i := 7) (oi := _) (v := ?_) (by simp only [List.getElem?_toArray, List.getElem?_cons_succ, List.getElem?_cons_zero]; rfl) (by kernel_rfl) (by kernel_rfl) (by kernel_rfl) (fun _ _ _ h => h) (Or.inl ⟨by rfl, ?_⟩) (by assumption) ?_
          rotate_left
          · intro w hSw; (try dsimp only at hSw); go_simp; (try with_reducible rfl)
          try simp only [Act.put, List.setIfInBounds_toArray, List.set_cons_zero, List.set_cons_succ]
          refine wpAnyH_take (i := 8) (oi := _) (v := ?_) (by simp only [List.getElem?_toArray, List.getElem?_cons_succ, List.getElem?_cons_zero]; rfl) (by kernel_rfl) (by kernel_rfl) (by kernel_rfl) (fun _ _ _ h => h) (Or.inl ⟨by rfl, ?_⟩) (by assumption) ?_
          rotate_left
          · intro w hSw; (try dsimp only at hSw); go_simp; (try with_reducible rfl)
          try simp only [Act.put, List.setIfInBounds_toArray, List.set_cons_zero, List.set_cons_succ]
          refine wpAnyH_take (i := 9) (oi := _) (v := ?_) (by simp only [List.getElem?_toArray, List.getElem?_cons_succ, List.getElem?_cons_zero]; rfl) (by kernel_rfl) (by kernel_rfl) (by kernel_rfl) (fun _ _ _ h => h) (Or.inl ⟨by rfl, ?_⟩) (by assumption) ?_
          rotate_left
          · intro w hSw; (try dsimp only at hSw); go_simp; (try with_reducible rfl)
          try simp only [Act.put, List.setIfInBounds_toArray, List.set_cons_zero, List.set_cons_succ]
          refine wpAnyH_ready (rs := [10]) (by kernel_rfl) (by simp) ?_
          refine AllReadyH.cons (o := _) (by simp only [List.getElem?_toArray, List.getElem?_cons_succ, List.getElem?_cons_zero]; rfl) (fun K hK => ?_) AllReadyH.nil
          refine step_build1w ⟨kind, rcpt, nn⟩ (by first | rfl | kernel_rfl | simp [Region.wanted]) (by rfl) (by rfl) ?_; rintro g1 wB hK1 hg1 hd1 hw1; have hkB := hkA.go (Keeps.ofBelow (F := FW) hd1) (fun _ e => .inl e); have hwo6 := own_below (own_below (own_below hwo5 (Below.refl _ _).drew (Nat.le_refl _)) hdA (Nat.le_refl _)) hd1 (Nat.le_refl _)
          refine hK.out _ _ (by (try dsimp only); first | with_reducible exact HS.out | exact Hs.out _ (by with_reducible assumption)) (fun hHeld => ?_)
          clear hK K
          try simp only [Act.put, List.setIfInBounds_toArray, List.set_cons_zero, List.set_cons_succ]
          refine wpAnyH_ready (rs := [11]) (by kernel_rfl) (by simp) ?_
          refine AllReadyH.cons (o := _) (by simp only [List.getElem?_toArray, List.getElem?_cons_succ, List.getElem?_cons_zero]; rfl) (fun K hK => ?_) AllReadyH.nil
          have hk1 := rdM_one hK1; refine step_append_w mark_len (by decide) (by first | rfl | kernel_rfl | simp [Region.wanted]) (.tmp 134) (.tmp 136) 41 (by rfl) w9.heap.size 53 i0 _ 24 Tryz.underlying41 hi hz0 hz1 hz2 rfl _ _ _ (by rfl) hwo6 _ [⟨kind, rcpt, nn⟩] (by rfl) hk1 (by intro _ _ e; cases e) Hc2.out hq3 hq4 (Nat.le_trans hwb5 hkB.size) ?_; rintro v7 w7c hown7 hgr7 hn7; have hkC := hkB.go (Keeps.grown hgr7) (fun k e => .inl (by rw [← H16.out.2.1]; exact e))
          refine hK.out _ _ (by (try dsimp only); first | with_reducible exact HS.out | exact Hs.out _ (by with_reducible assumption)) (fun hHeld => ?_)
          clear hK K
          try simp only [Act.put, List.setIfInBounds_toArray, List.set_cons_zero, List.set_cons_succ]
          refine wpAnyH_ready (rs := [12]) (by kernel_rfl) (by simp) ?_
          refine AllReadyH.cons (o := _) (by simp only [List.getElem?_toArray, List.getElem?_cons_succ, List.getElem?_cons_zero]; rfl) (fun K hK => ?_) AllReadyH.nil
          go_simp
          obtain ⟨a7, c7, hv7⟩ := own_form0 hown7; subst hv7; go_at_call 30; refine (Hsm.out _ _ _ hkC (tor_row HKq.out hown7)).mono ?_; rintro e w8c ⟨rfl, hd8⟩; have hkE := hkC.go (Keeps.ofBelow (F := FW) hd8) (fun _ e => .inl e)
          refine hK.out _ _ (by (try dsimp only); first | with_reducible exact HS.out | exact Hs.out _ (by with_reducible assumption)) (fun hHeld => ?_)
          clear hK K
          try simp only [Act.put, List.setIfInBounds_toArray, List.set_cons_zero, List.set_cons_succ]
          refine wpAnyH_take (i := 13) (oi := _) (v := ?_) (by simp only [List.getElem?_toArray, List.getElem?_cons_succ, List.getElem?_cons_zero]; rfl) (by kernel_rfl) (by kernel_rfl) (by kernel_rfl) (fun _ _ _ h => h) (Or.inl ⟨by rfl, ?_⟩) (by assumption) ?_
          rotate_left
          · intro w hSw; (try dsimp only at hSw); go_simp; (try with_reducible rfl)
          try simp only [Act.put, List.setIfInBounds_toArray, List.set_cons_zero, List.set_cons_succ]
          refine wpAnyH_take (i := 14) (oi := _) (v := ?_) (by simp only [List.getElem?_toArray, List.getElem?_cons_succ, List.getElem?_cons_zero]; rfl) (by kernel_rfl) (by kernel_rfl) (by kernel_rfl) (fun _ _ _ h => h) (Or.inl ⟨by rfl, ?_⟩) (by assumption) ?_
          rotate_left
          · intro w hSw; (try dsimp only at hSw); go_simp; (try with_reducible rfl)
          try simp only [Act.put, List.setIfInBounds_toArray, List.set_cons_zero, List.set_cons_succ]
          refine wpAnyH_done (by kernel_rfl) ?_ _
          refine NoPanic.normal ?_
          go_wp2
          go_ret
          have hfin := (Hst.out _ (H16.out.1 _ hkE)).1
          exact ⟨rfl, by first | exact hfin | (rw [← H16.out.2.2]; exact hfin)⟩
theorem storeTorn_all (v : Value) (ks : List MarkD) (a : Int) (k : MarkD) (w : World) (hm : RdM w v ks) (hnm : NilOk v) (ha : (Lit.int .u8 a).wf = true) (hg : GOk w) (hmax : MaxOk w) :
    Calls Tryz.prog 5 #[v, .int .u8 a, k.val] w fun e w' => e = .returned (.bool true) ∧ Below w.heap.size w w' := by
  obtain ⟨l, u⟩ := bounds_u8 ha
  obtain ⟨n, rfl⟩ := Int.eq_ofNat_of_zero_le l
  exact storeTorn_calls v ks n k w hm hnm (by omega) hg hmax
end Go.Proofs.YtffnbkmigapmjaaGreatDoor
