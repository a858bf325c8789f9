/-
  The body of the law StorePlays.
  A slice of calls (law14's Op) that comes in, where the statement bounds how great the arguments are.
  What a row lays gives what the store's walks ask of the package variables.
-/
import Derived.Test.YtffnbkmigapmjaaGreatDoorT10
import Derived.Test.YtffnbkmigapmjaaGreatDoorT18
import Derived.Test.YtffnbkmigapmjaaGreatDoorT47
import Derived.Stop.LaidErr
import Derived.Lib.LaidTab
set_option linter.unusedSimpArgs false
set_option linter.unusedVariables false
set_option maxRecDepth 100000
namespace Go.Proofs.YtffnbkmigapmjaaGreatDoor
open Go.RowKit Go.Maps
structure OpArg0 (w : World) (o : OpV) : Prop where
 r : RdS w (.slice o.ar o.m.rcpts.length o.cr) o.m.rcpts
 b : RdB w (.slice o.ab o.m.body.length o.cb) o.m.body
 nr : NilOk (.slice o.ar o.m.rcpts.length o.cr)
 nb : NilOk (.slice o.ab o.m.body.length o.cb)
 ln : o.m.lens
 id : -9223372036854775808 ≤ o.id ∧ o.id ≤ 9223372036854775807
 pa : -9223372036854775808 ≤ o.m.parent ∧ o.m.parent ≤ 9223372036854775807
theorem OpArg0.light {w : World} {o : OpV} (h : OpArg0 w o) (hl : o.light = true) : OpArg w o w.heap.size := by
 unfold OpV.light at hl
 simp only [Bool.and_eq_true, decide_eq_true_eq] at hl
 exact ⟨h.r, h.b, h.nr, h.nb, fun k e => e.elim (h.r.liveLt k) (h.b.liveLt k), h.ln, ⟨by omega, by omega⟩, h.id, h.pa⟩
theorem lightB_iff {l : List OpV} (h : lightB l = true) : l.length ≤ 60 ∧ ∀ o ∈ l, o.light = true := by
 unfold lightB at h
 rw [Bool.and_eq_true, decide_eq_true_eq, List.all_eq_true] at h
 exact h
set_option maxHeartbeats 32000000 in
theorem storePlays_calls (room : Nat) (v : Value) (ops : List OpV) (w : World) (hro : room ≤ 65535) (hv : RdO w v ops) (ho : ∀ o ∈ ops, OpArg0 w o) (hg : GOk w) (hmax : MaxOk w) :
 Calls Tryz.prog 6 #[.int .u16 room, v] w fun e w' => e = .returned (.bool true) ∧ Below w.heap.size w w' := by
 obtain ⟨a, cap, rfl, hl, hc⟩ := hv.form
 have hans := fun w1 (hb : Below w.heap.size w w1) => answers14_calls w1 (hg.below hb) (hmax.below hb)
 have hlt := light14_calls (.slice a ops.length cap) ops w hv
 have Hans := Lib.hid hans
 obtain ⟨lt, hlt2⟩ : ∃ lt, lightB ops = lt := ⟨_, rfl⟩
 rw [hlt2] at hlt
 have Hlt := Lib.hid hlt
 have H := Lib.hid (And.intro hv (And.intro ho (And.intro hg (And.intro hmax hlt2))))
 clear hans hlt hv ho hg hmax hlt2
 go_enter Tryz.func6, Tryz.ntmps6
 go_wp2_with fail
 refine (Hlt.out).mono ?_; rintro e w1 ⟨rfl, hb1⟩
 cases lt with
 | false =>
  have Ha := Lib.hid (Hans.out w1 hb1)
  have Hb1 := Lib.hid hb1
  clear hb1
  go_wp2_with fail
  refine (Ha.out).mono ?_; rintro e w2 ⟨rfl, hb2⟩
  go_wp2
  go_ret
  exact ⟨rfl, Hb1.out.trans (hb2.mono Hb1.out.size)⟩
 | true =>
  obtain ⟨h60, hlo⟩ := lightB_iff H.out.2.2.2.2
  have harg : ∀ o ∈ ops, OpArg w o w.heap.size := fun o hx => (H.out.2.1 o hx).light (hlo o hx)
  obtain ⟨B, hB⟩ : ∃ B, w.heap.size = B := ⟨_, rfl⟩
  have hNB : NG ≤ B := by rw [← hB]; exact H.out.2.2.1.size
  have hroom : roomD (room : Int) = (room : Int) := by unfold roomD; omega
  have hnew := new_calls (room : Int) w1
  rw [hroom] at hnew
  have Hnew := Lib.hid hnew
  have hro0 : (0 : Int) ≤ (room : Int) := by omega
  have hro1 : (room : Int) ≤ 65535 := by omega
  have HA := Lib.hid (And.intro harg (And.intro h60 (And.intro hNB (And.intro hB hb1))))
  clear hnew hroom harg h60 hlo hNB hb1
  go_wp2_with fail
  refine (Hnew.out).mono ?_; rintro e w2 ⟨rfl, hF2, hb2⟩
  have hbw2 := HA.out.2.2.2.2.trans (hb2.mono HA.out.2.2.2.2.size)
  have hop := open0_calls (w1.heap.size + 2) _ _ w2 hF2 rfl rfl (H.out.2.2.1.below hbw2)
  obtain ⟨f, hf⟩ : ∃ f, w1.heap.size + 2 = f := ⟨_, rfl⟩
  rw [hf] at hop hF2
  rw [hf]
  have Hop := Lib.hid hop
  have H2 := Lib.hid (And.intro hF2 (And.intro hbw2 (And.intro hf hb2)))
  clear hop hF2 hbw2 hf hb2
  go_wp2_with fail
  refine (Hop.out).mono ?_; rintro e w3 ⟨s, d, rfl, hA3, ⟨ib, mp, rfl, hib, hmp⟩, hns, hb3⟩
  have hbw3 := H2.out.2.1.trans (hb3.mono H2.out.2.1.size)
  obtain ⟨W4, hW4⟩ : ∃ W4, w3.alloc (.cells #[.slice none 0 0, .int .i64 0, .int .i64 0, .int .i64 (room : Int)] 69) = W4 := ⟨_, rfl⟩
  obtain ⟨mb, hmb⟩ : ∃ mb, w3.heap.size = mb := ⟨_, rfl⟩
  have hb4 : Below w3.heap.size w3 W4 := by rw [← hW4]; exact (Below.refl _ _).alloc (Nat.le_refl _) _
  have hM4 : W4.heap[mb]? = some (.cells #[.slice none 0 0, .int .i64 0, .int .i64 0, .int .i64 (room : Int)] 69 (0, 0)) := by rw [← hW4, ← hmb]; exact heap_alloc_new w3 _
  have hbw4 := hbw3.trans (hb4.mono hbw3.size)
  have hBw1 : B ≤ w1.heap.size := by rw [← hB]; exact HA.out.2.2.2.2.size
  have hBw2 : B ≤ w2.heap.size := by rw [← hB]; exact H2.out.2.1.size
  have hBw3 : B ≤ w3.heap.size := by rw [← hB]; exact hbw3.size
  have hP : PairI w B s f mb 0 W4 := by
   obtain ⟨p1, p2, p3⟩ := same_start (B := w1.heap.size) (r := room) (fb := f) (ib := ib) (mb := mp) (by omega)
   have hNB := HA.out.2.2.1
   have hso : ∀ k, stoOwn s ⟨newD w1.heap.size room, f, ib, mp, 0, 0, [], [], false⟩ (newRho w1.heap.size) k → B ≤ k := fun k hk => by
    rcases hk with e | e | e | e
    ·have := (newRho_has e).1; omega
    ·omega
    ·have : k = ib := e; omega
    ·have : k = mp := e; omega
   have hO4 : StoOk W4 s ⟨newD w1.heap.size room, f, ib, mp, 0, 0, [], [], false⟩ (newRho w1.heap.size) :=
    ⟨hA3.below hb4, ⟨by show (-1 : Int) ≤ -1; omega, by show (-1 : Int) ≤ _; omega, by show 0 ≤ 256; omega, by show (0 : Int) ≤ (room : Int); omega, by show (room : Int) ≤ 16777216; omega⟩, H.out.2.2.1.below hbw4, H.out.2.2.2.1.below hbw4, fun k hk => Nat.le_trans hNB (hso k hk), by show (0 : Int) ≤ 0 ∧ (0 : Int) ≤ 999999999; omega, by show 0 ≤ 1000; omega⟩
   refine ⟨_, _, ⟨[], 0, 0, room⟩, .slice none 0 0, [], fun k => k = mb, ⟨p1, p2, p3, hO4, rfl, ⟨hM4, rfl, World.ownsRow_nil _ _ _ _, fun b hb => (by cases hb), rfl, fun k e => (by cases e), fun b hb => (by cases hb), fun k e => ?_⟩, hso, fun k e => ?_, fun k hk e => ?_, Nat.zero_le _, ?_, ?_⟩⟩
   ·rw [e]; exact (Array.getElem?_eq_some_iff.1 hM4).1
   ·have : k = mb := e; omega
   ·have h1 := stoOwn_lt hA3 hk
    have : k = mb := e
    omega
   ·rw [← hB]; exact hbw4
   ·exact Nat.le_trans hBw3 hb4.size
  have HP := Lib.hid hP
  have Hw := Lib.hid hW4
  clear hP hA3 hib hmp hns hb3 hbw3 hM4 hb4 hbw4 hBw1 hBw2 hBw3
  go_wp2
  try rw [hmb]
  try rw [Hw.out]
  go_loopw [9] (fun i wr => ∃ j : Nat, j ≤ ops.length ∧ i = .int .i64 j ∧ Hid (PairI w B s f mb j wr)) (fun i _ => ops.length - (intOf i).toNat)
  case atStart => exact ⟨0, Nat.zero_le _, rfl, HP⟩
  case round =>
   obtain ⟨j, hj, rfl, hPj⟩ := hrel
   obtain ⟨d, ρ, M, lv, bs, σ, hp⟩ := hPj.out
   have hbr : Below w.heap.size w wr := by rw [hB]; exact hp.bel
   have h60 := HA.out.2.1
   by_cases hlt : j < ops.length
   ·obtain ⟨o, ho⟩ : ∃ o, ops[j]? = some o := ⟨_, List.getElem?_eq_getElem hlt⟩
    have hom := List.mem_of_getElem? ho
    obtain ⟨b, off, cap', hsl, hbl, h3⟩ := RdL.at (H.out.1.below (Nat.le_refl _) hbr) ho
    have hoa := HA.out.1 o hom
    have hcells : ∀ w', Below w.heap.size w w' → ∀ i u, (opCells o)[i]? = some u → w'.cell? ⟨b, off + (j * 12 + i), none⟩ = some u := fun w' h' i u hu => by
     obtain ⟨b', off', cap2, hs', _, h3'⟩ := RdL.at (H.out.1.below (Nat.le_refl _) h') ho
     rw [hsl] at hs'
     cases hs'
     exact h3' i u hu
    cases hsl
    have hj0 : (0 : Int) ≤ (j : Int) := by omega
    have hj1 : (j : Int) < (ops.length : Int) := by omega
    have hll : d.fs.loose.length ≤ 700000 := by have := hp.loose; omega
    have hwl : d.whr.length ≤ 1000000 := by rw [hp.same.whr]; unfold whM; rw [List.length_map]; have := hp.mi.n; omega
    obtain ⟨x0, x1, x2, x3, x4, x5, x6, x7, x8, x9, xa, xb, hoc⟩ : ∃ x0 x1 x2 x3 x4 x5 x6 x7 x8 x9 xa xb, opCells o = [x0, x1, x2, x3, x4, x5, x6, x7, x8, x9, xa, xb] := ⟨_, _, _, _, _, _, _, _, _, _, _, _, rfl⟩
    have hdo : Calls Tryz.prog 32 #[.pointer (some ⟨s, 0, none⟩), .agg #[x0, x1, x2, x3, x4, x5, x6, x7, x8, x9, xa, xb]] wr fun e w' => ∃ er id d' ρ', DoDone wr s d ρ o e w' er id d' ρ' := by
     have := do_calls s d ρ o w.heap.size wr hp.sto hll hwl (hoa.below hbr)
     rw [hoc] at this; exact this
    have hcl : ∀ w', Below w.heap.size w w' → w'.cell? ⟨b, off + j * 12, none⟩ = some x0 ∧ w'.cell? ⟨b, off + j * 12 + 1, none⟩ = some x1 ∧ w'.cell? ⟨b, off + j * 12 + 2, none⟩ = some x2 ∧ w'.cell? ⟨b, off + j * 12 + 3, none⟩ = some x3 ∧ w'.cell? ⟨b, off + j * 12 + 4, none⟩ = some x4 ∧ w'.cell? ⟨b, off + j * 12 + 5, none⟩ = some x5 ∧ w'.cell? ⟨b, off + j * 12 + 6, none⟩ = some x6 ∧ w'.cell? ⟨b, off + j * 12 + 7, none⟩ = some x7 ∧ w'.cell? ⟨b, off + j * 12 + 8, none⟩ = some x8 ∧ w'.cell? ⟨b, off + j * 12 + 9, none⟩ = some x9 ∧ w'.cell? ⟨b, off + j * 12 + 10, none⟩ = some xa ∧ w'.cell? ⟨b, off + j * 12 + 11, none⟩ = some xb := fun w' h' => by
     have h := hcells w' h'
     rw [hoc] at h
     exact ⟨h 0 _ rfl, by rw [Nat.add_assoc]; exact h 1 _ rfl, by rw [Nat.add_assoc]; exact h 2 _ rfl, by rw [Nat.add_assoc]; exact h 3 _ rfl, by rw [Nat.add_assoc]; exact h 4 _ rfl, by rw [Nat.add_assoc]; exact h 5 _ rfl, by rw [Nat.add_assoc]; exact h 6 _ rfl, by rw [Nat.add_assoc]; exact h 7 _ rfl, by rw [Nat.add_assoc]; exact h 8 _ rfl, by rw [Nat.add_assoc]; exact h 9 _ rfl, by rw [Nat.add_assoc]; exact h 10 _ rfl, by rw [Nat.add_assoc]; exact h 11 _ rfl⟩
    have hT : j ≤ 190 := by omega
    obtain ⟨r, hr⟩ : ∃ r, M.run o = r := ⟨_, rfl⟩
    obtain ⟨n1, n2, M1⟩ := r
    have hbo := fun e w1 er id d1 ρ1 (hD : DoDone wr s d ρ o e w1 er id d1 ρ1) => hp.both hT HA.out.2.2.1 hD
    rw [hr] at hbo
    have hmod := fun w1 (hA : MdlAt w1 mb M lv bs σ) (hb : Below w.heap.size w w1) => model_calls o w.heap.size w1 hA (hp.mi.ok (by omega)) (by have := hp.mi.n; omega) (hoa.below hb) (fun k e => by have := hp.mo k e; omega) hb.size
    rw [hr, hoc] at hmod
    have hbl1 := fun e w1 er id d1 ρ1 (hD : DoDone wr s d ρ o e w1 er id d1 ρ1) => hp.bel.trans (hD.step.belB hp.so hp.size)
    rw [← hB] at hbl1
    have Hdo := Lib.hid hdo
    have Hmod := Lib.hid hmod
    have Hcl := Lib.hid hcl
    have Hbo := Lib.hid hbo
    have Hbl := Lib.hid hbl1
    have Hj := Lib.hid (And.intro hT h60)
    obtain ⟨c0, c1, c2, c3, c4, c5, c6, c7, c8, c9, ca, cb⟩ := hcl wr hbr
    clear hdo hmod hcl hbo hbl1 hp hoa hom ho hcells h3 hbr hll hwl hoc hr hT h60 hPj
    go_wp2_with fail
    refine (Hdo.out).mono ?_; rintro e w5 ⟨er, id, d1, ρ1, hD⟩
    have hb5 := Hbl.out _ _ _ _ _ _ hD
    obtain ⟨q1, q2, hA5, hsz5, hnx⟩ := Hbo.out _ _ _ _ _ _ hD
    try dsimp only at q1 q2
    have hre := hD.ret
    rw [q1, q2] at hre
    subst hre
    have hm5 := Hmod.out w5 hA5 hb5
    have Hm5 := Lib.hid hm5
    have Hnx := Lib.hid hnx
    obtain ⟨c0, c1, c2, c3, c4, c5, c6, c7, c8, c9, ca, cb⟩ := Hcl.out w5 hb5
    clear hm5 hnx hA5 hsz5 hD q1 q2 hb5
    go_wp2_with fail
    refine (Hm5.out).mono ?_; rintro e w6 ⟨lv6, bs6, σ6, rfl, hA6, hS6⟩
    have hp6 := Hnx.out _ _ _ _ hA6 hS6
    clear hA6 hS6 c0 c1 c2 c3 c4 c5 c6 c7 c8 c9 ca cb
    have hok6 : ModOk M1 := hp6.mi.ok (by have := Hj.out; omega)
    have halk := alike_calls w6 hp6.sto (by rw [hp6.same.whr]; unfold whM; rw [List.length_map]; have := hp6.mi.n; have := Hj.out; omega) hp6.mdl hok6 (hp6.same.like hp6.mi (by have := Hj.out; omega))
    have hus := fun w7 (hb : Below w6.heap.size w6 w7) => used_calls f d1.fs ρ1 w7 (by have := (hp6.sto.below hb).at_.fs; rw [hp6.fb] at this; exact this) hp6.sto.ok.n
    have hue : usedD d1.fs = M1.used := by obtain ⟨C, hv, _⟩ := hp6.same.vw; exact hv.used
    rw [hue] at hus
    have hmu := fun w7 (hb : Below w6.heap.size w6 w7) => mUsed_calls w7 (hp6.mdl.below hb) hok6.n hok6.ks
    obtain ⟨U, hU⟩ : ∃ U, M1.used = U := ⟨_, rfl⟩
    rw [hU] at hus hmu
    have Halk := Lib.hid halk
    have Hus := Lib.hid hus
    have Hmu := Lib.hid hmu
    have HP6 := Lib.hid hp6
    clear halk hus hmu hp6 hok6 hue hU
    go_wp2_with fail
    refine (Halk.out).mono ?_; rintro e w7 ⟨rfl, hb7⟩
    have Hb7 := Lib.hid hb7
    clear hb7
    go_wp2_with fail
    refine (Hus.out _ Hb7.out).mono ?_; rintro e w8 ⟨rfl, hb8⟩
    have hb8' := Hb7.out.trans (hb8.mono Hb7.out.size)
    have Hb8 := Lib.hid hb8'
    clear hb8 hb8'
    go_wp2_with fail
    refine (Hmu.out _ Hb8.out).mono ?_; rintro e w9 ⟨rfl, hb9⟩
    have hb9' := Hb8.out.trans (hb9.mono Hb8.out.size)
    have Hb9 := Lib.hid hb9'
    clear hb9 hb9'
    go_wp2
    go_roundw
    case rel => exact ⟨j + 1, by omega, by simp, Lib.hid ⟨_, _, _, _, _, _, HP6.out.below Hb9.out⟩⟩
    case measure => simp [intOf] <;> omega
   ·have hje : j = ops.length := by omega
    have hjn : ¬ ((j : Int) < (ops.length : Int)) := by omega
    have hnwr : ∀ k, stoOwn s d ρ k → NG ≤ k := fun k e => Nat.le_trans HA.out.2.2.1 (hp.so k e)
    have hF := hp.sto.at_.fs
    rw [hp.fb] at hF
    have hopn := open_calls f d.fs ρ wr hF hp.sto.ok (by obtain ⟨C, hv, _⟩ := hp.same.vw; exact hv.up.down) (hp.same.nm hp.mi (by omega)) (by have := hp.loose; omega) (fun k e => hnwr k (.inl e)) hp.sto.g hp.sto.mx
    have hsame := fun ib mp ss er d2 (h : RecoverR (openD d.fs f ib mp ss) er d2) => open_same hp.same hp.mi hp.par (by omega) h
    have hok6 : ModOk M := hp.mi.ok (by omega)
    have Hopn := Lib.hid hopn
    have Hsame := Lib.hid hsame
    have HP6 := Lib.hid (And.intro hp (And.intro hok6 h60))
    clear hopn hsame hok6 hp hF hnwr hPj h60 hbr hje
    go_wp2_with fail
    refine (Hopn.out).mono ?_; rintro e w5 ⟨er, s2, d2, ρ2, hret, ⟨ib2, mp2, ss2, _, hrec⟩, hO5, hfb5, hst5, hnew5, hgo5⟩
    obtain ⟨q1, q2, q3⟩ := Hsame.out _ _ _ _ _ hrec
    subst q1
    rcases hret with ⟨_, rfl⟩ | ⟨r3, _⟩
    ·have hm5 := HP6.out.1.mdl.keeps hst5.keeps (fun k e g => HP6.out.1.dis k (.inl g) e)
     have hb5 := HP6.out.1.bel.trans (hst5.bel (fun k e => HP6.out.1.so k (.inl e)) HP6.out.1.size).1
     rw [← hB] at hb5
     have halk := fun w6 (hb : Below w5.heap.size w5 w6) => alike_calls w6 (hO5.below hb) (by omega) (hm5.below hb) HP6.out.2.1 q2
     have Halk := Lib.hid halk
     have Ha := Lib.hid (Hans.out w5 hb5)
     have Hb5 := Lib.hid hb5
     clear halk hb5 hm5 q2 q3 hO5 hfb5 hst5 hnew5 hgo5 hrec
     go_wp2_with fail
     refine (Ha.out).mono ?_; rintro e w6 ⟨rfl, hb6⟩
     have Hb6 := Lib.hid hb6
     clear hb6
     go_wp2_with fail
     refine (Halk.out _ Hb6.out).mono ?_; rintro e w7 ⟨rfl, hb7⟩
     have hfin := Hb5.out.trans ((Hb6.out.trans (hb7.mono Hb6.out.size)).mono Hb5.out.size)
     clear hb7
     go_wp2
     go_ret
     exact ⟨rfl, hfin⟩
    ·exact absurd rfl r3
theorem storePlays_all (a : Int) (v : Value) (ops : List OpV) (w : World) (wa : (Lit.int .u16 a).wf = true) (hv : RdO w v ops) (ho : ∀ o ∈ ops, OpArg0 w o) (hg : GOk w) (hmax : MaxOk w) :
 Calls Tryz.prog 6 #[.int .u16 a, v] w fun e w' => e = .returned (.bool true) ∧ Below w.heap.size w w' := by
 have h : 0 ≤ a ∧ a ≤ 65535 := by simpa [Lit.wf, IntKind.has, IntKind.min, IntKind.max, IntKind.signed, IntKind.bits] using wa
 have e : a = ((a.toNat : Nat) : Int) := by omega
 rw [e]
 exact storePlays_calls _ v ops w (by omega) hv ho hg hmax
end Go.Proofs.YtffnbkmigapmjaaGreatDoor
set_option maxRecDepth 100000
namespace Go.Proofs.YtffnbkmigapmjaaGreatDoor
open Go.ChangeShapes Go.WideShapes Go.Deep Go.RowKit
theorem i64_wf {n : Int} (h : (Lit.int .i64 n).wf = true) : -9223372036854775808 ≤ n ∧ n ≤ 9223372036854775807 := by
 simpa [Lit.wf, IntKind.has, IntKind.min, IntKind.max, IntKind.signed, IntKind.bits] using h
theorem fieldsOp : ∃ f0 f1 f2 f3 f4 : Field, Tryz.prog.underlying 72 = some (.struct #[f0, f1, f2, f3, f4]) ∧ (f0.type = 3 ∧ f0.offset = 0) ∧ (f1.type = 3 ∧ f1.offset = 1) ∧ (f2.type = 29 ∧ f2.offset = 2) ∧ (f3.type = 53 ∧ f3.offset = 8) ∧ (f4.type = 5 ∧ f4.offset = 11) :=
 ⟨_, _, _, _, _, Tryz.underlying72, ⟨rfl, rfl⟩, ⟨rfl, rfl⟩, ⟨rfl, rfl⟩, ⟨rfl, rfl⟩, rfl, rfl⟩
section
variable {H : Type} {enc : TypeId × Value → H} {W : World} {r : Reach} {b0 base : Nat} {held : Bool} {v : Value} {d : DataW H} {p : List MemPlace}
theorem mail_trodU {n : Nat} {cs : List Value} {y : DataW H × List MemPlace} (h : DataW.trod enc Tryz.prog W base (fun _ => true) held n 29 cs = some y) :
 ∃ (m : MailD) (ar : Option Addr) (cr : Nat) (ab : Option Addr) (cb : Nat), cs = [.int .i64 m.id, .int .i64 m.parent, .int .i64 m.born, .string (strL m.frm), .slice ar m.rcpts.length cr, .slice ab m.body.length cb] ∧ RdS W (.slice ar m.rcpts.length cr) m.rcpts ∧ RdB W (.slice ab m.body.length cb) m.body ∧ NilOk (.slice ar m.rcpts.length cr) ∧ NilOk (.slice ab m.body.length cb) ∧ (∀ l ∈ m.rcpts, l.length ≤ Rows.uptoBulk y.1) ∧ m.frm.length ≤ Rows.uptoBulk y.1 ∧ (-9223372036854775808 ≤ m.parent ∧ m.parent ≤ 9223372036854775807) := by
 obtain ⟨f0, f1, f2, f3, f4, f5, hu, ⟨t0, o0⟩, ⟨t1, o1⟩, ⟨t2, o2⟩, ⟨t3, o3⟩, ⟨t4, o4⟩, t5, o5⟩ := fieldsMail
 obtain ⟨xs, m, _, hxx, hl, hxl, hat⟩ := DataW.trod_struct hu h
 have hc : Tryz.prog.cellsOf 29 = 6 := by kernel_rfl
 have hi : Tryz.prog.cellsOf 3 = 1 := by kernel_rfl
 have hs : Tryz.prog.cellsOf 9 = 1 := by kernel_rfl
 have hss : Tryz.prog.cellsOf 27 = 1 := by kernel_rfl
 have hbb : Tryz.prog.cellsOf 22 = 1 := by kernel_rfl
 rw [hc] at hl
 match cs, hl with
 | [c0, c1, c2, c3, c4, c5], _ =>
  match xs, hxl with
  | [y0, y1, y2, y3, y4, y5], _ =>
   have g0 := hat 0 f0 rfl
   have g1 := hat 1 f1 rfl
   have g2 := hat 2 f2 rfl
   have g3 := hat 3 f3 rfl
   have g4 := hat 4 f4 rfl
   have g5 := hat 5 f5 rfl
   rw [t0, o0, hi] at g0
   rw [t1, o1, hi] at g1
   rw [t2, o2, hi] at g2
   rw [t3, o3, hs] at g3
   rw [t4, o4, hss] at g4
   rw [t5, o5, hbb] at g5
   obtain ⟨n0, e0, _⟩ := DataW.trod_int (P := Tryz.prog) Tryz.underlying3 g0
   obtain ⟨n1, e1, _, hw1⟩ := DataW.trod_int (P := Tryz.prog) Tryz.underlying3 g1
   obtain ⟨n2, e2, _⟩ := DataW.trod_int (P := Tryz.prog) Tryz.underlying3 g2
   obtain ⟨s3, e3, y3', _⟩ := DataW.trod_string (P := Tryz.prog) Tryz.underlying9 g3
   simp only [List.drop_succ_cons, List.drop_zero, List.take_succ_cons, List.take_zero, List.cons.injEq, and_true] at e0 e1 e2 e3 g4 g5
   obtain ⟨ls, hr, hn, hls⟩ := rdS_trodU g4
   obtain ⟨bs, hb, hn2⟩ := rdB_trod g5
   subst e0 e1 e2 e3
   have hd : y.1 = .agg [y0.1, y1.1, y2.1, y3.1, y4.1, y5.1] := by simpa using congrArg Prod.fst hxx
   have hb3 : Rows.uptoBulk y3.1 ≤ Rows.uptoBulk y.1 := by rw [hd]; exact bulk_part (by simp)
   have hb4 : Rows.uptoBulk y4.1 ≤ Rows.uptoBulk y.1 := by rw [hd]; exact bulk_part (by simp)
   obtain ⟨ar, cr, e4, _⟩ := hr.form
   obtain ⟨ab, cb, e5, _⟩ := hb.form
   subst e4 e5
   refine ⟨⟨n0, n1, n2, s3.data.toList, ls, bs⟩, ar, cr, ab, cb, rfl, hr, hb, hn, hn2, fun l hl => Nat.le_trans (hls l hl) hb4, Nat.le_trans ?_ hb3, i64_wf hw1⟩
   rw [y3', bulk_str]; exact Nat.le_succ _
theorem op_trod {n : Nat} {cs : List Value} {y : DataW H × List MemPlace} (h : DataW.trod enc Tryz.prog W base (fun _ => true) held n 72 cs = some y) (hu : Rows.uptoBulk y.1 ≤ 1048576) :
 ∃ o : OpV, cs = opCells o ∧ OpArg0 W o := by
 obtain ⟨f0, f1, f2, f3, f4, hul, ⟨t0, o0⟩, ⟨t1, o1⟩, ⟨t2, o2⟩, ⟨t3, o3⟩, t4, o4⟩ := fieldsOp
 obtain ⟨xs, m, _, hxx, hl, hxl, hat⟩ := DataW.trod_struct hul h
 have hc : Tryz.prog.cellsOf 72 = 12 := by kernel_rfl
 have hi : Tryz.prog.cellsOf 3 = 1 := by kernel_rfl
 have hm : Tryz.prog.cellsOf 29 = 6 := by kernel_rfl
 have hk : Tryz.prog.cellsOf 53 = 3 := by kernel_rfl
 have hb : Tryz.prog.cellsOf 5 = 1 := by kernel_rfl
 rw [hc] at hl
 match cs, hl with
 | [c0, c1, c2, c3, c4, c5, c6, c7, c8, c9, ca, cb], _ =>
  match xs, hxl with
  | [y0, y1, y2, y3, y4], _ =>
   have g0 := hat 0 f0 rfl
   have g1 := hat 1 f1 rfl
   have g2 := hat 2 f2 rfl
   have g3 := hat 3 f3 rfl
   have g4 := hat 4 f4 rfl
   rw [t0, o0, hi] at g0
   rw [t1, o1, hi] at g1
   rw [t2, o2, hm] at g2
   rw [t3, o3, hk] at g3
   rw [t4, o4, hb] at g4
   obtain ⟨n0, e0, _⟩ := DataW.trod_int (P := Tryz.prog) Tryz.underlying3 g0
   obtain ⟨n1, e1, _, hw1⟩ := DataW.trod_int (P := Tryz.prog) Tryz.underlying3 g1
   obtain ⟨n4, e4, _, hw4⟩ := DataW.trod_int (P := Tryz.prog) Tryz.underlying5 g4
   obtain ⟨k, e3⟩ := mark_cells g3
   obtain ⟨ml, ar, cr, ab, cbb, e2, hr, hbd, hn1, hn2, hl1, hl2, hp⟩ := mail_trodU g2
   simp only [List.drop_succ_cons, List.drop_zero, List.take_succ_cons, List.take_zero, List.cons.injEq, and_true, MarkD.cells] at e0 e1 e2 e3 e4
   obtain ⟨rfl, rfl, rfl, rfl, rfl, rfl⟩ := e2
   obtain ⟨rfl, rfl, rfl⟩ := e3
   subst e0 e1 e4
   have hd : y.1 = .agg [y0.1, y1.1, y2.1, y3.1, y4.1] := by simpa using congrArg Prod.fst hxx
   have hb2 : Rows.uptoBulk y2.1 ≤ Rows.uptoBulk y.1 := by rw [hd]; exact bulk_part (by simp)
   have h4 : 0 ≤ n4 ∧ n4 ≤ 255 := by simpa [Lit.wf, IntKind.has, IntKind.min, IntKind.max, IntKind.signed, IntKind.bits] using hw4
   refine ⟨⟨n0, n1, ml, k, UInt8.ofNat n4.toNat, ar, cr, ab, cbb⟩, ?_, hr, hbd, hn1, hn2, ⟨by dsimp only; omega, fun l hl => by have := hl1 l hl; omega⟩, i64_wf hw1, hp⟩
   unfold opCells
   have : (((UInt8.ofNat n4.toNat).toNat : Nat) : Int) = n4 := by
    rw [UInt8.toNat_ofNat', Nat.mod_eq_of_lt (by omega)]; omega
   rw [this]
theorem ops_argU (hv : Value.okWide Tryz.prog W r b0 64 v) (h : DataW.Trod enc Tryz.prog W base (fun _ => true) held 64 v d p) (hu : Rows.uptoBulk d ≤ 1048576) : ∃ os, RdO W v os ∧ ∀ o ∈ os, OpArg0 W o := by
 obtain ⟨a0, len0, cap0, rfl⟩ := okWide_slice Tryz.underlying64 hv
 obtain ⟨fuel, hf⟩ := h
 rcases open_slice Tryz.underlying64 hf with ⟨hcs, _⟩ | ⟨x, l, c, m, n, D, Pl, hcs, _, hl, hm, hmm, hdd, hcell⟩
 ·simp [Value.cells] at hcs
  obtain ⟨rfl, rfl, rfl⟩ := hcs
  exact ⟨[], .inl ⟨_, _, rfl, by decide, rfl⟩, fun o ho => by cases ho⟩
 ·simp [Value.cells] at hcs
  obtain ⟨rfl, rfl, rfl⟩ := hcs
  rw [if_pos rfl] at hmm
  subst hmm
  have hc : Tryz.prog.cellsOf 72 = 12 := by kernel_rfl
  have hall : ∀ i : Nat, i < len0 → ∃ o : OpV, W.cells? base (x.add (i * 12)) 12 = some (opCells o) ∧ OpArg0 W o := by
   intro i hi
   obtain ⟨cs', h1, h2⟩ := hcell i (by omega)
   rw [hc] at h1
   have hb : Rows.uptoBulk (D i) ≤ 1048576 := by
    have h3 := bulk_in (x := D i) (l := (List.range len0).map D) (List.mem_map.2 ⟨i, List.mem_range.2 hi, rfl⟩)
    have h4 : d = _ := congrArg Prod.fst hdd
    rw [h4, Rows.uptoBulk] at hu
    omega
   obtain ⟨o, rfl, ho⟩ := op_trod h2 hb
   exact ⟨o, h1, ho⟩
  by_cases hz : len0 = 0
  ·subst hz; exact ⟨[], .inl ⟨_, _, rfl, hm, rfl⟩, fun o ho => by cases ho⟩
  ·have hx : ∃ b off, x = ⟨b, off, none⟩ := by
    obtain ⟨o, hk, _⟩ := hall 0 (by omega)
    have := (World.cells?_some hk).2.2 0 (by omega)
    rw [Nat.zero_mul] at this
    obtain ⟨b, off, s⟩ := x
    refine addr_plain (n := 0) (v := .int .i64 o.kind) (w := W) ?_
    simpa [Addr.add, opCells] using this
   obtain ⟨b, off, rfl⟩ := hx
   refine ⟨(List.range len0).map fun i => if hi : i < len0 then (hall i hi).choose else ⟨0, 0, ⟨0, 0, 0, [], [], []⟩, ⟨0, 0, 0⟩, 0, none, 0, none, 0⟩, .inr ⟨b, off, m, by simp, by simp; omega, by simpa using hl, hm, ?_, ?_⟩, fun o ho => ?_⟩
   ·obtain ⟨k, hk, _⟩ := hall 0 (by omega)
    have := (World.cells?_some hk).2.2 0 (by omega)
    rw [Nat.zero_mul, add_plain, add_plain] at this
    exact World.block_lt_of_cell? W _ this
   ·intro i k hk j u hu
    have hi : i < len0 := by have := (List.getElem?_eq_some_iff.1 hk).1; simpa using this
    rw [List.getElem?_map, List.getElem?_range hi] at hk
    simp only [Option.map_some, Option.some.injEq] at hk
    rw [dif_pos hi] at hk
    have hs := (hall i hi).choose_spec.1
    rw [hk] at hs
    have hj : j < 12 := (List.getElem?_eq_some_iff.1 hu).1
    have := (World.cells?_some hs).2.2 j hj
    rw [add_plain, add_plain, Nat.add_assoc] at this
    rw [this, hu]
   ·obtain ⟨i, hi, rfl⟩ := List.mem_map.1 ho
    have hi := List.mem_range.1 hi
    rw [dif_pos hi]
    exact (hall i hi).choose_spec.2
end
end Go.Proofs.YtffnbkmigapmjaaGreatDoor
set_option maxRecDepth 100000
namespace Go.Proofs.YtffnbkmigapmjaaGreatDoor
open Go.RowKit Go.ChangeShapes
theorem tab_gb {w w' : World} {name : String} {k : IntKind} {zs : List Int} {g : Nat} (hg : Tryz.prog.globalNamed name = some g) (hn : g < NG) (h : Lib.TabIs Tryz.prog w name k zs) (hb : GB w w') : Lib.TabIs Tryz.prog w' name k zs := by
 unfold Lib.TabIs World.var? at h ⊢
 rw [hg] at h ⊢
 simp only [Option.bind_some] at h ⊢
 have hl : g < w.heap.size := by
  rcases Nat.lt_or_ge g w.heap.size with h' | h'
  ·exact h'
  ·rw [Array.getElem?_eq_none h'] at h; cases h
 rw [hb.block g hn hl]; exact h
theorem below_grow (w : World) (k : Nat) (os : Array Obj) : Below w.heap.size w (Go.Sort.grow (w.drewN k) os) :=
 ⟨rfl, rfl, rfl, by show w.heap.size ≤ (w.heap ++ os).size; simp, fun i hi => by show (w.heap ++ os)[i]? = w.heap[i]?; rw [Array.getElem?_append_left hi]⟩
theorem itoa_tab {w : World} (h : Lib.TabIs Tryz.prog w "internal/strconv.uint64pow10" .u64 Lib.pow10Tab) (n : Nat) (hn : n ≤ 999999999) : ItoaOk n w := fun w' hb => by
 have h' := tab_gb (g := 1) (by kernel_rfl) (by unfold NG; omega) h hb
 refine (Tryz.strconv_Itoa (n : Int) (by omega) (by omega) w' h').mono ?_
 rintro e w2 ⟨rfl, k, os, rfl⟩
 refine ⟨?_, below_grow w' k os⟩
 have hi : Lib.itoa (n : Int) = Lib.decDigits n := by unfold Lib.itoa; rw [if_neg (by omega), Int.toNat_natCast]
 rw [hi]; rfl
theorem err_row (u : TypeId) (h : Tryz.prog.typeName? 3 u = some "*errors.errorString") : u = 275 :=
 typeName_ptr_named (nm := "errors.errorString") (by rw [show "*" ++ "errors.errorString" = "*errors.errorString" by decide]; kernel_rfl) (by kernel_rfl) (by decide) u (by rw [show "*" ++ "errors.errorString" = "*errors.errorString" by decide]; exact h)
theorem gok_of {W : World} {l1 l2 l4 : String × DataW Unit} {a b : List UInt8} {rest : List (String × DataW Unit)}
 (h : laidMet Tryz.prog (l1 :: l2 :: ("internal/strconv.uint64pow10", Lib.tabData .u64 Lib.pow10Tab) :: l4 :: ("strconv.ErrRange", .iface "*errors.errorString" (.ptr (.agg [.lit (.string a)]))) :: ("strconv.ErrSyntax", .iface "*errors.errorString" (.ptr (.agg [.lit (.string b)]))) :: rest) W) (hs : W.ShapedOpen Tryz.prog) : GOk W := by
 have htab : Lib.TabIs Tryz.prog W "internal/strconv.uint64pow10" .u64 Lib.pow10Tab := Lib.tabIs_of_head (g := 1) (t := 244) (e := 146) (n := 20) (by kernel_rfl) (by kernel_rfl) (by kernel_rfl) (by kernel_rfl) (by kernel_rfl) (by kernel_rfl) h.tail.tail
 obtain ⟨a0, s0, hv0, _⟩ := laid_sentinel (g := 3) (ti := 140) (te := 277) (ts := 9) h.tail.tail.tail.tail (by kernel_rfl) (by kernel_rfl) Tryz.underlying140 err_row Tryz.underlying275 Tryz.underlying277 rfl rfl (by kernel_rfl) (by kernel_rfl) (by kernel_rfl)
 obtain ⟨a1, s1, hv1, _⟩ := laid_sentinel (g := 2) (ti := 140) (te := 277) (ts := 9) h.tail.tail.tail.tail.tail (by kernel_rfl) (by kernel_rfl) Tryz.underlying140 err_row Tryz.underlying275 Tryz.underlying277 rfl rfl (by kernel_rfl) (by kernel_rfl) (by kernel_rfl)
 have c0 : W.cell? ⟨3, 0, none⟩ = some (.iface 275 (.pointer (some a0))) := World.var?_cell (by kernel_rfl) hv0 0
 have c1 : W.cell? ⟨2, 0, none⟩ = some (.iface 275 (.pointer (some a1))) := World.var?_cell (by kernel_rfl) hv1 0
 obtain ⟨m, cm⟩ := maxOk_of hs
 have hsz : NG ≤ W.heap.size := by
  have h0 := Lib.lt_of_cell c0
  have h1 := Lib.lt_of_cell c1
  have h2 := Lib.lt_of_cell cm
  have h3 : 1 < W.heap.size := by
   have h := htab
   unfold Lib.TabIs World.var? at h
   rw [show Tryz.prog.globalNamed "internal/strconv.uint64pow10" = some 1 by kernel_rfl] at h
   simp only [Option.bind_some] at h
   rcases Nat.lt_or_ge 1 W.heap.size with h' | h'
   ·exact h'
   ·rw [Array.getElem?_eq_none h'] at h; cases h
  unfold NG
  dsimp only at h0 h1 h2
  omega
 exact ⟨hsz, itoa_tab htab, ⟨_, c1, .inr ⟨_, _, rfl⟩⟩, ⟨_, c0, .inr ⟨_, _, rfl⟩⟩⟩
end Go.Proofs.YtffnbkmigapmjaaGreatDoor
