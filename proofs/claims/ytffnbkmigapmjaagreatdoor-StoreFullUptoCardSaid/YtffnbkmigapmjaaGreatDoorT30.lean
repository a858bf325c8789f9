/- Printed out of the texts of wip/tpl. -/
import Derived.Test.YtffnbkmigapmjaaGreatDoorT10
import Derived.Test.YtffnbkmigapmjaaGreatDoorT19
import Derived.Test.YtffnbkmigapmjaaGreatDoorT20
import Derived.Test.YtffnbkmigapmjaaGreatDoorT23
import Derived.Test.YtffnbkmigapmjaaGreatDoorT24
import Derived.Lib.SlBytesConst
set_option linter.unusedSimpArgs false
set_option linter.unusedVariables false
set_option maxRecDepth 100000
namespace Go.Proofs.YtffnbkmigapmjaaGreatDoor
open Go.RowKit Go.Maps
theorem listD_nil (q : UInt8) : listD [] q = [] := by unfold listD; simp
set_option maxHeartbeats 8000000 in
theorem parents0_calls (s : Nat) (d : StoD) (ρ : Rho) (w : World) (h : StoAt w s d ρ) (hw : d.whr = []) :
 Calls Tryz.prog 103 #[.pointer (some ⟨s, 0, none⟩)] w fun e w' => e = .returned (.int .i64 0) ∧ Below w.heap.size w w' := by
 obtain ⟨i0, hi, hz0, hz1, hz2⟩ := info_parts infoInt'
 have hkc : (convert 22 22 (.slice (some ⟨w.heap.size, 0, none⟩) 3 3)).run Tryz.prog (w.alloc (.cells #[.int .u8 105, .int .u8 97, .int .u8 100] 5)) = .ok (.slice (some ⟨w.heap.size, 0, none⟩) 3 3) (w.alloc (.cells #[.int .u8 105, .int .u8 97, .int .u8 100] 5 (3, 4))) :=
  Lib.run_convert_bytes_const (P := Tryz.prog) w 22 5 #[.int .u8 105, .int .u8 97, .int .u8 100] 3 3 Tryz.underlying22 Tryz.underlying5
 obtain ⟨W, hW⟩ : ∃ W, w.alloc (.cells #[.int .u8 105, .int .u8 97, .int .u8 100] 5 (3, 4)) = W := ⟨_, rfl⟩
 have hbW : Below w.heap.size w W := by rw [← hW]; exact (Below.refl _ _).alloc (Nat.le_refl _) _
 have hh : W.heap[w.heap.size]? = some (.cells ([105, 97, 100].map u8v).toArray 5 (3, 4)) := by rw [← hW]; exact heap_alloc_new w _
 have hWs : w.heap.size < W.heap.size := (Array.getElem?_eq_some_iff.1 hh).1
 have hnil : W.ownsRow W.heap.size 3 1 (.slice none 0 0) 0 [] := World.ownsRow_nil _ _ _ _
 have hlist := fun w1 (hb : Below w.heap.size w w1) (q : UInt8) => slist_calls s d ρ w1 (h.below hb) q (by rw [hw]; decide)
 rw [hw] at hlist
 rw [hW] at hkc
 have Hlist := Lib.hid hlist
 have Hh := Lib.hid hh
 have HWs := Lib.hid hWs
 have HbW := Lib.hid hbW
 clear hlist hh hWs hbW h hw
 subst hW
 go_enter Tryz.func103, Tryz.ntmps103
 go_wp2
 generalize hW : w.alloc (.cells #[.int .u8 105, .int .u8 97, .int .u8 100] 5 (3, 4)) = W at *
 clear hkc hW
 go_loopw [3, 15] (fun v i wr => ∃ j : Nat, j ≤ 3 ∧ i = .int .i64 j ∧ wr.ownsRow W.heap.size 3 1 v 0 [] ∧ Below W.heap.size W wr) (fun _ i _ => 3 - (intOf i).toNat)
 case atStart => exact ⟨0, Nat.zero_le _, rfl, hnil, Below.refl _ _⟩
 case round =>
  obtain ⟨j, hj, rfl, hown, hbw⟩ := hrel
  obtain ⟨av, cv, rfl⟩ := own_form0 hown
  have Hown := Lib.hid hown
  have Hbw := Lib.hid hbw
  have hbw1 := HbW.out.trans (hbw.mono HbW.out.size)
  have Hbw1 := Lib.hid hbw1
  clear hown hnil
  by_cases hlt : j < 3
  ·obtain ⟨q, hq⟩ : ∃ q, ([105, 97, 100] : List UInt8)[j]? = some q := ⟨_, List.getElem?_eq_getElem hlt⟩
   have hcell : wr.cell? ⟨w.heap.size, j, none⟩ = some (.int .u8 q.toNat) := by
    rw [cell_of_row _ _ _ _ _ _ ((hbw.block _ HWs.out).trans Hh.out), List.getElem?_toArray, List.getElem?_map, hq]; rfl
   have hj0 : (0 : Int) ≤ (j : Int) := by omega
   have hj1 : (j : Int) < 3 := by omega
   have hl := Hlist.out _ hbw1 q
   rw [listD_nil] at hl
   have Hl := Lib.hid hl
   clear hl hq hbw hbw1
   obtain ⟨qn, hqn⟩ : ∃ qn : Nat, q.toNat = qn := ⟨_, rfl⟩
   rw [hqn] at hcell Hl
   clear hqn
   go_wp2_with fail
   refine (Hl.out).mono ?_; rintro e w2 ⟨v2, rfl, hrow2, hb2⟩
   have hbw2 := Hbw1.out.trans (hb2.mono Hbw1.out.size)
   have hown2 : w2.ownsRow W.heap.size 3 1 (.slice av 0 cv) 0 [] := own_below Hown.out hb2 (Nat.le_refl _)
   have hbW2 := Hbw.out.trans (hb2.mono Hbw.out.size)
   have hsrc : RdL 1 i1' w2 v2 ([] : List Int) := rdL_ofOwn i1_len' (by decide) hrow2
   have hnv := nilOk_own hrow2
   have hbs := hbW2.size
   have hbase2 := own_base hown2
   have Hown2 := Lib.hid hown2
   have Hsrc := Lib.hid hsrc
   have Hnv := Lib.hid hnv
   have HbW2 := Lib.hid hbW2
   have hone : ∀ c ∈ ([] : List Int).flatMap i1', c.oneCell' = true := by intro c hc; cases hc
   have hm1 : 0 + ([] : List Int).length ≤ maxLen := by decide
   have hm2 : (0 + ([] : List Int).length) * 8 ≤ 140737488355328 := by decide
   have Hone := Lib.hid hone
   clear hrow2 hb2 hown2 hsrc hnv hbW2 hbw2 hone hcell
   go_wp2_with (at_builtin; go_must (refine wpList_append_any i1_len' (by decide) rfl (.tmp 19) (.tmp 22) 47 rfl W.heap.size 3 i0 _ 8 Tryz.underlying47 hi hz0 hz1 hz2 rfl _ _ _ rfl Hown2.out _ [] rfl Hsrc.out Hnv.out Hone.out hm1 hm2 hbs ?_); rintro v' w3 hown3 hg3 hn3)
   have hb3 := HbW2.out.grown hg3 HbW2.out.size hbase2
   have Hown3 := Lib.hid hown3
   have Hb3 := Lib.hid hb3
   clear hown3 hg3 hn3 hb3
   go_wp2
   go_roundw
   case rel => exact ⟨j + 1, by omega, by simp, Hown3.out, Hb3.out⟩
   case measure => simp [intOf] <;> omega
  ·have hje : j = 3 := by omega
   subst hje
   have hsr := sortI_calls (.slice av 0 cv) [] W.heap.size wr Hown.out (by decide)
   have Hsr := Lib.hid hsr
   have hbase := own_base Hown.out
   clear hsr hbw hbw1
   go_wp2_with fail
   refine (Hsr.out).mono ?_; rintro e w2 ⟨rfl, hown2, hg2⟩
   have hb2 := (Hbw.out.grown hg2 Hbw.out.size hbase)
   have hbw2 := HbW.out.trans (hb2.mono HbW.out.size)
   clear hown2 hg2 hb2
   go_wp2
   go_loopw [29] (fun i wr2 => i = .int .i64 0 ∧ Below w.heap.size w wr2) (fun _ _ => 1)
   case atStart => exact ⟨rfl, hbw2⟩
   case round =>
    obtain ⟨rfl, hb5⟩ := hrel
    go_wp2
    go_ret
    exact ⟨rfl, hb5⟩
set_option maxHeartbeats 8000000 in
theorem recover0_calls (s : Nat) (d : StoD) (ρ : Rho) (w : World) (h : StoAt w s d ρ) (hw : d.whr = []) (hn : d.fs.now = []) (hdn : d.fs.down = false) :
 Calls Tryz.prog 56 #[.pointer (some ⟨s, 0, none⟩)] w fun e w' => e = .returned (.int .i64 0) ∧ Below w.heap.size w w' := by
 have hlist := fun w1 (hb : Below w.heap.size w w1) => list_calls d.fb d.fs ρ w1 (h.below hb).fs hdn (by rw [hn]; decide)
 have hpar := fun w1 (hb : Below w.heap.size w w1) => parents0_calls s d ρ w1 (h.below hb) hw
 have c0 := fun w1 (hb : Below w.heap.size w w1) => (cells4 (h.below hb).hd).1.1
 have hlen : d.fs.now.length = 0 := by rw [hn]; rfl
 rw [hlen] at hlist
 obtain ⟨fb, hfb⟩ : ∃ fb, d.fb = fb := ⟨_, rfl⟩
 rw [hfb] at hlist c0
 have Hlist := Lib.hid hlist
 have Hpar := Lib.hid hpar
 have C0 := Lib.hid c0
 have c0 := C0.out w (Below.refl _ _)
 clear hlist hpar hlen hfb h hw hn hdn
 go_enter Tryz.func56, Tryz.ntmps56
 go_wp2_with fail
 refine (Hlist.out w (Below.refl _ _)).mono ?_; rintro e w1 ⟨v, ss, rfl, _, hl, hrow, hb1⟩
 rw [hl] at hrow
 obtain ⟨av, cv, rfl⟩ := own_form0 hrow
 clear hrow c0
 go_wp2
 go_loopw [21] (fun i wr => i = .int .i64 0 ∧ Below w.heap.size w wr) (fun _ _ => 1)
 case atStart => exact ⟨rfl, hb1⟩
 case round =>
  obtain ⟨rfl, hb2⟩ := hrel
  have c0 := C0.out _ hb2
  have Hb2 := Lib.hid hb2
  clear hb2 hb1
  go_wp2_with fail
  refine (Hlist.out _ Hb2.out).mono ?_; rintro e w3 ⟨v, ss, rfl, _, hl, hrow, hb3⟩
  rw [hl] at hrow
  obtain ⟨av2, cv2, rfl⟩ := own_form0 hrow
  have hb3' := Hb2.out.trans (hb3.mono Hb2.out.size)
  clear hrow c0 hb3
  go_wp2
  go_loopw [54] (fun i wr => i = .int .i64 0 ∧ Below w.heap.size w wr) (fun _ _ => 1)
  case atStart => exact ⟨rfl, hb3'⟩
  case round =>
   obtain ⟨rfl, hb4⟩ := hrel
   have Hb4 := Lib.hid hb4
   clear hb4 hb3'
   go_wp2_with fail
   refine (Hpar.out _ Hb4.out).mono ?_; rintro e w5 ⟨rfl, hb5⟩
   have hb5' := Hb4.out.trans (hb5.mono Hb4.out.size)
   clear hb5
   go_wp2
   go_ret
   exact ⟨rfl, hb5'⟩
structure Open0Done (w : World) (f : Nat) (fs : FsD) (ρ : Rho) (e : Ending) (w' : World) (s : Nat) (d : StoD) : Prop where
 ret : e = .returned (.tuple #[.pointer (some ⟨s, 0, none⟩), .int .i64 0])
 at_ : StoAt w' s d ρ
 eq : ∃ ib mb, d = ⟨fs, f, ib, mb, 0, 0, [], [], false⟩ ∧ w.heap.size ≤ ib ∧ w.heap.size ≤ mb
 new : w.heap.size ≤ s
 below : Below w.heap.size w w'
set_option maxHeartbeats 8000000 in
theorem open0_calls (f : Nat) (fs : FsD) (ρ : Rho) (w : World) (h : FsAt w f fs ρ) (hn : fs.now = []) (hdn : fs.down = false) (hg : GOk w) :
 Calls Tryz.prog 17 #[.pointer (some ⟨f, 0, none⟩)] w fun e w' => ∃ s d, Open0Done w f fs ρ e w' s d := by
 have hmm := @run_makeMap Tryz.prog
 have hio := idsOpen_calls f fs ρ w h hdn (by rw [hn]; decide) (fun p hp => by rw [hn] at hp; cases hp) hg
 have hrho : ∀ k, w.heap.size ≤ k → ρ k = none := fun k hk => by
  cases hr : ρ k with
  | none => rfl
  | some r => have := h.rest.lt k (by rw [hr]; rfl); omega
 have Hio := Lib.hid hio
 have Hrho := Lib.hid hrho
 have H := Lib.hid (And.intro h (And.intro hn hdn))
 clear hio hrho h hn hdn hg
 go_enter Tryz.func17, Tryz.ntmps17
 go_wp2_with fail
 refine (Hio.out).mono ?_; rintro e w1 ⟨ib, ss, rfl, hnm, hhd, hnew, hb1⟩
 have hss : ss = [] := by
  have := (sortedNm.perm hnm).length_eq
  rw [H.out.2.1] at this
  exact List.length_eq_zero_iff.1 this
 subst hss
 have hl0 : lastNum (numL []) = (0, []) := rfl
 rw [hl0] at hhd
 dsimp only at hhd
 obtain ⟨W2, hW2⟩ : ∃ W2, w1.alloc (.map #[] 0) = W2 := ⟨_, rfl⟩
 obtain ⟨W3, hW3⟩ : ∃ W3, W2.alloc (.cells #[.pointer (some ⟨f, 0, none⟩), .pointer (some ⟨ib, 0, none⟩), .map (some w1.heap.size), .bool false] 112) = W3 := ⟨_, rfl⟩
 have z2 : W2.heap.size = w1.heap.size + 1 := by rw [← hW2]; simp
 have b2 : Below w1.heap.size w1 W2 := by rw [← hW2]; exact (Below.refl _ _).alloc (Nat.le_refl _) _
 have b3 : Below W2.heap.size W2 W3 := by rw [← hW3]; exact (Below.refl _ _).alloc (Nat.le_refl _) _
 have b13 := b2.trans (b3.mono b2.size)
 have bw3 := hb1.trans (b13.mono hb1.size)
 have m2 : WhAt W2 w1.heap.size [] := by rw [← hW2]; exact World.ownsMap_made w1 Tryz.prog 3 (plainElem Tryz.prog 5)
 have m3 : WhAt W3 w1.heap.size [] := whMap_keeps (F := fun _ => False) m2 (Keeps.ofBelow b3) id
 have hs3 : W3.heap[w1.heap.size + 1]? = some (.cells #[.pointer (some ⟨f, 0, none⟩), .pointer (some ⟨ib, 0, none⟩), .map (some w1.heap.size), .bool false] 112 (0, 0)) := by rw [← hW3]; exact heap_new_at _ z2.symm
 have hids := (b13.block _ (Array.getElem?_eq_some_iff.1 hhd).1).trans hhd
 have hs1 := hb1.size
 have hA : StoAt W3 (w1.heap.size + 1) ⟨fs, f, ib, w1.heap.size, 0, 0, [], [], false⟩ ρ := ⟨H.out.1.below bw3, hs3, hids, m3, Hrho.out _ (by omega), Hrho.out _ hnew, Hrho.out _ hs1⟩
 have hrc := recover0_calls (w1.heap.size + 1) _ ρ W3 hA rfl H.out.2.1 H.out.2.2
 have Hrc := Lib.hid hrc
 have HA := Lib.hid (And.intro hA (And.intro hnew (And.intro hs1 bw3)))
 clear hrc hA hids hs3 m2 m3 bw3 b13 b3 b2 hhd hl0 hnm hb1
 subst hW3
 subst hW2
 go_wp2_with fail
 refine (Hrc.out).mono ?_; rintro e w4 ⟨rfl, hb4⟩
 have Hb4 := Lib.hid hb4
 clear hb4
 go_wp2
 go_ret2
 obtain ⟨q1, q2, q3, q4⟩ := HA.out
 exact ⟨w1.heap.size + 1, _, rfl, q1.below Hb4.out, ⟨ib, w1.heap.size, rfl, q2, q3⟩, by omega, q4.trans (Hb4.out.mono q4.size)⟩
theorem MaxOk.gb {w w' : World} (h : MaxOk w) (hg : GB w w') : MaxOk w' := by
 obtain ⟨m, hm⟩ := h
 exact ⟨m, cell_gb hm hg (by unfold NG; omega)⟩
structure StoOk (w : World) (s : Nat) (d : StoD) (ρ : Rho) : Prop where
 at_ : StoAt w s d ρ
 ok : FsOk d.fs
 g : GOk w
 mx : MaxOk w
 own : ∀ k, stoOwn s d ρ k → NG ≤ k
 last : 0 ≤ d.last ∧ d.last ≤ 999999999
 nf : d.nfile.length ≤ 1000
section
variable {w w' w1 : World} {s : Nat} {d d' d1 : StoD} {ρ ρ' ρ1 : Rho}
theorem stoOwn_lt (h : StoAt w s d ρ) {k : Nat} (hk : stoOwn s d ρ k) : k < w.heap.size := by
 rcases hk with e | e | e | e
 ·exact h.fs.rest.lt k e
 ·rw [e]; exact (Array.getElem?_eq_some_iff.1 h.hd).1
 ·rw [e]; exact (Array.getElem?_eq_some_iff.1 h.ids).1
 ·rw [e]; exact h.whr.lt
theorem StoStep.owns (hT : StoStep w s d ρ w' d' ρ') (hN : ∀ k, stoOwn s d ρ k → NG ≤ k) (hs : NG ≤ w.heap.size) : ∀ k, stoOwn s d' ρ' k → NG ≤ k := fun k hk => by
 rcases hT.grow k hk with e | e
 ·exact hN k e
 ·omega
theorem StoOk.step (h : StoOk w s d ρ) (hA : StoAt w' s d' ρ') (hT : StoStep w s d ρ w' d' ρ') (hok : FsOk d'.fs) (hl : 0 ≤ d'.last ∧ d'.last ≤ 999999999) (hn : d'.nfile.length ≤ 1000) : StoOk w' s d' ρ' :=
 have hg := GB.keeps hT.keeps h.own
 ⟨hA, hok, h.g.gb hg, h.mx.gb hg, hT.owns h.own h.g.size, hl, hn⟩
theorem StoOk.below (h : StoOk w s d ρ) (hb : Below w.heap.size w w') : StoOk w' s d ρ :=
 ⟨h.at_.below hb, h.ok, h.g.below hb, h.mx.below hb, h.own, h.last, h.nf⟩
theorem StoStep.new (hT : StoStep w s d ρ w1 d1 ρ1) {M j : Nat} {v : Value} (hM : w.heap.size ≤ M) : StoStep w s d ρ (w1.setCell ⟨M, j, none⟩ v) d1 ρ1 :=
 ⟨hT.keeps.go (Keeps.setCell (F := fun k => k = M) _ _ _ rfl) (fun i e => .inr (by omega)), hT.grow⟩
theorem StoStep.bel (hT : StoStep w s d ρ w1 d1 ρ1) (hb : Below w1.heap.size w1 w') : StoStep w s d ρ w' d1 ρ1 := hT.trans (StoStep.below hb)
theorem StoAt.other (h : StoAt w s d ρ) {M j : Nat} {v : Value} (hM : ¬ stoOwn s d ρ M) : StoAt (w.setCell ⟨M, j, none⟩ v) s d ρ :=
 h.keeps (F := fun k => k = M) (Keeps.setCell _ _ _ rfl) (fun k e => by rw [e]; exact hM)
theorem StoAt.setDown (h : StoAt w s d ρ) (b : Bool) : StoAt (w.setCell ⟨s, 3, none⟩ (.bool b)) s { d with down := b } ρ ∧ StoStep w s d ρ (w.setCell ⟨s, 3, none⟩ (.bool b)) { d with down := b } ρ :=
 h.head (d' := { d with down := b }) (Keeps.setCell _ _ _ rfl) rfl (heap_setCell_same _ _ 3 _ _ _ h.hd)
theorem StoAt.setMap {wh : Wh} (h : StoAt w s d ρ) (hm : WhAt w' d.mb wh) (hk : Keeps (fun j => j = d.mb) w w') : StoAt w' s { d with whr := wh } ρ ∧ StoStep w s d ρ w' { d with whr := wh } ρ := by
 refine ⟨⟨h.fs.keeps hk (fun k e => by rw [e]; exact h.rm), hk.heap h.hd (fun e => h.sm e), hk.heap h.ids (fun e => h.im e), hm, h.rs, h.ri, h.rm⟩, ⟨hk.mono (fun k _ e => .inr (.inr (.inr e))), fun k e => .inl e⟩⟩
theorem NextR.same {er id : Int} (h : NextR d er id d') : d'.fb = d.fb ∧ d'.ib = d.ib ∧ d'.mb = d.mb ∧ d'.whr = d.whr ∧ d'.down = d.down := by
 rcases h with ⟨_, _, _, rfl⟩ | ⟨_, _, _, _, rfl⟩ | ⟨_, _, _, e1, d1, hm, ⟨_, _, _, rfl⟩ | ⟨_, _, _, rfl⟩⟩ | ⟨_, _, _, _, _, rfl⟩
 ·exact ⟨rfl, rfl, rfl, rfl, rfl⟩
 ·exact ⟨rfl, rfl, rfl, rfl, rfl⟩
 ·obtain ⟨a, b, c, _, e, f⟩ := hm.same; exact ⟨a, b, c, e, f⟩
 ·obtain ⟨a, b, c, _, e, f⟩ := hm.same; exact ⟨a, b, c, e, f⟩
 ·exact ⟨rfl, rfl, rfl, rfl, rfl⟩
theorem MoreR.nfile {er : Int} (h : MoreR d er d') (hn : d.nfile.length ≤ 1000) : d'.nfile.length ≤ 1000 := by
 have := idsNameD_len (moreB d)
 obtain ⟨x, v, lv, ⟨_, _, rfl⟩ | ⟨_, f1, ms, f2, e2, _, _, ⟨_, _, rfl⟩ | ⟨_, _, _, rfl⟩ | ⟨_, _, v2, lv2, _, rfl⟩⟩⟩ := h
 ·exact hn
 all_goals (show (idsNameD (moreB d)).length ≤ 1000; omega)
theorem NextR.bounds {er id : Int} (h : NextR d er id d') (hl : 0 ≤ d.last ∧ d.last ≤ 999999999) (hn : d.nfile.length ≤ 1000) : (0 ≤ d'.last ∧ d'.last ≤ 999999999) ∧ d'.nfile.length ≤ 1000 ∧ (0 ≤ id ∧ id ≤ 999999999) ∧ (er = 0 → 1 ≤ id) := by
 rcases h with ⟨_, h1, h2, rfl⟩ | ⟨_, _, h1, h2, rfl⟩ | ⟨_, hne, _, e1, d1, hm, ⟨h0, h1, h2, rfl⟩ | ⟨_, h1, h2, rfl⟩⟩ | ⟨_, hne, _, h1, h2, rfl⟩
 ·exact ⟨hl, hn, by omega, fun e => by omega⟩
 ·exact ⟨hl, hn, by omega, fun e => by omega⟩
 ·have h4 := hm.same.2.2.2.1
  exact ⟨by omega, hm.nfile hn, by omega, fun e => absurd (h1.symm.trans e) h0⟩
 ·refine ⟨?_, hm.nfile hn, by omega, fun e => by omega⟩
  show 0 ≤ d.last + 1 ∧ d.last + 1 ≤ 999999999
  omega
 ·refine ⟨?_, hn, by omega, fun e => by omega⟩
  show 0 ≤ d.last + 1 ∧ d.last + 1 ≤ 999999999
  omega
end
structure MailArg (w : World) (s : Nat) (d : StoD) (ρ : Rho) (m : MailD) (vr vb : Value) : Prop where
 r : RdS w vr m.rcpts
 b : RdB w vb m.body
 nb : NilOk vb
 or : ∀ k, vr.ownBlock = some k → k < w.heap.size ∧ ¬ stoOwn s d ρ k
 ob : ∀ k, vb.ownBlock = some k → k < w.heap.size ∧ ¬ stoOwn s d ρ k
 sm : m.lens
theorem MailArg.below {w w' : World} {s : Nat} {d : StoD} {ρ : Rho} {m : MailD} {vr vb : Value} (h : MailArg w s d ρ m vr vb) (hb : Below w.heap.size w w') : MailArg w' s d ρ m vr vb :=
 ⟨h.r.below (Nat.le_refl _) hb, h.b.below (Nat.le_refl _) hb, h.nb, fun k e => ⟨Nat.lt_of_lt_of_le (h.or k e).1 hb.size, (h.or k e).2⟩, fun k e => ⟨Nat.lt_of_lt_of_le (h.ob k e).1 hb.size, (h.ob k e).2⟩, h.sm⟩
theorem MailArg.step {w w' : World} {s : Nat} {d d' : StoD} {ρ ρ' : Rho} {m : MailD} {vr vb : Value} (h : MailArg w s d ρ m vr vb) (hT : StoStep w s d ρ w' d' ρ') : MailArg w' s d' ρ' m vr vb := by
 have hn : ∀ k, k < w.heap.size → ¬ stoOwn s d ρ k → k < w'.heap.size ∧ ¬ stoOwn s d' ρ' k := fun k h1 h2 => ⟨Nat.lt_of_lt_of_le h1 hT.keeps.size, fun e => by
  rcases hT.grow k e with e | e
  ·exact h2 e
  ·omega⟩
 refine ⟨h.r.keeps hT.keeps ?_, h.b.keeps hT.keeps (fun k e => (h.ob k e).2), h.nb, fun k e => hn k (h.or k e).1 (h.or k e).2, fun k e => hn k (h.ob k e).1 (h.ob k e).2, h.sm⟩
 intro b o l c e
 rw [e] at h
 exact (h.or b rfl).2
def encD (m : MailD) : List UInt8 := if m.good then m.record else []
def EncAny (w : World) (m : MailD) (e : Ending) (w' : World) : Prop :=
 ∃ v, e = .returned (.tuple #[v, .bool m.good]) ∧ w'.ownsRow w.heap.size 5 1 v (encD m).length ((encD m).map u8v) ∧ Below w.heap.size w w'
theorem encode_any (m : MailD) (vr vb : Value) (w : World) (hr : RdS w vr m.rcpts) (hb : RdB w vb m.body) (hnb : NilOk vb) (hsm : m.small) (hmax : MaxOk w) (hor : ∀ k, vr.ownBlock = some k → k < w.heap.size) (hob : ∀ k, vb.ownBlock = some k → k < w.heap.size) :
 Calls Tryz.prog 114 #[mailVal m vr vb] w (EncAny w m) := by
 cases hg : m.good with
 | true =>
  refine (encode_good m vr vb w hr hb hnb hsm hmax hg hor hob).mono fun e w' ⟨v, he, ho, hb⟩ => ⟨v, by rw [hg]; exact he, ?_, hb⟩
  unfold encD; rw [hg]; exact ho
 | false =>
  refine (encode_bad m vr vb w hr hb (fun l h => by have := hsm.2 l h; omega) (by have := hsm.1; omega) hmax hg).mono fun e w' ⟨he, hb⟩ => ?_
  refine ⟨.slice none 0 0, by rw [hg]; exact he, ?_, hb⟩
  unfold encD; rw [hg]; exact World.ownsRow_nil _ _ _ _
def AddR (d : StoD) (m : MailD) (er id : Int) (d' : StoD) : Prop :=
 ∃ e1 id1 d1, NextR d e1 id1 d1 ∧
  ((e1 ≠ 0 ∧ er = e1 ∧ id = 0 ∧ d' = { d1 with down := d1.down || decide (e1 = 2) }) ∨
   (e1 = 0 ∧ ∃ e2 fs2, Outcome (layS (nameD 116 id1) (nameD 105 id1) (encD { m with id := id1 })) 6 d1.fs e2 fs2 ∧
    ((e2 = 0 ∧ er = 0 ∧ id = id1 ∧ d' = { d1 with fs := fs2, whr := d1.whr.put id1 105 }) ∨
     (e2 ≠ 0 ∧ e2 ≠ 3 ∧ er = e2 ∧ id = 0 ∧ d' = { d1 with fs := fs2, down := d1.down || decide (e2 = 2) }) ∨
     (e2 = 3 ∧ er = 3 ∧ id = 0 ∧ ∃ v lv, d' = { d1 with fs := (unlinkD fs2 (nameD 116 id1) v lv).2, down := d1.down || decide ((unlinkD fs2 (nameD 116 id1) v lv).1 = 2) }))))
structure AddDone (w : World) (s : Nat) (d : StoD) (ρ : Rho) (m : MailD) (e : Ending) (w' : World) (er id : Int) (d' : StoD) (ρ' : Rho) : Prop where
 ret : e = .returned (.tuple #[.int .i64 id, .int .i64 er])
 out : AddR d m er id d'
 at_ : StoOk w' s d' ρ'
 step : StoStep w s d ρ w' d' ρ'
 go : FsGo d.fs d'.fs 9
theorem mail_cells {w : World} {b : Nat} {x0 x1 x2 x3 x4 x5 : Value} (hb : w.heap[b]? = some (.cells #[x0, x1, x2, x3, x4, x5] 29 (0, 0))) :
 (w.cell? ⟨b, 0, none⟩ = some x0 ∧ w.cell? ⟨b, 1, none⟩ = some x1 ∧ w.cell? ⟨b, 2, none⟩ = some x2 ∧ w.cell? ⟨b, 3, none⟩ = some x3 ∧ w.cell? ⟨b, 4, none⟩ = some x4 ∧ w.cell? ⟨b, 5, none⟩ = some x5) ∧ ∀ j, w.frozen? ⟨b, j, none⟩ = false :=
 ⟨⟨by rw [cell_of_row _ _ _ _ _ _ hb]; rfl, by rw [cell_of_row _ _ _ _ _ _ hb]; rfl, by rw [cell_of_row _ _ _ _ _ _ hb]; rfl, by rw [cell_of_row _ _ _ _ _ _ hb]; rfl, by rw [cell_of_row _ _ _ _ _ _ hb]; rfl, by rw [cell_of_row _ _ _ _ _ _ hb]; rfl⟩, fun j => frozen_of_row _ _ _ _ _ hb⟩
set_option maxHeartbeats 16000000 in
theorem add_calls (s : Nat) (d : StoD) (ρ : Rho) (m : MailD) (vr vb : Value) (w : World) (h : StoOk w s d ρ) (hll : d.fs.loose.length ≤ 800000) (hwl : d.whr.length ≤ 1000000) (ha : MailArg w s d ρ m vr vb) (hsm : m.small) :
 Calls Tryz.prog 65 #[.pointer (some ⟨s, 0, none⟩), mailVal m vr vb] w fun e w' => ∃ er id d' ρ', AddDone w s d ρ m e w' er id d' ρ' := by
 obtain ⟨ar, capr, rfl, hlr, hcr⟩ := ha.r.form
 obtain ⟨ab, capb, rfl, hlb, hcb⟩ := ha.b.form
 obtain ⟨mid, parent, born, frm, rcpts, body⟩ := m
 dsimp only at hlr hlb
 have Hsm := Lib.hid hsm
 clear hsm
 obtain ⟨tf, htf⟩ : ∃ tf, strL frm = tf := ⟨_, rfl⟩
 have Htf := Lib.hid htf
 obtain ⟨W, hW⟩ : ∃ W, w.alloc (.cells #[.int .i64 mid, .int .i64 parent, .int .i64 born, .string tf, .slice ar rcpts.length capr, .slice ab body.length capb] 29) = W := ⟨_, rfl⟩
 have hbW : Below w.heap.size w W := by rw [← hW]; exact (Below.refl _ _).alloc (Nat.le_refl _) _
 have hM : W.heap[w.heap.size]? = some (.cells #[.int .i64 mid, .int .i64 parent, .int .i64 born, .string tf, .slice ar rcpts.length capr, .slice ab body.length capb] 29 (0, 0)) := by rw [← hW]; exact heap_alloc_new w _
 have hWs : w.heap.size < W.heap.size := (Array.getElem?_eq_some_iff.1 hM).1
 have h0 := h.below hbW
 have hnx := next_calls s d ρ W h0.at_ h0.ok (by omega) h0.g h0.own h0.last h0.nf
 have c1 := (cells4 h0.at_.hd).1.2.1
 have hnoM : ¬ stoOwn s d ρ w.heap.size := fun e => by have := stoOwn_lt h.at_ e; omega
 obtain ⟨ib, hib⟩ : ∃ ib, d.ib = ib := ⟨_, rfl⟩
 rw [hib] at hnx c1
 unfold mailVal
 dsimp only
 rw [htf]
 have Hnx := Lib.hid hnx
 have HM := Lib.hid (And.intro hbW (And.intro hM (And.intro hWs hnoM)))
 have Hh := Lib.hid (And.intro h (And.intro hll (And.intro hwl ha)))
 have H0 := Lib.hid h0
 clear hnx h0 hbW hM hWs hnoM hib h hll hwl ha htf
 subst hW
 go_enter Tryz.func65, Tryz.ntmps65
 go_wp2_with fail
 refine (Hnx.out).mono ?_; rintro e w1 ⟨e1, id1, d1, ρ1, rfl, hout, hA1, hT1, hg1⟩
 obtain ⟨b1, b2, b3, b4⟩ := hout.bounds Hh.out.1.last Hh.out.1.nf
 have hO1 := H0.out.step hA1 hT1 hg1.1 b1 b2
 have hT1w := (StoStep.below (s := s) (d := d) (ρ := ρ) HM.out.1).trans hT1
 have hM1 := hT1.keeps.heap HM.out.2.1 HM.out.2.2.2
 have hnM1 : ¬ stoOwn s d1 ρ1 w.heap.size := fun e => by
  rcases hT1.grow _ e with e | e
  ·exact HM.out.2.2.2 e
  ·have := HM.out.2.2.1; omega
 have hc3 := (cells4 hA1.hd).1.2.2.2
 have hf3 := (cells4 hA1.hd).2 3
 have hd1 := did_calls s d1.down e1 w1 hc3 hf3
 obtain ⟨hA2, hT2⟩ := hA1.setDown (d1.down || decide (e1 = 2))
 obtain ⟨W2, hW2⟩ : ∃ W2, w1.setCell ⟨s, 3, none⟩ (.bool (d1.down || decide (e1 = 2))) = W2 := ⟨_, rfl⟩
 rw [hW2] at hd1 hA2 hT2
 have hO2 := hO1.step hA2 hT2 hO1.ok hO1.last hO1.nf
 have hM2 := hT2.keeps.heap hM1 hnM1
 have ha1 := (Hh.out.2.2.2).step (hT1w.trans hT2)
 have Hd1 := Lib.hid hd1
 have H1 := Lib.hid (And.intro hout (And.intro hO2 (And.intro (hT1w.trans hT2) (And.intro hg1 (And.intro hM2 (And.intro ha1 (And.intro hnM1 (And.intro b3 b4))))))))
 clear hd1 hout hA1 hT1 hg1 b1 b2 b3 b4 hO1 hT1w hM1 hnM1 hc3 hf3 hA2 hT2 hO2 hM2 ha1 c1 hW2
 go_wp2_with fail
 refine (Hd1.out).mono ?_; rintro e w2 ⟨rfl, hw2⟩; have hw2 := hw2.symm; subst hw2
 by_cases he1 : e1 = 0
 ·have Hid1 : Hid (1 ≤ id1 ∧ id1 ≤ 999999999) := Lib.hid (by obtain ⟨_, _, _, _, _, _, _, b3, b4⟩ := H1.out; exact ⟨b4 he1, b3.2⟩)
  have hdn : (d1.down || decide (e1 = 2)) = d1.down := by rw [he1]; cases d1.down <;> rfl
  have H1' : Hid (NextR d 0 id1 d1 ∧ StoOk W2 s d1 ρ1 ∧ StoStep w s d ρ W2 d1 ρ1 ∧ FsGo d.fs d1.fs 2 ∧ W2.heap[w.heap.size]? = some (.cells #[.int .i64 mid, .int .i64 parent, .int .i64 born, .string tf, .slice ar rcpts.length capr, .slice ab body.length capb] 29 (0, 0)) ∧ MailArg W2 s d1 ρ1 ⟨mid, parent, born, frm, rcpts, body⟩ (.slice ar rcpts.length capr) (.slice ab body.length capb) ∧ ¬ stoOwn s d1 ρ1 w.heap.size) := Lib.hid (by
   obtain ⟨q1, q2, q3, q4, q5, q6, q7, _, _⟩ := H1.out
   have hx : ({ d1 with down := d1.down || decide (e1 = 2) } : StoD) = d1 := by rw [hdn]
   rw [hx] at q2 q3 q6
   rw [he1] at q1
   exact ⟨q1, q2, q3, q4, q5, q6, q7⟩)
  clear H1 hdn
  subst he1
  obtain ⟨W3, hW3⟩ : ∃ W3, W2.setCell ⟨w.heap.size, 0, none⟩ (.int .i64 id1) = W3 := ⟨_, rfl⟩
  have hP3 : StoOk W3 s d1 ρ1 ∧ StoStep w s d ρ W3 d1 ρ1 ∧ W3.heap[w.heap.size]? = some (.cells #[.int .i64 id1, .int .i64 parent, .int .i64 born, .string tf, .slice ar rcpts.length capr, .slice ab body.length capb] 29 (0, 0)) ∧ MailArg W3 s d1 ρ1 ⟨mid, parent, born, frm, rcpts, body⟩ (.slice ar rcpts.length capr) (.slice ab body.length capb) := by
   obtain ⟨q1, q2, q3, q4, q5, q6, q7⟩ := H1'.out
   have hk : Keeps (fun k => k = w.heap.size) W2 W3 := by rw [← hW3]; exact Keeps.setCell _ _ _ rfl
   have hgb : GB W2 W3 := GB.keeps hk (fun k e => by have := Hh.out.1.g.size; omega)
   have hor := fun k e => ((Hh.out.2.2.2).or k e).1
   have hob := fun k e => ((Hh.out.2.2.2).ob k e).1
   refine ⟨⟨by rw [← hW3]; exact q2.at_.other q7, q2.ok, q2.g.gb hgb, q2.mx.gb hgb, q2.own, q2.last, q2.nf⟩, by rw [← hW3]; exact q3.new (Nat.le_refl _), by rw [← hW3]; exact heap_setCell_same _ _ 0 _ _ _ q5, ?_⟩
   refine ⟨q6.r.keeps hk (fun b o l c e f => ?_), q6.b.keeps hk (fun k e f => by have := hob k e; omega), q6.nb, fun k e => ⟨Nat.lt_of_lt_of_le (q6.or k e).1 hk.size, (q6.or k e).2⟩, fun k e => ⟨Nat.lt_of_lt_of_le (q6.ob k e).1 hk.size, (q6.ob k e).2⟩, q6.sm⟩
   have := hor b (by rw [e]; rfl)
   omega
  have hen := encode_any ⟨id1, parent, born, frm, rcpts, body⟩ (.slice ar rcpts.length capr) (.slice ab body.length capb) W3 hP3.2.2.2.r hP3.2.2.2.b hP3.2.2.2.nb Hsm.out hP3.1.mx (fun k e => (hP3.2.2.2.or k e).1) (fun k e => (hP3.2.2.2.ob k e).1)
  unfold mailVal at hen
  dsimp only at hen
  rw [Htf.out] at hen
  obtain ⟨⟨x0, x1, x2, x3, x4, x5⟩, _⟩ := mail_cells hP3.2.2.1
  have y0 := (mail_cells H1'.out.2.2.2.2.1).2 0
  have z0 := (mail_cells H1'.out.2.2.2.2.1).1.1
  have Hen := Lib.hid hen
  have H3 := Lib.hid hP3
  clear hen hP3
  subst hW3
  go_wp2_with fail
  refine (Hen.out).mono ?_; rintro e w4 ⟨v, rfl, hrow, hb4⟩
  have hN4 := H3.out.1.below hb4
  have hT4 := H3.out.2.1.bel hb4
  obtain ⟨av, cv, rfl⟩ := own_form0 hrow
  have hfr : ∀ k, (Value.slice av (encD ⟨id1, parent, born, frm, rcpts, body⟩).length cv).ownBlock = some k → ρ1 k = none ∧ k < w4.heap.size ∧ k ≠ s := fun k e => by
   have h1 := hrow.lt k e
   refine ⟨?_, h1.2, fun e => ?_⟩
   ·cases hr : ρ1 k with
    | none => rfl
    | some r =>
     have h2 := H3.out.1.at_.fs.rest.lt k (by rw [hr]; rfl)
     omega
   ·have h2 := (Array.getElem?_eq_some_iff.1 H3.out.1.at_.hd).1
    omega
  have hlay := lay_calls s d1 ρ1 105 id1 (.slice av (encD ⟨id1, parent, born, frm, rcpts, body⟩).length cv) (encD ⟨id1, parent, born, frm, rcpts, body⟩) w4 hN4.at_ hN4.ok (by have := H1'.out.2.2.2.1.2; have := Hh.out.2.1; omega) hN4.own (hN4.g.int _) (rdB_ofOwn hrow) (nilOk_own hrow) hfr
  obtain ⟨bl, hbl⟩ : ∃ bl, encD ⟨id1, parent, born, frm, rcpts, body⟩ = bl := ⟨_, rfl⟩
  obtain ⟨tm, htm⟩ : ∃ tm, nameD 116 id1 = tm := ⟨_, rfl⟩
  obtain ⟨nn, hnn⟩ : ∃ nn, nameD 105 id1 = nn := ⟨_, rfl⟩
  rw [hbl, htm, hnn] at hlay
  rw [hbl]
  have Hbl := Lib.hid (And.intro hbl (And.intro htm hnn))
  have Hlay := Lib.hid hlay
  have H4 := Lib.hid (And.intro hN4 hT4)
  clear hlay hN4 hT4 hfr hrow hb4 hbl htm hnn x0 x1 x2 x3 x4 x5 y0 z0
  go_wp2_with fail
  refine (Hlay.out).mono ?_; rintro e w5 ⟨e2, fs2, ρ2, rfl, hout, hA5, hT5, hg5⟩
  have hO5 := H4.out.1.step hA5 hT5 hg5.1 H4.out.1.last H4.out.1.nf
  have hT5w := H4.out.2.trans hT5
  have hgo5 := (H1'.out.2.2.2.1).trans hg5
  have H5 := Lib.hid (And.intro hout (And.intro hO5 (And.intro hT5w hgo5)))
  clear hout hA5 hT5 hg5 hO5 hT5w hgo5
  by_cases he2 : e2 = 0
  ·have hdn : (d1.down || decide (e2 = 2)) = d1.down := by rw [he2]; cases d1.down <;> rfl
   have H5' : Hid (Outcome (layS tm nn bl) 6 d1.fs 0 fs2 ∧ StoOk w5 s { d1 with fs := fs2 } ρ2 ∧ StoStep w s d ρ w5 { d1 with fs := fs2 } ρ2 ∧ FsGo d.fs fs2 8) := Lib.hid (by
    obtain ⟨q1, q2, q3, q4⟩ := H5.out
    have hx : ({ d1 with fs := fs2, down := d1.down || decide (e2 = 2) } : StoD) = { d1 with fs := fs2 } := by rw [hdn]
    rw [hx] at q2 q3
    rw [he2] at q1
    exact ⟨q1, q2, q3, q4⟩)
   clear H5 hdn
   subst he2
   have c2 := (cells4 H5'.out.2.1.at_.hd).1.2.2.1
   have hwl1 : d1.whr.length < maxLen := by rw [(H1'.out.1).same.2.2.2.1]; have := Hh.out.2.2.1; unfold maxLen; omega
   obtain ⟨w6, hrun, hm6, hk6⟩ := wh_put H5'.out.2.1.at_.whr hwl1 id1 (by have := Hid1.out; omega) 105
   have hx105 : ((105 : UInt8).toNat : Int) = 105 := rfl
   rw [hx105] at hrun
   obtain ⟨hA6, hT6⟩ := H5'.out.2.1.at_.setMap hm6 hk6
   have hO6 := H5'.out.2.1.step hA6 hT6 H5'.out.2.1.ok H5'.out.2.1.last H5'.out.2.1.nf
   have H6 := Lib.hid (And.intro hO6 (H5'.out.2.2.1.trans hT6))
   clear hm6 hk6 hA6 hT6 hO6 hwl1
   go_wp2
   go_ret2
   refine ⟨0, id1, { d1 with fs := fs2, whr := d1.whr.put id1 105 }, ρ2, rfl, ⟨0, id1, d1, H1'.out.1, .inr ⟨rfl, 0, fs2, ?_, .inl ⟨rfl, rfl, rfl, rfl⟩⟩⟩, H6.out.1, H6.out.2, H5'.out.2.2.2.mono (by omega)⟩
   obtain ⟨k1, k2, k3⟩ := Hbl.out
   rw [k2, k3]
   show Outcome (layS tm nn (encD ⟨id1, parent, born, frm, rcpts, body⟩)) 6 d1.fs 0 fs2
   rw [k1]
   exact H5'.out.1
  ·by_cases he3 : e2 = 3
   ·have H5' : Hid (Outcome (layS tm nn bl) 6 d1.fs 3 fs2 ∧ StoOk w5 s { d1 with fs := fs2 } ρ2 ∧ StoStep w s d ρ w5 { d1 with fs := fs2 } ρ2 ∧ FsGo d.fs fs2 8) := Lib.hid (by
     obtain ⟨q1, q2, q3, q4⟩ := H5.out
     have hdn : (d1.down || decide (e2 = 2)) = d1.down := by rw [he3]; cases d1.down <;> rfl
     have hx : ({ d1 with fs := fs2, down := d1.down || decide (e2 = 2) } : StoD) = { d1 with fs := fs2 } := by rw [hdn]
     rw [hx] at q2 q3
     rw [he3] at q1
     exact ⟨q1, q2, q3, q4⟩)
    clear H5 he2
    subst he3
    have hO5d := H5'.out.2.1.below (Below.refl _ _).drew
    have hname := name_calls 116 id1 w5.drew (hO5d.g.int _)
    rw [(Hbl.out).2.1] at hname
    have h116 : ((116 : UInt8).toNat : Int) = 116 := rfl
    rw [h116] at hname
    obtain ⟨tn, htn⟩ : ∃ tn, strL tm = tn := ⟨_, rfl⟩
    obtain ⟨fb, hfb⟩ : ∃ fb, d1.fb = fb := ⟨_, rfl⟩
    have htl : tm.length ≤ maxLen := by rw [← (Hbl.out).2.1]; have := nameD_len 116 id1; unfold maxLen; omega
    have hul : ∀ w6, StoOk w6 s { d1 with fs := fs2 } ρ2 → Calls Tryz.prog 101 #[.pointer (some ⟨fb, 0, none⟩), .string tn] w6 fun e w' => ∃ v lv ρ', FsDone fb ρ2 w6 e w' (unlinkD fs2 tm v lv).1 (unlinkD fs2 tm v lv).2 ρ' := fun w6 h6 => by
     rw [← hfb, ← htn]
     exact (unlink_calls d1.fb fs2 ρ2 tm w6 h6.at_.fs htl h6.ok.fuse h6.ok.n (by have := H5'.out.2.2.2.2; have := Hh.out.2.1; omega)).mono fun e w' ⟨v, lv, ρ', a, b, c⟩ => ⟨v, lv, ρ', FsDone.mk a b c⟩
    rw [htn] at hname
    have hS := (cells4 hO5d.at_.hd).1.1
    dsimp only at hS
    rw [hfb] at hS
    have HS : Hid ((fun w' => w'.cell? ⟨s, 0, none⟩ = some (.pointer (some ⟨fb, 0, none⟩))) w5.drew) := Lib.hid hS
    have Hname := Lib.hid hname
    have Hul := Lib.hid hul
    have HO5d := Lib.hid hO5d
    have Hfb := Lib.hid hfb
    clear hname hul hS htn htl hO5d hfb
    go_upto_region 9 with fail
    refine wp_region_noPanic ?_
    refine wp_region_held_drew (S := (fun w' => w'.cell? ⟨s, 0, none⟩ = some (.pointer (some ⟨fb, 0, none⟩)))) (by kernel_rfl) (by first | with_reducible exact HS.out | with_reducible exact hS6 | with_reducible exact hS7 | with_reducible exact hS8) (fun hHeld => ?_)
    refine tkP 0 ?_
    refine tkP 1 ?_
    refine tkP 2 ?_
    refine tkP 3 ?_
    refine tkP 4 ?_
    refine tkP 5 ?_
    refine rdH 6 fun K hK => ?_
    go_simp
    go_at_call 12; refine (Hname.out).mono ?_; rintro e w6 ⟨rfl, hb6⟩
    have hO6 := HO5d.out.below hb6
    have hS6 := (cells4 hO6.at_.hd).1.1
    dsimp only at hS6
    rw [Hfb.out] at hS6
    have HO6 := Lib.hid (And.intro hO6 hb6)
    clear hO6 hb6
    refine hK.out _ _ (by (try dsimp only); first | with_reducible exact HS.out | with_reducible exact hS6 | with_reducible exact hS7 | with_reducible exact hS8) (fun hHeld => ?_)
    clear hK K
    try simp only [Act.put, qA, qB, qC]
    refine rdH 7 fun K hK => ?_
    go_simp
    go_at_call 101; refine (Hul.out _ HO6.out.1).mono ?_; rintro e w7 ⟨v2, lv2, ρ7, rfl, hF7, hst7⟩
    rw [← Hfb.out] at hF7
    obtain ⟨hA7, hT7⟩ := HO6.out.1.at_.fsStep hF7 hst7
    obtain ⟨eu, heu⟩ : ∃ eu, (unlinkD fs2 tm v2 lv2).1 = eu := ⟨_, rfl⟩
    have hgu := unlink_go (n := tm) (v := v2) (lv := lv2) HO6.out.1.ok
    have hO7 := HO6.out.1.step hA7 hT7 hgu.1 HO6.out.1.last HO6.out.1.nf
    have hS7 := (cells4 hA7.hd).1.1
    have hc3 := (cells4 hA7.hd).1.2.2.2
    have hf3 := (cells4 hA7.hd).2 3
    dsimp only at hS7 hc3
    rw [Hfb.out] at hS7
    have hd7 := did_calls s d1.down eu w7 hc3 hf3
    have HO7 := Lib.hid (And.intro hO7 (And.intro hT7 (And.intro heu hgu)))
    have Hd7 := Lib.hid hd7
    rw [heu]
    clear hA7 hT7 hF7 hst7 hO7 hc3 hf3 hd7 heu hgu
    refine hK.out _ _ (by (try dsimp only); first | with_reducible exact HS.out | with_reducible exact hS6 | with_reducible exact hS7 | with_reducible exact hS8) (fun hHeld => ?_)
    clear hK K
    try simp only [Act.put, qA, qB, qC]
    refine rdH 8 fun K hK => ?_
    go_simp
    go_at_call 100; refine (Hd7.out).mono ?_; rintro e w8 ⟨rfl, hw8⟩
    obtain ⟨hA8, hT8⟩ := HO7.out.1.at_.setDown (d1.down || decide (eu = 2))
    rw [← hw8] at hA8 hT8
    have hS8 := (cells4 hA8.hd).1.1
    dsimp only at hS8
    rw [Hfb.out] at hS8
    have hO8 := HO7.out.1.step hA8 hT8 HO7.out.1.ok HO7.out.1.last HO7.out.1.nf
    have H8 := Lib.hid (And.intro hO8 (((((H5'.out.2.2.1.bel (Below.refl _ _).drew).bel HO6.out.2).trans HO7.out.2.1)).trans hT8))
    clear hA8 hT8 hO8 hw8
    refine hK.out _ _ (by (try dsimp only); first | with_reducible exact HS.out | with_reducible exact hS6 | with_reducible exact hS7 | with_reducible exact hS8) (fun hHeld => ?_)
    clear hK K
    try simp only [Act.put, qA, qB, qC]
    refine wpAnyH_done (by kernel_rfl) ?_ _
    refine NoPanic.normal ?_
    go_wp2
    go_ret2
    obtain ⟨k1, k2, k3⟩ := Hbl.out
    refine ⟨3, 0, _, ρ7, rfl, ⟨0, id1, d1, H1'.out.1, .inr ⟨rfl, 3, fs2, ?_, .inr (.inr ⟨rfl, rfl, rfl, v2, lv2, ?_⟩)⟩⟩, H8.out.1, H8.out.2, ?_⟩
    ·rw [k2, k3]
     show Outcome (layS tm nn (encD ⟨id1, parent, born, frm, rcpts, body⟩)) 6 d1.fs 3 fs2
     rw [k1]
     exact H5'.out.1
    ·rw [k2, HO7.out.2.2.1]
    ·exact (H5'.out.2.2.2).trans HO7.out.2.2.2
   ·have h20 : (e2 != 0) = true := by simpa using he2
    have h23 : (e2 == 3) = false := by simpa using he3
    have Hne := Lib.hid (And.intro he2 he3)
    clear he2 he3
    go_wp2
    go_ret2
    refine ⟨e2, 0, _, ρ2, rfl, ⟨0, id1, d1, H1'.out.1, .inr ⟨rfl, e2, fs2, ?_, .inr (.inl ⟨Hne.out.1, Hne.out.2, rfl, rfl, rfl⟩)⟩⟩, H5.out.2.1, H5.out.2.2.1, H5.out.2.2.2.mono (by omega)⟩
    obtain ⟨k1, k2, k3⟩ := Hbl.out
    rw [k2, k3]
    show Outcome (layS tm nn (encD ⟨id1, parent, born, frm, rcpts, body⟩)) 6 d1.fs e2 fs2
    rw [k1]
    exact H5.out.1
 ·have h10 : (e1 != 0) = true := by simpa using he1
  have Hne := Lib.hid he1
  clear he1
  go_wp2
  go_ret2
  obtain ⟨q1, q2, q3, q4, _⟩ := H1.out
  exact ⟨e1, 0, _, ρ1, rfl, ⟨e1, id1, d1, q1, .inl ⟨Hne.out, rfl, rfl, rfl⟩⟩, q2, q3, q4.mono (by omega)⟩
end Go.Proofs.YtffnbkmigapmjaaGreatDoor
