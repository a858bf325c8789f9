/-
  The walks of store.parents, recover, Open: of a disk without a file.
  A store in memory, with what its calls ask; and how that is kept (plain).
-/
import Derived.Test.YtffnbkmigapmjaaGreatDoorT22
import Derived.Test.YtffnbkmigapmjaaGreatDoorT23
import Derived.Test.YtffnbkmigapmjaaGreatDoorT26
import Derived.Test.YtffnbkmigapmjaaGreatDoorT27
import Derived.Lib.SlBytesConst
set_option linter.unusedSimpArgs false
set_option linter.unusedVariables false
set_option maxRecDepth 100000
namespace Go.Proofs.YtffnbkmigapmjaaGreatDoor
open Go.RowKit Go.Maps
theorem listD_nil (q : UInt8) : listD [] q = [] := by unfold listD; simp
set_option maxHeartbeats 8000000 in
theorem parents0_calls (s : Nat) (d : StoD) (ρ : Rho) (w : World) (h : StoAt w s d ρ) (hw : d.whr = []) :
 Calls Tryz.prog 103 #[.pointer (some ⟨s, 0, none⟩)] w fun e w' => e = .returned (.int .i64 0) ∧ Below w.heap.size w w' := by
 obtain ⟨i0, hi, hz0, hz1, hz2⟩ := info_parts infoInt'
 have hkc : (convert 22 22 (.slice (some ⟨w.heap.size, 0, none⟩) 3 3)).run Tryz.prog (w.alloc (.cells #[.int .u8 105, .int .u8 97, .int .u8 100] 5)) = .ok (.slice (some ⟨w.heap.size, 0, none⟩) 3 3) (w.alloc (.cells #[.int .u8 105, .int .u8 97, .int .u8 100] 5 (3, 4))) :=
  Lib.run_convert_bytes_const (P := Tryz.prog) w 22 5 #[.int .u8 105, .int .u8 97, .int .u8 100] 3 3 Tryz.underlying22 Tryz.underlying5
 obtain ⟨W, hW⟩ : ∃ W, w.alloc (.cells #[.int .u8 105, .int .u8 97, .int .u8 100] 5 (3, 4)) = W := ⟨_, rfl⟩
 have hbW : Below w.heap.size w W := by rw [← hW]; exact (Below.refl _ _).alloc (Nat.le_refl _) _
 have hh : W.heap[w.heap.size]? = some (.cells ([105, 97, 100].map u8v).toArray 5 (3, 4)) := by rw [← hW]; exact heap_alloc_new w _
 have hWs : w.heap.size < W.heap.size := (Array.getElem?_eq_some_iff.1 hh).1
 have hnil : W.ownsRow W.heap.size 3 1 (.slice none 0 0) 0 [] := World.ownsRow_nil _ _ _ _
 have hlist := fun w1 (hb : Below w.heap.size w w1) (q : UInt8) => slist_calls s d ρ w1 (h.below hb) q (by rw [hw]; decide)
 rw [hw] at hlist
 rw [hW] at hkc
 have Hlist := Lib.hid hlist
 have Hh := Lib.hid hh
 have HWs := Lib.hid hWs
 have HbW := Lib.hid hbW
 clear hlist hh hWs hbW h hw
 subst hW
 go_enter Tryz.func103, Tryz.ntmps103
 go_wp2
 generalize hW : w.alloc (.cells #[.int .u8 105, .int .u8 97, .int .u8 100] 5 (3, 4)) = W at *
 clear hkc hW
 go_loopw [3, 15] (fun v i wr => ∃ j : Nat, j ≤ 3 ∧ i = .int .i64 j ∧ wr.ownsRow W.heap.size 3 1 v 0 [] ∧ Below W.heap.size W wr) (fun _ i _ => 3 - (intOf i).toNat)
 case atStart => exact ⟨0, Nat.zero_le _, rfl, hnil, Below.refl _ _⟩
 case round =>
  obtain ⟨j, hj, rfl, hown, hbw⟩ := hrel
  obtain ⟨av, cv, rfl⟩ := own_form0 hown
  have Hown := Lib.hid hown
  have Hbw := Lib.hid hbw
  have hbw1 := HbW.out.trans (hbw.mono HbW.out.size)
  have Hbw1 := Lib.hid hbw1
  clear hown hnil
  by_cases hlt : j < 3
  ·obtain ⟨q, hq⟩ : ∃ q, ([105, 97, 100] : List UInt8)[j]? = some q := ⟨_, List.getElem?_eq_getElem hlt⟩
   have hcell : wr.cell? ⟨w.heap.size, j, none⟩ = some (.int .u8 q.toNat) := by
    rw [cell_of_row _ _ _ _ _ _ ((hbw.block _ HWs.out).trans Hh.out), List.getElem?_toArray, List.getElem?_map, hq]; rfl
   have hj0 : (0 : Int) ≤ (j : Int) := by omega
   have hj1 : (j : Int) < 3 := by omega
   have hl := Hlist.out _ hbw1 q
   rw [listD_nil] at hl
   have Hl := Lib.hid hl
   clear hl hq hbw hbw1
   obtain ⟨qn, hqn⟩ : ∃ qn : Nat, q.toNat = qn := ⟨_, rfl⟩
   rw [hqn] at hcell Hl
   clear hqn
   go_wp2_with fail
   refine (Hl.out).mono ?_; rintro e w2 ⟨v2, rfl, hrow2, hb2⟩
   have hbw2 := Hbw1.out.trans (hb2.mono Hbw1.out.size)
   have hown2 : w2.ownsRow W.heap.size 3 1 (.slice av 0 cv) 0 [] := own_below Hown.out hb2 (Nat.le_refl _)
   have hbW2 := Hbw.out.trans (hb2.mono Hbw.out.size)
   have hsrc : RdL 1 i1' w2 v2 ([] : List Int) := rdL_ofOwn i1_len' (by decide) hrow2
   have hnv := nilOk_own hrow2
   have hbs := hbW2.size
   have hbase2 := own_base hown2
   have Hown2 := Lib.hid hown2
   have Hsrc := Lib.hid hsrc
   have Hnv := Lib.hid hnv
   have HbW2 := Lib.hid hbW2
   have hone : ∀ c ∈ ([] : List Int).flatMap i1', c.oneCell' = true := by intro c hc; cases hc
   have hm1 : 0 + ([] : List Int).length ≤ maxLen := by decide
   have hm2 : (0 + ([] : List Int).length) * 8 ≤ 140737488355328 := by decide
   have Hone := Lib.hid hone
   clear hrow2 hb2 hown2 hsrc hnv hbW2 hbw2 hone hcell
   go_wp2_with (at_builtin; go_must (refine wpList_append_any i1_len' (by decide) rfl (.tmp 19) (.tmp 22) 47 rfl W.heap.size 3 i0 _ 8 Tryz.underlying47 hi hz0 hz1 hz2 rfl _ _ _ rfl Hown2.out _ [] rfl Hsrc.out Hnv.out Hone.out hm1 hm2 hbs ?_); rintro v' w3 hown3 hg3 hn3)
   have hb3 := HbW2.out.grown hg3 HbW2.out.size hbase2
   have Hown3 := Lib.hid hown3
   have Hb3 := Lib.hid hb3
   clear hown3 hg3 hn3 hb3
   go_wp2
   go_roundw
   case rel => exact ⟨j + 1, by omega, by simp, Hown3.out, Hb3.out⟩
   case measure => simp [intOf] <;> omega
  ·have hje : j = 3 := by omega
   subst hje
   have hsr := sortI_calls (.slice av 0 cv) [] W.heap.size wr Hown.out (by decide)
   have Hsr := Lib.hid hsr
   have hbase := own_base Hown.out
   clear hsr hbw hbw1
   go_wp2_with fail
   refine (Hsr.out).mono ?_; rintro e w2 ⟨rfl, hown2, hg2⟩
   have hb2 := (Hbw.out.grown hg2 Hbw.out.size hbase)
   have hbw2 := HbW.out.trans (hb2.mono HbW.out.size)
   clear hown2 hg2 hb2
   go_wp2
   go_loopw [29] (fun i wr2 => i = .int .i64 0 ∧ Below w.heap.size w wr2) (fun _ _ => 1)
   case atStart => exact ⟨rfl, hbw2⟩
   case round =>
    obtain ⟨rfl, hb5⟩ := hrel
    go_wp2
    go_ret
    exact ⟨rfl, hb5⟩
set_option maxHeartbeats 8000000 in
theorem recover0_calls (s : Nat) (d : StoD) (ρ : Rho) (w : World) (h : StoAt w s d ρ) (hw : d.whr = []) (hn : d.fs.now = []) (hdn : d.fs.down = false) :
 Calls Tryz.prog 56 #[.pointer (some ⟨s, 0, none⟩)] w fun e w' => e = .returned (.int .i64 0) ∧ Below w.heap.size w w' := by
 have hlist := fun w1 (hb : Below w.heap.size w w1) => list_calls d.fb d.fs ρ w1 (h.below hb).fs hdn (by rw [hn]; decide)
 have hpar := fun w1 (hb : Below w.heap.size w w1) => parents0_calls s d ρ w1 (h.below hb) hw
 have c0 := fun w1 (hb : Below w.heap.size w w1) => (cells4 (h.below hb).hd).1.1
 have hlen : d.fs.now.length = 0 := by rw [hn]; rfl
 rw [hlen] at hlist
 obtain ⟨fb, hfb⟩ : ∃ fb, d.fb = fb := ⟨_, rfl⟩
 rw [hfb] at hlist c0
 have Hlist := Lib.hid hlist
 have Hpar := Lib.hid hpar
 have C0 := Lib.hid c0
 have c0 := C0.out w (Below.refl _ _)
 clear hlist hpar hlen hfb h hw hn hdn
 go_enter Tryz.func56, Tryz.ntmps56
 go_wp2_with fail
 refine (Hlist.out w (Below.refl _ _)).mono ?_; rintro e w1 ⟨v, ss, rfl, _, hl, hrow, hb1⟩
 rw [hl] at hrow
 obtain ⟨av, cv, rfl⟩ := own_form0 hrow
 clear hrow c0
 go_wp2
 go_loopw [21] (fun i wr => i = .int .i64 0 ∧ Below w.heap.size w wr) (fun _ _ => 1)
 case atStart => exact ⟨rfl, hb1⟩
 case round =>
  obtain ⟨rfl, hb2⟩ := hrel
  have c0 := C0.out _ hb2
  have Hb2 := Lib.hid hb2
  clear hb2 hb1
  go_wp2_with fail
  refine (Hlist.out _ Hb2.out).mono ?_; rintro e w3 ⟨v, ss, rfl, _, hl, hrow, hb3⟩
  rw [hl] at hrow
  obtain ⟨av2, cv2, rfl⟩ := own_form0 hrow
  have hb3' := Hb2.out.trans (hb3.mono Hb2.out.size)
  clear hrow c0 hb3
  go_wp2
  go_loopw [54] (fun i wr => i = .int .i64 0 ∧ Below w.heap.size w wr) (fun _ _ => 1)
  case atStart => exact ⟨rfl, hb3'⟩
  case round =>
   obtain ⟨rfl, hb4⟩ := hrel
   have Hb4 := Lib.hid hb4
   clear hb4 hb3'
   go_wp2_with fail
   refine (Hpar.out _ Hb4.out).mono ?_; rintro e w5 ⟨rfl, hb5⟩
   have hb5' := Hb4.out.trans (hb5.mono Hb4.out.size)
   clear hb5
   go_wp2
   go_ret
   exact ⟨rfl, hb5'⟩
structure Open0Done (w : World) (f : Nat) (fs : FsD) (ρ : Rho) (e : Ending) (w' : World) (s : Nat) (d : StoD) : Prop where
 ret : e = .returned (.tuple #[.pointer (some ⟨s, 0, none⟩), .int .i64 0])
 at_ : StoAt w' s d ρ
 eq : ∃ ib mb, d = ⟨fs, f, ib, mb, 0, 0, [], [], false⟩ ∧ w.heap.size ≤ ib ∧ w.heap.size ≤ mb
 new : w.heap.size ≤ s
 below : Below w.heap.size w w'
set_option maxHeartbeats 8000000 in
theorem open0_calls (f : Nat) (fs : FsD) (ρ : Rho) (w : World) (h : FsAt w f fs ρ) (hn : fs.now = []) (hdn : fs.down = false) (hg : GOk w) :
 Calls Tryz.prog 17 #[.pointer (some ⟨f, 0, none⟩)] w fun e w' => ∃ s d, Open0Done w f fs ρ e w' s d := by
 have hmm := @run_makeMap Tryz.prog
 have hio := idsOpen_calls f fs ρ w h hdn (by rw [hn]; decide) (fun p hp => by rw [hn] at hp; cases hp) hg
 have hrho : ∀ k, w.heap.size ≤ k → ρ k = none := fun k hk => by
  cases hr : ρ k with
  | none => rfl
  | some r => have := h.rest.lt k (by rw [hr]; rfl); omega
 have Hio := Lib.hid hio
 have Hrho := Lib.hid hrho
 have H := Lib.hid (And.intro h (And.intro hn hdn))
 clear hio hrho h hn hdn hg
 go_enter Tryz.func17, Tryz.ntmps17
 go_wp2_with fail
 refine (Hio.out).mono ?_; rintro e w1 ⟨ib, ss, rfl, hnm, hhd, hnew, hb1⟩
 have hss : ss = [] := by
  have := (sortedNm.perm hnm).length_eq
  rw [H.out.2.1] at this
  exact List.length_eq_zero_iff.1 this
 subst hss
 have hl0 : lastNum (numL []) = (0, []) := rfl
 rw [hl0] at hhd
 dsimp only at hhd
 obtain ⟨W2, hW2⟩ : ∃ W2, w1.alloc (.map #[] 0) = W2 := ⟨_, rfl⟩
 obtain ⟨W3, hW3⟩ : ∃ W3, W2.alloc (.cells #[.pointer (some ⟨f, 0, none⟩), .pointer (some ⟨ib, 0, none⟩), .map (some w1.heap.size), .bool false] 112) = W3 := ⟨_, rfl⟩
 have z2 : W2.heap.size = w1.heap.size + 1 := by rw [← hW2]; simp
 have b2 : Below w1.heap.size w1 W2 := by rw [← hW2]; exact (Below.refl _ _).alloc (Nat.le_refl _) _
 have b3 : Below W2.heap.size W2 W3 := by rw [← hW3]; exact (Below.refl _ _).alloc (Nat.le_refl _) _
 have b13 := b2.trans (b3.mono b2.size)
 have bw3 := hb1.trans (b13.mono hb1.size)
 have m2 : WhAt W2 w1.heap.size [] := by rw [← hW2]; exact World.ownsMap_made w1 Tryz.prog 3 (plainElem Tryz.prog 5)
 have m3 : WhAt W3 w1.heap.size [] := whMap_keeps (F := fun _ => False) m2 (Keeps.ofBelow b3) id
 have hs3 : W3.heap[w1.heap.size + 1]? = some (.cells #[.pointer (some ⟨f, 0, none⟩), .pointer (some ⟨ib, 0, none⟩), .map (some w1.heap.size), .bool false] 112 (0, 0)) := by rw [← hW3]; exact heap_new_at _ z2.symm
 have hids := (b13.block _ (Array.getElem?_eq_some_iff.1 hhd).1).trans hhd
 have hs1 := hb1.size
 have hA : StoAt W3 (w1.heap.size + 1) ⟨fs, f, ib, w1.heap.size, 0, 0, [], [], false⟩ ρ := ⟨H.out.1.below bw3, hs3, hids, m3, Hrho.out _ (by omega), Hrho.out _ hnew, Hrho.out _ hs1⟩
 have hrc := recover0_calls (w1.heap.size + 1) _ ρ W3 hA rfl H.out.2.1 H.out.2.2
 have Hrc := Lib.hid hrc
 have HA := Lib.hid (And.intro hA (And.intro hnew (And.intro hs1 bw3)))
 clear hrc hA hids hs3 m2 m3 bw3 b13 b3 b2 hhd hl0 hnm hb1
 subst hW3
 subst hW2
 go_wp2_with fail
 refine (Hrc.out).mono ?_; rintro e w4 ⟨rfl, hb4⟩
 have Hb4 := Lib.hid hb4
 clear hb4
 go_wp2
 go_ret2
 obtain ⟨q1, q2, q3, q4⟩ := HA.out
 exact ⟨w1.heap.size + 1, _, rfl, q1.below Hb4.out, ⟨ib, w1.heap.size, rfl, q2, q3⟩, by omega, q4.trans (Hb4.out.mono q4.size)⟩
end Go.Proofs.YtffnbkmigapmjaaGreatDoor
set_option maxRecDepth 100000
namespace Go.Proofs.YtffnbkmigapmjaaGreatDoor
open Go.RowKit Go.Maps
theorem MaxOk.gb {w w' : World} (h : MaxOk w) (hg : GB w w') : MaxOk w' := by
 obtain ⟨m, hm⟩ := h
 exact ⟨m, cell_gb hm hg (by unfold NG; omega)⟩
structure StoOk (w : World) (s : Nat) (d : StoD) (ρ : Rho) : Prop where
 at_ : StoAt w s d ρ
 ok : FsOk d.fs
 g : GOk w
 mx : MaxOk w
 own : ∀ k, stoOwn s d ρ k → NG ≤ k
 last : 0 ≤ d.last ∧ d.last ≤ 999999999
 nf : d.nfile.length ≤ 1000
section
variable {w w' w1 : World} {s : Nat} {d d' d1 : StoD} {ρ ρ' ρ1 : Rho}
theorem stoOwn_lt (h : StoAt w s d ρ) {k : Nat} (hk : stoOwn s d ρ k) : k < w.heap.size := by
 rcases hk with e | e | e | e
 ·exact h.fs.rest.lt k e
 ·rw [e]; exact (Array.getElem?_eq_some_iff.1 h.hd).1
 ·rw [e]; exact (Array.getElem?_eq_some_iff.1 h.ids).1
 ·rw [e]; exact h.whr.lt
theorem StoStep.owns (hT : StoStep w s d ρ w' d' ρ') (hN : ∀ k, stoOwn s d ρ k → NG ≤ k) (hs : NG ≤ w.heap.size) : ∀ k, stoOwn s d' ρ' k → NG ≤ k := fun k hk => by
 rcases hT.grow k hk with e | e
 ·exact hN k e
 ·omega
theorem StoOk.step (h : StoOk w s d ρ) (hA : StoAt w' s d' ρ') (hT : StoStep w s d ρ w' d' ρ') (hok : FsOk d'.fs) (hl : 0 ≤ d'.last ∧ d'.last ≤ 999999999) (hn : d'.nfile.length ≤ 1000) : StoOk w' s d' ρ' :=
 have hg := GB.keeps hT.keeps h.own
 ⟨hA, hok, h.g.gb hg, h.mx.gb hg, hT.owns h.own h.g.size, hl, hn⟩
theorem StoOk.below (h : StoOk w s d ρ) (hb : Below w.heap.size w w') : StoOk w' s d ρ :=
 ⟨h.at_.below hb, h.ok, h.g.below hb, h.mx.below hb, h.own, h.last, h.nf⟩
theorem StoStep.new (hT : StoStep w s d ρ w1 d1 ρ1) {M j : Nat} {v : Value} (hM : w.heap.size ≤ M) : StoStep w s d ρ (w1.setCell ⟨M, j, none⟩ v) d1 ρ1 :=
 ⟨hT.keeps.go (Keeps.setCell (F := fun k => k = M) _ _ _ rfl) (fun i e => .inr (by omega)), hT.grow⟩
theorem StoStep.bel (hT : StoStep w s d ρ w1 d1 ρ1) (hb : Below w1.heap.size w1 w') : StoStep w s d ρ w' d1 ρ1 := hT.trans (StoStep.below hb)
theorem StoAt.other (h : StoAt w s d ρ) {M j : Nat} {v : Value} (hM : ¬ stoOwn s d ρ M) : StoAt (w.setCell ⟨M, j, none⟩ v) s d ρ :=
 h.keeps (F := fun k => k = M) (Keeps.setCell _ _ _ rfl) (fun k e => by rw [e]; exact hM)
theorem StoAt.setDown (h : StoAt w s d ρ) (b : Bool) : StoAt (w.setCell ⟨s, 3, none⟩ (.bool b)) s { d with down := b } ρ ∧ StoStep w s d ρ (w.setCell ⟨s, 3, none⟩ (.bool b)) { d with down := b } ρ :=
 h.head (d' := { d with down := b }) (Keeps.setCell _ _ _ rfl) rfl (heap_setCell_same _ _ 3 _ _ _ h.hd)
theorem StoAt.setMap {wh : Wh} (h : StoAt w s d ρ) (hm : WhAt w' d.mb wh) (hk : Keeps (fun j => j = d.mb) w w') : StoAt w' s { d with whr := wh } ρ ∧ StoStep w s d ρ w' { d with whr := wh } ρ := by
 refine ⟨⟨h.fs.keeps hk (fun k e => by rw [e]; exact h.rm), hk.heap h.hd (fun e => h.sm e), hk.heap h.ids (fun e => h.im e), hm, h.rs, h.ri, h.rm⟩, ⟨hk.mono (fun k _ e => .inr (.inr (.inr e))), fun k e => .inl e⟩⟩
theorem NextR.same {er id : Int} (h : NextR d er id d') : d'.fb = d.fb ∧ d'.ib = d.ib ∧ d'.mb = d.mb ∧ d'.whr = d.whr ∧ d'.down = d.down := by
 rcases h with ⟨_, _, _, rfl⟩ | ⟨_, _, _, _, rfl⟩ | ⟨_, _, _, e1, d1, hm, ⟨_, _, _, rfl⟩ | ⟨_, _, _, rfl⟩⟩ | ⟨_, _, _, _, _, rfl⟩
 ·exact ⟨rfl, rfl, rfl, rfl, rfl⟩
 ·exact ⟨rfl, rfl, rfl, rfl, rfl⟩
 ·obtain ⟨a, b, c, _, e, f⟩ := hm.same; exact ⟨a, b, c, e, f⟩
 ·obtain ⟨a, b, c, _, e, f⟩ := hm.same; exact ⟨a, b, c, e, f⟩
 ·exact ⟨rfl, rfl, rfl, rfl, rfl⟩
theorem MoreR.nfile {er : Int} (h : MoreR d er d') (hn : d.nfile.length ≤ 1000) : d'.nfile.length ≤ 1000 := by
 have := idsNameD_len (moreB d)
 obtain ⟨x, v, lv, ⟨_, _, rfl⟩ | ⟨_, f1, ms, f2, e2, _, _, ⟨_, _, rfl⟩ | ⟨_, _, _, rfl⟩ | ⟨_, _, v2, lv2, _, rfl⟩⟩⟩ := h
 ·exact hn
 all_goals (show (idsNameD (moreB d)).length ≤ 1000; omega)
theorem NextR.bounds {er id : Int} (h : NextR d er id d') (hl : 0 ≤ d.last ∧ d.last ≤ 999999999) (hn : d.nfile.length ≤ 1000) : (0 ≤ d'.last ∧ d'.last ≤ 999999999) ∧ d'.nfile.length ≤ 1000 ∧ (0 ≤ id ∧ id ≤ 999999999) ∧ (er = 0 → 1 ≤ id) := by
 rcases h with ⟨_, h1, h2, rfl⟩ | ⟨_, _, h1, h2, rfl⟩ | ⟨_, hne, _, e1, d1, hm, ⟨h0, h1, h2, rfl⟩ | ⟨_, h1, h2, rfl⟩⟩ | ⟨_, hne, _, h1, h2, rfl⟩
 ·exact ⟨hl, hn, by omega, fun e => by omega⟩
 ·exact ⟨hl, hn, by omega, fun e => by omega⟩
 ·have h4 := hm.same.2.2.2.1
  exact ⟨by omega, hm.nfile hn, by omega, fun e => absurd (h1.symm.trans e) h0⟩
 ·refine ⟨?_, hm.nfile hn, by omega, fun e => by omega⟩
  show 0 ≤ d.last + 1 ∧ d.last + 1 ≤ 999999999
  omega
 ·refine ⟨?_, hn, by omega, fun e => by omega⟩
  show 0 ≤ d.last + 1 ∧ d.last + 1 ≤ 999999999
  omega
end
structure MailArg (w : World) (s : Nat) (d : StoD) (ρ : Rho) (m : MailD) (vr vb : Value) : Prop where
 r : RdS w vr m.rcpts
 b : RdB w vb m.body
 nb : NilOk vb
 or : ∀ k, vr.ownBlock = some k → k < w.heap.size ∧ ¬ stoOwn s d ρ k
 ob : ∀ k, vb.ownBlock = some k → k < w.heap.size ∧ ¬ stoOwn s d ρ k
 sm : m.lens
theorem MailArg.below {w w' : World} {s : Nat} {d : StoD} {ρ : Rho} {m : MailD} {vr vb : Value} (h : MailArg w s d ρ m vr vb) (hb : Below w.heap.size w w') : MailArg w' s d ρ m vr vb :=
 ⟨h.r.below (Nat.le_refl _) hb, h.b.below (Nat.le_refl _) hb, h.nb, fun k e => ⟨Nat.lt_of_lt_of_le (h.or k e).1 hb.size, (h.or k e).2⟩, fun k e => ⟨Nat.lt_of_lt_of_le (h.ob k e).1 hb.size, (h.ob k e).2⟩, h.sm⟩
theorem MailArg.step {w w' : World} {s : Nat} {d d' : StoD} {ρ ρ' : Rho} {m : MailD} {vr vb : Value} (h : MailArg w s d ρ m vr vb) (hT : StoStep w s d ρ w' d' ρ') : MailArg w' s d' ρ' m vr vb := by
 have hn : ∀ k, k < w.heap.size → ¬ stoOwn s d ρ k → k < w'.heap.size ∧ ¬ stoOwn s d' ρ' k := fun k h1 h2 => ⟨Nat.lt_of_lt_of_le h1 hT.keeps.size, fun e => by
  rcases hT.grow k e with e | e
  ·exact h2 e
  ·omega⟩
 refine ⟨h.r.keeps hT.keeps ?_, h.b.keeps hT.keeps (fun k e => (h.ob k e).2), h.nb, fun k e => hn k (h.or k e).1 (h.or k e).2, fun k e => hn k (h.ob k e).1 (h.ob k e).2, h.sm⟩
 intro b o l c e
 rw [e] at h
 exact (h.or b rfl).2
def encD (m : MailD) : List UInt8 := if m.good then m.record else []
def EncAny (w : World) (m : MailD) (e : Ending) (w' : World) : Prop :=
 ∃ v, e = .returned (.tuple #[v, .bool m.good]) ∧ w'.ownsRow w.heap.size 5 1 v (encD m).length ((encD m).map u8v) ∧ Below w.heap.size w w'
theorem encode_any (m : MailD) (vr vb : Value) (w : World) (hr : RdS w vr m.rcpts) (hb : RdB w vb m.body) (hnb : NilOk vb) (hsm : m.small) (hmax : MaxOk w) (hor : ∀ k, vr.ownBlock = some k → k < w.heap.size) (hob : ∀ k, vb.ownBlock = some k → k < w.heap.size) :
 Calls Tryz.prog 114 #[mailVal m vr vb] w (EncAny w m) := by
 cases hg : m.good with
 | true =>
  refine (encode_good m vr vb w hr hb hnb hsm hmax hg hor hob).mono fun e w' ⟨v, he, ho, hb⟩ => ⟨v, by rw [hg]; exact he, ?_, hb⟩
  unfold encD; rw [hg]; exact ho
 | false =>
  refine (encode_bad m vr vb w hr hb (fun l h => by have := hsm.2 l h; omega) (by have := hsm.1; omega) hmax hg).mono fun e w' ⟨he, hb⟩ => ?_
  refine ⟨.slice none 0 0, by rw [hg]; exact he, ?_, hb⟩
  unfold encD; rw [hg]; exact World.ownsRow_nil _ _ _ _
end Go.Proofs.YtffnbkmigapmjaaGreatDoor
