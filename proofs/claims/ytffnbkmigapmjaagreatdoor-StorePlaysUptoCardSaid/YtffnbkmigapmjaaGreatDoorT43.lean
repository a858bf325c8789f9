/-
  The walk of store.parents.
-/
import Derived.Test.YtffnbkmigapmjaaGreatDoorT33
import Derived.Test.YtffnbkmigapmjaaGreatDoorT42
set_option linter.unusedSimpArgs false
set_option linter.unusedVariables false
set_option maxRecDepth 100000
namespace Go.Proofs.YtffnbkmigapmjaaGreatDoor
open Go.RowKit Go.Maps
def WhOk (l : Wh) : Prop := ∀ p ∈ l, 1 ≤ p.1 ∧ p.1 ≤ 999999999
theorem decode_good {bs : List UInt8} {m : MailD} {n : Nat} (h : decodeMail bs = some (m, n)) : m.good = true := by
 unfold decodeMail at h
 split at h
 ·cases h
 ·split at h
  ·cases h
  ·split at h
   ·obtain ⟨x, hx, he⟩ := Option.map_eq_some_iff.1 h
    cases he
    unfold readM at hx
    split at hx
    ·rename_i hc; cases hx; exact hc.2.2
    ·cases hx
   ·cases h
theorem file_mail_good {bs : List UInt8} {f : FileD} (h : fileD bs = some f) : f.mail.good = true := by
 unfold fileD at h
 obtain ⟨⟨m, n⟩, hd, hf⟩ := Option.map_eq_some_iff.1 h
 rw [← hf]; exact decode_good hd
theorem sfile_good {d : StoD} {id : Int} {f : FileD} (h : sfileD d id = some f) : f.mail.good = true := by
 unfold sfileD at h
 split at h
 ·split at h
  ·exact file_mail_good h
  ·cases h
 ·cases h
theorem sfile_parent (d : StoD) (id : Int) : 0 ≤ ((sfileD d id).getD FileD.zero).mail.parent ∧ ((sfileD d id).getD FileD.zero).mail.parent ≤ 999999999 := by
 cases h : sfileD d id with
 | none => exact ⟨Int.le_refl _, by decide⟩
 | some f =>
  have := (good_iff _).1 (sfile_good h)
  show 0 ≤ f.mail.parent ∧ f.mail.parent ≤ 999999999
  omega
def ParS (id : Int) (d : StoD) (er : Int) (d' : StoD) : Prop :=
 (¬ ((sfileD d id).isSome = true ∧ workQ.contains (d.whr.at ((sfileD d id).getD FileD.zero).mail.parent) = true) ∧ er = 0 ∧ d' = d) ∨
 ((sfileD d id).isSome = true ∧ workQ.contains (d.whr.at ((sfileD d id).getD FileD.zero).mail.parent) = true ∧
   ∃ fs2, Outcome (unlS (nameD (d.whr.at ((sfileD d id).getD FileD.zero).mail.parent) ((sfileD d id).getD FileD.zero).mail.parent)) 2 d.fs er fs2 ∧
    ((er ≠ 0 ∧ d' = { d with fs := fs2, down := d.down || decide (er = 2) }) ∨ (er = 0 ∧ d' = { d with fs := fs2, whr := d.whr.del ((sfileD d id).getD FileD.zero).mail.parent })))
def parL (d : StoD) : List Int := (([105, 97, 100] : List UInt8).flatMap (listD d.whr)).mergeSort (fun x y => decide (x ≤ y))
theorem listD_mem {l : Wh} {q : UInt8} {n : Int} (h : n ∈ listD l q) : ∃ p ∈ l, p.1 = n := by
 unfold listD at h
 have := (List.mergeSort_perm _ _).mem_iff.1 h
 obtain ⟨p, hp, rfl⟩ := List.mem_map.1 this
 exact ⟨p, (List.mem_filter.1 hp).1, rfl⟩
theorem listD_len (l : Wh) (q : UInt8) : (listD l q).length ≤ l.length := by
 unfold listD
 rw [List.length_mergeSort, List.length_map]; exact List.length_filter_le _ _
theorem parL_mem {d : StoD} {n : Int} (h : n ∈ parL d) : ∃ p ∈ d.whr, p.1 = n := by
 unfold parL at h
 have := (List.mergeSort_perm _ _).mem_iff.1 h
 obtain ⟨q, _, hq⟩ := List.mem_flatMap.1 this
 exact listD_mem hq
theorem parL_len (d : StoD) : (parL d).length ≤ 3 * d.whr.length := by
 unfold parL
 rw [List.length_mergeSort]
 have h1 := listD_len d.whr 105
 have h2 := listD_len d.whr 97
 have h3 := listD_len d.whr 100
 simp only [List.flatMap_cons, List.flatMap_nil, List.append_nil, List.length_append]
 omega
structure ParI (w1 : World) (s : Nat) (d : StoD) (ρ : Rho) (ll : List Int) (j : Nat) (dj : StoD) (ρj : Rho) (wr : World) : Prop where
 run : RunL ParS d (ll.take j) dj
 at_ : StoOk wr s dj ρj
 step : StoStep w1 s d ρ wr dj ρj
 go : FsGo d.fs dj.fs (2 * j)
theorem ParI.bel {w1 : World} {s : Nat} {d : StoD} {ρ : Rho} {ll : List Int} {j : Nat} {dj : StoD} {ρj : Rho} {wr w2 : World} (h : ParI w1 s d ρ ll j dj ρj wr) (hb : Below wr.heap.size wr w2) : ParI w1 s d ρ ll j dj ρj w2 :=
 ⟨h.run, h.at_.below hb, h.step.bel hb, h.go⟩
structure ParDone (w : World) (s : Nat) (d : StoD) (ρ : Rho) (e : Ending) (w' : World) (er : Int) (d' : StoD) (ρ' : Rho) : Prop where
 ret : e = .returned (.int .i64 er)
 out : OutL ParS (parL d) d er d'
 at_ : StoOk w' s d' ρ'
 step : StoStep w s d ρ w' d' ρ'
 go : FsGo d.fs d'.fs (2 * (parL d).length)
def accL (d : StoD) (j : Nat) : List Int := (([105, 97, 100] : List UInt8).take j).flatMap (listD d.whr)
theorem accL_succ {d : StoD} {j : Nat} {q : UInt8} (h : ([105, 97, 100] : List UInt8)[j]? = some q) : accL d (j + 1) = accL d j ++ listD d.whr q := by
 unfold accL
 rw [List.take_add_one, h, List.flatMap_append]
 show _ ++ ([q].flatMap (listD d.whr)) = _
 rw [List.flatMap_singleton]
theorem accL_len (d : StoD) : ∀ j, j ≤ 3 → (accL d j).length ≤ 3 * d.whr.length := by
 intro j hj
 have h1 := listD_len d.whr 105
 have h2 := listD_len d.whr 97
 have h3 := listD_len d.whr 100
 unfold accL
 match j, hj with
 | 0, _ => simp
 | 1, _ => simp; omega
 | 2, _ => simp; omega
 | 3, _ => simp; omega
set_option maxHeartbeats 16000000 in
theorem parents_calls (s : Nat) (d : StoD) (ρ : Rho) (w : World) (h : StoOk w s d ρ) (hll : d.fs.loose.length ≤ 700000) (hwl : d.whr.length ≤ 2000) (hwk : WhOk d.whr) :
 Calls Tryz.prog 103 #[.pointer (some ⟨s, 0, none⟩)] w fun e w' => ∃ er d' ρ', ParDone w s d ρ e w' er d' ρ' := by
 obtain ⟨i0, hi, hz0, hz1, hz2⟩ := info_parts infoInt'
 have hkc : (convert 22 22 (.slice (some ⟨w.heap.size, 0, none⟩) 3 3)).run Tryz.prog (w.alloc (.cells #[.int .u8 105, .int .u8 97, .int .u8 100] 5)) = .ok (.slice (some ⟨w.heap.size, 0, none⟩) 3 3) (w.alloc (.cells #[.int .u8 105, .int .u8 97, .int .u8 100] 5 (3, 4))) :=
  Lib.run_convert_bytes_const (P := Tryz.prog) w 22 5 #[.int .u8 105, .int .u8 97, .int .u8 100] 3 3 Tryz.underlying22 Tryz.underlying5
 obtain ⟨W, hW⟩ : ∃ W, w.alloc (.cells #[.int .u8 105, .int .u8 97, .int .u8 100] 5 (3, 4)) = W := ⟨_, rfl⟩
 have hbW : Below w.heap.size w W := by rw [← hW]; exact (Below.refl _ _).alloc (Nat.le_refl _) _
 have hh : W.heap[w.heap.size]? = some (.cells ([105, 97, 100].map u8v).toArray 5 (3, 4)) := by rw [← hW]; exact heap_alloc_new w _
 have hWs : w.heap.size < W.heap.size := (Array.getElem?_eq_some_iff.1 hh).1
 have hnil : W.ownsRow W.heap.size 3 1 (.slice none 0 0) (accL d 0).length ((accL d 0).flatMap i1') := World.ownsRow_nil _ _ _ _
 have hlist := fun w1 (hb : Below w.heap.size w w1) (q : UInt8) => slist_calls s d ρ w1 (h.below hb).at_ q (by omega)
 rw [hW] at hkc
 have Hlist := Lib.hid hlist
 have Hh := Lib.hid hh
 have HWs := Lib.hid hWs
 have HbW := Lib.hid hbW
 have H := Lib.hid (And.intro h (And.intro hll (And.intro hwl hwk)))
 have Hal := Lib.hid (accL_len d)
 clear hlist hh hWs hbW h hll hwl hwk
 subst hW
 go_enter Tryz.func103, Tryz.ntmps103
 go_wp2
 generalize hW : w.alloc (.cells #[.int .u8 105, .int .u8 97, .int .u8 100] 5 (3, 4)) = W at *
 clear hkc hW
 go_loopw [3, 5, 15] (fun v q i wr => ∃ j : Nat, j ≤ 3 ∧ i = .int .i64 j ∧ wr.ownsRow W.heap.size 3 1 v (accL d j).length ((accL d j).flatMap i1') ∧ Below W.heap.size W wr) (fun _ _ i _ => 3 - (intOf i).toNat)
 case atStart => exact ⟨0, Nat.zero_le _, rfl, hnil, Below.refl _ _⟩
 case round =>
  obtain ⟨j, hj, rfl, hown, hbw⟩ := hrel
  obtain ⟨av, cv, rfl⟩ := own_form0 hown
  have Hown := Lib.hid hown
  have Hbw := Lib.hid hbw
  have hbw1 := HbW.out.trans (hbw.mono HbW.out.size)
  have Hbw1 := Lib.hid hbw1
  clear hown hnil
  have hal := Hal.out j hj
  have hwl := H.out.2.2.1
  by_cases hlt : j < 3
  ·obtain ⟨q, hq⟩ : ∃ q, ([105, 97, 100] : List UInt8)[j]? = some q := ⟨_, List.getElem?_eq_getElem hlt⟩
   have hcell : wr.cell? ⟨w.heap.size, j, none⟩ = some (.int .u8 q.toNat) := by
    rw [cell_of_row _ _ _ _ _ _ ((hbw.block _ HWs.out).trans Hh.out), List.getElem?_toArray, List.getElem?_map, hq]; rfl
   have hj0 : (0 : Int) ≤ (j : Int) := by omega
   have hj1 : (j : Int) < 3 := by omega
   have hl := Hlist.out _ hbw1 q
   have hsucc := accL_succ (d := d) hq
   have hql := listD_len d.whr q
   have Hl := Lib.hid hl
   have Hsucc := Lib.hid hsucc
   clear hl hq hbw hbw1 hsucc
   generalize accL d j = acc at Hown Hsucc hal ⊢
   generalize listD d.whr q = lq at Hl Hsucc hql
   obtain ⟨qn, hqn⟩ : ∃ qn : Nat, q.toNat = qn := ⟨_, rfl⟩
   rw [hqn] at hcell Hl
   clear hqn
   go_wp2_with fail
   refine (Hl.out).mono ?_; rintro e w2 ⟨v2, rfl, hrow2, hb2⟩
   have hbw2 := Hbw1.out.trans (hb2.mono Hbw1.out.size)
   have hown2 : w2.ownsRow W.heap.size 3 1 (.slice av acc.length cv) acc.length (acc.flatMap i1') := own_below Hown.out hb2 (Nat.le_refl _)
   have hbW2 := Hbw.out.trans (hb2.mono Hbw.out.size)
   rw [iv_flat] at hrow2
   have hsrc : RdL 1 i1' w2 v2 lq := rdL_ofOwn i1_len' (by decide) hrow2
   have hnv := nilOk_own hrow2
   have hbs := hbW2.size
   have hbase2 := own_base hown2
   have Hown2 := Lib.hid hown2
   have Hsrc := Lib.hid hsrc
   have Hnv := Lib.hid hnv
   have HbW2 := Lib.hid hbW2
   have hone : ∀ c ∈ lq.flatMap i1', c.oneCell' = true := by
    intro c hc
    obtain ⟨x, _, hx⟩ := List.mem_flatMap.1 hc
    rw [List.mem_singleton.1 hx]; rfl
   have hm1 : acc.length + lq.length ≤ maxLen := by unfold maxLen; omega
   have hm2 : (acc.length + lq.length) * 8 ≤ 140737488355328 := by omega
   have Hone := Lib.hid hone
   clear hrow2 hb2 hown2 hsrc hnv hbW2 hbw2 hone hcell
   go_wp2_with (at_builtin; go_must (refine wpList_append_any i1_len' (by decide) rfl (.tmp 19) (.tmp 22) 47 rfl W.heap.size 3 i0 _ 8 Tryz.underlying47 hi hz0 hz1 hz2 rfl _ _ _ rfl Hown2.out _ lq rfl Hsrc.out Hnv.out Hone.out hm1 hm2 hbs ?_); rintro v' w3 hown3 hg3 hn3)
   have hb3 := HbW2.out.grown hg3 HbW2.out.size hbase2
   have Hown3 := Lib.hid hown3
   have Hb3 := Lib.hid hb3
   clear hown3 hg3 hn3 hb3
   go_wp2
   go_roundw
   case rel =>
    refine ⟨j + 1, by omega, by simp, ?_, Hb3.out⟩
    rw [Hsucc.out, List.length_append, List.flatMap_append]
    exact Hown3.out
   case measure => simp [intOf] <;> omega
  ·have hje : j = 3 := by omega
   subst hje
   obtain ⟨L, hL⟩ : ∃ L, accL d 3 = L := ⟨_, rfl⟩
   rw [hL] at Hown hal ⊢
   have hpl : parL d = L.mergeSort (fun x y => decide (x ≤ y)) := by rw [← hL]; rfl
   have hsr := sortI_calls (.slice av L.length cv) L W.heap.size wr (by rw [iv_flat]; exact Hown.out) (by omega)
   have hll : (parL d).length = L.length := by rw [hpl, List.length_mergeSort]
   rw [← hpl] at hsr
   have Hsr := Lib.hid hsr
   have hbase := own_base Hown.out
   have Hll := Lib.hid hll
   clear hsr hbw hbw1 hpl hL hll
   go_wp2_with fail
   refine (Hsr.out).mono ?_; rintro e w2 ⟨rfl, hown2, hg2⟩
   have hb2 := (Hbw.out.grown hg2 Hbw.out.size hbase)
   have hbw2 := HbW.out.trans (hb2.mono HbW.out.size)
   rw [iv_flat] at hown2
   obtain ⟨ll, hlq⟩ : ∃ ll, parL d = ll := ⟨_, rfl⟩
   have Hpm := Lib.hid (fun n (hn : n ∈ parL d) => parL_mem hn)
   have Hlq := Lib.hid hlq
   rw [hlq] at hown2 Hll Hpm
   have hown2 : w2.ownsRow W.heap.size 3 1 (.slice av ll.length cv) ll.length (ll.flatMap i1') := by rw [Hll.out]; exact hown2
   have hrd2 : RdL 1 i1' w2 (.slice av ll.length cv) ll := rdL_ofOwn i1_len' (by decide) hown2
   have hbase2 := own_base hown2
   have hO2 := H.out.1.below hbw2
   have Hrd := Lib.hid (And.intro hrd2 (fun b o l c (e : Value.slice av ll.length cv = .slice (some ⟨b, o, none⟩) l c) (g : stoOwn s d ρ b) => (by
    have h1 := hbase2 b (by rw [e]; rfl)
    have h2 := stoOwn_lt H.out.1.at_ g
    have h3 := HbW.out.size
    omega : False)))
   have H2 := Lib.hid (And.intro hO2 (StoStep.below (s := s) (d := d) (ρ := ρ) hbw2))
   rw [← Hll.out]
   have hll3 : ll.length ≤ 6000 := by rw [Hll.out]; omega
   clear hown2 hg2 hb2 hbw2 hrd2 hbase2 hbase hO2 hlq Hown Hbw Hbw1 hlt
   go_wp2
   go_loopw [7, 8, 9, 10, 11, 29] (fun x1 x2 x3 x4 x5 i wr2 => ∃ j : Nat, ∃ dj ρj, j ≤ ll.length ∧ i = .int .i64 j ∧ Hid (ParI w2 s d ρ ll j dj ρj wr2 ∧ WhOk dj.whr)) (fun _ _ _ _ _ i _ => ll.length - (intOf i).toNat)
   case atStart => exact ⟨0, d, ρ, Nat.zero_le _, rfl, Lib.hid ⟨⟨.nil, H2.out.1, StoStep.refl _ _ _ _, FsGo.refl H.out.1.ok⟩, H.out.2.2.2⟩⟩
   case round =>
    obtain ⟨j, dj, ρj, hj, rfl, hP⟩ := hrel
    by_cases hlt : j < ll.length
    ·obtain ⟨id, hid⟩ : ∃ id, ll[j]? = some id := ⟨_, List.getElem?_eq_getElem hlt⟩
     obtain ⟨b, off, cap', hsl, hbl, h3⟩ := RdL.at (Hrd.out.1.keeps hP.out.1.step.keeps (fun b o l c e => Hrd.out.2 b o l c e)) hid
     have hc := h3 0 _ rfl
     rw [Nat.mul_one, Nat.add_zero] at hc
     cases hsl
     have hrng : 1 ≤ id ∧ id ≤ 999999999 := by
      obtain ⟨p, hp, rfl⟩ := Hpm.out id (List.mem_of_getElem? hid)
      exact H.out.2.2.2 p hp
     have hf := sfile_calls s dj ρj wr hP.out.1.at_.at_ id (by omega) hP.out.1.at_.g hP.out.1.at_.mx
     have hpr := sfile_parent dj id
     obtain ⟨r, hr⟩ : ∃ r, sfileD dj id = r := ⟨_, rfl⟩
     rw [hr] at hf hpr
     have hj0 : (0 : Int) ≤ (j : Int) := by omega
     have hj1 : (j : Int) < (ll.length : Int) := by omega
     have Hf := Lib.hid hf
     have Hid1 := Lib.hid (And.intro hid hr)
     clear hf h3 hid hr hbl
     go_wp2_with fail
     refine (Hf.out).mono ?_; rintro e w5 ⟨vr, vb, vm, rfl, o1, o2, o3, hb5⟩
     obtain ⟨a1, c1, rfl⟩ := own_form0 o1
     obtain ⟨a2, c2, rfl⟩ := own_form0 o2
     obtain ⟨a3, c3, rfl⟩ := own_form0 o3
     generalize (r.getD FileD.zero).mail.rcpts.length = n1
     generalize (r.getD FileD.zero).mail.body.length = n2
     generalize (r.getD FileD.zero).marks.length = n3
     have he : ∀ a b c, fileVal (r.getD FileD.zero) a b c = .agg #[.int .i64 (r.getD FileD.zero).mail.id, .int .i64 (r.getD FileD.zero).mail.parent, .int .i64 (r.getD FileD.zero).mail.born, .string (strL (r.getD FileD.zero).mail.frm), a, b, c, .int .i64 ((r.getD FileD.zero).good : Int)] := fun _ _ _ => rfl
     rw [he]
     obtain ⟨mp, hmp⟩ : ∃ mp, (r.getD FileD.zero).mail.parent = mp := ⟨_, rfl⟩
     obtain ⟨ok, hok⟩ : ∃ ok, r.isSome = ok := ⟨_, rfl⟩
     rw [hmp] at hpr ⊢
     rw [hok]
     have Hmp := Lib.hid (And.intro hmp hok)
     generalize (r.getD FileD.zero).mail.id = mi
     generalize ((r.getD FileD.zero).good : Int) = gg
     generalize (r.getD FileD.zero).mail.born = mb
     generalize strL (r.getD FileD.zero).mail.frm = sf
     obtain ⟨W5, hW5⟩ : ∃ W5, w5.alloc (.cells #[.int .i64 mi, .int .i64 mp, .int .i64 mb, .string sf, .slice a1 n1 c1, .slice a2 n2 c2, .slice a3 n3 c3, .int .i64 gg] 43) = W5 := ⟨_, rfl⟩
     have hbW5 : Below w5.heap.size w5 W5 := by rw [← hW5]; exact (Below.refl _ _).alloc (Nat.le_refl _) _
     have hX : W5.heap[w5.heap.size]? = some (.cells #[.int .i64 mi, .int .i64 mp, .int .i64 mb, .string sf, .slice a1 n1 c1, .slice a2 n2 c2, .slice a3 n3 c3, .int .i64 gg] 43 (0, 0)) := by rw [← hW5]; exact heap_alloc_new w5 _
     have hP5 := hP.out.1.bel (hb5.trans (hbW5.mono hb5.size))
     have y1 := (cells8 hX).1.2.1
     have HP5 := Lib.hid (And.intro hP5 hP.out.2)
     have hpar : ∀ er d', ((¬ (ok = true ∧ workQ.contains (dj.whr.at mp) = true) ∧ er = 0 ∧ d' = dj) ∨ (ok = true ∧ workQ.contains (dj.whr.at mp) = true ∧ ∃ fs2, Outcome (unlS (nameD (dj.whr.at mp) mp)) 2 dj.fs er fs2 ∧ ((er ≠ 0 ∧ d' = { dj with fs := fs2, down := dj.down || decide (er = 2) }) ∨ (er = 0 ∧ d' = { dj with fs := fs2, whr := dj.whr.del mp })))) → ParS id dj er d' := by
      intro er d' hx
      unfold ParS
      rw [Hid1.out.2, hmp, hok]; exact hx
     have Hpar := Lib.hid hpar
     have c2 := (cells4 hP5.at_.at_.hd).1.2.2.1
     have hlk := wh_look hP5.at_.at_.whr mp (by omega)
     obtain ⟨q, hq⟩ : ∃ q, dj.whr.at mp = q := ⟨_, rfl⟩
     have hq' : (dj.whr.look mp).getD 0 = q := hq
     rw [hq'] at hlk
     have hin := in_work q
     obtain ⟨bq, hbq⟩ : ∃ bq, workQ.contains q = bq := ⟨_, rfl⟩
     obtain ⟨qn, hqn⟩ : ∃ qn : Nat, q.toNat = qn := ⟨_, rfl⟩
     rw [hqn] at hlk hin
     rw [hbq] at hin
     have Hq := Lib.hid (And.intro hq (And.intro hbq hqn))
     have Hin := Lib.hid hin
     obtain ⟨mbk, hmbk⟩ : ∃ mbk, dj.mb = mbk := ⟨_, rfl⟩
     rw [hmbk] at c2 hlk
     have Hmbk := Lib.hid hmbk
     clear hP hbW5 hX hP5 o1 o2 o3 hb5 he hmp hok hc hpar hq hq' hbq hqn hin hmbk
     cases ok with
     | false =>
      clear hlk c2
      subst hW5
      go_wp2
      go_roundw
      case rel =>
       refine ⟨j + 1, dj, ρj, by omega, by simp, Lib.hid ⟨⟨HP5.out.1.run.take_succ Hid1.out.1 (Hpar.out _ _ (.inl ⟨fun e => (by cases e.1), rfl, rfl⟩)), HP5.out.1.at_, HP5.out.1.step, HP5.out.1.go.mono (by omega)⟩, HP5.out.2⟩⟩
      case measure => simp [intOf] <;> omega
     | true =>
      cases bq with
      | false =>
       subst hW5
       go_wp2_with fail
       refine (Hin.out _).mono ?_; rintro e w6 ⟨rfl, hw6⟩; have hw6 := hw6.symm; subst hw6
       clear hlk c2 y1
       go_wp2
       go_roundw
       case rel =>
        refine ⟨j + 1, dj, ρj, by omega, by simp, Lib.hid ⟨⟨HP5.out.1.run.take_succ Hid1.out.1 (Hpar.out _ _ (.inl ⟨fun e => (by have := e.2; rw [Hq.out.1, Hq.out.2.1] at this; cases this), rfl, rfl⟩)), HP5.out.1.at_, HP5.out.1.step, HP5.out.1.go.mono (by omega)⟩, HP5.out.2⟩⟩
       case measure => simp [intOf] <;> omega
      | true =>
       have hq0 : q ≠ 0 := fun e => by have := Hq.out.2.1; rw [e] at this; exact absurd this (by decide)
       have hne : ((qn : Int) != 0) = true := by
        have : qn ≠ 0 := fun e => hq0 (UInt8.toNat_inj.1 (by rw [Hq.out.2.2, e]; rfl))
        simp only [bne_iff_ne, ne_eq]
        omega
       have hgo := HP5.out.1.go.2
       have hjl6 : j ≤ 6000 := by omega
       have hul := sunlink_calls s dj ρj q mp W5 HP5.out.1.at_ (by have := H.out.2.1; omega)
       rw [Hq.out.2.2] at hul
       have Hul := Lib.hid hul
       clear hul hgo hq0
       subst hW5
       go_wp2_with fail
       refine (Hin.out _).mono ?_; rintro e w6 ⟨rfl, hw6⟩; have hw6 := hw6.symm; subst hw6
       go_wp2_with fail
       refine (Hul.out).mono ?_; rintro e w7 ⟨er, fs7, ρ7, rfl, ho, hO7, hT7, hg7⟩
       have H7 := Lib.hid (And.intro ho (And.intro hO7 (And.intro (HP5.out.1.step.trans hT7) (HP5.out.1.go.trans hg7))))
       clear hlk c2 y1 hne ho hO7 hT7 hg7
       by_cases h0 : er = 0
       ·subst h0
        have hdn : ({ dj with fs := fs7, down := dj.down || decide ((0 : Int) = 2) } : StoD) = { dj with fs := fs7 } := by cases hx : dj.down <;> simp [hx]
        have H7' : Hid (Outcome (unlS (nameD q mp)) 2 dj.fs 0 fs7 ∧ StoOk w7 s { dj with fs := fs7 } ρ7 ∧ StoStep w2 s d ρ w7 { dj with fs := fs7 } ρ7 ∧ FsGo d.fs fs7 (2 * j + 2)) := Lib.hid (by
         obtain ⟨q1, q2, q3, q4⟩ := H7.out
         rw [hdn] at q2 q3
         exact ⟨q1, q2, q3, q4⟩)
        have c2 := (cells4 H7'.out.2.1.at_.hd).1.2.2.1
        obtain ⟨w8, hrun8, hm8, hk8⟩ := wh_del H7'.out.2.1.at_.whr mp (by omega) 0
        obtain ⟨hA8, hT8⟩ := H7'.out.2.1.at_.setMap hm8 hk8
        have hO8 := H7'.out.2.1.step hA8 hT8 H7'.out.2.1.ok H7'.out.2.1.last H7'.out.2.1.nf
        have H8 := Lib.hid (And.intro hO8 (H7'.out.2.2.1.trans hT8))
        dsimp only at c2 hrun8
        rw [Hmbk.out] at c2 hrun8
        clear hm8 hk8 hA8 hT8 hO8 hdn H7
        go_wp2
        go_roundw
        case rel =>
         refine ⟨j + 1, { dj with fs := fs7, whr := dj.whr.del mp }, ρ7, by omega, by simp, Lib.hid ⟨⟨HP5.out.1.run.take_succ Hid1.out.1 (Hpar.out _ _ (.inr ⟨by first | exact rfl | exact trivial, by rw [Hq.out.1, Hq.out.2.1], fs7, by rw [Hq.out.1]; exact H7'.out.1, .inr ⟨rfl, rfl⟩⟩)), H8.out.1, H8.out.2, H7'.out.2.2.2.mono (by omega)⟩, fun p hp => HP5.out.2 p (List.mem_filter.1 hp).1⟩⟩
        case measure => simp [intOf] <;> omega
       ·have h0' : (er != 0) = true := by simpa using h0
        have H0 := Lib.hid h0
        clear h0
        go_wp2
        go_ret
        obtain ⟨q1, q2, q3, q4⟩ := H7.out
        refine ⟨er, _, ρ7, rfl, .inr ⟨H0.out, j, id, dj, by rw [Hlq.out]; exact Hid1.out.1, by rw [Hlq.out]; exact HP5.out.1.run, Hpar.out _ _ (.inr ⟨by first | exact rfl | exact trivial, by rw [Hq.out.1, Hq.out.2.1], fs7, by rw [Hq.out.1]; exact q1, .inl ⟨H0.out, rfl⟩⟩)⟩, q2, H2.out.2.trans q3, ?_⟩
        rw [Hlq.out]
        exact q4.mono (by omega)
    ·have hje : j = ll.length := by omega
     subst hje
     have hjl : ¬ ((ll.length : Int) < (ll.length : Int)) := by omega
     have hrun := hP.out.1.run
     rw [List.take_of_length_le (Nat.le_refl _)] at hrun
     have HF := Lib.hid (And.intro hrun hP.out.1)
     clear hP hrun
     go_wp2
     go_ret
     exact ⟨0, dj, ρj, rfl, .inl ⟨rfl, by rw [Hlq.out]; exact HF.out.1⟩, HF.out.2.at_, H2.out.2.trans HF.out.2.step, by rw [Hlq.out]; exact HF.out.2.go⟩
end Go.Proofs.YtffnbkmigapmjaaGreatDoor
