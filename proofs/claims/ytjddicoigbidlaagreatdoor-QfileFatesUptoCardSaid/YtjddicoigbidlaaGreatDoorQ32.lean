/-
  The walk of the law QfileFates.
-/
import Derived.Test.YtjddicoigbidlaaGreatDoorQ19
import Derived.Test.YtjddicoigbidlaaGreatDoorQ29
import Derived.Test.YtjddicoigbidlaaGreatDoorQ31
set_option linter.unusedSimpArgs false
set_option linter.unusedVariables false
set_option maxRecDepth 100000
namespace Go.Proofs.YtjddicoigbidlaaGreatDoor
open Go.RowKit
set_option maxHeartbeats 16000000 in
theorem qfileFates_walk (m : MailD) (vr vb vm : Value) (ks : List MarkD) (w : World) (hr : RdS w vr m.rcpts) (hb : RdB w vb m.body) (hnb : NilOk vb) (hm : RdM w vm ks) (hsr : ∀ l ∈ m.rcpts, l.length ≤ 4294967270) (hsf : m.frm.length ≤ 4294967270) (hmax : MaxOk w) :
    Calls Tryz.prog 11 #[mailVal m vr vb, vm] w fun e w' => e = .returned (.bool true) ∧ Below w.heap.size w w' := by
  obtain ⟨i0, hi, hz0, hz1, hz2⟩ := info_parts infoInt
  obtain ⟨ar, capr, rfl, hlr, hcr⟩ := hr.form
  obtain ⟨ab, capb, rfl, hlb, hcb⟩ := hb.form
  obtain ⟨am, capm, rfl, hlm, hcm⟩ := hm.form
  have hzF : ∀ w, (zeroValue 43).run Tryz.prog w = .ok (.agg #[.int .i64 0, .int .i64 0, .int .i64 0, .string ⟨#[]⟩, .slice none 0 0, .slice none 0 0, .slice none 0 0, .int .i64 0]) w := fun _ => by kernel_rfl
  have hnew := MailAt.new (m := m) hr hb
  obtain ⟨W, hW⟩ : ∃ W, w.alloc (.cells #[.int .i64 m.id, .int .i64 m.parent, .int .i64 m.born, .string (strL m.frm), .slice ar m.rcpts.length capr, .slice ab m.body.length capb] 25) = W := ⟨_, rfl⟩
  have hbW : Below w.heap.size w W := by rw [← hW]; exact (Below.refl _ _).alloc (Nat.le_refl _) _
  rw [hW] at hnew
  have hgc := qgood_calls m _ _ (.slice am ks.length capm) ks W hnew.rs hnew.rb (hm.below (Nat.le_refl _) hbW) hsr hsf
  obtain ⟨q, hq⟩ : ∃ q, qgood m ks = q := ⟨_, rfl⟩
  rw [hq] at hgc
  obtain ⟨c0, c1, c2, c3, c4, c5⟩ := hnew.cells
  have Hans : Hid (∀ W', Below W.heap.size W W' → Calls Tryz.prog 23 #[] W' fun e w' => e = .returned (.bool true) ∧ Below W'.heap.size W' w') := fun W' h => filAns_calls W' (hmax.below (hbW.trans (h.mono hbW.size)))
  have Hgc := Lib.hid hgc
  have HbW := Lib.hid hbW
  have Hq := Lib.hid hq
  have Hnew := Lib.hid hnew
  have Hm := Lib.hid (hm.below (Nat.le_refl _) hbW)
  have Hmax := Lib.hid (hmax.below hbW)
  have Hnb := Lib.hid hnb
  clear hgc hbW hq hnew hm hmax hnb hr hb hsr hsf
  subst hW
  cases q with
  | false =>
    go_enter Tryz.func11, Tryz.ntmps11
    go_wp2_with fail
    refine (Hgc.out).mono ?_; rintro e w1 ⟨rfl, hb1⟩
    have hans := Hans.out _ hb1
    have Hans1 := Lib.hid hans
    have hbw1 := HbW.out.trans (hb1.mono HbW.out.size)
    clear hans hb1 c0 c1 c2 c3 c4 c5
    go_wp2_with fail
    refine (Hans1.out).mono ?_; rintro e w2 ⟨rfl, hb2⟩
    go_wp2
    go_ret
    exact ⟨rfl, hbw1.trans (hb2.mono hbw1.size)⟩
  | true =>
    obtain ⟨hk1, hk2, hg1, hg2⟩ := qgood_iff Hq.out
    have hr8 : m.rcpts.length ≤ 8 := ((good_iff m).1 hg1).2.2.2.1.2
    have hfile := fun W vr vb vm h1 h2 h3 h4 => qfile_calls m vr vb vm ks W h1 h2 h3 h4 hg1 hk1 hk2
    have hfd := fileD_full m (small_of_good hg1) hg1 ks hk1 (by omega)
    have hmx := record_max hg1
    have hBl : (m.record ++ bytesM ks).length ≤ 1000012 + 28 * 60 := by rw [List.length_append, bytesM_length]; omega
    obtain ⟨B, hB⟩ : ∃ B, m.record ++ bytesM ks = B := ⟨_, rfl⟩
    obtain ⟨G, hG⟩ : ∃ G, m.record.length + 28 * ks.length = G := ⟨_, rfl⟩
    rw [hB] at hfile hfd hBl
    rw [hG] at hfd
    have hpar : ∀ v W, RdB W v B → MaxOk W → Calls Tryz.prog 25 #[v] W (FilDone m ks (G : Int) W) := by
      intro v W h1 h2
      refine (qparse_calls v B W h1 (by omega) h2).mono fun e w' h => ?_
      rw [hfd] at h; exact fil_some rfl h
    have hnf : nFates (m.rcpts.length : Int) = m.rcpts.length := by unfold nFates; omega
    have hff : (FileD.mk m ks G).fates = fatesD m.rcpts.length ks := by unfold FileD.fates; rw [hnf]
    have hfl : (fatesD m.rcpts.length ks).length ≤ 8 := by rw [fatesD_length]; exact hr8
    have hrf := fun v W h => refFates_calls m.rcpts.length v ks W hr8 h hk1
    have h29 := fun vr vb vm W h1 h2 => fileFates_calls ⟨m, ks, G⟩ vr vb vm W h1 h2
    have h34 := fun vr vb vm W h1 h2 h3 => fileOpen_calls ⟨m, ks, G⟩ vr vb vm W h1 h2 h3 (by rw [hff]; exact hfl)
    have h35 := fun vr vb vm W h1 h2 h3 => fileCrashes_calls ⟨m, ks, G⟩ vr vb vm W h1 h2 h3 (by rw [hff]; exact hfl)
    have h36 := fun vr vb vm W h1 h2 h3 => fileOver_calls ⟨m, ks, G⟩ vr vb vm W h1 h2 h3
    have h37 := fun vr vb vm W h1 h2 h3 => qDue_calls ⟨m, ks, G⟩ vr vb vm W h1 h2 h3 (by rw [hff]; exact hfl)
    rw [hff] at h29 h34 h35 h36 h37
    generalize fatesD m.rcpts.length ks = fs at hrf h29 h34 h35 h36 h37 hfl
    have H29 : Hid (∀ W X ar cr ab cb am cm, FileAt W X ⟨m, ks, G⟩ (.slice ar m.rcpts.length cr) (.slice ab m.body.length cb) (.slice am ks.length cm) → Calls Tryz.prog 29 #[.agg #[.int .i64 m.id, .int .i64 m.parent, .int .i64 m.born, .string (strL m.frm), .slice ar m.rcpts.length cr, .slice ab m.body.length cb, .slice am ks.length cm, .int .i64 (G : Int)]] W (FatesDone W fs)) := fun W X ar cr ab cb am cm h => h29 _ _ _ W h.rs h.rm
    have H34 : Hid (∀ W X ar cr ab cb am cm, FileAt W X ⟨m, ks, G⟩ (.slice ar m.rcpts.length cr) (.slice ab m.body.length cb) (.slice am ks.length cm) → Calls Tryz.prog 34 #[.agg #[.int .i64 m.id, .int .i64 m.parent, .int .i64 m.born, .string (strL m.frm), .slice ar m.rcpts.length cr, .slice ab m.body.length cb, .slice am ks.length cm, .int .i64 (G : Int)]] W (IntsDone W (openTo fs fs.length))) := fun W X ar cr ab cb am cm h => h34 _ _ _ W h.rs h.rm ⟨_, _, rfl⟩
    have H35 : Hid (∀ W X ar cr ab cb am cm, FileAt W X ⟨m, ks, G⟩ (.slice ar m.rcpts.length cr) (.slice ab m.body.length cb) (.slice am ks.length cm) → Calls Tryz.prog 35 #[.agg #[.int .i64 m.id, .int .i64 m.parent, .int .i64 m.born, .string (strL m.frm), .slice ar m.rcpts.length cr, .slice ab m.body.length cb, .slice am ks.length cm, .int .i64 (G : Int)]] W fun e w' => e = .returned (.int .i64 (crashTo fs fs.length)) ∧ Below W.heap.size W w') := fun W X ar cr ab cb am cm h => h35 _ _ _ W h.rs h.rm ⟨_, _, rfl⟩
    have H36 : Hid (∀ W X ar cr ab cb am cm, FileAt W X ⟨m, ks, G⟩ (.slice ar m.rcpts.length cr) (.slice ab m.body.length cb) (.slice am ks.length cm) → Calls Tryz.prog 36 #[.agg #[.int .i64 m.id, .int .i64 m.parent, .int .i64 m.born, .string (strL m.frm), .slice ar m.rcpts.length cr, .slice ab m.body.length cb, .slice am ks.length cm, .int .i64 (G : Int)]] W fun e w' => e = .returned (.bool (!fs.any FateD.waits)) ∧ Below W.heap.size W w') := fun W X ar cr ab cb am cm h => h36 _ _ _ W h.rs h.rm ⟨_, _, rfl⟩
    have H37 : Hid (∀ W X ar cr ab cb am cm, FileAt W X ⟨m, ks, G⟩ (.slice ar m.rcpts.length cr) (.slice ab m.body.length cb) (.slice am ks.length cm) → Calls Tryz.prog 37 #[.agg #[.int .i64 m.id, .int .i64 m.parent, .int .i64 m.born, .string (strL m.frm), .slice ar m.rcpts.length cr, .slice ab m.body.length cb, .slice am ks.length cm, .int .i64 (G : Int)]] W fun e w' => e = .returned (.int .i64 (dueTo fs fs.length)) ∧ Below W.heap.size W w') := fun W X ar cr ab cb am cm h => h37 _ _ _ W h.rs h.rm ⟨_, _, rfl⟩
    have Hfile := Lib.hid hfile
    have Hpar := Lib.hid hpar
    have Hrf := Lib.hid hrf
    have Hk1 := Lib.hid hk1
    clear hfile hpar hrf h29 h34 h35 h36 h37 hff hnf hfd hmx hk1 hg1 hg2 Hq hG hB
    go_enter Tryz.func11, Tryz.ntmps11
    go_wp2_with fail
    refine (Hgc.out).mono ?_; rintro e w1 ⟨rfl, hb1⟩
    have hn1 := Hnew.out.below hb1
    have hm1' := Hm.out.below (Nat.le_refl _) hb1
    have hbw1 := HbW.out.trans (hb1.mono HbW.out.size)
    have hf := Hfile.out w1 _ _ _ hn1.rs hn1.rb Hnb.out hm1'
    have ha1 : Hid (∀ W', Below w1.heap.size w1 W' → Calls Tryz.prog 23 #[] W' fun e w' => e = .returned (.bool true) ∧ Below W'.heap.size W' w') := fun W' h => Hans.out W' (hb1.trans (h.mono hb1.size))
    have hmx1 := Hmax.out.below hb1
    clear c0 c1 c2 c3 c4 c5
    obtain ⟨c0, c1, c2, c3, c4, c5⟩ := hn1.cells
    have Hf := Lib.hid hf
    have Hn1 := Lib.hid hn1
    have Hm1 := Lib.hid hm1'
    have Hmx1 := Lib.hid hmx1
    have Hbw1 := Lib.hid hbw1
    clear hf hn1 hm1' hmx1 hbw1 hb1 Hnew Hm Hmax HbW Hans Hgc Hfile
    go_wp2_with fail
    refine (Hf.out).mono ?_; rintro e w2 ⟨v2, rfl, hown2, hb2⟩
    have hpc := Hpar.out _ w2 (rdB_ofOwn hown2) (Hmx1.out.below hb2)
    have Hpc := Lib.hid hpc
    have Hb2 := Lib.hid hb2
    clear hpc hb2 hown2 Hf Hpar c0 c1 c2 c3 c4 c5
    go_wp2_with fail
    refine (Hpc.out).mono ?_; rintro e w5 ⟨ar5, cr5, ab5, cb5, am5, cm5, rfl, hrs5, hrb5, hrm5, hb5⟩
    have hbw5 := Hb2.out.trans (hb5.mono Hb2.out.size)
    have hnew := fileAt_new (G := G) rfl hrs5 hrb5 hrm5
    obtain ⟨w6, hw6⟩ : ∃ w6, w5.alloc (.cells #[.int .i64 m.id, .int .i64 m.parent, .int .i64 m.born, .string (strL m.frm), .slice ar5 m.rcpts.length cr5, .slice ab5 m.body.length cb5, .slice am5 ks.length cm5, .int .i64 (G : Int)] 43) = w6 := ⟨_, rfl⟩
    rw [hw6] at hnew
    have hb6 : Below w5.heap.size w5 w6 := by rw [← hw6]; exact (Below.refl _ _).alloc (Nat.le_refl _) _
    have hbw6 := hbw5.trans (hb6.mono hbw5.size)
    have hm6 := Hn1.out.below hbw6
    obtain ⟨y0, y1, y2, y3, y4, y5⟩ := hm6.cells
    have hrf := Hrf.out _ w6 (Hm1.out.below (Nat.le_refl _) hbw6)
    have Hrf6 := Lib.hid hrf
    have Hn6 := Lib.hid hnew
    have Hbw6 := Lib.hid hbw6
    clear hrf hnew hbw6 hb6 hbw5 hb5 hrs5 hrb5 hrm5 hm6 Hpc Hrf
    subst hw6
    go_wp2_with fail
    refine (Hrf6.out).mono ?_; rintro e w7 ⟨g, cap, rfl, hown, hb7⟩
    have hn7 := Hn6.out.below hb7
    have hbw7 := Hbw6.out.trans (hb7.mono Hbw6.out.size)
    have hrd := rdL_ofOwn fate_len (by decide) hown
    have Hrd := Lib.hid hrd
    have Hn7 := Lib.hid hn7
    have Hbw7 := Lib.hid hbw7
    have hnil : w7.ownsRow w7.heap.size 3 1 (.slice none 0 0) 0 [] := World.ownsRow_nil _ _ _ _
    clear hown hrd hn7 hbw7 hb7 Hrf6 Hn6 Hbw6 y0 y1 y2 y3 y4 y5
    go_wp2
    go_loopw [8, 9, 10, 11, 12] (fun o cr du ov i wr => ∃ j : Nat, j ≤ fs.length ∧ i = .int .i64 j ∧ wr.ownsRow w7.heap.size 3 1 o (openTo fs j).length ((openTo fs j).flatMap i1) ∧ cr = .int .i64 (crashTo fs j) ∧ du = .int .i64 (dueTo fs j) ∧ ov = .bool (!(fs.take j).any FateD.waits) ∧ Below w7.heap.size w7 wr) (fun _ _ _ _ i _ => fs.length - (intOf i).toNat)
    case atStart => exact ⟨0, Nat.zero_le _, rfl, hnil, rfl, rfl, rfl, Below.refl _ _⟩
    case round =>
      obtain ⟨j, hj, rfl, hown, rfl, rfl, rfl, hbw⟩ := hrel
      by_cases hlt : j < fs.length
      · obtain ⟨x, hx⟩ : ∃ x, fs[j]? = some x := ⟨_, List.getElem?_eq_getElem hlt⟩
        obtain ⟨b, off, cap', hsl, hbl, y0, y1, y2, y3, y4⟩ := RdL.at5 (Hrd.out.below (Nat.le_refl _) hbw) hx
        cases hsl
        simp only [Nat.zero_add] at y0 y1 y2 y3 y4
        have hj0 : (0 : Int) ≤ (j : Int) := by omega
        have hj1 : (j : Int) < (fs.length : Int) := by omega
        have hs1 := openTo_succ hx
        have hs2 := crashTo_succ hx
        have hs3 := dueTo_succ hx
        have hs4 : (!(fs.take (j + 1)).any FateD.waits) = ((!(fs.take j).any FateD.waits) && !x.waits) := by rw [take_snoc hx, List.any_append, Bool.not_or]; simp
        have hol := openTo_len fs j
        generalize openTo fs j = os at hown hs1 hol
        generalize crashTo fs j = ac at hs2 ⊢
        generalize dueTo fs j = ad at hs3 ⊢
        generalize (!(fs.take j).any FateD.waits) = ao at hs4 ⊢
        obtain ⟨st, tr, nx, cr, op⟩ := x
        simp only at y0 y1 y2 y3 y4 hs2 hs3
        obtain ⟨aw, co, hvo⟩ := own_form0 hown
        subst hvo
        obtain ⟨mc, hmc⟩ : ∃ mc, max ac cr = mc := ⟨_, rfl⟩
        rw [hmc] at hs2
        have hmc2 : (ac < cr ∧ mc = cr) ∨ (¬ ac < cr ∧ mc = ac) := by omega
        have Hs1 := Lib.hid hs1
        have Hs2 := Lib.hid hs2
        have Hs3 := Lib.hid hs3
        have Hs4 := Lib.hid hs4
        have Hown := Lib.hid hown
        clear hs1 hs2 hs3 hs4 hown hx hmc
        have hmid : ∀ (n : Int), (st == 0) = true → dueTo fs (j + 1) = (if op = true then ad else min ad nx) ∧ openTo fs (j + 1) = (if op = true then os ++ [j] else os) ∧ (!(fs.take (j + 1)).any FateD.waits) = false := by
          intro n hst'
          have e1 := Hs1.out
          have e3 := Hs3.out
          have e4 := Hs4.out
          refine ⟨?_, ?_, ?_⟩
          · rw [e3]; cases op <;> simp [FateD.waits, hst']
          · rw [e1]; cases op <;> simp [FateD.isOpen, FateD.waits, hst']
          · rw [e4]; simp [FateD.waits, hst']
        have Hmid := Lib.hid hmid
        clear hmid
        by_cases hst : st = 0
        · subst hst
          obtain ⟨e3, e1, e4⟩ := Hmid.out 0 rfl
          have E1 := Lib.hid e1
          have E3 := Lib.hid e3
          have E4 := Lib.hid e4
          clear e1 e3 e4
          cases op
          · rcases hmc2 with ⟨hm, rfl⟩ | ⟨hm, rfl⟩
            all_goals
              by_cases hdu : nx < ad
              · go_wp2
                go_roundw
                case rel =>
                  refine ⟨j + 1, by omega, by simp, ?_, (by rw [Hs2.out] <;> (congr 1; omega)), ?_, by rw [E4.out], hbw.alloc hbw.size _⟩
                  · rw [E1.out]; exact World.ownsRow.alloc Hown.out _
                  · rw [E3.out]; show _ = Value.int .i64 (min ad nx); rw [Int.min_eq_right (by omega)]
                case measure => simp [intOf] <;> omega
              · go_wp2
                go_roundw
                case rel =>
                  refine ⟨j + 1, by omega, by simp, ?_, (by rw [Hs2.out] <;> (congr 1; omega)), ?_, by rw [E4.out], hbw.alloc hbw.size _⟩
                  · rw [E1.out]; exact World.ownsRow.alloc Hown.out _
                  · rw [E3.out]; show _ = Value.int .i64 (min ad nx); rw [Int.min_eq_left (by omega)]
                case measure => simp [intOf] <;> omega
          · obtain ⟨wa, hwa⟩ : ∃ wa, wr.alloc (.cells #[.int .i64 0, .int .i64 tr, .int .i64 nx, .int .i64 cr, .bool true] 57) = wa := ⟨_, rfl⟩
            have hba : Below wr.heap.size wr wa := by rw [← hwa]; exact (Below.refl _ _).alloc (Nat.le_refl _) _
            have hsa : wa.heap.size = wr.heap.size + 1 := by rw [← hwa]; simp
            have howna := own_below Hown.out hba (Nat.le_refl _)
            have hncell := news_new wa [.int .i64 (j : Int)] 3 (0, 0)
            have hcs1 : ∀ u ∈ [Value.int .i64 (j : Int)], u.oneCell' = true := by intro u hu; rw [List.mem_singleton.1 hu]; rfl
            have hbd1 : os.length + 1 ≤ maxLen := by show _ ≤ 9223372036854775807; omega
            have hbd2 : (os.length + 1) * 8 ≤ 140737488355328 := by omega
            have hbd3 : w7.heap.size ≤ (wa.alloc (.cells #[.int .i64 (j : Int)] 3)).heap.size := by have := hbw.size; simp; omega
            have hownA : (wa.alloc (.cells #[.int .i64 (j : Int)] 3)).ownsRow w7.heap.size 3 1 (.slice aw os.length co) os.length (os.flatMap i1) := World.ownsRow.alloc howna _
            rw [hsa] at hncell
            have Hncell := Lib.hid hncell
            have Hcs1 := Lib.hid hcs1
            have HownA := Lib.hid hownA
            have hbwa := hbw.trans (hba.mono hbw.size)
            have hownBase := own_base Hown.out
            clear hncell hcs1 hownA hba howna hsa
            subst hwa
            rcases hmc2 with ⟨hm, rfl⟩ | ⟨hm, rfl⟩
            all_goals
              go_wp2_with (at_builtin; first | (refine wpList_append_own _ rfl (.tmp 50) (.tmp 52) 61 rfl w7.heap.size 3 i0 _ 1 8 Tryz.underlying61 hi hz0 hz1 hz2 rfl (by decide) _ _ _ rfl HownA.out ⟨wr.heap.size + 1, 0, none⟩ 1 1 [.int .i64 (j : Int)] rfl rfl Hncell.out Hcs1.out hbd1 hbd2 hbd3 ?_; rintro v' w3 hown3 hg3 _; have hb3 := (hbwa.alloc hbwa.size (.cells #[.int .i64 (j : Int)] 3)).grown hg3 (by have := hbwa.size; simp only [World.size_alloc] at this ⊢; omega) (fun k hk => hownBase k hk); have Hown3 := Lib.hid hown3; clear hown3 hg3))
              go_roundw
              case rel =>
                refine ⟨j + 1, by omega, by simp, ?_, (by rw [Hs2.out] <;> (congr 1; omega)), by rw [E3.out]; rfl, by rw [E4.out], hb3⟩
                rw [E1.out]; show World.ownsRow _ _ _ _ _ (os ++ [j]).length ((os ++ [j]).flatMap i1)
                rw [List.length_append, List.flatMap_append, List.flatMap_singleton]
                exact Hown3.out
              case measure => simp [intOf] <;> omega
        · have hst' : (st == 0) = false := by simpa using hst
          have e1 := Hs1.out
          have e3 := Hs3.out
          have e4 := Hs4.out
          simp only [FateD.isOpen, FateD.waits, hst', Bool.and_false, Bool.false_and, Bool.false_eq_true, if_false, List.append_nil, Bool.not_false, Bool.and_true] at e1 e3 e4
          have E1 := Lib.hid e1
          have E3 := Lib.hid e3
          have E4 := Lib.hid e4
          clear e1 e3 e4
          rcases hmc2 with ⟨hm, rfl⟩ | ⟨hm, rfl⟩
          all_goals
            go_wp2
            go_roundw
            case rel =>
              refine ⟨j + 1, by omega, by simp, ?_, (by rw [Hs2.out] <;> (congr 1; omega)), by rw [E3.out], by rw [E4.out], hbw.alloc hbw.size _⟩
              rw [E1.out]; exact World.ownsRow.alloc Hown.out _
            case measure => simp [intOf] <;> omega
      · have hje : j = fs.length := by omega
        subst hje
        rw [List.take_of_length_le (Nat.le_refl _)]
        have hjl : ¬ ((fs.length : Int) < (fs.length : Int)) := by omega
        obtain ⟨aw, co, hvo⟩ := own_form0 hown
        subst hvo
        generalize openTo fs fs.length = os at hown H34
        generalize crashTo fs fs.length = ac at H35 ⊢
        generalize dueTo fs fs.length = ad at H37 ⊢
        generalize (!fs.any FateD.waits) = ao at H36 ⊢
        have hnr := Hn7.out.below hbw
        have hbwr := Hbw7.out.trans (hbw.mono Hbw7.out.size)
        have hans := ha1.out _ hbwr
        have hri := rdL_ofOwn i1_len (by decide) hown
        have hrf := Hrd.out.below (Nat.le_refl _) hbw
        have Hans7 := Lib.hid hans
        have Hnr := Lib.hid hnr
        have Hbwr := Lib.hid hbwr
        have Hri := Lib.hid hri
        have Hrf := Lib.hid hrf
        clear hans hnr hbwr hri hrf hown hbw hnil
        go_wp2_with fail
        refine (Hans7.out).mono ?_; rintro e wA ⟨rfl, hbA⟩
        have hnA := Hnr.out.below hbA
        have hriA := Hri.out.below (Nat.le_refl _) hbA
        have hrfA := Hrf.out.below (Nat.le_refl _) hbA
        have hbwA := Hbwr.out.trans (hbA.mono Hbwr.out.size)
        obtain ⟨c0, c1, c2, c3, c4, c5, c6, c7⟩ := fileAt_cells rfl hnA
        have HnA := Lib.hid hnA
        have HriA := Lib.hid hriA
        have HrfA := Lib.hid hrfA
        clear hnA hriA hrfA hbA Hnr Hri Hrf
        go_wp2_with fail
        refine (H29.out wA _ _ _ _ _ _ _ HnA.out).mono ?_; rintro e wB ⟨gB, capB, rfl, hownB, hbB⟩
        have hnB := HnA.out.below hbB
        have hriB := HriA.out.below (Nat.le_refl _) hbB
        have hrfB := HrfA.out.below (Nat.le_refl _) hbB
        have hrfB2 := rdL_ofOwn fate_len (by decide) hownB
        have hbwB := hbwA.trans (hbB.mono hbwA.size)
        have HnB := Lib.hid hnB
        have HriB := Lib.hid hriB
        have hsf := sameFates_calls _ _ fs wB hrfB2 hrfB
        have Hsf := Lib.hid hsf
        clear hnB hriB hrfB hrfB2 hbB hsf hownB HnA HriA HrfA c0 c1 c2 c3 c4 c5 c6 c7
        go_wp2_with fail
        refine (Hsf.out).mono ?_; rintro e wC ⟨rfl, hbC⟩
        have hnC := HnB.out.below hbC
        have hriC := HriB.out.below (Nat.le_refl _) hbC
        have hbwC := hbwB.trans (hbC.mono hbwB.size)
        obtain ⟨c0, c1, c2, c3, c4, c5, c6, c7⟩ := fileAt_cells rfl hnC
        have HnC := Lib.hid hnC
        have HriC := Lib.hid hriC
        clear hnC hriC hbC HnB HriB Hsf
        go_wp2_with fail
        refine (H34.out wC _ _ _ _ _ _ _ HnC.out).mono ?_; rintro e wD ⟨vD, rfl, hownD, hbD⟩
        have hnD := HnC.out.below hbD
        have hriD := HriC.out.below (Nat.le_refl _) hbD
        have hriD2 := rdL_ofOwn i1_len (by decide) hownD
        have hbwD := hbwC.trans (hbD.mono hbwC.size)
        have HnD := Lib.hid hnD
        have hsi := refInts_calls _ _ os wD hriD2 hriD
        have Hsi := Lib.hid hsi
        obtain ⟨aD, cD, hvD⟩ := own_form0 hownD
        subst hvD
        clear hnD hriD hriD2 hbD hsi hownD HnC HriC c0 c1 c2 c3 c4 c5 c6 c7
        go_wp2_with fail
        refine (Hsi.out).mono ?_; rintro e wE ⟨rfl, hbE⟩
        have hnE := HnD.out.below hbE
        have hbwE := hbwD.trans (hbE.mono hbwD.size)
        obtain ⟨c0, c1, c2, c3, c4, c5, c6, c7⟩ := fileAt_cells rfl hnE
        have HnE := Lib.hid hnE
        clear hnE hbE HnD Hsi
        go_wp2_with fail
        refine (H35.out wE _ _ _ _ _ _ _ HnE.out).mono ?_; rintro e wF ⟨rfl, hbF⟩
        have hnF := HnE.out.below hbF
        have hbwF := hbwE.trans (hbF.mono hbwE.size)
        clear c0 c1 c2 c3 c4 c5 c6 c7
        obtain ⟨c0, c1, c2, c3, c4, c5, c6, c7⟩ := fileAt_cells rfl hnF
        have HnF := Lib.hid hnF
        clear hnF hbF HnE
        go_wp2_with fail
        refine (H36.out wF _ _ _ _ _ _ _ HnF.out).mono ?_; rintro e wG ⟨rfl, hbG⟩
        have hnG := HnF.out.below hbG
        have hbwG := hbwF.trans (hbG.mono hbwF.size)
        clear c0 c1 c2 c3 c4 c5 c6 c7
        obtain ⟨c0, c1, c2, c3, c4, c5, c6, c7⟩ := fileAt_cells rfl hnG
        have HnG := Lib.hid hnG
        clear hnG hbG HnF
        cases ao
        all_goals
          go_wp2_with fail
          refine (H37.out wG _ _ _ _ _ _ _ HnG.out).mono ?_; rintro e wH ⟨rfl, hbH⟩
          have hbwH := hbwG.trans (hbH.mono hbwG.size)
          have hfin := Hbw1.out.trans (hbwH.mono Hbw1.out.size)
          clear c0 c1 c2 c3 c4 c5 c6 c7
          go_wp2
          go_ret
          exact ⟨rfl, hfin⟩
end Go.Proofs.YtjddicoigbidlaaGreatDoor
