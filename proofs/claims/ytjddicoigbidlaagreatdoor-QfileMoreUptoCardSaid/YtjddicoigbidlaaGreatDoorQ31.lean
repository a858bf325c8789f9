/-
  The walk of the law QfileParses.
-/
import Derived.Test.YtjddicoigbidlaaGreatDoorQ29
set_option linter.unusedSimpArgs false
set_option linter.unusedVariables false
set_option maxRecDepth 100000
namespace Go.Proofs.YtjddicoigbidlaaGreatDoor
open Go.RowKit
theorem decodeN_more (more : List UInt8) (hmo : more.length < 28) : ∀ (ks : List MarkD) (m : Nat), (∀ k ∈ ks, k.good = true) → ks.length ≤ m → decodeN m (bytesM ks ++ more) = ks := by
  intro ks
  induction ks with
  | nil =>
    intro m _ _
    cases m with
    | zero => rfl
    | succ m => rw [decodeN, if_pos (by rw [show bytesM [] = [] from rfl, List.nil_append]; exact hmo)]
  | cons k ks ih =>
    intro m hg hm
    rw [List.length_cons] at hm
    obtain ⟨m, rfl⟩ : ∃ m', m = m' + 1 := ⟨m - 1, by omega⟩
    have hl := bytes_length k
    have hb : bytesM (k :: ks) ++ more = k.bytes ++ (bytesM ks ++ more) := by rw [show bytesM (k :: ks) = k.bytes ++ bytesM ks from rfl, List.append_assoc]
    rw [decodeN, hb, if_neg (by rw [List.length_append]; omega), List.take_append_of_le_length (by omega), List.take_of_length_le (by omega), List.drop_left' hl, parse_bytes k (hg k List.mem_cons_self)]
    simp only
    rw [ih m (fun x hx => hg x (List.mem_cons_of_mem _ hx)) (by omega)]
theorem fileD_more (m : MailD) (hg : m.good = true) (ks : List MarkD) (hk : ∀ k ∈ ks, k.good = true) (hl : ks.length ≤ 4096) (more : List UInt8) (hmo : more.length < 28) :
    fileD ((m.record ++ bytesM ks) ++ more) = some ⟨m, ks, (m.record ++ bytesM ks).length⟩ := by
  rw [List.append_assoc, fileD, decode_record m (small_of_good hg) hg]
  simp only [Option.map_some]
  rw [List.drop_left, show decodeM (bytesM ks ++ more) = ks from decodeN_more more hmo ks 4096 hk hl, List.length_append, bytesM_length]
set_option maxHeartbeats 16000000 in
theorem qfileParses_walk (m : MailD) (vr vb vm vo : Value) (ks : List MarkD) (more : List UInt8) (w : World) (hr : RdS w vr m.rcpts) (hb : RdB w vb m.body) (hnb : NilOk vb) (hm : RdM w vm ks) (ho : RdB w vo more) (hno : NilOk vo) (hsr : ∀ l ∈ m.rcpts, l.length ≤ 4294967270) (hsf : m.frm.length ≤ 4294967270) (hmax : MaxOk w) :
    Calls Tryz.prog 7 #[mailVal m vr vb, vm, vo] w fun e w' => e = .returned (.bool true) ∧ Below w.heap.size w w' := by
  obtain ⟨i0, hi, hz0, hz1, hz2⟩ := info_parts infoU8
  obtain ⟨ar, capr, rfl, hlr, hcr⟩ := hr.form
  obtain ⟨ab, capb, rfl, hlb, hcb⟩ := hb.form
  obtain ⟨am, capm, rfl, hlm, hcm⟩ := hm.form
  obtain ⟨ao, capo, rfl, hlo, hco⟩ := ho.form
  have hzF : ∀ w, (zeroValue 43).run Tryz.prog w = .ok (.agg #[.int .i64 0, .int .i64 0, .int .i64 0, .string ⟨#[]⟩, .slice none 0 0, .slice none 0 0, .slice none 0 0, .int .i64 0]) w := fun _ => by kernel_rfl
  have hloi : (more.length : Int) ≤ 9223372036854775807 := by omega
  have hnew := MailAt.new (m := m) hr hb
  obtain ⟨W, hW⟩ : ∃ W, w.alloc (.cells #[.int .i64 m.id, .int .i64 m.parent, .int .i64 m.born, .string (strL m.frm), .slice ar m.rcpts.length capr, .slice ab m.body.length capb] 25) = W := ⟨_, rfl⟩
  have hbW : Below w.heap.size w W := by rw [← hW]; exact (Below.refl _ _).alloc (Nat.le_refl _) _
  rw [hW] at hnew
  have hgc := qgood_calls m _ _ (.slice am ks.length capm) ks W hnew.rs hnew.rb (hm.below (Nat.le_refl _) hbW) hsr hsf
  obtain ⟨q, hq⟩ : ∃ q, qgood m ks = q := ⟨_, rfl⟩
  rw [hq] at hgc
  obtain ⟨c0, c1, c2, c3, c4, c5⟩ := hnew.cells
  have Hans : Hid (∀ W', Below W.heap.size W W' → Calls Tryz.prog 23 #[] W' fun e w' => e = .returned (.bool true) ∧ Below W'.heap.size W' w') := fun W' h => filAns_calls W' (hmax.below (hbW.trans (h.mono hbW.size)))
  have Hgc := Lib.hid hgc
  have HbW := Lib.hid hbW
  have Hq := Lib.hid hq
  have Hnew := Lib.hid hnew
  have Hm := Lib.hid (hm.below (Nat.le_refl _) hbW)
  have Ho := Lib.hid (ho.below (Nat.le_refl _) hbW)
  have Hmax := Lib.hid (hmax.below hbW)
  have Hnb := Lib.hid hnb
  have Hno := Lib.hid hno
  clear hgc hbW hq hnew hm ho hmax hnb hno hr hb hsr hsf
  subst hW
  cases q with
  | false =>
    go_enter Tryz.func7, Tryz.ntmps7
    go_wp2_with fail
    refine (Hgc.out).mono ?_; rintro e w1 ⟨rfl, hb1⟩
    have hans := Hans.out _ hb1
    have Hans1 := Lib.hid hans
    have hbw1 := HbW.out.trans (hb1.mono HbW.out.size)
    clear hans hb1 c0 c1 c2 c3 c4 c5
    go_wp2_with fail
    refine (Hans1.out).mono ?_; rintro e w2 ⟨rfl, hb2⟩
    go_wp2
    go_ret
    exact ⟨rfl, hbw1.trans (hb2.mono hbw1.size)⟩
  | true =>
    by_cases hbig : 27 < more.length
    · have hbi : (27 : Int) < (more.length : Int) := by omega
      go_enter Tryz.func7, Tryz.ntmps7
      go_wp2_with fail
      refine (Hgc.out).mono ?_; rintro e w1 ⟨rfl, hb1⟩
      have hans := Hans.out _ hb1
      have Hans1 := Lib.hid hans
      have hbw1 := HbW.out.trans (hb1.mono HbW.out.size)
      clear hans hb1 c0 c1 c2 c3 c4 c5
      go_wp2_with fail
      refine (Hans1.out).mono ?_; rintro e w2 ⟨rfl, hb2⟩
      go_wp2
      go_ret
      exact ⟨rfl, hbw1.trans (hb2.mono hbw1.size)⟩
    · have hbi : (more.length : Int) ≤ 27 := by omega
      have hmo : more.length ≤ 27 := by omega
      obtain ⟨hk1, hk2, hg1, hg2⟩ := qgood_iff Hq.out
      have hfile := fun W vr vb vm h1 h2 h3 h4 => qfile_calls m vr vb vm ks W h1 h2 h3 h4 hg1 hk1 hk2
      have hfd := fileD_more m hg1 ks hk1 (by omega) more (by omega)
      have hmx := record_max hg1
      have hBl : (m.record ++ bytesM ks).length ≤ 1000012 + 28 * 60 := by rw [List.length_append, bytesM_length]; omega
      obtain ⟨B, hB⟩ : ∃ B, m.record ++ bytesM ks = B := ⟨_, rfl⟩
      rw [hB] at hfile hfd hBl
      clear hB
      obtain ⟨E, hE⟩ : ∃ E, B ++ more = E := ⟨_, rfl⟩
      have hEl : E.length ≤ 2000000 := by rw [← hE, List.length_append]; omega
      rw [hE] at hfd
      have HE := Lib.hid hE
      clear hE
      have hpar : ∀ v W, RdB W v E → MaxOk W → Calls Tryz.prog 25 #[v] W (FilDone m ks (B.length : Int) W) := by
        intro v W h1 h2
        refine (qparse_calls v E W h1 (by omega) h2).mono fun e w' h => ?_
        rw [hfd] at h; exact fil_some rfl h
      have hsame : ∀ W ar cr ab cb ar' cr' ab' cb', RdS W (.slice ar m.rcpts.length cr) m.rcpts → RdB W (.slice ab m.body.length cb) m.body → RdS W (.slice ar' m.rcpts.length cr') m.rcpts → RdB W (.slice ab' m.body.length cb') m.body → Calls Tryz.prog 20 #[.agg #[.int .i64 m.id, .int .i64 m.parent, .int .i64 m.born, .string (strL m.frm), .slice ar m.rcpts.length cr, .slice ab m.body.length cb], .agg #[.int .i64 m.id, .int .i64 m.parent, .int .i64 m.born, .string (strL m.frm), .slice ar' m.rcpts.length cr', .slice ab' m.body.length cb']] W fun e w' => e = .returned (.bool true) ∧ Below W.heap.size W w' := by
        intro W ar cr ab cb ar' cr' ab' cb' h1 h2 h3 h4
        have := refSame_calls m m _ _ _ _ W h1 h2 h3 h4
        rw [show decide (m = m) = true by simp] at this
        exact this
      have Hfile := Lib.hid hfile
      have Hpar := Lib.hid hpar
      have Hsame := Lib.hid hsame
      have hm1 : B.length + more.length ≤ maxLen := by show _ ≤ 9223372036854775807; omega
      have hm2 : (B.length + more.length) * 1 ≤ 140737488355328 := by omega
      have Hone := Lib.hid (bb1_one more)
      clear hfile hpar hsame hfd hmx hk1 hk2 hg1 hg2 Hq
      go_enter Tryz.func7, Tryz.ntmps7
      go_wp2_with fail
      refine (Hgc.out).mono ?_; rintro e w1 ⟨rfl, hb1⟩
      have hn1 := Hnew.out.below hb1
      have hm1' := Hm.out.below (Nat.le_refl _) hb1
      have hbw1 := HbW.out.trans (hb1.mono HbW.out.size)
      have hf := Hfile.out w1 _ _ _ hn1.rs hn1.rb Hnb.out hm1'
      have ho1 := Ho.out.below (Nat.le_refl _) hb1
      have hmx1 := Hmax.out.below hb1
      have ha1 : Hid (∀ W', Below w1.heap.size w1 W' → Calls Tryz.prog 23 #[] W' fun e w' => e = .returned (.bool true) ∧ Below W'.heap.size W' w') := fun W' h => Hans.out W' (hb1.trans (h.mono hb1.size))
      clear c0 c1 c2 c3 c4 c5
      obtain ⟨c0, c1, c2, c3, c4, c5⟩ := hn1.cells
      have Hf := Lib.hid hf
      have Hn1 := Lib.hid hn1
      have Hm1 := Lib.hid hm1'
      have Ho1 := Lib.hid ho1
      have Hmx1 := Lib.hid hmx1
      have Hbw1 := Lib.hid hbw1
      clear hf hn1 hm1' ho1 hmx1 hbw1 hb1 Hnew Hm Ho Hmax HbW Hans Hgc Hfile
      go_wp2_with fail
      refine (Hf.out).mono ?_; rintro e w2 ⟨v2, rfl, hown2, hb2⟩
      obtain ⟨a2, c2', hv2⟩ := own_form0 hown2
      subst hv2
      clear c0 c1 c2 c3 c4 c5
      have hbE : Below w2.heap.size w2 (w2.alloc (.cells #[] 5)) := (Below.refl _ _).alloc (Nat.le_refl _) _
      have hownE : (w2.alloc (.cells #[] 5)).ownsRow w2.heap.size 5 1 (.slice (some ⟨w2.heap.size, 0, none⟩) 0 0) ([] : List UInt8).length (([] : List UInt8).map u8v) := World.ownsRow_lit w2 #[] 0 (Nat.le_refl _) (by decide) rfl
      have hown2E := own_below hown2 hbE (Nat.le_refl _)
      have hbE1 := hb2.trans (hbE.mono hb2.size)
      have Hrd2 := Lib.hid (rdB_ofOwn hown2)
      clear hown2
      go_wp2_with (at_builtin; first
        | (refine app_row rfl rfl (.tmp 24) (.tmp 25) rfl hownE hown2E rfl rfl (by simp only [List.length_nil]; omega) hbE.size ?_; rintro v3 w3 hown3 hg3; rw [List.nil_append] at hown3; have hb3 := hbE1.grown hg3 hbE1.size (fun k hk => by have := own_base hownE k hk; have := hb2.size; omega); have hsrc := rdLB (Ho1.out.below (Nat.le_refl _) hb3); have hs3 : w2.heap.size ≤ w3.heap.size := Nat.le_trans hbE.size (hg3.size); have hbn3 : ∀ k, v3.ownBlock = some k → w2.heap.size ≤ k := fun k hk => own_base hown3 k hk; clear hg3)
        | (refine wpList_append_any bb1_len (by decide) rfl (.tmp 26) (.tmp 27) 23 rfl w2.heap.size 5 i0 (.int .u8 0) 1 Tryz.underlying23 hi hz0 hz1 hz2 rfl _ _ _ rfl hown3 _ more rfl hsrc Hno.out Hone.out hm1 hm2 hs3 ?_; rintro v4 w4 hown4 hg4 _; rw [bb1_flat, ← List.map_append, ← List.length_append, HE.out] at hown4; have hb4 := hb3.grown hg4 hb3.size (fun k hk => by have := hbn3 k hk; have := hb2.size; omega); have hpc := Hpar.out v4 w4 (rdB_ofOwn hown4) (Hmx1.out.below hb4); have Hpc := Lib.hid hpc; have Hb4 := Lib.hid hb4; obtain ⟨a4, c4', hv4⟩ := own_form0 hown4; subst hv4; clear hpc hb4 hg4 hown4 hsrc hs3 hb3 hown3 hbn3 hownE hown2E hbE1))
      refine (Hpc.out).mono ?_; rintro e w5 ⟨ar5, cr5, ab5, cb5, am5, cm5, rfl, hrs5, hrb5, hrm5, hb5⟩
      have hbw5 := Hb4.out.trans (hb5.mono Hb4.out.size)
      have hnew := fileAt_new (G := B.length) rfl hrs5 hrb5 hrm5
      obtain ⟨w6, hw6⟩ : ∃ w6, w5.alloc (.cells #[.int .i64 m.id, .int .i64 m.parent, .int .i64 m.born, .string (strL m.frm), .slice ar5 m.rcpts.length cr5, .slice ab5 m.body.length cb5, .slice am5 ks.length cm5, .int .i64 (B.length : Int)] 43) = w6 := ⟨_, rfl⟩
      rw [hw6] at hnew
      have hb6 : Below w5.heap.size w5 w6 := by rw [← hw6]; exact (Below.refl _ _).alloc (Nat.le_refl _) _
      have hbw6 := hbw5.trans (hb6.mono hbw5.size)
      have hans := ha1.out w6 hbw6
      have Hans6 := Lib.hid hans
      have Hn6 := Lib.hid hnew
      have Hbw6 := Lib.hid hbw6
      clear hans hnew hbw6 hb6 hbw5 hb5 hrs5 hrb5 hrm5 Hpc ha1 Hpar hb2 hbE
      subst hw6
      go_wp2_with fail
      refine (Hans6.out).mono ?_; rintro e w7 ⟨rfl, hb7⟩
      have hbw7 := Hbw6.out.trans (hb7.mono Hbw6.out.size)
      have hn7 := Hn6.out.below hb7
      have hm7 := Hn1.out.below hbw7
      have hk7 := Hm1.out.below (Nat.le_refl _) hbw7
      obtain ⟨c0, c1, c2, c3, c4, c5, c6, c7⟩ := fileAt_cells rfl hn7
      obtain ⟨y0, y1, y2, y3, y4, y5⟩ := hm7.cells
      have hcall3 := Hsame.out w7 ar5 cr5 ab5 cb5 ar capr ab capb hn7.rs hn7.rb hm7.rs hm7.rb
      have Hcall3 := Lib.hid hcall3
      have Hn7 := Lib.hid hn7
      have Hk7 := Lib.hid hk7
      have Hbw7 := Lib.hid hbw7
      clear hcall3 hn7 hm7 hk7 hbw7 hb7 Hn6 Hans6 Hbw6
      go_wp2_with fail
      refine (Hcall3.out).mono ?_; rintro e w9 ⟨rfl, hb9⟩
      have hbw9 := Hbw7.out.trans (hb9.mono Hbw7.out.size)
      have hn9 := Hn7.out.below hb9
      have hk9 := Hk7.out.below (Nat.le_refl _) hb9
      clear c0 c1 c2 c3 c4 c5 c6 c7 y0 y1 y2 y3 y4 y5
      obtain ⟨c0, c1, c2, c3, c4, c5, c6, c7⟩ := fileAt_cells rfl hn9
      have hcall4 := sameMarks_calls _ _ ks w9 hn9.rm hk9
      have Hcall4 := Lib.hid hcall4
      have Hn9 := Lib.hid hn9
      clear hcall4 c0 c1 c2 c3 c4 c5 c7 hn9 hk9 Hn7 Hk7 Hcall3
      go_wp2_with fail
      refine (Hcall4.out).mono ?_; rintro e wA ⟨rfl, hbA⟩
      have hbwA := hbw9.trans (hbA.mono hbw9.size)
      have hnA := Hn9.out.below hbA
      clear c6
      obtain ⟨c0, c1, c2, c3, c4, c5, c6, c7⟩ := fileAt_cells rfl hnA
      clear c0 c1 c2 c3 c4 c5 c6 hnA
      have hfin := Hbw1.out.trans (hbwA.mono Hbw1.out.size)
      go_wp2
      go_ret
      exact ⟨rfl, hfin⟩
end Go.Proofs.YtjddicoigbidlaaGreatDoor
