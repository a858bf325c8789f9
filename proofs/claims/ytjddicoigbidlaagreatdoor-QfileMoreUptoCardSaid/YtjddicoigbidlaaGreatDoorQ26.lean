/-
  The walk of the law QfileAny.
-/
import Derived.Test.YtjddicoigbidlaaGreatDoorQ17
import Derived.Test.YtjddicoigbidlaaGreatDoorQ18
import Derived.Test.YtjddicoigbidlaaGreatDoorQ22
import Derived.Test.YtjddicoigbidlaaGreatDoorQ25
set_option linter.unusedSimpArgs false
set_option linter.unusedVariables false
set_option maxRecDepth 100000
namespace Go.Proofs.YtjddicoigbidlaaGreatDoor
open Go.RowKit
/-- Parse answers a file whose slices are told of. -/
def FilDone (m : MailD) (ks : List MarkD) (g : Int) (w : World) (e : Ending) (w' : World) : Prop :=
  ∃ ar cr ab cb am cm, e = .returned (.tuple #[.agg #[.int .i64 m.id, .int .i64 m.parent, .int .i64 m.born, .string (strL m.frm), .slice ar m.rcpts.length cr, .slice ab m.body.length cb, .slice am ks.length cm, .int .i64 g], .bool true]) ∧ RdS w' (.slice ar m.rcpts.length cr) m.rcpts ∧ RdB w' (.slice ab m.body.length cb) m.body ∧ RdM w' (.slice am ks.length cm) ks ∧ Below w.heap.size w w'
theorem fil_some {m : MailD} {ks : List MarkD} {G : Nat} {g : Int} (hg : (G : Int) = g) {w : World} {e : Ending} {w' : World} (h : FileRes w (some ⟨m, ks, G⟩) e w') : FilDone m ks g w e w' := by
  subst hg
  obtain ⟨vr, vb, vm, he, h1, h2, h3, hb⟩ := h
  have h1 : w'.ownsRow w.heap.size 9 1 vr m.rcpts.length (m.rcpts.flatMap s1) := h1
  have h2 : w'.ownsRow w.heap.size 5 1 vb m.body.length (m.body.map u8v) := h2
  have h3 : w'.ownsRow w.heap.size 52 3 vm ks.length (ks.flatMap MarkD.cells) := h3
  obtain ⟨ar, cr, rfl⟩ := own_form0 h1
  obtain ⟨ab, cb, rfl⟩ := own_form0 h2
  obtain ⟨am, cm, rfl⟩ := own_form0 h3
  exact ⟨ar, cr, ab, cb, am, cm, he, rdL_ofOwn s1_len (by decide) h1, rdB_ofOwn h2, rdL_ofOwn mark_len (by decide) h3, hb⟩
theorem fileAt_new {w : World} {m : MailD} {ks : List MarkD} {G : Nat} {g : Int} (hg : (G : Int) = g) {vr vb vm : Value} (hr : RdS w vr m.rcpts) (hb : RdB w vb m.body) (hm : RdM w vm ks) :
    FileAt (w.alloc (.cells #[.int .i64 m.id, .int .i64 m.parent, .int .i64 m.born, .string (strL m.frm), vr, vb, vm, .int .i64 g] 43)) w.heap.size ⟨m, ks, G⟩ vr vb vm := by
  subst hg; exact FileAt.new (f := ⟨m, ks, G⟩) hr hb hm
theorem fileAt_cells {w : World} {X : Nat} {m : MailD} {ks : List MarkD} {G : Nat} {g : Int} (hg : (G : Int) = g) {vr vb vm : Value} (h : FileAt w X ⟨m, ks, G⟩ vr vb vm) :
    w.cell? ⟨X, 0, none⟩ = some (.int .i64 m.id) ∧ w.cell? ⟨X, 1, none⟩ = some (.int .i64 m.parent) ∧ w.cell? ⟨X, 2, none⟩ = some (.int .i64 m.born) ∧ w.cell? ⟨X, 3, none⟩ = some (.string (strL m.frm)) ∧ w.cell? ⟨X, 4, none⟩ = some vr ∧ w.cell? ⟨X, 5, none⟩ = some vb ∧ w.cell? ⟨X, 6, none⟩ = some vm ∧ w.cell? ⟨X, 7, none⟩ = some (.int .i64 g) := by
  subst hg; exact (cells8 h.blk).1
/-- No file: the zero file, that owns what it holds. -/
def FilNone (w : World) (e : Ending) (w' : World) : Prop :=
  ∃ ar cr ab cb am cm, e = .returned (.tuple #[.agg #[.int .i64 0, .int .i64 0, .int .i64 0, .string ⟨#[]⟩, .slice ar 0 cr, .slice ab 0 cb, .slice am 0 cm, .int .i64 0], .bool false]) ∧ RdS w' (.slice ar 0 cr) [] ∧ RdB w' (.slice ab 0 cb) [] ∧ RdM w' (.slice am 0 cm) [] ∧ Below w.heap.size w w'
theorem fil_none {w : World} {e : Ending} {w' : World} (h : FileRes w none e w') : FilNone w e w' := by
  obtain ⟨vr, vb, vm, he, h1, h2, h3, hb⟩ := h
  have h1 : w'.ownsRow w.heap.size 9 1 vr 0 (([] : List (List UInt8)).flatMap s1) := h1
  have h2 : w'.ownsRow w.heap.size 5 1 vb 0 (([] : List UInt8).map u8v) := h2
  have h3 : w'.ownsRow w.heap.size 52 3 vm 0 (([] : List MarkD).flatMap MarkD.cells) := h3
  obtain ⟨ar, cr, rfl⟩ := own_form0 h1
  obtain ⟨ab, cb, rfl⟩ := own_form0 h2
  obtain ⟨am, cm, rfl⟩ := own_form0 h3
  exact ⟨ar, cr, ab, cb, am, cm, he, rdL_ofOwn (xs := []) s1_len (by decide) h1, rdB_ofOwn (bs := []) h2, rdL_ofOwn (xs := []) mark_len (by decide) h3, hb⟩
def BegDone (m : MailD) (n : Nat) (w : World) (e : Ending) (w' : World) : Prop :=
  ∃ ar cr ab cb, e = .returned (.tuple #[.agg #[.int .i64 m.id, .int .i64 m.parent, .int .i64 m.born, .string (strL m.frm), .slice ar m.rcpts.length cr, .slice ab m.body.length cb], .int .i64 (n : Int), .bool true]) ∧ RdS w' (.slice ar m.rcpts.length cr) m.rcpts ∧ RdB w' (.slice ab m.body.length cb) m.body ∧ Below w.heap.size w w'
theorem beg_some {m : MailD} {n : Nat} {w : World} {e : Ending} {w' : World} (h : DecRes w (some (m, n)) e w') : BegDone m n w e w' := by
  obtain ⟨vr, vb, he, h1, h2, hb⟩ := h
  have h1 : w'.ownsRow w.heap.size 9 1 vr m.rcpts.length (m.rcpts.flatMap s1) := h1
  have h2 : w'.ownsRow w.heap.size 5 1 vb m.body.length (m.body.map u8v) := h2
  obtain ⟨ar, cr, rfl⟩ := own_form0 h1
  obtain ⟨ab, cb, rfl⟩ := own_form0 h2
  exact ⟨ar, cr, ab, cb, he, rdL_ofOwn s1_len (by decide) h1, rdB_ofOwn h2, hb⟩
def BegNone (w : World) (e : Ending) (w' : World) : Prop :=
  ∃ ar cr ab cb, e = .returned (.tuple #[.agg #[.int .i64 0, .int .i64 0, .int .i64 0, .string ⟨#[]⟩, .slice ar 0 cr, .slice ab 0 cb], .int .i64 0, .bool false]) ∧ Below w.heap.size w w'
theorem beg_none {w : World} {e : Ending} {w' : World} (h : DecRes w none e w') : BegNone w e w' := by
  obtain ⟨vr, vb, he, h1, h2, hb⟩ := h
  have h1 : w'.ownsRow w.heap.size 9 1 vr 0 (([] : List (List UInt8)).flatMap s1) := h1
  have h2 : w'.ownsRow w.heap.size 5 1 vb 0 (([] : List UInt8).map u8v) := h2
  obtain ⟨ar, cr, rfl⟩ := own_form0 h1
  obtain ⟨ab, cb, rfl⟩ := own_form0 h2
  exact ⟨ar, cr, ab, cb, he, hb⟩
set_option maxHeartbeats 16000000 in
theorem qfileAny_walk (v : Value) (bs : List UInt8) (w : World) (hv : RdB w v bs) (hnv : NilOk v) (hol : ∀ k, v.ownBlock = some k → k < w.heap.size) (hmax : MaxOk w) :
    Calls Tryz.prog 8 #[v] w fun e w' => e = .returned (.bool true) ∧ Below w.heap.size w w' := by
  obtain ⟨i0, hi, hz0, hz1, hz2⟩ := info_parts infoU8
  obtain ⟨a, cap, rfl, hl, hc⟩ := hv.form
  have hzF : ∀ w, (zeroValue 43).run Tryz.prog w = .ok (.agg #[.int .i64 0, .int .i64 0, .int .i64 0, .string ⟨#[]⟩, .slice none 0 0, .slice none 0 0, .slice none 0 0, .int .i64 0]) w := fun _ => by kernel_rfl
  have hzM : ∀ w, (zeroValue 25).run Tryz.prog w = .ok (.agg #[.int .i64 0, .int .i64 0, .int .i64 0, .string ⟨#[]⟩, .slice none 0 0, .slice none 0 0]) w := fun _ => by kernel_rfl
  have hlI : (bs.length : Int) ≤ 9223372036854775807 := by omega
  have hans := fun W h => filAns_calls W h
  have Hans := Lib.hid hans
  have Hmax := Lib.hid hmax
  clear hans hmax
  by_cases hbig : 3000 < bs.length
  · have hbi : (3000 : Int) < (bs.length : Int) := by omega
    clear hv hnv hol
    go_enter Tryz.func8, Tryz.ntmps8
    go_wp2_with fail
    refine (Hans.out _ Hmax.out).mono ?_; rintro e w1 ⟨rfl, hb1⟩
    go_wp2
    go_ret
    exact ⟨rfl, hb1⟩
  · have hbi : (bs.length : Int) ≤ 3000 := by omega
    obtain ⟨W0, hW0⟩ : ∃ W0, w.alloc (.cells #[] 5) = W0 := ⟨_, rfl⟩
    have hb0 : Below w.heap.size w W0 := by rw [← hW0]; exact (Below.refl _ _).alloc (Nat.le_refl _) _
    have hown0 : W0.ownsRow w.heap.size 5 1 (.slice (some ⟨w.heap.size, 0, none⟩) 0 0) 0 [] := by rw [← hW0]; exact World.ownsRow_lit w #[] 0 (Nat.le_refl _) (by decide) rfl
    have hsrc := rdLB (hv.below (Nat.le_refl _) hb0)
    have hm1 : 0 + bs.length ≤ maxLen := by show _ ≤ 9223372036854775807; omega
    have hm2 : (0 + bs.length) * 1 ≤ 140737488355328 := by omega
    have hone := bb1_one bs
    have hbs := hb0.size
    have hd1 := fun v W h1 h2 => qparse_calls v bs W h1 (by omega) h2
    have hd2 := fun v W h1 h2 h3 => refBegins_calls v bs W h1 (by omega) h2 h3
    obtain ⟨r, hr⟩ : ∃ r, decodeMail bs = r := ⟨_, rfl⟩
    have hfd : fileD bs = r.map fun p => ⟨p.1, decodeM (bs.drop p.2), p.2 + 28 * (decodeM (bs.drop p.2)).length⟩ := by rw [fileD, hr]
    rw [hfd] at hd1
    rw [hr] at hd2
    have Hv := Lib.hid hv
    have Hnv := Lib.hid hnv
    have Hol := Lib.hid hol
    have Hone := Lib.hid hone
    have Hb0 := Lib.hid hb0
    cases r with
    | none =>
      have hd1 : ∀ v W, RdB W v bs → MaxOk W → Calls Tryz.prog 25 #[v] W (FilNone W) := fun v W h1 h2 => (hd1 v W h1 h2).mono fun e w' h => fil_none h
      have hd2 : ∀ v W, RdB W v bs → NilOk v → (∀ k, v.ownBlock = some k → k < W.heap.size) → Calls Tryz.prog 21 #[v] W (BegNone W) := fun v W h1 h2 h3 => (hd2 v W h1 h2 h3).mono fun e w' h => beg_none h
      have hsame : ∀ W ar cr ab cb, RdS W (.slice ar 0 cr) [] → RdB W (.slice ab 0 cb) [] → Calls Tryz.prog 20 #[.agg #[.int .i64 0, .int .i64 0, .int .i64 0, .string ⟨#[]⟩, .slice ar 0 cr, .slice ab 0 cb], .agg #[.int .i64 0, .int .i64 0, .int .i64 0, .string ⟨#[]⟩, .slice none 0 0, .slice none 0 0]] W fun e w' => e = .returned (.bool true) ∧ Below W.heap.size W w' := by
        intro W ar cr ab cb h1 h2
        have := refSame_calls MailD.zero MailD.zero (.slice ar 0 cr) (.slice ab 0 cb) (.slice none 0 0) (.slice none 0 0) W h1 h2 rdS_nil rdB_nil
        rw [show decide (MailD.zero = MailD.zero) = true by simp] at this
        exact this
      have Hd1 := Lib.hid hd1
      have Hd2 := Lib.hid hd2
      have Hsame := Lib.hid hsame
      clear hd1 hd2 hsame hv hnv hol hone hr hb0 hfd
      subst hW0
      go_enter Tryz.func8, Tryz.ntmps8
      go_wp2_with (at_builtin; go_must (refine wpList_append_any bb1_len (by decide) rfl (.tmp 15) (.tmp 16) 23 rfl w.heap.size 5 i0 (.int .u8 0) 1 Tryz.underlying23 hi hz0 hz1 hz2 rfl _ _ _ rfl hown0 _ bs rfl hsrc Hnv.out Hone.out hm1 hm2 hbs ?_); rintro v2 w2 hown2 hg2 _; rw [Nat.zero_add, List.nil_append] at hown2)
      have hb2 := Hb0.out.grown hg2 hbs (fun k hk => by cases hk; exact Nat.le_refl _)
      rw [bb1_flat] at hown2
      have hcall := Hd1.out v2 w2 (rdB_ofOwn hown2) (Hmax.out.below hb2)
      have Hcall := Lib.hid hcall
      obtain ⟨a2, c2, hv2⟩ := own_form0 hown2
      subst hv2
      clear hcall hown2 hg2 Hd1 hown0 hsrc
      refine (Hcall.out).mono ?_; rintro e w3 ⟨ar, cr, ab, cb, am, cm, rfl, hrs, hrb, hrm, hb3⟩
      have hbw3 := hb2.trans (hb3.mono hb2.size)
      have hnew := FileAt.new (f := FileD.zero) hrs hrb hrm
      have hnew : FileAt (w3.alloc (.cells #[.int .i64 0, .int .i64 0, .int .i64 0, .string ⟨#[]⟩, .slice ar 0 cr, .slice ab 0 cb, .slice am 0 cm, .int .i64 0] 43)) w3.heap.size FileD.zero (.slice ar 0 cr) (.slice ab 0 cb) (.slice am 0 cm) := hnew
      obtain ⟨w4, hw4⟩ : ∃ w4, w3.alloc (.cells #[.int .i64 0, .int .i64 0, .int .i64 0, .string ⟨#[]⟩, .slice ar 0 cr, .slice ab 0 cb, .slice am 0 cm, .int .i64 0] 43) = w4 := ⟨_, rfl⟩
      rw [hw4] at hnew
      have hb4 : Below w3.heap.size w3 w4 := by rw [← hw4]; exact (Below.refl _ _).alloc (Nat.le_refl _) _
      have hbw4 := hbw3.trans (hb4.mono hbw3.size)
      have hcall2 := Hd2.out (.slice a bs.length cap) w4 (Hv.out.below (Nat.le_refl _) hbw4) Hnv.out (fun k hk => by have := Hol.out k hk; have := hbw4.size; omega)
      have Hcall2 := Lib.hid hcall2
      have Hnew := Lib.hid hnew
      have Hbw4 := Lib.hid hbw4
      clear hcall2 hnew hrs hrb hrm Hd2 Hcall hb4 hbw4 hb2 hbw3 hb3
      subst hw4
      go_wp2_with fail
      refine (Hcall2.out).mono ?_; rintro e w5 ⟨ar5, cr5, ab5, cb5, rfl, hb5⟩
      have hbw5 := Hbw4.out.trans (hb5.mono Hbw4.out.size)
      have hba : Below w5.heap.size w5 (w5.alloc (.cells #[.int .i64 0, .int .i64 0, .int .i64 0, .string ⟨#[]⟩, .slice ar5 0 cr5, .slice ab5 0 cb5] 25)) := (Below.refl _ _).alloc (Nat.le_refl _) _
      have hbw6 := hbw5.trans (hba.mono hbw5.size)
      have hn6 := (Hnew.out.below hb5).below hba
      have hans := Hans.out _ (Hmax.out.below hbw6)
      have Hans6 := Lib.hid hans
      have Hbw6 := Lib.hid hbw6
      have Hn6 := Lib.hid hn6
      clear hans hbw6 hn6 hba hbw5 hb5 Hcall2 Hans
      go_wp2_with fail
      refine (Hans6.out).mono ?_; rintro e w7 ⟨rfl, hb7⟩
      have hn7 := Hn6.out.below hb7
      have hbw7 := Hbw6.out.trans (hb7.mono Hbw6.out.size)
      obtain ⟨c0, c1, c2, c3', c4, c5, c6, c7⟩ := (cells8 hn7.blk).1
      simp only [FileD.zero, MailD.zero] at c0 c1 c2 c3' c7
      have c3'' : w7.cell? ⟨w3.heap.size, 3, none⟩ = some (.string ⟨#[]⟩) := c3'
      have hcall3 := Hsame.out w7 ar cr ab cb hn7.rs hn7.rb
      have Hcall3 := Lib.hid hcall3
      have Hn7 := Lib.hid hn7
      clear hcall3 hn7 c3' Hn6 Hans6 hb7
      go_wp2_with fail
      refine (Hcall3.out).mono ?_; rintro e w8 ⟨rfl, hb8⟩
      have hbw8 := hbw7.trans (hb8.mono hbw7.size)
      have hn8 := Hn7.out.below hb8
      clear c0 c1 c2 c3'' c4 c5 c6 c7
      obtain ⟨c0, c1, c2, c3', c4, c5, c6, c7⟩ := (cells8 hn8.blk).1
      simp only [FileD.zero] at c7
      clear c0 c1 c2 c3' c4 c5 hn8
      go_wp2
      go_ret
      exact ⟨rfl, hbw8⟩
    | some p =>
      obtain ⟨m, n⟩ := p
      obtain ⟨hn1, hn2⟩ := decode_len hr
      obtain ⟨ks, hks⟩ : ∃ ks, decodeM (bs.drop n) = ks := ⟨_, rfl⟩
      have hkl : ks.length ≤ bs.length := by
        have := decodeN_len 4096 (bs.drop n)
        rw [List.length_drop] at this
        rw [← hks]; unfold decodeM; omega
      have hfin : (some (m, n)).map (fun p : MailD × Nat => (⟨p.1, decodeM (bs.drop p.2), p.2 + 28 * (decodeM (bs.drop p.2)).length⟩ : FileD)) = some ⟨m, ks, n + 28 * ks.length⟩ := by rw [← hks]; rfl
      have hgd : ((n + 28 * ks.length : Nat) : Int) = (n : Int) + 28 * (ks.length : Int) := by push_cast; rfl
      have hd1 : ∀ v W, RdB W v bs → MaxOk W → Calls Tryz.prog 25 #[v] W (FilDone m ks ((n : Int) + 28 * (ks.length : Int)) W) := fun v W h1 h2 => (hd1 v W h1 h2).mono fun e w' h => by rw [hfin] at h; exact fil_some hgd h
      have hd2 : ∀ v W, RdB W v bs → NilOk v → (∀ k, v.ownBlock = some k → k < W.heap.size) → Calls Tryz.prog 21 #[v] W (BegDone m n W) := fun v W h1 h2 h3 => (hd2 v W h1 h2 h3).mono fun e w' h => beg_some h
      have hmk : ∀ v W, RdB W v (bs.drop n) → Calls Tryz.prog 27 #[v] W fun e w' => ∃ a c, e = .returned (.tuple #[.slice a ks.length c, .int .i64 (28 * (ks.length : Int))]) ∧ RdM w' (.slice a ks.length c) ks ∧ Below W.heap.size W w' := by
        intro v W h
        refine (refMarks_calls v (bs.drop n) W h (by rw [List.length_drop]; omega)).mono ?_
        rintro e w' ⟨v', he, ho, hb⟩
        rw [hks] at he ho
        obtain ⟨a, c, rfl⟩ := own_form0 ho
        exact ⟨a, c, he, rdL_ofOwn mark_len (by decide) ho, hb⟩
      have hsame : ∀ W ar cr ab cb ar' cr' ab' cb', RdS W (.slice ar m.rcpts.length cr) m.rcpts → RdB W (.slice ab m.body.length cb) m.body → RdS W (.slice ar' m.rcpts.length cr') m.rcpts → RdB W (.slice ab' m.body.length cb') m.body → Calls Tryz.prog 20 #[.agg #[.int .i64 m.id, .int .i64 m.parent, .int .i64 m.born, .string (strL m.frm), .slice ar m.rcpts.length cr, .slice ab m.body.length cb], .agg #[.int .i64 m.id, .int .i64 m.parent, .int .i64 m.born, .string (strL m.frm), .slice ar' m.rcpts.length cr', .slice ab' m.body.length cb']] W fun e w' => e = .returned (.bool true) ∧ Below W.heap.size W w' := by
        intro W ar cr ab cb ar' cr' ab' cb' h1 h2 h3 h4
        have := refSame_calls m m _ _ _ _ W h1 h2 h3 h4
        rw [show decide (m = m) = true by simp] at this
        exact this
      have hpart : ∀ W, RdB W (.slice a bs.length cap) bs → RdB W (.slice (if cap = n then a else a.map (·.add n)) (bs.length - n) (cap - n)) (bs.drop n) := by
        intro W h
        have hp2 := h.part n bs.length hn1 (Nat.le_refl _)
        rw [List.take_of_length_le (Nat.le_refl _)] at hp2
        exact hp2
      have hs := run_slice_l (P := Tryz.prog) Tryz.underlying23 u8size a bs.length cap n hn1
      have hni : (n : Int) ≤ (bs.length : Int) := by omega
      have hkI : (ks.length : Int) ≤ (bs.length : Int) := by omega
      generalize (if cap = n then a else a.map (·.add n)) = a2' at hs hpart
      have Hd1 := Lib.hid hd1
      have Hd2 := Lib.hid hd2
      have Hmk := Lib.hid hmk
      have Hpart := Lib.hid hpart
      have Hsame := Lib.hid hsame
      have Hgd := Lib.hid hgd
      clear hd1 hd2 hmk hsame hpart hv hnv hol hone hr hb0 hfd hfin hks hgd
      subst hW0
      go_enter Tryz.func8, Tryz.ntmps8
      go_wp2_with (at_builtin; go_must (refine wpList_append_any bb1_len (by decide) rfl (.tmp 15) (.tmp 16) 23 rfl w.heap.size 5 i0 (.int .u8 0) 1 Tryz.underlying23 hi hz0 hz1 hz2 rfl _ _ _ rfl hown0 _ bs rfl hsrc Hnv.out Hone.out hm1 hm2 hbs ?_); rintro v2 w2 hown2 hg2 _; rw [Nat.zero_add, List.nil_append] at hown2)
      have hb2 := Hb0.out.grown hg2 hbs (fun k hk => by cases hk; exact Nat.le_refl _)
      rw [bb1_flat] at hown2
      have hcall := Hd1.out v2 w2 (rdB_ofOwn hown2) (Hmax.out.below hb2)
      have Hcall := Lib.hid hcall
      obtain ⟨a2, c2, hv2⟩ := own_form0 hown2
      subst hv2
      clear hcall hown2 hg2 Hd1 hown0 hsrc
      refine (Hcall.out).mono ?_; rintro e w3 ⟨ar, cr, ab, cb, am, cm, rfl, hrs, hrb, hrm, hb3⟩
      have hbw3 := hb2.trans (hb3.mono hb2.size)
      have hnew := fileAt_new Hgd.out hrs hrb hrm
      obtain ⟨w4, hw4⟩ : ∃ w4, w3.alloc (.cells #[.int .i64 m.id, .int .i64 m.parent, .int .i64 m.born, .string (strL m.frm), .slice ar m.rcpts.length cr, .slice ab m.body.length cb, .slice am ks.length cm, .int .i64 ((n : Int) + 28 * (ks.length : Int))] 43) = w4 := ⟨_, rfl⟩
      rw [hw4] at hnew
      have hb4 : Below w3.heap.size w3 w4 := by rw [← hw4]; exact (Below.refl _ _).alloc (Nat.le_refl _) _
      have hbw4 := hbw3.trans (hb4.mono hbw3.size)
      have hcall2 := Hd2.out (.slice a bs.length cap) w4 (Hv.out.below (Nat.le_refl _) hbw4) Hnv.out (fun k hk => by have := Hol.out k hk; have := hbw4.size; omega)
      have Hcall2 := Lib.hid hcall2
      have Hnew := Lib.hid hnew
      have Hbw4 := Lib.hid hbw4
      clear hcall2 hnew hrs hrb hrm Hd2 Hcall hb4 hbw4 hb2 hbw3 hb3
      subst hw4
      go_wp2_with fail
      refine (Hcall2.out).mono ?_; rintro e w5 ⟨ar5, cr5, ab5, cb5, rfl, hrs5, hrb5, hb5⟩
      have hbw5 := Hbw4.out.trans (hb5.mono Hbw4.out.size)
      have hm5 := MailAt.new (m := m) hrs5 hrb5
      obtain ⟨w6, hw6⟩ : ∃ w6, w5.alloc (.cells #[.int .i64 m.id, .int .i64 m.parent, .int .i64 m.born, .string (strL m.frm), .slice ar5 m.rcpts.length cr5, .slice ab5 m.body.length cb5] 25) = w6 := ⟨_, rfl⟩
      rw [hw6] at hm5
      have hba : Below w5.heap.size w5 w6 := by rw [← hw6]; exact (Below.refl _ _).alloc (Nat.le_refl _) _
      have hbw6 := hbw5.trans (hba.mono hbw5.size)
      have hn6 := (Hnew.out.below hb5).below hba
      have hmk := Hmk.out _ w6 (Hpart.out _ (Hv.out.below (Nat.le_refl _) hbw6))
      have Hmk6 := Lib.hid hmk
      have Hbw6 := Lib.hid hbw6
      have Hn6 := Lib.hid hn6
      have Hm6 := Lib.hid hm5
      clear hmk hbw6 hn6 hba hbw5 hb5 hm5 hrs5 hrb5 Hcall2 Hmk
      subst hw6
      go_wp2_with fail
      refine (Hmk6.out).mono ?_; rintro e w7 ⟨a7, c7', rfl, hrk7, hb7⟩
      have hn7 := Hn6.out.below hb7
      have hm7 := Hm6.out.below hb7
      have hbw7 := Hbw6.out.trans (hb7.mono Hbw6.out.size)
      have hans := Hans.out _ (Hmax.out.below hbw7)
      have Hans7 := Lib.hid hans
      have Hbw7 := Lib.hid hbw7
      have Hn7 := Lib.hid hn7
      have Hm7 := Lib.hid hm7
      have Hk7 := Lib.hid hrk7
      clear hans hbw7 hn7 hm7 hrk7 hb7 Hmk6 Hn6 Hm6 Hans
      go_wp2_with fail
      refine (Hans7.out).mono ?_; rintro e w8 ⟨rfl, hb8⟩
      have hn8 := Hn7.out.below hb8
      have hm8 := Hm7.out.below hb8
      have hk8 := Hk7.out.below (Nat.le_refl _) hb8
      have hbw8 := Hbw7.out.trans (hb8.mono Hbw7.out.size)
      obtain ⟨c0, c1, c2, c3', c4, c5, c6, c7⟩ := fileAt_cells Hgd.out hn8
      obtain ⟨y0, y1, y2, y3, y4, y5⟩ := hm8.cells
      have hcall3 := Hsame.out w8 ar cr ab cb ar5 cr5 ab5 cb5 hn8.rs hn8.rb hm8.rs hm8.rb
      have Hcall3 := Lib.hid hcall3
      have Hn8 := Lib.hid hn8
      have Hk8 := Lib.hid hk8
      clear hcall3 hn8 hm8 hk8 Hn7 Hm7 Hk7 Hans7 hb8
      go_wp2_with fail
      refine (Hcall3.out).mono ?_; rintro e w9 ⟨rfl, hb9⟩
      have hbw9 := hbw8.trans (hb9.mono hbw8.size)
      have hn9 := Hn8.out.below hb9
      have hk9 := Hk8.out.below (Nat.le_refl _) hb9
      clear c0 c1 c2 c3' c4 c5 c6 c7 y0 y1 y2 y3 y4 y5
      obtain ⟨c0, c1, c2, c3', c4, c5, c6, c7⟩ := fileAt_cells Hgd.out hn9
      have hcall4 := sameMarks_calls _ _ ks w9 hn9.rm hk9
      have Hcall4 := Lib.hid hcall4
      have Hn9 := Lib.hid hn9
      clear hcall4 c0 c1 c2 c3' c4 c5 c7 hn9 hk9 Hn8 Hk8 Hcall3
      go_wp2_with fail
      refine (Hcall4.out).mono ?_; rintro e wA ⟨rfl, hbA⟩
      have hbwA := hbw9.trans (hbA.mono hbw9.size)
      have hnA := Hn9.out.below hbA
      clear c6
      obtain ⟨c0, c1, c2, c3', c4, c5, c6, c7⟩ := fileAt_cells Hgd.out hnA
      clear c0 c1 c2 c3' c4 c5 c6 hnA
      go_wp2
      go_ret
      exact ⟨rfl, hbwA⟩
end Go.Proofs.YtjddicoigbidlaaGreatDoor
