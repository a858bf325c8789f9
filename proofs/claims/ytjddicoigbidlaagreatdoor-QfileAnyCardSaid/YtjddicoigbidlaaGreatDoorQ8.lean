/-
  The walk of pillarboxlaw12.answers (printed by gen_filans.py).
  The walk of the law EnvDecodes.
  The plain side of pillarboxref10.Marks: three numbers read by an Eye are the mark that the bytes are, if they are one's.
  The walk of the law MarkEncodes.
  The walk of pillarboxref10.Fates.
  Equal lists are the same: pillarboxref10.SameMarks, SameFates.
  The plain side of the laws on fates: what a recipient's fate hangs on, what ended stays, nothing that is counted becomes less.
  The walk of the law MarkFates.
-/
import Derived.Test.YtjddicoigbidlaaGreatDoorQ2
import Derived.Test.YtjddicoigbidlaaGreatDoorQ3
import Derived.Test.YtjddicoigbidlaaGreatDoorQ4
import Derived.Test.YtjddicoigbidlaaGreatDoorQ5
import Derived.Test.YtjddicoigbidlaaGreatDoorQ6
import Derived.Test.YtjddicoigbidlaaGreatDoorQ7
import Derived.Laws.BytesArg
import Derived.Deep.QuietTactic
import Derived.BigQuiet
set_option linter.unusedSimpArgs false
set_option linter.unusedVariables false
set_option maxRecDepth 100000
namespace Go.Proofs.YtjddicoigbidlaaGreatDoor
open Go.RowKit
theorem fil1_u8 : (Tryz.prog.info? 5).map (·.size) = some 1 := by kernel_rfl
abbrev Fil1S (w4 : World) (X G : Nat) (ar ab am : Option Addr) (cr cb cm : Nat) (w' : World) : Prop :=
  w'.cell? ⟨X, 0, none⟩ = some (.int .i64 1) ∧ w'.cell? ⟨X, 1, none⟩ = some (.int .i64 0) ∧ w'.cell? ⟨X, 2, none⟩ = some (.int .i64 0) ∧ w'.cell? ⟨X, 3, none⟩ = some (.string ⟨#[]⟩) ∧ w'.cell? ⟨X, 4, none⟩ = some (.slice ar 1 cr) ∧ w'.cell? ⟨X, 5, none⟩ = some (.slice ab 0 cb) ∧ w'.cell? ⟨X, 6, none⟩ = some (.slice am 1 cm) ∧ w'.cell? ⟨X, 7, none⟩ = some (.int .i64 (G : Int)) ∧ FileRest w4 X ⟨fil1M, [fil1K], G⟩ (.slice ar 1 cr) (.slice ab 0 cb) (.slice am 1 cm) w'
theorem Fil1S.of {w4 w : World} {X G : Nat} {ar ab am : Option Addr} {cr cb cm : Nat} (h : FileRest w4 X ⟨fil1M, [fil1K], G⟩ (.slice ar 1 cr) (.slice ab 0 cb) (.slice am 1 cm) w) : Fil1S w4 X G ar ab am cr cb cm w := FileS.of h
theorem Fil1S.go {w4 w w' : World} {X G : Nat} {ar ab am : Option Addr} {cr cb cm : Nat} (hb : Below w.heap.size w w') (h : Fil1S w4 X G ar ab am cr cb cm w) : Fil1S w4 X G ar ab am cr cb cm w' :=
  Fil1S.of ⟨h.2.2.2.2.2.2.2.2.1.trans (hb.mono h.2.2.2.2.2.2.2.2.1.size), h.2.2.2.2.2.2.2.2.2.below hb⟩
/-- What Parse answers of the answers' file. -/
def Fil1Done (w : World) (G : Nat) (e : Ending) (w' : World) : Prop :=
  ∃ ar cr ab cb am cm, e = .returned (.tuple #[.agg #[.int .i64 1, .int .i64 0, .int .i64 0, .string ⟨#[]⟩, .slice ar 1 cr, .slice ab 0 cb, .slice am 1 cm, .int .i64 (G : Int)], .bool true]) ∧ RdS w' (.slice ar 1 cr) fil1M.rcpts ∧ RdB w' (.slice ab 0 cb) [] ∧ RdM w' (.slice am 1 cm) [fil1K] ∧ Below w.heap.size w w'
def Fil0Done (w : World) (e : Ending) (w' : World) : Prop :=
  ∃ ar cr ab cb am cm, e = .returned (.tuple #[.agg #[.int .i64 0, .int .i64 0, .int .i64 0, .string ⟨#[]⟩, .slice ar 0 cr, .slice ab 0 cb, .slice am 0 cm, .int .i64 0], .bool false]) ∧ Below w.heap.size w w'
theorem fil1_parse (v : Value) (w : World) (hv : RdB w v (fil1M.record ++ fil1K.bytes)) (hmax : MaxOk w) : Calls Tryz.prog 25 #[v] w (Fil1Done w (fil1M.record ++ fil1K.bytes).length) := by
  have hl := fil1_len
  refine (qparse_calls v _ w hv (by rw [List.length_append, bytes_length]; omega) hmax).mono ?_
  rintro e w' ⟨vr, vb, vm, he, h1, h2, h3, hb⟩
  rw [fil1_file] at he h1 h2 h3
  have h1 : w'.ownsRow w.heap.size 9 1 vr 1 ([[97, 64, 98]].flatMap s1) := h1
  have h2 : w'.ownsRow w.heap.size 5 1 vb 0 (([] : List UInt8).map u8v) := h2
  have h3 : w'.ownsRow w.heap.size 52 3 vm 1 ([fil1K].flatMap MarkD.cells) := h3
  obtain ⟨ar, cr, rfl⟩ := own_form0 h1
  obtain ⟨ab, cb, rfl⟩ := own_form0 h2
  obtain ⟨am, cm, rfl⟩ := own_form0 h3
  exact ⟨ar, cr, ab, cb, am, cm, he, rdL_ofOwn (xs := [[97, 64, 98]]) s1_len (by decide) h1, rdB_ofOwn (bs := []) h2, rdL_ofOwn (xs := [fil1K]) mark_len (by decide) h3, hb⟩
theorem fil0_parse (v : Value) (w : World) (hv : RdB w v ((fil1M.record ++ fil1K.bytes).take 9)) (hmax : MaxOk w) : Calls Tryz.prog 25 #[v] w (Fil0Done w) := by
  refine (qparse_calls v _ w hv (by rw [List.length_take]; omega) hmax).mono ?_
  rintro e w' ⟨vr, vb, vm, he, h1, h2, h3, hb⟩
  rw [fil1_none] at he h1 h2 h3
  have h1 : w'.ownsRow w.heap.size 9 1 vr 0 (([] : List (List UInt8)).flatMap s1) := h1
  have h2 : w'.ownsRow w.heap.size 5 1 vb 0 (([] : List UInt8).map u8v) := h2
  have h3 : w'.ownsRow w.heap.size 52 3 vm 0 (([] : List MarkD).flatMap MarkD.cells) := h3
  obtain ⟨ar, cr, rfl⟩ := own_form0 h1
  obtain ⟨ab, cb, rfl⟩ := own_form0 h2
  obtain ⟨am, cm, rfl⟩ := own_form0 h3
  exact ⟨ar, cr, ab, cb, am, cm, he, hb⟩
set_option maxHeartbeats 8000000 in
theorem filAns_calls (w : World) (hmax : MaxOk w) : Calls Tryz.prog 23 #[] w fun e w' => e = .returned (.bool true) ∧ Below w.heap.size w w' := by
  have hz : ∀ w, (zeroValue 43).run Tryz.prog w = .ok (.agg #[.int .i64 0, .int .i64 0, .int .i64 0, .string ⟨#[]⟩, .slice none 0 0, .slice none 0 0, .slice none 0 0, .int .i64 0]) w := fun _ => by kernel_rfl
  have hrec : ∀ (W : World) (vr : Value), RdS W vr [[97, 64, 98]] → Calls Tryz.prog 19 #[.agg #[.int .i64 1, .int .i64 0, .int .i64 0, .string ⟨#[]⟩, vr, .slice none 0 0]] W (RowDone W fil1M.record) :=
    fun W vr h => record_calls fil1M vr (.slice none 0 0) W h rdB_nil (fun l c e => by cases e; exact ⟨rfl, rfl⟩) fil1_small fil1_good
  have hmk : ∀ W : World, Calls Tryz.prog 28 #[.agg #[.int .i64 1, .int .i64 0, .int .i64 0]] W (RowDone W fil1K.bytes) :=
    fun W => refMark_calls fil1K W (by decide) (by decide) (by decide) (by decide) (by decide) (by decide)
  have hp1 := fil1_parse
  have hp0 := fil0_parse
  have hopen : ∀ (W w4 : World) (X G : Nat) (ar ab am : Option Addr) (cr cb cm : Nat), FileAt W X ⟨fil1M, [fil1K], G⟩ (.slice ar 1 cr) (.slice ab 0 cb) (.slice am 1 cm) → Calls Tryz.prog 34 #[.agg #[.int .i64 1, .int .i64 0, .int .i64 0, .string ⟨#[]⟩, .slice ar 1 cr, .slice ab 0 cb, .slice am 1 cm, .int .i64 (G : Int)]] W (fun e w' => ∃ v, e = .returned v ∧ w'.ownsRow W.heap.size 3 1 v 1 ([0].flatMap i1) ∧ Below W.heap.size W w') := by
    intro W w4 X G ar ab am cr cb cm h
    have := fileOpen_calls ⟨fil1M, [fil1K], G⟩ (.slice ar 1 cr) (.slice ab 0 cb) (.slice am 1 cm) W h.rs h.rm ⟨_, _, rfl⟩ (by show (fatesD (nFates 1) [fil1K]).length ≤ 8; decide)
    have he : (FileD.mk fil1M [fil1K] G).fates = fatesD (nFates 1) [fil1K] := rfl
    rw [he, fil1_open] at this
    exact this
  have hover : ∀ (W : World) (X G : Nat) (ar ab am : Option Addr) (cr cb cm : Nat), FileAt W X ⟨fil1M, [fil1K], G⟩ (.slice ar 1 cr) (.slice ab 0 cb) (.slice am 1 cm) → Calls Tryz.prog 36 #[.agg #[.int .i64 1, .int .i64 0, .int .i64 0, .string ⟨#[]⟩, .slice ar 1 cr, .slice ab 0 cb, .slice am 1 cm, .int .i64 (G : Int)]] W (fun e w' => e = .returned (.bool false) ∧ Below W.heap.size W w') := by
    intro W X G ar ab am cr cb cm h
    have := fileOver_calls ⟨fil1M, [fil1K], G⟩ (.slice ar 1 cr) (.slice ab 0 cb) (.slice am 1 cm) W h.rs h.rm ⟨_, _, rfl⟩
    have he : (FileD.mk fil1M [fil1K] G).fates = fatesD (nFates 1) [fil1K] := rfl
    rw [he, fil1_waits] at this
    exact this
  have hlen := fil1_len
  have hkl := bytes_length fil1K
  obtain ⟨R, hR⟩ : ∃ R, fil1M.record = R := ⟨_, rfl⟩
  obtain ⟨kb, hkb⟩ : ∃ kb, fil1K.bytes = kb := ⟨_, rfl⟩
  rw [hR] at hrec hp1 hp0 hlen
  rw [hkb] at hmk hp1 hp0 hkl
  clear hR hkb
  have Hrec := Lib.hid hrec
  have Hmk := Lib.hid hmk
  have Hp1 := Lib.hid hp1
  have Hp0 := Lib.hid hp0
  have Hopen0 := Lib.hid hopen
  have Hover0 := Lib.hid hover
  have Hmax := Lib.hid hmax
  have hr0 := rdL_row (s := 1) (f := s1) (xs := [[97, 64, 98]]) (cap := 1) s1_len (by decide) (heap_alloc_new w (.cells #[.string ⟨#[97, 64, 98]⟩] 9)) (by decide) (by decide)
  have Hr0 := Lib.hid hr0
  clear hrec hmk hp1 hp0 hopen hover hmax hr0
  go_enter Tryz.func23, Tryz.ntmps23
  go_wp2_with fail
  refine (Hrec.out _ _ Hr0.out).mono ?_; rintro e w1 ⟨v1, rfl, ho1, hb1⟩
  have hbw1 : Below w.heap.size w w1 := ((Below.refl _ _).alloc (Nat.le_refl _) _).trans (hb1.mono (by simp))
  have hs1 : w.heap.size ≤ w1.heap.size := hbw1.size
  have ho1 := own_mono ho1 (show w.heap.size ≤ _ by simp)
  clear hb1
  go_wp2_with fail
  refine (Hmk.out _).mono ?_; rintro e w2 ⟨v2, rfl, ho2, hb2⟩
  have hbw2 := hbw1.trans (hb2.mono hs1)
  have ho1' := own_below ho1 hb2 (Nat.le_refl _)
  clear ho1 hb2 hbw1
  go_wp2_with (at_builtin; go_must (refine app_row rfl rfl (.tmp 8) (.tmp 10) rfl ho1' ho2 rfl rfl (by omega) hbw2.size ?_); rintro v3 w3 ho3 hg3)
  have hbw3 := hbw2.grown hg3 hbw2.size (fun k hk => own_base ho1' k hk)
  have hrd := rdB_ofOwn ho3
  obtain ⟨a3, c3, hv3⟩ := own_form0 ho3
  subst hv3
  have Hrd := Lib.hid hrd
  clear hrd ho3 hg3 ho1' ho2
  have hpar := Hp1.out _ _ Hrd.out (Hmax.out.below hbw3)
  have Hpar := Lib.hid hpar
  have Hbw3 := Lib.hid hbw3
  have hGl : (R ++ kb).length = R.length + 28 := by rw [List.length_append, hkl]
  obtain ⟨G, hG⟩ : ∃ G, (R ++ kb).length = G := ⟨_, rfl⟩
  have hG9 : 9 < G ∧ G ≤ 2000 := by omega
  obtain ⟨hG9, hG10⟩ := hG9
  have HRG := Lib.hid hG
  rw [hG] at Hrd Hpar
  have hpre : Hid (∀ W, RdB W (.slice a3 G c3) (R ++ kb) → RdB W (.slice a3 9 c3) ((R ++ kb).take 9)) := fun W h => by have := h.pre 9 (by omega); exact this
  have hc3 : G ≤ c3 := by have h := Hrd.out.form; obtain ⟨_, _, e, _, h⟩ := h; cases e; omega
  have hsl := run_slice_pre (P := Tryz.prog) Tryz.underlying23 fil1_u8 a3 G c3 9 (by omega)
  clear hpar hbw3 hGl hG hbw2 Hr0
  rw [HRG.out]
  refine (Hpar.out).mono ?_; rintro e w4' ⟨ar, cr, ab, cb, am, cm, rfl, hrs, hrb, hrm, hb4⟩
  have hbw4' := Hbw3.out.trans (hb4.mono Hbw3.out.size)
  have hnew := FileAt.new (f := ⟨fil1M, [fil1K], G⟩) hrs hrb hrm
  have hnew : FileAt (w4'.alloc (.cells #[.int .i64 1, .int .i64 0, .int .i64 0, .string ⟨#[]⟩, .slice ar 1 cr, .slice ab 0 cb, .slice am 1 cm, .int .i64 (G : Int)] 43)) w4'.heap.size ⟨fil1M, [fil1K], G⟩ (.slice ar 1 cr) (.slice ab 0 cb) (.slice am 1 cm) := hnew
  have hba : Below w4'.heap.size w4' (w4'.alloc (.cells #[.int .i64 1, .int .i64 0, .int .i64 0, .string ⟨#[]⟩, .slice ar 1 cr, .slice ab 0 cb, .slice am 1 cm, .int .i64 (G : Int)] 43)) := (Below.refl _ _).alloc (Nat.le_refl _) _
  obtain ⟨wn, hwn⟩ : ∃ wn, w4'.alloc (.cells #[.int .i64 1, .int .i64 0, .int .i64 0, .string ⟨#[]⟩, .slice ar 1 cr, .slice ab 0 cb, .slice am 1 cm, .int .i64 (G : Int)] 43) = wn := ⟨_, rfl⟩
  rw [hwn] at hnew hba
  have hbwn := hbw4'.trans (hba.mono hbw4'.size)
  have hp0 := Hp0.out _ wn (hpre.out _ (Hrd.out.below (Nat.le_refl _) (hb4.trans (hba.mono hb4.size)))) (Hmax.out.below hbwn)
  have Hpar0 := Lib.hid hp0
  have Hnew := Lib.hid hnew
  have Hbwn := Lib.hid hbwn
  clear hp0 hnew hbwn hba hbw4' hb4 hrs hrb hrm Hrd
  subst hwn
  go_wp2_with fail
  refine (Hpar0.out).mono ?_; rintro e w5 ⟨ar5, cr5, ab5, cb5, am5, cm5, rfl, hb5⟩
  have hnew5 := Hnew.out.below hb5
  have hbw5 := Hbwn.out.trans (hb5.mono Hbwn.out.size)
  have hba : Below w5.heap.size w5 (w5.alloc (.cells #[.int .i64 0, .int .i64 0, .int .i64 0, .string ⟨#[]⟩, .slice ar5 0 cr5, .slice ab5 0 cb5, .slice am5 0 cm5, .int .i64 0] 43)) := (Below.refl _ _).alloc (Nat.le_refl _) _
  have hn4 := hnew5.below hba
  have hbw4 := hbw5.trans (hba.mono hbw5.size)
  obtain ⟨c0, c1, c2, c3', c4, c5, c6, c7⟩ := (cells8 hn4.blk).1
  simp only [fil1M] at c0 c1 c2 c3'
  have c3'' : (w5.alloc (.cells #[.int .i64 0, .int .i64 0, .int .i64 0, .string ⟨#[]⟩, .slice ar5 0 cr5, .slice ab5 0 cb5, .slice am5 0 cm5, .int .i64 0] 43)).cell? ⟨w4'.heap.size, 3, none⟩ = some (.string ⟨#[]⟩) := c3'
  clear c3'
  have HN4 := Lib.hid hn4
  have Hbw4 := Lib.hid hbw4
  clear hn4 hbw4 hba hbw5 hnew5 hb5
  go_wp2_with fail
  refine (Hopen0.out _ w4' _ G ar ab am cr cb cm HN4.out).mono ?_; rintro e wa ⟨va, rfl, hoA, hbA⟩
  obtain ⟨aA, cA, hvA⟩ := own_form0 hoA
  subst hvA
  have hNA := HN4.out.below hbA
  have hbwA := Hbw4.out.trans (hbA.mono Hbw4.out.size)
  have hbB : Below wa.heap.size wa (wa.alloc (.cells #[.int .i64 0] 3)) := (Below.refl _ _).alloc (Nat.le_refl _) _
  have hrA := (rdL_ofOwn (xs := [0]) i1_len (by decide) hoA).below (Nat.le_refl _) hbB
  have hrB := rdL_row (s := 1) (f := i1) (xs := [0]) (cap := 1) i1_len (by decide) (heap_alloc_new wa (.cells #[.int .i64 0] 3)) (by decide) (by decide)
  have HNB := Lib.hid (hNA.below hbB)
  have HbwB := Lib.hid (hbwA.trans (hbB.mono hbwA.size))
  have HrA := Lib.hid hrA
  have HrB := Lib.hid hrB
  clear hrA hrB hNA hbwA hbB hbA hoA c0 c1 c2 c3'' c4 c5 c6 c7
  go_wp2_with fail
  refine (refInts_calls _ _ [0] _ HrA.out HrB.out).mono ?_; rintro e wi ⟨rfl, hbI⟩
  have hNI := HNB.out.below hbI
  have hbwI := HbwB.out.trans (hbI.mono HbwB.out.size)
  obtain ⟨c0, c1, c2, c3', c4, c5, c6, c7⟩ := (cells8 hNI.blk).1
  simp only [fil1M] at c0 c1 c2 c3'
  have c3'' : wi.cell? ⟨w4'.heap.size, 3, none⟩ = some (.string ⟨#[]⟩) := c3'
  clear c3'
  have HNI := Lib.hid hNI
  have HbwI := Lib.hid hbwI
  clear hNI hbwI hbI
  go_wp2_with fail
  refine (Hover0.out _ _ G ar ab am cr cb cm HNI.out).mono ?_; rintro e wo ⟨rfl, hbO⟩
  have hfin := HbwI.out.trans (hbO.mono HbwI.out.size)
  clear hbO c0 c1 c2 c3'' c4 c5 c6 c7
  go_wp2
  go_ret
  exact ⟨rfl, hfin⟩
end Go.Proofs.YtjddicoigbidlaaGreatDoor

set_option linter.unusedSimpArgs false
set_option linter.unusedVariables false
namespace Go.Proofs.YtjddicoigbidlaaGreatDoor
open Go.RowKit
set_option maxRecDepth 100000 in
set_option maxHeartbeats 8000000 in
theorem envDecodes_walk (v : Value) (bs : List UInt8) (w : World) (hv : RdB w v bs) (hnv : NilOk v) (hol : ∀ k, v.ownBlock = some k → k < w.heap.size) (hmax : MaxOk w) :
    Calls Tryz.prog 4 #[v] w fun e w' => e = .returned (.bool true) ∧ Below w.heap.size w w' := by
  obtain ⟨i0, hi, hz0, hz1, hz2⟩ := info_parts infoU8
  obtain ⟨a, cap, rfl, hl, hc⟩ := hv.form
  have hlI : (bs.length : Int) ≤ 9223372036854775807 := by omega
  have hans := fun W h => envAns_calls W h
  have Hans := Lib.hid hans
  have Hmax := Lib.hid hmax
  clear hans hmax
  by_cases hbig : 3000 < bs.length
  · have hbi : (3000 : Int) < (bs.length : Int) := by omega
    clear hv hnv hol
    go_enter Tryz.func4, Tryz.ntmps4
    go_wp2_with fail
    refine (Hans.out _ Hmax.out).mono ?_; rintro e w1 ⟨rfl, hb1⟩
    go_wp2
    go_ret
    exact ⟨rfl, hb1⟩
  · have hbi : (bs.length : Int) ≤ 3000 := by omega
    obtain ⟨W0, hW0⟩ : ∃ W0, w.alloc (.cells #[] 5) = W0 := ⟨_, rfl⟩
    have hb0 : Below w.heap.size w W0 := by rw [← hW0]; exact (Below.refl _ _).alloc (Nat.le_refl _) _
    have hown0 : W0.ownsRow w.heap.size 5 1 (.slice (some ⟨w.heap.size, 0, none⟩) 0 0) 0 [] := by rw [← hW0]; exact World.ownsRow_lit w #[] 0 (Nat.le_refl _) (by decide) rfl
    have hsrc := rdLB (hv.below (Nat.le_refl _) hb0)
    have hm1 : 0 + bs.length ≤ maxLen := by show _ ≤ 9223372036854775807; omega
    have hm2 : (0 + bs.length) * 1 ≤ 140737488355328 := by omega
    have hone := bb1_one bs
    have hbs := hb0.size
    obtain ⟨r, hr⟩ : ∃ r, decodeMail bs = r := ⟨_, rfl⟩
    have hd1 := fun v W h1 h2 => envDecode_calls v bs W h1 (by omega) h2
    have hd2 := fun v W h1 h2 h3 => refBegins_calls v bs W h1 (by omega) h2 h3
    rw [hr] at hd1 hd2
    have Hd1 := Lib.hid hd1
    have Hd2 := Lib.hid hd2
    have Hv := Lib.hid hv
    have Hnv := Lib.hid hnv
    have Hol := Lib.hid hol
    have Hone := Lib.hid hone
    have Hb0 := Lib.hid hb0
    clear hd1 hd2 hv hnv hol hone hr hb0
    subst hW0
    go_enter Tryz.func4, Tryz.ntmps4
    go_wp2_with (at_builtin; go_must (refine wpList_append_any bb1_len (by decide) rfl (.tmp 14) (.tmp 15) 23 rfl w.heap.size 5 i0 (.int .u8 0) 1 Tryz.underlying23 hi hz0 hz1 hz2 rfl _ _ _ rfl hown0 _ bs rfl hsrc Hnv.out Hone.out hm1 hm2 hbs ?_); rintro v2 w2 hown2 hg2 _; rw [Nat.zero_add, List.nil_append] at hown2)
    have hb2 := Hb0.out.grown hg2 hbs (fun k hk => by cases hk; exact Nat.le_refl _)
    rw [bb1_flat] at hown2
    have hcall := Hd1.out v2 w2 (rdB_ofOwn hown2) (Hmax.out.below hb2)
    have Hcall := Lib.hid hcall
    obtain ⟨a2, c2, hv2⟩ := own_form0 hown2
    subst hv2
    clear hcall hown2 hg2 Hd1 hown0 hsrc
    refine (Hcall.out).mono ?_; rintro e w3 ⟨vr3, vb3, rfl, hoL3, hoT3, hb3⟩
    have hbw3 := hb2.trans (hb3.mono hb2.size)
    generalize hmd : r.elim MailD.zero Prod.fst = m at *
    generalize hnn : r.elim 0 Prod.snd = nn at *
    generalize hokk : r.isSome = okk at *
    have Hmd := Lib.hid hmd
    have Hnn := Lib.hid hnn
    have Hokk := Lib.hid hokk
    obtain ⟨a3, c3, hv3⟩ := own_form0 hoL3
    obtain ⟨a4, c4, hv4⟩ := own_form0 hoT3
    subst hv3
    subst hv4
    have hm3 := MailAt.new (m := m) (rdL_ofOwn s1_len (by decide) hoL3) (rdB_ofOwn hoT3)
    obtain ⟨w4, hw4⟩ : ∃ w4, w3.alloc (.cells #[.int .i64 m.id, .int .i64 m.parent, .int .i64 m.born, .string (strL m.frm), (.slice a3 m.rcpts.length c3), (.slice a4 m.body.length c4)] 25) = w4 := ⟨_, rfl⟩
    rw [hw4] at hm3
    have hb4 : Below w3.heap.size w3 w4 := by rw [← hw4]; exact (Below.refl _ _).alloc (Nat.le_refl _) _
    have hbw4 := hbw3.trans (hb4.mono hbw3.size)
    have hcall2 := Hd2.out (.slice a bs.length cap) w4 (Hv.out.below (Nat.le_refl _) hbw4) Hnv.out (fun k hk => by have := Hol.out k hk; have := hbw4.size; omega)
    have Hcall2 := Lib.hid hcall2
    have Hm3 := Lib.hid hm3
    clear hcall2 hm3 hoL3 hoT3 Hd2 Hcall hmd hnn hokk
    subst hw4
    go_wp2_with fail
    refine (Hcall2.out).mono ?_; rintro e w5 ⟨vr5, vb5, rfl, hoL5, hoT5, hb5⟩
    rw [Hmd.out] at hoL5 hoT5 ⊢
    rw [Hnn.out, Hokk.out]
    have hbw5 := hbw4.trans (hb5.mono hbw4.size)
    obtain ⟨a5, c5, hv5⟩ := own_form0 hoL5
    obtain ⟨a6, c6, hv6⟩ := own_form0 hoT5
    subst hv5
    subst hv6
    have hm5 := MailAt.new (m := m) (rdL_ofOwn s1_len (by decide) hoL5) (rdB_ofOwn hoT5)
    have hm3 := (Hm3.out.below hb5)
    obtain ⟨w6, hw6⟩ : ∃ w6, w5.alloc (.cells #[.int .i64 m.id, .int .i64 m.parent, .int .i64 m.born, .string (strL m.frm), (.slice a5 m.rcpts.length c5), (.slice a6 m.body.length c6)] 25) = w6 := ⟨_, rfl⟩
    rw [hw6] at hm5
    have hb6 : Below w5.heap.size w5 w6 := by rw [← hw6]; exact (Below.refl _ _).alloc (Nat.le_refl _) _
    have hbw6 := hbw5.trans (hb6.mono hbw5.size)
    have hm36 := hm3.below hb6
    have hans := Hans.out w6 (Hmax.out.below hbw6)
    have hsame := fun W h1 h2 h3 h4 => refSame_calls m m (.slice a3 m.rcpts.length c3) (.slice a4 m.body.length c4) (.slice a5 m.rcpts.length c5) (.slice a6 m.body.length c6) W h1 h2 h3 h4
    have e1 : decide (m = m) = true := by simp
    rw [e1] at hsame
    have Hans6 := Lib.hid hans
    have Hm5 := Lib.hid hm5
    have Hm36 := Lib.hid hm36
    have Hsame := Lib.hid hsame
    clear hans hsame hm5 hm36 hm3 hoL5 hoT5 Hm3 e1 Hcall2
    subst hw6
    go_wp2_with fail
    refine (Hans6.out).mono ?_; rintro e w7 ⟨rfl, hb7⟩
    have hmA := Hm36.out.below hb7
    have hmB := Hm5.out.below hb7
    have hbw7 := hbw6.trans (hb7.mono hbw6.size)
    obtain ⟨x0, x1, x2, x3, x4, x5⟩ := hmA.cells
    obtain ⟨y0, y1, y2, y3, y4, y5⟩ := hmB.cells
    have hcall3 := Hsame.out w7 hmA.rs hmA.rb hmB.rs hmB.rb
    have Hcall3 := Lib.hid hcall3
    clear hcall3 hmA hmB Hans6 Hm5 Hm36
    cases okk
    all_goals
      go_wp2_with fail
      refine (Hcall3.out).mono ?_; rintro e w8 ⟨rfl, hb8⟩
      go_wp2
      go_ret
      exact ⟨rfl, hbw7.trans (hb8.mono hbw7.size)⟩
end Go.Proofs.YtjddicoigbidlaaGreatDoor

set_option linter.unusedSimpArgs false
set_option linter.unusedVariables false
namespace Go.Proofs.YtjddicoigbidlaaGreatDoor
open Go.RowKit
def eye1 (c : List UInt8) := eyeNum (c.take 24) false
def eye2 (c : List UInt8) := eyeNum (eye1 c).2.1 (eye1 c).2.2
def eye3 (c : List UInt8) := eyeNum (eye2 c).2.1 (eye2 c).2.2
def eyeMark (c : List UInt8) : MarkD := ⟨(eye1 c).1, (eye2 c).1, (eye3 c).1⟩
theorem eyeNum_bad (bs : List UInt8) : eyeNum bs true = (0, (bs, true)) := by simp [eyeNum]
theorem eyeNum_big (bs : List UInt8) (h : 4611686018427387904 < beNat (bs.take 8)) : eyeNum bs false = (0, (bs, true)) := by
  unfold eyeNum; split
  · rfl
  · first | rfl | rw [if_pos h]
theorem eyeNum_ok (bs : List UInt8) (hl : 8 ≤ bs.length) (h : ¬ 4611686018427387904 < beNat (bs.take 8)) : eyeNum bs false = (beNat (bs.take 8), (bs.drop 8, false)) := by
  unfold eyeNum; rw [if_neg (by simp; omega), if_neg h]
theorem eye_parse (c : List UInt8) (hc : c.length = 28) :
    parseMark c = if (eye3 c).2.2 = true then none else if (eyeMark c).good = true ∧ (eyeMark c).bytes = c then some (eyeMark c) else none := by
  have hl : (c.take 24).length = 24 := by simp; omega
  have p0 : (c.take 24).take 8 = c.take 8 := by rw [List.take_take]; congr 1
  have p1 : ((c.take 24).drop 8).take 8 = (c.drop 8).take 8 := by rw [List.drop_take, List.take_take]; congr 1
  have p2 : (((c.take 24).drop 8).drop 8).take 8 = (c.drop 16).take 8 := by rw [List.drop_drop, List.drop_take, List.take_take]; congr 1
  have big : ∀ n : Nat, 4611686018427387904 < n → ∀ k : MarkD, (k.kind = n ∨ k.rcpt = n ∨ k.n = n) → k.good = false := by
    intro n hn k hk
    exact decide_eq_false (by omega)
  by_cases h0 : 4611686018427387904 < beNat (c.take 8)
  · have g : (markOf c).good = false := big _ h0 _ (.inl rfl)
    have e1 : eye1 c = (0, (c.take 24, true)) := eyeNum_big _ (by rw [p0]; exact h0)
    have e2 : eye2 c = (0, (c.take 24, true)) := by rw [eye2, e1]; exact eyeNum_bad _
    have e3 : eye3 c = (0, (c.take 24, true)) := by rw [eye3, e2]; exact eyeNum_bad _
    simp [parseMark, g, e3]
  · have e1 : eye1 c = (beNat (c.take 8), ((c.take 24).drop 8, false)) := by rw [eye1, eyeNum_ok _ (by omega) (by rw [p0]; exact h0), p0]
    by_cases h1 : 4611686018427387904 < beNat ((c.drop 8).take 8)
    · have g : (markOf c).good = false := big _ h1 _ (.inr (.inl rfl))
      have e2 : eye2 c = (0, ((c.take 24).drop 8, true)) := by rw [eye2, e1]; exact eyeNum_big _ (by rw [p1]; exact h1)
      have e3 : eye3 c = (0, ((c.take 24).drop 8, true)) := by rw [eye3, e2]; exact eyeNum_bad _
      simp [parseMark, g, e3]
    · have e2 : eye2 c = (beNat ((c.drop 8).take 8), (((c.take 24).drop 8).drop 8, false)) := by rw [eye2, e1]; simp only; rw [eyeNum_ok _ (by simp [hl]) (by rw [p1]; exact h1), p1]
      by_cases h2 : 4611686018427387904 < beNat ((c.drop 16).take 8)
      · have g : (markOf c).good = false := big _ h2 _ (.inr (.inr rfl))
        have e3 : eye3 c = (0, (((c.take 24).drop 8).drop 8, true)) := by rw [eye3, e2]; exact eyeNum_big _ (by rw [p2]; exact h2)
        simp [parseMark, g, e3]
      · have e3 : eye3 c = (beNat ((c.drop 16).take 8), ((((c.take 24).drop 8).drop 8).drop 8, false)) := by rw [eye3, e2]; simp only; rw [eyeNum_ok _ (by simp [hl]) (by rw [p2]; exact h2), p2]
        have hm : eyeMark c = markOf c := by simp [eyeMark, markOf, e1, e2, e3]
        rw [e3, hm]
        simp [parseMark]
end Go.Proofs.YtjddicoigbidlaaGreatDoor

set_option linter.unusedSimpArgs false
set_option linter.unusedVariables false
set_option maxRecDepth 100000
namespace Go.Proofs.YtjddicoigbidlaaGreatDoor
open Go.RowKit
/-- Bytes as a string. -/
def strB (bs : List UInt8) : ByteArray := ⟨bs.toArray⟩
theorem run_str {w : World} {v : Value} {bs : List UInt8} (h : RdB w v bs) (hne : bs ≠ []) : (convert 23 9 v).run Tryz.prog w = .ok (.string (strB bs)) w := by
  rcases h with ⟨_, _, _, _, h⟩ | ⟨b, off, cap, rfl, h0, h1, h2, h3, h4⟩
  · exact absurd h hne
  · have := run_convert_bytes_arg (P := Tryz.prog) w 23 5 Tryz.underlying23 Tryz.underlying5 b off bs.length cap (bs.map fun x => (x.toNat : Int)) (by simp) (fun i hi => by
      rw [h4 i bs[i] (List.getElem?_eq_getElem hi)]
      simp [List.getD, List.getElem?_eq_getElem hi]) 9 Tryz.underlying9
    rw [this]
    congr 2
    simp [strB, strOfNums, Function.comp_def]
def MEncR (w0 : World) (bs : List UInt8) (v : Value) (w : World) : Prop := Below w0.heap.size w0 w ∧ RdB w v bs
theorem MEncR.go {w0 : World} {bs : List UInt8} {v : Value} {w w' : World} (hb : Below w.heap.size w w') (h : MEncR w0 bs v w) : MEncR w0 bs v w' :=
  ⟨h.1.trans (hb.mono h.1.size), h.2.below (Nat.le_refl _) hb⟩
abbrev MEncS (w0 : World) (bs : List UInt8) (v : Value) (k : MarkD) (w' : World) : Prop :=
  w'.cell? ⟨w0.heap.size, 0, none⟩ = some (.int .i64 k.kind) ∧ w'.cell? ⟨w0.heap.size, 1, none⟩ = some (.int .i64 k.rcpt) ∧ w'.cell? ⟨w0.heap.size, 2, none⟩ = some (.int .i64 k.n) ∧ MEncR w0 bs v w'
theorem MEncS.go {w0 : World} {bs : List UInt8} {v : Value} {k : MarkD} {w w' : World} (hb : Below w.heap.size w w') (h : MEncS w0 bs v k w) : MEncS w0 bs v k w' := by
  obtain ⟨h1, h2, h3, h4⟩ := h
  have l1 := World.block_lt_of_cell? w ⟨w0.heap.size, 0, none⟩ h1
  obtain ⟨c, f⟩ := below_cell hb
  exact ⟨(c _ _ l1).trans h1, (c _ _ l1).trans h2, (c _ _ l1).trans h3, h4.go hb⟩
end Go.Proofs.YtjddicoigbidlaaGreatDoor

set_option linter.unusedSimpArgs false
set_option linter.unusedVariables false
namespace Go.Proofs.YtjddicoigbidlaaGreatDoor
open Go.RowKit
/-- A mark at place o of block b, which is not block g. -/
abbrev FatesL (g b o : Nat) (k : MarkD) (w : World) : Prop :=
  w.cell? ⟨b, o, none⟩ = some (.int .i64 k.kind) ∧ w.cell? ⟨b, o + 1, none⟩ = some (.int .i64 k.rcpt) ∧ w.cell? ⟨b, o + 2, none⟩ = some (.int .i64 k.n) ∧ g ≠ b
theorem FatesL.go {g b o : Nat} {k : MarkD} {w w' : World} (hb : Below w.heap.size w w') (h : FatesL g b o k w) : FatesL g b o k w' := by
  obtain ⟨h1, h2, h3, h4⟩ := h
  have lm := World.block_lt_of_cell? w ⟨b, o, none⟩ h1
  obtain ⟨c, f⟩ := below_cell hb
  exact ⟨(c _ _ lm).trans h1, (c _ _ lm).trans h2, (c _ _ lm).trans h3, h4⟩
theorem FatesL.store {g kb o : Nat} {k : MarkD} {w : World} (a b c d e : Nat) (x0 x1 x2 x3 x4 : Value) (h : FatesL g kb o k w) :
    FatesL g kb o k (((((w.setCell ⟨g, a, none⟩ x0).setCell ⟨g, b, none⟩ x1).setCell ⟨g, c, none⟩ x2).setCell ⟨g, d, none⟩ x3).setCell ⟨g, e, none⟩ x4) := by
  obtain ⟨h1, h2, h3, h4⟩ := h
  have hK : Keeps (fun k => k = g) w (((((w.setCell ⟨g, a, none⟩ x0).setCell ⟨g, b, none⟩ x1).setCell ⟨g, c, none⟩ x2).setCell ⟨g, d, none⟩ x3).setCell ⟨g, e, none⟩ x4) :=
    ((((Keeps.setCell (F := fun k => k = g) w ⟨g, a, none⟩ x0 rfl).trans (Keeps.setCell _ ⟨g, b, none⟩ x1 rfl)).trans (Keeps.setCell _ ⟨g, c, none⟩ x2 rfl)).trans (Keeps.setCell _ ⟨g, d, none⟩ x3 rfl)).trans (Keeps.setCell _ ⟨g, e, none⟩ x4 rfl)
  have hne : ¬ (kb = g) := fun e => h4 e.symm
  exact ⟨hK.cell hne h1, hK.cell hne h2, hK.cell hne h3, h4⟩
set_option maxRecDepth 100000 in
set_option maxHeartbeats 8000000 in
theorem refFates_calls (m : Nat) (v : Value) (ks : List MarkD) (w : World) (hm8 : m ≤ 8) (hv : RdM w v ks) (hgood : ∀ k ∈ ks, k.good = true) :
    Calls Tryz.prog 31 #[.int .i64 m, v] w (FatesDone w (fatesD m ks)) := by
  obtain ⟨i0, hi, hz0, hz1, hz2⟩ := info_parts infoFate
  obtain ⟨a, cap, rfl, hlc, hcap⟩ := hv.form
  obtain ⟨w1, hrun, hown1, hg1⟩ := run_make_full (P := Tryz.prog) w w.heap.size 54 57 i0 _ 5 Tryz.underlying54 hi hz0 hz1 .i64 .i64 m (by rw [hz2]; omega) (by unfold maxLen; omega) (Nat.le_refl _)
  rw [zeros_flat m hm8] at hown1
  have hb1 : Below w.heap.size w w1 := (Below.refl _ _).grown hg1 (Nat.le_refl _) (fun _ h => by cases h)
  go_enter Tryz.func31, Tryz.ntmps31
  go_wp2
  go_loopw [6] (fun i wr => ∃ j : Nat, j ≤ ks.length ∧ i = .int .i64 j ∧ wr.ownsRow w.heap.size 57 5 (.slice (some ⟨w.heap.size, 0, none⟩) m m) m ((fatesD m (ks.take j)).flatMap FateD.cells) ∧ Below w.heap.size w wr) (fun i _ => ks.length - (intOf i).toNat)
  case atStart =>
    exact ⟨0, Nat.zero_le _, rfl, by simpa [fatesD] using hown1, hb1⟩
  case round =>
    obtain ⟨j, hj, rfl, hown, hbw⟩ := hrel
    by_cases hlt : j < ks.length
    · obtain ⟨k, hk⟩ : ∃ k, ks[j]? = some k := ⟨_, List.getElem?_eq_getElem hlt⟩
      obtain ⟨b, off, cap', hsl, hbl, y0, y1, y2⟩ := RdL.at3 hv hk
      cases hsl
      have x0 := (hbw.cell (p := ⟨b, off + j * 3, none⟩) hbl).trans y0
      have x1 := (hbw.cell (p := ⟨b, off + j * 3 + 1, none⟩) hbl).trans y1
      have x2 := (hbw.cell (p := ⟨b, off + j * 3 + 2, none⟩) hbl).trans y2
      have hg : k.good = true := hgood k (List.mem_of_getElem? hk)
      obtain ⟨kind, rcpt, nn⟩ := k
      simp only at x0 x1 x2
      have hfs : fatesD m (ks.take (j + 1)) = putD (fatesD m (ks.take j)) ⟨kind, rcpt, nn⟩ := by rw [take_snoc hk, fatesD_snoc]
      have hfl := fatesD_length m (ks.take j)
      have hrest : FRest w m (fatesD m (ks.take j)) wr := ⟨hbw, hown⟩
      generalize fatesD m (ks.take j) = fs at hfs hfl hrest hown
      have hg' : 1 ≤ kind ∧ kind ≤ 5 ∧ 0 ≤ rcpt ∧ rcpt < 8 ∧ 0 ≤ nn ∧ nn ≤ 1099511627776 := of_decide_eq_true hg
      obtain ⟨rn, rfl⟩ := Int.eq_ofNat_of_zero_le hg'.2.2.1
      rw [putD, if_pos hg] at hfs
      have Hfs := Lib.hid hfs
      have hj0 : (0 : Int) ≤ (j : Int) := by omega
      have hj1 : (j : Int) < (ks.length : Int) := by omega
      clear hfs hg hg' y0 y1 y2 hown
      by_cases hrm : rn < m
      · obtain ⟨f, hf⟩ : ∃ f, fs[rn]? = some f := ⟨_, List.getElem?_eq_getElem (by omega)⟩
        have hrd : FRest w m fs wr.drew := hrest.go (Below.refl _ _).drew
        obtain ⟨⟨o0, o1, o2, o3, o4⟩, z0, z1, z2, z3, z4⟩ := hrd.cells hf
        have hS : FatesL w.heap.size b (off + j * 3) ⟨kind, rn, nn⟩ wr.drew := FatesL.go (Below.refl _ _).drew ⟨x0, x1, x2, by omega⟩
        rw [modify_in (r := ((rn : Int)).toNat) (by simpa using hf)] at Hfs
        have hi0 : (0 : Int) ≤ (rn : Int) := by omega
        have hi1 : (rn : Int) < (m : Int) := by omega
        have hrf : rn < fs.length := by omega
        obtain ⟨s0, s1, s2, s3, s4, hst⟩ : ∃ s0 s1 s2 s3 s4, stepD f ⟨kind, rn, nn⟩ = ⟨s0, s1, s2, s3, s4⟩ := ⟨_, _, _, _, _, rfl⟩
        have hcall : ∀ W, Calls Tryz.prog 30 #[f.val, .agg #[.int .i64 kind, .int .i64 rn, .int .i64 nn]] W fun e w' => e = .returned (.agg #[.int .i64 s0, .int .i64 s1, .int .i64 s2, .int .i64 s3, .bool s4]) ∧ Below W.heap.size W w' := by
          intro W; have := refStep_calls f ⟨kind, rn, nn⟩ W; rw [hst] at this; exact this
        rw [hst] at Hfs
        have Hcall := Lib.hid hcall
        clear hcall hst
        go_wp2
        refine wp_region_noPanic ?_
        refine wp_region_held_drew (S := (fun w' => w'.cell? ⟨b, off + j * 3, none⟩ = some (.int .i64 kind) ∧ w'.cell? ⟨b, off + j * 3 + 1, none⟩ = some (.int .i64 rn) ∧ w'.cell? ⟨b, off + j * 3 + 2, none⟩ = some (.int .i64 nn) ∧ w.heap.size ≠ b)) (by kernel_rfl) (by first | with_reducible exact hS | with_reducible assumption | with_reducible exact FatesL.store (k := ⟨kind, rn, nn⟩) _ _ _ _ _ _ _ _ _ _ (by assumption) | with_reducible exact FatesL.go (k := ⟨kind, rn, nn⟩) (by assumption) (by assumption)) (fun hHeld => ?_)
        refine wpAnyH_take (i := 0) (oi := _) (v := ?_) rfl (by kernel_rfl) (by kernel_rfl) (by kernel_rfl) (fun _ _ _ h => h) (Or.inl ⟨by rfl, ?_⟩) (by assumption) ?_
        rotate_left
        · intro w hSw; (try dsimp only at hSw); go_simp; (try with_reducible rfl)
        try simp only [Act.put, List.setIfInBounds_toArray, List.set_cons_zero, List.set_cons_succ]
        refine wpAnyH_take (i := 1) (oi := _) (v := ?_) rfl (by kernel_rfl) (by kernel_rfl) (by kernel_rfl) (fun _ _ _ h => h) (Or.inl ⟨by rfl, ?_⟩) (by assumption) ?_
        rotate_left
        · intro w hSw; (try dsimp only at hSw); go_simp; (try with_reducible rfl)
        try simp only [Act.put, List.setIfInBounds_toArray, List.set_cons_zero, List.set_cons_succ]
        refine wpAnyH_take (i := 2) (oi := _) (v := ?_) rfl (by kernel_rfl) (by kernel_rfl) (by kernel_rfl) (fun _ _ _ h => h) (Or.inl ⟨by rfl, ?_⟩) (by assumption) ?_
        rotate_left
        · intro w hSw; (try dsimp only at hSw); go_simp; (try with_reducible rfl)
        try simp only [Act.put, List.setIfInBounds_toArray, List.set_cons_zero, List.set_cons_succ]
        refine wpAnyH_take (i := 3) (oi := _) (v := ?_) rfl (by kernel_rfl) (by kernel_rfl) (by kernel_rfl) (fun _ _ _ h => h) (Or.inl ⟨by rfl, ?_⟩) (by assumption) ?_
        rotate_left
        · intro w hSw; (try dsimp only at hSw); go_simp; (try with_reducible rfl)
        try simp only [Act.put, List.setIfInBounds_toArray, List.set_cons_zero, List.set_cons_succ]
        refine wpAnyH_take (i := 4) (oi := _) (v := ?_) rfl (by kernel_rfl) (by kernel_rfl) (by kernel_rfl) (fun _ _ _ h => h) (Or.inl ⟨by rfl, ?_⟩) (by assumption) ?_
        rotate_left
        · intro w hSw; (try dsimp only at hSw); go_simp; (try with_reducible rfl)
        try simp only [Act.put, List.setIfInBounds_toArray, List.set_cons_zero, List.set_cons_succ]
        refine wpAnyH_take (i := 5) (oi := _) (v := ?_) rfl (by kernel_rfl) (by kernel_rfl) (by kernel_rfl) (fun _ _ _ h => h) (Or.inl ⟨by rfl, ?_⟩) (by assumption) ?_
        rotate_left
        · intro w hSw; (try dsimp only at hSw); go_simp; (try with_reducible rfl)
        try simp only [Act.put, List.setIfInBounds_toArray, List.set_cons_zero, List.set_cons_succ]
        refine wpAnyH_take (i := 6) (oi := _) (v := ?_) rfl (by kernel_rfl) (by kernel_rfl) (by kernel_rfl) (fun _ _ _ h => h) (Or.inl ⟨by rfl, ?_⟩) (by assumption) ?_
        rotate_left
        · intro w hSw; (try dsimp only at hSw); go_simp; (try with_reducible rfl)
        try simp only [Act.put, List.setIfInBounds_toArray, List.set_cons_zero, List.set_cons_succ]
        refine wpAnyH_take (i := 7) (oi := _) (v := ?_) rfl (by kernel_rfl) (by kernel_rfl) (by kernel_rfl) (fun _ _ _ h => h) (Or.inl ⟨by rfl, ?_⟩) (by assumption) ?_
        rotate_left
        · intro w hSw; (try dsimp only at hSw); go_simp; (try with_reducible rfl)
        try simp only [Act.put, List.setIfInBounds_toArray, List.set_cons_zero, List.set_cons_succ]
        refine wpAnyH_take (i := 8) (oi := _) (v := ?_) rfl (by kernel_rfl) (by kernel_rfl) (by kernel_rfl) (fun _ _ _ h => h) (Or.inl ⟨by rfl, ?_⟩) (by assumption) ?_
        rotate_left
        · intro w hSw; (try dsimp only at hSw); go_simp; (try with_reducible rfl)
        try simp only [Act.put, List.setIfInBounds_toArray, List.set_cons_zero, List.set_cons_succ]
        refine wpAnyH_take (i := 9) (oi := _) (v := ?_) rfl (by kernel_rfl) (by kernel_rfl) (by kernel_rfl) (fun _ _ _ h => h) (Or.inl ⟨by rfl, ?_⟩) (by assumption) ?_
        rotate_left
        · intro w hSw; (try dsimp only at hSw); go_simp; (try with_reducible rfl)
        try simp only [Act.put, List.setIfInBounds_toArray, List.set_cons_zero, List.set_cons_succ]
        refine wpAnyH_take (i := 10) (oi := _) (v := ?_) rfl (by kernel_rfl) (by kernel_rfl) (by kernel_rfl) (fun _ _ _ h => h) (Or.inl ⟨by rfl, ?_⟩) (by assumption) ?_
        rotate_left
        · intro w hSw; (try dsimp only at hSw); go_simp; (try with_reducible rfl)
        try simp only [Act.put, List.setIfInBounds_toArray, List.set_cons_zero, List.set_cons_succ]
        refine wpAnyH_take (i := 11) (oi := _) (v := ?_) rfl (by kernel_rfl) (by kernel_rfl) (by kernel_rfl) (fun _ _ _ h => h) (Or.inl ⟨by rfl, ?_⟩) (by assumption) ?_
        rotate_left
        · intro w hSw; (try dsimp only at hSw); go_simp; (try with_reducible rfl)
        try simp only [Act.put, List.setIfInBounds_toArray, List.set_cons_zero, List.set_cons_succ]
        refine wpAnyH_take (i := 12) (oi := _) (v := ?_) rfl (by kernel_rfl) (by kernel_rfl) (by kernel_rfl) (fun _ _ _ h => h) (Or.inl ⟨by rfl, ?_⟩) (by assumption) ?_
        rotate_left
        · intro w hSw; (try dsimp only at hSw); go_simp; (try with_reducible rfl)
        try simp only [Act.put, List.setIfInBounds_toArray, List.set_cons_zero, List.set_cons_succ]
        refine wpAnyH_take (i := 14) (oi := _) (v := ?_) rfl (by kernel_rfl) (by kernel_rfl) (by kernel_rfl) (fun _ _ _ h => h) (Or.inl ⟨by rfl, ?_⟩) (by assumption) ?_
        rotate_left
        · intro w hSw; (try dsimp only at hSw); go_simp; (try with_reducible rfl)
        try simp only [Act.put, List.setIfInBounds_toArray, List.set_cons_zero, List.set_cons_succ]
        refine wpAnyH_take (i := 15) (oi := _) (v := ?_) rfl (by kernel_rfl) (by kernel_rfl) (by kernel_rfl) (fun _ _ _ h => h) (Or.inl ⟨by rfl, ?_⟩) (by assumption) ?_
        rotate_left
        · intro w hSw; (try dsimp only at hSw); go_simp; (try with_reducible rfl)
        try simp only [Act.put, List.setIfInBounds_toArray, List.set_cons_zero, List.set_cons_succ]
        refine wpAnyH_take (i := 16) (oi := _) (v := ?_) rfl (by kernel_rfl) (by kernel_rfl) (by kernel_rfl) (fun _ _ _ h => h) (Or.inl ⟨by rfl, ?_⟩) (by assumption) ?_
        rotate_left
        · intro w hSw; (try dsimp only at hSw); go_simp; (try with_reducible rfl)
        try simp only [Act.put, List.setIfInBounds_toArray, List.set_cons_zero, List.set_cons_succ]
        refine wpAnyH_take (i := 17) (oi := _) (v := ?_) rfl (by kernel_rfl) (by kernel_rfl) (by kernel_rfl) (fun _ _ _ h => h) (Or.inl ⟨by rfl, ?_⟩) (by assumption) ?_
        rotate_left
        · intro w hSw; (try dsimp only at hSw); go_simp; (try with_reducible rfl)
        try simp only [Act.put, List.setIfInBounds_toArray, List.set_cons_zero, List.set_cons_succ]
        refine wpAnyH_ready (rs := [13]) (by kernel_rfl) (by simp) ?_
        refine AllReadyH.cons (o := _) rfl (fun K hK => ?_) AllReadyH.nil
        go_simp
        refine hK.out _ _ (by (try dsimp only); first | with_reducible exact hS | with_reducible assumption | with_reducible exact FatesL.store (k := ⟨kind, rn, nn⟩) _ _ _ _ _ _ _ _ _ _ (by assumption) | with_reducible exact FatesL.go (k := ⟨kind, rn, nn⟩) (by assumption) (by assumption)) (fun hHeld => ?_)
        clear hK K
        try simp only [Act.put, List.setIfInBounds_toArray, List.set_cons_zero, List.set_cons_succ]
        refine wpAnyH_ready (rs := [18]) (by kernel_rfl) (by simp) ?_
        refine AllReadyH.cons (o := _) rfl (fun K hK => ?_) AllReadyH.nil
        go_simp
        (go_at_call 30; refine (Hcall.out _).mono ?_; rintro e w5 ⟨rfl, hb5⟩; have hfin5 := hrd.go hb5; obtain ⟨⟨p0, p1, p2, p3, p4⟩, q0, q1, q2, q3, q4⟩ := hfin5.cells hf); go_wp2_with fail
        refine hK.out _ _ (by (try dsimp only); first | with_reducible exact hS | with_reducible assumption | with_reducible exact FatesL.store (k := ⟨kind, rn, nn⟩) _ _ _ _ _ _ _ _ _ _ (by assumption) | with_reducible exact FatesL.go (k := ⟨kind, rn, nn⟩) (by assumption) (by assumption)) (fun hHeld => ?_)
        clear hK K
        try simp only [Act.put, List.setIfInBounds_toArray, List.set_cons_zero, List.set_cons_succ]
        refine wpAnyH_take (i := 19) (oi := _) (v := ?_) rfl (by kernel_rfl) (by kernel_rfl) (by kernel_rfl) (fun _ _ _ h => h) (Or.inl ⟨by rfl, ?_⟩) (by assumption) ?_
        rotate_left
        · intro w hSw; (try dsimp only at hSw); go_simp; (try with_reducible rfl)
        try simp only [Act.put, List.setIfInBounds_toArray, List.set_cons_zero, List.set_cons_succ]
        refine wpAnyH_ready (rs := [20]) (by kernel_rfl) (by simp) ?_
        refine AllReadyH.cons (o := _) rfl (fun K hK => ?_) AllReadyH.nil
        go_simp
        refine hK.out _ _ (by (try dsimp only); first | with_reducible exact hS | with_reducible assumption | with_reducible exact FatesL.store (k := ⟨kind, rn, nn⟩) _ _ _ _ _ _ _ _ _ _ (by assumption) | with_reducible exact FatesL.go (k := ⟨kind, rn, nn⟩) (by assumption) (by assumption)) (fun hHeld => ?_)
        clear hK K
        try simp only [Act.put, List.setIfInBounds_toArray, List.set_cons_zero, List.set_cons_succ]
        refine wpAnyH_done (by kernel_rfl) ?_ _
        refine NoPanic.normal ?_
        have hfin := hfin5.store hrf ⟨s0, s1, s2, s3, s4⟩
        go_wp2
        go_roundw
        case rel => exact ⟨j + 1, by omega, by simp, by rw [Hfs.out]; exact hfin.own, hfin.bel⟩
        case measure => simp [intOf] <;> omega
      · rw [modify_out (r := ((rn : Int)).toNat) (by simp; omega)] at Hfs
        go_wp2
        go_roundw
        case rel => exact ⟨j + 1, by omega, by simp, by rw [Hfs.out]; exact hrest.own, hrest.bel⟩
        case measure => simp [intOf] <;> omega
    · have hje : j = ks.length := by omega
      subst hje
      rw [List.take_of_length_le (Nat.le_refl _)] at hown
      have hfl := fatesD_length m ks
      go_wp2
      go_ret
      refine ⟨w.heap.size, m, ?_, by rw [hfl]; exact hown, hbw⟩
      rw [hfl]; rfl
end Go.Proofs.YtjddicoigbidlaaGreatDoor

set_option linter.unusedSimpArgs false
set_option linter.unusedVariables false
namespace Go.Proofs.YtjddicoigbidlaaGreatDoor
open Go.RowKit
set_option maxRecDepth 100000 in
set_option maxHeartbeats 1000000 in
theorem sameMarks_calls (v1 v2 : Value) (ks : List MarkD) (w : World) (h1 : RdM w v1 ks) (h2 : RdM w v2 ks) :
    Calls Tryz.prog 26 #[v1, v2] w fun e w' => e = .returned (.bool true) ∧ Below w.heap.size w w' := by
  obtain ⟨a1, cap1, rfl, hl1, hc1⟩ := h1.form
  obtain ⟨a2, cap2, rfl, hl2, hc2⟩ := h2.form
  go_enter Tryz.func26, Tryz.ntmps26
  go_wp2
  go_loopw [5] (fun i wr => ∃ j : Nat, j ≤ ks.length ∧ i = .int .i64 j ∧ Below w.heap.size w wr) (fun i _ => ks.length - (intOf i).toNat)
  case atStart => exact ⟨0, Nat.zero_le _, rfl, Below.refl _ _⟩
  case round =>
    obtain ⟨j, hj, rfl, hbw⟩ := hrel
    by_cases hlt : j < ks.length
    · obtain ⟨k, hk⟩ : ∃ k, ks[j]? = some k := ⟨_, List.getElem?_eq_getElem hlt⟩
      obtain ⟨b1, o1, c1, e1, _, p0, p1, p2⟩ := RdL.at3 (h1.below (Nat.le_refl _) hbw) hk
      obtain ⟨b2, o2, c2, e2, _, q0, q1, q2⟩ := RdL.at3 (h2.below (Nat.le_refl _) hbw) hk
      cases e1; cases e2
      obtain ⟨kind, rcpt, n⟩ := k
      simp only at p0 p1 p2 q0 q1 q2
      have hi0 : (0 : Int) ≤ (j : Int) := by omega
      have hi1 : (j : Int) < (ks.length : Int) := by omega
      go_wp2
      go_quiet (fail)
      go_wp2
      go_roundw
      case rel => exact ⟨j + 1, by omega, by simp, below_drewN hbw _⟩
      case measure => simp [intOf] <;> omega
    · have hje : j = ks.length := by omega
      subst hje
      go_wp2
      go_ret
      exact ⟨rfl, hbw⟩
set_option maxRecDepth 100000 in
set_option maxHeartbeats 1000000 in
theorem sameFates_calls (v1 v2 : Value) (fs : List FateD) (w : World) (h1 : RdF w v1 fs) (h2 : RdF w v2 fs) :
    Calls Tryz.prog 32 #[v1, v2] w fun e w' => e = .returned (.bool true) ∧ Below w.heap.size w w' := by
  obtain ⟨a1, cap1, rfl, hl1, hc1⟩ := h1.form
  obtain ⟨a2, cap2, rfl, hl2, hc2⟩ := h2.form
  go_enter Tryz.func32, Tryz.ntmps32
  go_wp2
  go_loopw [5] (fun i wr => ∃ j : Nat, j ≤ fs.length ∧ i = .int .i64 j ∧ Below w.heap.size w wr) (fun i _ => fs.length - (intOf i).toNat)
  case atStart => exact ⟨0, Nat.zero_le _, rfl, Below.refl _ _⟩
  case round =>
    obtain ⟨j, hj, rfl, hbw⟩ := hrel
    by_cases hlt : j < fs.length
    · obtain ⟨k, hk⟩ : ∃ k, fs[j]? = some k := ⟨_, List.getElem?_eq_getElem hlt⟩
      obtain ⟨b1, o1, c1, e1, _, p0, p1, p2, p3, p4⟩ := RdL.at5 (h1.below (Nat.le_refl _) hbw) hk
      obtain ⟨b2, o2, c2, e2, _, q0, q1, q2, q3, q4⟩ := RdL.at5 (h2.below (Nat.le_refl _) hbw) hk
      cases e1; cases e2
      obtain ⟨st, tr, nx, cr, op⟩ := k
      simp only at p0 p1 p2 p3 p4 q0 q1 q2 q3 q4
      have hi0 : (0 : Int) ≤ (j : Int) := by omega
      have hi1 : (j : Int) < (fs.length : Int) := by omega
      go_wp2
      go_quiet (fail)
      go_wp2
      go_roundw
      case rel => exact ⟨j + 1, by omega, by simp, below_drewN hbw _⟩
      case measure => simp [intOf] <;> omega
    · have hje : j = fs.length := by omega
      subst hje
      go_wp2
      go_ret
      exact ⟨rfl, hbw⟩
end Go.Proofs.YtjddicoigbidlaaGreatDoor

set_option linter.unusedSimpArgs false
set_option linter.unusedVariables false
namespace Go.Proofs.YtjddicoigbidlaaGreatDoor
open Go.RowKit
/-- The marks of one recipient that count. -/
def mineOf (r : Nat) (ks : List MarkD) : List MarkD := ks.filter fun k => k.good && decide (k.rcpt.toNat = r)
theorem putD_get (fs : List FateD) (k : MarkD) (r : Nat) : (putD fs k)[r]? = fs[r]?.map fun f => if k.good && decide (k.rcpt.toNat = r) then stepD f k else f := by
  unfold putD
  by_cases hg : k.good = true
  · rw [if_pos hg, List.getElem?_modify]
    by_cases hr : k.rcpt.toNat = r
    · simp [hg, hr]
    · simp [hg, hr]
  · simp [hg]
theorem foldD_get (ks : List MarkD) (r : Nat) : ∀ fs : List FateD, (ks.foldl putD fs)[r]? = fs[r]?.map fun f => (mineOf r ks).foldl stepD f := by
  induction ks with
  | nil => intro fs; simp [mineOf]
  | cons k ks ih =>
    intro fs
    rw [List.foldl_cons, ih, putD_get, Option.map_map]
    congr 1
    funext f
    simp only [Function.comp_def, mineOf, List.filter_cons]
    split <;> simp_all
theorem fatesD_get (m : Nat) (ks : List MarkD) (r : Nat) (hr : r < m) : (fatesD m ks)[r]? = some ((mineOf r ks).foldl stepD .zero) := by
  rw [fatesD, foldD_get, List.getElem?_replicate, if_pos hr]
  rfl
/-- Only a recipient's own marks. -/
theorem mineOf_own (r : Nat) (ks : List MarkD) : mineOf r (ks.filter fun k => decide (k.rcpt = (r : Int))) = mineOf r ks := by
  unfold mineOf
  rw [List.filter_filter]
  congr 1
  funext k
  by_cases hg : k.good = true
  · have hg' : 1 ≤ k.kind ∧ k.kind ≤ 5 ∧ 0 ≤ k.rcpt ∧ k.rcpt < 8 ∧ 0 ≤ k.n ∧ k.n ≤ 1099511627776 := of_decide_eq_true hg
    have : decide (k.rcpt.toNat = r) = decide (k.rcpt = (r : Int)) := by
      apply decide_eq_decide.2
      omega
    rw [this]
    simp
  · simp [hg]
/-- The marks that are none do nothing. -/
theorem fatesD_good (m : Nat) (ks : List MarkD) : fatesD m (ks.filter MarkD.good) = fatesD m ks := by
  unfold fatesD
  generalize List.replicate m FateD.zero = fs
  induction ks generalizing fs with
  | nil => rfl
  | cons k ks ih =>
    rw [List.filter_cons]
    split
    · rw [List.foldl_cons, List.foldl_cons, ih]
    · next h => rw [List.foldl_cons, ih, putD, if_neg h]
theorem stepD_ended (f : FateD) (k : MarkD) (h : f.state ≠ 0) : stepD f k = f := by rw [stepD, if_pos h]
theorem foldStep_ended (ks : List MarkD) (f : FateD) (h : f.state ≠ 0) : ks.foldl stepD f = f := by
  induction ks with
  | nil => rfl
  | cons k ks ih => rw [List.foldl_cons, stepD_ended f k h, ih]
/-- One step counts at most one more. -/
theorem stepD_more (f : FateD) (k : MarkD) (n : Nat) (ht : 0 ≤ f.tries ∧ f.tries ≤ (n : Int)) (hc : 0 ≤ f.crashes ∧ f.crashes ≤ (n : Int)) (hn : n < 1000000) :
    f.tries ≤ (stepD f k).tries ∧ (stepD f k).tries ≤ ((n + 1 : Nat) : Int) ∧ f.crashes ≤ (stepD f k).crashes ∧ (stepD f k).crashes ≤ ((n + 1 : Nat) : Int) := by
  have w1 : wrap64 (f.tries + 1) = f.tries + 1 := by unfold wrap64; omega
  have w2 : wrap64 (f.crashes + 1) = f.crashes + 1 := by unfold wrap64; omega
  unfold stepD
  rw [w1, w2]
  repeat' split
  all_goals ((try dsimp only); refine ⟨?_, ?_, ?_, ?_⟩ <;> omega)
theorem foldStep_more (ks : List MarkD) : ∀ (f : FateD) (n : Nat), 0 ≤ f.tries ∧ f.tries ≤ (n : Int) → 0 ≤ f.crashes ∧ f.crashes ≤ (n : Int) → n + ks.length < 1000000 →
    f.tries ≤ (ks.foldl stepD f).tries ∧ (ks.foldl stepD f).tries ≤ ((n + ks.length : Nat) : Int) ∧ f.crashes ≤ (ks.foldl stepD f).crashes ∧ (ks.foldl stepD f).crashes ≤ ((n + ks.length : Nat) : Int) := by
  induction ks with
  | nil => intro f n ht hc hn; simp; omega
  | cons k ks ih =>
    intro f n ht hc hn
    rw [List.length_cons] at hn
    obtain ⟨a1, a2, a3, a4⟩ := stepD_more f k n ht hc (by omega)
    obtain ⟨b1, b2, b3, b4⟩ := ih (stepD f k) (n + 1) ⟨by omega, a2⟩ ⟨by omega, a4⟩ (by omega)
    rw [List.foldl_cons, List.length_cons]
    refine ⟨by omega, by omega, by omega, by omega⟩
theorem mineOf_append (r : Nat) (l m : List MarkD) : mineOf r (l ++ m) = mineOf r l ++ mineOf r m := List.filter_append ..
theorem mineOf_length (r : Nat) (l : List MarkD) : (mineOf r l).length ≤ l.length := List.length_filter_le ..
/-- What ended, ended; nothing becomes less. -/
theorem fates_last (l m : List MarkD) (h : l.length + m.length ≤ 200) (r : Nat) (a b : FateD) (ha : (fatesD 8 l)[r]? = some a) (hb : (fatesD 8 (l ++ m))[r]? = some b) :
    (a.state ≠ 0 → b = a) ∧ a.tries ≤ b.tries ∧ a.crashes ≤ b.crashes := by
  have hr : r < 8 := by have := (List.getElem?_eq_some_iff.1 ha).1; rw [fatesD_length] at this; exact this
  rw [fatesD_get _ _ _ hr] at ha hb
  cases ha; cases hb
  rw [mineOf_append, List.foldl_append]
  have l1 := mineOf_length r l
  have l2 := mineOf_length r m
  obtain ⟨a1, a2, a3, a4⟩ := foldStep_more (mineOf r l) .zero 0 (by simp [FateD.zero]) (by simp [FateD.zero]) (by omega)
  obtain ⟨b1, b2, b3, b4⟩ := foldStep_more (mineOf r m) ((mineOf r l).foldl stepD .zero) (0 + (mineOf r l).length) ⟨by simp [FateD.zero] at a1; exact a1, a2⟩ ⟨by simp [FateD.zero] at a3; exact a3, a4⟩ (by omega)
  exact ⟨fun hs => foldStep_ended _ _ hs, b1, b3⟩
end Go.Proofs.YtjddicoigbidlaaGreatDoor

set_option linter.unusedSimpArgs false
set_option linter.unusedVariables false
namespace Go.Proofs.YtjddicoigbidlaaGreatDoor
open Go.RowKit
theorem nil_row (w : World) (base size : Nat) (e : TypeId) : w.ownsRow base e size (.slice none 0 0) 0 [] := ⟨by simp, .inl ⟨rfl, rfl⟩⟩
theorem filter_snoc {α : Type} {ks : List α} {j : Nat} {k : α} (p : α → Bool) (h : ks[j]? = some k) : (ks.take (j + 1)).filter p = (ks.take j).filter p ++ (if p k then [k] else []) := by
  rw [take_snoc h, List.filter_append, List.filter_cons]; rfl
end Go.Proofs.YtjddicoigbidlaaGreatDoor
