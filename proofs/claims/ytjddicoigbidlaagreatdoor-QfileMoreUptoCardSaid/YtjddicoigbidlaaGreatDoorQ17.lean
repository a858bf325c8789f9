/-
  The walk of pillarboxlaw12.answers (printed by gen_filans.py).
-/
import Derived.Test.YtjddicoigbidlaaGreatDoorQ14
import Derived.Test.YtjddicoigbidlaaGreatDoorQ15
import Derived.Test.YtjddicoigbidlaaGreatDoorQ16
set_option linter.unusedSimpArgs false
set_option linter.unusedVariables false
set_option maxRecDepth 100000
namespace Go.Proofs.YtjddicoigbidlaaGreatDoor
open Go.RowKit
theorem fil1_u8 : (Tryz.prog.info? 5).map (·.size) = some 1 := by kernel_rfl
abbrev Fil1S (w4 : World) (X G : Nat) (ar ab am : Option Addr) (cr cb cm : Nat) (w' : World) : Prop :=
  w'.cell? ⟨X, 0, none⟩ = some (.int .i64 1) ∧ w'.cell? ⟨X, 1, none⟩ = some (.int .i64 0) ∧ w'.cell? ⟨X, 2, none⟩ = some (.int .i64 0) ∧ w'.cell? ⟨X, 3, none⟩ = some (.string ⟨#[]⟩) ∧ w'.cell? ⟨X, 4, none⟩ = some (.slice ar 1 cr) ∧ w'.cell? ⟨X, 5, none⟩ = some (.slice ab 0 cb) ∧ w'.cell? ⟨X, 6, none⟩ = some (.slice am 1 cm) ∧ w'.cell? ⟨X, 7, none⟩ = some (.int .i64 (G : Int)) ∧ FileRest w4 X ⟨fil1M, [fil1K], G⟩ (.slice ar 1 cr) (.slice ab 0 cb) (.slice am 1 cm) w'
theorem Fil1S.of {w4 w : World} {X G : Nat} {ar ab am : Option Addr} {cr cb cm : Nat} (h : FileRest w4 X ⟨fil1M, [fil1K], G⟩ (.slice ar 1 cr) (.slice ab 0 cb) (.slice am 1 cm) w) : Fil1S w4 X G ar ab am cr cb cm w := FileS.of h
theorem Fil1S.go {w4 w w' : World} {X G : Nat} {ar ab am : Option Addr} {cr cb cm : Nat} (hb : Below w.heap.size w w') (h : Fil1S w4 X G ar ab am cr cb cm w) : Fil1S w4 X G ar ab am cr cb cm w' :=
  Fil1S.of ⟨h.2.2.2.2.2.2.2.2.1.trans (hb.mono h.2.2.2.2.2.2.2.2.1.size), h.2.2.2.2.2.2.2.2.2.below hb⟩
/-- What Parse answers of the answers' file. -/
def Fil1Done (w : World) (G : Nat) (e : Ending) (w' : World) : Prop :=
  ∃ ar cr ab cb am cm, e = .returned (.tuple #[.agg #[.int .i64 1, .int .i64 0, .int .i64 0, .string ⟨#[]⟩, .slice ar 1 cr, .slice ab 0 cb, .slice am 1 cm, .int .i64 (G : Int)], .bool true]) ∧ RdS w' (.slice ar 1 cr) fil1M.rcpts ∧ RdB w' (.slice ab 0 cb) [] ∧ RdM w' (.slice am 1 cm) [fil1K] ∧ Below w.heap.size w w'
def Fil0Done (w : World) (e : Ending) (w' : World) : Prop :=
  ∃ ar cr ab cb am cm, e = .returned (.tuple #[.agg #[.int .i64 0, .int .i64 0, .int .i64 0, .string ⟨#[]⟩, .slice ar 0 cr, .slice ab 0 cb, .slice am 0 cm, .int .i64 0], .bool false]) ∧ Below w.heap.size w w'
theorem fil1_parse (v : Value) (w : World) (hv : RdB w v (fil1M.record ++ fil1K.bytes)) (hmax : MaxOk w) : Calls Tryz.prog 25 #[v] w (Fil1Done w (fil1M.record ++ fil1K.bytes).length) := by
  have hl := fil1_len
  refine (qparse_calls v _ w hv (by rw [List.length_append, bytes_length]; omega) hmax).mono ?_
  rintro e w' ⟨vr, vb, vm, he, h1, h2, h3, hb⟩
  rw [fil1_file] at he h1 h2 h3
  have h1 : w'.ownsRow w.heap.size 9 1 vr 1 ([[97, 64, 98]].flatMap s1) := h1
  have h2 : w'.ownsRow w.heap.size 5 1 vb 0 (([] : List UInt8).map u8v) := h2
  have h3 : w'.ownsRow w.heap.size 52 3 vm 1 ([fil1K].flatMap MarkD.cells) := h3
  obtain ⟨ar, cr, rfl⟩ := own_form0 h1
  obtain ⟨ab, cb, rfl⟩ := own_form0 h2
  obtain ⟨am, cm, rfl⟩ := own_form0 h3
  exact ⟨ar, cr, ab, cb, am, cm, he, rdL_ofOwn (xs := [[97, 64, 98]]) s1_len (by decide) h1, rdB_ofOwn (bs := []) h2, rdL_ofOwn (xs := [fil1K]) mark_len (by decide) h3, hb⟩
theorem fil0_parse (v : Value) (w : World) (hv : RdB w v ((fil1M.record ++ fil1K.bytes).take 9)) (hmax : MaxOk w) : Calls Tryz.prog 25 #[v] w (Fil0Done w) := by
  refine (qparse_calls v _ w hv (by rw [List.length_take]; omega) hmax).mono ?_
  rintro e w' ⟨vr, vb, vm, he, h1, h2, h3, hb⟩
  rw [fil1_none] at he h1 h2 h3
  have h1 : w'.ownsRow w.heap.size 9 1 vr 0 (([] : List (List UInt8)).flatMap s1) := h1
  have h2 : w'.ownsRow w.heap.size 5 1 vb 0 (([] : List UInt8).map u8v) := h2
  have h3 : w'.ownsRow w.heap.size 52 3 vm 0 (([] : List MarkD).flatMap MarkD.cells) := h3
  obtain ⟨ar, cr, rfl⟩ := own_form0 h1
  obtain ⟨ab, cb, rfl⟩ := own_form0 h2
  obtain ⟨am, cm, rfl⟩ := own_form0 h3
  exact ⟨ar, cr, ab, cb, am, cm, he, hb⟩
set_option maxHeartbeats 8000000 in
theorem filAns_calls (w : World) (hmax : MaxOk w) : Calls Tryz.prog 23 #[] w fun e w' => e = .returned (.bool true) ∧ Below w.heap.size w w' := by
  have hz : ∀ w, (zeroValue 43).run Tryz.prog w = .ok (.agg #[.int .i64 0, .int .i64 0, .int .i64 0, .string ⟨#[]⟩, .slice none 0 0, .slice none 0 0, .slice none 0 0, .int .i64 0]) w := fun _ => by kernel_rfl
  have hrec : ∀ (W : World) (vr : Value), RdS W vr [[97, 64, 98]] → Calls Tryz.prog 19 #[.agg #[.int .i64 1, .int .i64 0, .int .i64 0, .string ⟨#[]⟩, vr, .slice none 0 0]] W (RowDone W fil1M.record) :=
    fun W vr h => record_calls fil1M vr (.slice none 0 0) W h rdB_nil (fun l c e => by cases e; exact ⟨rfl, rfl⟩) fil1_small fil1_good
  have hmk : ∀ W : World, Calls Tryz.prog 28 #[.agg #[.int .i64 1, .int .i64 0, .int .i64 0]] W (RowDone W fil1K.bytes) :=
    fun W => refMark_calls fil1K W (by decide) (by decide) (by decide) (by decide) (by decide) (by decide)
  have hp1 := fil1_parse
  have hp0 := fil0_parse
  have hopen : ∀ (W w4 : World) (X G : Nat) (ar ab am : Option Addr) (cr cb cm : Nat), FileAt W X ⟨fil1M, [fil1K], G⟩ (.slice ar 1 cr) (.slice ab 0 cb) (.slice am 1 cm) → Calls Tryz.prog 34 #[.agg #[.int .i64 1, .int .i64 0, .int .i64 0, .string ⟨#[]⟩, .slice ar 1 cr, .slice ab 0 cb, .slice am 1 cm, .int .i64 (G : Int)]] W (fun e w' => ∃ v, e = .returned v ∧ w'.ownsRow W.heap.size 3 1 v 1 ([0].flatMap i1) ∧ Below W.heap.size W w') := by
    intro W w4 X G ar ab am cr cb cm h
    have := fileOpen_calls ⟨fil1M, [fil1K], G⟩ (.slice ar 1 cr) (.slice ab 0 cb) (.slice am 1 cm) W h.rs h.rm ⟨_, _, rfl⟩ (by show (fatesD (nFates 1) [fil1K]).length ≤ 8; decide)
    have he : (FileD.mk fil1M [fil1K] G).fates = fatesD (nFates 1) [fil1K] := rfl
    rw [he, fil1_open] at this
    exact this
  have hover : ∀ (W : World) (X G : Nat) (ar ab am : Option Addr) (cr cb cm : Nat), FileAt W X ⟨fil1M, [fil1K], G⟩ (.slice ar 1 cr) (.slice ab 0 cb) (.slice am 1 cm) → Calls Tryz.prog 36 #[.agg #[.int .i64 1, .int .i64 0, .int .i64 0, .string ⟨#[]⟩, .slice ar 1 cr, .slice ab 0 cb, .slice am 1 cm, .int .i64 (G : Int)]] W (fun e w' => e = .returned (.bool false) ∧ Below W.heap.size W w') := by
    intro W X G ar ab am cr cb cm h
    have := fileOver_calls ⟨fil1M, [fil1K], G⟩ (.slice ar 1 cr) (.slice ab 0 cb) (.slice am 1 cm) W h.rs h.rm ⟨_, _, rfl⟩
    have he : (FileD.mk fil1M [fil1K] G).fates = fatesD (nFates 1) [fil1K] := rfl
    rw [he, fil1_waits] at this
    exact this
  have hlen := fil1_len
  have hkl := bytes_length fil1K
  obtain ⟨R, hR⟩ : ∃ R, fil1M.record = R := ⟨_, rfl⟩
  obtain ⟨kb, hkb⟩ : ∃ kb, fil1K.bytes = kb := ⟨_, rfl⟩
  rw [hR] at hrec hp1 hp0 hlen
  rw [hkb] at hmk hp1 hp0 hkl
  clear hR hkb
  have Hrec := Lib.hid hrec
  have Hmk := Lib.hid hmk
  have Hp1 := Lib.hid hp1
  have Hp0 := Lib.hid hp0
  have Hopen0 := Lib.hid hopen
  have Hover0 := Lib.hid hover
  have Hmax := Lib.hid hmax
  have hr0 := rdL_row (s := 1) (f := s1) (xs := [[97, 64, 98]]) (cap := 1) s1_len (by decide) (heap_alloc_new w (.cells #[.string ⟨#[97, 64, 98]⟩] 9)) (by decide) (by decide)
  have Hr0 := Lib.hid hr0
  clear hrec hmk hp1 hp0 hopen hover hmax hr0
  go_enter Tryz.func23, Tryz.ntmps23
  go_wp2_with fail
  refine (Hrec.out _ _ Hr0.out).mono ?_; rintro e w1 ⟨v1, rfl, ho1, hb1⟩
  have hbw1 : Below w.heap.size w w1 := ((Below.refl _ _).alloc (Nat.le_refl _) _).trans (hb1.mono (by simp))
  have hs1 : w.heap.size ≤ w1.heap.size := hbw1.size
  have ho1 := own_mono ho1 (show w.heap.size ≤ _ by simp)
  clear hb1
  go_wp2_with fail
  refine (Hmk.out _).mono ?_; rintro e w2 ⟨v2, rfl, ho2, hb2⟩
  have hbw2 := hbw1.trans (hb2.mono hs1)
  have ho1' := own_below ho1 hb2 (Nat.le_refl _)
  clear ho1 hb2 hbw1
  go_wp2_with (at_builtin; go_must (refine app_row rfl rfl (.tmp 8) (.tmp 10) rfl ho1' ho2 rfl rfl (by omega) hbw2.size ?_); rintro v3 w3 ho3 hg3)
  have hbw3 := hbw2.grown hg3 hbw2.size (fun k hk => own_base ho1' k hk)
  have hrd := rdB_ofOwn ho3
  obtain ⟨a3, c3, hv3⟩ := own_form0 ho3
  subst hv3
  have Hrd := Lib.hid hrd
  clear hrd ho3 hg3 ho1' ho2
  have hpar := Hp1.out _ _ Hrd.out (Hmax.out.below hbw3)
  have Hpar := Lib.hid hpar
  have Hbw3 := Lib.hid hbw3
  have hGl : (R ++ kb).length = R.length + 28 := by rw [List.length_append, hkl]
  obtain ⟨G, hG⟩ : ∃ G, (R ++ kb).length = G := ⟨_, rfl⟩
  have hG9 : 9 < G ∧ G ≤ 2000 := by omega
  obtain ⟨hG9, hG10⟩ := hG9
  have HRG := Lib.hid hG
  rw [hG] at Hrd Hpar
  have hpre : Hid (∀ W, RdB W (.slice a3 G c3) (R ++ kb) → RdB W (.slice a3 9 c3) ((R ++ kb).take 9)) := fun W h => by have := h.pre 9 (by omega); exact this
  have hc3 : G ≤ c3 := by have h := Hrd.out.form; obtain ⟨_, _, e, _, h⟩ := h; cases e; omega
  have hsl := run_slice_pre (P := Tryz.prog) Tryz.underlying23 fil1_u8 a3 G c3 9 (by omega)
  clear hpar hbw3 hGl hG hbw2 Hr0
  rw [HRG.out]
  refine (Hpar.out).mono ?_; rintro e w4' ⟨ar, cr, ab, cb, am, cm, rfl, hrs, hrb, hrm, hb4⟩
  have hbw4' := Hbw3.out.trans (hb4.mono Hbw3.out.size)
  have hnew := FileAt.new (f := ⟨fil1M, [fil1K], G⟩) hrs hrb hrm
  have hnew : FileAt (w4'.alloc (.cells #[.int .i64 1, .int .i64 0, .int .i64 0, .string ⟨#[]⟩, .slice ar 1 cr, .slice ab 0 cb, .slice am 1 cm, .int .i64 (G : Int)] 43)) w4'.heap.size ⟨fil1M, [fil1K], G⟩ (.slice ar 1 cr) (.slice ab 0 cb) (.slice am 1 cm) := hnew
  have hba : Below w4'.heap.size w4' (w4'.alloc (.cells #[.int .i64 1, .int .i64 0, .int .i64 0, .string ⟨#[]⟩, .slice ar 1 cr, .slice ab 0 cb, .slice am 1 cm, .int .i64 (G : Int)] 43)) := (Below.refl _ _).alloc (Nat.le_refl _) _
  obtain ⟨wn, hwn⟩ : ∃ wn, w4'.alloc (.cells #[.int .i64 1, .int .i64 0, .int .i64 0, .string ⟨#[]⟩, .slice ar 1 cr, .slice ab 0 cb, .slice am 1 cm, .int .i64 (G : Int)] 43) = wn := ⟨_, rfl⟩
  rw [hwn] at hnew hba
  have hbwn := hbw4'.trans (hba.mono hbw4'.size)
  have hp0 := Hp0.out _ wn (hpre.out _ (Hrd.out.below (Nat.le_refl _) (hb4.trans (hba.mono hb4.size)))) (Hmax.out.below hbwn)
  have Hpar0 := Lib.hid hp0
  have Hnew := Lib.hid hnew
  have Hbwn := Lib.hid hbwn
  clear hp0 hnew hbwn hba hbw4' hb4 hrs hrb hrm Hrd
  subst hwn
  go_wp2_with fail
  refine (Hpar0.out).mono ?_; rintro e w5 ⟨ar5, cr5, ab5, cb5, am5, cm5, rfl, hb5⟩
  have hnew5 := Hnew.out.below hb5
  have hbw5 := Hbwn.out.trans (hb5.mono Hbwn.out.size)
  have hba : Below w5.heap.size w5 (w5.alloc (.cells #[.int .i64 0, .int .i64 0, .int .i64 0, .string ⟨#[]⟩, .slice ar5 0 cr5, .slice ab5 0 cb5, .slice am5 0 cm5, .int .i64 0] 43)) := (Below.refl _ _).alloc (Nat.le_refl _) _
  have hn4 := hnew5.below hba
  have hbw4 := hbw5.trans (hba.mono hbw5.size)
  obtain ⟨c0, c1, c2, c3', c4, c5, c6, c7⟩ := (cells8 hn4.blk).1
  simp only [fil1M] at c0 c1 c2 c3'
  have c3'' : (w5.alloc (.cells #[.int .i64 0, .int .i64 0, .int .i64 0, .string ⟨#[]⟩, .slice ar5 0 cr5, .slice ab5 0 cb5, .slice am5 0 cm5, .int .i64 0] 43)).cell? ⟨w4'.heap.size, 3, none⟩ = some (.string ⟨#[]⟩) := c3'
  clear c3'
  have HN4 := Lib.hid hn4
  have Hbw4 := Lib.hid hbw4
  clear hn4 hbw4 hba hbw5 hnew5 hb5
  go_wp2_with fail
  refine (Hopen0.out _ w4' _ G ar ab am cr cb cm HN4.out).mono ?_; rintro e wa ⟨va, rfl, hoA, hbA⟩
  obtain ⟨aA, cA, hvA⟩ := own_form0 hoA
  subst hvA
  have hNA := HN4.out.below hbA
  have hbwA := Hbw4.out.trans (hbA.mono Hbw4.out.size)
  have hbB : Below wa.heap.size wa (wa.alloc (.cells #[.int .i64 0] 3)) := (Below.refl _ _).alloc (Nat.le_refl _) _
  have hrA := (rdL_ofOwn (xs := [0]) i1_len (by decide) hoA).below (Nat.le_refl _) hbB
  have hrB := rdL_row (s := 1) (f := i1) (xs := [0]) (cap := 1) i1_len (by decide) (heap_alloc_new wa (.cells #[.int .i64 0] 3)) (by decide) (by decide)
  have HNB := Lib.hid (hNA.below hbB)
  have HbwB := Lib.hid (hbwA.trans (hbB.mono hbwA.size))
  have HrA := Lib.hid hrA
  have HrB := Lib.hid hrB
  clear hrA hrB hNA hbwA hbB hbA hoA c0 c1 c2 c3'' c4 c5 c6 c7
  go_wp2_with fail
  refine (refInts_calls _ _ [0] _ HrA.out HrB.out).mono ?_; rintro e wi ⟨rfl, hbI⟩
  have hNI := HNB.out.below hbI
  have hbwI := HbwB.out.trans (hbI.mono HbwB.out.size)
  obtain ⟨c0, c1, c2, c3', c4, c5, c6, c7⟩ := (cells8 hNI.blk).1
  simp only [fil1M] at c0 c1 c2 c3'
  have c3'' : wi.cell? ⟨w4'.heap.size, 3, none⟩ = some (.string ⟨#[]⟩) := c3'
  clear c3'
  have HNI := Lib.hid hNI
  have HbwI := Lib.hid hbwI
  clear hNI hbwI hbI
  go_wp2_with fail
  refine (Hover0.out _ _ G ar ab am cr cb cm HNI.out).mono ?_; rintro e wo ⟨rfl, hbO⟩
  have hfin := HbwI.out.trans (hbO.mono HbwI.out.size)
  clear hbO c0 c1 c2 c3'' c4 c5 c6 c7
  go_wp2
  go_ret
  exact ⟨rfl, hfin⟩
end Go.Proofs.YtjddicoigbidlaaGreatDoor
