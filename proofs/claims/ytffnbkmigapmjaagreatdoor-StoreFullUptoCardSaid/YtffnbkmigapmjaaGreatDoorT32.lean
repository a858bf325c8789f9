/- Printed out of the texts of wip/tpl. -/
import Derived.Test.YtffnbkmigapmjaaGreatDoorT7
import Derived.Test.YtffnbkmigapmjaaGreatDoorT10
import Derived.Test.YtffnbkmigapmjaaGreatDoorT16
import Derived.Test.YtffnbkmigapmjaaGreatDoorT19
import Derived.Test.YtffnbkmigapmjaaGreatDoorT20
import Derived.Test.YtffnbkmigapmjaaGreatDoorT22
import Derived.Test.YtffnbkmigapmjaaGreatDoorT23
import Derived.Test.YtffnbkmigapmjaaGreatDoorT24
import Derived.Test.YtffnbkmigapmjaaGreatDoorT25
import Derived.Test.YtffnbkmigapmjaaGreatDoorT30
import Derived.Test.YtffnbkmigapmjaaGreatDoorT31
import Derived.Lib.SlBytesConst
set_option linter.unusedSimpArgs false
set_option linter.unusedVariables false
set_option maxRecDepth 100000
namespace Go.Proofs.YtffnbkmigapmjaaGreatDoor
theorem nameCh_digit {s : List UInt8} {a v : Nat} (h : Lib.decFrom a s = some v) : s.all nameCh = true := by
 rw [List.all_eq_true]
 intro c hc
 obtain ⟨i, hi, rfl⟩ := List.getElem_of_mem hc
 obtain ⟨d, hd⟩ := Lib.digit_of_decFrom _ _ _ h i s[i] (List.getElem?_eq_getElem hi)
 obtain ⟨h1, h2, _⟩ := Lib.digitVal_eq hd
 have h1' : 48 ≤ s[i].toNat := h1
 have h2' : s[i].toNat ≤ 57 := h2
 unfold nameCh
 exact decide_eq_true ⟨by omega, by omega, by omega⟩
theorem rightD_app {a : Nm} {n : Nat} (ha : a.all nameCh = true) (h0 : a ≠ []) (hl : a.length ≤ 71) (hn : n ≤ 999999999) : rightD (a ++ numD n) = true := by
 unfold rightD
 rw [List.all_append, ha, nameCh_digit (decFrom_numD n), Bool.and_true, Bool.true_and, Bool.and_eq_true]
 have := numD_length hn
 exact ⟨decide_eq_true (by simp [h0]), decide_eq_true (by rw [List.length_append]; omega)⟩
theorem rightD_nameD {q : UInt8} {n : Int} (h0 : allQ.contains q = true) (h1 : 1 ≤ n) (h2 : n ≤ 999999999) : rightD (nameD q n) = true := by
 rw [nameD_of h0 h1 h2]
 refine rightD_app ?_ (by simp) (by simp) (by omega)
 have hq : nameCh q = true := by
  have hm : q ∈ allQ := by simpa using h0
  have hall : allQ.all nameCh = true := by decide
  exact List.all_eq_true.1 hall q hm
 rw [List.all_cons, hq]; decide
theorem rightD_ids {n : Int} (h : 0 ≤ n ∧ n ≤ 999999999) : rightD (idsNameD n) = true := by
 rw [idsNameD_of h]
 exact rightD_app (by decide) (by decide) (by decide) (by omega)
theorem run_good {S : Nat → FsD → Int → FsD → Prop} {V : Nat → FsD → Prop} {n : Nat} {d : FsD} (h0 : V 0 d) (hs : ∀ i a er b, i < n → V i a → S i a er b → er = 0 ∧ V (i + 1) b) :
 ∀ er fs, Outcome S n d er fs → er = 0 ∧ V n fs := by
 have hr : ∀ i a, i ≤ n → Run S d i a → V i a := by
  intro i
  induction i with
  | zero => intro a _ h; rw [h.zero_inv]; exact h0
  | succ i ih =>
   intro a hi h
   obtain ⟨b, h1, h2⟩ := h.inv
   exact (hs i b 0 a (by omega) (ih b (by omega) h1) h2).2
 intro er fs ho
 rcases ho with ⟨rfl, h⟩ | ⟨hne, i, a, hi, h1, h2⟩
 ·exact ⟨rfl, hr n fs (Nat.le_refl _) h⟩
 ·exact absurd (hs i a er fs hi (hr i a (by omega) h1) h2).1 hne
section
variable {d : FsD} {C : Cont} {N U : Nat} {R : Int}
theorem Vw.lay (h : Vw d C N U R) {tmp nm : Nm} {bs : List UInt8} (ht : rightD tmp = true) (hn : rightD nm = true) (hne : tmp ≠ nm) (hC : C tmp = none) (hN : N < 256) (hR : (bs.length : Int) ≤ R - U) {er : Int} {fs : FsD} (ho : Outcome (layS tmp nm bs) 6 d er fs) :
 er = 0 ∧ Vw fs (updC C nm (some bs)) (if (C nm).isSome then N else N + 1) (U + bs.length - ((C nm).getD []).length) R := by
 let C1 : Cont := updC C tmp (some [])
 let C2 : Cont := updC C1 tmp (some ([] ++ bs))
 let C3 : Cont := updC (updC C2 nm (some bs)) tmp none
 have e2 : C2 tmp = some bs := updC_same _ _ _
 have e2n : C2 nm = C nm := by rw [show C2 nm = C1 nm from updC_other _ _ hne]; exact updC_other _ _ hne
 let V : Nat → FsD → Prop := fun i a => match i with
  | 0 => Vw a C N U R
  | 1 => Vw a C N U R
  | 2 => Vw a C1 (N + 1) U R
  | 3 => Vw a C2 (N + 1) (U + bs.length) R
  | 4 => Vw a C2 (N + 1) (U + bs.length) R
  | _ => Vw a C3 (if (C2 nm).isSome then N + 1 - 1 else N + 1) (U + bs.length - ((C2 nm).getD []).length) R
 obtain ⟨r1, r2⟩ := run_good (V := V) (n := 6) (d := d) (S := layS tmp nm bs) h (by
  intro i a er b hi hV hS
  match i, hi, hV, hS with
  | 0, _, hV, ⟨v, lv, he, hb⟩ =>
   have hV : Vw a C N U R := hV
   rw [hV.unlink_none ht hC] at he hb
   subst he; subst hb
   exact ⟨rfl, hV⟩
  | 1, _, hV, ⟨x, v, lv, he, hb⟩ =>
   have hV : Vw a C N U R := hV
   obtain ⟨q1, q2⟩ := hV.create ht hC hN x v lv
   subst he; subst hb
   exact ⟨q1, q2⟩
  | 2, _, hV, ⟨row, he, hb⟩ =>
   have hV : Vw a C1 (N + 1) U R := hV
   obtain ⟨q1, q2⟩ := hV.append (b := []) (bs := bs) ht (updC_same _ _ _) hR row
   subst he; subst hb
   exact ⟨q1, q2⟩
  | 3, _, hV, ⟨he, hb⟩ =>
   have hV : Vw a C2 (N + 1) (U + bs.length) R := hV
   obtain ⟨q1, q2⟩ := hV.sync ht e2
   subst he; subst hb
   exact ⟨q1, q2⟩
  | 4, _, hV, ⟨v, lv, he, hb⟩ =>
   have hV : Vw a C2 (N + 1) (U + bs.length) R := hV
   obtain ⟨q1, q2⟩ := hV.rename ht hn hne e2 v lv
   subst he; subst hb
   exact ⟨q1, q2⟩
  | 5, _, hV, ⟨ms, he, hb⟩ =>
   have hV : Vw a C3 (if (C2 nm).isSome then N + 1 - 1 else N + 1) (U + bs.length - ((C2 nm).getD []).length) R := hV
   obtain ⟨q1, q2⟩ := hV.dirSync ms
   subst he; subst hb
   exact ⟨q1, q2⟩) er fs ho
 have r2 : Vw fs C3 (if (C2 nm).isSome then N + 1 - 1 else N + 1) (U + bs.length - ((C2 nm).getD []).length) R := r2
 rw [e2n] at r2
 refine ⟨r1, ?_⟩
 have hN1 : N + 1 - 1 = N := by omega
 rw [hN1] at r2
 refine r2.congr (fun m => ?_)
 by_cases h1 : tmp = m
 ·rw [← h1]
  show updC (updC C2 nm (some bs)) tmp none tmp = updC C nm (some bs) tmp
  rw [updC_same, updC_other _ _ (fun e => hne e.symm), hC]
 ·show updC (updC C2 nm (some bs)) tmp none m = updC C nm (some bs) m
  rw [updC_other _ _ h1]
  by_cases h2 : nm = m
  ·rw [← h2, updC_same, updC_same]
  ·rw [updC_other _ _ h2, updC_other _ _ h2]
   show updC C1 tmp _ m = _
   rw [updC_other _ _ h1]
   exact updC_other _ _ h1
end
section
variable {d d' : StoD} {C : Cont} {N U : Nat} {R er : Int}
theorem MoreR.vw0 (h : MoreR d er d') (hv : Vw d.fs C N U R) (hN : N < 256) (hb : 0 ≤ moreB d ∧ moreB d ≤ 999999999) (hnew : C (idsNameD (moreB d)) = none) (hnf : d.nfile = []) :
 er = 0 ∧ Vw d'.fs (updC C (idsNameD (moreB d)) (some [])) (N + 1) U R ∧ d'.bound = moreB d ∧ d'.nfile = idsNameD (moreB d) := by
 obtain ⟨x, v, lv, h⟩ := h
 obtain ⟨q1, q2⟩ := hv.create (rightD_ids hb) hnew hN x v lv
 rcases h with ⟨h1, _⟩ | ⟨_, f1, ms, f2, e2, h1, h2, h3⟩
 ·exact absurd q1 h1
 ·rw [← h1] at q2
  obtain ⟨q3, q4⟩ := q2.dirSync ms
  have e2' : e2 = (dirSyncD f1 ms).1 := congrArg Prod.fst h2
  have f2' : f2 = (dirSyncD f1 ms).2 := congrArg Prod.snd h2
  rw [← e2'] at q3
  rw [← f2'] at q4
  rcases h3 with ⟨h4, _⟩ | ⟨_, _, h5, h6⟩ | ⟨_, h5, _⟩
  ·exact absurd q3 h4
  ·subst h6; exact ⟨h5, q4, rfl, rfl⟩
  ·exact absurd hnf h5
theorem MoreR.vw1 (h : MoreR d er d') (hv : Vw d.fs C N U R) (hN : N < 256) (hb : 0 ≤ moreB d ∧ moreB d ≤ 999999999) (hnew : C (idsNameD (moreB d)) = none) {b0 : List UInt8} (hnf : C d.nfile = some b0) (hr : rightD d.nfile = true) :
 er = 0 ∧ Vw d'.fs (updC (updC C (idsNameD (moreB d)) (some [])) d.nfile none) N (U - b0.length) R ∧ d'.bound = moreB d ∧ d'.nfile = idsNameD (moreB d) := by
 obtain ⟨x, v, lv, h⟩ := h
 obtain ⟨q1, q2⟩ := hv.create (rightD_ids hb) hnew hN x v lv
 rcases h with ⟨h1, _⟩ | ⟨_, f1, ms, f2, e2, h1, h2, h3⟩
 ·exact absurd q1 h1
 ·rw [← h1] at q2
  obtain ⟨q3, q4⟩ := q2.dirSync ms
  have e2' : e2 = (dirSyncD f1 ms).1 := congrArg Prod.fst h2
  have f2' : f2 = (dirSyncD f1 ms).2 := congrArg Prod.snd h2
  rw [← e2'] at q3
  rw [← f2'] at q4
  have hne : idsNameD (moreB d) ≠ d.nfile := fun e => by rw [e, hnf] at hnew; cases hnew
  rcases h3 with ⟨h4, _⟩ | ⟨_, h5, _⟩ | ⟨_, _, v2, lv2, h5, h6⟩
  ·exact absurd q3 h4
  ·rw [h5] at hr; exact absurd hr (by decide)
  ·obtain ⟨q5, q6⟩ := q4.unlink hr (by rw [updC_other _ _ hne]; exact hnf) v2 lv2
   subst h6
   exact ⟨h5.trans q5, q6, rfl, rfl⟩
end
open Go.RowKit Go.Maps
def digs : Nat → Nat → List UInt8
 | 0, _ => []
 | k + 1, n => digs k (n / 10) ++ [UInt8.ofNat (48 + n % 10)]
theorem digs_zero : ∀ k, digs k 0 = List.replicate k 48
 | 0 => rfl
 | k + 1 => by
  rw [digs, show 0 / 10 = 0 from rfl, digs_zero k, List.replicate_succ']; rfl
theorem digs_numD : ∀ (k n : Nat), n < 10 ^ (k + 1) → digs (k + 1) n = List.replicate (k + 1 - (Lib.decDigits n).length) 48 ++ Lib.decDigits n
 | 0, n, h => by
  have h10 : n < 10 := by simpa using h
  rw [Lib.decDigits, dif_pos h10]
  show [] ++ [UInt8.ofNat (48 + n % 10)] = _
  rw [Nat.mod_eq_of_lt h10]; rfl
 | k + 1, n, h => by
  rw [digs, Lib.decDigits]
  by_cases h10 : n < 10
  ·rw [dif_pos h10, show n / 10 = 0 by omega, digs_zero, Nat.mod_eq_of_lt h10]; rfl
  ·rw [dif_neg h10, digs_numD k (n / 10) (by rw [Nat.pow_succ] at h; omega), List.length_append, List.append_assoc]
   rw [show k + 1 + 1 - ((Lib.decDigits (n / 10)).length + [UInt8.ofNat (48 + n % 10)].length) = k + 1 - (Lib.decDigits (n / 10)).length by simp only [List.length_singleton]; omega]
theorem numD_digs {n : Nat} (h : n ≤ 999999999) : numD n = digs 9 n := (digs_numD 8 n (by omega)).symm
open Go.RowKit
def BgRest (w0 : World) (v4 : Value) (q : List UInt8) (w : World) : Prop := Below w0.heap.size w0 w ∧ RdB w v4 q
abbrev BgS (w0 : World) (X : Nat) (vx v4 : Value) (q : List UInt8) (sq : ByteArray) (w : World) : Prop :=
 w.cell? ⟨X, 0, none⟩ = some vx ∧ w.cell? ⟨X, 1, none⟩ = some (.bool false) ∧ (convert 22 9 v4).run Tryz.prog w = .ok (.string sq) w ∧ BgRest w0 v4 q w
theorem BgS.go {w0 w w' : World} {X : Nat} {vx v4 : Value} {q : List UInt8} {sq : ByteArray} (hq : Hid (strL q = sq)) (hb : Below w.heap.size w w') (h : BgS w0 X vx v4 q sq w) : BgS w0 X vx v4 q sq w' := by
 have hq := hq.out
 subst hq
 obtain ⟨h1, h2, _, h3, h4⟩ := h
 have l1 := World.block_lt_of_cell? w ⟨X, 0, none⟩ h1
 obtain ⟨cc, f⟩ := below_cell hb
 have h4' := h4.below (Nat.le_refl _) hb
 exact ⟨(cc _ _ l1).trans h1, (cc _ _ l1).trans h2, run_strL h4', h3.trans (hb.mono h3.size), h4'⟩
def MailNew (w : World) (m : MailD) (e : Ending) (w' : World) : Prop :=
 ∃ vr vb, e = .returned (mailVal m vr vb) ∧ RdS w' vr m.rcpts ∧ RdB w' vb m.body ∧ NilOk vr ∧ NilOk vb ∧ (∀ k, vr.ownBlock = some k → w.heap.size ≤ k ∧ k < w'.heap.size) ∧ (∀ k, vb.ownBlock = some k → w.heap.size ≤ k ∧ k < w'.heap.size) ∧ Below w.heap.size w w'
def one14 : MailD := ⟨0, 0, 0, [], [[97, 64, 98]], [120, 10]⟩
theorem one14_good : ({ one14 with id := 999999999 } : MailD).good = true := by kernel_rfl
theorem one14_good1 : ({ one14 with id := 1 } : MailD).good = true := by kernel_rfl
theorem one14_small : one14.small := ⟨by decide, by decide⟩
set_option maxRecDepth 100000 in
set_option maxHeartbeats 4000000 in
theorem one14_calls (w : World) : Calls Tryz.prog 25 #[] w (MailNew w one14) := by
 have hz : ∀ w, (zeroValue 29).run Tryz.prog w = .ok (.agg #[.int .i64 0, .int .i64 0, .int .i64 0, .string ⟨#[]⟩, .slice none 0 0, .slice none 0 0]) w := fun _ => by kernel_rfl
 have kc := fun (w : World) (C : Array Value) (n c : Nat) => Lib.run_convert_bytes_const (P := Tryz.prog) w 22 5 C n c Tryz.underlying22 Tryz.underlying5
 have hkc : (convert 22 22 (.slice (some ⟨w.heap.size + 1 + 1, 0, none⟩) 2 2)).run Tryz.prog (((w.alloc (.cells #[.int .i64 0, .int .i64 0, .int .i64 0, .string ⟨#[]⟩, .slice none 0 0, .slice none 0 0] 29)).alloc (.cells #[.string ⟨#[97, 64, 98]⟩] 9)).alloc (.cells #[.int .u8 120, .int .u8 10] 5)) = .ok (.slice (some ⟨w.heap.size + 1 + 1, 0, none⟩) 2 2) (((w.alloc (.cells #[.int .i64 0, .int .i64 0, .int .i64 0, .string ⟨#[]⟩, .slice none 0 0, .slice none 0 0] 29)).alloc (.cells #[.string ⟨#[97, 64, 98]⟩] 9)).alloc (.cells #[.int .u8 120, .int .u8 10] 5 (2, 3))) := by
  have h : (convert 22 22 _).run Tryz.prog _ = Result.ok _ (World.alloc _ (.cells #[.int .u8 120, .int .u8 10] 5 (2, 3))) := kc ((w.alloc (.cells #[.int .i64 0, .int .i64 0, .int .i64 0, .string ⟨#[]⟩, .slice none 0 0, .slice none 0 0] 29)).alloc (.cells #[.string ⟨#[97, 64, 98]⟩] 9)) #[.int .u8 120, .int .u8 10] 2 2
  simp only [World.size_alloc] at h
  exact h
 clear kc
 go_enter Tryz.func25, Tryz.ntmps25
 go_wp2
 obtain ⟨cs, hcs⟩ : ∃ cs, #[Value.int .i64 0, .int .i64 0, .int .i64 0, .string ⟨#[]⟩, .slice (some ⟨w.heap.size + 1, 0, none⟩) 1 1, .slice (some ⟨w.heap.size + 1 + 1, 0, none⟩) 2 2] = cs := ⟨_, rfl⟩
 obtain ⟨W1, hW1⟩ : ∃ W1, w.alloc (.cells cs 29) = W1 := ⟨_, rfl⟩
 obtain ⟨W2, hW2⟩ : ∃ W2, W1.alloc (.cells #[.string ⟨#[97, 64, 98]⟩] 9) = W2 := ⟨_, rfl⟩
 obtain ⟨W3, hW3⟩ : ∃ W3, W2.alloc (.cells #[.int .u8 120, .int .u8 10] 5 (2, 3)) = W3 := ⟨_, rfl⟩
 have hb1 : Below w.heap.size w W1 := by rw [← hW1]; exact (Below.refl _ _).alloc (Nat.le_refl _) _
 have hb2 : Below W1.heap.size W1 W2 := by rw [← hW2]; exact (Below.refl _ _).alloc (Nat.le_refl _) _
 have hb3 : Below W2.heap.size W2 W3 := by rw [← hW3]; exact (Below.refl _ _).alloc (Nat.le_refl _) _
 have h1 : W1.heap.size = w.heap.size + 1 := by rw [← hW1]; simp
 have h2 : W2.heap.size = w.heap.size + 1 + 1 := by rw [← hW2]; simp [h1]
 have h3 : W3.heap.size = w.heap.size + 1 + 1 + 1 := by rw [← hW3]; simp [h2]
 have hM : W3.heap[w.heap.size]? = some (.cells cs 29 (0, 0)) :=
  (hb3.block _ (by omega)).trans ((hb2.block _ (by omega)).trans (by rw [← hW1]; exact heap_alloc_new w _))
 have ho1 : W2.ownsRow W1.heap.size 9 1 (.slice (some ⟨W1.heap.size, 0, none⟩) 1 1) 1 [.string ⟨#[97, 64, 98]⟩] := by rw [← hW2]; exact World.ownsRow_lit W1 #[.string ⟨#[97, 64, 98]⟩] 1 (Nat.le_refl _) (by decide) rfl
 have ho2 : RdB W3 (.slice (some ⟨W2.heap.size, 0, none⟩) 2 2) [120, 10] := by
  have hh : W3.heap[W2.heap.size]? = some (.cells ([120, 10].map u8v).toArray 5 (2, 3)) := by rw [← hW3]; exact heap_alloc_new W2 _
  exact rdB_row hh (by decide) (by decide)
 have ho1' := own_below ho1 hb3 (Nat.le_refl _)
 have hbw : Below w.heap.size w W3 := (hb1.trans (hb2.mono (by omega))).trans (hb3.mono (by omega))
 rw [h1] at ho1'
 rw [h2] at ho2
 rw [hcs, hW1, hW2, hW3]
 have hcz : cs.size = 6 := by rw [← hcs]; rfl
 refine bodyPost_ret (results_row1 rfl _ _ w.heap.size 29 cs (0, 0) _ rfl hM Tryz.underlying29 rfl (by rw [hcz]; kernel_rfl)) rfl ?_
 refine ⟨.slice (some ⟨w.heap.size + 1, 0, none⟩) 1 1, .slice (some ⟨w.heap.size + 1 + 1, 0, none⟩) 2 2, by rw [← hcs]; rfl, rdL_ofOwn (xs := [[97, 64, 98]]) s1_len (by decide) ho1', ho2, (fun l c e => by cases e), (fun l c e => by cases e), fun k hk => ?_, fun k hk => ?_, hbw⟩
 ·cases hk; show w.heap.size ≤ w.heap.size + 1 ∧ w.heap.size + 1 < _; omega
 ·cases hk; show w.heap.size ≤ w.heap.size + 1 + 1 ∧ w.heap.size + 1 + 1 < _; omega
structure MailAt (w : World) (M : Nat) (m : MailD) (vr vb : Value) : Prop where
 blk : w.heap[M]? = some (.cells #[.int .i64 m.id, .int .i64 m.parent, .int .i64 m.born, .string (strL m.frm), vr, vb] 29 (0, 0))
 rs : RdS w vr m.rcpts
 rb : RdB w vb m.body
theorem MailAt.below {w w' : World} {M : Nat} {m : MailD} {vr vb : Value} (h : MailAt w M m vr vb) (hb : Below w.heap.size w w') : MailAt w' M m vr vb :=
 ⟨(hb.block _ (Array.getElem?_eq_some_iff.1 h.blk).1).trans h.blk, h.rs.below (Nat.le_refl _) hb, h.rb.below (Nat.le_refl _) hb⟩
theorem MailAt.cells {w : World} {M : Nat} {m : MailD} {vr vb : Value} (h : MailAt w M m vr vb) : w.cell? ⟨M, 0, none⟩ = some (.int .i64 m.id) ∧ w.cell? ⟨M, 1, none⟩ = some (.int .i64 m.parent) ∧ w.cell? ⟨M, 2, none⟩ = some (.int .i64 m.born) ∧ w.cell? ⟨M, 3, none⟩ = some (.string (strL m.frm)) ∧ w.cell? ⟨M, 4, none⟩ = some vr ∧ w.cell? ⟨M, 5, none⟩ = some vb := (cells6 h.blk).1
theorem MailAt.new {w : World} {m : MailD} {vr vb : Value} (hr : RdS w vr m.rcpts) (hb : RdB w vb m.body) :
 MailAt (w.alloc (.cells #[.int .i64 m.id, .int .i64 m.parent, .int .i64 m.born, .string (strL m.frm), vr, vb] 29)) w.heap.size m vr vb :=
 ⟨heap_alloc_new w _, hr.below (Nat.le_refl _) ((Below.refl _ _).alloc (Nat.le_refl _) _), hb.below (Nat.le_refl _) ((Below.refl _ _).alloc (Nat.le_refl _) _)⟩
def MailRest (w0 : World) (X : Nat) (m : MailD) (vr vb : Value) (w : World) : Prop := Below w0.heap.size w0 w ∧ MailAt w X m vr vb
abbrev MailS (w0 : World) (X : Nat) (m : MailD) (vr vb : Value) (w' : World) : Prop :=
 w'.cell? ⟨X, 0, none⟩ = some (.int .i64 m.id) ∧ w'.cell? ⟨X, 1, none⟩ = some (.int .i64 m.parent) ∧ w'.cell? ⟨X, 2, none⟩ = some (.int .i64 m.born) ∧ w'.cell? ⟨X, 3, none⟩ = some (.string (strL m.frm)) ∧ w'.cell? ⟨X, 4, none⟩ = some vr ∧ w'.cell? ⟨X, 5, none⟩ = some vb ∧ MailRest w0 X m vr vb w'
theorem MailS.go {w0 w w' : World} {X : Nat} {m : MailD} {vr vb : Value} (hb : Below w.heap.size w w') (h : MailS w0 X m vr vb w) : MailS w0 X m vr vb w' := by
 obtain ⟨_, _, _, _, _, _, h1, h2⟩ := h
 have h2' := h2.below hb
 exact ⟨h2'.cells.1, h2'.cells.2.1, h2'.cells.2.2.1, h2'.cells.2.2.2.1, h2'.cells.2.2.2.2.1, h2'.cells.2.2.2.2.2, h1.trans (hb.mono h1.size), h2'⟩
structure FileAt (w : World) (X : Nat) (f : FileD) (vr vb vm : Value) : Prop where
 blk : w.heap[X]? = some (.cells #[.int .i64 f.mail.id, .int .i64 f.mail.parent, .int .i64 f.mail.born, .string (strL f.mail.frm), vr, vb, vm, .int .i64 (f.good : Int)] 43 (0, 0))
 rs : RdS w vr f.mail.rcpts
 rb : RdB w vb f.mail.body
 rm : RdM w vm f.marks
theorem FileAt.below {w w' : World} {X : Nat} {f : FileD} {vr vb vm : Value} (h : FileAt w X f vr vb vm) (hb : Below w.heap.size w w') : FileAt w' X f vr vb vm :=
 ⟨(hb.block _ (Array.getElem?_eq_some_iff.1 h.blk).1).trans h.blk, h.rs.below (Nat.le_refl _) hb, h.rb.below (Nat.le_refl _) hb, h.rm.below (Nat.le_refl _) hb⟩
theorem FileAt.new {w : World} {f : FileD} {vr vb vm : Value} (hr : RdS w vr f.mail.rcpts) (hb : RdB w vb f.mail.body) (hm : RdM w vm f.marks) :
 FileAt (w.alloc (.cells #[.int .i64 f.mail.id, .int .i64 f.mail.parent, .int .i64 f.mail.born, .string (strL f.mail.frm), vr, vb, vm, .int .i64 (f.good : Int)] 43)) w.heap.size f vr vb vm :=
 ⟨heap_alloc_new w _, hr.below (Nat.le_refl _) ((Below.refl _ _).alloc (Nat.le_refl _) _), hb.below (Nat.le_refl _) ((Below.refl _ _).alloc (Nat.le_refl _) _), hm.below (Nat.le_refl _) ((Below.refl _ _).alloc (Nat.le_refl _) _)⟩
def FileRest (w0 : World) (X : Nat) (f : FileD) (vr vb vm : Value) (w : World) : Prop := Below w0.heap.size w0 w ∧ FileAt w X f vr vb vm
abbrev FileS (w0 : World) (X : Nat) (f : FileD) (vr vb vm : Value) (w' : World) : Prop :=
 w'.cell? ⟨X, 0, none⟩ = some (.int .i64 f.mail.id) ∧ w'.cell? ⟨X, 1, none⟩ = some (.int .i64 f.mail.parent) ∧ w'.cell? ⟨X, 2, none⟩ = some (.int .i64 f.mail.born) ∧ w'.cell? ⟨X, 3, none⟩ = some (.string (strL f.mail.frm)) ∧ w'.cell? ⟨X, 4, none⟩ = some vr ∧ w'.cell? ⟨X, 5, none⟩ = some vb ∧ w'.cell? ⟨X, 6, none⟩ = some vm ∧ w'.cell? ⟨X, 7, none⟩ = some (.int .i64 (f.good : Int)) ∧ FileRest w0 X f vr vb vm w'
theorem FileS.of {w0 w : World} {X : Nat} {f : FileD} {vr vb vm : Value} (h : FileRest w0 X f vr vb vm w) : FileS w0 X f vr vb vm w := by
 obtain ⟨c0, c1, c2, c3, c4, c5, c6, c7⟩ := (cells8 h.2.blk).1
 exact ⟨c0, c1, c2, c3, c4, c5, c6, c7, h⟩
theorem FileS.rest {w0 w : World} {X : Nat} {f : FileD} {vr vb vm : Value} (h : FileS w0 X f vr vb vm w) : FileRest w0 X f vr vb vm w := h.2.2.2.2.2.2.2.2
theorem FileS.go {w0 w w' : World} {X : Nat} {f : FileD} {vr vb vm : Value} (hb : Below w.heap.size w w') (h : FileS w0 X f vr vb vm w) : FileS w0 X f vr vb vm w' :=
 FileS.of ⟨h.rest.1.trans (hb.mono h.rest.1.size), h.rest.2.below hb⟩
theorem fileD_cut (m : MailD) (hs : m.small) (hg : m.good = true) (ks : List MarkD) (hk : ∀ k ∈ ks, k.good = true) (hl : ks.length ≤ 4096) (n : Nat) (hn : n ≤ (bytesM ks).length) :
 fileD (m.record ++ (bytesM ks).take n) = some ⟨m, ks.take (n / 28), m.record.length + 28 * (ks.take (n / 28)).length⟩ := by
 rw [fileD, decode_record m hs hg]
 simp only [Option.map_some]
 rw [List.drop_left, decodeM_cut ks n hk hl hn]
theorem fileD_full (m : MailD) (hs : m.small) (hg : m.good = true) (ks : List MarkD) (hk : ∀ k ∈ ks, k.good = true) (hl : ks.length ≤ 4096) :
 fileD (m.record ++ bytesM ks) = some ⟨m, ks, m.record.length + 28 * ks.length⟩ := by
 have h := fileD_cut m hs hg ks hk hl (bytesM ks).length (Nat.le_refl _)
 rw [List.take_of_length_le (Nat.le_refl _), bytesM_length, Nat.mul_div_cancel_left _ (by decide), List.take_of_length_le (Nat.le_refl _)] at h
 exact h
theorem idsNameD_len14 {n : Int} (h : 0 ≤ n ∧ n ≤ 999999999) : (idsNameD n).length = 14 := by
 rw [idsNameD_of h, List.length_append, numD_length (by omega)]; rfl
theorem ids_ne_name {n : Int} (h : 0 ≤ n ∧ n ≤ 999999999) (q : UInt8) (k : Int) : idsNameD n ≠ nameD q k := fun e => by
 have h1 := idsNameD_len14 h
 have h2 := nameD_len q k
 rw [e] at h1; omega
theorem vw_new (B : Nat) (r : Int) (hr : 0 ≤ r ∧ r ≤ 16777216) : Vw (newD B r) (fun _ => none) 0 0 r :=
 ⟨⟨⟨by show (-1 : Int) ≤ -1; omega, by show (-1 : Int) ≤ _; omega, by show 0 ≤ 256; omega, hr.1, hr.2⟩, List.Pairwise.nil, List.Pairwise.nil, fun p hp => (by cases hp), rfl, rfl⟩, fun _ => rfl, rfl, rfl, rfl⟩
def one1 : MailD := { one14 with id := 1 }
theorem one1_len : one1.record.length = 73 := by decide +kernel
theorem name_i1 : nameD 105 1 = [105, 45, 48, 48, 48, 48, 48, 48, 48, 48, 49] := by
 rw [nameD_of (by decide) (by decide) (by decide), numD_digs (by decide)]; rfl
theorem ans_commit {B fb ib mb : Nat} {er id : Int} {d' : StoD} (h : CommitR ⟨newD B 100000, fb, ib, mb, 0, 0, [], [], false⟩ one14 er id d') :
 er = 0 ∧ id = 1 ∧ d'.whr = [(1, 105)] ∧ (fsReadD d'.fs (nameD 105 1)) = (0, one1.record) := by
 rcases h with ⟨h, _⟩ | ⟨_, _, h, _⟩ | ⟨_, _, _, e1, id1, d1, hn, ha⟩
 ·rcases h with h | h
  ·have : goodNew one14 = true := one14_good
   rw [this] at h; cases h
  ·exact absurd rfl h
 ·cases h
 ·have hv0 : Vw (newD B 100000) (fun _ => none) 0 0 100000 := vw_new B _ (by decide)
  have hmo : moreB ⟨newD B 100000, fb, ib, mb, 0, 0, [], [], false⟩ = 16 := by show min ((0 : Int) + 16) 999999999 = 16; decide
  rcases hn with ⟨h, _⟩ | ⟨_, h, _⟩ | ⟨_, _, _, e2, d2, hm, h2⟩ | ⟨_, _, h, _⟩
  ·cases h
  ·exact absurd h (by show ¬ (0 : Int) = 999999999; decide)
  ·obtain ⟨q1, q2, q3, q4⟩ := hm.vw0 hv0 (by decide) (by rw [hmo]; decide) rfl rfl
   rw [hmo] at q2
   have hw := hm.same.2.2.2.2.1
   rcases h2 with ⟨h3, _⟩ | ⟨_, h3, h4, h5⟩
   ·exact absurd q1 h3
   ·have h4 : id1 = 1 := h4
    subst h4
    subst h3
    rcases ha with ⟨h6, _⟩ | ⟨_, e3, fs3, ho, h6⟩
    ·exact absurd rfl h6
    ·have hfs : d1.fs = d2.fs := by rw [h5]
     have hen : encD ({ one14 with id := 1 } : MailD) = one1.record := by
      unfold encD; rw [if_pos one14_good1]; rfl
     rw [hfs, hen] at ho
     have hne : nameD 116 1 ≠ nameD 105 1 := fun e => by
      rw [nameD_of (by decide) (by decide) (by decide), nameD_of (by decide) (by decide) (by decide)] at e
      injection e with e _; cases e
     obtain ⟨r1, r2⟩ := q2.lay (rightD_nameD (by decide) (by decide) (by decide)) (rightD_nameD (by decide) (by decide) (by decide)) hne (by rw [updC_other _ _ (ids_ne_name (by decide) _ _)]) (by decide) (by rw [one1_len]; decide) ho
     subst r1
     rcases h6 with ⟨_, h7, h8, h9⟩ | ⟨h7, _⟩ | ⟨h7, _⟩
     ·refine ⟨h7, h8, ?_, ?_⟩
      ·rw [h9]
       show d1.whr.put 1 105 = _
       rw [h5]
       show d2.whr.put 1 105 = _
       rw [hw]; rfl
      ·rw [h9]
       exact r2.read (rightD_nameD (by decide) (by decide) (by decide)) (updC_same _ _ _)
     ·exact absurd rfl h7
     ·cases h7
  ·exact absurd h (by show ¬ (0 : Int) < 0; decide)
theorem ans_file {d : StoD} (hw : d.whr = [(1, 105)]) (hr : fsReadD d.fs (nameD 105 1) = (0, one1.record)) : d.whr.at 1 = 105 ∧ sfileD d 1 = some ⟨one1, [], one1.record.length⟩ := by
 have h1 : d.whr.at 1 = 105 := by rw [hw]; rfl
 refine ⟨h1, ?_⟩
 have h2 := fileD_full one1 one14_small one14_good1 [] (fun k hk => by cases hk) (by decide)
 have h3 : one1.record ++ bytesM [] = one1.record := List.append_nil _
 rw [h3] at h2
 unfold sfileD
 rw [h1, hr, if_pos (by decide), if_pos rfl]
 exact h2
theorem own_slice {w : World} {base : Nat} {e : TypeId} {sz : Nat} {v : Value} {n : Nat} {xs : List Value} (h : w.ownsRow base e sz v n xs) : ∃ a c, v = .slice a n c := own_form0 h
set_option maxHeartbeats 16000000 in
theorem answers14_calls (w : World) (hg : GOk w) (hmax : MaxOk w) :
 Calls Tryz.prog 11 #[] w fun e w' => e = .returned (.bool true) ∧ Below w.heap.size w w' := by
 have hnew := new_calls 100000 w
 have hroom : roomD 100000 = 100000 := by decide
 rw [hroom] at hnew
 have Hnew := Lib.hid hnew
 have Hg := Lib.hid (And.intro hg hmax)
 clear hnew hroom hg hmax
 go_enter Tryz.func11, Tryz.ntmps11
 go_wp2_with fail
 refine (Hnew.out).mono ?_; rintro e w1 ⟨rfl, hF1, hb1⟩
 have hop := open0_calls (w.heap.size + 2) _ _ w1 hF1 rfl rfl (Hg.out.1.below hb1)
 obtain ⟨f, hf⟩ : ∃ f, w.heap.size + 2 = f := ⟨_, rfl⟩
 rw [hf] at hop hF1
 rw [hf]
 have Hop := Lib.hid hop
 have H1 := Lib.hid (And.intro hF1 (And.intro hb1 hf))
 clear hop hF1 hb1 hf
 go_wp2_with fail
 refine (Hop.out).mono ?_; rintro e w2 ⟨s, d, rfl, hA2, ⟨ib, mb, rfl, hib, hmb⟩, hns, hb2⟩
 have hb2' := H1.out.2.1.trans (hb2.mono H1.out.2.1.size)
 have hO2 : StoOk w2 s ⟨newD w.heap.size 100000, f, ib, mb, 0, 0, [], [], false⟩ (newRho w.heap.size) := by
  refine ⟨hA2, ⟨by show (-1 : Int) ≤ -1; omega, by show (-1 : Int) ≤ _; omega, by show 0 ≤ 256; omega, by show (0 : Int) ≤ 100000; omega, by show (100000 : Int) ≤ _; omega⟩, Hg.out.1.below hb2', Hg.out.2.below hb2', fun k hk => ?_, by show (0 : Int) ≤ 0 ∧ (0 : Int) ≤ 999999999; omega, by show 0 ≤ 1000; omega⟩
  have h0 := Hg.out.1.size
  have h1 := H1.out.2.1.size
  rcases hk with e | e | e | e
  ·have := newRho_has e; omega
  ·omega
  ·have : k = ib := e; omega
  ·have : k = mb := e; omega
 have hown : ∀ k, stoOwn s ⟨newD w.heap.size 100000, f, ib, mb, 0, 0, [], [], false⟩ (newRho w.heap.size) k → w.heap.size ≤ k := fun k hk => by
  have h1 := H1.out.2.1.size
  rcases hk with e | e | e | e
  ·exact (newRho_has e).1
  ·omega
  ·have : k = ib := e; omega
  ·have : k = mb := e; omega
 have Hown := Lib.hid hown
 clear hown
 have hone := one14_calls w2
 have Hone := Lib.hid hone
 have H2 := Lib.hid (And.intro hO2 hb2')
 clear hone hO2 hb2' hA2 hib hmb hns hb2
 go_wp2_with fail
 refine (Hone.out).mono ?_; rintro e w3 ⟨vr, vb, rfl, hr3, hb3, hnr, hnb, hor, hob, hbl3⟩
 have hO3 := H2.out.1.below hbl3
 have hMA : MailArg w3 s ⟨newD w.heap.size 100000, f, ib, mb, 0, 0, [], [], false⟩ (newRho w.heap.size) one14 vr vb :=
  ⟨hr3, hb3, hnb, fun k e => ⟨(hor k e).2, fun g => by have := stoOwn_lt H2.out.1.at_ g; have := (hor k e).1; omega⟩, fun k e => ⟨(hob k e).2, fun g => by have := stoOwn_lt H2.out.1.at_ g; have := (hob k e).1; omega⟩, one14_small.lens⟩
 have hcm := commit_calls s _ _ one14 vr vb w3 hO3 (by show 0 ≤ 800000; omega) (by show 0 ≤ 1000000; omega) hMA
 have Hcm := Lib.hid hcm
 have H3 := Lib.hid (And.intro hO3 (H2.out.2.trans (hbl3.mono H2.out.2.size)))
 clear hcm hMA hO3 hr3 hb3 hnr hnb hor hob hbl3
 generalize hmv : mailVal one14 vr vb = mv at Hcm ⊢
 clear hmv
 go_wp2_with fail
 refine (Hcm.out).mono ?_; rintro e w4 ⟨er, id, d, ρ, rfl, hout, hO4, hT4, hg4⟩
 obtain ⟨rfl, rfl, hwh, hrd⟩ := ans_commit hout
 obtain ⟨hat, hfl⟩ := ans_file hwh hrd
 have hb4 : Below w.heap.size w w4 := by
  have hk := hT4.keeps.below (B := w.heap.size) (fun i e => Hown.out i e) H3.out.2.size
  exact H3.out.2.trans hk
 have hfc := sfile_calls s d ρ w4 hO4.at_ 1 (by decide) hO4.g hO4.mx
 rw [hfl] at hfc
 have Hfc := Lib.hid hfc
 have H4 := Lib.hid (And.intro hO4 (And.intro hb4 hat))
 clear hfc hO4 hT4 hg4 hout hwh hrd hat hfl hb4
 go_wp2_with fail
 refine (Hfc.out).mono ?_; rintro e w5 ⟨ur, ub, um, rfl, o1, o2, o3, hb5⟩
 obtain ⟨u1, k1, rfl⟩ := own_slice o1
 obtain ⟨u2, k2, rfl⟩ := own_slice o2
 obtain ⟨u3, k3, rfl⟩ := own_slice o3
 have hO5 := H4.out.1.below hb5
 have hb5' := H4.out.2.1.trans (hb5.mono H4.out.2.1.size)
 obtain ⟨n1, hn1⟩ : ∃ n1, ((some (⟨one1, [], one1.record.length⟩ : FileD)).getD FileD.zero).mail.rcpts.length = n1 := ⟨_, rfl⟩
 obtain ⟨n2, hn2⟩ : ∃ n2, ((some (⟨one1, [], one1.record.length⟩ : FileD)).getD FileD.zero).mail.body.length = n2 := ⟨_, rfl⟩
 obtain ⟨n3, hn3⟩ : ∃ n3, ((some (⟨one1, [], one1.record.length⟩ : FileD)).getD FileD.zero).marks.length = n3 := ⟨_, rfl⟩
 have he : ∀ a b c, fileVal ((some (⟨one1, [], one1.record.length⟩ : FileD)).getD FileD.zero) a b c = .agg #[.int .i64 1, .int .i64 0, .int .i64 0, .string (strL []), a, b, c, .int .i64 (one1.record.length : Int)] := fun _ _ _ => rfl
 have hs : (some (⟨one1, [], one1.record.length⟩ : FileD)).isSome = true := rfl
 rw [he, hs, hn1, hn2, hn3]
 obtain ⟨gd, hgd⟩ : ∃ gd : Int, (one1.record.length : Int) = gd := ⟨_, rfl⟩
 obtain ⟨se, hse⟩ : ∃ se, strL [] = se := ⟨_, rfl⟩
 rw [hgd, hse]
 obtain ⟨W, hW⟩ : ∃ W, w5.alloc (.cells #[.int .i64 1, .int .i64 0, .int .i64 0, .string se, .slice u1 n1 k1, .slice u2 n2 k2, .slice u3 n3 k3, .int .i64 gd] 43) = W := ⟨_, rfl⟩
 have hbW : Below w5.heap.size w5 W := by rw [← hW]; exact (Below.refl _ _).alloc (Nat.le_refl _) _
 have hX : W.heap[w5.heap.size]? = some (.cells #[.int .i64 1, .int .i64 0, .int .i64 0, .string se, .slice u1 n1 k1, .slice u2 n2 k2, .slice u3 n3 k3, .int .i64 gd] 43 (0, 0)) := by rw [← hW]; exact heap_alloc_new w5 _
 have hOW := hO5.below hbW
 have hwh := where_calls s d ρ W hOW.at_ 1 (by decide)
 rw [H4.out.2.2] at hwh
 have hnm := fun w1 (hg1 : GOk w1) => name_calls 105 1 w1 (hg1.int _)
 have hst : strL (nameD 105 1) = ⟨#[105, 45, 48, 48, 48, 48, 48, 48, 48, 48, 49]⟩ := by rw [name_i1]; rfl
 rw [hst] at hnm
 have x0 := (cells8 hX).1.1
 have Hwh := Lib.hid hwh
 have Hnm := Lib.hid hnm
 have H5 := Lib.hid (And.intro hOW (hb5'.trans (hbW.mono hb5'.size)))
 clear hwh hnm hst hOW hX hbW hb5' hO5 hb5 o1 o2 o3 hn1 hn2 hn3 he hs hgd hse
 subst hW
 go_wp2_with fail
 refine (Hwh.out).mono ?_; rintro e w6 ⟨rfl, hb6⟩
 have hO6 := H5.out.1.below hb6
 have hb6' := H5.out.2.trans (hb6.mono H5.out.2.size)
 have Hnm6 := Lib.hid (Hnm.out w6 hO6.g)
 clear hO6 hb6 x0
 go_wp2_with fail
 refine (Hnm6.out).mono ?_; rintro e w7 ⟨rfl, hb7⟩
 have hb7' := hb6'.trans (hb7.mono hb6'.size)
 clear hb7 hb6'
 go_wp2
 go_ret
 exact ⟨rfl, hb7'⟩
end Go.Proofs.YtffnbkmigapmjaaGreatDoor
