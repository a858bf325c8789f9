/-
  A disk that is well: a file is laid anew; a number more (plain).
  The walk of ref10.Digits: nine digits.
  The walk of pillarboxref10.Good.
-/
import Derived.Test.YtffnbkmigapmjaaGreatDoorS14
import Derived.Test.YtffnbkmigapmjaaGreatDoorS24
import Derived.Test.YtffnbkmigapmjaaGreatDoorS31
import Derived.Test.YtffnbkmigapmjaaGreatDoorS44
set_option linter.unusedSimpArgs false
set_option linter.unusedVariables false
set_option maxRecDepth 100000
namespace Go.Proofs.YtffnbkmigapmjaaGreatDoor
theorem nameCh_digit {s : List UInt8} {a v : Nat} (h : Lib.decFrom a s = some v) : s.all nameCh = true := by
  rw [List.all_eq_true]
  intro c hc
  obtain ⟨i, hi, rfl⟩ := List.getElem_of_mem hc
  obtain ⟨d, hd⟩ := Lib.digit_of_decFrom _ _ _ h i s[i] (List.getElem?_eq_getElem hi)
  obtain ⟨h1, h2, _⟩ := Lib.digitVal_eq hd
  have h1' : 48 ≤ s[i].toNat := h1
  have h2' : s[i].toNat ≤ 57 := h2
  unfold nameCh
  exact decide_eq_true ⟨by omega, by omega, by omega⟩
theorem rightD_app {a : Nm} {n : Nat} (ha : a.all nameCh = true) (h0 : a ≠ []) (hl : a.length ≤ 71) (hn : n ≤ 999999999) : rightD (a ++ numD n) = true := by
  unfold rightD
  rw [List.all_append, ha, nameCh_digit (decFrom_numD n), Bool.and_true, Bool.true_and, Bool.and_eq_true]
  have := numD_length hn
  exact ⟨decide_eq_true (by simp [h0]), decide_eq_true (by rw [List.length_append]; omega)⟩
theorem rightD_nameD {q : UInt8} {n : Int} (h0 : allQ.contains q = true) (h1 : 1 ≤ n) (h2 : n ≤ 999999999) : rightD (nameD q n) = true := by
  rw [nameD_of h0 h1 h2]
  refine rightD_app ?_ (by simp) (by simp) (by omega)
  have hq : nameCh q = true := by
    have hm : q ∈ allQ := by simpa using h0
    have hall : allQ.all nameCh = true := by decide
    exact List.all_eq_true.1 hall q hm
  rw [List.all_cons, hq]; decide
theorem rightD_ids {n : Int} (h : 0 ≤ n ∧ n ≤ 999999999) : rightD (idsNameD n) = true := by
  rw [idsNameD_of h]
  exact rightD_app (by decide) (by decide) (by decide) (by omega)
theorem run_good {S : Nat → FsD → Int → FsD → Prop} {V : Nat → FsD → Prop} {n : Nat} {d : FsD} (h0 : V 0 d) (hs : ∀ i a er b, i < n → V i a → S i a er b → er = 0 ∧ V (i + 1) b) :
    ∀ er fs, Outcome S n d er fs → er = 0 ∧ V n fs := by
  have hr : ∀ i a, i ≤ n → Run S d i a → V i a := by
    intro i
    induction i with
    | zero => intro a _ h; rw [h.zero_inv]; exact h0
    | succ i ih =>
      intro a hi h
      obtain ⟨b, h1, h2⟩ := h.inv
      exact (hs i b 0 a (by omega) (ih b (by omega) h1) h2).2
  intro er fs ho
  rcases ho with ⟨rfl, h⟩ | ⟨hne, i, a, hi, h1, h2⟩
  · exact ⟨rfl, hr n fs (Nat.le_refl _) h⟩
  · exact absurd (hs i a er fs hi (hr i a (by omega) h1) h2).1 hne
section
variable {d : FsD} {C : Cont} {N U : Nat} {R : Int}
theorem Vw.lay (h : Vw d C N U R) {tmp nm : Nm} {bs : List UInt8} (ht : rightD tmp = true) (hn : rightD nm = true) (hne : tmp ≠ nm) (hC : C tmp = none) (hN : N < 256) (hR : (bs.length : Int) ≤ R - U) {er : Int} {fs : FsD} (ho : Outcome (layS tmp nm bs) 6 d er fs) :
    er = 0 ∧ Vw fs (updC C nm (some bs)) (if (C nm).isSome then N else N + 1) (U + bs.length - ((C nm).getD []).length) R := by
  let C1 : Cont := updC C tmp (some [])
  let C2 : Cont := updC C1 tmp (some ([] ++ bs))
  let C3 : Cont := updC (updC C2 nm (some bs)) tmp none
  have e2 : C2 tmp = some bs := updC_same _ _ _
  have e2n : C2 nm = C nm := by rw [show C2 nm = C1 nm from updC_other _ _ hne]; exact updC_other _ _ hne
  let V : Nat → FsD → Prop := fun i a => match i with
    | 0 => Vw a C N U R
    | 1 => Vw a C N U R
    | 2 => Vw a C1 (N + 1) U R
    | 3 => Vw a C2 (N + 1) (U + bs.length) R
    | 4 => Vw a C2 (N + 1) (U + bs.length) R
    | _ => Vw a C3 (if (C2 nm).isSome then N + 1 - 1 else N + 1) (U + bs.length - ((C2 nm).getD []).length) R
  obtain ⟨r1, r2⟩ := run_good (V := V) (n := 6) (d := d) (S := layS tmp nm bs) h (by
    intro i a er b hi hV hS
    match i, hi, hV, hS with
    | 0, _, hV, ⟨v, lv, he, hb⟩ =>
      have hV : Vw a C N U R := hV
      rw [hV.unlink_none ht hC] at he hb
      subst he; subst hb
      exact ⟨rfl, hV⟩
    | 1, _, hV, ⟨x, v, lv, he, hb⟩ =>
      have hV : Vw a C N U R := hV
      obtain ⟨q1, q2⟩ := hV.create ht hC hN x v lv
      subst he; subst hb
      exact ⟨q1, q2⟩
    | 2, _, hV, ⟨row, he, hb⟩ =>
      have hV : Vw a C1 (N + 1) U R := hV
      obtain ⟨q1, q2⟩ := hV.append (b := []) (bs := bs) ht (updC_same _ _ _) hR row
      subst he; subst hb
      exact ⟨q1, q2⟩
    | 3, _, hV, ⟨he, hb⟩ =>
      have hV : Vw a C2 (N + 1) (U + bs.length) R := hV
      obtain ⟨q1, q2⟩ := hV.sync ht e2
      subst he; subst hb
      exact ⟨q1, q2⟩
    | 4, _, hV, ⟨v, lv, he, hb⟩ =>
      have hV : Vw a C2 (N + 1) (U + bs.length) R := hV
      obtain ⟨q1, q2⟩ := hV.rename ht hn hne e2 v lv
      subst he; subst hb
      exact ⟨q1, q2⟩
    | 5, _, hV, ⟨ms, he, hb⟩ =>
      have hV : Vw a C3 (if (C2 nm).isSome then N + 1 - 1 else N + 1) (U + bs.length - ((C2 nm).getD []).length) R := hV
      obtain ⟨q1, q2⟩ := hV.dirSync ms
      subst he; subst hb
      exact ⟨q1, q2⟩) er fs ho
  have r2 : Vw fs C3 (if (C2 nm).isSome then N + 1 - 1 else N + 1) (U + bs.length - ((C2 nm).getD []).length) R := r2
  rw [e2n] at r2
  refine ⟨r1, ?_⟩
  have hN1 : N + 1 - 1 = N := by omega
  rw [hN1] at r2
  refine r2.congr (fun m => ?_)
  by_cases h1 : tmp = m
  · rw [← h1]
    show updC (updC C2 nm (some bs)) tmp none tmp = updC C nm (some bs) tmp
    rw [updC_same, updC_other _ _ (fun e => hne e.symm), hC]
  · show updC (updC C2 nm (some bs)) tmp none m = updC C nm (some bs) m
    rw [updC_other _ _ h1]
    by_cases h2 : nm = m
    · rw [← h2, updC_same, updC_same]
    · rw [updC_other _ _ h2, updC_other _ _ h2]
      show updC C1 tmp _ m = _
      rw [updC_other _ _ h1]
      exact updC_other _ _ h1
end
section
variable {d d' : StoD} {C : Cont} {N U : Nat} {R er : Int}
theorem MoreR.vw0 (h : MoreR d er d') (hv : Vw d.fs C N U R) (hN : N < 256) (hb : 0 ≤ moreB d ∧ moreB d ≤ 999999999) (hnew : C (idsNameD (moreB d)) = none) (hnf : d.nfile = []) :
    er = 0 ∧ Vw d'.fs (updC C (idsNameD (moreB d)) (some [])) (N + 1) U R ∧ d'.bound = moreB d ∧ d'.nfile = idsNameD (moreB d) := by
  obtain ⟨x, v, lv, h⟩ := h
  obtain ⟨q1, q2⟩ := hv.create (rightD_ids hb) hnew hN x v lv
  rcases h with ⟨h1, _⟩ | ⟨_, f1, ms, f2, e2, h1, h2, h3⟩
  · exact absurd q1 h1
  · rw [← h1] at q2
    obtain ⟨q3, q4⟩ := q2.dirSync ms
    have e2' : e2 = (dirSyncD f1 ms).1 := congrArg Prod.fst h2
    have f2' : f2 = (dirSyncD f1 ms).2 := congrArg Prod.snd h2
    rw [← e2'] at q3
    rw [← f2'] at q4
    rcases h3 with ⟨h4, _⟩ | ⟨_, _, h5, h6⟩ | ⟨_, h5, _⟩
    · exact absurd q3 h4
    · subst h6; exact ⟨h5, q4, rfl, rfl⟩
    · exact absurd hnf h5
theorem MoreR.vw1 (h : MoreR d er d') (hv : Vw d.fs C N U R) (hN : N < 256) (hb : 0 ≤ moreB d ∧ moreB d ≤ 999999999) (hnew : C (idsNameD (moreB d)) = none) {b0 : List UInt8} (hnf : C d.nfile = some b0) (hr : rightD d.nfile = true) :
    er = 0 ∧ Vw d'.fs (updC (updC C (idsNameD (moreB d)) (some [])) d.nfile none) N (U - b0.length) R ∧ d'.bound = moreB d ∧ d'.nfile = idsNameD (moreB d) := by
  obtain ⟨x, v, lv, h⟩ := h
  obtain ⟨q1, q2⟩ := hv.create (rightD_ids hb) hnew hN x v lv
  rcases h with ⟨h1, _⟩ | ⟨_, f1, ms, f2, e2, h1, h2, h3⟩
  · exact absurd q1 h1
  · rw [← h1] at q2
    obtain ⟨q3, q4⟩ := q2.dirSync ms
    have e2' : e2 = (dirSyncD f1 ms).1 := congrArg Prod.fst h2
    have f2' : f2 = (dirSyncD f1 ms).2 := congrArg Prod.snd h2
    rw [← e2'] at q3
    rw [← f2'] at q4
    have hne : idsNameD (moreB d) ≠ d.nfile := fun e => by rw [e, hnf] at hnew; cases hnew
    rcases h3 with ⟨h4, _⟩ | ⟨_, h5, _⟩ | ⟨_, _, v2, lv2, h5, h6⟩
    · exact absurd q3 h4
    · rw [h5] at hr; exact absurd hr (by decide)
    · obtain ⟨q5, q6⟩ := q4.unlink hr (by rw [updC_other _ _ hne]; exact hnf) v2 lv2
      subst h6
      exact ⟨h5.trans q5, q6, rfl, rfl⟩
end
end Go.Proofs.YtffnbkmigapmjaaGreatDoor

set_option linter.unusedSimpArgs false
set_option linter.unusedVariables false
set_option maxRecDepth 100000
namespace Go.Proofs.YtffnbkmigapmjaaGreatDoor
open Go.RowKit Go.Maps
def digs : Nat → Nat → List UInt8
  | 0, _ => []
  | k + 1, n => digs k (n / 10) ++ [UInt8.ofNat (48 + n % 10)]
theorem digs_zero : ∀ k, digs k 0 = List.replicate k 48
  | 0 => rfl
  | k + 1 => by
    rw [digs, show 0 / 10 = 0 from rfl, digs_zero k, List.replicate_succ']; rfl
theorem digs_numD : ∀ (k n : Nat), n < 10 ^ (k + 1) → digs (k + 1) n = List.replicate (k + 1 - (Lib.decDigits n).length) 48 ++ Lib.decDigits n
  | 0, n, h => by
    have h10 : n < 10 := by simpa using h
    rw [Lib.decDigits, dif_pos h10]
    show [] ++ [UInt8.ofNat (48 + n % 10)] = _
    rw [Nat.mod_eq_of_lt h10]; rfl
  | k + 1, n, h => by
    rw [digs, Lib.decDigits]
    by_cases h10 : n < 10
    · rw [dif_pos h10, show n / 10 = 0 by omega, digs_zero, Nat.mod_eq_of_lt h10]; rfl
    · rw [dif_neg h10, digs_numD k (n / 10) (by rw [Nat.pow_succ] at h; omega), List.length_append, List.append_assoc]
      rw [show k + 1 + 1 - ((Lib.decDigits (n / 10)).length + [UInt8.ofNat (48 + n % 10)].length) = k + 1 - (Lib.decDigits (n / 10)).length by simp only [List.length_singleton]; omega]
theorem numD_digs {n : Nat} (h : n ≤ 999999999) : numD n = digs 9 n := (digs_numD 8 n (by omega)).symm
theorem u8_dig (r : Nat) (h : r < 10) : IntKind.u8.wrap (48 + (r : Int)) = 48 + (r : Int) := IntWalk.u8_in _ (by omega)
theorem i64_dig (r : Nat) (h : r < 10) : IntKind.i64.wrap (48 + (r : Int)) = 48 + (r : Int) := IntWalk.i64_in _ (by omega)
theorem w64_dig (r : Nat) (h : r < 10) : wrap64 (48 + (r : Int)) = 48 + (r : Int) := IntWalk.wrap64_in _ (by omega)
set_option maxHeartbeats 4000000 in
theorem digits_calls (n : Nat) (hn : n ≤ 999999999) (w : World) :
    Calls Tryz.prog 10 #[.int .i64 (n : Int)] w fun e w' => e = .returned (.string (strL (numD n))) ∧ Below w.heap.size w w' := by
  have Hst : Hid (digs (9 - 0) n ++ [] = numD n) := Lib.hid (by rw [List.append_nil, numD_digs hn])
  have he0 : (⟨#[]⟩ : ByteArray) = strL [] := rfl
  have He0 := Lib.hid he0
  clear he0
  go_enter Tryz.func10, Tryz.ntmps10
  go_wp2
  go_loopw [0, 3, 4] (fun m s i wr => ∃ j k : Nat, ∃ t : List UInt8, j ≤ 9 ∧ i = .int .i64 j ∧ m = .int .i64 k ∧ k ≤ 999999999 ∧ s = .string (strL t) ∧ t.length = j ∧ Hid (digs (9 - j) k ++ t = numD n) ∧ Below w.heap.size w wr) (fun _ _ i _ => 9 - (intOf i).toNat)
  case atStart => exact ⟨0, n, [], by omega, rfl, rfl, hn, by rw [He0.out], rfl, Hst, Below.refl _ _⟩
  case round =>
    obtain ⟨j, k, t, hj, rfl, rfl, hk, rfl, htl, Hd, hbw⟩ := hrel
    by_cases hlt : j < 9
    · have hj1 : (j : Int) < 9 := by omega
      obtain ⟨c, hc⟩ : ∃ c : UInt8, UInt8.ofNat (48 + k % 10) = c := ⟨_, rfl⟩
      have hcn : c.toNat = 48 + k % 10 := by rw [← hc]; simp; omega
      have hrem : (k : Int).tmod 10 = ((k % 10 : Nat) : Int) := by rw [Int.tmod_eq_emod_of_nonneg (by omega)]; rfl
      have hquo : (k : Int).tdiv 10 = ((k / 10 : Nat) : Int) := by rw [Int.tdiv_eq_ediv_of_nonneg (by omega)]; rfl
      have hnew : Hid (digs (9 - (j + 1)) (k / 10) ++ (c :: t) = numD n) := Lib.hid (by
        have h1 := Hd.out
        rw [show 9 - j = (9 - (j + 1)) + 1 by omega, digs, List.append_assoc, hc] at h1
        exact h1)
      obtain ⟨r, hr⟩ : ∃ r : Nat, k % 10 = r := ⟨_, rfl⟩
      obtain ⟨k2, hk2⟩ : ∃ k2 : Nat, k / 10 = k2 := ⟨_, rfl⟩
      have hk2l : k2 ≤ 999999999 := by omega
      rw [hr] at hrem hcn
      rw [hk2] at hquo hnew
      have hrl : r < 10 := by omega
      have hw1 : IntKind.i64.wrap (48 + (r : Int)) = 48 + (r : Int) := i64_dig r hrl
      have hw2 : wrap64 (48 + (r : Int)) = 48 + (r : Int) := w64_dig r hrl
      have hu8 : IntKind.u8.wrap (48 + (r : Int)) = 48 + (r : Int) := u8_dig r hrl
      have hW1 : (wr.alloc (.cells #[.int .u8 (48 + (r : Int))] 5)).heap[wr.heap.size]? = some (.cells ([c].map u8v).toArray 5 (0, 0)) := by
        have he : (48 + (r : Int)) = (c.toNat : Int) := by omega
        rw [he]; exact heap_alloc_new wr _
      have hconv := run_strL (rdB_row hW1 (cap := 1) (by simp) (by simp))
      have hconv : (convert 22 9 (.slice (some ⟨wr.heap.size, 0, none⟩) 1 1)).run Tryz.prog (wr.alloc (.cells #[.int .u8 (48 + (r : Int))] 5)) = .ok (.string (strL [c])) (wr.alloc (.cells #[.int .u8 (48 + (r : Int))] 5)) := hconv
      have happ : strL [c] ++ strL t = strL (c :: t) := strL_append [c] t
      have hsz : (strL [c]).size = 1 := by rw [strL_size]; rfl
      have hsz2 : (strL t).size = j := by rw [strL_size, htl]
      have Happ := Lib.hid happ
      obtain ⟨sc, hsc⟩ : ∃ sc, strL [c] = sc := ⟨_, rfl⟩
      obtain ⟨st, hst⟩ : ∃ st, strL t = st := ⟨_, rfl⟩
      rw [hsc] at hconv Happ hsz
      rw [hst] at Happ hsz2
      rw [hst]
      have hi1 : ¬ (9223372036854775807 < sc.size + st.size) := by omega
      have hbw1 := hbw.alloc hbw.size (.cells #[.int .u8 (48 + (r : Int))] 5)
      have Htl := Lib.hid htl
      clear hr hk2 hc Hd hW1 happ hsc hst hsz hsz2 hcn htl
      go_wp2
      go_roundw
      case rel => exact ⟨j + 1, k2, c :: t, by omega, by simp, by simp, hk2l, by rw [Happ.out], by rw [List.length_cons, Htl.out], hnew, hbw1⟩
      case measure => simp [intOf] <;> omega
    · have hje : j = 9 := by omega
      subst hje
      have Hfin : Hid (t = numD n) := Lib.hid (by have h1 := Hd.out; rw [show 9 - 9 = 0 from rfl, digs, List.nil_append] at h1; exact h1)
      clear Hd
      go_wp2
      go_ret
      rw [Hfin.out]
      exact ⟨rfl, hbw⟩
end Go.Proofs.YtffnbkmigapmjaaGreatDoor

set_option linter.unusedSimpArgs false
set_option linter.unusedVariables false
namespace Go.Proofs.YtffnbkmigapmjaaGreatDoor
open Go.RowKit
set_option maxRecDepth 100000 in
set_option maxHeartbeats 8000000 in
theorem refGood_calls (m : MailD) (vr vb : Value) (w : World) (hr : RdS w vr m.rcpts) (hb : RdB w vb m.body) (hsr : ∀ l ∈ m.rcpts, l.length ≤ 4294967270) (hsf : m.frm.length ≤ 4294967270) :
    Calls Tryz.prog 38 #[mailVal m vr vb] w fun e w' => e = .returned (.bool m.good) ∧ Below w.heap.size w w' := by
  obtain ⟨ar, capr, rfl, hlr, hcr⟩ := hr.form
  obtain ⟨ab, capb, rfl, hlb, hcb⟩ := hb.form
  obtain ⟨g, hg⟩ : ∃ g, m.good = g := ⟨_, rfl⟩
  rw [hg]
  obtain ⟨id, parent, born, frm, rcpts, body⟩ := m
  simp only at hr hb hsr hsf hlr hlb
  unfold MailD.good at hg
  unfold mailVal
  simp only at hg ⊢
  obtain ⟨W, hW⟩ : ∃ W, w.alloc (.cells #[.int .i64 id, .int .i64 parent, .int .i64 born, .string (strL frm), .slice ar rcpts.length capr, .slice ab body.length capb] 29) = W := ⟨_, rfl⟩
  have hbW : Below w.heap.size w W := by rw [← hW]; exact (Below.refl _ _).alloc (Nat.le_refl _) _
  have hblk : W.heap[w.heap.size]? = some (.cells #[.int .i64 id, .int .i64 parent, .int .i64 born, .string (strL frm), .slice ar rcpts.length capr, .slice ab body.length capb] 29 (0, 0)) := by rw [← hW]; exact heap_alloc_new w _
  have hbd := refBody_calls (.slice ab body.length capb) body W (hb.below (Nat.le_refl _) hbW)
  have hbx := fun W => refBox_calls (strL frm) W (by rw [strL_size]; exact hsf)
  have hbr := fun (l : List UInt8) W (h : l ∈ rcpts) => refBox_calls (strL l) W (by rw [strL_size]; exact hsr l h)
  simp only [strL_data] at hbx hbr
  have hcell : ∀ W', Below W.heap.size W W' → ∀ (j : Nat) v, (#[Value.int .i64 id, .int .i64 parent, .int .i64 born, .string (strL frm), .slice ar rcpts.length capr, .slice ab body.length capb] : Array Value)[j]? = some v → W'.cell? ⟨w.heap.size, j, none⟩ = some v := by
    intro W' hB j v hv
    rw [cell_of_row _ _ _ _ _ _ ((hB.block _ (Array.getElem?_eq_some_iff.1 hblk).1).trans hblk)]
    exact hv
  have hRW : ∀ W', Below W.heap.size W W' → RdS W' (.slice ar rcpts.length capr) rcpts := fun W' hB => (hr.below (Nat.le_refl _) hbW).below (Nat.le_refl _) hB
  have c0 := hcell W (Below.refl _ _) 0 _ rfl
  have c1 := hcell W (Below.refl _ _) 1 _ rfl
  have c2 := hcell W (Below.refl _ _) 2 _ rfl
  have c4 := hcell W (Below.refl _ _) 4 _ rfl
  have c5 := hcell W (Below.refl _ _) 5 _ rfl
  have hsf0 := strL_size frm
  generalize bodyB body = p6 at hbd hg
  generalize boxB frm = p8 at hbx hg
  have Hg := Lib.hid hg
  have Hbd := Lib.hid hbd
  have Hbx := Lib.hid hbx
  have Hbr := Lib.hid hbr
  have Hcell := Lib.hid hcell
  have HRW := Lib.hid hRW
  have hfl : frm.length = 0 ↔ (strL frm).size = 0 := by rw [hsf0]
  have Hfl := Lib.hid hfl
  clear hg hbd hbx hbr hcell hRW hr hb hsr hsf hblk hsf0 hfl
  have hlri : (rcpts.length : Int) ≤ 9223372036854775807 := by omega
  have hlbi : (body.length : Int) ≤ 9223372036854775807 := by omega
  by_cases k0 : id < 1
  · have hgf := Hg.out
    rw [decide_eq_false (by omega : ¬ (1 ≤ id ∧ id ≤ 999999999))] at hgf
    simp only [Bool.false_and, Bool.and_false] at hgf
    subst hgf
    clear Hg
    go_enter Tryz.func38, Tryz.ntmps38
    go_wp2
    go_ret
    exact ⟨rfl, hbW⟩
  by_cases k1 : 999999999 < id
  · have hgf := Hg.out
    rw [decide_eq_false (by omega : ¬ (1 ≤ id ∧ id ≤ 999999999))] at hgf
    simp only [Bool.false_and, Bool.and_false] at hgf
    subst hgf
    clear Hg
    go_enter Tryz.func38, Tryz.ntmps38
    go_wp2
    go_ret
    exact ⟨rfl, hbW⟩
  by_cases k2 : parent < 0
  · have hgf := Hg.out
    rw [decide_eq_false (by omega : ¬ (0 ≤ parent ∧ parent ≤ id - 1))] at hgf
    simp only [Bool.false_and, Bool.and_false] at hgf
    subst hgf
    clear Hg
    go_enter Tryz.func38, Tryz.ntmps38
    go_wp2
    go_ret
    exact ⟨rfl, hbW⟩
  by_cases k3 : id ≤ parent
  · have hgf := Hg.out
    rw [decide_eq_false (by omega : ¬ (0 ≤ parent ∧ parent ≤ id - 1))] at hgf
    simp only [Bool.false_and, Bool.and_false] at hgf
    subst hgf
    clear Hg
    go_enter Tryz.func38, Tryz.ntmps38
    go_wp2
    go_ret
    exact ⟨rfl, hbW⟩
  by_cases k4 : born < 0
  · have hgf := Hg.out
    rw [decide_eq_false (by omega : ¬ (0 ≤ born ∧ born ≤ 1099511627776))] at hgf
    simp only [Bool.false_and, Bool.and_false] at hgf
    subst hgf
    clear Hg
    go_enter Tryz.func38, Tryz.ntmps38
    go_wp2
    go_ret
    exact ⟨rfl, hbW⟩
  by_cases k5 : 1099511627776 < born
  · have hgf := Hg.out
    rw [decide_eq_false (by omega : ¬ (0 ≤ born ∧ born ≤ 1099511627776))] at hgf
    simp only [Bool.false_and, Bool.and_false] at hgf
    subst hgf
    clear Hg
    go_enter Tryz.func38, Tryz.ntmps38
    go_wp2
    go_ret
    exact ⟨rfl, hbW⟩
  by_cases k6 : (rcpts.length : Int) < 1
  · have hgf := Hg.out
    rw [decide_eq_false (by omega : ¬ (1 ≤ (rcpts.length : Int) ∧ (rcpts.length : Int) ≤ 8))] at hgf
    simp only [Bool.false_and, Bool.and_false] at hgf
    subst hgf
    clear Hg
    go_enter Tryz.func38, Tryz.ntmps38
    go_wp2
    go_ret
    exact ⟨rfl, hbW⟩
  by_cases k7 : 8 < (rcpts.length : Int)
  · have hgf := Hg.out
    rw [decide_eq_false (by omega : ¬ (1 ≤ (rcpts.length : Int) ∧ (rcpts.length : Int) ≤ 8))] at hgf
    simp only [Bool.false_and, Bool.and_false] at hgf
    subst hgf
    clear Hg
    go_enter Tryz.func38, Tryz.ntmps38
    go_wp2
    go_ret
    exact ⟨rfl, hbW⟩
  by_cases k8 : 8192 < (body.length : Int)
  · have hgf := Hg.out
    rw [decide_eq_false (by omega : ¬ (body.length ≤ 8192))] at hgf
    simp only [Bool.false_and, Bool.and_false] at hgf
    subst hgf
    clear Hg
    go_enter Tryz.func38, Tryz.ntmps38
    go_wp2
    go_ret
    exact ⟨rfl, hbW⟩
  have hg := Hg.out
  rw [decide_eq_true (by omega : 1 ≤ id ∧ id ≤ 999999999)] at hg
  rw [decide_eq_true (by omega : 0 ≤ parent ∧ parent ≤ id - 1)] at hg
  rw [decide_eq_true (by omega : 0 ≤ born ∧ born ≤ 1099511627776)] at hg
  rw [decide_eq_true (by omega : 1 ≤ (rcpts.length : Int) ∧ (rcpts.length : Int) ≤ 8)] at hg
  rw [decide_eq_true (by omega : body.length ≤ 8192)] at hg
  simp only [Bool.true_and] at hg
  have Hg2 := Lib.hid hg
  clear Hg hg
  cases p6
  · have hgf := Hg2.out
    simp only [Bool.false_and] at hgf
    subst hgf
    clear Hg2
    go_enter Tryz.func38, Tryz.ntmps38
    go_wp2_with fail
    refine (Hbd.out).mono ?_; rintro e w6 ⟨rfl, rfl⟩
    go_wp2
    go_ret
    exact ⟨rfl, hbW⟩
  go_enter Tryz.func38, Tryz.ntmps38
  go_wp2_with fail
  refine (Hbd.out).mono ?_; rintro e w6 ⟨rfl, hw6⟩
  subst hw6
  go_wp2
  go_loopw [3] (fun i wr => ∃ j : Nat, j ≤ rcpts.length ∧ i = .int .i64 j ∧ (rcpts.take j).all boxB = true ∧ Below w6.heap.size w6 wr) (fun i _ => rcpts.length - (intOf i).toNat)
  case atStart => exact ⟨0, Nat.zero_le _, rfl, rfl, Below.refl _ _⟩
  case round =>
    obtain ⟨j, hj, rfl, hall, hbw⟩ := hrel
    have c4' := Hcell.out wr hbw 4 _ rfl
    have c3' := Hcell.out wr hbw 3 _ rfl
    have hbw' := hbW.trans (hbw.mono hbW.size)
    by_cases hlt : j < rcpts.length
    · obtain ⟨l, hl⟩ : ∃ l, rcpts[j]? = some l := ⟨_, List.getElem?_eq_getElem hlt⟩
      obtain ⟨b, off, cap', hsl, hbl, hc⟩ := RdS.at (HRW.out wr hbw) hl
      cases hsl
      have hcall := fun W => Hbr.out l W (List.mem_of_getElem? hl)
      have htk : boxB l = true → (rcpts.take (j + 1)).all boxB = true := fun h => by rw [take_snoc hl, List.all_append, hall]; simpa using h
      have hno : boxB l = false → g = false := fun h => by
        have : rcpts.all boxB = false := by rw [List.all_eq_false]; exact ⟨l, List.mem_of_getElem? hl, by rw [h]; simp⟩
        rw [← Hg2.out, this]; simp
      generalize boxB l = q at hcall htk hno
      have Hcall := Lib.hid hcall
      have Htk := Lib.hid htk
      have Hno := Lib.hid hno
      have hj0 : (0 : Int) ≤ (j : Int) := by omega
      have hj1 : (j : Int) < (rcpts.length : Int) := by omega
      clear hcall htk hno hall hl
      generalize strL l = sl at hc Hcall
      cases q
      · go_wp2_with fail
        refine (Hcall.out _).mono ?_; rintro e w7 ⟨rfl, hb7⟩
        go_wp2
        go_ret
        exact ⟨by rw [Hno.out (by trivial)]; rfl, hbw'.trans (hb7.mono hbw'.size)⟩
      · go_wp2_with fail
        refine (Hcall.out _).mono ?_; rintro e w7 ⟨rfl, hb7⟩
        go_wp2
        go_roundw
        case rel => exact ⟨j + 1, by omega, by simp, Htk.out (by trivial), hbw.trans (hb7.mono hbw.size)⟩
        case measure => simp [intOf] <;> omega
    · have hje : j = rcpts.length := by omega
      rw [hje, List.take_of_length_le (Nat.le_refl _)] at hall
      have hg2 := Hg2.out
      rw [hall, Bool.and_true, Bool.true_and] at hg2
      have hjn : (j : Int) = (rcpts.length : Int) := by omega
      have Hg3 := Lib.hid hg2
      have hjl : ¬ ((j : Int) < (rcpts.length : Int)) := by omega
      clear hall hg2 hje hjn
      by_cases h7 : frm.length = 0
      · have hz := empty_of_size (Hfl.out.1 h7)
        rw [hz] at c3'
        have hgt : g = true := by rw [← Hg3.out, decide_eq_true h7]; rfl
        subst hgt
        clear hz h7 Hg2
        go_wp2
        go_ret
        exact ⟨rfl, hbw'⟩
      · have hne : (strL frm).size ≠ 0 := fun h => h7 (Hfl.out.2 h)
        have hb1 := empty_ne hne
        have hb2 : (strL frm).toList.isEmpty = false := by simpa using hb1
        have hgt : g = p8 := by rw [← Hg3.out, decide_eq_false h7]; rfl
        subst hgt
        clear h7 hne Hg2
        go_wp2_with fail
        refine (Hbx.out _).mono ?_; rintro e w8 ⟨rfl, hb8⟩
        go_wp2
        go_ret
        exact ⟨rfl, hbw'.trans (hb8.mono hbw'.size)⟩
end Go.Proofs.YtffnbkmigapmjaaGreatDoor
