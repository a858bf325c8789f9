/-
  The walk of the law QfileTorn (printed by gen_qtorn.py).
-/
import Derived.Test.YtjddicoigbidlaaGreatDoorQ29
set_option linter.unusedSimpArgs false
set_option linter.unusedVariables false
set_option maxRecDepth 100000
namespace Go.Proofs.YtjddicoigbidlaaGreatDoor
open Go.RowKit
def TornRest (w0 : World) (X M : Nat) (m : MailD) (kq : List MarkD) (G : Nat) (ar5 ab5 am5 ar ab am : Option Addr) (cr5 cb5 cm5 capr capb capm q : Nat) (w : World) : Prop :=
  Below w0.heap.size w0 w ∧ FileAt w X ⟨m, kq, G⟩ (.slice ar5 m.rcpts.length cr5) (.slice ab5 m.body.length cb5) (.slice am5 kq.length cm5) ∧ MailAt w M m (.slice ar m.rcpts.length capr) (.slice ab m.body.length capb) ∧ RdM w (.slice am q capm) kq
abbrev TornS (w6 : World) (X M : Nat) (m : MailD) (kq : List MarkD) (G : Nat) (ar5 ab5 am5 ar ab am : Option Addr) (cr5 cb5 cm5 capr capb capm q : Nat) (N : Nat) (w' : World) : Prop :=
  w'.cell? ⟨X, 0, none⟩ = some (.int .i64 m.id) ∧ w'.cell? ⟨X, 1, none⟩ = some (.int .i64 m.parent) ∧ w'.cell? ⟨X, 2, none⟩ = some (.int .i64 m.born) ∧ w'.cell? ⟨X, 3, none⟩ = some (.string (strL m.frm)) ∧ w'.cell? ⟨X, 4, none⟩ = some (.slice ar5 m.rcpts.length cr5) ∧ w'.cell? ⟨X, 5, none⟩ = some (.slice ab5 m.body.length cb5) ∧ w'.cell? ⟨X, 6, none⟩ = some (.slice am5 kq.length cm5) ∧ w'.cell? ⟨X, 7, none⟩ = some (.int .i64 ((N : Int) + (q : Int) * 28)) ∧ w'.cell? ⟨M, 0, none⟩ = some (.int .i64 m.id) ∧ w'.cell? ⟨M, 1, none⟩ = some (.int .i64 m.parent) ∧ w'.cell? ⟨M, 2, none⟩ = some (.int .i64 m.born) ∧ w'.cell? ⟨M, 3, none⟩ = some (.string (strL m.frm)) ∧ w'.cell? ⟨M, 4, none⟩ = some (.slice ar m.rcpts.length capr) ∧ w'.cell? ⟨M, 5, none⟩ = some (.slice ab m.body.length capb) ∧ TornRest w6 X M m kq G ar5 ab5 am5 ar ab am cr5 cb5 cm5 capr capb capm q w'
section
variable {w6 : World} {X M : Nat} {m : MailD} {kq : List MarkD} {G : Nat} {ar5 ab5 am5 ar ab am : Option Addr} {cr5 cb5 cm5 capr capb capm q N : Nat}
theorem TornS.rest {w : World} (h : TornS w6 X M m kq G ar5 ab5 am5 ar ab am cr5 cb5 cm5 capr capb capm q N w) : TornRest w6 X M m kq G ar5 ab5 am5 ar ab am cr5 cb5 cm5 capr capb capm q w :=
  h.2.2.2.2.2.2.2.2.2.2.2.2.2.2
theorem TornS.of {w : World} (hg : (G : Int) = (N : Int) + (q : Int) * 28) (h : TornRest w6 X M m kq G ar5 ab5 am5 ar ab am cr5 cb5 cm5 capr capb capm q w) : TornS w6 X M m kq G ar5 ab5 am5 ar ab am cr5 cb5 cm5 capr capb capm q N w := by
  obtain ⟨c0, c1, c2, c3, c4, c5, c6, c7⟩ := fileAt_cells hg h.2.1
  obtain ⟨y0, y1, y2, y3, y4, y5⟩ := h.2.2.1.cells
  exact ⟨c0, c1, c2, c3, c4, c5, c6, c7, y0, y1, y2, y3, y4, y5, h⟩
theorem TornRest.go {w w' : World} (hb : Below w.heap.size w w') (h : TornRest w6 X M m kq G ar5 ab5 am5 ar ab am cr5 cb5 cm5 capr capb capm q w) : TornRest w6 X M m kq G ar5 ab5 am5 ar ab am cr5 cb5 cm5 capr capb capm q w' :=
  ⟨h.1.trans (hb.mono h.1.size), h.2.1.below hb, h.2.2.1.below hb, h.2.2.2.below (Nat.le_refl _) hb⟩
theorem TornS.go {w w' : World} (hg : (G : Int) = (N : Int) + (q : Int) * 28) (hb : Below w.heap.size w w') (h : TornS w6 X M m kq G ar5 ab5 am5 ar ab am cr5 cb5 cm5 capr capb capm q N w) : TornS w6 X M m kq G ar5 ab5 am5 ar ab am cr5 cb5 cm5 capr capb capm q N w' :=
  TornS.of hg (TornRest.go hb h.rest)
end
set_option maxHeartbeats 16000000 in
theorem qfileTorn_walk (m : MailD) (vr vb vm : Value) (ks : List MarkD) (c : Nat) (w : World) (hr : RdS w vr m.rcpts) (hb : RdB w vb m.body) (hnb : NilOk vb) (hm : RdM w vm ks) (hc : c ≤ 65535) (hsr : ∀ l ∈ m.rcpts, l.length ≤ 4294967270) (hsf : m.frm.length ≤ 4294967270) (hmax : MaxOk w) :
    Calls Tryz.prog 9 #[mailVal m vr vb, vm, .int .u16 c] w fun e w' => e = .returned (.bool true) ∧ Below w.heap.size w w' := by
  obtain ⟨ar, capr, rfl, hlr, hcr⟩ := hr.form
  obtain ⟨ab, capb, rfl, hlb, hcb⟩ := hb.form
  obtain ⟨am, capm, rfl, hlm, hcm⟩ := hm.form
  have hzF : ∀ w, (zeroValue 43).run Tryz.prog w = .ok (.agg #[.int .i64 0, .int .i64 0, .int .i64 0, .string ⟨#[]⟩, .slice none 0 0, .slice none 0 0, .slice none 0 0, .int .i64 0]) w := fun _ => by kernel_rfl
  have hnew := MailAt.new (m := m) hr hb
  obtain ⟨W, hW⟩ : ∃ W, w.alloc (.cells #[.int .i64 m.id, .int .i64 m.parent, .int .i64 m.born, .string (strL m.frm), .slice ar m.rcpts.length capr, .slice ab m.body.length capb] 25) = W := ⟨_, rfl⟩
  have hbW : Below w.heap.size w W := by rw [← hW]; exact (Below.refl _ _).alloc (Nat.le_refl _) _
  rw [hW] at hnew
  have hgc := qgood_calls m _ _ (.slice am ks.length capm) ks W hnew.rs hnew.rb (hm.below (Nat.le_refl _) hbW) hsr hsf
  obtain ⟨gq, hq⟩ : ∃ gq, qgood m ks = gq := ⟨_, rfl⟩
  rw [hq] at hgc
  obtain ⟨c0, c1, c2, c3, c4, c5⟩ := hnew.cells
  have Hans0 : Hid (∀ W', Below W.heap.size W W' → Calls Tryz.prog 23 #[] W' fun e w' => e = .returned (.bool true) ∧ Below W'.heap.size W' w') := fun W' h => filAns_calls W' (hmax.below (hbW.trans (h.mono hbW.size)))
  have Hgc := Lib.hid hgc
  have HbW := Lib.hid hbW
  have Hq := Lib.hid hq
  have Hnew := Lib.hid hnew
  have Hm := Lib.hid (hm.below (Nat.le_refl _) hbW)
  have Hmax := Lib.hid (hmax.below hbW)
  have Hnb := Lib.hid hnb
  clear hgc hbW hq hnew hm hmax hnb hr hb hsr hsf
  subst hW
  cases gq with
  | false =>
    go_enter Tryz.func9, Tryz.ntmps9
    go_wp2_with fail
    refine (Hgc.out).mono ?_; rintro e w1 ⟨rfl, hb1⟩
    have hans := Hans0.out _ hb1
    have Hans1 := Lib.hid hans
    have hbw1 := HbW.out.trans (hb1.mono HbW.out.size)
    clear hans hb1 c0 c1 c2 c3 c4 c5
    go_wp2_with fail
    refine (Hans1.out).mono ?_; rintro e w2 ⟨rfl, hb2⟩
    go_wp2
    go_ret
    exact ⟨rfl, hbw1.trans (hb2.mono hbw1.size)⟩
  | true =>
    obtain ⟨hk1, hk2, hg1, hg2⟩ := qgood_iff Hq.out
    have hfile := fun W vr vb vm h1 h2 h3 h4 => qfile_calls m vr vb vm ks W h1 h2 h3 h4 hg1 hk1 hk2
    have hrec := fun W vr vb h1 h2 h3 => record_calls m vr vb W h1 h2 h3 (small_of_good hg1) hg1
    have hmx := record_max hg1
    obtain ⟨k, hk⟩ : ∃ k : Nat, c % (28 * ks.length + 1) = k := ⟨_, rfl⟩
    have hkl : k ≤ 28 * ks.length := by have := Nat.mod_lt c (show 0 < 28 * ks.length + 1 by omega); omega
    obtain ⟨q, hq⟩ : ∃ q : Nat, k / 28 = q := ⟨_, rfl⟩
    have hql : q ≤ ks.length := by omega
    have hfd := fileD_cut m (small_of_good hg1) hg1 ks hk1 (by omega) k (by rw [bytesM_length]; exact hkl)
    rw [hq] at hfd
    have htl : (ks.take q).length = q := by rw [List.length_take]; omega
    have hBl : (m.record ++ bytesM ks).length = m.record.length + 28 * ks.length := by rw [List.length_append, bytesM_length]
    have htk : (m.record ++ bytesM ks).take (m.record.length + k) = m.record ++ (bytesM ks).take k := by rw [List.take_length_add_append]
    have hgd : ((m.record.length + 28 * (ks.take q).length : Nat) : Int) = (m.record.length : Int) + (q : Int) * 28 := by rw [htl]; push_cast; omega
    have hpre : ∀ W, RdM W (.slice am ks.length capm) ks → RdM W (.slice am q capm) (ks.take q) := fun W h => h.pre q hql
    rw [← htk] at hfd
    obtain ⟨B, hB⟩ : ∃ B, m.record ++ bytesM ks = B := ⟨_, rfl⟩
    obtain ⟨R, hR⟩ : ∃ R, m.record = R := ⟨_, rfl⟩
    rw [hB] at hfile hfd hBl
    rw [hR] at hrec hfd hBl hgd hmx
    clear hB hR htk
    obtain ⟨N, hN⟩ : ∃ N, R.length = N := ⟨_, rfl⟩
    obtain ⟨L, hL⟩ : ∃ L, B.length = L := ⟨_, rfl⟩
    rw [hN] at hfd hBl hgd hmx
    rw [hL] at hBl
    generalize hkq : ks.take q = kq at hfd hgd htl hpre
    have hpar : ∀ v W, RdB W v (B.take (N + k)) → MaxOk W → Calls Tryz.prog 25 #[v] W (FilDone m kq ((N : Int) + (q : Int) * 28) W) := by
      intro v W h1 h2
      refine (qparse_calls v _ W h1 (by rw [List.length_take]; omega) h2).mono fun e w' h => ?_
      rw [hfd] at h; exact fil_some hgd h
    have hLI : (L : Int) = (N : Int) + 28 * (ks.length : Int) := by omega
    have hlenI : (ks.length : Int) ≤ 60 := by omega
    have hNI : (N : Int) ≤ 1000012 := by omega
    have hkI : (k : Int) ≤ 28 * (ks.length : Int) := by omega
    have hqI : (q : Int) ≤ (ks.length : Int) := by omega
    have hrem2 : (c : Int) % ((L : Int) - (N : Int) + 1) = (k : Int) := by rw [show (L : Int) - (N : Int) + 1 = ((28 * ks.length + 1 : Nat) : Int) by push_cast; omega, ← hk]; simp
    have hrem : Int.tmod (c : Int) ((L : Int) - (N : Int) + 1) = (k : Int) := by rw [Int.tmod_eq_emod_of_nonneg (by omega), hrem2]
    have hquo : Int.tdiv (k : Int) 28 = (q : Int) := by rw [Int.tdiv_eq_ediv_of_nonneg (by omega)]; omega
    have hquo2 : (k : Int) / 28 = (q : Int) := by omega
    have hcI : (c : Int) ≤ 65535 := by omega
    have hLI1 : (N : Int) ≤ (L : Int) := by omega
    have hLI2 : (L : Int) ≤ 1002000 := by omega
    have hkI2 : (k : Int) ≤ 1680 := by omega
    have hNL : N + k ≤ L := by omega
    have hLm : L ≤ 1002000 := by omega
    clear hLI
    have Hfile := Lib.hid hfile
    have Hrec := Lib.hid hrec
    have Hpar := Lib.hid hpar
    have HN := Lib.hid hN
    have HL := Lib.hid hL
    have Hpre := Lib.hid hpre
    have hGg := Lib.hid hgd
    clear hfile hrec hpar hN hL hpre hgd hfd hmx hk1 hk2 hg1 hg2 Hq hk hq htl hkq hBl
    go_enter Tryz.func9, Tryz.ntmps9
    go_wp2_with fail
    refine (Hgc.out).mono ?_; rintro e w1 ⟨rfl, hb1⟩
    have hn1 := Hnew.out.below hb1
    have hm1' := Hm.out.below (Nat.le_refl _) hb1
    have hbw1 := HbW.out.trans (hb1.mono HbW.out.size)
    have hf := Hfile.out w1 _ _ _ hn1.rs hn1.rb Hnb.out hm1'
    have ha1 : Hid (∀ W', Below w1.heap.size w1 W' → Calls Tryz.prog 23 #[] W' fun e w' => e = .returned (.bool true) ∧ Below W'.heap.size W' w') := fun W' h => Hans0.out W' (hb1.trans (h.mono hb1.size))
    have hmx1 := Hmax.out.below hb1
    clear c0 c1 c2 c3 c4 c5
    obtain ⟨c0, c1, c2, c3, c4, c5⟩ := hn1.cells
    have Hf := Lib.hid hf
    have Hn1 := Lib.hid hn1
    have Hm1 := Lib.hid hm1'
    have Hmx1 := Lib.hid hmx1
    have Hbw1 := Lib.hid hbw1
    clear hf hn1 hm1' hmx1 hbw1 hb1 Hnew Hm Hmax HbW Hans0 Hgc Hfile
    go_wp2_with fail
    refine (Hf.out).mono ?_; rintro e w2 ⟨v2, rfl, hown2, hb2⟩
    have hrd2 := rdB_ofOwn hown2
    rw [HL.out] at hown2
    obtain ⟨a2, c2', hv2⟩ := own_form0 hown2
    subst hv2
    have hn2 := Hn1.out.below hb2
    clear c0 c1 c2 c3 c4 c5
    obtain ⟨c0, c1, c2, c3, c4, c5⟩ := hn2.cells
    have hrc := Hrec.out w2 _ _ hn2.rs hn2.rb Hnb.out
    have Hrc := Lib.hid hrc
    have Hrd2 := Lib.hid hrd2
    have Hb2 := Lib.hid hb2
    clear hrc hrd2 hb2 hn2 hown2 Hf
    go_wp2_with fail
    refine (Hrc.out).mono ?_; rintro e w3 ⟨v3, rfl, hown3, hb3⟩
    rw [HN.out] at hown3
    obtain ⟨a3, c3', hv3⟩ := own_form0 hown3
    subst hv3
    have hbw3 := Hb2.out.trans (hb3.mono Hb2.out.size)
    have hrd3 := Hrd2.out.below (Nat.le_refl _) hb3
    have hc2 : L ≤ c2' := by obtain ⟨_, _, e, h, _⟩ := hrd3.form; cases e; have := HL.out; omega
    have hp3 : RdB w3 (.slice a2 (N + k) c2') (B.take (N + k)) := by have h := hrd3; exact h.pre (N + k) (by have := HL.out; omega)
    have hpc := Hpar.out _ w3 hp3 (Hmx1.out.below hbw3)
    have hsl1 := run_slice_pre (P := Tryz.prog) Tryz.underlying23 fil1_u8 a2 L c2' (N + k) (by omega)
    rw [Int.natCast_add] at hsl1
    have Hpc := Lib.hid hpc
    have Hbw3 := Lib.hid hbw3
    clear hpc hbw3 hrd3 hp3 hb3 hown3 c0 c1 c2 c3 c4 c5 Hrd2 Hrc Hpar
    go_wp2_with fail
    refine (Hpc.out).mono ?_; rintro e w5 ⟨ar5, cr5, ab5, cb5, am5, cm5, rfl, hrs5, hrb5, hrm5, hb5⟩
    have hbw5 := Hbw3.out.trans (hb5.mono Hbw3.out.size)
    have hnew := fileAt_new hGg.out hrs5 hrb5 hrm5
    obtain ⟨w6, hw6⟩ : ∃ w6, w5.alloc (.cells #[.int .i64 m.id, .int .i64 m.parent, .int .i64 m.born, .string (strL m.frm), .slice ar5 m.rcpts.length cr5, .slice ab5 m.body.length cb5, .slice am5 kq.length cm5, .int .i64 ((N : Int) + (q : Int) * 28)] 43) = w6 := ⟨_, rfl⟩
    rw [hw6] at hnew
    have hb6 : Below w5.heap.size w5 w6 := by rw [← hw6]; exact (Below.refl _ _).alloc (Nat.le_refl _) _
    have hbw6 := hbw5.trans (hb6.mono hbw5.size)
    have hm6 := Hn1.out.below hbw6
    have hk6 := Hpre.out _ (Hm1.out.below (Nat.le_refl _) hbw6)
    obtain ⟨X, hX⟩ : ∃ X, w5.heap.size = X := ⟨_, rfl⟩
    obtain ⟨M, hM⟩ : ∃ M, w.heap.size = M := ⟨_, rfl⟩
    obtain ⟨G, hG⟩ : ∃ G, N + 28 * kq.length = G := ⟨_, rfl⟩
    rw [hX] at hnew
    have hm6' : MailAt w6 M m (.slice ar m.rcpts.length capr) (.slice ab m.body.length capb) := by rw [← hM]; exact hm6
    rw [hG] at hnew hGg
    have hS : TornS w6 X M m kq G ar5 ab5 am5 ar ab am cr5 cb5 cm5 capr capb capm q N w6.drew := TornS.go hGg.out ((Below.refl _ _).drew) (TornS.of hGg.out ⟨Below.refl _ _, hnew, hm6', hk6⟩)
    have getR : Hid (∀ W, TornS w6 X M m kq G ar5 ab5 am5 ar ab am cr5 cb5 cm5 capr capb capm q N W → TornRest w6 X M m kq G ar5 ab5 am5 ar ab am cr5 cb5 cm5 capr capb capm q W) := fun W h => h.rest
    have Hans : Hid (∀ W, TornS w6 X M m kq G ar5 ab5 am5 ar ab am cr5 cb5 cm5 capr capb capm q N W → Calls Tryz.prog 23 #[] W fun e w' => e = .returned (.bool true) ∧ Below W.heap.size W w') := fun W h => ha1.out W (hbw6.trans (h.rest.1.mono hbw6.size))
    have Hsame : Hid (∀ W, TornRest w6 X M m kq G ar5 ab5 am5 ar ab am cr5 cb5 cm5 capr capb capm q W → Calls Tryz.prog 20 #[.agg #[.int .i64 m.id, .int .i64 m.parent, .int .i64 m.born, .string (strL m.frm), .slice ar5 m.rcpts.length cr5, .slice ab5 m.body.length cb5], .agg #[.int .i64 m.id, .int .i64 m.parent, .int .i64 m.born, .string (strL m.frm), .slice ar m.rcpts.length capr, .slice ab m.body.length capb]] W fun e w' => e = .returned (.bool true) ∧ Below W.heap.size W w') := by
      intro W h
      have := refSame_calls m m _ _ _ _ W h.2.1.rs h.2.1.rb h.2.2.1.rs h.2.2.1.rb
      rw [show decide (m = m) = true by simp] at this
      exact this
    have Hmarks : Hid (∀ W, TornRest w6 X M m kq G ar5 ab5 am5 ar ab am cr5 cb5 cm5 capr capb capm q W → Calls Tryz.prog 26 #[.slice am5 kq.length cm5, .slice am q capm] W fun e w' => e = .returned (.bool true) ∧ Below W.heap.size W w') := fun W h => sameMarks_calls _ _ kq W h.2.1.rm h.2.2.2
    have Hfin : Hid (∀ W, TornRest w6 X M m kq G ar5 ab5 am5 ar ab am cr5 cb5 cm5 capr capb capm q W → Below w.heap.size w W) := fun W h => Hbw1.out.trans ((hbw6.trans (h.1.mono hbw6.size)).mono Hbw1.out.size)
    have hsl2 := run_slice_pre (P := Tryz.prog) Tryz.underlying39 infoMark' am ks.length capm q (by omega)
    have hw0 : IntKind.i64.wrap (q : Int) = (q : Int) := IntWalk.i64_in _ (by omega)
    have hw1 : IntKind.i64.wrap ((q : Int) * 28) = (q : Int) * 28 := IntWalk.i64_in _ (by omega)
    have hw2 : IntKind.i64.wrap ((N : Int) + (q : Int) * 28) = (N : Int) + (q : Int) * 28 := IntWalk.i64_in _ (by omega)
    have HS := Lib.hid hS
    have Hw6 := Lib.hid hw6
    have HX := Lib.hid hX
    have HM := Lib.hid hM
    clear hS hw6 hX hM hG hm6 hm6' hk6 hnew hbw6 hb6 hbw5 hb5 hrs5 hrb5 hrm5 ha1 Hpc Hpre Hm1 Hn1 hsl1
    go_wp2
    rw [Hw6.out]
    try rw [HX.out]
    try rw [HM.out]
    refine wp_region_noPanic ?_
    refine wp_region_held_drew (S := (fun w' => w'.cell? ⟨X, 0, none⟩ = some (.int .i64 m.id) ∧ w'.cell? ⟨X, 1, none⟩ = some (.int .i64 m.parent) ∧ w'.cell? ⟨X, 2, none⟩ = some (.int .i64 m.born) ∧ w'.cell? ⟨X, 3, none⟩ = some (.string (strL m.frm)) ∧ w'.cell? ⟨X, 4, none⟩ = some (.slice ar5 m.rcpts.length cr5) ∧ w'.cell? ⟨X, 5, none⟩ = some (.slice ab5 m.body.length cb5) ∧ w'.cell? ⟨X, 6, none⟩ = some (.slice am5 kq.length cm5) ∧ w'.cell? ⟨X, 7, none⟩ = some (.int .i64 ((N : Int) + (q : Int) * 28)) ∧ w'.cell? ⟨M, 0, none⟩ = some (.int .i64 m.id) ∧ w'.cell? ⟨M, 1, none⟩ = some (.int .i64 m.parent) ∧ w'.cell? ⟨M, 2, none⟩ = some (.int .i64 m.born) ∧ w'.cell? ⟨M, 3, none⟩ = some (.string (strL m.frm)) ∧ w'.cell? ⟨M, 4, none⟩ = some (.slice ar m.rcpts.length capr) ∧ w'.cell? ⟨M, 5, none⟩ = some (.slice ab m.body.length capb) ∧ TornRest w6 X M m kq G ar5 ab5 am5 ar ab am cr5 cb5 cm5 capr capb capm q w')) (by kernel_rfl) (by first | with_reducible exact HS.out | with_reducible assumption) (fun hHeld => ?_)
    refine wpAnyH_ready (rs := [0]) (by kernel_rfl) (by simp) ?_
    refine AllReadyH.cons (o := _) (by simp only [List.getElem?_toArray, List.getElem?_cons_succ, List.getElem?_cons_zero]; rfl) (fun K hK => ?_) AllReadyH.nil
    go_simp
    (go_at_call 23; refine (Hans.out _ HS.out).mono ?_; rintro e wa ⟨rfl, hba⟩; have hSa := TornS.go hGg.out hba HS.out)
    refine hK.out _ _ (by (try dsimp only); first | with_reducible exact HS.out | with_reducible assumption) (fun hHeld => ?_)
    clear hK K
    try simp only [Act.put, List.setIfInBounds_toArray, List.set_cons_zero, List.set_cons_succ]
    refine wpAnyH_take (i := 1) (oi := _) (v := ?_) (by simp only [List.getElem?_toArray, List.getElem?_cons_succ, List.getElem?_cons_zero]; rfl) (by kernel_rfl) (by kernel_rfl) (by kernel_rfl) (fun _ _ _ h => h) (Or.inl ⟨by rfl, ?_⟩) (by assumption) ?_
    rotate_left
    · intro w hSw; (try dsimp only at hSw); go_simp; (try with_reducible rfl)
    try simp only [Act.put, List.setIfInBounds_toArray, List.set_cons_zero, List.set_cons_succ]
    refine wpAnyH_take (i := 2) (oi := _) (v := ?_) (by simp only [List.getElem?_toArray, List.getElem?_cons_succ, List.getElem?_cons_zero]; rfl) (by kernel_rfl) (by kernel_rfl) (by kernel_rfl) (fun _ _ _ h => h) (Or.inl ⟨by rfl, ?_⟩) (by assumption) ?_
    rotate_left
    · intro w hSw; (try dsimp only at hSw); go_simp; (try with_reducible rfl)
    try simp only [Act.put, List.setIfInBounds_toArray, List.set_cons_zero, List.set_cons_succ]
    refine wpAnyH_take (i := 3) (oi := _) (v := ?_) (by simp only [List.getElem?_toArray, List.getElem?_cons_succ, List.getElem?_cons_zero]; rfl) (by kernel_rfl) (by kernel_rfl) (by kernel_rfl) (fun _ _ _ h => h) (Or.inl ⟨by rfl, ?_⟩) (by assumption) ?_
    rotate_left
    · intro w hSw; (try dsimp only at hSw); go_simp; (try with_reducible rfl)
    try simp only [Act.put, List.setIfInBounds_toArray, List.set_cons_zero, List.set_cons_succ]
    refine wpAnyH_take (i := 4) (oi := _) (v := ?_) (by simp only [List.getElem?_toArray, List.getElem?_cons_succ, List.getElem?_cons_zero]; rfl) (by kernel_rfl) (by kernel_rfl) (by kernel_rfl) (fun _ _ _ h => h) (Or.inl ⟨by rfl, ?_⟩) (by assumption) ?_
    rotate_left
    · intro w hSw; (try dsimp only at hSw); go_simp; (try with_reducible rfl)
    try simp only [Act.put, List.setIfInBounds_toArray, List.set_cons_zero, List.set_cons_succ]
    refine wpAnyH_take (i := 5) (oi := _) (v := ?_) (by simp only [List.getElem?_toArray, List.getElem?_cons_succ, List.getElem?_cons_zero]; rfl) (by kernel_rfl) (by kernel_rfl) (by kernel_rfl) (fun _ _ _ h => h) (Or.inl ⟨by rfl, ?_⟩) (by assumption) ?_
    rotate_left
    · intro w hSw; (try dsimp only at hSw); go_simp; (try with_reducible rfl)
    try simp only [Act.put, List.setIfInBounds_toArray, List.set_cons_zero, List.set_cons_succ]
    refine wpAnyH_take (i := 6) (oi := _) (v := ?_) (by simp only [List.getElem?_toArray, List.getElem?_cons_succ, List.getElem?_cons_zero]; rfl) (by kernel_rfl) (by kernel_rfl) (by kernel_rfl) (fun _ _ _ h => h) (Or.inl ⟨by rfl, ?_⟩) (by assumption) ?_
    rotate_left
    · intro w hSw; (try dsimp only at hSw); go_simp; (try with_reducible rfl)
    try simp only [Act.put, List.setIfInBounds_toArray, List.set_cons_zero, List.set_cons_succ]
    refine wpAnyH_take (i := 7) (oi := _) (v := ?_) (by simp only [List.getElem?_toArray, List.getElem?_cons_succ, List.getElem?_cons_zero]; rfl) (by kernel_rfl) (by kernel_rfl) (by kernel_rfl) (fun _ _ _ h => h) (Or.inl ⟨by rfl, ?_⟩) (by assumption) ?_
    rotate_left
    · intro w hSw; (try dsimp only at hSw); go_simp; (try with_reducible rfl)
    try simp only [Act.put, List.setIfInBounds_toArray, List.set_cons_zero, List.set_cons_succ]
    refine wpAnyH_ready (rs := [8]) (by kernel_rfl) (by simp) ?_
    refine AllReadyH.cons (o := _) (by simp only [List.getElem?_toArray, List.getElem?_cons_succ, List.getElem?_cons_zero]; rfl) (fun K hK => ?_) AllReadyH.nil
    go_simp
    (go_at_call 20; refine (Hsame.out _ (getR.out _ hSa)).mono ?_; rintro e wb ⟨rfl, hbb⟩; have hSb := TornS.go hGg.out hbb hSa)
    refine hK.out _ _ (by (try dsimp only); first | with_reducible exact HS.out | with_reducible assumption) (fun hHeld => ?_)
    clear hK K
    try simp only [Act.put, List.setIfInBounds_toArray, List.set_cons_zero, List.set_cons_succ]
    refine wpAnyH_take (i := 9) (oi := _) (v := ?_) (by simp only [List.getElem?_toArray, List.getElem?_cons_succ, List.getElem?_cons_zero]; rfl) (by kernel_rfl) (by kernel_rfl) (by kernel_rfl) (fun _ _ _ h => h) (Or.inl ⟨by rfl, ?_⟩) (by assumption) ?_
    rotate_left
    · intro w hSw; (try dsimp only at hSw); go_simp; (try with_reducible rfl)
    try simp only [Act.put, List.setIfInBounds_toArray, List.set_cons_zero, List.set_cons_succ]
    refine wpAnyH_take (i := 10) (oi := _) (v := ?_) (by simp only [List.getElem?_toArray, List.getElem?_cons_succ, List.getElem?_cons_zero]; rfl) (by kernel_rfl) (by kernel_rfl) (by kernel_rfl) (fun _ _ _ h => h) (Or.inl ⟨by rfl, ?_⟩) (by assumption) ?_
    rotate_left
    · intro w hSw; (try dsimp only at hSw); go_simp; (try with_reducible rfl)
    try simp only [Act.put, List.setIfInBounds_toArray, List.set_cons_zero, List.set_cons_succ]
    refine wpAnyH_take (i := 11) (oi := _) (v := ?_) (by simp only [List.getElem?_toArray, List.getElem?_cons_succ, List.getElem?_cons_zero]; rfl) (by kernel_rfl) (by kernel_rfl) (by kernel_rfl) (fun _ _ _ h => h) (Or.inl ⟨by rfl, ?_⟩) (by assumption) ?_
    rotate_left
    · intro w hSw; (try dsimp only at hSw); go_simp; (try with_reducible rfl)
    try simp only [Act.put, List.setIfInBounds_toArray, List.set_cons_zero, List.set_cons_succ]
    refine wpAnyH_take (i := 12) (oi := _) (v := ?_) (by simp only [List.getElem?_toArray, List.getElem?_cons_succ, List.getElem?_cons_zero]; rfl) (by kernel_rfl) (by kernel_rfl) (by kernel_rfl) (fun _ _ _ h => h) (Or.inl ⟨by rfl, ?_⟩) (by assumption) ?_
    rotate_left
    · intro w hSw; (try dsimp only at hSw); go_simp; (try with_reducible rfl)
    try simp only [Act.put, List.setIfInBounds_toArray, List.set_cons_zero, List.set_cons_succ]
    refine wpAnyH_take (i := 13) (oi := _) (v := ?_) (by simp only [List.getElem?_toArray, List.getElem?_cons_succ, List.getElem?_cons_zero]; rfl) (by kernel_rfl) (by kernel_rfl) (by kernel_rfl) (fun _ _ _ h => h) (Or.inl ⟨by rfl, ?_⟩) (by assumption) ?_
    rotate_left
    · intro w hSw; (try dsimp only at hSw); go_simp; (try with_reducible rfl)
    try simp only [Act.put, List.setIfInBounds_toArray, List.set_cons_zero, List.set_cons_succ]
    refine wpAnyH_take (i := 14) (oi := _) (v := ?_) (by simp only [List.getElem?_toArray, List.getElem?_cons_succ, List.getElem?_cons_zero]; rfl) (by kernel_rfl) (by kernel_rfl) (by kernel_rfl) (fun _ _ _ h => h) (Or.inl ⟨by rfl, ?_⟩) (by assumption) ?_
    rotate_left
    · intro w hSw; (try dsimp only at hSw); go_simp; (try with_reducible rfl)
    try simp only [Act.put, List.setIfInBounds_toArray, List.set_cons_zero, List.set_cons_succ]
    refine wpAnyH_take (i := 15) (oi := _) (v := ?_) (by simp only [List.getElem?_toArray, List.getElem?_cons_succ, List.getElem?_cons_zero]; rfl) (by kernel_rfl) (by kernel_rfl) (by kernel_rfl) (fun _ _ _ h => h) (Or.inl ⟨by rfl, ?_⟩) (by assumption) ?_
    rotate_left
    · intro w hSw; (try dsimp only at hSw); go_simp; (try with_reducible rfl)
    try simp only [Act.put, List.setIfInBounds_toArray, List.set_cons_zero, List.set_cons_succ]
    refine wpAnyH_take (i := 16) (oi := _) (v := ?_) (by simp only [List.getElem?_toArray, List.getElem?_cons_succ, List.getElem?_cons_zero]; rfl) (by kernel_rfl) (by kernel_rfl) (by kernel_rfl) (fun _ _ _ h => h) (Or.inl ⟨by rfl, ?_⟩) (by assumption) ?_
    rotate_left
    · intro w hSw; (try dsimp only at hSw); go_simp; (try with_reducible rfl)
    try simp only [Act.put, List.setIfInBounds_toArray, List.set_cons_zero, List.set_cons_succ]
    refine wpAnyH_ready (rs := [17]) (by kernel_rfl) (by simp) ?_
    refine AllReadyH.cons (o := _) (by simp only [List.getElem?_toArray, List.getElem?_cons_succ, List.getElem?_cons_zero]; rfl) (fun K hK => ?_) AllReadyH.nil
    go_simp
    (go_at_call 26; refine (Hmarks.out _ (getR.out _ hSb)).mono ?_; rintro e wc ⟨rfl, hbc⟩; have hSc := TornS.go hGg.out hbc hSb; have hfin := Hfin.out _ (getR.out _ hSc))
    refine hK.out _ _ (by (try dsimp only); first | with_reducible exact HS.out | with_reducible assumption) (fun hHeld => ?_)
    clear hK K
    try simp only [Act.put, List.setIfInBounds_toArray, List.set_cons_zero, List.set_cons_succ]
    refine wpAnyH_take (i := 18) (oi := _) (v := ?_) (by simp only [List.getElem?_toArray, List.getElem?_cons_succ, List.getElem?_cons_zero]; rfl) (by kernel_rfl) (by kernel_rfl) (by kernel_rfl) (fun _ _ _ h => h) (Or.inl ⟨by rfl, ?_⟩) (by assumption) ?_
    rotate_left
    · intro w hSw; (try dsimp only at hSw); go_simp; (try with_reducible rfl)
    try simp only [Act.put, List.setIfInBounds_toArray, List.set_cons_zero, List.set_cons_succ]
    refine wpAnyH_take (i := 19) (oi := _) (v := ?_) (by simp only [List.getElem?_toArray, List.getElem?_cons_succ, List.getElem?_cons_zero]; rfl) (by kernel_rfl) (by kernel_rfl) (by kernel_rfl) (fun _ _ _ h => h) (Or.inl ⟨by rfl, ?_⟩) (by assumption) ?_
    rotate_left
    · intro w hSw; (try dsimp only at hSw); go_simp; (try with_reducible rfl)
    try simp only [Act.put, List.setIfInBounds_toArray, List.set_cons_zero, List.set_cons_succ]
    refine wpAnyH_take (i := 20) (oi := _) (v := ?_) (by simp only [List.getElem?_toArray, List.getElem?_cons_succ, List.getElem?_cons_zero]; rfl) (by kernel_rfl) (by kernel_rfl) (by kernel_rfl) (fun _ _ _ h => h) (Or.inl ⟨by rfl, ?_⟩) (by assumption) ?_
    rotate_left
    · intro w hSw; (try dsimp only at hSw); go_simp; (try with_reducible rfl)
    try simp only [Act.put, List.setIfInBounds_toArray, List.set_cons_zero, List.set_cons_succ]
    refine wpAnyH_take (i := 21) (oi := _) (v := ?_) (by simp only [List.getElem?_toArray, List.getElem?_cons_succ, List.getElem?_cons_zero]; rfl) (by kernel_rfl) (by kernel_rfl) (by kernel_rfl) (fun _ _ _ h => h) (Or.inl ⟨by rfl, ?_⟩) (by assumption) ?_
    rotate_left
    · intro w hSw; (try dsimp only at hSw); go_simp; (try with_reducible rfl)
    try simp only [Act.put, List.setIfInBounds_toArray, List.set_cons_zero, List.set_cons_succ]
    refine wpAnyH_take (i := 22) (oi := _) (v := ?_) (by simp only [List.getElem?_toArray, List.getElem?_cons_succ, List.getElem?_cons_zero]; rfl) (by kernel_rfl) (by kernel_rfl) (by kernel_rfl) (fun _ _ _ h => h) (Or.inl ⟨by rfl, ?_⟩) (by assumption) ?_
    rotate_left
    · intro w hSw; (try dsimp only at hSw); go_simp; (try with_reducible rfl)
    try simp only [Act.put, List.setIfInBounds_toArray, List.set_cons_zero, List.set_cons_succ]
    refine wpAnyH_take (i := 23) (oi := _) (v := ?_) (by simp only [List.getElem?_toArray, List.getElem?_cons_succ, List.getElem?_cons_zero]; rfl) (by kernel_rfl) (by kernel_rfl) (by kernel_rfl) (fun _ _ _ h => h) (Or.inl ⟨by rfl, ?_⟩) (by assumption) ?_
    rotate_left
    · intro w hSw; (try dsimp only at hSw); go_simp; (try with_reducible rfl)
    try simp only [Act.put, List.setIfInBounds_toArray, List.set_cons_zero, List.set_cons_succ]
    refine wpAnyH_take (i := 24) (oi := _) (v := ?_) (by simp only [List.getElem?_toArray, List.getElem?_cons_succ, List.getElem?_cons_zero]; rfl) (by kernel_rfl) (by kernel_rfl) (by kernel_rfl) (fun _ _ _ h => h) (Or.inl ⟨by rfl, ?_⟩) (by assumption) ?_
    rotate_left
    · intro w hSw; (try dsimp only at hSw); go_simp; (try with_reducible rfl)
    try simp only [Act.put, List.setIfInBounds_toArray, List.set_cons_zero, List.set_cons_succ]
    refine wpAnyH_take (i := 25) (oi := _) (v := ?_) (by simp only [List.getElem?_toArray, List.getElem?_cons_succ, List.getElem?_cons_zero]; rfl) (by kernel_rfl) (by kernel_rfl) (by kernel_rfl) (fun _ _ _ h => h) (Or.inl ⟨by rfl, ?_⟩) (by assumption) ?_
    rotate_left
    · intro w hSw; (try dsimp only at hSw); go_simp; (try with_reducible rfl)
    try simp only [Act.put, List.setIfInBounds_toArray, List.set_cons_zero, List.set_cons_succ]
    refine wpAnyH_take (i := 26) (oi := _) (v := ?_) (by simp only [List.getElem?_toArray, List.getElem?_cons_succ, List.getElem?_cons_zero]; rfl) (by kernel_rfl) (by kernel_rfl) (by kernel_rfl) (fun _ _ _ h => h) (Or.inl ⟨by rfl, ?_⟩) (by assumption) ?_
    rotate_left
    · intro w hSw; (try dsimp only at hSw); go_simp; (try with_reducible rfl)
    try simp only [Act.put, List.setIfInBounds_toArray, List.set_cons_zero, List.set_cons_succ]
    refine wpAnyH_take (i := 27) (oi := _) (v := ?_) (by simp only [List.getElem?_toArray, List.getElem?_cons_succ, List.getElem?_cons_zero]; rfl) (by kernel_rfl) (by kernel_rfl) (by kernel_rfl) (fun _ _ _ h => h) (Or.inl ⟨by rfl, ?_⟩) (by assumption) ?_
    rotate_left
    · intro w hSw; (try dsimp only at hSw); go_simp; (try with_reducible rfl)
    try simp only [Act.put, List.setIfInBounds_toArray, List.set_cons_zero, List.set_cons_succ]
    refine wpAnyH_take (i := 28) (oi := _) (v := ?_) (by simp only [List.getElem?_toArray, List.getElem?_cons_succ, List.getElem?_cons_zero]; rfl) (by kernel_rfl) (by kernel_rfl) (by kernel_rfl) (fun _ _ _ h => h) (Or.inl ⟨by rfl, ?_⟩) (by assumption) ?_
    rotate_left
    · intro w hSw; (try dsimp only at hSw); go_simp; (try with_reducible rfl)
    try simp only [Act.put, List.setIfInBounds_toArray, List.set_cons_zero, List.set_cons_succ]
    refine wpAnyH_take (i := 29) (oi := _) (v := ?_) (by simp only [List.getElem?_toArray, List.getElem?_cons_succ, List.getElem?_cons_zero]; rfl) (by kernel_rfl) (by kernel_rfl) (by kernel_rfl) (fun _ _ _ h => h) (Or.inl ⟨by rfl, ?_⟩) (by assumption) ?_
    rotate_left
    · intro w hSw; (try dsimp only at hSw); go_simp; (try with_reducible rfl)
    try simp only [Act.put, List.setIfInBounds_toArray, List.set_cons_zero, List.set_cons_succ]
    refine wpAnyH_done (by kernel_rfl) ?_ _
    refine NoPanic.normal ?_
    go_wp2
    go_ret
    exact ⟨rfl, hfin⟩
theorem qfileTorn_all (m : MailD) (vr vb vm : Value) (ks : List MarkD) (n : Int) (w : World) (hr : RdS w vr m.rcpts) (hb : RdB w vb m.body) (hnb : NilOk vb) (hm : RdM w vm ks) (hn : (Lit.int .u16 n).wf = true) (hsr : ∀ l ∈ m.rcpts, l.length ≤ 4294967270) (hsf : m.frm.length ≤ 4294967270) (hmax : MaxOk w) :
    Calls Tryz.prog 9 #[mailVal m vr vb, vm, .int .u16 n] w fun e w' => e = .returned (.bool true) ∧ Below w.heap.size w w' := by
  obtain ⟨l, u⟩ := bounds_u16 hn
  obtain ⟨c, rfl⟩ := Int.eq_ofNat_of_zero_le l
  exact qfileTorn_walk m vr vb vm ks c w hr hb hnb hm (by omega) hsr hsf hmax
end Go.Proofs.YtjddicoigbidlaaGreatDoor
