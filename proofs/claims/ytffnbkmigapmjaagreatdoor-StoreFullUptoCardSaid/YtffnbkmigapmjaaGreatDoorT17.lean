/- Printed out of the texts of wip/tpl. -/
import Derived.Test.YtffnbkmigapmjaaGreatDoorT6
import Derived.Test.YtffnbkmigapmjaaGreatDoorT16
import Derived.Lib.AtoiTie
import Derived.Lib.SlicesS
set_option linter.unusedSimpArgs false
set_option linter.unusedVariables false
set_option maxRecDepth 100000
namespace Go.Proofs.YtffnbkmigapmjaaGreatDoor
open Go.RowKit Go.Maps
theorem decFrom_append : ∀ (a b : List UInt8) (acc : Nat), Lib.decFrom acc (a ++ b) = (Lib.decFrom acc a).bind (fun m => Lib.decFrom m b)
 | [], b, acc => rfl
 | c :: r, b, acc => by
  show Lib.decFrom acc (c :: (r ++ b)) = _
  rw [Lib.decFrom, Lib.decFrom]
  cases Lib.digitVal c with
  | none => rfl
  | some d => exact decFrom_append r b _
theorem digit_of (k : Nat) (h : k < 10) : Lib.digitVal (UInt8.ofNat (48 + k)) = some k := by
 have e : (UInt8.ofNat (48 + k)).toNat = 48 + k := by rw [UInt8.toNat_ofNat']; omega
 unfold Lib.digitVal
 rw [e, if_pos (by omega)]
 congr 1; omega
theorem decFrom_digits (n : Nat) : Lib.decFrom 0 (Lib.decDigits n) = some n := by
 induction n using Nat.strongRecOn with
 | _ n ih =>
  rw [Lib.decDigits]
  by_cases h : n < 10
  ·rw [dif_pos h, Lib.decFrom, digit_of n h]; simp [Lib.decFrom]
  ·rw [dif_neg h, decFrom_append, ih (n / 10) (by omega)]
   show Lib.decFrom (n / 10) [_] = _
   rw [Lib.decFrom, digit_of _ (by omega)]
   simp only [Lib.decFrom]
   congr 1; omega
theorem decFrom_zeros : ∀ k, Lib.decFrom 0 (List.replicate k 48) = some 0
 | 0 => rfl
 | k + 1 => by
  rw [List.replicate_succ, Lib.decFrom]
  exact decFrom_zeros k
theorem decFrom_numD (n : Nat) : Lib.decFrom 0 (numD n) = some n := by
 unfold numD; rw [decFrom_append, decFrom_zeros]; exact decFrom_digits n
theorem numD_inj {a b : Nat} (h : numD a = numD b) : a = b := by
 have := decFrom_numD a; rw [h, decFrom_numD b] at this; exact (Option.some.inj this).symm
theorem atoi_numD {n : Nat} (h : n ≤ 999999999) : Lib.atoiAll (numD n) = .ok (n : Int) := by
 have hl := numD_length h
 rw [Lib.atoiAll_short _ (by omega)]
 have hd := decFrom_numD n
 cases hc : numD n with
 | nil => rw [hc] at hl; cases hl
 | cons b r =>
  rw [hc] at hd
  obtain ⟨d, hb⟩ := Lib.digit_of_decFrom _ _ _ hd 0 b rfl
  obtain ⟨h1, h2, _⟩ := Lib.digitVal_eq hb
  have e1 : (b == 45) = false := by
   rw [beq_eq_false_iff_ne]; intro e; rw [e] at h1; exact absurd h1 (by decide)
  have e2 : (b == 43) = false := by
   rw [beq_eq_false_iff_ne]; intro e; rw [e] at h1; exact absurd h1 (by decide)
  rw [Lib.atoi, e1, e2]
  show Lib.NumEnd.ofOption ((Lib.decNat (b :: r)).map _) = _
  unfold Lib.decNat
  rw [show (b :: r).isEmpty = false from rfl]
  show Lib.NumEnd.ofOption ((Lib.decFrom 0 (b :: r)).map _) = _
  rw [hd]; rfl
structure GOk (w : World) : Prop where
 size : NG ≤ w.heap.size
 itoa : ∀ n, n ≤ 999999999 → ItoaOk n w
 syn : ∃ ev, w.cell? ⟨2, 0, none⟩ = some ev ∧ (ev = .nilIface ∨ ∃ t p, ev = .iface t p)
 rng : ∃ ev, w.cell? ⟨3, 0, none⟩ = some ev ∧ (ev = .nilIface ∨ ∃ t p, ev = .iface t p)
theorem cell_gb {w w' : World} {b : Nat} {v : Value} (h : w.cell? ⟨b, 0, none⟩ = some v) (hg : GB w w') (hb : b < NG) : w'.cell? ⟨b, 0, none⟩ = some v := by
 have hl := Lib.lt_of_cell h
 rw [← h, World.cell?, World.cell?, hg.block b hb hl]
theorem GOk.gb {w w' : World} (h : GOk w) (hg : GB w w') : GOk w' := by
 obtain ⟨e1, h1, h2⟩ := h.syn
 obtain ⟨e2, h3, h4⟩ := h.rng
 exact ⟨Nat.le_trans h.size hg.size, fun n hn => (h.itoa n hn).gb hg, ⟨e1, cell_gb h1 hg (by unfold NG; omega), h2⟩, ⟨e2, cell_gb h3 hg (by unfold NG; omega), h4⟩⟩
theorem GOk.below {w w' : World} (h : GOk w) (hb : Below w.heap.size w w') : GOk w' := h.gb (GB.below hb)
theorem GOk.int {w : World} (h : GOk w) (n : Int) : 0 ≤ n → n ≤ 999999999 → ItoaOk n.toNat w := fun a b => h.itoa _ (by omega)
def NumIs (s : List UInt8) (n : Int) (ev : Value) : Prop := (Lib.atoiAll s = .ok n ∧ ev = .nilIface) ∨ ((∀ v, Lib.atoiAll s ≠ .ok v) ∧ ∃ t p, ev = .iface t p)
theorem atoi_calls (s : List UInt8) (hs : s.length ≤ 281474976710656) (w : World) (hg : GOk w) :
 Calls Tryz.prog 139 #[.string (strL s)] w fun e w' => ∃ n ev, e = .returned (.tuple #[.int .i64 n, ev]) ∧ NumIs s n ev ∧ Below w.heap.size w w' := by
 have hz := strL_size s
 obtain ⟨e1, h1, h2⟩ := hg.syn
 obtain ⟨e2, h3, h4⟩ := hg.rng
 cases hc : Lib.atoiAll s
 ·rename_i v
  refine (Tryz.strconv_Atoi_ok (strL s) (by omega) v (by rw [strL_data]; exact hc) w).mono fun e w' h => ?_
  refine ⟨v, .nilIface, h.1, .inl ⟨hc, rfl⟩, ?_⟩
  rcases h.2 with e | ⟨t, e⟩
  ·rw [e]; exact Below.refl _ _
  ·rw [e]; exact Lib.bytesWorld_below _ _ _
 ·refine (Tryz.strconv_Atoi_syntax (strL s) (by omega) (by rw [strL_data]; intro v e; rw [hc] at e; cases e) (by rw [strL_data]; intro e; rw [hc] at e; cases e) e1 w h1 h2).mono fun e w' h => ?_
  obtain ⟨N, he, _, _, hb⟩ := h
  exact ⟨0, _, he, .inr ⟨(fun v e => by rw [hc] at e; cases e), _, _, rfl⟩, hb⟩
 ·refine (Tryz.strconv_Atoi_range (strL s) (by omega) (by rw [strL_data]; exact hc) e2 w h3 h4).mono fun e w' h => ?_
  obtain ⟨N, he, _, _, hb⟩ := h
  exact ⟨_, _, he, .inr ⟨(fun v e => by rw [hc] at e; cases e), _, _, rfl⟩, hb⟩
theorem idsNameD_nil {n : Int} (h : ¬ (0 ≤ n ∧ n ≤ 999999999)) : idsNameD n = [] := by unfold idsNameD; rw [if_neg h]
theorem idsNameD_of {n : Int} (h : 0 ≤ n ∧ n ≤ 999999999) : idsNameD n = [110, 101, 120, 116, 45] ++ numD n.toNat := by unfold idsNameD; rw [if_pos h]
def NumOf (s : Nm) (n : Int) : Prop := 0 ≤ n ∧ n ≤ 999999999 ∧ s = idsNameD n
theorem NumOf.inj {s : Nm} {n m : Int} (h : NumOf s n) (g : NumOf s m) : n = m := by
 have e := h.2.2.symm.trans g.2.2
 rw [idsNameD_of ⟨h.1, h.2.1⟩, idsNameD_of ⟨g.1, g.2.1⟩] at e
 have := numD_inj (List.append_cancel_left e)
 have := h.1; have := g.1; omega
def NumberDone (s : Nm) (w : World) (e : Ending) (w' : World) : Prop := ∃ n b, e = .returned (.tuple #[.int .i64 n, .bool b]) ∧ (b = true → NumOf s n) ∧ (b = false → ∀ m, ¬ NumOf s m) ∧ Below w.heap.size w w'
set_option maxHeartbeats 8000000 in
theorem number_calls (s : Nm) (hs : s.length ≤ 1000) (w : World) (hg : GOk w) :
 Calls Tryz.prog 136 #[.string (strL s)] w (NumberDone s w) := by
 have hcut := fun w => Tryz.strings_CutPrefix (strL s) ⟨#[110, 101, 120, 116, 45]⟩ w
 rw [strL_data] at hcut
 have e5 : (⟨#[110, 101, 120, 116, 45]⟩ : ByteArray).data.toList = [110, 101, 120, 116, 45] := rfl
 rw [e5] at hcut
 have hsz := strL_size s
 cases hp : Lib.hasPrefix s [110, 101, 120, 116, 45] with
 | false =>
  have ht : Lib.trimPrefix s [110, 101, 120, 116, 45] = s := by unfold Lib.trimPrefix; rw [hp]; rfl
  have hno : Hid (∀ m, ¬ NumOf s m) := Lib.hid (fun m h => by
   rw [h.2.2, idsNameD_of ⟨h.1, h.2.1⟩] at hp
   simp [Lib.hasPrefix] at hp)
  rw [hp, ht] at hcut
  have hat := fun w hg => atoi_calls s (by omega) w hg
  obtain ⟨t, htt⟩ : ∃ t, strL s = t := ⟨_, rfl⟩
  have hcut : ∀ w, Calls Tryz.prog 180 #[.string t, .string ⟨#[110, 101, 120, 116, 45]⟩] w fun e w' => e = .returned (.tuple #[.string t, .bool false]) ∧ w' = w := by rw [← htt]; exact hcut
  rw [htt] at hat ⊢
  have Hcut := Lib.hid hcut
  have Hat := Lib.hid hat
  have Hg := Lib.hid hg
  clear hcut hat hg hp ht htt hsz
  go_enter Tryz.func136, Tryz.ntmps136
  go_wp2_with fail
  refine (Hcut.out _).mono ?_; rintro e w1 ⟨rfl, hw1⟩; have hw1 := hw1.symm; subst hw1
  go_wp2_with fail
  refine (Hat.out _ Hg.out).mono ?_; rintro e w1 ⟨n, ev, rfl, hn, hb⟩
  have hev : ev = .nilIface ∨ ∃ t p, ev = .iface t p := by
   rcases hn with ⟨_, e⟩ | ⟨_, e⟩
   ·exact .inl e
   ·exact .inr e
  have Hb := Lib.hid hb
  clear hn hb
  rcases hev with rfl | ⟨tt, p, rfl⟩
  ·go_wp2
   go_ret2
   exact ⟨n, false, rfl, (fun e => by cases e), fun _ => hno.out, Hb.out⟩
  ·go_wp2
   go_ret2
   exact ⟨n, false, rfl, (fun e => by cases e), fun _ => hno.out, Hb.out⟩
 | true =>
  obtain ⟨r, hr⟩ : ∃ r, s = [110, 101, 120, 116, 45] ++ r := by
   unfold Lib.hasPrefix at hp
   obtain ⟨r, h⟩ := List.isPrefixOf_iff_prefix.1 hp
   exact ⟨r, h.symm⟩
  have ht : Lib.trimPrefix s [110, 101, 120, 116, 45] = r := by unfold Lib.trimPrefix; rw [hp, hr]; rfl
  rw [hp, ht] at hcut
  have hrl : r.length ≤ 281474976710656 := by rw [hr] at hs; simp at hs; omega
  have hat := fun w hg => atoi_calls r hrl w hg
  obtain ⟨t, htt⟩ : ∃ t, strL s = t := ⟨_, rfl⟩
  obtain ⟨u, huu⟩ : ∃ u, strL r = u := ⟨_, rfl⟩
  have hcut : ∀ w, Calls Tryz.prog 180 #[.string t, .string ⟨#[110, 101, 120, 116, 45]⟩] w fun e w' => e = .returned (.tuple #[.string u, .bool true]) ∧ w' = w := by rw [← htt, ← huu]; exact hcut
  rw [huu] at hat
  rw [htt]
  have Hcut := Lib.hid hcut
  have Hat := Lib.hid hat
  have Hg := Lib.hid hg
  have Htt := Lib.hid htt
  have Hr := Lib.hid hr
  clear hcut hat hg hp ht htt hsz huu hr hrl
  go_enter Tryz.func136, Tryz.ntmps136
  go_wp2_with fail
  refine (Hcut.out _).mono ?_; rintro e w1 ⟨rfl, hw1⟩; have hw1 := hw1.symm; subst hw1
  go_wp2_with fail
  refine (Hat.out _ Hg.out).mono ?_; rintro e w1 ⟨n, ev, rfl, hn, hb⟩
  have Hb := Lib.hid hb
  have Hn := Lib.hid hn
  clear hn hb
  rcases Hn.out with ⟨h1, rfl⟩ | ⟨h1, tt, p, rfl⟩
  ·have hnm := idsName_calls n w1 ((Hg.out.below Hb.out).int n)
   obtain ⟨m, hm⟩ : ∃ m, strL (idsNameD n) = m := ⟨_, rfl⟩
   rw [hm] at hnm
   have Hnm := Lib.hid hnm
   have Hm := Lib.hid hm
   have H1 := Lib.hid h1
   clear hnm hm h1
   by_cases heq : m.toList = t.toList
   ·have hE : (m.toList == t.toList) = true := by simpa using heq
    have HE := Lib.hid heq
    clear heq
    go_wp2_with fail
    refine (Hnm.out).mono ?_; rintro e w2 ⟨rfl, hb2⟩
    go_wp2
    go_ret2
    refine ⟨n, true, rfl, fun _ => ?_, (fun e => by cases e), Hb.out.trans (hb2.mono Hb.out.size)⟩
    have e1 : m = t := by
     exact (Lib.bytes_beq_iff _ _).1 (by simpa using HE.out)
    have e2 : idsNameD n = s := strL_inj (by rw [Hm.out, Htt.out, e1])
    by_cases hh : 0 ≤ n ∧ n ≤ 999999999
    ·exact ⟨hh.1, hh.2, e2.symm⟩
    ·rw [idsNameD_nil hh, Hr.out] at e2; cases e2
   ·have hE : (m.toList == t.toList) = false := by simpa using heq
    have HE := Lib.hid heq
    clear heq
    go_wp2_with fail
    refine (Hnm.out).mono ?_; rintro e w2 ⟨rfl, hb2⟩
    go_wp2
    go_ret2
    refine ⟨n, false, rfl, (fun e => by cases e), fun _ m' h' => HE.out ?_, Hb.out.trans (hb2.mono Hb.out.size)⟩
    have e3 : r = numD m'.toNat := by
     have := h'.2.2; rw [idsNameD_of ⟨h'.1, h'.2.1⟩, Hr.out] at this; exact List.append_cancel_left this
    have e4 : n = m' := by
     have := H1.out
     rw [e3, atoi_numD (by have := h'.2.1; omega)] at this
     injection this with this
     have := h'.1; omega
    rw [← Hm.out, ← Htt.out, e4, h'.2.2]
  ·have hno : Hid (∀ m, ¬ NumOf s m) := Lib.hid (fun m h => by
    have e3 : r = numD m.toNat := by
     have := h.2.2; rw [idsNameD_of ⟨h.1, h.2.1⟩, Hr.out] at this; exact List.append_cancel_left this
    exact h1 _ (by rw [e3]; exact atoi_numD (by have := h.2.1; omega)))
   clear h1
   go_wp2
   go_ret2
   exact ⟨n, false, rfl, (fun e => by cases e), fun _ => hno.out, Hb.out⟩
open Go.RowKit Go.Maps Go.Shelf
attribute [local go_sem] Oper.semAt_some
def numbD (s : Nm) : Option Int := match Lib.atoiAll (s.drop 5) with
 | .ok v => if 0 ≤ v ∧ v ≤ 999999999 ∧ s = idsNameD v then some v else none
 | _ => none
theorem numbD_iff (s : Nm) (n : Int) : numbD s = some n ↔ NumOf s n := by
 constructor
 ·intro h
  unfold numbD at h
  split at h
  ·split at h
   ·rename_i h1; cases h; exact h1
   ·cases h
  ·cases h
 ·rintro ⟨h0, h1, h2⟩
  have e : s.drop 5 = numD n.toNat := by rw [h2, idsNameD_of ⟨h0, h1⟩]; rfl
  unfold numbD
  rw [e, atoi_numD (by omega)]
  dsimp only
  rw [show ((n.toNat : Nat) : Int) = n by omega, if_pos ⟨h0, h1, h2⟩]
theorem numbD_done {s : Nm} {n : Int} {b : Bool} (h1 : b = true → NumOf s n) (h0 : b = false → ∀ m, ¬ NumOf s m) : numbD s = if b then some n else none := by
 cases b with
 | true => exact (numbD_iff s n).2 (h1 rfl)
 | false =>
  cases h : numbD s with
  | none => rfl
  | some m => exact absurd ((numbD_iff s m).1 h) (h0 rfl m)
def numL (names : List Nm) : List (Int × Nm) := names.filterMap fun s => (numbD s).map fun n => (n, s)
theorem numL_snoc (l : List Nm) (s : Nm) : numL (l ++ [s]) = numL l ++ (match numbD s with | some n => [(n, s)] | none => []) := by
 unfold numL
 rw [List.filterMap_append]
 congr 1
 cases h : numbD s with
 | none => simp [h]
 | some n => simp [h]
theorem numL_le (l : List Nm) : (numL l).length ≤ l.length := List.length_filterMap_le _ _
set_option maxHeartbeats 8000000 in
theorem nums1_in (n : Nat) (hn : 2 ≤ n) (l sb : Nat) (v : Value) (names : List Nm) (Fp : Nat → Prop) (hFs : ¬ Fp sb) (hFv : ∀ b o len c, v = .slice (some ⟨b, o, none⟩) len c → ¬ Fp b) (hFg : ∀ k, Fp k → NG ≤ k)
 (hnm : ∀ s ∈ names, s.length ≤ 1000) (hnl : names.length ≤ 1000000) (J Jx : List (Int × Nm) → World → Prop)
 (hJ : ∀ pre W W', J pre W → Below W.heap.size W W' → J pre W')
 (hY : ∀ pre (x : Int × Nm) W, J pre W → pre.length < names.length → YieldAt Fence.wide (n - 1) Tryz.prog l #[.int .i64 x.1, .string (strL x.2)] W fun e W' =>
  (e = .returned (.bool true) ∧ J (pre ++ [x]) W' ∧ Keeps Fp W W') ∨ (e = .returned (.bool false) ∧ Jx (pre ++ [x]) W'))
 (W : World) (hs : W.cell? ⟨sb, 0, none⟩ = some v) (hv : RdS W v names) (hg : GOk W) (h0 : J [] W) :
 CallsIn Fence.wide n Tryz.prog 135 #[.func (.yield l) #[] #[], .pointer (some ⟨sb, 0, none⟩)] W fun e W' => (∃ v, e = .returned v) ∧
  ((∃ ys, ys = numL names ∧ J ys W') ∨ (∃ pre, True ∧ Jx pre W')) := by
 obtain ⟨a, cap, rfl, hlc, hcap⟩ := hv.form
 have hli : (names.length : Int) ≤ 1000000 := by omega
 have Hv := Lib.hid hv
 have H0 := Lib.hid h0
 have Hg := Lib.hid hg
 have Hnm := Lib.hid hnm
 clear hv h0 hg hnm
 refine callsIn_of_wp Tryz.func135 rfl trivial ?_ rfl
 simp only [Tryz.ntmps135, List.size_toArray, List.length_cons, List.length_nil, Nat.reduceAdd, Nat.reduceSub, Array.replicate_succ, Array.replicate_zero, List.push_toArray, List.append_toArray, List.nil_append, List.cons_append]
 gi_wp2
 gi_loopw [4, 5, 6, 9] (fun c0 c1 c2 i wr => ∃ k : Nat, k ≤ names.length ∧ i = .int .i64 (k : Int) ∧ Hid (J (numL (names.take k)) wr) ∧ Hid (Keeps Fp W wr))
  (fun _ _ _ i _ => names.length - (intOf i).toNat)
 case atStart => exact ⟨0, Nat.zero_le _, rfl, H0, Lib.hid (Keeps.refl _ _)⟩
 case round =>
  obtain ⟨k, hk, rfl, hP, hK⟩ := hrel
  by_cases hlt : k < names.length
  ·obtain ⟨s, hf⟩ : ∃ s, names[k]? = some s := ⟨_, List.getElem?_eq_getElem hlt⟩
   have hvr := Hv.out.keeps hK.out (fun b o l c e => hFv b o l c e)
   obtain ⟨b, off, cap', hsl, hbl, hc⟩ := RdS.at hvr hf
   cases hsl
   have hmem : s ∈ names := List.mem_of_getElem? hf
   have hgr := Hg.out.gb (GB.keeps hK.out hFg)
   have hnum := number_calls s (Hnm.out s hmem) wr hgr
   have hnum := (callsIn_wide (n := n - 1)).2 hnum
   have Hnum := Lib.hid hnum
   have htk : names.take (k + 1) = names.take k ++ [s] := by rw [List.take_add_one, hf]; rfl
   have Htk := Lib.hid htk
   obtain ⟨t, htt⟩ : ∃ t, strL s = t := ⟨_, rfl⟩
   rw [htt] at hc Hnum
   have Htt := Lib.hid htt
   have hk0 : (0 : Int) ≤ (k : Int) := by omega
   have hk1 : (k : Int) < (names.length : Int) := by omega
   have hkw : IntKind.i64.wrap ((k : Int) + 1) = (k : Int) + 1 := IntWalk.i64_in _ (by omega)
   have hpl : (numL (names.take k)).length < names.length := by have := numL_le (names.take k); rw [List.length_take] at this; omega
   have Hpl := Lib.hid hpl
   clear hvr hgr hnum htk hf hmem htt hpl
   gi_wp2_with fail
   refine ⟨trivial, fun _ => by omega, ?_⟩
   refine (Hnum.out).mono ?_; rintro e W1 ⟨m, bb, rfl, hb1, hb0, hbel⟩
   have hnd := numbD_done hb1 hb0
   have hJ1 := hJ _ _ _ hP.out hbel
   have hK1 := hK.out.trans (Keeps.ofBelow (F := Fp) hbel)
   have Hnd := Lib.hid hnd
   have HJ1 := Lib.hid hJ1
   have HK1 := Lib.hid hK1
   clear hb1 hb0 hnd hJ1 hK1 hbel
   cases bb with
   | false =>
    gi_wp2
    all_goals refine ⟨fun _ _ => trivial, ?_⟩
    all_goals
     gi_wp2
     go_roundw
     case rel =>
      refine ⟨k + 1, by omega, by simp, ?_, HK1⟩
      have e1 := Hnd.out
      rw [Htk.out, numL_snoc, e1]
      simpa using HJ1
     case measure => simp [intOf] <;> omega
   | true =>
    obtain ⟨fn, tmps, assign, body, hy, hR⟩ := hY _ (m, s) W1 HJ1.out Hpl.out
    dsimp only at hy
    rw [Htt.out] at hy
    have HR := Lib.hid hR
    clear hR
    gi_wp2
    refine ⟨fun _ => by omega, ?_⟩
    refine (HR.out).mono ?_
    rintro e W3 (⟨rfl, hJ3, hk3⟩ | ⟨rfl, hJx3⟩)
    ·have HJ3 := Lib.hid hJ3
     have HK3 := Lib.hid (HK1.out.trans hk3)
     clear hJ3 hk3
     gi_wp2
     go_roundw
     case rel =>
      refine ⟨k + 1, by omega, by simp, ?_, HK3⟩
      have e1 := Hnd.out
      rw [Htk.out, numL_snoc, e1]
      simpa using HJ3
     case measure => simp [intOf] <;> omega
    ·have HJx := Lib.hid hJx3
     clear hJx3
     gi_wp2
     refine bodyPost_ret (results_none rfl _ _ _) rfl ?_
     exact ⟨⟨_, rfl⟩, .inr ⟨_, trivial, HJx.out⟩⟩
  ·have hje : k = names.length := by omega
   subst hje
   have hjl : ¬ ((names.length : Int) < (names.length : Int)) := by omega
   gi_wp2
   go_end0
   have hfin := hP.out
   rw [List.take_length] at hfin
   refine ⟨⟨_, rfl⟩, .inl ?_⟩
   first | exact hfin | exact ⟨_, rfl, hfin⟩
theorem belowGrown {W W' : World} (h : Below W.heap.size W W') : W.grownBy W' none := ⟨h.os, h.tape, h.output, h.size, fun k h1 _ => h.block k h1⟩
theorem nums_stops (n : Nat) (hn : 2 ≤ n) (sb : Nat) (v : Value) (names : List Nm) (Fp : Nat → Prop) (hFs : ¬ Fp sb) (hFv : ∀ b o len c, v = .slice (some ⟨b, o, none⟩) len c → ¬ Fp b) (hFg : ∀ k, Fp k → NG ≤ k)
 (hnm : ∀ s ∈ names, s.length ≤ 1000) (hnl : names.length ≤ 1000000) (w : World) (hs : w.cell? ⟨sb, 0, none⟩ = some v) (hv : RdS w v names) (hg : GOk w) :
 SeqStopsK Fence.wide n Tryz.prog 135 #[.pointer (some ⟨sb, 0, none⟩)] (fun x : Int × Nm => #[.int .i64 x.1, .string (strL x.2)]) (Keeps Fp)
  (fun ys => ys = numL names) (fun _ => True) names.length w := fun l J Jx W hW hJ hJx hY h0 => by
 have hs' := (hW.cell (p := ⟨sb, 0, none⟩) (Lib.lt_of_cell hs)).trans hs
 exact nums1_in n hn l sb v names Fp hFs hFv hFg hnm hnl J Jx (fun pre W1 W2 h1 h2 => hJ _ _ _ none h1 (belowGrown h2) (fun r e => by cases e)) hY W hs' (hv.below (Nat.le_refl _) hW) (hg.below hW) h0
theorem numbers_in (n : Nat) (a : Option Addr) (len cap : Nat) (w : World) :
 CallsIn Fence.wide n Tryz.prog 97 #[.slice a len cap] w fun e w' => e = .returned (.func (.func 135) #[] #[.pointer (some ⟨w.heap.size, 0, none⟩)]) ∧ w' = w.alloc (.cells #[.slice a len cap] 27) := by
 refine callsIn_of_wp Tryz.func97 rfl trivial ?_ rfl
 simp only [Tryz.ntmps97, List.size_toArray, List.length_cons, List.length_nil, Nat.reduceAdd, Nat.reduceSub, Array.replicate_succ, Array.replicate_zero, List.push_toArray, List.append_toArray, List.nil_append, List.cons_append]
 gi_wp2
 go_ret
 exact ⟨rfl, rfl⟩
attribute [local go_sem] Oper.semAt_some
def lastNum (l : List (Int × Nm)) : Int × Nm := l.getLast?.getD (0, [])
theorem lastNum_snoc (l : List (Int × Nm)) (x : Int × Nm) : lastNum (l ++ [x]) = x := by unfold lastNum; rw [List.getLast?_concat]; rfl
def sortedNm (d : FsD) (ss : List Nm) : Prop := ∃ s0 : List Nm, s0.Perm (d.now.map (·.1)) ∧ ss = s0.mergeSort (fun x y => decide (x ≤ y))
theorem sortedNm.perm {d : FsD} {ss : List Nm} (h : sortedNm d ss) : ss.Perm (d.now.map (·.1)) := by
 obtain ⟨s0, h1, rfl⟩ := h
 exact (List.mergeSort_perm _ _).trans h1
theorem list_calls (f : Nat) (d : FsD) (ρ : Rho) (w : World) (h : FsAt w f d ρ) (hdn : d.down = false) (hl : d.now.length ≤ 256) :
 Calls Tryz.prog 98 #[.pointer (some ⟨f, 0, none⟩)] w fun e w' => ∃ (v : Value) (ss : List Nm), e = .returned v ∧ sortedNm d ss ∧ ss.length = d.now.length ∧ w'.ownsRow w.heap.size 9 1 v ss.length (ss.flatMap s1) ∧ Below w.heap.size w w' := by
 refine (list_up f d ρ w h hdn hl).mono fun e w' g => ?_
 obtain ⟨v, ss, rfl, hp, hrow, _, hb⟩ := g
 have hf : ∀ l : List Nm, l.map encStr = l.flatMap s1 := fun l => by
  induction l with
  | nil => rfl
  | cons a l ih => rw [List.map_cons, List.flatMap_cons, ih]; rfl
 refine ⟨v, _, rfl, ⟨ss, hp, rfl⟩, ?_, ?_, hb⟩
 ·rw [List.length_mergeSort, hp.length_eq, List.length_map]
 ·rw [List.length_mergeSort, ← hf]; exact hrow
def OpenI (w : World) (f S1 : Nat) (pre : List (Int × Nm)) (W : World) : Prop :=
 W.heap[S1]? = some (.cells #[.pointer (some ⟨f, 0, none⟩), .int .i64 0, .int .i64 (lastNum pre).1, .string (strL (lastNum pre).2)] 149 (0, 0)) ∧ W.heap[S1 + 1]? = some (.cells #[.pointer (some ⟨S1, 0, none⟩)] 107 (0, 0)) ∧ Below w.heap.size w W
theorem open_step {w W : World} {f S1 B : Nat} {pre : List (Int × Nm)} {m : Int} {s : Nm} {t : ByteArray} (ht : strL s = t) (h : OpenI w f S1 pre W) (hB : S1 + 2 ≤ B) (hS : w.heap.size ≤ S1) :
 KeepsFrom B W ((W.setCell ⟨S1, 2, none⟩ (.int .i64 m)).setCell ⟨S1, 3, none⟩ (.string t)).drew ∧ Keeps (fun k => k = S1 ∨ B ≤ k) W ((W.setCell ⟨S1, 2, none⟩ (.int .i64 m)).setCell ⟨S1, 3, none⟩ (.string t)).drew ∧ OpenI w f S1 (pre ++ [(m, s)]) ((W.setCell ⟨S1, 2, none⟩ (.int .i64 m)).setCell ⟨S1, 3, none⟩ (.string t)).drew := by
 obtain ⟨h1, h2, h3⟩ := h
 have k0 : Keeps (fun k => k = S1) W ((W.setCell ⟨S1, 2, none⟩ (.int .i64 m)).setCell ⟨S1, 3, none⟩ (.string t)).drew := ((Keeps.setCell (F := fun k => k = S1) _ ⟨S1, 2, none⟩ _ rfl).trans (Keeps.setCell (F := fun k => k = S1) _ ⟨S1, 3, none⟩ _ rfl)).trans (Keeps.drew _ _)
 have e1 := Go.heap_setCell_same W S1 2 _ _ (.int .i64 m) h1
 have e2 := Go.heap_setCell_same (W.setCell ⟨S1, 2, none⟩ (.int .i64 m)) S1 3 _ _ (.string t) e1
 refine ⟨⟨k0.size, fun k o h5 h6 _ => (k0.heap h6 (by omega))⟩, k0.mono (fun k _ e => .inl e), ?_, k0.heap h2 (by omega), h3.trans (k0.below (fun i e => by omega) h3.size)⟩
 rw [lastNum_snoc, ht]
 exact e2
structure IdsOpenDone (w : World) (f : Nat) (d : FsD) (e : Ending) (w' : World) (ib : Nat) (ss : List Nm) : Prop where
 ret : e = .returned (.tuple #[.pointer (some ⟨ib, 0, none⟩), .int .i64 0])
 names : sortedNm d ss
 hd : w'.heap[ib]? = some (.cells #[.pointer (some ⟨f, 0, none⟩), .int .i64 (lastNum (numL ss)).1, .int .i64 (lastNum (numL ss)).1, .string (strL (lastNum (numL ss)).2)] 149 (0, 0))
 new : w.heap.size ≤ ib
 below : Below w.heap.size w w'
set_option maxHeartbeats 8000000 in
theorem idsOpen_calls (f : Nat) (d : FsD) (ρ : Rho) (w : World) (h : FsAt w f d ρ) (hdn : d.down = false) (hl : d.now.length ≤ 256) (hnm : ∀ p ∈ d.now, p.1.length ≤ 1000) (hg : GOk w) :
 Calls Tryz.prog 55 #[.pointer (some ⟨f, 0, none⟩)] w fun e w' => ∃ ib ss, IdsOpenDone w f d e w' ib ss := by
 refine (callsIn_wide (n := 9)).1 ?_
 have hro : Fence.wide.round = none := rfl
 have hdown := (callsIn_wide (n := 8)).2 (down_calls f d ρ w h)
 rw [hdn] at hdown
 obtain ⟨S1, hS1⟩ : ∃ S1, w.heap.size = S1 := ⟨_, rfl⟩
 obtain ⟨W2, hW2⟩ : ∃ W2, (w.alloc (.cells #[.pointer (some ⟨f, 0, none⟩), .int .i64 0, .int .i64 0, .string ⟨#[]⟩] 149)).alloc (.cells #[.pointer (some ⟨S1, 0, none⟩)] 107) = W2 := ⟨_, rfl⟩
 have hb2 : Below w.heap.size w W2 := by rw [← hW2]; exact ((Below.refl _ _).alloc (Nat.le_refl _) _).alloc (by simp) _
 have hlist := (callsIn_wide (n := 8)).2 (list_calls f d ρ W2 (h.below hb2) hdn hl)
 have Hdown := Lib.hid hdown
 have Hlist := Lib.hid hlist
 clear hdown hlist
 refine callsIn_of_wp_marks Tryz.func55 rfl trivial ?_ hro
 simp only [Tryz.ntmps55, List.size_toArray, List.length_cons, List.length_nil, Nat.reduceAdd, Nat.reduceSub, Array.replicate_succ, Array.replicate_zero, List.push_toArray, List.append_toArray, List.nil_append, List.cons_append]
 gi_wp2_with fail
 refine ⟨trivial, ?_⟩
 refine (Hdown.out).mono ?_; rintro e w1 ⟨rfl, hw1⟩; have hw1 := hw1.symm; subst hw1
 gi_wp2_with fail
 refine ⟨trivial, ?_⟩
 refine (Hlist.out).mono ?_; rintro e w3 ⟨v, ss, rfl, hss, hsl, hrow, hb3⟩
 obtain ⟨aa, ac, rfl⟩ := own_form0 hrow
 have hrd0 : RdS w3 (.slice aa ss.length ac) ss := rdL_ofOwn s1_len (by decide) hrow
 obtain ⟨nn, hnn⟩ : ∃ nn, ss.length = nn := ⟨_, rfl⟩
 have hsm : ∀ s ∈ ss, s.length ≤ 1000 := fun s hs => by
  have := (sortedNm.perm hss).mem_iff.1 hs
  obtain ⟨p, hp, rfl⟩ := List.mem_map.1 this
  exact hnm p hp
 have hsn : ss.length ≤ 1000000 := by omega
 have hbase : W2.heap.size = S1 + 2 := by rw [← hW2, ← hS1]; simp
 have hS1h : W2.heap[S1]? = some (.cells #[.pointer (some ⟨f, 0, none⟩), .int .i64 0, .int .i64 0, .string ⟨#[]⟩] 149 (0, 0)) := by
  rw [← hW2]
  exact (Below.heap_alloc _ _ _ (by simp; omega)).trans (heap_new_at _ hS1.symm)
 have hS2h : W2.heap[S1 + 1]? = some (.cells #[.pointer (some ⟨S1, 0, none⟩)] 107 (0, 0)) := by
  rw [← hW2]; exact heap_new_at _ (by simp; omega)
 have hI3 : OpenI w f S1 [] w3 := ⟨(hb3.block _ (by omega)).trans hS1h, (hb3.block _ (by omega)).trans hS2h, hb2.trans (hb3.mono (by omega))⟩
 have hI4 : OpenI w f S1 [] (w3.alloc (.cells #[.slice aa nn ac] 27)) := ⟨(Below.heap_alloc _ _ _ (Array.getElem?_eq_some_iff.1 hI3.1).1).trans hI3.1, (Below.heap_alloc _ _ _ (Array.getElem?_eq_some_iff.1 hI3.2.1).1).trans hI3.2.1, hI3.2.2.alloc hI3.2.2.size _⟩
 have hsz3 := hb3.size
 have hg3 : GOk (w3.alloc (.cells #[.slice aa nn ac] 27)) := hg.below hI4.2.2
 have hvf : ∀ b o len c, (Value.slice aa nn ac) = .slice (some ⟨b, o, none⟩) len c → ¬ (b = S1 ∨ (w3.alloc (.cells #[.slice aa nn ac] 27)).heap.size ≤ b) := by
  intro b o len c e
  injection e with e
  subst e
  have h1 := hrow.lt b rfl
  simp; omega
 rw [hnn] at hrow hrd0
 have Hrest := Lib.hid (And.intro hss hsl)
 clear hsl hrow
 rw [hnn]
 gi_wp2_with (refine ⟨trivial, ?_⟩; refine (numbers_in _ _ _ _ _).mono ?_; rintro e w' ⟨rfl, rfl⟩)
 refine wpIn_rangeFunc_ownG hro (by omega) (gf := 135) (lb := #[.pointer (some ⟨w3.heap.size, 0, none⟩)]) rfl trivial (enters_of Tryz.func135 (by kernel_rfl) rfl)
  (nums_stops 8 (by omega) w3.heap.size (.slice aa nn ac) ss (fun k => k = S1 ∨ (w3.alloc (.cells #[.slice aa nn ac] 27)).heap.size ≤ k) (by simp; omega) hvf (fun k e => by have := hg.size; rcases e with e | e <;> (try simp at e) <;> omega) hsm hsn _ (by go_simp) (hrd0.below (Nat.le_refl _) ((Below.refl _ _).alloc (Nat.le_refl _) _)) hg3)
  (fun h1 h2 => Keeps.trans h1 h2) (fun W l o o' hl _ _ _ => (Keeps.grown (grownBy_putObj' W l o')).mono (fun i _ e => by cases e; exact .inr hl)) (Below.refl _ _) (fun _ => rfl)
  (OpenI w f S1) (fun _ _ _ => False)
  (fun pre W W' row hI hgr hr => by
   have hne : ∀ k o, W.heap[k]? = some o → o.isCells = true → some k ≠ row := fun k o h1 h2 e => by
    obtain ⟨_, o', h3, h4⟩ := hr k e.symm
    rw [h1] at h3; cases h3; rw [h2] at h4; cases h4
   exact ⟨(hgr.block _ (Array.getElem?_eq_some_iff.1 hI.1).1 (hne _ _ hI.1 rfl)).trans hI.1, (hgr.block _ (Array.getElem?_eq_some_iff.1 hI.2.1).1 (hne _ _ hI.2.1 rfl)).trans hI.2.1, hI.2.2.grown hgr hI.2.2.size (fun k e => by have := (hr k e).1; simp at this; omega)⟩)
  (fun c s W W' row h => h.elim) hI4
  (fun x => { tmps := #[.pointer (some ⟨f, 0, none⟩), undef, .pointer none, .int .i64 0, .pointer (some ⟨S1 + 1, 0, none⟩), .int .i64 x.1, .string (strL x.2), .bool false, .pointer (some ⟨f, 0, none⟩), .bool false, .bool false, .pointer (some ⟨f, 0, none⟩), .bool false, .pointer (some ⟨f, 0, none⟩), .agg #[.pointer (some ⟨f, 0, none⟩), .int .i64 0, .int .i64 0, .string ⟨#[]⟩], .pointer (some ⟨S1, 0, none⟩), .pointer (some ⟨f, 0, none⟩), .slice aa nn ac, .func (.func 135) #[] #[.pointer (some ⟨w3.heap.size, 0, none⟩)], .int .i64 x.1, .string (strL x.2), undef, undef, undef, undef, undef, undef, undef, undef, undef, undef, undef, undef, undef, undef, undef, undef], defers := [] }) ?assign ?body ?done ?stop
 case assign =>
  intro l x W K hK
  gi_wp2
  exact hK
 case body =>
  rintro l pre ⟨m, s⟩ W ⟨h1, h2, h3⟩ hlt
  obtain ⟨⟨q0, q1, q2, q3⟩, hfz⟩ := cells4 h1
  have f2 := hfz 2
  have f3 := hfz 3
  have c0 := cell1 h2
  obtain ⟨t, ht⟩ : ∃ t, strL s = t := ⟨_, rfl⟩
  have hfin := open_step (m := m) (s := s) (t := t) ht ⟨h1, h2, h3⟩ (show S1 + 2 ≤ (w3.alloc (.cells #[.slice aa nn ac] 27)).heap.size by simp; omega) (by omega)
  have HF := Lib.hid hfin
  clear hfin h1 h2 h3 hfz q0 q1 hlt Hrest hg3 hvf hsz3 hI3 hI4 hS1h hS2h hbase hsn hsm hrd0 hss hb3 hb2 hW2 hS1 Hlist Hdown hg hnm hl hdn h
  generalize (lastNum pre).1 = p1 at q2
  generalize strL (lastNum pre).2 = p2 at q3
  --BODY
  gi_wp2
  gi_region
  all_goals
   gi_wp2
   exact HF.out
  --END
 case stop => exact fun D c pre W _ _ h _ => h.elim
 case done =>
  rintro D ys W hD rfl ⟨h1, h2, h3⟩ hK
  obtain ⟨⟨q0, q1, q2, q3⟩, hfz⟩ := cells4 h1
  have f1 := hfz 1
  have c0 := cell1 h2
  have hDs : S1 + 2 ≤ D := by simp at hD; omega
  have hfin : IdsOpenDone w f d (.returned (.tuple #[.pointer (some ⟨S1, 0, none⟩), .int .i64 0])) ((W.setCell ⟨S1, 1, none⟩ (.int .i64 (lastNum (numL ss)).1)).drew.putObj D (.deferred none)) S1 ss := by
   have k0 : Keeps (fun k => k = S1) W (W.setCell ⟨S1, 1, none⟩ (.int .i64 (lastNum (numL ss)).1)).drew := (Keeps.setCell (F := fun k => k = S1) _ ⟨S1, 1, none⟩ _ rfl).trans (Keeps.drew _ _)
   have k1 : Keeps (fun k => k = D) (W.setCell ⟨S1, 1, none⟩ (.int .i64 (lastNum (numL ss)).1)).drew ((W.setCell ⟨S1, 1, none⟩ (.int .i64 (lastNum (numL ss)).1)).drew.putObj D (.deferred none)) := (Keeps.grown (grownBy_putObj' _ D _)).mono (fun i _ e => (Option.some.inj e).symm)
   have e1 := Go.heap_setCell_same W S1 1 _ _ (.int .i64 (lastNum (numL ss)).1) h1
   refine ⟨rfl, hss, (k1.heap (show (W.setCell ⟨S1, 1, none⟩ (.int .i64 (lastNum (numL ss)).1)).drew.heap[S1]? = _ from e1) (by omega)), by omega, h3.trans (((k0.mono (G := fun k => k = S1 ∨ k = D) (fun k _ e => .inl e)).trans (k1.mono (fun k _ e => .inr e))).below (fun i e => by omega) h3.size)⟩
  have hK' : ∀ v, (W.setCell ⟨S1, 1, none⟩ v).drew.heap[D]? = some (.deferred (some [])) := fun v => (Go.heap_setCell_other W ⟨S1, 1, none⟩ D v (by show D ≠ S1; omega)).trans hK
  have HF := Lib.hid (And.intro hfin hK')
  generalize hp1 : (lastNum (numL ss)).1 = p1 at q2 HF
  generalize strL (lastNum (numL ss)).2 = p2 at q3
  clear hfin hK' h1 h2 h3 hfz q0 hp1 Hrest hg3 hvf hsz3 hI3 hI4 hS1h hS2h hbase hsn hsm hrd0 hss hb3 hb2 hW2 hS1 Hlist Hdown hg hnm hl hdn h hK hD hDs
  gi_wp2
  gi_region
  all_goals
   gi_wp2
   refine ⟨by simp, .inl ⟨_, _, rfl, run_takeDeferred (w := (W.setCell ⟨S1, 1, none⟩ (.int .i64 p1)).drew) (HF.out.2 _), ?_⟩⟩
   refine ⟨_, results_tmp2 rfl _ _ _, ?_⟩
   exact ⟨S1, ss, HF.out.1⟩
end Go.Proofs.YtffnbkmigapmjaaGreatDoor
