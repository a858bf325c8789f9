/- Printed out of the texts of wip/tpl. -/
import Derived.Test.YtffnbkmigapmjaaGreatDoorT10
import Derived.Test.YtffnbkmigapmjaaGreatDoorT15
import Derived.Great.BuildSlice
set_option linter.unusedSimpArgs false
set_option linter.unusedVariables false
set_option maxRecDepth 100000
namespace Go.Proofs.YtffnbkmigapmjaaGreatDoor
open Go.RowKit Go.Maps
theorem index_contains : ∀ (l : List UInt8) (c : UInt8), (0 ≤ Lib.indexByte l c) ↔ l.contains c = true
 | [], c => by simp [Lib.indexByte]
 | b :: l, c => by
  rw [Lib.indexByte]
  have ih := index_contains l c
  have hge := Lib.indexByte_ge l c
  by_cases h : (b == c) = true
  ·rw [if_pos h]
   have : b = c := by simpa using h
   subst this
   simp
  ·rw [if_neg h]
   have hne : ¬ c = b := fun e => h (by rw [e]; simp)
   by_cases h1 : Lib.indexByte l c == -1
   ·rw [if_pos h1]
    have h1' : Lib.indexByte l c = -1 := by simpa using h1
    rw [h1'] at ih
    have : l.contains c = false := by
     cases hc : l.contains c with
     | true => have := ih.2 hc; omega
     | false => rfl
    rw [List.contains_cons, this]
    simp [hne]
   ·rw [if_neg h1]
    have h1' : ¬ Lib.indexByte l c = -1 := by simpa using h1
    have h2 := ih.1 (by omega)
    rw [List.contains_cons, h2]
    simp
    omega
set_option maxHeartbeats 2000000 in
theorem in_calls (s : List UInt8) (q : UInt8) (w : World) :
 Calls Tryz.prog 44 #[.string (strL s), .int .u8 q.toNat] w fun e w' => e = .returned (.bool (s.contains q)) ∧ w' = w := by
 have h := Tryz.strings_IndexByte (strL s) (q.toNat : Int) w
 rw [strL_data] at h
 have hq : ((q.toNat : Int).toNat).toUInt8 = q := by simp
 rw [hq] at h
 have hc := index_contains s q
 obtain ⟨i, hi⟩ : ∃ i, Lib.indexByte s q = i := ⟨_, rfl⟩
 rw [hi] at h hc
 have H1 := Lib.hid h
 have Hc : Hid (decide (0 ≤ i) = s.contains q) := Lib.hid (by
  cases hs : s.contains q with
  | true => exact decide_eq_true (hc.2 hs)
  | false => exact decide_eq_false (fun e => by rw [hc.1 e] at hs; cases hs))
 clear h hc hi hq
 generalize strL s = ss at H1
 go_enter Tryz.func44, Tryz.ntmps44
 go_wp2_with fail
 refine (H1.out).mono ?_; rintro e w1 ⟨rfl, rfl⟩
 go_wp2
 go_ret
 exact ⟨by rw [← Hc.out]; rfl, rfl⟩
theorem step_buildB {ops : Array Oper} {o : Oper} {a : Act} {K : Act → World → Prop} {Q : Exit → Act → World → Prop} {E : Prop} {w : World} {x : Operand} {q : UInt8} (hgd : o.guard = none) (ho : o.op = .buildSlice 22 2 #[(0, x), (1, .const (.int .u8 45))]) (hx : a.eval x = .int .u8 q.toNat)
 (h : ∀ g w', RdB w' (.slice (some ⟨g, 0, none⟩) 2 2) [q, 45] → Below w.heap.size w w' → K (a.put o.dst (.slice (some ⟨g, 0, none⟩) 2 2)) w') :
 if Region.wanted o (yielded ops a.tmps) = true then Oper.wp Tryz.prog o a w K Q else E := by
 rw [if_pos (by simp [Region.wanted, hgd])]
 obtain ⟨i0, hi, hz0, hz1, hz2⟩ := info_parts infoU8
 have hr : RdB (w.alloc (.cells #[.int .u8 q.toNat, .int .u8 45] 5)) (.slice (some ⟨w.heap.size, 0, none⟩) 2 2) [q, 45] := by
  refine .inr ⟨w.heap.size, 0, 2, rfl, by simp, Nat.le_refl _, by decide, by simp, ?_⟩
  intro j y hy
  match j, hy with
  | 0, hy => cases hy; rw [Nat.zero_add, cell_of_row _ _ _ _ _ _ (heap_alloc_new w _)]; rfl
  | 1, hy => cases hy; rw [cell_of_row _ _ _ _ _ _ (heap_alloc_new w _)]; rfl
  | j + 2, hy => cases hy
 have := h w.heap.size (w.alloc (.cells #[.int .u8 q.toNat, .int .u8 45] 5)) hr ((Below.refl _ _).alloc (Nat.le_refl _) _)
 refine wp_buildSlice 22 5 2 _ ho #[.int .u8 q.toNat, .int .u8 45] i0 _ Tryz.underlying22 hi hz0 (by rw [hz1]; decide) (by rw [hz1]; decide) ?_ this
 rw [hz1]
 have e1 : a.eval (.const (.int .u8 45)) = .int .u8 45 := rfl
 simp only [List.map_toArray, List.map_cons, List.map_nil, hx, e1]
 have hh : Instr.fill (fun i => some (i * 1, 1)) (Array.map (fun x => (Value.int IntKind.u8 0).cells[x % (Value.int IntKind.u8 0).cells.size]!) (Array.range (2 * 1))) [(0, Value.int IntKind.u8 (q.toNat : Int)), (1, Value.int IntKind.u8 45)] = some #[Value.int IntKind.u8 (q.toNat : Int), Value.int IntKind.u8 45] := by kernel_rfl
 exact hh
def allQ : List UInt8 := [116, 105, 97, 100, 104, 99]
def nameD (q : UInt8) (n : Int) : Nm := if allQ.contains q = true ∧ 1 ≤ n ∧ n ≤ 999999999 then [q, 45] ++ numD n.toNat else []
set_option maxHeartbeats 8000000 in
theorem name_calls (q : UInt8) (n : Int) (w : World) (hI : 0 ≤ n → n ≤ 999999999 → ItoaOk n.toNat w) :
 Calls Tryz.prog 12 #[.int .u8 q.toNat, .int .i64 n] w fun e w' => e = .returned (.string (strL (nameD q n))) ∧ Below w.heap.size w w' := by
 have hin := in_calls allQ q w
 have hst : strL allQ = ⟨#[116, 105, 97, 100, 104, 99]⟩ := rfl
 rw [hst] at hin
 obtain ⟨qn, hqn⟩ : ∃ qn : Nat, q.toNat = qn := ⟨_, rfl⟩
 obtain ⟨b, hb⟩ : ∃ b, allQ.contains q = b := ⟨_, rfl⟩
 have Hn : Hid (nameD q n = if b = true ∧ 1 ≤ n ∧ n ≤ 999999999 then [q, 45] ++ numD n.toNat else []) := Lib.hid (by unfold nameD; rw [hb])
 rw [hb] at hin
 have Hin := Lib.hid hin
 clear hin hst hb
 cases b with
 | false =>
  have Hn2 : Hid (nameD q n = []) := Lib.hid (by rw [Hn.out, if_neg (by simp)])
  clear hI hqn
  go_enter Tryz.func12, Tryz.ntmps12
  go_wp2_with fail
  refine (Hin.out).mono ?_; rintro e w1 ⟨rfl, rfl⟩
  go_wp2
  go_ret
  rw [Hn2.out]
  exact ⟨rfl, Below.refl _ _⟩
 | true =>
  by_cases h0 : n < 1
  ·have Hn2 : Hid (nameD q n = []) := Lib.hid (by rw [Hn.out, if_neg (by omega)])
   clear hI hqn
   go_enter Tryz.func12, Tryz.ntmps12
   go_wp2_with fail
   refine (Hin.out).mono ?_; rintro e w1 ⟨rfl, rfl⟩
   go_wp2
   go_ret
   rw [Hn2.out]
   exact ⟨rfl, Below.refl _ _⟩
  ·by_cases h1 : 999999999 < n
   ·have Hn2 : Hid (nameD q n = []) := Lib.hid (by rw [Hn.out, if_neg (by omega)])
    clear hI hqn
    go_enter Tryz.func12, Tryz.ntmps12
    go_wp2_with fail
    refine (Hin.out).mono ?_; rintro e w1 ⟨rfl, rfl⟩
    go_wp2
    go_ret
    rw [Hn2.out]
    exact ⟨rfl, Below.refl _ _⟩
   ·obtain ⟨k, rfl⟩ := Int.eq_ofNat_of_zero_le (show 0 ≤ n by omega)
    have hk : k ≤ 999999999 := by omega
    have hI' := hI (by omega) (by omega)
    rw [Int.toNat_natCast] at hI'
    have hn : nameD q (k : Int) = [q, 45] ++ (List.replicate (9 - (Lib.decDigits k).length) 48 ++ Lib.decDigits k) := by rw [Hn.out, if_pos ⟨rfl, by omega, by omega⟩, Int.toNat_natCast]; rfl
    have hd := digits_le hk
    have hc := hI' w (GB.refl _)
    obtain ⟨ds, hds⟩ : ∃ ds, Lib.decDigits k = ds := ⟨_, rfl⟩
    rw [hds] at hc hn hd
    obtain ⟨s, hs⟩ : ∃ s, strL ds = s := ⟨_, rfl⟩
    have hsz : s.size = ds.length := by rw [← hs, strL_size]
    rw [hs] at hc
    have hdi : (s.size : Int) ≤ 9 := by omega
    have hr := fun w => repeat_calls (9 - ds.length) (by omega) w
    obtain ⟨z, hz⟩ : ∃ z, strL (List.replicate (9 - ds.length) 48) = z := ⟨_, rfl⟩
    have hzl : z.size = 9 - ds.length := by rw [← hz, strL_size, List.length_replicate]
    obtain ⟨qs, hqs⟩ : ∃ qs, strL [q, 45] = qs := ⟨_, rfl⟩
    have hql : qs.size = 2 := by rw [← hqs, strL_size]; rfl
    have ha1 : qs.size + z.size ≤ 9223372036854775807 := by omega
    have ha2 : qs.size + z.size + s.size ≤ 9223372036854775807 := by omega
    have hi1 : ¬ (9223372036854775807 < qs.size + z.size) := by omega
    have hi2 : ¬ (9223372036854775807 < qs.size + z.size + s.size) := by omega
    clear ha1 ha2
    rw [hz] at hr
    have hcast : ((9 - ds.length : Nat) : Int) = 9 - (s.size : Int) := by omega
    rw [hcast] at hr
    have Hfin : Hid (Ending.returned (.string (qs ++ z ++ s)) = .returned (.string (strL (nameD q (k : Int))))) := Lib.hid (by rw [hn, ← strL_append, ← strL_append, hs, hz, hqs, ByteArray.append_assoc])
    have hwr : IntKind.i64.wrap (9 - (s.size : Int)) = 9 - (s.size : Int) := IntWalk.i64_in _ (by omega)
    have Hr := Lib.hid hr
    have Hc := Lib.hid hc
    have Hqs := Lib.hid hqs
    clear hI hI' hd hc hds hs hsz hr hz hcast hzl hn hqs hql hqn
    go_enter Tryz.func12, Tryz.ntmps12
    go_wp2_with fail
    refine (Hin.out).mono ?_; rintro e w0 ⟨rfl, hw0⟩; have hw0 := hw0.symm; subst hw0
    go_wp2_with fail
    refine (Hc.out).mono ?_; rintro e w1 ⟨rfl, hb1⟩
    have hb_w1d := hb1.drew
    have HS : Hid ((fun w' => Hid (Below w.heap.size w w')) w1.drew) := Lib.hid (Lib.hid hb_w1d)
    go_upto_region 4 with fail
    refine wp_region_noPanic ?_
    refine wp_region_held_drew (S := (fun w' => Hid (Below w.heap.size w w'))) (by kernel_rfl) (by first | with_reducible exact HS.out | exact Lib.hid (by with_reducible assumption)) (fun hHeld => ?_)
    refine tkP 0 ?_
    refine tkP 3 ?_
    refine tkP 4 ?_
    refine tkP 5 ?_
    refine tkP 8 ?_
    refine wpAnyH_ready (rs := [1, 6]) (by kernel_rfl) (by simp) ?_
    refine AllReadyH.cons (o := _) (by simp only [List.getElem?_toArray, List.getElem?_cons_succ, List.getElem?_cons_zero]; rfl) (fun K hK => ?_) (AllReadyH.cons (o := _) (by simp only [List.getElem?_toArray, List.getElem?_cons_succ, List.getElem?_cons_zero]; rfl) (fun K hK => ?_) (AllReadyH.nil))
    ·skip
     refine step_buildB rfl (by rfl) (by rfl) ?_; rintro g xa hrb_xa hd_xa; have hb_xa := hb_w1d.trans (hd_xa.mono hb_w1d.size)
     refine hK.out _ _ (by (try dsimp only); first | with_reducible exact HS.out | exact Lib.hid (by with_reducible assumption)) (fun hHeld => ?_)
     clear hK K
     try simp only [Act.put, qA, qB, qC]
     refine wpAnyH_ready (rs := [2, 6]) (by kernel_rfl) (by simp) ?_
     refine AllReadyH.cons (o := _) (by simp only [List.getElem?_toArray, List.getElem?_cons_succ, List.getElem?_cons_zero]; rfl) (fun K hK => ?_) (AllReadyH.cons (o := _) (by simp only [List.getElem?_toArray, List.getElem?_cons_succ, List.getElem?_cons_zero]; rfl) (fun K hK => ?_) (AllReadyH.nil))
     ·skip
      have hconv := run_strL hrb_xa; rw [Hqs.out] at hconv; go_simp
      refine hK.out _ _ (by (try dsimp only); first | with_reducible exact HS.out | exact Lib.hid (by with_reducible assumption)) (fun hHeld => ?_)
      clear hK K
      try simp only [Act.put, qA, qB, qC]
      refine rdH 6 fun K hK => ?_
      go_simp
      go_at_call 46; refine (Hr.out xa).mono ?_; rintro e xb ⟨rfl, hd_xb⟩; have hb_xb := hb_xa.trans (hd_xb.mono hb_xa.size); have hend := hb_xb
      refine hK.out _ _ (by (try dsimp only); first | with_reducible exact HS.out | exact Lib.hid (by with_reducible assumption)) (fun hHeld => ?_)
      clear hK K
      try simp only [Act.put, qA, qB, qC]
      refine tkP 7 ?_
      refine tkP 9 ?_
      refine tkP 10 ?_
      refine wpAnyH_done (by kernel_rfl) ?_ _
      refine NoPanic.normal ?_
      go_wp2
      go_ret
      exact ⟨Hfin.out, hend⟩
     ·go_simp
      go_at_call 46; refine (Hr.out xa).mono ?_; rintro e xb ⟨rfl, hd_xb⟩; have hb_xb := hb_xa.trans (hd_xb.mono hb_xa.size); have hrb_xb := hrb_xa.below (Nat.le_refl _) hd_xb
      refine hK.out _ _ (by (try dsimp only); first | with_reducible exact HS.out | exact Lib.hid (by with_reducible assumption)) (fun hHeld => ?_)
      clear hK K
      try simp only [Act.put, qA, qB, qC]
      refine rdH 2 fun K hK => ?_
      have hconv := run_strL hrb_xb; rw [Hqs.out] at hconv; go_simp; have hend := hb_xb
      refine hK.out _ _ (by (try dsimp only); first | with_reducible exact HS.out | exact Lib.hid (by with_reducible assumption)) (fun hHeld => ?_)
      clear hK K
      try simp only [Act.put, qA, qB, qC]
      refine tkP 7 ?_
      refine tkP 9 ?_
      refine tkP 10 ?_
      refine wpAnyH_done (by kernel_rfl) ?_ _
      refine NoPanic.normal ?_
      go_wp2
      go_ret
      exact ⟨Hfin.out, hend⟩
    ·go_simp
     go_at_call 46; refine (Hr.out w1.drew).mono ?_; rintro e xa ⟨rfl, hd_xa⟩; have hb_xa := hb_w1d.trans (hd_xa.mono hb_w1d.size)
     refine hK.out _ _ (by (try dsimp only); first | with_reducible exact HS.out | exact Lib.hid (by with_reducible assumption)) (fun hHeld => ?_)
     clear hK K
     try simp only [Act.put, qA, qB, qC]
     refine rdH 1 fun K hK => ?_
     refine step_buildB rfl (by rfl) (by rfl) ?_; rintro g xb hrb_xb hd_xb; have hb_xb := hb_xa.trans (hd_xb.mono hb_xa.size)
     refine hK.out _ _ (by (try dsimp only); first | with_reducible exact HS.out | exact Lib.hid (by with_reducible assumption)) (fun hHeld => ?_)
     clear hK K
     try simp only [Act.put, qA, qB, qC]
     refine rdH 2 fun K hK => ?_
     have hconv := run_strL hrb_xb; rw [Hqs.out] at hconv; go_simp; have hend := hb_xb
     refine hK.out _ _ (by (try dsimp only); first | with_reducible exact HS.out | exact Lib.hid (by with_reducible assumption)) (fun hHeld => ?_)
     clear hK K
     try simp only [Act.put, qA, qB, qC]
     refine tkP 7 ?_
     refine tkP 9 ?_
     refine tkP 10 ?_
     refine wpAnyH_done (by kernel_rfl) ?_ _
     refine NoPanic.normal ?_
     go_wp2
     go_ret
     exact ⟨Hfin.out, hend⟩
abbrev Wh := List (Int × UInt8)
def entW (p : Int × UInt8) : Lit × DataW Unit := (.int .i64 p.1, .lit (.int .u8 (p.2.toNat : Int)))
def whD (l : Wh) : DataW Unit := .map (l.map entW)
def Wh.look (l : Wh) (n : Int) : Option UInt8 := (l.find? (fun p => p.1 == n)).map (·.2)
def Wh.ins (x : Int × UInt8) : Wh → Wh
 | [] => [x]
 | y :: r => if x.1 < y.1 then x :: y :: r else y :: Wh.ins x r
def Wh.del (l : Wh) (n : Int) : Wh := l.filter (fun p => !(p.1 == n))
def Wh.put (l : Wh) (n : Int) (x : UInt8) : Wh := (Wh.del l n).ins (n, x)
theorem same_int (a b : Int) : (Lit.int .i64 a).sameKey (.int .i64 b) = (a == b) := by
 by_cases h : a = b <;> simp [Lit.sameKey, h]
theorem whD_ins (x : Int × UInt8) : ∀ l : Wh, DataW.insert (entW x) (l.map entW) = (l.ins x).map entW
 | [] => rfl
 | y :: r => by
  rw [List.map_cons, DataW.insert, Wh.ins]
  show (if decide (x.1 < y.1) = true then _ else _) = _
  by_cases h : x.1 < y.1
  ·rw [if_pos (decide_eq_true h), if_pos h]; rfl
  ·rw [if_neg (by simpa using h), if_neg h, List.map_cons, whD_ins x r]
theorem wh_fun (n : Int) : ((fun p : Lit × DataW Unit => p.1.sameKey (.int .i64 n)) ∘ entW) = (fun p : Int × UInt8 => p.1 == n) := by
 funext p; exact same_int p.1 n
theorem wh_fun' (n : Int) : ((fun p : Lit × DataW Unit => !p.1.sameKey (.int .i64 n)) ∘ entW) = (fun p : Int × UInt8 => !(p.1 == n)) := by
 funext p; show (!(Lit.int .i64 p.1).sameKey (.int .i64 n)) = _; rw [same_int]
theorem whD_del (l : Wh) (n : Int) : (whD l).del (.int .i64 n) = whD (l.del n) := by
 unfold whD Wh.del
 show DataW.map _ = DataW.map _
 rw [List.filter_map, wh_fun']
theorem whD_put (l : Wh) (n : Int) (x : UInt8) : (whD l).put (.int .i64 n) (.lit (.int .u8 (x.toNat : Int))) = whD (l.put n x) := by
 unfold Wh.put
 show DataW.map (DataW.insert (entW (n, x)) _) = _
 unfold whD
 rw [← whD_ins, List.filter_map, wh_fun']
 rfl
theorem whD_has (l : Wh) (n : Int) : Maps.has (whD l) (.int .i64 n) = (l.look n).isSome := by
 unfold whD Wh.look
 rw [Maps.has_eq, List.any_map, Option.isSome_map]
 induction l with
 | nil => rfl
 | cons p r ih =>
  rw [List.any_cons, List.find?_cons, ih]
  show ((Lit.int .i64 p.1).sameKey (.int .i64 n) || _) = _
  rw [same_int]
  cases p.1 == n <;> rfl
theorem whD_at (l : Wh) (n : Int) (z : DataW Unit) : (whD l).atKey (.int .i64 n) z = match l.look n with | some x => DataW.lit (.int .u8 (x.toNat : Int)) | none => z := by
 unfold whD Wh.look
 unfold DataW.atKey
 dsimp only
 rw [List.find?_map, wh_fun]
 cases List.find? (fun p : Int × UInt8 => p.1 == n) l <;> rfl
abbrev WhAt (w : World) (b : Nat) (l : Wh) : Prop := w.ownsMap Tryz.prog 3 (plainElem Tryz.prog 5) b l.length (whD l)
theorem keyed_int : Keyed Tryz.prog 3 := int_keyed Tryz.underlying3
theorem zero_u8 (w : World) : (zeroValue 5).run Tryz.prog w = .ok (.int .u8 0) w := by kernel_rfl
theorem key_int (n : Int) (hn : -9223372036854775808 ≤ n ∧ n ≤ 9223372036854775807) : keyOf Tryz.prog 3 (.int .i64 n) = some (.int .i64 n) :=
 keyOf_int_mk Tryz.underlying3 (WalkArith.wf_i64 hn)
section
variable {w : World} {b n : Nat} {l : Wh}
theorem wh_fit (h : w.ownsMap Tryz.prog 3 (plainElem Tryz.prog 5) b n (whD l)) : WhAt w b l := by
 obtain ⟨es, clock, h1, h2, h3, h4⟩ := h
 refine ⟨es, clock, h1, h2, ?_, h4⟩
 unfold whD at h4
 have h5 : l.map entW = ((es.toList.map (Go.WideElems.rg Tryz.prog 3 (plainElem Tryz.prog 5))).foldr DataW.insert []) := by injection h4
 have h6 := congrArg List.length h5
 rw [length_sorted] at h6
 simp at h6
 omega
theorem wh_look (h : WhAt w b l) (k : Int) (hk : -9223372036854775808 ≤ k ∧ k ≤ 9223372036854775807) : (Instr.lookup 110 (.map (some b)) (.int .i64 k) false).run Tryz.prog w = .ok (.int .u8 (((l.look k).getD 0).toNat : Int)) w := by
 obtain ⟨c, hrun, hat, _⟩ := h.lookup_int keyed_int Tryz.underlying110 Tryz.underlying5 (zero_u8 w) (key_int k hk)
 rw [hrun]
 rw [whD_at] at hat
 cases hl : l.look k with
 | none => rw [hl] at hat; injection hat with hat; injection hat with _ hat; rw [← hat]; rfl
 | some x => rw [hl] at hat; injection hat with hat; injection hat with _ hat; rw [← hat]; rfl
theorem wh_put (h : WhAt w b l) (hl : l.length < maxLen) (k : Int) (hk : -9223372036854775808 ≤ k ∧ k ≤ 9223372036854775807) (x : UInt8) : ∃ w', (Instr.mapUpdate 110 (.map (some b)) (.int .i64 k) (.int .u8 x.toNat)).run Tryz.prog w = .ok () w' ∧ WhAt w' b (l.put k x) ∧ Keeps (fun j => j = b) w w' := by
 have hx : (Lit.int .u8 (x.toNat : Int)).wf = true := WalkArith.wf_u8 (by have := x.toNat_lt; omega)
 obtain ⟨w', h1, h2, h3⟩ := h.update keyed_int Tryz.underlying110 hl (key_int k hk) (plainElem_int Tryz.underlying5 hx)
 rw [whD_put] at h2
 exact ⟨w', h1, wh_fit h2, (Keeps.grown h3).mono (fun i _ e => (Option.some.inj e).symm)⟩
theorem wh_del (h : WhAt w b l) (k : Int) (hk : -9223372036854775808 ≤ k ∧ k ≤ 9223372036854775807) (ty : TypeId) : ∃ w', (Builtin.delete_ #[110, 3] ty #[.map (some b), .int .i64 k]).run Tryz.prog w = .ok (.tuple #[]) w' ∧ WhAt w' b (l.del k) ∧ Keeps (fun j => j = b) w w' := by
 obtain ⟨w', h1, h2, h3⟩ := h.drop keyed_int Tryz.underlying110 (key_int k hk) ty
 rw [whD_del] at h2
 exact ⟨w', h1, wh_fit h2, (Keeps.grown h3.grown).mono (fun i _ e => (Option.some.inj e).symm)⟩
theorem whMap_keeps {w' : World} {F : Nat → Prop} (h : WhAt w b l) (hk : Keeps F w w') (hF : ¬ F b) : WhAt w' b l := by
 obtain ⟨es, clock, h1, h2⟩ := h
 exact ⟨es, clock, hk.heap h1 hF, h2⟩
end
structure StoD where
 fs : FsD
 fb : Nat
 ib : Nat
 mb : Nat
 last : Int
 bound : Int
 nfile : Nm
 whr : Wh
 down : Bool
structure StoAt (w : World) (s : Nat) (d : StoD) (ρ : Rho) : Prop where
 fs : FsAt w d.fb d.fs ρ
 hd : w.heap[s]? = some (.cells #[.pointer (some ⟨d.fb, 0, none⟩), .pointer (some ⟨d.ib, 0, none⟩), .map (some d.mb), .bool d.down] 112 (0, 0))
 ids : w.heap[d.ib]? = some (.cells #[.pointer (some ⟨d.fb, 0, none⟩), .int .i64 d.last, .int .i64 d.bound, .string (strL d.nfile)] 149 (0, 0))
 whr : WhAt w d.mb d.whr
 rs : ρ s = none
 ri : ρ d.ib = none
 rm : ρ d.mb = none
theorem StoAt.si {w : World} {s : Nat} {d : StoD} {ρ : Rho} (h : StoAt w s d ρ) : s ≠ d.ib := fun e => by
 have h1 := h.hd
 rw [e, h.ids] at h1
 injection h1 with h1; injection h1 with _ h1; cases h1
theorem StoAt.sm {w : World} {s : Nat} {d : StoD} {ρ : Rho} (h : StoAt w s d ρ) : s ≠ d.mb := fun e => by
 obtain ⟨es, clock, h1, _⟩ := h.whr
 rw [← e, h.hd] at h1; cases h1
theorem StoAt.im {w : World} {s : Nat} {d : StoD} {ρ : Rho} (h : StoAt w s d ρ) : d.ib ≠ d.mb := fun e => by
 obtain ⟨es, clock, h1, _⟩ := h.whr
 rw [← e, h.ids] at h1; cases h1
def stoOwn (s : Nat) (d : StoD) (ρ : Rho) (k : Nat) : Prop := ρ.has k ∨ k = s ∨ k = d.ib ∨ k = d.mb
structure StoStep (w : World) (s : Nat) (d : StoD) (ρ : Rho) (w' : World) (d' : StoD) (ρ' : Rho) : Prop where
 keeps : Keeps (stoOwn s d ρ) w w'
 grow : ∀ k, stoOwn s d' ρ' k → stoOwn s d ρ k ∨ w.heap.size ≤ k
theorem StoStep.refl (w : World) (s : Nat) (d : StoD) (ρ : Rho) : StoStep w s d ρ w d ρ := ⟨Keeps.refl _ _, fun _ h => .inl h⟩
theorem StoStep.trans {a b c : World} {s : Nat} {d e f : StoD} {ρ σ τ : Rho} (h : StoStep a s d ρ b e σ) (k : StoStep b s e σ c f τ) : StoStep a s d ρ c f τ :=
 ⟨h.keeps.go k.keeps h.grow, fun x hx => by
  rcases k.grow x hx with e | e
  ·exact h.grow x e
  ·exact .inr (Nat.le_trans h.keeps.size e)⟩
section
variable {w w' : World} {s : Nat} {d : StoD} {ρ ρ' : Rho}
theorem StoAt.keeps {F : Nat → Prop} (h : StoAt w s d ρ) (hk : Keeps F w w') (hF : ∀ k, F k → ¬ stoOwn s d ρ k) : StoAt w' s d ρ :=
 ⟨h.fs.keeps hk (fun k e => by
  cases hr : ρ k with
  | none => rfl
  | some r => exact absurd (Or.inl (Rho.has_of hr)) (hF k e)),
  hk.heap h.hd (fun e => hF _ e (.inr (.inl rfl))), hk.heap h.ids (fun e => hF _ e (.inr (.inr (.inl rfl)))), whMap_keeps h.whr hk (fun e => hF _ e (.inr (.inr (.inr rfl)))), h.rs, h.ri, h.rm⟩
theorem StoAt.below (h : StoAt w s d ρ) (hb : Below w.heap.size w w') : StoAt w' s d ρ := h.keeps (F := fun _ => False) (Keeps.ofBelow hb) (fun _ e => e.elim)
theorem StoStep.below (h : Below w.heap.size w w') : StoStep w s d ρ w' d ρ := ⟨Keeps.ofBelow h, fun _ h => .inl h⟩
theorem StoAt.fsStep {fs' : FsD} (h : StoAt w s d ρ) (hf : FsAt w' d.fb fs' ρ') (hst : FsStep w ρ w' ρ') : StoAt w' s { d with fs := fs' } ρ' ∧ StoStep w s d ρ w' { d with fs := fs' } ρ' := by
 have hn : ∀ {k : Nat}, ρ k = none → ¬ ρ.has k := fun h1 h2 => by unfold Rho.has at h2; rw [h1] at h2; cases h2
 have hn' : ∀ {k : Nat}, ρ k = none → k < w.heap.size → ρ' k = none := fun {k} h1 h2 => by
  cases hr : ρ' k with
  | none => rfl
  | some r => rcases hst.grow k (Rho.has_of hr) with e | e
              ·exact absurd e (hn h1)
              ·omega
 have ls := (Array.getElem?_eq_some_iff.1 h.hd).1
 have li := (Array.getElem?_eq_some_iff.1 h.ids).1
 refine ⟨⟨hf, hst.keeps.heap h.hd (hn h.rs), hst.keeps.heap h.ids (hn h.ri), whMap_keeps h.whr hst.keeps (hn h.rm), hn' h.rs ls, hn' h.ri li, hn' h.rm h.whr.lt⟩, ⟨hst.keeps.mono (fun k _ e => .inl e), fun k e => ?_⟩⟩
 rcases e with e | e
 ·rcases hst.grow k e with e | e
  ·exact .inl (.inl e)
  ·exact .inr e
 ·exact .inl (.inr e)
theorem StoAt.head {d' : StoD} (h : StoAt w s d ρ) (hk : Keeps (fun k => k = s) w w') (he : d' = { d with down := d'.down }) (hd : w'.heap[s]? = some (.cells #[.pointer (some ⟨d.fb, 0, none⟩), .pointer (some ⟨d.ib, 0, none⟩), .map (some d.mb), .bool d'.down] 112 (0, 0))) : StoAt w' s d' ρ ∧ StoStep w s d ρ w' d' ρ := by
 rw [he]
 refine ⟨⟨h.fs.keeps hk (fun k e => by rw [e]; exact h.rs), hd, hk.heap h.ids (fun e => h.si e.symm), whMap_keeps h.whr hk (fun e => h.sm e.symm), h.rs, h.ri, h.rm⟩, ⟨hk.mono (fun k _ e => .inr (.inl e)), fun k e => .inl e⟩⟩
end
theorem cell1 {w : World} {b : Nat} {t : TypeId} {x : Value} (h : w.heap[b]? = some (.cells #[x] t (0, 0))) : w.cell? ⟨b, 0, none⟩ = some x := by rw [cell_of_row _ _ _ _ _ _ h]; rfl
theorem cells4 {w : World} {b : Nat} {t : TypeId} {x0 x1 x2 x3 : Value} (hb : w.heap[b]? = some (.cells #[x0, x1, x2, x3] t (0, 0))) :
 (w.cell? ⟨b, 0, none⟩ = some x0 ∧ w.cell? ⟨b, 1, none⟩ = some x1 ∧ w.cell? ⟨b, 2, none⟩ = some x2 ∧ w.cell? ⟨b, 3, none⟩ = some x3) ∧ ∀ j, w.frozen? ⟨b, j, none⟩ = false :=
 ⟨⟨by rw [cell_of_row _ _ _ _ _ _ hb]; rfl, by rw [cell_of_row _ _ _ _ _ _ hb]; rfl, by rw [cell_of_row _ _ _ _ _ _ hb]; rfl, by rw [cell_of_row _ _ _ _ _ _ hb]; rfl⟩, fun j => frozen_of_row _ _ _ _ _ hb⟩
set_option maxHeartbeats 4000000 in
theorem did_calls (s : Nat) (dn : Bool) (er : Int) (w : World) (hc : w.cell? ⟨s, 3, none⟩ = some (.bool dn)) (hf : w.frozen? ⟨s, 3, none⟩ = false) :
 Calls Tryz.prog 100 #[.pointer (some ⟨s, 0, none⟩), .int .i64 er] w fun e w' => e = .returned (.int .i64 er) ∧ w' = w.setCell ⟨s, 3, none⟩ (.bool (dn || decide (er = 2))) := by
 cases dn with
 | true =>
  go_enter Tryz.func100, Tryz.ntmps100
  go_wp2
  go_ret
  exact ⟨rfl, rfl⟩
 | false =>
  by_cases h : er = 2
  ·subst h
   go_enter Tryz.func100, Tryz.ntmps100
   go_wp2
   go_ret
   exact ⟨rfl, rfl⟩
  ·have h1 : (er == 2) = false := by simpa using h
   have h2 : Hid (decide (er = 2) = false) := Lib.hid (decide_eq_false h)
   go_enter Tryz.func100, Tryz.ntmps100
   go_wp2
   go_ret
   rw [h2.out]
   exact ⟨rfl, rfl⟩
def v1 (f : Value) : List Value := [f]
def StepAt (s : Nat) (P : World → Prop) (P' : World → Prop) (X : Int → World → Prop) (f : Value) : Prop :=
 ∃ g fst caps, f = .func (.func g) fst caps ∧ Enters Tryz.prog g ∧ ∀ w, P w → Calls Tryz.prog g (fst ++ caps) w fun e w' => ∃ er dn, e = .returned (.int .i64 er) ∧ w'.cell? ⟨s, 3, none⟩ = some (.bool dn) ∧ w'.frozen? ⟨s, 3, none⟩ = false ∧
  (er = 0 → P' (w'.setCell ⟨s, 3, none⟩ (.bool dn))) ∧ (er ≠ 0 → X er (w'.setCell ⟨s, 3, none⟩ (.bool (dn || decide (er = 2)))))
set_option maxHeartbeats 8000000 in
theorem steps_calls (s : Nat) (v : Value) (cl : List Value) (w : World) (P : Nat → World → Prop) (X : Int → World → Prop) (hrd : ∀ i w, P i w → RdL 1 v1 w v cl) (hst : ∀ i f, cl[i]? = some f → StepAt s (P i) (P (i + 1)) X f) (hl : cl.length ≤ 100) (h0 : P 0 w) :
 Calls Tryz.prog 67 #[.pointer (some ⟨s, 0, none⟩), v] w fun e w' => (e = .returned (.int .i64 0) ∧ P cl.length w') ∨ ∃ er, er ≠ 0 ∧ e = .returned (.int .i64 er) ∧ X er w' := by
 obtain ⟨a, cap, rfl, hlc, hcap⟩ := (hrd 0 w h0).form
 have hli : (cl.length : Int) ≤ 100 := by omega
 have Hrd := Lib.hid hrd
 have Hst := Lib.hid hst
 have H0 := Lib.hid h0
 clear hrd hst h0
 go_enter Tryz.func67, Tryz.ntmps67
 go_wp2
 go_loopw [6, 7, 10] (fun f e i wr => ∃ j : Nat, j ≤ cl.length ∧ i = .int .i64 j ∧ Hid (P j wr)) (fun _ _ i _ => cl.length - (intOf i).toNat)
 case atStart => exact ⟨0, Nat.zero_le _, rfl, H0⟩
 case round =>
  obtain ⟨j, hj, rfl, hP⟩ := hrel
  by_cases hlt : j < cl.length
  ·obtain ⟨f, hf⟩ : ∃ f, cl[j]? = some f := ⟨_, List.getElem?_eq_getElem hlt⟩
   obtain ⟨b, off, cap', hsl, hbl, h3⟩ := RdL.at (Hrd.out j wr hP.out) hf
   have hc := h3 0 _ rfl
   rw [Nat.mul_one, Nat.add_zero] at hc
   obtain ⟨g, fst, caps, rfl, hent0, hcall⟩ := Hst.out j f hf
   have hent : ∀ (args : Array Value) (w : World), (callFunc g args).run Tryz.prog w = .ok (.enter g args) w := hent0
   have Hcall := Lib.hid (hcall wr hP.out)
   have hj0 : (0 : Int) ≤ (j : Int) := by omega
   have hj1 : (j : Int) < (cl.length : Int) := by omega
   cases hsl
   clear hcall hent0 h3 hf hP
   go_wp2_with fail
   refine (Hcall.out).mono ?_; rintro e w1 ⟨er, dn, rfl, hc1, hf1, hok, hbad⟩
   have hd := did_calls s dn er w1 hc1 hf1
   have Hd := Lib.hid hd
   have Hok := Lib.hid hok
   have Hbad := Lib.hid hbad
   clear hd hc1 hf1 hok hbad hc
   go_wp2_with fail
   refine (Hd.out).mono ?_; rintro e w2 ⟨rfl, hw2⟩
   by_cases h0 : er = 0
   ·subst h0
    have hdn : (dn || decide ((0 : Int) = 2)) = dn := by cases dn <;> rfl
    rw [hdn] at hw2
    have hP2 : Hid (P (j + 1) w2) := Lib.hid (by rw [hw2]; exact Hok.out rfl)
    clear hw2 hdn
    go_wp2
    go_roundw
    case rel => exact ⟨j + 1, by omega, by simp, hP2⟩
    case measure => simp [intOf] <;> omega
   ·have h0' : (er == 0) = false := by simpa using h0
    have hX : Hid (X er w2) := Lib.hid (by rw [hw2]; exact Hbad.out h0)
    clear hw2
    go_wp2
    go_ret
    exact .inr ⟨er, h0, rfl, hX.out⟩
  ·have hje : j = cl.length := by omega
   subst hje
   have hjl : ¬ ((cl.length : Int) < (cl.length : Int)) := by omega
   go_wp2
   go_ret
   exact .inl ⟨rfl, hP.out⟩
end Go.Proofs.YtffnbkmigapmjaaGreatDoor
