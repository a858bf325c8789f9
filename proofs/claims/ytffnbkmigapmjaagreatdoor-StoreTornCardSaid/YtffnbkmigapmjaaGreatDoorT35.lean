/-
  The walk of store.List.
  The walk of store.recover.
  The walks of store.parents, recover, Open: of a disk without a file.
-/
import Derived.Test.YtffnbkmigapmjaaGreatDoorT23
import Derived.Test.YtffnbkmigapmjaaGreatDoorT31
import Derived.Test.YtffnbkmigapmjaaGreatDoorT34
import Derived.Test.YtffnbkmigapmjaaGreatDoorShelfN
import Derived.Maps.RangeWalk
import Derived.Sort.OwnSortedInts
import Derived.Lib.SlBytesConst
set_option linter.unusedSimpArgs false
set_option linter.unusedVariables false
set_option maxRecDepth 100000
namespace Go.Proofs.YtffnbkmigapmjaaGreatDoor
open Go.RowKit Go.Maps Go.Sort Go.Shelf
abbrev iv (n : Int) : Value := .int .i64 n
def listD (l : Wh) (q : UInt8) : List Int := ((l.filter (fun p => p.2 == q)).map (·.1)).mergeSort (fun x y => decide (x ≤ y))
def remL (l : Wh) (q : UInt8) (left : Lit → Bool) : List Int := (l.filter (fun p => left (.int .i64 p.1) && p.2 == q)).map (·.1)
theorem remL_all {l : Wh} {q : UInt8} {left : Lit → Bool} (h : ∀ p ∈ l, left (.int .i64 p.1) = true) : remL l q left = (l.filter (fun p => p.2 == q)).map (·.1) := by
  unfold remL
  rw [List.filter_congr (fun p hp => by rw [h p hp, Bool.true_and])]
theorem remL_none {l : Wh} {q : UInt8} {left : Lit → Bool} (h : ∀ k, left k = false) : remL l q left = [] := by
  unfold remL
  rw [List.filter_eq_nil_iff.2 (fun p _ => by rw [h]; simp)]; rfl
theorem remL_len {l : Wh} {q : UInt8} {left : Lit → Bool} : (remL l q left).length ≤ l.length := by
  unfold remL; rw [List.length_map]; exact List.length_filter_le _ _
theorem remL_cons {p : Int × UInt8} {l : Wh} {q : UInt8} {left : Lit → Bool} : remL (p :: l) q left = if (left (.int .i64 p.1) && p.2 == q) = true then p.1 :: remL l q left else remL l q left := by
  unfold remL
  rw [List.filter_cons]
  split <;> rfl
theorem remL_absent {x : Int} {q : UInt8} {left : Lit → Bool} : ∀ {l : Wh}, (∀ p ∈ l, p.1 ≠ x) → remL l q (fun z => left z && !z.sameKey (.int .i64 x)) = remL l q left
  | [], _ => rfl
  | p :: r, h => by
    have hp := h p (List.mem_cons_self ..)
    rw [remL_cons, remL_cons, remL_absent (fun p hp => h p (List.mem_cons_of_mem _ hp)), same_int, show (p.1 == x) = false by simpa using hp]
    simp
theorem remL_step {x : Int} {c q : UInt8} {left : Lit → Bool} (hl : left (.int .i64 x) = true) : ∀ {l : Wh}, l.Pairwise (fun p q => p.1 ≠ q.1) → (x, c) ∈ l →
    (remL l q left).Perm (if c = q then x :: remL l q (fun z => left z && !z.sameKey (.int .i64 x)) else remL l q (fun z => left z && !z.sameKey (.int .i64 x)))
  | p :: r, hk, h => by
    obtain ⟨h1, h2⟩ := List.pairwise_cons.1 hk
    rcases List.mem_cons.1 h with rfl | h
    · have ha : remL r q (fun z => left z && !z.sameKey (.int .i64 x)) = remL r q left := remL_absent (fun p hp e => h1 p hp e.symm)
      have e1 : remL ((x, c) :: r) q (fun z => left z && !z.sameKey (.int .i64 x)) = remL r q left := by
        rw [remL_cons, ha]
        have : ((Lit.int .i64 x).sameKey (.int .i64 x)) = true := by rw [same_int]; simp
        rw [show ((left (.int .i64 (x, c).1) && !(Lit.int .i64 (x, c).1).sameKey (.int .i64 x)) && (x, c).2 == q) = false by show ((left (.int .i64 x) && !(Lit.int .i64 x).sameKey (.int .i64 x)) && c == q) = false; rw [this]; simp, if_neg (by simp)]
      rw [e1, remL_cons]
      show (if (left (.int .i64 x) && c == q) = true then x :: remL r q left else remL r q left).Perm _
      rw [hl, Bool.true_and]
      by_cases hc : c = q
      · rw [if_pos (by simpa using hc), if_pos hc]
      · rw [if_neg (by simpa using hc), if_neg hc]
    · have hne : p.1 ≠ x := h1 _ h
      have ih := remL_step (q := q) hl h2 h
      rw [remL_cons, remL_cons]
      have e2 : ((left (.int .i64 p.1) && !(Lit.int .i64 p.1).sameKey (.int .i64 x)) && p.2 == q) = (left (.int .i64 p.1) && p.2 == q) := by
        rw [same_int, show (p.1 == x) = false by simpa using hne]; simp
      rw [e2]
      by_cases hb : (left (.int .i64 p.1) && p.2 == q) = true
      · rw [if_pos hb, if_pos hb]
        by_cases hc : c = q
        · rw [if_pos hc] at ih ⊢
          exact (ih.cons p.1).trans (List.Perm.swap _ _ _)
        · rw [if_neg hc] at ih ⊢
          exact ih.cons p.1
      · rw [if_neg hb, if_neg hb]; exact ih
theorem wh_apart {w : World} {b : Nat} {l : Wh} (h : WhAt w b l) : l.Pairwise (fun p q => p.1 ≠ q.1) := by
  obtain ⟨es, he, hp, _⟩ := World.ownsMap.entries h keyed_int
  unfold whD at he
  have he : l.map entW = es := by injection he
  rw [← he] at hp
  have := List.pairwise_map.1 hp
  exact this.imp (fun hne e => hne (by unfold entW; rw [e]))
theorem wh_mem {l : Wh} {n : Int} {x : UInt8} (h : l.look n = some x) : (n, x) ∈ l := by
  unfold Wh.look at h
  obtain ⟨p, hp, hx⟩ := Option.map_eq_some_iff.1 h
  have h1 := List.mem_of_find?_eq_some hp
  have h2 : (p.1 == n) = true := List.find?_some (p := fun q : Int × UInt8 => q.1 == n) hp
  obtain ⟨a, b⟩ := p
  have : a = n := by simpa using h2
  subst this; subst hx; exact h1
theorem sort_perm {a b : List Int} (h : a.Perm b) : a.mergeSort (fun x y => decide (x ≤ y)) = b.mergeSort (fun x y => decide (x ≤ y)) := by
  have ht : ∀ (x y z : Int), decide (x ≤ y) = true → decide (y ≤ z) = true → decide (x ≤ z) = true := fun x y z h1 h2 => by
    simp at h1 h2 ⊢; omega
  have hto : ∀ (x y : Int), (decide (x ≤ y) || decide (y ≤ x)) = true := fun x y => by simp; omega
  have s1 := List.pairwise_mergeSort ht hto a
  have s2 := List.pairwise_mergeSort ht hto b
  have hp : (a.mergeSort (fun x y => decide (x ≤ y))).Perm (b.mergeSort (fun x y => decide (x ≤ y))) := (List.mergeSort_perm _ _).trans (h.trans (List.mergeSort_perm _ _).symm)
  exact List.Perm.eq_of_pairwise (le := fun x y : Int => decide (x ≤ y) = true) (fun x y _ _ h1 h2 => by simp at h1 h2; omega) s1 s2 hp
abbrev i1' (n : Int) : List Value := [.int .i64 n]
theorem i1_len' (n : Int) : (i1' n).length = 1 := rfl
theorem iv_flat (l : List Int) : l.map iv = l.flatMap i1' := by
  induction l with
  | nil => rfl
  | cons a l ih => rw [List.map_cons, List.flatMap_cons, ih]; rfl
theorem infoInt' : (Tryz.prog.info? 3).map (fun i => (i.zero, i.size, i.bytes)) = some (some (.int .i64 0), 1, 8) := by kernel_rfl
theorem sortI_calls (v : Value) (zs : List Int) (base : Nat) (w : World) (h : w.ownsRow base 3 1 v zs.length (zs.map iv)) (hlen : zs.length ≤ 1000000000) :
    Calls Tryz.prog 59 #[v] w fun e w' => e = .returned (.tuple #[]) ∧ w'.ownsRow base 3 1 v zs.length ((zs.mergeSort (fun x y => decide (x ≤ y))).map iv) ∧ w.grownBy w' v.ownBlock := by
  obtain ⟨hl, h1 | ⟨g, cap, cur, rfl, hg, hb, hn, hcap, hsz, ht⟩⟩ := h
  · obtain ⟨rfl, h2⟩ := h1
    have hz : zs = [] := by simpa using h2
    subst hz
    refine (Tryz.slices_Sort_int_none none 0 w).mono ?_
    rintro e w' ⟨rfl, rfl⟩
    refine ⟨rfl, ?_, World.grownBy.refl _ _⟩
    have e : ([] : List Int).mergeSort (fun x y => decide (x ≤ y)) = [] := by simp
    rw [e]; exact World.ownsRow_nil _ _ _ _
  · rw [Nat.mul_one] at ht
    have hlt : g < w.heap.size := (Array.getElem?_eq_some_iff.1 hb).1
    refine (Tryz.slices_Sort_int g 0 cap zs w (holds_of_blockI hb ht) hlt (by omega)).mono ?_
    rintro e w' ⟨rfl, n, os, rfl⟩
    exact ⟨rfl, by have := ownsRow_sortedI (ss := zs) (ts := zs.mergeSort (fun x y => decide (x ≤ y))) (n := n) (os := os) (List.length_mergeSort _) hg hb hn hcap hsz; exact this, grownBy_sortedI _⟩
set_option maxHeartbeats 8000000 in
theorem slist_calls (s : Nat) (d : StoD) (ρ : Rho) (w : World) (h : StoAt w s d ρ) (q : UInt8) (hl : d.whr.length ≤ 100000) :
    Calls Tryz.prog 21 #[.pointer (some ⟨s, 0, none⟩), .int .u8 q.toNat] w fun e w' => ∃ v, e = .returned v ∧ w'.ownsRow w.heap.size 3 1 v (listD d.whr q).length ((listD d.whr q).map iv) ∧ Below w.heap.size w w' := by
  obtain ⟨i0, hi, hz0, hz1, hz2⟩ := info_parts infoInt'
  have c2 := (cells4 h.hd).1.2.2.1
  have hown : w.ownsMap Tryz.prog 3 (plainElem Tryz.prog 5) d.mb d.whr.length (whD d.whr) := h.whr
  have hap := wh_apart h.whr
  have hall : remL d.whr q (Maps.has (whD d.whr)) = (d.whr.filter (fun p => p.2 == q)).map (·.1) := remL_all (fun p hp => by
    rw [whD_has]
    unfold Wh.look
    rw [Option.isSome_map, List.find?_isSome]
    exact ⟨p, hp, by simp⟩)
  have Hall := Lib.hid hall
  have Hap := Lib.hid hap
  have H := Lib.hid h
  have hlen := fun left => (remL_len (l := d.whr) (q := q) (left := left))
  have Hlen := Lib.hid (And.intro hl hlen)
  have hmlt : d.mb < w.heap.size := h.whr.lt
  obtain ⟨wh, hwh⟩ : ∃ wh, d.whr = wh := ⟨_, rfl⟩
  obtain ⟨mb, hmb⟩ : ∃ mb, d.mb = mb := ⟨_, rfl⟩
  rw [hwh, hmb] at hown
  rw [hwh] at Hall Hap Hlen
  rw [hmb] at c2 hmlt
  rw [hwh]
  obtain ⟨qn, hqn⟩ : ∃ qn : Nat, q.toNat = qn := ⟨_, rfl⟩
  rw [hqn]
  have Hqn := Lib.hid hqn
  clear hqn
  clear hall hap hl h hlen hwh hmb
  go_enter Tryz.func21, Tryz.ntmps21
  go_wp2_with (at_range; go_loud (refine wpList_range_own _ rfl _ 110 rfl 3 5 keyed_int Tryz.underlying110 (plainElem Tryz.prog 5) mb wh.length (whD wh) rfl hown ?_; intro w0 hrg0 hg0 hs0))
  have hb0 : Below w.heap.size w w0 := (Below.refl _ _).grown hg0 (Nat.le_refl _) (fun j hj => by cases hj)
  go_frame
  obtain ⟨B, hB⟩ : ∃ B, w0.heap.size = B := ⟨_, rfl⟩
  have hBw : B = w.heap.size + 1 := by rw [← hB]; simpa using hs0
  have hnil : w0.ownsRow B 3 1 (.slice none 0 0) 0 [] := World.ownsRow_nil _ _ _ _
  clear hs0
  go_loopw [5, 6, 7] (fun v x y wr => ∃ left cnt, ∃ acc : List Int, wr.ranges Tryz.prog 3 (plainElem Tryz.prog 5) mb w.heap.size wh.length (whD wh) left cnt ∧ Hid ((acc ++ remL wh q left).Perm ((wh.filter (fun p => p.2 == q)).map (·.1))) ∧ wr.ownsRow B 3 1 v acc.length (acc.flatMap i1') ∧ Below w.heap.size w wr ∧ B ≤ wr.heap.size) (fun _ _ _ wr => wr.rangeLeft mb w.heap.size)
  case atStart =>
    exact ⟨_, _, [], hrg0, Lib.hid (by rw [List.nil_append, Hall.out]), hnil, hb0, by omega⟩
  case round =>
    obtain ⟨left, cnt, acc, hrg, hperm, hown, hbw, hBr⟩ := hrel
    have hal : acc.length ≤ 100000 := by
      have h1 := hperm.out.length_eq
      rw [List.length_append, List.length_map] at h1
      have h2 : (wh.filter (fun p => p.2 == q)).length ≤ wh.length := List.length_filter_le _ _
      have := Hlen.out.1
      omega
    obtain ⟨av, cv, rfl⟩ := own_form0 hown
    have hobase := own_base hown
    have Hown := Lib.hid hown
    clear hown
    go_wp2_with (at_next; go_loud (refine wpList_next_ranges_ii _ rfl _ rfl 3 5 .i64 .u8 keyed_int Tryz.underlying3 Tryz.underlying5 mb w.heap.size wh.length (whD wh) left cnt rfl hrg ?_ ?_))
    · intro hc0 hl0
      have hfin : acc.Perm ((wh.filter (fun p => p.2 == q)).map (·.1)) := by have := hperm.out; rw [remL_none hl0, List.append_nil] at this; exact this
      have hsr := sortI_calls (.slice av acc.length cv) acc B wr (by rw [iv_flat]; exact Hown.out) (by omega)
      have hso := sort_perm hfin
      have Hsr := Lib.hid hsr
      have Hso := Lib.hid hso
      have hll := hfin.length_eq
      have hl2 : (listD wh q).length = acc.length := by unfold listD; rw [List.length_mergeSort, hll]
      have Hl2 := Lib.hid hl2
      clear hfin hc0 hl0 hrg hperm hsr hso hll hl2
      go_wp2_with fail
      refine (Hsr.out).mono ?_; rintro e w2 ⟨rfl, hown2, hg2⟩
      have hb2 : Below w.heap.size w w2 := hbw.grown hg2 hbw.size (fun k e => by have := hobase k e; omega)
      have Hown2 := Lib.hid hown2
      clear hown2 hg2
      go_wp2
      go_ret
      refine ⟨_, rfl, ?_, hb2⟩
      rw [Hl2.out]
      have := Hown2.out
      rw [Hso.out] at this
      exact own_mono this (by omega)
    · intro x c w1 cnt1 hwx hwc hlk hat hrg1 hlt hg1 hs1 hen0
      have h0 := hat .nil
      have h1 := hat (.lit (.bool true))
      rw [whD_at] at h0 h1
      cases hlook : wh.look x with
      | none => rw [hlook] at h0 h1; rw [← h0] at h1; cases h1
      | some cq =>
        rw [hlook] at h0
        have hcx : c = (cq.toNat : Int) := by injection h0 with h0; injection h0 with _ h0; exact h0.symm
        subst hcx
        have hbw1 : Below w.heap.size w w1 := hbw.grown hg1 hbw.size (fun j hj => by cases hj; exact Nat.le_refl _)
        have hown1 : w1.ownsRow B 3 1 (.slice av acc.length cv) acc.length (acc.flatMap i1') := own_keeps Hown.out (Keeps.grown hg1) (fun k e f => by have := hobase k e; have : w.heap.size = k := Option.some.inj f; omega)
        have hstep := remL_step (q := q) (c := cq) hlk Hap.out (wh_mem hlook)
        have Hs := Lib.hid hstep
        have Hown1 := Lib.hid hown1
        have hen : (Instr.entry (.pointer (some ⟨w.heap.size, 0, none⟩))).run Tryz.prog w1 = .ok (.tuple #[.int .i64 x, .int .u8 (cq.toNat : Int)]) w1 := hen0
        clear hen0
        have hms : ∀ w9 : World, w9.ranges Tryz.prog 3 (plainElem Tryz.prog 5) mb w.heap.size wh.length (whD wh) (fun z => left z && !z.sameKey (.int .i64 x)) cnt1 → w9.rangeLeft mb w.heap.size < wr.rangeLeft mb w.heap.size := fun w9 h9 => by rw [h9.left_eq, hrg.left_eq]; exact hlt
        have Hms := Lib.hid hms
        have Hgs := Lib.hid hs1
        clear h0 h1 hat hlook hstep hown1 hlk hwc hrg hs1 hms hg1 hlt
        by_cases hcq : cq = q
        · have hcn : (cq.toNat : Int) = (qn : Int) := by rw [hcq, Hqn.out]
          have Hs2 : Hid (((acc ++ [x]) ++ remL wh q (fun z => left z && !z.sameKey (.int .i64 x))).Perm ((wh.filter (fun p => p.2 == q)).map (·.1))) := Lib.hid (by
            have h1 := Hs.out; rw [if_pos hcq] at h1
            have h2 := (List.Perm.append_left acc h1).symm.trans hperm.out
            rw [List.append_assoc]; exact h2)
          rw [hcn] at hen ⊢
          have hncell := news_new w1 [.int .i64 x] 3 (0, 0)
          have hcs1 : ∀ u ∈ [Value.int .i64 x], u.oneCell' = true := by intro u hu; rw [List.mem_singleton.1 hu]; rfl
          have hbd1 : acc.length + 1 ≤ maxLen := by show _ ≤ 9223372036854775807; omega
          have hbd2 : (acc.length + 1) * 8 ≤ 140737488355328 := by omega
          have hBr1 : B ≤ w1.heap.size := by have := Hgs.out; omega
          have hbd3 : B ≤ (w1.alloc (.cells #[.int .i64 x] 3)).heap.size := by simp; omega
          have hownA : (w1.alloc (.cells #[.int .i64 x] 3)).ownsRow B 3 1 (.slice av acc.length cv) acc.length (acc.flatMap i1') := World.ownsRow.alloc Hown1.out _
          have hrgA := World.ranges.alloc hrg1 (.cells #[.int .i64 x] 3)
          have Hncell := Lib.hid hncell
          have Hcs1 := Lib.hid hcs1
          have HownA := Lib.hid hownA
          have HrgA := Lib.hid hrgA
          clear hncell hcs1 hownA hrgA Hs hperm hcq hrg1
          go_wp2_with (at_builtin; go_must (refine wpList_append_own _ rfl (.tmp 23) (.tmp 25) 47 rfl B 3 i0 _ 1 8 Tryz.underlying47 hi hz0 hz1 hz2 rfl (by decide) _ _ _ rfl HownA.out ⟨w1.heap.size, 0, none⟩ 1 1 [.int .i64 x] rfl rfl Hncell.out Hcs1.out hbd1 hbd2 hbd3 ?_); rintro v' w3 hown3 hg3 _)
          have hb3 := (hbw1.alloc hbw1.size (.cells #[.int .i64 x] 3)).grown hg3 (by have := hbw1.size; simp; omega) (fun k hk => by have := hobase k hk; omega)
          have hrg3 := World.ranges.kept HrgA.out hg3 (fun e => by have := hobase mb e.symm; omega) (fun e => by have := hobase _ e.symm; omega)
          have hsz3 := hg3.size
          have Hown3 := Lib.hid hown3
          have Hrg3 := Lib.hid hrg3
          clear hown3 hg3 hrg3
          go_wp2
          go_roundw
          case rel =>
            refine ⟨_, cnt1, acc ++ [x], Hrg3.out, Hs2, ?_, hb3, by simp at hsz3; omega⟩
            rw [List.length_append, List.flatMap_append, List.flatMap_singleton]
            exact Hown3.out
          case measure => exact Hms.out _ Hrg3.out
        · have hne : ((cq.toNat : Int) == (qn : Int)) = false := by
            rw [beq_eq_false_iff_ne]; intro e; exact hcq (UInt8.toNat_inj.1 (by rw [Hqn.out]; omega))
          have Hs2 : Hid ((acc ++ remL wh q (fun z => left z && !z.sameKey (.int .i64 x))).Perm ((wh.filter (fun p => p.2 == q)).map (·.1))) := Lib.hid (by
            have h1 := Hs.out; rw [if_neg hcq] at h1
            exact (List.Perm.append_left acc h1).symm.trans hperm.out)
          obtain ⟨cn, hcn⟩ : ∃ cn : Nat, cq.toNat = cn := ⟨_, rfl⟩
          rw [hcn] at hen hne
          rw [hcn]
          have Hrg1 := Lib.hid hrg1
          clear hcn Hs hcq hperm hrg1
          go_wp2
          go_roundw
          case rel => exact ⟨_, cnt1, acc, Hrg1.out, Hs2, Hown1.out, hbw1, by have := Hgs.out; omega⟩
          case measure => exact Hms.out _ Hrg1.out
end Go.Proofs.YtffnbkmigapmjaaGreatDoor

set_option linter.unusedSimpArgs false
set_option linter.unusedVariables false
set_option maxRecDepth 100000
namespace Go.Proofs.YtffnbkmigapmjaaGreatDoor
open Go.RowKit Go.Maps
/-- What is done for each of a list, up to the first error. -/
inductive RunL {α : Type} (S : α → StoD → Int → StoD → Prop) (d0 : StoD) : List α → StoD → Prop
  | nil : RunL S d0 [] d0
  | snoc {pre : List α} {x : α} {d d' : StoD} : RunL S d0 pre d → S x d 0 d' → RunL S d0 (pre ++ [x]) d'
def OutL {α : Type} (S : α → StoD → Int → StoD → Prop) (l : List α) (d0 : StoD) (er : Int) (d' : StoD) : Prop :=
  (er = 0 ∧ RunL S d0 l d') ∨ (er ≠ 0 ∧ ∃ j x d, l[j]? = some x ∧ RunL S d0 (l.take j) d ∧ S x d er d')
theorem RunL.take_succ {α : Type} {S : α → StoD → Int → StoD → Prop} {d0 d d' : StoD} {l : List α} {j : Nat} {x : α} (hx : l[j]? = some x) (h : RunL S d0 (l.take j) d) (hs : S x d 0 d') : RunL S d0 (l.take (j + 1)) d' := by
  rw [List.take_add_one, hx]; exact .snoc h hs
def TmpS (n : Nm) (d : StoD) (er : Int) (d' : StoD) : Prop :=
  ((∀ m, ¬ StoOf n 116 m) ∧ er = 0 ∧ d' = d) ∨ ((∃ m, StoOf n 116 m) ∧ ∃ v lv, er = (unlinkD d.fs n v lv).1 ∧ d' = { d with fs := (unlinkD d.fs n v lv).2, down := d.down || decide (er = 2) })
def RecS (n : Nm) (d : StoD) (er : Int) (d' : StoD) : Prop :=
  ((∀ q m, ¬ StoOf n q m) ∧ er = 0 ∧ d' = d) ∨ (∃ q m, StoOf n q m ∧ ((keepQ.contains q = false ∧ er = 0 ∧ d' = { d with whr := d.whr.put m q }) ∨ (keepQ.contains q = true ∧ MendR { d with whr := d.whr.put m q } q m er d')))
def NmOk (fs : FsD) : Prop := ∀ p ∈ fs.now, p.1.length ≤ 1000
theorem unlink_down {fs : FsD} {n : Nm} {v lv : Value} (h : (unlinkD fs n v lv).1 = 0) (hd : fs.down = false) : (unlinkD fs n v lv).2.down = false := by
  unfold unlinkD at h ⊢
  split at h
  · rename_i h1
    rw [if_pos h1]
    unfold changeD at h ⊢
    split at h
    · cases h
    · rename_i h2
      rw [if_neg h2]
      show (powerD fs).2.down = false
      unfold powerD
      rw [if_neg h2]; exact hd
  · rename_i h1
    exact absurd h h1
theorem unlink_nm {fs : FsD} {n : Nm} {v lv : Value} (h : NmOk fs) : NmOk (unlinkD fs n v lv).2 := by
  unfold unlinkD
  split
  · unfold changeD
    split
    · exact h
    · intro p hp
      have hp : p ∈ fs.now.del n := hp
      exact h p (List.mem_filter.1 hp).1
  · exact h
theorem whr_put_le (l : Wh) (n : Int) (x : UInt8) : (l.put n x).length ≤ l.length + 1 := by
  have h1 : ∀ (y : Int × UInt8) (l : Wh), (Wh.ins y l).length = l.length + 1 := by
    intro y l
    induction l with
    | nil => rfl
    | cons z r ih =>
      rw [Wh.ins]
      split
      · rfl
      · rw [List.length_cons, ih]; rfl
  unfold Wh.put
  rw [h1]
  have : (Wh.del l n).length ≤ l.length := List.length_filter_le _ _
  omega
theorem MendR.whr_le {d d' : StoD} {q : UInt8} {id er : Int} (h : MendR d q id er d') : d'.whr.length ≤ d.whr.length + 1 := by
  rcases h with ⟨_, _, rfl⟩ | ⟨_, ⟨_, fs2, _, rfl⟩ | ⟨f, _, _, ⟨_, fs2, _, rfl⟩ | ⟨_, _, rfl⟩⟩⟩
  · exact Nat.le_succ _
  · exact whr_put_le _ _ _
  · exact Nat.le_succ _
  · exact Nat.le_succ _
structure TmpI (w1 : World) (s : Nat) (d : StoD) (ρ : Rho) (ss : List Nm) (j : Nat) (dj : StoD) (ρj : Rho) (wr : World) : Prop where
  run : RunL TmpS d (ss.take j) dj
  at_ : StoOk wr s dj ρj
  step : StoStep w1 s d ρ wr dj ρj
  go : FsGo d.fs dj.fs j
  down : dj.fs.down = false
  nm : NmOk dj.fs
  wh : dj.whr = d.whr
theorem TmpI.bel {w1 : World} {s : Nat} {d : StoD} {ρ : Rho} {ss : List Nm} {j : Nat} {dj : StoD} {ρj : Rho} {wr w2 : World} (h : TmpI w1 s d ρ ss j dj ρj wr) (hb : Below wr.heap.size wr w2) : TmpI w1 s d ρ ss j dj ρj w2 :=
  ⟨h.run, h.at_.below hb, h.step.bel hb, h.go, h.down, h.nm, h.wh⟩
end Go.Proofs.YtffnbkmigapmjaaGreatDoor

set_option linter.unusedSimpArgs false
set_option linter.unusedVariables false
set_option maxRecDepth 100000
namespace Go.Proofs.YtffnbkmigapmjaaGreatDoor
open Go.RowKit Go.Maps
theorem listD_nil (q : UInt8) : listD [] q = [] := by unfold listD; simp
set_option maxHeartbeats 8000000 in
theorem parents0_calls (s : Nat) (d : StoD) (ρ : Rho) (w : World) (h : StoAt w s d ρ) (hw : d.whr = []) :
    Calls Tryz.prog 103 #[.pointer (some ⟨s, 0, none⟩)] w fun e w' => e = .returned (.int .i64 0) ∧ Below w.heap.size w w' := by
  obtain ⟨i0, hi, hz0, hz1, hz2⟩ := info_parts infoInt'
  have hkc : (convert 22 22 (.slice (some ⟨w.heap.size, 0, none⟩) 3 3)).run Tryz.prog (w.alloc (.cells #[.int .u8 105, .int .u8 97, .int .u8 100] 5)) = .ok (.slice (some ⟨w.heap.size, 0, none⟩) 3 3) (w.alloc (.cells #[.int .u8 105, .int .u8 97, .int .u8 100] 5 (3, 4))) :=
    Lib.run_convert_bytes_const (P := Tryz.prog) w 22 5 #[.int .u8 105, .int .u8 97, .int .u8 100] 3 3 Tryz.underlying22 Tryz.underlying5
  obtain ⟨W, hW⟩ : ∃ W, w.alloc (.cells #[.int .u8 105, .int .u8 97, .int .u8 100] 5 (3, 4)) = W := ⟨_, rfl⟩
  have hbW : Below w.heap.size w W := by rw [← hW]; exact (Below.refl _ _).alloc (Nat.le_refl _) _
  have hh : W.heap[w.heap.size]? = some (.cells ([105, 97, 100].map u8v).toArray 5 (3, 4)) := by rw [← hW]; exact heap_alloc_new w _
  have hWs : w.heap.size < W.heap.size := (Array.getElem?_eq_some_iff.1 hh).1
  have hnil : W.ownsRow W.heap.size 3 1 (.slice none 0 0) 0 [] := World.ownsRow_nil _ _ _ _
  have hlist := fun w1 (hb : Below w.heap.size w w1) (q : UInt8) => slist_calls s d ρ w1 (h.below hb) q (by rw [hw]; decide)
  rw [hw] at hlist
  rw [hW] at hkc
  have Hlist := Lib.hid hlist
  have Hh := Lib.hid hh
  have HWs := Lib.hid hWs
  have HbW := Lib.hid hbW
  clear hlist hh hWs hbW h hw
  subst hW
  go_enter Tryz.func103, Tryz.ntmps103
  go_wp2
  generalize hW : w.alloc (.cells #[.int .u8 105, .int .u8 97, .int .u8 100] 5 (3, 4)) = W at *
  clear hkc hW
  go_loopw [3, 15] (fun v i wr => ∃ j : Nat, j ≤ 3 ∧ i = .int .i64 j ∧ wr.ownsRow W.heap.size 3 1 v 0 [] ∧ Below W.heap.size W wr) (fun _ i _ => 3 - (intOf i).toNat)
  case atStart => exact ⟨0, Nat.zero_le _, rfl, hnil, Below.refl _ _⟩
  case round =>
    obtain ⟨j, hj, rfl, hown, hbw⟩ := hrel
    obtain ⟨av, cv, rfl⟩ := own_form0 hown
    have Hown := Lib.hid hown
    have Hbw := Lib.hid hbw
    have hbw1 := HbW.out.trans (hbw.mono HbW.out.size)
    have Hbw1 := Lib.hid hbw1
    clear hown hnil
    by_cases hlt : j < 3
    · obtain ⟨q, hq⟩ : ∃ q, ([105, 97, 100] : List UInt8)[j]? = some q := ⟨_, List.getElem?_eq_getElem hlt⟩
      have hcell : wr.cell? ⟨w.heap.size, j, none⟩ = some (.int .u8 q.toNat) := by
        rw [cell_of_row _ _ _ _ _ _ ((hbw.block _ HWs.out).trans Hh.out), List.getElem?_toArray, List.getElem?_map, hq]; rfl
      have hj0 : (0 : Int) ≤ (j : Int) := by omega
      have hj1 : (j : Int) < 3 := by omega
      have hl := Hlist.out _ hbw1 q
      rw [listD_nil] at hl
      have Hl := Lib.hid hl
      clear hl hq hbw hbw1
      obtain ⟨qn, hqn⟩ : ∃ qn : Nat, q.toNat = qn := ⟨_, rfl⟩
      rw [hqn] at hcell Hl
      clear hqn
      go_wp2_with fail
      refine (Hl.out).mono ?_; rintro e w2 ⟨v2, rfl, hrow2, hb2⟩
      have hbw2 := Hbw1.out.trans (hb2.mono Hbw1.out.size)
      have hown2 : w2.ownsRow W.heap.size 3 1 (.slice av 0 cv) 0 [] := own_below Hown.out hb2 (Nat.le_refl _)
      have hbW2 := Hbw.out.trans (hb2.mono Hbw.out.size)
      have hsrc : RdL 1 i1' w2 v2 ([] : List Int) := rdL_ofOwn i1_len' (by decide) hrow2
      have hnv := nilOk_own hrow2
      have hbs := hbW2.size
      have hbase2 := own_base hown2
      have Hown2 := Lib.hid hown2
      have Hsrc := Lib.hid hsrc
      have Hnv := Lib.hid hnv
      have HbW2 := Lib.hid hbW2
      have hone : ∀ c ∈ ([] : List Int).flatMap i1', c.oneCell' = true := by intro c hc; cases hc
      have hm1 : 0 + ([] : List Int).length ≤ maxLen := by decide
      have hm2 : (0 + ([] : List Int).length) * 8 ≤ 140737488355328 := by decide
      have Hone := Lib.hid hone
      clear hrow2 hb2 hown2 hsrc hnv hbW2 hbw2 hone hcell
      go_wp2_with (at_builtin; go_must (refine wpList_append_any i1_len' (by decide) rfl (.tmp 19) (.tmp 22) 47 rfl W.heap.size 3 i0 _ 8 Tryz.underlying47 hi hz0 hz1 hz2 rfl _ _ _ rfl Hown2.out _ [] rfl Hsrc.out Hnv.out Hone.out hm1 hm2 hbs ?_); rintro v' w3 hown3 hg3 hn3)
      have hb3 := HbW2.out.grown hg3 HbW2.out.size hbase2
      have Hown3 := Lib.hid hown3
      have Hb3 := Lib.hid hb3
      clear hown3 hg3 hn3 hb3
      go_wp2
      go_roundw
      case rel => exact ⟨j + 1, by omega, by simp, Hown3.out, Hb3.out⟩
      case measure => simp [intOf] <;> omega
    · have hje : j = 3 := by omega
      subst hje
      have hsr := sortI_calls (.slice av 0 cv) [] W.heap.size wr Hown.out (by decide)
      have Hsr := Lib.hid hsr
      have hbase := own_base Hown.out
      clear hsr hbw hbw1
      go_wp2_with fail
      refine (Hsr.out).mono ?_; rintro e w2 ⟨rfl, hown2, hg2⟩
      have hb2 := (Hbw.out.grown hg2 Hbw.out.size hbase)
      have hbw2 := HbW.out.trans (hb2.mono HbW.out.size)
      clear hown2 hg2 hb2
      go_wp2
      go_loopw [29] (fun i wr2 => i = .int .i64 0 ∧ Below w.heap.size w wr2) (fun _ _ => 1)
      case atStart => exact ⟨rfl, hbw2⟩
      case round =>
        obtain ⟨rfl, hb5⟩ := hrel
        go_wp2
        go_ret
        exact ⟨rfl, hb5⟩
set_option maxHeartbeats 8000000 in
theorem recover0_calls (s : Nat) (d : StoD) (ρ : Rho) (w : World) (h : StoAt w s d ρ) (hw : d.whr = []) (hn : d.fs.now = []) (hdn : d.fs.down = false) :
    Calls Tryz.prog 56 #[.pointer (some ⟨s, 0, none⟩)] w fun e w' => e = .returned (.int .i64 0) ∧ Below w.heap.size w w' := by
  have hlist := fun w1 (hb : Below w.heap.size w w1) => list_calls d.fb d.fs ρ w1 (h.below hb).fs hdn (by rw [hn]; decide)
  have hpar := fun w1 (hb : Below w.heap.size w w1) => parents0_calls s d ρ w1 (h.below hb) hw
  have c0 := fun w1 (hb : Below w.heap.size w w1) => (cells4 (h.below hb).hd).1.1
  have hlen : d.fs.now.length = 0 := by rw [hn]; rfl
  rw [hlen] at hlist
  obtain ⟨fb, hfb⟩ : ∃ fb, d.fb = fb := ⟨_, rfl⟩
  rw [hfb] at hlist c0
  have Hlist := Lib.hid hlist
  have Hpar := Lib.hid hpar
  have C0 := Lib.hid c0
  have c0 := C0.out w (Below.refl _ _)
  clear hlist hpar hlen hfb h hw hn hdn
  go_enter Tryz.func56, Tryz.ntmps56
  go_wp2_with fail
  refine (Hlist.out w (Below.refl _ _)).mono ?_; rintro e w1 ⟨v, ss, rfl, _, hl, hrow, hb1⟩
  rw [hl] at hrow
  obtain ⟨av, cv, rfl⟩ := own_form0 hrow
  clear hrow c0
  go_wp2
  go_loopw [21] (fun i wr => i = .int .i64 0 ∧ Below w.heap.size w wr) (fun _ _ => 1)
  case atStart => exact ⟨rfl, hb1⟩
  case round =>
    obtain ⟨rfl, hb2⟩ := hrel
    have c0 := C0.out _ hb2
    have Hb2 := Lib.hid hb2
    clear hb2 hb1
    go_wp2_with fail
    refine (Hlist.out _ Hb2.out).mono ?_; rintro e w3 ⟨v, ss, rfl, _, hl, hrow, hb3⟩
    rw [hl] at hrow
    obtain ⟨av2, cv2, rfl⟩ := own_form0 hrow
    have hb3' := Hb2.out.trans (hb3.mono Hb2.out.size)
    clear hrow c0 hb3
    go_wp2
    go_loopw [54] (fun i wr => i = .int .i64 0 ∧ Below w.heap.size w wr) (fun _ _ => 1)
    case atStart => exact ⟨rfl, hb3'⟩
    case round =>
      obtain ⟨rfl, hb4⟩ := hrel
      have Hb4 := Lib.hid hb4
      clear hb4 hb3'
      go_wp2_with fail
      refine (Hpar.out _ Hb4.out).mono ?_; rintro e w5 ⟨rfl, hb5⟩
      have hb5' := Hb4.out.trans (hb5.mono Hb4.out.size)
      clear hb5
      go_wp2
      go_ret
      exact ⟨rfl, hb5'⟩
structure Open0Done (w : World) (f : Nat) (fs : FsD) (ρ : Rho) (e : Ending) (w' : World) (s : Nat) (d : StoD) : Prop where
  ret : e = .returned (.tuple #[.pointer (some ⟨s, 0, none⟩), .int .i64 0])
  at_ : StoAt w' s d ρ
  eq : ∃ ib mb, d = ⟨fs, f, ib, mb, 0, 0, [], [], false⟩ ∧ w.heap.size ≤ ib ∧ w.heap.size ≤ mb
  new : w.heap.size ≤ s
  below : Below w.heap.size w w'
set_option maxHeartbeats 8000000 in
theorem open0_calls (f : Nat) (fs : FsD) (ρ : Rho) (w : World) (h : FsAt w f fs ρ) (hn : fs.now = []) (hdn : fs.down = false) (hg : GOk w) :
    Calls Tryz.prog 17 #[.pointer (some ⟨f, 0, none⟩)] w fun e w' => ∃ s d, Open0Done w f fs ρ e w' s d := by
  have hmm := @run_makeMap Tryz.prog
  have hio := idsOpen_calls f fs ρ w h hdn (by rw [hn]; decide) (fun p hp => by rw [hn] at hp; cases hp) hg
  have hrho : ∀ k, w.heap.size ≤ k → ρ k = none := fun k hk => by
    cases hr : ρ k with
    | none => rfl
    | some r => have := h.rest.lt k (by rw [hr]; rfl); omega
  have Hio := Lib.hid hio
  have Hrho := Lib.hid hrho
  have H := Lib.hid (And.intro h (And.intro hn hdn))
  clear hio hrho h hn hdn hg
  go_enter Tryz.func17, Tryz.ntmps17
  go_wp2_with fail
  refine (Hio.out).mono ?_; rintro e w1 ⟨ib, ss, rfl, hnm, hhd, hnew, hb1⟩
  have hss : ss = [] := by
    have := (sortedNm.perm hnm).length_eq
    rw [H.out.2.1] at this
    exact List.length_eq_zero_iff.1 this
  subst hss
  have hl0 : lastNum (numL []) = (0, []) := rfl
  rw [hl0] at hhd
  dsimp only at hhd
  obtain ⟨W2, hW2⟩ : ∃ W2, w1.alloc (.map #[] 0) = W2 := ⟨_, rfl⟩
  obtain ⟨W3, hW3⟩ : ∃ W3, W2.alloc (.cells #[.pointer (some ⟨f, 0, none⟩), .pointer (some ⟨ib, 0, none⟩), .map (some w1.heap.size), .bool false] 112) = W3 := ⟨_, rfl⟩
  have z2 : W2.heap.size = w1.heap.size + 1 := by rw [← hW2]; simp
  have b2 : Below w1.heap.size w1 W2 := by rw [← hW2]; exact (Below.refl _ _).alloc (Nat.le_refl _) _
  have b3 : Below W2.heap.size W2 W3 := by rw [← hW3]; exact (Below.refl _ _).alloc (Nat.le_refl _) _
  have b13 := b2.trans (b3.mono b2.size)
  have bw3 := hb1.trans (b13.mono hb1.size)
  have m2 : WhAt W2 w1.heap.size [] := by rw [← hW2]; exact World.ownsMap_made w1 Tryz.prog 3 (plainElem Tryz.prog 5)
  have m3 : WhAt W3 w1.heap.size [] := whMap_keeps (F := fun _ => False) m2 (Keeps.ofBelow b3) id
  have hs3 : W3.heap[w1.heap.size + 1]? = some (.cells #[.pointer (some ⟨f, 0, none⟩), .pointer (some ⟨ib, 0, none⟩), .map (some w1.heap.size), .bool false] 112 (0, 0)) := by rw [← hW3]; exact heap_new_at _ z2.symm
  have hids := (b13.block _ (Array.getElem?_eq_some_iff.1 hhd).1).trans hhd
  have hs1 := hb1.size
  have hA : StoAt W3 (w1.heap.size + 1) ⟨fs, f, ib, w1.heap.size, 0, 0, [], [], false⟩ ρ := ⟨H.out.1.below bw3, hs3, hids, m3, Hrho.out _ (by omega), Hrho.out _ hnew, Hrho.out _ hs1⟩
  have hrc := recover0_calls (w1.heap.size + 1) _ ρ W3 hA rfl H.out.2.1 H.out.2.2
  have Hrc := Lib.hid hrc
  have HA := Lib.hid (And.intro hA (And.intro hnew (And.intro hs1 bw3)))
  clear hrc hA hids hs3 m2 m3 bw3 b13 b3 b2 hhd hl0 hnm hb1
  subst hW3
  subst hW2
  go_wp2_with fail
  refine (Hrc.out).mono ?_; rintro e w4 ⟨rfl, hb4⟩
  have Hb4 := Lib.hid hb4
  clear hb4
  go_wp2
  go_ret2
  obtain ⟨q1, q2, q3, q4⟩ := HA.out
  exact ⟨w1.heap.size + 1, _, rfl, q1.below Hb4.out, ⟨ib, w1.heap.size, rfl, q2, q3⟩, by omega, q4.trans (Hb4.out.mono q4.size)⟩
end Go.Proofs.YtffnbkmigapmjaaGreatDoor
