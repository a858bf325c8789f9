/- Printed out of the texts of wip/tpl. -/
import Derived.Test.YtffnbkmigapmjaaGreatDoorT4
import Derived.Test.YtffnbkmigapmjaaGreatDoorT6
import Derived.Test.YtffnbkmigapmjaaGreatDoorT7
import Derived.Laws.IdiomStrings
import Derived.Laws.BytesArg
import Derived.Deep.RegionHeld3
set_option linter.unusedSimpArgs false
set_option linter.unusedVariables false
namespace Go.Proofs.YtffnbkmigapmjaaGreatDoor
open Go.RowKit
def dotBad (l : List UInt8) (i : Nat) : Prop := l[i]? = some 46 ∧ (i = 0 ∨ i + 1 = l.length ∨ l[i - 1]? = some 46)
theorem twoB_iff (x : UInt8) (l : List UInt8) : twoB x l = true ↔ ∃ i : Nat, l[i]? = some x ∧ l[i + 1]? = some x := by
 induction l with
 | nil => simp [twoB]
 | cons a r ih =>
  cases r with
  | nil => simp [twoB]
  | cons b r =>
   rw [twoB, Bool.or_eq_true, ih]
   constructor
   ·rintro (h | ⟨i, h1, h2⟩)
    ·rw [Bool.and_eq_true] at h
     exact ⟨0, by simpa using h.1, by simpa using h.2⟩
    ·exact ⟨i + 1, by simpa using h1, by simpa using h2⟩
   ·rintro ⟨i, h1, h2⟩
    cases i with
    | zero => left; rw [Bool.and_eq_true]; exact ⟨by simpa using h1, by simpa using h2⟩
    | succ i => right; exact ⟨i, by simpa using h1, by simpa using h2⟩
theorem ends_iff (x : UInt8) (l : List UInt8) : endsB x l = true ↔ l[0]? = some x ∨ (0 < l.length ∧ l[l.length - 1]? = some x) := by
 unfold endsB
 rw [Bool.or_eq_true, List.head?_eq_getElem?, List.getLast?_eq_getElem?, beq_iff_eq, beq_iff_eq]
 constructor
 ·rintro (h | h)
  ·exact .inl h
  ·refine .inr ⟨?_, h⟩
   have := (List.getElem?_eq_some_iff.1 h).1
   omega
 ·rintro (h | ⟨_, h⟩)
  ·exact .inl h
  ·exact .inr h
def okL (c : UInt8) : Bool := plainB c || ([46, 95, 43, 45] : List UInt8).contains c
theorem local_bad {l : List UInt8} {i : Nat} (h : dotBad l i) : localB l = false := by
 have : endsB 46 l = true ∨ twoB 46 l = true := by
  obtain ⟨h1, h2 | h2 | h2⟩ := h
  ·subst h2; exact .inl ((ends_iff _ _).2 (.inl h1))
  ·refine .inl ((ends_iff _ _).2 (.inr ⟨by omega, ?_⟩))
   rw [show l.length - 1 = i by omega]; exact h1
  ·by_cases h0 : i = 0
   ·subst h0; exact .inl ((ends_iff _ _).2 (.inl h1))
   ·exact .inr ((twoB_iff _ _).2 ⟨i - 1, h2, by rw [show i - 1 + 1 = i by omega]; exact h1⟩)
 unfold localB
 rcases this with h | h <;> simp [h]
theorem local_char {l : List UInt8} {i : Nat} {c : UInt8} (hc : l[i]? = some c) (h : okL c = false) : localB l = false := by
 have : onlyB [46, 95, 43, 45] l = false := onlyB_false hc h
 unfold localB; simp [this]
theorem local_good {l : List UInt8} (h : ∀ (i : Nat) c, l[i]? = some c → okL c = true ∧ ¬ dotBad l i) : localB l = decide (1 ≤ l.length ∧ l.length ≤ 32) := by
 have h1 : onlyB [46, 95, 43, 45] l = true := by
  unfold onlyB; rw [List.all_eq_true]
  intro c hc
  obtain ⟨i, hi⟩ := List.getElem?_of_mem hc
  exact (h i c hi).1
 have h2 : endsB 46 l = false := by
  cases he : endsB 46 l with
  | false => rfl
  | true =>
   rcases (ends_iff _ _).1 he with h3 | ⟨h4, h3⟩
   ·exact absurd ⟨h3, .inl rfl⟩ (h 0 46 h3).2
   ·exact absurd ⟨h3, .inr (.inl (by omega))⟩ (h _ 46 h3).2
 have h3 : twoB 46 l = false := by
  cases he : twoB 46 l with
  | false => rfl
  | true =>
   obtain ⟨i, h4, h5⟩ := (twoB_iff _ _).1 he
   exact absurd ⟨h5, .inr (.inr (by simpa using h4))⟩ (h (i + 1) 46 h5).2
 unfold localB
 rw [h1, h2, h3]; simp
theorem eqB (c k : UInt8) : ((c.toNat : Int) == (k.toNat : Int)) = (c == k) := eq45 c k
set_option maxRecDepth 100000 in
set_option maxHeartbeats 8000000 in
theorem refLocal_calls (s : ByteArray) (w : World) (hs : s.size ≤ 4294967280) :
 Calls Tryz.prog 201 #[.string s] w fun e w' => e = .returned (.bool (localB s.data.toList)) ∧ w' = w := by
 have hlen := size_len s
 have hidx := fun (j : Nat) (x : UInt8) (h : s.data.toList[j]? = some x) => run_index_at h
 obtain ⟨l, hl⟩ : ∃ l, s.data.toList = l := ⟨_, rfl⟩
 rw [hl] at hidx hlen ⊢
 obtain ⟨n, hn⟩ : ∃ n, l.length = n := ⟨_, rfl⟩
 rw [hn] at hlen
 rw [hlen] at hs
 have Hidx := Lib.hid hidx
 have Hn := Lib.hid hn
 have hni : (n : Int) ≤ 4294967280 := by omega
 clear hidx hl hn hs
 go_enter Tryz.func201, Tryz.ntmps201
 go_wp2
 go_loop [3] (fun i => ∃ j : Nat, j ≤ n ∧ i = .int .i64 j ∧ (∀ (k : Nat) c, k < j → l[k]? = some c → okL c = true ∧ ¬ dotBad l k)) (fun i => n - (intOf i).toNat)
 case atStart => exact ⟨0, Nat.zero_le _, rfl, fun k c hk => absurd hk (Nat.not_lt_zero _)⟩
 case round =>
  obtain ⟨j, hj, rfl, hinv⟩ := hrel
  by_cases hlt : j < n
  ·obtain ⟨c, hc⟩ : ∃ c, l[j]? = some c := ⟨_, List.getElem?_eq_getElem (by rw [Hn.out]; exact hlt)⟩
   have hix := Hidx.out j c hc
   have hnext : okL c = true → ¬ dotBad l j → ∀ (k : Nat) c, k < j + 1 → l[k]? = some c → okL c = true ∧ ¬ dotBad l k := by
    intro h1 h2 k c' hk hc'
    rcases (by omega : k < j ∨ k = j) with h | rfl
    ·exact hinv k c' h hc'
    ·rw [hc] at hc'; cases hc'; exact ⟨h1, h2⟩
   have Hnext := Lib.hid hnext
   have hbad : dotBad l j → localB l = false := local_bad
   have hchr : okL c = false → localB l = false := local_char hc
   have Hbad := Lib.hid hbad
   have Hchr := Lib.hid hchr
   have Hc := Lib.hid hc
   have hj0 : (0 : Int) ≤ (j : Int) := by omega
   have hj1 : (j : Int) < (n : Int) := by omega
   have q46 : ((c.toNat : Int) == 46) = (c == 46) := eqB c 46
   have q95 : ((c.toNat : Int) == 95) = (c == 95) := eqB c 95
   have q43 : ((c.toNat : Int) == 43) = (c == 43) := eqB c 43
   have q45 : ((c.toNat : Int) == 45) = (c == 45) := eqB c 45
   have hpl := fun W => refPlain_calls c W
   have hok : okL c = (plainB c || (c == 46 || (c == 95 || (c == 43 || c == 45)))) := by
    unfold okL
    rw [List.contains_cons, List.contains_cons, List.contains_cons, List.contains_cons, List.contains_nil, Bool.or_false]
   have Hok := Lib.hid hok
   clear hnext hbad hchr hc hinv hok
   generalize plainB c = p at hpl Hok
   have Hpl := Lib.hid hpl
   clear hpl
   cases v46 : (c == 46)
   ·have hnd : ¬ dotBad l j := fun h => by
     have := h.1; rw [Hc.out] at this; cases this; revert v46; decide
    rw [v46] at q46
    have rq46 : ((c.toNat : Int) != 46) = true := by rw [bne, q46]; rfl
    have Hnd := Lib.hid hnd
    clear hnd
    cases p
    ·cases v95 : (c == 95)
     ·rw [v95] at q95
      have rq95 : ((c.toNat : Int) != 95) = true := by rw [bne, q95]; rfl
      cases v43 : (c == 43)
      ·rw [v43] at q43
       have rq43 : ((c.toNat : Int) != 43) = true := by rw [bne, q43]; rfl
       cases v45 : (c == 45)
       ·rw [v45] at q45
        have rq45 : ((c.toNat : Int) != 45) = true := by rw [bne, q45]; rfl
        have Hr := Lib.hid (Hchr.out (by rw [Hok.out, v46, v95, v43, v45]; rfl))
        clear v46 v95 v43 v45
        go_wp2_with fail
        refine (Hpl.out _).mono ?_; rintro e w2 ⟨rfl, rfl⟩
        go_wp2
        go_ret
        exact ⟨by rw [Hr.out]; rfl, rfl⟩
       ·rw [v45] at q45
        have rq45 : ((c.toNat : Int) != 45) = false := by rw [bne, q45]; rfl
        have Hr := Lib.hid (Hnext.out (by rw [Hok.out, v45]; simp) Hnd.out)
        clear v46 v95 v43 v45
        go_wp2_with fail
        refine (Hpl.out _).mono ?_; rintro e w2 ⟨rfl, rfl⟩
        go_wp2
        go_round
        case rel => exact ⟨j + 1, by omega, by go_num, Hr.out⟩
        case measure => simp [intOf] <;> omega
      ·rw [v43] at q43
       have rq43 : ((c.toNat : Int) != 43) = false := by rw [bne, q43]; rfl
       have Hr := Lib.hid (Hnext.out (by rw [Hok.out, v43]; simp) Hnd.out)
       clear v46 v95 v43 q45
       go_wp2_with fail
       refine (Hpl.out _).mono ?_; rintro e w2 ⟨rfl, rfl⟩
       go_wp2
       go_round
       case rel => exact ⟨j + 1, by omega, by go_num, Hr.out⟩
       case measure => simp [intOf] <;> omega
     ·rw [v95] at q95
      have rq95 : ((c.toNat : Int) != 95) = false := by rw [bne, q95]; rfl
      have Hr := Lib.hid (Hnext.out (by rw [Hok.out, v95]; simp) Hnd.out)
      clear v46 v95 q43 q45
      go_wp2_with fail
      refine (Hpl.out _).mono ?_; rintro e w2 ⟨rfl, rfl⟩
      go_wp2
      go_round
      case rel => exact ⟨j + 1, by omega, by go_num, Hr.out⟩
      case measure => simp [intOf] <;> omega
    ·have Hr := Lib.hid (Hnext.out (by rw [Hok.out]; rfl) Hnd.out)
     clear v46 q95 q43 q45
     go_wp2_with fail
     refine (Hpl.out _).mono ?_; rintro e w2 ⟨rfl, rfl⟩
     go_wp2
     go_round
     case rel => exact ⟨j + 1, by omega, by go_num, Hr.out⟩
     case measure => simp [intOf] <;> omega
   ·have hc46 : c = 46 := by simpa using v46
    rw [v46] at q46
    have rq46 : ((c.toNat : Int) != 46) = false := by rw [bne, q46]; rfl
    have hcl : l[j]? = some 46 := by rw [← hc46]; exact Hc.out
    have Hcl := Lib.hid hcl
    have Hok2 := Lib.hid (show okL c = true by rw [Hok.out, v46]; simp)
    clear v46 hc46 hcl q95 q43 q45
    by_cases hz : j = 0
    ·have Hr := Lib.hid (Hbad.out ⟨Hcl.out, .inl hz⟩)
     have hz1 : ((j : Int) == 0) = true := by simpa using hz
     clear hz
     go_wp2
     go_ret
     exact ⟨by rw [Hr.out]; rfl, rfl⟩
    ·have hz1 : ((j : Int) == 0) = false := by simpa using hz
     have hj2 : (1 : Int) ≤ (j : Int) := by omega
     by_cases hlast : j + 1 = n
     ·have Hr := Lib.hid (Hbad.out ⟨Hcl.out, .inr (.inl (by rw [Hn.out]; exact hlast))⟩)
      have hz2 : ((j : Int) == (n : Int) - 1) = true := by simp; omega
      clear hlast hz
      go_wp2
      go_ret
      exact ⟨by rw [Hr.out]; rfl, rfl⟩
     ·have hz2 : ((j : Int) == (n : Int) - 1) = false := by simp; omega
      obtain ⟨d, hd⟩ : ∃ d, l[j - 1]? = some d := ⟨_, List.getElem?_eq_getElem (by rw [Hn.out]; omega)⟩
      have hip : ∀ W, (Instr.index 9 (.string s) (.int .i64 ((j : Int) - 1))).run Tryz.prog W = .ok (.int .u8 d.toNat) W := by
       have h := Hidx.out (j - 1) d hd
       rw [show ((j - 1 : Nat) : Int) = (j : Int) - 1 by omega] at h
       exact h
      have qd : ((d.toNat : Int) == 46) = (d == 46) := eqB d 46
      cases vd : (d == 46)
      ·have hnd : ¬ dotBad l j := by
        rintro ⟨_, h | h | h⟩
        ·exact hz h
        ·exact hlast (by rw [← Hn.out]; exact h)
        ·rw [hd] at h; cases h; revert vd; decide
       have Hr := Lib.hid (Hnext.out Hok2.out hnd)
       rw [vd] at qd
       have rqd : ((d.toNat : Int) != 46) = true := by rw [bne, qd]; rfl
       clear hnd vd hd hlast hz
       cases p
       ·go_wp2_with fail
        refine (Hpl.out _).mono ?_; rintro e w2 ⟨rfl, rfl⟩
        go_wp2
        go_round
        case rel => exact ⟨j + 1, by omega, by go_num, Hr.out⟩
        case measure => simp [intOf] <;> omega
       ·go_wp2_with fail
        refine (Hpl.out _).mono ?_; rintro e w2 ⟨rfl, rfl⟩
        go_wp2
        go_round
        case rel => exact ⟨j + 1, by omega, by go_num, Hr.out⟩
        case measure => simp [intOf] <;> omega
      ·have hd46 : d = 46 := by simpa using vd
       have Hr := Lib.hid (Hbad.out ⟨Hcl.out, .inr (.inr (by rw [hd, hd46]))⟩)
       rw [vd] at qd
       have rqd : ((d.toNat : Int) != 46) = false := by rw [bne, qd]; rfl
       clear hd46 vd hd hlast hz
       go_wp2
       go_ret
       exact ⟨by rw [Hr.out]; rfl, rfl⟩
  ·have hje : j = n := by omega
   subst hje
   have hres : localB l = decide (1 ≤ j ∧ j ≤ 32) := by
    rw [← Hn.out]
    exact local_good fun i c hc => hinv i c (by rw [← Hn.out]; exact (List.getElem?_eq_some_iff.1 hc).1) hc
   have Hres := Lib.hid hres
   clear hres hinv
   by_cases h1 : (1 : Int) ≤ (j : Int)
   ·by_cases h32 : (j : Int) ≤ 32
    ·go_wp2
     go_ret
     exact ⟨by rw [Hres.out, decide_eq_true (by omega)]; rfl, rfl⟩
    ·go_wp2
     go_ret
     exact ⟨by rw [Hres.out, decide_eq_false (by omega)]; rfl, rfl⟩
   ·go_wp2
    go_ret
    exact ⟨by rw [Hres.out, decide_eq_false (by omega)]; rfl, rfl⟩
def BytesRow (w : World) (g : Nat) (bs : List UInt8) : Prop :=
 ∃ cs : Array Value, w.heap[g]? = some (.cells cs 5 (cs.size, cs.size + 1)) ∧ bs.length ≤ cs.size ∧ ∀ (i : Nat) x, bs[i]? = some x → cs[i]? = some (u8v x)
theorem BytesRow.cell {w : World} {g : Nat} {bs : List UInt8} (h : BytesRow w g bs) {i : Nat} {x : UInt8} (hx : bs[i]? = some x) :
 w.cell? ⟨g, i, none⟩ = some (.int .u8 x.toNat) ∧ w.frozen? ⟨g, i, none⟩ = false := by
 obtain ⟨cs, h1, h2, h3⟩ := h
 have hi := (List.getElem?_eq_some_iff.1 hx).1
 refine ⟨?_, ?_⟩
 ·rw [cell_of_row _ _ _ _ _ _ h1]; exact h3 i x hx
 ·unfold World.frozen?
  rw [h1]
  simp only [Bool.and_eq_false_iff, decide_eq_false_iff_not]
  left; omega
theorem BytesRow.store {w : World} {g : Nat} {bs : List UInt8} (h : BytesRow w g bs) (i : Nat) (x : UInt8) : BytesRow (w.setCell ⟨g, i, none⟩ (u8v x)) g (bs.set i x) := by
 obtain ⟨cs, h1, h2, h3⟩ := h
 refine ⟨cs.setIfInBounds i (u8v x), ?_, ?_, ?_⟩
 ·rw [setCell_eq_setRow w g i cs 5 _ _ h1, Array.size_setIfInBounds]
  exact setRow_heap w g cs _ 5 _ h1
 ·rw [List.length_set, Array.size_setIfInBounds]; exact h2
 ·intro k y hy
  rw [List.getElem?_set] at hy
  rw [Array.getElem?_setIfInBounds]
  split at hy
  ·next e =>
   subst e
   split at hy
   ·next hlt =>
    cases hy
    rw [if_pos rfl, if_pos (by omega)]
   ·cases hy
  ·next e =>
   rw [if_neg e]; exact h3 k y hy
theorem BytesRow.str {w : World} {g cap : Nat} {bs : List UInt8} (h : BytesRow w g bs) : (convert 22 9 (.slice (some ⟨g, 0, none⟩) bs.length cap)).run Tryz.prog w = .ok (.string (strL bs)) w := by
 have := run_convert_bytes_arg (P := Tryz.prog) w 22 5 Tryz.underlying22 Tryz.underlying5 g 0 bs.length cap (bs.map fun x => (x.toNat : Int)) (by simp) (fun i hi => by
  rw [Nat.zero_add, (h.cell (List.getElem?_eq_getElem hi)).1]
  simp [List.getD, List.getElem?_eq_getElem hi]) 9 Tryz.underlying9
 rw [this]
 have e : strOfNums (bs.map fun x => (x.toNat : Int)) = strL bs := by simp [strL, strOfNums, Function.comp_def]
 rw [e]
theorem set_same {α : Type} {l : List α} {i : Nat} {a : α} (h : l[i]? = some a) : l.set i a = l := by
 apply List.ext_getElem?
 intro k
 rw [List.getElem?_set]
 split
 ·next e => subst e; rw [h, if_pos (List.getElem?_eq_some_iff.1 h).1]
 ·rfl
set_option maxRecDepth 100000 in
set_option maxHeartbeats 8000000 in
theorem refSmall_calls (l : List UInt8) (w : World) (hs : l.length ≤ 4294967280) :
 Calls Tryz.prog 203 #[.string (strL l)] w fun e w' => e = .returned (.string (strL (Lib.toLowerA l))) ∧ Below w.heap.size w w' := by
 have hconv : ∃ C W, (convert 9 22 (.string (strL l))).run Tryz.prog w = .ok (.slice (some ⟨w.heap.size, 0, none⟩) l.length C) W ∧ BytesRow W w.heap.size l ∧ Below w.heap.size w W ∧ l.length ≤ C := by
  have h := run_bytes_of_string (P := Tryz.prog) w 9 22 5 (strL l) Tryz.underlying9 Tryz.underlying22 Tryz.underlying5
  rw [strL_size] at h
  refine ⟨_, _, h, ⟨_, heap_alloc_new w.drew _, ?_, ?_⟩, (Below.refl _ _).drew.alloc (Nat.le_refl _) _, grownCap_ge _ _ _ _⟩
  ·simp [bytesRow, strL] <;> omega
  ·intro i x hx
   have hi := (List.getElem?_eq_some_iff.1 hx).1
   have h2 := bytesRow_at (strL l) (grownCap w l.length 0 5) i (by simp [strL]; exact hi)
   rw [h2]
   have : (strL l).data[i]'(by simp [strL]; exact hi) = x := by
    have := (List.getElem?_eq_some_iff.1 hx).2
    simp [strL, this]
   rw [this]
 obtain ⟨C, W, hrun, hrow, hbW, hC⟩ := hconv
 obtain ⟨n, hn⟩ : ∃ n, l.length = n := ⟨_, rfl⟩
 rw [hn] at hrun hC hs
 have hni : (n : Int) ≤ 4294967280 := by omega
 have Hn := Lib.hid hn
 clear hn
 have hlow : ∀ (j : Nat) c, l[j]? = some c → (Lib.toLowerA l)[j]? = some (Lib.lowerB c) := fun j c h => by rw [Lib.toLowerA, List.getElem?_map, h]; rfl
 go_enter Tryz.func203, Tryz.ntmps203
 go_wp2
 go_loopw [4] (fun i wr => ∃ j : Nat, j ≤ n ∧ i = .int .i64 j ∧ BytesRow wr w.heap.size ((Lib.toLowerA l).take j ++ l.drop j) ∧ Below w.heap.size w wr) (fun i _ => n - (intOf i).toNat)
 case atStart => exact ⟨0, Nat.zero_le _, rfl, hrow, hbW⟩
 case round =>
  obtain ⟨j, hj, rfl, hrw, hbw⟩ := hrel
  have hll : (Lib.toLowerA l).length = n := by rw [Lib.toLowerA, List.length_map]; exact Hn.out
  by_cases hlt : j < n
  ·obtain ⟨c, hc⟩ : ∃ c, l[j]? = some c := ⟨_, List.getElem?_eq_getElem (by rw [Hn.out]; exact hlt)⟩
   have hat : ((Lib.toLowerA l).take j ++ l.drop j)[j]? = some c := by
    rw [List.getElem?_append_right (by rw [List.length_take]; omega), List.length_take, hll, Nat.min_eq_left hj, Nat.sub_self, List.getElem?_drop, Nat.add_zero, hc]
   obtain ⟨hcell, hfz⟩ := hrw.cell hat
   have hnx : ∀ x, Lib.lowerB c = x → ((Lib.toLowerA l).take j ++ l.drop j).set j x = (Lib.toLowerA l).take (j + 1) ++ l.drop (j + 1) := by
    intro x hx
    rw [List.set_append_right _ _ (by rw [List.length_take]; omega), List.length_take, hll, Nat.min_eq_left hj, Nat.sub_self]
    rw [show l.drop j = c :: l.drop (j + 1) by rw [List.drop_eq_getElem_cons (by rw [Hn.out]; exact hlt)]; congr 1; exact (List.getElem?_eq_some_iff.1 hc).2]
    rw [take_snoc (hlow j c hc), hx]; simp
   have hsame : Lib.lowerB c = c → (Lib.toLowerA l).take j ++ l.drop j = (Lib.toLowerA l).take (j + 1) ++ l.drop (j + 1) := by
    intro h
    rw [← hnx c h]
    exact (set_same hat).symm
   have hcn := c.toNat_lt
   have hj0 : (0 : Int) ≤ (j : Int) := by omega
   have hj1 : (j : Int) < (n : Int) := by omega
   have hlb : Lib.lowerB c = if 65 ≤ c.toNat ∧ c.toNat ≤ 90 then c + 32 else c := by
    unfold Lib.lowerB Lib.isUpperB
    by_cases h : 65 ≤ c.toNat ∧ c.toNat ≤ 90
    ·rw [if_pos h, if_pos]
     simp only [Bool.and_eq_true, decide_eq_true_eq, UInt8.le_iff_toNat_le]
     exact ⟨h.1, h.2⟩
    ·rw [if_neg h, if_neg]
     simp only [Bool.and_eq_true, decide_eq_true_eq, UInt8.le_iff_toNat_le]
     exact h
   have Hnx := Lib.hid hnx
   have Hsame := Lib.hid hsame
   have Hlb := Lib.hid hlb
   have Hrw := Lib.hid hrw
   clear hnx hsame hlb hat hc hll hrw hrow hrun
   by_cases h65 : (65 : Int) ≤ (c.toNat : Int)
   ·by_cases h90 : (c.toNat : Int) ≤ 90
    ·have hup : Lib.lowerB c = c + 32 := by rw [Hlb.out, if_pos ⟨by omega, by omega⟩]
     have hadd : (c.toNat : Int) + 32 = ((c + 32).toNat : Int) := by
      rw [UInt8.toNat_add]
      have : (32 : UInt8).toNat = 32 := rfl
      rw [this, Nat.mod_eq_of_lt (by omega)]; omega
     have Hadd := Lib.hid hadd
     have Hup := Lib.hid hup
     clear hadd hup
     go_wp2
     go_roundw
     case rel =>
      refine ⟨j + 1, by omega, by simp, ?_, hbw.setCell (by exact Nat.le_refl _) _⟩
      rw [← Hnx.out _ Hup.out, Hadd.out]
      exact Hrw.out.store j (c + 32)
     case measure => simp [intOf] <;> omega
    ·have hup : Lib.lowerB c = c := by rw [Hlb.out, if_neg (by omega)]
     have Hup := Lib.hid hup
     clear hup
     go_wp2
     go_roundw
     case rel => exact ⟨j + 1, by omega, by simp, by rw [← Hsame.out Hup.out]; exact Hrw.out, hbw⟩
     case measure => simp [intOf] <;> omega
   ·have hup : Lib.lowerB c = c := by rw [Hlb.out, if_neg (by omega)]
    have Hup := Lib.hid hup
    clear hup
    go_wp2
    go_roundw
    case rel => exact ⟨j + 1, by omega, by simp, by rw [← Hsame.out Hup.out]; exact Hrw.out, hbw⟩
    case measure => simp [intOf] <;> omega
  ·have hje : j = n := by omega
   subst hje
   rw [List.take_of_length_le (by omega), List.drop_of_length_le (by rw [Hn.out]; exact Nat.le_refl _), List.append_nil] at hrw
   have hst := hrw.str (cap := C)
   rw [hll] at hst
   clear hrw hll hrow hrun
   go_wp2
   go_ret
   exact ⟨rfl, hbw⟩
theorem cutAt_none {c : UInt8} {l : List UInt8} (h : ∀ k : Nat, l[k]? ≠ some c) : cutAt c l = none := by
 induction l with
 | nil => rfl
 | cons x xs ih =>
  have hx : ¬ x = c := fun e => h 0 (by simp [e])
  rw [cutAt, if_neg hx, ih (fun k => by simpa using h (k + 1))]; rfl
theorem cutAt_first {c : UInt8} : ∀ {l : List UInt8} {i : Nat}, l[i]? = some c → (∀ k : Nat, k < i → l[k]? ≠ some c) → cutAt c l = some (l.take i, l.drop (i + 1)) := by
 intro l
 induction l with
 | nil => intro i h; cases h
 | cons x xs ih =>
  intro i h hn
  cases i with
  | zero =>
   have : x = c := by simpa using h
   rw [cutAt, if_pos this]; simp
  | succ i =>
   have hx : ¬ x = c := fun e => hn 0 (by omega) (by simp [e])
   rw [cutAt, if_neg hx, ih (i := i) (by simpa using h) (fun k hk => by simpa using hn (k + 1) (by omega))]
   simp
theorem run_slice_hi {l : List UInt8} {b : Nat} (hb : b ≤ l.length) (w : World) :
 (Instr.slice 9 (.string (strL l)) none (some (.int .i64 (b : Int))) none).run Tryz.prog w = .ok (.string (strL (l.take b))) w := by
 rw [run_slice_string_to_if w 9 (strL l) .i64 b Tryz.underlying9]
 rw [if_pos ⟨by omega, by rw [strL_size]; omega⟩]
 have : ((strL l).extract 0 b).data.toList = l.take b := by
  rw [ByteArray.data_extract, Array.toList_extract, List.extract_eq_take_drop, strL_data]; simp
 rw [Int.toNat_natCast, ← this, strL_of]
theorem run_slice_lo {l : List UInt8} {a : Nat} (ha : a ≤ l.length) (w : World) :
 (Instr.slice 9 (.string (strL l)) (some (.int .i64 (a : Int))) none none).run Tryz.prog w = .ok (.string (strL (l.drop a))) w := by
 rw [run_slice_string_from_if w 9 (strL l) .i64 a Tryz.underlying9]
 rw [if_pos ⟨by omega, by rw [strL_size]; omega⟩]
 have : ((strL l).extract a (strL l).size).data.toList = l.drop a := by
  rw [ByteArray.data_extract, Array.toList_extract, List.extract_eq_take_drop, strL_data, strL_size, List.take_of_length_le (by rw [List.length_drop]; exact Nat.le_refl _)]
 rw [Int.toNat_natCast, ← this, strL_of]
set_option maxRecDepth 100000 in
set_option maxHeartbeats 8000000 in
theorem refSplit_calls (l : List UInt8) (w : World) (hs : l.length ≤ 4294967270) :
 Calls Tryz.prog 172 #[.string (strL l)] w fun e w' => e = .returned (splitVal (splitBox l)) ∧ Below w.heap.size w w' := by
 have hsz := strL_size l
 have hidx := fun (j : Nat) (x : UInt8) (h : l[j]? = some x) => run_index_at (s := strL l) (j := j) (c := x) (by rw [strL_data]; exact h)
 have hhi := fun (b : Nat) (hb : b ≤ l.length) => run_slice_hi hb
 have hlo := fun (a : Nat) (ha : a ≤ l.length) => run_slice_lo ha
 have hloc := fun (b : Nat) W (hb : b ≤ l.length) => refLocal_calls (strL (l.take b)) W (by rw [strL_size, List.length_take]; omega)
 have hdom := fun (a : Nat) W => refDomain_calls (strL (l.drop a)) W (by rw [strL_size, List.length_drop]; omega)
 have hsm := fun (a : Nat) W => refSmall_calls (l.drop a) W (by rw [List.length_drop]; omega)
 simp only [strL_data] at hloc hdom
 obtain ⟨n, hn⟩ : ∃ n, l.length = n := ⟨_, rfl⟩
 rw [hn] at hsz hhi hlo hloc hs
 have Hn := Lib.hid hn
 have Hidx := Lib.hid hidx
 have Hhi := Lib.hid hhi
 have Hlo := Lib.hid hlo
 have Hloc := Lib.hid hloc
 have Hdom := Lib.hid hdom
 have Hsm := Lib.hid hsm
 have hni : (n : Int) ≤ 4294967270 := by omega
 clear hidx hhi hlo hloc hdom hsm hn hs
 generalize hsl : strL l = s at hsz Hidx Hhi Hlo
 clear hsl
 go_enter Tryz.func172, Tryz.ntmps172
 go_wp2
 go_loop [5] (fun i => ∃ j : Nat, j ≤ n ∧ i = .int .i64 j ∧ (∀ k : Nat, k < j → l[k]? ≠ some 64)) (fun i => n - (intOf i).toNat)
 case atStart => exact ⟨0, Nat.zero_le _, rfl, fun k hk => absurd hk (Nat.not_lt_zero _)⟩
 case round =>
  obtain ⟨j, hj, rfl, hinv⟩ := hrel
  by_cases hlt : j < n
  ·obtain ⟨c, hc⟩ : ∃ c, l[j]? = some c := ⟨_, List.getElem?_eq_getElem (by rw [Hn.out]; exact hlt)⟩
   have hix := Hidx.out j c hc
   have q64 : ((c.toNat : Int) == 64) = (c == 64) := eqB c 64
   have hj1 : (j : Int) < (n : Int) := by omega
   have hj0 : (0 : Int) ≤ (j : Int) := by omega
   cases v64 : (c == 64)
   ·rw [v64] at q64
    have hnx : ∀ k : Nat, k < j + 1 → l[k]? ≠ some 64 := by
     intro k hk h
     rcases (by omega : k < j ∨ k = j) with h1 | rfl
     ·exact hinv k h1 h
     ·rw [hc] at h; cases h; revert v64; decide
    have Hnx := Lib.hid hnx
    clear hnx v64 hc hinv
    go_wp2
    go_round
    case rel => exact ⟨j + 1, by omega, by go_num, Hnx.out⟩
    case measure => simp [intOf] <;> omega
   ·have hc64 : c = 64 := by simpa using v64
    rw [v64] at q64
    have hcut : cutAt 64 l = some (l.take j, l.drop (j + 1)) := cutAt_first (by rw [hc, hc64]) hinv
    have hsb : splitBox l = if localB (l.take j) && domainB (l.drop (j + 1)) && decide (n ≤ 64) then some (l.take j, Lib.toLowerA (l.drop (j + 1))) else none := by
     unfold splitBox
     rw [hcut, Hn.out]
    have h1 := fun W => Hloc.out j W hj
    have h2 := fun W => Hdom.out (j + 1) W
    have h3 := fun W => Hsm.out (j + 1) W
    have hs1 := Hhi.out j hj
    have hs2 : ∀ W, (Instr.slice 9 (.string s) (some (.int .i64 ((j : Int) + 1))) none none).run Tryz.prog W = .ok (.string (strL (l.drop (j + 1)))) W := Hlo.out (j + 1) (by omega)
    generalize strL (l.drop (j + 1)) = sd at h2 h3 hs2
    have Hta := Lib.hid (rfl : strL (l.take j) = strL (l.take j))
    generalize hst : strL (l.take j) = st at h1 hs1
    generalize localB (l.take j) = p at h1 hsb
    generalize domainB (l.drop (j + 1)) = q at h2 hsb
    have H1 := Lib.hid h1
    have H2 := Lib.hid h2
    have H3 := Lib.hid h3
    have Hst := Lib.hid hst
    have Hsb := Lib.hid hsb
    have hwr : IntKind.i64.wrap ((j : Int) + 1) = (j : Int) + 1 := IntWalk.i64_in _ (by omega)
    clear h1 h2 h3 hst hsb hcut v64 hc64 hc hinv Hta
    by_cases h64 : (64 : Int) < (n : Int)
    ·have Hr := Lib.hid (show splitBox l = none by rw [Hsb.out, decide_eq_false (by omega)]; simp)
     go_wp2
     go_ret3
     exact ⟨by rw [Hr.out]; rfl, Below.refl _ _⟩
    ·have h64' : decide (n ≤ 64) = true := decide_eq_true (by omega)
     have H64 := Lib.hid h64'
     clear h64'
     cases p
     ·have Hr := Lib.hid (show splitBox l = none by rw [Hsb.out]; simp)
      go_wp2_with fail
      refine (H1.out _).mono ?_; rintro e w2 ⟨rfl, rfl⟩
      go_wp2
      go_ret3
      exact ⟨by rw [Hr.out]; rfl, Below.refl _ _⟩
     ·cases q
      ·have Hr := Lib.hid (show splitBox l = none by rw [Hsb.out]; simp)
       go_wp2_with fail
       refine (H1.out _).mono ?_; rintro e w2 ⟨rfl, rfl⟩
       go_wp2_with fail
       refine (H2.out _).mono ?_; rintro e w3 ⟨rfl, hb3⟩
       go_wp2
       go_ret3
       exact ⟨by rw [Hr.out]; rfl, hb3⟩
      ·have Hr := Lib.hid (show splitBox l = some (l.take j, Lib.toLowerA (l.drop (j + 1))) by rw [Hsb.out, H64.out]; rfl)
       go_wp2_with fail
       refine (H1.out _).mono ?_; rintro e w2 ⟨rfl, rfl⟩
       go_wp2_with fail
       refine (H2.out _).mono ?_; rintro e w3 ⟨rfl, hb3⟩
       go_wp2
       have hS : Hid (Below w2.heap.size w2 w3.drew) := hb3.drew
       go_region_held3 (fun w' => Hid (Below w2.heap.size w2 w'))
        (first | with_reducible exact hS | with_reducible assumption | exact (fun (hb : Below _ _ _) (h : Hid (Below w2.heap.size w2 _)) => (h.out.trans (hb.mono h.out.size) : Below w2.heap.size w2 _)) (by assumption) (by assumption))
        (first
         | (go_at_call 203; refine (H3.out _).mono ?_; rintro e w4 ⟨rfl, hb4⟩))
       have hfin := (by assumption : Hid (Below w2.heap.size w2 w4))
       go_wp2
       go_ret3
       exact ⟨by rw [Hr.out]; simp only [splitVal]; rw [Hst.out]; rfl, hfin.out⟩
  ·have hje : j = n := by omega
   subst hje
   have hcut : cutAt 64 l = none := cutAt_none fun k h => by
    have := (List.getElem?_eq_some_iff.1 h).1
    rw [Hn.out] at this
    exact hinv k this h
   have hsb : splitBox l = none := by unfold splitBox; rw [hcut]
   have Hr := Lib.hid hsb
   clear hcut hsb hinv
   go_wp2
   go_ret3
   exact ⟨by rw [Hr.out]; rfl, Below.refl _ _⟩
set_option maxRecDepth 100000 in
set_option maxHeartbeats 4000000 in
theorem refParse_calls (s : ByteArray) (w : World) (hs : s.size ≤ 4294967270) :
 Calls Tryz.prog 125 #[.string s] w fun e w' => e = .returned (parseVal (parseBox s.data.toList)) ∧ Below w.heap.size w w' := by
 have h1 := refSplit_calls s.data.toList w (by rw [← size_len]; exact hs)
 rw [strL_of] at h1
 unfold parseBox
 cases hp : splitBox s.data.toList with
 | none =>
  rw [hp] at h1
  simp only [splitVal] at h1
  have H1 := Lib.hid h1
  clear h1 hp
  go_enter Tryz.func125, Tryz.ntmps125
  go_wp2_with fail
  refine (H1.out).mono ?_; rintro e w1 ⟨rfl, hb1⟩
  go_wp2
  go_ret2
  exact ⟨rfl, hb1⟩
 | some p =>
  obtain ⟨ln1, ln2⟩ := splitBox_len hp
  obtain ⟨n, d⟩ := p
  rw [hp] at h1
  simp only [splitVal] at h1 ln1 ln2
  have e1 : ((strL n).size : Int) ≤ 8388608 := by rw [strL_size]; omega
  have e2 : ((strL d).size : Int) ≤ 8388608 := by rw [strL_size]; omega
  have e3 : ((strL n ++ ⟨#[64]⟩).size : Int) ≤ 8388608 := by
   rw [show (⟨#[64]⟩ : ByteArray) = strL [64] from rfl, strL_append, strL_size]; simp; omega
  have hsum : strL n ++ ⟨#[64]⟩ ++ strL d = strL (n ++ 64 :: d) := by
   rw [show (⟨#[64]⟩ : ByteArray) = strL [64] from rfl, strL_append, strL_append]; simp
  have Hsum := Lib.hid hsum
  have H1 := Lib.hid h1
  generalize hsn : strL n = sn at H1 e1 e3 Hsum
  generalize hsd : strL d = sd at H1 e2 Hsum
  clear h1 hp hsum hsn hsd ln1 ln2
  go_enter Tryz.func125, Tryz.ntmps125
  go_wp2_with fail
  refine (H1.out).mono ?_; rintro e w1 ⟨rfl, hb1⟩
  go_wp2
  go_ret2
  refine ⟨?_, hb1⟩
  show _ = Ending.returned (.tuple #[.string (strL (n ++ 64 :: d)), .bool true])
  rw [← Hsum.out]; rfl
set_option maxRecDepth 100000 in
set_option maxHeartbeats 4000000 in
theorem refBox_calls (s : ByteArray) (w : World) (hs : s.size ≤ 4294967270) :
 Calls Tryz.prog 82 #[.string s] w fun e w' => e = .returned (.bool (boxB s.data.toList)) ∧ Below w.heap.size w w' := by
 have h1 := refParse_calls s w hs
 unfold boxB
 cases hp : parseBox s.data.toList with
 | none =>
  rw [hp] at h1
  simp only [parseVal] at h1
  have H1 := Lib.hid h1
  clear h1 hp
  go_enter Tryz.func82, Tryz.ntmps82
  go_wp2_with fail
  refine (H1.out).mono ?_; rintro e w1 ⟨rfl, hb1⟩
  go_wp2
  go_ret
  exact ⟨rfl, hb1⟩
 | some t =>
  rw [hp] at h1
  simp only [parseVal] at h1
  have H1 := Lib.hid h1
  have hd : (some t == some s.data.toList) = (s.toList == (strL t).toList) := by
   by_cases h : t = s.data.toList
   ·have h2 : strL t = s := by rw [h]; exact strL_of s
    rw [h2, h]; simp
   ·have h2 : strL t ≠ s := fun e => h (by rw [← e, strL_data])
    rw [(Lib.bytes_beq_false_iff _ _).2 (Ne.symm h2)]
    simp [h]
  have Hd := Lib.hid hd
  clear h1 hp hd
  generalize strL t = st at H1 Hd
  go_enter Tryz.func82, Tryz.ntmps82
  go_wp2_with fail
  refine (H1.out).mono ?_; rintro e w1 ⟨rfl, hb1⟩
  go_wp2
  go_ret
  exact ⟨by rw [Hd.out]; rfl, hb1⟩
set_option maxHeartbeats 1000000 in
theorem envWithin_calls (n a b : Int) (w : World) :
 Calls Tryz.prog 160 #[.int .i64 n, .int .i64 a, .int .i64 b] w fun e w' => e = .returned (.bool (decide (a ≤ n ∧ n ≤ b))) ∧ w' = w := by
 by_cases h1 : a ≤ n
 ·by_cases h2 : n ≤ b
  ·rw [decide_eq_true ⟨h1, h2⟩]
   go_enter Tryz.func160, Tryz.ntmps160
   go_wp2
   go_ret
   exact ⟨by first | rfl | simp [h1, h2], rfl⟩
  ·rw [decide_eq_false (fun h => h2 h.2)]
   go_enter Tryz.func160, Tryz.ntmps160
   go_wp2
   go_ret
   exact ⟨by first | rfl | simp [h1, h2], rfl⟩
 ·rw [decide_eq_false (fun h => h1 h.1)]
  go_enter Tryz.func160, Tryz.ntmps160
  go_wp2
  go_ret
  exact ⟨by first | rfl | simp [h1], rfl⟩
def bodyB (bs : List UInt8) : Bool := !bs.contains 13 && (decide (bs.length = 0) || bs.getLast? == some 10)
set_option maxRecDepth 100000 in
set_option maxHeartbeats 4000000 in
theorem refBody_calls (v : Value) (bs : List UInt8) (w : World) (hv : RdB w v bs) :
 Calls Tryz.prog 81 #[v] w fun e w' => e = .returned (.bool (bodyB bs)) ∧ w' = w := by
 obtain ⟨a, cap, rfl, hlc, hcap⟩ := hv.form
 have hcell : ∀ (j : Nat) x, bs[j]? = some x → ∃ b off, a = some ⟨b, off, none⟩ ∧ w.cell? ⟨b, off + j, none⟩ = some (.int .u8 x.toNat) := by
  intro j x hx
  rcases hv with ⟨_, _, _, _, h⟩ | ⟨b, off, cap', h1, h2, h3, h4, h5, h6⟩
  ·subst h; cases hx
  ·cases h1; exact ⟨b, off, rfl, h6 j x hx⟩
 obtain ⟨n, hn⟩ : ∃ n, bs.length = n := ⟨_, rfl⟩
 rw [hn] at hlc ⊢
 have Hn := Lib.hid hn
 have Hcell := Lib.hid hcell
 have hni : (n : Int) ≤ 9223372036854775807 := by omega
 clear hn hcell hv
 go_enter Tryz.func81, Tryz.ntmps81
 go_wp2
 go_loop [3] (fun i => ∃ j : Nat, j ≤ n ∧ i = .int .i64 j ∧ (∀ k : Nat, k < j → bs[k]? ≠ some 13)) (fun i => n - (intOf i).toNat)
 case atStart => exact ⟨0, Nat.zero_le _, rfl, fun k hk => absurd hk (Nat.not_lt_zero _)⟩
 case round =>
  obtain ⟨j, hj, rfl, hinv⟩ := hrel
  by_cases hlt : j < n
  ·obtain ⟨c, hc⟩ : ∃ c, bs[j]? = some c := ⟨_, List.getElem?_eq_getElem (by rw [Hn.out]; exact hlt)⟩
   obtain ⟨b, off, rfl, hcl⟩ := Hcell.out j c hc
   have q13 : ((c.toNat : Int) == 13) = (c == 13) := eqB c 13
   have hj0 : (0 : Int) ≤ (j : Int) := by omega
   have hj1 : (j : Int) < (n : Int) := by omega
   cases v13 : (c == 13)
   ·rw [v13] at q13
    have hnx : ∀ k : Nat, k < j + 1 → bs[k]? ≠ some 13 := by
     intro k hk h
     rcases (by omega : k < j ∨ k = j) with h1 | rfl
     ·exact hinv k h1 h
     ·rw [hc] at h; cases h; revert v13; decide
    have Hnx := Lib.hid hnx
    clear hnx v13 hc hinv
    go_wp2
    go_round
    case rel => exact ⟨j + 1, by omega, by go_num, Hnx.out⟩
    case measure => simp [intOf] <;> omega
   ·have hres : bodyB bs = false := by
     have : c = 13 := by simpa using v13
     unfold bodyB
     have hm : bs.contains 13 = true := by rw [List.contains_iff_mem]; rw [← this]; exact List.mem_of_getElem? hc
     rw [hm]; rfl
    have Hr := Lib.hid hres
    rw [v13] at q13
    clear hres v13 hc hinv
    go_wp2
    go_ret
    exact ⟨by rw [Hr.out]; rfl, rfl⟩
  ·have hje : j = n := by omega
   subst hje
   have hno : bs.contains 13 = false := by
    cases h : bs.contains 13 with
    | false => rfl
    | true =>
     rw [List.contains_iff_mem] at h
     obtain ⟨i, hi⟩ := List.getElem?_of_mem h
     exact absurd hi (hinv i (by have := (List.getElem?_eq_some_iff.1 hi).1; rw [Hn.out] at this; exact this))
   by_cases h0 : j = 0
   ·have hres : bodyB bs = true := by unfold bodyB; rw [hno, Hn.out, decide_eq_true h0]; rfl
    have Hr := Lib.hid hres
    have hz : ((j : Int) == 0) = true := by simpa using h0
    clear hres hno hinv h0
    go_wp2
    go_ret
    exact ⟨by rw [Hr.out]; rfl, rfl⟩
   ·obtain ⟨c, hc⟩ : ∃ c, bs[j - 1]? = some c := ⟨_, List.getElem?_eq_getElem (by rw [Hn.out]; omega)⟩
    obtain ⟨b, off, rfl, hcl⟩ := Hcell.out (j - 1) c hc
    have hres : bodyB bs = (c == 10) := by
     unfold bodyB
     rw [hno, List.getLast?_eq_getElem?, Hn.out, hc, decide_eq_false h0]; rfl
    have Hr := Lib.hid hres
    have q10 : ((c.toNat : Int) == 10) = (c == 10) := eqB c 10
    have hz : ((j : Int) == 0) = false := by simpa using h0
    have hj2 : (1 : Int) ≤ (j : Int) := by omega
    have hj3 : (0 : Int) ≤ (j : Int) - 1 := by omega
    have hj4 : (j : Int) - 1 < (j : Int) := by omega
    have hto : ((j : Int) - 1).toNat = j - 1 := by omega
    clear hres hno hinv hc h0
    generalize (c == 10) = r at q10 Hr
    go_wp2
    go_ret
    exact ⟨by rw [Hr.out]; rfl, rfl⟩
end Go.Proofs.YtffnbkmigapmjaaGreatDoor
