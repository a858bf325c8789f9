/-
  The walk of pillarboxref05.Domain.
  The walk of pillarboxref05.Local.
  The walk of pillarboxref05.Small.
-/
import Derived.Test.YtffnbkmigapmjaaGreatDoorT7
import Derived.Laws.IdiomStrings
import Derived.Laws.BytesArg
set_option linter.unusedSimpArgs false
set_option linter.unusedVariables false
namespace Go.Proofs.YtffnbkmigapmjaaGreatDoor
open Go.RowKit
theorem s1_flat (ls : List (List UInt8)) : ls.flatMap s1 = ls.map fun l => Value.string (strL l) := by
 induction ls with
 | nil => rfl
 | cons x xs ih => rw [List.flatMap_cons, ih]; rfl
theorem eq45 (c k : UInt8) : ((c.toNat : Int) == (k.toNat : Int)) = (c == k) := by
 by_cases h : c = k
 ·subst h; simp
 ·have h1 : ¬ ((c.toNat : Int) = (k.toNat : Int)) := fun e => h (UInt8.toNat.inj (by omega))
  rw [show (c == k) = false by simpa using h]
  simpa using h1
def okB (k c : UInt8) : Bool := plainB c || c == k
theorem only_one (k : UInt8) (l : List UInt8) : onlyB [k] l = l.all (okB k) := by
 unfold onlyB okB
 congr 1
 funext c
 simp
 by_cases h : c = k <;> simp [h]
set_option maxRecDepth 100000 in
set_option maxHeartbeats 8000000 in
theorem refDomain_calls (s : ByteArray) (w : World) (hs : s.size ≤ 4294967280) :
 Calls Tryz.prog 202 #[.string s] w fun e w' => e = .returned (.bool (domainB s.data.toList)) ∧ Below w.heap.size w w' := by
 have hcut := refCut_calls s 46 w (by omega)
 have hlen := size_len s
 have hpos := pieces_pos 46 s.data.toList
 have hple := pieces_le 46 s.data.toList
 have hcnt := count_pieces 46 (s.data.toList.length + 1) s.data.toList (by omega)
 have hcle := Lib.countB_le ⟨#[46]⟩ (by decide) s.size s (Nat.le_refl _)
 have hres : domainB s.data.toList = ((piecesAt 46 s.data.toList).all labelB && decide (s.size ≤ 64)) := by rw [hlen]; rfl
 have hPl : (piecesAt 46 s.data.toList).length ≤ 4294967281 := by
  have : Lib.countB s ⟨#[46]⟩ = Lib.countFrom [46] (s.data.toList.length + 1) s.data.toList := rfl
  omega
 rw [hres]
 generalize piecesAt 46 s.data.toList = ls at hcut hpos hple hPl
 have Hcut := Lib.hid hcut
 have Hple := Lib.hid hple
 have Hlen := Lib.hid hlen
 clear hcut hple hlen hcnt hcle hres
 have hPi : (ls.length : Int) ≤ 4294967281 := by omega
 go_enter Tryz.func202, Tryz.ntmps202
 go_wp2_with fail
 refine (Hcut.out).mono ?_; rintro e w1 ⟨v, rfl, hown, hb1⟩
 obtain ⟨g, cap, rfl, _, _, _, _⟩ := own_form hown hpos
 have hcell : ∀ (j : Nat) x, ls[j]? = some x → w1.cell? ⟨g, j, none⟩ = some (.string (strL x)) := by
  intro j x hx
  rw [hown.cellAt j (by have := (List.getElem?_eq_some_iff.1 hx).1; omega), s1_flat, List.getElem?_map, hx]; rfl
 have Hcell := Lib.hid hcell
 clear hcell hown
 go_wp2
 go_loop [4] (fun i => ∃ j : Nat, j ≤ ls.length ∧ i = .int .i64 j ∧ (ls.take j).all labelB = true) (fun i => ls.length - (intOf i).toNat)
 case atStart => exact ⟨0, Nat.zero_le _, rfl, rfl⟩
 case round =>
  obtain ⟨j, hj, rfl, hall⟩ := hrel
  by_cases hlt : j < ls.length
  ·obtain ⟨x, hx⟩ : ∃ x, ls[j]? = some x := ⟨_, List.getElem?_eq_getElem hlt⟩
   have hc := Hcell.out j x hx
   have hxl := Hple.out x (List.mem_of_getElem? hx)
   have hsx := strL_size x
   have htk : labelB x = true → (ls.take (j + 1)).all labelB = true := fun h => by rw [take_snoc hx, List.all_append, hall]; simpa using h
   have hno : labelB x = false → (ls.all labelB && decide (s.size ≤ 64)) = false := by
    intro h
    have : ls.all labelB = false := by rw [List.all_eq_false]; exact ⟨x, List.mem_of_getElem? hx, by rw [h]; simp⟩
    rw [this]; rfl
   have Htk := Lib.hid htk
   have Hno := Lib.hid hno
   have hidx : ∀ (k : Nat) (c : UInt8), x[k]? = some c → ∀ W, (Instr.index 9 (.string (strL x)) (.int .i64 (k : Int))).run Tryz.prog W = .ok (.int .u8 c.toNat) W := fun k c h => run_index_at (by rw [strL_data]; exact h)
   have Hidx := Lib.hid hidx
   have hj0 : (0 : Int) ≤ (j : Int) := by omega
   have hj1 : (j : Int) < (ls.length : Int) := by omega
   have hxs : x.length ≤ 4294967280 := by have := Hlen.out; omega
   clear hidx htk hno hall hx hxl
   generalize hsd : strL x = sx at hc hsx Hidx
   clear hsd
   by_cases h0 : x.length = 0
   ·have hlab : labelB x = false := by unfold labelB; rw [decide_eq_false (by omega)]; rfl
    have Hr := Lib.hid (Hno.out hlab)
    rw [h0] at hsx
    clear hlab h0
    go_wp2
    go_ret
    exact ⟨by rw [Hr.out]; rfl, hb1⟩
   ·obtain ⟨n, hm⟩ : ∃ n, x.length = n := ⟨_, rfl⟩
    rw [hm] at hsx hxs h0
    have hmi : (n : Int) ≤ 4294967280 := by omega
    have hn1 : (1 : Int) ≤ (n : Int) := by omega
    clear hxs
    by_cases h32 : (32 : Int) < (n : Int)
    ·have hlab : labelB x = false := by unfold labelB; rw [decide_eq_false (by omega)]; rfl
     have Hr := Lib.hid (Hno.out hlab)
     clear hlab h0 hm
     go_wp2
     go_ret
     exact ⟨by rw [Hr.out]; rfl, hb1⟩
    ·obtain ⟨c0, hc0⟩ : ∃ c, x[0]? = some c := ⟨_, List.getElem?_eq_getElem (by omega)⟩
     obtain ⟨c1, hc1⟩ : ∃ c, x[n - 1]? = some c := ⟨_, List.getElem?_eq_getElem (by omega)⟩
     have hi0 : ∀ W, (Instr.index 9 (.string sx) (.int .i64 0)).run Tryz.prog W = .ok (.int .u8 c0.toNat) W := Hidx.out 0 c0 hc0
     have hi1 : ∀ W, (Instr.index 9 (.string sx) (.int .i64 ((n : Int) - 1))).run Tryz.prog W = .ok (.int .u8 c1.toNat) W := by
      have h := Hidx.out (n - 1) c1 hc1
      rw [show ((n - 1 : Nat) : Int) = (n : Int) - 1 by omega] at h
      exact h
     have hq0 : ((c0.toNat : Int) == 45) = (c0 == 45) := eq45 c0 45
     have hq1 : ((c1.toNat : Int) == 45) = (c1 == 45) := eq45 c1 45
     have hends : endsB 45 x = (c0 == 45 || c1 == 45) := by
      unfold endsB
      rw [List.head?_eq_getElem?, hc0, List.getLast?_eq_getElem?, hm, hc1]; rfl
     have hlab : labelB x = (x.all (okB 45) && !(c0 == 45 || c1 == 45)) := by
      unfold labelB
      rw [decide_eq_true (by omega), only_one, hends]; simp
     have hlab2 : labelB x = (x.all (okB 45) && !(c0 == 45 || c1 == 45)) := hlab
     have Hlab := Lib.hid hlab2
     clear hlab hlab2 hends hc0 hc1 h0
     cases hv0 : (c0 == 45)
     ·cases hv1 : (c1 == 45)
      ·rw [hv0] at hq0
       rw [hv1] at hq1
       have hlx : labelB x = x.all (okB 45) := by rw [Hlab.out, hv0, hv1]; simp
       have Hlx := Lib.hid hlx
       have Hm := Lib.hid hm
       clear hlx hv0 hv1 hm Hlab
       go_wp2
       go_loop [6] (fun i => ∃ k : Nat, k ≤ n ∧ i = .int .i64 k ∧ (x.take k).all (okB 45) = true) (fun i => n - (intOf i).toNat)
       case atStart => exact ⟨0, Nat.zero_le _, rfl, rfl⟩
       case round =>
        obtain ⟨k, hk, rfl, hka⟩ := hrel
        by_cases hkl : k < n
        ·obtain ⟨c, hcx⟩ : ∃ c, x[k]? = some c := ⟨_, List.getElem?_eq_getElem (by rw [Hm.out]; exact hkl)⟩
         have hik := Hidx.out k c hcx
         have hpl := fun W => refPlain_calls c W
         have hqc : ((c.toNat : Int) == 45) = (c == 45) := eq45 c 45
         have hstep : okB 45 c = true → (x.take (k + 1)).all (okB 45) = true := fun h => by rw [take_snoc hcx, List.all_append, hka]; simpa using h
         have hbad : okB 45 c = false → x.all (okB 45) = false := fun h => by rw [List.all_eq_false]; exact ⟨c, List.mem_of_getElem? hcx, by rw [h]; simp⟩
         unfold okB at hstep hbad
         have Hstep := Lib.hid hstep
         have Hbad := Lib.hid hbad
         have hki : (k : Int) < (n : Int) := by omega
         clear hstep hbad hcx hka
         generalize plainB c = p at hpl Hstep Hbad
         have Hpl := Lib.hid hpl
         clear hpl
         cases p
         ·cases hvc : (c == 45)
          ·rw [hvc] at hqc
           have hres : x.all (okB 45) = false := Hbad.out (by rw [hvc]; rfl)
           have Hr := Lib.hid (Hno.out (by rw [Hlx.out]; exact hres))
           clear hres hvc
           go_wp2_with fail
           refine (Hpl.out _).mono ?_; rintro e w2 ⟨rfl, rfl⟩
           go_wp2
           go_ret
           exact ⟨by rw [Hr.out]; rfl, hb1⟩
          ·rw [hvc] at hqc
           have Hn := Lib.hid (Hstep.out (by rw [hvc]; rfl))
           clear hvc
           go_wp2_with fail
           refine (Hpl.out _).mono ?_; rintro e w2 ⟨rfl, rfl⟩
           go_wp2
           go_round
           case rel => exact ⟨k + 1, by omega, by go_num, Hn.out⟩
           case measure => simp [intOf] <;> omega
         ·have Hn := Lib.hid (Hstep.out (by rfl))
          go_wp2_with fail
          refine (Hpl.out _).mono ?_; rintro e w2 ⟨rfl, rfl⟩
          go_wp2
          go_round
          case rel => exact ⟨k + 1, by omega, by go_num, Hn.out⟩
          case measure => simp [intOf] <;> omega
        ·have hke : k = n := by omega
         subst hke
         rw [List.take_of_length_le (by rw [Hm.out]; exact Nat.le_refl _)] at hka
         have Hn := Lib.hid (Htk.out (by rw [Hlx.out]; exact hka))
         clear hka
         go_wp2
         go_round
         case rel => exact ⟨j + 1, by omega, by go_num, Hn.out⟩
         case measure => simp [intOf] <;> omega
      ·rw [hv0] at hq0
       rw [hv1] at hq1
       have Hr := Lib.hid (Hno.out (by rw [Hlab.out, hv0, hv1]; simp))
       clear hv0 hv1 hm
       go_wp2
       go_ret
       exact ⟨by rw [Hr.out]; rfl, hb1⟩
     ·rw [hv0] at hq0
      have Hr := Lib.hid (Hno.out (by rw [Hlab.out, hv0]; simp))
      clear hv0 hm hq1
      go_wp2
      go_ret
      exact ⟨by rw [Hr.out]; rfl, hb1⟩
  ·have hje : j = ls.length := by omega
   subst hje
   rw [List.take_of_length_le (Nat.le_refl _)] at hall
   have Hall := Lib.hid hall
   clear hall
   by_cases h64 : (s.size : Int) ≤ 64
   ·go_wp2
    go_ret
    exact ⟨by rw [Hall.out, decide_eq_true (by omega)]; rfl, hb1⟩
   ·go_wp2
    go_ret
    exact ⟨by rw [Hall.out, decide_eq_false (by omega)]; rfl, hb1⟩
end Go.Proofs.YtffnbkmigapmjaaGreatDoor
namespace Go.Proofs.YtffnbkmigapmjaaGreatDoor
open Go.RowKit
def dotBad (l : List UInt8) (i : Nat) : Prop := l[i]? = some 46 ∧ (i = 0 ∨ i + 1 = l.length ∨ l[i - 1]? = some 46)
theorem twoB_iff (x : UInt8) (l : List UInt8) : twoB x l = true ↔ ∃ i : Nat, l[i]? = some x ∧ l[i + 1]? = some x := by
 induction l with
 | nil => simp [twoB]
 | cons a r ih =>
  cases r with
  | nil => simp [twoB]
  | cons b r =>
   rw [twoB, Bool.or_eq_true, ih]
   constructor
   ·rintro (h | ⟨i, h1, h2⟩)
    ·rw [Bool.and_eq_true] at h
     exact ⟨0, by simpa using h.1, by simpa using h.2⟩
    ·exact ⟨i + 1, by simpa using h1, by simpa using h2⟩
   ·rintro ⟨i, h1, h2⟩
    cases i with
    | zero => left; rw [Bool.and_eq_true]; exact ⟨by simpa using h1, by simpa using h2⟩
    | succ i => right; exact ⟨i, by simpa using h1, by simpa using h2⟩
theorem ends_iff (x : UInt8) (l : List UInt8) : endsB x l = true ↔ l[0]? = some x ∨ (0 < l.length ∧ l[l.length - 1]? = some x) := by
 unfold endsB
 rw [Bool.or_eq_true, List.head?_eq_getElem?, List.getLast?_eq_getElem?, beq_iff_eq, beq_iff_eq]
 constructor
 ·rintro (h | h)
  ·exact .inl h
  ·refine .inr ⟨?_, h⟩
   have := (List.getElem?_eq_some_iff.1 h).1
   omega
 ·rintro (h | ⟨_, h⟩)
  ·exact .inl h
  ·exact .inr h
def okL (c : UInt8) : Bool := plainB c || ([46, 95, 43, 45] : List UInt8).contains c
theorem local_bad {l : List UInt8} {i : Nat} (h : dotBad l i) : localB l = false := by
 have : endsB 46 l = true ∨ twoB 46 l = true := by
  obtain ⟨h1, h2 | h2 | h2⟩ := h
  ·subst h2; exact .inl ((ends_iff _ _).2 (.inl h1))
  ·refine .inl ((ends_iff _ _).2 (.inr ⟨by omega, ?_⟩))
   rw [show l.length - 1 = i by omega]; exact h1
  ·by_cases h0 : i = 0
   ·subst h0; exact .inl ((ends_iff _ _).2 (.inl h1))
   ·exact .inr ((twoB_iff _ _).2 ⟨i - 1, h2, by rw [show i - 1 + 1 = i by omega]; exact h1⟩)
 unfold localB
 rcases this with h | h <;> simp [h]
theorem local_char {l : List UInt8} {i : Nat} {c : UInt8} (hc : l[i]? = some c) (h : okL c = false) : localB l = false := by
 have : onlyB [46, 95, 43, 45] l = false := onlyB_false hc h
 unfold localB; simp [this]
theorem local_good {l : List UInt8} (h : ∀ (i : Nat) c, l[i]? = some c → okL c = true ∧ ¬ dotBad l i) : localB l = decide (1 ≤ l.length ∧ l.length ≤ 32) := by
 have h1 : onlyB [46, 95, 43, 45] l = true := by
  unfold onlyB; rw [List.all_eq_true]
  intro c hc
  obtain ⟨i, hi⟩ := List.getElem?_of_mem hc
  exact (h i c hi).1
 have h2 : endsB 46 l = false := by
  cases he : endsB 46 l with
  | false => rfl
  | true =>
   rcases (ends_iff _ _).1 he with h3 | ⟨h4, h3⟩
   ·exact absurd ⟨h3, .inl rfl⟩ (h 0 46 h3).2
   ·exact absurd ⟨h3, .inr (.inl (by omega))⟩ (h _ 46 h3).2
 have h3 : twoB 46 l = false := by
  cases he : twoB 46 l with
  | false => rfl
  | true =>
   obtain ⟨i, h4, h5⟩ := (twoB_iff _ _).1 he
   exact absurd ⟨h5, .inr (.inr (by simpa using h4))⟩ (h (i + 1) 46 h5).2
 unfold localB
 rw [h1, h2, h3]; simp
theorem eqB (c k : UInt8) : ((c.toNat : Int) == (k.toNat : Int)) = (c == k) := eq45 c k
set_option maxRecDepth 100000 in
set_option maxHeartbeats 8000000 in
theorem refLocal_calls (s : ByteArray) (w : World) (hs : s.size ≤ 4294967280) :
 Calls Tryz.prog 201 #[.string s] w fun e w' => e = .returned (.bool (localB s.data.toList)) ∧ w' = w := by
 have hlen := size_len s
 have hidx := fun (j : Nat) (x : UInt8) (h : s.data.toList[j]? = some x) => run_index_at h
 obtain ⟨l, hl⟩ : ∃ l, s.data.toList = l := ⟨_, rfl⟩
 rw [hl] at hidx hlen ⊢
 obtain ⟨n, hn⟩ : ∃ n, l.length = n := ⟨_, rfl⟩
 rw [hn] at hlen
 rw [hlen] at hs
 have Hidx := Lib.hid hidx
 have Hn := Lib.hid hn
 have hni : (n : Int) ≤ 4294967280 := by omega
 clear hidx hl hn hs
 go_enter Tryz.func201, Tryz.ntmps201
 go_wp2
 go_loop [3] (fun i => ∃ j : Nat, j ≤ n ∧ i = .int .i64 j ∧ (∀ (k : Nat) c, k < j → l[k]? = some c → okL c = true ∧ ¬ dotBad l k)) (fun i => n - (intOf i).toNat)
 case atStart => exact ⟨0, Nat.zero_le _, rfl, fun k c hk => absurd hk (Nat.not_lt_zero _)⟩
 case round =>
  obtain ⟨j, hj, rfl, hinv⟩ := hrel
  by_cases hlt : j < n
  ·obtain ⟨c, hc⟩ : ∃ c, l[j]? = some c := ⟨_, List.getElem?_eq_getElem (by rw [Hn.out]; exact hlt)⟩
   have hix := Hidx.out j c hc
   have hnext : okL c = true → ¬ dotBad l j → ∀ (k : Nat) c, k < j + 1 → l[k]? = some c → okL c = true ∧ ¬ dotBad l k := by
    intro h1 h2 k c' hk hc'
    rcases (by omega : k < j ∨ k = j) with h | rfl
    ·exact hinv k c' h hc'
    ·rw [hc] at hc'; cases hc'; exact ⟨h1, h2⟩
   have Hnext := Lib.hid hnext
   have hbad : dotBad l j → localB l = false := local_bad
   have hchr : okL c = false → localB l = false := local_char hc
   have Hbad := Lib.hid hbad
   have Hchr := Lib.hid hchr
   have Hc := Lib.hid hc
   have hj0 : (0 : Int) ≤ (j : Int) := by omega
   have hj1 : (j : Int) < (n : Int) := by omega
   have q46 : ((c.toNat : Int) == 46) = (c == 46) := eqB c 46
   have q95 : ((c.toNat : Int) == 95) = (c == 95) := eqB c 95
   have q43 : ((c.toNat : Int) == 43) = (c == 43) := eqB c 43
   have q45 : ((c.toNat : Int) == 45) = (c == 45) := eqB c 45
   have hpl := fun W => refPlain_calls c W
   have hok : okL c = (plainB c || (c == 46 || (c == 95 || (c == 43 || c == 45)))) := by
    unfold okL
    rw [List.contains_cons, List.contains_cons, List.contains_cons, List.contains_cons, List.contains_nil, Bool.or_false]
   have Hok := Lib.hid hok
   clear hnext hbad hchr hc hinv hok
   generalize plainB c = p at hpl Hok
   have Hpl := Lib.hid hpl
   clear hpl
   cases v46 : (c == 46)
   ·have hnd : ¬ dotBad l j := fun h => by
     have := h.1; rw [Hc.out] at this; cases this; revert v46; decide
    rw [v46] at q46
    have rq46 : ((c.toNat : Int) != 46) = true := by rw [bne, q46]; rfl
    have Hnd := Lib.hid hnd
    clear hnd
    cases p
    ·cases v95 : (c == 95)
     ·rw [v95] at q95
      have rq95 : ((c.toNat : Int) != 95) = true := by rw [bne, q95]; rfl
      cases v43 : (c == 43)
      ·rw [v43] at q43
       have rq43 : ((c.toNat : Int) != 43) = true := by rw [bne, q43]; rfl
       cases v45 : (c == 45)
       ·rw [v45] at q45
        have rq45 : ((c.toNat : Int) != 45) = true := by rw [bne, q45]; rfl
        have Hr := Lib.hid (Hchr.out (by rw [Hok.out, v46, v95, v43, v45]; rfl))
        clear v46 v95 v43 v45
        go_wp2_with fail
        refine (Hpl.out _).mono ?_; rintro e w2 ⟨rfl, rfl⟩
        go_wp2
        go_ret
        exact ⟨by rw [Hr.out]; rfl, rfl⟩
       ·rw [v45] at q45
        have rq45 : ((c.toNat : Int) != 45) = false := by rw [bne, q45]; rfl
        have Hr := Lib.hid (Hnext.out (by rw [Hok.out, v45]; simp) Hnd.out)
        clear v46 v95 v43 v45
        go_wp2_with fail
        refine (Hpl.out _).mono ?_; rintro e w2 ⟨rfl, rfl⟩
        go_wp2
        go_round
        case rel => exact ⟨j + 1, by omega, by go_num, Hr.out⟩
        case measure => simp [intOf] <;> omega
      ·rw [v43] at q43
       have rq43 : ((c.toNat : Int) != 43) = false := by rw [bne, q43]; rfl
       have Hr := Lib.hid (Hnext.out (by rw [Hok.out, v43]; simp) Hnd.out)
       clear v46 v95 v43 q45
       go_wp2_with fail
       refine (Hpl.out _).mono ?_; rintro e w2 ⟨rfl, rfl⟩
       go_wp2
       go_round
       case rel => exact ⟨j + 1, by omega, by go_num, Hr.out⟩
       case measure => simp [intOf] <;> omega
     ·rw [v95] at q95
      have rq95 : ((c.toNat : Int) != 95) = false := by rw [bne, q95]; rfl
      have Hr := Lib.hid (Hnext.out (by rw [Hok.out, v95]; simp) Hnd.out)
      clear v46 v95 q43 q45
      go_wp2_with fail
      refine (Hpl.out _).mono ?_; rintro e w2 ⟨rfl, rfl⟩
      go_wp2
      go_round
      case rel => exact ⟨j + 1, by omega, by go_num, Hr.out⟩
      case measure => simp [intOf] <;> omega
    ·have Hr := Lib.hid (Hnext.out (by rw [Hok.out]; rfl) Hnd.out)
     clear v46 q95 q43 q45
     go_wp2_with fail
     refine (Hpl.out _).mono ?_; rintro e w2 ⟨rfl, rfl⟩
     go_wp2
     go_round
     case rel => exact ⟨j + 1, by omega, by go_num, Hr.out⟩
     case measure => simp [intOf] <;> omega
   ·have hc46 : c = 46 := by simpa using v46
    rw [v46] at q46
    have rq46 : ((c.toNat : Int) != 46) = false := by rw [bne, q46]; rfl
    have hcl : l[j]? = some 46 := by rw [← hc46]; exact Hc.out
    have Hcl := Lib.hid hcl
    have Hok2 := Lib.hid (show okL c = true by rw [Hok.out, v46]; simp)
    clear v46 hc46 hcl q95 q43 q45
    by_cases hz : j = 0
    ·have Hr := Lib.hid (Hbad.out ⟨Hcl.out, .inl hz⟩)
     have hz1 : ((j : Int) == 0) = true := by simpa using hz
     clear hz
     go_wp2
     go_ret
     exact ⟨by rw [Hr.out]; rfl, rfl⟩
    ·have hz1 : ((j : Int) == 0) = false := by simpa using hz
     have hj2 : (1 : Int) ≤ (j : Int) := by omega
     by_cases hlast : j + 1 = n
     ·have Hr := Lib.hid (Hbad.out ⟨Hcl.out, .inr (.inl (by rw [Hn.out]; exact hlast))⟩)
      have hz2 : ((j : Int) == (n : Int) - 1) = true := by simp; omega
      clear hlast hz
      go_wp2
      go_ret
      exact ⟨by rw [Hr.out]; rfl, rfl⟩
     ·have hz2 : ((j : Int) == (n : Int) - 1) = false := by simp; omega
      obtain ⟨d, hd⟩ : ∃ d, l[j - 1]? = some d := ⟨_, List.getElem?_eq_getElem (by rw [Hn.out]; omega)⟩
      have hip : ∀ W, (Instr.index 9 (.string s) (.int .i64 ((j : Int) - 1))).run Tryz.prog W = .ok (.int .u8 d.toNat) W := by
       have h := Hidx.out (j - 1) d hd
       rw [show ((j - 1 : Nat) : Int) = (j : Int) - 1 by omega] at h
       exact h
      have qd : ((d.toNat : Int) == 46) = (d == 46) := eqB d 46
      cases vd : (d == 46)
      ·have hnd : ¬ dotBad l j := by
        rintro ⟨_, h | h | h⟩
        ·exact hz h
        ·exact hlast (by rw [← Hn.out]; exact h)
        ·rw [hd] at h; cases h; revert vd; decide
       have Hr := Lib.hid (Hnext.out Hok2.out hnd)
       rw [vd] at qd
       have rqd : ((d.toNat : Int) != 46) = true := by rw [bne, qd]; rfl
       clear hnd vd hd hlast hz
       cases p
       ·go_wp2_with fail
        refine (Hpl.out _).mono ?_; rintro e w2 ⟨rfl, rfl⟩
        go_wp2
        go_round
        case rel => exact ⟨j + 1, by omega, by go_num, Hr.out⟩
        case measure => simp [intOf] <;> omega
       ·go_wp2_with fail
        refine (Hpl.out _).mono ?_; rintro e w2 ⟨rfl, rfl⟩
        go_wp2
        go_round
        case rel => exact ⟨j + 1, by omega, by go_num, Hr.out⟩
        case measure => simp [intOf] <;> omega
      ·have hd46 : d = 46 := by simpa using vd
       have Hr := Lib.hid (Hbad.out ⟨Hcl.out, .inr (.inr (by rw [hd, hd46]))⟩)
       rw [vd] at qd
       have rqd : ((d.toNat : Int) != 46) = false := by rw [bne, qd]; rfl
       clear hd46 vd hd hlast hz
       go_wp2
       go_ret
       exact ⟨by rw [Hr.out]; rfl, rfl⟩
  ·have hje : j = n := by omega
   subst hje
   have hres : localB l = decide (1 ≤ j ∧ j ≤ 32) := by
    rw [← Hn.out]
    exact local_good fun i c hc => hinv i c (by rw [← Hn.out]; exact (List.getElem?_eq_some_iff.1 hc).1) hc
   have Hres := Lib.hid hres
   clear hres hinv
   by_cases h1 : (1 : Int) ≤ (j : Int)
   ·by_cases h32 : (j : Int) ≤ 32
    ·go_wp2
     go_ret
     exact ⟨by rw [Hres.out, decide_eq_true (by omega)]; rfl, rfl⟩
    ·go_wp2
     go_ret
     exact ⟨by rw [Hres.out, decide_eq_false (by omega)]; rfl, rfl⟩
   ·go_wp2
    go_ret
    exact ⟨by rw [Hres.out, decide_eq_false (by omega)]; rfl, rfl⟩
end Go.Proofs.YtffnbkmigapmjaaGreatDoor
namespace Go.Proofs.YtffnbkmigapmjaaGreatDoor
open Go.RowKit
def BytesRow (w : World) (g : Nat) (bs : List UInt8) : Prop :=
 ∃ cs : Array Value, w.heap[g]? = some (.cells cs 5 (cs.size, cs.size + 1)) ∧ bs.length ≤ cs.size ∧ ∀ (i : Nat) x, bs[i]? = some x → cs[i]? = some (u8v x)
theorem BytesRow.cell {w : World} {g : Nat} {bs : List UInt8} (h : BytesRow w g bs) {i : Nat} {x : UInt8} (hx : bs[i]? = some x) :
 w.cell? ⟨g, i, none⟩ = some (.int .u8 x.toNat) ∧ w.frozen? ⟨g, i, none⟩ = false := by
 obtain ⟨cs, h1, h2, h3⟩ := h
 have hi := (List.getElem?_eq_some_iff.1 hx).1
 refine ⟨?_, ?_⟩
 ·rw [cell_of_row _ _ _ _ _ _ h1]; exact h3 i x hx
 ·unfold World.frozen?
  rw [h1]
  simp only [Bool.and_eq_false_iff, decide_eq_false_iff_not]
  left; omega
theorem BytesRow.store {w : World} {g : Nat} {bs : List UInt8} (h : BytesRow w g bs) (i : Nat) (x : UInt8) : BytesRow (w.setCell ⟨g, i, none⟩ (u8v x)) g (bs.set i x) := by
 obtain ⟨cs, h1, h2, h3⟩ := h
 refine ⟨cs.setIfInBounds i (u8v x), ?_, ?_, ?_⟩
 ·rw [setCell_eq_setRow w g i cs 5 _ _ h1, Array.size_setIfInBounds]
  exact setRow_heap w g cs _ 5 _ h1
 ·rw [List.length_set, Array.size_setIfInBounds]; exact h2
 ·intro k y hy
  rw [List.getElem?_set] at hy
  rw [Array.getElem?_setIfInBounds]
  split at hy
  ·next e =>
   subst e
   split at hy
   ·next hlt =>
    cases hy
    rw [if_pos rfl, if_pos (by omega)]
   ·cases hy
  ·next e =>
   rw [if_neg e]; exact h3 k y hy
theorem BytesRow.str {w : World} {g cap : Nat} {bs : List UInt8} (h : BytesRow w g bs) : (convert 22 9 (.slice (some ⟨g, 0, none⟩) bs.length cap)).run Tryz.prog w = .ok (.string (strL bs)) w := by
 have := run_convert_bytes_arg (P := Tryz.prog) w 22 5 Tryz.underlying22 Tryz.underlying5 g 0 bs.length cap (bs.map fun x => (x.toNat : Int)) (by simp) (fun i hi => by
  rw [Nat.zero_add, (h.cell (List.getElem?_eq_getElem hi)).1]
  simp [List.getD, List.getElem?_eq_getElem hi]) 9 Tryz.underlying9
 rw [this]
 have e : strOfNums (bs.map fun x => (x.toNat : Int)) = strL bs := by simp [strL, strOfNums, Function.comp_def]
 rw [e]
theorem set_same {α : Type} {l : List α} {i : Nat} {a : α} (h : l[i]? = some a) : l.set i a = l := by
 apply List.ext_getElem?
 intro k
 rw [List.getElem?_set]
 split
 ·next e => subst e; rw [h, if_pos (List.getElem?_eq_some_iff.1 h).1]
 ·rfl
set_option maxRecDepth 100000 in
set_option maxHeartbeats 8000000 in
theorem refSmall_calls (l : List UInt8) (w : World) (hs : l.length ≤ 4294967280) :
 Calls Tryz.prog 203 #[.string (strL l)] w fun e w' => e = .returned (.string (strL (Lib.toLowerA l))) ∧ Below w.heap.size w w' := by
 have hconv : ∃ C W, (convert 9 22 (.string (strL l))).run Tryz.prog w = .ok (.slice (some ⟨w.heap.size, 0, none⟩) l.length C) W ∧ BytesRow W w.heap.size l ∧ Below w.heap.size w W ∧ l.length ≤ C := by
  have h := run_bytes_of_string (P := Tryz.prog) w 9 22 5 (strL l) Tryz.underlying9 Tryz.underlying22 Tryz.underlying5
  rw [strL_size] at h
  refine ⟨_, _, h, ⟨_, heap_alloc_new w.drew _, ?_, ?_⟩, (Below.refl _ _).drew.alloc (Nat.le_refl _) _, grownCap_ge _ _ _ _⟩
  ·simp [bytesRow, strL] <;> omega
  ·intro i x hx
   have hi := (List.getElem?_eq_some_iff.1 hx).1
   have h2 := bytesRow_at (strL l) (grownCap w l.length 0 5) i (by simp [strL]; exact hi)
   rw [h2]
   have : (strL l).data[i]'(by simp [strL]; exact hi) = x := by
    have := (List.getElem?_eq_some_iff.1 hx).2
    simp [strL, this]
   rw [this]
 obtain ⟨C, W, hrun, hrow, hbW, hC⟩ := hconv
 obtain ⟨n, hn⟩ : ∃ n, l.length = n := ⟨_, rfl⟩
 rw [hn] at hrun hC hs
 have hni : (n : Int) ≤ 4294967280 := by omega
 have Hn := Lib.hid hn
 clear hn
 have hlow : ∀ (j : Nat) c, l[j]? = some c → (Lib.toLowerA l)[j]? = some (Lib.lowerB c) := fun j c h => by rw [Lib.toLowerA, List.getElem?_map, h]; rfl
 go_enter Tryz.func203, Tryz.ntmps203
 go_wp2
 go_loopw [4] (fun i wr => ∃ j : Nat, j ≤ n ∧ i = .int .i64 j ∧ BytesRow wr w.heap.size ((Lib.toLowerA l).take j ++ l.drop j) ∧ Below w.heap.size w wr) (fun i _ => n - (intOf i).toNat)
 case atStart => exact ⟨0, Nat.zero_le _, rfl, hrow, hbW⟩
 case round =>
  obtain ⟨j, hj, rfl, hrw, hbw⟩ := hrel
  have hll : (Lib.toLowerA l).length = n := by rw [Lib.toLowerA, List.length_map]; exact Hn.out
  by_cases hlt : j < n
  ·obtain ⟨c, hc⟩ : ∃ c, l[j]? = some c := ⟨_, List.getElem?_eq_getElem (by rw [Hn.out]; exact hlt)⟩
   have hat : ((Lib.toLowerA l).take j ++ l.drop j)[j]? = some c := by
    rw [List.getElem?_append_right (by rw [List.length_take]; omega), List.length_take, hll, Nat.min_eq_left hj, Nat.sub_self, List.getElem?_drop, Nat.add_zero, hc]
   obtain ⟨hcell, hfz⟩ := hrw.cell hat
   have hnx : ∀ x, Lib.lowerB c = x → ((Lib.toLowerA l).take j ++ l.drop j).set j x = (Lib.toLowerA l).take (j + 1) ++ l.drop (j + 1) := by
    intro x hx
    rw [List.set_append_right _ _ (by rw [List.length_take]; omega), List.length_take, hll, Nat.min_eq_left hj, Nat.sub_self]
    rw [show l.drop j = c :: l.drop (j + 1) by rw [List.drop_eq_getElem_cons (by rw [Hn.out]; exact hlt)]; congr 1; exact (List.getElem?_eq_some_iff.1 hc).2]
    rw [take_snoc (hlow j c hc), hx]; simp
   have hsame : Lib.lowerB c = c → (Lib.toLowerA l).take j ++ l.drop j = (Lib.toLowerA l).take (j + 1) ++ l.drop (j + 1) := by
    intro h
    rw [← hnx c h]
    exact (set_same hat).symm
   have hcn := c.toNat_lt
   have hj0 : (0 : Int) ≤ (j : Int) := by omega
   have hj1 : (j : Int) < (n : Int) := by omega
   have hlb : Lib.lowerB c = if 65 ≤ c.toNat ∧ c.toNat ≤ 90 then c + 32 else c := by
    unfold Lib.lowerB Lib.isUpperB
    by_cases h : 65 ≤ c.toNat ∧ c.toNat ≤ 90
    ·rw [if_pos h, if_pos]
     simp only [Bool.and_eq_true, decide_eq_true_eq, UInt8.le_iff_toNat_le]
     exact ⟨h.1, h.2⟩
    ·rw [if_neg h, if_neg]
     simp only [Bool.and_eq_true, decide_eq_true_eq, UInt8.le_iff_toNat_le]
     exact h
   have Hnx := Lib.hid hnx
   have Hsame := Lib.hid hsame
   have Hlb := Lib.hid hlb
   have Hrw := Lib.hid hrw
   clear hnx hsame hlb hat hc hll hrw hrow hrun
   by_cases h65 : (65 : Int) ≤ (c.toNat : Int)
   ·by_cases h90 : (c.toNat : Int) ≤ 90
    ·have hup : Lib.lowerB c = c + 32 := by rw [Hlb.out, if_pos ⟨by omega, by omega⟩]
     have hadd : (c.toNat : Int) + 32 = ((c + 32).toNat : Int) := by
      rw [UInt8.toNat_add]
      have : (32 : UInt8).toNat = 32 := rfl
      rw [this, Nat.mod_eq_of_lt (by omega)]; omega
     have Hadd := Lib.hid hadd
     have Hup := Lib.hid hup
     clear hadd hup
     go_wp2
     go_roundw
     case rel =>
      refine ⟨j + 1, by omega, by simp, ?_, hbw.setCell (by exact Nat.le_refl _) _⟩
      rw [← Hnx.out _ Hup.out, Hadd.out]
      exact Hrw.out.store j (c + 32)
     case measure => simp [intOf] <;> omega
    ·have hup : Lib.lowerB c = c := by rw [Hlb.out, if_neg (by omega)]
     have Hup := Lib.hid hup
     clear hup
     go_wp2
     go_roundw
     case rel => exact ⟨j + 1, by omega, by simp, by rw [← Hsame.out Hup.out]; exact Hrw.out, hbw⟩
     case measure => simp [intOf] <;> omega
   ·have hup : Lib.lowerB c = c := by rw [Hlb.out, if_neg (by omega)]
    have Hup := Lib.hid hup
    clear hup
    go_wp2
    go_roundw
    case rel => exact ⟨j + 1, by omega, by simp, by rw [← Hsame.out Hup.out]; exact Hrw.out, hbw⟩
    case measure => simp [intOf] <;> omega
  ·have hje : j = n := by omega
   subst hje
   rw [List.take_of_length_le (by omega), List.drop_of_length_le (by rw [Hn.out]; exact Nat.le_refl _), List.append_nil] at hrw
   have hst := hrw.str (cap := C)
   rw [hll] at hst
   clear hrw hll hrow hrun
   go_wp2
   go_ret
   exact ⟨rfl, hbw⟩
end Go.Proofs.YtffnbkmigapmjaaGreatDoor
