/-
  The walk of pillarboxref05.Split.
  The walks of pillarboxref05.Parse and pillarboxref10.box.
  The walks of env.within, pillarboxref10.Body, dots.Lines.
  The walk of dots.Lines.
  Appending what a slice holds, whatever that slice is, to a row of the call's own; a slice literal without elements.
  The walks of env.Good's closure, slices.IndexFunc and ContainsFunc at it.
-/
import Derived.Test.YtffnbkmigapmjaaGreatDoorT4
import Derived.Test.YtffnbkmigapmjaaGreatDoorT6
import Derived.Test.YtffnbkmigapmjaaGreatDoorT7
import Derived.Test.YtffnbkmigapmjaaGreatDoorT8
import Derived.Deep.RegionHeld3
import Derived.Laws.AppendOwn
import Derived.Laws.AppendOwnNone
set_option linter.unusedSimpArgs false
set_option linter.unusedVariables false
namespace Go.Proofs.YtffnbkmigapmjaaGreatDoor
open Go.RowKit
theorem cutAt_none {c : UInt8} {l : List UInt8} (h : ∀ k : Nat, l[k]? ≠ some c) : cutAt c l = none := by
 induction l with
 | nil => rfl
 | cons x xs ih =>
  have hx : ¬ x = c := fun e => h 0 (by simp [e])
  rw [cutAt, if_neg hx, ih (fun k => by simpa using h (k + 1))]; rfl
theorem cutAt_first {c : UInt8} : ∀ {l : List UInt8} {i : Nat}, l[i]? = some c → (∀ k : Nat, k < i → l[k]? ≠ some c) → cutAt c l = some (l.take i, l.drop (i + 1)) := by
 intro l
 induction l with
 | nil => intro i h; cases h
 | cons x xs ih =>
  intro i h hn
  cases i with
  | zero =>
   have : x = c := by simpa using h
   rw [cutAt, if_pos this]; simp
  | succ i =>
   have hx : ¬ x = c := fun e => hn 0 (by omega) (by simp [e])
   rw [cutAt, if_neg hx, ih (i := i) (by simpa using h) (fun k hk => by simpa using hn (k + 1) (by omega))]
   simp
theorem run_slice_hi {l : List UInt8} {b : Nat} (hb : b ≤ l.length) (w : World) :
 (Instr.slice 9 (.string (strL l)) none (some (.int .i64 (b : Int))) none).run Tryz.prog w = .ok (.string (strL (l.take b))) w := by
 rw [run_slice_string_to_if w 9 (strL l) .i64 b Tryz.underlying9]
 rw [if_pos ⟨by omega, by rw [strL_size]; omega⟩]
 have : ((strL l).extract 0 b).data.toList = l.take b := by
  rw [ByteArray.data_extract, Array.toList_extract, List.extract_eq_take_drop, strL_data]; simp
 rw [Int.toNat_natCast, ← this, strL_of]
theorem run_slice_lo {l : List UInt8} {a : Nat} (ha : a ≤ l.length) (w : World) :
 (Instr.slice 9 (.string (strL l)) (some (.int .i64 (a : Int))) none none).run Tryz.prog w = .ok (.string (strL (l.drop a))) w := by
 rw [run_slice_string_from_if w 9 (strL l) .i64 a Tryz.underlying9]
 rw [if_pos ⟨by omega, by rw [strL_size]; omega⟩]
 have : ((strL l).extract a (strL l).size).data.toList = l.drop a := by
  rw [ByteArray.data_extract, Array.toList_extract, List.extract_eq_take_drop, strL_data, strL_size, List.take_of_length_le (by rw [List.length_drop]; exact Nat.le_refl _)]
 rw [Int.toNat_natCast, ← this, strL_of]
set_option maxRecDepth 100000 in
set_option maxHeartbeats 8000000 in
theorem refSplit_calls (l : List UInt8) (w : World) (hs : l.length ≤ 4294967270) :
 Calls Tryz.prog 172 #[.string (strL l)] w fun e w' => e = .returned (splitVal (splitBox l)) ∧ Below w.heap.size w w' := by
 have hsz := strL_size l
 have hidx := fun (j : Nat) (x : UInt8) (h : l[j]? = some x) => run_index_at (s := strL l) (j := j) (c := x) (by rw [strL_data]; exact h)
 have hhi := fun (b : Nat) (hb : b ≤ l.length) => run_slice_hi hb
 have hlo := fun (a : Nat) (ha : a ≤ l.length) => run_slice_lo ha
 have hloc := fun (b : Nat) W (hb : b ≤ l.length) => refLocal_calls (strL (l.take b)) W (by rw [strL_size, List.length_take]; omega)
 have hdom := fun (a : Nat) W => refDomain_calls (strL (l.drop a)) W (by rw [strL_size, List.length_drop]; omega)
 have hsm := fun (a : Nat) W => refSmall_calls (l.drop a) W (by rw [List.length_drop]; omega)
 simp only [strL_data] at hloc hdom
 obtain ⟨n, hn⟩ : ∃ n, l.length = n := ⟨_, rfl⟩
 rw [hn] at hsz hhi hlo hloc hs
 have Hn := Lib.hid hn
 have Hidx := Lib.hid hidx
 have Hhi := Lib.hid hhi
 have Hlo := Lib.hid hlo
 have Hloc := Lib.hid hloc
 have Hdom := Lib.hid hdom
 have Hsm := Lib.hid hsm
 have hni : (n : Int) ≤ 4294967270 := by omega
 clear hidx hhi hlo hloc hdom hsm hn hs
 generalize hsl : strL l = s at hsz Hidx Hhi Hlo
 clear hsl
 go_enter Tryz.func172, Tryz.ntmps172
 go_wp2
 go_loop [5] (fun i => ∃ j : Nat, j ≤ n ∧ i = .int .i64 j ∧ (∀ k : Nat, k < j → l[k]? ≠ some 64)) (fun i => n - (intOf i).toNat)
 case atStart => exact ⟨0, Nat.zero_le _, rfl, fun k hk => absurd hk (Nat.not_lt_zero _)⟩
 case round =>
  obtain ⟨j, hj, rfl, hinv⟩ := hrel
  by_cases hlt : j < n
  ·obtain ⟨c, hc⟩ : ∃ c, l[j]? = some c := ⟨_, List.getElem?_eq_getElem (by rw [Hn.out]; exact hlt)⟩
   have hix := Hidx.out j c hc
   have q64 : ((c.toNat : Int) == 64) = (c == 64) := eqB c 64
   have hj1 : (j : Int) < (n : Int) := by omega
   have hj0 : (0 : Int) ≤ (j : Int) := by omega
   cases v64 : (c == 64)
   ·rw [v64] at q64
    have hnx : ∀ k : Nat, k < j + 1 → l[k]? ≠ some 64 := by
     intro k hk h
     rcases (by omega : k < j ∨ k = j) with h1 | rfl
     ·exact hinv k h1 h
     ·rw [hc] at h; cases h; revert v64; decide
    have Hnx := Lib.hid hnx
    clear hnx v64 hc hinv
    go_wp2
    go_round
    case rel => exact ⟨j + 1, by omega, by go_num, Hnx.out⟩
    case measure => simp [intOf] <;> omega
   ·have hc64 : c = 64 := by simpa using v64
    rw [v64] at q64
    have hcut : cutAt 64 l = some (l.take j, l.drop (j + 1)) := cutAt_first (by rw [hc, hc64]) hinv
    have hsb : splitBox l = if localB (l.take j) && domainB (l.drop (j + 1)) && decide (n ≤ 64) then some (l.take j, Lib.toLowerA (l.drop (j + 1))) else none := by
     unfold splitBox
     rw [hcut, Hn.out]
    have h1 := fun W => Hloc.out j W hj
    have h2 := fun W => Hdom.out (j + 1) W
    have h3 := fun W => Hsm.out (j + 1) W
    have hs1 := Hhi.out j hj
    have hs2 : ∀ W, (Instr.slice 9 (.string s) (some (.int .i64 ((j : Int) + 1))) none none).run Tryz.prog W = .ok (.string (strL (l.drop (j + 1)))) W := Hlo.out (j + 1) (by omega)
    generalize strL (l.drop (j + 1)) = sd at h2 h3 hs2
    have Hta := Lib.hid (rfl : strL (l.take j) = strL (l.take j))
    generalize hst : strL (l.take j) = st at h1 hs1
    generalize localB (l.take j) = p at h1 hsb
    generalize domainB (l.drop (j + 1)) = q at h2 hsb
    have H1 := Lib.hid h1
    have H2 := Lib.hid h2
    have H3 := Lib.hid h3
    have Hst := Lib.hid hst
    have Hsb := Lib.hid hsb
    have hwr : IntKind.i64.wrap ((j : Int) + 1) = (j : Int) + 1 := IntWalk.i64_in _ (by omega)
    clear h1 h2 h3 hst hsb hcut v64 hc64 hc hinv Hta
    by_cases h64 : (64 : Int) < (n : Int)
    ·have Hr := Lib.hid (show splitBox l = none by rw [Hsb.out, decide_eq_false (by omega)]; simp)
     go_wp2
     go_ret3
     exact ⟨by rw [Hr.out]; rfl, Below.refl _ _⟩
    ·have h64' : decide (n ≤ 64) = true := decide_eq_true (by omega)
     have H64 := Lib.hid h64'
     clear h64'
     cases p
     ·have Hr := Lib.hid (show splitBox l = none by rw [Hsb.out]; simp)
      go_wp2_with fail
      refine (H1.out _).mono ?_; rintro e w2 ⟨rfl, rfl⟩
      go_wp2
      go_ret3
      exact ⟨by rw [Hr.out]; rfl, Below.refl _ _⟩
     ·cases q
      ·have Hr := Lib.hid (show splitBox l = none by rw [Hsb.out]; simp)
       go_wp2_with fail
       refine (H1.out _).mono ?_; rintro e w2 ⟨rfl, rfl⟩
       go_wp2_with fail
       refine (H2.out _).mono ?_; rintro e w3 ⟨rfl, hb3⟩
       go_wp2
       go_ret3
       exact ⟨by rw [Hr.out]; rfl, hb3⟩
      ·have Hr := Lib.hid (show splitBox l = some (l.take j, Lib.toLowerA (l.drop (j + 1))) by rw [Hsb.out, H64.out]; rfl)
       go_wp2_with fail
       refine (H1.out _).mono ?_; rintro e w2 ⟨rfl, rfl⟩
       go_wp2_with fail
       refine (H2.out _).mono ?_; rintro e w3 ⟨rfl, hb3⟩
       go_wp2
       have hS : Hid (Below w2.heap.size w2 w3.drew) := hb3.drew
       go_region_held3 (fun w' => Hid (Below w2.heap.size w2 w'))
        (first | with_reducible exact hS | with_reducible assumption | exact (fun (hb : Below _ _ _) (h : Hid (Below w2.heap.size w2 _)) => (h.out.trans (hb.mono h.out.size) : Below w2.heap.size w2 _)) (by assumption) (by assumption))
        (first
         | (go_at_call 203; refine (H3.out _).mono ?_; rintro e w4 ⟨rfl, hb4⟩))
       have hfin := (by assumption : Hid (Below w2.heap.size w2 w4))
       go_wp2
       go_ret3
       exact ⟨by rw [Hr.out]; simp only [splitVal]; rw [Hst.out]; rfl, hfin.out⟩
  ·have hje : j = n := by omega
   subst hje
   have hcut : cutAt 64 l = none := cutAt_none fun k h => by
    have := (List.getElem?_eq_some_iff.1 h).1
    rw [Hn.out] at this
    exact hinv k this h
   have hsb : splitBox l = none := by unfold splitBox; rw [hcut]
   have Hr := Lib.hid hsb
   clear hcut hsb hinv
   go_wp2
   go_ret3
   exact ⟨by rw [Hr.out]; rfl, Below.refl _ _⟩
end Go.Proofs.YtffnbkmigapmjaaGreatDoor
namespace Go.Proofs.YtffnbkmigapmjaaGreatDoor
open Go.RowKit
set_option maxRecDepth 100000 in
set_option maxHeartbeats 4000000 in
theorem refParse_calls (s : ByteArray) (w : World) (hs : s.size ≤ 4294967270) :
 Calls Tryz.prog 125 #[.string s] w fun e w' => e = .returned (parseVal (parseBox s.data.toList)) ∧ Below w.heap.size w w' := by
 have h1 := refSplit_calls s.data.toList w (by rw [← size_len]; exact hs)
 rw [strL_of] at h1
 unfold parseBox
 cases hp : splitBox s.data.toList with
 | none =>
  rw [hp] at h1
  simp only [splitVal] at h1
  have H1 := Lib.hid h1
  clear h1 hp
  go_enter Tryz.func125, Tryz.ntmps125
  go_wp2_with fail
  refine (H1.out).mono ?_; rintro e w1 ⟨rfl, hb1⟩
  go_wp2
  go_ret2
  exact ⟨rfl, hb1⟩
 | some p =>
  obtain ⟨ln1, ln2⟩ := splitBox_len hp
  obtain ⟨n, d⟩ := p
  rw [hp] at h1
  simp only [splitVal] at h1 ln1 ln2
  have e1 : ((strL n).size : Int) ≤ 8388608 := by rw [strL_size]; omega
  have e2 : ((strL d).size : Int) ≤ 8388608 := by rw [strL_size]; omega
  have e3 : ((strL n ++ ⟨#[64]⟩).size : Int) ≤ 8388608 := by
   rw [show (⟨#[64]⟩ : ByteArray) = strL [64] from rfl, strL_append, strL_size]; simp; omega
  have hsum : strL n ++ ⟨#[64]⟩ ++ strL d = strL (n ++ 64 :: d) := by
   rw [show (⟨#[64]⟩ : ByteArray) = strL [64] from rfl, strL_append, strL_append]; simp
  have Hsum := Lib.hid hsum
  have H1 := Lib.hid h1
  generalize hsn : strL n = sn at H1 e1 e3 Hsum
  generalize hsd : strL d = sd at H1 e2 Hsum
  clear h1 hp hsum hsn hsd ln1 ln2
  go_enter Tryz.func125, Tryz.ntmps125
  go_wp2_with fail
  refine (H1.out).mono ?_; rintro e w1 ⟨rfl, hb1⟩
  go_wp2
  go_ret2
  refine ⟨?_, hb1⟩
  show _ = Ending.returned (.tuple #[.string (strL (n ++ 64 :: d)), .bool true])
  rw [← Hsum.out]; rfl
set_option maxRecDepth 100000 in
set_option maxHeartbeats 4000000 in
theorem refBox_calls (s : ByteArray) (w : World) (hs : s.size ≤ 4294967270) :
 Calls Tryz.prog 82 #[.string s] w fun e w' => e = .returned (.bool (boxB s.data.toList)) ∧ Below w.heap.size w w' := by
 have h1 := refParse_calls s w hs
 unfold boxB
 cases hp : parseBox s.data.toList with
 | none =>
  rw [hp] at h1
  simp only [parseVal] at h1
  have H1 := Lib.hid h1
  clear h1 hp
  go_enter Tryz.func82, Tryz.ntmps82
  go_wp2_with fail
  refine (H1.out).mono ?_; rintro e w1 ⟨rfl, hb1⟩
  go_wp2
  go_ret
  exact ⟨rfl, hb1⟩
 | some t =>
  rw [hp] at h1
  simp only [parseVal] at h1
  have H1 := Lib.hid h1
  have hd : (some t == some s.data.toList) = (s.toList == (strL t).toList) := by
   by_cases h : t = s.data.toList
   ·have h2 : strL t = s := by rw [h]; exact strL_of s
    rw [h2, h]; simp
   ·have h2 : strL t ≠ s := fun e => h (by rw [← e, strL_data])
    rw [(Lib.bytes_beq_false_iff _ _).2 (Ne.symm h2)]
    simp [h]
  have Hd := Lib.hid hd
  clear h1 hp hd
  generalize strL t = st at H1 Hd
  go_enter Tryz.func82, Tryz.ntmps82
  go_wp2_with fail
  refine (H1.out).mono ?_; rintro e w1 ⟨rfl, hb1⟩
  go_wp2
  go_ret
  exact ⟨by rw [Hd.out]; rfl, hb1⟩
end Go.Proofs.YtffnbkmigapmjaaGreatDoor
namespace Go.Proofs.YtffnbkmigapmjaaGreatDoor
open Go.RowKit
set_option maxHeartbeats 1000000 in
theorem envWithin_calls (n a b : Int) (w : World) :
 Calls Tryz.prog 160 #[.int .i64 n, .int .i64 a, .int .i64 b] w fun e w' => e = .returned (.bool (decide (a ≤ n ∧ n ≤ b))) ∧ w' = w := by
 by_cases h1 : a ≤ n
 ·by_cases h2 : n ≤ b
  ·rw [decide_eq_true ⟨h1, h2⟩]
   go_enter Tryz.func160, Tryz.ntmps160
   go_wp2
   go_ret
   exact ⟨by first | rfl | simp [h1, h2], rfl⟩
  ·rw [decide_eq_false (fun h => h2 h.2)]
   go_enter Tryz.func160, Tryz.ntmps160
   go_wp2
   go_ret
   exact ⟨by first | rfl | simp [h1, h2], rfl⟩
 ·rw [decide_eq_false (fun h => h1 h.1)]
  go_enter Tryz.func160, Tryz.ntmps160
  go_wp2
  go_ret
  exact ⟨by first | rfl | simp [h1], rfl⟩
def bodyB (bs : List UInt8) : Bool := !bs.contains 13 && (decide (bs.length = 0) || bs.getLast? == some 10)
set_option maxRecDepth 100000 in
set_option maxHeartbeats 4000000 in
theorem refBody_calls (v : Value) (bs : List UInt8) (w : World) (hv : RdB w v bs) :
 Calls Tryz.prog 81 #[v] w fun e w' => e = .returned (.bool (bodyB bs)) ∧ w' = w := by
 obtain ⟨a, cap, rfl, hlc, hcap⟩ := hv.form
 have hcell : ∀ (j : Nat) x, bs[j]? = some x → ∃ b off, a = some ⟨b, off, none⟩ ∧ w.cell? ⟨b, off + j, none⟩ = some (.int .u8 x.toNat) := by
  intro j x hx
  rcases hv with ⟨_, _, _, _, h⟩ | ⟨b, off, cap', h1, h2, h3, h4, h5, h6⟩
  ·subst h; cases hx
  ·cases h1; exact ⟨b, off, rfl, h6 j x hx⟩
 obtain ⟨n, hn⟩ : ∃ n, bs.length = n := ⟨_, rfl⟩
 rw [hn] at hlc ⊢
 have Hn := Lib.hid hn
 have Hcell := Lib.hid hcell
 have hni : (n : Int) ≤ 9223372036854775807 := by omega
 clear hn hcell hv
 go_enter Tryz.func81, Tryz.ntmps81
 go_wp2
 go_loop [3] (fun i => ∃ j : Nat, j ≤ n ∧ i = .int .i64 j ∧ (∀ k : Nat, k < j → bs[k]? ≠ some 13)) (fun i => n - (intOf i).toNat)
 case atStart => exact ⟨0, Nat.zero_le _, rfl, fun k hk => absurd hk (Nat.not_lt_zero _)⟩
 case round =>
  obtain ⟨j, hj, rfl, hinv⟩ := hrel
  by_cases hlt : j < n
  ·obtain ⟨c, hc⟩ : ∃ c, bs[j]? = some c := ⟨_, List.getElem?_eq_getElem (by rw [Hn.out]; exact hlt)⟩
   obtain ⟨b, off, rfl, hcl⟩ := Hcell.out j c hc
   have q13 : ((c.toNat : Int) == 13) = (c == 13) := eqB c 13
   have hj0 : (0 : Int) ≤ (j : Int) := by omega
   have hj1 : (j : Int) < (n : Int) := by omega
   cases v13 : (c == 13)
   ·rw [v13] at q13
    have hnx : ∀ k : Nat, k < j + 1 → bs[k]? ≠ some 13 := by
     intro k hk h
     rcases (by omega : k < j ∨ k = j) with h1 | rfl
     ·exact hinv k h1 h
     ·rw [hc] at h; cases h; revert v13; decide
    have Hnx := Lib.hid hnx
    clear hnx v13 hc hinv
    go_wp2
    go_round
    case rel => exact ⟨j + 1, by omega, by go_num, Hnx.out⟩
    case measure => simp [intOf] <;> omega
   ·have hres : bodyB bs = false := by
     have : c = 13 := by simpa using v13
     unfold bodyB
     have hm : bs.contains 13 = true := by rw [List.contains_iff_mem]; rw [← this]; exact List.mem_of_getElem? hc
     rw [hm]; rfl
    have Hr := Lib.hid hres
    rw [v13] at q13
    clear hres v13 hc hinv
    go_wp2
    go_ret
    exact ⟨by rw [Hr.out]; rfl, rfl⟩
  ·have hje : j = n := by omega
   subst hje
   have hno : bs.contains 13 = false := by
    cases h : bs.contains 13 with
    | false => rfl
    | true =>
     rw [List.contains_iff_mem] at h
     obtain ⟨i, hi⟩ := List.getElem?_of_mem h
     exact absurd hi (hinv i (by have := (List.getElem?_eq_some_iff.1 hi).1; rw [Hn.out] at this; exact this))
   by_cases h0 : j = 0
   ·have hres : bodyB bs = true := by unfold bodyB; rw [hno, Hn.out, decide_eq_true h0]; rfl
    have Hr := Lib.hid hres
    have hz : ((j : Int) == 0) = true := by simpa using h0
    clear hres hno hinv h0
    go_wp2
    go_ret
    exact ⟨by rw [Hr.out]; rfl, rfl⟩
   ·obtain ⟨c, hc⟩ : ∃ c, bs[j - 1]? = some c := ⟨_, List.getElem?_eq_getElem (by rw [Hn.out]; omega)⟩
    obtain ⟨b, off, rfl, hcl⟩ := Hcell.out (j - 1) c hc
    have hres : bodyB bs = (c == 10) := by
     unfold bodyB
     rw [hno, List.getLast?_eq_getElem?, Hn.out, hc, decide_eq_false h0]; rfl
    have Hr := Lib.hid hres
    have q10 : ((c.toNat : Int) == 10) = (c == 10) := eqB c 10
    have hz : ((j : Int) == 0) = false := by simpa using h0
    have hj2 : (1 : Int) ≤ (j : Int) := by omega
    have hj3 : (0 : Int) ≤ (j : Int) - 1 := by omega
    have hj4 : (j : Int) - 1 < (j : Int) := by omega
    have hto : ((j : Int) - 1).toNat = j - 1 := by omega
    clear hres hno hinv hc h0
    generalize (c == 10) = r at q10 Hr
    go_wp2
    go_ret
    exact ⟨by rw [Hr.out]; rfl, rfl⟩
end Go.Proofs.YtffnbkmigapmjaaGreatDoor
namespace Go.Proofs.YtffnbkmigapmjaaGreatDoor
open Go.RowKit
def endB (l : List UInt8) : Bool := decide (l.length = 0) || l.getLast? == some 10
theorem end_rest (t r : List UInt8) : endB (t ++ 10 :: r) = endB r := by
 unfold endB
 rw [decide_eq_false (by simp), Bool.false_or, List.getLast?_append, List.getLast?_cons]
 cases h : r.getLast? with
 | none =>
  have : r = [] := List.getLast?_eq_none_iff.1 h
  subst this; rfl
 | some x =>
  have : r ≠ [] := by intro e; subst e; cases h
  rw [decide_eq_false (by rw [List.length_eq_zero_iff]; exact this), Bool.false_or]; rfl
theorem end_none {l : List UInt8} (h : cutAt 10 l = none) (hne : l ≠ []) : endB l = false := by
 unfold endB
 rw [decide_eq_false (by rw [List.length_eq_zero_iff]; exact hne), Bool.false_or, beq_eq_false_iff_ne]
 intro hl
 have hm : (10 : UInt8) ∈ l := List.mem_of_getLast? hl
 have : ∀ l : List UInt8, cutAt 10 l = none → (10 : UInt8) ∉ l := by
  intro l
  induction l with
  | nil => simp
  | cons x xs ih =>
   intro h
   by_cases hx : x = 10
   ·rw [cutAt, if_pos hx] at h; cases h
   ·rw [cutAt, if_neg hx] at h
    have h2 : cutAt 10 xs = none := by cases hc : cutAt 10 xs with | none => rfl | some p => rw [hc] at h; cases h
    intro hm
    rcases List.mem_cons.1 hm with e | hm
    ·exact hx e.symm
    ·exact ih h2 hm
 exact this l h hm
def strSz : Value → Nat
 | .string s => s.size
 | _ => 0
set_option maxRecDepth 100000 in
set_option maxHeartbeats 8000000 in
theorem dotsLines_calls (v : Value) (bs : List UInt8) (w : World) (hv : RdB w v bs) (hs : bs.length < 4294967281) (hmax : MaxOk w) :
 Calls Tryz.prog 161 #[v] w fun e w' => (∃ x, e = .returned (.tuple #[x, .bool (bodyB bs)])) ∧ Below w.heap.size w w' := by
 obtain ⟨i0, hi, hz0, hz1, hz2⟩ := info_parts infoStr
 obtain ⟨a, cap, rfl, hlc, hcap⟩ := hv.form
 have hstr := run_strL hv
 have hcon := fun W => Tryz.strings_Contains_one (strL bs) 13 W
 rw [strL_data, indexByte_contains] at hcon
 have hbody : bodyB bs = (!bs.contains 13 && endB bs) := rfl
 have hend : ∀ e, endB bs = e → endB bs = e := fun _ h => h
 rw [hbody]
 obtain ⟨n, hn⟩ : ∃ n, bs.length = n := ⟨_, rfl⟩
 rw [hn] at hlc hstr hs ⊢
 have Hn := Lib.hid hn
 have hsz := strL_size bs
 rw [hn] at hsz
 have Hmax := Lib.hid hmax
 clear hv hn hbody hend hmax
 generalize hc13 : bs.contains 13 = c13 at hcon
 have Hcon := Lib.hid hcon
 clear hc13 hcon
 generalize hgs : strL bs = s0 at hstr Hcon hsz
 cases c13
 ·obtain ⟨eb, heb⟩ : ∃ e, endB bs = e := ⟨_, rfl⟩
  have Heb := Lib.hid heb
  rw [heb]
  clear heb
  go_enter Tryz.func161, Tryz.ntmps161
  go_wp2_with fail
  refine (Hcon.out _).mono ?_; rintro e w1 ⟨rfl, rfl⟩
  go_wp2
  go_loopw [4, 5] (fun s o wr => ∃ (cur : List UInt8) (out : List (List UInt8)), s = .string (strL cur) ∧ endB cur = eb ∧ out.length + cur.length ≤ n ∧ wr.ownsRow w1.heap.size 9 1 o out.length (out.flatMap s1) ∧ Below w1.heap.size w1 wr) (fun s _ _ => strSz s)
  case atStart => exact ⟨bs, [], by rw [hgs], Heb.out, by rw [Hn.out]; simp, nil_row0 _ _ _ _, Below.refl _ _⟩
  case round =>
   obtain ⟨cur, out, rfl, hce, hol, hown, hbw⟩ := hrel
   have hcsz := strL_size cur
   by_cases h0 : cur = []
   ·subst h0
    have : eb = true := by rw [← hce]; rfl
    subst this
    rw [show strL [] = (⟨#[]⟩ : ByteArray) from rfl]
    clear hce
    go_wp2
    go_ret2
    exact ⟨⟨_, rfl⟩, hbw⟩
   ·have hne : (strL cur).size ≠ 0 := by rw [hcsz]; exact fun h => h0 (List.length_eq_zero_iff.1 h)
    have hb := empty_ne hne
    have hb2 : (strL cur).toList.isEmpty = false := by simpa using hb
    obtain ⟨m, hm⟩ := Hmax.out.below hbw
    have hcut := Tryz.strings_Cut (strL cur) ⟨#[10]⟩ m wr (by rw [hcsz]; omega) hm
    rw [show (⟨#[10]⟩ : ByteArray).data.toList = [10] from rfl, cut_one, strL_data] at hcut
    rcases index_one 10 cur with ⟨h1, _⟩ | ⟨t, r, h1, h2, _⟩
    ·rw [h1] at hcut
     simp only at hcut
     have : eb = false := by rw [← hce]; exact end_none h1 h0
     subst this
     have Hcut := Lib.hid hcut
     clear hcut h1 h0 hce hm
     generalize strL cur = sc at hb hb2 Hcut hcsz hne
     go_wp2_with fail
     refine (Hcut.out).mono ?_; rintro e w2 ⟨rfl, k, rfl⟩
     go_wp2
     go_ret2
     exact ⟨⟨_, rfl⟩, below_drewN hbw _⟩
    ·rw [h1] at hcut
     simp only at hcut
     have hce2 : endB r = eb := by rw [← hce, h2, end_rest]
     have hln : out.length + 1 + r.length ≤ n ∧ r.length < cur.length := by
      have := congrArg List.length h2
      simp at this
      omega
     have hrow2 : ∀ k, (wr.drewN k).ownsRow w1.heap.size 9 1 u5 out.length (out.flatMap s1) := fun k => own_below hown (below_drewN (Below.refl _ _) k) (Nat.le_refl _)
     rw [show (⟨t.toArray⟩ : ByteArray) = strL t from rfl, show (⟨r.toArray⟩ : ByteArray) = strL r from rfl] at hcut
     have Hcut := Lib.hid hcut
     have Hce2 := Lib.hid hce2
     have Hln := Lib.hid hln
     have Hrow2 := Lib.hid hrow2
     have Hbw := Lib.hid hbw
     clear hcut h1 h0 hce hm h2 hce2 hln hrow2
     generalize strL cur = sc at hb hb2 Hcut hcsz hne
     go_wp2_with fail
     refine (Hcut.out).mono ?_; rintro e w2 ⟨rfl, k, rfl⟩
     have hrow := Hrow2.out k
     have hbk := below_drewN Hbw.out k
     generalize wr.drewN k = wk at hrow hbk
     have hncell := news_new wk (s1 t) 9 (0, 0)
     have Hncell := Lib.hid hncell
     have hcs1 : ∀ u ∈ s1 t, u.oneCell' = true := by intro u hu; exact s1_one [t] u (by simpa using hu)
     have Hcs1 := Lib.hid hcs1
     have hbd1 : out.length + 1 ≤ maxLen := by show out.length + 1 ≤ 9223372036854775807; omega
     have hbd2 : (out.length + 1) * 16 ≤ 140737488355328 := by omega
     have hbd3 : w1.heap.size ≤ (wk.alloc (.cells #[.string (strL t)] 9)).heap.size := by have := hbk.size; simp; omega
     clear hncell hcs1 hown hbw
     go_wp2_with (at_builtin; go_must (refine wpList_append_own _ rfl _ _ 27 rfl w1.heap.size 9 i0 _ 1 16 Tryz.underlying27 hi hz0 hz1 hz2 rfl (by decide) _ _ _ rfl (hrow.alloc _) ⟨wk.heap.size, 0, none⟩ 1 1 (s1 t) rfl rfl Hncell.out Hcs1.out hbd1 hbd2 hbd3 ?_); rintro v' w3 hown3 hg3 _)
     go_roundw
     case rel =>
      refine ⟨r, out ++ [t], rfl, Hce2.out, by rw [List.length_append]; exact Hln.out.1, ?_, Below.grown (hbk.alloc hbk.size _) hg3 (by have := hbk.size; simp; omega) (fun k hk => own_base hrow k hk)⟩
      rw [List.length_append, List.flatMap_append, List.flatMap_singleton]; exact hown3
     case measure =>
      simp only [strSz]
      rw [hcsz, strL_size]
      exact Hln.out.2
 ·go_enter Tryz.func161, Tryz.ntmps161
  go_wp2_with fail
  refine (Hcon.out _).mono ?_; rintro e w1 ⟨rfl, rfl⟩
  go_wp2
  go_ret2
  exact ⟨⟨_, rfl⟩, Below.refl _ _⟩
end Go.Proofs.YtffnbkmigapmjaaGreatDoor
namespace Go.Proofs.YtffnbkmigapmjaaGreatDoor
open Go.RowKit
def NilOk (v : Value) : Prop := ∀ l c, v = .slice none l c → l = 0 ∧ c = 0
theorem RdL.news {α : Type} {s : Nat} {f : α → List Value} (hf : ∀ x, (f x).length = s) (hs : 0 < s) {w : World} {b off len cap : Nat} {xs : List α} (h : RdL s f w (.slice (some ⟨b, off, none⟩) len cap) xs) :
 ∀ (j : Nat) u, (xs.flatMap f)[j]? = some u → w.cell? ((⟨b, off, none⟩ : Addr).add j) = some u := by
 intro j u hu
 rcases h with ⟨_, _, _, _, rfl⟩ | ⟨b', off', cap', hv, h0, h1, h2, h3, h4⟩
 ·cases hu
 ·cases hv
  have hj : j < xs.length * s := by have := (List.getElem?_eq_some_iff.1 hu).1; rw [flat_len hf] at this; exact this
  have hdiv : j / s < xs.length := (Nat.div_lt_iff_lt_mul hs).2 hj
  have hmod : j % s < s := Nat.mod_lt _ hs
  have e : j = j / s * s + j % s := by rw [Nat.mul_comm]; exact (Nat.div_add_mod j s).symm
  have hx : xs[j / s]? = some xs[j / s] := List.getElem?_eq_getElem hdiv
  have hg := flat_get hf hs xs _ _ hx _ hmod
  rw [← e, hu] at hg
  have := h4 _ _ hx _ _ hg.symm
  rw [← e] at this
  rw [add_at]
  exact this
theorem addr_some {α : Type} {s : Nat} {f : α → List Value} {w : World} {a : Option Addr} {len cap : Nat} {xs : List α} (h : RdL s f w (.slice a len cap) xs) (hne : xs ≠ []) : ∃ b off, a = some ⟨b, off, none⟩ := by
 rcases h with ⟨_, _, _, _, rfl⟩ | ⟨b', off', cap', hv, h0, h1, h2, h3, h4⟩
 ·exact absurd rfl hne
 ·cases hv; exact ⟨_, _, rfl⟩
theorem wpList_append_any {α : Type} {s : Nat} {f : α → List Value} (hf : ∀ x, (f x).length = s) (hs0 : 0 < s) {P : Program} {w : World} {ops : Array Oper} {rest : List Oper} {o : Oper} {a : Act} {Q : Exit → Act → World → Prop} (hgd : o.guard = none) (s1 x : Operand) (t : TypeId)
 (ho : o.op = .call { callee := .builtin .append, args := #[s1, x], argTypes := #[t, t] })
 (base : Nat) (e : TypeId) (i : TypeInfo) (z : Value) (bytes : Nat) (ht : P.underlying t = some (.slice e)) (hi : P.info? e = some i) (hz : i.zero = some z)
 (hsize : i.size = s) (hby : i.bytes = bytes) (hzs : z.cells.size = s)
 (v : Value) (n : Nat) (xs : List Value) (hs : a.eval s1 = v) (hown : w.ownsRow base e s v n xs)
 (u : Value) (ys : List α) (hx : a.eval x = u) (hr : RdL s f w u ys) (hn : NilOk u) (h1 : ∀ c ∈ ys.flatMap f, c.oneCell' = true)
 (h63 : n + ys.length ≤ maxLen) (hbytes : (n + ys.length) * bytes ≤ 140737488355328) (hbase : base ≤ w.heap.size)
 (h : ∀ v' w', w'.ownsRow base e s v' (n + ys.length) (xs ++ ys.flatMap f) → w.grownBy w' v.ownBlock → NilOk v' → wpList P ops Q rest (a.put o.dst v') w') : wpList P ops Q (o :: rest) a w := by
 have hnil : ∀ {v' : Value} {w' : World} {k : Nat} {cs : List Value}, w'.ownsRow base e s v' k cs → NilOk v' := by
  intro v' w' k cs h l c hv
  obtain ⟨_, ⟨h2, h3⟩ | ⟨g, cap, cur, hv', _⟩⟩ := h
  ·rw [hv] at h2; cases h2; exact ⟨rfl, rfl⟩
  ·rw [hv] at hv'; cases hv'
 obtain ⟨ad, cap, rfl, _, _⟩ := hr.form
 cases ad with
 | none =>
  obtain ⟨hl, hc⟩ := hn _ _ rfl
  have hy : ys = [] := List.length_eq_zero_iff.1 hl
  subst hy
  subst hc
  refine wpList_append_own_none hgd s1 x t ho base e i s ht hi v n xs hs hown hx (h v w (by simpa using hown) (World.grownBy.refl _ _) (hnil hown))
 | some ad =>
  refine wpList_append_own w hgd s1 x t ho base e i z s bytes ht hi hz hsize hby hzs hs0 v n xs hs hown ad ys.length cap (ys.flatMap f) hx (flat_len hf ys) ?_ h1 h63 hbytes hbase (fun v' w' h2 h3 _ => h v' w' h2 h3 (hnil h2))
  by_cases hy : ys = []
  ·subst hy; intro j u hu; cases hu
  ·obtain ⟨b, off, e⟩ := addr_some hr hy
   cases e
   exact hr.news hf hs0
end Go.Proofs.YtffnbkmigapmjaaGreatDoor
namespace Go.Proofs.YtffnbkmigapmjaaGreatDoor
open Go.RowKit
set_option maxHeartbeats 1000000 in
theorem envGoodFn_calls (s : ByteArray) (w : World) (hs : s.size < 4294967281) (hmax : MaxOk w) :
 Calls Tryz.prog 163 #[.string s] w fun e w' => e = .returned (.bool (!boxB s.data.toList)) ∧ Below w.heap.size w w' := by
 have h1 := envBox_calls s w hs hmax
 generalize boxB s.data.toList = p at h1
 have H1 := Lib.hid h1
 clear h1
 go_enter Tryz.func163, Tryz.ntmps163
 go_wp2_with fail
 refine (H1.out).mono ?_; rintro e w1 ⟨rfl, hb1⟩
 go_wp2
 go_ret
 exact ⟨rfl, hb1⟩
set_option maxRecDepth 100000 in
set_option maxHeartbeats 4000000 in
theorem indexBad_calls (v : Value) (ls : List (List UInt8)) (w : World) (hv : RdS w v ls) (hs : ∀ l ∈ ls, l.length < 4294967281) (hmax : MaxOk w) :
 Calls Tryz.prog 134 #[v, .func (.func 163) #[] #[]] w fun e w' => (∃ i : Int, e = .returned (.int .i64 i) ∧ ((0 ≤ i ∧ ls.all boxB = false) ∨ (i = -1 ∧ ls.all boxB = true))) ∧ Below w.heap.size w w' := by
 obtain ⟨a, cap, rfl, hlc, hcap⟩ := hv.form
 have hfn := fun (l : List UInt8) W (h : l ∈ ls) hM => envGoodFn_calls (strL l) W (by rw [strL_size]; exact hs l h) hM
 simp only [strL_data] at hfn
 have Hfn := Lib.hid hfn
 have Hv := Lib.hid hv
 have Hmax := Lib.hid hmax
 have hni : (ls.length : Int) ≤ 9223372036854775807 := by omega
 clear hfn hv hs hmax
 go_enter Tryz.func134, Tryz.ntmps134
 go_wp2
 go_loopw [8] (fun i wr => ∃ j : Nat, j ≤ ls.length ∧ i = .int .i64 j ∧ (ls.take j).all boxB = true ∧ Below w.heap.size w wr) (fun i _ => ls.length - (intOf i).toNat)
 case atStart => exact ⟨0, Nat.zero_le _, rfl, rfl, Below.refl _ _⟩
 case round =>
  obtain ⟨j, hj, rfl, hall, hbw⟩ := hrel
  by_cases hlt : j < ls.length
  ·obtain ⟨l, hl⟩ : ∃ l, ls[j]? = some l := ⟨_, List.getElem?_eq_getElem hlt⟩
   obtain ⟨b, off, cap', hsl, hbl, hc⟩ := RdS.at (Hv.out.below (Nat.le_refl _) hbw) hl
   cases hsl
   have hM := Hmax.out.below hbw
   have hcall := fun W hM => Hfn.out l W (List.mem_of_getElem? hl) hM
   have htk : boxB l = true → (ls.take (j + 1)).all boxB = true := fun h => by rw [take_snoc hl, List.all_append, hall]; simpa using h
   have hno : boxB l = false → ls.all boxB = false := fun h => by rw [List.all_eq_false]; exact ⟨l, List.mem_of_getElem? hl, by rw [h]; simp⟩
   generalize boxB l = p at hcall htk hno
   have Hcall := Lib.hid hcall
   have Htk := Lib.hid htk
   have Hno := Lib.hid hno
   have HM := Lib.hid hM
   have hj0 : (0 : Int) ≤ (j : Int) := by omega
   have hj1 : (j : Int) < (ls.length : Int) := by omega
   clear hcall htk hno hall hl hM
   generalize strL l = sl at hc Hcall
   cases p
   ·go_wp2_with fail
    refine (Hcall.out _ HM.out).mono ?_; rintro e w2 ⟨rfl, hb2⟩
    go_wp2
    go_ret
    exact ⟨⟨_, rfl, .inl ⟨hj0, Hno.out (by trivial)⟩⟩, hbw.trans (hb2.mono hbw.size)⟩
   ·go_wp2_with fail
    refine (Hcall.out _ HM.out).mono ?_; rintro e w2 ⟨rfl, hb2⟩
    go_wp2
    go_roundw
    case rel => exact ⟨j + 1, by omega, by simp, Htk.out (by trivial), hbw.trans (hb2.mono hbw.size)⟩
    case measure => simp [intOf] <;> omega
  ·have hje : j = ls.length := by omega
   subst hje
   rw [List.take_of_length_le (Nat.le_refl _)] at hall
   have Hall := Lib.hid hall
   clear hall
   go_wp2
   go_ret
   exact ⟨⟨_, rfl, .inr ⟨rfl, Hall.out⟩⟩, hbw⟩
set_option maxRecDepth 100000 in
set_option maxHeartbeats 4000000 in
theorem containsBad_calls (v : Value) (ls : List (List UInt8)) (w : World) (hv : RdS w v ls) (hs : ∀ l ∈ ls, l.length < 4294967281) (hmax : MaxOk w) :
 Calls Tryz.prog 93 #[v, .func (.func 163) #[] #[]] w fun e w' => e = .returned (.bool (!ls.all boxB)) ∧ Below w.heap.size w w' := by
 have h1 := indexBad_calls v ls w hv hs hmax
 generalize ls.all boxB = p at h1
 have H1 := Lib.hid h1
 clear h1 hv hs hmax
 go_enter Tryz.func93, Tryz.ntmps93
 go_wp2_with fail
 refine (H1.out).mono ?_; rintro e w1 ⟨⟨i, rfl, hi⟩, hb1⟩
 rcases hi with ⟨h0, rfl⟩ | ⟨rfl, rfl⟩
 ·go_wp2
  go_ret
  exact ⟨by first | rfl | simp [h0], hb1⟩
 ·go_wp2
  go_ret
  exact ⟨rfl, hb1⟩
end Go.Proofs.YtffnbkmigapmjaaGreatDoor
