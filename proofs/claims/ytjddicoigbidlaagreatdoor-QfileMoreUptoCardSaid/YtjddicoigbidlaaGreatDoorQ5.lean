/-
  The walk of pillarboxref05.Small.
  The walk of pillarboxref05.Split.
  The walks of pillarboxref05.Parse and pillarboxref10.box.
  The walks of env.within, pillarboxref10.Body, dots.Lines.
  The walk of dots.Lines.
  Appending what a slice holds, whatever that slice is, to a row of the call's own; a slice literal without elements.
  The walks of env.Good's closure, slices.IndexFunc and ContainsFunc at it.
  The walk of env.Good.
  The walks of pillarboxref01.Texts and pillarboxlaw10.light.
  The walks of slices.Equal of texts, pillarboxref10.Same and env.Same.
  The walk of pillarboxlaw10.light.
  A mail that comes in by value: its parts, and what its slices hold; the world that a call begins in; a witness with tables laid.
  Arguments of a law as the walks want them: byte slices, slices of marks.
-/
import Derived.Test.YtjddicoigbidlaaGreatDoorQ1
import Derived.Test.YtjddicoigbidlaaGreatDoorQ2
import Derived.Test.YtjddicoigbidlaaGreatDoorQ4
import Derived.Laws.IdiomStrings
import Derived.Laws.BytesArg
import Derived.Deep.RegionHeld3
import Derived.Laws.AppendOwn
import Derived.Laws.AppendOwnNone
import Derived.Deep.QuietTactic
import Derived.BigQuiet
import Derived.OpenShut
import Derived.Deep.Slices
import Derived.ChangeOld
import Derived.SliceStrings
import Derived.Lay
import Derived.MakeChecks
import Derived.Stop.Joined
import Derived.Shelf.Vars
set_option linter.unusedSimpArgs false
set_option linter.unusedVariables false
namespace Go.Proofs.YtjddicoigbidlaaGreatDoor
open Go.RowKit
/-- Bytes that were made of a text. -/
def BytesRow (w : World) (g : Nat) (bs : List UInt8) : Prop :=
  ∃ cs : Array Value, w.heap[g]? = some (.cells cs 5 (cs.size, cs.size + 1)) ∧ bs.length ≤ cs.size ∧ ∀ (i : Nat) x, bs[i]? = some x → cs[i]? = some (u8v x)
theorem BytesRow.cell {w : World} {g : Nat} {bs : List UInt8} (h : BytesRow w g bs) {i : Nat} {x : UInt8} (hx : bs[i]? = some x) :
    w.cell? ⟨g, i, none⟩ = some (.int .u8 x.toNat) ∧ w.frozen? ⟨g, i, none⟩ = false := by
  obtain ⟨cs, h1, h2, h3⟩ := h
  have hi := (List.getElem?_eq_some_iff.1 hx).1
  refine ⟨?_, ?_⟩
  · rw [cell_of_row _ _ _ _ _ _ h1]; exact h3 i x hx
  · unfold World.frozen?
    rw [h1]
    simp only [Bool.and_eq_false_iff, decide_eq_false_iff_not]
    left; omega
theorem BytesRow.store {w : World} {g : Nat} {bs : List UInt8} (h : BytesRow w g bs) (i : Nat) (x : UInt8) : BytesRow (w.setCell ⟨g, i, none⟩ (u8v x)) g (bs.set i x) := by
  obtain ⟨cs, h1, h2, h3⟩ := h
  refine ⟨cs.setIfInBounds i (u8v x), ?_, ?_, ?_⟩
  · rw [setCell_eq_setRow w g i cs 5 _ _ h1, Array.size_setIfInBounds]
    exact setRow_heap w g cs _ 5 _ h1
  · rw [List.length_set, Array.size_setIfInBounds]; exact h2
  · intro k y hy
    rw [List.getElem?_set] at hy
    rw [Array.getElem?_setIfInBounds]
    split at hy
    · next e =>
      subst e
      split at hy
      · next hlt =>
        cases hy
        rw [if_pos rfl, if_pos (by omega)]
      · cases hy
    · next e =>
      rw [if_neg e]; exact h3 k y hy
theorem BytesRow.str {w : World} {g cap : Nat} {bs : List UInt8} (h : BytesRow w g bs) : (convert 23 9 (.slice (some ⟨g, 0, none⟩) bs.length cap)).run Tryz.prog w = .ok (.string (strL bs)) w := by
  have := run_convert_bytes_arg (P := Tryz.prog) w 23 5 Tryz.underlying23 Tryz.underlying5 g 0 bs.length cap (bs.map fun x => (x.toNat : Int)) (by simp) (fun i hi => by
    rw [Nat.zero_add, (h.cell (List.getElem?_eq_getElem hi)).1]
    simp [List.getD, List.getElem?_eq_getElem hi]) 9 Tryz.underlying9
  rw [this]
  have e : strOfNums (bs.map fun x => (x.toNat : Int)) = strL bs := by simp [strL, strOfNums, Function.comp_def]
  rw [e]
theorem set_same {α : Type} {l : List α} {i : Nat} {a : α} (h : l[i]? = some a) : l.set i a = l := by
  apply List.ext_getElem?
  intro k
  rw [List.getElem?_set]
  split
  · next e => subst e; rw [h, if_pos (List.getElem?_eq_some_iff.1 h).1]
  · rfl
set_option maxRecDepth 100000 in
set_option maxHeartbeats 8000000 in
theorem refSmall_calls (l : List UInt8) (w : World) (hs : l.length ≤ 4294967280) :
    Calls Tryz.prog 93 #[.string (strL l)] w fun e w' => e = .returned (.string (strL (Lib.toLowerA l))) ∧ Below w.heap.size w w' := by
  have hconv : ∃ C W, (convert 9 23 (.string (strL l))).run Tryz.prog w = .ok (.slice (some ⟨w.heap.size, 0, none⟩) l.length C) W ∧ BytesRow W w.heap.size l ∧ Below w.heap.size w W ∧ l.length ≤ C := by
    have h := run_bytes_of_string (P := Tryz.prog) w 9 23 5 (strL l) Tryz.underlying9 Tryz.underlying23 Tryz.underlying5
    rw [strL_size] at h
    refine ⟨_, _, h, ⟨_, heap_alloc_new w.drew _, ?_, ?_⟩, (Below.refl _ _).drew.alloc (Nat.le_refl _) _, grownCap_ge _ _ _ _⟩
    · simp [bytesRow, strL] <;> omega
    · intro i x hx
      have hi := (List.getElem?_eq_some_iff.1 hx).1
      have h2 := bytesRow_at (strL l) (grownCap w l.length 0 5) i (by simp [strL]; exact hi)
      rw [h2]
      have : (strL l).data[i]'(by simp [strL]; exact hi) = x := by
        have := (List.getElem?_eq_some_iff.1 hx).2
        simp [strL, this]
      rw [this]
  obtain ⟨C, W, hrun, hrow, hbW, hC⟩ := hconv
  obtain ⟨n, hn⟩ : ∃ n, l.length = n := ⟨_, rfl⟩
  rw [hn] at hrun hC hs
  have hni : (n : Int) ≤ 4294967280 := by omega
  have Hn := Lib.hid hn
  clear hn
  have hlow : ∀ (j : Nat) c, l[j]? = some c → (Lib.toLowerA l)[j]? = some (Lib.lowerB c) := fun j c h => by rw [Lib.toLowerA, List.getElem?_map, h]; rfl
  go_enter Tryz.func93, Tryz.ntmps93
  go_wp2
  go_loopw [4] (fun i wr => ∃ j : Nat, j ≤ n ∧ i = .int .i64 j ∧ BytesRow wr w.heap.size ((Lib.toLowerA l).take j ++ l.drop j) ∧ Below w.heap.size w wr) (fun i _ => n - (intOf i).toNat)
  case atStart => exact ⟨0, Nat.zero_le _, rfl, hrow, hbW⟩
  case round =>
    obtain ⟨j, hj, rfl, hrw, hbw⟩ := hrel
    have hll : (Lib.toLowerA l).length = n := by rw [Lib.toLowerA, List.length_map]; exact Hn.out
    by_cases hlt : j < n
    · obtain ⟨c, hc⟩ : ∃ c, l[j]? = some c := ⟨_, List.getElem?_eq_getElem (by rw [Hn.out]; exact hlt)⟩
      have hat : ((Lib.toLowerA l).take j ++ l.drop j)[j]? = some c := by
        rw [List.getElem?_append_right (by rw [List.length_take]; omega), List.length_take, hll, Nat.min_eq_left hj, Nat.sub_self, List.getElem?_drop, Nat.add_zero, hc]
      obtain ⟨hcell, hfz⟩ := hrw.cell hat
      have hnx : ∀ x, Lib.lowerB c = x → ((Lib.toLowerA l).take j ++ l.drop j).set j x = (Lib.toLowerA l).take (j + 1) ++ l.drop (j + 1) := by
        intro x hx
        rw [List.set_append_right _ _ (by rw [List.length_take]; omega), List.length_take, hll, Nat.min_eq_left hj, Nat.sub_self]
        rw [show l.drop j = c :: l.drop (j + 1) by rw [List.drop_eq_getElem_cons (by rw [Hn.out]; exact hlt)]; congr 1; exact (List.getElem?_eq_some_iff.1 hc).2]
        rw [take_snoc (hlow j c hc), hx]; simp
      have hsame : Lib.lowerB c = c → (Lib.toLowerA l).take j ++ l.drop j = (Lib.toLowerA l).take (j + 1) ++ l.drop (j + 1) := by
        intro h
        rw [← hnx c h]
        exact (set_same hat).symm
      have hcn := c.toNat_lt
      have hj0 : (0 : Int) ≤ (j : Int) := by omega
      have hj1 : (j : Int) < (n : Int) := by omega
      have hlb : Lib.lowerB c = if 65 ≤ c.toNat ∧ c.toNat ≤ 90 then c + 32 else c := by
        unfold Lib.lowerB Lib.isUpperB
        by_cases h : 65 ≤ c.toNat ∧ c.toNat ≤ 90
        · rw [if_pos h, if_pos]
          simp only [Bool.and_eq_true, decide_eq_true_eq, UInt8.le_iff_toNat_le]
          exact ⟨h.1, h.2⟩
        · rw [if_neg h, if_neg]
          simp only [Bool.and_eq_true, decide_eq_true_eq, UInt8.le_iff_toNat_le]
          exact h
      have Hnx := Lib.hid hnx
      have Hsame := Lib.hid hsame
      have Hlb := Lib.hid hlb
      have Hrw := Lib.hid hrw
      clear hnx hsame hlb hat hc hll hrw hrow hrun
      by_cases h65 : (65 : Int) ≤ (c.toNat : Int)
      · by_cases h90 : (c.toNat : Int) ≤ 90
        · have hup : Lib.lowerB c = c + 32 := by rw [Hlb.out, if_pos ⟨by omega, by omega⟩]
          have hadd : (c.toNat : Int) + 32 = ((c + 32).toNat : Int) := by
            rw [UInt8.toNat_add]
            have : (32 : UInt8).toNat = 32 := rfl
            rw [this, Nat.mod_eq_of_lt (by omega)]; omega
          have Hadd := Lib.hid hadd
          have Hup := Lib.hid hup
          clear hadd hup
          go_wp2
          go_roundw
          case rel =>
            refine ⟨j + 1, by omega, by simp, ?_, hbw.setCell (by exact Nat.le_refl _) _⟩
            rw [← Hnx.out _ Hup.out, Hadd.out]
            exact Hrw.out.store j (c + 32)
          case measure => simp [intOf] <;> omega
        · have hup : Lib.lowerB c = c := by rw [Hlb.out, if_neg (by omega)]
          have Hup := Lib.hid hup
          clear hup
          go_wp2
          go_roundw
          case rel => exact ⟨j + 1, by omega, by simp, by rw [← Hsame.out Hup.out]; exact Hrw.out, hbw⟩
          case measure => simp [intOf] <;> omega
      · have hup : Lib.lowerB c = c := by rw [Hlb.out, if_neg (by omega)]
        have Hup := Lib.hid hup
        clear hup
        go_wp2
        go_roundw
        case rel => exact ⟨j + 1, by omega, by simp, by rw [← Hsame.out Hup.out]; exact Hrw.out, hbw⟩
        case measure => simp [intOf] <;> omega
    · have hje : j = n := by omega
      subst hje
      rw [List.take_of_length_le (by omega), List.drop_of_length_le (by rw [Hn.out]; exact Nat.le_refl _), List.append_nil] at hrw
      have hst := hrw.str (cap := C)
      rw [hll] at hst
      clear hrw hll hrow hrun
      go_wp2
      go_ret
      exact ⟨rfl, hbw⟩
end Go.Proofs.YtjddicoigbidlaaGreatDoor

set_option linter.unusedSimpArgs false
set_option linter.unusedVariables false
namespace Go.Proofs.YtjddicoigbidlaaGreatDoor
open Go.RowKit
theorem cutAt_none {c : UInt8} {l : List UInt8} (h : ∀ k : Nat, l[k]? ≠ some c) : cutAt c l = none := by
  induction l with
  | nil => rfl
  | cons x xs ih =>
    have hx : ¬ x = c := fun e => h 0 (by simp [e])
    rw [cutAt, if_neg hx, ih (fun k => by simpa using h (k + 1))]; rfl
theorem cutAt_first {c : UInt8} : ∀ {l : List UInt8} {i : Nat}, l[i]? = some c → (∀ k : Nat, k < i → l[k]? ≠ some c) → cutAt c l = some (l.take i, l.drop (i + 1)) := by
  intro l
  induction l with
  | nil => intro i h; cases h
  | cons x xs ih =>
    intro i h hn
    cases i with
    | zero =>
      have : x = c := by simpa using h
      rw [cutAt, if_pos this]; simp
    | succ i =>
      have hx : ¬ x = c := fun e => hn 0 (by omega) (by simp [e])
      rw [cutAt, if_neg hx, ih (i := i) (by simpa using h) (fun k hk => by simpa using hn (k + 1) (by omega))]
      simp
theorem run_slice_hi {l : List UInt8} {b : Nat} (hb : b ≤ l.length) (w : World) :
    (Instr.slice 9 (.string (strL l)) none (some (.int .i64 (b : Int))) none).run Tryz.prog w = .ok (.string (strL (l.take b))) w := by
  rw [run_slice_string_to_if w 9 (strL l) .i64 b Tryz.underlying9]
  rw [if_pos ⟨by omega, by rw [strL_size]; omega⟩]
  have : ((strL l).extract 0 b).data.toList = l.take b := by
    rw [ByteArray.data_extract, Array.toList_extract, List.extract_eq_take_drop, strL_data]; simp
  rw [Int.toNat_natCast, ← this, strL_of]
theorem run_slice_lo {l : List UInt8} {a : Nat} (ha : a ≤ l.length) (w : World) :
    (Instr.slice 9 (.string (strL l)) (some (.int .i64 (a : Int))) none none).run Tryz.prog w = .ok (.string (strL (l.drop a))) w := by
  rw [run_slice_string_from_if w 9 (strL l) .i64 a Tryz.underlying9]
  rw [if_pos ⟨by omega, by rw [strL_size]; omega⟩]
  have : ((strL l).extract a (strL l).size).data.toList = l.drop a := by
    rw [ByteArray.data_extract, Array.toList_extract, List.extract_eq_take_drop, strL_data, strL_size, List.take_of_length_le (by rw [List.length_drop]; exact Nat.le_refl _)]
  rw [Int.toNat_natCast, ← this, strL_of]
set_option maxRecDepth 100000 in
set_option maxHeartbeats 8000000 in
theorem refSplit_calls (l : List UInt8) (w : World) (hs : l.length ≤ 4294967270) :
    Calls Tryz.prog 84 #[.string (strL l)] w fun e w' => e = .returned (splitVal (splitBox l)) ∧ Below w.heap.size w w' := by
  have hsz := strL_size l
  have hidx := fun (j : Nat) (x : UInt8) (h : l[j]? = some x) => run_index_at (s := strL l) (j := j) (c := x) (by rw [strL_data]; exact h)
  have hhi := fun (b : Nat) (hb : b ≤ l.length) => run_slice_hi hb
  have hlo := fun (a : Nat) (ha : a ≤ l.length) => run_slice_lo ha
  have hloc := fun (b : Nat) W (hb : b ≤ l.length) => refLocal_calls (strL (l.take b)) W (by rw [strL_size, List.length_take]; omega)
  have hdom := fun (a : Nat) W => refDomain_calls (strL (l.drop a)) W (by rw [strL_size, List.length_drop]; omega)
  have hsm := fun (a : Nat) W => refSmall_calls (l.drop a) W (by rw [List.length_drop]; omega)
  simp only [strL_data] at hloc hdom
  obtain ⟨n, hn⟩ : ∃ n, l.length = n := ⟨_, rfl⟩
  rw [hn] at hsz hhi hlo hloc hs
  have Hn := Lib.hid hn
  have Hidx := Lib.hid hidx
  have Hhi := Lib.hid hhi
  have Hlo := Lib.hid hlo
  have Hloc := Lib.hid hloc
  have Hdom := Lib.hid hdom
  have Hsm := Lib.hid hsm
  have hni : (n : Int) ≤ 4294967270 := by omega
  clear hidx hhi hlo hloc hdom hsm hn hs
  generalize hsl : strL l = s at hsz Hidx Hhi Hlo
  clear hsl
  go_enter Tryz.func84, Tryz.ntmps84
  go_wp2
  go_loop [5] (fun i => ∃ j : Nat, j ≤ n ∧ i = .int .i64 j ∧ (∀ k : Nat, k < j → l[k]? ≠ some 64)) (fun i => n - (intOf i).toNat)
  case atStart => exact ⟨0, Nat.zero_le _, rfl, fun k hk => absurd hk (Nat.not_lt_zero _)⟩
  case round =>
    obtain ⟨j, hj, rfl, hinv⟩ := hrel
    by_cases hlt : j < n
    · obtain ⟨c, hc⟩ : ∃ c, l[j]? = some c := ⟨_, List.getElem?_eq_getElem (by rw [Hn.out]; exact hlt)⟩
      have hix := Hidx.out j c hc
      have q64 : ((c.toNat : Int) == 64) = (c == 64) := eqB c 64
      have hj1 : (j : Int) < (n : Int) := by omega
      have hj0 : (0 : Int) ≤ (j : Int) := by omega
      cases v64 : (c == 64)
      · rw [v64] at q64
        have hnx : ∀ k : Nat, k < j + 1 → l[k]? ≠ some 64 := by
          intro k hk h
          rcases (by omega : k < j ∨ k = j) with h1 | rfl
          · exact hinv k h1 h
          · rw [hc] at h; cases h; revert v64; decide
        have Hnx := Lib.hid hnx
        clear hnx v64 hc hinv
        go_wp2
        go_round
        case rel => exact ⟨j + 1, by omega, by go_num, Hnx.out⟩
        case measure => simp [intOf] <;> omega
      · have hc64 : c = 64 := by simpa using v64
        rw [v64] at q64
        have hcut : cutAt 64 l = some (l.take j, l.drop (j + 1)) := cutAt_first (by rw [hc, hc64]) hinv
        have hsb : splitBox l = if localB (l.take j) && domainB (l.drop (j + 1)) && decide (n ≤ 64) then some (l.take j, Lib.toLowerA (l.drop (j + 1))) else none := by
          unfold splitBox
          rw [hcut, Hn.out]
        have h1 := fun W => Hloc.out j W hj
        have h2 := fun W => Hdom.out (j + 1) W
        have h3 := fun W => Hsm.out (j + 1) W
        have hs1 := Hhi.out j hj
        have hs2 : ∀ W, (Instr.slice 9 (.string s) (some (.int .i64 ((j : Int) + 1))) none none).run Tryz.prog W = .ok (.string (strL (l.drop (j + 1)))) W := Hlo.out (j + 1) (by omega)
        generalize strL (l.drop (j + 1)) = sd at h2 h3 hs2
        have Hta := Lib.hid (rfl : strL (l.take j) = strL (l.take j))
        generalize hst : strL (l.take j) = st at h1 hs1
        generalize localB (l.take j) = p at h1 hsb
        generalize domainB (l.drop (j + 1)) = q at h2 hsb
        have H1 := Lib.hid h1
        have H2 := Lib.hid h2
        have H3 := Lib.hid h3
        have Hst := Lib.hid hst
        have Hsb := Lib.hid hsb
        have hwr : IntKind.i64.wrap ((j : Int) + 1) = (j : Int) + 1 := IntWalk.i64_in _ (by omega)
        clear h1 h2 h3 hst hsb hcut v64 hc64 hc hinv Hta
        by_cases h64 : (64 : Int) < (n : Int)
        · have Hr := Lib.hid (show splitBox l = none by rw [Hsb.out, decide_eq_false (by omega)]; simp)
          go_wp2
          go_ret3
          exact ⟨by rw [Hr.out]; rfl, Below.refl _ _⟩
        · have h64' : decide (n ≤ 64) = true := decide_eq_true (by omega)
          have H64 := Lib.hid h64'
          clear h64'
          cases p
          · have Hr := Lib.hid (show splitBox l = none by rw [Hsb.out]; simp)
            go_wp2_with fail
            refine (H1.out _).mono ?_; rintro e w2 ⟨rfl, rfl⟩
            go_wp2
            go_ret3
            exact ⟨by rw [Hr.out]; rfl, Below.refl _ _⟩
          · cases q
            · have Hr := Lib.hid (show splitBox l = none by rw [Hsb.out]; simp)
              go_wp2_with fail
              refine (H1.out _).mono ?_; rintro e w2 ⟨rfl, rfl⟩
              go_wp2_with fail
              refine (H2.out _).mono ?_; rintro e w3 ⟨rfl, hb3⟩
              go_wp2
              go_ret3
              exact ⟨by rw [Hr.out]; rfl, hb3⟩
            · have Hr := Lib.hid (show splitBox l = some (l.take j, Lib.toLowerA (l.drop (j + 1))) by rw [Hsb.out, H64.out]; rfl)
              go_wp2_with fail
              refine (H1.out _).mono ?_; rintro e w2 ⟨rfl, rfl⟩
              go_wp2_with fail
              refine (H2.out _).mono ?_; rintro e w3 ⟨rfl, hb3⟩
              go_wp2
              have hS : Hid (Below w2.heap.size w2 w3.drew) := hb3.drew
              go_region_held3 (fun w' => Hid (Below w2.heap.size w2 w'))
                (first | with_reducible exact hS | with_reducible assumption | exact (fun (hb : Below _ _ _) (h : Hid (Below w2.heap.size w2 _)) => (h.out.trans (hb.mono h.out.size) : Below w2.heap.size w2 _)) (by assumption) (by assumption))
                (first
                  | (go_at_call 93; refine (H3.out _).mono ?_; rintro e w4 ⟨rfl, hb4⟩))
              have hfin := (by assumption : Hid (Below w2.heap.size w2 w4))
              go_wp2
              go_ret3
              exact ⟨by rw [Hr.out]; simp only [splitVal]; rw [Hst.out]; rfl, hfin.out⟩
    · have hje : j = n := by omega
      subst hje
      have hcut : cutAt 64 l = none := cutAt_none fun k h => by
        have := (List.getElem?_eq_some_iff.1 h).1
        rw [Hn.out] at this
        exact hinv k this h
      have hsb : splitBox l = none := by unfold splitBox; rw [hcut]
      have Hr := Lib.hid hsb
      clear hcut hsb hinv
      go_wp2
      go_ret3
      exact ⟨by rw [Hr.out]; rfl, Below.refl _ _⟩
end Go.Proofs.YtjddicoigbidlaaGreatDoor

set_option linter.unusedSimpArgs false
set_option linter.unusedVariables false
namespace Go.Proofs.YtjddicoigbidlaaGreatDoor
open Go.RowKit
set_option maxRecDepth 100000 in
set_option maxHeartbeats 4000000 in
theorem refParse_calls (s : ByteArray) (w : World) (hs : s.size ≤ 4294967270) :
    Calls Tryz.prog 69 #[.string s] w fun e w' => e = .returned (parseVal (parseBox s.data.toList)) ∧ Below w.heap.size w w' := by
  have h1 := refSplit_calls s.data.toList w (by rw [← size_len]; exact hs)
  rw [strL_of] at h1
  unfold parseBox
  cases hp : splitBox s.data.toList with
  | none =>
    rw [hp] at h1
    simp only [splitVal] at h1
    have H1 := Lib.hid h1
    clear h1 hp
    go_enter Tryz.func69, Tryz.ntmps69
    go_wp2_with fail
    refine (H1.out).mono ?_; rintro e w1 ⟨rfl, hb1⟩
    go_wp2
    go_ret2
    exact ⟨rfl, hb1⟩
  | some p =>
    obtain ⟨ln1, ln2⟩ := splitBox_len hp
    obtain ⟨n, d⟩ := p
    rw [hp] at h1
    simp only [splitVal] at h1 ln1 ln2
    have e1 : ((strL n).size : Int) ≤ 8388608 := by rw [strL_size]; omega
    have e2 : ((strL d).size : Int) ≤ 8388608 := by rw [strL_size]; omega
    have e3 : ((strL n ++ ⟨#[64]⟩).size : Int) ≤ 8388608 := by
      rw [show (⟨#[64]⟩ : ByteArray) = strL [64] from rfl, strL_append, strL_size]; simp; omega
    have hsum : strL n ++ ⟨#[64]⟩ ++ strL d = strL (n ++ 64 :: d) := by
      rw [show (⟨#[64]⟩ : ByteArray) = strL [64] from rfl, strL_append, strL_append]; simp
    have Hsum := Lib.hid hsum
    have H1 := Lib.hid h1
    generalize hsn : strL n = sn at H1 e1 e3 Hsum
    generalize hsd : strL d = sd at H1 e2 Hsum
    clear h1 hp hsum hsn hsd ln1 ln2
    go_enter Tryz.func69, Tryz.ntmps69
    go_wp2_with fail
    refine (H1.out).mono ?_; rintro e w1 ⟨rfl, hb1⟩
    go_wp2
    go_ret2
    refine ⟨?_, hb1⟩
    show _ = Ending.returned (.tuple #[.string (strL (n ++ 64 :: d)), .bool true])
    rw [← Hsum.out]; rfl
set_option maxRecDepth 100000 in
set_option maxHeartbeats 4000000 in
theorem refBox_calls (s : ByteArray) (w : World) (hs : s.size ≤ 4294967270) :
    Calls Tryz.prog 45 #[.string s] w fun e w' => e = .returned (.bool (boxB s.data.toList)) ∧ Below w.heap.size w w' := by
  have h1 := refParse_calls s w hs
  unfold boxB
  cases hp : parseBox s.data.toList with
  | none =>
    rw [hp] at h1
    simp only [parseVal] at h1
    have H1 := Lib.hid h1
    clear h1 hp
    go_enter Tryz.func45, Tryz.ntmps45
    go_wp2_with fail
    refine (H1.out).mono ?_; rintro e w1 ⟨rfl, hb1⟩
    go_wp2
    go_ret
    exact ⟨rfl, hb1⟩
  | some t =>
    rw [hp] at h1
    simp only [parseVal] at h1
    have H1 := Lib.hid h1
    have hd : (some t == some s.data.toList) = (s.toList == (strL t).toList) := by
      by_cases h : t = s.data.toList
      · have h2 : strL t = s := by rw [h]; exact strL_of s
        rw [h2, h]; simp
      · have h2 : strL t ≠ s := fun e => h (by rw [← e, strL_data])
        rw [(Lib.bytes_beq_false_iff _ _).2 (Ne.symm h2)]
        simp [h]
    have Hd := Lib.hid hd
    clear h1 hp hd
    generalize strL t = st at H1 Hd
    go_enter Tryz.func45, Tryz.ntmps45
    go_wp2_with fail
    refine (H1.out).mono ?_; rintro e w1 ⟨rfl, hb1⟩
    go_wp2
    go_ret
    exact ⟨by rw [Hd.out]; rfl, hb1⟩
end Go.Proofs.YtjddicoigbidlaaGreatDoor

set_option linter.unusedSimpArgs false
set_option linter.unusedVariables false
namespace Go.Proofs.YtjddicoigbidlaaGreatDoor
open Go.RowKit
set_option maxHeartbeats 1000000 in
theorem envWithin_calls (n a b : Int) (w : World) :
    Calls Tryz.prog 46 #[.int .i64 n, .int .i64 a, .int .i64 b] w fun e w' => e = .returned (.bool (decide (a ≤ n ∧ n ≤ b))) ∧ w' = w := by
  by_cases h1 : a ≤ n
  · by_cases h2 : n ≤ b
    · rw [decide_eq_true ⟨h1, h2⟩]
      go_enter Tryz.func46, Tryz.ntmps46
      go_wp2
      go_ret
      exact ⟨by first | rfl | simp [h1, h2], rfl⟩
    · rw [decide_eq_false (fun h => h2 h.2)]
      go_enter Tryz.func46, Tryz.ntmps46
      go_wp2
      go_ret
      exact ⟨by first | rfl | simp [h1, h2], rfl⟩
  · rw [decide_eq_false (fun h => h1 h.1)]
    go_enter Tryz.func46, Tryz.ntmps46
    go_wp2
    go_ret
    exact ⟨by first | rfl | simp [h1], rfl⟩
/-- A body: no CR, and whole lines. -/
def bodyB (bs : List UInt8) : Bool := !bs.contains 13 && (decide (bs.length = 0) || bs.getLast? == some 10)
set_option maxRecDepth 100000 in
set_option maxHeartbeats 4000000 in
theorem refBody_calls (v : Value) (bs : List UInt8) (w : World) (hv : RdB w v bs) :
    Calls Tryz.prog 44 #[v] w fun e w' => e = .returned (.bool (bodyB bs)) ∧ w' = w := by
  obtain ⟨a, cap, rfl, hlc, hcap⟩ := hv.form
  have hcell : ∀ (j : Nat) x, bs[j]? = some x → ∃ b off, a = some ⟨b, off, none⟩ ∧ w.cell? ⟨b, off + j, none⟩ = some (.int .u8 x.toNat) := by
    intro j x hx
    rcases hv with ⟨_, _, _, _, h⟩ | ⟨b, off, cap', h1, h2, h3, h4, h5, h6⟩
    · subst h; cases hx
    · cases h1; exact ⟨b, off, rfl, h6 j x hx⟩
  obtain ⟨n, hn⟩ : ∃ n, bs.length = n := ⟨_, rfl⟩
  rw [hn] at hlc ⊢
  have Hn := Lib.hid hn
  have Hcell := Lib.hid hcell
  have hni : (n : Int) ≤ 9223372036854775807 := by omega
  clear hn hcell hv
  go_enter Tryz.func44, Tryz.ntmps44
  go_wp2
  go_loop [3] (fun i => ∃ j : Nat, j ≤ n ∧ i = .int .i64 j ∧ (∀ k : Nat, k < j → bs[k]? ≠ some 13)) (fun i => n - (intOf i).toNat)
  case atStart => exact ⟨0, Nat.zero_le _, rfl, fun k hk => absurd hk (Nat.not_lt_zero _)⟩
  case round =>
    obtain ⟨j, hj, rfl, hinv⟩ := hrel
    by_cases hlt : j < n
    · obtain ⟨c, hc⟩ : ∃ c, bs[j]? = some c := ⟨_, List.getElem?_eq_getElem (by rw [Hn.out]; exact hlt)⟩
      obtain ⟨b, off, rfl, hcl⟩ := Hcell.out j c hc
      have q13 : ((c.toNat : Int) == 13) = (c == 13) := eqB c 13
      have hj0 : (0 : Int) ≤ (j : Int) := by omega
      have hj1 : (j : Int) < (n : Int) := by omega
      cases v13 : (c == 13)
      · rw [v13] at q13
        have hnx : ∀ k : Nat, k < j + 1 → bs[k]? ≠ some 13 := by
          intro k hk h
          rcases (by omega : k < j ∨ k = j) with h1 | rfl
          · exact hinv k h1 h
          · rw [hc] at h; cases h; revert v13; decide
        have Hnx := Lib.hid hnx
        clear hnx v13 hc hinv
        go_wp2
        go_round
        case rel => exact ⟨j + 1, by omega, by go_num, Hnx.out⟩
        case measure => simp [intOf] <;> omega
      · have hres : bodyB bs = false := by
          have : c = 13 := by simpa using v13
          unfold bodyB
          have hm : bs.contains 13 = true := by rw [List.contains_iff_mem]; rw [← this]; exact List.mem_of_getElem? hc
          rw [hm]; rfl
        have Hr := Lib.hid hres
        rw [v13] at q13
        clear hres v13 hc hinv
        go_wp2
        go_ret
        exact ⟨by rw [Hr.out]; rfl, rfl⟩
    · have hje : j = n := by omega
      subst hje
      have hno : bs.contains 13 = false := by
        cases h : bs.contains 13 with
        | false => rfl
        | true =>
          rw [List.contains_iff_mem] at h
          obtain ⟨i, hi⟩ := List.getElem?_of_mem h
          exact absurd hi (hinv i (by have := (List.getElem?_eq_some_iff.1 hi).1; rw [Hn.out] at this; exact this))
      by_cases h0 : j = 0
      · have hres : bodyB bs = true := by unfold bodyB; rw [hno, Hn.out, decide_eq_true h0]; rfl
        have Hr := Lib.hid hres
        have hz : ((j : Int) == 0) = true := by simpa using h0
        clear hres hno hinv h0
        go_wp2
        go_ret
        exact ⟨by rw [Hr.out]; rfl, rfl⟩
      · obtain ⟨c, hc⟩ : ∃ c, bs[j - 1]? = some c := ⟨_, List.getElem?_eq_getElem (by rw [Hn.out]; omega)⟩
        obtain ⟨b, off, rfl, hcl⟩ := Hcell.out (j - 1) c hc
        have hres : bodyB bs = (c == 10) := by
          unfold bodyB
          rw [hno, List.getLast?_eq_getElem?, Hn.out, hc, decide_eq_false h0]; rfl
        have Hr := Lib.hid hres
        have q10 : ((c.toNat : Int) == 10) = (c == 10) := eqB c 10
        have hz : ((j : Int) == 0) = false := by simpa using h0
        have hj2 : (1 : Int) ≤ (j : Int) := by omega
        have hj3 : (0 : Int) ≤ (j : Int) - 1 := by omega
        have hj4 : (j : Int) - 1 < (j : Int) := by omega
        have hto : ((j : Int) - 1).toNat = j - 1 := by omega
        clear hres hno hinv hc h0
        generalize (c == 10) = r at q10 Hr
        go_wp2
        go_ret
        exact ⟨by rw [Hr.out]; rfl, rfl⟩
end Go.Proofs.YtjddicoigbidlaaGreatDoor

set_option linter.unusedSimpArgs false
set_option linter.unusedVariables false
namespace Go.Proofs.YtjddicoigbidlaaGreatDoor
open Go.RowKit
theorem run_strL {w : World} {v : Value} {bs : List UInt8} (h : RdB w v bs) : (convert 23 9 v).run Tryz.prog w = .ok (.string (strL bs)) w := by
  rcases h with ⟨a, c, rfl, _, rfl⟩ | ⟨b, off, cap, rfl, h0, h1, h2, h3, h4⟩
  · cases a with
    | none => simp [convert, run_underlying Tryz.underlying23, run_underlying Tryz.underlying9, run_underlying Tryz.underlying5, Conv.bytesToString, go_sem]; rfl
    | some a => simp [convert, run_underlying Tryz.underlying23, run_underlying Tryz.underlying9, run_underlying Tryz.underlying5, Conv.bytesToString, loadCells, go_sem]; rfl
  · have := run_convert_bytes_arg (P := Tryz.prog) w 23 5 Tryz.underlying23 Tryz.underlying5 b off bs.length cap (bs.map fun x => (x.toNat : Int)) (by simp) (fun i hi => by
      rw [h4 i bs[i] (List.getElem?_eq_getElem hi)]
      simp [List.getD, List.getElem?_eq_getElem hi]) 9 Tryz.underlying9
    rw [this]
    have e : strOfNums (bs.map fun x => (x.toNat : Int)) = strL bs := by simp [strL, strOfNums, Function.comp_def]
    rw [e]
def endB (l : List UInt8) : Bool := decide (l.length = 0) || l.getLast? == some 10
theorem end_rest (t r : List UInt8) : endB (t ++ 10 :: r) = endB r := by
  unfold endB
  rw [decide_eq_false (by simp), Bool.false_or, List.getLast?_append, List.getLast?_cons]
  cases h : r.getLast? with
  | none =>
    have : r = [] := List.getLast?_eq_none_iff.1 h
    subst this; rfl
  | some x =>
    have : r ≠ [] := by intro e; subst e; cases h
    rw [decide_eq_false (by rw [List.length_eq_zero_iff]; exact this), Bool.false_or]; rfl
theorem end_none {l : List UInt8} (h : cutAt 10 l = none) (hne : l ≠ []) : endB l = false := by
  unfold endB
  rw [decide_eq_false (by rw [List.length_eq_zero_iff]; exact hne), Bool.false_or, beq_eq_false_iff_ne]
  intro hl
  have hm : (10 : UInt8) ∈ l := List.mem_of_getLast? hl
  have : ∀ l : List UInt8, cutAt 10 l = none → (10 : UInt8) ∉ l := by
    intro l
    induction l with
    | nil => simp
    | cons x xs ih =>
      intro h
      by_cases hx : x = 10
      · rw [cutAt, if_pos hx] at h; cases h
      · rw [cutAt, if_neg hx] at h
        have h2 : cutAt 10 xs = none := by cases hc : cutAt 10 xs with | none => rfl | some p => rw [hc] at h; cases h
        intro hm
        rcases List.mem_cons.1 hm with e | hm
        · exact hx e.symm
        · exact ih h2 hm
  exact this l h hm
def strSz : Value → Nat
  | .string s => s.size
  | _ => 0
set_option maxRecDepth 100000 in
set_option maxHeartbeats 8000000 in
theorem dotsLines_calls (v : Value) (bs : List UInt8) (w : World) (hv : RdB w v bs) (hs : bs.length < 4294967281) (hmax : MaxOk w) :
    Calls Tryz.prog 47 #[v] w fun e w' => (∃ x, e = .returned (.tuple #[x, .bool (bodyB bs)])) ∧ Below w.heap.size w w' := by
  obtain ⟨i0, hi, hz0, hz1, hz2⟩ := info_parts infoStr
  obtain ⟨a, cap, rfl, hlc, hcap⟩ := hv.form
  have hstr := run_strL hv
  have hcon := fun W => Tryz.strings_Contains_one (strL bs) 13 W
  rw [strL_data, indexByte_contains] at hcon
  have hbody : bodyB bs = (!bs.contains 13 && endB bs) := rfl
  have hend : ∀ e, endB bs = e → endB bs = e := fun _ h => h
  rw [hbody]
  obtain ⟨n, hn⟩ : ∃ n, bs.length = n := ⟨_, rfl⟩
  rw [hn] at hlc hstr hs ⊢
  have Hn := Lib.hid hn
  have hsz := strL_size bs
  rw [hn] at hsz
  have Hmax := Lib.hid hmax
  clear hv hn hbody hend hmax
  generalize hc13 : bs.contains 13 = c13 at hcon
  have Hcon := Lib.hid hcon
  clear hc13 hcon
  generalize hgs : strL bs = s0 at hstr Hcon hsz
  cases c13
  · obtain ⟨eb, heb⟩ : ∃ e, endB bs = e := ⟨_, rfl⟩
    have Heb := Lib.hid heb
    rw [heb]
    clear heb
    go_enter Tryz.func47, Tryz.ntmps47
    go_wp2_with fail
    refine (Hcon.out _).mono ?_; rintro e w1 ⟨rfl, rfl⟩
    go_wp2
    go_loopw [4, 5] (fun s o wr => ∃ (cur : List UInt8) (out : List (List UInt8)), s = .string (strL cur) ∧ endB cur = eb ∧ out.length + cur.length ≤ n ∧ wr.ownsRow w1.heap.size 9 1 o out.length (out.flatMap s1) ∧ Below w1.heap.size w1 wr) (fun s _ _ => strSz s)
    case atStart => exact ⟨bs, [], by rw [hgs], Heb.out, by rw [Hn.out]; simp, nil_row0 _ _ _ _, Below.refl _ _⟩
    case round =>
      obtain ⟨cur, out, rfl, hce, hol, hown, hbw⟩ := hrel
      have hcsz := strL_size cur
      by_cases h0 : cur = []
      · subst h0
        have : eb = true := by rw [← hce]; rfl
        subst this
        rw [show strL [] = (⟨#[]⟩ : ByteArray) from rfl]
        clear hce
        go_wp2
        go_ret2
        exact ⟨⟨_, rfl⟩, hbw⟩
      · have hne : (strL cur).size ≠ 0 := by rw [hcsz]; exact fun h => h0 (List.length_eq_zero_iff.1 h)
        have hb := empty_ne hne
        have hb2 : (strL cur).toList.isEmpty = false := by simpa using hb
        obtain ⟨m, hm⟩ := Hmax.out.below hbw
        have hcut := Tryz.strings_Cut (strL cur) ⟨#[10]⟩ m wr (by rw [hcsz]; omega) hm
        rw [show (⟨#[10]⟩ : ByteArray).data.toList = [10] from rfl, cut_one, strL_data] at hcut
        rcases index_one 10 cur with ⟨h1, _⟩ | ⟨t, r, h1, h2, _⟩
        · rw [h1] at hcut
          simp only at hcut
          have : eb = false := by rw [← hce]; exact end_none h1 h0
          subst this
          have Hcut := Lib.hid hcut
          clear hcut h1 h0 hce hm
          generalize strL cur = sc at hb hb2 Hcut hcsz hne
          go_wp2_with fail
          refine (Hcut.out).mono ?_; rintro e w2 ⟨rfl, k, rfl⟩
          go_wp2
          go_ret2
          exact ⟨⟨_, rfl⟩, below_drewN hbw _⟩
        · rw [h1] at hcut
          simp only at hcut
          have hce2 : endB r = eb := by rw [← hce, h2, end_rest]
          have hln : out.length + 1 + r.length ≤ n ∧ r.length < cur.length := by
            have := congrArg List.length h2
            simp at this
            omega
          have hrow2 : ∀ k, (wr.drewN k).ownsRow w1.heap.size 9 1 u5 out.length (out.flatMap s1) := fun k => own_below hown (below_drewN (Below.refl _ _) k) (Nat.le_refl _)
          rw [show (⟨t.toArray⟩ : ByteArray) = strL t from rfl, show (⟨r.toArray⟩ : ByteArray) = strL r from rfl] at hcut
          have Hcut := Lib.hid hcut
          have Hce2 := Lib.hid hce2
          have Hln := Lib.hid hln
          have Hrow2 := Lib.hid hrow2
          have Hbw := Lib.hid hbw
          clear hcut h1 h0 hce hm h2 hce2 hln hrow2
          generalize strL cur = sc at hb hb2 Hcut hcsz hne
          go_wp2_with fail
          refine (Hcut.out).mono ?_; rintro e w2 ⟨rfl, k, rfl⟩
          have hrow := Hrow2.out k
          have hbk := below_drewN Hbw.out k
          generalize wr.drewN k = wk at hrow hbk
          have hncell := news_new wk (s1 t) 9 (0, 0)
          have Hncell := Lib.hid hncell
          have hcs1 : ∀ u ∈ s1 t, u.oneCell' = true := by intro u hu; exact s1_one [t] u (by simpa using hu)
          have Hcs1 := Lib.hid hcs1
          have hbd1 : out.length + 1 ≤ maxLen := by show out.length + 1 ≤ 9223372036854775807; omega
          have hbd2 : (out.length + 1) * 16 ≤ 140737488355328 := by omega
          have hbd3 : w1.heap.size ≤ (wk.alloc (.cells #[.string (strL t)] 9)).heap.size := by have := hbk.size; simp; omega
          clear hncell hcs1 hown hbw
          go_wp2_with (at_builtin; go_must (refine wpList_append_own _ rfl _ _ 22 rfl w1.heap.size 9 i0 _ 1 16 Tryz.underlying22 hi hz0 hz1 hz2 rfl (by decide) _ _ _ rfl (hrow.alloc _) ⟨wk.heap.size, 0, none⟩ 1 1 (s1 t) rfl rfl Hncell.out Hcs1.out hbd1 hbd2 hbd3 ?_); rintro v' w3 hown3 hg3 _)
          go_roundw
          case rel =>
            refine ⟨r, out ++ [t], rfl, Hce2.out, by rw [List.length_append]; exact Hln.out.1, ?_, Below.grown (hbk.alloc hbk.size _) hg3 (by have := hbk.size; simp; omega) (fun k hk => own_base hrow k hk)⟩
            rw [List.length_append, List.flatMap_append, List.flatMap_singleton]; exact hown3
          case measure =>
            simp only [strSz]
            rw [hcsz, strL_size]
            exact Hln.out.2
  · go_enter Tryz.func47, Tryz.ntmps47
    go_wp2_with fail
    refine (Hcon.out _).mono ?_; rintro e w1 ⟨rfl, rfl⟩
    go_wp2
    go_ret2
    exact ⟨⟨_, rfl⟩, Below.refl _ _⟩
end Go.Proofs.YtjddicoigbidlaaGreatDoor

set_option linter.unusedSimpArgs false
set_option linter.unusedVariables false
namespace Go.Proofs.YtjddicoigbidlaaGreatDoor
open Go.RowKit
/-- A slice value without an address is nil. -/
def NilOk (v : Value) : Prop := ∀ l c, v = .slice none l c → l = 0 ∧ c = 0
theorem RdL.news {α : Type} {s : Nat} {f : α → List Value} (hf : ∀ x, (f x).length = s) (hs : 0 < s) {w : World} {b off len cap : Nat} {xs : List α} (h : RdL s f w (.slice (some ⟨b, off, none⟩) len cap) xs) :
    ∀ (j : Nat) u, (xs.flatMap f)[j]? = some u → w.cell? ((⟨b, off, none⟩ : Addr).add j) = some u := by
  intro j u hu
  rcases h with ⟨_, _, _, _, rfl⟩ | ⟨b', off', cap', hv, h0, h1, h2, h3, h4⟩
  · cases hu
  · cases hv
    have hj : j < xs.length * s := by have := (List.getElem?_eq_some_iff.1 hu).1; rw [flat_len hf] at this; exact this
    have hdiv : j / s < xs.length := (Nat.div_lt_iff_lt_mul hs).2 hj
    have hmod : j % s < s := Nat.mod_lt _ hs
    have e : j = j / s * s + j % s := by rw [Nat.mul_comm]; exact (Nat.div_add_mod j s).symm
    have hx : xs[j / s]? = some xs[j / s] := List.getElem?_eq_getElem hdiv
    have hg := flat_get hf hs xs _ _ hx _ hmod
    rw [← e, hu] at hg
    have := h4 _ _ hx _ _ hg.symm
    rw [← e] at this
    rw [add_at]
    exact this
theorem addr_some {α : Type} {s : Nat} {f : α → List Value} {w : World} {a : Option Addr} {len cap : Nat} {xs : List α} (h : RdL s f w (.slice a len cap) xs) (hne : xs ≠ []) : ∃ b off, a = some ⟨b, off, none⟩ := by
  rcases h with ⟨_, _, _, _, rfl⟩ | ⟨b', off', cap', hv, h0, h1, h2, h3, h4⟩
  · exact absurd rfl hne
  · cases hv; exact ⟨_, _, rfl⟩
theorem wpList_append_any {α : Type} {s : Nat} {f : α → List Value} (hf : ∀ x, (f x).length = s) (hs0 : 0 < s) {P : Program} {w : World} {ops : Array Oper} {rest : List Oper} {o : Oper} {a : Act} {Q : Exit → Act → World → Prop} (hgd : o.guard = none) (s1 x : Operand) (t : TypeId)
    (ho : o.op = .call { callee := .builtin .append, args := #[s1, x], argTypes := #[t, t] })
    (base : Nat) (e : TypeId) (i : TypeInfo) (z : Value) (bytes : Nat) (ht : P.underlying t = some (.slice e)) (hi : P.info? e = some i) (hz : i.zero = some z)
    (hsize : i.size = s) (hby : i.bytes = bytes) (hzs : z.cells.size = s)
    (v : Value) (n : Nat) (xs : List Value) (hs : a.eval s1 = v) (hown : w.ownsRow base e s v n xs)
    (u : Value) (ys : List α) (hx : a.eval x = u) (hr : RdL s f w u ys) (hn : NilOk u) (h1 : ∀ c ∈ ys.flatMap f, c.oneCell' = true)
    (h63 : n + ys.length ≤ maxLen) (hbytes : (n + ys.length) * bytes ≤ 140737488355328) (hbase : base ≤ w.heap.size)
    (h : ∀ v' w', w'.ownsRow base e s v' (n + ys.length) (xs ++ ys.flatMap f) → w.grownBy w' v.ownBlock → NilOk v' → wpList P ops Q rest (a.put o.dst v') w') : wpList P ops Q (o :: rest) a w := by
  have hnil : ∀ {v' : Value} {w' : World} {k : Nat} {cs : List Value}, w'.ownsRow base e s v' k cs → NilOk v' := by
    intro v' w' k cs h l c hv
    obtain ⟨_, ⟨h2, h3⟩ | ⟨g, cap, cur, hv', _⟩⟩ := h
    · rw [hv] at h2; cases h2; exact ⟨rfl, rfl⟩
    · rw [hv] at hv'; cases hv'
  obtain ⟨ad, cap, rfl, _, _⟩ := hr.form
  cases ad with
  | none =>
    obtain ⟨hl, hc⟩ := hn _ _ rfl
    have hy : ys = [] := List.length_eq_zero_iff.1 hl
    subst hy
    subst hc
    refine wpList_append_own_none hgd s1 x t ho base e i s ht hi v n xs hs hown hx (h v w (by simpa using hown) (World.grownBy.refl _ _) (hnil hown))
  | some ad =>
    refine wpList_append_own w hgd s1 x t ho base e i z s bytes ht hi hz hsize hby hzs hs0 v n xs hs hown ad ys.length cap (ys.flatMap f) hx (flat_len hf ys) ?_ h1 h63 hbytes hbase (fun v' w' h2 h3 _ => h v' w' h2 h3 (hnil h2))
    by_cases hy : ys = []
    · subst hy; intro j u hu; cases hu
    · obtain ⟨b, off, e⟩ := addr_some hr hy
      cases e
      exact hr.news hf hs0
end Go.Proofs.YtjddicoigbidlaaGreatDoor

set_option linter.unusedSimpArgs false
set_option linter.unusedVariables false
namespace Go.Proofs.YtjddicoigbidlaaGreatDoor
open Go.RowKit
set_option maxHeartbeats 1000000 in
theorem envGoodFn_calls (s : ByteArray) (w : World) (hs : s.size < 4294967281) (hmax : MaxOk w) :
    Calls Tryz.prog 50 #[.string s] w fun e w' => e = .returned (.bool (!boxB s.data.toList)) ∧ Below w.heap.size w w' := by
  have h1 := envBox_calls s w hs hmax
  generalize boxB s.data.toList = p at h1
  have H1 := Lib.hid h1
  clear h1
  go_enter Tryz.func50, Tryz.ntmps50
  go_wp2_with fail
  refine (H1.out).mono ?_; rintro e w1 ⟨rfl, hb1⟩
  go_wp2
  go_ret
  exact ⟨rfl, hb1⟩
/-- A slice of texts. -/
abbrev RdS := RdL 1 s1
theorem RdS.at {w : World} {v : Value} {ls : List (List UInt8)} (h : RdS w v ls) {i : Nat} {l : List UInt8} (hl : ls[i]? = some l) :
    ∃ b off cap, v = .slice (some ⟨b, off, none⟩) ls.length cap ∧ b < w.heap.size ∧ w.cell? ⟨b, off + i, none⟩ = some (.string (strL l)) := by
  obtain ⟨b, off, cap, h1, h2, h3⟩ := RdL.at h hl
  have := h3 0 _ rfl
  rw [Nat.mul_one, Nat.add_zero] at this
  exact ⟨b, off, cap, h1, h2, this⟩
set_option maxRecDepth 100000 in
set_option maxHeartbeats 4000000 in
theorem indexBad_calls (v : Value) (ls : List (List UInt8)) (w : World) (hv : RdS w v ls) (hs : ∀ l ∈ ls, l.length < 4294967281) (hmax : MaxOk w) :
    Calls Tryz.prog 73 #[v, .func (.func 50) #[] #[]] w fun e w' => (∃ i : Int, e = .returned (.int .i64 i) ∧ ((0 ≤ i ∧ ls.all boxB = false) ∨ (i = -1 ∧ ls.all boxB = true))) ∧ Below w.heap.size w w' := by
  obtain ⟨a, cap, rfl, hlc, hcap⟩ := hv.form
  have hfn := fun (l : List UInt8) W (h : l ∈ ls) hM => envGoodFn_calls (strL l) W (by rw [strL_size]; exact hs l h) hM
  simp only [strL_data] at hfn
  have Hfn := Lib.hid hfn
  have Hv := Lib.hid hv
  have Hmax := Lib.hid hmax
  have hni : (ls.length : Int) ≤ 9223372036854775807 := by omega
  clear hfn hv hs hmax
  go_enter Tryz.func73, Tryz.ntmps73
  go_wp2
  go_loopw [8] (fun i wr => ∃ j : Nat, j ≤ ls.length ∧ i = .int .i64 j ∧ (ls.take j).all boxB = true ∧ Below w.heap.size w wr) (fun i _ => ls.length - (intOf i).toNat)
  case atStart => exact ⟨0, Nat.zero_le _, rfl, rfl, Below.refl _ _⟩
  case round =>
    obtain ⟨j, hj, rfl, hall, hbw⟩ := hrel
    by_cases hlt : j < ls.length
    · obtain ⟨l, hl⟩ : ∃ l, ls[j]? = some l := ⟨_, List.getElem?_eq_getElem hlt⟩
      obtain ⟨b, off, cap', hsl, hbl, hc⟩ := RdS.at (Hv.out.below (Nat.le_refl _) hbw) hl
      cases hsl
      have hM := Hmax.out.below hbw
      have hcall := fun W hM => Hfn.out l W (List.mem_of_getElem? hl) hM
      have htk : boxB l = true → (ls.take (j + 1)).all boxB = true := fun h => by rw [take_snoc hl, List.all_append, hall]; simpa using h
      have hno : boxB l = false → ls.all boxB = false := fun h => by rw [List.all_eq_false]; exact ⟨l, List.mem_of_getElem? hl, by rw [h]; simp⟩
      generalize boxB l = p at hcall htk hno
      have Hcall := Lib.hid hcall
      have Htk := Lib.hid htk
      have Hno := Lib.hid hno
      have HM := Lib.hid hM
      have hj0 : (0 : Int) ≤ (j : Int) := by omega
      have hj1 : (j : Int) < (ls.length : Int) := by omega
      clear hcall htk hno hall hl hM
      generalize strL l = sl at hc Hcall
      cases p
      · go_wp2_with fail
        refine (Hcall.out _ HM.out).mono ?_; rintro e w2 ⟨rfl, hb2⟩
        go_wp2
        go_ret
        exact ⟨⟨_, rfl, .inl ⟨hj0, Hno.out (by trivial)⟩⟩, hbw.trans (hb2.mono hbw.size)⟩
      · go_wp2_with fail
        refine (Hcall.out _ HM.out).mono ?_; rintro e w2 ⟨rfl, hb2⟩
        go_wp2
        go_roundw
        case rel => exact ⟨j + 1, by omega, by simp, Htk.out (by trivial), hbw.trans (hb2.mono hbw.size)⟩
        case measure => simp [intOf] <;> omega
    · have hje : j = ls.length := by omega
      subst hje
      rw [List.take_of_length_le (Nat.le_refl _)] at hall
      have Hall := Lib.hid hall
      clear hall
      go_wp2
      go_ret
      exact ⟨⟨_, rfl, .inr ⟨rfl, Hall.out⟩⟩, hbw⟩
set_option maxRecDepth 100000 in
set_option maxHeartbeats 4000000 in
theorem containsBad_calls (v : Value) (ls : List (List UInt8)) (w : World) (hv : RdS w v ls) (hs : ∀ l ∈ ls, l.length < 4294967281) (hmax : MaxOk w) :
    Calls Tryz.prog 49 #[v, .func (.func 50) #[] #[]] w fun e w' => e = .returned (.bool (!ls.all boxB)) ∧ Below w.heap.size w w' := by
  have h1 := indexBad_calls v ls w hv hs hmax
  generalize ls.all boxB = p at h1
  have H1 := Lib.hid h1
  clear h1 hv hs hmax
  go_enter Tryz.func49, Tryz.ntmps49
  go_wp2_with fail
  refine (H1.out).mono ?_; rintro e w1 ⟨⟨i, rfl, hi⟩, hb1⟩
  rcases hi with ⟨h0, rfl⟩ | ⟨rfl, rfl⟩
  · go_wp2
    go_ret
    exact ⟨by first | rfl | simp [h0], hb1⟩
  · go_wp2
    go_ret
    exact ⟨rfl, hb1⟩
end Go.Proofs.YtjddicoigbidlaaGreatDoor

set_option linter.unusedSimpArgs false
set_option linter.unusedVariables false
namespace Go.Proofs.YtjddicoigbidlaaGreatDoor
open Go.RowKit
/-- A mail, as plain data. -/
structure MailD where
  id : Int
  parent : Int
  born : Int
  frm : List UInt8
  rcpts : List (List UInt8)
  body : List UInt8
abbrev mailVal (m : MailD) (vr vb : Value) : Value := .agg #[.int .i64 m.id, .int .i64 m.parent, .int .i64 m.born, .string (strL m.frm), vr, vb]
def MailD.good (m : MailD) : Bool :=
  decide (1 ≤ m.id ∧ m.id ≤ 999999999) && (decide (0 ≤ m.parent ∧ m.parent ≤ m.id - 1) && (decide (0 ≤ m.born ∧ m.born ≤ 1099511627776) && (decide (1 ≤ (m.rcpts.length : Int) ∧ (m.rcpts.length : Int) ≤ 8) && (decide (m.body.length ≤ 8192) && (bodyB m.body && ((decide (m.frm.length = 0) || boxB m.frm) && m.rcpts.all boxB))))))
theorem mailInfo : Tryz.prog.cellsOf 25 = 6 := by kernel_rfl
set_option maxRecDepth 100000 in
set_option maxHeartbeats 8000000 in
theorem envGood_calls (m : MailD) (vr vb : Value) (w : World) (hr : RdS w vr m.rcpts) (hb : RdB w vb m.body) (hsr : ∀ l ∈ m.rcpts, l.length < 4294967281) (hsf : m.frm.length < 4294967281) (hmax : MaxOk w) :
    Calls Tryz.prog 17 #[mailVal m vr vb] w fun e w' => e = .returned (.bool m.good) ∧ Below w.heap.size w w' := by
  obtain ⟨ar, capr, rfl, hlr, hcr⟩ := hr.form
  obtain ⟨ab, capb, rfl, hlb, hcb⟩ := hb.form
  obtain ⟨id, parent, born, frm, rcpts, body⟩ := m
  simp only at hr hb hsr hsf hlr hlb
  unfold MailD.good mailVal
  simp only
  obtain ⟨W, hW⟩ : ∃ W, w.alloc (.cells #[.int .i64 id, .int .i64 parent, .int .i64 born, .string (strL frm), .slice ar rcpts.length capr, .slice ab body.length capb] 25) = W := ⟨_, rfl⟩
  have hbW : Below w.heap.size w W := by rw [← hW]; exact (Below.refl _ _).alloc (Nat.le_refl _) _
  have hblk : W.heap[w.heap.size]? = some (.cells #[.int .i64 id, .int .i64 parent, .int .i64 born, .string (strL frm), .slice ar rcpts.length capr, .slice ab body.length capb] 25 (0, 0)) := by rw [← hW]; exact heap_alloc_new w _
  have hw1 := fun W => envWithin_calls id 1 999999999 W
  have hw2 := fun W => envWithin_calls parent 0 (id - 1) W
  have hw3 := fun W => envWithin_calls born 0 1099511627776 W
  have hw4 := fun W => envWithin_calls (rcpts.length : Int) 1 8 W
  have hdl := fun (h : body.length ≤ 8192) => dotsLines_calls (.slice ab body.length capb) body W (hb.below (Nat.le_refl _) hbW) (by omega) (hmax.below hbW)
  have hbx := fun W hM => envBox_calls (strL frm) W (by rw [strL_size]; exact hsf) hM
  have hcf := fun W (hR : RdS W (.slice ar rcpts.length capr) rcpts) hM => containsBad_calls (.slice ar rcpts.length capr) rcpts W hR hsr hM
  rw [strL_data] at hbx
  have hcell : ∀ W', Below W.heap.size W W' → ∀ (j : Nat) v, (#[Value.int .i64 id, .int .i64 parent, .int .i64 born, .string (strL frm), .slice ar rcpts.length capr, .slice ab body.length capb] : Array Value)[j]? = some v → W'.cell? ⟨w.heap.size, j, none⟩ = some v := by
    intro W' hB j v hv
    rw [cell_of_row _ _ _ _ _ _ ((hB.block _ (Array.getElem?_eq_some_iff.1 hblk).1).trans hblk)]
    exact hv
  have hRW : ∀ W', Below W.heap.size W W' → RdS W' (.slice ar rcpts.length capr) rcpts := fun W' hB => (hr.below (Nat.le_refl _) hbW).below (Nat.le_refl _) hB
  have hMW : ∀ W', Below W.heap.size W W' → MaxOk W' := fun W' hB => (hmax.below hbW).below hB
  have c0 := hcell W (Below.refl _ _) 0 _ rfl
  have c1 := hcell W (Below.refl _ _) 1 _ rfl
  have c2 := hcell W (Below.refl _ _) 2 _ rfl
  have c4 := hcell W (Below.refl _ _) 4 _ rfl
  have c5 := hcell W (Below.refl _ _) 5 _ rfl
  have hsf0 := strL_size frm
  generalize bodyB body = p6 at hdl
  generalize boxB frm = p8 at hbx
  generalize rcpts.all boxB = p9 at hcf
  have Hw1 := Lib.hid hw1
  have Hw2 := Lib.hid hw2
  have Hw3 := Lib.hid hw3
  have Hw4 := Lib.hid hw4
  have Hdl := Lib.hid hdl
  have Hbx := Lib.hid hbx
  have Hcf := Lib.hid hcf
  have Hcell := Lib.hid hcell
  have HRW := Lib.hid hRW
  have HMW := Lib.hid hMW
  have hfl : frm.length = 0 ↔ (strL frm).size = 0 := by rw [hsf0]
  have Hfl := Lib.hid hfl
  have HW := Lib.hid hW
  clear hw1 hw2 hw3 hw4 hdl hbx hcf hcell hRW hMW hr hb hsr hsf hmax hblk hsf0 hfl
  have hlri : (rcpts.length : Int) ≤ 9223372036854775807 := by omega
  have hlbi : (body.length : Int) ≤ 9223372036854775807 := by omega
  by_cases h1 : ¬ (1 ≤ id ∧ id ≤ 999999999)
  · have hd : decide (1 ≤ id ∧ id ≤ 999999999) = false := decide_eq_false h1
    rw [hd] at Hw1 ⊢
    clear hd h1
    go_enter Tryz.func17, Tryz.ntmps17
    go_wp2_with fail
    refine (Hw1.out _).mono ?_; rintro e _ ⟨rfl, rfl⟩
    go_wp2
    go_ret
    exact ⟨rfl, hbW⟩
  replace h1 := Decidable.not_not.1 h1
  have hd1 : decide (1 ≤ id ∧ id ≤ 999999999) = true := decide_eq_true h1
  rw [hd1] at Hw1 ⊢
  clear hd1
  obtain ⟨h1a, h1b⟩ := h1
  by_cases h2 : ¬ (0 ≤ parent ∧ parent ≤ id - 1)
  · have hd : decide (0 ≤ parent ∧ parent ≤ id - 1) = false := decide_eq_false h2
    rw [hd] at Hw2 ⊢
    clear hd h2
    go_enter Tryz.func17, Tryz.ntmps17
    go_wp2_with fail
    refine (Hw1.out _).mono ?_; rintro e _ ⟨rfl, rfl⟩
    go_wp2_with fail
    refine (Hw2.out _).mono ?_; rintro e _ ⟨rfl, rfl⟩
    go_wp2
    go_ret
    exact ⟨rfl, hbW⟩
  replace h2 := Decidable.not_not.1 h2
  have hd2 : decide (0 ≤ parent ∧ parent ≤ id - 1) = true := decide_eq_true h2
  rw [hd2] at Hw2 ⊢
  clear hd2
  by_cases h3 : ¬ (0 ≤ born ∧ born ≤ 1099511627776)
  · have hd : decide (0 ≤ born ∧ born ≤ 1099511627776) = false := decide_eq_false h3
    rw [hd] at Hw3 ⊢
    clear hd h3
    go_enter Tryz.func17, Tryz.ntmps17
    go_wp2_with fail
    refine (Hw1.out _).mono ?_; rintro e _ ⟨rfl, rfl⟩
    go_wp2_with fail
    refine (Hw2.out _).mono ?_; rintro e _ ⟨rfl, rfl⟩
    go_wp2_with fail
    refine (Hw3.out _).mono ?_; rintro e _ ⟨rfl, rfl⟩
    go_wp2
    go_ret
    exact ⟨rfl, hbW⟩
  replace h3 := Decidable.not_not.1 h3
  have hd3 : decide (0 ≤ born ∧ born ≤ 1099511627776) = true := decide_eq_true h3
  rw [hd3] at Hw3 ⊢
  clear hd3
  by_cases h4 : ¬ (1 ≤ (rcpts.length : Int) ∧ (rcpts.length : Int) ≤ 8)
  · have hd : decide (1 ≤ (rcpts.length : Int) ∧ (rcpts.length : Int) ≤ 8) = false := decide_eq_false h4
    rw [hd] at Hw4 ⊢
    clear hd h4
    go_enter Tryz.func17, Tryz.ntmps17
    go_wp2_with fail
    refine (Hw1.out _).mono ?_; rintro e _ ⟨rfl, rfl⟩
    go_wp2_with fail
    refine (Hw2.out _).mono ?_; rintro e _ ⟨rfl, rfl⟩
    go_wp2_with fail
    refine (Hw3.out _).mono ?_; rintro e _ ⟨rfl, rfl⟩
    go_wp2_with fail
    refine (Hw4.out _).mono ?_; rintro e _ ⟨rfl, rfl⟩
    go_wp2
    go_ret
    exact ⟨rfl, hbW⟩
  replace h4 := Decidable.not_not.1 h4
  have hd4 : decide (1 ≤ (rcpts.length : Int) ∧ (rcpts.length : Int) ≤ 8) = true := decide_eq_true h4
  rw [hd4] at Hw4 ⊢
  clear hd4
  by_cases h5 : ¬ ((body.length : Int) ≤ 8192)
  · rw [decide_eq_false (by omega : ¬ body.length ≤ 8192)]
    clear h2 h3 h4
    go_enter Tryz.func17, Tryz.ntmps17
    go_wp2_with fail
    refine (Hw1.out _).mono ?_; rintro e _ ⟨rfl, rfl⟩
    go_wp2_with fail
    refine (Hw2.out _).mono ?_; rintro e _ ⟨rfl, rfl⟩
    go_wp2_with fail
    refine (Hw3.out _).mono ?_; rintro e _ ⟨rfl, rfl⟩
    go_wp2_with fail
    refine (Hw4.out _).mono ?_; rintro e _ ⟨rfl, rfl⟩
    go_wp2
    go_ret
    exact ⟨rfl, hbW⟩
  replace h5 := Decidable.not_not.1 h5
  rw [decide_eq_true (by omega : body.length ≤ 8192)]
  have Hd2 := Lib.hid (Hdl.out (by omega))
  clear h2 h3 h4
  cases p6
  · go_enter Tryz.func17, Tryz.ntmps17
    go_wp2_with fail
    refine (Hw1.out _).mono ?_; rintro e _ ⟨rfl, rfl⟩
    go_wp2_with fail
    refine (Hw2.out _).mono ?_; rintro e _ ⟨rfl, rfl⟩
    go_wp2_with fail
    refine (Hw3.out _).mono ?_; rintro e _ ⟨rfl, rfl⟩
    go_wp2_with fail
    refine (Hw4.out _).mono ?_; rintro e _ ⟨rfl, rfl⟩
    go_wp2_with fail
    refine (Hd2.out).mono ?_; rintro e w6 ⟨⟨x, rfl⟩, hb6⟩
    have hb6' := hbW.trans (hb6.mono hbW.size)
    have c3' := Hcell.out w6 hb6 3 _ rfl
    have c4' := Hcell.out w6 hb6 4 _ rfl
    go_wp2
    go_ret
    exact ⟨rfl, hb6'⟩
  by_cases h7 : frm.length = 0
  · have hz := empty_of_size (Hfl.out.1 h7)
    rw [decide_eq_true h7]
    have hcl : ∀ W', Below W.heap.size W W' → W'.cell? ⟨w.heap.size, 3, none⟩ = some (.string ⟨#[]⟩) := fun W' hB => by rw [← hz]; exact Hcell.out W' hB 3 _ rfl
    have Hcl := Lib.hid hcl
    clear hcl h7 hz
    cases p9
    · go_enter Tryz.func17, Tryz.ntmps17
      go_wp2_with fail
      refine (Hw1.out _).mono ?_; rintro e _ ⟨rfl, rfl⟩
      go_wp2_with fail
      refine (Hw2.out _).mono ?_; rintro e _ ⟨rfl, rfl⟩
      go_wp2_with fail
      refine (Hw3.out _).mono ?_; rintro e _ ⟨rfl, rfl⟩
      go_wp2_with fail
      refine (Hw4.out _).mono ?_; rintro e _ ⟨rfl, rfl⟩
      go_wp2_with fail
      refine (Hd2.out).mono ?_; rintro e w6 ⟨⟨x, rfl⟩, hb6⟩
      have hb6' := hbW.trans (hb6.mono hbW.size)
      have c3' := Hcl.out w6 hb6
      have c4' := Hcell.out w6 hb6 4 _ rfl
      go_wp2_with fail
      refine (Hcf.out _ (HRW.out w6 hb6) (HMW.out w6 hb6)).mono ?_; rintro e w9 ⟨rfl, hb9⟩
      go_wp2
      go_ret
      exact ⟨rfl, hb6'.trans (hb9.mono hb6'.size)⟩
    · go_enter Tryz.func17, Tryz.ntmps17
      go_wp2_with fail
      refine (Hw1.out _).mono ?_; rintro e _ ⟨rfl, rfl⟩
      go_wp2_with fail
      refine (Hw2.out _).mono ?_; rintro e _ ⟨rfl, rfl⟩
      go_wp2_with fail
      refine (Hw3.out _).mono ?_; rintro e _ ⟨rfl, rfl⟩
      go_wp2_with fail
      refine (Hw4.out _).mono ?_; rintro e _ ⟨rfl, rfl⟩
      go_wp2_with fail
      refine (Hd2.out).mono ?_; rintro e w6 ⟨⟨x, rfl⟩, hb6⟩
      have hb6' := hbW.trans (hb6.mono hbW.size)
      have c3' := Hcl.out w6 hb6
      have c4' := Hcell.out w6 hb6 4 _ rfl
      go_wp2_with fail
      refine (Hcf.out _ (HRW.out w6 hb6) (HMW.out w6 hb6)).mono ?_; rintro e w9 ⟨rfl, hb9⟩
      go_wp2
      go_ret
      exact ⟨rfl, hb6'.trans (hb9.mono hb6'.size)⟩
  · have hne : (strL frm).size ≠ 0 := fun h => h7 (Hfl.out.2 h)
    have hb1 := empty_ne hne
    have hb2 : (strL frm).toList.isEmpty = false := by simpa using hb1
    rw [decide_eq_false h7]
    clear h7 hne
    cases p8
    · go_enter Tryz.func17, Tryz.ntmps17
      go_wp2_with fail
      refine (Hw1.out _).mono ?_; rintro e _ ⟨rfl, rfl⟩
      go_wp2_with fail
      refine (Hw2.out _).mono ?_; rintro e _ ⟨rfl, rfl⟩
      go_wp2_with fail
      refine (Hw3.out _).mono ?_; rintro e _ ⟨rfl, rfl⟩
      go_wp2_with fail
      refine (Hw4.out _).mono ?_; rintro e _ ⟨rfl, rfl⟩
      go_wp2_with fail
      refine (Hd2.out).mono ?_; rintro e w6 ⟨⟨x, rfl⟩, hb6⟩
      have hb6' := hbW.trans (hb6.mono hbW.size)
      have c3' := Hcell.out w6 hb6 3 _ rfl
      have c4' := Hcell.out w6 hb6 4 _ rfl
      go_wp2_with fail
      refine (Hbx.out _ (HMW.out w6 hb6)).mono ?_; rintro e w8 ⟨rfl, hb8⟩
      have hb68 := hb6.trans (hb8.mono hb6.size)
      have hb8' := hbW.trans (hb68.mono hbW.size)
      have c4'' := Hcell.out w8 hb68 4 _ rfl
      go_wp2
      go_ret
      exact ⟨rfl, hb8'⟩
    · cases p9
      · go_enter Tryz.func17, Tryz.ntmps17
        go_wp2_with fail
        refine (Hw1.out _).mono ?_; rintro e _ ⟨rfl, rfl⟩
        go_wp2_with fail
        refine (Hw2.out _).mono ?_; rintro e _ ⟨rfl, rfl⟩
        go_wp2_with fail
        refine (Hw3.out _).mono ?_; rintro e _ ⟨rfl, rfl⟩
        go_wp2_with fail
        refine (Hw4.out _).mono ?_; rintro e _ ⟨rfl, rfl⟩
        go_wp2_with fail
        refine (Hd2.out).mono ?_; rintro e w6 ⟨⟨x, rfl⟩, hb6⟩
        have hb6' := hbW.trans (hb6.mono hbW.size)
        have c3' := Hcell.out w6 hb6 3 _ rfl
        have c4' := Hcell.out w6 hb6 4 _ rfl
        go_wp2_with fail
        refine (Hbx.out _ (HMW.out w6 hb6)).mono ?_; rintro e w8 ⟨rfl, hb8⟩
        have hb68 := hb6.trans (hb8.mono hb6.size)
        have hb8' := hbW.trans (hb68.mono hbW.size)
        have c4'' := Hcell.out w8 hb68 4 _ rfl
        go_wp2_with fail
        refine (Hcf.out _ (HRW.out w8 hb68) (HMW.out w8 hb68)).mono ?_; rintro e w9 ⟨rfl, hb9⟩
        go_wp2
        go_ret
        exact ⟨rfl, hb8'.trans (hb9.mono hb8'.size)⟩
      · go_enter Tryz.func17, Tryz.ntmps17
        go_wp2_with fail
        refine (Hw1.out _).mono ?_; rintro e _ ⟨rfl, rfl⟩
        go_wp2_with fail
        refine (Hw2.out _).mono ?_; rintro e _ ⟨rfl, rfl⟩
        go_wp2_with fail
        refine (Hw3.out _).mono ?_; rintro e _ ⟨rfl, rfl⟩
        go_wp2_with fail
        refine (Hw4.out _).mono ?_; rintro e _ ⟨rfl, rfl⟩
        go_wp2_with fail
        refine (Hd2.out).mono ?_; rintro e w6 ⟨⟨x, rfl⟩, hb6⟩
        have hb6' := hbW.trans (hb6.mono hbW.size)
        have c3' := Hcell.out w6 hb6 3 _ rfl
        have c4' := Hcell.out w6 hb6 4 _ rfl
        go_wp2_with fail
        refine (Hbx.out _ (HMW.out w6 hb6)).mono ?_; rintro e w8 ⟨rfl, hb8⟩
        have hb68 := hb6.trans (hb8.mono hb6.size)
        have hb8' := hbW.trans (hb68.mono hbW.size)
        have c4'' := Hcell.out w8 hb68 4 _ rfl
        go_wp2_with fail
        refine (Hcf.out _ (HRW.out w8 hb68) (HMW.out w8 hb68)).mono ?_; rintro e w9 ⟨rfl, hb9⟩
        go_wp2
        go_ret
        exact ⟨rfl, hb8'.trans (hb9.mono hb8'.size)⟩
end Go.Proofs.YtjddicoigbidlaaGreatDoor

set_option linter.unusedSimpArgs false
set_option linter.unusedVariables false
namespace Go.Proofs.YtjddicoigbidlaaGreatDoor
open Go.RowKit
set_option maxRecDepth 100000 in
set_option maxHeartbeats 4000000 in
theorem refTexts_calls (v1 v2 : Value) (xs ys : List (List UInt8)) (w : World) (h1 : RdS w v1 xs) (h2 : RdS w v2 ys) :
    Calls Tryz.prog 58 #[v1, v2] w fun e w' => e = .returned (.bool (decide (xs = ys))) ∧ Below w.heap.size w w' := by
  obtain ⟨a1, cap1, rfl, hl1, hc1⟩ := h1.form
  obtain ⟨a2, cap2, rfl, hl2, hc2⟩ := h2.form
  by_cases hlen : (xs.length : Int) = (ys.length : Int)
  · have hlen' : xs.length = ys.length := by omega
    rw [← hlen'] at h2 hl2 ⊢
    have H1 := Lib.hid h1
    have H2 := Lib.hid h2
    have Hlen := Lib.hid hlen'
    have hni : (xs.length : Int) ≤ 9223372036854775807 := by omega
    clear hlen hlen' h1 h2
    go_enter Tryz.func58, Tryz.ntmps58
    go_wp2
    go_loopw [5] (fun i wr => ∃ j : Nat, j ≤ xs.length ∧ i = .int .i64 j ∧ xs.take j = ys.take j ∧ Below w.heap.size w wr) (fun i _ => xs.length - (intOf i).toNat)
    case atStart => exact ⟨0, Nat.zero_le _, rfl, rfl, Below.refl _ _⟩
    case round =>
      obtain ⟨j, hj, rfl, htk, hbw⟩ := hrel
      by_cases hlt : j < xs.length
      · obtain ⟨x, hx⟩ : ∃ x, xs[j]? = some x := ⟨_, List.getElem?_eq_getElem hlt⟩
        obtain ⟨y, hy⟩ : ∃ y, ys[j]? = some y := ⟨_, List.getElem?_eq_getElem (by rw [← Hlen.out]; exact hlt)⟩
        obtain ⟨b1, o1, k1, e1, _, p1⟩ := RdS.at (H1.out.below (Nat.le_refl _) hbw) hx
        have hr2 := H2.out.below (Nat.le_refl _) hbw
        obtain ⟨b2, o2, k2, e2, _, p2⟩ := RdS.at hr2 hy
        cases e1
        simp only [Value.slice.injEq] at e2
        obtain ⟨rfl, _, rfl⟩ := e2
        have hj0 : (0 : Int) ≤ (j : Int) := by omega
        have hj1 : (j : Int) < (xs.length : Int) := by omega
        by_cases hxy : x = y
        · subst hxy
          have hn : xs.take (j + 1) = ys.take (j + 1) := by rw [take_snoc hx, take_snoc hy, htk]
          have Hn := Lib.hid hn
          clear hn htk hx hy hr2
          generalize strL x = sx at p1 p2
          go_wp2
          go_quiet (fail)
          go_wp2
          go_roundw
          case rel => exact ⟨j + 1, by omega, by simp, Hn.out, below_drewN hbw _⟩
          case measure => simp [intOf] <;> omega
        · have hne : xs ≠ ys := fun e => by rw [e, hy] at hx; cases hx; exact hxy rfl
          have hb : ((strL x).toList == (strL y).toList) = false := (Lib.bytes_beq_false_iff _ _).2 (fun e => hxy (strL_inj e))
          have Hne := Lib.hid hne
          clear hne htk hx hy hr2 hxy
          generalize strL x = sx at p1 hb
          generalize strL y = sy at p2 hb
          go_wp2
          go_quiet (fail)
          go_wp2
          go_ret
          exact ⟨by rw [decide_eq_false Hne.out]; rfl, below_drewN hbw _⟩
      · have hje : j = xs.length := by omega
        have heq : xs = ys := by
          rw [hje, List.take_of_length_le (Nat.le_refl _), List.take_of_length_le (by rw [Hlen.out]; exact Nat.le_refl _)] at htk; exact htk
        have Heq := Lib.hid heq
        have hjl : ¬ ((j : Int) < (xs.length : Int)) := by omega
        clear htk heq hje
        go_wp2
        go_ret
        exact ⟨by rw [decide_eq_true Heq.out]; rfl, hbw⟩
  · have hne : xs ≠ ys := fun e => hlen (by rw [e])
    have Hne := Lib.hid hne
    have hq : ((xs.length : Int) == (ys.length : Int)) = false := by simpa using hlen
    clear hne
    go_enter Tryz.func58, Tryz.ntmps58
    go_wp2
    go_ret
    exact ⟨by rw [decide_eq_false Hne.out]; rfl, Below.refl _ _⟩
/-- A mail that is not too long. -/
def MailD.light (m : MailD) : Bool := decide (m.rcpts = [] ∨ m.rcpts.length ≤ 50) && (m.rcpts.all (fun l => decide (l.length ≤ 200)) && (decide (m.frm.length ≤ 200) && decide (m.body.length ≤ 9000)))
end Go.Proofs.YtjddicoigbidlaaGreatDoor

set_option linter.unusedSimpArgs false
set_option linter.unusedVariables false
namespace Go.Proofs.YtjddicoigbidlaaGreatDoor
open Go.RowKit
theorem mail_eq (x0 x1 x2 : Int) (x3 : List UInt8) (x4 : List (List UInt8)) (x5 : List UInt8) (y0 y1 y2 : Int) (y3 : List UInt8) (y4 : List (List UInt8)) (y5 : List UInt8) :
    MailD.mk x0 x1 x2 x3 x4 x5 = MailD.mk y0 y1 y2 y3 y4 y5 ↔ x0 = y0 ∧ x1 = y1 ∧ x2 = y2 ∧ x3 = y3 ∧ x4 = y4 ∧ x5 = y5 := by rw [MailD.mk.injEq]
instance : DecidableEq MailD := fun ⟨_, _, _, _, _, _⟩ ⟨_, _, _, _, _, _⟩ => decidable_of_iff _ (mail_eq ..).symm
theorem decide_eq_iff_iff {q : Prop} [Decidable q] {p : Bool} (h : decide q = p) : (p = true) ↔ q := by rw [← h]; exact decide_eq_true_iff
set_option maxRecDepth 100000 in
set_option maxHeartbeats 4000000 in
theorem equalS_calls (v1 v2 : Value) (xs ys : List (List UInt8)) (w : World) (h1 : RdS w v1 xs) (h2 : RdS w v2 ys) :
    Calls Tryz.prog 66 #[v1, v2] w fun e w' => e = .returned (.bool (decide (xs = ys))) ∧ Below w.heap.size w w' := by
  obtain ⟨a1, cap1, rfl, hl1, hc1⟩ := h1.form
  obtain ⟨a2, cap2, rfl, hl2, hc2⟩ := h2.form
  by_cases hlen : xs.length = ys.length
  · have hne : ((xs.length : Int) != (ys.length : Int)) = false := by rw [bne_eq_false_iff_eq]; omega
    have H1 := Lib.hid h1
    have H2 := Lib.hid h2
    have Hlen := Lib.hid hlen
    clear hlen h1 h2
    go_enter Tryz.func66, Tryz.ntmps66
    go_wp2
    go_loopw [13] (fun i wr => ∃ j : Nat, j ≤ xs.length ∧ i = .int .i64 j ∧ xs.take j = ys.take j ∧ Below w.heap.size w wr) (fun i _ => xs.length - (intOf i).toNat)
    case atStart => exact ⟨0, Nat.zero_le _, rfl, rfl, Below.refl _ _⟩
    case round =>
      obtain ⟨j, hj, rfl, htk, hbw⟩ := hrel
      by_cases hlt : j < xs.length
      · obtain ⟨x, hx⟩ : ∃ x, xs[j]? = some x := ⟨_, List.getElem?_eq_getElem hlt⟩
        obtain ⟨y, hy⟩ : ∃ y, ys[j]? = some y := ⟨_, List.getElem?_eq_getElem (by rw [← Hlen.out]; exact hlt)⟩
        obtain ⟨b1, o1, k1, e1, _, p1⟩ := RdS.at (H1.out.below (Nat.le_refl _) hbw) hx
        obtain ⟨b2, o2, k2, e2, _, p2⟩ := RdS.at (H2.out.below (Nat.le_refl _) hbw) hy
        cases e1
        cases e2
        have hj0 : (0 : Int) ≤ (j : Int) := by omega
        have hj1 : (j : Int) < (xs.length : Int) := by omega
        have hj2 : (j : Int) < (ys.length : Int) := by have := Hlen.out; omega
        by_cases hxy : x = y
        · subst hxy
          have hn : xs.take (j + 1) = ys.take (j + 1) := by rw [take_snoc hx, take_snoc hy, htk]
          have Hn := Lib.hid hn
          clear hn htk hx hy
          generalize strL x = sx at p1 p2
          have hb : (!(sx.toList == sx.toList)) = false := by simp
          have hb' : (sx.toList != sx.toList) = false := by simp
          go_wp2
          go_quiet (fail)
          go_wp2
          go_roundw
          case rel => exact ⟨j + 1, by omega, by simp, Hn.out, below_drewN hbw _⟩
          case measure => simp [intOf] <;> omega
        · have hne : xs ≠ ys := fun e => by rw [e, hy] at hx; cases hx; exact hxy rfl
          have hb0 : ((strL x).toList == (strL y).toList) = false := (Lib.bytes_beq_false_iff _ _).2 (fun e => hxy (strL_inj e))
          have hb : (!((strL x).toList == (strL y).toList)) = true := by rw [hb0]; rfl
          have hb' : ((strL x).toList != (strL y).toList) = true := hb
          have Hne := Lib.hid hne
          clear hne htk hx hy hxy
          generalize strL x = sx at p1 hb hb' hb0
          generalize strL y = sy at p2 hb hb' hb0
          go_wp2
          go_quiet (fail)
          go_wp2
          go_ret
          exact ⟨by rw [decide_eq_false Hne.out]; rfl, below_drewN hbw _⟩
      · have hje : j = xs.length := by omega
        have heq : xs = ys := by
          rw [hje, List.take_of_length_le (Nat.le_refl _), List.take_of_length_le (by rw [Hlen.out]; exact Nat.le_refl _)] at htk; exact htk
        have Heq := Lib.hid heq
        have hjl : ¬ ((j : Int) < (xs.length : Int)) := by omega
        clear htk heq hje
        go_wp2
        go_ret
        exact ⟨by rw [decide_eq_true Heq.out]; rfl, hbw⟩
  · have hq : ((xs.length : Int) != (ys.length : Int)) = true := by rw [bne_iff_ne]; omega
    have hne : xs ≠ ys := fun e => hlen (by rw [e])
    have Hne := Lib.hid hne
    clear hne
    go_enter Tryz.func66, Tryz.ntmps66
    go_wp2
    go_ret
    exact ⟨by rw [decide_eq_false Hne.out]; rfl, Below.refl _ _⟩
set_option maxRecDepth 100000 in
set_option maxHeartbeats 4000000 in
theorem refSame_calls (a b : MailD) (ra ba rb bb : Value) (w : World) (h1 : RdS w ra a.rcpts) (h2 : RdB w ba a.body) (h3 : RdS w rb b.rcpts) (h4 : RdB w bb b.body) :
    Calls Tryz.prog 20 #[mailVal a ra ba, mailVal b rb bb] w fun e w' => e = .returned (.bool (decide (a = b))) ∧ Below w.heap.size w w' := by
  obtain ⟨x0, x1, x2, x3, x4, x5⟩ := a
  obtain ⟨y0, y1, y2, y3, y4, y5⟩ := b
  simp only at h1 h2 h3 h4
  unfold mailVal
  simp only
  obtain ⟨p, hp⟩ : ∃ p, decide (MailD.mk x0 x1 x2 x3 x4 x5 = MailD.mk y0 y1 y2 y3 y4 y5) = p := ⟨_, rfl⟩
  rw [hp]
  have hpi := (decide_eq_iff_iff hp).trans (mail_eq ..)
  obtain ⟨W1, hW1⟩ : ∃ W1, w.alloc (.cells #[.int .i64 x0, .int .i64 x1, .int .i64 x2, .string (strL x3), ra, ba] 25) = W1 := ⟨_, rfl⟩
  obtain ⟨W, hW⟩ : ∃ W, W1.alloc (.cells #[.int .i64 y0, .int .i64 y1, .int .i64 y2, .string (strL y3), rb, bb] 25) = W := ⟨_, rfl⟩
  have hbW1 : Below w.heap.size w W1 := by rw [← hW1]; exact (Below.refl _ _).alloc (Nat.le_refl _) _
  have hbW : Below w.heap.size w W := by rw [← hW]; exact hbW1.alloc hbW1.size _
  have hs1 : W1.heap.size = w.heap.size + 1 := by rw [← hW1]; simp
  have hblk1 : W.heap[w.heap.size]? = some (.cells #[.int .i64 x0, .int .i64 x1, .int .i64 x2, .string (strL x3), ra, ba] 25 (0, 0)) := by rw [← hW, ← hW1]; exact heap_alloc2_old _ _ _
  have hblk2 : W.heap[w.heap.size + 1]? = some (.cells #[.int .i64 y0, .int .i64 y1, .int .i64 y2, .string (strL y3), rb, bb] 25 (0, 0)) := by rw [← hW, ← hW1]; exact heap_alloc2_new _ _ _
  have hc1 : ∀ W', Below W.heap.size W W' → ∀ (j : Nat) v, (#[Value.int .i64 x0, .int .i64 x1, .int .i64 x2, .string (strL x3), ra, ba] : Array Value)[j]? = some v → W'.cell? ⟨w.heap.size, j, none⟩ = some v := by
    intro W' hB j v hv
    rw [cell_of_row _ _ _ _ _ _ ((hB.block _ (Array.getElem?_eq_some_iff.1 hblk1).1).trans hblk1)]
    exact hv
  have hc2 : ∀ W', Below W.heap.size W W' → ∀ (j : Nat) v, (#[Value.int .i64 y0, .int .i64 y1, .int .i64 y2, .string (strL y3), rb, bb] : Array Value)[j]? = some v → W'.cell? ⟨w.heap.size + 1, j, none⟩ = some v := by
    intro W' hB j v hv
    rw [cell_of_row _ _ _ _ _ _ ((hB.block _ (Array.getElem?_eq_some_iff.1 hblk2).1).trans hblk2)]
    exact hv
  have hr1 := h1.below (Nat.le_refl _) hbW
  have hb1 := h2.below (Nat.le_refl _) hbW
  have hr2 := h3.below (Nat.le_refl _) hbW
  have hb2 := h4.below (Nat.le_refl _) hbW
  have htx := refTexts_calls ra rb x4 y4 W hr1 hr2
  have a0 := hc1 W (Below.refl _ _) 0 _ rfl
  have b0 := hc2 W (Below.refl _ _) 0 _ rfl
  have a1 := hc1 W (Below.refl _ _) 1 _ rfl
  have b1 := hc2 W (Below.refl _ _) 1 _ rfl
  have a2 := hc1 W (Below.refl _ _) 2 _ rfl
  have b2 := hc2 W (Below.refl _ _) 2 _ rfl
  have a3 := hc1 W (Below.refl _ _) 3 _ rfl
  have b3 := hc2 W (Below.refl _ _) 3 _ rfl
  have a4 := hc1 W (Below.refl _ _) 4 _ rfl
  have b4 := hc2 W (Below.refl _ _) 4 _ rfl
  have Hpi := Lib.hid hpi
  have Hc1 := Lib.hid hc1
  have Hc2 := Lib.hid hc2
  have Hr1 := Lib.hid hr1
  have Hb1 := Lib.hid hb1
  have Hb2 := Lib.hid hb2
  have Htx := Lib.hid htx
  clear hpi hc1 hc2 hr1 hb1 hr2 hb2 htx h1 h2 h3 h4 hblk1 hblk2 hp hs1 hbW1
  subst hW
  subst hW1
  by_cases e0 : x0 = y0
  case neg =>
    have q : (x0 == y0) = false := by rw [beq_eq_false_iff_ne]; exact e0
    have hpf : p = false := by cases p; rfl; exact absurd (Hpi.out.1 rfl).1 e0
    subst hpf
    clear e0
    go_enter Tryz.func20, Tryz.ntmps20
    go_wp2
    go_ret
    exact ⟨rfl, hbW⟩
  subst e0
  by_cases e1 : x1 = y1
  case neg =>
    have q : (x1 == y1) = false := by rw [beq_eq_false_iff_ne]; exact e1
    have hpf : p = false := by cases p; rfl; exact absurd (Hpi.out.1 rfl).2.1 e1
    subst hpf
    clear e1
    go_enter Tryz.func20, Tryz.ntmps20
    go_wp2
    go_ret
    exact ⟨rfl, hbW⟩
  subst e1
  by_cases e2 : x2 = y2
  case neg =>
    have q : (x2 == y2) = false := by rw [beq_eq_false_iff_ne]; exact e2
    have hpf : p = false := by cases p; rfl; exact absurd (Hpi.out.1 rfl).2.2.1 e2
    subst hpf
    clear e2
    go_enter Tryz.func20, Tryz.ntmps20
    go_wp2
    go_ret
    exact ⟨rfl, hbW⟩
  subst e2
  by_cases e3 : x3 = y3
  case neg =>
    have q : ((strL x3).toList == (strL y3).toList) = false := (Lib.bytes_beq_false_iff _ _).2 (fun e => e3 (strL_inj e))
    have hpf : p = false := by cases p; rfl; exact absurd (Hpi.out.1 rfl).2.2.2.1 e3
    subst hpf
    clear e3
    generalize strL x3 = s3 at *
    generalize strL y3 = t3 at *
    go_enter Tryz.func20, Tryz.ntmps20
    go_wp2
    go_ret
    exact ⟨rfl, hbW⟩
  subst e3
  by_cases e4 : x4 = y4
  case neg =>
    have hpf : p = false := by cases p; rfl; exact absurd (Hpi.out.1 rfl).2.2.2.2.1 e4
    subst hpf
    rw [decide_eq_false e4] at Htx
    clear e4
    generalize strL x3 = s3 at *
    go_enter Tryz.func20, Tryz.ntmps20
    go_wp2_with fail
    refine (Htx.out).mono ?_; rintro e w2 ⟨rfl, hb2⟩
    have hbw2 := hbW.trans (hb2.mono hbW.size)
    go_wp2
    go_ret
    exact ⟨rfl, hbw2⟩
  rw [decide_eq_true e4] at Htx
  have hpx : p = decide (x5 = y5) := by
    rw [Bool.eq_iff_iff, Hpi.out, decide_eq_true_iff]
    exact ⟨fun h => h.2.2.2.2.2, fun h => ⟨rfl, rfl, rfl, rfl, e4, h⟩⟩
  clear Hpi
  subst hpx
  clear e4
  generalize strL x3 = s3 at *
  by_cases e5 : x5 = y5
  · subst e5
    rw [decide_eq_true rfl]
    go_enter Tryz.func20, Tryz.ntmps20
    go_wp2_with fail
    refine (Htx.out).mono ?_; rintro e w2 ⟨rfl, hb2⟩
    have hbw2 := hbW.trans (hb2.mono hbW.size)
    have a5 := Hc1.out w2 hb2 5 _ rfl
    have b5 := Hc2.out w2 hb2 5 _ rfl
    have c1 := run_strL (Hb1.out.below (Nat.le_refl _) hb2)
    have c2 := run_strL (Hb2.out.below (Nat.le_refl _) hb2)
    generalize strL x5 = s5 at c1 c2
    go_wp2
    go_ret
    exact ⟨rfl, hbw2⟩
  · have q : ((strL x5).toList == (strL y5).toList) = false := (Lib.bytes_beq_false_iff _ _).2 (fun e => e5 (strL_inj e))
    rw [decide_eq_false e5]
    clear e5
    go_enter Tryz.func20, Tryz.ntmps20
    go_wp2_with fail
    refine (Htx.out).mono ?_; rintro e w2 ⟨rfl, hb2⟩
    have hbw2 := hbW.trans (hb2.mono hbW.size)
    have a5 := Hc1.out w2 hb2 5 _ rfl
    have b5 := Hc2.out w2 hb2 5 _ rfl
    have c1 := run_strL (Hb1.out.below (Nat.le_refl _) hb2)
    have c2 := run_strL (Hb2.out.below (Nat.le_refl _) hb2)
    generalize strL x5 = s5 at q c1
    generalize strL y5 = t5 at q c2
    go_wp2
    go_ret
    exact ⟨rfl, hbw2⟩
set_option maxRecDepth 100000 in
set_option maxHeartbeats 4000000 in
theorem envSame_calls (a b : MailD) (ra ba rb bb : Value) (w : World) (h1 : RdS w ra a.rcpts) (h2 : RdB w ba a.body) (h3 : RdS w rb b.rcpts) (h4 : RdB w bb b.body) :
    Calls Tryz.prog 39 #[mailVal a ra ba, mailVal b rb bb] w fun e w' => e = .returned (.bool (decide (a = b))) ∧ Below w.heap.size w w' := by
  obtain ⟨x0, x1, x2, x3, x4, x5⟩ := a
  obtain ⟨y0, y1, y2, y3, y4, y5⟩ := b
  simp only at h1 h2 h3 h4
  unfold mailVal
  simp only
  obtain ⟨p, hp⟩ : ∃ p, decide (MailD.mk x0 x1 x2 x3 x4 x5 = MailD.mk y0 y1 y2 y3 y4 y5) = p := ⟨_, rfl⟩
  rw [hp]
  have hpi := (decide_eq_iff_iff hp).trans (mail_eq ..)
  obtain ⟨W1, hW1⟩ : ∃ W1, w.alloc (.cells #[.int .i64 x0, .int .i64 x1, .int .i64 x2, .string (strL x3), ra, ba] 25) = W1 := ⟨_, rfl⟩
  obtain ⟨W, hW⟩ : ∃ W, W1.alloc (.cells #[.int .i64 y0, .int .i64 y1, .int .i64 y2, .string (strL y3), rb, bb] 25) = W := ⟨_, rfl⟩
  have hbW1 : Below w.heap.size w W1 := by rw [← hW1]; exact (Below.refl _ _).alloc (Nat.le_refl _) _
  have hbW : Below w.heap.size w W := by rw [← hW]; exact hbW1.alloc hbW1.size _
  have hs1 : W1.heap.size = w.heap.size + 1 := by rw [← hW1]; simp
  have hblk1 : W.heap[w.heap.size]? = some (.cells #[.int .i64 x0, .int .i64 x1, .int .i64 x2, .string (strL x3), ra, ba] 25 (0, 0)) := by rw [← hW, ← hW1]; exact heap_alloc2_old _ _ _
  have hblk2 : W.heap[w.heap.size + 1]? = some (.cells #[.int .i64 y0, .int .i64 y1, .int .i64 y2, .string (strL y3), rb, bb] 25 (0, 0)) := by rw [← hW, ← hW1]; exact heap_alloc2_new _ _ _
  have hc1 : ∀ W', Below W.heap.size W W' → ∀ (j : Nat) v, (#[Value.int .i64 x0, .int .i64 x1, .int .i64 x2, .string (strL x3), ra, ba] : Array Value)[j]? = some v → W'.cell? ⟨w.heap.size, j, none⟩ = some v := by
    intro W' hB j v hv
    rw [cell_of_row _ _ _ _ _ _ ((hB.block _ (Array.getElem?_eq_some_iff.1 hblk1).1).trans hblk1)]
    exact hv
  have hc2 : ∀ W', Below W.heap.size W W' → ∀ (j : Nat) v, (#[Value.int .i64 y0, .int .i64 y1, .int .i64 y2, .string (strL y3), rb, bb] : Array Value)[j]? = some v → W'.cell? ⟨w.heap.size + 1, j, none⟩ = some v := by
    intro W' hB j v hv
    rw [cell_of_row _ _ _ _ _ _ ((hB.block _ (Array.getElem?_eq_some_iff.1 hblk2).1).trans hblk2)]
    exact hv
  have hr1 := h1.below (Nat.le_refl _) hbW
  have hb1 := h2.below (Nat.le_refl _) hbW
  have hr2 := h3.below (Nat.le_refl _) hbW
  have hb2 := h4.below (Nat.le_refl _) hbW
  have htx := equalS_calls ra rb x4 y4 W hr1 hr2
  have a0 := hc1 W (Below.refl _ _) 0 _ rfl
  have b0 := hc2 W (Below.refl _ _) 0 _ rfl
  have a1 := hc1 W (Below.refl _ _) 1 _ rfl
  have b1 := hc2 W (Below.refl _ _) 1 _ rfl
  have a2 := hc1 W (Below.refl _ _) 2 _ rfl
  have b2 := hc2 W (Below.refl _ _) 2 _ rfl
  have a3 := hc1 W (Below.refl _ _) 3 _ rfl
  have b3 := hc2 W (Below.refl _ _) 3 _ rfl
  have a4 := hc1 W (Below.refl _ _) 4 _ rfl
  have b4 := hc2 W (Below.refl _ _) 4 _ rfl
  have Hpi := Lib.hid hpi
  have Hc1 := Lib.hid hc1
  have Hc2 := Lib.hid hc2
  have Hr1 := Lib.hid hr1
  have Hb1 := Lib.hid hb1
  have Hb2 := Lib.hid hb2
  have Htx := Lib.hid htx
  clear hpi hc1 hc2 hr1 hb1 hr2 hb2 htx h1 h2 h3 h4 hblk1 hblk2 hp hs1 hbW1
  subst hW
  subst hW1
  by_cases e0 : x0 = y0
  case neg =>
    have q : (x0 == y0) = false := by rw [beq_eq_false_iff_ne]; exact e0
    have hpf : p = false := by cases p; rfl; exact absurd (Hpi.out.1 rfl).1 e0
    subst hpf
    clear e0
    go_enter Tryz.func39, Tryz.ntmps39
    go_wp2
    go_ret
    exact ⟨rfl, hbW⟩
  subst e0
  by_cases e1 : x1 = y1
  case neg =>
    have q : (x1 == y1) = false := by rw [beq_eq_false_iff_ne]; exact e1
    have hpf : p = false := by cases p; rfl; exact absurd (Hpi.out.1 rfl).2.1 e1
    subst hpf
    clear e1
    go_enter Tryz.func39, Tryz.ntmps39
    go_wp2
    go_ret
    exact ⟨rfl, hbW⟩
  subst e1
  by_cases e2 : x2 = y2
  case neg =>
    have q : (x2 == y2) = false := by rw [beq_eq_false_iff_ne]; exact e2
    have hpf : p = false := by cases p; rfl; exact absurd (Hpi.out.1 rfl).2.2.1 e2
    subst hpf
    clear e2
    go_enter Tryz.func39, Tryz.ntmps39
    go_wp2
    go_ret
    exact ⟨rfl, hbW⟩
  subst e2
  by_cases e3 : x3 = y3
  case neg =>
    have q : ((strL x3).toList == (strL y3).toList) = false := (Lib.bytes_beq_false_iff _ _).2 (fun e => e3 (strL_inj e))
    have hpf : p = false := by cases p; rfl; exact absurd (Hpi.out.1 rfl).2.2.2.1 e3
    subst hpf
    clear e3
    generalize strL x3 = s3 at *
    generalize strL y3 = t3 at *
    go_enter Tryz.func39, Tryz.ntmps39
    go_wp2
    go_ret
    exact ⟨rfl, hbW⟩
  subst e3
  by_cases e4 : x4 = y4
  case neg =>
    have hpf : p = false := by cases p; rfl; exact absurd (Hpi.out.1 rfl).2.2.2.2.1 e4
    subst hpf
    rw [decide_eq_false e4] at Htx
    clear e4
    generalize strL x3 = s3 at *
    go_enter Tryz.func39, Tryz.ntmps39
    go_wp2_with fail
    refine (Htx.out).mono ?_; rintro e w2 ⟨rfl, hb2⟩
    have hbw2 := hbW.trans (hb2.mono hbW.size)
    go_wp2
    go_ret
    exact ⟨rfl, hbw2⟩
  rw [decide_eq_true e4] at Htx
  have hpx : p = decide (x5 = y5) := by
    rw [Bool.eq_iff_iff, Hpi.out, decide_eq_true_iff]
    exact ⟨fun h => h.2.2.2.2.2, fun h => ⟨rfl, rfl, rfl, rfl, e4, h⟩⟩
  clear Hpi
  subst hpx
  clear e4
  generalize strL x3 = s3 at *
  by_cases e5 : x5 = y5
  case neg =>
    have heq := fun w2 h1 h2 => equal_calls ba bb x5 y5 w2 h1 h2
    rw [decide_eq_false e5] at heq ⊢
    have Heq := Lib.hid heq
    clear heq
    go_enter Tryz.func39, Tryz.ntmps39
    go_wp2_with fail
    refine (Htx.out).mono ?_; rintro e w2 ⟨rfl, hb2⟩
    have hbw2 := hbW.trans (hb2.mono hbW.size)
    have a5 := Hc1.out w2 hb2 5 _ rfl
    have b5 := Hc2.out w2 hb2 5 _ rfl
    go_wp2_with fail
    refine (Heq.out w2 (Hb1.out.below (Nat.le_refl _) hb2) (Hb2.out.below (Nat.le_refl _) hb2)).mono ?_; rintro e w3 ⟨rfl, hb3⟩
    have hbw3 := hbw2.trans (hb3.mono hbw2.size)
    go_wp2
    go_ret
    exact ⟨rfl, hbw3⟩
  have heq := fun w2 h1 h2 => equal_calls ba bb x5 y5 w2 h1 h2
  rw [decide_eq_true e5] at heq ⊢
  have Heq := Lib.hid heq
  clear heq
  go_enter Tryz.func39, Tryz.ntmps39
  go_wp2_with fail
  refine (Htx.out).mono ?_; rintro e w2 ⟨rfl, hb2⟩
  have hbw2 := hbW.trans (hb2.mono hbW.size)
  have a5 := Hc1.out w2 hb2 5 _ rfl
  have b5 := Hc2.out w2 hb2 5 _ rfl
  go_wp2_with fail
  refine (Heq.out w2 (Hb1.out.below (Nat.le_refl _) hb2) (Hb2.out.below (Nat.le_refl _) hb2)).mono ?_; rintro e w3 ⟨rfl, hb3⟩
  have hbw3 := hbw2.trans (hb3.mono hbw2.size)
  go_wp2
  go_ret
  exact ⟨rfl, hbw3⟩
end Go.Proofs.YtjddicoigbidlaaGreatDoor

set_option linter.unusedSimpArgs false
set_option linter.unusedVariables false
namespace Go.Proofs.YtjddicoigbidlaaGreatDoor
open Go.RowKit
theorem light_iff (m : MailD) : m.light = true ↔ (m.rcpts = [] ∨ m.rcpts.length ≤ 50) ∧ (∀ l ∈ m.rcpts, l.length ≤ 200) ∧ m.frm.length ≤ 200 ∧ m.body.length ≤ 9000 := by
  unfold MailD.light
  rw [Bool.and_eq_true, Bool.and_eq_true, Bool.and_eq_true, List.all_eq_true]
  simp only [decide_eq_true_eq]
set_option maxRecDepth 100000 in
set_option maxHeartbeats 4000000 in
theorem light_calls (m : MailD) (vr vb : Value) (w : World) (hr : RdS w vr m.rcpts) (hb : RdB w vb m.body) :
    Calls Tryz.prog 12 #[mailVal m vr vb] w fun e w' => e = .returned (.bool m.light) ∧ Below w.heap.size w w' := by
  have hiff := light_iff m
  obtain ⟨p, hp⟩ : ∃ p, m.light = p := ⟨_, rfl⟩
  rw [hp] at hiff ⊢
  obtain ⟨ar, capr, rfl, hlr, hcr⟩ := hr.form
  obtain ⟨ab, capb, rfl, hlb, hcb⟩ := hb.form
  obtain ⟨id, parent, born, frm, rcpts, body⟩ := m
  simp only at hr hb hlr hlb hiff
  unfold mailVal
  simp only
  obtain ⟨W, hW⟩ : ∃ W, w.alloc (.cells #[.int .i64 id, .int .i64 parent, .int .i64 born, .string (strL frm), .slice ar rcpts.length capr, .slice ab body.length capb] 25) = W := ⟨_, rfl⟩
  have hbW : Below w.heap.size w W := by rw [← hW]; exact (Below.refl _ _).alloc (Nat.le_refl _) _
  have hblk : W.heap[w.heap.size]? = some (.cells #[.int .i64 id, .int .i64 parent, .int .i64 born, .string (strL frm), .slice ar rcpts.length capr, .slice ab body.length capb] 25 (0, 0)) := by rw [← hW]; exact heap_alloc_new w _
  have hsW := (Array.getElem?_eq_some_iff.1 hblk).1
  have hcell : ∀ W', Below W.heap.size W W' → ∀ (j : Nat) v, (#[Value.int .i64 id, .int .i64 parent, .int .i64 born, .string (strL frm), .slice ar rcpts.length capr, .slice ab body.length capb] : Array Value)[j]? = some v → W'.cell? ⟨w.heap.size, j, none⟩ = some v := by
    intro W' hB j v hv
    rw [cell_of_row _ _ _ _ _ _ ((hB.block _ hsW).trans hblk)]
    exact hv
  have hr1 := hr.below (Nat.le_refl _) hbW
  have hlrI : (rcpts.length : Int) ≤ 9223372036854775807 := by omega
  have hlbI : (body.length : Int) ≤ 9223372036854775807 := by omega
  have hfs := strL_size frm
  have Hcell := Lib.hid hcell
  have Hr := Lib.hid hr1
  have Hiff := Lib.hid hiff
  have Hblk := Lib.hid hblk
  clear hcell hr hb hr1 hiff hblk hp
  go_enter Tryz.func12, Tryz.ntmps12
  go_wp2
  go_loopw [3] (fun i wr => ∃ j : Nat, j ≤ rcpts.length ∧ i = .int .i64 j ∧ (j = 0 ∨ rcpts.length ≤ 50) ∧ (∀ l ∈ rcpts.take j, l.length ≤ 200) ∧ Below W.heap.size W wr) (fun i _ => rcpts.length - (intOf i).toNat)
  case atStart => exact ⟨0, Nat.zero_le _, rfl, .inl rfl, by simp, by rw [← hW]; exact Below.refl _ _⟩
  case round =>
    obtain ⟨j, hj, rfl, h50, hall, hbw⟩ := hrel
    have c3 := Hcell.out wr hbw 3 _ rfl
    have c4 := Hcell.out wr hbw 4 _ rfl
    have c5 := Hcell.out wr hbw 5 _ rfl
    have hbw2 := hbW.trans (hbw.mono hbW.size)
    by_cases hlt : j < rcpts.length
    · by_cases hbig : 50 < rcpts.length
      · have hpf : p = false := by
          cases p
          · rfl
          · rcases (Hiff.out.1 rfl).1 with h | h
            · simp [h] at hlt
            · omega
        subst hpf
        clear hall
        go_wp2
        go_ret
        exact ⟨rfl, hbw2⟩
      · obtain ⟨x, hx⟩ : ∃ x, rcpts[j]? = some x := ⟨_, List.getElem?_eq_getElem hlt⟩
        obtain ⟨b1, o1, k1, e1, _, p1⟩ := RdS.at (Hr.out.below (Nat.le_refl _) hbw) hx
        cases e1
        have hj0 : (0 : Int) ≤ (j : Int) := by omega
        have hj1 : (j : Int) < (rcpts.length : Int) := by omega
        have hxs := strL_size x
        by_cases hbg : 200 < x.length
        · have hpf : p = false := by
            cases p
            · rfl
            · have := (Hiff.out.1 rfl).2.1 x (List.mem_of_getElem? hx); omega
          subst hpf
          have hz : (200 : Int) < ((strL x).size : Int) := by omega
          clear hall hx
          generalize strL x = sx at p1 hxs hz
          go_wp2
          go_ret
          exact ⟨by first | rfl | exact ret_bool (by simp; omega), hbw2⟩
        · have hall2 : ∀ l ∈ rcpts.take (j + 1), l.length ≤ 200 := by
            rw [take_snoc hx]
            intro l hl
            rcases List.mem_append.1 hl with h | h
            · exact hall l h
            · rw [List.mem_singleton.1 h]; omega
          have Hall2 := Lib.hid hall2
          have hz : ¬ (200 : Int) < ((strL x).size : Int) := by omega
          clear hall hx hall2
          generalize strL x = sx at p1 hxs hz
          go_wp2
          go_roundw
          case rel => exact ⟨j + 1, by omega, by simp, .inr (by omega), Hall2.out, hbw⟩
          case measure => simp [intOf] <;> omega
    · have hje : j = rcpts.length := by omega
      have h50' : rcpts = [] ∨ rcpts.length ≤ 50 := by
        rcases h50 with h | h
        · exact .inl (List.length_eq_zero_iff.1 (by omega))
        · exact .inr h
      rw [hje, List.take_of_length_le (Nat.le_refl _)] at hall
      have hpp : p = true ↔ frm.length ≤ 200 ∧ body.length ≤ 9000 := Hiff.out.trans ⟨fun h => h.2.2, fun h => ⟨h50', hall, h⟩⟩
      have Hpp := Lib.hid hpp
      have hjl : ¬ ((j : Int) < (rcpts.length : Int)) := by omega
      clear hall hpp h50' h50
      by_cases hf : frm.length ≤ 200
      · have hz : ((strL frm).size : Int) ≤ 200 := by omega
        by_cases hbd : body.length ≤ 9000
        · have hpt : p = true := Hpp.out.2 ⟨hf, hbd⟩
          subst hpt
          generalize strL frm = sf at c3 hz
          go_wp2
          go_ret
          exact ⟨by first | rfl | exact ret_bool (by simp; omega), hbw2⟩
        · have hpf : p = false := by cases p; rfl; exact absurd (Hpp.out.1 rfl).2 hbd
          subst hpf
          generalize strL frm = sf at c3 hz
          go_wp2
          go_ret
          exact ⟨by first | rfl | exact ret_bool (by simp; omega), hbw2⟩
      · have hpf : p = false := by cases p; rfl; exact absurd (Hpp.out.1 rfl).1 hf
        have hz : ¬ ((strL frm).size : Int) ≤ 200 := by omega
        subst hpf
        generalize strL frm = sf at c3 hz
        go_wp2
        go_ret
        exact ⟨rfl, hbw2⟩
end Go.Proofs.YtjddicoigbidlaaGreatDoor

set_option linter.unusedSimpArgs false
set_option linter.unusedVariables false
set_option maxRecDepth 100000
namespace Go.Proofs.YtjddicoigbidlaaGreatDoor
open Go.ChangeShapes Go.WideShapes Go.Deep Go.RowKit
/-- The library's variable holds a number, whatever the world. -/
theorem maxOk_of {W : World} (h : W.ShapedOpen Tryz.prog) : MaxOk W :=
  Go.Proofs.cell_of_shapedOpen_int (zero := #[.int .i64 0]) (t := 3) h (of_decide_eq_true (by kernel_rfl)) (by kernel_rfl) rfl (by kernel_rfl) (by kernel_rfl) Tryz.underlying3
section
variable {H : Type} {enc : TypeId × Value → H} {W : World} {base : Nat} {held : Bool} {n : Nat} {c : Value} {y : DataW H × List MemPlace}
theorem rdB_trod (h : DataW.trod enc Tryz.prog W base (fun _ => true) held n 23 [c] = some y) : ∃ bs, RdB W c bs ∧ NilOk c := by
  rcases open_ints Tryz.underlying23 Tryz.underlying5 (by kernel_rfl) h with ⟨hcs, _⟩ | ⟨x, l, cp, zs, hcs, _, hl, hm, hz, _, hcell, hwz⟩
  · cases hcs
    exact ⟨[], .inl ⟨_, _, rfl, by decide, rfl⟩, fun l c e => by cases e; exact ⟨rfl, rfl⟩⟩
  · cases hcs
    obtain ⟨bs, hb, _⟩ := rdB_of (w := W) (a := some x) (len := l) (cap := cp) (.inr ⟨_, rfl, hl, hm, by simpa using hz, hcell, hwz⟩)
    exact ⟨bs, hb, fun l c e => by cases e⟩
theorem rdS_trod (h : DataW.trod enc Tryz.prog W base (fun _ => true) held n 22 [c] = some y) : ∃ ls, RdS W c ls ∧ NilOk c := by
  rcases open_strings Tryz.underlying22 Tryz.underlying9 (by kernel_rfl) h with ⟨hcs, _⟩ | ⟨x, l, cp, ss, hcs, _, hl, hm, hz, _, hcell, hwz⟩
  · cases hcs
    exact ⟨[], .inl ⟨_, _, rfl, by decide, rfl⟩, fun l c e => by cases e; exact ⟨rfl, rfl⟩⟩
  · cases hcs
    rw [if_pos rfl] at hz
    by_cases h0 : l = 0
    · subst h0
      exact ⟨[], .inl ⟨_, _, rfl, hm, rfl⟩, fun l c e => by cases e⟩
    · obtain ⟨b, off, s⟩ := x
      have hs : s = none := by
        cases s with
        | none => rfl
        | some q =>
          have := hcell 0 (by omega)
          rw [Addr.add, if_pos rfl] at this
          unfold World.cell? at this
          split at this <;> simp at this
      subst hs
      refine ⟨(ss.take l).map fun s => s.data.toList, .inr ⟨b, off, cp, ?_, ?_, ?_, hm, ?_, ?_⟩, fun l c e => by cases e⟩
      · rw [List.length_map, List.length_take, Nat.min_eq_left (by omega)]
      · rw [← List.length_pos_iff, List.length_map, List.length_take]; omega
      · rw [List.length_map, List.length_take]; omega
      · have := hcell 0 (by omega)
        rw [add_at] at this
        exact World.block_lt_of_cell? W ⟨b, off + 0, none⟩ this
      · intro i q hq j u hu
        rw [List.getElem?_map] at hq
        obtain ⟨s, hs, rfl⟩ := Option.map_eq_some_iff.1 hq
        rw [List.getElem?_take] at hs
        split at hs
        · have hi : i < ss.length := (List.getElem?_eq_some_iff.1 hs).1
          have hc := hcell i hi
          rw [add_at, List.getD_eq_getElem?_getD, hs] at hc
          cases j with
          | zero =>
            rw [s1] at hu
            cases hu
            rw [Nat.mul_one, Nat.add_zero]
            rw [hc]; rfl
          | succ j => rw [s1] at hu; cases hu
        · cases hs
end
theorem fieldsMail : ∃ f0 f1 f2 f3 f4 f5 : Field, Tryz.prog.underlying 25 = some (.struct #[f0, f1, f2, f3, f4, f5]) ∧ (f0.type = 3 ∧ f0.offset = 0) ∧ (f1.type = 3 ∧ f1.offset = 1) ∧ (f2.type = 3 ∧ f2.offset = 2) ∧ (f3.type = 9 ∧ f3.offset = 3) ∧ (f4.type = 22 ∧ f4.offset = 4) ∧ (f5.type = 23 ∧ f5.offset = 5) :=
  ⟨_, _, _, _, _, _, Tryz.underlying25, ⟨rfl, rfl⟩, ⟨rfl, rfl⟩, ⟨rfl, rfl⟩, ⟨rfl, rfl⟩, ⟨rfl, rfl⟩, rfl, rfl⟩
theorem mail_arg {H : Type} {enc : TypeId × Value → H} {W : World} {r : Reach} {b0 base : Nat} {held : Bool} {v : Value} {d : DataW H} {p : List MemPlace}
    (hv : Value.okWide Tryz.prog W r b0 25 v) (h : DataW.Trod enc Tryz.prog W base (fun _ => true) held 25 v d p) :
    ∃ m vr vb, v = mailVal m vr vb ∧ RdS W vr m.rcpts ∧ RdB W vb m.body ∧ NilOk vr ∧ NilOk vb := by
  obtain ⟨f0, f1, f2, f3, f4, f5, hu, ⟨t0, o0⟩, ⟨t1, o1⟩, ⟨t2, o2⟩, ⟨t3, o3⟩, ⟨t4, o4⟩, t5, o5⟩ := fieldsMail
  obtain ⟨cs, rfl, hsz⟩ := okWide_struct hu hv
  obtain ⟨fuel, hf⟩ := h
  obtain ⟨xs, m, _, _, hl, hxl, hat⟩ := DataW.trod_struct hu hf
  have hc : Tryz.prog.cellsOf 25 = 6 := by kernel_rfl
  have hi : Tryz.prog.cellsOf 3 = 1 := by kernel_rfl
  have hs : Tryz.prog.cellsOf 9 = 1 := by kernel_rfl
  have hss : Tryz.prog.cellsOf 22 = 1 := by kernel_rfl
  have hbb : Tryz.prog.cellsOf 23 = 1 := by kernel_rfl
  rw [hc] at hl
  obtain ⟨cs⟩ := cs
  have hl : cs.length = 6 := by simpa [Value.cells] using hl
  match cs, hl with
  | [c0, c1, c2, c3, c4, c5], _ =>
    match xs, hxl with
    | [y0, y1, y2, y3, y4, y5], _ =>
      have g0 := hat 0 f0 rfl
      have g1 := hat 1 f1 rfl
      have g2 := hat 2 f2 rfl
      have g3 := hat 3 f3 rfl
      have g4 := hat 4 f4 rfl
      have g5 := hat 5 f5 rfl
      rw [t0, o0, hi] at g0
      rw [t1, o1, hi] at g1
      rw [t2, o2, hi] at g2
      rw [t3, o3, hs] at g3
      rw [t4, o4, hss] at g4
      rw [t5, o5, hbb] at g5
      obtain ⟨n0, e0, _⟩ := DataW.trod_int (P := Tryz.prog) Tryz.underlying3 g0
      obtain ⟨n1, e1, _⟩ := DataW.trod_int (P := Tryz.prog) Tryz.underlying3 g1
      obtain ⟨n2, e2, _⟩ := DataW.trod_int (P := Tryz.prog) Tryz.underlying3 g2
      obtain ⟨s3, e3, _⟩ := DataW.trod_string (P := Tryz.prog) Tryz.underlying9 g3
      simp only [Value.cells, List.drop_succ_cons, List.drop_zero, List.take_succ_cons, List.take_zero, List.cons.injEq, and_true] at e0 e1 e2 e3 g4 g5
      obtain ⟨ls, hr, hn⟩ := rdS_trod g4
      obtain ⟨bs, hb, hn2⟩ := rdB_trod g5
      subst e0 e1 e2 e3
      exact ⟨⟨n0, n1, n2, s3.data.toList, ls, bs⟩, c4, c5, rfl, hr, hb, hn, hn2⟩
/-- A slice of bytes that comes in: its block is there. -/
theorem block_arg {W : World} {r : Reach} {b0 : Nat} {t e : TypeId} (ht : Tryz.prog.underlying t = some (.slice e)) {v : Value} (hv : Value.okWide Tryz.prog W r b0 t v) : ∀ k, v.ownBlock = some k → k < W.heap.size := by
  obtain ⟨a, len, cap, rfl⟩ := okWide_slice ht hv
  intro k hk
  cases a with
  | none => cases hk
  | some a =>
    cases hk
    simp only [Value.okWide, ht, Cell.okWide, Cell.ok] at hv
    obtain ⟨_, _, _, _, row, cells, hsh, _⟩ := hv
    unfold World.shape? at hsh
    rcases Nat.lt_or_ge a.block W.heap.size with h | h
    · exact h
    · rw [Array.getElem?_eq_none h] at hsh; cases hsh
section
variable {H : Type} {enc : TypeId × Value → H}
/-- 'There is an input that fits', where great tables are laid. -/
theorem witness_laid {C : Checked} {os : Os} {f : FuncId} {fn : Func} {s : OpenSpec} {conds : List PathCond} {apart : Bool} {laid : List (String × DataW Unit)} (w0 : World) (args : Array Value) (hos : w0.os = os)
    (hsh : (w0.forCall (fun _ _ => 0) ⟨#[], args, []⟩).Shaped C.prog)
    (hok : Input.okWideB C.prog (w0.forCall (fun _ _ => 0) ⟨#[], args, []⟩) f ⟨#[], args, []⟩ = true)
    (hrow : s.preRow enc C.prog fn conds apart laid (w0.forCall (fun _ _ => 0) ⟨#[], args, []⟩).memory args) :
    ∃ (w : World) (tape : Tape) (i : Input), w.os = os ∧ (w.forCall tape i).Shaped C.prog ∧ i.vars = [] ∧ Input.okWide C.prog (w.forCall tape i) .any w.heap.size f i ∧
      s.preRow enc C.prog fn conds apart laid (w.forCall tape i).memory i.args ∧ ({} : Assume).holds C.prog (lone (Frame.enter C.prog f i.args .normal) [] (w.forCall tape i)) :=
  ⟨w0, fun _ _ => 0, ⟨#[], args, []⟩, hos, hsh, (Input.okWide_of_okWideB (base := 0) hok).1, (Input.okWide_of_okWideB hok).2, hrow, by
    simp only [Assume.holds]
    exact ⟨by simp, by simp, (fun h => by cases h), by simp, by simp⟩⟩
end
end Go.Proofs.YtjddicoigbidlaaGreatDoor

set_option linter.unusedSimpArgs false
set_option linter.unusedVariables false
set_option maxRecDepth 100000
namespace Go.Proofs.YtjddicoigbidlaaGreatDoor
open Go.ChangeShapes Go.WideShapes Go.Deep Go.RowKit
theorem addr_plain {w : World} {x : Addr} {n : Nat} {v : Value} (h : w.cell? (x.add 0) = some v) : ∃ b off, x = ⟨b, off, none⟩ := by
  obtain ⟨b, off, s⟩ := x
  rw [Addr.add, if_pos rfl] at h
  cases s with
  | none => exact ⟨b, off, rfl⟩
  | some s => unfold World.cell? at h; split at h <;> simp at h
theorem add_plain (b off i : Nat) : Addr.add ⟨b, off, none⟩ i = ⟨b, off + i, none⟩ := by
  unfold Addr.add
  split
  · next h => subst h; rfl
  · rfl
section
variable {H : Type} {enc : TypeId × Value → H} {W : World} {r : Reach} {b0 base : Nat} {spare : Nat → Bool} {held : Bool} {v : Value} {d : DataW H} {p : List MemPlace}
theorem rdB_arg (hv : Value.okWide Tryz.prog W r b0 23 v) (h : DataW.Trod enc Tryz.prog W base (fun _ => true) held 23 v d p) : ∃ bs, RdB W v bs := by
  obtain ⟨a0, len0, cap0, rfl⟩ := okWide_slice Tryz.underlying23 hv
  obtain ⟨fuel, hf⟩ := h
  rcases open_ints Tryz.underlying23 Tryz.underlying5 (by kernel_rfl) hf with ⟨hcs, _⟩ | ⟨x, l, c, zs, hcs, _, hl, hm, hz, _, hcell, hwz⟩
  · simp [Value.cells] at hcs
    obtain ⟨rfl, rfl, rfl⟩ := hcs
    exact ⟨[], .inl ⟨_, _, rfl, by decide, rfl⟩⟩
  · simp [Value.cells] at hcs
    obtain ⟨rfl, rfl, rfl⟩ := hcs
    obtain ⟨bs, hb, _⟩ := rdB_of (w := W) (a := some x) (len := len0) (cap := cap0) (.inr ⟨_, rfl, hl, hm, by simpa using hz, hcell, hwz⟩)
    exact ⟨bs, hb⟩
theorem fieldsMark : ∃ f0 f1 f2 : Field, Tryz.prog.underlying 52 = some (.struct #[f0, f1, f2]) ∧ (f0.type = 3 ∧ f0.offset = 0) ∧ (f1.type = 3 ∧ f1.offset = 1) ∧ (f2.type = 3 ∧ f2.offset = 2) :=
  ⟨_, _, _, Tryz.underlying52, ⟨rfl, rfl⟩, ⟨rfl, rfl⟩, rfl, rfl⟩
/-- The cells of one mark. -/
theorem mark_cells {n : Nat} {cs : List Value} {x : DataW H × List MemPlace} (h : DataW.trod enc Tryz.prog W base spare held n 52 cs = some x) :
    ∃ k : MarkD, cs = k.cells := by
  obtain ⟨f0, f1, f2, hu, ⟨t0, o0⟩, ⟨t1, o1⟩, t2, o2⟩ := fieldsMark
  obtain ⟨xs, m, _, _, hl, hxl, hat⟩ := DataW.trod_struct hu h
  have hc : Tryz.prog.cellsOf 52 = 3 := by kernel_rfl
  have hi : Tryz.prog.cellsOf 3 = 1 := by kernel_rfl
  rw [hc] at hl
  match cs, hl with
  | [c0, c1, c2], _ =>
    match xs, hxl with
    | [y0, y1, y2], _ =>
      have g0 := hat 0 f0 rfl
      have g1 := hat 1 f1 rfl
      have g2 := hat 2 f2 rfl
      rw [t0, o0, hi] at g0
      rw [t1, o1, hi] at g1
      rw [t2, o2, hi] at g2
      obtain ⟨n0, e0, _⟩ := DataW.trod_int (P := Tryz.prog) Tryz.underlying3 g0
      obtain ⟨n1, e1, _⟩ := DataW.trod_int (P := Tryz.prog) Tryz.underlying3 g1
      obtain ⟨n2, e2, _⟩ := DataW.trod_int (P := Tryz.prog) Tryz.underlying3 g2
      simp only [List.drop_succ_cons, List.drop_zero, List.take_succ_cons, List.take_zero, List.cons.injEq, and_true] at e0 e1 e2
      subst e0 e1 e2
      exact ⟨⟨n0, n1, n2⟩, rfl⟩
theorem rdM_arg (hv : Value.okWide Tryz.prog W r b0 39 v) (h : DataW.Trod enc Tryz.prog W base (fun _ => true) held 39 v d p) : ∃ ks, RdM W v ks := by
  obtain ⟨a0, len0, cap0, rfl⟩ := okWide_slice Tryz.underlying39 hv
  obtain ⟨fuel, hf⟩ := h
  rcases open_slice Tryz.underlying39 hf with ⟨hcs, _⟩ | ⟨x, l, c, m, n, D, Pl, hcs, _, hl, hm, hmm, _, hcell⟩
  · simp [Value.cells] at hcs
    obtain ⟨rfl, rfl, rfl⟩ := hcs
    exact ⟨[], .inl ⟨_, _, rfl, by decide, rfl⟩⟩
  · simp [Value.cells] at hcs
    obtain ⟨rfl, rfl, rfl⟩ := hcs
    rw [if_pos rfl] at hmm
    subst hmm
    have hc : Tryz.prog.cellsOf 52 = 3 := by kernel_rfl
    have hall : ∀ i : Nat, i < m → ∃ k : MarkD, W.cells? base (x.add (i * 3)) 3 = some k.cells := by
      intro i hi
      obtain ⟨cs', h1, h2⟩ := hcell i hi
      rw [hc] at h1
      obtain ⟨k, rfl⟩ := mark_cells h2
      exact ⟨k, h1⟩
    by_cases hz : len0 = 0
    · subst hz; exact ⟨[], .inl ⟨_, _, rfl, hm, rfl⟩⟩
    · have hx : ∃ b off, x = ⟨b, off, none⟩ := by
        obtain ⟨k, hk⟩ := hall 0 (by omega)
        have := (World.cells?_some hk).2.2 0 (by omega)
        rw [Nat.zero_mul] at this
        obtain ⟨b, off, s⟩ := x
        refine addr_plain (n := 0) (v := .int .i64 k.kind) (w := W) ?_
        simpa [Addr.add] using this
      obtain ⟨b, off, rfl⟩ := hx
      refine ⟨(List.range len0).map fun i => if hi : i < m then (hall i hi).choose else ⟨0, 0, 0⟩, .inr ⟨b, off, m, by simp, by simp; omega, by simpa using hl, hm, ?_, ?_⟩⟩
      · obtain ⟨k, hk⟩ := hall 0 (by omega)
        have := (World.cells?_some hk).2.2 0 (by omega)
        rw [Nat.zero_mul, add_plain, add_plain] at this
        exact World.block_lt_of_cell? W _ this
      · intro i k hk j u hu
        have hi : i < len0 := by have := (List.getElem?_eq_some_iff.1 hk).1; simpa using this
        rw [List.getElem?_map, List.getElem?_range hi] at hk
        simp only [Option.map_some, Option.some.injEq] at hk
        have him : i < m := by omega
        rw [dif_pos him] at hk
        have hs := (hall i him).choose_spec
        rw [hk] at hs
        have hj : j < 3 := (List.getElem?_eq_some_iff.1 hu).1
        have := (World.cells?_some hs).2.2 j hj
        rw [add_plain, add_plain, Nat.add_assoc] at this
        rw [this, hu]
end
end Go.Proofs.YtjddicoigbidlaaGreatDoor
