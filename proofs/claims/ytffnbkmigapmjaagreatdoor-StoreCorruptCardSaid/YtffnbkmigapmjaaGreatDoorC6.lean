/-
  slices.Chunk of bytes, at 28 a part, hands back an iterator over the parts.
  What mark.Decode answers: the marks that bytes begin with.
-/
import Derived.Test.YtffnbkmigapmjaaGreatDoorC5
import Derived.RangeFuncBox
import Derived.RangeFuncLeaves
import Derived.Shelf.Abstract
import Derived.WalkKit
import Derived.OwnWalkIn
import Derived.TacticsInMore
import Derived.LoopNIn
import Derived.LoopIn
import Derived.Maps.AppendAt
import Derived.Test.YtffnbkmigapmjaaGreatDoorProg
set_option linter.unusedSimpArgs false
set_option linter.unusedVariables false
namespace Go.Proofs.YtffnbkmigapmjaaGreatDoor
open Go.RowKit Go.Shelf
attribute [local go_sem] Oper.semAt_some
/-- How many parts of 28 bytes there are. -/
def parts (n : Nat) : Nat := (n + 27) / 28
/-- The k-th part of bytes in block b from off on. -/
def partV (b off len k : Nat) : Value := .slice (some ⟨b, off + 28 * k, none⟩) (min 28 (len - 28 * k)) (min 28 (len - 28 * k))
def upTo {m : Nat} (k : Nat) : List (Fin m) := (List.finRange m).take k
theorem upTo_succ {m k : Nat} (h : k < m) : upTo (m := m) (k + 1) = upTo k ++ [⟨k, h⟩] := by
  unfold upTo
  exact take_snoc (by simp [h])
theorem upTo_length {m k : Nat} (h : k ≤ m) : (upTo (m := m) k).length = k := by simp [upTo, h]
set_option maxHeartbeats 1000000 in
theorem chunk_in (F : Fence) (n : Nat) (h5 : F.fn 146) (hro : F.round = none) (a : Option Addr) (len cap : Nat) (w : World) :
    CallsIn F n Tryz.prog 146 #[.slice a len cap, .int .i64 28] w fun e w' => e = .returned (.func (.func 190) #[] #[.pointer (some ⟨w.heap.size, 0, none⟩), .pointer (some ⟨w.heap.size + 1, 0, none⟩)]) ∧ w' = (w.alloc (.cells #[.slice a len cap] 22)).alloc (.cells #[.int .i64 28] 3) := by
  refine callsIn_of_wp Tryz.func146 rfl h5 ?_ hro
  simp only [Tryz.ntmps146, List.size_toArray, List.length_cons, List.length_nil, Nat.reduceAdd, Nat.reduceSub, Array.replicate_succ, Array.replicate_zero, List.push_toArray, List.append_toArray, List.nil_append, List.cons_append]
  gi_wp2
  go_ret
  exact ⟨rfl, rfl⟩

theorem run_slice_lhm {P : Program} {t e : TypeId} (ht : P.underlying t = some (.slice e)) (hi : (P.info? e).map (·.size) = some 1) (a : Addr) (len cap l h : Nat) (hl : l < h) (hh : h ≤ cap) (w : World) :
    (Instr.sliceAt t (.slice (some a) len cap) (some (.int .i64 (l : Int))) (some (.int .i64 (h : Int))) (some (.int .i64 (h : Int)))).run P w = .ok (.slice (some (a.add l)) (h - l) (h - l)) w := by
  obtain ⟨i, hi1, hi2⟩ := Option.map_eq_some_iff.1 hi
  have hne : h ≠ l := by omega
  simp [Instr.sliceAt, Instr.slice, Instr.sliceBounds, Instr.sliceBound, run_underlying ht, asIntOf, go_sem, hi1, hi2, sizeOf, typeInfo]
  rw [if_pos hh, if_pos (by omega), if_neg hne]
set_option maxRecDepth 100000 in
set_option maxHeartbeats 2000000 in
/-- The iterator's closure, at a slice that is not empty. -/
theorem chunk1_in (F : Fence) (n : Nat) (h7 : F.fn 190) (hro : F.round = none) (hn : 1 ≤ n) (l B0 b off len cap : Nat) (Fp : Nat → Prop) (hF0 : ¬ Fp B0) (hF1 : ¬ Fp (B0 + 1)) (hreach : len ≤ 140737488351232) (hlen : 0 < len) (hcap : len ≤ cap) (hcap' : cap ≤ 9223372036854775807) (J Jx : List (Fin (parts len)) → World → Prop)
    (hY : ∀ pre (x : Fin (parts len)) W, J pre W → pre.length < parts len → YieldAt F (n - 1) Tryz.prog l #[partV b off len x.1] W fun e W' =>
      (e = .returned (.bool true) ∧ J (pre ++ [x]) W' ∧ Keeps Fp W W') ∨ (e = .returned (.bool false) ∧ Jx (pre ++ [x]) W'))
    (W : World) (hs : W.cell? ⟨B0, 0, none⟩ = some (.slice (some ⟨b, off, none⟩) len cap)) (hm : W.cell? ⟨B0 + 1, 0, none⟩ = some (.int .i64 28)) (h0 : J [] W)
    (hJd : ∀ pre W, J pre W → J pre W.drew) :
    CallsIn F n Tryz.prog 190 #[.func (.yield l) #[] #[], .pointer (some ⟨B0, 0, none⟩), .pointer (some ⟨B0 + 1, 0, none⟩)] W fun e W' => (∃ v, e = .returned v) ∧
      ((∃ ys, ys = upTo (parts len) ∧ J ys W') ∨ (∃ pre, (∃ k, k ≤ parts len ∧ pre = upTo k) ∧ Jx pre W')) := by
  refine callsIn_of_wp Tryz.func190 rfl h7 ?_ hro
  simp only [Tryz.ntmps190, List.size_toArray, List.length_cons, List.length_nil, Nat.reduceAdd, Nat.reduceSub, Array.replicate_succ, Array.replicate_zero, List.push_toArray, List.append_toArray, List.nil_append, List.cons_append]
  gi_wp2
  gi_loopw [4] (fun i wr => ∃ k : Nat, k ≤ parts len ∧ i = .int .i64 ((28 * k : Nat) : Int) ∧ J (upTo k) wr ∧ Keeps Fp W wr)
    (fun i _ => parts len - (intOf i).toNat / 28)
  case atStart => exact ⟨0, Nat.zero_le _, rfl, h0, Keeps.refl _ _⟩
  case round =>
    obtain ⟨k, hk, rfl, hJs, hnx⟩ := hrel
    have hs' := hnx.cell hF0 hs
    have hm' := hnx.cell hF1 hm
    by_cases hlt : k < parts len
    · obtain ⟨fn, tmps, assign, body, hy, hR⟩ := hY _ ⟨k, hlt⟩ wr.drew (hJd _ _ hJs) (by rw [upTo_length hk]; exact hlt)
      have hlt' : 28 * k < len := by unfold parts at hlt; omega
      obtain ⟨i, hi⟩ : ∃ i, 28 * k = i := ⟨_, rfl⟩
      rw [hi] at hlt' ⊢
      have hs2 := run_slice_l (P := Tryz.prog) Tryz.underlying22 u8size (some ⟨b, off, none⟩) len cap i (by omega)
      obtain ⟨e, he⟩ : ∃ e, min 28 (len - i) = e := ⟨_, rfl⟩
      have hmin : ∀ w, (Builtin.min_ #[3, 3] 3 #[.int .i64 28, .int .i64 ((len - i : Nat) : Int)]).run Tryz.prog w = .ok (.int .i64 (e : Int)) w := by
        intro w
        have h1 : (if ((len - i : Nat) : Int) < 28 then ((len - i : Nat) : Int) else 28) = (e : Int) := by split <;> omega
        simp [Builtin.min_, Builtin.min2, go_sem, h1]
      have he1 : 0 < e := by omega
      have he2 : i + e ≤ len := by omega
      obtain ⟨j, hj⟩ : ∃ j, i + e = j := ⟨_, rfl⟩
      have hs3 := run_slice_lhm (P := Tryz.prog) Tryz.underlying22 u8size ⟨b, off, none⟩ len cap i j (by omega) (by omega)
      have hjI : (i : Int) + (e : Int) = (j : Int) := by omega
      have hpv : partV b off len k = .slice (some ⟨b, off + i, none⟩) e e := by unfold partV; rw [hi, he]
      rw [add_at, show j - i = e by omega] at hs3
      dsimp only at hy
      rw [hpv] at hy
      gi_wp2
      gi_region
      all_goals
        gi_wp2
        refine hR.mono ?_
        rintro e W3 (⟨rfl, hJ3, hk3⟩ | ⟨rfl, hJx3⟩)
        · have hs4 := (hk3.cell hF0 ((show wr.drew.cell? ⟨B0, 0, none⟩ = _ from hs')))
          have hm4 := (hk3.cell hF1 ((show wr.drew.cell? ⟨B0 + 1, 0, none⟩ = _ from hm')))
          gi_wp2
          go_roundw
          case rel => exact ⟨k + 1, by omega, by congr 1; omega, by rw [upTo_succ hlt]; exact hJ3, (hnx.trans (Keeps.drew _ _)).trans hk3⟩
          case measure => simp [intOf] <;> omega
        · gi_wp2
          refine bodyPost_ret (results_none rfl _ _ _) rfl ?_
          exact ⟨⟨_, rfl⟩, .inr ⟨_, ⟨k + 1, by omega, (upTo_succ hlt).symm⟩, hJx3⟩⟩
    · obtain rfl : k = parts len := by omega
      have hge : len ≤ 28 * parts len := by unfold parts; omega
      obtain ⟨i, hi⟩ : ∃ i, 28 * parts len = i := ⟨_, rfl⟩
      rw [hi] at hge ⊢
      gi_wp2
      go_end0
      exact ⟨⟨_, rfl⟩, .inl ⟨_, rfl, hJs⟩⟩

end Go.Proofs.YtffnbkmigapmjaaGreatDoor

set_option linter.unusedSimpArgs false
set_option linter.unusedVariables false
namespace Go.Proofs.YtffnbkmigapmjaaGreatDoor
open Go.RowKit Go.Shelf
attribute [local go_sem] Oper.semAt_some

set_option maxHeartbeats 1000000 in
theorem chunk1_nil_in (F : Fence) (n : Nat) (h7 : F.fn 190) (hro : F.round = none) (l B0 cap : Nat) (a : Option Addr) (J : List (Fin (parts 0)) → World → Prop) (W : World)
    (hs : W.cell? ⟨B0, 0, none⟩ = some (.slice a 0 cap)) (h0 : J [] W) :
    CallsIn F n Tryz.prog 190 #[.func (.yield l) #[] #[], .pointer (some ⟨B0, 0, none⟩), .pointer (some ⟨B0 + 1, 0, none⟩)] W fun e W' => (∃ v, e = .returned v) ∧ J [] W' := by
  refine callsIn_of_wp Tryz.func190 rfl h7 ?_ hro
  simp only [Tryz.ntmps190, List.size_toArray, List.length_cons, List.length_nil, Nat.reduceAdd, Nat.reduceSub, Array.replicate_succ, Array.replicate_zero, List.push_toArray, List.append_toArray, List.nil_append, List.cons_append]
  gi_wp2
  gi_loopw [4] (fun i wr => i = .int .i64 0 ∧ wr = W) (fun _ _ => 0)
  case atStart => exact ⟨rfl, rfl⟩
  case round =>
    obtain ⟨rfl, rfl⟩ := hrel
    gi_wp2
    go_end0
    exact ⟨⟨_, rfl⟩, h0⟩
/-- slices.Chunk of bytes hands back an iterator over all parts, in order, for every loop body that keeps its two boxes. -/
theorem chunk_stops (F : Fence) (n : Nat) (h7 : F.fn 190) (hro : F.round = none) (hn : 1 ≤ n) (B0 b off len cap : Nat) (Fp : Nat → Prop) (hF0 : ¬ Fp B0) (hF1 : ¬ Fp (B0 + 1)) (a : Option Addr) (ha : len = 0 ∨ a = some ⟨b, off, none⟩) (hreach : len ≤ 140737488351232) (hcap : len ≤ cap) (hcap' : cap ≤ 9223372036854775807)
    (w : World) (hB0 : B0 + 1 < w.heap.size) (hs : w.cell? ⟨B0, 0, none⟩ = some (.slice a len cap)) (hm : w.cell? ⟨B0 + 1, 0, none⟩ = some (.int .i64 28)) :
    SeqStopsK F n Tryz.prog 190 #[.pointer (some ⟨B0, 0, none⟩), .pointer (some ⟨B0 + 1, 0, none⟩)] (fun x : Fin (parts len) => #[partV b off len x.1]) (Keeps Fp)
      (fun ys => ys = upTo (parts len)) (fun pre => ∃ k, k ≤ parts len ∧ pre = upTo k) (parts len) w := fun l J Jx W hW hJ hJx hY h0 => by
  have hs' := (hW.cell (p := ⟨B0, 0, none⟩) (by show B0 < _; omega)).trans hs
  have hm' := (hW.cell (p := ⟨B0 + 1, 0, none⟩) (by show B0 + 1 < _; omega)).trans hm
  by_cases hl : len = 0
  · subst hl
    exact (chunk1_nil_in F n h7 hro l B0 cap a J W hs' h0).mono fun e W' ⟨he, hj⟩ => ⟨he, .inl ⟨[], by simp [upTo, parts], hj⟩⟩
  · obtain rfl : a = some ⟨b, off, none⟩ := ha.resolve_left hl
    refine (chunk1_in F n h7 hro hn l B0 b off len cap Fp hF0 hF1 hreach (by omega) hcap hcap' J Jx hY W hs' hm' h0 ?_).mono ?_
    · intro pre W1 h1
      exact hJ _ _ _ none h1 ⟨rfl, rfl, rfl, Nat.le_refl _, fun _ _ _ => rfl⟩ (fun r e => by cases e)
    · rintro e W' ⟨he, ⟨ys, rfl, hj⟩ | ⟨pre, ⟨k, hk, rfl⟩, hj⟩⟩
      · exact ⟨he, .inl ⟨_, rfl, hj⟩⟩
      · exact ⟨he, .inr ⟨_, ⟨k, hk, rfl⟩, hj⟩⟩
/-! The plain side: parts, the marks that they are. -/
def chunkAt (bs : List UInt8) (k : Nat) : List UInt8 := (bs.drop (28 * k)).take 28
def chunkM (bs : List UInt8) (k : Nat) : Option MarkD := if (chunkAt bs k).length < 28 then none else parseMark (chunkAt bs k)
def decodeN : Nat → List UInt8 → List MarkD
  | 0, _ => []
  | n + 1, bs => if bs.length < 28 then [] else match parseMark (bs.take 28) with
    | none => []
    | some k => k :: decodeN n (bs.drop 28)
/-- The marks that bytes begin with. -/
def decodeM (bs : List UInt8) : List MarkD := decodeN 4096 bs
def msOf (bs : List UInt8) {m : Nat} (pre : List (Fin m)) : List MarkD := pre.filterMap fun x => chunkM bs x.1
def msR (bs : List UInt8) (k : Nat) : List MarkD := (List.range k).filterMap (chunkM bs)
theorem chunkM_zero (bs : List UInt8) : chunkM bs 0 = if bs.length < 28 then none else parseMark (bs.take 28) := by
  have h : (chunkAt bs 0).length < 28 ↔ bs.length < 28 := by simp [chunkAt]; omega
  unfold chunkM
  by_cases hl : bs.length < 28
  · rw [if_pos (h.2 hl), if_pos hl]
  · rw [if_neg (fun e => hl (h.1 e)), if_neg hl]; rfl
theorem chunkM_drop (bs : List UInt8) (k : Nat) : chunkM (bs.drop 28) k = chunkM bs (k + 1) := by
  have h : chunkAt (bs.drop 28) k = chunkAt bs (k + 1) := by unfold chunkAt; rw [List.drop_drop]; congr 2; omega
  unfold chunkM; rw [h]
theorem decodeN_good (k : Nat) : ∀ (n : Nat) (bs : List UInt8), (∀ j, j < k → (chunkM bs j).isSome = true) → decodeN (k + n) bs = msR bs k ++ decodeN n (bs.drop (28 * k)) := by
  induction k with
  | zero => intro n bs _; simp [msR]
  | succ k ih =>
    intro n bs h
    have h0 := h 0 (by omega)
    rw [chunkM_zero] at h0
    by_cases hl : bs.length < 28
    · rw [if_pos hl] at h0; cases h0
    · rw [if_neg hl] at h0
      obtain ⟨x, hx⟩ := Option.isSome_iff_exists.1 h0
      have hz : chunkM bs 0 = some x := by rw [chunkM_zero, if_neg hl, hx]
      rw [show k + 1 + n = (k + n) + 1 by omega, decodeN, if_neg hl, hx]
      simp only
      rw [ih n (bs.drop 28) (fun j hj => by rw [chunkM_drop]; exact h (j + 1) (by omega))]
      have hm : msR bs (k + 1) = x :: msR (bs.drop 28) k := by
        unfold msR
        rw [List.range_succ_eq_map, List.filterMap_cons, hz, List.filterMap_map]
        have hf : chunkM bs ∘ Nat.succ = chunkM (bs.drop 28) := by funext j; exact (chunkM_drop bs j).symm
        rw [hf]
      rw [hm, List.drop_drop, List.cons_append, show 28 + 28 * k = 28 * (k + 1) by omega]
theorem decodeM_stop (bs : List UInt8) (k : Nat) (h : ∀ j, j < k → (chunkM bs j).isSome = true) (hk : k ≤ 4096) (hs : k = 4096 ∨ chunkM bs k = none) : decodeM bs = msR bs k := by
  unfold decodeM
  rw [show 4096 = k + (4096 - k) by omega, decodeN_good k _ bs h]
  rcases hs with rfl | hs
  · simp [decodeN]
  · have : decodeN (4096 - k) (bs.drop (28 * k)) = [] := by
      cases hn : 4096 - k with
      | zero => rfl
      | succ n =>
        have hz : chunkM (bs.drop (28 * k)) 0 = none := by
          rw [← hs]; unfold chunkM; rw [show chunkAt (bs.drop (28 * k)) 0 = chunkAt bs k by simp [chunkAt]]
        rw [chunkM_zero] at hz
        rw [decodeN]
        by_cases hl : (bs.drop (28 * k)).length < 28
        · rw [if_pos hl]
        · rw [if_neg hl] at hz ⊢; rw [hz]
    rw [this, List.append_nil]
theorem chunkM_end (bs : List UInt8) : chunkM bs (parts bs.length) = none := by
  have : (chunkAt bs (parts bs.length)).length < 28 := by simp [chunkAt, parts]; omega
  rw [chunkM, if_pos this]
theorem msOf_upTo (bs : List UInt8) {m k : Nat} (hk : k ≤ m) : msOf bs (upTo (m := m) k) = msR bs k := by
  induction k with
  | zero => simp [msOf, upTo, msR]
  | succ k ih =>
    have ih := ih (by omega)
    rw [upTo_succ (by omega : k < m), msR, List.range_succ, List.filterMap_append]
    unfold msOf at ih ⊢
    rw [List.filterMap_append, ih]
    rfl
theorem msOf_length (bs : List UInt8) {m : Nat} (pre : List (Fin m)) (h : ∀ x ∈ pre, (chunkM bs x.1).isSome = true) : (msOf bs pre).length = pre.length := by
  induction pre with
  | nil => rfl
  | cons x pre ih =>
    obtain ⟨k, hk⟩ := Option.isSome_iff_exists.1 (h x (by simp))
    have := ih (fun y hy => h y (by simp [hy]))
    unfold msOf at this ⊢
    rw [List.filterMap_cons, hk]; simp [this]
theorem mem_upTo {m k : Nat} (hk : k ≤ m) {j : Nat} (hj : j < k) : (⟨j, by omega⟩ : Fin m) ∈ upTo (m := m) k := by
  unfold upTo
  rw [List.mem_take_iff_getElem]
  exact ⟨j, by simp; omega, by simp⟩
theorem decode_done (bs : List UInt8) (h : ∀ x ∈ upTo (m := parts bs.length) (parts bs.length), (chunkM bs x.1).isSome = true) (hl : (upTo (m := parts bs.length) (parts bs.length)).length ≤ 4096) : decodeM bs = msOf bs (upTo (m := parts bs.length) (parts bs.length)) := by
  rw [upTo_length (Nat.le_refl _)] at hl
  rw [msOf_upTo bs (Nat.le_refl _)]
  exact decodeM_stop bs _ (fun j hj => h _ (mem_upTo (Nat.le_refl _) hj)) hl (.inr (chunkM_end bs))
theorem decode_stop (bs : List UInt8) (k : Nat) (hk : k ≤ parts bs.length) (hne : (upTo (m := parts bs.length) k) ≠ []) (h : ∀ x ∈ (upTo (m := parts bs.length) k).dropLast, (chunkM bs x.1).isSome = true) (hl : (upTo (m := parts bs.length) k).dropLast.length ≤ 4096)
    (hs : (upTo (m := parts bs.length) k).dropLast.length = 4096 ∨ ∃ x, (upTo (m := parts bs.length) k).getLast? = some x ∧ chunkM bs x.1 = none) : decodeM bs = msOf bs (upTo (m := parts bs.length) k).dropLast := by
  cases k with
  | zero => exact absurd (by simp [upTo]) hne
  | succ k =>
    rw [upTo_succ (by omega : k < parts bs.length)] at *
    rw [List.dropLast_concat] at *
    rw [upTo_length (by omega)] at hl hs
    rw [msOf_upTo bs (by omega)]
    refine decodeM_stop bs k (fun j hj => h _ (mem_upTo (by omega) hj)) hl ?_
    rcases hs with hs | ⟨x, hx, hn⟩
    · exact .inl hs
    · rw [List.getLast?_concat] at hx; cases hx; exact .inr hn
/-- The k-th part, as the iterator hands it. -/
theorem rdB_part {W : World} {b off cap : Nat} {bs : List UInt8} (h : RdB W (.slice (some ⟨b, off, none⟩) bs.length cap) bs) (k : Nat) (hk : 28 * k < bs.length) :
    RdB W (partV b off bs.length k) (chunkAt bs k) ∧ (chunkAt bs k).length = min 28 (bs.length - 28 * k) := by
  have hl : (chunkAt bs k).length = min 28 (bs.length - 28 * k) := by simp [chunkAt]
  refine ⟨?_, hl⟩
  rcases h with ⟨_, _, _, _, h⟩ | ⟨b', off', cap', h, _, _, h3, h4, h5⟩
  · subst h; simp at hk
  · cases h
    refine .inr ⟨b, off + 28 * k, min 28 (bs.length - 28 * k), ?_, ?_, by omega, by omega, h4, fun j x hx => ?_⟩
    · rw [hl]; rfl
    · rw [← List.length_pos_iff]; omega
    · have hj := (List.getElem?_eq_some_iff.1 hx).1
      rw [hl] at hj
      unfold chunkAt at hx
      rw [List.getElem?_take, if_pos (by omega), List.getElem?_drop] at hx
      rw [Nat.add_assoc]
      exact h5 _ x hx
end Go.Proofs.YtffnbkmigapmjaaGreatDoor
