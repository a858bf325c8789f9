/-
  slices.Chunk of bytes, at 28 a part, hands back an iterator over the parts.
-/
import Derived.RangeFuncBox
import Derived.RangeFuncLeaves
import Derived.Shelf.Abstract
import Derived.WalkKit
import Derived.OwnWalkIn
import Derived.TacticsInMore
import Derived.LoopNIn
import Derived.LoopIn
import Derived.Maps.AppendAt
import Derived.Test.YtfgmnachckbimaaProg
import Derived.Test.YtfgmnachckbimaaMarkRead
set_option linter.unusedSimpArgs false
set_option linter.unusedVariables false
namespace Go.Proofs.Ytfgmnachckbimaa
open Go.RowKit Go.Shelf
attribute [local go_sem] Oper.semAt_some
/-- How many parts of 28 bytes there are. -/
def parts (n : Nat) : Nat := (n + 27) / 28
/-- The k-th part of bytes in block b from off on. -/
def partV (b off len k : Nat) : Value := .slice (some ⟨b, off + 28 * k, none⟩) (min 28 (len - 28 * k)) (min 28 (len - 28 * k))
def upTo {m : Nat} (k : Nat) : List (Fin m) := (List.finRange m).take k
theorem upTo_succ {m k : Nat} (h : k < m) : upTo (m := m) (k + 1) = upTo k ++ [⟨k, h⟩] := by
  unfold upTo
  exact take_snoc (by simp [h])
theorem upTo_length {m k : Nat} (h : k ≤ m) : (upTo (m := m) k).length = k := by simp [upTo, h]
set_option maxHeartbeats 1000000 in
theorem chunk_in (F : Fence) (n : Nat) (h5 : F.fn 33) (hro : F.round = none) (a : Option Addr) (len cap : Nat) (w : World) :
    CallsIn F n Try.prog 33 #[.slice a len cap, .int .i64 28] w fun e w' => e = .returned (.func (.func 39) #[] #[.pointer (some ⟨w.heap.size, 0, none⟩), .pointer (some ⟨w.heap.size + 1, 0, none⟩)]) ∧ w' = (w.alloc (.cells #[.slice a len cap] 22)).alloc (.cells #[.int .i64 28] 3) := by
  refine callsIn_of_wp Try.func33 rfl h5 ?_ hro
  simp only [Try.ntmps33, List.size_toArray, List.length_cons, List.length_nil, Nat.reduceAdd, Nat.reduceSub, Array.replicate_succ, Array.replicate_zero, List.push_toArray, List.append_toArray, List.nil_append, List.cons_append]
  gi_wp2
  go_ret
  exact ⟨rfl, rfl⟩

theorem run_slice_lhm {P : Program} {t e : TypeId} (ht : P.underlying t = some (.slice e)) (hi : (P.info? e).map (·.size) = some 1) (a : Addr) (len cap l h : Nat) (hl : l < h) (hh : h ≤ cap) (w : World) :
    (Instr.sliceAt t (.slice (some a) len cap) (some (.int .i64 (l : Int))) (some (.int .i64 (h : Int))) (some (.int .i64 (h : Int)))).run P w = .ok (.slice (some (a.add l)) (h - l) (h - l)) w := by
  obtain ⟨i, hi1, hi2⟩ := Option.map_eq_some_iff.1 hi
  have hne : h ≠ l := by omega
  simp [Instr.sliceAt, Instr.slice, Instr.sliceBounds, Instr.sliceBound, run_underlying ht, asIntOf, go_sem, hi1, hi2, sizeOf, typeInfo]
  rw [if_pos hh, if_pos (by omega), if_neg hne]
set_option maxRecDepth 100000 in
set_option maxHeartbeats 2000000 in
/-- The iterator's closure, at a slice that is not empty. -/
theorem chunk1_in (F : Fence) (n : Nat) (h7 : F.fn 39) (hro : F.round = none) (hn : 1 ≤ n) (l B0 b off len cap : Nat) (Fp : Nat → Prop) (hF0 : ¬ Fp B0) (hF1 : ¬ Fp (B0 + 1)) (hreach : len ≤ 140737488351232) (hlen : 0 < len) (hcap : len ≤ cap) (hcap' : cap ≤ 9223372036854775807) (J Jx : List (Fin (parts len)) → World → Prop)
    (hY : ∀ pre (x : Fin (parts len)) W, J pre W → pre.length < parts len → YieldAt F (n - 1) Try.prog l #[partV b off len x.1] W fun e W' =>
      (e = .returned (.bool true) ∧ J (pre ++ [x]) W' ∧ Keeps Fp W W') ∨ (e = .returned (.bool false) ∧ Jx (pre ++ [x]) W'))
    (W : World) (hs : W.cell? ⟨B0, 0, none⟩ = some (.slice (some ⟨b, off, none⟩) len cap)) (hm : W.cell? ⟨B0 + 1, 0, none⟩ = some (.int .i64 28)) (h0 : J [] W)
    (hJd : ∀ pre W, J pre W → J pre W.drew) :
    CallsIn F n Try.prog 39 #[.func (.yield l) #[] #[], .pointer (some ⟨B0, 0, none⟩), .pointer (some ⟨B0 + 1, 0, none⟩)] W fun e W' => (∃ v, e = .returned v) ∧
      ((∃ ys, ys = upTo (parts len) ∧ J ys W') ∨ (∃ pre, (∃ k, k ≤ parts len ∧ pre = upTo k) ∧ Jx pre W')) := by
  refine callsIn_of_wp Try.func39 rfl h7 ?_ hro
  simp only [Try.ntmps39, List.size_toArray, List.length_cons, List.length_nil, Nat.reduceAdd, Nat.reduceSub, Array.replicate_succ, Array.replicate_zero, List.push_toArray, List.append_toArray, List.nil_append, List.cons_append]
  gi_wp2
  gi_loopw [4] (fun i wr => ∃ k : Nat, k ≤ parts len ∧ i = .int .i64 ((28 * k : Nat) : Int) ∧ J (upTo k) wr ∧ Keeps Fp W wr)
    (fun i _ => parts len - (intOf i).toNat / 28)
  case atStart => exact ⟨0, Nat.zero_le _, rfl, h0, Keeps.refl _ _⟩
  case round =>
    obtain ⟨k, hk, rfl, hJs, hnx⟩ := hrel
    have hs' := hnx.cell hF0 hs
    have hm' := hnx.cell hF1 hm
    by_cases hlt : k < parts len
    · obtain ⟨fn, tmps, assign, body, hy, hR⟩ := hY _ ⟨k, hlt⟩ wr.drew (hJd _ _ hJs) (by rw [upTo_length hk]; exact hlt)
      have hlt' : 28 * k < len := by unfold parts at hlt; omega
      obtain ⟨i, hi⟩ : ∃ i, 28 * k = i := ⟨_, rfl⟩
      rw [hi] at hlt' ⊢
      have hs2 := run_slice_l (P := Try.prog) Try.underlying22 u8size (some ⟨b, off, none⟩) len cap i (by omega)
      obtain ⟨e, he⟩ : ∃ e, min 28 (len - i) = e := ⟨_, rfl⟩
      have hmin : ∀ w, (Builtin.min_ #[3, 3] 3 #[.int .i64 28, .int .i64 ((len - i : Nat) : Int)]).run Try.prog w = .ok (.int .i64 (e : Int)) w := by
        intro w
        have h1 : (if ((len - i : Nat) : Int) < 28 then ((len - i : Nat) : Int) else 28) = (e : Int) := by split <;> omega
        simp [Builtin.min_, Builtin.min2, go_sem, h1]
      have he1 : 0 < e := by omega
      have he2 : i + e ≤ len := by omega
      obtain ⟨j, hj⟩ : ∃ j, i + e = j := ⟨_, rfl⟩
      have hs3 := run_slice_lhm (P := Try.prog) Try.underlying22 u8size ⟨b, off, none⟩ len cap i j (by omega) (by omega)
      have hjI : (i : Int) + (e : Int) = (j : Int) := by omega
      have hpv : partV b off len k = .slice (some ⟨b, off + i, none⟩) e e := by unfold partV; rw [hi, he]
      rw [add_at, show j - i = e by omega] at hs3
      dsimp only at hy
      rw [hpv] at hy
      gi_wp2
      gi_region
      all_goals
        gi_wp2
        refine hR.mono ?_
        rintro e W3 (⟨rfl, hJ3, hk3⟩ | ⟨rfl, hJx3⟩)
        · have hs4 := (hk3.cell hF0 ((show wr.drew.cell? ⟨B0, 0, none⟩ = _ from hs')))
          have hm4 := (hk3.cell hF1 ((show wr.drew.cell? ⟨B0 + 1, 0, none⟩ = _ from hm')))
          gi_wp2
          go_roundw
          case rel => exact ⟨k + 1, by omega, by congr 1; omega, by rw [upTo_succ hlt]; exact hJ3, (hnx.trans (Keeps.drew _ _)).trans hk3⟩
          case measure => simp [intOf] <;> omega
        · gi_wp2
          refine bodyPost_ret (results_none rfl _ _ _) rfl ?_
          exact ⟨⟨_, rfl⟩, .inr ⟨_, ⟨k + 1, by omega, (upTo_succ hlt).symm⟩, hJx3⟩⟩
    · obtain rfl : k = parts len := by omega
      have hge : len ≤ 28 * parts len := by unfold parts; omega
      obtain ⟨i, hi⟩ : ∃ i, 28 * parts len = i := ⟨_, rfl⟩
      rw [hi] at hge ⊢
      gi_wp2
      go_end0
      exact ⟨⟨_, rfl⟩, .inl ⟨_, rfl, hJs⟩⟩

end Go.Proofs.Ytfgmnachckbimaa
