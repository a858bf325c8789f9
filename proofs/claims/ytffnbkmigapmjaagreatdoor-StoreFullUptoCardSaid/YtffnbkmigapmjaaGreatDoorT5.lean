/- Printed out of the texts of wip/tpl. -/
import Derived.Test.YtffnbkmigapmjaaGreatDoorT4
import Derived.Deep.RegionHeld3
import Derived.BigRegion
import Derived.RangeFuncBox
import Derived.RangeFuncLeaves
import Derived.Shelf.Abstract
import Derived.WalkKit
import Derived.OwnWalkIn
import Derived.TacticsInMore
import Derived.LoopNIn
import Derived.LoopIn
import Derived.Maps.AppendAt
import Derived.Test.YtffnbkmigapmjaaGreatDoorProg
set_option linter.unusedSimpArgs false
set_option linter.unusedVariables false
namespace Go.Proofs.YtffnbkmigapmjaaGreatDoor
open Go.RowKit
def markOf (b : List UInt8) : MarkD := ⟨beNat (b.take 8), beNat ((b.drop 8).take 8), beNat ((b.drop 16).take 8)⟩
def parseMark (b : List UInt8) : Option MarkD := if (markOf b).good = true ∧ (markOf b).bytes = b then some (markOf b) else none
def rdSt (b : List UInt8) : Nat → List UInt8 × Bool
 | 0 => (b, false)
 | j + 1 => (rdNum (rdSt b j).1 (rdSt b j).2).2
def rdN (b : List UInt8) (j : Nat) : Nat := (rdNum (rdSt b j).1 (rdSt b j).2).1.1
def MarkD.read (b : List UInt8) : MarkD := ⟨rdN (b.take 24) 0, rdN (b.take 24) 1, rdN (b.take 24) 2⟩
theorem rdNum_le (bs : List UInt8) (bad : Bool) : (rdNum bs bad).1.1 ≤ 4611686018427387904 := by
 unfold rdNum
 split
 ·simp
 ·split
  ·simp
  ·simp only; omega
theorem read_ok (b : List UInt8) (hb : b.length = 28) :
 ((MarkD.read b).good && rdDone (rdSt (b.take 24) 3).1 (rdSt (b.take 24) 3).2 && decide ((MarkD.read b).bytes = b)) = (parseMark b).isSome ∧ (∀ k, parseMark b = some k → MarkD.read b = k) := by
 have hl : (b.take 24).length = 24 := by simp; omega
 have e0 : rdSt (b.take 24) 0 = (b.take 24, false) := rfl
 have big : ∀ n : Nat, 4611686018427387904 < n → ∀ k : MarkD, (k.kind = n ∨ k.rcpt = n ∨ k.n = n) → k.good = false := by
  intro n hn k hk
  exact decide_eq_false (by omega)
 have bad_stays : ∀ bs, (rdNum bs true).2 = (bs, true) := fun bs => by simp [rdNum]
 have p0 : (b.take 24).take 8 = b.take 8 := by rw [List.take_take]; congr 1
 have p1 : ((b.take 24).drop 8).take 8 = (b.drop 8).take 8 := by rw [List.drop_take, List.take_take]; congr 1
 have p2 : (((b.take 24).drop 8).drop 8).take 8 = (b.drop 16).take 8 := by rw [List.drop_drop, List.drop_take, List.take_take]; congr 1
 by_cases h0 : 4611686018427387904 < beNat (b.take 8)
 ·have g : (markOf b).good = false := big _ h0 _ (.inl rfl)
  have s1 : rdSt (b.take 24) 1 = ((b.take 24).drop 8, true) := by simp [rdSt, rdNum, hl, p0, h0]
  have s3 : (rdSt (b.take 24) 3).2 = true := by simp [rdSt] at s1 ⊢; rw [s1]; simp [bad_stays]
  simp [parseMark, g, rdDone, s3]
 ·have s1 : rdSt (b.take 24) 1 = ((b.take 24).drop 8, false) := by simp [rdSt, rdNum, hl, p0, h0]
  have n0 : rdN (b.take 24) 0 = beNat (b.take 8) := by simp [rdN, rdSt, rdNum, hl, p0, h0]
  by_cases h1 : 4611686018427387904 < beNat ((b.drop 8).take 8)
  ·have g : (markOf b).good = false := big _ h1 _ (.inr (.inl rfl))
   have s2 : (rdSt (b.take 24) 2).2 = true := by rw [rdSt, s1]; simp [rdNum, hl, p1, h1]
   have s3 : (rdSt (b.take 24) 3).2 = true := by rw [rdSt, s2]; simp [bad_stays]
   simp [parseMark, g, rdDone, s3]
  ·have s2 : rdSt (b.take 24) 2 = (((b.take 24).drop 8).drop 8, false) := by rw [rdSt, s1]; simp [rdNum, hl, p1, h1]
   have n1 : rdN (b.take 24) 1 = beNat ((b.drop 8).take 8) := by rw [rdN, s1]; simp [rdNum, hl, p1, h1]
   by_cases h2 : 4611686018427387904 < beNat ((b.drop 16).take 8)
   ·have g : (markOf b).good = false := big _ h2 _ (.inr (.inr rfl))
    have s3 : (rdSt (b.take 24) 3).2 = true := by rw [rdSt, s2]; simp only; rw [rdNum, p2, if_neg (by simp [hl]), if_pos h2]
    simp [parseMark, g, rdDone, s3]
   ·have s3 : rdSt (b.take 24) 3 = ((((b.take 24).drop 8).drop 8).drop 8, false) := by rw [rdSt, s2]; simp only; rw [rdNum, p2, if_neg (by simp [hl]), if_neg h2]
    have n2 : rdN (b.take 24) 2 = beNat ((b.drop 16).take 8) := by rw [rdN, s2]; simp only; rw [rdNum, p2, if_neg (by simp [hl]), if_neg h2]
    have hr : MarkD.read b = markOf b := by simp [MarkD.read, markOf, n0, n1, n2]
    have hd : rdDone (rdSt (b.take 24) 3).1 (rdSt (b.take 24) 3).2 = true := by rw [s3]; simp [rdDone, hl]
    rw [hr, hd]
    unfold parseMark
    by_cases hg : (markOf b).good = true
    ·by_cases he : (markOf b).bytes = b
     ·simp [hg, he]
     ·simp [hg, he]
    ·simp [hg]
theorem RdAt.keeps {F : Nat → Prop} {w w' : World} {b : Nat} {v : Value} {bs : List UInt8} {bad : Bool} (h : RdAt w b v bs bad) (hk : Keeps F w w') (hb : ¬ F b) (hv : ∀ k, v.ownBlock = some k → ¬ F k) : RdAt w' b v bs bad :=
 ⟨hk.heap h.blk hb, h.rd.keeps hk hv, h.ne⟩
def rdArr (b : List UInt8) (j : Nat) : Array Value := #[.int .i64 (if 0 < j then (rdN b 0 : Int) else 0), .int .i64 (if 1 < j then (rdN b 1 : Int) else 0), .int .i64 (if 2 < j then (rdN b 2 : Int) else 0)]
theorem rdArr_set (b : List UInt8) (j : Nat) (h : j < 3) : (rdArr b j).setIfInBounds j (.int .i64 (rdN b j : Int)) = rdArr b (j + 1) := by
 rcases (by omega : j = 0 ∨ j = 1 ∨ j = 2) with rfl | rfl | rfl <;> simp [rdArr]
theorem rDone_is (b : Nat) (v : Value) (bs : List UInt8) (bad d : Bool) (hd : rdDone bs bad = d) (w : World) (hR : RdAt w b v bs bad) :
 Calls Tryz.prog 189 #[.pointer (some ⟨b, 0, none⟩)] w fun e w' => e = .returned (.bool d) ∧ w = w' := by
 subst hd; exact rDone_calls b v bs bad w hR
def MReadDone (w : World) (b : List UInt8) (e : Ending) (w' : World) : Prop :=
 ∃ k ok, e = .returned (.tuple #[MarkD.val k, .bool ok]) ∧ ok = (parseMark b).isSome ∧ (∀ k', parseMark b = some k' → k = k') ∧ Below w.heap.size w w'
structure ReadRest (w0 : World) (mb rb : Nat) (v : Value) (st : List UInt8 × Bool) (v2 : Value) (again : List UInt8) (v1 : Value) (b : List UInt8) (w : World) : Prop where
 bel : Below w0.heap.size w0 w
 rd : RdAt w rb v st.1 st.2
 two : RdB w v2 again
 one : RdB w v1 b
 blk : ∃ c0 c1 c2, w.heap[w0.heap.size]? = some (.cells #[c0, c1, c2] 53 (0, 0))
 n1 : rb ≠ w0.heap.size
 n2 : v.ownBlock ≠ some w0.heap.size
 n3 : v2.ownBlock ≠ some w0.heap.size
 n4 : v1.ownBlock ≠ some w0.heap.size
 n5 : mb ≠ w0.heap.size
section
variable {w0 : World} {mb rb : Nat} {v : Value} {st : List UInt8 × Bool} {v2 : Value} {again : List UInt8} {v1 : Value} {b : List UInt8} {w w' : World}
theorem ReadRest.go (hb : Below w.heap.size w w') (h : ReadRest w0 mb rb v st v2 again v1 b w) : ReadRest w0 mb rb v st v2 again v1 b w' :=
 ⟨h.bel.trans (hb.mono h.bel.size), h.rd.keeps (F := fun _ => False) (Keeps.ofBelow hb) (fun h => h.elim) (fun _ _ h => h.elim), h.two.below (Nat.le_refl _) hb, h.one.below (Nat.le_refl _) hb,
  by obtain ⟨c0, c1, c2, hc⟩ := h.blk; exact ⟨c0, c1, c2, (hb.block _ (Array.getElem?_eq_some_iff.1 hc).1).trans hc⟩, h.n1, h.n2, h.n3, h.n4, h.n5⟩
def ReadS (w0 : World) (mb rb : Nat) (v : Value) (st : List UInt8 × Bool) (v2 : Value) (again : List UInt8) (v1 : Value) (b : List UInt8) (k : MarkD) (w : World) : Prop :=
 w.cell? ⟨mb, 0, none⟩ = some (.int .i64 k.kind) ∧ w.cell? ⟨mb, 1, none⟩ = some (.int .i64 k.rcpt) ∧ w.cell? ⟨mb, 2, none⟩ = some (.int .i64 k.n) ∧ ReadRest w0 mb rb v st v2 again v1 b w
theorem ReadS.go {k : MarkD} (hb : Below w.heap.size w w') (h : ReadS w0 mb rb v st v2 again v1 b k w) : ReadS w0 mb rb v st v2 again v1 b k w' := by
 obtain ⟨h1, h2, h3, h10⟩ := h
 have lm := World.block_lt_of_cell? w ⟨mb, 0, none⟩ h1
 obtain ⟨c, f⟩ := below_cell hb
 exact ⟨(c _ _ lm).trans h1, (c _ _ lm).trans h2, (c _ _ lm).trans h3, h10.go hb⟩
theorem ReadS.store {k : MarkD} (x y z : Value) (h : ReadS w0 mb rb v st v2 again v1 b k w) :
 ReadS w0 mb rb v st v2 again v1 b k (((w.setCell ⟨w0.heap.size, 0, none⟩ x).setCell ⟨w0.heap.size, 1, none⟩ y).setCell ⟨w0.heap.size, 2, none⟩ z) := by
 obtain ⟨h1, h2, h3, h10⟩ := h
 have hK : Keeps (fun k => k = w0.heap.size) w (((w.setCell ⟨w0.heap.size, 0, none⟩ x).setCell ⟨w0.heap.size, 1, none⟩ y).setCell ⟨w0.heap.size, 2, none⟩ z) :=
  Keeps.trans (Keeps.trans (Keeps.setCell w ⟨w0.heap.size, 0, none⟩ x rfl) (Keeps.setCell (w.setCell ⟨w0.heap.size, 0, none⟩ x) ⟨w0.heap.size, 1, none⟩ y rfl)) (Keeps.setCell ((w.setCell ⟨w0.heap.size, 0, none⟩ x).setCell ⟨w0.heap.size, 1, none⟩ y) ⟨w0.heap.size, 2, none⟩ z rfl)
 have lm := World.block_lt_of_cell? w ⟨mb, 0, none⟩ h1
 have c : ∀ o, (((w.setCell ⟨w0.heap.size, 0, none⟩ x).setCell ⟨w0.heap.size, 1, none⟩ y).setCell ⟨w0.heap.size, 2, none⟩ z).cell? ⟨mb, o, none⟩ = w.cell? ⟨mb, o, none⟩ := fun o => World.cell?_of_block (hK.block mb lm h10.n5)
 refine ⟨(c _).trans h1, (c _).trans h2, (c _).trans h3, ((h10.bel.setCell (by exact Nat.le_refl _) _).setCell (by exact Nat.le_refl _) _).setCell (by exact Nat.le_refl _) _, h10.rd.keeps hK h10.n1 (fun k hk e => h10.n2 (e ▸ hk)), h10.two.keeps hK (fun k hk e => h10.n3 (e ▸ hk)), h10.one.keeps hK (fun k hk e => h10.n4 (e ▸ hk)), ?_, h10.n1, h10.n2, h10.n3, h10.n4, h10.n5⟩
 obtain ⟨c0, c1, c2, hc⟩ := h10.blk
 exact ⟨x, y, z, heap_setCell_same _ _ 2 _ _ _ (heap_setCell_same _ _ 1 _ _ _ (heap_setCell_same _ _ 0 _ _ _ hc))⟩
theorem heap3 (h : ∃ c0 c1 c2, w.heap[mb]? = some (.cells #[c0, c1, c2] 53 (0, 0))) (x y z : Value) :
 (((w.setCell ⟨mb, 0, none⟩ x).setCell ⟨mb, 1, none⟩ y).setCell ⟨mb, 2, none⟩ z).heap[mb]? = some (.cells #[x, y, z] 53 (0, 0)) := by
 obtain ⟨c0, c1, c2, hc⟩ := h
 exact heap_setCell_same _ _ 2 _ _ _ (heap_setCell_same _ _ 1 _ _ _ (heap_setCell_same _ _ 0 _ _ _ hc))
theorem cells3_of (h : ∃ c0 c1 c2, w.heap[mb]? = some (.cells #[c0, c1, c2] 53 (0, 0))) :
 ∃ c0 c1 c2, w.cell? ⟨mb, 0, none⟩ = some c0 ∧ w.cell? ⟨mb, 1, none⟩ = some c1 ∧ w.cell? ⟨mb, 2, none⟩ = some c2 ∧ w.frozen? ⟨mb, 0, none⟩ = false ∧ w.frozen? ⟨mb, 1, none⟩ = false ∧ w.frozen? ⟨mb, 2, none⟩ = false := by
 obtain ⟨c0, c1, c2, hb⟩ := h
 exact ⟨c0, c1, c2, by rw [cell_of_row _ _ _ _ _ _ hb]; rfl, by rw [cell_of_row _ _ _ _ _ _ hb]; rfl, by rw [cell_of_row _ _ _ _ _ _ hb]; rfl, by simp [World.frozen?, hb], by simp [World.frozen?, hb], by simp [World.frozen?, hb]⟩
end
set_option maxRecDepth 100000 in
set_option maxHeartbeats 1000000 in
theorem markRead_calls (v : Value) (b : List UInt8) (w : World) (hv : RdB w v b) (hb : b.length = 28) :
 Calls Tryz.prog 147 #[v] w (MReadDone w b) := by
 obtain ⟨a, cap, rfl, hl, hc⟩ := hv.form
 have hs1 := run_slice_h (P := Tryz.prog) Tryz.underlying22 u8size a b.length cap 24 (by omega)
 have hpre := hv.pre 24 (by omega)
 have hz1 : ∀ w, (zeroValue 53).run Tryz.prog w = .ok (.agg #[.int .i64 0, .int .i64 0, .int .i64 0]) w := fun _ => by kernel_rfl
 have hz2 : ∀ w, (zeroValue 168).run Tryz.prog w = .ok (.agg #[.int .i64 0, .int .i64 0, .int .i64 0]) w := fun _ => by kernel_rfl
 have hs1L : ∀ w, (Instr.sliceAt 22 (.slice a b.length cap) none (some (.int .i64 24)) none).run Tryz.prog w = .ok (.slice a 24 cap) w := hs1
 clear hs1
 go_enter Tryz.func147, Tryz.ntmps147
 go_wp2_with fail
 refine (wRead_calls _ _ _ (hpre.below (Nat.le_refl _) ((Below.refl _ _).alloc (Nat.le_refl _) _)) (by simp; omega)).mono ?_; rintro e w1 ⟨v0, rb, rfl, hR, hb1, hrb, hv0⟩
 have hbel1 : Below w.heap.size w w1 := ((Below.refl _ _).alloc (Nat.le_refl _) _).trans (hb1.mono (by simp))
 simp only [World.size_alloc] at hrb hv0
 have hB1 : w1.heap[w.heap.size]? = some (.cells #[.int .i64 0, .int .i64 0, .int .i64 0] 53 (0, 0)) := (hb1.block _ (by simp)).trans (heap_alloc_new w _)
 have hsz1 := (Array.getElem?_eq_some_iff.1 hB1).1
 have hrbs := (Array.getElem?_eq_some_iff.1 hR.blk).1
 have hv0' : ∀ k, v0.ownBlock = some k → k < w1.heap.size := fun k hk => rdB_lt hR.rd (by intro h; have h2 := congrArg List.length h; rw [List.length_take, hb] at h2; cases h2) k hk
 have hW0 : RdAt (w1.alloc (.cells #[.int .i64 0, .int .i64 0, .int .i64 0] 168)) rb v0 (b.take 24) false := hR.keeps (Keeps.alloc (fun _ => False) _ _) (fun h => h.elim) (fun _ _ h => h.elim)
 go_wp2
 go_loopw [13] (fun i wr => ∃ (j : Nat) (v : Value), j ≤ 3 ∧ i = .int .i64 j ∧ RdAt wr rb v (rdSt (b.take 24) j).1 (rdSt (b.take 24) j).2 ∧ wr.heap[w1.heap.size]? = some (.cells (rdArr (b.take 24) j) 168 (0, 0)) ∧ wr.heap[w.heap.size]? = some (.cells #[.int .i64 0, .int .i64 0, .int .i64 0] 53 (0, 0)) ∧ Below w.heap.size w wr ∧ v.ownBlock = v0.ownBlock) (fun i _ => 3 - (intOf i).toNat)
 case atStart =>
  refine ⟨0, v0, by omega, rfl, hW0, heap_alloc_new w1 _, (Below.heap_alloc _ _ _ hsz1).trans hB1, hbel1.alloc (Nat.le_of_lt hsz1) _, rfl⟩
 case round =>
  obtain ⟨j, v, hj, rfl, hRj, hA, hB, hbw, ho⟩ := hrel
  by_cases hlt : j < 3
  ·have hst : rdSt (b.take 24) (j + 1) = (rdNum (rdSt (b.take 24) j).1 (rdSt (b.take 24) j).2).2 := rfl
   have hnj : rdN (b.take 24) j = (rdNum (rdSt (b.take 24) j).1 (rdSt (b.take 24) j).2).1.1 := rfl
   have hle := rdNum_le (rdSt (b.take 24) j).1 (rdSt (b.take 24) j).2
   go_wp2_with fail
   refine (rNum_calls rb v _ _ wr hRj).mono ?_; rintro e w2 ⟨v', rfl, hR2, hK, ho2⟩
   rw [← hst] at hR2
   rw [← hnj]
   rw [← hnj] at hle
   have hA2 := hK.heap hA (by omega)
   have hB2 := hK.heap hB (by omega)
   have hb2 := hbw.trans (hK.below (B := w.heap.size) (fun i hi => by omega) hbw.size)
   have hc : w2.cell? ⟨w1.heap.size, j, none⟩ = some ((rdArr (b.take 24) j).getD j undef) := by
    rw [cell_of_row _ _ _ _ _ _ hA2]
    rcases (by omega : j = 0 ∨ j = 1 ∨ j = 2) with rfl | rfl | rfl <;> rfl
   have hf : w2.frozen? ⟨w1.heap.size, j, none⟩ = false := by simp [World.frozen?, hA2]
   generalize (rdArr (b.take 24) j).getD j undef = old at hc
   clear hnj hst
   go_wp2
   have hKs := Keeps.setCell (F := fun k => k = w1.heap.size) w2 ⟨w1.heap.size, j, none⟩ (.int .i64 (rdN (b.take 24) j : Int)) rfl
   have hvs : ∀ k, v'.ownBlock = some k → ¬ (k = w1.heap.size) := fun k hk e => by rw [ho2, ho] at hk; have := hv0' k hk; omega
   go_roundw
   case rel =>
    refine ⟨j + 1, v', by omega, by go_num, hR2.keeps hKs (show ¬ rb = w1.heap.size by omega) hvs, ?_, hKs.heap hB2 (show ¬ w.heap.size = w1.heap.size by omega), hb2.setCell (by simp only; omega) _, ho2.trans ho⟩
    rw [heap_setCell_same _ _ j _ _ _ hA2, rdArr_set _ _ hlt]
   case measure => simp [intOf] <;> omega
  ·have hj3 : j = 3 := by omega
   subst hj3
   have hk : rdArr (b.take 24) 3 = #[.int .i64 (MarkD.read b).kind, .int .i64 (MarkD.read b).rcpt, .int .i64 (MarkD.read b).n] := rfl
   rw [hk] at hA
   obtain ⟨hok1, hok2⟩ := read_ok b hb
   generalize MarkD.read b = k at hA hok1 hok2
   obtain ⟨kind, rcpt, n⟩ := k
   simp only at hA
   have hc0 : wr.cell? ⟨w1.heap.size, 0, none⟩ = some (.int .i64 kind) := by rw [cell_of_row _ _ _ _ _ _ hA]; rfl
   have hc1 : wr.cell? ⟨w1.heap.size, 1, none⟩ = some (.int .i64 rcpt) := by rw [cell_of_row _ _ _ _ _ _ hA]; rfl
   have hc2 : wr.cell? ⟨w1.heap.size, 2, none⟩ = some (.int .i64 n) := by rw [cell_of_row _ _ _ _ _ _ hA]; rfl
   have hsA := (Array.getElem?_eq_some_iff.1 hA).1
   have hM : (wr.alloc (.cells #[.int .i64 kind, .int .i64 rcpt, .int .i64 n] 53)).heap[wr.heap.size]? = some (.cells #[.int .i64 kind, .int .i64 rcpt, .int .i64 n] 53 (0, 0)) := heap_alloc_new _ _
   have hBa := (Below.heap_alloc wr (.cells #[.int .i64 kind, .int .i64 rcpt, .int .i64 n] 53) w.heap.size (Array.getElem?_eq_some_iff.1 hB).1).trans hB
   have hRa : RdAt (wr.alloc (.cells #[.int .i64 kind, .int .i64 rcpt, .int .i64 n] 53)) rb v (rdSt (b.take 24) 3).1 (rdSt (b.take 24) 3).2 := hRj.keeps (Keeps.alloc (fun _ => False) _ _) (fun h => h.elim) (fun _ _ h => h.elim)
   have hba := hbw.alloc hbw.size (.cells #[.int .i64 kind, .int .i64 rcpt, .int .i64 n] 53)
   generalize rdSt (b.take 24) 3 = st at hok1 hRj hRa
   obtain ⟨sb, sbad⟩ := st
   have Hok1 := Lib.hid hok1
   have Hok2 := Lib.hid hok2
   clear hok1 hok2 hA hB
   by_cases hg : (MarkD.good ⟨kind, rcpt, n⟩) = true
   ·go_wp2_with fail
    refine (markEncode_good ⟨kind, rcpt, n⟩ _ hg).mono ?_; rintro e w3 ⟨v2, rfl, hown2, hb3⟩
    have hM3 := (hb3.block _ (by simp)).trans hM
    have hB3 := (hb3.block _ (Array.getElem?_eq_some_iff.1 hBa).1).trans hBa
    have hrest : ReadRest w wr.heap.size rb v (sb, sbad) v2 (MarkD.bytes ⟨kind, rcpt, n⟩) (.slice a b.length cap) b w3 :=
     ⟨hba.trans (hb3.mono hba.size), hRa.keeps (F := fun _ => False) (Keeps.ofBelow hb3) (fun h => h.elim) (fun _ _ h => h.elim), rdB_ofOwn hown2, (hv.below (Nat.le_refl _) hba).below (Nat.le_refl _) hb3, ⟨_, _, _, hB3⟩, by omega, by rw [ho]; exact fun h => by have := hv0 _ h; omega, fun h => by have := own_base hown2 _ h; simp at this; omega, fun h => by have := rdB_lt hv (by intro e; rw [e] at hb; cases hb) _ h; omega, by omega⟩
    have m0 : w3.cell? ⟨wr.heap.size, 0, none⟩ = some (.int .i64 kind) := by rw [cell_of_row _ _ _ _ _ _ hM3]; rfl
    have m1 : w3.cell? ⟨wr.heap.size, 1, none⟩ = some (.int .i64 rcpt) := by rw [cell_of_row _ _ _ _ _ _ hM3]; rfl
    have m2 : w3.cell? ⟨wr.heap.size, 2, none⟩ = some (.int .i64 n) := by rw [cell_of_row _ _ _ _ _ _ hM3]; rfl
    rw [hb] at hrest
    obtain ⟨c0, c1, c2, b0, b1, b2, f0, f1, f2⟩ := cells3_of hrest.blk
    clear hM hM3 hBa hB3 hRa hRj hba hown2 hc0 hc1 hc2 hv hpre hs1L
    obtain ⟨S, hSd⟩ : ∃ S, S = ReadS w wr.heap.size rb v (sb, sbad) v2 (MarkD.bytes ⟨kind, rcpt, n⟩) (.slice a 28 cap) b ⟨kind, rcpt, n⟩ := ⟨_, rfl⟩
    have getR : Hid (∀ W, ReadS w wr.heap.size rb v (sb, sbad) v2 (MarkD.bytes ⟨kind, rcpt, n⟩) (.slice a 28 cap) b ⟨kind, rcpt, n⟩ W → ReadRest w wr.heap.size rb v (sb, sbad) v2 (MarkD.bytes ⟨kind, rcpt, n⟩) (.slice a 28 cap) b W) := fun _ h => h.2.2.2
    clear hSd
    by_cases hd : rdDone sb sbad = true
    ·go_wp2
     go_region_held3 (fun w' => w'.cell? ⟨wr.heap.size, 0, none⟩ = some (.int .i64 kind) ∧ w'.cell? ⟨wr.heap.size, 1, none⟩ = some (.int .i64 rcpt) ∧ w'.cell? ⟨wr.heap.size, 2, none⟩ = some (.int .i64 n) ∧ ReadRest w wr.heap.size rb v (sb, sbad) v2 (MarkD.bytes ⟨kind, rcpt, n⟩) (.slice a 28 cap) b w')
      (first | exact ⟨m0, m1, m2, hrest.go ((Below.refl _ _).drew)⟩ | assumption | exact ReadS.go (k := ⟨kind, rcpt, n⟩) (by assumption) (by assumption) | exact ReadS.store (k := ⟨kind, rcpt, n⟩) _ _ _ (by assumption))
      (first
       | (go_at_call 189; refine (rDone_calls rb v sb sbad _ (getR.out _ (by assumption)).rd).mono ?_; rintro e w4 ⟨rfl, rfl⟩)
       | (go_at_call 143; refine (equal_calls _ _ _ _ _ (getR.out _ (by assumption)).two (getR.out _ (by assumption)).one).mono ?_; rintro e w5 ⟨rfl, hb5⟩; have hfin5 := And.intro (ReadRest.go hb5 (getR.out _ (by assumption))).blk (ReadRest.go hb5 (getR.out _ (by assumption))).bel; obtain ⟨d0, d1, d2, b0', b1', b2', f0', f1', f2'⟩ := cells3_of hfin5.1))
     go_wp2
     have hB5 := heap3 hfin5.1 (.int .i64 kind) (.int .i64 rcpt) (.int .i64 n)
     refine bodyPost_ret (results_row_tmp rfl _ _ w.heap.size 53 _ (0, 0) _ rfl hB5 Tryz.underlying53 rfl (by kernel_rfl)) rfl ⟨⟨kind, rcpt, n⟩, _, rfl, ?_, Hok2.out, ?_⟩
     ·rw [← Hok1.out, hg, hd]; rfl
     ·exact ((hfin5.2.setCell (by exact Nat.le_refl _) _).setCell (by exact Nat.le_refl _) _).setCell (by exact Nat.le_refl _) _
    ·have hd : rdDone sb sbad = false := by simpa using hd
     have hrd : Hid (RdAt w3.drew rb v sb sbad) := (hrest.go ((Below.refl _ _).drew)).rd
     go_wp2
     first | (go_region_with (go_at_call 189; refine (rDone_is rb v sb sbad false hd _ hrd.out).mono ?_; rintro e w4 ⟨rfl, rfl⟩)) | fail "region"
     all_goals
      go_wp2
      have hB5 := heap3 hrest.blk (.int .i64 kind) (.int .i64 rcpt) (.int .i64 n)
      refine bodyPost_ret (results_row_tmp rfl _ _ w.heap.size 53 _ (0, 0) _ rfl hB5 Tryz.underlying53 rfl (by kernel_rfl)) rfl ⟨⟨kind, rcpt, n⟩, _, rfl, ?_, Hok2.out, ?_⟩
      ·rw [← Hok1.out, hd, hg]; rfl
      ·exact (((hrest.bel.setCell (by exact Nat.le_refl _) _).setCell (by exact Nat.le_refl _) _).setCell (by exact Nat.le_refl _) _).drew
   ·have hg : MarkD.good ⟨kind, rcpt, n⟩ = false := by simpa using hg
    go_wp2_with fail
    refine (markEncode_bad ⟨kind, rcpt, n⟩ _ hg).mono ?_; rintro e w3 ⟨rfl, hb3⟩
    have hM3 := (hb3.block _ (by simp)).trans hM
    have hB3 := (hb3.block _ (Array.getElem?_eq_some_iff.1 hBa).1).trans hBa
    have m0 : w3.cell? ⟨wr.heap.size, 0, none⟩ = some (.int .i64 kind) := by rw [cell_of_row _ _ _ _ _ _ hM3]; rfl
    have m1 : w3.cell? ⟨wr.heap.size, 1, none⟩ = some (.int .i64 rcpt) := by rw [cell_of_row _ _ _ _ _ _ hM3]; rfl
    have m2 : w3.cell? ⟨wr.heap.size, 2, none⟩ = some (.int .i64 n) := by rw [cell_of_row _ _ _ _ _ _ hM3]; rfl
    have hblk3 : ∃ c0 c1 c2, w3.heap[w.heap.size]? = some (.cells #[c0, c1, c2] 53 (0, 0)) := ⟨_, _, _, hB3⟩
    obtain ⟨c0, c1, c2, b0, b1, b2, f0, f1, f2⟩ := cells3_of hblk3
    have hb4 := hba.trans (hb3.mono hba.size)
    have hne5 : wr.heap.size ≠ w.heap.size := by omega
    clear hM hM3 hBa hB3 hRa hRj hba hc0 hc1 hc2 hv hpre hs1L
    go_wp2
    go_region
    all_goals
     go_wp2
     have hB5 := heap3 hblk3 (.int .i64 kind) (.int .i64 rcpt) (.int .i64 n)
     refine bodyPost_ret (results_row_tmp rfl _ _ w.heap.size 53 _ (0, 0) _ rfl hB5 Tryz.underlying53 rfl (by kernel_rfl)) rfl ⟨⟨kind, rcpt, n⟩, _, rfl, ?_, Hok2.out, ?_⟩
     ·rw [← Hok1.out, hg]; rfl
     ·exact (((hb4.setCell (by exact Nat.le_refl _) _).setCell (by exact Nat.le_refl _) _).setCell (by exact Nat.le_refl _) _).drew
open Go.RowKit Go.Shelf
attribute [local go_sem] Oper.semAt_some
def parts (n : Nat) : Nat := (n + 27) / 28
def partV (b off len k : Nat) : Value := .slice (some ⟨b, off + 28 * k, none⟩) (min 28 (len - 28 * k)) (min 28 (len - 28 * k))
def upTo {m : Nat} (k : Nat) : List (Fin m) := (List.finRange m).take k
theorem upTo_succ {m k : Nat} (h : k < m) : upTo (m := m) (k + 1) = upTo k ++ [⟨k, h⟩] := by
 unfold upTo
 exact take_snoc (by simp [h])
theorem upTo_length {m k : Nat} (h : k ≤ m) : (upTo (m := m) k).length = k := by simp [upTo, h]
set_option maxHeartbeats 1000000 in
theorem chunk_in (F : Fence) (n : Nat) (h5 : F.fn 146) (hro : F.round = none) (a : Option Addr) (len cap : Nat) (w : World) :
 CallsIn F n Tryz.prog 146 #[.slice a len cap, .int .i64 28] w fun e w' => e = .returned (.func (.func 190) #[] #[.pointer (some ⟨w.heap.size, 0, none⟩), .pointer (some ⟨w.heap.size + 1, 0, none⟩)]) ∧ w' = (w.alloc (.cells #[.slice a len cap] 22)).alloc (.cells #[.int .i64 28] 3) := by
 refine callsIn_of_wp Tryz.func146 rfl h5 ?_ hro
 simp only [Tryz.ntmps146, List.size_toArray, List.length_cons, List.length_nil, Nat.reduceAdd, Nat.reduceSub, Array.replicate_succ, Array.replicate_zero, List.push_toArray, List.append_toArray, List.nil_append, List.cons_append]
 gi_wp2
 go_ret
 exact ⟨rfl, rfl⟩
theorem run_slice_lhm {P : Program} {t e : TypeId} (ht : P.underlying t = some (.slice e)) (hi : (P.info? e).map (·.size) = some 1) (a : Addr) (len cap l h : Nat) (hl : l < h) (hh : h ≤ cap) (w : World) :
 (Instr.sliceAt t (.slice (some a) len cap) (some (.int .i64 (l : Int))) (some (.int .i64 (h : Int))) (some (.int .i64 (h : Int)))).run P w = .ok (.slice (some (a.add l)) (h - l) (h - l)) w := by
 obtain ⟨i, hi1, hi2⟩ := Option.map_eq_some_iff.1 hi
 have hne : h ≠ l := by omega
 simp [Instr.sliceAt, Instr.slice, Instr.sliceBounds, Instr.sliceBound, run_underlying ht, asIntOf, go_sem, hi1, hi2, sizeOf, typeInfo]
 rw [if_pos hh, if_pos (by omega), if_neg hne]
set_option maxRecDepth 100000 in
set_option maxHeartbeats 2000000 in
theorem chunk1_in (F : Fence) (n : Nat) (h7 : F.fn 190) (hro : F.round = none) (hn : 1 ≤ n) (l B0 b off len cap : Nat) (Fp : Nat → Prop) (hF0 : ¬ Fp B0) (hF1 : ¬ Fp (B0 + 1)) (hreach : len ≤ 140737488351232) (hlen : 0 < len) (hcap : len ≤ cap) (hcap' : cap ≤ 9223372036854775807) (J Jx : List (Fin (parts len)) → World → Prop)
 (hY : ∀ pre (x : Fin (parts len)) W, J pre W → pre.length < parts len → YieldAt F (n - 1) Tryz.prog l #[partV b off len x.1] W fun e W' =>
  (e = .returned (.bool true) ∧ J (pre ++ [x]) W' ∧ Keeps Fp W W') ∨ (e = .returned (.bool false) ∧ Jx (pre ++ [x]) W'))
 (W : World) (hs : W.cell? ⟨B0, 0, none⟩ = some (.slice (some ⟨b, off, none⟩) len cap)) (hm : W.cell? ⟨B0 + 1, 0, none⟩ = some (.int .i64 28)) (h0 : J [] W)
 (hJd : ∀ pre W, J pre W → J pre W.drew) :
 CallsIn F n Tryz.prog 190 #[.func (.yield l) #[] #[], .pointer (some ⟨B0, 0, none⟩), .pointer (some ⟨B0 + 1, 0, none⟩)] W fun e W' => (∃ v, e = .returned v) ∧
  ((∃ ys, ys = upTo (parts len) ∧ J ys W') ∨ (∃ pre, (∃ k, k ≤ parts len ∧ pre = upTo k) ∧ Jx pre W')) := by
 refine callsIn_of_wp Tryz.func190 rfl h7 ?_ hro
 simp only [Tryz.ntmps190, List.size_toArray, List.length_cons, List.length_nil, Nat.reduceAdd, Nat.reduceSub, Array.replicate_succ, Array.replicate_zero, List.push_toArray, List.append_toArray, List.nil_append, List.cons_append]
 gi_wp2
 gi_loopw [4] (fun i wr => ∃ k : Nat, k ≤ parts len ∧ i = .int .i64 ((28 * k : Nat) : Int) ∧ J (upTo k) wr ∧ Keeps Fp W wr)
  (fun i _ => parts len - (intOf i).toNat / 28)
 case atStart => exact ⟨0, Nat.zero_le _, rfl, h0, Keeps.refl _ _⟩
 case round =>
  obtain ⟨k, hk, rfl, hJs, hnx⟩ := hrel
  have hs' := hnx.cell hF0 hs
  have hm' := hnx.cell hF1 hm
  by_cases hlt : k < parts len
  ·obtain ⟨fn, tmps, assign, body, hy, hR⟩ := hY _ ⟨k, hlt⟩ wr.drew (hJd _ _ hJs) (by rw [upTo_length hk]; exact hlt)
   have hlt' : 28 * k < len := by unfold parts at hlt; omega
   obtain ⟨i, hi⟩ : ∃ i, 28 * k = i := ⟨_, rfl⟩
   rw [hi] at hlt' ⊢
   have hs2 := run_slice_l (P := Tryz.prog) Tryz.underlying22 u8size (some ⟨b, off, none⟩) len cap i (by omega)
   obtain ⟨e, he⟩ : ∃ e, min 28 (len - i) = e := ⟨_, rfl⟩
   have hmin : ∀ w, (Builtin.min_ #[3, 3] 3 #[.int .i64 28, .int .i64 ((len - i : Nat) : Int)]).run Tryz.prog w = .ok (.int .i64 (e : Int)) w := by
    intro w
    have h1 : (if ((len - i : Nat) : Int) < 28 then ((len - i : Nat) : Int) else 28) = (e : Int) := by split <;> omega
    simp [Builtin.min_, Builtin.min2, go_sem, h1]
   have he1 : 0 < e := by omega
   have he2 : i + e ≤ len := by omega
   obtain ⟨j, hj⟩ : ∃ j, i + e = j := ⟨_, rfl⟩
   have hs3 := run_slice_lhm (P := Tryz.prog) Tryz.underlying22 u8size ⟨b, off, none⟩ len cap i j (by omega) (by omega)
   have hjI : (i : Int) + (e : Int) = (j : Int) := by omega
   have hpv : partV b off len k = .slice (some ⟨b, off + i, none⟩) e e := by unfold partV; rw [hi, he]
   rw [add_at, show j - i = e by omega] at hs3
   dsimp only at hy
   rw [hpv] at hy
   gi_wp2
   gi_region
   all_goals
    gi_wp2
    refine hR.mono ?_
    rintro e W3 (⟨rfl, hJ3, hk3⟩ | ⟨rfl, hJx3⟩)
    ·have hs4 := (hk3.cell hF0 ((show wr.drew.cell? ⟨B0, 0, none⟩ = _ from hs')))
     have hm4 := (hk3.cell hF1 ((show wr.drew.cell? ⟨B0 + 1, 0, none⟩ = _ from hm')))
     gi_wp2
     go_roundw
     case rel => exact ⟨k + 1, by omega, by congr 1; omega, by rw [upTo_succ hlt]; exact hJ3, (hnx.trans (Keeps.drew _ _)).trans hk3⟩
     case measure => simp [intOf] <;> omega
    ·gi_wp2
     refine bodyPost_ret (results_none rfl _ _ _) rfl ?_
     exact ⟨⟨_, rfl⟩, .inr ⟨_, ⟨k + 1, by omega, (upTo_succ hlt).symm⟩, hJx3⟩⟩
  ·obtain rfl : k = parts len := by omega
   have hge : len ≤ 28 * parts len := by unfold parts; omega
   obtain ⟨i, hi⟩ : ∃ i, 28 * parts len = i := ⟨_, rfl⟩
   rw [hi] at hge ⊢
   gi_wp2
   go_end0
   exact ⟨⟨_, rfl⟩, .inl ⟨_, rfl, hJs⟩⟩
attribute [local go_sem] Oper.semAt_some
set_option maxHeartbeats 1000000 in
theorem chunk1_nil_in (F : Fence) (n : Nat) (h7 : F.fn 190) (hro : F.round = none) (l B0 cap : Nat) (a : Option Addr) (J : List (Fin (parts 0)) → World → Prop) (W : World)
 (hs : W.cell? ⟨B0, 0, none⟩ = some (.slice a 0 cap)) (h0 : J [] W) :
 CallsIn F n Tryz.prog 190 #[.func (.yield l) #[] #[], .pointer (some ⟨B0, 0, none⟩), .pointer (some ⟨B0 + 1, 0, none⟩)] W fun e W' => (∃ v, e = .returned v) ∧ J [] W' := by
 refine callsIn_of_wp Tryz.func190 rfl h7 ?_ hro
 simp only [Tryz.ntmps190, List.size_toArray, List.length_cons, List.length_nil, Nat.reduceAdd, Nat.reduceSub, Array.replicate_succ, Array.replicate_zero, List.push_toArray, List.append_toArray, List.nil_append, List.cons_append]
 gi_wp2
 gi_loopw [4] (fun i wr => i = .int .i64 0 ∧ wr = W) (fun _ _ => 0)
 case atStart => exact ⟨rfl, rfl⟩
 case round =>
  obtain ⟨rfl, rfl⟩ := hrel
  gi_wp2
  go_end0
  exact ⟨⟨_, rfl⟩, h0⟩
theorem chunk_stops (F : Fence) (n : Nat) (h7 : F.fn 190) (hro : F.round = none) (hn : 1 ≤ n) (B0 b off len cap : Nat) (Fp : Nat → Prop) (hF0 : ¬ Fp B0) (hF1 : ¬ Fp (B0 + 1)) (a : Option Addr) (ha : len = 0 ∨ a = some ⟨b, off, none⟩) (hreach : len ≤ 140737488351232) (hcap : len ≤ cap) (hcap' : cap ≤ 9223372036854775807)
 (w : World) (hB0 : B0 + 1 < w.heap.size) (hs : w.cell? ⟨B0, 0, none⟩ = some (.slice a len cap)) (hm : w.cell? ⟨B0 + 1, 0, none⟩ = some (.int .i64 28)) :
 SeqStopsK F n Tryz.prog 190 #[.pointer (some ⟨B0, 0, none⟩), .pointer (some ⟨B0 + 1, 0, none⟩)] (fun x : Fin (parts len) => #[partV b off len x.1]) (Keeps Fp)
  (fun ys => ys = upTo (parts len)) (fun pre => ∃ k, k ≤ parts len ∧ pre = upTo k) (parts len) w := fun l J Jx W hW hJ hJx hY h0 => by
 have hs' := (hW.cell (p := ⟨B0, 0, none⟩) (by show B0 < _; omega)).trans hs
 have hm' := (hW.cell (p := ⟨B0 + 1, 0, none⟩) (by show B0 + 1 < _; omega)).trans hm
 by_cases hl : len = 0
 ·subst hl
  exact (chunk1_nil_in F n h7 hro l B0 cap a J W hs' h0).mono fun e W' ⟨he, hj⟩ => ⟨he, .inl ⟨[], by simp [upTo, parts], hj⟩⟩
 ·obtain rfl : a = some ⟨b, off, none⟩ := ha.resolve_left hl
  refine (chunk1_in F n h7 hro hn l B0 b off len cap Fp hF0 hF1 hreach (by omega) hcap hcap' J Jx hY W hs' hm' h0 ?_).mono ?_
  ·intro pre W1 h1
   exact hJ _ _ _ none h1 ⟨rfl, rfl, rfl, Nat.le_refl _, fun _ _ _ => rfl⟩ (fun r e => by cases e)
  ·rintro e W' ⟨he, ⟨ys, rfl, hj⟩ | ⟨pre, ⟨k, hk, rfl⟩, hj⟩⟩
   ·exact ⟨he, .inl ⟨_, rfl, hj⟩⟩
   ·exact ⟨he, .inr ⟨_, ⟨k, hk, rfl⟩, hj⟩⟩
def chunkAt (bs : List UInt8) (k : Nat) : List UInt8 := (bs.drop (28 * k)).take 28
def chunkM (bs : List UInt8) (k : Nat) : Option MarkD := if (chunkAt bs k).length < 28 then none else parseMark (chunkAt bs k)
def decodeN : Nat → List UInt8 → List MarkD
 | 0, _ => []
 | n + 1, bs => if bs.length < 28 then [] else match parseMark (bs.take 28) with
  | none => []
  | some k => k :: decodeN n (bs.drop 28)
def decodeM (bs : List UInt8) : List MarkD := decodeN 4096 bs
def msOf (bs : List UInt8) {m : Nat} (pre : List (Fin m)) : List MarkD := pre.filterMap fun x => chunkM bs x.1
def msR (bs : List UInt8) (k : Nat) : List MarkD := (List.range k).filterMap (chunkM bs)
theorem chunkM_zero (bs : List UInt8) : chunkM bs 0 = if bs.length < 28 then none else parseMark (bs.take 28) := by
 have h : (chunkAt bs 0).length < 28 ↔ bs.length < 28 := by simp [chunkAt]; omega
 unfold chunkM
 by_cases hl : bs.length < 28
 ·rw [if_pos (h.2 hl), if_pos hl]
 ·rw [if_neg (fun e => hl (h.1 e)), if_neg hl]; rfl
theorem chunkM_drop (bs : List UInt8) (k : Nat) : chunkM (bs.drop 28) k = chunkM bs (k + 1) := by
 have h : chunkAt (bs.drop 28) k = chunkAt bs (k + 1) := by unfold chunkAt; rw [List.drop_drop]; congr 2; omega
 unfold chunkM; rw [h]
theorem decodeN_good (k : Nat) : ∀ (n : Nat) (bs : List UInt8), (∀ j, j < k → (chunkM bs j).isSome = true) → decodeN (k + n) bs = msR bs k ++ decodeN n (bs.drop (28 * k)) := by
 induction k with
 | zero => intro n bs _; simp [msR]
 | succ k ih =>
  intro n bs h
  have h0 := h 0 (by omega)
  rw [chunkM_zero] at h0
  by_cases hl : bs.length < 28
  ·rw [if_pos hl] at h0; cases h0
  ·rw [if_neg hl] at h0
   obtain ⟨x, hx⟩ := Option.isSome_iff_exists.1 h0
   have hz : chunkM bs 0 = some x := by rw [chunkM_zero, if_neg hl, hx]
   rw [show k + 1 + n = (k + n) + 1 by omega, decodeN, if_neg hl, hx]
   simp only
   rw [ih n (bs.drop 28) (fun j hj => by rw [chunkM_drop]; exact h (j + 1) (by omega))]
   have hm : msR bs (k + 1) = x :: msR (bs.drop 28) k := by
    unfold msR
    rw [List.range_succ_eq_map, List.filterMap_cons, hz, List.filterMap_map]
    have hf : chunkM bs ∘ Nat.succ = chunkM (bs.drop 28) := by funext j; exact (chunkM_drop bs j).symm
    rw [hf]
   rw [hm, List.drop_drop, List.cons_append, show 28 + 28 * k = 28 * (k + 1) by omega]
theorem decodeM_stop (bs : List UInt8) (k : Nat) (h : ∀ j, j < k → (chunkM bs j).isSome = true) (hk : k ≤ 4096) (hs : k = 4096 ∨ chunkM bs k = none) : decodeM bs = msR bs k := by
 unfold decodeM
 rw [show 4096 = k + (4096 - k) by omega, decodeN_good k _ bs h]
 rcases hs with rfl | hs
 ·simp [decodeN]
 ·have : decodeN (4096 - k) (bs.drop (28 * k)) = [] := by
   cases hn : 4096 - k with
   | zero => rfl
   | succ n =>
    have hz : chunkM (bs.drop (28 * k)) 0 = none := by
     rw [← hs]; unfold chunkM; rw [show chunkAt (bs.drop (28 * k)) 0 = chunkAt bs k by simp [chunkAt]]
    rw [chunkM_zero] at hz
    rw [decodeN]
    by_cases hl : (bs.drop (28 * k)).length < 28
    ·rw [if_pos hl]
    ·rw [if_neg hl] at hz ⊢; rw [hz]
  rw [this, List.append_nil]
theorem chunkM_end (bs : List UInt8) : chunkM bs (parts bs.length) = none := by
 have : (chunkAt bs (parts bs.length)).length < 28 := by simp [chunkAt, parts]; omega
 rw [chunkM, if_pos this]
theorem msOf_upTo (bs : List UInt8) {m k : Nat} (hk : k ≤ m) : msOf bs (upTo (m := m) k) = msR bs k := by
 induction k with
 | zero => simp [msOf, upTo, msR]
 | succ k ih =>
  have ih := ih (by omega)
  rw [upTo_succ (by omega : k < m), msR, List.range_succ, List.filterMap_append]
  unfold msOf at ih ⊢
  rw [List.filterMap_append, ih]
  rfl
theorem msOf_length (bs : List UInt8) {m : Nat} (pre : List (Fin m)) (h : ∀ x ∈ pre, (chunkM bs x.1).isSome = true) : (msOf bs pre).length = pre.length := by
 induction pre with
 | nil => rfl
 | cons x pre ih =>
  obtain ⟨k, hk⟩ := Option.isSome_iff_exists.1 (h x (by simp))
  have := ih (fun y hy => h y (by simp [hy]))
  unfold msOf at this ⊢
  rw [List.filterMap_cons, hk]; simp [this]
theorem mem_upTo {m k : Nat} (hk : k ≤ m) {j : Nat} (hj : j < k) : (⟨j, by omega⟩ : Fin m) ∈ upTo (m := m) k := by
 unfold upTo
 rw [List.mem_take_iff_getElem]
 exact ⟨j, by simp; omega, by simp⟩
theorem decode_done (bs : List UInt8) (h : ∀ x ∈ upTo (m := parts bs.length) (parts bs.length), (chunkM bs x.1).isSome = true) (hl : (upTo (m := parts bs.length) (parts bs.length)).length ≤ 4096) : decodeM bs = msOf bs (upTo (m := parts bs.length) (parts bs.length)) := by
 rw [upTo_length (Nat.le_refl _)] at hl
 rw [msOf_upTo bs (Nat.le_refl _)]
 exact decodeM_stop bs _ (fun j hj => h _ (mem_upTo (Nat.le_refl _) hj)) hl (.inr (chunkM_end bs))
theorem decode_stop (bs : List UInt8) (k : Nat) (hk : k ≤ parts bs.length) (hne : (upTo (m := parts bs.length) k) ≠ []) (h : ∀ x ∈ (upTo (m := parts bs.length) k).dropLast, (chunkM bs x.1).isSome = true) (hl : (upTo (m := parts bs.length) k).dropLast.length ≤ 4096)
 (hs : (upTo (m := parts bs.length) k).dropLast.length = 4096 ∨ ∃ x, (upTo (m := parts bs.length) k).getLast? = some x ∧ chunkM bs x.1 = none) : decodeM bs = msOf bs (upTo (m := parts bs.length) k).dropLast := by
 cases k with
 | zero => exact absurd (by simp [upTo]) hne
 | succ k =>
  rw [upTo_succ (by omega : k < parts bs.length)] at *
  rw [List.dropLast_concat] at *
  rw [upTo_length (by omega)] at hl hs
  rw [msOf_upTo bs (by omega)]
  refine decodeM_stop bs k (fun j hj => h _ (mem_upTo (by omega) hj)) hl ?_
  rcases hs with hs | ⟨x, hx, hn⟩
  ·exact .inl hs
  ·rw [List.getLast?_concat] at hx; cases hx; exact .inr hn
theorem rdB_part {W : World} {b off cap : Nat} {bs : List UInt8} (h : RdB W (.slice (some ⟨b, off, none⟩) bs.length cap) bs) (k : Nat) (hk : 28 * k < bs.length) :
 RdB W (partV b off bs.length k) (chunkAt bs k) ∧ (chunkAt bs k).length = min 28 (bs.length - 28 * k) := by
 have hl : (chunkAt bs k).length = min 28 (bs.length - 28 * k) := by simp [chunkAt]
 refine ⟨?_, hl⟩
 rcases h with ⟨_, _, _, _, h⟩ | ⟨b', off', cap', h, _, _, h3, h4, h5⟩
 ·subst h; simp at hk
 ·cases h
  refine .inr ⟨b, off + 28 * k, min 28 (bs.length - 28 * k), ?_, ?_, by omega, by omega, h4, fun j x hx => ?_⟩
  ·rw [hl]; rfl
  ·rw [← List.length_pos_iff]; omega
  ·have hj := (List.getElem?_eq_some_iff.1 hx).1
   rw [hl] at hj
   unfold chunkAt at hx
   rw [List.getElem?_take, if_pos (by omega), List.getElem?_drop] at hx
   rw [Nat.add_assoc]
   exact h5 _ x hx
end Go.Proofs.YtffnbkmigapmjaaGreatDoor
