/-
  The walk of the law MarkEncodes.
-/
import Derived.Test.YtfgmnachckbimaaMarkAns
import Derived.Test.YtfgmnachckbimaaMarkRef
import Derived.Laws.BytesArg
set_option linter.unusedSimpArgs false
set_option linter.unusedVariables false
namespace Go.Proofs.Ytfgmnachckbimaa
open Go.RowKit
/-- Bytes as a string. -/
def strB (bs : List UInt8) : ByteArray := ⟨bs.toArray⟩
theorem run_str {w : World} {v : Value} {bs : List UInt8} (h : RdB w v bs) (hne : bs ≠ []) : (convert 22 9 v).run Try.prog w = .ok (.string (strB bs)) w := by
  rcases h with ⟨_, _, _, _, h⟩ | ⟨b, off, cap, rfl, h0, h1, h2, h3, h4⟩
  · exact absurd h hne
  · have := run_convert_bytes_arg (P := Try.prog) w 22 5 Try.underlying22 Try.underlying5 b off bs.length cap (bs.map fun x => (x.toNat : Int)) (by simp) (fun i hi => by
      rw [h4 i bs[i] (List.getElem?_eq_getElem hi)]
      simp [List.getD, List.getElem?_eq_getElem hi]) 9 Try.underlying9
    rw [this]
    congr 2
    simp [strB, strOfNums, Function.comp_def]
def MEncR (w0 : World) (bs : List UInt8) (v : Value) (w : World) : Prop := Below w0.heap.size w0 w ∧ RdB w v bs
theorem MEncR.go {w0 : World} {bs : List UInt8} {v : Value} {w w' : World} (hb : Below w.heap.size w w') (h : MEncR w0 bs v w) : MEncR w0 bs v w' :=
  ⟨h.1.trans (hb.mono h.1.size), h.2.below (Nat.le_refl _) hb⟩
abbrev MEncS (w0 : World) (bs : List UInt8) (v : Value) (k : MarkD) (w' : World) : Prop :=
  w'.cell? ⟨w0.heap.size, 0, none⟩ = some (.int .i64 k.kind) ∧ w'.cell? ⟨w0.heap.size, 1, none⟩ = some (.int .i64 k.rcpt) ∧ w'.cell? ⟨w0.heap.size, 2, none⟩ = some (.int .i64 k.n) ∧ MEncR w0 bs v w'
theorem MEncS.go {w0 : World} {bs : List UInt8} {v : Value} {k : MarkD} {w w' : World} (hb : Below w.heap.size w w') (h : MEncS w0 bs v k w) : MEncS w0 bs v k w' := by
  obtain ⟨h1, h2, h3, h4⟩ := h
  have l1 := World.block_lt_of_cell? w ⟨w0.heap.size, 0, none⟩ h1
  obtain ⟨c, f⟩ := below_cell hb
  exact ⟨(c _ _ l1).trans h1, (c _ _ l1).trans h2, (c _ _ l1).trans h3, h4.go hb⟩
set_option maxRecDepth 100000 in
set_option maxHeartbeats 1000000 in
theorem markEncodes_walk (k : MarkD) (w : World) :
    Calls Try.prog 7 #[k.val] w fun e w' => e = .returned (.bool true) ∧ Below w.heap.size w w' := by
  by_cases hg : k.good = true
  · have hg' : 1 ≤ k.kind ∧ k.kind ≤ 5 ∧ 0 ≤ k.rcpt ∧ k.rcpt < 8 ∧ 0 ≤ k.n ∧ k.n ≤ 1099511627776 := of_decide_eq_true hg
    have hmk := fun W => refMark_calls k W (by omega) (by omega) (by omega) (by omega) (by omega) (by omega)
    have henc := fun W => markEncode_good k W hg
    have hgo := fun W => markGood_calls k W
    have hmay := fun W => mayMark_calls k W
    rw [hg] at hgo hmay
    have hbl := bytes_length k
    have hne : k.bytes ≠ [] := by intro h; rw [h] at hbl; cases hbl
    generalize k.bytes = bs at hmk henc hbl hne
    obtain ⟨kind, rcpt, n⟩ := k
    have Hmk := Lib.hid hmk
    have Henc := Lib.hid henc
    have Hgo := Lib.hid hgo
    have Hmay := Lib.hid hmay
    clear hmk henc hgo hmay hg hg'
    go_enter Try.func7, Try.ntmps7
    go_wp2_with fail
    refine (Henc.out _).mono ?_; rintro e w1 ⟨v1, rfl, hown1, hb1⟩
    have hR1 := rdB_ofOwn hown1
    have hk1 : w1.heap[w.heap.size]? = some (.cells #[.int .i64 kind, .int .i64 rcpt, .int .i64 n] 36 (0, 0)) := (hb1.block _ (by simp)).trans (heap_alloc_new w _)
    have hbel1 : Below w.heap.size w w1 := ((Below.refl _ _).alloc (Nat.le_refl _) _).trans (hb1.mono (by simp))
    have c0 : w1.cell? ⟨w.heap.size, 0, none⟩ = some (.int .i64 kind) := by rw [cell_of_row _ _ _ _ _ _ hk1]; rfl
    have c1 : w1.cell? ⟨w.heap.size, 1, none⟩ = some (.int .i64 rcpt) := by rw [cell_of_row _ _ _ _ _ _ hk1]; rfl
    have c2 : w1.cell? ⟨w.heap.size, 2, none⟩ = some (.int .i64 n) := by rw [cell_of_row _ _ _ _ _ _ hk1]; rfl
    clear hb1 hown1
    go_wp2_with fail
    refine (Hmay.out _).mono ?_; rintro e w2 ⟨rfl, hb2⟩
    have hk2 := (hb2.block _ (Array.getElem?_eq_some_iff.1 hk1).1).trans hk1
    have hbel2 := hbel1.trans (hb2.mono hbel1.size)
    have hR2 := hR1.below (Nat.le_refl _) hb2
    obtain ⟨a1, cap1, rfl, _, _⟩ := hR2.form
    rw [hbl] at hR2 ⊢
    have c0 : w2.cell? ⟨w.heap.size, 0, none⟩ = some (.int .i64 kind) := by rw [cell_of_row _ _ _ _ _ _ hk2]; rfl
    have c1 : w2.cell? ⟨w.heap.size, 1, none⟩ = some (.int .i64 rcpt) := by rw [cell_of_row _ _ _ _ _ _ hk2]; rfl
    have c2 : w2.cell? ⟨w.heap.size, 2, none⟩ = some (.int .i64 n) := by rw [cell_of_row _ _ _ _ _ _ hk2]; rfl
    have hS : MEncS w bs (.slice a1 28 cap1) ⟨kind, rcpt, n⟩ w2.drew := MEncS.go (Below.refl _ _).drew ⟨c0, c1, c2, hbel2, hR2⟩
    have getS : Hid (∀ W, MEncS w bs (.slice a1 28 cap1) ⟨kind, rcpt, n⟩ W → MEncR w bs (.slice a1 28 cap1) W) := fun _ h => h.2.2.2
    clear hb2 hk1 hk2 hbel1 hbel2 hR1 hR2 c0 c1 c2
    go_wp2
    obtain ⟨k0, k1, k2, -⟩ := id hS
    first
      | (go_region_with (first
          | (go_at_call 19; refine (markAns_calls _).mono ?_; rintro e w4 ⟨rfl, hb4⟩; have hS4 := MEncS.go (w0 := w) (bs := bs) (v := .slice a1 28 cap1) (k := ⟨kind, rcpt, n⟩) hb4 (by assumption); obtain ⟨d0, d1, d2, -⟩ := id hS4)
          | (go_at_call 20; refine (Hgo.out _).mono ?_; rintro e w5 ⟨rfl, hb5⟩; have hS5 := MEncS.go (w0 := w) (bs := bs) (v := .slice a1 28 cap1) (k := ⟨kind, rcpt, n⟩) hb5 (by assumption); obtain ⟨e0, e1, e2, -⟩ := id hS5; have hs5 := run_str hS5.2.2.2.2 hne)
          | (go_at_call 21; refine (Hmk.out _).mono ?_; rintro e w6 ⟨v2, rfl, hown6, hb6⟩; have hS6 := MEncS.go (w0 := w) (bs := bs) (v := .slice a1 28 cap1) (k := ⟨kind, rcpt, n⟩) hb6 (by assumption); have hs6 := run_str hS6.2.2.2.2 hne; have hs7 := run_str (rdB_ofOwn hown6) hne; have hfin6 := And.intro trivial hS6.2.2.2.1)))
      | fail "region"
    all_goals
      go_wp2
      go_ret
      exact ⟨rfl, hfin6.2⟩
  · have hg2 : k.good = false := by simpa using hg
    have henc := fun W => markEncode_bad k W hg2
    have hgo := fun W => markGood_calls k W
    have hmay := fun W => mayMark_calls k W
    rw [hg2] at hgo hmay
    obtain ⟨kind, rcpt, n⟩ := k
    have Henc := Lib.hid henc
    have Hgo := Lib.hid hgo
    have Hmay := Lib.hid hmay
    clear henc hgo hmay hg hg2
    go_enter Try.func7, Try.ntmps7
    go_wp2_with fail
    refine (Henc.out _).mono ?_; rintro e w1 ⟨rfl, hb1⟩
    have hk1 : w1.heap[w.heap.size]? = some (.cells #[.int .i64 kind, .int .i64 rcpt, .int .i64 n] 36 (0, 0)) := (hb1.block _ (by simp)).trans (heap_alloc_new w _)
    have hbel1 : Below w.heap.size w w1 := ((Below.refl _ _).alloc (Nat.le_refl _) _).trans (hb1.mono (by simp))
    have c0 : w1.cell? ⟨w.heap.size, 0, none⟩ = some (.int .i64 kind) := by rw [cell_of_row _ _ _ _ _ _ hk1]; rfl
    have c1 : w1.cell? ⟨w.heap.size, 1, none⟩ = some (.int .i64 rcpt) := by rw [cell_of_row _ _ _ _ _ _ hk1]; rfl
    have c2 : w1.cell? ⟨w.heap.size, 2, none⟩ = some (.int .i64 n) := by rw [cell_of_row _ _ _ _ _ _ hk1]; rfl
    clear hb1
    go_wp2_with fail
    refine (Hmay.out _).mono ?_; rintro e w2 ⟨rfl, hb2⟩
    go_wp2_with fail
    refine (markAns_calls _).mono ?_; rintro e w3 ⟨rfl, hb3⟩
    have hb23 := hb2.trans (hb3.mono hb2.size)
    have hk3 := (hb23.block _ (Array.getElem?_eq_some_iff.1 hk1).1).trans hk1
    have hbel3 := hbel1.trans (hb23.mono hbel1.size)
    have d0 : w3.cell? ⟨w.heap.size, 0, none⟩ = some (.int .i64 kind) := by rw [cell_of_row _ _ _ _ _ _ hk3]; rfl
    have d1 : w3.cell? ⟨w.heap.size, 1, none⟩ = some (.int .i64 rcpt) := by rw [cell_of_row _ _ _ _ _ _ hk3]; rfl
    have d2 : w3.cell? ⟨w.heap.size, 2, none⟩ = some (.int .i64 n) := by rw [cell_of_row _ _ _ _ _ _ hk3]; rfl
    clear hb2 hb3 hb23 hk1 hk3
    go_wp2_with fail
    refine (Hgo.out _).mono ?_; rintro e w4 ⟨rfl, hb4⟩
    go_wp2
    go_ret
    exact ⟨rfl, hbel3.trans (hb4.mono hbel3.size)⟩
end Go.Proofs.Ytfgmnachckbimaa
