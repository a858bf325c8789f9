/-
  The walk of the statement that the sums of three texts lie over one another as the texts do, but for its frame.
-/
import Derived.Test.YtfgmnachckbimaaCrcTells
import Derived.RegionTactic
import Derived.BigRegion
import Derived.Deep.RegionHeld3
set_option linter.unusedSimpArgs false
set_option linter.unusedVariables false
namespace Go.Proofs.Ytfgmnachckbimaa
open Go.RowKit
/-- The first k of three texts, laid. -/
def laid3 (a b c : List UInt8) (k : Nat) : List UInt8 := PbCrc.lay (PbCrc.lay (a.take k) (b.take k)) (c.take k)
theorem laid3_length (a b c : List UInt8) (k : Nat) (ha : k ≤ a.length) (hb : k ≤ b.length) (hc : k ≤ c.length) : (laid3 a b c k).length = k := by
  simp [laid3, PbCrc.lay]; omega
theorem laid3_snoc (a b c : List UInt8) (k : Nat) {x y z : UInt8} (ha : a[k]? = some x) (hb : b[k]? = some y) (hc : c[k]? = some z) :
    laid3 a b c (k + 1) = laid3 a b c k ++ [x ^^^ y ^^^ z] := by
  have h1 := (List.getElem?_eq_some_iff.1 ha).1
  have h2 := (List.getElem?_eq_some_iff.1 hb).1
  have h3 := (List.getElem?_eq_some_iff.1 hc).1
  simp only [laid3, PbCrc.lay, take_snoc ha, take_snoc hb, take_snoc hc]
  rw [List.zipWith_append (by simp; omega), List.zipWith_append (by simp; omega)]
  rfl
theorem RdB.cells {w : World} {v : Value} {bs : List UInt8} (h : RdB w v bs) {k : Nat} {x : UInt8} (hx : bs[k]? = some x) :
    ∃ b off cap, v = .slice (some ⟨b, off, none⟩) bs.length cap ∧ b < w.heap.size ∧ w.cell? ⟨b, off + k, none⟩ = some (u8v x) := by
  rcases h with ⟨a, c, _, _, rfl⟩ | ⟨b, off, cap, h1, _, _, _, h4, h5⟩
  · cases hx
  · exact ⟨b, off, cap, h1, h4, h5 k x hx⟩
theorem run_min3 (k : IntKind) (A : Array TypeId) (t : TypeId) (a b c n : Int) (hn : n = min (min a b) c) (w : World) : (Builtin.min_ A t #[.int k a, .int k b, .int k c]).run Try.prog w = .ok (.int k n) w := by
  subst hn
  simp only [Builtin.min_, List.foldlM, Builtin.min2, go_sem]
  have h1 : (if b < a then b else a) = min a b := by split <;> omega
  have h2 : (if c < min a b then c else min a b) = min (min a b) c := by split <;> omega
  simp [h1, h2]
structure LaysS (w : World) (aa ab ac : Option Addr) (k capa capb capc : Nat) (xs ys zs : List UInt8) (w' : World) : Prop where
  bel : Below w.heap.size w w'
  r1 : RdB w' (.slice (some ⟨w.heap.size, 0, none⟩) k k) (laid3 xs ys zs k)
  ra : RdB w' (.slice aa k capa) (xs.take k)
  rb : RdB w' (.slice ab k capb) (ys.take k)
  rc : RdB w' (.slice ac k capc) (zs.take k)
theorem LaysS.go {w : World} {aa ab ac : Option Addr} {k capa capb capc : Nat} {xs ys zs : List UInt8} {w1 w2 : World} (h : LaysS w aa ab ac k capa capb capc xs ys zs w1) (hb : Below w1.heap.size w1 w2) :
    LaysS w aa ab ac k capa capb capc xs ys zs w2 :=
  ⟨h.bel.trans (hb.mono h.bel.size), h.r1.below (Nat.le_refl _) hb, h.ra.below (Nat.le_refl _) hb, h.rb.below (Nat.le_refl _) hb, h.rc.below (Nat.le_refl _) hb⟩
set_option maxRecDepth 100000 in
set_option maxHeartbeats 1000000 in
theorem crcLays_walk (va vb vc : Value) (xs ys zs : List UInt8) (w : World) (ha : RdB w va xs) (hb : RdB w vb ys) (hc : RdB w vc zs) :
    Calls Try.prog 6 #[va, vb, vc] w fun e w' => e = .returned (.bool true) ∧ Below w.heap.size w w' := by
  obtain ⟨aa, capa, rfl, hla, hca⟩ := ha.form
  obtain ⟨ab, capb, rfl, hlb, hcb⟩ := hb.form
  obtain ⟨ac, capc, rfl, hlc, hcc⟩ := hc.form
  obtain ⟨n, hn⟩ : ∃ n, n = min (min xs.length ys.length) zs.length := ⟨_, rfl⟩
  have hna : n ≤ xs.length := by omega
  have hnb : n ≤ ys.length := by omega
  have hnc : n ≤ zs.length := by omega
  have hmin := run_min3 .i64 #[3, 3, 3] 3 xs.length ys.length zs.length n (by omega)
  have Hn := Lib.hid hn
  clear hn
  by_cases hbig : 2000 < n
  · go_enter Try.func6, Try.ntmps6
    go_wp2_with (go_at_call 13; refine (crcAnswers_calls _).mono ?_; rintro e w2 ⟨rfl, hb⟩)
    go_ret
    exact ⟨rfl, hb⟩
  · obtain ⟨i0, hi, hz0, hz1, hz2⟩ := info_parts infoU8
    obtain ⟨w1, hrun, hown1, hg1⟩ := run_make_full (P := Try.prog) w w.heap.size 22 5 i0 (.int .u8 0) 1 Try.underlying22 hi hz0 hz1 .i64 .i64 n (by rw [hz2]; omega) (by unfold maxLen; omega) (Nat.le_refl _)
    go_enter Try.func6, Try.ntmps6
    go_wp2
    go_loopw [9] (fun i wr => ∃ k : Nat, k ≤ n ∧ i = .int .i64 k ∧ wr.ownsRow w.heap.size 5 1 (.slice (some ⟨w.heap.size, 0, none⟩) n n) n ((laid3 xs ys zs k ++ List.replicate (n - k) 0).map u8v) ∧ Below w.heap.size w wr) (fun i _ => n - (intOf i).toNat)
    case atStart =>
      refine ⟨0, by omega, rfl, ?_, (Below.refl _ _).grown hg1 (Nat.le_refl _) (fun _ h => by cases h)⟩
      have e : (madeCells (Value.int .u8 0).cells (n * 1)).toList = (laid3 xs ys zs 0 ++ List.replicate (n - 0) 0).map u8v := by
        rw [show (Value.int .u8 0).cells = #[Value.int .u8 0] from rfl, toList_madeCells_one]; simp [laid3, PbCrc.lay]
      rw [← e]; exact hown1
    case round =>
      obtain ⟨k, hk, rfl, hown, hbw2⟩ := hrel
      by_cases hlt : k < n
      · obtain ⟨x, hx⟩ : ∃ x, xs[k]? = some x := ⟨xs[k], List.getElem?_eq_getElem (by omega)⟩
        obtain ⟨y, hy⟩ : ∃ y, ys[k]? = some y := ⟨ys[k], List.getElem?_eq_getElem (by omega)⟩
        obtain ⟨z, hz⟩ : ∃ z, zs[k]? = some z := ⟨zs[k], List.getElem?_eq_getElem (by omega)⟩
        obtain ⟨ba, oa, ca, ea, hba, hcx⟩ := (ha.below (Nat.le_refl _) hbw2).cells hx
        obtain ⟨bb, ob, cb, eb, hbb, hcy⟩ := (hb.below (Nat.le_refl _) hbw2).cells hy
        obtain ⟨bc, oc, cc, ec, hbc, hcz⟩ := (hc.below (Nat.le_refl _) hbw2).cells hz
        cases ea
        cases eb
        cases ec
        have hl := laid3_length xs ys zs k (by omega) (by omega) (by omega)
        have hsn := laid3_snoc xs ys zs k hx hy hz
        have hcell := hown.cellAt k (by omega)
        have hfr := hown.frozenAt k
        obtain ⟨old, hold⟩ : ∃ old, ((laid3 xs ys zs k ++ List.replicate (n - k) 0).map u8v)[k]? = some old := ⟨_, List.getElem?_eq_getElem (by simp [hl]; omega)⟩
        rw [hold] at hcell
        have hxy := bits_xor8 x y
        have hxyz := bits_xor8 (x ^^^ y) z
        obtain ⟨hst, hgr⟩ := hown.stored k (u8v (x ^^^ y ^^^ z))
        have hset : ((laid3 xs ys zs k ++ List.replicate (n - k) 0).map u8v).set k (u8v (x ^^^ y ^^^ z)) = (laid3 xs ys zs (k + 1) ++ List.replicate (n - (k + 1)) 0).map u8v := by
          rw [hsn, ← List.map_set]
          congr 1
          rw [List.set_append_right _ _ (by omega), hl, Nat.sub_self, List.append_assoc]
          congr 1
          rw [show n - k = (n - (k + 1)) + 1 by omega, List.replicate_succ]; rfl
        rw [hset] at hst
        generalize x ^^^ y = xy at hxy hxyz hst hgr hsn hset
        generalize xy ^^^ z = xyz at hxyz hst hgr hsn hset
        clear hx hy hz hsn hset hold hl hrun hown1 hg1 hown
        go_wp2
        go_region
        go_wp2
        have hbw3 := (hbw2.grown hgr (by have := hbw2.size; omega) (fun q hq => by cases hq; exact Nat.le_refl _)).drew
        go_roundw
        case rel => exact ⟨k + 1, by omega, by go_num, hst, hbw3⟩
        case measure => simp [intOf]; omega
      · have hkn : k = n := by omega
        subst hkn
        rw [Nat.sub_self, List.replicate_zero, List.append_nil] at hown
        have hsum := PbCrc.sum_lay (xs.take k) (ys.take k) (zs.take k) (by simp; omega) (by simp; omega)
        have hr1 := rdB_own hown (by unfold maxLen; omega)
        have hra := (ha.below (Nat.le_refl _) hbw2).pre k (by omega)
        have hrb := (hb.below (Nat.le_refl _) hbw2).pre k (by omega)
        have hrc := (hc.below (Nat.le_refl _) hbw2).pre k (by omega)
        have ea := run_slice_h (P := Try.prog) Try.underlying22 (by kernel_rfl : (Try.prog.info? 5).map (·.size) = some 1) aa xs.length capa k (by omega)
        have eb := run_slice_h (P := Try.prog) Try.underlying22 (by kernel_rfl : (Try.prog.info? 5).map (·.size) = some 1) ab ys.length capb k (by omega)
        have ec := run_slice_h (P := Try.prog) Try.underlying22 (by kernel_rfl : (Try.prog.info? 5).map (·.size) = some 1) ac zs.length capc k (by omega)
        have e1 := bits_xor32 (PbCrc.sum (xs.take k)) (PbCrc.sum (ys.take k))
        have e2 := bits_xor32 (PbCrc.sum (xs.take k) ^^^ PbCrc.sum (ys.take k)) (PbCrc.sum (zs.take k))
        rw [← hsum] at e2
        change bits .xor .u32 _ _ = ((PbCrc.sum (laid3 xs ys zs k)).toNat : Int) at e2
        generalize PbCrc.sum (xs.take k) ^^^ PbCrc.sum (ys.take k) = s1 at e1 e2
        clear hsum hrun hown1 hg1 hown hmin ha hb hc
        have hS : LaysS w aa ab ac k capa capb capc xs ys zs wr := ⟨hbw2, hr1, hra, hrb, hrc⟩
        clear hbw2 hr1 hra hrb hrc
        go_wp2
        go_region_held3 (LaysS w aa ab ac k capa capb capc xs ys zs) (first | assumption | exact LaysS.go (by assumption) (by assumption) | exact LaysS.go (by assumption) (Below.drew (Below.refl _ _)))
          (first
            | (go_at_call 13; refine (crcAnswers_calls _).mono ?_; rintro e w2 ⟨rfl, hb⟩)
            | (go_at_call 14; refine (crcSum_calls _ _ _ (by first | exact LaysS.r1 (by assumption) | exact LaysS.ra (by assumption) | exact LaysS.rb (by assumption) | exact LaysS.rc (by assumption))).mono ?_; rintro e w3 ⟨rfl, hb2⟩))
        go_wp2
        go_ret
        exact ⟨rfl, LaysS.bel (by first | assumption | exact LaysS.go (by assumption) (by assumption))⟩
end Go.Proofs.Ytfgmnachckbimaa
