/-
  What the reference computes of marks: their bytes.
-/
import Derived.Test.YtfgmnachckbimaaMark
import Derived.Deep.RegionHeld3
set_option linter.unusedSimpArgs false
set_option linter.unusedVariables false
namespace Go.Proofs.Ytfgmnachckbimaa
open Go.RowKit
/-- Bytes, in a row of the call's own. -/
def RowDone (w : World) (bs : List UInt8) (e : Ending) (w' : World) : Prop :=
  ∃ v', e = .returned v' ∧ w'.ownsRow w.heap.size 5 1 v' bs.length (bs.map u8v) ∧ Below w.heap.size w w'
theorem num8_part (n j : Nat) (hj : j < 8) : (List.replicate (8 - j) 0 ++ (num8 n).drop (8 - j)).set (7 - j) (UInt8.ofNat (n / 2 ^ (8 * j))) = List.replicate (8 - (j + 1)) 0 ++ (num8 n).drop (8 - (j + 1)) := by
  have h1 : 8 - j = (7 - j) + 1 := by omega
  have h2 : 8 - (j + 1) = 7 - j := by omega
  have hg := num8_get n (7 - j) (by omega)
  rw [show 7 - (7 - j) = j by omega] at hg
  have hl : 7 - j < (num8 n).length := by rw [num8_length]; omega
  have hge : (num8 n)[7 - j] = UInt8.ofNat (n / 2 ^ (8 * j)) := by have := List.getElem?_eq_getElem hl; rw [this] at hg; exact Option.some.inj hg
  rw [h2, List.drop_eq_getElem_cons hl, hge, show 7 - j + 1 = 8 - j by omega, h1, List.replicate_succ', List.append_assoc, List.set_append_right _ _ (by simp)]
  simp
set_option maxRecDepth 100000 in
set_option maxHeartbeats 400000 in
theorem refNum_calls (n : Nat) (hn : n ≤ 9223372036854775807) (w : World) :
    Calls Try.prog 31 #[.int .i64 n] w (RowDone w (num8 n)) := by
  obtain ⟨i0, hi, hz0, hz1, hz2⟩ := info_parts infoU8
  obtain ⟨w1, hrun, hown1, hg1⟩ := run_make_full (P := Try.prog) w w.heap.size 22 5 i0 (.int .u8 0) 1 Try.underlying22 hi hz0 hz1 .i64 .i64 8 (by rw [hz2]; omega) (by decide) (Nat.le_refl _)
  have hrunL : (Instr.makeSlice 22 (.int .i64 8) (.int .i64 8)).run Try.prog w = .ok (.slice (some ⟨w.heap.size, 0, none⟩) 8 8) w1 := hrun
  go_enter Try.func31, Try.ntmps31
  go_wp2
  go_loopw [0, 4] (fun a i wr => ∃ j : Nat, j ≤ 8 ∧ i = .int .i64 (7 - (j : Int)) ∧ a = .int .i64 ((n / 2 ^ (8 * j) : Nat) : Int) ∧ wr.ownsRow w.heap.size 5 1 (.slice (some ⟨w.heap.size, 0, none⟩) 8 8) 8 ((List.replicate (8 - j) 0 ++ (num8 n).drop (8 - j)).map u8v) ∧ Below w.heap.size w wr) (fun _ i _ => (intOf i + 1).toNat)
  case atStart =>
    refine ⟨0, by omega, rfl, by simp, ?_, (Below.refl _ _).grown hg1 (Nat.le_refl _) (fun _ h => by cases h)⟩
    have e : (madeCells (Value.int .u8 0).cells (8 * 1)).toList = (List.replicate (8 - 0) 0 ++ (num8 n).drop (8 - 0)).map u8v := by
      rw [show (Value.int .u8 0).cells = #[Value.int .u8 0] from rfl, toList_madeCells_one, List.drop_of_length_le (by simp [num8])]; simp
    rw [← e]; exact hown1
  case round =>
    obtain ⟨j, hj, rfl, rfl, hown, hbw⟩ := hrel
    by_cases hlt : j < 8
    · obtain ⟨m, hm⟩ : ∃ m : Nat, 7 - j = m := ⟨_, rfl⟩
      have hmI : (7 : Int) - (j : Int) = (m : Int) := by omega
      have hset := num8_part n j hlt
      have hq : n / 2 ^ (8 * j) / 256 = n / 2 ^ (8 * (j + 1)) := by rw [Nat.div_div_eq_div_mul, show 8 * (j + 1) = 8 * j + 8 by omega, Nat.pow_add]
      have hqn : n / 2 ^ (8 * j) ≤ n := Nat.div_le_self _ _
      generalize n / 2 ^ (8 * j) = q at hset hq hqn
      have hu : (q : Int) % 256 = ((UInt8.ofNat q).toNat : Int) := by rw [UInt8.toNat_ofNat']; simp
      rw [hm] at hset
      have hcell := hown.cellAt m (by omega)
      have hfr := hown.frozenAt m
      obtain ⟨old, hold⟩ : ∃ old, ((List.replicate (8 - j) 0 ++ (num8 n).drop (8 - j)).map u8v)[m]? = some old := ⟨_, List.getElem?_eq_getElem (by simp [num8_length]; omega)⟩
      rw [hold] at hcell
      obtain ⟨hst, hgr⟩ := hown.stored m (u8v (UInt8.ofNat q))
      rw [← List.map_set, hset] at hst
      generalize UInt8.ofNat q = x at hu hst hgr
      have hbw3 := hbw.grown hgr (by have := hbw.size; omega) (fun q hq => by cases hq; exact Nat.le_refl _)
      have Hq := Lib.hid hq
      clear hq hset hold hown
      rw [hmI]
      go_wp2
      go_roundw
      case rel => exact ⟨j + 1, by omega, by congr 1; omega, by rw [← Hq.out]; rfl, hst, hbw3⟩
      case measure => simp [intOf] <;> omega
    · have hj8 : j = 8 := by omega
      subst hj8
      go_wp2
      go_ret
      refine ⟨_, rfl, ?_, hbw⟩
      rw [num8_length]; simpa using hown

theorem and255 (c : BitVec 32) (k : Nat) : bits .and .u32 ((c.toNat : Int) / 2 ^ k) 255 = ((UInt8.ofNat (c.toNat / 2 ^ k)).toNat : Int) := by
  have h : (c.toNat : Int) / 2 ^ k = ((c >>> k).toNat : Int) := by rw [BitVec.toNat_ushiftRight, Nat.shiftRight_eq_div_pow]; simp
  have h2 : (255 : Int) = ((255#32 : BitVec 32).toNat : Int) := rfl
  rw [h, h2, bits_and32, BitVec.toNat_and, BitVec.toNat_ushiftRight, Nat.shiftRight_eq_div_pow, UInt8.toNat_ofNat']
  congr 1
  exact Nat.and_two_pow_sub_one_eq_mod _ 8
set_option maxRecDepth 100000 in
set_option maxHeartbeats 400000 in
theorem refSum_calls (v : Value) (bs : List UInt8) (w : World) (hv : RdB w v bs) :
    Calls Try.prog 32 #[v] w (RowDone w (be4 (PbCrc.sum bs))) := by
  go_enter Try.func32, Try.ntmps32
  go_wp2_with fail
  refine (refCRC_calls _ _ _ hv).mono ?_; rintro e w1 ⟨rfl, rfl⟩
  obtain ⟨c, hcs⟩ : ∃ c, PbCrc.sum bs = c := ⟨_, rfl⟩
  rw [hcs]
  have hlt := c.isLt
  have u24 : (c.toNat : Int) / 16777216 = ((UInt8.ofNat (c.toNat / 2 ^ 24)).toNat : Int) := by rw [UInt8.toNat_ofNat', Nat.mod_eq_of_lt (by omega)]; simp
  have u16 : bits .and .u32 ((c.toNat : Int) / 65536) 255 = ((UInt8.ofNat (c.toNat / 2 ^ 16)).toNat : Int) := and255 c 16
  have u8' : bits .and .u32 ((c.toNat : Int) / 256) 255 = ((UInt8.ofNat (c.toNat / 2 ^ 8)).toNat : Int) := and255 c 8
  have u0 : bits .and .u32 (c.toNat : Int) 255 = ((UInt8.ofNat c.toNat).toNat : Int) := by have := and255 c 0; simpa using this
  have hfin : be4 (PbCrc.sum bs) = [UInt8.ofNat (c.toNat / 2 ^ 24), UInt8.ofNat (c.toNat / 2 ^ 16), UInt8.ofNat (c.toNat / 2 ^ 8), UInt8.ofNat c.toNat] := by rw [hcs]; rfl
  have i1 := (UInt8.ofNat (c.toNat / 2 ^ 16)).toNat_lt
  have i2 := (UInt8.ofNat (c.toNat / 2 ^ 8)).toNat_lt
  have i3 := (UInt8.ofNat c.toNat).toNat_lt
  generalize UInt8.ofNat (c.toNat / 2 ^ 24) = b0 at u24 hfin
  generalize UInt8.ofNat (c.toNat / 2 ^ 16) = b1 at u16 i1 hfin
  generalize UInt8.ofNat (c.toNat / 2 ^ 8) = b2 at u8' i2 hfin
  generalize UInt8.ofNat c.toNat = b3 at u0 i3 hfin
  have Hfin := Lib.hid hfin
  clear hfin hcs
  go_wp2
  go_ret
  refine ⟨_, rfl, by rw [Hfin.out]; exact World.ownsRow_lit w #[u8v b0, u8v b1, u8v b2, u8v b3] 4 (Nat.le_refl _) (by decide) rfl, (Below.refl _ _).alloc (Nat.le_refl _) _⟩

/-- Eight bytes, in a row of the call's own, written out. -/
def Row8 (w : World) (bs : List UInt8) (e : Ending) (w' : World) : Prop :=
  ∃ g cap, e = .returned (.slice (some ⟨g, 0, none⟩) 8 cap) ∧ w'.ownsRow w.heap.size 5 1 (.slice (some ⟨g, 0, none⟩) 8 cap) 8 (bs.map u8v) ∧ Below w.heap.size w w' ∧ w.heap.size ≤ g
theorem refNum8 (n : Nat) (hn : n ≤ 9223372036854775807) (w : World) : Calls Try.prog 31 #[.int .i64 n] w (Row8 w (num8 n)) := by
  refine (refNum_calls n hn w).mono ?_
  rintro e w1 ⟨v, rfl, hown, hb⟩
  rw [num8_length] at hown
  obtain ⟨g, cap, rfl, hg, _, _, _⟩ := own_form hown (by decide)
  exact ⟨g, cap, rfl, hown, hb, hg⟩
/-- Three cells below what a call has made, and nothing old has turned. -/
def Cells3 (w0 w : World) (x y z : Value) : Prop := w.cell? ⟨w0.heap.size, 0, none⟩ = some x ∧ w.cell? ⟨w0.heap.size, 1, none⟩ = some y ∧ w.cell? ⟨w0.heap.size, 2, none⟩ = some z ∧ Below w0.heap.size w0 w
theorem Cells3.lt {w0 w : World} {x y z : Value} (h : Cells3 w0 w x y z) : w0.heap.size < w.heap.size := World.block_lt_of_cell? w ⟨w0.heap.size, 0, none⟩ h.1
theorem keep3 {w0 w1 w2 : World} {x y z : Value} (h : Cells3 w0 w1 x y z) (hb : Below w1.heap.size w1 w2) : Cells3 w0 w2 x y z := by
  have hl := h.lt
  obtain ⟨h1, h2, h3, h4⟩ := h
  have hc := (below_cell hb).1
  exact ⟨by rw [hc _ _ hl]; exact h1, by rw [hc _ _ hl]; exact h2, by rw [hc _ _ hl]; exact h3, h4.trans (hb.mono h4.size)⟩
theorem keep3g {w0 w1 w2 : World} {row : Option Nat} {x y z : Value} (h : Cells3 w0 w1 x y z) (hg : w1.grownBy w2 row) (hr : ∀ k, row = some k → w0.heap.size < k) : Cells3 w0 w2 x y z := by
  have hne : some w0.heap.size ≠ row := fun e => by have := hr _ e.symm; omega
  exact ⟨hg.cell h.1 hne, hg.cell h.2.1 hne, hg.cell h.2.2.1 hne, h.2.2.2.grown hg h.2.2.2.size (fun k hk => Nat.le_of_lt (hr k hk))⟩
/-- The cells of an owned row, as an append takes them. -/
theorem news_own {w : World} {base g n cap : Nat} {xs : List Value} (h : w.ownsRow base 5 1 (.slice (some ⟨g, 0, none⟩) n cap) n xs) : ∀ j u, xs[j]? = some u → w.cell? ((⟨g, 0, none⟩ : Addr).add j) = some u := by
  intro j u hu
  rw [add_at, Nat.zero_add, h.cellAt j (by have := (List.getElem?_eq_some_iff.1 hu).1; rw [h.1] at this; exact this)]
  exact hu
/-- One owned row of bytes appended to another one, at a step of a region that draws its order. -/
theorem step_app_own {ops : Array Oper} {o : Oper} {a : Act} {K : Act → World → Prop} {Q : Exit → Act → World → Prop} {E : Prop} (hgd : o.guard = none) (s x : Operand)
    (ho : o.op = .call { callee := .builtin .append, args := #[s, x], argTypes := #[22, 22] }) {w : World} {base base2 n1 n2 g1 g2 cap1 cap2 : Nat} {xs ys : List UInt8}
    (hs : a.eval s = .slice (some ⟨g1, 0, none⟩) n1 cap1) (hx : a.eval x = .slice (some ⟨g2, 0, none⟩) n2 cap2)
    (hown1 : w.ownsRow base 5 1 (.slice (some ⟨g1, 0, none⟩) n1 cap1) n1 (xs.map u8v)) (hown2 : w.ownsRow base2 5 1 (.slice (some ⟨g2, 0, none⟩) n2 cap2) n2 (ys.map u8v)) (hm : 0 < n2) (hsmall : n1 + n2 ≤ 1099511627776)
    (h : ∀ g cap w', w'.ownsRow base 5 1 (.slice (some ⟨g, 0, none⟩) (n1 + n2) cap) (n1 + n2) ((xs ++ ys).map u8v) → w.grownBy w' (some g1) → (g = g1 ∨ g = w.heap.size) → g < w'.heap.size → K (a.put o.dst (.slice (some ⟨g, 0, none⟩) (n1 + n2) cap)) w') :
    if Region.wanted o (yielded ops a.tmps) = true then Oper.wp Try.prog o a w K Q else E := by
  obtain ⟨i0, hi, hz0, hz1, hz2⟩ := info_parts infoU8
  have hl := hown2.1
  have hb1 := (hown1.lt g1 rfl)
  refine step_append_lies w hgd s x 22 ho base 5 i0 (.int .u8 0) 1 1 Try.underlying22 hi hz0 hz1 hz2 rfl (by decide) _ n1 (xs.map u8v) hs hown1 ⟨g2, 0, none⟩ n2 cap2 (ys.map u8v) hx hl (news_own hown2) (one_u8 ys) hm (by unfold maxLen; omega) (by omega) (by omega) w.heap.size rfl ?_
  intro g cap w' h2 h3 h4 h5
  refine h g cap w' (by rw [List.map_append]; exact h2) h3 ?_ h5
  rcases h4 with h4 | h4
  · cases h4; exact .inl rfl
  · exact .inr h4
set_option maxRecDepth 100000 in
set_option maxHeartbeats 1000000 in
theorem refMark_calls (k : MarkD) (w : World) (h1 : 0 ≤ k.kind) (h2 : k.kind ≤ 9223372036854775807) (h3 : 0 ≤ k.rcpt) (h4 : k.rcpt ≤ 9223372036854775807) (h5 : 0 ≤ k.n) (h6 : k.n ≤ 9223372036854775807) :
    Calls Try.prog 21 #[k.val] w (RowDone w k.bytes) := by
  obtain ⟨kind, rcpt, n⟩ := k
  obtain ⟨kn, rfl⟩ := Int.eq_ofNat_of_zero_le h1
  obtain ⟨rn, rfl⟩ := Int.eq_ofNat_of_zero_le h3
  obtain ⟨nn, rfl⟩ := Int.eq_ofNat_of_zero_le h5
  simp only at h1 h2 h3 h4 h5 h6
  obtain ⟨i0, hi, hz0, hz1, hz2⟩ := info_parts infoU8
  have hl := num8_length
  go_enter Try.func21, Try.ntmps21
  go_wp2
  go_region_held3 (fun w' => w'.cell? ⟨w.heap.size, 0, none⟩ = some (.int .i64 (kn : Int)) ∧ w'.cell? ⟨w.heap.size, 1, none⟩ = some (.int .i64 (rn : Int)) ∧ w'.cell? ⟨w.heap.size, 2, none⟩ = some (.int .i64 (nn : Int)) ∧ Below w.heap.size w w') (first | exact ⟨by go_simp, by go_simp, by go_simp, ((Below.refl _ _).alloc (Nat.le_refl _) _).drew⟩ | exact keep3 (by assumption) (by assumption) | exact keep3g (by assumption) (by assumption) (by intro k hk; cases hk; omega))
    (first
      | (go_at_call 31; refine (refNum8 _ (by omega) _).mono ?_; rintro e w2 ⟨g, cap, rfl, hown, hb, hg⟩; have hBg := Nat.lt_of_lt_of_le (Cells3.lt (x := .int .i64 (kn : Int)) (y := .int .i64 (rn : Int)) (z := .int .i64 (nn : Int)) (by assumption)) hg)
      | (refine step_app_own rfl (.tmp 6) (.tmp 9) rfl (by rfl) (by rfl) (by first | assumption | exact own_below (by assumption) (by assumption) (Nat.le_refl _)) (by assumption) (by decide) (by decide) ?_; rintro g cap w4 hown4 hg4 hat4 hlt4; have hBc := Cells3.lt (x := .int .i64 (kn : Int)) (y := .int .i64 (rn : Int)) (z := .int .i64 (nn : Int)) (by assumption); have hBg4 : w.heap.size < g := by omega)
      | (refine step_app_own rfl (.tmp 10) (.tmp 13) rfl (by rfl) (by rfl) (by first | assumption | exact own_below (by assumption) (by assumption) (Nat.le_refl _)) (by assumption) (by decide) (by decide) ?_; rintro g cap w4 hown4 hg4 hat4 hlt4; have hBc := Cells3.lt (x := .int .i64 (kn : Int)) (y := .int .i64 (rn : Int)) (z := .int .i64 (nn : Int)) (by assumption); have hBg4 : w.heap.size < g := by omega))
  obtain ⟨_, _, _, hbel⟩ := (by assumption : Cells3 w w4 (.int .i64 (kn : Int)) (.int .i64 (rn : Int)) (.int .i64 (nn : Int)))
  have hown5 : w4.ownsRow w.heap.size 5 1 (.slice (some ⟨g, 0, none⟩) 24 cap) 24 ((MarkD.body ⟨kn, rn, nn⟩).map u8v) := own_mono hown4 (by simp)
  go_wp2_with fail
  refine (refSum_calls _ _ _ (rdB_ofOwn hown5)).mono ?_; rintro e w5 ⟨v5, rfl, hown6, hb6⟩
  have hs4 := hbel.size
  have hs5 := hb6.size
  have hown7 := own_below hown5 hb6 (Nat.le_refl _)
  have hl4 : (be4 (PbCrc.sum (MarkD.body ⟨kn, rn, nn⟩))).length = 4 := rfl
  rw [hl4] at hown6
  obtain ⟨g6, cap6, rfl, _, _, _, _⟩ := own_form hown6 (by decide)
  have h63 : 24 + 4 ≤ maxLen := by decide
  have hbs : w.heap.size ≤ w5.heap.size := by omega
  go_wp2_with (at_builtin; go_must (refine wpList_append_own _ rfl (.tmp 15) (.tmp 17) 22 rfl w.heap.size 5 i0 (.int .u8 0) 1 1 Try.underlying22 hi hz0 hz1 hz2 rfl (by decide) _ _ _ rfl hown7 ⟨g6, 0, none⟩ 4 cap6 ((be4 (PbCrc.sum (MarkD.body ⟨kn, rn, nn⟩))).map u8v) rfl rfl (news_own hown6) (one_u8 _) h63 (by decide) hbs ?_); rintro v3 w6 hown8 hg8 _)
  go_ret
  refine ⟨v3, rfl, ?_, ?_⟩
  · rw [bytes_length]; simpa [MarkD.bytes] using hown8
  · exact Below.grown (hbel.trans (hb6.mono hs4)) hg8 (by omega) (fun k hk => own_base hown7 k hk)
end Go.Proofs.Ytfgmnachckbimaa
