/- Printed out of the texts of wip/tpl. -/
import Derived.Test.YtffnbkmigapmjaaGreatDoorT4
import Derived.Test.YtffnbkmigapmjaaGreatDoorT6
import Derived.Deep.RegionHeld3
set_option linter.unusedSimpArgs false
set_option linter.unusedVariables false
namespace Go.Proofs.YtffnbkmigapmjaaGreatDoor
open Go.RowKit
def RowDone (w : World) (bs : List UInt8) (e : Ending) (w' : World) : Prop :=
 ∃ v', e = .returned v' ∧ w'.ownsRow w.heap.size 5 1 v' bs.length (bs.map u8v) ∧ Below w.heap.size w w'
theorem num8_part (n j : Nat) (hj : j < 8) : (List.replicate (8 - j) 0 ++ (num8 n).drop (8 - j)).set (7 - j) (UInt8.ofNat (n / 2 ^ (8 * j))) = List.replicate (8 - (j + 1)) 0 ++ (num8 n).drop (8 - (j + 1)) := by
 have h1 : 8 - j = (7 - j) + 1 := by omega
 have h2 : 8 - (j + 1) = 7 - j := by omega
 have hg := num8_get n (7 - j) (by omega)
 rw [show 7 - (7 - j) = j by omega] at hg
 have hl : 7 - j < (num8 n).length := by rw [num8_length]; omega
 have hge : (num8 n)[7 - j] = UInt8.ofNat (n / 2 ^ (8 * j)) := by have := List.getElem?_eq_getElem hl; rw [this] at hg; exact Option.some.inj hg
 rw [h2, List.drop_eq_getElem_cons hl, hge, show 7 - j + 1 = 8 - j by omega, h1, List.replicate_succ', List.append_assoc, List.set_append_right _ _ (by simp)]
 simp
set_option maxRecDepth 100000 in
set_option maxHeartbeats 400000 in
theorem refNum_calls (n : Nat) (hn : n ≤ 9223372036854775807) (w : World) :
 Calls Tryz.prog 123 #[.int .i64 n] w (RowDone w (num8 n)) := by
 obtain ⟨i0, hi, hz0, hz1, hz2⟩ := info_parts infoU8
 obtain ⟨w1, hrun, hown1, hg1⟩ := run_make_full (P := Tryz.prog) w w.heap.size 22 5 i0 (.int .u8 0) 1 Tryz.underlying22 hi hz0 hz1 .i64 .i64 8 (by rw [hz2]; omega) (by decide) (Nat.le_refl _)
 have hrunL : (Instr.makeSlice 22 (.int .i64 8) (.int .i64 8)).run Tryz.prog w = .ok (.slice (some ⟨w.heap.size, 0, none⟩) 8 8) w1 := hrun
 go_enter Tryz.func123, Tryz.ntmps123
 go_wp2
 go_loopw [0, 4] (fun a i wr => ∃ j : Nat, j ≤ 8 ∧ i = .int .i64 (7 - (j : Int)) ∧ a = .int .i64 ((n / 2 ^ (8 * j) : Nat) : Int) ∧ wr.ownsRow w.heap.size 5 1 (.slice (some ⟨w.heap.size, 0, none⟩) 8 8) 8 ((List.replicate (8 - j) 0 ++ (num8 n).drop (8 - j)).map u8v) ∧ Below w.heap.size w wr) (fun _ i _ => (intOf i + 1).toNat)
 case atStart =>
  refine ⟨0, by omega, rfl, by simp, ?_, (Below.refl _ _).grown hg1 (Nat.le_refl _) (fun _ h => by cases h)⟩
  have e : (madeCells (Value.int .u8 0).cells (8 * 1)).toList = (List.replicate (8 - 0) 0 ++ (num8 n).drop (8 - 0)).map u8v := by
   rw [show (Value.int .u8 0).cells = #[Value.int .u8 0] from rfl, toList_madeCells_one, List.drop_of_length_le (by simp [num8])]; simp
  rw [← e]; exact hown1
 case round =>
  obtain ⟨j, hj, rfl, rfl, hown, hbw⟩ := hrel
  by_cases hlt : j < 8
  ·obtain ⟨m, hm⟩ : ∃ m : Nat, 7 - j = m := ⟨_, rfl⟩
   have hmI : (7 : Int) - (j : Int) = (m : Int) := by omega
   have hset := num8_part n j hlt
   have hq : n / 2 ^ (8 * j) / 256 = n / 2 ^ (8 * (j + 1)) := by rw [Nat.div_div_eq_div_mul, show 8 * (j + 1) = 8 * j + 8 by omega, Nat.pow_add]
   have hqn : n / 2 ^ (8 * j) ≤ n := Nat.div_le_self _ _
   generalize n / 2 ^ (8 * j) = q at hset hq hqn
   have hu : (q : Int) % 256 = ((UInt8.ofNat q).toNat : Int) := by rw [UInt8.toNat_ofNat']; simp
   rw [hm] at hset
   have hcell := hown.cellAt m (by omega)
   have hfr := hown.frozenAt m
   obtain ⟨old, hold⟩ : ∃ old, ((List.replicate (8 - j) 0 ++ (num8 n).drop (8 - j)).map u8v)[m]? = some old := ⟨_, List.getElem?_eq_getElem (by simp [num8_length]; omega)⟩
   rw [hold] at hcell
   obtain ⟨hst, hgr⟩ := hown.stored m (u8v (UInt8.ofNat q))
   rw [← List.map_set, hset] at hst
   generalize UInt8.ofNat q = x at hu hst hgr
   have hbw3 := hbw.grown hgr (by have := hbw.size; omega) (fun q hq => by cases hq; exact Nat.le_refl _)
   have Hq := Lib.hid hq
   clear hq hset hold hown
   rw [hmI]
   go_wp2
   go_roundw
   case rel => exact ⟨j + 1, by omega, by congr 1; omega, by rw [← Hq.out]; rfl, hst, hbw3⟩
   case measure => simp [intOf] <;> omega
  ·have hj8 : j = 8 := by omega
   subst hj8
   go_wp2
   go_ret
   refine ⟨_, rfl, ?_, hbw⟩
   rw [num8_length]; simpa using hown
theorem and255 (c : BitVec 32) (k : Nat) : bits .and .u32 ((c.toNat : Int) / 2 ^ k) 255 = ((UInt8.ofNat (c.toNat / 2 ^ k)).toNat : Int) := by
 have h : (c.toNat : Int) / 2 ^ k = ((c >>> k).toNat : Int) := by rw [BitVec.toNat_ushiftRight, Nat.shiftRight_eq_div_pow]; simp
 have h2 : (255 : Int) = ((255#32 : BitVec 32).toNat : Int) := rfl
 rw [h, h2, bits_and32, BitVec.toNat_and, BitVec.toNat_ushiftRight, Nat.shiftRight_eq_div_pow, UInt8.toNat_ofNat']
 congr 1
 exact Nat.and_two_pow_sub_one_eq_mod _ 8
set_option maxRecDepth 100000 in
set_option maxHeartbeats 400000 in
theorem refSum_calls (v : Value) (bs : List UInt8) (w : World) (hv : RdB w v bs) :
 Calls Tryz.prog 48 #[v] w (RowDone w (be4 (PbCrc.sum bs))) := by
 go_enter Tryz.func48, Tryz.ntmps48
 go_wp2_with fail
 refine (refCRC_calls _ _ _ hv).mono ?_; rintro e w1 ⟨rfl, rfl⟩
 obtain ⟨c, hcs⟩ : ∃ c, PbCrc.sum bs = c := ⟨_, rfl⟩
 rw [hcs]
 have hlt := c.isLt
 have u24 : (c.toNat : Int) / 16777216 = ((UInt8.ofNat (c.toNat / 2 ^ 24)).toNat : Int) := by rw [UInt8.toNat_ofNat', Nat.mod_eq_of_lt (by omega)]; simp
 have u16 : bits .and .u32 ((c.toNat : Int) / 65536) 255 = ((UInt8.ofNat (c.toNat / 2 ^ 16)).toNat : Int) := and255 c 16
 have u8' : bits .and .u32 ((c.toNat : Int) / 256) 255 = ((UInt8.ofNat (c.toNat / 2 ^ 8)).toNat : Int) := and255 c 8
 have u0 : bits .and .u32 (c.toNat : Int) 255 = ((UInt8.ofNat c.toNat).toNat : Int) := by have := and255 c 0; simpa using this
 have hfin : be4 (PbCrc.sum bs) = [UInt8.ofNat (c.toNat / 2 ^ 24), UInt8.ofNat (c.toNat / 2 ^ 16), UInt8.ofNat (c.toNat / 2 ^ 8), UInt8.ofNat c.toNat] := by rw [hcs]; rfl
 have i1 := (UInt8.ofNat (c.toNat / 2 ^ 16)).toNat_lt
 have i2 := (UInt8.ofNat (c.toNat / 2 ^ 8)).toNat_lt
 have i3 := (UInt8.ofNat c.toNat).toNat_lt
 generalize UInt8.ofNat (c.toNat / 2 ^ 24) = b0 at u24 hfin
 generalize UInt8.ofNat (c.toNat / 2 ^ 16) = b1 at u16 i1 hfin
 generalize UInt8.ofNat (c.toNat / 2 ^ 8) = b2 at u8' i2 hfin
 generalize UInt8.ofNat c.toNat = b3 at u0 i3 hfin
 have Hfin := Lib.hid hfin
 clear hfin hcs
 go_wp2
 go_ret
 refine ⟨_, rfl, by rw [Hfin.out]; exact World.ownsRow_lit w #[u8v b0, u8v b1, u8v b2, u8v b3] 4 (Nat.le_refl _) (by decide) rfl, (Below.refl _ _).alloc (Nat.le_refl _) _⟩
def Row8 (w : World) (bs : List UInt8) (e : Ending) (w' : World) : Prop :=
 ∃ g cap, e = .returned (.slice (some ⟨g, 0, none⟩) 8 cap) ∧ w'.ownsRow w.heap.size 5 1 (.slice (some ⟨g, 0, none⟩) 8 cap) 8 (bs.map u8v) ∧ Below w.heap.size w w' ∧ w.heap.size ≤ g
theorem refNum8 (n : Nat) (hn : n ≤ 9223372036854775807) (w : World) : Calls Tryz.prog 123 #[.int .i64 n] w (Row8 w (num8 n)) := by
 refine (refNum_calls n hn w).mono ?_
 rintro e w1 ⟨v, rfl, hown, hb⟩
 rw [num8_length] at hown
 obtain ⟨g, cap, rfl, hg, _, _, _⟩ := own_form hown (by decide)
 exact ⟨g, cap, rfl, hown, hb, hg⟩
def Cells3 (w0 w : World) (x y z : Value) : Prop := w.cell? ⟨w0.heap.size, 0, none⟩ = some x ∧ w.cell? ⟨w0.heap.size, 1, none⟩ = some y ∧ w.cell? ⟨w0.heap.size, 2, none⟩ = some z ∧ Below w0.heap.size w0 w
theorem Cells3.lt {w0 w : World} {x y z : Value} (h : Cells3 w0 w x y z) : w0.heap.size < w.heap.size := World.block_lt_of_cell? w ⟨w0.heap.size, 0, none⟩ h.1
theorem news_own {w : World} {base g n cap : Nat} {xs : List Value} (h : w.ownsRow base 5 1 (.slice (some ⟨g, 0, none⟩) n cap) n xs) : ∀ j u, xs[j]? = some u → w.cell? ((⟨g, 0, none⟩ : Addr).add j) = some u := by
 intro j u hu
 rw [add_at, Nat.zero_add, h.cellAt j (by have := (List.getElem?_eq_some_iff.1 hu).1; rw [h.1] at this; exact this)]
 exact hu
theorem step_app_own {ops : Array Oper} {o : Oper} {a : Act} {K : Act → World → Prop} {Q : Exit → Act → World → Prop} {E : Prop} (hgd : o.guard = none) (s x : Operand)
 (ho : o.op = .call { callee := .builtin .append, args := #[s, x], argTypes := #[22, 22] }) {w : World} {base base2 n1 n2 g1 g2 cap1 cap2 : Nat} {xs ys : List UInt8}
 (hs : a.eval s = .slice (some ⟨g1, 0, none⟩) n1 cap1) (hx : a.eval x = .slice (some ⟨g2, 0, none⟩) n2 cap2)
 (hown1 : w.ownsRow base 5 1 (.slice (some ⟨g1, 0, none⟩) n1 cap1) n1 (xs.map u8v)) (hown2 : w.ownsRow base2 5 1 (.slice (some ⟨g2, 0, none⟩) n2 cap2) n2 (ys.map u8v)) (hm : 0 < n2) (hsmall : n1 + n2 ≤ 1099511627776)
 (h : ∀ g cap w', w'.ownsRow base 5 1 (.slice (some ⟨g, 0, none⟩) (n1 + n2) cap) (n1 + n2) ((xs ++ ys).map u8v) → w.grownBy w' (some g1) → (g = g1 ∨ g = w.heap.size) → g < w'.heap.size → K (a.put o.dst (.slice (some ⟨g, 0, none⟩) (n1 + n2) cap)) w') :
 if Region.wanted o (yielded ops a.tmps) = true then Oper.wp Tryz.prog o a w K Q else E := by
 obtain ⟨i0, hi, hz0, hz1, hz2⟩ := info_parts infoU8
 have hl := hown2.1
 have hb1 := (hown1.lt g1 rfl)
 refine step_append_lies w hgd s x 22 ho base 5 i0 (.int .u8 0) 1 1 Tryz.underlying22 hi hz0 hz1 hz2 rfl (by decide) _ n1 (xs.map u8v) hs hown1 ⟨g2, 0, none⟩ n2 cap2 (ys.map u8v) hx hl (news_own hown2) (one_u8 ys) hm (by unfold maxLen; omega) (by omega) (by omega) w.heap.size rfl ?_
 intro g cap w' h2 h3 h4 h5
 refine h g cap w' (by rw [List.map_append]; exact h2) h3 ?_ h5
 rcases h4 with h4 | h4
 ·cases h4; exact .inl rfl
 ·exact .inr h4
theorem run_index_at {s : ByteArray} {j : Nat} {c : UInt8} (h : s.data.toList[j]? = some c) (w : World) :
 (Instr.index 9 (.string s) (.int .i64 (j : Int))).run Tryz.prog w = .ok (.int .u8 c.toNat) w := by
 have hj : j < s.size := by rw [size_len]; exact (List.getElem?_eq_some_iff.1 h).1
 have hg := get_byte s j hj
 rw [h] at hg
 have hc : s[j]'hj = c := (Option.some.inj hg).symm
 have hq : s[j]? = some c := by rw [getElem?_pos s j hj, hc]
 simp [Instr.index, asIntOf, run_underlying Tryz.underlying9, go_sem, hq]
theorem run_slice_at {s : ByteArray} {a b : Nat} (hab : a ≤ b) (hb : b ≤ s.size) (w : World) :
 (Instr.slice 9 (.string s) (some (.int .i64 (a : Int))) (some (.int .i64 (b : Int))) none).run Tryz.prog w = .ok (.string (strL ((s.data.toList.take b).drop a))) w := by
 rw [run_slice_string_if w 9 s .i64 .i64 a b Tryz.underlying9]
 rw [if_pos ⟨by omega, by omega⟩, if_pos ⟨by omega, by omega⟩]
 congr 2
 have : (s.extract a b).data.toList = (s.data.toList.take b).drop a := by
  rw [ByteArray.data_extract, Array.toList_extract, List.extract_eq_take_drop, List.drop_take]
 rw [Int.toNat_natCast, Int.toNat_natCast, ← this, strL_of]
set_option maxRecDepth 100000 in
set_option maxHeartbeats 4000000 in
theorem refPlain_calls (c : UInt8) (w : World) :
 Calls Tryz.prog 220 #[.int .u8 c.toNat] w fun e w' => e = .returned (.bool (plainB c)) ∧ w' = w := by
 rw [plain_iff]
 have hc := c.toNat_lt
 generalize c.toNat = r at hc
 by_cases a1 : 97 ≤ r <;> by_cases a2 : r ≤ 122 <;> by_cases b1 : 65 ≤ r <;> by_cases b2 : r ≤ 90 <;> by_cases c1 : 48 ≤ r <;> by_cases c2 : r ≤ 57
 all_goals first | omega | skip
 all_goals
  have hv : plainR r = (decide (97 ≤ r ∧ r ≤ 122) || decide (65 ≤ r ∧ r ≤ 90) || decide (48 ≤ r ∧ r ≤ 57)) := rfl
  simp only [a1, a2, b1, b2, c1, c2, and_self, and_true, true_and, and_false, false_and, decide_true, decide_false, Bool.or_true, Bool.true_or, Bool.or_false, Bool.false_or] at hv
  rw [hv]
  clear hv
  go_enter Tryz.func220, Tryz.ntmps220
  go_wp2
  go_ret
  first
  | exact ⟨rfl, rfl⟩
  | (refine ⟨?_, rfl⟩; congr 2; simp; omega)
theorem pieces_snoc (c x : UInt8) (l : List UInt8) : ∃ ms m, piecesAt c l = ms ++ [m] ∧ piecesAt c (l ++ [x]) = if x = c then ms ++ [m] ++ [[]] else ms ++ [m ++ [x]] := by
 induction l with
 | nil =>
  refine ⟨[], [], rfl, ?_⟩
  by_cases h : x = c <;> simp [piecesAt, h]
 | cons y ys ih =>
  obtain ⟨ms, m, h1, h2⟩ := ih
  by_cases hy : y = c
  ·refine ⟨[] :: ms, m, by simp [piecesAt, hy, h1], ?_⟩
   simp only [List.cons_append, piecesAt, if_pos hy, h2]
   split <;> simp
  ·cases ms with
   | nil =>
    refine ⟨[], y :: m, by simp [piecesAt, hy, h1], ?_⟩
    by_cases hx : x = c
    ·rw [if_pos hx] at h2 ⊢; simp [piecesAt, hy, h2]
    ·rw [if_neg hx] at h2 ⊢; simp [piecesAt, hy, h2]
   | cons q qs =>
    refine ⟨(y :: q) :: qs, m, by simp [piecesAt, hy, h1], ?_⟩
    by_cases hx : x = c
    ·rw [if_pos hx] at h2 ⊢; simp [piecesAt, hy, h2]
    ·rw [if_neg hx] at h2 ⊢; simp [piecesAt, hy, h2]
theorem nil_row0 (w : World) (base size : Nat) (e : TypeId) : w.ownsRow base e size (.slice none 0 0) 0 [] := ⟨by simp, .inl ⟨rfl, rfl⟩⟩
theorem infoStr : (Tryz.prog.info? 9).map (fun i => (i.zero, i.size, i.bytes)) = some (some (.string ByteArray.empty), 1, 16) := by kernel_rfl
def StrsDone (w : World) (ls : List (List UInt8)) (e : Ending) (w' : World) : Prop :=
 ∃ v, e = .returned v ∧ w'.ownsRow w.heap.size 9 1 v ls.length (ls.flatMap s1) ∧ Below w.heap.size w w'
set_option maxRecDepth 100000 in
set_option maxHeartbeats 4000000 in
theorem refCut_calls (s : ByteArray) (c : UInt8) (w : World) (hs : s.size ≤ 4294967281) :
 Calls Tryz.prog 221 #[.string s, .int .u8 c.toNat] w (StrsDone w (piecesAt c s.data.toList)) := by
 obtain ⟨i0, hi, hz0, hz1, hz2⟩ := info_parts infoStr
 have hlen := size_len s
 obtain ⟨l, hl⟩ : ∃ l, s.data.toList = l := ⟨_, rfl⟩
 have hidx := fun (j : Nat) (x : UInt8) (h : s.data.toList[j]? = some x) => run_index_at h
 have hslc := fun (a b : Nat) (h1 : a ≤ b) (h2 : b ≤ s.size) => run_slice_at (s := s) h1 h2
 rw [hl] at hidx hslc hlen ⊢
 obtain ⟨n, hn⟩ : ∃ n, s.size = n := ⟨_, rfl⟩
 rw [hn] at hslc hlen hs
 have Hidx := Lib.hid hidx
 have Hslc := Lib.hid hslc
 have hni : (n : Int) ≤ 4294967281 := by omega
 have hsz : (s.size : Int) = (n : Int) := by rw [hn]
 have Hlen := Lib.hid hlen
 clear hidx hslc hl hn hlen
 go_enter Tryz.func221, Tryz.ntmps221
 go_wp2
 go_loopw [5, 6, 7] (fun o a i wr => ∃ (j : Nat) (out : List (List UInt8)), j ≤ n + 1 ∧ i = .int .i64 j ∧ wr.ownsRow w.heap.size 9 1 o out.length (out.flatMap s1) ∧ out.length ≤ j ∧ Below w.heap.size w wr ∧
  ((j = n + 1 ∧ out = piecesAt c l) ∨ (∃ b : Nat, j ≤ n ∧ b ≤ j ∧ a = .int .i64 b ∧ piecesAt c (l.take j) = out ++ [(l.take j).drop b]))) (fun _ _ i _ => n + 1 - (intOf i).toNat)
 case atStart => exact ⟨0, [], by omega, rfl, nil_row0 w _ _ _, Nat.le_refl _, Below.refl _ _, .inr ⟨0, Nat.zero_le _, Nat.le_refl _, rfl, rfl⟩⟩
 case round =>
  obtain ⟨j, out, hj, rfl, hown, hol, hbw, hst⟩ := hrel
  by_cases hjn : j ≤ n
  ·obtain ⟨b, _, hbj, rfl, hpc⟩ := hst.resolve_left (fun h => by omega)
   have hsl := Hslc.out b j hbj hjn
   obtain ⟨pc, hpcd⟩ : ∃ pc, (l.take j).drop b = pc := ⟨_, rfl⟩
   rw [hpcd] at hsl hpc
   have Hpc := Lib.hid hpc
   have Hpcd := Lib.hid hpcd
   clear hpc hpcd hst
   have hji : (j : Int) ≤ (n : Int) := by omega
   by_cases hje : j = n
   ·subst hje
    have hncell := news_new wr (s1 pc) 9 (0, 0)
    have Hncell := Lib.hid hncell
    have hcs1 : ∀ u ∈ s1 pc, u.oneCell' = true := by intro u hu; exact s1_one [pc] u (by simpa using hu)
    have Hcs1 := Lib.hid hcs1
    have hbd1 : out.length + 1 ≤ maxLen := by show out.length + 1 ≤ 9223372036854775807; omega
    have hbd2 : (out.length + 1) * 16 ≤ 140737488355328 := by omega
    have hbd3 : w.heap.size ≤ (wr.alloc (.cells #[.string (strL pc)] 9)).heap.size := by have := hbw.size; simp; omega
    have Hown := Lib.hid hown
    clear hncell hcs1
    go_wp2_with (at_builtin; go_must (refine wpList_append_own _ rfl _ _ 27 rfl w.heap.size 9 i0 _ 1 16 Tryz.underlying27 hi hz0 hz1 hz2 rfl (by decide) _ _ _ rfl (hown.alloc _) ⟨wr.heap.size, 0, none⟩ 1 1 (s1 pc) rfl rfl Hncell.out Hcs1.out hbd1 hbd2 hbd3 ?_); rintro v' w3 hown3 hg3 _)
    have hrow3 : w3.ownsRow w.heap.size 9 1 v' (out ++ [pc]).length ((out ++ [pc]).flatMap s1) := by
     rw [List.length_append, List.flatMap_append, List.flatMap_singleton]; exact hown3
    have hb3 : Below w.heap.size w w3 := Below.grown (hbw.alloc hbw.size _) hg3 (by have := hbw.size; simp; omega) (fun k hk => own_base hown k hk)
    go_roundw
    case rel =>
     refine ⟨j + 1, out ++ [pc], by omega, by simp, hrow3, by simp; omega, hb3, .inl ⟨rfl, ?_⟩⟩
     rw [← Hpc.out, List.take_of_length_le (by rw [← Hlen.out]; exact Nat.le_refl _)]
    case measure => simp [intOf] <;> omega
   ·obtain ⟨x, hx⟩ : ∃ x, l[j]? = some x := ⟨_, List.getElem?_eq_getElem (by rw [← Hlen.out]; omega)⟩
    have hix := Hidx.out j x hx
    have hjl : (j : Int) < (n : Int) := by omega
    obtain ⟨ms, m, q1, q2⟩ := pieces_snoc c x (l.take j)
    rw [Hpc.out] at q1
    obtain ⟨hms, hm⟩ := List.append_inj' q1 rfl
    have hm' : pc = m := by simpa using hm
    subst hms
    subst hm'
    rw [← take_snoc hx] at q2
    have Hq2 := Lib.hid q2
    have Hx := Lib.hid hx
    clear q1 q2 hm hx
    by_cases hxc : x = c
    ·subst hxc
     have hncell := news_new wr (s1 pc) 9 (0, 0)
     have Hncell := Lib.hid hncell
     have hcs1 : ∀ u ∈ s1 pc, u.oneCell' = true := by intro u hu; exact s1_one [pc] u (by simpa using hu)
     have Hcs1 := Lib.hid hcs1
     have hbd1 : out.length + 1 ≤ maxLen := by show out.length + 1 ≤ 9223372036854775807; omega
     have hbd2 : (out.length + 1) * 16 ≤ 140737488355328 := by omega
     have hbd3 : w.heap.size ≤ (wr.alloc (.cells #[.string (strL pc)] 9)).heap.size := by have := hbw.size; simp; omega
     have Hown := Lib.hid hown
     clear hncell hcs1
     go_wp2_with (at_builtin; go_must (refine wpList_append_own _ rfl _ _ 27 rfl w.heap.size 9 i0 _ 1 16 Tryz.underlying27 hi hz0 hz1 hz2 rfl (by decide) _ _ _ rfl (hown.alloc _) ⟨wr.heap.size, 0, none⟩ 1 1 (s1 pc) rfl rfl Hncell.out Hcs1.out hbd1 hbd2 hbd3 ?_); rintro v' w3 hown3 hg3 _)
     have hrow3 : w3.ownsRow w.heap.size 9 1 v' (out ++ [pc]).length ((out ++ [pc]).flatMap s1) := by
      rw [List.length_append, List.flatMap_append, List.flatMap_singleton]; exact hown3
     have hb3 : Below w.heap.size w w3 := Below.grown (hbw.alloc hbw.size _) hg3 (by have := hbw.size; simp; omega) (fun k hk => own_base hown k hk)
     go_roundw
     case rel =>
      refine ⟨j + 1, out ++ [pc], by omega, by simp, hrow3, by simp; omega, hb3, .inr ⟨j + 1, by omega, Nat.le_refl _, by simp, ?_⟩⟩
      have h := Hq2.out
      rw [if_pos rfl] at h
      rw [h, List.drop_of_length_le (by rw [List.length_take]; omega)]
     case measure => simp [intOf] <;> omega
    ·have hne : ¬ ((x.toNat : Int) = (c.toNat : Int)) := fun h => hxc (UInt8.toNat.inj (by omega))
     have hq1 : ((j : Int) == (n : Int)) = false := by simp; omega
     have hq2 : ((x.toNat : Int) == (c.toNat : Int)) = false := by simpa using hne
     have Hxc := Lib.hid hxc
     clear hxc
     go_wp2
     go_roundw
     case rel =>
      refine ⟨j + 1, out, by omega, by simp, hown, by omega, hbw, .inr ⟨b, by omega, by omega, rfl, ?_⟩⟩
      have h := Hq2.out
      rw [if_neg Hxc.out] at h
      rw [h, take_snoc Hx.out, List.drop_append_of_le_length (by rw [List.length_take, ← Hlen.out]; omega), Hpcd.out]
     case measure => simp [intOf] <;> omega
  ·obtain ⟨hje, hout⟩ := hst.resolve_right (fun ⟨b, h, _⟩ => hjn h)
   have Hout := Lib.hid hout
   have hji : (n : Int) < (j : Int) := by omega
   clear hout hst hje
   go_wp2
   go_ret
   exact ⟨_, rfl, by rw [← Hout.out]; exact hown, hbw⟩
theorem s1_flat (ls : List (List UInt8)) : ls.flatMap s1 = ls.map fun l => Value.string (strL l) := by
 induction ls with
 | nil => rfl
 | cons x xs ih => rw [List.flatMap_cons, ih]; rfl
theorem eq45 (c k : UInt8) : ((c.toNat : Int) == (k.toNat : Int)) = (c == k) := by
 by_cases h : c = k
 ·subst h; simp
 ·have h1 : ¬ ((c.toNat : Int) = (k.toNat : Int)) := fun e => h (UInt8.toNat.inj (by omega))
  rw [show (c == k) = false by simpa using h]
  simpa using h1
def okB (k c : UInt8) : Bool := plainB c || c == k
theorem only_one (k : UInt8) (l : List UInt8) : onlyB [k] l = l.all (okB k) := by
 unfold onlyB okB
 congr 1
 funext c
 simp
 by_cases h : c = k <;> simp [h]
set_option maxRecDepth 100000 in
set_option maxHeartbeats 8000000 in
theorem refDomain_calls (s : ByteArray) (w : World) (hs : s.size ≤ 4294967280) :
 Calls Tryz.prog 202 #[.string s] w fun e w' => e = .returned (.bool (domainB s.data.toList)) ∧ Below w.heap.size w w' := by
 have hcut := refCut_calls s 46 w (by omega)
 have hlen := size_len s
 have hpos := pieces_pos 46 s.data.toList
 have hple := pieces_le 46 s.data.toList
 have hcnt := count_pieces 46 (s.data.toList.length + 1) s.data.toList (by omega)
 have hcle := Lib.countB_le ⟨#[46]⟩ (by decide) s.size s (Nat.le_refl _)
 have hres : domainB s.data.toList = ((piecesAt 46 s.data.toList).all labelB && decide (s.size ≤ 64)) := by rw [hlen]; rfl
 have hPl : (piecesAt 46 s.data.toList).length ≤ 4294967281 := by
  have : Lib.countB s ⟨#[46]⟩ = Lib.countFrom [46] (s.data.toList.length + 1) s.data.toList := rfl
  omega
 rw [hres]
 generalize piecesAt 46 s.data.toList = ls at hcut hpos hple hPl
 have Hcut := Lib.hid hcut
 have Hple := Lib.hid hple
 have Hlen := Lib.hid hlen
 clear hcut hple hlen hcnt hcle hres
 have hPi : (ls.length : Int) ≤ 4294967281 := by omega
 go_enter Tryz.func202, Tryz.ntmps202
 go_wp2_with fail
 refine (Hcut.out).mono ?_; rintro e w1 ⟨v, rfl, hown, hb1⟩
 obtain ⟨g, cap, rfl, _, _, _, _⟩ := own_form hown hpos
 have hcell : ∀ (j : Nat) x, ls[j]? = some x → w1.cell? ⟨g, j, none⟩ = some (.string (strL x)) := by
  intro j x hx
  rw [hown.cellAt j (by have := (List.getElem?_eq_some_iff.1 hx).1; omega), s1_flat, List.getElem?_map, hx]; rfl
 have Hcell := Lib.hid hcell
 clear hcell hown
 go_wp2
 go_loop [4] (fun i => ∃ j : Nat, j ≤ ls.length ∧ i = .int .i64 j ∧ (ls.take j).all labelB = true) (fun i => ls.length - (intOf i).toNat)
 case atStart => exact ⟨0, Nat.zero_le _, rfl, rfl⟩
 case round =>
  obtain ⟨j, hj, rfl, hall⟩ := hrel
  by_cases hlt : j < ls.length
  ·obtain ⟨x, hx⟩ : ∃ x, ls[j]? = some x := ⟨_, List.getElem?_eq_getElem hlt⟩
   have hc := Hcell.out j x hx
   have hxl := Hple.out x (List.mem_of_getElem? hx)
   have hsx := strL_size x
   have htk : labelB x = true → (ls.take (j + 1)).all labelB = true := fun h => by rw [take_snoc hx, List.all_append, hall]; simpa using h
   have hno : labelB x = false → (ls.all labelB && decide (s.size ≤ 64)) = false := by
    intro h
    have : ls.all labelB = false := by rw [List.all_eq_false]; exact ⟨x, List.mem_of_getElem? hx, by rw [h]; simp⟩
    rw [this]; rfl
   have Htk := Lib.hid htk
   have Hno := Lib.hid hno
   have hidx : ∀ (k : Nat) (c : UInt8), x[k]? = some c → ∀ W, (Instr.index 9 (.string (strL x)) (.int .i64 (k : Int))).run Tryz.prog W = .ok (.int .u8 c.toNat) W := fun k c h => run_index_at (by rw [strL_data]; exact h)
   have Hidx := Lib.hid hidx
   have hj0 : (0 : Int) ≤ (j : Int) := by omega
   have hj1 : (j : Int) < (ls.length : Int) := by omega
   have hxs : x.length ≤ 4294967280 := by have := Hlen.out; omega
   clear hidx htk hno hall hx hxl
   generalize hsd : strL x = sx at hc hsx Hidx
   clear hsd
   by_cases h0 : x.length = 0
   ·have hlab : labelB x = false := by unfold labelB; rw [decide_eq_false (by omega)]; rfl
    have Hr := Lib.hid (Hno.out hlab)
    rw [h0] at hsx
    clear hlab h0
    go_wp2
    go_ret
    exact ⟨by rw [Hr.out]; rfl, hb1⟩
   ·obtain ⟨n, hm⟩ : ∃ n, x.length = n := ⟨_, rfl⟩
    rw [hm] at hsx hxs h0
    have hmi : (n : Int) ≤ 4294967280 := by omega
    have hn1 : (1 : Int) ≤ (n : Int) := by omega
    clear hxs
    by_cases h32 : (32 : Int) < (n : Int)
    ·have hlab : labelB x = false := by unfold labelB; rw [decide_eq_false (by omega)]; rfl
     have Hr := Lib.hid (Hno.out hlab)
     clear hlab h0 hm
     go_wp2
     go_ret
     exact ⟨by rw [Hr.out]; rfl, hb1⟩
    ·obtain ⟨c0, hc0⟩ : ∃ c, x[0]? = some c := ⟨_, List.getElem?_eq_getElem (by omega)⟩
     obtain ⟨c1, hc1⟩ : ∃ c, x[n - 1]? = some c := ⟨_, List.getElem?_eq_getElem (by omega)⟩
     have hi0 : ∀ W, (Instr.index 9 (.string sx) (.int .i64 0)).run Tryz.prog W = .ok (.int .u8 c0.toNat) W := Hidx.out 0 c0 hc0
     have hi1 : ∀ W, (Instr.index 9 (.string sx) (.int .i64 ((n : Int) - 1))).run Tryz.prog W = .ok (.int .u8 c1.toNat) W := by
      have h := Hidx.out (n - 1) c1 hc1
      rw [show ((n - 1 : Nat) : Int) = (n : Int) - 1 by omega] at h
      exact h
     have hq0 : ((c0.toNat : Int) == 45) = (c0 == 45) := eq45 c0 45
     have hq1 : ((c1.toNat : Int) == 45) = (c1 == 45) := eq45 c1 45
     have hends : endsB 45 x = (c0 == 45 || c1 == 45) := by
      unfold endsB
      rw [List.head?_eq_getElem?, hc0, List.getLast?_eq_getElem?, hm, hc1]; rfl
     have hlab : labelB x = (x.all (okB 45) && !(c0 == 45 || c1 == 45)) := by
      unfold labelB
      rw [decide_eq_true (by omega), only_one, hends]; simp
     have hlab2 : labelB x = (x.all (okB 45) && !(c0 == 45 || c1 == 45)) := hlab
     have Hlab := Lib.hid hlab2
     clear hlab hlab2 hends hc0 hc1 h0
     cases hv0 : (c0 == 45)
     ·cases hv1 : (c1 == 45)
      ·rw [hv0] at hq0
       rw [hv1] at hq1
       have hlx : labelB x = x.all (okB 45) := by rw [Hlab.out, hv0, hv1]; simp
       have Hlx := Lib.hid hlx
       have Hm := Lib.hid hm
       clear hlx hv0 hv1 hm Hlab
       go_wp2
       go_loop [6] (fun i => ∃ k : Nat, k ≤ n ∧ i = .int .i64 k ∧ (x.take k).all (okB 45) = true) (fun i => n - (intOf i).toNat)
       case atStart => exact ⟨0, Nat.zero_le _, rfl, rfl⟩
       case round =>
        obtain ⟨k, hk, rfl, hka⟩ := hrel
        by_cases hkl : k < n
        ·obtain ⟨c, hcx⟩ : ∃ c, x[k]? = some c := ⟨_, List.getElem?_eq_getElem (by rw [Hm.out]; exact hkl)⟩
         have hik := Hidx.out k c hcx
         have hpl := fun W => refPlain_calls c W
         have hqc : ((c.toNat : Int) == 45) = (c == 45) := eq45 c 45
         have hstep : okB 45 c = true → (x.take (k + 1)).all (okB 45) = true := fun h => by rw [take_snoc hcx, List.all_append, hka]; simpa using h
         have hbad : okB 45 c = false → x.all (okB 45) = false := fun h => by rw [List.all_eq_false]; exact ⟨c, List.mem_of_getElem? hcx, by rw [h]; simp⟩
         unfold okB at hstep hbad
         have Hstep := Lib.hid hstep
         have Hbad := Lib.hid hbad
         have hki : (k : Int) < (n : Int) := by omega
         clear hstep hbad hcx hka
         generalize plainB c = p at hpl Hstep Hbad
         have Hpl := Lib.hid hpl
         clear hpl
         cases p
         ·cases hvc : (c == 45)
          ·rw [hvc] at hqc
           have hres : x.all (okB 45) = false := Hbad.out (by rw [hvc]; rfl)
           have Hr := Lib.hid (Hno.out (by rw [Hlx.out]; exact hres))
           clear hres hvc
           go_wp2_with fail
           refine (Hpl.out _).mono ?_; rintro e w2 ⟨rfl, rfl⟩
           go_wp2
           go_ret
           exact ⟨by rw [Hr.out]; rfl, hb1⟩
          ·rw [hvc] at hqc
           have Hn := Lib.hid (Hstep.out (by rw [hvc]; rfl))
           clear hvc
           go_wp2_with fail
           refine (Hpl.out _).mono ?_; rintro e w2 ⟨rfl, rfl⟩
           go_wp2
           go_round
           case rel => exact ⟨k + 1, by omega, by go_num, Hn.out⟩
           case measure => simp [intOf] <;> omega
         ·have Hn := Lib.hid (Hstep.out (by rfl))
          go_wp2_with fail
          refine (Hpl.out _).mono ?_; rintro e w2 ⟨rfl, rfl⟩
          go_wp2
          go_round
          case rel => exact ⟨k + 1, by omega, by go_num, Hn.out⟩
          case measure => simp [intOf] <;> omega
        ·have hke : k = n := by omega
         subst hke
         rw [List.take_of_length_le (by rw [Hm.out]; exact Nat.le_refl _)] at hka
         have Hn := Lib.hid (Htk.out (by rw [Hlx.out]; exact hka))
         clear hka
         go_wp2
         go_round
         case rel => exact ⟨j + 1, by omega, by go_num, Hn.out⟩
         case measure => simp [intOf] <;> omega
      ·rw [hv0] at hq0
       rw [hv1] at hq1
       have Hr := Lib.hid (Hno.out (by rw [Hlab.out, hv0, hv1]; simp))
       clear hv0 hv1 hm
       go_wp2
       go_ret
       exact ⟨by rw [Hr.out]; rfl, hb1⟩
     ·rw [hv0] at hq0
      have Hr := Lib.hid (Hno.out (by rw [Hlab.out, hv0]; simp))
      clear hv0 hm hq1
      go_wp2
      go_ret
      exact ⟨by rw [Hr.out]; rfl, hb1⟩
  ·have hje : j = ls.length := by omega
   subst hje
   rw [List.take_of_length_le (Nat.le_refl _)] at hall
   have Hall := Lib.hid hall
   clear hall
   by_cases h64 : (s.size : Int) ≤ 64
   ·go_wp2
    go_ret
    exact ⟨by rw [Hall.out, decide_eq_true (by omega)]; rfl, hb1⟩
   ·go_wp2
    go_ret
    exact ⟨by rw [Hall.out, decide_eq_false (by omega)]; rfl, hb1⟩
end Go.Proofs.YtffnbkmigapmjaaGreatDoor
