/- Printed out of the texts of wip/tpl. -/
import Derived.Test.YtffnbkmigapmjaaGreatDoorT1
import Derived.Laws.CopyOwn
import Derived.Test.YtffnbkmigapmjaaGreatDoorShelfN
import Derived.Laws.RangeAny
import Derived.Laws.RangeString
import Derived.Deep.QuietTactic
import Derived.BigQuiet
import Derived.Lib.QuoteLoop
import Derived.WalkMore
import Derived.Lib.IndexMore
import Derived.Lib.Split
import Derived.Lib.Case
set_option linter.unusedSimpArgs false
set_option linter.unusedVariables false
namespace Go.Proofs.YtffnbkmigapmjaaGreatDoor
open Go.RowKit
theorem wpList_copy_keep {P : Program} {w : World} {ops : Array Oper} {rest : List Oper} {o : Oper} {a : Act} {Q : Exit → Act → World → Prop} (hgd : o.guard = none) (d s : Operand) (dT sT : TypeId)
 (ho : o.op = .call { callee := .builtin .copy, args := #[d, s], argTypes := #[dT, sT] }) (elem : TypeId) (hu : P.underlying dT = some (.slice elem)) (hsz : (P.info? elem).map (·.size) = some 1)
 (dp sp : Option Addr) (dLen dCap sLen sCap : Nat) (hd : a.eval d = .slice dp dLen dCap) (hs : a.eval s = .slice sp sLen sCap)
 (g off : Nat) (cur : List Value) (t : TypeId) (hg : w.heap[g]? = some (.cells cur.toArray t (0, 0))) (cs : List Value) (hn : cs.length = Nat.min sLen dLen)
 (hpos : 0 < cs.length → dp = some ⟨g, off, none⟩ ∧ ∃ ad, sp = some ad ∧ ∀ j v, cs[j]? = some v → w.cell? (ad.add j) = some v)
 (hfit : off + cs.length ≤ cur.length) (h1 : ∀ v ∈ cs, v.oneCell' = true)
 (h : ∀ w', Hid (w'.heap[g]? = some (.cells (splice cur off cs).toArray t (0, 0))) → Keeps (fun k => k = g) w w' → wpList P ops Q rest (a.put o.dst (goInt cs.length)) w') :
 wpList P ops Q (o :: rest) a w := by
 by_cases h0 : cs.length = 0
 ·obtain rfl : cs = [] := List.eq_nil_of_length_eq_zero h0
  refine wpList_copy_nothing hgd d s dT sT ho elem hu hsz dp sp dLen dCap sLen sCap hd hs (by simpa using hn.symm) ?_
  exact h w (show _ = _ by simpa [splice] using hg) (Keeps.refl _ _)
 ·obtain ⟨rfl, ad, rfl, hsrc⟩ := hpos (by omega)
  refine wpList_copy_own hgd d s dT sT ho elem hu hsz g off dLen dCap ad sLen sCap hd hs cur.toArray t hg cs hn hsrc (by simpa using hfit) h1 ?_
  exact h _ (show _ = _ by simpa [splice] using setRow_heap w g _ _ t _ hg) ⟨rfl, rfl, rfl, by simp, fun k _ hk => heap_setRow_other _ _ _ _ hk⟩
structure RdAt (w : World) (b : Nat) (v : Value) (bs : List UInt8) (bad : Bool) : Prop where
 blk : w.heap[b]? = some (.cells #[v, .bool bad] 230 (0, 0))
 rd : RdB w v bs
 ne : v.ownBlock ≠ some b
def ReadDone (w : World) (bs : List UInt8) (e : Ending) (w' : World) : Prop :=
 ∃ v b, e = .returned (.pointer (some ⟨b, 0, none⟩)) ∧ RdAt w' b v bs false ∧ Below w.heap.size w w' ∧ w.heap.size ≤ b ∧ (∀ k, v.ownBlock = some k → w.heap.size ≤ k ∧ k < w'.heap.size)
set_option maxRecDepth 100000 in
set_option maxHeartbeats 400000 in
theorem wRead_calls (v : Value) (bs : List UInt8) (w : World) (hv : RdB w v bs) (hlen : bs.length ≤ 140737488355328) :
 Calls Tryz.prog 141 #[v] w (ReadDone w bs) := by
 obtain ⟨i0, hi, hz0, hz1, hz2⟩ := info_parts infoU8
 obtain ⟨a, cap, rfl, hl, hc⟩ := hv.form
 have hmk := run_make (P := Tryz.prog) w 22 5 i0 (.int .u8 0) Tryz.underlying22 hi hz0 .i64 .i64 bs.length bs.length (by omega) (by omega) (by rw [hz2]; omega) (by omega)
 rw [hz1, Nat.mul_one, Int.toNat_natCast] at hmk
 have hmade : madeCells (Value.int .u8 0).cells bs.length = (List.replicate bs.length (Value.int .u8 0)).toArray := by
  apply Array.ext'; rw [show (Value.int .u8 0).cells = #[Value.int .u8 0] from rfl, toList_madeCells_one]
 rw [hmade] at hmk
 have hcnt : (bs.map u8v).length = Nat.min bs.length bs.length := by simp
 have hsz1 : (Tryz.prog.info? 5).map (·.size) = some 1 := by kernel_rfl
 obtain ⟨zs, hzs⟩ : ∃ zs, zs = List.replicate bs.length (Value.int .u8 0) := ⟨_, rfl⟩
 rw [← hzs] at hmk
 have hzl : zs.length = bs.length := by rw [hzs]; simp
 have hsp : splice zs 0 (bs.map u8v) = bs.map u8v := by simp [splice, hzl, List.drop_of_length_le]
 obtain ⟨W, hW⟩ : ∃ W, W = (w.alloc (.cells zs.toArray 5)).alloc (.cells #[.slice (some ⟨w.heap.size, 0, none⟩) bs.length bs.length, .bool false] 230) := ⟨_, rfl⟩
 have hB : Below w.heap.size w W := by rw [hW]; exact ((Below.refl _ _).alloc (Nat.le_refl _) _).alloc (by simp) _
 have hg : W.heap[w.heap.size]? = some (.cells zs.toArray 5 (0, 0)) := by rw [hW]; exact heap_alloc2_old _ _ _
 have hgb : W.heap[w.heap.size + 1]? = some (.cells #[.slice (some ⟨w.heap.size, 0, none⟩) bs.length bs.length, .bool false] 230 (0, 0)) := by rw [hW]; exact heap_alloc2_new _ _ _
 have hpos : 0 < (bs.map u8v).length → (some (⟨w.heap.size, 0, none⟩ : Addr)) = some ⟨w.heap.size, 0, none⟩ ∧ ∃ ad, a = some ad ∧ ∀ j u, (bs.map u8v)[j]? = some u → W.cell? (ad.add j) = some u := by
  intro h0
  refine ⟨rfl, ?_⟩
  rcases hv with ⟨_, _, h1, _, h2⟩ | ⟨b, off, cap', h1, _, _, _, h4, h5⟩
  ·subst h2; simp at h0
  ·cases h1
   refine ⟨_, rfl, fun j u hu => ?_⟩
   rw [List.getElem?_map] at hu
   obtain ⟨x, hx, rfl⟩ := Option.map_eq_some_iff.1 hu
   rw [add_at]
   exact (hB.cell (p := ⟨b, off + j, none⟩) h4).trans (h5 j x hx)
 have hfit : 0 + (bs.map u8v).length ≤ zs.length := by simp [hzl]
 have Hsp := Lib.hid hsp
 clear hsp hzs hmade
 subst hW
 go_enter Tryz.func141, Tryz.ntmps141
 go_wp2_with (with_reducible refine wpList_copy_keep rfl (.tmp 12) (.tmp 13) 22 22 rfl 5 Tryz.underlying22 hsz1 (some ⟨w.heap.size, 0, none⟩) a bs.length bs.length bs.length cap rfl rfl w.heap.size 0 zs 5 hg (bs.map u8v) hcnt hpos hfit (one_u8 bs) ?_)
 intro w2 hrow hK
 have hrow := hrow.out
 rw [Hsp.out] at hrow
 have hblk := hK.heap hgb (by omega)
 have hb2 : Below w.heap.size w w2 := hB.trans (hK.below (fun i hi => by omega) hB.size)
 have hsz2 := (Array.getElem?_eq_some_iff.1 hblk).1
 go_wp2
 go_ret
 refine ⟨.slice (some ⟨w.heap.size, 0, none⟩) bs.length bs.length, w.heap.size + 1, rfl, ⟨hblk, ?_, by simp [Value.ownBlock]⟩, hb2, by omega, fun k hk => by cases hk; exact ⟨Nat.le_refl _, by show w.heap.size < _; omega⟩⟩
 exact rdB_row hrow (by omega) (by omega)
def TakeDone (w : World) (b : Nat) (v : Value) (bs : List UInt8) (n : Nat) (e : Ending) (w' : World) : Prop :=
 ∃ v1 v2, e = .returned (.tuple #[v1, .bool true]) ∧ RdB w' v1 (bs.take n) ∧ RdAt w' b v2 (bs.drop n) false ∧ Keeps (fun k => k = b) w w' ∧ v1.ownBlock = v.ownBlock ∧ v2.ownBlock = v.ownBlock
theorem RdAt.cells {w : World} {b : Nat} {v : Value} {bs : List UInt8} {bad : Bool} (h : RdAt w b v bs bad) :
 w.cell? ⟨b, 0, none⟩ = some v ∧ w.cell? ⟨b, 1, none⟩ = some (.bool bad) ∧ w.frozen? ⟨b, 0, none⟩ = false ∧ w.frozen? ⟨b, 1, none⟩ = false := by
 have hb := h.blk
 refine ⟨by rw [cell_of_row _ _ _ _ _ _ hb]; rfl, by rw [cell_of_row _ _ _ _ _ _ hb]; rfl, by simp [World.frozen?, hb], by simp [World.frozen?, hb]⟩
theorem u8size : (Tryz.prog.info? 5).map (·.size) = some 1 := by kernel_rfl
theorem ownBlock_part (a : Option Addr) (c l n m n' m' : Nat) : (Value.slice (if c = l then a else a.map (·.add l)) n m).ownBlock = (Value.slice a n' m').ownBlock := by
 cases a with
 | none => split <;> rfl
 | some a => split <;> simp [Value.ownBlock, Addr.add] <;> split <;> rfl
set_option maxRecDepth 100000 in
set_option maxHeartbeats 400000 in
theorem rTake_good (b : Nat) (v : Value) (bs : List UInt8) (n : Nat) (w : World) (hR : RdAt w b v bs false) (hn : n ≤ bs.length) :
 Calls Tryz.prog 188 #[.pointer (some ⟨b, 0, none⟩), .int .i64 n] w (TakeDone w b v bs n) := by
 obtain ⟨hc0, hc1, hf0, hf1⟩ := hR.cells
 obtain ⟨a, cap, hv, hl, hc⟩ := hR.rd.form
 have hr := hR.rd
 have hblk := hR.blk
 have hne := hR.ne
 subst hv
 have hs1 := run_slice_hm (P := Tryz.prog) Tryz.underlying22 u8size a bs.length cap n (by omega)
 have hs2 := run_slice_l (P := Tryz.prog) Tryz.underlying22 u8size a bs.length cap n hn
 have hp1 := hr.part 0 n (Nat.zero_le _) hn
 have hp2 := hr.part n bs.length hn (Nat.le_refl _)
 have ho := ownBlock_part a cap n (bs.length - n) (cap - n) bs.length cap
 rw [List.take_of_length_le (Nat.le_refl _)] at hp2
 generalize (if cap = n then a else a.map (·.add n)) = a2 at hs2 hp2 ho
 have hpre : RdB w (.slice a n n) (bs.take n) := by
  rcases hr with ⟨a', c', h1, h2, h3⟩ | ⟨b', off, cap', h1, h2, h3, h4, h5, h6⟩
  ·subst h3; cases h1; simp at hn; subst hn; exact .inl ⟨_, _, rfl, by omega, by simp⟩
  ·cases h1
   by_cases e : n = 0
   ·subst e; exact .inl ⟨_, _, rfl, by omega, by simp⟩
   ·refine .inr ⟨b', off, n, ?_, ?_, ?_, by omega, h5, fun j x hx => ?_⟩
    ·rw [List.length_take, Nat.min_eq_left hn]
    ·rw [← List.length_pos_iff, List.length_take]; omega
    ·rw [List.length_take]; omega
    ·rw [List.getElem?_take] at hx
     split at hx
     ·exact h6 j x hx
     ·cases hx
 clear hp1 hr
 go_enter Tryz.func188, Tryz.ntmps188
 go_wp2
 go_ret2
 have hK := Keeps.setCell (F := fun k => k = b) w ⟨b, 0, none⟩ (.slice a2 (bs.length - n) (cap - n)) rfl
 have hnb : ∀ k, (Value.slice a bs.length cap).ownBlock = some k → ¬ (k = b) := fun k hk e => hne (e ▸ hk)
 refine ⟨.slice a n n, .slice a2 (bs.length - n) (cap - n), rfl, hpre.keeps hK (fun k hk => hnb k (by cases a <;> first | exact hk | cases hk)), ⟨heap_setCell_same _ _ 0 _ _ _ hblk, hp2.keeps hK (fun k hk => hnb k (by rw [← ho]; exact hk)), by rw [ho]; exact hne⟩, hK, by cases a <;> rfl, ho⟩
def TakeBad (w : World) (b : Nat) (v : Value) (bs : List UInt8) (e : Ending) (w' : World) : Prop :=
 e = .returned (.tuple #[.slice none 0 0, .bool false]) ∧ RdAt w' b v bs true ∧ Keeps (fun k => k = b) w w'
set_option maxRecDepth 100000 in
set_option maxHeartbeats 400000 in
theorem rTake_bad (b : Nat) (v : Value) (bs : List UInt8) (bad : Bool) (n : Nat) (w : World) (hR : RdAt w b v bs bad) (hn : bad = true ∨ bs.length < n) :
 Calls Tryz.prog 188 #[.pointer (some ⟨b, 0, none⟩), .int .i64 n] w (TakeBad w b v bs) := by
 obtain ⟨hc0, hc1, hf0, hf1⟩ := hR.cells
 obtain ⟨a, cap, hv, hl, hc⟩ := hR.rd.form
 have hr := hR.rd
 have hblk := hR.blk
 have hne := hR.ne
 subst hv
 cases bad
 all_goals
  first
  | (have hlt : bs.length < n := by rcases hn with h | h; cases h; exact h)
  | skip
  clear hn
  go_enter Tryz.func188, Tryz.ntmps188
  go_wp2
  go_ret2
  have hK := Keeps.setCell (F := fun k => k = b) w ⟨b, 1, none⟩ (.bool true) rfl
  exact ⟨rfl, ⟨heap_setCell_same _ _ 1 _ _ _ hblk, hr.keeps hK (fun k hk e => hne (e ▸ hk)), hne⟩, hK⟩
def beNat (l : List UInt8) : Nat := l.foldl (fun n x => n * 256 + x.toNat) 0
theorem beNat_snoc (l : List UInt8) (x : UInt8) : beNat (l ++ [x]) = beNat l * 256 + x.toNat := by simp [beNat]
theorem beNat_fold (l : List UInt8) : ∀ n : Nat, l.foldl (fun n x => n * 256 + x.toNat) n + 1 ≤ (n + 1) * 256 ^ l.length := by
 induction l with
 | nil => intro n; simp
 | cons x l ih =>
  intro n
  have := x.toNat_lt
  have h := ih (n * 256 + x.toNat)
  rw [List.foldl_cons, List.length_cons, Nat.pow_succ]
  refine Nat.le_trans h ?_
  rw [Nat.mul_comm (256 ^ l.length) 256, ← Nat.mul_assoc]
  exact Nat.mul_le_mul_right _ (by omega)
theorem beNat_lt (l : List UInt8) : beNat l < 256 ^ l.length := by
 have := beNat_fold l 0
 unfold beNat
 omega
def rdNum (bs : List UInt8) (bad : Bool) : (Nat × Bool) × (List UInt8 × Bool) :=
 if bad = true ∨ bs.length < 8 then ((0, false), (bs, true))
 else if 4611686018427387904 < beNat (bs.take 8) then ((0, false), (bs.drop 8, true))
 else ((beNat (bs.take 8), true), (bs.drop 8, false))
def NumDone (w : World) (b : Nat) (v : Value) (r : (Nat × Bool) × (List UInt8 × Bool)) (e : Ending) (w' : World) : Prop :=
 ∃ v', e = .returned (.tuple #[.int .i64 (r.1.1 : Int), .bool r.1.2]) ∧ RdAt w' b v' r.2.1 r.2.2 ∧ Keeps (fun k => k = b) w w' ∧ v'.ownBlock = v.ownBlock
theorem or_byte (n : Nat) (x : UInt8) (hn : n * 256 < 18446744073709551616) : bits .or .u64 ((n : Int) * 256) (x.toNat : Int) = ((n * 256 + x.toNat : Nat) : Int) := by
 have hx := x.toNat_lt
 rw [bits_join .u64 64 (by decide) (fun m h0 h1 => IntWalk.u64_in m (by omega)) 8 _ _ (by omega) (by omega) (by omega) (by omega) (by omega) (by omega)]
 omega
set_option maxRecDepth 100000 in
set_option maxHeartbeats 400000 in
theorem rNum_calls (b : Nat) (v : Value) (bs : List UInt8) (bad : Bool) (w : World) (hR : RdAt w b v bs bad) :
 Calls Tryz.prog 187 #[.pointer (some ⟨b, 0, none⟩)] w (NumDone w b v (rdNum bs bad)) := by
 by_cases hbad : bad = true ∨ bs.length < 8
 ·have hm : rdNum bs bad = ((0, false), (bs, true)) := by rw [rdNum, if_pos hbad]
  rw [hm]
  go_enter Tryz.func187, Tryz.ntmps187
  go_wp2_with fail
  refine (rTake_bad b v bs bad 8 w hR hbad).mono ?_; rintro e w1 ⟨rfl, hR1, hK⟩
  go_wp2
  go_ret2
  exact ⟨v, rfl, hR1, hK, rfl⟩
 ·have hb : bad = false := by cases bad <;> simp_all
  subst hb
  have hl : 8 ≤ bs.length := by simp at hbad; omega
  obtain ⟨q, hq⟩ : ∃ q, bs.take 8 = q := ⟨_, rfl⟩
  have hql : q.length = 8 := by rw [← hq]; simp; omega
  have hm : rdNum bs false = if 4611686018427387904 < beNat q then ((0, false), (bs.drop 8, true)) else ((beNat q, true), (bs.drop 8, false)) := by rw [rdNum, if_neg hbad, hq]
  have Hm := Lib.hid hm
  clear hm hbad
  go_enter Tryz.func187, Tryz.ntmps187
  go_wp2_with fail
  refine (rTake_good b v bs 8 w hR hl).mono ?_; rintro e w1 ⟨v1, v2, rfl, hr1, hR2, hK, ho1, ho2⟩
  rw [hq] at hr1
  rcases hr1 with ⟨_, _, _, _, h⟩ | ⟨gb, off, cap, rfl, hne, hlc, hcap, hbw, hcell⟩
  ·rw [h] at hql; cases hql
  rw [hql]
  clear hq
  go_wp2
  go_loop [6, 18] (fun n i => ∃ j : Nat, j ≤ 8 ∧ i = .int .i64 j ∧ n = .int .u64 (beNat (q.take j) : Int)) (fun _ i => 8 - (intOf i).toNat)
  case atStart => exact ⟨0, by omega, rfl, rfl⟩
  case round =>
   obtain ⟨j, hj, rfl, rfl⟩ := hrel
   by_cases hlt : j < 8
   ·obtain ⟨x, hx⟩ : ∃ x, q[j]? = some x := ⟨q[j], List.getElem?_eq_getElem (by omega)⟩
    have hc := hcell j x hx
    have hsn := beNat_snoc (q.take j) x
    rw [← take_snoc hx] at hsn
    have hbl := beNat_lt (q.take j)
    rw [List.length_take, Nat.min_eq_left (by omega)] at hbl
    have hp : 256 ^ j ≤ 256 ^ 7 := Nat.pow_le_pow_right (by omega) (by omega)
    generalize beNat (q.take j) = m at hsn hbl
    have hm7 : m * 256 < 18446744073709551616 := by omega
    have hor := or_byte m x hm7
    have hx8 := x.toNat_lt
    generalize m * 256 + x.toNat = m2 at hsn hor
    have Hsn := Lib.hid hsn
    clear hsn hx hcell hp hbl
    go_wp2
    go_round
    case rel => exact ⟨j + 1, by omega, by go_num, by rw [Hsn.out]⟩
    case measure => simp [intOf] <;> omega
   ·have hj8 : j = 8 := by omega
    subst hj8
    rw [List.take_of_length_le (by omega)]
    obtain ⟨hc0, hc1, hf0, hf1⟩ := hR2.cells
    have hblk := hR2.blk
    have hbl := beNat_lt q
    rw [hql] at hbl
    clear hcell
    by_cases hbig : 4611686018427387904 < beNat q
    ·have hm := Hm.out
     rw [if_pos hbig] at hm
     have Hm2 := Lib.hid hm
     clear hm
     generalize beNat q = m at hbig hbl
     go_wp2
     go_ret2
     have hK2 := Keeps.setCell (F := fun k => k = b) w1 ⟨b, 1, none⟩ (.bool true) rfl
     refine ⟨v2, by rw [Hm2.out]; rfl, ?_, hK.trans hK2, ho2⟩
     rw [Hm2.out]
     exact ⟨heap_setCell_same _ _ 1 _ _ _ hblk, hR2.rd.keeps hK2 (fun k hk e => hR2.ne (e ▸ hk)), hR2.ne⟩
    ·have hm := Hm.out
     rw [if_neg hbig] at hm
     have Hm2 := Lib.hid hm
     clear hm
     generalize beNat q = m at hbig hbl Hm2
     go_wp2
     go_ret2
     exact ⟨v2, by rw [Hm2.out]; rfl, by rw [Hm2.out]; exact hR2, hK, ho2⟩
theorem encode_high (r : Int) (h : 128 ≤ r) : ∃ (x : UInt8), 128 ≤ x.toNat ∧ ((∃ a, Utf8.encode r = ⟨#[a, x]⟩) ∨ (∃ a b, Utf8.encode r = ⟨#[a, b, x]⟩) ∨ ∃ a b c, Utf8.encode r = ⟨#[a, b, c, x]⟩) := by
 have key : ∀ m : Nat, 128 ≤ (UInt8.ofNat (128 + m % 64)).toNat := by
  intro m
  rw [UInt8.toNat_ofNat', Nat.mod_eq_of_lt (by omega)]; omega
 unfold Utf8.encode
 obtain ⟨c, hc⟩ : ∃ c, (if Utf8.valid r then r.toNat else Utf8.runeError) = c := ⟨_, rfl⟩
 have hcl : 128 ≤ c := by
  rw [← hc]; split
  ·omega
  ·decide
 refine ⟨UInt8.ofNat (128 + c % 64), key c, ?_⟩
 simp only [hc]
 rw [if_neg (by omega)]
 split
 ·exact .inl ⟨_, rfl⟩
 ·split
  ·exact .inr (.inl ⟨_, _, rfl⟩)
  ·exact .inr (.inr ⟨_, _, _, rfl⟩)
theorem run_rune_str (r : Int) (w : World) : (convert 21 9 (.int .i32 r)).run Tryz.prog w = .ok (.string (Utf8.encode r)) w := by
 simp [convert, run_underlying Tryz.underlying21, run_underlying Tryz.underlying9, Conv.intToString, go_sem]
theorem indexByte_high (l : List UInt8) (x : UInt8) (hl : ∀ b ∈ l, b.toNat < 128) (hx : 128 ≤ x.toNat) : Lib.indexByte l x < 0 := by
 have : Lib.indexByte l x = -1 := by
  induction l with
  | nil => rfl
  | cons b l ih =>
   have hb := hl b List.mem_cons_self
   have hne : ¬ (b = x) := fun h => by rw [h] at hb; omega
   have hi := ih (fun c hc => hl c (List.mem_cons_of_mem _ hc))
   simp [Lib.indexByte, hne, hi]
 omega
set_option maxRecDepth 100000 in
set_option maxHeartbeats 4000000 in
theorem indexRune_high (s : ByteArray) (r : Int) (w : World) (hr : 128 ≤ r) (hr2 : r ≤ 2147483647) (hv : Lib.validRune r = true) (hne : r ≠ 65533) (hs : s = ⟨#[45]⟩ ∨ s = ⟨#[46, 95, 43, 45]⟩) :
 Calls Tryz.prog 267 #[.string s, .int .i32 r] w fun e w' => e = .returned (.int .i64 (-1)) ∧ Below w.heap.size w w' := by
 have hcv := run_rune_str r
 obtain ⟨x, hx, henc⟩ := encode_high r hr
 generalize Utf8.encode r = rs at hcv henc
 have hval := fun W => Tryz.utf8_ValidRune r W
 rw [hv] at hval
 have Hval := Lib.hid hval
 clear hval hv
 rcases hs with rfl | rfl
 ·rcases henc with ⟨a, rfl⟩ | ⟨a, b, rfl⟩ | ⟨a, b, c, rfl⟩
  all_goals
   go_enter Tryz.func267, Tryz.ntmps267
   go_wp2_with fail
   refine (Hval.out _).mono ?_; rintro e w2 ⟨rfl, rfl⟩
   go_wp2
   go_step3
   go_wp2
   go_loop [9, 10] (fun i n => ∃ k : Nat, 1 ≤ k ∧ i = .int .i64 k ∧ n = .int .i64 0) (fun _ _ => 0)
   case atStart => exact ⟨_, by decide, rfl, rfl⟩
   case round =>
    obtain ⟨k, hk, rfl, rfl⟩ := hrel
    have hk1 : (1 : Int) ≤ (k : Int) := by omega
    go_wp2_with fail
    go_ret
    exact ⟨rfl, Below.refl _ _⟩
 ·rcases henc with ⟨a, rfl⟩ | ⟨a, b, rfl⟩ | ⟨a, b, c, rfl⟩
  ·go_enter Tryz.func267, Tryz.ntmps267
   go_wp2_with fail
   refine (Hval.out _).mono ?_; rintro e w2 ⟨rfl, rfl⟩
   go_wp2
   go_step3
   go_wp2
   go_loopw [9, 10] (fun i n wr => i = .int .i64 1 ∧ n = .int .i64 0 ∧ wr = w2) (fun _ _ _ => 0)
   case atStart => exact ⟨rfl, rfl, rfl⟩
   case round =>
    obtain ⟨rfl, rfl, rfl⟩ := hrel
    go_wp2
    go_step3
    have hi1 : ({ data := #[46, 95, 43, 45] } : ByteArray)[1]? = some 95 := rfl
    have hi2 : ({ data := #[a, x] } : ByteArray)[1]? = some x := rfl
    have hA : ((↑(({ data := #[46, 95, 43, 45] } : ByteArray)[1]'(show 1 < 4 by decide)).toNat : Int) != (↑(({ data := #[a, x] } : ByteArray)[1]'(show 1 < 2 by decide)).toNat : Int)) = true := by
     show ((95 : Int) != (x.toNat : Int)) = true
     simp; omega
    have hB : Lib.indexByte [43, 45] (({ data := #[a, x] } : ByteArray)[1]'(show 1 < 2 by decide)) < 0 := indexByte_high [43, 45] x (by decide) hx
    have hwr : IntKind.i64.wrap 2 = 2 := by decide
    have hxi : (128 : Int) ≤ (x.toNat : Int) := by omega
    have hxn : ¬ ((95 : Int) = (x.toNat : Int)) := by omega
    go_wp2
    go_quiet (fail)
    have hbq : Below wr.heap.size wr (wr.drewN nq) := below_drewN (Below.refl _ _) _
    generalize wr.drewN nq = W1 at hbq
    go_wp2
    go_quiet ((go_at_call 84; refine Calls.quiet_of_same (Tryz.strings_IndexByte _ _ _)))
    go_wp2
    simp only [Exit.noGoto_ret, Exit.inBlock]
    go_wp2
    (try simp only [Exit.noGoto_ret, Exit.inBlock])
    (try go_wp2)
    go_ret
    exact ⟨rfl, below_drewN hbq _⟩
  ·go_enter Tryz.func267, Tryz.ntmps267
   go_wp2_with fail
   refine (Hval.out _).mono ?_; rintro e w2 ⟨rfl, rfl⟩
   go_wp2
   go_step3
   go_wp2
   go_loopw [9, 10] (fun i n wr => i = .int .i64 2 ∧ n = .int .i64 0 ∧ wr = w2) (fun _ _ _ => 0)
   case atStart => exact ⟨rfl, rfl, rfl⟩
   case round =>
    obtain ⟨rfl, rfl, rfl⟩ := hrel
    go_wp2
    go_step3
    have hi1 : ({ data := #[46, 95, 43, 45] } : ByteArray)[2]? = some 43 := rfl
    have hi2 : ({ data := #[a, b, x] } : ByteArray)[2]? = some x := rfl
    have hA : ((↑(({ data := #[46, 95, 43, 45] } : ByteArray)[2]'(show 2 < 4 by decide)).toNat : Int) != (↑(({ data := #[a, b, x] } : ByteArray)[2]'(show 2 < 3 by decide)).toNat : Int)) = true := by
     show ((43 : Int) != (x.toNat : Int)) = true
     simp; omega
    have hB : Lib.indexByte [45] (({ data := #[a, b, x] } : ByteArray)[2]'(show 2 < 3 by decide)) < 0 := indexByte_high [45] x (by decide) hx
    have hwr : IntKind.i64.wrap 3 = 3 := by decide
    have hxi : (128 : Int) ≤ (x.toNat : Int) := by omega
    have hxn : ¬ ((43 : Int) = (x.toNat : Int)) := by omega
    go_wp2
    go_quiet (fail)
    have hbq : Below wr.heap.size wr (wr.drewN nq) := below_drewN (Below.refl _ _) _
    generalize wr.drewN nq = W1 at hbq
    go_wp2
    go_quiet ((go_at_call 84; refine Calls.quiet_of_same (Tryz.strings_IndexByte _ _ _)))
    go_wp2
    simp only [Exit.noGoto_ret, Exit.inBlock]
    go_wp2
    (try simp only [Exit.noGoto_ret, Exit.inBlock])
    (try go_wp2)
    go_ret
    exact ⟨rfl, below_drewN hbq _⟩
  ·go_enter Tryz.func267, Tryz.ntmps267
   go_wp2_with fail
   refine (Hval.out _).mono ?_; rintro e w2 ⟨rfl, rfl⟩
   go_wp2
   go_step3
   go_wp2
   go_loopw [9, 10] (fun i n wr => i = .int .i64 3 ∧ n = .int .i64 0 ∧ wr = w2) (fun _ _ _ => 0)
   case atStart => exact ⟨rfl, rfl, rfl⟩
   case round =>
    obtain ⟨rfl, rfl, rfl⟩ := hrel
    go_wp2
    go_step3
    have hi1 : ({ data := #[46, 95, 43, 45] } : ByteArray)[3]? = some 45 := rfl
    have hi2 : ({ data := #[a, b, c, x] } : ByteArray)[3]? = some x := rfl
    have hA : ((↑(({ data := #[46, 95, 43, 45] } : ByteArray)[3]'(show 3 < 4 by decide)).toNat : Int) != (↑(({ data := #[a, b, c, x] } : ByteArray)[3]'(show 3 < 4 by decide)).toNat : Int)) = true := by
     show ((45 : Int) != (x.toNat : Int)) = true
     simp; omega
    have hB : Lib.indexByte [] (({ data := #[a, b, c, x] } : ByteArray)[3]'(show 3 < 4 by decide)) < 0 := indexByte_high [] x (by decide) hx
    have hwr : IntKind.i64.wrap 4 = 4 := by decide
    have hxi : (128 : Int) ≤ (x.toNat : Int) := by omega
    have hxn : ¬ ((45 : Int) = (x.toNat : Int)) := by omega
    go_wp2
    go_quiet (fail)
    have hbq : Below wr.heap.size wr (wr.drewN nq) := below_drewN (Below.refl _ _) _
    generalize wr.drewN nq = W1 at hbq
    go_wp2
    go_quiet ((go_at_call 84; refine Calls.quiet_of_same (Tryz.strings_IndexByte _ _ _)))
    go_wp2
    simp only [Exit.noGoto_ret, Exit.inBlock]
    go_wp2
    (try simp only [Exit.noGoto_ret, Exit.inBlock])
    (try go_wp2)
    go_ret
    exact ⟨rfl, below_drewN hbq _⟩
theorem width_pos (s : ByteArray) (pos : Nat) (h : pos < s.size) : 1 ≤ (Utf8.decode s pos).2 := by
 by_cases ha : (s[pos]'h).toNat < 128
 ·rw [decode_ascii s pos h ha]
  exact Nat.le_refl _
 ·exact (decode_high s pos h (by omega)).2
theorem below_iter (w : World) (s : ByteArray) (pos : Nat) : Below w.heap.size w (w.iter s pos) :=
 (Below.refl _ _).alloc (Nat.le_refl _) _
set_option maxRecDepth 100000 in
set_option maxHeartbeats 4000000 in
theorem indexRune_err (s : ByteArray) (w : World) (hs : ∀ (j : Nat) (h : j < s.size), (s[j]'h).toNat < 128) :
 Calls Tryz.prog 267 #[.string s, .int .i32 65533] w fun e w' => e = .returned (.int .i64 (-1)) ∧ Below w.heap.size w w' := by
 go_enter Tryz.func267, Tryz.ntmps267
 go_wp2
 go_loopw [5] (fun _ w' => ∃ pos : Nat, w' = w.iter s pos) (fun _ w' => s.size - w'.iterPos w.heap.size)
 case atStart => exact ⟨0, rfl⟩
 case round =>
  obtain ⟨pos, rfl⟩ := hrel
  by_cases hp : pos < s.size
  ·have hnx : ∀ ty, (Instr.next (.pointer (some ⟨w.heap.size, 0, none⟩)) true ty).run Tryz.prog (w.iter s pos) = _ := fun ty => run_next_any w s pos ty hp
   have hd := decode_ascii s pos hp (hs pos hp)
   have hlt := hs pos hp
   rw [hd] at hnx
   generalize (s[pos]'hp).toNat = c at hnx hlt
   have hc : ¬ ((c : Int) = 65533) := by omega
   clear hd
   go_wp2
   go_roundw
   case rel => exact ⟨pos + 1, rfl⟩
   case measure => simp; omega
  ·have hnx : ∀ ty, (Instr.next (.pointer (some ⟨w.heap.size, 0, none⟩)) true ty).run Tryz.prog (w.iter s pos) = _ := fun ty => run_next_end w s pos ty hp
   go_wp2
   go_ret
   exact ⟨rfl, below_iter _ _ _⟩
theorem indexByte_parts (l : List UInt8) (x : UInt8) : (l.contains x = true ∧ 0 ≤ Lib.indexByte l x) ∨ (l.contains x = false ∧ Lib.indexByte l x = -1) := by
 induction l with
 | nil => exact .inr ⟨rfl, rfl⟩
 | cons b l ih =>
  by_cases hb : b = x
  ·left; simp [Lib.indexByte, hb]
  ·have hb' : ¬ (x = b) := fun h => hb h.symm
   have e : Lib.indexByte (b :: l) x = if Lib.indexByte l x = -1 then -1 else Lib.indexByte l x + 1 := by simp [Lib.indexByte, hb]
   have ec : (b :: l).contains x = l.contains x := by simp [hb']
   rw [e, ec]
   rcases ih with ⟨h1, h2⟩ | ⟨h1, h2⟩
   ·left; refine ⟨h1, ?_⟩; rw [if_neg (by omega)]; omega
   ·right; exact ⟨h1, by rw [if_pos h2]⟩
theorem indexByte_contains (l : List UInt8) (x : UInt8) : decide (0 ≤ Lib.indexByte l x) = l.contains x := by
 rcases indexByte_parts l x with ⟨h1, h2⟩ | ⟨h1, h2⟩
 ·rw [h1]; exact decide_eq_true h2
 ·rw [h1, h2]; rfl
def oneOf (s : ByteArray) : Prop := s = ⟨#[45]⟩ ∨ s = ⟨#[46, 95, 43, 45]⟩
theorem oneOf_ascii {s : ByteArray} (h : oneOf s) : ∀ (j : Nat) (h : j < s.size), (s[j]'h).toNat < 128 := by
 rcases h with rfl | rfl
 ·intro j hj
  have : j < 1 := hj
  obtain rfl : j = 0 := by omega
  exact (by decide : (45 : UInt8).toNat < 128)
 ·intro j hj
  have : j < 4 := hj
  rcases (by omega : j = 0 ∨ j = 1 ∨ j = 2 ∨ j = 3) with rfl | rfl | rfl | rfl
  ·exact (by decide : (46 : UInt8).toNat < 128)
  ·exact (by decide : (95 : UInt8).toNat < 128)
  ·exact (by decide : (43 : UInt8).toNat < 128)
  ·exact (by decide : (45 : UInt8).toNat < 128)
theorem containsRune_calls (s : ByteArray) (r : Nat) (w : World) (hs : oneOf s) (hr : r ≤ 1114111) (hv : Lib.validRune (r : Int) = true) :
 Calls Tryz.prog 259 #[.string s, .int .i32 r] w fun e w' => e = .returned (.bool (decide (r < 128) && s.data.toList.contains (UInt8.ofNat r))) ∧ Below w.heap.size w w' ∧ (r < 128 → w' = w) := by
 by_cases hlow : r < 128
 ·refine (Tryz.strings_ContainsRune_ascii s r w (by omega) (by omega)).mono ?_
  rintro e w' ⟨rfl, rfl⟩
  refine ⟨?_, Below.refl _ _, fun _ => rfl⟩
  have hu : (r : Int).toNat.toUInt8 = UInt8.ofNat r := by simp
  rw [hu, indexByte_contains, decide_eq_true hlow, Bool.true_and]
 ·have hres : (decide (r < 128) && s.data.toList.contains (UInt8.ofNat r)) = false := by simp [hlow]
  rw [hres]
  have hidx : ∀ W, Calls Tryz.prog 267 #[.string s, .int .i32 r] W fun e w' => e = .returned (.int .i64 (-1)) ∧ Below W.heap.size W w' := by
   intro W
   by_cases h3 : r = 65533
   ·subst h3; exact indexRune_err s W (oneOf_ascii hs)
   ·exact indexRune_high s r W (by omega) (by omega) hv (by omega) hs
  have Hidx := Lib.hid hidx
  clear hidx
  go_enter Tryz.func259, Tryz.ntmps259
  go_wp2_with fail
  refine (Hidx.out _).mono ?_; rintro e w2 ⟨rfl, hb2⟩
  go_wp2
  go_ret
  exact ⟨rfl, hb2, fun h => absurd h hlow⟩
def cutAt (c : UInt8) : List UInt8 → Option (List UInt8 × List UInt8)
 | [] => none
 | x :: xs => if x = c then some ([], xs) else (cutAt c xs).map fun p => (x :: p.1, p.2)
def piecesAt (c : UInt8) : List UInt8 → List (List UInt8)
 | [] => [[]]
 | x :: xs => if x = c then [] :: piecesAt c xs else match piecesAt c xs with
  | [] => [[x]]
  | p :: ps => (x :: p) :: ps
theorem index_one (c : UInt8) (s : List UInt8) : (cutAt c s = none ∧ Lib.index s [c] = -1) ∨ ∃ a b, cutAt c s = some (a, b) ∧ s = a ++ c :: b ∧ Lib.index s [c] = (a.length : Int) := by
 induction s with
 | nil => exact .inl ⟨rfl, rfl⟩
 | cons x xs ih =>
  by_cases hx : x = c
  ·subst hx
   refine .inr ⟨[], xs, by simp [cutAt], rfl, ?_⟩
   simp [Lib.index]
  ·have hc : ¬ (c = x) := fun h => hx h.symm
   rcases ih with ⟨h1, h2⟩ | ⟨a, b, h1, h2, h3⟩
   ·exact .inl ⟨by simp [cutAt, hx, h1], by simp [Lib.index, h2, hx, hc]⟩
   ·refine .inr ⟨x :: a, b, by simp [cutAt, hx, h1], by rw [h2]; rfl, ?_⟩
    have : ¬ ((a.length : Int) = -1) := by omega
    simp [Lib.index, h3, hx, hc, this]
theorem cut_one (c : UInt8) (s : List UInt8) : Lib.cut s [c] = match cutAt c s with
 | some p => (p.1, p.2, true)
 | none => (s, [], false) := by
 unfold Lib.cut
 rcases index_one c s with ⟨h1, h2⟩ | ⟨a, b, h1, h2, h3⟩
 ·rw [h1, h2]; rfl
 ·rw [h1, h3, if_pos (by omega)]
  subst h2
  simp
theorem pieces_cut (c : UInt8) (s : List UInt8) : piecesAt c s = match cutAt c s with
 | some p => p.1 :: piecesAt c p.2
 | none => [s] := by
 induction s with
 | nil => rfl
 | cons x xs ih =>
  by_cases hx : x = c
  ·simp [piecesAt, cutAt, hx]
  ·simp only [piecesAt, cutAt, if_neg hx]
   rw [ih]
   cases cutAt c xs with
   | none => rfl
   | some p => rfl
theorem pieces_pos (c : UInt8) (s : List UInt8) : 0 < (piecesAt c s).length := by
 rw [pieces_cut]; split <;> simp
theorem split_pieces (c : UInt8) : ∀ (k : Nat) (s : List UInt8), (piecesAt c s).length ≤ k + 1 → Lib.splitK [c] 0 k s = piecesAt c s := by
 intro k
 induction k with
 | zero =>
  intro s h
  have := pieces_pos c s
  rw [pieces_cut] at h ⊢
  rcases index_one c s with ⟨h1, _⟩ | ⟨a, b, h1, _, _⟩
  ·rw [h1]; rfl
  ·rw [h1] at h; simp only [List.length_cons] at h; have := pieces_pos c b; omega
 | succ k ih =>
  intro s h
  rw [pieces_cut] at h ⊢
  rcases index_one c s with ⟨h1, h2⟩ | ⟨a, b, h1, h2, h3⟩
  ·rw [h1, Lib.splitK, h2] <;> rfl
  ·rw [h1] at h ⊢
   simp only [List.length_cons] at h ⊢
   rw [Lib.splitK, h3, if_neg (by simp <;> omega)]
   subst h2
   simp only [Int.toNat_natCast, Nat.add_zero, List.length_singleton, List.take_left']
   congr 1
   rw [show (a ++ c :: b).drop (a.length + 1) = b by simp]
   exact ih b (by omega)
theorem count_pieces (c : UInt8) : ∀ (fuel : Nat) (s : List UInt8), s.length < fuel → Lib.countFrom [c] fuel s + 1 = (piecesAt c s).length := by
 intro fuel
 induction fuel with
 | zero => intro s h; omega
 | succ fuel ih =>
  intro s h
  rw [pieces_cut, Lib.countFrom]
  rcases index_one c s with ⟨h1, h2⟩ | ⟨a, b, h1, h2, h3⟩
  ·rw [h1, h2] <;> rfl
  ·rw [h1, h3, if_neg (by simp <;> omega)]
   subst h2
   simp only [Int.toNat_natCast, List.length_cons, List.length_nil, Nat.zero_add]
   rw [show (a ++ c :: b).drop (a.length + 1) = b by simp]
   have := ih b (by simp at h; omega)
   omega
theorem split_one (c : UInt8) (s : List UInt8) : Lib.split s [c] = piecesAt c s := by
 unfold Lib.split Lib.count
 exact split_pieces c _ s (by rw [← count_pieces c (s.length + 1) s (by omega)]; omega)
def plainB (c : UInt8) : Bool := decide (97 ≤ c.toNat ∧ c.toNat ≤ 122) || decide (65 ≤ c.toNat ∧ c.toNat ≤ 90) || decide (48 ≤ c.toNat ∧ c.toNat ≤ 57)
def onlyB (others s : List UInt8) : Bool := s.all fun c => plainB c || others.contains c
def endsB (x : UInt8) (s : List UInt8) : Bool := s.head? == some x || s.getLast? == some x
def labelB (s : List UInt8) : Bool := decide (1 ≤ s.length ∧ s.length ≤ 32) && onlyB [45] s && !endsB 45 s
def domainB (s : List UInt8) : Bool := (piecesAt 46 s).all labelB && decide (s.length ≤ 64)
def twoB (x : UInt8) : List UInt8 → Bool
 | a :: b :: r => (a == x && b == x) || twoB x (b :: r)
 | _ => false
def localB (s : List UInt8) : Bool := decide (1 ≤ s.length ∧ s.length ≤ 32) && onlyB [46, 95, 43, 45] s && !endsB 46 s && !twoB 46 s
def splitBox (s : List UInt8) : Option (List UInt8 × List UInt8) := match cutAt 64 s with
 | some (n, d) => if localB n && domainB d && decide (s.length ≤ 64) then some (n, Lib.toLowerA d) else none
 | none => none
def parseBox (s : List UInt8) : Option (List UInt8) := (splitBox s).map fun p => p.1 ++ 64 :: p.2
def boxB (s : List UInt8) : Bool := parseBox s == some s
theorem contains_two (x : UInt8) (s : List UInt8) : Lib.contains s [x, x] = twoB x s := by
 have key : ∀ s : List UInt8, (twoB x s = false ∧ Lib.index s [x, x] = -1) ∨ (twoB x s = true ∧ 0 ≤ Lib.index s [x, x]) := by
  intro s
  induction s with
  | nil => exact .inl ⟨rfl, rfl⟩
  | cons a r ih =>
   cases r with
   | nil => left; exact ⟨rfl, by simp [Lib.index, List.isPrefixOf]⟩
   | cons b r =>
    by_cases hab : a = x ∧ b = x
    ·right; obtain ⟨rfl, rfl⟩ := hab
     refine ⟨by simp [twoB], ?_⟩
     rw [Lib.index, if_pos (by simp [List.isPrefixOf])]; omega
    ·have hp : ([x, x] : List UInt8).isPrefixOf (a :: b :: r) = false := by
      simp only [List.isPrefixOf, Bool.and_true, Bool.and_eq_false_iff, beq_eq_false_iff_ne, ne_eq]
      by_cases h : a = x
      ·right; intro h2; exact hab ⟨h, h2.symm⟩
      ·left; intro h2; exact h h2.symm
     have ht : twoB x (a :: b :: r) = twoB x (b :: r) := by
      rw [twoB]
      have : (a == x && b == x) = false := by
       rw [Bool.and_eq_false_iff]; simp only [beq_eq_false_iff_ne, ne_eq]
       by_cases h : a = x
       ·right; intro h2; exact hab ⟨h, h2⟩
       ·left; exact h
      rw [this, Bool.false_or]
     rw [ht, Lib.index, hp]
     rcases ih with ⟨h1, h2⟩ | ⟨h1, h2⟩
     ·left; exact ⟨h1, by rw [h2]; rfl⟩
     ·right
      refine ⟨h1, ?_⟩
      rw [if_neg (by simp)]
      have hne : ¬ (Lib.index (b :: r) [x, x] == -1) = true := by
       intro h
       have := eq_of_beq h
       omega
      rw [if_neg hne]; omega
 unfold Lib.contains
 rcases key s with ⟨h1, h2⟩ | ⟨h1, h2⟩
 ·rw [h1, h2]; decide
 ·rw [h1]; exact decide_eq_true h2
end Go.Proofs.YtffnbkmigapmjaaGreatDoor
