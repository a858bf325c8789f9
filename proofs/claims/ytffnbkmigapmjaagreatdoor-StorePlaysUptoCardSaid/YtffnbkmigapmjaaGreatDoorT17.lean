/-
  The walks of fs: New, List.
  The walks of ids.Name; the digits of a number.
  The walks of store: in, Name (printed by gen_stoname.py).
  Where mails are: a map of numbers to bytes, as data and in memory.
-/
import Derived.Test.YtffnbkmigapmjaaGreatDoorT11
import Derived.Test.YtffnbkmigapmjaaGreatDoorT16
import Derived.Test.YtffnbkmigapmjaaGreatDoorShelfN
import Derived.Shelf.AbstractIn
import Derived.TacticsInMore
import Derived.OwnWalkIn
import Derived.Great.BuildSlice
set_option linter.unusedSimpArgs false
set_option linter.unusedVariables false
set_option maxRecDepth 100000
namespace Go.Proofs.YtffnbkmigapmjaaGreatDoor
open Go.RowKit Go.Maps Go.Sort Go.Shelf
def newD (B : Nat) (room : Int) : FsD := { mn := B, ms := B + 1, now := [], sure := [], lv := .slice none 0 0, loose := [], room := room, fuse := -1, down := false, file := fun _ => none }
def newRho (B : Nat) : Rho := fun k => if k = B then some .now else if k = B + 1 then some .sure else if k = B + 2 then some .fs else none
theorem newRho_has {B k : Nat} (h : (newRho B).has k) : B ≤ k ∧ k < B + 3 := by
 unfold Rho.has newRho at h
 by_cases h1 : k = B
 ·omega
 ·rw [if_neg h1] at h
  by_cases h2 : k = B + 1
  ·omega
  ·rw [if_neg h2] at h
   by_cases h3 : k = B + 2
   ·omega
   ·rw [if_neg h3] at h; cases h
set_option maxHeartbeats 4000000 in
theorem new_calls (n : Int) (w : World) :
 Calls Tryz.prog 14 #[.int .i64 n] w fun e w' => e = .returned (.pointer (some ⟨w.heap.size + 2, 0, none⟩)) ∧ FsAt w' (w.heap.size + 2) (newD w.heap.size (roomD n)) (newRho w.heap.size) ∧ Below w.heap.size w w' := by
 have hmm := @run_makeMap Tryz.prog
 obtain ⟨W1, hW1⟩ : ∃ W1, w.alloc (.map #[] 0) = W1 := ⟨_, rfl⟩
 obtain ⟨W2, hW2⟩ : ∃ W2, W1.alloc (.map #[] 0) = W2 := ⟨_, rfl⟩
 obtain ⟨W3, hW3⟩ : ∃ W3, W2.alloc (.cells #[.map (some w.heap.size), .map (some (w.heap.size + 1)), .slice none 0 0, .int .i64 0, .int .i64 (-1), .bool false] 96) = W3 := ⟨_, rfl⟩
 have z1 : W1.heap.size = w.heap.size + 1 := by rw [← hW1]; simp
 have z2 : W2.heap.size = w.heap.size + 2 := by rw [← hW2]; simp [z1]
 have z3 : W3.heap.size = w.heap.size + 3 := by rw [← hW3]; simp [z2]
 have b1 : Below w.heap.size w W1 := by rw [← hW1]; exact (Below.refl _ _).alloc (Nat.le_refl _) _
 have b2 : Below W1.heap.size W1 W2 := by rw [← hW2]; exact (Below.refl _ _).alloc (Nat.le_refl _) _
 have b3 : Below W2.heap.size W2 W3 := by rw [← hW3]; exact (Below.refl _ _).alloc (Nat.le_refl _) _
 have m1 : DirAt W1 w.heap.size [] := by rw [← hW1]; exact World.ownsMap_made w Tryz.prog 9 ptrElem
 have m1' : DirAt W3 w.heap.size [] := ownsMap_keeps (F := fun _ => False) (ownsMap_keeps (F := fun _ => False) m1 (Keeps.ofBelow b2) id) (Keeps.ofBelow b3) id
 have m2 : DirAt W2 W1.heap.size [] := by rw [← hW2]; exact World.ownsMap_made W1 Tryz.prog 9 ptrElem
 rw [z1] at m2
 have m2' : DirAt W3 (w.heap.size + 1) [] := ownsMap_keeps (F := fun _ => False) m2 (Keeps.ofBelow b3) id
 have hh : W3.heap[w.heap.size + 2]? = some (.cells #[.map (some w.heap.size), .map (some (w.heap.size + 1)), .slice none 0 0, .int .i64 0, .int .i64 (-1), .bool false] 96 (0, 0)) := by rw [← hW3]; exact heap_new_at _ z2.symm
 have hF : FsAt W3 (w.heap.size + 2) (newD w.heap.size 0) (newRho w.heap.size) := by
  refine ⟨by unfold newRho; rw [if_neg (by omega), if_neg (by omega), if_pos rfl], hh, ⟨by show newRho w.heap.size w.heap.size = _; unfold newRho; rw [if_pos rfl], ?_, m1', m2', (fun k e => by cases e), World.ownsRow_nil _ _ _ _, (fun p hp => by cases hp), (fun x c e => by cases e), (fun p hp => by cases hp), (fun p hp => by cases hp), fun k e => by have := newRho_has e; omega⟩⟩
  show newRho w.heap.size (w.heap.size + 1) = _
  unfold newRho; rw [if_neg (by omega), if_pos rfl]
 have hr := room_calls (w.heap.size + 2) _ _ n W3 hF
 have Hr := Lib.hid hr
 have Hb := Lib.hid ((b1.trans (b2.mono b1.size)).trans (b3.mono (by omega)))
 have Hz := Lib.hid z3
 clear hr hF hh m1 m1' m2 m2' b1 b2 b3 z1 z2 z3
 subst hW3
 subst hW2
 subst hW1
 go_enter Tryz.func14, Tryz.ntmps14
 go_wp2_with fail
 refine (Hr.out).mono ?_; rintro e w4 ⟨rfl, hF4, hk4⟩
 go_wp2
 go_ret
 refine ⟨rfl, hF4, Hb.out.trans (hk4.below (fun i e => by rw [e]; omega) ?_)⟩
 simp; omega
theorem keys_dir (l : Dir) : strKeys (dirD l) = l.map (·.1) := by
 unfold dirD
 show (l.map entD).map _ = _
 rw [List.map_map]; rfl
theorem sortsA (m : Nat) : AnyZ.SortsIn Tryz.prog Tryz.sortedA_ren Fence.wide m :=
 ⟨fun blk off cap ss W hH hblk hsz => callsIn_wide.2 (Tryz.slices_Sort_string blk off cap ss W hH hblk hsz),
  fun p cap W => callsIn_wide.2 (Tryz.slices_Sort_string_none p cap W)⟩
set_option maxHeartbeats 4000000 in
theorem list_up (f : Nat) (d : FsD) (ρ : Rho) (w : World) (h : FsAt w f d ρ) (hdn : d.down = false) (hl : d.now.length ≤ 256) :
 Calls Tryz.prog 98 #[.pointer (some ⟨f, 0, none⟩)] w fun e w' => ∃ (v : Value) (ss : List Nm), e = .returned v ∧ ss.Perm (d.now.map (·.1)) ∧ w'.ownsRow w.heap.size 9 1 v ss.length ((ss.mergeSort (fun x y => decide (x ≤ y))).map encStr) ∧ (v = .slice none 0 0 ↔ ss = []) ∧ Below w.heap.size w w' := by
 obtain ⟨⟨c0, c1, c2, c3, c4, c5⟩, _⟩ := fsHd_cells h.hd
 rw [hdn] at c5
 have hown : w.ownsMap Tryz.prog 9 ptrElem d.mn d.now.length (dirD d.now) := h.rest.dnow
 have hmax : Maps.size (dirD d.now) ≤ maxLen := by rw [dirD_size]; unfold maxLen; omega
 have hbytes : Maps.size (dirD d.now) * 16 ≤ 140737488355328 := by rw [dirD_size]; omega
 rw [← keys_dir]
 generalize dirD d.now = D0 at hown hmax hbytes
 generalize d.now.length = nn at hown
 generalize d.mn = b at hown c0
 clear c1 c2 c3 c4 h hdn hl
 refine (callsIn_wide (n := 6)).1 ?_
 have hbl := hown.lt
 have hseq : SeqGives Fence.wide 2 Tryz.prog 184 #[.pointer (some ⟨w.heap.size, 0, none⟩)] encStr (fun ss => ss.Perm (strKeys D0)) (Maps.size D0) (w.alloc (.cells #[.map (some b)] 93)) :=
  AnyZ.keys_gives (ρ := Tryz.keysA_ren) { Tryz.keysA with } Fence.wide _ trivial rfl (by omega) w.heap.size b nn D0 _ (by simp) (by simp) (by
   obtain ⟨es, clock, hb, Ft, hs, hD⟩ := hown
   exact ⟨es, clock, (Below.heap_alloc _ _ b hbl).trans hb, Ft, hs, hD⟩)
 have cK : ∀ mb W, CallsIn Fence.wide 5 Tryz.prog 138 #[.map mb] W fun e w' => e = .returned (.func (.func 184) #[] #[.pointer (some ⟨W.heap.size, 0, none⟩)]) ∧ w' = W.alloc (.cells #[.map mb] 93) := fun mb W => AnyZ.keys_in Tryz.keysA Fence.wide 5 trivial rfl mb W
 have cS := AnyZ.sorted_in Tryz.sortedA Fence.wide 5 trivial trivial trivial trivial rfl (by omega) (sortsA _) (enters_of Tryz.func183 (by kernel_rfl) rfl) 184 #[.pointer (some ⟨w.heap.size, 0, none⟩)] trivial (enters_of Tryz.func184 (by kernel_rfl) rfl) _ _ hmax hbytes _ hseq
 change CallsIn _ _ Tryz.prog 137 _ _ _ at cS
 have hfK : Fence.wide.fn 138 := trivial
 have hfS : Fence.wide.fn 137 := trivial
 refine callsIn_of_wp Tryz.func98 rfl trivial ?_ rfl
 simp only [Tryz.ntmps98, List.size_toArray, List.length_cons, List.length_nil, Nat.reduceAdd, Nat.reduceSub, Array.replicate_succ, Array.replicate_zero, List.push_toArray, List.append_toArray, List.nil_append, List.cons_append]
 gi_wp2_with (first
  | (gi_at_call 138; refine (cK _ _).mono ?_; rintro e w' ⟨rfl, rfl⟩)
  | (gi_at_call 137; refine cS.mono ?_; rintro e w' ⟨v, ss, rfl, hS, hrow, hnil, hb⟩))
 go_ret
 exact ⟨v, ss, rfl, hS, ownsRow_base_a hrow (by simp), hnil, ((Below.refl _ w).alloc (Nat.le_refl _) _).trans (hb.mono (by simp))⟩
end Go.Proofs.YtffnbkmigapmjaaGreatDoor
set_option maxRecDepth 100000
namespace Go.Proofs.YtffnbkmigapmjaaGreatDoor
open Go.RowKit Go.Maps
def numD (n : Nat) : List UInt8 := List.replicate (9 - (Lib.decDigits n).length) 48 ++ Lib.decDigits n
def NG : Nat := max (max 1 0) (max 2 3) + 1
structure GB (w w' : World) : Prop where
 size : w.heap.size ≤ w'.heap.size
 block : ∀ k, k < NG → k < w.heap.size → w'.heap[k]? = w.heap[k]?
theorem GB.refl (w : World) : GB w w := ⟨Nat.le_refl _, fun _ _ _ => rfl⟩
theorem GB.trans {a b c : World} (h : GB a b) (g : GB b c) : GB a c := ⟨Nat.le_trans h.size g.size, fun k h1 h2 => (g.block k h1 (Nat.lt_of_lt_of_le h2 h.size)).trans (h.block k h1 h2)⟩
theorem GB.below {w w' : World} (h : Below w.heap.size w w') : GB w w' := ⟨h.size, fun k _ h2 => h.block k h2⟩
theorem GB.keeps {w w' : World} {F : Nat → Prop} (h : Keeps F w w') (hF : ∀ k, F k → NG ≤ k) : GB w w' := ⟨h.size, fun k h1 h2 => h.block k h2 (fun e => by have := hF k e; omega)⟩
def ItoaOk (n : Nat) (w : World) : Prop := ∀ w', GB w w' → Calls Tryz.prog 45 #[.int .i64 (n : Int)] w' fun e w'' => e = .returned (.string (strL (Lib.decDigits n))) ∧ Below w'.heap.size w' w''
theorem ItoaOk.gb {n : Nat} {w w' : World} (h : ItoaOk n w) (hb : GB w w') : ItoaOk n w' := fun w2 h2 => h w2 (hb.trans h2)
theorem ItoaOk.below {n : Nat} {w w' : World} (h : ItoaOk n w) (hb : Below w.heap.size w w') : ItoaOk n w' := h.gb (GB.below hb)
theorem nDigits_le : ∀ (k n : Nat), n < 10 ^ (k + 1) → Lib.nDigits n ≤ k + 1
 | 0, n, h => by rw [Lib.nDigits_small (by omega)]; omega
 | k + 1, n, h => by
  rw [Lib.nDigits]
  by_cases h1 : n < 10
  ·rw [dif_pos h1]; omega
  ·rw [dif_neg h1]
   have := nDigits_le k (n / 10) (by rw [Nat.pow_succ] at h; omega)
   omega
theorem digits_le {n : Nat} (h : n ≤ 999999999) : (Lib.decDigits n).length ≤ 9 := by
 rw [Lib.decDigits_length]; exact nDigits_le 8 n (by omega)
theorem repeat_zeros : ∀ k, Lib.repeatL [48] k = List.replicate k 48
 | 0 => rfl
 | k + 1 => by rw [Lib.repeatL, repeat_zeros k]; rfl
theorem repeat_calls (k : Nat) (hk : k ≤ 9) (w : World) : Calls Tryz.prog 46 #[.string ⟨#[48]⟩, .int .i64 (k : Int)] w fun e w' => e = .returned (.string (strL (List.replicate k 48))) ∧ Below w.heap.size w w' := by
 have h := Tryz.strings_Repeat ⟨#[48]⟩ k w (by omega) (by show 1 * k ≤ _; omega)
 refine h.mono fun e w' h => ?_
 have e1 : Lib.repeatL (⟨#[48]⟩ : ByteArray).data.toList k = List.replicate k 48 := repeat_zeros k
 rw [← e1]
 exact h
theorem numD_length {n : Nat} (h : n ≤ 999999999) : (numD n).length = 9 := by
 unfold numD; rw [List.length_append, List.length_replicate]; have := digits_le h; omega
def idsNameD (n : Int) : Nm := if 0 ≤ n ∧ n ≤ 999999999 then [110, 101, 120, 116, 45] ++ numD n.toNat else []
set_option maxHeartbeats 4000000 in
theorem idsName_calls (n : Int) (w : World) (hI : 0 ≤ n → n ≤ 999999999 → ItoaOk n.toNat w) :
 Calls Tryz.prog 181 #[.int .i64 n] w fun e w' => e = .returned (.string (strL (idsNameD n))) ∧ Below w.heap.size w w' := by
 by_cases h0 : n < 0
 ·have Hn : Hid (idsNameD n = []) := Lib.hid (by unfold idsNameD; rw [if_neg (by omega)])
  clear hI
  go_enter Tryz.func181, Tryz.ntmps181
  go_wp2
  go_ret
  rw [Hn.out]
  exact ⟨rfl, Below.refl _ _⟩
 ·by_cases h1 : 999999999 < n
  ·have Hn : Hid (idsNameD n = []) := Lib.hid (by unfold idsNameD; rw [if_neg (by omega)])
   clear hI
   go_enter Tryz.func181, Tryz.ntmps181
   go_wp2
   go_ret
   rw [Hn.out]
   exact ⟨rfl, Below.refl _ _⟩
  ·obtain ⟨k, rfl⟩ := Int.eq_ofNat_of_zero_le (show 0 ≤ n by omega)
   have hk : k ≤ 999999999 := by omega
   have hI' := hI (by omega) (by omega)
   rw [Int.toNat_natCast] at hI'
   have Hn : Hid (idsNameD (k : Int) = [110, 101, 120, 116, 45] ++ (List.replicate (9 - (Lib.decDigits k).length) 48 ++ Lib.decDigits k)) := Lib.hid (by unfold idsNameD; rw [if_pos (by omega), Int.toNat_natCast]; rfl)
   have hd := digits_le hk
   have hc := hI' w (GB.refl _)
   obtain ⟨ds, hds⟩ : ∃ ds, Lib.decDigits k = ds := ⟨_, rfl⟩
   rw [hds] at hc Hn hd
   obtain ⟨s, hs⟩ : ∃ s, strL ds = s := ⟨_, rfl⟩
   have hsz : s.size = ds.length := by rw [← hs, strL_size]
   rw [hs] at hc
   have hdi : (s.size : Int) ≤ 9 := by omega
   have hr := fun w => repeat_calls (9 - ds.length) (by omega) w
   obtain ⟨z, hz⟩ : ∃ z, strL (List.replicate (9 - ds.length) 48) = z := ⟨_, rfl⟩
   have hzl : z.size = 9 - ds.length := by rw [← hz, strL_size, List.length_replicate]
   have ha1 : 5 + z.size ≤ 9223372036854775807 := by omega
   have ha2 : 5 + z.size + s.size ≤ 9223372036854775807 := by omega
   rw [hz] at hr
   have hcast : ((9 - ds.length : Nat) : Int) = 9 - (s.size : Int) := by omega
   rw [hcast] at hr
   have Hr := Lib.hid hr
   have Hc := Lib.hid hc
   have Hs := Lib.hid hs
   have Hz := Lib.hid hz
   clear hI hI' hd hc hds hs hsz hr hz hcast hzl
   go_enter Tryz.func181, Tryz.ntmps181
   go_wp2_with fail
   refine (Hc.out).mono ?_; rintro e w1 ⟨rfl, hb1⟩
   go_wp2_with fail
   refine (Hr.out w1).mono ?_; rintro e w2 ⟨rfl, hb2⟩
   go_wp2
   go_ret
   refine ⟨?_, hb1.trans (hb2.mono hb1.size)⟩
   rw [Hn.out, ← strL_append, ← strL_append, Hs.out, Hz.out]
   show Ending.returned (.string (⟨#[110, 101, 120, 116, 45]⟩ ++ z ++ s)) = _
   rw [ByteArray.append_assoc]; rfl
end Go.Proofs.YtffnbkmigapmjaaGreatDoor
set_option maxRecDepth 100000
namespace Go.Proofs.YtffnbkmigapmjaaGreatDoor
open Go.RowKit Go.Maps
theorem index_contains : ∀ (l : List UInt8) (c : UInt8), (0 ≤ Lib.indexByte l c) ↔ l.contains c = true
 | [], c => by simp [Lib.indexByte]
 | b :: l, c => by
  rw [Lib.indexByte]
  have ih := index_contains l c
  have hge := Lib.indexByte_ge l c
  by_cases h : (b == c) = true
  ·rw [if_pos h]
   have : b = c := by simpa using h
   subst this
   simp
  ·rw [if_neg h]
   have hne : ¬ c = b := fun e => h (by rw [e]; simp)
   by_cases h1 : Lib.indexByte l c == -1
   ·rw [if_pos h1]
    have h1' : Lib.indexByte l c = -1 := by simpa using h1
    rw [h1'] at ih
    have : l.contains c = false := by
     cases hc : l.contains c with
     | true => have := ih.2 hc; omega
     | false => rfl
    rw [List.contains_cons, this]
    simp [hne]
   ·rw [if_neg h1]
    have h1' : ¬ Lib.indexByte l c = -1 := by simpa using h1
    have h2 := ih.1 (by omega)
    rw [List.contains_cons, h2]
    simp
    omega
set_option maxHeartbeats 2000000 in
theorem in_calls (s : List UInt8) (q : UInt8) (w : World) :
 Calls Tryz.prog 44 #[.string (strL s), .int .u8 q.toNat] w fun e w' => e = .returned (.bool (s.contains q)) ∧ w' = w := by
 have h := Tryz.strings_IndexByte (strL s) (q.toNat : Int) w
 rw [strL_data] at h
 have hq : ((q.toNat : Int).toNat).toUInt8 = q := by simp
 rw [hq] at h
 have hc := index_contains s q
 obtain ⟨i, hi⟩ : ∃ i, Lib.indexByte s q = i := ⟨_, rfl⟩
 rw [hi] at h hc
 have H1 := Lib.hid h
 have Hc : Hid (decide (0 ≤ i) = s.contains q) := Lib.hid (by
  cases hs : s.contains q with
  | true => exact decide_eq_true (hc.2 hs)
  | false => exact decide_eq_false (fun e => by rw [hc.1 e] at hs; cases hs))
 clear h hc hi hq
 generalize strL s = ss at H1
 go_enter Tryz.func44, Tryz.ntmps44
 go_wp2_with fail
 refine (H1.out).mono ?_; rintro e w1 ⟨rfl, rfl⟩
 go_wp2
 go_ret
 exact ⟨by rw [← Hc.out]; rfl, rfl⟩
theorem step_buildB {ops : Array Oper} {o : Oper} {a : Act} {K : Act → World → Prop} {Q : Exit → Act → World → Prop} {E : Prop} {w : World} {x : Operand} {q : UInt8} (hgd : o.guard = none) (ho : o.op = .buildSlice 22 2 #[(0, x), (1, .const (.int .u8 45))]) (hx : a.eval x = .int .u8 q.toNat)
 (h : ∀ g w', RdB w' (.slice (some ⟨g, 0, none⟩) 2 2) [q, 45] → Below w.heap.size w w' → K (a.put o.dst (.slice (some ⟨g, 0, none⟩) 2 2)) w') :
 if Region.wanted o (yielded ops a.tmps) = true then Oper.wp Tryz.prog o a w K Q else E := by
 rw [if_pos (by simp [Region.wanted, hgd])]
 obtain ⟨i0, hi, hz0, hz1, hz2⟩ := info_parts infoU8
 have hr : RdB (w.alloc (.cells #[.int .u8 q.toNat, .int .u8 45] 5)) (.slice (some ⟨w.heap.size, 0, none⟩) 2 2) [q, 45] := by
  refine .inr ⟨w.heap.size, 0, 2, rfl, by simp, Nat.le_refl _, by decide, by simp, ?_⟩
  intro j y hy
  match j, hy with
  | 0, hy => cases hy; rw [Nat.zero_add, cell_of_row _ _ _ _ _ _ (heap_alloc_new w _)]; rfl
  | 1, hy => cases hy; rw [cell_of_row _ _ _ _ _ _ (heap_alloc_new w _)]; rfl
  | j + 2, hy => cases hy
 have := h w.heap.size (w.alloc (.cells #[.int .u8 q.toNat, .int .u8 45] 5)) hr ((Below.refl _ _).alloc (Nat.le_refl _) _)
 refine wp_buildSlice 22 5 2 _ ho #[.int .u8 q.toNat, .int .u8 45] i0 _ Tryz.underlying22 hi hz0 (by rw [hz1]; decide) (by rw [hz1]; decide) ?_ this
 rw [hz1]
 have e1 : a.eval (.const (.int .u8 45)) = .int .u8 45 := rfl
 simp only [List.map_toArray, List.map_cons, List.map_nil, hx, e1]
 have hh : Instr.fill (fun i => some (i * 1, 1)) (Array.map (fun x => (Value.int IntKind.u8 0).cells[x % (Value.int IntKind.u8 0).cells.size]!) (Array.range (2 * 1))) [(0, Value.int IntKind.u8 (q.toNat : Int)), (1, Value.int IntKind.u8 45)] = some #[Value.int IntKind.u8 (q.toNat : Int), Value.int IntKind.u8 45] := by kernel_rfl
 exact hh
def allQ : List UInt8 := [116, 105, 97, 100, 104, 99]
def nameD (q : UInt8) (n : Int) : Nm := if allQ.contains q = true ∧ 1 ≤ n ∧ n ≤ 999999999 then [q, 45] ++ numD n.toNat else []
set_option maxHeartbeats 8000000 in
theorem name_calls (q : UInt8) (n : Int) (w : World) (hI : 0 ≤ n → n ≤ 999999999 → ItoaOk n.toNat w) :
 Calls Tryz.prog 12 #[.int .u8 q.toNat, .int .i64 n] w fun e w' => e = .returned (.string (strL (nameD q n))) ∧ Below w.heap.size w w' := by
 have hin := in_calls allQ q w
 have hst : strL allQ = ⟨#[116, 105, 97, 100, 104, 99]⟩ := rfl
 rw [hst] at hin
 obtain ⟨qn, hqn⟩ : ∃ qn : Nat, q.toNat = qn := ⟨_, rfl⟩
 obtain ⟨b, hb⟩ : ∃ b, allQ.contains q = b := ⟨_, rfl⟩
 have Hn : Hid (nameD q n = if b = true ∧ 1 ≤ n ∧ n ≤ 999999999 then [q, 45] ++ numD n.toNat else []) := Lib.hid (by unfold nameD; rw [hb])
 rw [hb] at hin
 have Hin := Lib.hid hin
 clear hin hst hb
 cases b with
 | false =>
  have Hn2 : Hid (nameD q n = []) := Lib.hid (by rw [Hn.out, if_neg (by simp)])
  clear hI hqn
  go_enter Tryz.func12, Tryz.ntmps12
  go_wp2_with fail
  refine (Hin.out).mono ?_; rintro e w1 ⟨rfl, rfl⟩
  go_wp2
  go_ret
  rw [Hn2.out]
  exact ⟨rfl, Below.refl _ _⟩
 | true =>
  by_cases h0 : n < 1
  ·have Hn2 : Hid (nameD q n = []) := Lib.hid (by rw [Hn.out, if_neg (by omega)])
   clear hI hqn
   go_enter Tryz.func12, Tryz.ntmps12
   go_wp2_with fail
   refine (Hin.out).mono ?_; rintro e w1 ⟨rfl, rfl⟩
   go_wp2
   go_ret
   rw [Hn2.out]
   exact ⟨rfl, Below.refl _ _⟩
  ·by_cases h1 : 999999999 < n
   ·have Hn2 : Hid (nameD q n = []) := Lib.hid (by rw [Hn.out, if_neg (by omega)])
    clear hI hqn
    go_enter Tryz.func12, Tryz.ntmps12
    go_wp2_with fail
    refine (Hin.out).mono ?_; rintro e w1 ⟨rfl, rfl⟩
    go_wp2
    go_ret
    rw [Hn2.out]
    exact ⟨rfl, Below.refl _ _⟩
   ·obtain ⟨k, rfl⟩ := Int.eq_ofNat_of_zero_le (show 0 ≤ n by omega)
    have hk : k ≤ 999999999 := by omega
    have hI' := hI (by omega) (by omega)
    rw [Int.toNat_natCast] at hI'
    have hn : nameD q (k : Int) = [q, 45] ++ (List.replicate (9 - (Lib.decDigits k).length) 48 ++ Lib.decDigits k) := by rw [Hn.out, if_pos ⟨rfl, by omega, by omega⟩, Int.toNat_natCast]; rfl
    have hd := digits_le hk
    have hc := hI' w (GB.refl _)
    obtain ⟨ds, hds⟩ : ∃ ds, Lib.decDigits k = ds := ⟨_, rfl⟩
    rw [hds] at hc hn hd
    obtain ⟨s, hs⟩ : ∃ s, strL ds = s := ⟨_, rfl⟩
    have hsz : s.size = ds.length := by rw [← hs, strL_size]
    rw [hs] at hc
    have hdi : (s.size : Int) ≤ 9 := by omega
    have hr := fun w => repeat_calls (9 - ds.length) (by omega) w
    obtain ⟨z, hz⟩ : ∃ z, strL (List.replicate (9 - ds.length) 48) = z := ⟨_, rfl⟩
    have hzl : z.size = 9 - ds.length := by rw [← hz, strL_size, List.length_replicate]
    obtain ⟨qs, hqs⟩ : ∃ qs, strL [q, 45] = qs := ⟨_, rfl⟩
    have hql : qs.size = 2 := by rw [← hqs, strL_size]; rfl
    have ha1 : qs.size + z.size ≤ 9223372036854775807 := by omega
    have ha2 : qs.size + z.size + s.size ≤ 9223372036854775807 := by omega
    have hi1 : ¬ (9223372036854775807 < qs.size + z.size) := by omega
    have hi2 : ¬ (9223372036854775807 < qs.size + z.size + s.size) := by omega
    clear ha1 ha2
    rw [hz] at hr
    have hcast : ((9 - ds.length : Nat) : Int) = 9 - (s.size : Int) := by omega
    rw [hcast] at hr
    have Hfin : Hid (Ending.returned (.string (qs ++ z ++ s)) = .returned (.string (strL (nameD q (k : Int))))) := Lib.hid (by rw [hn, ← strL_append, ← strL_append, hs, hz, hqs, ByteArray.append_assoc])
    have hwr : IntKind.i64.wrap (9 - (s.size : Int)) = 9 - (s.size : Int) := IntWalk.i64_in _ (by omega)
    have Hr := Lib.hid hr
    have Hc := Lib.hid hc
    have Hqs := Lib.hid hqs
    clear hI hI' hd hc hds hs hsz hr hz hcast hzl hn hqs hql hqn
    go_enter Tryz.func12, Tryz.ntmps12
    go_wp2_with fail
    refine (Hin.out).mono ?_; rintro e w0 ⟨rfl, hw0⟩; have hw0 := hw0.symm; subst hw0
    go_wp2_with fail
    refine (Hc.out).mono ?_; rintro e w1 ⟨rfl, hb1⟩
    have hb_w1d := hb1.drew
    have HS : Hid ((fun w' => Hid (Below w.heap.size w w')) w1.drew) := Lib.hid (Lib.hid hb_w1d)
    go_upto_region 4 with fail
    refine wp_region_noPanic ?_
    refine wp_region_held_drew (S := (fun w' => Hid (Below w.heap.size w w'))) (by kernel_rfl) (by first | with_reducible exact HS.out | exact Lib.hid (by with_reducible assumption)) (fun hHeld => ?_)
    refine tkH 0 ?_
    try simp only [Act.put, List.setIfInBounds_toArray, List.set_cons_zero, List.set_cons_succ]
    refine tkH 3 ?_
    try simp only [Act.put, List.setIfInBounds_toArray, List.set_cons_zero, List.set_cons_succ]
    refine tkH 4 ?_
    try simp only [Act.put, List.setIfInBounds_toArray, List.set_cons_zero, List.set_cons_succ]
    refine tkH 5 ?_
    try simp only [Act.put, List.setIfInBounds_toArray, List.set_cons_zero, List.set_cons_succ]
    refine tkH 8 ?_
    try simp only [Act.put, List.setIfInBounds_toArray, List.set_cons_zero, List.set_cons_succ]
    refine wpAnyH_ready (rs := [1, 6]) (by kernel_rfl) (by simp) ?_
    refine AllReadyH.cons (o := _) (by simp only [List.getElem?_toArray, List.getElem?_cons_succ, List.getElem?_cons_zero]; rfl) (fun K hK => ?_) (AllReadyH.cons (o := _) (by simp only [List.getElem?_toArray, List.getElem?_cons_succ, List.getElem?_cons_zero]; rfl) (fun K hK => ?_) (AllReadyH.nil))
    ·skip
     refine step_buildB rfl (by rfl) (by rfl) ?_; rintro g xa hrb_xa hd_xa; have hb_xa := hb_w1d.trans (hd_xa.mono hb_w1d.size)
     refine hK.out _ _ (by (try dsimp only); first | with_reducible exact HS.out | exact Lib.hid (by with_reducible assumption)) (fun hHeld => ?_)
     clear hK K
     try simp only [Act.put, List.setIfInBounds_toArray, List.set_cons_zero, List.set_cons_succ]
     refine wpAnyH_ready (rs := [2, 6]) (by kernel_rfl) (by simp) ?_
     refine AllReadyH.cons (o := _) (by simp only [List.getElem?_toArray, List.getElem?_cons_succ, List.getElem?_cons_zero]; rfl) (fun K hK => ?_) (AllReadyH.cons (o := _) (by simp only [List.getElem?_toArray, List.getElem?_cons_succ, List.getElem?_cons_zero]; rfl) (fun K hK => ?_) (AllReadyH.nil))
     ·skip
      have hconv := run_strL hrb_xa; rw [Hqs.out] at hconv; go_simp
      refine hK.out _ _ (by (try dsimp only); first | with_reducible exact HS.out | exact Lib.hid (by with_reducible assumption)) (fun hHeld => ?_)
      clear hK K
      try simp only [Act.put, List.setIfInBounds_toArray, List.set_cons_zero, List.set_cons_succ]
      refine rdH 6 fun K hK => ?_
      go_simp
      go_at_call 46; refine (Hr.out xa).mono ?_; rintro e xb ⟨rfl, hd_xb⟩; have hb_xb := hb_xa.trans (hd_xb.mono hb_xa.size); have hend := hb_xb
      refine hK.out _ _ (by (try dsimp only); first | with_reducible exact HS.out | exact Lib.hid (by with_reducible assumption)) (fun hHeld => ?_)
      clear hK K
      try simp only [Act.put, List.setIfInBounds_toArray, List.set_cons_zero, List.set_cons_succ]
      refine tkH 7 ?_
      try simp only [Act.put, List.setIfInBounds_toArray, List.set_cons_zero, List.set_cons_succ]
      refine tkH 9 ?_
      try simp only [Act.put, List.setIfInBounds_toArray, List.set_cons_zero, List.set_cons_succ]
      refine tkH 10 ?_
      try simp only [Act.put, List.setIfInBounds_toArray, List.set_cons_zero, List.set_cons_succ]
      refine wpAnyH_done (by kernel_rfl) ?_ _
      refine NoPanic.normal ?_
      go_wp2
      go_ret
      exact ⟨Hfin.out, hend⟩
     ·go_simp
      go_at_call 46; refine (Hr.out xa).mono ?_; rintro e xb ⟨rfl, hd_xb⟩; have hb_xb := hb_xa.trans (hd_xb.mono hb_xa.size); have hrb_xb := hrb_xa.below (Nat.le_refl _) hd_xb
      refine hK.out _ _ (by (try dsimp only); first | with_reducible exact HS.out | exact Lib.hid (by with_reducible assumption)) (fun hHeld => ?_)
      clear hK K
      try simp only [Act.put, List.setIfInBounds_toArray, List.set_cons_zero, List.set_cons_succ]
      refine rdH 2 fun K hK => ?_
      have hconv := run_strL hrb_xb; rw [Hqs.out] at hconv; go_simp; have hend := hb_xb
      refine hK.out _ _ (by (try dsimp only); first | with_reducible exact HS.out | exact Lib.hid (by with_reducible assumption)) (fun hHeld => ?_)
      clear hK K
      try simp only [Act.put, List.setIfInBounds_toArray, List.set_cons_zero, List.set_cons_succ]
      refine tkH 7 ?_
      try simp only [Act.put, List.setIfInBounds_toArray, List.set_cons_zero, List.set_cons_succ]
      refine tkH 9 ?_
      try simp only [Act.put, List.setIfInBounds_toArray, List.set_cons_zero, List.set_cons_succ]
      refine tkH 10 ?_
      try simp only [Act.put, List.setIfInBounds_toArray, List.set_cons_zero, List.set_cons_succ]
      refine wpAnyH_done (by kernel_rfl) ?_ _
      refine NoPanic.normal ?_
      go_wp2
      go_ret
      exact ⟨Hfin.out, hend⟩
    ·go_simp
     go_at_call 46; refine (Hr.out w1.drew).mono ?_; rintro e xa ⟨rfl, hd_xa⟩; have hb_xa := hb_w1d.trans (hd_xa.mono hb_w1d.size)
     refine hK.out _ _ (by (try dsimp only); first | with_reducible exact HS.out | exact Lib.hid (by with_reducible assumption)) (fun hHeld => ?_)
     clear hK K
     try simp only [Act.put, List.setIfInBounds_toArray, List.set_cons_zero, List.set_cons_succ]
     refine rdH 1 fun K hK => ?_
     refine step_buildB rfl (by rfl) (by rfl) ?_; rintro g xb hrb_xb hd_xb; have hb_xb := hb_xa.trans (hd_xb.mono hb_xa.size)
     refine hK.out _ _ (by (try dsimp only); first | with_reducible exact HS.out | exact Lib.hid (by with_reducible assumption)) (fun hHeld => ?_)
     clear hK K
     try simp only [Act.put, List.setIfInBounds_toArray, List.set_cons_zero, List.set_cons_succ]
     refine rdH 2 fun K hK => ?_
     have hconv := run_strL hrb_xb; rw [Hqs.out] at hconv; go_simp; have hend := hb_xb
     refine hK.out _ _ (by (try dsimp only); first | with_reducible exact HS.out | exact Lib.hid (by with_reducible assumption)) (fun hHeld => ?_)
     clear hK K
     try simp only [Act.put, List.setIfInBounds_toArray, List.set_cons_zero, List.set_cons_succ]
     refine tkH 7 ?_
     try simp only [Act.put, List.setIfInBounds_toArray, List.set_cons_zero, List.set_cons_succ]
     refine tkH 9 ?_
     try simp only [Act.put, List.setIfInBounds_toArray, List.set_cons_zero, List.set_cons_succ]
     refine tkH 10 ?_
     try simp only [Act.put, List.setIfInBounds_toArray, List.set_cons_zero, List.set_cons_succ]
     refine wpAnyH_done (by kernel_rfl) ?_ _
     refine NoPanic.normal ?_
     go_wp2
     go_ret
     exact ⟨Hfin.out, hend⟩
end Go.Proofs.YtffnbkmigapmjaaGreatDoor
set_option maxRecDepth 100000
namespace Go.Proofs.YtffnbkmigapmjaaGreatDoor
open Go.RowKit Go.Maps
abbrev Wh := List (Int × UInt8)
def entW (p : Int × UInt8) : Lit × DataW Unit := (.int .i64 p.1, .lit (.int .u8 (p.2.toNat : Int)))
def whD (l : Wh) : DataW Unit := .map (l.map entW)
def Wh.look (l : Wh) (n : Int) : Option UInt8 := (l.find? (fun p => p.1 == n)).map (·.2)
def Wh.ins (x : Int × UInt8) : Wh → Wh
 | [] => [x]
 | y :: r => if x.1 < y.1 then x :: y :: r else y :: Wh.ins x r
def Wh.del (l : Wh) (n : Int) : Wh := l.filter (fun p => !(p.1 == n))
def Wh.put (l : Wh) (n : Int) (x : UInt8) : Wh := (Wh.del l n).ins (n, x)
theorem same_int (a b : Int) : (Lit.int .i64 a).sameKey (.int .i64 b) = (a == b) := by
 by_cases h : a = b <;> simp [Lit.sameKey, h]
theorem whD_ins (x : Int × UInt8) : ∀ l : Wh, DataW.insert (entW x) (l.map entW) = (l.ins x).map entW
 | [] => rfl
 | y :: r => by
  rw [List.map_cons, DataW.insert, Wh.ins]
  show (if decide (x.1 < y.1) = true then _ else _) = _
  by_cases h : x.1 < y.1
  ·rw [if_pos (decide_eq_true h), if_pos h]; rfl
  ·rw [if_neg (by simpa using h), if_neg h, List.map_cons, whD_ins x r]
theorem wh_fun (n : Int) : ((fun p : Lit × DataW Unit => p.1.sameKey (.int .i64 n)) ∘ entW) = (fun p : Int × UInt8 => p.1 == n) := by
 funext p; exact same_int p.1 n
theorem wh_fun' (n : Int) : ((fun p : Lit × DataW Unit => !p.1.sameKey (.int .i64 n)) ∘ entW) = (fun p : Int × UInt8 => !(p.1 == n)) := by
 funext p; show (!(Lit.int .i64 p.1).sameKey (.int .i64 n)) = _; rw [same_int]
theorem whD_del (l : Wh) (n : Int) : (whD l).del (.int .i64 n) = whD (l.del n) := by
 unfold whD Wh.del
 show DataW.map _ = DataW.map _
 rw [List.filter_map, wh_fun']
theorem whD_put (l : Wh) (n : Int) (x : UInt8) : (whD l).put (.int .i64 n) (.lit (.int .u8 (x.toNat : Int))) = whD (l.put n x) := by
 unfold Wh.put
 show DataW.map (DataW.insert (entW (n, x)) _) = _
 unfold whD
 rw [← whD_ins, List.filter_map, wh_fun']
 rfl
theorem whD_has (l : Wh) (n : Int) : Maps.has (whD l) (.int .i64 n) = (l.look n).isSome := by
 unfold whD Wh.look
 rw [Maps.has_eq, List.any_map, Option.isSome_map]
 induction l with
 | nil => rfl
 | cons p r ih =>
  rw [List.any_cons, List.find?_cons, ih]
  show ((Lit.int .i64 p.1).sameKey (.int .i64 n) || _) = _
  rw [same_int]
  cases p.1 == n <;> rfl
theorem whD_at (l : Wh) (n : Int) (z : DataW Unit) : (whD l).atKey (.int .i64 n) z = match l.look n with | some x => DataW.lit (.int .u8 (x.toNat : Int)) | none => z := by
 unfold whD Wh.look
 unfold DataW.atKey
 dsimp only
 rw [List.find?_map, wh_fun]
 cases List.find? (fun p : Int × UInt8 => p.1 == n) l <;> rfl
abbrev WhAt (w : World) (b : Nat) (l : Wh) : Prop := w.ownsMap Tryz.prog 3 (plainElem Tryz.prog 5) b l.length (whD l)
theorem keyed_int : Keyed Tryz.prog 3 := int_keyed Tryz.underlying3
theorem zero_u8 (w : World) : (zeroValue 5).run Tryz.prog w = .ok (.int .u8 0) w := by kernel_rfl
theorem key_int (n : Int) (hn : -9223372036854775808 ≤ n ∧ n ≤ 9223372036854775807) : keyOf Tryz.prog 3 (.int .i64 n) = some (.int .i64 n) :=
 keyOf_int_mk Tryz.underlying3 (WalkArith.wf_i64 hn)
section
variable {w : World} {b n : Nat} {l : Wh}
theorem wh_fit (h : w.ownsMap Tryz.prog 3 (plainElem Tryz.prog 5) b n (whD l)) : WhAt w b l := by
 obtain ⟨es, clock, h1, h2, h3, h4⟩ := h
 refine ⟨es, clock, h1, h2, ?_, h4⟩
 unfold whD at h4
 have h5 : l.map entW = ((es.toList.map (Go.WideElems.rg Tryz.prog 3 (plainElem Tryz.prog 5))).foldr DataW.insert []) := by injection h4
 have h6 := congrArg List.length h5
 rw [length_sorted] at h6
 simp at h6
 omega
theorem wh_look (h : WhAt w b l) (k : Int) (hk : -9223372036854775808 ≤ k ∧ k ≤ 9223372036854775807) : (Instr.lookup 110 (.map (some b)) (.int .i64 k) false).run Tryz.prog w = .ok (.int .u8 (((l.look k).getD 0).toNat : Int)) w := by
 obtain ⟨c, hrun, hat, _⟩ := h.lookup_int keyed_int Tryz.underlying110 Tryz.underlying5 (zero_u8 w) (key_int k hk)
 rw [hrun]
 rw [whD_at] at hat
 cases hl : l.look k with
 | none => rw [hl] at hat; injection hat with hat; injection hat with _ hat; rw [← hat]; rfl
 | some x => rw [hl] at hat; injection hat with hat; injection hat with _ hat; rw [← hat]; rfl
theorem wh_put (h : WhAt w b l) (hl : l.length < maxLen) (k : Int) (hk : -9223372036854775808 ≤ k ∧ k ≤ 9223372036854775807) (x : UInt8) : ∃ w', (Instr.mapUpdate 110 (.map (some b)) (.int .i64 k) (.int .u8 x.toNat)).run Tryz.prog w = .ok () w' ∧ WhAt w' b (l.put k x) ∧ Keeps (fun j => j = b) w w' := by
 have hx : (Lit.int .u8 (x.toNat : Int)).wf = true := WalkArith.wf_u8 (by have := x.toNat_lt; omega)
 obtain ⟨w', h1, h2, h3⟩ := h.update keyed_int Tryz.underlying110 hl (key_int k hk) (plainElem_int Tryz.underlying5 hx)
 rw [whD_put] at h2
 exact ⟨w', h1, wh_fit h2, (Keeps.grown h3).mono (fun i _ e => (Option.some.inj e).symm)⟩
theorem wh_del (h : WhAt w b l) (k : Int) (hk : -9223372036854775808 ≤ k ∧ k ≤ 9223372036854775807) (ty : TypeId) : ∃ w', (Builtin.delete_ #[110, 3] ty #[.map (some b), .int .i64 k]).run Tryz.prog w = .ok (.tuple #[]) w' ∧ WhAt w' b (l.del k) ∧ Keeps (fun j => j = b) w w' := by
 obtain ⟨w', h1, h2, h3⟩ := h.drop keyed_int Tryz.underlying110 (key_int k hk) ty
 rw [whD_del] at h2
 exact ⟨w', h1, wh_fit h2, (Keeps.grown h3.grown).mono (fun i _ e => (Option.some.inj e).symm)⟩
theorem whMap_keeps {w' : World} {F : Nat → Prop} (h : WhAt w b l) (hk : Keeps F w w') (hF : ¬ F b) : WhAt w' b l := by
 obtain ⟨es, clock, h1, h2⟩ := h
 exact ⟨es, clock, hk.heap h1 hF, h2⟩
end
end Go.Proofs.YtffnbkmigapmjaaGreatDoor
