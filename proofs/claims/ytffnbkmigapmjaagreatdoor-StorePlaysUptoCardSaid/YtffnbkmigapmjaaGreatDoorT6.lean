/-
  What mark.Decode answers: the marks that bytes begin with.
  The walk of mark.Decode.
  A fate behind a mark: mark.step and pillarboxref10.Step compute the same.
  Slices of structs in memory; what mark.Fates and pillarboxref10.Fates compute, as plain data.
  Texts as lists of bytes.
-/
import Derived.Test.YtffnbkmigapmjaaGreatDoorT5
import Derived.RangeFuncCalls
import Derived.Laws.Concat
import Derived.Laws.BytesArg
set_option linter.unusedSimpArgs false
set_option linter.unusedVariables false
namespace Go.Proofs.YtffnbkmigapmjaaGreatDoor
open Go.RowKit Go.Shelf
attribute [local go_sem] Oper.semAt_some
set_option maxHeartbeats 1000000 in
theorem chunk1_nil_in (F : Fence) (n : Nat) (h7 : F.fn 190) (hro : F.round = none) (l B0 cap : Nat) (a : Option Addr) (J : List (Fin (parts 0)) → World → Prop) (W : World)
 (hs : W.cell? ⟨B0, 0, none⟩ = some (.slice a 0 cap)) (h0 : J [] W) :
 CallsIn F n Tryz.prog 190 #[.func (.yield l) #[] #[], .pointer (some ⟨B0, 0, none⟩), .pointer (some ⟨B0 + 1, 0, none⟩)] W fun e W' => (∃ v, e = .returned v) ∧ J [] W' := by
 refine callsIn_of_wp Tryz.func190 rfl h7 ?_ hro
 simp only [Tryz.ntmps190, List.size_toArray, List.length_cons, List.length_nil, Nat.reduceAdd, Nat.reduceSub, Array.replicate_succ, Array.replicate_zero, List.push_toArray, List.append_toArray, List.nil_append, List.cons_append]
 gi_wp2
 gi_loopw [4] (fun i wr => i = .int .i64 0 ∧ wr = W) (fun _ _ => 0)
 case atStart => exact ⟨rfl, rfl⟩
 case round =>
  obtain ⟨rfl, rfl⟩ := hrel
  gi_wp2
  go_end0
  exact ⟨⟨_, rfl⟩, h0⟩
theorem chunk_stops (F : Fence) (n : Nat) (h7 : F.fn 190) (hro : F.round = none) (hn : 1 ≤ n) (B0 b off len cap : Nat) (Fp : Nat → Prop) (hF0 : ¬ Fp B0) (hF1 : ¬ Fp (B0 + 1)) (a : Option Addr) (ha : len = 0 ∨ a = some ⟨b, off, none⟩) (hreach : len ≤ 140737488351232) (hcap : len ≤ cap) (hcap' : cap ≤ 9223372036854775807)
 (w : World) (hB0 : B0 + 1 < w.heap.size) (hs : w.cell? ⟨B0, 0, none⟩ = some (.slice a len cap)) (hm : w.cell? ⟨B0 + 1, 0, none⟩ = some (.int .i64 28)) :
 SeqStopsK F n Tryz.prog 190 #[.pointer (some ⟨B0, 0, none⟩), .pointer (some ⟨B0 + 1, 0, none⟩)] (fun x : Fin (parts len) => #[partV b off len x.1]) (Keeps Fp)
  (fun ys => ys = upTo (parts len)) (fun pre => ∃ k, k ≤ parts len ∧ pre = upTo k) (parts len) w := fun l J Jx W hW hJ hJx hY h0 => by
 have hs' := (hW.cell (p := ⟨B0, 0, none⟩) (by show B0 < _; omega)).trans hs
 have hm' := (hW.cell (p := ⟨B0 + 1, 0, none⟩) (by show B0 + 1 < _; omega)).trans hm
 by_cases hl : len = 0
 ·subst hl
  exact (chunk1_nil_in F n h7 hro l B0 cap a J W hs' h0).mono fun e W' ⟨he, hj⟩ => ⟨he, .inl ⟨[], by simp [upTo, parts], hj⟩⟩
 ·obtain rfl : a = some ⟨b, off, none⟩ := ha.resolve_left hl
  refine (chunk1_in F n h7 hro hn l B0 b off len cap Fp hF0 hF1 hreach (by omega) hcap hcap' J Jx hY W hs' hm' h0 ?_).mono ?_
  ·intro pre W1 h1
   exact hJ _ _ _ none h1 ⟨rfl, rfl, rfl, Nat.le_refl _, fun _ _ _ => rfl⟩ (fun r e => by cases e)
  ·rintro e W' ⟨he, ⟨ys, rfl, hj⟩ | ⟨pre, ⟨k, hk, rfl⟩, hj⟩⟩
   ·exact ⟨he, .inl ⟨_, rfl, hj⟩⟩
   ·exact ⟨he, .inr ⟨_, ⟨k, hk, rfl⟩, hj⟩⟩
def chunkAt (bs : List UInt8) (k : Nat) : List UInt8 := (bs.drop (28 * k)).take 28
def chunkM (bs : List UInt8) (k : Nat) : Option MarkD := if (chunkAt bs k).length < 28 then none else parseMark (chunkAt bs k)
def decodeN : Nat → List UInt8 → List MarkD
 | 0, _ => []
 | n + 1, bs => if bs.length < 28 then [] else match parseMark (bs.take 28) with
  | none => []
  | some k => k :: decodeN n (bs.drop 28)
def decodeM (bs : List UInt8) : List MarkD := decodeN 4096 bs
def msOf (bs : List UInt8) {m : Nat} (pre : List (Fin m)) : List MarkD := pre.filterMap fun x => chunkM bs x.1
def msR (bs : List UInt8) (k : Nat) : List MarkD := (List.range k).filterMap (chunkM bs)
theorem chunkM_zero (bs : List UInt8) : chunkM bs 0 = if bs.length < 28 then none else parseMark (bs.take 28) := by
 have h : (chunkAt bs 0).length < 28 ↔ bs.length < 28 := by simp [chunkAt]; omega
 unfold chunkM
 by_cases hl : bs.length < 28
 ·rw [if_pos (h.2 hl), if_pos hl]
 ·rw [if_neg (fun e => hl (h.1 e)), if_neg hl]; rfl
theorem chunkM_drop (bs : List UInt8) (k : Nat) : chunkM (bs.drop 28) k = chunkM bs (k + 1) := by
 have h : chunkAt (bs.drop 28) k = chunkAt bs (k + 1) := by unfold chunkAt; rw [List.drop_drop]; congr 2; omega
 unfold chunkM; rw [h]
theorem decodeN_good (k : Nat) : ∀ (n : Nat) (bs : List UInt8), (∀ j, j < k → (chunkM bs j).isSome = true) → decodeN (k + n) bs = msR bs k ++ decodeN n (bs.drop (28 * k)) := by
 induction k with
 | zero => intro n bs _; simp [msR]
 | succ k ih =>
  intro n bs h
  have h0 := h 0 (by omega)
  rw [chunkM_zero] at h0
  by_cases hl : bs.length < 28
  ·rw [if_pos hl] at h0; cases h0
  ·rw [if_neg hl] at h0
   obtain ⟨x, hx⟩ := Option.isSome_iff_exists.1 h0
   have hz : chunkM bs 0 = some x := by rw [chunkM_zero, if_neg hl, hx]
   rw [show k + 1 + n = (k + n) + 1 by omega, decodeN, if_neg hl, hx]
   simp only
   rw [ih n (bs.drop 28) (fun j hj => by rw [chunkM_drop]; exact h (j + 1) (by omega))]
   have hm : msR bs (k + 1) = x :: msR (bs.drop 28) k := by
    unfold msR
    rw [List.range_succ_eq_map, List.filterMap_cons, hz, List.filterMap_map]
    have hf : chunkM bs ∘ Nat.succ = chunkM (bs.drop 28) := by funext j; exact (chunkM_drop bs j).symm
    rw [hf]
   rw [hm, List.drop_drop, List.cons_append, show 28 + 28 * k = 28 * (k + 1) by omega]
theorem decodeM_stop (bs : List UInt8) (k : Nat) (h : ∀ j, j < k → (chunkM bs j).isSome = true) (hk : k ≤ 4096) (hs : k = 4096 ∨ chunkM bs k = none) : decodeM bs = msR bs k := by
 unfold decodeM
 rw [show 4096 = k + (4096 - k) by omega, decodeN_good k _ bs h]
 rcases hs with rfl | hs
 ·simp [decodeN]
 ·have : decodeN (4096 - k) (bs.drop (28 * k)) = [] := by
   cases hn : 4096 - k with
   | zero => rfl
   | succ n =>
    have hz : chunkM (bs.drop (28 * k)) 0 = none := by
     rw [← hs]; unfold chunkM; rw [show chunkAt (bs.drop (28 * k)) 0 = chunkAt bs k by simp [chunkAt]]
    rw [chunkM_zero] at hz
    rw [decodeN]
    by_cases hl : (bs.drop (28 * k)).length < 28
    ·rw [if_pos hl]
    ·rw [if_neg hl] at hz ⊢; rw [hz]
  rw [this, List.append_nil]
theorem chunkM_end (bs : List UInt8) : chunkM bs (parts bs.length) = none := by
 have : (chunkAt bs (parts bs.length)).length < 28 := by simp [chunkAt, parts]; omega
 rw [chunkM, if_pos this]
theorem msOf_upTo (bs : List UInt8) {m k : Nat} (hk : k ≤ m) : msOf bs (upTo (m := m) k) = msR bs k := by
 induction k with
 | zero => simp [msOf, upTo, msR]
 | succ k ih =>
  have ih := ih (by omega)
  rw [upTo_succ (by omega : k < m), msR, List.range_succ, List.filterMap_append]
  unfold msOf at ih ⊢
  rw [List.filterMap_append, ih]
  rfl
theorem msOf_length (bs : List UInt8) {m : Nat} (pre : List (Fin m)) (h : ∀ x ∈ pre, (chunkM bs x.1).isSome = true) : (msOf bs pre).length = pre.length := by
 induction pre with
 | nil => rfl
 | cons x pre ih =>
  obtain ⟨k, hk⟩ := Option.isSome_iff_exists.1 (h x (by simp))
  have := ih (fun y hy => h y (by simp [hy]))
  unfold msOf at this ⊢
  rw [List.filterMap_cons, hk]; simp [this]
theorem mem_upTo {m k : Nat} (hk : k ≤ m) {j : Nat} (hj : j < k) : (⟨j, by omega⟩ : Fin m) ∈ upTo (m := m) k := by
 unfold upTo
 rw [List.mem_take_iff_getElem]
 exact ⟨j, by simp; omega, by simp⟩
theorem decode_done (bs : List UInt8) (h : ∀ x ∈ upTo (m := parts bs.length) (parts bs.length), (chunkM bs x.1).isSome = true) (hl : (upTo (m := parts bs.length) (parts bs.length)).length ≤ 4096) : decodeM bs = msOf bs (upTo (m := parts bs.length) (parts bs.length)) := by
 rw [upTo_length (Nat.le_refl _)] at hl
 rw [msOf_upTo bs (Nat.le_refl _)]
 exact decodeM_stop bs _ (fun j hj => h _ (mem_upTo (Nat.le_refl _) hj)) hl (.inr (chunkM_end bs))
theorem decode_stop (bs : List UInt8) (k : Nat) (hk : k ≤ parts bs.length) (hne : (upTo (m := parts bs.length) k) ≠ []) (h : ∀ x ∈ (upTo (m := parts bs.length) k).dropLast, (chunkM bs x.1).isSome = true) (hl : (upTo (m := parts bs.length) k).dropLast.length ≤ 4096)
 (hs : (upTo (m := parts bs.length) k).dropLast.length = 4096 ∨ ∃ x, (upTo (m := parts bs.length) k).getLast? = some x ∧ chunkM bs x.1 = none) : decodeM bs = msOf bs (upTo (m := parts bs.length) k).dropLast := by
 cases k with
 | zero => exact absurd (by simp [upTo]) hne
 | succ k =>
  rw [upTo_succ (by omega : k < parts bs.length)] at *
  rw [List.dropLast_concat] at *
  rw [upTo_length (by omega)] at hl hs
  rw [msOf_upTo bs (by omega)]
  refine decodeM_stop bs k (fun j hj => h _ (mem_upTo (by omega) hj)) hl ?_
  rcases hs with hs | ⟨x, hx, hn⟩
  ·exact .inl hs
  ·rw [List.getLast?_concat] at hx; cases hx; exact .inr hn
theorem rdB_part {W : World} {b off cap : Nat} {bs : List UInt8} (h : RdB W (.slice (some ⟨b, off, none⟩) bs.length cap) bs) (k : Nat) (hk : 28 * k < bs.length) :
 RdB W (partV b off bs.length k) (chunkAt bs k) ∧ (chunkAt bs k).length = min 28 (bs.length - 28 * k) := by
 have hl : (chunkAt bs k).length = min 28 (bs.length - 28 * k) := by simp [chunkAt]
 refine ⟨?_, hl⟩
 rcases h with ⟨_, _, _, _, h⟩ | ⟨b', off', cap', h, _, _, h3, h4, h5⟩
 ·subst h; simp at hk
 ·cases h
  refine .inr ⟨b, off + 28 * k, min 28 (bs.length - 28 * k), ?_, ?_, by omega, by omega, h4, fun j x hx => ?_⟩
  ·rw [hl]; rfl
  ·rw [← List.length_pos_iff]; omega
  ·have hj := (List.getElem?_eq_some_iff.1 hx).1
   rw [hl] at hj
   unfold chunkAt at hx
   rw [List.getElem?_take, if_pos (by omega), List.getElem?_drop] at hx
   rw [Nat.add_assoc]
   exact h5 _ x hx
end Go.Proofs.YtffnbkmigapmjaaGreatDoor
namespace Go.Proofs.YtffnbkmigapmjaaGreatDoor
open Go.RowKit Go.Shelf
attribute [local go_sem] Oper.semAt_some
theorem infoMark : (Tryz.prog.info? 53).map (fun i => (i.zero, i.size, i.bytes)) = some (some (.agg #[.int .i64 0, .int .i64 0, .int .i64 0]), 3, 24) := by kernel_rfl
def DecDone (w : World) (bs : List UInt8) (e : Ending) (w' : World) : Prop :=
 ∃ v, e = .returned (.tuple #[v, .int .i64 (28 * ((decodeM bs).length : Int))]) ∧ w'.ownsRow w.heap.size 53 3 v (decodeM bs).length ((decodeM bs).flatMap MarkD.cells) ∧ Below w.heap.size w w'
def DecGo (bs : List UInt8) (w : World) (pre : List (Fin (parts bs.length))) (W : World) : Prop := (∃ v, Boxed W w.heap.size 41 v ∧ W.ownsRow (w.heap.size + 3) 53 3 v (msOf bs pre).length ((msOf bs pre).flatMap MarkD.cells) ∧ ((∀ x ∈ pre, (chunkM bs x.1).isSome = true) ∧ pre.length ≤ 4096)) ∧ Below w.heap.size w W
def DecStop (bs : List UInt8) (w : World) (c : Code) (pre : List (Fin (parts bs.length))) (W : World) : Prop := (∃ v, Boxed W w.heap.size 41 v ∧ W.ownsRow (w.heap.size + 3) 53 3 v (msOf bs pre.dropLast).length ((msOf bs pre.dropLast).flatMap MarkD.cells) ∧ (c = .exit 0 ∧ pre ≠ [] ∧ (∀ x ∈ pre.dropLast, (chunkM bs x.1).isSome = true) ∧ pre.dropLast.length ≤ 4096 ∧ (pre.dropLast.length = 4096 ∨ ∃ x, pre.getLast? = some x ∧ chunkM bs x.1 = none))) ∧ Below w.heap.size w W
theorem cells_len (ms : List MarkD) : (ms.flatMap MarkD.cells).length = ms.length * 3 := by
 induction ms with
 | nil => rfl
 | cons k ms ih => simp only [List.flatMap_cons, List.length_append, ih, List.length_cons]; simp [MarkD.cells]; omega
theorem cells_one (ms : List MarkD) : ∀ u ∈ ms.flatMap MarkD.cells, u.oneCell' = true := by
 intro u hu
 obtain ⟨k, _, hk⟩ := List.mem_flatMap.1 hu
 simp [MarkD.cells] at hk
 rcases hk with rfl | rfl | rfl <;> rfl
theorem msOf_snoc (bs : List UInt8) {m : Nat} (pre : List (Fin m)) (x : Fin m) {k : MarkD} (h : chunkM bs x.1 = some k) : msOf bs (pre ++ [x]) = msOf bs pre ++ [k] := by
 unfold msOf; rw [List.filterMap_append]; simp [h]
theorem KeepsFrom.ofBelow {B : Nat} {W W1 : World} (h : Below W.heap.size W W1) : KeepsFrom B W W1 :=
 ⟨h.size, fun k o _ hk _ => (h.block k (Array.getElem?_eq_some_iff.1 hk).1).trans hk⟩
theorem dec_append {B base : Nat} {t e : TypeId} {size : Nat} {v v' : Value} {k m : Nat} {xs ys : List Value} {o : Obj} {tmp : Obj} {W0 W w1 : World}
 (hW : W = W0.alloc o)
 (hv : Boxed W B t v) (hte : t ≠ e) (hrow : W0.ownsRow base e size v k xs) (hB : B < base)
 (hown' : w1.ownsRow base e size v' m ys) (hgrow : (W.alloc tmp).grownBy w1 v.ownBlock) :
 w1.cell? ⟨B, 0, none⟩ = some v ∧ w1.frozen? ⟨B, 0, none⟩ = false ∧ Boxed (w1.setCell ⟨B, 0, none⟩ v') B t v' ∧ (w1.setCell ⟨B, 0, none⟩ v').ownsRow base e size v' m ys ∧ KeepsOthers W (w1.setCell ⟨B, 0, none⟩ v') ∧ Keeps (fun k => k = B ∨ base ≤ k) W (w1.setCell ⟨B, 0, none⟩ v') := by
 subst hW
 obtain ⟨a1, a2, a3, a4, a5⟩ := hv.appended hte (own_mono (hrow.alloc o) (Nat.le_of_lt hB)) (Nat.le_of_lt hv.lt) (Nat.le_refl _) (own_mono hown' (Nat.le_of_lt hB)) hgrow
 refine ⟨a1.cell, a1.frozen, a2, hown'.kept (grownBy_setCell' w1 B v') (.inr (a1.not_row hte hown').symm), a4, ?_⟩
 refine ((Keeps.alloc _ _ tmp).trans ((Keeps.grown hgrow).mono fun i hi he => .inr (own_base hrow i he))).trans (Keeps.setCell _ ⟨B, 0, none⟩ v' (.inl rfl))
set_option maxRecDepth 100000 in
set_option maxHeartbeats 2000000 in
theorem markDecode_in (a : Option Addr) (cap : Nat) (bs : List UInt8) (w : World) (hv : RdB w (.slice a bs.length cap) bs) (hlen : bs.length ≤ 140737488351232) :
 CallsIn Fence.wide 9 Tryz.prog 105 #[.slice a bs.length cap] w (DecDone w bs) := by
 obtain ⟨b, off, ha⟩ : ∃ b off, bs.length = 0 ∨ a = some ⟨b, off, none⟩ := by
  rcases hv with ⟨_, _, _, _, h⟩ | ⟨b, off, _, h, _⟩
  ·exact ⟨0, 0, .inl (by rw [h]; rfl)⟩
  ·cases h; exact ⟨b, off, .inr rfl⟩
 obtain ⟨_, _, hfm, hcap, hcap'⟩ := hv.form
 cases hfm
 obtain ⟨i0, hi, hz0, hz1, hz2⟩ := info_parts infoMark
 have hro : Fence.wide.round = none := rfl
 have h1 : 1 ≤ 9 := by omega
 refine callsIn_of_wp_marks Tryz.func105 rfl trivial ?_ hro
 simp only [Tryz.ntmps105, List.size_toArray, List.length_cons, List.length_nil, Nat.reduceAdd, Nat.reduceSub, Array.replicate_succ, Array.replicate_zero, List.push_toArray, List.append_toArray, List.nil_append, List.cons_append]
 gi_wp2_with (refine ⟨trivial, ?_⟩; gi_at_call 146; refine (chunk_in Fence.wide (9 - 1) trivial hro _ _ _ _).mono ?_; rintro e w' ⟨rfl, rfl⟩)
 have bO := Boxed.new w 41 (.slice none 0 0)
 have hW0 : Below w.heap.size w (((w.alloc (.cells #[.slice none 0 0] 41)).alloc (.cells #[.slice a bs.length cap] 22)).alloc (.cells #[.int .i64 28] 3)) := (((Below.refl _ w).alloc (Nat.le_refl _) _).alloc (by simp) _).alloc (by simp; omega) _
 refine wpIn_rangeFunc_ownG hro h1 (gf := 190) (lb := #[.pointer (some ⟨w.heap.size + 1, 0, none⟩), .pointer (some ⟨w.heap.size + 2, 0, none⟩)]) rfl trivial (enters_of Tryz.func190 (by kernel_rfl) rfl)
  (chunk_stops Fence.wide (9 - 1) trivial hro (by omega) (w.heap.size + 1) b off bs.length cap (fun k => k = w.heap.size ∨ w.heap.size + 3 ≤ k) (by omega) (by omega) a ha hlen hcap hcap' _ (by simp) (by go_simp) (by go_simp)) (fun h1 h2 => Keeps.trans h1 h2) (fun W l o o' hl _ _ _ => (Keeps.grown (grownBy_putObj' W l o')).mono (fun i _ e => by cases e; right; simp at hl; omega)) (Below.refl _ _) (fun _ => rfl)
  (DecGo bs w)
  (DecStop bs w)
  (OwnFrom.and (Own.from (holdsRow_own (w.heap.size + 3) w.heap.size 41 53 3 (fun pre => (msOf bs pre).length) (fun pre => (msOf bs pre).flatMap MarkD.cells) (fun pre v => (∀ x ∈ pre, (chunkM bs x.1).isSome = true) ∧ pre.length ≤ 4096)) _) (ownFrom_below (Nat.le_refl _) (by simp; omega)))
  (fun c => OwnFrom.and (Own.from (holdsRow_own (w.heap.size + 3) w.heap.size 41 53 3 (fun pre => (msOf bs pre.dropLast).length) (fun pre => (msOf bs pre.dropLast).flatMap MarkD.cells) (fun pre v => c = .exit 0 ∧ pre ≠ [] ∧ (∀ x ∈ pre.dropLast, (chunkM bs x.1).isSome = true) ∧ pre.dropLast.length ≤ 4096 ∧ (pre.dropLast.length = 4096 ∨ ∃ x, pre.getLast? = some x ∧ chunkM bs x.1 = none))) _) (ownFrom_below (Nat.le_refl _) (by simp; omega)))
  ⟨⟨_, (bO.alloc _).alloc _, World.ownsRow_nil _ _ _ _, by simp, by simp⟩, hW0⟩
  (fun x => { tmps := #[.slice a bs.length cap, undef, .slice none 0 0, .int .i64 0, .pointer (some ⟨w.heap.size, 0, none⟩), partV b off bs.length x.1, undef, undef, .slice a bs.length cap, .func (.func 190) #[] #[.pointer (some ⟨w.heap.size + 1, 0, none⟩), .pointer (some ⟨w.heap.size + 2, 0, none⟩)], partV b off bs.length x.1, undef, undef, undef, undef, undef, undef, undef, undef, undef, undef, undef, undef, undef, undef, undef, undef, undef, undef, undef, undef, undef, undef, undef], defers := [] }) ?assign ?body ?done ?stop
 case assign =>
  intro l x W K hK
  gi_wp2
  exact hK
 case body =>
  rintro l pre x W ⟨⟨v, hv1, hrow, hgood, hpl⟩, hB⟩ hlt
  have hml := msOf_length bs _ hgood
  have hxlt : 28 * x.1 < bs.length := by have := x.2; unfold parts at this; omega
  obtain rfl : a = some ⟨b, off, none⟩ := ha.resolve_left (by omega)
  obtain ⟨hpart, hpl2⟩ := rdB_part hv x.1 hxlt
  have hpartW := hpart.below (Nat.le_refl _) hB
  obtain ⟨aa, ac, rfl⟩ := own_form0 hrow
  have hc := hv1.cell
  have hpv : partV b off bs.length x.1 = .slice (some ⟨b, off + 28 * x.1, none⟩) (chunkAt bs x.1).length (chunkAt bs x.1).length := by rw [hpl2]; rfl
  rw [hpv] at hpartW
  obtain ⟨nn, hnn⟩ : ∃ nn, (msOf bs pre).length = nn := ⟨_, rfl⟩
  obtain ⟨pl, hplq⟩ : ∃ pl, (chunkAt bs x.1).length = pl := ⟨_, rfl⟩
  rw [hnn] at hc hml
  rw [hplq] at hpartW hpv
  have hdl : (pre ++ [x]).dropLast = pre := List.dropLast_concat
  have hgl : (pre ++ [x]).getLast? = some x := List.getLast?_concat
  by_cases hsmall : pl < 28
  ·have hnone : chunkM bs x.1 = none := by rw [chunkM, hplq, if_pos hsmall]
   have hix : DecStop bs w (.exit 0) (pre ++ [x]) W := by
    unfold DecStop; rw [hdl, hgl]
    exact ⟨⟨_, hv1, hrow, rfl, by simp, hgood, hpl, .inr ⟨x, rfl, hnone⟩⟩, hB⟩
   have Hix := Lib.hid hix
   clear hix hgood hdl hgl hnone
   gi_wp2
   exact ⟨KeepsFrom.refl _ _, Hix.out⟩
  ·have hp28 : (chunkAt bs x.1).length = 28 := by omega
   obtain rfl : pl = 28 := by omega
   by_cases hfull : nn = 4096
   ·have hix : DecStop bs w (.exit 0) (pre ++ [x]) W := by
     unfold DecStop; rw [hdl]
     exact ⟨⟨_, hv1, hrow, rfl, by simp, hgood, hpl, .inl (by omega)⟩, hB⟩
    have Hix := Lib.hid hix
    have htest : ((nn : Int) == 4096) = true := by rw [hfull]; rfl
    clear hix hgood hdl hgl hfull
    gi_wp2
    exact ⟨KeepsFrom.refl _ _, Hix.out⟩
   ·have htest : ((nn : Int) == 4096) = false := by rw [beq_eq_false_iff_ne]; omega
    have hlen28 : (parseMark (chunkAt bs x.1)) = chunkM bs x.1 := by rw [chunkM, if_neg (by omega)]
    gi_wp2_with fail
    refine ⟨trivial, ?_⟩
    refine (CallsIn.inRound l ((callsIn_wide (n := 6)).2 (markRead_calls _ _ W hpartW hp28))).mono ?_; rintro e W1 ⟨k, ok, rfl, hok, hk, hb1⟩
    have hvW1 : Boxed W1 w.heap.size 41 (.slice aa nn ac) := hnn ▸ (hb1.block _ hv1.lt).trans hv1
    have hrowW1 : W1.ownsRow (w.heap.size + 3) 53 3 (.slice aa nn ac) nn ((msOf bs pre).flatMap MarkD.cells) := by have := own_below hrow hb1 (Nat.le_refl _); rwa [hnn] at this
    have hsz1 := hb1.size
    have hsz0 := hB.size
    by_cases hok1 : ok = false
    ·have hnone : chunkM bs x.1 = none := by
      rw [hok1, hlen28] at hok; cases h : chunkM bs x.1 with
      | none => rfl
      | some _ => rw [h] at hok; cases hok
     have hix : ∀ o, (∀ B, KeepsFrom B W (W1.alloc o)) ∧ DecStop bs w (.exit 0) (pre ++ [x]) (W1.alloc o) := by
      intro o
      have hb2 := hb1.alloc hsz1 o
      refine ⟨fun _ => KeepsFrom.ofBelow hb2, ?_⟩
      unfold DecStop; rw [hdl, hgl]
      exact ⟨⟨_, hvW1.alloc o, by rw [hnn]; exact hrowW1.alloc o, rfl, by simp, hgood, hpl, .inr ⟨x, rfl, hnone⟩⟩, hB.trans (hb2.mono (by omega))⟩
     have Hix := Lib.hid hix
     subst hok1
     clear hix hgood hdl hgl hnone hok hk hlen28
     gi_wp2
     exact ⟨(Hix.out _).1 _, (Hix.out _).2⟩
    ·have hok2 : ok = true := by
      cases ok with
      | true => rfl
      | false => exact absurd rfl hok1
     subst hok2
     have hsome : chunkM bs x.1 = some k := by
      rw [hlen28] at hok hk; cases h : chunkM bs x.1 with
      | none => rw [h] at hok; cases hok
      | some k' => rw [hk k' h]
     have hvW2 := hvW1.alloc (.cells #[.int .i64 k.kind, .int .i64 k.rcpt, .int .i64 k.n] 53)
     have hc1 := hvW2.cell
     have hdec : msOf bs (pre ++ [x]) = msOf bs pre ++ [k] := msOf_snoc bs pre x hsome
     have hgood2 : ∀ y ∈ pre ++ [x], (chunkM bs y.1).isSome = true := by
      intro y hy
      rcases List.mem_append.1 hy with hy | hy
      ·exact hgood y hy
      ·rw [List.mem_singleton.1 hy, hsome]; rfl
     have Hg := Lib.hid (And.intro hgood2 hdec)
     have hlen3 : ((msOf bs pre).flatMap MarkD.cells).length = nn * 3 := by rw [cells_len, hnn]
     have hcs1 : ∀ u ∈ k.cells, u.oneCell' = true := by intro u hu; exact cells_one [k] u (by simpa using hu)
     have hncell := news_new (W1.alloc (.cells #[.int .i64 k.kind, .int .i64 k.rcpt, .int .i64 k.n] 53)) k.cells 53 (0, 0)
     rw [World.size_alloc] at hncell
     have Hncell := Lib.hid hncell
     have Hcs1 := Lib.hid hcs1
     have hnb : nn < 4096 := by omega
     have hpb : pre.length + 1 ≤ 4096 := by omega
     have Hpb := Lib.hid hpb
     clear hpb
     have hbd1 : nn + 1 ≤ maxLen := by show nn + 1 ≤ 9223372036854775807; omega
     have hbd2 : (nn + 1) * 24 ≤ 140737488355328 := by omega
     have hbd3 : w.heap.size < W1.heap.size := by have := hv1.lt; omega
     clear hok hk hlen28 hgood hgood2 hdec hsome hdl hgl hncell hcs1 hml hpl
     gi_wp2_with (gi_at_builtin; refine wpListIn_append_own _ rfl _ _ 41 rfl (w.heap.size + 3) 53 i0 _ 3 24 Tryz.underlying41 hi hz0 hz1 hz2 rfl (by decide) _ _ _ rfl ((hrowW1.alloc _).alloc _) ⟨W1.heap.size + 1, 0, none⟩ 1 1 k.cells rfl rfl Hncell.out Hcs1.out hbd1 hbd2 (by simp; omega) ?_; intro v' w1 hown' hgrow _; obtain ⟨g', cap', rfl⟩ := ownsRow_succ hown'; obtain ⟨hc3, hf3, happ⟩ := dec_append rfl hvW2 (by decide) hrowW1 (by omega) hown' hgrow; have Happ := Lib.hid happ; clear happ hown' hgrow)
     obtain ⟨a2, a3, a4, a5⟩ := Happ.out
     have hb2 := hb1.alloc hsz1 (.cells #[.int .i64 k.kind, .int .i64 k.rcpt, .int .i64 k.n] 53)
     have hK5 := (Keeps.ofBelow (F := fun k => k = w.heap.size ∨ w.heap.size + 3 ≤ k) hb2).trans a5
     refine ⟨(KeepsFrom.ofBelow hb2).trans (a4.from _), hK5, ?_⟩
     unfold DecGo
     rw [Hg.out.2, List.length_append, List.length_singleton, hnn, List.flatMap_append, List.flatMap_singleton]
     exact ⟨⟨_, a2, a3, Hg.out.1, by rw [List.length_append, List.length_singleton]; exact Hpb.out⟩, hB.trans (hK5.below (fun i hi => by omega) hsz0)⟩
 case done =>
  rintro D ys W hD rfl ⟨⟨v, hv1, hrow, hgood, hpl⟩, hB⟩ hK
  have hdec := decode_done bs hgood hpl
  have hml := msOf_length bs _ hgood
  rw [← hdec] at hrow hml
  have hdl : (decodeM bs).length ≤ 4096 := by rw [hml]; exact hpl
  obtain ⟨aa, ac, rfl⟩ := own_form0 hrow
  have hc := hv1.cell
  clear hdec hml hgood hpl
  have hfin : DecDone w bs (.returned (.tuple #[.slice aa (decodeM bs).length ac, .int .i64 (28 * ((decodeM bs).length : Int))])) (W.drew.putObj D (.deferred none)) :=
   ⟨_, rfl, own_mono (ownsRow_putObj (W := W.drew) hrow _ hK rfl) (by omega), (hB.drew).trans (belowK_b (w := w) (Nat.le_refl _) W.drew D _ _ (by simp at hD; omega) hK rfl rfl)⟩
  have Hfin := Lib.hid hfin
  clear hfin
  obtain ⟨nn, hnn⟩ : ∃ nn, (decodeM bs).length = nn := ⟨_, rfl⟩
  rw [hnn] at hc hdl Hfin
  gi_wp2
  gi_region
  all_goals
   gi_wp2
   refine ⟨by simp, .inl ⟨_, _, rfl, run_takeDeferred (w := W.drew) hK, ?_⟩⟩
   refine ⟨_, results_tmp2 rfl _ _ _, ?_⟩
   have e1 : ∀ (x y : Value), x = .slice aa nn ac → y = .int .i64 (28 * (nn : Int)) → DecDone w bs (.returned (.tuple #[x, y])) (W.drew.putObj D (.deferred none)) := by
    rintro _ _ rfl rfl; exact Hfin.out
   refine e1 _ _ ?_ ?_
   ·rfl
   ·rfl
 case stop =>
  rintro D c pre W hD ⟨k, hk, rfl⟩ ⟨⟨v, hv1, hrow, rfl, hne, hgood, hpl, hst⟩, hB⟩ hK
  have hdec := decode_stop bs k hk hne hgood hpl hst
  have hml := msOf_length bs _ hgood
  rw [← hdec] at hrow hml
  have hdl : (decodeM bs).length ≤ 4096 := by rw [hml]; exact hpl
  obtain ⟨aa, ac, rfl⟩ := own_form0 hrow
  have hc := hv1.cell
  clear hdec hml hgood hpl hst hne
  have hfin : DecDone w bs (.returned (.tuple #[.slice aa (decodeM bs).length ac, .int .i64 (28 * ((decodeM bs).length : Int))])) (W.drew.putObj D (.deferred none)) :=
   ⟨_, rfl, own_mono (ownsRow_putObj (W := W.drew) hrow _ hK rfl) (by omega), (hB.drew).trans (belowK_b (w := w) (Nat.le_refl _) W.drew D _ _ (by simp at hD; omega) hK rfl rfl)⟩
  have Hfin := Lib.hid hfin
  clear hfin
  obtain ⟨nn, hnn⟩ : ∃ nn, (decodeM bs).length = nn := ⟨_, rfl⟩
  rw [hnn] at hc hdl Hfin
  gi_wp2
  gi_region
  all_goals
   gi_wp2
   refine ⟨by simp, .inl ⟨_, _, rfl, run_takeDeferred (w := W.drew) hK, ?_⟩⟩
   refine ⟨_, results_tmp2 rfl _ _ _, ?_⟩
   have e1 : ∀ (x y : Value), x = .slice aa nn ac → y = .int .i64 (28 * (nn : Int)) → DecDone w bs (.returned (.tuple #[x, y])) (W.drew.putObj D (.deferred none)) := by
    rintro _ _ rfl rfl; exact Hfin.out
   refine e1 _ _ ?_ ?_
   ·rfl
   ·rfl
theorem markDecode_calls (v : Value) (bs : List UInt8) (w : World) (hv : RdB w v bs) (hlen : bs.length ≤ 140737488351232) :
 Calls Tryz.prog 105 #[v] w (DecDone w bs) := by
 obtain ⟨a, cap, rfl, _⟩ := hv.form
 exact callsIn_wide.1 (markDecode_in a cap bs w hv hlen)
end Go.Proofs.YtffnbkmigapmjaaGreatDoor
namespace Go.Proofs.YtffnbkmigapmjaaGreatDoor
open Go.RowKit
structure FateD where
 state : Int
 tries : Int
 next : Int
 crashes : Int
 opened : Bool
abbrev FateD.cells (f : FateD) : List Value := [.int .i64 f.state, .int .i64 f.tries, .int .i64 f.next, .int .i64 f.crashes, .bool f.opened]
abbrev FateD.val (f : FateD) : Value := .agg #[.int .i64 f.state, .int .i64 f.tries, .int .i64 f.next, .int .i64 f.crashes, .bool f.opened]
theorem results_row1 {P : Program} {fn : Func} {p : Tmp} {ty : TypeId} (h : fn.results = #[.cell p ty]) (tmps : Array Value) (w : World) (g : Nat) (t : TypeId) (cs : Array Value) (fr : Nat × Nat) (d : TypeDesc)
 (hp : tmps.getD p undef = .pointer (some ⟨g, 0, none⟩)) (hg : w.heap[g]? = some (.cells cs t fr)) (hu : P.underlying ty = some d) (hd : (match d with | .struct _ | .array _ _ => true | _ => false) = true) (hi : (P.info? ty).map (·.size) = some cs.size) :
 (results fn tmps).run P w = .ok (.agg cs) w := by
 have hp' : tmps[p]?.getD undef = .pointer (some ⟨g, 0, none⟩) := by simpa using hp
 simp [results, h, hp', asAddr, run_loadVar_row w g t ty cs fr d hg hu hd hi]
theorem heap_new_at {w : World} {n : Nat} (o : Obj) (h : n = w.heap.size) : (w.alloc o).heap[n]? = some o := by rw [h]; exact heap_alloc_new w o
end Go.Proofs.YtffnbkmigapmjaaGreatDoor
namespace Go.Proofs.YtffnbkmigapmjaaGreatDoor
open Go.RowKit
def RdL {α : Type} (s : Nat) (f : α → List Value) (w : World) (v : Value) (xs : List α) : Prop :=
 (∃ a c, v = .slice a 0 c ∧ c ≤ 9223372036854775807 ∧ xs = []) ∨ ∃ b off cap, v = .slice (some ⟨b, off, none⟩) xs.length cap ∧ xs ≠ [] ∧ xs.length ≤ cap ∧ cap ≤ 9223372036854775807 ∧ b < w.heap.size ∧ ∀ (i : Nat) x, xs[i]? = some x → ∀ (j : Nat) u, (f x)[j]? = some u → w.cell? ⟨b, off + (i * s + j), none⟩ = some u
section
variable {α : Type} {s : Nat} {f : α → List Value}
theorem RdL.below {B : Nat} {w w' : World} {v : Value} {xs : List α} (h : RdL s f w v xs) (hB : w.heap.size ≤ B) (hb : Below B w w') : RdL s f w' v xs := by
 rcases h with ⟨a, c, h1, h2⟩ | ⟨b, off, cap, h1, h0, h2, h3, h4, h5⟩
 ·exact .inl ⟨a, c, h1, h2⟩
 ·exact .inr ⟨b, off, cap, h1, h0, h2, h3, Nat.lt_of_lt_of_le h4 hb.size, fun i x hx j u hu => (hb.cell (p := ⟨b, off + (i * s + j), none⟩) (by exact Nat.lt_of_lt_of_le h4 hB)).trans (h5 i x hx j u hu)⟩
theorem RdL.form {w : World} {v : Value} {xs : List α} (h : RdL s f w v xs) : ∃ a cap, v = .slice a xs.length cap ∧ xs.length ≤ cap ∧ cap ≤ 9223372036854775807 := by
 rcases h with ⟨a, c, rfl, hc, rfl⟩ | ⟨b, off, cap, rfl, h0, h1, h2, _, _⟩
 ·exact ⟨a, c, rfl, Nat.zero_le _, hc⟩
 ·exact ⟨_, cap, rfl, h1, h2⟩
theorem RdL.lt {w : World} {v : Value} {xs : List α} (h : RdL s f w v xs) (hne : xs ≠ []) : ∀ k, v.ownBlock = some k → k < w.heap.size := by
 rcases h with ⟨_, _, _, _, h⟩ | ⟨b, off, cap, h, _, _, _, h4, _⟩
 ·exact absurd h hne
 ·subst h; intro k hk; cases hk; exact h4
theorem RdL.keeps {F : Nat → Prop} {w w' : World} {v : Value} {xs : List α} (h : RdL s f w v xs) (hk : Keeps F w w') (hF : ∀ b o l c, v = .slice (some ⟨b, o, none⟩) l c → ¬ F b) : RdL s f w' v xs := by
 rcases h with ⟨a, c, h1, h2⟩ | ⟨b, off, cap, h1, h0, h2, h3, h4, h5⟩
 ·exact .inl ⟨a, c, h1, h2⟩
 ·exact .inr ⟨b, off, cap, h1, h0, h2, h3, Nat.lt_of_lt_of_le h4 hk.size, fun i x hx j u hu => (World.cell?_of_block (hk.block b h4 (hF b off _ _ h1))).trans (h5 i x hx j u hu)⟩
theorem RdL.at {w : World} {v : Value} {xs : List α} (h : RdL s f w v xs) {i : Nat} {x : α} (hx : xs[i]? = some x) : ∃ b off cap, v = .slice (some ⟨b, off, none⟩) xs.length cap ∧ b < w.heap.size ∧ ∀ (j : Nat) u, (f x)[j]? = some u → w.cell? ⟨b, off + (i * s + j), none⟩ = some u := by
 rcases h with ⟨_, _, _, _, rfl⟩ | ⟨b, off, cap, h1, h0, h2, h3, h4, h5⟩
 ·cases hx
 ·exact ⟨b, off, cap, h1, h4, h5 i x hx⟩
theorem flat_get (hf : ∀ x, (f x).length = s) (hs : 0 < s) : ∀ (xs : List α) (i : Nat) (x : α), xs[i]? = some x → ∀ j, j < s → (xs.flatMap f)[i * s + j]? = (f x)[j]? := by
 intro xs
 induction xs with
 | nil => intro i x h; cases h
 | cons y ys ih =>
  intro i x h j hj
  rw [List.flatMap_cons]
  cases i with
  | zero => simp at h; subst h; rw [Nat.zero_mul, Nat.zero_add, List.getElem?_append_left (by rw [hf]; exact hj)]
  | succ i =>
   rw [List.getElem?_append_right (by rw [hf, Nat.succ_mul]; omega), hf, show (i + 1) * s + j - s = i * s + j by rw [Nat.succ_mul]; omega]
   exact ih i x (by simpa using h) j hj
theorem flat_len (hf : ∀ x, (f x).length = s) (xs : List α) : (xs.flatMap f).length = xs.length * s := by
 induction xs with
 | nil => simp
 | cons y ys ih => rw [List.flatMap_cons, List.length_append, hf, ih, List.length_cons, Nat.succ_mul]; omega
theorem rdL_own (hf : ∀ x, (f x).length = s) (hs : 0 < s) {w : World} {base g n cap : Nat} {e : TypeId} {xs : List α} (h : w.ownsRow base e s (.slice (some ⟨g, 0, none⟩) n cap) n (xs.flatMap f)) (hm0 : cap ≤ maxLen) : RdL s f w (.slice (some ⟨g, 0, none⟩) n cap) xs := by
 have hn : n = xs.length := by
  have := h.1
  rw [flat_len hf] at this
  exact (Nat.eq_of_mul_eq_mul_right hs this).symm
 subst hn
 by_cases hne : xs = []
 ·subst hne; exact .inl ⟨_, _, rfl, hm0, rfl⟩
 obtain ⟨h1, h2 | ⟨g', cap', cur, hv, hg, hh, hc, hm, hsz, _⟩⟩ := id h
 ·cases h2.1
 ·cases hv
  refine .inr ⟨g, 0, cap, rfl, hne, hc, hm, (Array.getElem?_eq_some_iff.1 hh).1, fun i x hx j u hu => ?_⟩
  have hj : j < s := by have := (List.getElem?_eq_some_iff.1 hu).1; rw [hf] at this; exact this
  have hi : i < xs.length := (List.getElem?_eq_some_iff.1 hx).1
  have hlt : i * s + j < xs.length * s := by
   calc i * s + j < i * s + s := by omega
    _ = (i + 1) * s := by rw [Nat.succ_mul]
    _ ≤ xs.length * s := Nat.mul_le_mul_right _ hi
  rw [Nat.zero_add, h.cellAt _ hlt, flat_get hf hs _ _ _ hx _ hj, hu]
theorem rdL_ofOwn (hf : ∀ x, (f x).length = s) (hs : 0 < s) {w : World} {base n : Nat} {e : TypeId} {xs : List α} {v : Value} (h : w.ownsRow base e s v n (xs.flatMap f)) : RdL s f w v xs := by
 obtain ⟨h1, h2 | ⟨g, cap, cur, hv, hg, hh, hc, hm, hsz, ht⟩⟩ := id h
 ·refine .inl ⟨none, 0, h2.1, by omega, ?_⟩
  have := h.1
  rw [flat_len hf, h2.2] at this
  rcases Nat.mul_eq_zero.1 (this.trans (Nat.zero_mul _)) with h | h
  ·exact List.length_eq_zero_iff.1 h
  ·omega
 ·subst hv; exact rdL_own hf hs h hm
end
theorem mark_len (k : MarkD) : k.cells.length = 3 := rfl
abbrev RdM := RdL 3 MarkD.cells
theorem RdL.at3 {w : World} {v : Value} {ks : List MarkD} (h : RdM w v ks) {i : Nat} {k : MarkD} (hk : ks[i]? = some k) :
 ∃ b off cap, v = .slice (some ⟨b, off, none⟩) ks.length cap ∧ b < w.heap.size ∧ w.cell? ⟨b, off + i * 3, none⟩ = some (.int .i64 k.kind) ∧ w.cell? ⟨b, off + i * 3 + 1, none⟩ = some (.int .i64 k.rcpt) ∧ w.cell? ⟨b, off + i * 3 + 2, none⟩ = some (.int .i64 k.n) := by
 obtain ⟨b, off, cap, h1, h2, h3⟩ := h.at hk
 exact ⟨b, off, cap, h1, h2, h3 0 _ rfl, h3 1 _ rfl, h3 2 _ rfl⟩
def FateD.zero : FateD := ⟨0, 0, 0, 0, false⟩
end Go.Proofs.YtffnbkmigapmjaaGreatDoor
namespace Go.Proofs.YtffnbkmigapmjaaGreatDoor
open Go.RowKit
def strL (l : List UInt8) : ByteArray := ⟨l.toArray⟩
theorem strL_data (l : List UInt8) : (strL l).data.toList = l := by simp [strL]
theorem strL_of (s : ByteArray) : strL s.data.toList = s := by cases s; simp [strL]
theorem strL_size (l : List UInt8) : (strL l).size = l.length := by rw [show (strL l).size = (strL l).data.toList.length by rw [Array.length_toList]; rfl, strL_data]
theorem strL_inj {a b : List UInt8} (h : strL a = strL b) : a = b := by have := congrArg (fun s : ByteArray => s.data.toList) h; simpa [strL_data] using this
theorem strL_append (a b : List UInt8) : strL a ++ strL b = strL (a ++ b) := by
 have h : (strL a ++ strL b).data.toList = a ++ b := by
  rw [ByteArray.data_append, Array.toList_append, strL_data, strL_data]
 rw [← strL_of (strL a ++ strL b), h]
def s1 (l : List UInt8) : List Value := [.string (strL l)]
theorem s1_len (l : List UInt8) : (s1 l).length = 1 := rfl
theorem s1_one (ls : List (List UInt8)) : ∀ c ∈ ls.flatMap s1, c.oneCell' = true := by
 intro c hc
 obtain ⟨l, _, h⟩ := List.mem_flatMap.1 hc
 rw [s1, List.mem_singleton] at h
 subst h; rfl
abbrev RdS := RdL 1 s1
theorem RdS.at {w : World} {v : Value} {ls : List (List UInt8)} (h : RdS w v ls) {i : Nat} {l : List UInt8} (hl : ls[i]? = some l) :
 ∃ b off cap, v = .slice (some ⟨b, off, none⟩) ls.length cap ∧ b < w.heap.size ∧ w.cell? ⟨b, off + i, none⟩ = some (.string (strL l)) := by
 obtain ⟨b, off, cap, h1, h2, h3⟩ := RdL.at h hl
 have := h3 0 _ rfl
 rw [Nat.mul_one, Nat.add_zero] at this
 exact ⟨b, off, cap, h1, h2, this⟩
theorem run_strL {w : World} {v : Value} {bs : List UInt8} (h : RdB w v bs) : (convert 22 9 v).run Tryz.prog w = .ok (.string (strL bs)) w := by
 rcases h with ⟨a, c, rfl, _, rfl⟩ | ⟨b, off, cap, rfl, h0, h1, h2, h3, h4⟩
 ·cases a with
  | none => simp [convert, run_underlying Tryz.underlying22, run_underlying Tryz.underlying9, run_underlying Tryz.underlying5, Conv.bytesToString, go_sem]; rfl
  | some a => simp [convert, run_underlying Tryz.underlying22, run_underlying Tryz.underlying9, run_underlying Tryz.underlying5, Conv.bytesToString, loadCells, go_sem]; rfl
 ·have := run_convert_bytes_arg (P := Tryz.prog) w 22 5 Tryz.underlying22 Tryz.underlying5 b off bs.length cap (bs.map fun x => (x.toNat : Int)) (by simp) (fun i hi => by
   rw [h4 i bs[i] (List.getElem?_eq_getElem hi)]
   simp [List.getD, List.getElem?_eq_getElem hi]) 9 Tryz.underlying9
  rw [this]
  have e : strOfNums (bs.map fun x => (x.toNat : Int)) = strL bs := by simp [strL, strOfNums, Function.comp_def]
  rw [e]
end Go.Proofs.YtffnbkmigapmjaaGreatDoor
