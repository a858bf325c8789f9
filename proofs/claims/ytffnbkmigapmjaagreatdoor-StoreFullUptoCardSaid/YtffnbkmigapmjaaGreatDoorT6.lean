/- Printed out of the texts of wip/tpl. -/
import Derived.Test.YtffnbkmigapmjaaGreatDoorT3
import Derived.Test.YtffnbkmigapmjaaGreatDoorT5
import Derived.RangeFuncCalls
import Derived.Laws.Concat
import Derived.Laws.BytesArg
set_option linter.unusedSimpArgs false
set_option linter.unusedVariables false
namespace Go.Proofs.YtffnbkmigapmjaaGreatDoor
open Go.RowKit Go.Shelf
attribute [local go_sem] Oper.semAt_some
theorem infoMark : (Tryz.prog.info? 53).map (fun i => (i.zero, i.size, i.bytes)) = some (some (.agg #[.int .i64 0, .int .i64 0, .int .i64 0]), 3, 24) := by kernel_rfl
def DecDone (w : World) (bs : List UInt8) (e : Ending) (w' : World) : Prop :=
 ∃ v, e = .returned (.tuple #[v, .int .i64 (28 * ((decodeM bs).length : Int))]) ∧ w'.ownsRow w.heap.size 53 3 v (decodeM bs).length ((decodeM bs).flatMap MarkD.cells) ∧ Below w.heap.size w w'
def DecGo (bs : List UInt8) (w : World) (pre : List (Fin (parts bs.length))) (W : World) : Prop := (∃ v, Boxed W w.heap.size 41 v ∧ W.ownsRow (w.heap.size + 3) 53 3 v (msOf bs pre).length ((msOf bs pre).flatMap MarkD.cells) ∧ ((∀ x ∈ pre, (chunkM bs x.1).isSome = true) ∧ pre.length ≤ 4096)) ∧ Below w.heap.size w W
def DecStop (bs : List UInt8) (w : World) (c : Code) (pre : List (Fin (parts bs.length))) (W : World) : Prop := (∃ v, Boxed W w.heap.size 41 v ∧ W.ownsRow (w.heap.size + 3) 53 3 v (msOf bs pre.dropLast).length ((msOf bs pre.dropLast).flatMap MarkD.cells) ∧ (c = .exit 0 ∧ pre ≠ [] ∧ (∀ x ∈ pre.dropLast, (chunkM bs x.1).isSome = true) ∧ pre.dropLast.length ≤ 4096 ∧ (pre.dropLast.length = 4096 ∨ ∃ x, pre.getLast? = some x ∧ chunkM bs x.1 = none))) ∧ Below w.heap.size w W
theorem cells_len (ms : List MarkD) : (ms.flatMap MarkD.cells).length = ms.length * 3 := by
 induction ms with
 | nil => rfl
 | cons k ms ih => simp only [List.flatMap_cons, List.length_append, ih, List.length_cons]; simp [MarkD.cells]; omega
theorem cells_one (ms : List MarkD) : ∀ u ∈ ms.flatMap MarkD.cells, u.oneCell' = true := by
 intro u hu
 obtain ⟨k, _, hk⟩ := List.mem_flatMap.1 hu
 simp [MarkD.cells] at hk
 rcases hk with rfl | rfl | rfl <;> rfl
theorem msOf_snoc (bs : List UInt8) {m : Nat} (pre : List (Fin m)) (x : Fin m) {k : MarkD} (h : chunkM bs x.1 = some k) : msOf bs (pre ++ [x]) = msOf bs pre ++ [k] := by
 unfold msOf; rw [List.filterMap_append]; simp [h]
theorem KeepsFrom.ofBelow {B : Nat} {W W1 : World} (h : Below W.heap.size W W1) : KeepsFrom B W W1 :=
 ⟨h.size, fun k o _ hk _ => (h.block k (Array.getElem?_eq_some_iff.1 hk).1).trans hk⟩
theorem dec_append {B base : Nat} {t e : TypeId} {size : Nat} {v v' : Value} {k m : Nat} {xs ys : List Value} {o : Obj} {tmp : Obj} {W0 W w1 : World}
 (hW : W = W0.alloc o)
 (hv : Boxed W B t v) (hte : t ≠ e) (hrow : W0.ownsRow base e size v k xs) (hB : B < base)
 (hown' : w1.ownsRow base e size v' m ys) (hgrow : (W.alloc tmp).grownBy w1 v.ownBlock) :
 w1.cell? ⟨B, 0, none⟩ = some v ∧ w1.frozen? ⟨B, 0, none⟩ = false ∧ Boxed (w1.setCell ⟨B, 0, none⟩ v') B t v' ∧ (w1.setCell ⟨B, 0, none⟩ v').ownsRow base e size v' m ys ∧ KeepsOthers W (w1.setCell ⟨B, 0, none⟩ v') ∧ Keeps (fun k => k = B ∨ base ≤ k) W (w1.setCell ⟨B, 0, none⟩ v') := by
 subst hW
 obtain ⟨a1, a2, a3, a4, a5⟩ := hv.appended hte (own_mono (hrow.alloc o) (Nat.le_of_lt hB)) (Nat.le_of_lt hv.lt) (Nat.le_refl _) (own_mono hown' (Nat.le_of_lt hB)) hgrow
 refine ⟨a1.cell, a1.frozen, a2, hown'.kept (grownBy_setCell' w1 B v') (.inr (a1.not_row hte hown').symm), a4, ?_⟩
 refine ((Keeps.alloc _ _ tmp).trans ((Keeps.grown hgrow).mono fun i hi he => .inr (own_base hrow i he))).trans (Keeps.setCell _ ⟨B, 0, none⟩ v' (.inl rfl))
set_option maxRecDepth 100000 in
set_option maxHeartbeats 2000000 in
theorem markDecode_in (a : Option Addr) (cap : Nat) (bs : List UInt8) (w : World) (hv : RdB w (.slice a bs.length cap) bs) (hlen : bs.length ≤ 140737488351232) :
 CallsIn Fence.wide 9 Tryz.prog 105 #[.slice a bs.length cap] w (DecDone w bs) := by
 obtain ⟨b, off, ha⟩ : ∃ b off, bs.length = 0 ∨ a = some ⟨b, off, none⟩ := by
  rcases hv with ⟨_, _, _, _, h⟩ | ⟨b, off, _, h, _⟩
  ·exact ⟨0, 0, .inl (by rw [h]; rfl)⟩
  ·cases h; exact ⟨b, off, .inr rfl⟩
 obtain ⟨_, _, hfm, hcap, hcap'⟩ := hv.form
 cases hfm
 obtain ⟨i0, hi, hz0, hz1, hz2⟩ := info_parts infoMark
 have hro : Fence.wide.round = none := rfl
 have h1 : 1 ≤ 9 := by omega
 refine callsIn_of_wp_marks Tryz.func105 rfl trivial ?_ hro
 simp only [Tryz.ntmps105, List.size_toArray, List.length_cons, List.length_nil, Nat.reduceAdd, Nat.reduceSub, Array.replicate_succ, Array.replicate_zero, List.push_toArray, List.append_toArray, List.nil_append, List.cons_append]
 gi_wp2_with (refine ⟨trivial, ?_⟩; gi_at_call 146; refine (chunk_in Fence.wide (9 - 1) trivial hro _ _ _ _).mono ?_; rintro e w' ⟨rfl, rfl⟩)
 have bO := Boxed.new w 41 (.slice none 0 0)
 have hW0 : Below w.heap.size w (((w.alloc (.cells #[.slice none 0 0] 41)).alloc (.cells #[.slice a bs.length cap] 22)).alloc (.cells #[.int .i64 28] 3)) := (((Below.refl _ w).alloc (Nat.le_refl _) _).alloc (by simp) _).alloc (by simp; omega) _
 refine wpIn_rangeFunc_ownG hro h1 (gf := 190) (lb := #[.pointer (some ⟨w.heap.size + 1, 0, none⟩), .pointer (some ⟨w.heap.size + 2, 0, none⟩)]) rfl trivial (enters_of Tryz.func190 (by kernel_rfl) rfl)
  (chunk_stops Fence.wide (9 - 1) trivial hro (by omega) (w.heap.size + 1) b off bs.length cap (fun k => k = w.heap.size ∨ w.heap.size + 3 ≤ k) (by omega) (by omega) a ha hlen hcap hcap' _ (by simp) (by go_simp) (by go_simp)) (fun h1 h2 => Keeps.trans h1 h2) (fun W l o o' hl _ _ _ => (Keeps.grown (grownBy_putObj' W l o')).mono (fun i _ e => by cases e; right; simp at hl; omega)) (Below.refl _ _) (fun _ => rfl)
  (DecGo bs w)
  (DecStop bs w)
  (OwnFrom.and (Own.from (holdsRow_own (w.heap.size + 3) w.heap.size 41 53 3 (fun pre => (msOf bs pre).length) (fun pre => (msOf bs pre).flatMap MarkD.cells) (fun pre v => (∀ x ∈ pre, (chunkM bs x.1).isSome = true) ∧ pre.length ≤ 4096)) _) (ownFrom_below (Nat.le_refl _) (by simp; omega)))
  (fun c => OwnFrom.and (Own.from (holdsRow_own (w.heap.size + 3) w.heap.size 41 53 3 (fun pre => (msOf bs pre.dropLast).length) (fun pre => (msOf bs pre.dropLast).flatMap MarkD.cells) (fun pre v => c = .exit 0 ∧ pre ≠ [] ∧ (∀ x ∈ pre.dropLast, (chunkM bs x.1).isSome = true) ∧ pre.dropLast.length ≤ 4096 ∧ (pre.dropLast.length = 4096 ∨ ∃ x, pre.getLast? = some x ∧ chunkM bs x.1 = none))) _) (ownFrom_below (Nat.le_refl _) (by simp; omega)))
  ⟨⟨_, (bO.alloc _).alloc _, World.ownsRow_nil _ _ _ _, by simp, by simp⟩, hW0⟩
  (fun x => { tmps := #[.slice a bs.length cap, undef, .slice none 0 0, .int .i64 0, .pointer (some ⟨w.heap.size, 0, none⟩), partV b off bs.length x.1, undef, undef, .slice a bs.length cap, .func (.func 190) #[] #[.pointer (some ⟨w.heap.size + 1, 0, none⟩), .pointer (some ⟨w.heap.size + 2, 0, none⟩)], partV b off bs.length x.1, undef, undef, undef, undef, undef, undef, undef, undef, undef, undef, undef, undef, undef, undef, undef, undef, undef, undef, undef, undef, undef, undef, undef], defers := [] }) ?assign ?body ?done ?stop
 case assign =>
  intro l x W K hK
  gi_wp2
  exact hK
 case body =>
  rintro l pre x W ⟨⟨v, hv1, hrow, hgood, hpl⟩, hB⟩ hlt
  have hml := msOf_length bs _ hgood
  have hxlt : 28 * x.1 < bs.length := by have := x.2; unfold parts at this; omega
  obtain rfl : a = some ⟨b, off, none⟩ := ha.resolve_left (by omega)
  obtain ⟨hpart, hpl2⟩ := rdB_part hv x.1 hxlt
  have hpartW := hpart.below (Nat.le_refl _) hB
  obtain ⟨aa, ac, rfl⟩ := own_form0 hrow
  have hc := hv1.cell
  have hpv : partV b off bs.length x.1 = .slice (some ⟨b, off + 28 * x.1, none⟩) (chunkAt bs x.1).length (chunkAt bs x.1).length := by rw [hpl2]; rfl
  rw [hpv] at hpartW
  obtain ⟨nn, hnn⟩ : ∃ nn, (msOf bs pre).length = nn := ⟨_, rfl⟩
  obtain ⟨pl, hplq⟩ : ∃ pl, (chunkAt bs x.1).length = pl := ⟨_, rfl⟩
  rw [hnn] at hc hml
  rw [hplq] at hpartW hpv
  have hdl : (pre ++ [x]).dropLast = pre := List.dropLast_concat
  have hgl : (pre ++ [x]).getLast? = some x := List.getLast?_concat
  by_cases hsmall : pl < 28
  ·have hnone : chunkM bs x.1 = none := by rw [chunkM, hplq, if_pos hsmall]
   have hix : DecStop bs w (.exit 0) (pre ++ [x]) W := by
    unfold DecStop; rw [hdl, hgl]
    exact ⟨⟨_, hv1, hrow, rfl, by simp, hgood, hpl, .inr ⟨x, rfl, hnone⟩⟩, hB⟩
   have Hix := Lib.hid hix
   clear hix hgood hdl hgl hnone
   gi_wp2
   exact ⟨KeepsFrom.refl _ _, Hix.out⟩
  ·have hp28 : (chunkAt bs x.1).length = 28 := by omega
   obtain rfl : pl = 28 := by omega
   by_cases hfull : nn = 4096
   ·have hix : DecStop bs w (.exit 0) (pre ++ [x]) W := by
     unfold DecStop; rw [hdl]
     exact ⟨⟨_, hv1, hrow, rfl, by simp, hgood, hpl, .inl (by omega)⟩, hB⟩
    have Hix := Lib.hid hix
    have htest : ((nn : Int) == 4096) = true := by rw [hfull]; rfl
    clear hix hgood hdl hgl hfull
    gi_wp2
    exact ⟨KeepsFrom.refl _ _, Hix.out⟩
   ·have htest : ((nn : Int) == 4096) = false := by rw [beq_eq_false_iff_ne]; omega
    have hlen28 : (parseMark (chunkAt bs x.1)) = chunkM bs x.1 := by rw [chunkM, if_neg (by omega)]
    gi_wp2_with fail
    refine ⟨trivial, ?_⟩
    refine (CallsIn.inRound l ((callsIn_wide (n := 6)).2 (markRead_calls _ _ W hpartW hp28))).mono ?_; rintro e W1 ⟨k, ok, rfl, hok, hk, hb1⟩
    have hvW1 : Boxed W1 w.heap.size 41 (.slice aa nn ac) := hnn ▸ (hb1.block _ hv1.lt).trans hv1
    have hrowW1 : W1.ownsRow (w.heap.size + 3) 53 3 (.slice aa nn ac) nn ((msOf bs pre).flatMap MarkD.cells) := by have := own_below hrow hb1 (Nat.le_refl _); rwa [hnn] at this
    have hsz1 := hb1.size
    have hsz0 := hB.size
    by_cases hok1 : ok = false
    ·have hnone : chunkM bs x.1 = none := by
      rw [hok1, hlen28] at hok; cases h : chunkM bs x.1 with
      | none => rfl
      | some _ => rw [h] at hok; cases hok
     have hix : ∀ o, (∀ B, KeepsFrom B W (W1.alloc o)) ∧ DecStop bs w (.exit 0) (pre ++ [x]) (W1.alloc o) := by
      intro o
      have hb2 := hb1.alloc hsz1 o
      refine ⟨fun _ => KeepsFrom.ofBelow hb2, ?_⟩
      unfold DecStop; rw [hdl, hgl]
      exact ⟨⟨_, hvW1.alloc o, by rw [hnn]; exact hrowW1.alloc o, rfl, by simp, hgood, hpl, .inr ⟨x, rfl, hnone⟩⟩, hB.trans (hb2.mono (by omega))⟩
     have Hix := Lib.hid hix
     subst hok1
     clear hix hgood hdl hgl hnone hok hk hlen28
     gi_wp2
     exact ⟨(Hix.out _).1 _, (Hix.out _).2⟩
    ·have hok2 : ok = true := by
      cases ok with
      | true => rfl
      | false => exact absurd rfl hok1
     subst hok2
     have hsome : chunkM bs x.1 = some k := by
      rw [hlen28] at hok hk; cases h : chunkM bs x.1 with
      | none => rw [h] at hok; cases hok
      | some k' => rw [hk k' h]
     have hvW2 := hvW1.alloc (.cells #[.int .i64 k.kind, .int .i64 k.rcpt, .int .i64 k.n] 53)
     have hc1 := hvW2.cell
     have hdec : msOf bs (pre ++ [x]) = msOf bs pre ++ [k] := msOf_snoc bs pre x hsome
     have hgood2 : ∀ y ∈ pre ++ [x], (chunkM bs y.1).isSome = true := by
      intro y hy
      rcases List.mem_append.1 hy with hy | hy
      ·exact hgood y hy
      ·rw [List.mem_singleton.1 hy, hsome]; rfl
     have Hg := Lib.hid (And.intro hgood2 hdec)
     have hlen3 : ((msOf bs pre).flatMap MarkD.cells).length = nn * 3 := by rw [cells_len, hnn]
     have hcs1 : ∀ u ∈ k.cells, u.oneCell' = true := by intro u hu; exact cells_one [k] u (by simpa using hu)
     have hncell := news_new (W1.alloc (.cells #[.int .i64 k.kind, .int .i64 k.rcpt, .int .i64 k.n] 53)) k.cells 53 (0, 0)
     rw [World.size_alloc] at hncell
     have Hncell := Lib.hid hncell
     have Hcs1 := Lib.hid hcs1
     have hnb : nn < 4096 := by omega
     have hpb : pre.length + 1 ≤ 4096 := by omega
     have Hpb := Lib.hid hpb
     clear hpb
     have hbd1 : nn + 1 ≤ maxLen := by show nn + 1 ≤ 9223372036854775807; omega
     have hbd2 : (nn + 1) * 24 ≤ 140737488355328 := by omega
     have hbd3 : w.heap.size < W1.heap.size := by have := hv1.lt; omega
     clear hok hk hlen28 hgood hgood2 hdec hsome hdl hgl hncell hcs1 hml hpl
     gi_wp2_with (gi_at_builtin; refine wpListIn_append_own _ rfl _ _ 41 rfl (w.heap.size + 3) 53 i0 _ 3 24 Tryz.underlying41 hi hz0 hz1 hz2 rfl (by decide) _ _ _ rfl ((hrowW1.alloc _).alloc _) ⟨W1.heap.size + 1, 0, none⟩ 1 1 k.cells rfl rfl Hncell.out Hcs1.out hbd1 hbd2 (by simp; omega) ?_; intro v' w1 hown' hgrow _; obtain ⟨g', cap', rfl⟩ := ownsRow_succ hown'; obtain ⟨hc3, hf3, happ⟩ := dec_append rfl hvW2 (by decide) hrowW1 (by omega) hown' hgrow; have Happ := Lib.hid happ; clear happ hown' hgrow)
     obtain ⟨a2, a3, a4, a5⟩ := Happ.out
     have hb2 := hb1.alloc hsz1 (.cells #[.int .i64 k.kind, .int .i64 k.rcpt, .int .i64 k.n] 53)
     have hK5 := (Keeps.ofBelow (F := fun k => k = w.heap.size ∨ w.heap.size + 3 ≤ k) hb2).trans a5
     refine ⟨(KeepsFrom.ofBelow hb2).trans (a4.from _), hK5, ?_⟩
     unfold DecGo
     rw [Hg.out.2, List.length_append, List.length_singleton, hnn, List.flatMap_append, List.flatMap_singleton]
     exact ⟨⟨_, a2, a3, Hg.out.1, by rw [List.length_append, List.length_singleton]; exact Hpb.out⟩, hB.trans (hK5.below (fun i hi => by omega) hsz0)⟩
 case done =>
  rintro D ys W hD rfl ⟨⟨v, hv1, hrow, hgood, hpl⟩, hB⟩ hK
  have hdec := decode_done bs hgood hpl
  have hml := msOf_length bs _ hgood
  rw [← hdec] at hrow hml
  have hdl : (decodeM bs).length ≤ 4096 := by rw [hml]; exact hpl
  obtain ⟨aa, ac, rfl⟩ := own_form0 hrow
  have hc := hv1.cell
  clear hdec hml hgood hpl
  have hfin : DecDone w bs (.returned (.tuple #[.slice aa (decodeM bs).length ac, .int .i64 (28 * ((decodeM bs).length : Int))])) (W.drew.putObj D (.deferred none)) :=
   ⟨_, rfl, own_mono (ownsRow_putObj (W := W.drew) hrow _ hK rfl) (by omega), (hB.drew).trans (belowK_b (w := w) (Nat.le_refl _) W.drew D _ _ (by simp at hD; omega) hK rfl rfl)⟩
  have Hfin := Lib.hid hfin
  clear hfin
  obtain ⟨nn, hnn⟩ : ∃ nn, (decodeM bs).length = nn := ⟨_, rfl⟩
  rw [hnn] at hc hdl Hfin
  gi_wp2
  gi_region
  all_goals
   gi_wp2
   refine ⟨by simp, .inl ⟨_, _, rfl, run_takeDeferred (w := W.drew) hK, ?_⟩⟩
   refine ⟨_, results_tmp2 rfl _ _ _, ?_⟩
   have e1 : ∀ (x y : Value), x = .slice aa nn ac → y = .int .i64 (28 * (nn : Int)) → DecDone w bs (.returned (.tuple #[x, y])) (W.drew.putObj D (.deferred none)) := by
    rintro _ _ rfl rfl; exact Hfin.out
   refine e1 _ _ ?_ ?_
   ·rfl
   ·rfl
 case stop =>
  rintro D c pre W hD ⟨k, hk, rfl⟩ ⟨⟨v, hv1, hrow, rfl, hne, hgood, hpl, hst⟩, hB⟩ hK
  have hdec := decode_stop bs k hk hne hgood hpl hst
  have hml := msOf_length bs _ hgood
  rw [← hdec] at hrow hml
  have hdl : (decodeM bs).length ≤ 4096 := by rw [hml]; exact hpl
  obtain ⟨aa, ac, rfl⟩ := own_form0 hrow
  have hc := hv1.cell
  clear hdec hml hgood hpl hst hne
  have hfin : DecDone w bs (.returned (.tuple #[.slice aa (decodeM bs).length ac, .int .i64 (28 * ((decodeM bs).length : Int))])) (W.drew.putObj D (.deferred none)) :=
   ⟨_, rfl, own_mono (ownsRow_putObj (W := W.drew) hrow _ hK rfl) (by omega), (hB.drew).trans (belowK_b (w := w) (Nat.le_refl _) W.drew D _ _ (by simp at hD; omega) hK rfl rfl)⟩
  have Hfin := Lib.hid hfin
  clear hfin
  obtain ⟨nn, hnn⟩ : ∃ nn, (decodeM bs).length = nn := ⟨_, rfl⟩
  rw [hnn] at hc hdl Hfin
  gi_wp2
  gi_region
  all_goals
   gi_wp2
   refine ⟨by simp, .inl ⟨_, _, rfl, run_takeDeferred (w := W.drew) hK, ?_⟩⟩
   refine ⟨_, results_tmp2 rfl _ _ _, ?_⟩
   have e1 : ∀ (x y : Value), x = .slice aa nn ac → y = .int .i64 (28 * (nn : Int)) → DecDone w bs (.returned (.tuple #[x, y])) (W.drew.putObj D (.deferred none)) := by
    rintro _ _ rfl rfl; exact Hfin.out
   refine e1 _ _ ?_ ?_
   ·rfl
   ·rfl
theorem markDecode_calls (v : Value) (bs : List UInt8) (w : World) (hv : RdB w v bs) (hlen : bs.length ≤ 140737488351232) :
 Calls Tryz.prog 105 #[v] w (DecDone w bs) := by
 obtain ⟨a, cap, rfl, _⟩ := hv.form
 exact callsIn_wide.1 (markDecode_in a cap bs w hv hlen)
open Go.RowKit
structure FateD where
 state : Int
 tries : Int
 next : Int
 crashes : Int
 opened : Bool
abbrev FateD.cells (f : FateD) : List Value := [.int .i64 f.state, .int .i64 f.tries, .int .i64 f.next, .int .i64 f.crashes, .bool f.opened]
abbrev FateD.val (f : FateD) : Value := .agg #[.int .i64 f.state, .int .i64 f.tries, .int .i64 f.next, .int .i64 f.crashes, .bool f.opened]
theorem results_row1 {P : Program} {fn : Func} {p : Tmp} {ty : TypeId} (h : fn.results = #[.cell p ty]) (tmps : Array Value) (w : World) (g : Nat) (t : TypeId) (cs : Array Value) (fr : Nat × Nat) (d : TypeDesc)
 (hp : tmps.getD p undef = .pointer (some ⟨g, 0, none⟩)) (hg : w.heap[g]? = some (.cells cs t fr)) (hu : P.underlying ty = some d) (hd : (match d with | .struct _ | .array _ _ => true | _ => false) = true) (hi : (P.info? ty).map (·.size) = some cs.size) :
 (results fn tmps).run P w = .ok (.agg cs) w := by
 have hp' : tmps[p]?.getD undef = .pointer (some ⟨g, 0, none⟩) := by simpa using hp
 simp [results, h, hp', asAddr, run_loadVar_row w g t ty cs fr d hg hu hd hi]
theorem heap_new_at {w : World} {n : Nat} (o : Obj) (h : n = w.heap.size) : (w.alloc o).heap[n]? = some o := by rw [h]; exact heap_alloc_new w o
def RdL {α : Type} (s : Nat) (f : α → List Value) (w : World) (v : Value) (xs : List α) : Prop :=
 (∃ a c, v = .slice a 0 c ∧ c ≤ 9223372036854775807 ∧ xs = []) ∨ ∃ b off cap, v = .slice (some ⟨b, off, none⟩) xs.length cap ∧ xs ≠ [] ∧ xs.length ≤ cap ∧ cap ≤ 9223372036854775807 ∧ b < w.heap.size ∧ ∀ (i : Nat) x, xs[i]? = some x → ∀ (j : Nat) u, (f x)[j]? = some u → w.cell? ⟨b, off + (i * s + j), none⟩ = some u
section
variable {α : Type} {s : Nat} {f : α → List Value}
theorem RdL.below {B : Nat} {w w' : World} {v : Value} {xs : List α} (h : RdL s f w v xs) (hB : w.heap.size ≤ B) (hb : Below B w w') : RdL s f w' v xs := by
 rcases h with ⟨a, c, h1, h2⟩ | ⟨b, off, cap, h1, h0, h2, h3, h4, h5⟩
 ·exact .inl ⟨a, c, h1, h2⟩
 ·exact .inr ⟨b, off, cap, h1, h0, h2, h3, Nat.lt_of_lt_of_le h4 hb.size, fun i x hx j u hu => (hb.cell (p := ⟨b, off + (i * s + j), none⟩) (by exact Nat.lt_of_lt_of_le h4 hB)).trans (h5 i x hx j u hu)⟩
theorem RdL.form {w : World} {v : Value} {xs : List α} (h : RdL s f w v xs) : ∃ a cap, v = .slice a xs.length cap ∧ xs.length ≤ cap ∧ cap ≤ 9223372036854775807 := by
 rcases h with ⟨a, c, rfl, hc, rfl⟩ | ⟨b, off, cap, rfl, h0, h1, h2, _, _⟩
 ·exact ⟨a, c, rfl, Nat.zero_le _, hc⟩
 ·exact ⟨_, cap, rfl, h1, h2⟩
theorem RdL.lt {w : World} {v : Value} {xs : List α} (h : RdL s f w v xs) (hne : xs ≠ []) : ∀ k, v.ownBlock = some k → k < w.heap.size := by
 rcases h with ⟨_, _, _, _, h⟩ | ⟨b, off, cap, h, _, _, _, h4, _⟩
 ·exact absurd h hne
 ·subst h; intro k hk; cases hk; exact h4
theorem RdL.keeps {F : Nat → Prop} {w w' : World} {v : Value} {xs : List α} (h : RdL s f w v xs) (hk : Keeps F w w') (hF : ∀ b o l c, v = .slice (some ⟨b, o, none⟩) l c → ¬ F b) : RdL s f w' v xs := by
 rcases h with ⟨a, c, h1, h2⟩ | ⟨b, off, cap, h1, h0, h2, h3, h4, h5⟩
 ·exact .inl ⟨a, c, h1, h2⟩
 ·exact .inr ⟨b, off, cap, h1, h0, h2, h3, Nat.lt_of_lt_of_le h4 hk.size, fun i x hx j u hu => (World.cell?_of_block (hk.block b h4 (hF b off _ _ h1))).trans (h5 i x hx j u hu)⟩
theorem RdL.at {w : World} {v : Value} {xs : List α} (h : RdL s f w v xs) {i : Nat} {x : α} (hx : xs[i]? = some x) : ∃ b off cap, v = .slice (some ⟨b, off, none⟩) xs.length cap ∧ b < w.heap.size ∧ ∀ (j : Nat) u, (f x)[j]? = some u → w.cell? ⟨b, off + (i * s + j), none⟩ = some u := by
 rcases h with ⟨_, _, _, _, rfl⟩ | ⟨b, off, cap, h1, h0, h2, h3, h4, h5⟩
 ·cases hx
 ·exact ⟨b, off, cap, h1, h4, h5 i x hx⟩
theorem flat_get (hf : ∀ x, (f x).length = s) (hs : 0 < s) : ∀ (xs : List α) (i : Nat) (x : α), xs[i]? = some x → ∀ j, j < s → (xs.flatMap f)[i * s + j]? = (f x)[j]? := by
 intro xs
 induction xs with
 | nil => intro i x h; cases h
 | cons y ys ih =>
  intro i x h j hj
  rw [List.flatMap_cons]
  cases i with
  | zero => simp at h; subst h; rw [Nat.zero_mul, Nat.zero_add, List.getElem?_append_left (by rw [hf]; exact hj)]
  | succ i =>
   rw [List.getElem?_append_right (by rw [hf, Nat.succ_mul]; omega), hf, show (i + 1) * s + j - s = i * s + j by rw [Nat.succ_mul]; omega]
   exact ih i x (by simpa using h) j hj
theorem flat_len (hf : ∀ x, (f x).length = s) (xs : List α) : (xs.flatMap f).length = xs.length * s := by
 induction xs with
 | nil => simp
 | cons y ys ih => rw [List.flatMap_cons, List.length_append, hf, ih, List.length_cons, Nat.succ_mul]; omega
theorem rdL_own (hf : ∀ x, (f x).length = s) (hs : 0 < s) {w : World} {base g n cap : Nat} {e : TypeId} {xs : List α} (h : w.ownsRow base e s (.slice (some ⟨g, 0, none⟩) n cap) n (xs.flatMap f)) (hm0 : cap ≤ maxLen) : RdL s f w (.slice (some ⟨g, 0, none⟩) n cap) xs := by
 have hn : n = xs.length := by
  have := h.1
  rw [flat_len hf] at this
  exact (Nat.eq_of_mul_eq_mul_right hs this).symm
 subst hn
 by_cases hne : xs = []
 ·subst hne; exact .inl ⟨_, _, rfl, hm0, rfl⟩
 obtain ⟨h1, h2 | ⟨g', cap', cur, hv, hg, hh, hc, hm, hsz, _⟩⟩ := id h
 ·cases h2.1
 ·cases hv
  refine .inr ⟨g, 0, cap, rfl, hne, hc, hm, (Array.getElem?_eq_some_iff.1 hh).1, fun i x hx j u hu => ?_⟩
  have hj : j < s := by have := (List.getElem?_eq_some_iff.1 hu).1; rw [hf] at this; exact this
  have hi : i < xs.length := (List.getElem?_eq_some_iff.1 hx).1
  have hlt : i * s + j < xs.length * s := by
   calc i * s + j < i * s + s := by omega
    _ = (i + 1) * s := by rw [Nat.succ_mul]
    _ ≤ xs.length * s := Nat.mul_le_mul_right _ hi
  rw [Nat.zero_add, h.cellAt _ hlt, flat_get hf hs _ _ _ hx _ hj, hu]
theorem rdL_ofOwn (hf : ∀ x, (f x).length = s) (hs : 0 < s) {w : World} {base n : Nat} {e : TypeId} {xs : List α} {v : Value} (h : w.ownsRow base e s v n (xs.flatMap f)) : RdL s f w v xs := by
 obtain ⟨h1, h2 | ⟨g, cap, cur, hv, hg, hh, hc, hm, hsz, ht⟩⟩ := id h
 ·refine .inl ⟨none, 0, h2.1, by omega, ?_⟩
  have := h.1
  rw [flat_len hf, h2.2] at this
  rcases Nat.mul_eq_zero.1 (this.trans (Nat.zero_mul _)) with h | h
  ·exact List.length_eq_zero_iff.1 h
  ·omega
 ·subst hv; exact rdL_own hf hs h hm
end
theorem mark_len (k : MarkD) : k.cells.length = 3 := rfl
abbrev RdM := RdL 3 MarkD.cells
theorem RdL.at3 {w : World} {v : Value} {ks : List MarkD} (h : RdM w v ks) {i : Nat} {k : MarkD} (hk : ks[i]? = some k) :
 ∃ b off cap, v = .slice (some ⟨b, off, none⟩) ks.length cap ∧ b < w.heap.size ∧ w.cell? ⟨b, off + i * 3, none⟩ = some (.int .i64 k.kind) ∧ w.cell? ⟨b, off + i * 3 + 1, none⟩ = some (.int .i64 k.rcpt) ∧ w.cell? ⟨b, off + i * 3 + 2, none⟩ = some (.int .i64 k.n) := by
 obtain ⟨b, off, cap, h1, h2, h3⟩ := h.at hk
 exact ⟨b, off, cap, h1, h2, h3 0 _ rfl, h3 1 _ rfl, h3 2 _ rfl⟩
def FateD.zero : FateD := ⟨0, 0, 0, 0, false⟩
def strL (l : List UInt8) : ByteArray := ⟨l.toArray⟩
theorem strL_data (l : List UInt8) : (strL l).data.toList = l := by simp [strL]
theorem strL_of (s : ByteArray) : strL s.data.toList = s := by cases s; simp [strL]
theorem strL_size (l : List UInt8) : (strL l).size = l.length := by rw [show (strL l).size = (strL l).data.toList.length by rw [Array.length_toList]; rfl, strL_data]
theorem strL_inj {a b : List UInt8} (h : strL a = strL b) : a = b := by have := congrArg (fun s : ByteArray => s.data.toList) h; simpa [strL_data] using this
theorem strL_append (a b : List UInt8) : strL a ++ strL b = strL (a ++ b) := by
 have h : (strL a ++ strL b).data.toList = a ++ b := by
  rw [ByteArray.data_append, Array.toList_append, strL_data, strL_data]
 rw [← strL_of (strL a ++ strL b), h]
def s1 (l : List UInt8) : List Value := [.string (strL l)]
theorem s1_len (l : List UInt8) : (s1 l).length = 1 := rfl
theorem s1_one (ls : List (List UInt8)) : ∀ c ∈ ls.flatMap s1, c.oneCell' = true := by
 intro c hc
 obtain ⟨l, _, h⟩ := List.mem_flatMap.1 hc
 rw [s1, List.mem_singleton] at h
 subst h; rfl
abbrev RdS := RdL 1 s1
theorem RdS.at {w : World} {v : Value} {ls : List (List UInt8)} (h : RdS w v ls) {i : Nat} {l : List UInt8} (hl : ls[i]? = some l) :
 ∃ b off cap, v = .slice (some ⟨b, off, none⟩) ls.length cap ∧ b < w.heap.size ∧ w.cell? ⟨b, off + i, none⟩ = some (.string (strL l)) := by
 obtain ⟨b, off, cap, h1, h2, h3⟩ := RdL.at h hl
 have := h3 0 _ rfl
 rw [Nat.mul_one, Nat.add_zero] at this
 exact ⟨b, off, cap, h1, h2, this⟩
theorem run_strL {w : World} {v : Value} {bs : List UInt8} (h : RdB w v bs) : (convert 22 9 v).run Tryz.prog w = .ok (.string (strL bs)) w := by
 rcases h with ⟨a, c, rfl, _, rfl⟩ | ⟨b, off, cap, rfl, h0, h1, h2, h3, h4⟩
 ·cases a with
  | none => simp [convert, run_underlying Tryz.underlying22, run_underlying Tryz.underlying9, run_underlying Tryz.underlying5, Conv.bytesToString, go_sem]; rfl
  | some a => simp [convert, run_underlying Tryz.underlying22, run_underlying Tryz.underlying9, run_underlying Tryz.underlying5, Conv.bytesToString, loadCells, go_sem]; rfl
 ·have := run_convert_bytes_arg (P := Tryz.prog) w 22 5 Tryz.underlying22 Tryz.underlying5 b off bs.length cap (bs.map fun x => (x.toNat : Int)) (by simp) (fun i hi => by
   rw [h4 i bs[i] (List.getElem?_eq_getElem hi)]
   simp [List.getD, List.getElem?_eq_getElem hi]) 9 Tryz.underlying9
  rw [this]
  have e : strOfNums (bs.map fun x => (x.toNat : Int)) = strL bs := by simp [strL, strOfNums, Function.comp_def]
  rw [e]
theorem only_ascii {o l : List UInt8} (ho : ∀ c ∈ o, c.toNat < 128) (h : onlyB o l = true) : ∀ c ∈ l, c.toNat < 128 := by
 intro c hc
 unfold onlyB at h
 have := List.all_eq_true.1 h c hc
 rcases Bool.or_eq_true _ _ ▸ this with h1 | h1
 ·unfold plainB at h1
  simp only [Bool.or_eq_true, decide_eq_true_eq] at h1
  omega
 ·exact ho c (by simpa using h1)
theorem pieces_all {c : UInt8} {l : List UInt8} {p : UInt8 → Prop} (hc : p c) (h : ∀ q ∈ piecesAt c l, ∀ x ∈ q, p x) : ∀ x ∈ l, p x := by
 induction l with
 | nil => intro x hx; cases hx
 | cons y ys ih =>
  by_cases hy : y = c
  ·subst hy
   simp only [piecesAt, if_pos] at h
   intro x hx
   rcases List.mem_cons.1 hx with rfl | hx
   ·exact hc
   ·exact ih (fun q hq => h q (List.mem_cons_of_mem _ hq)) x hx
  ·simp only [piecesAt, if_neg hy] at h
   cases he : piecesAt c ys with
   | nil => have := pieces_pos c ys; rw [he] at this; simp at this
   | cons q qs =>
    rw [he] at h ih
    simp only at h
    intro x hx
    have h0 := h (y :: q) List.mem_cons_self
    rcases List.mem_cons.1 hx with rfl | hx
    ·exact h0 _ List.mem_cons_self
    ·refine ih (fun r hr z hz => ?_) x hx
     rcases List.mem_cons.1 hr with rfl | hr
     ·exact h0 z (List.mem_cons_of_mem _ hz)
     ·exact h r (List.mem_cons_of_mem _ hr) z hz
theorem domain_ascii {l : List UInt8} (h : domainB l = true) : ∀ c ∈ l, c.toNat < 128 := by
 unfold domainB at h
 rw [Bool.and_eq_true] at h
 refine pieces_all (c := 46) (by decide) (fun q hq => ?_)
 have := List.all_eq_true.1 h.1 q hq
 unfold labelB at this
 rw [Bool.and_eq_true, Bool.and_eq_true] at this
 exact only_ascii (by decide) this.1.2
def splitVal : Option (List UInt8 × List UInt8) → Value
 | some p => .tuple #[.string (strL p.1), .string (strL p.2), .bool true]
 | none => .tuple #[.string ⟨#[]⟩, .string ⟨#[]⟩, .bool false]
set_option maxRecDepth 100000 in
set_option maxHeartbeats 4000000 in
theorem addrSplit_calls (s : ByteArray) (w : World) (hs : s.size < 4294967281) (hmax : MaxOk w) :
 Calls Tryz.prog 219 #[.string s] w fun e w' => e = .returned (splitVal (splitBox s.data.toList)) ∧ Below w.heap.size w w' := by
 obtain ⟨m, hm⟩ := id hmax
 have hcut := Tryz.strings_Cut s ⟨#[64]⟩ m w hs hm
 rw [show (⟨#[64]⟩ : ByteArray).data.toList = [64] from rfl, cut_one] at hcut
 have hl := size_len s
 have hix := index_one 64 s.data.toList
 unfold splitBox
 have Hmax := Lib.hid hmax
 clear hmax hm
 cases hca : cutAt 64 s.data.toList with
 | none =>
  rw [hca] at hcut
  simp only at hcut
  have Hcut := Lib.hid hcut
  clear hcut hca hix hl
  go_enter Tryz.func219, Tryz.ntmps219
  go_wp2_with fail
  refine (Hcut.out).mono ?_; rintro e w1 ⟨rfl, n, rfl⟩
  go_wp2
  go_ret3
  exact ⟨rfl, below_drewN (Below.refl _ _) _⟩
 | some p =>
  obtain ⟨a, d⟩ := p
  rw [hca] at hcut
  simp only at hcut ⊢
  have hsp : s.data.toList = a ++ 64 :: d := by
   rcases hix with ⟨h1, _⟩ | ⟨x, y, h1, h2, _⟩
   ·rw [hca] at h1; cases h1
   ·rw [hca] at h1; cases h1; exact h2
  have hla : (strL a).size < 4294967281 := by rw [strL_size]; have := congrArg List.length hsp; simp at this; omega
  have hld : (strL d).size < 4294967281 := by rw [strL_size]; have := congrArg List.length hsp; simp at this; omega
  have h1 := fun W hM => addrLocal_calls (strL a) W hla hM
  have h2 := fun W hM => addrDomain_calls (strL d) W hld hM
  rw [strL_data] at h1 h2
  have h3 : domainB d = true → ∀ W, Calls Tryz.prog 239 #[.string (strL d)] W fun e w' => e = .returned (.string (strL (Lib.toLowerA d))) ∧ Below W.heap.size W w' := by
   intro hd W
   have := Tryz.strings_ToLower_ascii (strL d) W (by omega) (fun j b hb => by rw [strL_data] at hb; exact domain_ascii hd b (List.mem_of_getElem? hb))
   rw [strL_data] at this
   exact this
  rw [show (⟨a.toArray⟩ : ByteArray) = strL a from rfl, show (⟨d.toArray⟩ : ByteArray) = strL d from rfl] at hcut
  have hlen : s.data.toList.length = s.size := hl.symm
  rw [hlen]
  generalize hlow : strL (Lib.toLowerA d) = low at h3
  generalize localB a = p at h1
  generalize domainB d = q at h2 h3
  have Hcut := Lib.hid hcut
  have H1 := Lib.hid h1
  have H2 := Lib.hid h2
  have Hlow := Lib.hid hlow
  have Hla := Lib.hid hla
  generalize hsa : strL a = sa at Hcut H1
  generalize hsd : strL d = sd at Hcut H2 h3
  have H3 := Lib.hid h3
  have Hsa := Lib.hid hsa
  clear hcut h1 h2 h3 hca hix hl hsp hla hld hlen hlow hsa hsd Hla
  cases p
  ·go_enter Tryz.func219, Tryz.ntmps219
   go_wp2_with fail
   refine (Hcut.out).mono ?_; rintro e w1 ⟨rfl, n, rfl⟩
   have hb1 : Below w.heap.size w (w.drewN n) := below_drewN (Below.refl _ _) _
   go_wp2_with fail
   refine (H1.out _ (Hmax.out.below hb1)).mono ?_; rintro e w2 ⟨rfl, hb2⟩
   go_wp2
   go_ret3
   exact ⟨rfl, hb1.trans (hb2.mono hb1.size)⟩
  ·cases q
   ·go_enter Tryz.func219, Tryz.ntmps219
    go_wp2_with fail
    refine (Hcut.out).mono ?_; rintro e w1 ⟨rfl, n, rfl⟩
    have hb1 : Below w.heap.size w (w.drewN n) := below_drewN (Below.refl _ _) _
    go_wp2_with fail
    refine (H1.out _ (Hmax.out.below hb1)).mono ?_; rintro e w2 ⟨rfl, hb2⟩
    have hb2' := hb1.trans (hb2.mono hb1.size)
    go_wp2_with fail
    refine (H2.out _ (Hmax.out.below hb2')).mono ?_; rintro e w3 ⟨rfl, hb3⟩
    go_wp2
    go_ret3
    exact ⟨rfl, hb2'.trans (hb3.mono hb2'.size)⟩
   ·by_cases h64 : (64 : Int) < (s.size : Int)
    ·have hd : decide (s.size ≤ 64) = false := decide_eq_false (by omega)
     rw [hd]
     clear hd
     go_enter Tryz.func219, Tryz.ntmps219
     go_wp2_with fail
     refine (Hcut.out).mono ?_; rintro e w1 ⟨rfl, n, rfl⟩
     have hb1 : Below w.heap.size w (w.drewN n) := below_drewN (Below.refl _ _) _
     go_wp2_with fail
     refine (H1.out _ (Hmax.out.below hb1)).mono ?_; rintro e w2 ⟨rfl, hb2⟩
     have hb2' := hb1.trans (hb2.mono hb1.size)
     go_wp2_with fail
     refine (H2.out _ (Hmax.out.below hb2')).mono ?_; rintro e w3 ⟨rfl, hb3⟩
     go_wp2
     go_ret3
     exact ⟨rfl, hb2'.trans (hb3.mono hb2'.size)⟩
    ·have hd : decide (s.size ≤ 64) = true := decide_eq_true (by omega)
     rw [hd]
     clear hd
     go_enter Tryz.func219, Tryz.ntmps219
     go_wp2_with fail
     refine (Hcut.out).mono ?_; rintro e w1 ⟨rfl, n, rfl⟩
     have hb1 : Below w.heap.size w (w.drewN n) := below_drewN (Below.refl _ _) _
     go_wp2_with fail
     refine (H1.out _ (Hmax.out.below hb1)).mono ?_; rintro e w2 ⟨rfl, hb2⟩
     have hb2' := hb1.trans (hb2.mono hb1.size)
     go_wp2_with fail
     refine (H2.out _ (Hmax.out.below hb2')).mono ?_; rintro e w3 ⟨rfl, hb3⟩
     have hb3' := hb2'.trans (hb3.mono hb2'.size)
     go_wp2_with fail
     refine (H3.out (by trivial) _).mono ?_; rintro e w4 ⟨rfl, hb4⟩
     go_wp2
     go_ret3
     exact ⟨by rw [← Hlow.out, ← Hsa.out]; rfl, hb3'.trans (hb4.mono hb3'.size)⟩
def parseVal : Option (List UInt8) → Value
 | some t => .tuple #[.string (strL t), .bool true]
 | none => .tuple #[.string ⟨#[]⟩, .bool false]
theorem splitBox_len {s : List UInt8} {p : List UInt8 × List UInt8} (h : splitBox s = some p) : p.1.length ≤ 64 ∧ p.2.length ≤ 64 := by
 unfold splitBox at h
 rcases index_one 64 s with ⟨h1, _⟩ | ⟨a, d, h1, h2, _⟩
 ·rw [h1] at h; cases h
 ·rw [h1] at h
  simp only at h
  split at h
  ·next hc =>
   cases h
   rw [Bool.and_eq_true, decide_eq_true_eq] at hc
   have := congrArg List.length h2
   simp at this
   simp only [Lib.toLowerA, List.length_map]
   omega
  ·cases h
set_option maxRecDepth 100000 in
set_option maxHeartbeats 4000000 in
theorem addrParse_calls (s : ByteArray) (w : World) (hs : s.size < 4294967281) (hmax : MaxOk w) :
 Calls Tryz.prog 199 #[.string s] w fun e w' => e = .returned (parseVal (parseBox s.data.toList)) ∧ Below w.heap.size w w' := by
 have h1 := addrSplit_calls s w hs hmax
 unfold parseBox
 cases hp : splitBox s.data.toList with
 | none =>
  rw [hp] at h1
  simp only [splitVal] at h1
  have H1 := Lib.hid h1
  clear h1 hp
  go_enter Tryz.func199, Tryz.ntmps199
  go_wp2_with fail
  refine (H1.out).mono ?_; rintro e w1 ⟨rfl, hb1⟩
  go_wp2
  go_ret2
  exact ⟨rfl, hb1⟩
 | some p =>
  obtain ⟨ln1, ln2⟩ := splitBox_len hp
  obtain ⟨n, d⟩ := p
  rw [hp] at h1
  simp only [splitVal] at h1 ln1 ln2
  have e1 : ((strL n).size : Int) ≤ 8388608 := by rw [strL_size]; omega
  have e2 : ((strL d).size : Int) ≤ 8388608 := by rw [strL_size]; omega
  have e3 : ((strL n ++ ⟨#[64]⟩).size : Int) ≤ 8388608 := by
   rw [show (⟨#[64]⟩ : ByteArray) = strL [64] from rfl, strL_append, strL_size]; simp; omega
  have hsum : strL n ++ ⟨#[64]⟩ ++ strL d = strL (n ++ 64 :: d) := by
   rw [show (⟨#[64]⟩ : ByteArray) = strL [64] from rfl, strL_append, strL_append]; simp
  have Hsum := Lib.hid hsum
  have H1 := Lib.hid h1
  generalize hsn : strL n = sn at H1 e1 e3 Hsum
  generalize hsd : strL d = sd at H1 e2 Hsum
  clear h1 hp hsum hsn hsd ln1 ln2
  go_enter Tryz.func199, Tryz.ntmps199
  go_wp2_with fail
  refine (H1.out).mono ?_; rintro e w1 ⟨rfl, hb1⟩
  go_wp2
  go_ret2
  refine ⟨?_, hb1⟩
  show _ = Ending.returned (.tuple #[.string (strL (n ++ 64 :: d)), .bool true])
  rw [← Hsum.out]; rfl
set_option maxRecDepth 100000 in
set_option maxHeartbeats 4000000 in
theorem envBox_calls (s : ByteArray) (w : World) (hs : s.size < 4294967281) (hmax : MaxOk w) :
 Calls Tryz.prog 162 #[.string s] w fun e w' => e = .returned (.bool (boxB s.data.toList)) ∧ Below w.heap.size w w' := by
 have h1 := addrParse_calls s w hs hmax
 unfold boxB
 cases hp : parseBox s.data.toList with
 | none =>
  rw [hp] at h1
  simp only [parseVal] at h1
  have H1 := Lib.hid h1
  clear h1 hp
  go_enter Tryz.func162, Tryz.ntmps162
  go_wp2_with fail
  refine (H1.out).mono ?_; rintro e w1 ⟨rfl, hb1⟩
  go_wp2
  go_ret
  exact ⟨rfl, hb1⟩
 | some t =>
  rw [hp] at h1
  simp only [parseVal] at h1
  have H1 := Lib.hid h1
  have hd : (some t == some s.data.toList) = ((strL t).toList == s.toList) := by
   by_cases h : t = s.data.toList
   ·have h2 : strL t = s := by rw [h]; exact strL_of s
    rw [h2, h]; simp
   ·have h2 : strL t ≠ s := fun e => h (by rw [← e, strL_data])
    rw [(Lib.bytes_beq_false_iff _ _).2 h2]
    simp [h]
  have Hd := Lib.hid hd
  clear h1 hp hd
  generalize strL t = st at H1 Hd
  go_enter Tryz.func162, Tryz.ntmps162
  go_wp2_with fail
  refine (H1.out).mono ?_; rintro e w1 ⟨rfl, hb1⟩
  go_wp2
  go_ret
  exact ⟨by rw [Hd.out]; rfl, hb1⟩
end Go.Proofs.YtffnbkmigapmjaaGreatDoor
