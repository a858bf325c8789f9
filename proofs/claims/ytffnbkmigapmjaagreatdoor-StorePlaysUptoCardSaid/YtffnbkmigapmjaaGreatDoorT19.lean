/-
  The walk of ids.Open.
-/
import Derived.Test.YtffnbkmigapmjaaGreatDoorT18
set_option linter.unusedSimpArgs false
set_option linter.unusedVariables false
set_option maxRecDepth 100000
namespace Go.Proofs.YtffnbkmigapmjaaGreatDoor
open Go.RowKit Go.Maps Go.Shelf
attribute [local go_sem] Oper.semAt_some
def lastNum (l : List (Int × Nm)) : Int × Nm := l.getLast?.getD (0, [])
theorem lastNum_snoc (l : List (Int × Nm)) (x : Int × Nm) : lastNum (l ++ [x]) = x := by unfold lastNum; rw [List.getLast?_concat]; rfl
def sortedNm (d : FsD) (ss : List Nm) : Prop := ∃ s0 : List Nm, s0.Perm (d.now.map (·.1)) ∧ ss = s0.mergeSort (fun x y => decide (x ≤ y))
theorem sortedNm.perm {d : FsD} {ss : List Nm} (h : sortedNm d ss) : ss.Perm (d.now.map (·.1)) := by
 obtain ⟨s0, h1, rfl⟩ := h
 exact (List.mergeSort_perm _ _).trans h1
theorem list_calls (f : Nat) (d : FsD) (ρ : Rho) (w : World) (h : FsAt w f d ρ) (hdn : d.down = false) (hl : d.now.length ≤ 256) :
 Calls Tryz.prog 98 #[.pointer (some ⟨f, 0, none⟩)] w fun e w' => ∃ (v : Value) (ss : List Nm), e = .returned v ∧ sortedNm d ss ∧ ss.length = d.now.length ∧ w'.ownsRow w.heap.size 9 1 v ss.length (ss.flatMap s1) ∧ Below w.heap.size w w' := by
 refine (list_up f d ρ w h hdn hl).mono fun e w' g => ?_
 obtain ⟨v, ss, rfl, hp, hrow, _, hb⟩ := g
 have hf : ∀ l : List Nm, l.map encStr = l.flatMap s1 := fun l => by
  induction l with
  | nil => rfl
  | cons a l ih => rw [List.map_cons, List.flatMap_cons, ih]; rfl
 refine ⟨v, _, rfl, ⟨ss, hp, rfl⟩, ?_, ?_, hb⟩
 ·rw [List.length_mergeSort, hp.length_eq, List.length_map]
 ·rw [List.length_mergeSort, ← hf]; exact hrow
def OpenI (w : World) (f S1 : Nat) (pre : List (Int × Nm)) (W : World) : Prop :=
 W.heap[S1]? = some (.cells #[.pointer (some ⟨f, 0, none⟩), .int .i64 0, .int .i64 (lastNum pre).1, .string (strL (lastNum pre).2)] 149 (0, 0)) ∧ W.heap[S1 + 1]? = some (.cells #[.pointer (some ⟨S1, 0, none⟩)] 107 (0, 0)) ∧ Below w.heap.size w W
theorem open_step {w W : World} {f S1 B : Nat} {pre : List (Int × Nm)} {m : Int} {s : Nm} {t : ByteArray} (ht : strL s = t) (h : OpenI w f S1 pre W) (hB : S1 + 2 ≤ B) (hS : w.heap.size ≤ S1) :
 KeepsFrom B W ((W.setCell ⟨S1, 2, none⟩ (.int .i64 m)).setCell ⟨S1, 3, none⟩ (.string t)).drew ∧ Keeps (fun k => k = S1 ∨ B ≤ k) W ((W.setCell ⟨S1, 2, none⟩ (.int .i64 m)).setCell ⟨S1, 3, none⟩ (.string t)).drew ∧ OpenI w f S1 (pre ++ [(m, s)]) ((W.setCell ⟨S1, 2, none⟩ (.int .i64 m)).setCell ⟨S1, 3, none⟩ (.string t)).drew := by
 obtain ⟨h1, h2, h3⟩ := h
 have k0 : Keeps (fun k => k = S1) W ((W.setCell ⟨S1, 2, none⟩ (.int .i64 m)).setCell ⟨S1, 3, none⟩ (.string t)).drew := ((Keeps.setCell (F := fun k => k = S1) _ ⟨S1, 2, none⟩ _ rfl).trans (Keeps.setCell (F := fun k => k = S1) _ ⟨S1, 3, none⟩ _ rfl)).trans (Keeps.drew _ _)
 have e1 := Go.heap_setCell_same W S1 2 _ _ (.int .i64 m) h1
 have e2 := Go.heap_setCell_same (W.setCell ⟨S1, 2, none⟩ (.int .i64 m)) S1 3 _ _ (.string t) e1
 refine ⟨⟨k0.size, fun k o h5 h6 _ => (k0.heap h6 (by omega))⟩, k0.mono (fun k _ e => .inl e), ?_, k0.heap h2 (by omega), h3.trans (k0.below (fun i e => by omega) h3.size)⟩
 rw [lastNum_snoc, ht]
 exact e2
structure IdsOpenDone (w : World) (f : Nat) (d : FsD) (e : Ending) (w' : World) (ib : Nat) (ss : List Nm) : Prop where
 ret : e = .returned (.tuple #[.pointer (some ⟨ib, 0, none⟩), .int .i64 0])
 names : sortedNm d ss
 hd : w'.heap[ib]? = some (.cells #[.pointer (some ⟨f, 0, none⟩), .int .i64 (lastNum (numL ss)).1, .int .i64 (lastNum (numL ss)).1, .string (strL (lastNum (numL ss)).2)] 149 (0, 0))
 new : w.heap.size ≤ ib
 below : Below w.heap.size w w'
set_option maxHeartbeats 8000000 in
theorem idsOpen_calls (f : Nat) (d : FsD) (ρ : Rho) (w : World) (h : FsAt w f d ρ) (hdn : d.down = false) (hl : d.now.length ≤ 256) (hnm : ∀ p ∈ d.now, p.1.length ≤ 1000) (hg : GOk w) :
 Calls Tryz.prog 55 #[.pointer (some ⟨f, 0, none⟩)] w fun e w' => ∃ ib ss, IdsOpenDone w f d e w' ib ss := by
 refine (callsIn_wide (n := 9)).1 ?_
 have hro : Fence.wide.round = none := rfl
 have hdown := (callsIn_wide (n := 8)).2 (down_calls f d ρ w h)
 rw [hdn] at hdown
 obtain ⟨S1, hS1⟩ : ∃ S1, w.heap.size = S1 := ⟨_, rfl⟩
 obtain ⟨W2, hW2⟩ : ∃ W2, (w.alloc (.cells #[.pointer (some ⟨f, 0, none⟩), .int .i64 0, .int .i64 0, .string ⟨#[]⟩] 149)).alloc (.cells #[.pointer (some ⟨S1, 0, none⟩)] 107) = W2 := ⟨_, rfl⟩
 have hb2 : Below w.heap.size w W2 := by rw [← hW2]; exact ((Below.refl _ _).alloc (Nat.le_refl _) _).alloc (by simp) _
 have hlist := (callsIn_wide (n := 8)).2 (list_calls f d ρ W2 (h.below hb2) hdn hl)
 have Hdown := Lib.hid hdown
 have Hlist := Lib.hid hlist
 clear hdown hlist
 refine callsIn_of_wp_marks Tryz.func55 rfl trivial ?_ hro
 simp only [Tryz.ntmps55, List.size_toArray, List.length_cons, List.length_nil, Nat.reduceAdd, Nat.reduceSub, Array.replicate_succ, Array.replicate_zero, List.push_toArray, List.append_toArray, List.nil_append, List.cons_append]
 gi_wp2_with fail
 refine ⟨trivial, ?_⟩
 refine (Hdown.out).mono ?_; rintro e w1 ⟨rfl, hw1⟩; have hw1 := hw1.symm; subst hw1
 gi_wp2_with fail
 refine ⟨trivial, ?_⟩
 refine (Hlist.out).mono ?_; rintro e w3 ⟨v, ss, rfl, hss, hsl, hrow, hb3⟩
 obtain ⟨aa, ac, rfl⟩ := own_form0 hrow
 have hrd0 : RdS w3 (.slice aa ss.length ac) ss := rdL_ofOwn s1_len (by decide) hrow
 obtain ⟨nn, hnn⟩ : ∃ nn, ss.length = nn := ⟨_, rfl⟩
 have hsm : ∀ s ∈ ss, s.length ≤ 1000 := fun s hs => by
  have := (sortedNm.perm hss).mem_iff.1 hs
  obtain ⟨p, hp, rfl⟩ := List.mem_map.1 this
  exact hnm p hp
 have hsn : ss.length ≤ 1000000 := by omega
 have hbase : W2.heap.size = S1 + 2 := by rw [← hW2, ← hS1]; simp
 have hS1h : W2.heap[S1]? = some (.cells #[.pointer (some ⟨f, 0, none⟩), .int .i64 0, .int .i64 0, .string ⟨#[]⟩] 149 (0, 0)) := by
  rw [← hW2]
  exact (Below.heap_alloc _ _ _ (by simp; omega)).trans (heap_new_at _ hS1.symm)
 have hS2h : W2.heap[S1 + 1]? = some (.cells #[.pointer (some ⟨S1, 0, none⟩)] 107 (0, 0)) := by
  rw [← hW2]; exact heap_new_at _ (by simp; omega)
 have hI3 : OpenI w f S1 [] w3 := ⟨(hb3.block _ (by omega)).trans hS1h, (hb3.block _ (by omega)).trans hS2h, hb2.trans (hb3.mono (by omega))⟩
 have hI4 : OpenI w f S1 [] (w3.alloc (.cells #[.slice aa nn ac] 27)) := ⟨(Below.heap_alloc _ _ _ (Array.getElem?_eq_some_iff.1 hI3.1).1).trans hI3.1, (Below.heap_alloc _ _ _ (Array.getElem?_eq_some_iff.1 hI3.2.1).1).trans hI3.2.1, hI3.2.2.alloc hI3.2.2.size _⟩
 have hsz3 := hb3.size
 have hg3 : GOk (w3.alloc (.cells #[.slice aa nn ac] 27)) := hg.below hI4.2.2
 have hvf : ∀ b o len c, (Value.slice aa nn ac) = .slice (some ⟨b, o, none⟩) len c → ¬ (b = S1 ∨ (w3.alloc (.cells #[.slice aa nn ac] 27)).heap.size ≤ b) := by
  intro b o len c e
  injection e with e
  subst e
  have h1 := hrow.lt b rfl
  simp; omega
 rw [hnn] at hrow hrd0
 have Hrest := Lib.hid (And.intro hss hsl)
 clear hsl hrow
 rw [hnn]
 gi_wp2_with (refine ⟨trivial, ?_⟩; refine (numbers_in _ _ _ _ _).mono ?_; rintro e w' ⟨rfl, rfl⟩)
 refine wpIn_rangeFunc_ownG hro (by omega) (gf := 135) (lb := #[.pointer (some ⟨w3.heap.size, 0, none⟩)]) rfl trivial (enters_of Tryz.func135 (by kernel_rfl) rfl)
  (nums_stops 8 (by omega) w3.heap.size (.slice aa nn ac) ss (fun k => k = S1 ∨ (w3.alloc (.cells #[.slice aa nn ac] 27)).heap.size ≤ k) (by simp; omega) hvf (fun k e => by have := hg.size; rcases e with e | e <;> (try simp at e) <;> omega) hsm hsn _ (by go_simp) (hrd0.below (Nat.le_refl _) ((Below.refl _ _).alloc (Nat.le_refl _) _)) hg3)
  (fun h1 h2 => Keeps.trans h1 h2) (fun W l o o' hl _ _ _ => (Keeps.grown (grownBy_putObj' W l o')).mono (fun i _ e => by cases e; exact .inr hl)) (Below.refl _ _) (fun _ => rfl)
  (OpenI w f S1) (fun _ _ _ => False)
  (fun pre W W' row hI hgr hr => by
   have hne : ∀ k o, W.heap[k]? = some o → o.isCells = true → some k ≠ row := fun k o h1 h2 e => by
    obtain ⟨_, o', h3, h4⟩ := hr k e.symm
    rw [h1] at h3; cases h3; rw [h2] at h4; cases h4
   exact ⟨(hgr.block _ (Array.getElem?_eq_some_iff.1 hI.1).1 (hne _ _ hI.1 rfl)).trans hI.1, (hgr.block _ (Array.getElem?_eq_some_iff.1 hI.2.1).1 (hne _ _ hI.2.1 rfl)).trans hI.2.1, hI.2.2.grown hgr hI.2.2.size (fun k e => by have := (hr k e).1; simp at this; omega)⟩)
  (fun c s W W' row h => h.elim) hI4
  (fun x => { tmps := #[.pointer (some ⟨f, 0, none⟩), undef, .pointer none, .int .i64 0, .pointer (some ⟨S1 + 1, 0, none⟩), .int .i64 x.1, .string (strL x.2), .bool false, .pointer (some ⟨f, 0, none⟩), .bool false, .bool false, .pointer (some ⟨f, 0, none⟩), .bool false, .pointer (some ⟨f, 0, none⟩), .agg #[.pointer (some ⟨f, 0, none⟩), .int .i64 0, .int .i64 0, .string ⟨#[]⟩], .pointer (some ⟨S1, 0, none⟩), .pointer (some ⟨f, 0, none⟩), .slice aa nn ac, .func (.func 135) #[] #[.pointer (some ⟨w3.heap.size, 0, none⟩)], .int .i64 x.1, .string (strL x.2), undef, undef, undef, undef, undef, undef, undef, undef, undef, undef, undef, undef, undef, undef, undef, undef], defers := [] }) ?assign ?body ?done ?stop
 case assign =>
  intro l x W K hK
  gi_wp2
  exact hK
 case body =>
  rintro l pre ⟨m, s⟩ W ⟨h1, h2, h3⟩ hlt
  obtain ⟨⟨q0, q1, q2, q3⟩, hfz⟩ := cells4 h1
  have f2 := hfz 2
  have f3 := hfz 3
  have c0 := cell1 h2
  obtain ⟨t, ht⟩ : ∃ t, strL s = t := ⟨_, rfl⟩
  have hfin := open_step (m := m) (s := s) (t := t) ht ⟨h1, h2, h3⟩ (show S1 + 2 ≤ (w3.alloc (.cells #[.slice aa nn ac] 27)).heap.size by simp; omega) (by omega)
  have HF := Lib.hid hfin
  clear hfin h1 h2 h3 hfz q0 q1 hlt Hrest hg3 hvf hsz3 hI3 hI4 hS1h hS2h hbase hsn hsm hrd0 hss hb3 hb2 hW2 hS1 Hlist Hdown hg hnm hl hdn h
  generalize (lastNum pre).1 = p1 at q2
  generalize strL (lastNum pre).2 = p2 at q3
  --BODY
  gi_wp2
  gi_region
  all_goals
   gi_wp2
   exact HF.out
  --END
 case stop => exact fun D c pre W _ _ h _ => h.elim
 case done =>
  rintro D ys W hD rfl ⟨h1, h2, h3⟩ hK
  obtain ⟨⟨q0, q1, q2, q3⟩, hfz⟩ := cells4 h1
  have f1 := hfz 1
  have c0 := cell1 h2
  have hDs : S1 + 2 ≤ D := by simp at hD; omega
  have hfin : IdsOpenDone w f d (.returned (.tuple #[.pointer (some ⟨S1, 0, none⟩), .int .i64 0])) ((W.setCell ⟨S1, 1, none⟩ (.int .i64 (lastNum (numL ss)).1)).drew.putObj D (.deferred none)) S1 ss := by
   have k0 : Keeps (fun k => k = S1) W (W.setCell ⟨S1, 1, none⟩ (.int .i64 (lastNum (numL ss)).1)).drew := (Keeps.setCell (F := fun k => k = S1) _ ⟨S1, 1, none⟩ _ rfl).trans (Keeps.drew _ _)
   have k1 : Keeps (fun k => k = D) (W.setCell ⟨S1, 1, none⟩ (.int .i64 (lastNum (numL ss)).1)).drew ((W.setCell ⟨S1, 1, none⟩ (.int .i64 (lastNum (numL ss)).1)).drew.putObj D (.deferred none)) := (Keeps.grown (grownBy_putObj' _ D _)).mono (fun i _ e => (Option.some.inj e).symm)
   have e1 := Go.heap_setCell_same W S1 1 _ _ (.int .i64 (lastNum (numL ss)).1) h1
   refine ⟨rfl, hss, (k1.heap (show (W.setCell ⟨S1, 1, none⟩ (.int .i64 (lastNum (numL ss)).1)).drew.heap[S1]? = _ from e1) (by omega)), by omega, h3.trans (((k0.mono (G := fun k => k = S1 ∨ k = D) (fun k _ e => .inl e)).trans (k1.mono (fun k _ e => .inr e))).below (fun i e => by omega) h3.size)⟩
  have hK' : ∀ v, (W.setCell ⟨S1, 1, none⟩ v).drew.heap[D]? = some (.deferred (some [])) := fun v => (Go.heap_setCell_other W ⟨S1, 1, none⟩ D v (by show D ≠ S1; omega)).trans hK
  have HF := Lib.hid (And.intro hfin hK')
  generalize hp1 : (lastNum (numL ss)).1 = p1 at q2 HF
  generalize strL (lastNum (numL ss)).2 = p2 at q3
  clear hfin hK' h1 h2 h3 hfz q0 hp1 Hrest hg3 hvf hsz3 hI3 hI4 hS1h hS2h hbase hsn hsm hrd0 hss hb3 hb2 hW2 hS1 Hlist Hdown hg hnm hl hdn h hK hD hDs
  gi_wp2
  gi_region
  all_goals
   gi_wp2
   refine ⟨by simp, .inl ⟨_, _, rfl, run_takeDeferred (w := (W.setCell ⟨S1, 1, none⟩ (.int .i64 p1)).drew) (HF.out.2 _), ?_⟩⟩
   refine ⟨_, results_tmp2 rfl _ _ _, ?_⟩
   exact ⟨S1, ss, HF.out.1⟩
end Go.Proofs.YtffnbkmigapmjaaGreatDoor
