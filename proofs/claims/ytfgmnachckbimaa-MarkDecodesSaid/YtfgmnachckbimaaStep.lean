/-
  A fate behind a mark: mark.step and pillarboxref10.Step compute the same.
-/
import Derived.Test.YtfgmnachckbimaaDecWalk
set_option linter.unusedSimpArgs false
set_option linter.unusedVariables false
namespace Go.Proofs.Ytfgmnachckbimaa
open Go.RowKit
/-- A fate, as plain data. -/
structure FateD where
  state : Int
  tries : Int
  next : Int
  crashes : Int
  opened : Bool
abbrev FateD.cells (f : FateD) : List Value := [.int .i64 f.state, .int .i64 f.tries, .int .i64 f.next, .int .i64 f.crashes, .bool f.opened]
abbrev FateD.val (f : FateD) : Value := .agg #[.int .i64 f.state, .int .i64 f.tries, .int .i64 f.next, .int .i64 f.crashes, .bool f.opened]
def stepD (f : FateD) (k : MarkD) : FateD :=
  if f.state ≠ 0 then f
  else if k.kind = 1 then { f with opened := true }
  else if k.kind = 5 then { f with opened := false, crashes := wrap64 (f.crashes + 1) }
  else { state := if k.kind = 2 then 1 else if k.kind = 3 then 2 else f.state, tries := if f.opened then wrap64 (f.tries + 1) else f.tries, next := if k.kind = 4 then k.n else f.next, crashes := f.crashes, opened := false }
theorem heap_set_other {w : World} {p : Addr} {u : Value} {g : Nat} {o : Obj} (hne : g ≠ p.block) (h : w.heap[g]? = some o) : (w.setCell p u).heap[g]? = some o :=
  (Keeps.setCell (F := fun k => k = p.block) w p u rfl).heap h hne
/-- A struct as the only result. -/
theorem results_row1 {P : Program} {fn : Func} {p : Tmp} {ty : TypeId} (h : fn.results = #[.cell p ty]) (tmps : Array Value) (w : World) (g : Nat) (t : TypeId) (cs : Array Value) (fr : Nat × Nat) (d : TypeDesc)
    (hp : tmps.getD p undef = .pointer (some ⟨g, 0, none⟩)) (hg : w.heap[g]? = some (.cells cs t fr)) (hu : P.underlying ty = some d) (hd : (match d with | .struct _ | .array _ _ => true | _ => false) = true) (hi : (P.info? ty).map (·.size) = some cs.size) :
    (results fn tmps).run P w = .ok (.agg cs) w := by
  have hp' : tmps[p]?.getD undef = .pointer (some ⟨g, 0, none⟩) := by simpa using hp
  simp [results, h, hp', asAddr, run_loadVar_row w g t ty cs fr d hg hu hd hi]
theorem heap_new_at {w : World} {n : Nat} (o : Obj) (h : n = w.heap.size) : (w.alloc o).heap[n]? = some o := by rw [h]; exact heap_alloc_new w o
theorem heap5 {w : World} {g : Nat} {c : Array Value} {t : TypeId} (h : w.heap[g]? = some (.cells c t (0, 0))) (hc : ∃ c0 c1 c2 c3 c4, c = #[c0, c1, c2, c3, c4]) (x0 x1 x2 x3 x4 : Value) :
    (((((w.setCell ⟨g, 0, none⟩ x0).setCell ⟨g, 1, none⟩ x1).setCell ⟨g, 2, none⟩ x2).setCell ⟨g, 3, none⟩ x3).setCell ⟨g, 4, none⟩ x4).heap[g]? = some (.cells #[x0, x1, x2, x3, x4] t (0, 0)) := by
  obtain ⟨c0, c1, c2, c3, c4, rfl⟩ := hc
  exact heap_setCell_same _ _ 4 _ _ _ (heap_setCell_same _ _ 3 _ _ _ (heap_setCell_same _ _ 2 _ _ _ (heap_setCell_same _ _ 1 _ _ _ (heap_setCell_same _ _ 0 _ _ _ h))))
set_option maxRecDepth 100000 in
set_option maxHeartbeats 2000000 in
theorem step_calls (f : FateD) (k : MarkD) (w : World) :
    Calls Try.prog 36 #[f.val, k.val] w fun e w' => e = .returned (stepD f k).val ∧ Below w.heap.size w w' := by
  obtain ⟨state, tries, next, crashes, opened⟩ := f
  obtain ⟨kind, rcpt, n⟩ := k
  have hz : ∀ w, (zeroValue 52).run Try.prog w = .ok (.agg #[.int .i64 0, .int .i64 0, .int .i64 0, .int .i64 0, .bool false]) w := fun _ => by kernel_rfl
  have hfin : ∀ (r : Value) (a b : Obj) (c : Array Value) (tmps : Array Value) (x0 x1 x2 x3 x4 : Value), #[x0, x1, x2, x3, x4] = c → tmps.getD 4 undef = .pointer (some ⟨w.heap.size + 1 + 1, 0, none⟩) →
      .agg c = r → 
      bodyPost Try.prog Try.f36 (fun e w' => e = .returned r ∧ Below w.heap.size w w') Exit.ret { tmps := tmps, defers := [] } (((w.alloc a).alloc b).alloc (.cells c 52)) := by
    rintro r a b c tmps x0 x1 x2 x3 x4 rfl hp hv
    refine bodyPost_ret (results_row1 rfl _ _ (w.heap.size + 1 + 1) 52 _ (0, 0) _ hp (heap_new_at _ (by simp)) Try.underlying52 rfl (by kernel_rfl)) rfl ⟨by rw [hv], (((Below.refl _ _).alloc (Nat.le_refl _) _).alloc (by simp) _).alloc (by simp; omega) _⟩
  have Hfin := Lib.hid hfin
  clear hfin
  by_cases hs : state = 0
  · subst hs
    by_cases h1 : kind = 1
    · subst h1
      go_enter Try.func36, Try.ntmps36
      go_wp2
      exact Hfin.out _ _ _ _ _ _ _ _ _ _ rfl rfl rfl
    · by_cases h5 : kind = 5
      · subst h5
        go_enter Try.func36, Try.ntmps36
        go_wp2
        all_goals exact Hfin.out _ _ _ _ _ _ _ _ _ _ rfl rfl rfl
      · by_cases h2 : kind = 2
        · subst h2
          cases opened
          all_goals
            go_enter Try.func36, Try.ntmps36
            go_wp2
            exact Hfin.out _ _ _ _ _ _ _ _ _ _ rfl rfl rfl
        · by_cases h3 : kind = 3
          · subst h3
            cases opened
            all_goals
              go_enter Try.func36, Try.ntmps36
              go_wp2
              exact Hfin.out _ _ _ _ _ _ _ _ _ _ rfl rfl rfl
          · by_cases h4 : kind = 4
            · subst h4
              cases opened
              all_goals
                go_enter Try.func36, Try.ntmps36
                go_wp2
                exact Hfin.out _ _ _ _ _ _ _ _ _ _ rfl rfl rfl
            · cases opened
              all_goals
                go_enter Try.func36, Try.ntmps36
                go_wp2
                refine Hfin.out _ _ _ _ _ _ _ _ _ _ rfl rfl ?_
                rw [stepD, if_neg (by simp), if_neg h1, if_neg h5, if_neg h2, if_neg h3, if_neg h4]
                rfl
  · have hD : (FateD.val (stepD ⟨state, tries, next, crashes, opened⟩ ⟨kind, rcpt, n⟩)) = FateD.val ⟨state, tries, next, crashes, opened⟩ := by rw [stepD, if_pos hs]
    go_enter Try.func36, Try.ntmps36
    go_wp2
    exact Hfin.out _ _ _ _ _ _ _ _ _ _ rfl rfl hD.symm
set_option maxRecDepth 100000 in
set_option maxHeartbeats 2000000 in
theorem refStep_calls (f : FateD) (k : MarkD) (w : World) :
    Calls Try.prog 37 #[f.val, k.val] w fun e w' => e = .returned (stepD f k).val ∧ Below w.heap.size w w' := by
  obtain ⟨state, tries, next, crashes, opened⟩ := f
  obtain ⟨kind, rcpt, n⟩ := k
  have hz : ∀ w, (zeroValue 52).run Try.prog w = .ok (.agg #[.int .i64 0, .int .i64 0, .int .i64 0, .int .i64 0, .bool false]) w := fun _ => by kernel_rfl
  have hfin : ∀ (r : Value) (a b : Obj) (c : Array Value) (tmps : Array Value) (x0 x1 x2 x3 x4 : Value), #[x0, x1, x2, x3, x4] = c → tmps.getD 4 undef = .pointer (some ⟨w.heap.size + 1 + 1, 0, none⟩) →
      .agg c = r → 
      bodyPost Try.prog Try.f37 (fun e w' => e = .returned r ∧ Below w.heap.size w w') Exit.ret { tmps := tmps, defers := [] } (((w.alloc a).alloc b).alloc (.cells c 52)) := by
    rintro r a b c tmps x0 x1 x2 x3 x4 rfl hp hv
    refine bodyPost_ret (results_row1 rfl _ _ (w.heap.size + 1 + 1) 52 _ (0, 0) _ hp (heap_new_at _ (by simp)) Try.underlying52 rfl (by kernel_rfl)) rfl ⟨by rw [hv], (((Below.refl _ _).alloc (Nat.le_refl _) _).alloc (by simp) _).alloc (by simp; omega) _⟩
  have Hfin := Lib.hid hfin
  clear hfin
  by_cases hs : state = 0
  · subst hs
    by_cases h1 : kind = 1
    · subst h1
      go_enter Try.func37, Try.ntmps37
      go_wp2
      exact Hfin.out _ _ _ _ _ _ _ _ _ _ rfl rfl rfl
    · by_cases h5 : kind = 5
      · subst h5
        go_enter Try.func37, Try.ntmps37
        go_wp2
        all_goals exact Hfin.out _ _ _ _ _ _ _ _ _ _ rfl rfl rfl
      · by_cases h2 : kind = 2
        · subst h2
          cases opened
          all_goals
            go_enter Try.func37, Try.ntmps37
            go_wp2
            exact Hfin.out _ _ _ _ _ _ _ _ _ _ rfl rfl rfl
        · by_cases h3 : kind = 3
          · subst h3
            cases opened
            all_goals
              go_enter Try.func37, Try.ntmps37
              go_wp2
              exact Hfin.out _ _ _ _ _ _ _ _ _ _ rfl rfl rfl
          · by_cases h4 : kind = 4
            · subst h4
              cases opened
              all_goals
                go_enter Try.func37, Try.ntmps37
                go_wp2
                exact Hfin.out _ _ _ _ _ _ _ _ _ _ rfl rfl rfl
            · cases opened
              all_goals
                go_enter Try.func37, Try.ntmps37
                go_wp2
                refine Hfin.out _ _ _ _ _ _ _ _ _ _ rfl rfl ?_
                rw [stepD, if_neg (by simp), if_neg h1, if_neg h5, if_neg h2, if_neg h3, if_neg h4]
                rfl
  · have hD : (FateD.val (stepD ⟨state, tries, next, crashes, opened⟩ ⟨kind, rcpt, n⟩)) = FateD.val ⟨state, tries, next, crashes, opened⟩ := by rw [stepD, if_pos hs]
    go_enter Try.func37, Try.ntmps37
    go_wp2
    exact Hfin.out _ _ _ _ _ _ _ _ _ _ rfl rfl hD.symm
end Go.Proofs.Ytfgmnachckbimaa
