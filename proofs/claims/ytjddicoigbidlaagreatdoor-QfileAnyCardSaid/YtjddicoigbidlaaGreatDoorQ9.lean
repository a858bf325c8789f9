/-
  The walk of pillarboxref10.Marks.
  The walk of the law QfileAny.
-/
import Derived.Test.YtjddicoigbidlaaGreatDoorQ8
import Derived.Lib.SlicesS
set_option linter.unusedSimpArgs false
set_option linter.unusedVariables false
namespace Go.Proofs.YtjddicoigbidlaaGreatDoor
open Go.RowKit
theorem strB_ne {a b : List UInt8} (h : a ≠ b) : strB a ≠ strB b := by
  intro e; apply h; have := congrArg (fun s : ByteArray => s.data.toList) e; simpa [strB] using this
theorem eyeNum_le (bs : List UInt8) (bad : Bool) : (eyeNum bs bad).1 ≤ 4611686018427387904 := by
  unfold eyeNum; split
  · simp
  · split
    · simp
    · simp only; omega
theorem msR_succ {bs : List UInt8} {j : Nat} {k : MarkD} (h : chunkM bs j = some k) : msR bs (j + 1) = msR bs j ++ [k] := by
  unfold msR; rw [List.range_succ, List.filterMap_append]; simp [h]
/-- What stays while a part is looked at. -/
def MkRest (w0 : World) (vb : Value) (bs : List UInt8) (v28 : Value) (c : List UInt8) (vo : Value) (ms : List MarkD) (w : World) : Prop :=
  Below w0.heap.size w0 w ∧ RdB w vb bs ∧ RdB w v28 c ∧ w.ownsRow w0.heap.size 52 3 vo ms.length (ms.flatMap MarkD.cells)
abbrev MkS (w0 : World) (vb : Value) (bs : List UInt8) (v28 : Value) (c : List UInt8) (vo : Value) (ms : List MarkD) (E K : Nat) (bad : Bool) (n1 n2 n3 : Int) (w' : World) : Prop :=
  w'.cell? ⟨E, 1, none⟩ = some (.bool bad) ∧ w'.cell? ⟨K, 0, none⟩ = some (.int .i64 n1) ∧ w'.cell? ⟨K, 1, none⟩ = some (.int .i64 n2) ∧ w'.cell? ⟨K, 2, none⟩ = some (.int .i64 n3) ∧
  (convert 23 9 v28).run Tryz.prog w' = .ok (.string (strB c)) w' ∧ MkRest w0 vb bs v28 c vo ms w'
theorem MkS.go {w0 : World} {vb : Value} {bs : List UInt8} {v28 : Value} {c : List UInt8} {vo : Value} {ms : List MarkD} {E K : Nat} {bad : Bool} {n1 n2 n3 : Int} {w w' : World} (hne : Hid (c ≠ [])) (hb : Below w.heap.size w w')
    (h : MkS w0 vb bs v28 c vo ms E K bad n1 n2 n3 w) : MkS w0 vb bs v28 c vo ms E K bad n1 n2 n3 w' := by
  obtain ⟨h1, h2, h3, h4, _, hB, hvb, h28, hrow⟩ := h
  have l1 := World.block_lt_of_cell? w ⟨E, 1, none⟩ h1
  have l2 := World.block_lt_of_cell? w ⟨K, 0, none⟩ h2
  obtain ⟨cc, f⟩ := below_cell hb
  have h28' := h28.below (Nat.le_refl _) hb
  exact ⟨(cc _ _ l1).trans h1, (cc _ _ l2).trans h2, (cc _ _ l2).trans h3, (cc _ _ l2).trans h4, run_str h28' hne.out, hB.trans (hb.mono hB.size), hvb.below (Nat.le_refl _) hb, h28', own_below hrow hb (Nat.le_refl _)⟩
set_option maxRecDepth 100000 in
set_option maxHeartbeats 8000000 in
theorem refMarks_calls (v : Value) (bs : List UInt8) (w : World) (hv : RdB w v bs) (hlen : bs.length ≤ 140737488351232) :
    Calls Tryz.prog 27 #[v] w (DecDone w bs) := by
  obtain ⟨i0, hi, hz0, hz1, hz2⟩ := info_parts infoMark
  obtain ⟨a, cap, rfl, hlc, hcap⟩ := hv.form
  obtain ⟨L, hL⟩ : ∃ L, bs.length = L := ⟨_, rfl⟩
  have hv0 := hv
  rw [hL] at hv hlc hlen ⊢
  have HL := Lib.hid hL
  clear hL hv0
  have hLi : (L : Int) ≤ 140737488351232 := by omega
  go_enter Tryz.func27, Tryz.ntmps27
  go_wp2
  go_loopw [4, 5] (fun vo i wr => ∃ j A : Nat, A = 28 * j ∧ j ≤ 4096 ∧ A ≤ L ∧ i = .int .i64 A ∧ (∀ k, k < j → (chunkM bs k).isSome = true) ∧ (msR bs j).length = j ∧ wr.ownsRow w.heap.size 52 3 vo (msR bs j).length ((msR bs j).flatMap MarkD.cells) ∧ Below w.heap.size w wr) (fun _ i _ => L - (intOf i).toNat)
  case atStart =>
    exact ⟨0, 0, rfl, by omega, by omega, rfl, fun k hk => absurd hk (Nat.not_lt_zero _), by simp [msR], by simpa [msR] using nil_row w w.heap.size 3 52, Below.refl _ _⟩
  case round =>
    obtain ⟨j, A, hA, hj, hAL, rfl, hsome, hmsl, hown, hbw⟩ := hrel
    have hstop : (j = 4096 ∨ chunkM bs j = none) → (decodeM bs).length = j ∧ decodeM bs = msR bs j := fun h => by
      have := decodeM_stop bs j hsome hj h
      exact ⟨by rw [this]; exact hmsl, this⟩
    have Hsome := Lib.hid hsome
    have Hmsl := Lib.hid hmsl
    obtain ⟨ao, capo, hvo⟩ := own_form0 hown
    by_cases hroom : (28 : Int) ≤ (L : Int) - (A : Int)
    · by_cases hj4 : j < 4096
      · obtain ⟨c, hcdef⟩ : ∃ c, chunkAt bs j = c := ⟨_, rfl⟩
        have hcl : c.length = 28 := by rw [← hcdef]; unfold chunkAt; rw [List.length_take, List.length_drop, HL.out]; omega
        have hne : c ≠ [] := by intro h; rw [h] at hcl; cases hcl
        have hchunk : chunkM bs j = parseMark c := by unfold chunkM; rw [hcdef, if_neg (by omega)]
        have hparse := eye_parse c hcl
        have hle1 := eyeNum_le (c.take 24) false
        have hle2 := eyeNum_le (eye1 c).2.1 (eye1 c).2.2
        have hle3 := eyeNum_le (eye2 c).2.1 (eye2 c).2.2
        obtain ⟨n1, s1, t1, he1⟩ : ∃ n s t, eyeNum (c.take 24) false = (n, s, t) := ⟨_, _, _, rfl⟩
        have e1 : eye1 c = (n1, s1, t1) := he1
        rw [e1] at hle2
        simp only at hle2
        obtain ⟨n2, s2, t2, he2⟩ : ∃ n s t, eyeNum s1 t1 = (n, s, t) := ⟨_, _, _, rfl⟩
        have e2 : eye2 c = (n2, s2, t2) := by rw [eye2, e1]; exact he2
        rw [e2] at hle3
        simp only at hle3
        obtain ⟨n3, s3, t3, he3⟩ : ∃ n s t, eyeNum s2 t2 = (n, s, t) := ⟨_, _, _, rfl⟩
        have e3 : eye3 c = (n3, s3, t3) := by rw [eye3, e2]; exact he3
        have em : eyeMark c = ⟨n1, n2, n3⟩ := by rw [eyeMark, e1, e2, e3]
        rw [e3, em] at hparse
        rw [he1] at hle1
        rw [he2] at hle2
        rw [he3] at hle3
        simp only at hparse hle1 hle2 hle3
        have hc1 := fun E v W h => eyeNum_calls E v (c.take 24) false W h
        have hc2 := fun E v W h => eyeNum_calls E v s1 t1 W h
        have hc3 := fun E v W h => eyeNum_calls E v s2 t2 W h
        rw [he1] at hc1
        rw [he2] at hc2
        rw [he3] at hc3
        have Hc1 := Lib.hid hc1
        have Hc2 := Lib.hid hc2
        have Hc3 := Lib.hid hc3
        have Hne := Lib.hid hne
        have hvr := hv.below (Nat.le_refl _) hbw
        have hp24 := hvr.part A (A + 24) (by omega) (by rw [HL.out]; omega)
        have hp28 := hvr.part A (A + 28) (by omega) (by rw [HL.out]; omega)
        have hx : ∀ k, (bs.take (A + k)).drop A = (bs.drop A).take k := fun k => by rw [List.drop_take]; congr 1; omega
        rw [hx, show A + 24 - A = 24 by omega] at hp24
        rw [hx, show A + 28 - A = 28 by omega] at hp28
        have hc28 : (bs.drop A).take 28 = c := by rw [← hcdef, hA]; rfl
        have hc24 : (bs.drop A).take 24 = c.take 24 := by rw [← hc28, List.take_take]; rfl
        rw [hc28] at hp28
        rw [hc24] at hp24
        have hsl1 : ∀ w, (Instr.sliceAt 23 (.slice a L cap) (some (.int .i64 (A : Int))) (some (.int .i64 ((A : Int) + 24))) none).run Tryz.prog w = .ok (.slice (if cap = A then a else a.map (·.add A)) 24 (cap - A)) w := by
          have := run_slice_lh (P := Tryz.prog) Tryz.underlying23 u8size a L cap A (A + 24) (by omega) (by omega)
          rw [show A + 24 - A = 24 by omega] at this
          exact this
        have hsl2 : ∀ w, (Instr.sliceAt 23 (.slice a L cap) (some (.int .i64 (A : Int))) (some (.int .i64 ((A : Int) + 28))) none).run Tryz.prog w = .ok (.slice (if cap = A then a else a.map (·.add A)) 28 (cap - A)) w := by
          have := run_slice_lh (P := Tryz.prog) Tryz.underlying23 u8size a L cap A (A + 28) (by omega) (by omega)
          rw [show A + 28 - A = 28 by omega] at this
          exact this
        generalize (if cap = A then a else a.map (·.add A)) = a2 at hsl1 hsl2 hp24 hp28
        generalize cap - A = cap2 at hsl1 hsl2 hp24 hp28
        have hE0 : EyeAt (wr.alloc (.cells #[.slice a2 24 cap2, .bool false] 89)) wr.heap.size (.slice a2 24 cap2) (c.take 24) false :=
          ⟨heap_alloc_new wr _, hp24.below (Nat.le_refl _) ((Below.refl _ _).alloc (Nat.le_refl _) _), by
            intro h
            rcases hp24 with ⟨_, _, _, _, h'⟩ | ⟨b', off', cap', h1, _, _, _, h4, _⟩
            · have := congrArg List.length h'; simp [hcl] at this
            · simp only [Value.slice.injEq] at h1
              obtain ⟨rfl, _, _⟩ := h1
              have hb' : b' = wr.heap.size := Option.some.inj h
              omega⟩
        have HA := Lib.hid hA
        have Hchunk := Lib.hid hchunk
        have Hparse := Lib.hid hparse
        have Hstop := Lib.hid hstop
        have hA28 : A + 28 ≤ L := by omega
        rw [hmsl] at hown hvo
        subst hvo
        clear hstop hsome hmsl hA hchunk hparse hc1 hc2 hc3 he1 he2 he3 e1 e2 e3 em hx hc28 hc24 hne hcdef
        go_wp2_with fail
        refine (Hc1.out _ _ _ hE0).mono ?_; rintro e w1 ⟨v1, rfl, hE1, hK1, ho1⟩
        go_wp2_with fail
        refine (Hc2.out _ _ _ hE1).mono ?_; rintro e w2 ⟨v2, rfl, hE2, hK2, ho2⟩
        go_wp2_with fail
        refine (Hc3.out _ _ _ hE2).mono ?_; rintro e w3 ⟨v3, rfl, hE3, hK3, ho3⟩
        have hb3 : Below wr.heap.size wr w3 := ((Below.refl _ _).alloc (Nat.le_refl _) _).trans (((hK1.trans hK2).trans hK3).below (fun i h => by omega) (by simp))
        obtain ⟨_, hbad, _, _⟩ := hE3.cells
        have hk0 : (w3.alloc (.cells #[.int .i64 n1, .int .i64 n2, .int .i64 n3] 52)).heap[w3.heap.size]? = some (.cells #[.int .i64 n1, .int .i64 n2, .int .i64 n3] 52 (0, 0)) := heap_alloc_new w3 _
        have hbK : Below wr.heap.size wr (w3.alloc (.cells #[.int .i64 n1, .int .i64 n2, .int .i64 n3] 52)) := hb3.alloc hb3.size _
        have hEK := hE3.blk
        have hbad : (w3.alloc (.cells #[.int .i64 n1, .int .i64 n2, .int .i64 n3] 52)).cell? ⟨wr.heap.size, 1, none⟩ = some (.bool t3) := by
          rw [cell_of_row _ _ _ _ _ _ ((Below.heap_alloc w3 _ _ (Array.getElem?_eq_some_iff.1 hEK).1).trans hEK)]; rfl
        have hk1 : (w3.alloc (.cells #[.int .i64 n1, .int .i64 n2, .int .i64 n3] 52)).cell? ⟨w3.heap.size, 0, none⟩ = some (.int .i64 n1) := by rw [cell_of_row _ _ _ _ _ _ hk0]; rfl
        have hk2 : (w3.alloc (.cells #[.int .i64 n1, .int .i64 n2, .int .i64 n3] 52)).cell? ⟨w3.heap.size, 1, none⟩ = some (.int .i64 n2) := by rw [cell_of_row _ _ _ _ _ _ hk0]; rfl
        have hk3 : (w3.alloc (.cells #[.int .i64 n1, .int .i64 n2, .int .i64 n3] 52)).cell? ⟨w3.heap.size, 2, none⟩ = some (.int .i64 n3) := by rw [cell_of_row _ _ _ _ _ _ hk0]; rfl
        have hp28' := hp28.below (Nat.le_refl _) hbK
        have hS : MkS w (.slice a L cap) bs (.slice a2 28 cap2) c (.slice ao j capo) (msR bs j) wr.heap.size w3.heap.size t3 n1 n2 n3 (w3.alloc (.cells #[.int .i64 n1, .int .i64 n2, .int .i64 n3] 52)).drew :=
          MkS.go Hne (Below.refl _ _).drew ⟨hbad, hk1, hk2, hk3, run_str hp28' Hne.out, hbw.trans (hbK.mono hbw.size), hvr.below (Nat.le_refl _) hbK, hp28', own_below (by rw [Hmsl.out]; exact hown) hbK (Nat.le_refl _)⟩
        have hmk := fun W => refMark_calls ⟨n1, n2, n3⟩ W (by simp) (by simp only; omega) (by simp) (by simp only; omega) (by simp) (by simp only; omega)
        have hmay := fun W => mayMark_calls ⟨n1, n2, n3⟩ W
        have Hp28 := Lib.hid hp28
        have Hvr := Lib.hid hvr
        generalize hkb : MarkD.bytes ⟨n1, n2, n3⟩ = kb at hmk Hparse
        generalize hok : MarkD.good ⟨n1, n2, n3⟩ = ok at hmay Hparse
        have hkbl : kb.length = 28 := by rw [← hkb]; exact bytes_length _
        have hkne : kb ≠ [] := by intro h; rw [h] at hkbl; cases hkbl
        have Hkne := Lib.hid hkne
        have Hmk := Lib.hid hmk
        have Hmay := Lib.hid hmay
        have HbK := Lib.hid hbK
        clear hkb hok hkbl hkne hmk hmay hp28' hk0 hEK hbad hk1 hk2 hk3 hbK hp28 hvr hp24 hE0 hE1 hE2 hE3 hK1 hK2 hK3 ho1 ho2 ho3 hb3 hcl hv
        have hwr28 : IntKind.i64.wrap ((A : Int) + 28) = (A : Int) + 28 := IntWalk.i64_in _ (by omega)
        cases t3
        · cases ok
          · go_wp2
            refine wp_region_noPanic ?_
            refine wp_region_held_drew (S := (fun w' => w'.cell? ⟨wr.heap.size, 1, none⟩ = some (.bool false) ∧ w'.cell? ⟨w3.heap.size, 0, none⟩ = some (.int .i64 n1) ∧ w'.cell? ⟨w3.heap.size, 1, none⟩ = some (.int .i64 n2) ∧ w'.cell? ⟨w3.heap.size, 2, none⟩ = some (.int .i64 n3) ∧ (convert 23 9 (.slice a2 28 cap2)).run Tryz.prog w' = .ok (.string (strB c)) w' ∧ MkRest w (.slice a L cap) bs (.slice a2 28 cap2) c (.slice ao j capo) (msR bs j) w')) (by kernel_rfl) (by first | with_reducible exact hS | with_reducible assumption | with_reducible exact MkS.go Hne (by assumption) (by assumption)) (fun hHeld => ?_)
            refine wpAnyH_take (i := 0) (oi := _) (v := ?_) (by simp only [List.getElem?_toArray, List.getElem?_cons_succ, List.getElem?_cons_zero]; rfl) (by kernel_rfl) (by kernel_rfl) (by kernel_rfl) (fun _ _ _ h => h) (Or.inl ⟨by rfl, ?_⟩) (by assumption) ?_
            rotate_left
            · intro w hSw; (try dsimp only at hSw); go_simp; (try with_reducible rfl)
            try simp only [Act.put, List.setIfInBounds_toArray, List.set_cons_zero, List.set_cons_succ]
            refine wpAnyH_take (i := 1) (oi := _) (v := ?_) (by simp only [List.getElem?_toArray, List.getElem?_cons_succ, List.getElem?_cons_zero]; rfl) (by kernel_rfl) (by kernel_rfl) (by kernel_rfl) (fun _ _ _ h => h) (Or.inl ⟨by rfl, ?_⟩) (by assumption) ?_
            rotate_left
            · intro w hSw; (try dsimp only at hSw); go_simp; (try with_reducible rfl)
            try simp only [Act.put, List.setIfInBounds_toArray, List.set_cons_zero, List.set_cons_succ]
            refine wpAnyH_take (i := 2) (oi := _) (v := ?_) (by simp only [List.getElem?_toArray, List.getElem?_cons_succ, List.getElem?_cons_zero]; rfl) (by kernel_rfl) (by kernel_rfl) (by kernel_rfl) (fun _ _ _ h => h) (Or.inl ⟨by rfl, ?_⟩) (by assumption) ?_
            rotate_left
            · intro w hSw; (try dsimp only at hSw); go_simp; (try with_reducible rfl)
            try simp only [Act.put, List.setIfInBounds_toArray, List.set_cons_zero, List.set_cons_succ]
            refine wpAnyH_take (i := 3) (oi := _) (v := ?_) (by simp only [List.getElem?_toArray, List.getElem?_cons_succ, List.getElem?_cons_zero]; rfl) (by kernel_rfl) (by kernel_rfl) (by kernel_rfl) (fun _ _ _ h => h) (Or.inl ⟨by rfl, ?_⟩) (by assumption) ?_
            rotate_left
            · intro w hSw; (try dsimp only at hSw); go_simp; (try with_reducible rfl)
            try simp only [Act.put, List.setIfInBounds_toArray, List.set_cons_zero, List.set_cons_succ]
            refine wpAnyH_take (i := 4) (oi := _) (v := ?_) (by simp only [List.getElem?_toArray, List.getElem?_cons_succ, List.getElem?_cons_zero]; rfl) (by kernel_rfl) (by kernel_rfl) (by kernel_rfl) (fun _ _ _ h => h) (Or.inl ⟨by rfl, ?_⟩) (by assumption) ?_
            rotate_left
            · intro w hSw; (try dsimp only at hSw); go_simp; (try with_reducible rfl)
            try simp only [Act.put, List.setIfInBounds_toArray, List.set_cons_zero, List.set_cons_succ]
            refine wpAnyH_take (i := 5) (oi := _) (v := ?_) (by simp only [List.getElem?_toArray, List.getElem?_cons_succ, List.getElem?_cons_zero]; rfl) (by kernel_rfl) (by kernel_rfl) (by kernel_rfl) (fun _ _ _ h => h) (Or.inl ⟨by rfl, ?_⟩) (by assumption) ?_
            rotate_left
            · intro w hSw; (try dsimp only at hSw); go_simp; (try with_reducible rfl)
            try simp only [Act.put, List.setIfInBounds_toArray, List.set_cons_zero, List.set_cons_succ]
            refine wpAnyH_ready (rs := [6]) (by kernel_rfl) (by simp) ?_
            refine AllReadyH.cons (o := _) (by simp only [List.getElem?_toArray, List.getElem?_cons_succ, List.getElem?_cons_zero]; rfl) (fun K hK => ?_) AllReadyH.nil
            go_simp
            (go_at_call 61; refine (Hmay.out _).mono ?_; rintro e w5 ⟨rfl, hb5⟩); go_wp2_with fail
            refine hK.out _ _ (by (try dsimp only); first | with_reducible exact hS | with_reducible assumption | with_reducible exact MkS.go Hne (by assumption) (by assumption)) (fun hHeld => ?_)
            clear hK K
            try simp only [Act.put, List.setIfInBounds_toArray, List.set_cons_zero, List.set_cons_succ]
            refine wpAnyH_take (i := 7) (oi := _) (v := ?_) (by simp only [List.getElem?_toArray, List.getElem?_cons_succ, List.getElem?_cons_zero]; rfl) (by kernel_rfl) (by kernel_rfl) (by kernel_rfl) (fun _ _ _ h => h) (Or.inl ⟨by rfl, ?_⟩) (by assumption) ?_
            rotate_left
            · intro w hSw; (try dsimp only at hSw); go_simp; (try with_reducible rfl)
            try simp only [Act.put, List.setIfInBounds_toArray, List.set_cons_zero, List.set_cons_succ]
            refine wpAnyH_take (i := 8) (oi := _) (v := ?_) (by simp only [List.getElem?_toArray, List.getElem?_cons_succ, List.getElem?_cons_zero]; rfl) (by kernel_rfl) (by kernel_rfl) (by kernel_rfl) (fun _ _ _ h => h) (Or.inl ⟨by rfl, ?_⟩) (by assumption) ?_
            rotate_left
            · intro w hSw; (try dsimp only at hSw); go_simp; (try with_reducible rfl)
            try simp only [Act.put, List.setIfInBounds_toArray, List.set_cons_zero, List.set_cons_succ]
            refine wpAnyH_take (i := 9) (oi := _) (v := ?_) (by simp only [List.getElem?_toArray, List.getElem?_cons_succ, List.getElem?_cons_zero]; rfl) (by kernel_rfl) (by kernel_rfl) (by kernel_rfl) (fun _ _ _ h => h) (Or.inl ⟨by rfl, ?_⟩) (by assumption) ?_
            rotate_left
            · intro w hSw; (try dsimp only at hSw); go_simp; (try with_reducible rfl)
            try simp only [Act.put, List.setIfInBounds_toArray, List.set_cons_zero, List.set_cons_succ]
            refine wpAnyH_take (i := 10) (oi := _) (v := undef) (by simp only [List.getElem?_toArray, List.getElem?_cons_succ, List.getElem?_cons_zero]; rfl) (by kernel_rfl) (by kernel_rfl) (by kernel_rfl) (fun _ _ _ h => h) (Or.inr ⟨by rfl, rfl⟩) (by assumption) ?_
            try simp only [Act.put, List.setIfInBounds_toArray, List.set_cons_zero, List.set_cons_succ]
            refine wpAnyH_take (i := 11) (oi := _) (v := undef) (by simp only [List.getElem?_toArray, List.getElem?_cons_succ, List.getElem?_cons_zero]; rfl) (by kernel_rfl) (by kernel_rfl) (by kernel_rfl) (fun _ _ _ h => h) (Or.inr ⟨by rfl, rfl⟩) (by assumption) ?_
            try simp only [Act.put, List.setIfInBounds_toArray, List.set_cons_zero, List.set_cons_succ]
            refine wpAnyH_take (i := 12) (oi := _) (v := undef) (by simp only [List.getElem?_toArray, List.getElem?_cons_succ, List.getElem?_cons_zero]; rfl) (by kernel_rfl) (by kernel_rfl) (by kernel_rfl) (fun _ _ _ h => h) (Or.inr ⟨by rfl, rfl⟩) (by assumption) ?_
            try simp only [Act.put, List.setIfInBounds_toArray, List.set_cons_zero, List.set_cons_succ]
            refine wpAnyH_take (i := 13) (oi := _) (v := undef) (by simp only [List.getElem?_toArray, List.getElem?_cons_succ, List.getElem?_cons_zero]; rfl) (by kernel_rfl) (by kernel_rfl) (by kernel_rfl) (fun _ _ _ h => h) (Or.inr ⟨by rfl, rfl⟩) (by assumption) ?_
            try simp only [Act.put, List.setIfInBounds_toArray, List.set_cons_zero, List.set_cons_succ]
            refine wpAnyH_take (i := 14) (oi := _) (v := undef) (by simp only [List.getElem?_toArray, List.getElem?_cons_succ, List.getElem?_cons_zero]; rfl) (by kernel_rfl) (by kernel_rfl) (by kernel_rfl) (fun _ _ _ h => h) (Or.inr ⟨by rfl, rfl⟩) (by assumption) ?_
            try simp only [Act.put, List.setIfInBounds_toArray, List.set_cons_zero, List.set_cons_succ]
            refine wpAnyH_take (i := 15) (oi := _) (v := undef) (by simp only [List.getElem?_toArray, List.getElem?_cons_succ, List.getElem?_cons_zero]; rfl) (by kernel_rfl) (by kernel_rfl) (by kernel_rfl) (fun _ _ _ h => h) (Or.inr ⟨by rfl, rfl⟩) (by assumption) ?_
            try simp only [Act.put, List.setIfInBounds_toArray, List.set_cons_zero, List.set_cons_succ]
            refine wpAnyH_take (i := 16) (oi := _) (v := undef) (by simp only [List.getElem?_toArray, List.getElem?_cons_succ, List.getElem?_cons_zero]; rfl) (by kernel_rfl) (by kernel_rfl) (by kernel_rfl) (fun _ _ _ h => h) (Or.inr ⟨by rfl, rfl⟩) (by assumption) ?_
            try simp only [Act.put, List.setIfInBounds_toArray, List.set_cons_zero, List.set_cons_succ]
            refine wpAnyH_take (i := 17) (oi := _) (v := undef) (by simp only [List.getElem?_toArray, List.getElem?_cons_succ, List.getElem?_cons_zero]; rfl) (by kernel_rfl) (by kernel_rfl) (by kernel_rfl) (fun _ _ _ h => h) (Or.inr ⟨by rfl, rfl⟩) (by assumption) ?_
            try simp only [Act.put, List.setIfInBounds_toArray, List.set_cons_zero, List.set_cons_succ]
            refine wpAnyH_take (i := 18) (oi := _) (v := undef) (by simp only [List.getElem?_toArray, List.getElem?_cons_succ, List.getElem?_cons_zero]; rfl) (by kernel_rfl) (by kernel_rfl) (by kernel_rfl) (fun _ _ _ h => h) (Or.inr ⟨by rfl, rfl⟩) (by assumption) ?_
            try simp only [Act.put, List.setIfInBounds_toArray, List.set_cons_zero, List.set_cons_succ]
            refine wpAnyH_take (i := 19) (oi := _) (v := undef) (by simp only [List.getElem?_toArray, List.getElem?_cons_succ, List.getElem?_cons_zero]; rfl) (by kernel_rfl) (by kernel_rfl) (by kernel_rfl) (fun _ _ _ h => h) (Or.inr ⟨by rfl, rfl⟩) (by assumption) ?_
            try simp only [Act.put, List.setIfInBounds_toArray, List.set_cons_zero, List.set_cons_succ]
            refine wpAnyH_take (i := 20) (oi := _) (v := ?_) (by simp only [List.getElem?_toArray, List.getElem?_cons_succ, List.getElem?_cons_zero]; rfl) (by kernel_rfl) (by kernel_rfl) (by kernel_rfl) (fun _ _ _ h => h) (Or.inl ⟨by rfl, ?_⟩) (by assumption) ?_
            rotate_left
            · intro w hSw; (try dsimp only at hSw); go_simp; (try with_reducible rfl)
            try simp only [Act.put, List.setIfInBounds_toArray, List.set_cons_zero, List.set_cons_succ]
            refine wpAnyH_done (by kernel_rfl) ?_ _
            refine NoPanic.normal ?_
            have hnone : chunkM bs j = none := by rw [Hchunk.out, Hparse.out]; simp
            obtain ⟨hd1, hd2⟩ := Hstop.out (.inr hnone)
            have Hd1 := Lib.hid hd1
            have Hd2 := Lib.hid hd2
            have hfin := (by assumption : MkS w (.slice a L cap) bs (.slice a2 28 cap2) c (.slice ao j capo) (msR bs j) wr.heap.size w3.heap.size false n1 n2 n3 w5)
            obtain ⟨_, _, _, _, _, hfB, _, _, hfO⟩ := hfin
            rw [Hmsl.out] at hfO
            have HfB := Lib.hid hfB
            have HfO := Lib.hid hfO
            clear hd1 hd2 hnone hfB hfO
            go_wp2
            go_ret2
            refine ⟨_, by rw [Hd1.out, HA.out]; congr 4, by rw [Hd1.out, Hd2.out]; exact HfO.out, HfB.out⟩
          · by_cases heq : kb = c
            · have hcb : c = kb := heq.symm
              have Heq := Lib.hid heq
              subst hcb
              go_wp2
              refine wp_region_noPanic ?_
              refine wp_region_held_drew (S := (fun w' => w'.cell? ⟨wr.heap.size, 1, none⟩ = some (.bool false) ∧ w'.cell? ⟨w3.heap.size, 0, none⟩ = some (.int .i64 n1) ∧ w'.cell? ⟨w3.heap.size, 1, none⟩ = some (.int .i64 n2) ∧ w'.cell? ⟨w3.heap.size, 2, none⟩ = some (.int .i64 n3) ∧ (convert 23 9 (.slice a2 28 cap2)).run Tryz.prog w' = .ok (.string (strB c)) w' ∧ MkRest w (.slice a L cap) bs (.slice a2 28 cap2) c (.slice ao j capo) (msR bs j) w')) (by kernel_rfl) (by first | with_reducible exact hS | with_reducible assumption | with_reducible exact MkS.go Hne (by assumption) (by assumption)) (fun hHeld => ?_)
              refine wpAnyH_take (i := 0) (oi := _) (v := ?_) (by simp only [List.getElem?_toArray, List.getElem?_cons_succ, List.getElem?_cons_zero]; rfl) (by kernel_rfl) (by kernel_rfl) (by kernel_rfl) (fun _ _ _ h => h) (Or.inl ⟨by rfl, ?_⟩) (by assumption) ?_
              rotate_left
              · intro w hSw; (try dsimp only at hSw); go_simp; (try with_reducible rfl)
              try simp only [Act.put, List.setIfInBounds_toArray, List.set_cons_zero, List.set_cons_succ]
              refine wpAnyH_take (i := 1) (oi := _) (v := ?_) (by simp only [List.getElem?_toArray, List.getElem?_cons_succ, List.getElem?_cons_zero]; rfl) (by kernel_rfl) (by kernel_rfl) (by kernel_rfl) (fun _ _ _ h => h) (Or.inl ⟨by rfl, ?_⟩) (by assumption) ?_
              rotate_left
              · intro w hSw; (try dsimp only at hSw); go_simp; (try with_reducible rfl)
              try simp only [Act.put, List.setIfInBounds_toArray, List.set_cons_zero, List.set_cons_succ]
              refine wpAnyH_take (i := 2) (oi := _) (v := ?_) (by simp only [List.getElem?_toArray, List.getElem?_cons_succ, List.getElem?_cons_zero]; rfl) (by kernel_rfl) (by kernel_rfl) (by kernel_rfl) (fun _ _ _ h => h) (Or.inl ⟨by rfl, ?_⟩) (by assumption) ?_
              rotate_left
              · intro w hSw; (try dsimp only at hSw); go_simp; (try with_reducible rfl)
              try simp only [Act.put, List.setIfInBounds_toArray, List.set_cons_zero, List.set_cons_succ]
              refine wpAnyH_take (i := 3) (oi := _) (v := ?_) (by simp only [List.getElem?_toArray, List.getElem?_cons_succ, List.getElem?_cons_zero]; rfl) (by kernel_rfl) (by kernel_rfl) (by kernel_rfl) (fun _ _ _ h => h) (Or.inl ⟨by rfl, ?_⟩) (by assumption) ?_
              rotate_left
              · intro w hSw; (try dsimp only at hSw); go_simp; (try with_reducible rfl)
              try simp only [Act.put, List.setIfInBounds_toArray, List.set_cons_zero, List.set_cons_succ]
              refine wpAnyH_take (i := 4) (oi := _) (v := ?_) (by simp only [List.getElem?_toArray, List.getElem?_cons_succ, List.getElem?_cons_zero]; rfl) (by kernel_rfl) (by kernel_rfl) (by kernel_rfl) (fun _ _ _ h => h) (Or.inl ⟨by rfl, ?_⟩) (by assumption) ?_
              rotate_left
              · intro w hSw; (try dsimp only at hSw); go_simp; (try with_reducible rfl)
              try simp only [Act.put, List.setIfInBounds_toArray, List.set_cons_zero, List.set_cons_succ]
              refine wpAnyH_take (i := 5) (oi := _) (v := ?_) (by simp only [List.getElem?_toArray, List.getElem?_cons_succ, List.getElem?_cons_zero]; rfl) (by kernel_rfl) (by kernel_rfl) (by kernel_rfl) (fun _ _ _ h => h) (Or.inl ⟨by rfl, ?_⟩) (by assumption) ?_
              rotate_left
              · intro w hSw; (try dsimp only at hSw); go_simp; (try with_reducible rfl)
              try simp only [Act.put, List.setIfInBounds_toArray, List.set_cons_zero, List.set_cons_succ]
              refine wpAnyH_ready (rs := [6]) (by kernel_rfl) (by simp) ?_
              refine AllReadyH.cons (o := _) (by simp only [List.getElem?_toArray, List.getElem?_cons_succ, List.getElem?_cons_zero]; rfl) (fun K hK => ?_) AllReadyH.nil
              go_simp
              (go_at_call 61; refine (Hmay.out _).mono ?_; rintro e w5 ⟨rfl, hb5⟩); go_wp2_with fail
              refine hK.out _ _ (by (try dsimp only); first | with_reducible exact hS | with_reducible assumption | with_reducible exact MkS.go Hne (by assumption) (by assumption)) (fun hHeld => ?_)
              clear hK K
              try simp only [Act.put, List.setIfInBounds_toArray, List.set_cons_zero, List.set_cons_succ]
              refine wpAnyH_take (i := 7) (oi := _) (v := ?_) (by simp only [List.getElem?_toArray, List.getElem?_cons_succ, List.getElem?_cons_zero]; rfl) (by kernel_rfl) (by kernel_rfl) (by kernel_rfl) (fun _ _ _ h => h) (Or.inl ⟨by rfl, ?_⟩) (by assumption) ?_
              rotate_left
              · intro w hSw; (try dsimp only at hSw); go_simp; (try with_reducible rfl)
              try simp only [Act.put, List.setIfInBounds_toArray, List.set_cons_zero, List.set_cons_succ]
              refine wpAnyH_take (i := 8) (oi := _) (v := ?_) (by simp only [List.getElem?_toArray, List.getElem?_cons_succ, List.getElem?_cons_zero]; rfl) (by kernel_rfl) (by kernel_rfl) (by kernel_rfl) (fun _ _ _ h => h) (Or.inl ⟨by rfl, ?_⟩) (by assumption) ?_
              rotate_left
              · intro w hSw; (try dsimp only at hSw); go_simp; (try with_reducible rfl)
              try simp only [Act.put, List.setIfInBounds_toArray, List.set_cons_zero, List.set_cons_succ]
              refine wpAnyH_take (i := 9) (oi := _) (v := ?_) (by simp only [List.getElem?_toArray, List.getElem?_cons_succ, List.getElem?_cons_zero]; rfl) (by kernel_rfl) (by kernel_rfl) (by kernel_rfl) (fun _ _ _ h => h) (Or.inl ⟨by rfl, ?_⟩) (by assumption) ?_
              rotate_left
              · intro w hSw; (try dsimp only at hSw); go_simp; (try with_reducible rfl)
              try simp only [Act.put, List.setIfInBounds_toArray, List.set_cons_zero, List.set_cons_succ]
              refine wpAnyH_take (i := 10) (oi := _) (v := ?_) (by simp only [List.getElem?_toArray, List.getElem?_cons_succ, List.getElem?_cons_zero]; rfl) (by kernel_rfl) (by kernel_rfl) (by kernel_rfl) (fun _ _ _ h => h) (Or.inl ⟨by rfl, ?_⟩) (by assumption) ?_
              rotate_left
              · intro w hSw; (try dsimp only at hSw); go_simp; (try with_reducible rfl)
              try simp only [Act.put, List.setIfInBounds_toArray, List.set_cons_zero, List.set_cons_succ]
              refine wpAnyH_take (i := 13) (oi := _) (v := ?_) (by simp only [List.getElem?_toArray, List.getElem?_cons_succ, List.getElem?_cons_zero]; rfl) (by kernel_rfl) (by kernel_rfl) (by kernel_rfl) (fun _ _ _ h => h) (Or.inl ⟨by rfl, ?_⟩) (by assumption) ?_
              rotate_left
              · intro w hSw; (try dsimp only at hSw); go_simp; (try with_reducible rfl)
              try simp only [Act.put, List.setIfInBounds_toArray, List.set_cons_zero, List.set_cons_succ]
              refine wpAnyH_take (i := 14) (oi := _) (v := ?_) (by simp only [List.getElem?_toArray, List.getElem?_cons_succ, List.getElem?_cons_zero]; rfl) (by kernel_rfl) (by kernel_rfl) (by kernel_rfl) (fun _ _ _ h => h) (Or.inl ⟨by rfl, ?_⟩) (by assumption) ?_
              rotate_left
              · intro w hSw; (try dsimp only at hSw); go_simp; (try with_reducible rfl)
              try simp only [Act.put, List.setIfInBounds_toArray, List.set_cons_zero, List.set_cons_succ]
              refine wpAnyH_take (i := 15) (oi := _) (v := ?_) (by simp only [List.getElem?_toArray, List.getElem?_cons_succ, List.getElem?_cons_zero]; rfl) (by kernel_rfl) (by kernel_rfl) (by kernel_rfl) (fun _ _ _ h => h) (Or.inl ⟨by rfl, ?_⟩) (by assumption) ?_
              rotate_left
              · intro w hSw; (try dsimp only at hSw); go_simp; (try with_reducible rfl)
              try simp only [Act.put, List.setIfInBounds_toArray, List.set_cons_zero, List.set_cons_succ]
              refine wpAnyH_take (i := 16) (oi := _) (v := ?_) (by simp only [List.getElem?_toArray, List.getElem?_cons_succ, List.getElem?_cons_zero]; rfl) (by kernel_rfl) (by kernel_rfl) (by kernel_rfl) (fun _ _ _ h => h) (Or.inl ⟨by rfl, ?_⟩) (by assumption) ?_
              rotate_left
              · intro w hSw; (try dsimp only at hSw); go_simp; (try with_reducible rfl)
              try simp only [Act.put, List.setIfInBounds_toArray, List.set_cons_zero, List.set_cons_succ]
              refine wpAnyH_take (i := 17) (oi := _) (v := ?_) (by simp only [List.getElem?_toArray, List.getElem?_cons_succ, List.getElem?_cons_zero]; rfl) (by kernel_rfl) (by kernel_rfl) (by kernel_rfl) (fun _ _ _ h => h) (Or.inl ⟨by rfl, ?_⟩) (by assumption) ?_
              rotate_left
              · intro w hSw; (try dsimp only at hSw); go_simp; (try with_reducible rfl)
              try simp only [Act.put, List.setIfInBounds_toArray, List.set_cons_zero, List.set_cons_succ]
              refine wpAnyH_take (i := 18) (oi := _) (v := ?_) (by simp only [List.getElem?_toArray, List.getElem?_cons_succ, List.getElem?_cons_zero]; rfl) (by kernel_rfl) (by kernel_rfl) (by kernel_rfl) (fun _ _ _ h => h) (Or.inl ⟨by rfl, ?_⟩) (by assumption) ?_
              rotate_left
              · intro w hSw; (try dsimp only at hSw); go_simp; (try with_reducible rfl)
              try simp only [Act.put, List.setIfInBounds_toArray, List.set_cons_zero, List.set_cons_succ]
              refine wpAnyH_ready (rs := [11]) (by kernel_rfl) (by simp) ?_
              refine AllReadyH.cons (o := _) (by simp only [List.getElem?_toArray, List.getElem?_cons_succ, List.getElem?_cons_zero]; rfl) (fun K hK => ?_) AllReadyH.nil
              go_simp
              (go_at_call 28; refine (Hmk.out _).mono ?_; rintro e w6 ⟨vk, rfl, hown6, hb6⟩; have hs6 := run_str (rdB_ofOwn hown6) Hkne.out); go_wp2_with fail
              refine hK.out _ _ (by (try dsimp only); first | with_reducible exact hS | with_reducible assumption | with_reducible exact MkS.go Hne (by assumption) (by assumption)) (fun hHeld => ?_)
              clear hK K
              try simp only [Act.put, List.setIfInBounds_toArray, List.set_cons_zero, List.set_cons_succ]
              refine wpAnyH_ready (rs := [12]) (by kernel_rfl) (by simp) ?_
              refine AllReadyH.cons (o := _) (by simp only [List.getElem?_toArray, List.getElem?_cons_succ, List.getElem?_cons_zero]; rfl) (fun K hK => ?_) AllReadyH.nil
              go_simp
              refine hK.out _ _ (by (try dsimp only); first | with_reducible exact hS | with_reducible assumption | with_reducible exact MkS.go Hne (by assumption) (by assumption)) (fun hHeld => ?_)
              clear hK K
              try simp only [Act.put, List.setIfInBounds_toArray, List.set_cons_zero, List.set_cons_succ]
              refine wpAnyH_take (i := 19) (oi := _) (v := ?_) (by simp only [List.getElem?_toArray, List.getElem?_cons_succ, List.getElem?_cons_zero]; rfl) (by kernel_rfl) (by kernel_rfl) (by kernel_rfl) (fun _ _ _ h => h) (Or.inl ⟨by rfl, ?_⟩) (by assumption) ?_
              rotate_left
              · intro w hSw; (try dsimp only at hSw); go_simp; (try with_reducible rfl)
              try simp only [Act.put, List.setIfInBounds_toArray, List.set_cons_zero, List.set_cons_succ]
              refine wpAnyH_take (i := 20) (oi := _) (v := ?_) (by simp only [List.getElem?_toArray, List.getElem?_cons_succ, List.getElem?_cons_zero]; rfl) (by kernel_rfl) (by kernel_rfl) (by kernel_rfl) (fun _ _ _ h => h) (Or.inl ⟨by rfl, ?_⟩) (by assumption) ?_
              rotate_left
              · intro w hSw; (try dsimp only at hSw); go_simp; (try with_reducible rfl)
              try simp only [Act.put, List.setIfInBounds_toArray, List.set_cons_zero, List.set_cons_succ]
              refine wpAnyH_done (by kernel_rfl) ?_ _
              refine NoPanic.normal ?_
              have hsm : chunkM bs j = some ⟨n1, n2, n3⟩ := by rw [Hchunk.out, Hparse.out]; simp [Heq.out]
              have Hsm := Lib.hid hsm
              have hfin := (by assumption : MkS w (.slice a L cap) bs (.slice a2 28 cap2) c (.slice ao j capo) (msR bs j) wr.heap.size w3.heap.size false n1 n2 n3 w6)
              obtain ⟨_, z0, z1, z2, _, hfB, _, _, hfO⟩ := hfin
              rw [Hmsl.out] at hfO
              have hcs1 : ∀ u ∈ MarkD.cells ⟨n1, n2, n3⟩, u.oneCell' = true := by intro u hu; exact cells_one [⟨n1, n2, n3⟩] u (by simpa using hu)
              have hncell := news_new w6 (MarkD.cells ⟨n1, n2, n3⟩) 52 (0, 0)
              have Hncell := Lib.hid hncell
              have Hcs1 := Lib.hid hcs1
              have hbd1 : j + 1 ≤ maxLen := by show j + 1 ≤ 9223372036854775807; omega
              have hbd2 : (j + 1) * 24 ≤ 140737488355328 := by omega
              have hbd3 : w.heap.size ≤ (w6.alloc (.cells #[.int .i64 n1, .int .i64 n2, .int .i64 n3] 52)).heap.size := by have := hfB.size; simp; omega
              clear hsm hncell hcs1 hwr28
              go_wp2_with (at_builtin; go_must (refine wpList_append_own _ rfl _ _ 39 rfl w.heap.size 52 i0 _ 3 24 Tryz.underlying39 hi hz0 hz1 hz2 rfl (by decide) _ _ _ rfl (hfO.alloc _) ⟨w6.heap.size, 0, none⟩ 1 1 (MarkD.cells ⟨n1, n2, n3⟩) rfl rfl Hncell.out Hcs1.out hbd1 hbd2 hbd3 ?_); rintro v' w7 hown7 hg7 _)
              go_roundw
              case rel =>
                have hms := msR_succ Hsm.out
                refine ⟨j + 1, A + 28, by rw [HA.out]; omega, by omega, by omega, by simp, ?_, ?_, ?_, Below.grown (hfB.alloc hfB.size _) hg7 (by have := hfB.size; simp; omega) (fun k hk => own_base hfO k hk)⟩
                · intro k hk
                  rcases (by omega : k < j ∨ k = j) with h | rfl
                  · exact Hsome.out k h
                  · rw [Hsm.out]; rfl
                · rw [hms, List.length_append, Hmsl.out]; rfl
                · rw [hms, List.length_append, Hmsl.out, List.flatMap_append]; exact hown7
              case measure => simp [intOf] <;> omega
            · have hse := strB_ne heq
              have hse2 : ((strB kb).toList == (strB c).toList) = false := (Lib.bytes_beq_false_iff _ _).2 hse
              have Heq := Lib.hid heq
              clear heq hse
              go_wp2
              refine wp_region_noPanic ?_
              refine wp_region_held_drew (S := (fun w' => w'.cell? ⟨wr.heap.size, 1, none⟩ = some (.bool false) ∧ w'.cell? ⟨w3.heap.size, 0, none⟩ = some (.int .i64 n1) ∧ w'.cell? ⟨w3.heap.size, 1, none⟩ = some (.int .i64 n2) ∧ w'.cell? ⟨w3.heap.size, 2, none⟩ = some (.int .i64 n3) ∧ (convert 23 9 (.slice a2 28 cap2)).run Tryz.prog w' = .ok (.string (strB c)) w' ∧ MkRest w (.slice a L cap) bs (.slice a2 28 cap2) c (.slice ao j capo) (msR bs j) w')) (by kernel_rfl) (by first | with_reducible exact hS | with_reducible assumption | with_reducible exact MkS.go Hne (by assumption) (by assumption)) (fun hHeld => ?_)
              refine wpAnyH_take (i := 0) (oi := _) (v := ?_) (by simp only [List.getElem?_toArray, List.getElem?_cons_succ, List.getElem?_cons_zero]; rfl) (by kernel_rfl) (by kernel_rfl) (by kernel_rfl) (fun _ _ _ h => h) (Or.inl ⟨by rfl, ?_⟩) (by assumption) ?_
              rotate_left
              · intro w hSw; (try dsimp only at hSw); go_simp; (try with_reducible rfl)
              try simp only [Act.put, List.setIfInBounds_toArray, List.set_cons_zero, List.set_cons_succ]
              refine wpAnyH_take (i := 1) (oi := _) (v := ?_) (by simp only [List.getElem?_toArray, List.getElem?_cons_succ, List.getElem?_cons_zero]; rfl) (by kernel_rfl) (by kernel_rfl) (by kernel_rfl) (fun _ _ _ h => h) (Or.inl ⟨by rfl, ?_⟩) (by assumption) ?_
              rotate_left
              · intro w hSw; (try dsimp only at hSw); go_simp; (try with_reducible rfl)
              try simp only [Act.put, List.setIfInBounds_toArray, List.set_cons_zero, List.set_cons_succ]
              refine wpAnyH_take (i := 2) (oi := _) (v := ?_) (by simp only [List.getElem?_toArray, List.getElem?_cons_succ, List.getElem?_cons_zero]; rfl) (by kernel_rfl) (by kernel_rfl) (by kernel_rfl) (fun _ _ _ h => h) (Or.inl ⟨by rfl, ?_⟩) (by assumption) ?_
              rotate_left
              · intro w hSw; (try dsimp only at hSw); go_simp; (try with_reducible rfl)
              try simp only [Act.put, List.setIfInBounds_toArray, List.set_cons_zero, List.set_cons_succ]
              refine wpAnyH_take (i := 3) (oi := _) (v := ?_) (by simp only [List.getElem?_toArray, List.getElem?_cons_succ, List.getElem?_cons_zero]; rfl) (by kernel_rfl) (by kernel_rfl) (by kernel_rfl) (fun _ _ _ h => h) (Or.inl ⟨by rfl, ?_⟩) (by assumption) ?_
              rotate_left
              · intro w hSw; (try dsimp only at hSw); go_simp; (try with_reducible rfl)
              try simp only [Act.put, List.setIfInBounds_toArray, List.set_cons_zero, List.set_cons_succ]
              refine wpAnyH_take (i := 4) (oi := _) (v := ?_) (by simp only [List.getElem?_toArray, List.getElem?_cons_succ, List.getElem?_cons_zero]; rfl) (by kernel_rfl) (by kernel_rfl) (by kernel_rfl) (fun _ _ _ h => h) (Or.inl ⟨by rfl, ?_⟩) (by assumption) ?_
              rotate_left
              · intro w hSw; (try dsimp only at hSw); go_simp; (try with_reducible rfl)
              try simp only [Act.put, List.setIfInBounds_toArray, List.set_cons_zero, List.set_cons_succ]
              refine wpAnyH_take (i := 5) (oi := _) (v := ?_) (by simp only [List.getElem?_toArray, List.getElem?_cons_succ, List.getElem?_cons_zero]; rfl) (by kernel_rfl) (by kernel_rfl) (by kernel_rfl) (fun _ _ _ h => h) (Or.inl ⟨by rfl, ?_⟩) (by assumption) ?_
              rotate_left
              · intro w hSw; (try dsimp only at hSw); go_simp; (try with_reducible rfl)
              try simp only [Act.put, List.setIfInBounds_toArray, List.set_cons_zero, List.set_cons_succ]
              refine wpAnyH_ready (rs := [6]) (by kernel_rfl) (by simp) ?_
              refine AllReadyH.cons (o := _) (by simp only [List.getElem?_toArray, List.getElem?_cons_succ, List.getElem?_cons_zero]; rfl) (fun K hK => ?_) AllReadyH.nil
              go_simp
              (go_at_call 61; refine (Hmay.out _).mono ?_; rintro e w5 ⟨rfl, hb5⟩); go_wp2_with fail
              refine hK.out _ _ (by (try dsimp only); first | with_reducible exact hS | with_reducible assumption | with_reducible exact MkS.go Hne (by assumption) (by assumption)) (fun hHeld => ?_)
              clear hK K
              try simp only [Act.put, List.setIfInBounds_toArray, List.set_cons_zero, List.set_cons_succ]
              refine wpAnyH_take (i := 7) (oi := _) (v := ?_) (by simp only [List.getElem?_toArray, List.getElem?_cons_succ, List.getElem?_cons_zero]; rfl) (by kernel_rfl) (by kernel_rfl) (by kernel_rfl) (fun _ _ _ h => h) (Or.inl ⟨by rfl, ?_⟩) (by assumption) ?_
              rotate_left
              · intro w hSw; (try dsimp only at hSw); go_simp; (try with_reducible rfl)
              try simp only [Act.put, List.setIfInBounds_toArray, List.set_cons_zero, List.set_cons_succ]
              refine wpAnyH_take (i := 8) (oi := _) (v := ?_) (by simp only [List.getElem?_toArray, List.getElem?_cons_succ, List.getElem?_cons_zero]; rfl) (by kernel_rfl) (by kernel_rfl) (by kernel_rfl) (fun _ _ _ h => h) (Or.inl ⟨by rfl, ?_⟩) (by assumption) ?_
              rotate_left
              · intro w hSw; (try dsimp only at hSw); go_simp; (try with_reducible rfl)
              try simp only [Act.put, List.setIfInBounds_toArray, List.set_cons_zero, List.set_cons_succ]
              refine wpAnyH_take (i := 9) (oi := _) (v := ?_) (by simp only [List.getElem?_toArray, List.getElem?_cons_succ, List.getElem?_cons_zero]; rfl) (by kernel_rfl) (by kernel_rfl) (by kernel_rfl) (fun _ _ _ h => h) (Or.inl ⟨by rfl, ?_⟩) (by assumption) ?_
              rotate_left
              · intro w hSw; (try dsimp only at hSw); go_simp; (try with_reducible rfl)
              try simp only [Act.put, List.setIfInBounds_toArray, List.set_cons_zero, List.set_cons_succ]
              refine wpAnyH_take (i := 10) (oi := _) (v := ?_) (by simp only [List.getElem?_toArray, List.getElem?_cons_succ, List.getElem?_cons_zero]; rfl) (by kernel_rfl) (by kernel_rfl) (by kernel_rfl) (fun _ _ _ h => h) (Or.inl ⟨by rfl, ?_⟩) (by assumption) ?_
              rotate_left
              · intro w hSw; (try dsimp only at hSw); go_simp; (try with_reducible rfl)
              try simp only [Act.put, List.setIfInBounds_toArray, List.set_cons_zero, List.set_cons_succ]
              refine wpAnyH_take (i := 13) (oi := _) (v := ?_) (by simp only [List.getElem?_toArray, List.getElem?_cons_succ, List.getElem?_cons_zero]; rfl) (by kernel_rfl) (by kernel_rfl) (by kernel_rfl) (fun _ _ _ h => h) (Or.inl ⟨by rfl, ?_⟩) (by assumption) ?_
              rotate_left
              · intro w hSw; (try dsimp only at hSw); go_simp; (try with_reducible rfl)
              try simp only [Act.put, List.setIfInBounds_toArray, List.set_cons_zero, List.set_cons_succ]
              refine wpAnyH_take (i := 14) (oi := _) (v := ?_) (by simp only [List.getElem?_toArray, List.getElem?_cons_succ, List.getElem?_cons_zero]; rfl) (by kernel_rfl) (by kernel_rfl) (by kernel_rfl) (fun _ _ _ h => h) (Or.inl ⟨by rfl, ?_⟩) (by assumption) ?_
              rotate_left
              · intro w hSw; (try dsimp only at hSw); go_simp; (try with_reducible rfl)
              try simp only [Act.put, List.setIfInBounds_toArray, List.set_cons_zero, List.set_cons_succ]
              refine wpAnyH_take (i := 15) (oi := _) (v := ?_) (by simp only [List.getElem?_toArray, List.getElem?_cons_succ, List.getElem?_cons_zero]; rfl) (by kernel_rfl) (by kernel_rfl) (by kernel_rfl) (fun _ _ _ h => h) (Or.inl ⟨by rfl, ?_⟩) (by assumption) ?_
              rotate_left
              · intro w hSw; (try dsimp only at hSw); go_simp; (try with_reducible rfl)
              try simp only [Act.put, List.setIfInBounds_toArray, List.set_cons_zero, List.set_cons_succ]
              refine wpAnyH_take (i := 16) (oi := _) (v := ?_) (by simp only [List.getElem?_toArray, List.getElem?_cons_succ, List.getElem?_cons_zero]; rfl) (by kernel_rfl) (by kernel_rfl) (by kernel_rfl) (fun _ _ _ h => h) (Or.inl ⟨by rfl, ?_⟩) (by assumption) ?_
              rotate_left
              · intro w hSw; (try dsimp only at hSw); go_simp; (try with_reducible rfl)
              try simp only [Act.put, List.setIfInBounds_toArray, List.set_cons_zero, List.set_cons_succ]
              refine wpAnyH_take (i := 17) (oi := _) (v := ?_) (by simp only [List.getElem?_toArray, List.getElem?_cons_succ, List.getElem?_cons_zero]; rfl) (by kernel_rfl) (by kernel_rfl) (by kernel_rfl) (fun _ _ _ h => h) (Or.inl ⟨by rfl, ?_⟩) (by assumption) ?_
              rotate_left
              · intro w hSw; (try dsimp only at hSw); go_simp; (try with_reducible rfl)
              try simp only [Act.put, List.setIfInBounds_toArray, List.set_cons_zero, List.set_cons_succ]
              refine wpAnyH_take (i := 18) (oi := _) (v := ?_) (by simp only [List.getElem?_toArray, List.getElem?_cons_succ, List.getElem?_cons_zero]; rfl) (by kernel_rfl) (by kernel_rfl) (by kernel_rfl) (fun _ _ _ h => h) (Or.inl ⟨by rfl, ?_⟩) (by assumption) ?_
              rotate_left
              · intro w hSw; (try dsimp only at hSw); go_simp; (try with_reducible rfl)
              try simp only [Act.put, List.setIfInBounds_toArray, List.set_cons_zero, List.set_cons_succ]
              refine wpAnyH_ready (rs := [11]) (by kernel_rfl) (by simp) ?_
              refine AllReadyH.cons (o := _) (by simp only [List.getElem?_toArray, List.getElem?_cons_succ, List.getElem?_cons_zero]; rfl) (fun K hK => ?_) AllReadyH.nil
              go_simp
              (go_at_call 28; refine (Hmk.out _).mono ?_; rintro e w6 ⟨vk, rfl, hown6, hb6⟩; have hs6 := run_str (rdB_ofOwn hown6) Hkne.out); go_wp2_with fail
              refine hK.out _ _ (by (try dsimp only); first | with_reducible exact hS | with_reducible assumption | with_reducible exact MkS.go Hne (by assumption) (by assumption)) (fun hHeld => ?_)
              clear hK K
              try simp only [Act.put, List.setIfInBounds_toArray, List.set_cons_zero, List.set_cons_succ]
              refine wpAnyH_ready (rs := [12]) (by kernel_rfl) (by simp) ?_
              refine AllReadyH.cons (o := _) (by simp only [List.getElem?_toArray, List.getElem?_cons_succ, List.getElem?_cons_zero]; rfl) (fun K hK => ?_) AllReadyH.nil
              go_simp
              refine hK.out _ _ (by (try dsimp only); first | with_reducible exact hS | with_reducible assumption | with_reducible exact MkS.go Hne (by assumption) (by assumption)) (fun hHeld => ?_)
              clear hK K
              try simp only [Act.put, List.setIfInBounds_toArray, List.set_cons_zero, List.set_cons_succ]
              refine wpAnyH_take (i := 19) (oi := _) (v := ?_) (by simp only [List.getElem?_toArray, List.getElem?_cons_succ, List.getElem?_cons_zero]; rfl) (by kernel_rfl) (by kernel_rfl) (by kernel_rfl) (fun _ _ _ h => h) (Or.inl ⟨by rfl, ?_⟩) (by assumption) ?_
              rotate_left
              · intro w hSw; (try dsimp only at hSw); go_simp; (try with_reducible rfl)
              try simp only [Act.put, List.setIfInBounds_toArray, List.set_cons_zero, List.set_cons_succ]
              refine wpAnyH_take (i := 20) (oi := _) (v := ?_) (by simp only [List.getElem?_toArray, List.getElem?_cons_succ, List.getElem?_cons_zero]; rfl) (by kernel_rfl) (by kernel_rfl) (by kernel_rfl) (fun _ _ _ h => h) (Or.inl ⟨by rfl, ?_⟩) (by assumption) ?_
              rotate_left
              · intro w hSw; (try dsimp only at hSw); go_simp; (try with_reducible rfl)
              try simp only [Act.put, List.setIfInBounds_toArray, List.set_cons_zero, List.set_cons_succ]
              refine wpAnyH_done (by kernel_rfl) ?_ _
              refine NoPanic.normal ?_
              have hnone : chunkM bs j = none := by rw [Hchunk.out, Hparse.out]; simp [Heq.out]
              obtain ⟨hd1, hd2⟩ := Hstop.out (.inr hnone)
              have Hd1 := Lib.hid hd1
              have Hd2 := Lib.hid hd2
              have hfin := (by assumption : MkS w (.slice a L cap) bs (.slice a2 28 cap2) c (.slice ao j capo) (msR bs j) wr.heap.size w3.heap.size false n1 n2 n3 w6)
              obtain ⟨_, _, _, _, _, hfB, _, _, hfO⟩ := hfin
              rw [Hmsl.out] at hfO
              have HfB := Lib.hid hfB
              have HfO := Lib.hid hfO
              clear hd1 hd2 hnone hfB hfO
              go_wp2
              go_ret2
              refine ⟨_, by rw [Hd1.out, HA.out]; congr 4, by rw [Hd1.out, Hd2.out]; exact HfO.out, HfB.out⟩
        · go_wp2
          refine wp_region_noPanic ?_
          refine wp_region_held_drew (S := (fun w' => w'.cell? ⟨wr.heap.size, 1, none⟩ = some (.bool true) ∧ w'.cell? ⟨w3.heap.size, 0, none⟩ = some (.int .i64 n1) ∧ w'.cell? ⟨w3.heap.size, 1, none⟩ = some (.int .i64 n2) ∧ w'.cell? ⟨w3.heap.size, 2, none⟩ = some (.int .i64 n3) ∧ (convert 23 9 (.slice a2 28 cap2)).run Tryz.prog w' = .ok (.string (strB c)) w' ∧ MkRest w (.slice a L cap) bs (.slice a2 28 cap2) c (.slice ao j capo) (msR bs j) w')) (by kernel_rfl) (by first | with_reducible exact hS | with_reducible assumption | with_reducible exact MkS.go Hne (by assumption) (by assumption)) (fun hHeld => ?_)
          refine wpAnyH_take (i := 0) (oi := _) (v := ?_) (by simp only [List.getElem?_toArray, List.getElem?_cons_succ, List.getElem?_cons_zero]; rfl) (by kernel_rfl) (by kernel_rfl) (by kernel_rfl) (fun _ _ _ h => h) (Or.inl ⟨by rfl, ?_⟩) (by assumption) ?_
          rotate_left
          · intro w hSw; (try dsimp only at hSw); go_simp; (try with_reducible rfl)
          try simp only [Act.put, List.setIfInBounds_toArray, List.set_cons_zero, List.set_cons_succ]
          refine wpAnyH_take (i := 1) (oi := _) (v := ?_) (by simp only [List.getElem?_toArray, List.getElem?_cons_succ, List.getElem?_cons_zero]; rfl) (by kernel_rfl) (by kernel_rfl) (by kernel_rfl) (fun _ _ _ h => h) (Or.inl ⟨by rfl, ?_⟩) (by assumption) ?_
          rotate_left
          · intro w hSw; (try dsimp only at hSw); go_simp; (try with_reducible rfl)
          try simp only [Act.put, List.setIfInBounds_toArray, List.set_cons_zero, List.set_cons_succ]
          refine wpAnyH_take (i := 2) (oi := _) (v := ?_) (by simp only [List.getElem?_toArray, List.getElem?_cons_succ, List.getElem?_cons_zero]; rfl) (by kernel_rfl) (by kernel_rfl) (by kernel_rfl) (fun _ _ _ h => h) (Or.inl ⟨by rfl, ?_⟩) (by assumption) ?_
          rotate_left
          · intro w hSw; (try dsimp only at hSw); go_simp; (try with_reducible rfl)
          try simp only [Act.put, List.setIfInBounds_toArray, List.set_cons_zero, List.set_cons_succ]
          refine wpAnyH_take (i := 3) (oi := _) (v := ?_) (by simp only [List.getElem?_toArray, List.getElem?_cons_succ, List.getElem?_cons_zero]; rfl) (by kernel_rfl) (by kernel_rfl) (by kernel_rfl) (fun _ _ _ h => h) (Or.inl ⟨by rfl, ?_⟩) (by assumption) ?_
          rotate_left
          · intro w hSw; (try dsimp only at hSw); go_simp; (try with_reducible rfl)
          try simp only [Act.put, List.setIfInBounds_toArray, List.set_cons_zero, List.set_cons_succ]
          refine wpAnyH_take (i := 4) (oi := _) (v := ?_) (by simp only [List.getElem?_toArray, List.getElem?_cons_succ, List.getElem?_cons_zero]; rfl) (by kernel_rfl) (by kernel_rfl) (by kernel_rfl) (fun _ _ _ h => h) (Or.inl ⟨by rfl, ?_⟩) (by assumption) ?_
          rotate_left
          · intro w hSw; (try dsimp only at hSw); go_simp; (try with_reducible rfl)
          try simp only [Act.put, List.setIfInBounds_toArray, List.set_cons_zero, List.set_cons_succ]
          refine wpAnyH_take (i := 5) (oi := _) (v := undef) (by simp only [List.getElem?_toArray, List.getElem?_cons_succ, List.getElem?_cons_zero]; rfl) (by kernel_rfl) (by kernel_rfl) (by kernel_rfl) (fun _ _ _ h => h) (Or.inr ⟨by rfl, rfl⟩) (by assumption) ?_
          try simp only [Act.put, List.setIfInBounds_toArray, List.set_cons_zero, List.set_cons_succ]
          refine wpAnyH_take (i := 6) (oi := _) (v := undef) (by simp only [List.getElem?_toArray, List.getElem?_cons_succ, List.getElem?_cons_zero]; rfl) (by kernel_rfl) (by kernel_rfl) (by kernel_rfl) (fun _ _ _ h => h) (Or.inr ⟨by rfl, rfl⟩) (by assumption) ?_
          try simp only [Act.put, List.setIfInBounds_toArray, List.set_cons_zero, List.set_cons_succ]
          refine wpAnyH_take (i := 7) (oi := _) (v := undef) (by simp only [List.getElem?_toArray, List.getElem?_cons_succ, List.getElem?_cons_zero]; rfl) (by kernel_rfl) (by kernel_rfl) (by kernel_rfl) (fun _ _ _ h => h) (Or.inr ⟨by rfl, rfl⟩) (by assumption) ?_
          try simp only [Act.put, List.setIfInBounds_toArray, List.set_cons_zero, List.set_cons_succ]
          refine wpAnyH_take (i := 8) (oi := _) (v := ?_) (by simp only [List.getElem?_toArray, List.getElem?_cons_succ, List.getElem?_cons_zero]; rfl) (by kernel_rfl) (by kernel_rfl) (by kernel_rfl) (fun _ _ _ h => h) (Or.inl ⟨by rfl, ?_⟩) (by assumption) ?_
          rotate_left
          · intro w hSw; (try dsimp only at hSw); go_simp; (try with_reducible rfl)
          try simp only [Act.put, List.setIfInBounds_toArray, List.set_cons_zero, List.set_cons_succ]
          refine wpAnyH_take (i := 9) (oi := _) (v := ?_) (by simp only [List.getElem?_toArray, List.getElem?_cons_succ, List.getElem?_cons_zero]; rfl) (by kernel_rfl) (by kernel_rfl) (by kernel_rfl) (fun _ _ _ h => h) (Or.inl ⟨by rfl, ?_⟩) (by assumption) ?_
          rotate_left
          · intro w hSw; (try dsimp only at hSw); go_simp; (try with_reducible rfl)
          try simp only [Act.put, List.setIfInBounds_toArray, List.set_cons_zero, List.set_cons_succ]
          refine wpAnyH_take (i := 10) (oi := _) (v := undef) (by simp only [List.getElem?_toArray, List.getElem?_cons_succ, List.getElem?_cons_zero]; rfl) (by kernel_rfl) (by kernel_rfl) (by kernel_rfl) (fun _ _ _ h => h) (Or.inr ⟨by rfl, rfl⟩) (by assumption) ?_
          try simp only [Act.put, List.setIfInBounds_toArray, List.set_cons_zero, List.set_cons_succ]
          refine wpAnyH_take (i := 11) (oi := _) (v := undef) (by simp only [List.getElem?_toArray, List.getElem?_cons_succ, List.getElem?_cons_zero]; rfl) (by kernel_rfl) (by kernel_rfl) (by kernel_rfl) (fun _ _ _ h => h) (Or.inr ⟨by rfl, rfl⟩) (by assumption) ?_
          try simp only [Act.put, List.setIfInBounds_toArray, List.set_cons_zero, List.set_cons_succ]
          refine wpAnyH_take (i := 12) (oi := _) (v := undef) (by simp only [List.getElem?_toArray, List.getElem?_cons_succ, List.getElem?_cons_zero]; rfl) (by kernel_rfl) (by kernel_rfl) (by kernel_rfl) (fun _ _ _ h => h) (Or.inr ⟨by rfl, rfl⟩) (by assumption) ?_
          try simp only [Act.put, List.setIfInBounds_toArray, List.set_cons_zero, List.set_cons_succ]
          refine wpAnyH_take (i := 13) (oi := _) (v := undef) (by simp only [List.getElem?_toArray, List.getElem?_cons_succ, List.getElem?_cons_zero]; rfl) (by kernel_rfl) (by kernel_rfl) (by kernel_rfl) (fun _ _ _ h => h) (Or.inr ⟨by rfl, rfl⟩) (by assumption) ?_
          try simp only [Act.put, List.setIfInBounds_toArray, List.set_cons_zero, List.set_cons_succ]
          refine wpAnyH_take (i := 14) (oi := _) (v := undef) (by simp only [List.getElem?_toArray, List.getElem?_cons_succ, List.getElem?_cons_zero]; rfl) (by kernel_rfl) (by kernel_rfl) (by kernel_rfl) (fun _ _ _ h => h) (Or.inr ⟨by rfl, rfl⟩) (by assumption) ?_
          try simp only [Act.put, List.setIfInBounds_toArray, List.set_cons_zero, List.set_cons_succ]
          refine wpAnyH_take (i := 15) (oi := _) (v := undef) (by simp only [List.getElem?_toArray, List.getElem?_cons_succ, List.getElem?_cons_zero]; rfl) (by kernel_rfl) (by kernel_rfl) (by kernel_rfl) (fun _ _ _ h => h) (Or.inr ⟨by rfl, rfl⟩) (by assumption) ?_
          try simp only [Act.put, List.setIfInBounds_toArray, List.set_cons_zero, List.set_cons_succ]
          refine wpAnyH_take (i := 16) (oi := _) (v := undef) (by simp only [List.getElem?_toArray, List.getElem?_cons_succ, List.getElem?_cons_zero]; rfl) (by kernel_rfl) (by kernel_rfl) (by kernel_rfl) (fun _ _ _ h => h) (Or.inr ⟨by rfl, rfl⟩) (by assumption) ?_
          try simp only [Act.put, List.setIfInBounds_toArray, List.set_cons_zero, List.set_cons_succ]
          refine wpAnyH_take (i := 17) (oi := _) (v := undef) (by simp only [List.getElem?_toArray, List.getElem?_cons_succ, List.getElem?_cons_zero]; rfl) (by kernel_rfl) (by kernel_rfl) (by kernel_rfl) (fun _ _ _ h => h) (Or.inr ⟨by rfl, rfl⟩) (by assumption) ?_
          try simp only [Act.put, List.setIfInBounds_toArray, List.set_cons_zero, List.set_cons_succ]
          refine wpAnyH_take (i := 18) (oi := _) (v := undef) (by simp only [List.getElem?_toArray, List.getElem?_cons_succ, List.getElem?_cons_zero]; rfl) (by kernel_rfl) (by kernel_rfl) (by kernel_rfl) (fun _ _ _ h => h) (Or.inr ⟨by rfl, rfl⟩) (by assumption) ?_
          try simp only [Act.put, List.setIfInBounds_toArray, List.set_cons_zero, List.set_cons_succ]
          refine wpAnyH_take (i := 19) (oi := _) (v := undef) (by simp only [List.getElem?_toArray, List.getElem?_cons_succ, List.getElem?_cons_zero]; rfl) (by kernel_rfl) (by kernel_rfl) (by kernel_rfl) (fun _ _ _ h => h) (Or.inr ⟨by rfl, rfl⟩) (by assumption) ?_
          try simp only [Act.put, List.setIfInBounds_toArray, List.set_cons_zero, List.set_cons_succ]
          refine wpAnyH_take (i := 20) (oi := _) (v := ?_) (by simp only [List.getElem?_toArray, List.getElem?_cons_succ, List.getElem?_cons_zero]; rfl) (by kernel_rfl) (by kernel_rfl) (by kernel_rfl) (fun _ _ _ h => h) (Or.inl ⟨by rfl, ?_⟩) (by assumption) ?_
          rotate_left
          · intro w hSw; (try dsimp only at hSw); go_simp; (try with_reducible rfl)
          try simp only [Act.put, List.setIfInBounds_toArray, List.set_cons_zero, List.set_cons_succ]
          refine wpAnyH_done (by kernel_rfl) ?_ _
          refine NoPanic.normal ?_
          have hnone : chunkM bs j = none := by rw [Hchunk.out, Hparse.out]; simp
          obtain ⟨hd1, hd2⟩ := Hstop.out (.inr hnone)
          have Hd1 := Lib.hid hd1
          have Hd2 := Lib.hid hd2
          have hfin := (by assumption : MkS w (.slice a L cap) bs (.slice a2 28 cap2) c (.slice ao j capo) (msR bs j) wr.heap.size w3.heap.size true n1 n2 n3 (w3.alloc (.cells #[.int .i64 n1, .int .i64 n2, .int .i64 n3] 52)).drew)
          obtain ⟨_, _, _, _, _, hfB, _, _, hfO⟩ := hfin
          rw [Hmsl.out] at hfO
          have HfB := Lib.hid hfB
          have HfO := Lib.hid hfO
          clear hd1 hd2 hnone hfB hfO
          go_wp2
          go_ret2
          refine ⟨_, by rw [Hd1.out, HA.out]; congr 4, by rw [Hd1.out, Hd2.out]; exact HfO.out, HfB.out⟩
      · have hje : j = 4096 := by omega
        obtain ⟨hd1, hd2⟩ := hstop (.inl hje)
        rw [hmsl] at hown hvo
        have Hd1 := Lib.hid hd1
        have Hd2 := Lib.hid hd2
        have HA := Lib.hid hA
        subst hvo
        clear hstop hsome hmsl hd1 hd2 hA
        go_wp2
        go_ret2
        refine ⟨_, by rw [Hd1.out, HA.out]; congr 4, by rw [Hd1.out, Hd2.out]; exact hown, hbw⟩
    · have hnone : chunkM bs j = none := by
        unfold chunkM
        rw [if_pos]
        unfold chunkAt
        rw [List.length_take, List.length_drop, HL.out]; omega
      obtain ⟨hd1, hd2⟩ := hstop (.inr hnone)
      rw [hmsl] at hown
      have Hd1 := Lib.hid hd1
      have Hd2 := Lib.hid hd2
      have HA := Lib.hid hA
      clear hstop hsome hmsl hd1 hd2 hA hnone hvo
      go_wp2
      go_ret2
      refine ⟨_, by rw [Hd1.out, HA.out]; congr 4, by rw [Hd1.out, Hd2.out]; exact hown, hbw⟩
end Go.Proofs.YtjddicoigbidlaaGreatDoor

set_option linter.unusedSimpArgs false
set_option linter.unusedVariables false
set_option maxRecDepth 100000
namespace Go.Proofs.YtjddicoigbidlaaGreatDoor
open Go.RowKit
/-- Parse answers a file whose slices are told of. -/
def FilDone (m : MailD) (ks : List MarkD) (g : Int) (w : World) (e : Ending) (w' : World) : Prop :=
  ∃ ar cr ab cb am cm, e = .returned (.tuple #[.agg #[.int .i64 m.id, .int .i64 m.parent, .int .i64 m.born, .string (strL m.frm), .slice ar m.rcpts.length cr, .slice ab m.body.length cb, .slice am ks.length cm, .int .i64 g], .bool true]) ∧ RdS w' (.slice ar m.rcpts.length cr) m.rcpts ∧ RdB w' (.slice ab m.body.length cb) m.body ∧ RdM w' (.slice am ks.length cm) ks ∧ Below w.heap.size w w'
theorem fil_some {m : MailD} {ks : List MarkD} {G : Nat} {g : Int} (hg : (G : Int) = g) {w : World} {e : Ending} {w' : World} (h : FileRes w (some ⟨m, ks, G⟩) e w') : FilDone m ks g w e w' := by
  subst hg
  obtain ⟨vr, vb, vm, he, h1, h2, h3, hb⟩ := h
  have h1 : w'.ownsRow w.heap.size 9 1 vr m.rcpts.length (m.rcpts.flatMap s1) := h1
  have h2 : w'.ownsRow w.heap.size 5 1 vb m.body.length (m.body.map u8v) := h2
  have h3 : w'.ownsRow w.heap.size 52 3 vm ks.length (ks.flatMap MarkD.cells) := h3
  obtain ⟨ar, cr, rfl⟩ := own_form0 h1
  obtain ⟨ab, cb, rfl⟩ := own_form0 h2
  obtain ⟨am, cm, rfl⟩ := own_form0 h3
  exact ⟨ar, cr, ab, cb, am, cm, he, rdL_ofOwn s1_len (by decide) h1, rdB_ofOwn h2, rdL_ofOwn mark_len (by decide) h3, hb⟩
theorem fileAt_new {w : World} {m : MailD} {ks : List MarkD} {G : Nat} {g : Int} (hg : (G : Int) = g) {vr vb vm : Value} (hr : RdS w vr m.rcpts) (hb : RdB w vb m.body) (hm : RdM w vm ks) :
    FileAt (w.alloc (.cells #[.int .i64 m.id, .int .i64 m.parent, .int .i64 m.born, .string (strL m.frm), vr, vb, vm, .int .i64 g] 43)) w.heap.size ⟨m, ks, G⟩ vr vb vm := by
  subst hg; exact FileAt.new (f := ⟨m, ks, G⟩) hr hb hm
theorem fileAt_cells {w : World} {X : Nat} {m : MailD} {ks : List MarkD} {G : Nat} {g : Int} (hg : (G : Int) = g) {vr vb vm : Value} (h : FileAt w X ⟨m, ks, G⟩ vr vb vm) :
    w.cell? ⟨X, 0, none⟩ = some (.int .i64 m.id) ∧ w.cell? ⟨X, 1, none⟩ = some (.int .i64 m.parent) ∧ w.cell? ⟨X, 2, none⟩ = some (.int .i64 m.born) ∧ w.cell? ⟨X, 3, none⟩ = some (.string (strL m.frm)) ∧ w.cell? ⟨X, 4, none⟩ = some vr ∧ w.cell? ⟨X, 5, none⟩ = some vb ∧ w.cell? ⟨X, 6, none⟩ = some vm ∧ w.cell? ⟨X, 7, none⟩ = some (.int .i64 g) := by
  subst hg; exact (cells8 h.blk).1
/-- No file: the zero file, that owns what it holds. -/
def FilNone (w : World) (e : Ending) (w' : World) : Prop :=
  ∃ ar cr ab cb am cm, e = .returned (.tuple #[.agg #[.int .i64 0, .int .i64 0, .int .i64 0, .string ⟨#[]⟩, .slice ar 0 cr, .slice ab 0 cb, .slice am 0 cm, .int .i64 0], .bool false]) ∧ RdS w' (.slice ar 0 cr) [] ∧ RdB w' (.slice ab 0 cb) [] ∧ RdM w' (.slice am 0 cm) [] ∧ Below w.heap.size w w'
theorem fil_none {w : World} {e : Ending} {w' : World} (h : FileRes w none e w') : FilNone w e w' := by
  obtain ⟨vr, vb, vm, he, h1, h2, h3, hb⟩ := h
  have h1 : w'.ownsRow w.heap.size 9 1 vr 0 (([] : List (List UInt8)).flatMap s1) := h1
  have h2 : w'.ownsRow w.heap.size 5 1 vb 0 (([] : List UInt8).map u8v) := h2
  have h3 : w'.ownsRow w.heap.size 52 3 vm 0 (([] : List MarkD).flatMap MarkD.cells) := h3
  obtain ⟨ar, cr, rfl⟩ := own_form0 h1
  obtain ⟨ab, cb, rfl⟩ := own_form0 h2
  obtain ⟨am, cm, rfl⟩ := own_form0 h3
  exact ⟨ar, cr, ab, cb, am, cm, he, rdL_ofOwn (xs := []) s1_len (by decide) h1, rdB_ofOwn (bs := []) h2, rdL_ofOwn (xs := []) mark_len (by decide) h3, hb⟩
def BegDone (m : MailD) (n : Nat) (w : World) (e : Ending) (w' : World) : Prop :=
  ∃ ar cr ab cb, e = .returned (.tuple #[.agg #[.int .i64 m.id, .int .i64 m.parent, .int .i64 m.born, .string (strL m.frm), .slice ar m.rcpts.length cr, .slice ab m.body.length cb], .int .i64 (n : Int), .bool true]) ∧ RdS w' (.slice ar m.rcpts.length cr) m.rcpts ∧ RdB w' (.slice ab m.body.length cb) m.body ∧ Below w.heap.size w w'
theorem beg_some {m : MailD} {n : Nat} {w : World} {e : Ending} {w' : World} (h : DecRes w (some (m, n)) e w') : BegDone m n w e w' := by
  obtain ⟨vr, vb, he, h1, h2, hb⟩ := h
  have h1 : w'.ownsRow w.heap.size 9 1 vr m.rcpts.length (m.rcpts.flatMap s1) := h1
  have h2 : w'.ownsRow w.heap.size 5 1 vb m.body.length (m.body.map u8v) := h2
  obtain ⟨ar, cr, rfl⟩ := own_form0 h1
  obtain ⟨ab, cb, rfl⟩ := own_form0 h2
  exact ⟨ar, cr, ab, cb, he, rdL_ofOwn s1_len (by decide) h1, rdB_ofOwn h2, hb⟩
def BegNone (w : World) (e : Ending) (w' : World) : Prop :=
  ∃ ar cr ab cb, e = .returned (.tuple #[.agg #[.int .i64 0, .int .i64 0, .int .i64 0, .string ⟨#[]⟩, .slice ar 0 cr, .slice ab 0 cb], .int .i64 0, .bool false]) ∧ Below w.heap.size w w'
theorem beg_none {w : World} {e : Ending} {w' : World} (h : DecRes w none e w') : BegNone w e w' := by
  obtain ⟨vr, vb, he, h1, h2, hb⟩ := h
  have h1 : w'.ownsRow w.heap.size 9 1 vr 0 (([] : List (List UInt8)).flatMap s1) := h1
  have h2 : w'.ownsRow w.heap.size 5 1 vb 0 (([] : List UInt8).map u8v) := h2
  obtain ⟨ar, cr, rfl⟩ := own_form0 h1
  obtain ⟨ab, cb, rfl⟩ := own_form0 h2
  exact ⟨ar, cr, ab, cb, he, hb⟩
set_option maxHeartbeats 16000000 in
theorem qfileAny_walk (v : Value) (bs : List UInt8) (w : World) (hv : RdB w v bs) (hnv : NilOk v) (hol : ∀ k, v.ownBlock = some k → k < w.heap.size) (hmax : MaxOk w) :
    Calls Tryz.prog 8 #[v] w fun e w' => e = .returned (.bool true) ∧ Below w.heap.size w w' := by
  obtain ⟨i0, hi, hz0, hz1, hz2⟩ := info_parts infoU8
  obtain ⟨a, cap, rfl, hl, hc⟩ := hv.form
  have hzF : ∀ w, (zeroValue 43).run Tryz.prog w = .ok (.agg #[.int .i64 0, .int .i64 0, .int .i64 0, .string ⟨#[]⟩, .slice none 0 0, .slice none 0 0, .slice none 0 0, .int .i64 0]) w := fun _ => by kernel_rfl
  have hzM : ∀ w, (zeroValue 25).run Tryz.prog w = .ok (.agg #[.int .i64 0, .int .i64 0, .int .i64 0, .string ⟨#[]⟩, .slice none 0 0, .slice none 0 0]) w := fun _ => by kernel_rfl
  have hlI : (bs.length : Int) ≤ 9223372036854775807 := by omega
  have hans := fun W h => filAns_calls W h
  have Hans := Lib.hid hans
  have Hmax := Lib.hid hmax
  clear hans hmax
  by_cases hbig : 3000 < bs.length
  · have hbi : (3000 : Int) < (bs.length : Int) := by omega
    clear hv hnv hol
    go_enter Tryz.func8, Tryz.ntmps8
    go_wp2_with fail
    refine (Hans.out _ Hmax.out).mono ?_; rintro e w1 ⟨rfl, hb1⟩
    go_wp2
    go_ret
    exact ⟨rfl, hb1⟩
  · have hbi : (bs.length : Int) ≤ 3000 := by omega
    obtain ⟨W0, hW0⟩ : ∃ W0, w.alloc (.cells #[] 5) = W0 := ⟨_, rfl⟩
    have hb0 : Below w.heap.size w W0 := by rw [← hW0]; exact (Below.refl _ _).alloc (Nat.le_refl _) _
    have hown0 : W0.ownsRow w.heap.size 5 1 (.slice (some ⟨w.heap.size, 0, none⟩) 0 0) 0 [] := by rw [← hW0]; exact World.ownsRow_lit w #[] 0 (Nat.le_refl _) (by decide) rfl
    have hsrc := rdLB (hv.below (Nat.le_refl _) hb0)
    have hm1 : 0 + bs.length ≤ maxLen := by show _ ≤ 9223372036854775807; omega
    have hm2 : (0 + bs.length) * 1 ≤ 140737488355328 := by omega
    have hone := bb1_one bs
    have hbs := hb0.size
    have hd1 := fun v W h1 h2 => qparse_calls v bs W h1 (by omega) h2
    have hd2 := fun v W h1 h2 h3 => refBegins_calls v bs W h1 (by omega) h2 h3
    obtain ⟨r, hr⟩ : ∃ r, decodeMail bs = r := ⟨_, rfl⟩
    have hfd : fileD bs = r.map fun p => ⟨p.1, decodeM (bs.drop p.2), p.2 + 28 * (decodeM (bs.drop p.2)).length⟩ := by rw [fileD, hr]
    rw [hfd] at hd1
    rw [hr] at hd2
    have Hv := Lib.hid hv
    have Hnv := Lib.hid hnv
    have Hol := Lib.hid hol
    have Hone := Lib.hid hone
    have Hb0 := Lib.hid hb0
    cases r with
    | none =>
      have hd1 : ∀ v W, RdB W v bs → MaxOk W → Calls Tryz.prog 25 #[v] W (FilNone W) := fun v W h1 h2 => (hd1 v W h1 h2).mono fun e w' h => fil_none h
      have hd2 : ∀ v W, RdB W v bs → NilOk v → (∀ k, v.ownBlock = some k → k < W.heap.size) → Calls Tryz.prog 21 #[v] W (BegNone W) := fun v W h1 h2 h3 => (hd2 v W h1 h2 h3).mono fun e w' h => beg_none h
      have hsame : ∀ W ar cr ab cb, RdS W (.slice ar 0 cr) [] → RdB W (.slice ab 0 cb) [] → Calls Tryz.prog 20 #[.agg #[.int .i64 0, .int .i64 0, .int .i64 0, .string ⟨#[]⟩, .slice ar 0 cr, .slice ab 0 cb], .agg #[.int .i64 0, .int .i64 0, .int .i64 0, .string ⟨#[]⟩, .slice none 0 0, .slice none 0 0]] W fun e w' => e = .returned (.bool true) ∧ Below W.heap.size W w' := by
        intro W ar cr ab cb h1 h2
        have := refSame_calls MailD.zero MailD.zero (.slice ar 0 cr) (.slice ab 0 cb) (.slice none 0 0) (.slice none 0 0) W h1 h2 rdS_nil rdB_nil
        rw [show decide (MailD.zero = MailD.zero) = true by simp] at this
        exact this
      have Hd1 := Lib.hid hd1
      have Hd2 := Lib.hid hd2
      have Hsame := Lib.hid hsame
      clear hd1 hd2 hsame hv hnv hol hone hr hb0 hfd
      subst hW0
      go_enter Tryz.func8, Tryz.ntmps8
      go_wp2_with (at_builtin; go_must (refine wpList_append_any bb1_len (by decide) rfl (.tmp 15) (.tmp 16) 23 rfl w.heap.size 5 i0 (.int .u8 0) 1 Tryz.underlying23 hi hz0 hz1 hz2 rfl _ _ _ rfl hown0 _ bs rfl hsrc Hnv.out Hone.out hm1 hm2 hbs ?_); rintro v2 w2 hown2 hg2 _; rw [Nat.zero_add, List.nil_append] at hown2)
      have hb2 := Hb0.out.grown hg2 hbs (fun k hk => by cases hk; exact Nat.le_refl _)
      rw [bb1_flat] at hown2
      have hcall := Hd1.out v2 w2 (rdB_ofOwn hown2) (Hmax.out.below hb2)
      have Hcall := Lib.hid hcall
      obtain ⟨a2, c2, hv2⟩ := own_form0 hown2
      subst hv2
      clear hcall hown2 hg2 Hd1 hown0 hsrc
      refine (Hcall.out).mono ?_; rintro e w3 ⟨ar, cr, ab, cb, am, cm, rfl, hrs, hrb, hrm, hb3⟩
      have hbw3 := hb2.trans (hb3.mono hb2.size)
      have hnew := FileAt.new (f := FileD.zero) hrs hrb hrm
      have hnew : FileAt (w3.alloc (.cells #[.int .i64 0, .int .i64 0, .int .i64 0, .string ⟨#[]⟩, .slice ar 0 cr, .slice ab 0 cb, .slice am 0 cm, .int .i64 0] 43)) w3.heap.size FileD.zero (.slice ar 0 cr) (.slice ab 0 cb) (.slice am 0 cm) := hnew
      obtain ⟨w4, hw4⟩ : ∃ w4, w3.alloc (.cells #[.int .i64 0, .int .i64 0, .int .i64 0, .string ⟨#[]⟩, .slice ar 0 cr, .slice ab 0 cb, .slice am 0 cm, .int .i64 0] 43) = w4 := ⟨_, rfl⟩
      rw [hw4] at hnew
      have hb4 : Below w3.heap.size w3 w4 := by rw [← hw4]; exact (Below.refl _ _).alloc (Nat.le_refl _) _
      have hbw4 := hbw3.trans (hb4.mono hbw3.size)
      have hcall2 := Hd2.out (.slice a bs.length cap) w4 (Hv.out.below (Nat.le_refl _) hbw4) Hnv.out (fun k hk => by have := Hol.out k hk; have := hbw4.size; omega)
      have Hcall2 := Lib.hid hcall2
      have Hnew := Lib.hid hnew
      have Hbw4 := Lib.hid hbw4
      clear hcall2 hnew hrs hrb hrm Hd2 Hcall hb4 hbw4 hb2 hbw3 hb3
      subst hw4
      go_wp2_with fail
      refine (Hcall2.out).mono ?_; rintro e w5 ⟨ar5, cr5, ab5, cb5, rfl, hb5⟩
      have hbw5 := Hbw4.out.trans (hb5.mono Hbw4.out.size)
      have hba : Below w5.heap.size w5 (w5.alloc (.cells #[.int .i64 0, .int .i64 0, .int .i64 0, .string ⟨#[]⟩, .slice ar5 0 cr5, .slice ab5 0 cb5] 25)) := (Below.refl _ _).alloc (Nat.le_refl _) _
      have hbw6 := hbw5.trans (hba.mono hbw5.size)
      have hn6 := (Hnew.out.below hb5).below hba
      have hans := Hans.out _ (Hmax.out.below hbw6)
      have Hans6 := Lib.hid hans
      have Hbw6 := Lib.hid hbw6
      have Hn6 := Lib.hid hn6
      clear hans hbw6 hn6 hba hbw5 hb5 Hcall2 Hans
      go_wp2_with fail
      refine (Hans6.out).mono ?_; rintro e w7 ⟨rfl, hb7⟩
      have hn7 := Hn6.out.below hb7
      have hbw7 := Hbw6.out.trans (hb7.mono Hbw6.out.size)
      obtain ⟨c0, c1, c2, c3', c4, c5, c6, c7⟩ := (cells8 hn7.blk).1
      simp only [FileD.zero, MailD.zero] at c0 c1 c2 c3' c7
      have c3'' : w7.cell? ⟨w3.heap.size, 3, none⟩ = some (.string ⟨#[]⟩) := c3'
      have hcall3 := Hsame.out w7 ar cr ab cb hn7.rs hn7.rb
      have Hcall3 := Lib.hid hcall3
      have Hn7 := Lib.hid hn7
      clear hcall3 hn7 c3' Hn6 Hans6 hb7
      go_wp2_with fail
      refine (Hcall3.out).mono ?_; rintro e w8 ⟨rfl, hb8⟩
      have hbw8 := hbw7.trans (hb8.mono hbw7.size)
      have hn8 := Hn7.out.below hb8
      clear c0 c1 c2 c3'' c4 c5 c6 c7
      obtain ⟨c0, c1, c2, c3', c4, c5, c6, c7⟩ := (cells8 hn8.blk).1
      simp only [FileD.zero] at c7
      clear c0 c1 c2 c3' c4 c5 hn8
      go_wp2
      go_ret
      exact ⟨rfl, hbw8⟩
    | some p =>
      obtain ⟨m, n⟩ := p
      obtain ⟨hn1, hn2⟩ := decode_len hr
      obtain ⟨ks, hks⟩ : ∃ ks, decodeM (bs.drop n) = ks := ⟨_, rfl⟩
      have hkl : ks.length ≤ bs.length := by
        have := decodeN_len 4096 (bs.drop n)
        rw [List.length_drop] at this
        rw [← hks]; unfold decodeM; omega
      have hfin : (some (m, n)).map (fun p : MailD × Nat => (⟨p.1, decodeM (bs.drop p.2), p.2 + 28 * (decodeM (bs.drop p.2)).length⟩ : FileD)) = some ⟨m, ks, n + 28 * ks.length⟩ := by rw [← hks]; rfl
      have hgd : ((n + 28 * ks.length : Nat) : Int) = (n : Int) + 28 * (ks.length : Int) := by push_cast; rfl
      have hd1 : ∀ v W, RdB W v bs → MaxOk W → Calls Tryz.prog 25 #[v] W (FilDone m ks ((n : Int) + 28 * (ks.length : Int)) W) := fun v W h1 h2 => (hd1 v W h1 h2).mono fun e w' h => by rw [hfin] at h; exact fil_some hgd h
      have hd2 : ∀ v W, RdB W v bs → NilOk v → (∀ k, v.ownBlock = some k → k < W.heap.size) → Calls Tryz.prog 21 #[v] W (BegDone m n W) := fun v W h1 h2 h3 => (hd2 v W h1 h2 h3).mono fun e w' h => beg_some h
      have hmk : ∀ v W, RdB W v (bs.drop n) → Calls Tryz.prog 27 #[v] W fun e w' => ∃ a c, e = .returned (.tuple #[.slice a ks.length c, .int .i64 (28 * (ks.length : Int))]) ∧ RdM w' (.slice a ks.length c) ks ∧ Below W.heap.size W w' := by
        intro v W h
        refine (refMarks_calls v (bs.drop n) W h (by rw [List.length_drop]; omega)).mono ?_
        rintro e w' ⟨v', he, ho, hb⟩
        rw [hks] at he ho
        obtain ⟨a, c, rfl⟩ := own_form0 ho
        exact ⟨a, c, he, rdL_ofOwn mark_len (by decide) ho, hb⟩
      have hsame : ∀ W ar cr ab cb ar' cr' ab' cb', RdS W (.slice ar m.rcpts.length cr) m.rcpts → RdB W (.slice ab m.body.length cb) m.body → RdS W (.slice ar' m.rcpts.length cr') m.rcpts → RdB W (.slice ab' m.body.length cb') m.body → Calls Tryz.prog 20 #[.agg #[.int .i64 m.id, .int .i64 m.parent, .int .i64 m.born, .string (strL m.frm), .slice ar m.rcpts.length cr, .slice ab m.body.length cb], .agg #[.int .i64 m.id, .int .i64 m.parent, .int .i64 m.born, .string (strL m.frm), .slice ar' m.rcpts.length cr', .slice ab' m.body.length cb']] W fun e w' => e = .returned (.bool true) ∧ Below W.heap.size W w' := by
        intro W ar cr ab cb ar' cr' ab' cb' h1 h2 h3 h4
        have := refSame_calls m m _ _ _ _ W h1 h2 h3 h4
        rw [show decide (m = m) = true by simp] at this
        exact this
      have hpart : ∀ W, RdB W (.slice a bs.length cap) bs → RdB W (.slice (if cap = n then a else a.map (·.add n)) (bs.length - n) (cap - n)) (bs.drop n) := by
        intro W h
        have hp2 := h.part n bs.length hn1 (Nat.le_refl _)
        rw [List.take_of_length_le (Nat.le_refl _)] at hp2
        exact hp2
      have hs := run_slice_l (P := Tryz.prog) Tryz.underlying23 u8size a bs.length cap n hn1
      have hni : (n : Int) ≤ (bs.length : Int) := by omega
      have hkI : (ks.length : Int) ≤ (bs.length : Int) := by omega
      generalize (if cap = n then a else a.map (·.add n)) = a2' at hs hpart
      have Hd1 := Lib.hid hd1
      have Hd2 := Lib.hid hd2
      have Hmk := Lib.hid hmk
      have Hpart := Lib.hid hpart
      have Hsame := Lib.hid hsame
      have Hgd := Lib.hid hgd
      clear hd1 hd2 hmk hsame hpart hv hnv hol hone hr hb0 hfd hfin hks hgd
      subst hW0
      go_enter Tryz.func8, Tryz.ntmps8
      go_wp2_with (at_builtin; go_must (refine wpList_append_any bb1_len (by decide) rfl (.tmp 15) (.tmp 16) 23 rfl w.heap.size 5 i0 (.int .u8 0) 1 Tryz.underlying23 hi hz0 hz1 hz2 rfl _ _ _ rfl hown0 _ bs rfl hsrc Hnv.out Hone.out hm1 hm2 hbs ?_); rintro v2 w2 hown2 hg2 _; rw [Nat.zero_add, List.nil_append] at hown2)
      have hb2 := Hb0.out.grown hg2 hbs (fun k hk => by cases hk; exact Nat.le_refl _)
      rw [bb1_flat] at hown2
      have hcall := Hd1.out v2 w2 (rdB_ofOwn hown2) (Hmax.out.below hb2)
      have Hcall := Lib.hid hcall
      obtain ⟨a2, c2, hv2⟩ := own_form0 hown2
      subst hv2
      clear hcall hown2 hg2 Hd1 hown0 hsrc
      refine (Hcall.out).mono ?_; rintro e w3 ⟨ar, cr, ab, cb, am, cm, rfl, hrs, hrb, hrm, hb3⟩
      have hbw3 := hb2.trans (hb3.mono hb2.size)
      have hnew := fileAt_new Hgd.out hrs hrb hrm
      obtain ⟨w4, hw4⟩ : ∃ w4, w3.alloc (.cells #[.int .i64 m.id, .int .i64 m.parent, .int .i64 m.born, .string (strL m.frm), .slice ar m.rcpts.length cr, .slice ab m.body.length cb, .slice am ks.length cm, .int .i64 ((n : Int) + 28 * (ks.length : Int))] 43) = w4 := ⟨_, rfl⟩
      rw [hw4] at hnew
      have hb4 : Below w3.heap.size w3 w4 := by rw [← hw4]; exact (Below.refl _ _).alloc (Nat.le_refl _) _
      have hbw4 := hbw3.trans (hb4.mono hbw3.size)
      have hcall2 := Hd2.out (.slice a bs.length cap) w4 (Hv.out.below (Nat.le_refl _) hbw4) Hnv.out (fun k hk => by have := Hol.out k hk; have := hbw4.size; omega)
      have Hcall2 := Lib.hid hcall2
      have Hnew := Lib.hid hnew
      have Hbw4 := Lib.hid hbw4
      clear hcall2 hnew hrs hrb hrm Hd2 Hcall hb4 hbw4 hb2 hbw3 hb3
      subst hw4
      go_wp2_with fail
      refine (Hcall2.out).mono ?_; rintro e w5 ⟨ar5, cr5, ab5, cb5, rfl, hrs5, hrb5, hb5⟩
      have hbw5 := Hbw4.out.trans (hb5.mono Hbw4.out.size)
      have hm5 := MailAt.new (m := m) hrs5 hrb5
      obtain ⟨w6, hw6⟩ : ∃ w6, w5.alloc (.cells #[.int .i64 m.id, .int .i64 m.parent, .int .i64 m.born, .string (strL m.frm), .slice ar5 m.rcpts.length cr5, .slice ab5 m.body.length cb5] 25) = w6 := ⟨_, rfl⟩
      rw [hw6] at hm5
      have hba : Below w5.heap.size w5 w6 := by rw [← hw6]; exact (Below.refl _ _).alloc (Nat.le_refl _) _
      have hbw6 := hbw5.trans (hba.mono hbw5.size)
      have hn6 := (Hnew.out.below hb5).below hba
      have hmk := Hmk.out _ w6 (Hpart.out _ (Hv.out.below (Nat.le_refl _) hbw6))
      have Hmk6 := Lib.hid hmk
      have Hbw6 := Lib.hid hbw6
      have Hn6 := Lib.hid hn6
      have Hm6 := Lib.hid hm5
      clear hmk hbw6 hn6 hba hbw5 hb5 hm5 hrs5 hrb5 Hcall2 Hmk
      subst hw6
      go_wp2_with fail
      refine (Hmk6.out).mono ?_; rintro e w7 ⟨a7, c7', rfl, hrk7, hb7⟩
      have hn7 := Hn6.out.below hb7
      have hm7 := Hm6.out.below hb7
      have hbw7 := Hbw6.out.trans (hb7.mono Hbw6.out.size)
      have hans := Hans.out _ (Hmax.out.below hbw7)
      have Hans7 := Lib.hid hans
      have Hbw7 := Lib.hid hbw7
      have Hn7 := Lib.hid hn7
      have Hm7 := Lib.hid hm7
      have Hk7 := Lib.hid hrk7
      clear hans hbw7 hn7 hm7 hrk7 hb7 Hmk6 Hn6 Hm6 Hans
      go_wp2_with fail
      refine (Hans7.out).mono ?_; rintro e w8 ⟨rfl, hb8⟩
      have hn8 := Hn7.out.below hb8
      have hm8 := Hm7.out.below hb8
      have hk8 := Hk7.out.below (Nat.le_refl _) hb8
      have hbw8 := Hbw7.out.trans (hb8.mono Hbw7.out.size)
      obtain ⟨c0, c1, c2, c3', c4, c5, c6, c7⟩ := fileAt_cells Hgd.out hn8
      obtain ⟨y0, y1, y2, y3, y4, y5⟩ := hm8.cells
      have hcall3 := Hsame.out w8 ar cr ab cb ar5 cr5 ab5 cb5 hn8.rs hn8.rb hm8.rs hm8.rb
      have Hcall3 := Lib.hid hcall3
      have Hn8 := Lib.hid hn8
      have Hk8 := Lib.hid hk8
      clear hcall3 hn8 hm8 hk8 Hn7 Hm7 Hk7 Hans7 hb8
      go_wp2_with fail
      refine (Hcall3.out).mono ?_; rintro e w9 ⟨rfl, hb9⟩
      have hbw9 := hbw8.trans (hb9.mono hbw8.size)
      have hn9 := Hn8.out.below hb9
      have hk9 := Hk8.out.below (Nat.le_refl _) hb9
      clear c0 c1 c2 c3' c4 c5 c6 c7 y0 y1 y2 y3 y4 y5
      obtain ⟨c0, c1, c2, c3', c4, c5, c6, c7⟩ := fileAt_cells Hgd.out hn9
      have hcall4 := sameMarks_calls _ _ ks w9 hn9.rm hk9
      have Hcall4 := Lib.hid hcall4
      have Hn9 := Lib.hid hn9
      clear hcall4 c0 c1 c2 c3' c4 c5 c7 hn9 hk9 Hn8 Hk8 Hcall3
      go_wp2_with fail
      refine (Hcall4.out).mono ?_; rintro e wA ⟨rfl, hbA⟩
      have hbwA := hbw9.trans (hbA.mono hbw9.size)
      have hnA := Hn9.out.below hbA
      clear c6
      obtain ⟨c0, c1, c2, c3', c4, c5, c6, c7⟩ := fileAt_cells Hgd.out hnA
      clear c0 c1 c2 c3' c4 c5 c6 hnA
      go_wp2
      go_ret
      exact ⟨rfl, hbwA⟩
end Go.Proofs.YtjddicoigbidlaaGreatDoor
