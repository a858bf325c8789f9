/-
  The walk of pillarboxref10.Marks.
-/
import Derived.Test.YtjddicoigbidlaaGreatDoorQ19
import Derived.Test.YtjddicoigbidlaaGreatDoorQ20
import Derived.Test.YtjddicoigbidlaaGreatDoorQ24
import Derived.Lib.SlicesS
set_option linter.unusedSimpArgs false
set_option linter.unusedVariables false
namespace Go.Proofs.YtjddicoigbidlaaGreatDoor
open Go.RowKit
theorem strB_ne {a b : List UInt8} (h : a ≠ b) : strB a ≠ strB b := by
  intro e; apply h; have := congrArg (fun s : ByteArray => s.data.toList) e; simpa [strB] using this
theorem eyeNum_le (bs : List UInt8) (bad : Bool) : (eyeNum bs bad).1 ≤ 4611686018427387904 := by
  unfold eyeNum; split
  · simp
  · split
    · simp
    · simp only; omega
theorem msR_succ {bs : List UInt8} {j : Nat} {k : MarkD} (h : chunkM bs j = some k) : msR bs (j + 1) = msR bs j ++ [k] := by
  unfold msR; rw [List.range_succ, List.filterMap_append]; simp [h]
/-- What stays while a part is looked at. -/
def MkRest (w0 : World) (vb : Value) (bs : List UInt8) (v28 : Value) (c : List UInt8) (vo : Value) (ms : List MarkD) (w : World) : Prop :=
  Below w0.heap.size w0 w ∧ RdB w vb bs ∧ RdB w v28 c ∧ w.ownsRow w0.heap.size 52 3 vo ms.length (ms.flatMap MarkD.cells)
abbrev MkS (w0 : World) (vb : Value) (bs : List UInt8) (v28 : Value) (c : List UInt8) (vo : Value) (ms : List MarkD) (E K : Nat) (bad : Bool) (n1 n2 n3 : Int) (w' : World) : Prop :=
  w'.cell? ⟨E, 1, none⟩ = some (.bool bad) ∧ w'.cell? ⟨K, 0, none⟩ = some (.int .i64 n1) ∧ w'.cell? ⟨K, 1, none⟩ = some (.int .i64 n2) ∧ w'.cell? ⟨K, 2, none⟩ = some (.int .i64 n3) ∧
  (convert 23 9 v28).run Tryz.prog w' = .ok (.string (strB c)) w' ∧ MkRest w0 vb bs v28 c vo ms w'
theorem MkS.go {w0 : World} {vb : Value} {bs : List UInt8} {v28 : Value} {c : List UInt8} {vo : Value} {ms : List MarkD} {E K : Nat} {bad : Bool} {n1 n2 n3 : Int} {w w' : World} (hne : Hid (c ≠ [])) (hb : Below w.heap.size w w')
    (h : MkS w0 vb bs v28 c vo ms E K bad n1 n2 n3 w) : MkS w0 vb bs v28 c vo ms E K bad n1 n2 n3 w' := by
  obtain ⟨h1, h2, h3, h4, _, hB, hvb, h28, hrow⟩ := h
  have l1 := World.block_lt_of_cell? w ⟨E, 1, none⟩ h1
  have l2 := World.block_lt_of_cell? w ⟨K, 0, none⟩ h2
  obtain ⟨cc, f⟩ := below_cell hb
  have h28' := h28.below (Nat.le_refl _) hb
  exact ⟨(cc _ _ l1).trans h1, (cc _ _ l2).trans h2, (cc _ _ l2).trans h3, (cc _ _ l2).trans h4, run_str h28' hne.out, hB.trans (hb.mono hB.size), hvb.below (Nat.le_refl _) hb, h28', own_below hrow hb (Nat.le_refl _)⟩
set_option maxRecDepth 100000 in
set_option maxHeartbeats 8000000 in
theorem refMarks_calls (v : Value) (bs : List UInt8) (w : World) (hv : RdB w v bs) (hlen : bs.length ≤ 140737488351232) :
    Calls Tryz.prog 27 #[v] w (DecDone w bs) := by
  obtain ⟨i0, hi, hz0, hz1, hz2⟩ := info_parts infoMark
  obtain ⟨a, cap, rfl, hlc, hcap⟩ := hv.form
  obtain ⟨L, hL⟩ : ∃ L, bs.length = L := ⟨_, rfl⟩
  have hv0 := hv
  rw [hL] at hv hlc hlen ⊢
  have HL := Lib.hid hL
  clear hL hv0
  have hLi : (L : Int) ≤ 140737488351232 := by omega
  go_enter Tryz.func27, Tryz.ntmps27
  go_wp2
  go_loopw [4, 5] (fun vo i wr => ∃ j A : Nat, A = 28 * j ∧ j ≤ 4096 ∧ A ≤ L ∧ i = .int .i64 A ∧ (∀ k, k < j → (chunkM bs k).isSome = true) ∧ (msR bs j).length = j ∧ wr.ownsRow w.heap.size 52 3 vo (msR bs j).length ((msR bs j).flatMap MarkD.cells) ∧ Below w.heap.size w wr) (fun _ i _ => L - (intOf i).toNat)
  case atStart =>
    exact ⟨0, 0, rfl, by omega, by omega, rfl, fun k hk => absurd hk (Nat.not_lt_zero _), by simp [msR], by simpa [msR] using nil_row w w.heap.size 3 52, Below.refl _ _⟩
  case round =>
    obtain ⟨j, A, hA, hj, hAL, rfl, hsome, hmsl, hown, hbw⟩ := hrel
    have hstop : (j = 4096 ∨ chunkM bs j = none) → (decodeM bs).length = j ∧ decodeM bs = msR bs j := fun h => by
      have := decodeM_stop bs j hsome hj h
      exact ⟨by rw [this]; exact hmsl, this⟩
    have Hsome := Lib.hid hsome
    have Hmsl := Lib.hid hmsl
    obtain ⟨ao, capo, hvo⟩ := own_form0 hown
    by_cases hroom : (28 : Int) ≤ (L : Int) - (A : Int)
    · by_cases hj4 : j < 4096
      · obtain ⟨c, hcdef⟩ : ∃ c, chunkAt bs j = c := ⟨_, rfl⟩
        have hcl : c.length = 28 := by rw [← hcdef]; unfold chunkAt; rw [List.length_take, List.length_drop, HL.out]; omega
        have hne : c ≠ [] := by intro h; rw [h] at hcl; cases hcl
        have hchunk : chunkM bs j = parseMark c := by unfold chunkM; rw [hcdef, if_neg (by omega)]
        have hparse := eye_parse c hcl
        have hle1 := eyeNum_le (c.take 24) false
        have hle2 := eyeNum_le (eye1 c).2.1 (eye1 c).2.2
        have hle3 := eyeNum_le (eye2 c).2.1 (eye2 c).2.2
        obtain ⟨n1, s1, t1, he1⟩ : ∃ n s t, eyeNum (c.take 24) false = (n, s, t) := ⟨_, _, _, rfl⟩
        have e1 : eye1 c = (n1, s1, t1) := he1
        rw [e1] at hle2
        simp only at hle2
        obtain ⟨n2, s2, t2, he2⟩ : ∃ n s t, eyeNum s1 t1 = (n, s, t) := ⟨_, _, _, rfl⟩
        have e2 : eye2 c = (n2, s2, t2) := by rw [eye2, e1]; exact he2
        rw [e2] at hle3
        simp only at hle3
        obtain ⟨n3, s3, t3, he3⟩ : ∃ n s t, eyeNum s2 t2 = (n, s, t) := ⟨_, _, _, rfl⟩
        have e3 : eye3 c = (n3, s3, t3) := by rw [eye3, e2]; exact he3
        have em : eyeMark c = ⟨n1, n2, n3⟩ := by rw [eyeMark, e1, e2, e3]
        rw [e3, em] at hparse
        rw [he1] at hle1
        rw [he2] at hle2
        rw [he3] at hle3
        simp only at hparse hle1 hle2 hle3
        have hc1 := fun E v W h => eyeNum_calls E v (c.take 24) false W h
        have hc2 := fun E v W h => eyeNum_calls E v s1 t1 W h
        have hc3 := fun E v W h => eyeNum_calls E v s2 t2 W h
        rw [he1] at hc1
        rw [he2] at hc2
        rw [he3] at hc3
        have Hc1 := Lib.hid hc1
        have Hc2 := Lib.hid hc2
        have Hc3 := Lib.hid hc3
        have Hne := Lib.hid hne
        have hvr := hv.below (Nat.le_refl _) hbw
        have hp24 := hvr.part A (A + 24) (by omega) (by rw [HL.out]; omega)
        have hp28 := hvr.part A (A + 28) (by omega) (by rw [HL.out]; omega)
        have hx : ∀ k, (bs.take (A + k)).drop A = (bs.drop A).take k := fun k => by rw [List.drop_take]; congr 1; omega
        rw [hx, show A + 24 - A = 24 by omega] at hp24
        rw [hx, show A + 28 - A = 28 by omega] at hp28
        have hc28 : (bs.drop A).take 28 = c := by rw [← hcdef, hA]; rfl
        have hc24 : (bs.drop A).take 24 = c.take 24 := by rw [← hc28, List.take_take]; rfl
        rw [hc28] at hp28
        rw [hc24] at hp24
        have hsl1 : ∀ w, (Instr.sliceAt 23 (.slice a L cap) (some (.int .i64 (A : Int))) (some (.int .i64 ((A : Int) + 24))) none).run Tryz.prog w = .ok (.slice (if cap = A then a else a.map (·.add A)) 24 (cap - A)) w := by
          have := run_slice_lh (P := Tryz.prog) Tryz.underlying23 u8size a L cap A (A + 24) (by omega) (by omega)
          rw [show A + 24 - A = 24 by omega] at this
          exact this
        have hsl2 : ∀ w, (Instr.sliceAt 23 (.slice a L cap) (some (.int .i64 (A : Int))) (some (.int .i64 ((A : Int) + 28))) none).run Tryz.prog w = .ok (.slice (if cap = A then a else a.map (·.add A)) 28 (cap - A)) w := by
          have := run_slice_lh (P := Tryz.prog) Tryz.underlying23 u8size a L cap A (A + 28) (by omega) (by omega)
          rw [show A + 28 - A = 28 by omega] at this
          exact this
        generalize (if cap = A then a else a.map (·.add A)) = a2 at hsl1 hsl2 hp24 hp28
        generalize cap - A = cap2 at hsl1 hsl2 hp24 hp28
        have hE0 : EyeAt (wr.alloc (.cells #[.slice a2 24 cap2, .bool false] 89)) wr.heap.size (.slice a2 24 cap2) (c.take 24) false :=
          ⟨heap_alloc_new wr _, hp24.below (Nat.le_refl _) ((Below.refl _ _).alloc (Nat.le_refl _) _), by
            intro h
            rcases hp24 with ⟨_, _, _, _, h'⟩ | ⟨b', off', cap', h1, _, _, _, h4, _⟩
            · have := congrArg List.length h'; simp [hcl] at this
            · simp only [Value.slice.injEq] at h1
              obtain ⟨rfl, _, _⟩ := h1
              have hb' : b' = wr.heap.size := Option.some.inj h
              omega⟩
        have HA := Lib.hid hA
        have Hchunk := Lib.hid hchunk
        have Hparse := Lib.hid hparse
        have Hstop := Lib.hid hstop
        have hA28 : A + 28 ≤ L := by omega
        rw [hmsl] at hown hvo
        subst hvo
        clear hstop hsome hmsl hA hchunk hparse hc1 hc2 hc3 he1 he2 he3 e1 e2 e3 em hx hc28 hc24 hne hcdef
        go_wp2_with fail
        refine (Hc1.out _ _ _ hE0).mono ?_; rintro e w1 ⟨v1, rfl, hE1, hK1, ho1⟩
        go_wp2_with fail
        refine (Hc2.out _ _ _ hE1).mono ?_; rintro e w2 ⟨v2, rfl, hE2, hK2, ho2⟩
        go_wp2_with fail
        refine (Hc3.out _ _ _ hE2).mono ?_; rintro e w3 ⟨v3, rfl, hE3, hK3, ho3⟩
        have hb3 : Below wr.heap.size wr w3 := ((Below.refl _ _).alloc (Nat.le_refl _) _).trans (((hK1.trans hK2).trans hK3).below (fun i h => by omega) (by simp))
        obtain ⟨_, hbad, _, _⟩ := hE3.cells
        have hk0 : (w3.alloc (.cells #[.int .i64 n1, .int .i64 n2, .int .i64 n3] 52)).heap[w3.heap.size]? = some (.cells #[.int .i64 n1, .int .i64 n2, .int .i64 n3] 52 (0, 0)) := heap_alloc_new w3 _
        have hbK : Below wr.heap.size wr (w3.alloc (.cells #[.int .i64 n1, .int .i64 n2, .int .i64 n3] 52)) := hb3.alloc hb3.size _
        have hEK := hE3.blk
        have hbad : (w3.alloc (.cells #[.int .i64 n1, .int .i64 n2, .int .i64 n3] 52)).cell? ⟨wr.heap.size, 1, none⟩ = some (.bool t3) := by
          rw [cell_of_row _ _ _ _ _ _ ((Below.heap_alloc w3 _ _ (Array.getElem?_eq_some_iff.1 hEK).1).trans hEK)]; rfl
        have hk1 : (w3.alloc (.cells #[.int .i64 n1, .int .i64 n2, .int .i64 n3] 52)).cell? ⟨w3.heap.size, 0, none⟩ = some (.int .i64 n1) := by rw [cell_of_row _ _ _ _ _ _ hk0]; rfl
        have hk2 : (w3.alloc (.cells #[.int .i64 n1, .int .i64 n2, .int .i64 n3] 52)).cell? ⟨w3.heap.size, 1, none⟩ = some (.int .i64 n2) := by rw [cell_of_row _ _ _ _ _ _ hk0]; rfl
        have hk3 : (w3.alloc (.cells #[.int .i64 n1, .int .i64 n2, .int .i64 n3] 52)).cell? ⟨w3.heap.size, 2, none⟩ = some (.int .i64 n3) := by rw [cell_of_row _ _ _ _ _ _ hk0]; rfl
        have hp28' := hp28.below (Nat.le_refl _) hbK
        have hS : MkS w (.slice a L cap) bs (.slice a2 28 cap2) c (.slice ao j capo) (msR bs j) wr.heap.size w3.heap.size t3 n1 n2 n3 (w3.alloc (.cells #[.int .i64 n1, .int .i64 n2, .int .i64 n3] 52)).drew :=
          MkS.go Hne (Below.refl _ _).drew ⟨hbad, hk1, hk2, hk3, run_str hp28' Hne.out, hbw.trans (hbK.mono hbw.size), hvr.below (Nat.le_refl _) hbK, hp28', own_below (by rw [Hmsl.out]; exact hown) hbK (Nat.le_refl _)⟩
        have hmk := fun W => refMark_calls ⟨n1, n2, n3⟩ W (by simp) (by simp only; omega) (by simp) (by simp only; omega) (by simp) (by simp only; omega)
        have hmay := fun W => mayMark_calls ⟨n1, n2, n3⟩ W
        have Hp28 := Lib.hid hp28
        have Hvr := Lib.hid hvr
        generalize hkb : MarkD.bytes ⟨n1, n2, n3⟩ = kb at hmk Hparse
        generalize hok : MarkD.good ⟨n1, n2, n3⟩ = ok at hmay Hparse
        have hkbl : kb.length = 28 := by rw [← hkb]; exact bytes_length _
        have hkne : kb ≠ [] := by intro h; rw [h] at hkbl; cases hkbl
        have Hkne := Lib.hid hkne
        have Hmk := Lib.hid hmk
        have Hmay := Lib.hid hmay
        have HbK := Lib.hid hbK
        clear hkb hok hkbl hkne hmk hmay hp28' hk0 hEK hbad hk1 hk2 hk3 hbK hp28 hvr hp24 hE0 hE1 hE2 hE3 hK1 hK2 hK3 ho1 ho2 ho3 hb3 hcl hv
        have hwr28 : IntKind.i64.wrap ((A : Int) + 28) = (A : Int) + 28 := IntWalk.i64_in _ (by omega)
        cases t3
        · cases ok
          · go_wp2
            refine wp_region_noPanic ?_
            refine wp_region_held_drew (S := (fun w' => w'.cell? ⟨wr.heap.size, 1, none⟩ = some (.bool false) ∧ w'.cell? ⟨w3.heap.size, 0, none⟩ = some (.int .i64 n1) ∧ w'.cell? ⟨w3.heap.size, 1, none⟩ = some (.int .i64 n2) ∧ w'.cell? ⟨w3.heap.size, 2, none⟩ = some (.int .i64 n3) ∧ (convert 23 9 (.slice a2 28 cap2)).run Tryz.prog w' = .ok (.string (strB c)) w' ∧ MkRest w (.slice a L cap) bs (.slice a2 28 cap2) c (.slice ao j capo) (msR bs j) w')) (by kernel_rfl) (by first | with_reducible exact hS | with_reducible assumption | with_reducible exact MkS.go Hne (by assumption) (by assumption)) (fun hHeld => ?_)
            refine wpAnyH_take (i := 0) (oi := _) (v := ?_) (by simp only [List.getElem?_toArray, List.getElem?_cons_succ, List.getElem?_cons_zero]; rfl) (by kernel_rfl) (by kernel_rfl) (by kernel_rfl) (fun _ _ _ h => h) (Or.inl ⟨by rfl, ?_⟩) (by assumption) ?_
            rotate_left
            · intro w hSw; (try dsimp only at hSw); go_simp; (try with_reducible rfl)
            try simp only [Act.put, List.setIfInBounds_toArray, List.set_cons_zero, List.set_cons_succ]
            refine wpAnyH_take (i := 1) (oi := _) (v := ?_) (by simp only [List.getElem?_toArray, List.getElem?_cons_succ, List.getElem?_cons_zero]; rfl) (by kernel_rfl) (by kernel_rfl) (by kernel_rfl) (fun _ _ _ h => h) (Or.inl ⟨by rfl, ?_⟩) (by assumption) ?_
            rotate_left
            · intro w hSw; (try dsimp only at hSw); go_simp; (try with_reducible rfl)
            try simp only [Act.put, List.setIfInBounds_toArray, List.set_cons_zero, List.set_cons_succ]
            refine wpAnyH_take (i := 2) (oi := _) (v := ?_) (by simp only [List.getElem?_toArray, List.getElem?_cons_succ, List.getElem?_cons_zero]; rfl) (by kernel_rfl) (by kernel_rfl) (by kernel_rfl) (fun _ _ _ h => h) (Or.inl ⟨by rfl, ?_⟩) (by assumption) ?_
            rotate_left
            · intro w hSw; (try dsimp only at hSw); go_simp; (try with_reducible rfl)
            try simp only [Act.put, List.setIfInBounds_toArray, List.set_cons_zero, List.set_cons_succ]
            refine wpAnyH_take (i := 3) (oi := _) (v := ?_) (by simp only [List.getElem?_toArray, List.getElem?_cons_succ, List.getElem?_cons_zero]; rfl) (by kernel_rfl) (by kernel_rfl) (by kernel_rfl) (fun _ _ _ h => h) (Or.inl ⟨by rfl, ?_⟩) (by assumption) ?_
            rotate_left
            · intro w hSw; (try dsimp only at hSw); go_simp; (try with_reducible rfl)
            try simp only [Act.put, List.setIfInBounds_toArray, List.set_cons_zero, List.set_cons_succ]
            refine wpAnyH_take (i := 4) (oi := _) (v := ?_) (by simp only [List.getElem?_toArray, List.getElem?_cons_succ, List.getElem?_cons_zero]; rfl) (by kernel_rfl) (by kernel_rfl) (by kernel_rfl) (fun _ _ _ h => h) (Or.inl ⟨by rfl, ?_⟩) (by assumption) ?_
            rotate_left
            · intro w hSw; (try dsimp only at hSw); go_simp; (try with_reducible rfl)
            try simp only [Act.put, List.setIfInBounds_toArray, List.set_cons_zero, List.set_cons_succ]
            refine wpAnyH_take (i := 5) (oi := _) (v := ?_) (by simp only [List.getElem?_toArray, List.getElem?_cons_succ, List.getElem?_cons_zero]; rfl) (by kernel_rfl) (by kernel_rfl) (by kernel_rfl) (fun _ _ _ h => h) (Or.inl ⟨by rfl, ?_⟩) (by assumption) ?_
            rotate_left
            · intro w hSw; (try dsimp only at hSw); go_simp; (try with_reducible rfl)
            try simp only [Act.put, List.setIfInBounds_toArray, List.set_cons_zero, List.set_cons_succ]
            refine wpAnyH_ready (rs := [6]) (by kernel_rfl) (by simp) ?_
            refine AllReadyH.cons (o := _) (by simp only [List.getElem?_toArray, List.getElem?_cons_succ, List.getElem?_cons_zero]; rfl) (fun K hK => ?_) AllReadyH.nil
            go_simp
            (go_at_call 61; refine (Hmay.out _).mono ?_; rintro e w5 ⟨rfl, hb5⟩); go_wp2_with fail
            refine hK.out _ _ (by (try dsimp only); first | with_reducible exact hS | with_reducible assumption | with_reducible exact MkS.go Hne (by assumption) (by assumption)) (fun hHeld => ?_)
            clear hK K
            try simp only [Act.put, List.setIfInBounds_toArray, List.set_cons_zero, List.set_cons_succ]
            refine wpAnyH_take (i := 7) (oi := _) (v := ?_) (by simp only [List.getElem?_toArray, List.getElem?_cons_succ, List.getElem?_cons_zero]; rfl) (by kernel_rfl) (by kernel_rfl) (by kernel_rfl) (fun _ _ _ h => h) (Or.inl ⟨by rfl, ?_⟩) (by assumption) ?_
            rotate_left
            · intro w hSw; (try dsimp only at hSw); go_simp; (try with_reducible rfl)
            try simp only [Act.put, List.setIfInBounds_toArray, List.set_cons_zero, List.set_cons_succ]
            refine wpAnyH_take (i := 8) (oi := _) (v := ?_) (by simp only [List.getElem?_toArray, List.getElem?_cons_succ, List.getElem?_cons_zero]; rfl) (by kernel_rfl) (by kernel_rfl) (by kernel_rfl) (fun _ _ _ h => h) (Or.inl ⟨by rfl, ?_⟩) (by assumption) ?_
            rotate_left
            · intro w hSw; (try dsimp only at hSw); go_simp; (try with_reducible rfl)
            try simp only [Act.put, List.setIfInBounds_toArray, List.set_cons_zero, List.set_cons_succ]
            refine wpAnyH_take (i := 9) (oi := _) (v := ?_) (by simp only [List.getElem?_toArray, List.getElem?_cons_succ, List.getElem?_cons_zero]; rfl) (by kernel_rfl) (by kernel_rfl) (by kernel_rfl) (fun _ _ _ h => h) (Or.inl ⟨by rfl, ?_⟩) (by assumption) ?_
            rotate_left
            · intro w hSw; (try dsimp only at hSw); go_simp; (try with_reducible rfl)
            try simp only [Act.put, List.setIfInBounds_toArray, List.set_cons_zero, List.set_cons_succ]
            refine wpAnyH_take (i := 10) (oi := _) (v := undef) (by simp only [List.getElem?_toArray, List.getElem?_cons_succ, List.getElem?_cons_zero]; rfl) (by kernel_rfl) (by kernel_rfl) (by kernel_rfl) (fun _ _ _ h => h) (Or.inr ⟨by rfl, rfl⟩) (by assumption) ?_
            try simp only [Act.put, List.setIfInBounds_toArray, List.set_cons_zero, List.set_cons_succ]
            refine wpAnyH_take (i := 11) (oi := _) (v := undef) (by simp only [List.getElem?_toArray, List.getElem?_cons_succ, List.getElem?_cons_zero]; rfl) (by kernel_rfl) (by kernel_rfl) (by kernel_rfl) (fun _ _ _ h => h) (Or.inr ⟨by rfl, rfl⟩) (by assumption) ?_
            try simp only [Act.put, List.setIfInBounds_toArray, List.set_cons_zero, List.set_cons_succ]
            refine wpAnyH_take (i := 12) (oi := _) (v := undef) (by simp only [List.getElem?_toArray, List.getElem?_cons_succ, List.getElem?_cons_zero]; rfl) (by kernel_rfl) (by kernel_rfl) (by kernel_rfl) (fun _ _ _ h => h) (Or.inr ⟨by rfl, rfl⟩) (by assumption) ?_
            try simp only [Act.put, List.setIfInBounds_toArray, List.set_cons_zero, List.set_cons_succ]
            refine wpAnyH_take (i := 13) (oi := _) (v := undef) (by simp only [List.getElem?_toArray, List.getElem?_cons_succ, List.getElem?_cons_zero]; rfl) (by kernel_rfl) (by kernel_rfl) (by kernel_rfl) (fun _ _ _ h => h) (Or.inr ⟨by rfl, rfl⟩) (by assumption) ?_
            try simp only [Act.put, List.setIfInBounds_toArray, List.set_cons_zero, List.set_cons_succ]
            refine wpAnyH_take (i := 14) (oi := _) (v := undef) (by simp only [List.getElem?_toArray, List.getElem?_cons_succ, List.getElem?_cons_zero]; rfl) (by kernel_rfl) (by kernel_rfl) (by kernel_rfl) (fun _ _ _ h => h) (Or.inr ⟨by rfl, rfl⟩) (by assumption) ?_
            try simp only [Act.put, List.setIfInBounds_toArray, List.set_cons_zero, List.set_cons_succ]
            refine wpAnyH_take (i := 15) (oi := _) (v := undef) (by simp only [List.getElem?_toArray, List.getElem?_cons_succ, List.getElem?_cons_zero]; rfl) (by kernel_rfl) (by kernel_rfl) (by kernel_rfl) (fun _ _ _ h => h) (Or.inr ⟨by rfl, rfl⟩) (by assumption) ?_
            try simp only [Act.put, List.setIfInBounds_toArray, List.set_cons_zero, List.set_cons_succ]
            refine wpAnyH_take (i := 16) (oi := _) (v := undef) (by simp only [List.getElem?_toArray, List.getElem?_cons_succ, List.getElem?_cons_zero]; rfl) (by kernel_rfl) (by kernel_rfl) (by kernel_rfl) (fun _ _ _ h => h) (Or.inr ⟨by rfl, rfl⟩) (by assumption) ?_
            try simp only [Act.put, List.setIfInBounds_toArray, List.set_cons_zero, List.set_cons_succ]
            refine wpAnyH_take (i := 17) (oi := _) (v := undef) (by simp only [List.getElem?_toArray, List.getElem?_cons_succ, List.getElem?_cons_zero]; rfl) (by kernel_rfl) (by kernel_rfl) (by kernel_rfl) (fun _ _ _ h => h) (Or.inr ⟨by rfl, rfl⟩) (by assumption) ?_
            try simp only [Act.put, List.setIfInBounds_toArray, List.set_cons_zero, List.set_cons_succ]
            refine wpAnyH_take (i := 18) (oi := _) (v := undef) (by simp only [List.getElem?_toArray, List.getElem?_cons_succ, List.getElem?_cons_zero]; rfl) (by kernel_rfl) (by kernel_rfl) (by kernel_rfl) (fun _ _ _ h => h) (Or.inr ⟨by rfl, rfl⟩) (by assumption) ?_
            try simp only [Act.put, List.setIfInBounds_toArray, List.set_cons_zero, List.set_cons_succ]
            refine wpAnyH_take (i := 19) (oi := _) (v := undef) (by simp only [List.getElem?_toArray, List.getElem?_cons_succ, List.getElem?_cons_zero]; rfl) (by kernel_rfl) (by kernel_rfl) (by kernel_rfl) (fun _ _ _ h => h) (Or.inr ⟨by rfl, rfl⟩) (by assumption) ?_
            try simp only [Act.put, List.setIfInBounds_toArray, List.set_cons_zero, List.set_cons_succ]
            refine wpAnyH_take (i := 20) (oi := _) (v := ?_) (by simp only [List.getElem?_toArray, List.getElem?_cons_succ, List.getElem?_cons_zero]; rfl) (by kernel_rfl) (by kernel_rfl) (by kernel_rfl) (fun _ _ _ h => h) (Or.inl ⟨by rfl, ?_⟩) (by assumption) ?_
            rotate_left
            · intro w hSw; (try dsimp only at hSw); go_simp; (try with_reducible rfl)
            try simp only [Act.put, List.setIfInBounds_toArray, List.set_cons_zero, List.set_cons_succ]
            refine wpAnyH_done (by kernel_rfl) ?_ _
            refine NoPanic.normal ?_
            have hnone : chunkM bs j = none := by rw [Hchunk.out, Hparse.out]; simp
            obtain ⟨hd1, hd2⟩ := Hstop.out (.inr hnone)
            have Hd1 := Lib.hid hd1
            have Hd2 := Lib.hid hd2
            have hfin := (by assumption : MkS w (.slice a L cap) bs (.slice a2 28 cap2) c (.slice ao j capo) (msR bs j) wr.heap.size w3.heap.size false n1 n2 n3 w5)
            obtain ⟨_, _, _, _, _, hfB, _, _, hfO⟩ := hfin
            rw [Hmsl.out] at hfO
            have HfB := Lib.hid hfB
            have HfO := Lib.hid hfO
            clear hd1 hd2 hnone hfB hfO
            go_wp2
            go_ret2
            refine ⟨_, by rw [Hd1.out, HA.out]; congr 4, by rw [Hd1.out, Hd2.out]; exact HfO.out, HfB.out⟩
          · by_cases heq : kb = c
            · have hcb : c = kb := heq.symm
              have Heq := Lib.hid heq
              subst hcb
              go_wp2
              refine wp_region_noPanic ?_
              refine wp_region_held_drew (S := (fun w' => w'.cell? ⟨wr.heap.size, 1, none⟩ = some (.bool false) ∧ w'.cell? ⟨w3.heap.size, 0, none⟩ = some (.int .i64 n1) ∧ w'.cell? ⟨w3.heap.size, 1, none⟩ = some (.int .i64 n2) ∧ w'.cell? ⟨w3.heap.size, 2, none⟩ = some (.int .i64 n3) ∧ (convert 23 9 (.slice a2 28 cap2)).run Tryz.prog w' = .ok (.string (strB c)) w' ∧ MkRest w (.slice a L cap) bs (.slice a2 28 cap2) c (.slice ao j capo) (msR bs j) w')) (by kernel_rfl) (by first | with_reducible exact hS | with_reducible assumption | with_reducible exact MkS.go Hne (by assumption) (by assumption)) (fun hHeld => ?_)
              refine wpAnyH_take (i := 0) (oi := _) (v := ?_) (by simp only [List.getElem?_toArray, List.getElem?_cons_succ, List.getElem?_cons_zero]; rfl) (by kernel_rfl) (by kernel_rfl) (by kernel_rfl) (fun _ _ _ h => h) (Or.inl ⟨by rfl, ?_⟩) (by assumption) ?_
              rotate_left
              · intro w hSw; (try dsimp only at hSw); go_simp; (try with_reducible rfl)
              try simp only [Act.put, List.setIfInBounds_toArray, List.set_cons_zero, List.set_cons_succ]
              refine wpAnyH_take (i := 1) (oi := _) (v := ?_) (by simp only [List.getElem?_toArray, List.getElem?_cons_succ, List.getElem?_cons_zero]; rfl) (by kernel_rfl) (by kernel_rfl) (by kernel_rfl) (fun _ _ _ h => h) (Or.inl ⟨by rfl, ?_⟩) (by assumption) ?_
              rotate_left
              · intro w hSw; (try dsimp only at hSw); go_simp; (try with_reducible rfl)
              try simp only [Act.put, List.setIfInBounds_toArray, List.set_cons_zero, List.set_cons_succ]
              refine wpAnyH_take (i := 2) (oi := _) (v := ?_) (by simp only [List.getElem?_toArray, List.getElem?_cons_succ, List.getElem?_cons_zero]; rfl) (by kernel_rfl) (by kernel_rfl) (by kernel_rfl) (fun _ _ _ h => h) (Or.inl ⟨by rfl, ?_⟩) (by assumption) ?_
              rotate_left
              · intro w hSw; (try dsimp only at hSw); go_simp; (try with_reducible rfl)
              try simp only [Act.put, List.setIfInBounds_toArray, List.set_cons_zero, List.set_cons_succ]
              refine wpAnyH_take (i := 3) (oi := _) (v := ?_) (by simp only [List.getElem?_toArray, List.getElem?_cons_succ, List.getElem?_cons_zero]; rfl) (by kernel_rfl) (by kernel_rfl) (by kernel_rfl) (fun _ _ _ h => h) (Or.inl ⟨by rfl, ?_⟩) (by assumption) ?_
              rotate_left
              · intro w hSw; (try dsimp only at hSw); go_simp; (try with_reducible rfl)
              try simp only [Act.put, List.setIfInBounds_toArray, List.set_cons_zero, List.set_cons_succ]
              refine wpAnyH_take (i := 4) (oi := _) (v := ?_) (by simp only [List.getElem?_toArray, List.getElem?_cons_succ, List.getElem?_cons_zero]; rfl) (by kernel_rfl) (by kernel_rfl) (by kernel_rfl) (fun _ _ _ h => h) (Or.inl ⟨by rfl, ?_⟩) (by assumption) ?_
              rotate_left
              · intro w hSw; (try dsimp only at hSw); go_simp; (try with_reducible rfl)
              try simp only [Act.put, List.setIfInBounds_toArray, List.set_cons_zero, List.set_cons_succ]
              refine wpAnyH_take (i := 5) (oi := _) (v := ?_) (by simp only [List.getElem?_toArray, List.getElem?_cons_succ, List.getElem?_cons_zero]; rfl) (by kernel_rfl) (by kernel_rfl) (by kernel_rfl) (fun _ _ _ h => h) (Or.inl ⟨by rfl, ?_⟩) (by assumption) ?_
              rotate_left
              · intro w hSw; (try dsimp only at hSw); go_simp; (try with_reducible rfl)
              try simp only [Act.put, List.setIfInBounds_toArray, List.set_cons_zero, List.set_cons_succ]
              refine wpAnyH_ready (rs := [6]) (by kernel_rfl) (by simp) ?_
              refine AllReadyH.cons (o := _) (by simp only [List.getElem?_toArray, List.getElem?_cons_succ, List.getElem?_cons_zero]; rfl) (fun K hK => ?_) AllReadyH.nil
              go_simp
              (go_at_call 61; refine (Hmay.out _).mono ?_; rintro e w5 ⟨rfl, hb5⟩); go_wp2_with fail
              refine hK.out _ _ (by (try dsimp only); first | with_reducible exact hS | with_reducible assumption | with_reducible exact MkS.go Hne (by assumption) (by assumption)) (fun hHeld => ?_)
              clear hK K
              try simp only [Act.put, List.setIfInBounds_toArray, List.set_cons_zero, List.set_cons_succ]
              refine wpAnyH_take (i := 7) (oi := _) (v := ?_) (by simp only [List.getElem?_toArray, List.getElem?_cons_succ, List.getElem?_cons_zero]; rfl) (by kernel_rfl) (by kernel_rfl) (by kernel_rfl) (fun _ _ _ h => h) (Or.inl ⟨by rfl, ?_⟩) (by assumption) ?_
              rotate_left
              · intro w hSw; (try dsimp only at hSw); go_simp; (try with_reducible rfl)
              try simp only [Act.put, List.setIfInBounds_toArray, List.set_cons_zero, List.set_cons_succ]
              refine wpAnyH_take (i := 8) (oi := _) (v := ?_) (by simp only [List.getElem?_toArray, List.getElem?_cons_succ, List.getElem?_cons_zero]; rfl) (by kernel_rfl) (by kernel_rfl) (by kernel_rfl) (fun _ _ _ h => h) (Or.inl ⟨by rfl, ?_⟩) (by assumption) ?_
              rotate_left
              · intro w hSw; (try dsimp only at hSw); go_simp; (try with_reducible rfl)
              try simp only [Act.put, List.setIfInBounds_toArray, List.set_cons_zero, List.set_cons_succ]
              refine wpAnyH_take (i := 9) (oi := _) (v := ?_) (by simp only [List.getElem?_toArray, List.getElem?_cons_succ, List.getElem?_cons_zero]; rfl) (by kernel_rfl) (by kernel_rfl) (by kernel_rfl) (fun _ _ _ h => h) (Or.inl ⟨by rfl, ?_⟩) (by assumption) ?_
              rotate_left
              · intro w hSw; (try dsimp only at hSw); go_simp; (try with_reducible rfl)
              try simp only [Act.put, List.setIfInBounds_toArray, List.set_cons_zero, List.set_cons_succ]
              refine wpAnyH_take (i := 10) (oi := _) (v := ?_) (by simp only [List.getElem?_toArray, List.getElem?_cons_succ, List.getElem?_cons_zero]; rfl) (by kernel_rfl) (by kernel_rfl) (by kernel_rfl) (fun _ _ _ h => h) (Or.inl ⟨by rfl, ?_⟩) (by assumption) ?_
              rotate_left
              · intro w hSw; (try dsimp only at hSw); go_simp; (try with_reducible rfl)
              try simp only [Act.put, List.setIfInBounds_toArray, List.set_cons_zero, List.set_cons_succ]
              refine wpAnyH_take (i := 13) (oi := _) (v := ?_) (by simp only [List.getElem?_toArray, List.getElem?_cons_succ, List.getElem?_cons_zero]; rfl) (by kernel_rfl) (by kernel_rfl) (by kernel_rfl) (fun _ _ _ h => h) (Or.inl ⟨by rfl, ?_⟩) (by assumption) ?_
              rotate_left
              · intro w hSw; (try dsimp only at hSw); go_simp; (try with_reducible rfl)
              try simp only [Act.put, List.setIfInBounds_toArray, List.set_cons_zero, List.set_cons_succ]
              refine wpAnyH_take (i := 14) (oi := _) (v := ?_) (by simp only [List.getElem?_toArray, List.getElem?_cons_succ, List.getElem?_cons_zero]; rfl) (by kernel_rfl) (by kernel_rfl) (by kernel_rfl) (fun _ _ _ h => h) (Or.inl ⟨by rfl, ?_⟩) (by assumption) ?_
              rotate_left
              · intro w hSw; (try dsimp only at hSw); go_simp; (try with_reducible rfl)
              try simp only [Act.put, List.setIfInBounds_toArray, List.set_cons_zero, List.set_cons_succ]
              refine wpAnyH_take (i := 15) (oi := _) (v := ?_) (by simp only [List.getElem?_toArray, List.getElem?_cons_succ, List.getElem?_cons_zero]; rfl) (by kernel_rfl) (by kernel_rfl) (by kernel_rfl) (fun _ _ _ h => h) (Or.inl ⟨by rfl, ?_⟩) (by assumption) ?_
              rotate_left
              · intro w hSw; (try dsimp only at hSw); go_simp; (try with_reducible rfl)
              try simp only [Act.put, List.setIfInBounds_toArray, List.set_cons_zero, List.set_cons_succ]
              refine wpAnyH_take (i := 16) (oi := _) (v := ?_) (by simp only [List.getElem?_toArray, List.getElem?_cons_succ, List.getElem?_cons_zero]; rfl) (by kernel_rfl) (by kernel_rfl) (by kernel_rfl) (fun _ _ _ h => h) (Or.inl ⟨by rfl, ?_⟩) (by assumption) ?_
              rotate_left
              · intro w hSw; (try dsimp only at hSw); go_simp; (try with_reducible rfl)
              try simp only [Act.put, List.setIfInBounds_toArray, List.set_cons_zero, List.set_cons_succ]
              refine wpAnyH_take (i := 17) (oi := _) (v := ?_) (by simp only [List.getElem?_toArray, List.getElem?_cons_succ, List.getElem?_cons_zero]; rfl) (by kernel_rfl) (by kernel_rfl) (by kernel_rfl) (fun _ _ _ h => h) (Or.inl ⟨by rfl, ?_⟩) (by assumption) ?_
              rotate_left
              · intro w hSw; (try dsimp only at hSw); go_simp; (try with_reducible rfl)
              try simp only [Act.put, List.setIfInBounds_toArray, List.set_cons_zero, List.set_cons_succ]
              refine wpAnyH_take (i := 18) (oi := _) (v := ?_) (by simp only [List.getElem?_toArray, List.getElem?_cons_succ, List.getElem?_cons_zero]; rfl) (by kernel_rfl) (by kernel_rfl) (by kernel_rfl) (fun _ _ _ h => h) (Or.inl ⟨by rfl, ?_⟩) (by assumption) ?_
              rotate_left
              · intro w hSw; (try dsimp only at hSw); go_simp; (try with_reducible rfl)
              try simp only [Act.put, List.setIfInBounds_toArray, List.set_cons_zero, List.set_cons_succ]
              refine wpAnyH_ready (rs := [11]) (by kernel_rfl) (by simp) ?_
              refine AllReadyH.cons (o := _) (by simp only [List.getElem?_toArray, List.getElem?_cons_succ, List.getElem?_cons_zero]; rfl) (fun K hK => ?_) AllReadyH.nil
              go_simp
              (go_at_call 28; refine (Hmk.out _).mono ?_; rintro e w6 ⟨vk, rfl, hown6, hb6⟩; have hs6 := run_str (rdB_ofOwn hown6) Hkne.out); go_wp2_with fail
              refine hK.out _ _ (by (try dsimp only); first | with_reducible exact hS | with_reducible assumption | with_reducible exact MkS.go Hne (by assumption) (by assumption)) (fun hHeld => ?_)
              clear hK K
              try simp only [Act.put, List.setIfInBounds_toArray, List.set_cons_zero, List.set_cons_succ]
              refine wpAnyH_ready (rs := [12]) (by kernel_rfl) (by simp) ?_
              refine AllReadyH.cons (o := _) (by simp only [List.getElem?_toArray, List.getElem?_cons_succ, List.getElem?_cons_zero]; rfl) (fun K hK => ?_) AllReadyH.nil
              go_simp
              refine hK.out _ _ (by (try dsimp only); first | with_reducible exact hS | with_reducible assumption | with_reducible exact MkS.go Hne (by assumption) (by assumption)) (fun hHeld => ?_)
              clear hK K
              try simp only [Act.put, List.setIfInBounds_toArray, List.set_cons_zero, List.set_cons_succ]
              refine wpAnyH_take (i := 19) (oi := _) (v := ?_) (by simp only [List.getElem?_toArray, List.getElem?_cons_succ, List.getElem?_cons_zero]; rfl) (by kernel_rfl) (by kernel_rfl) (by kernel_rfl) (fun _ _ _ h => h) (Or.inl ⟨by rfl, ?_⟩) (by assumption) ?_
              rotate_left
              · intro w hSw; (try dsimp only at hSw); go_simp; (try with_reducible rfl)
              try simp only [Act.put, List.setIfInBounds_toArray, List.set_cons_zero, List.set_cons_succ]
              refine wpAnyH_take (i := 20) (oi := _) (v := ?_) (by simp only [List.getElem?_toArray, List.getElem?_cons_succ, List.getElem?_cons_zero]; rfl) (by kernel_rfl) (by kernel_rfl) (by kernel_rfl) (fun _ _ _ h => h) (Or.inl ⟨by rfl, ?_⟩) (by assumption) ?_
              rotate_left
              · intro w hSw; (try dsimp only at hSw); go_simp; (try with_reducible rfl)
              try simp only [Act.put, List.setIfInBounds_toArray, List.set_cons_zero, List.set_cons_succ]
              refine wpAnyH_done (by kernel_rfl) ?_ _
              refine NoPanic.normal ?_
              have hsm : chunkM bs j = some ⟨n1, n2, n3⟩ := by rw [Hchunk.out, Hparse.out]; simp [Heq.out]
              have Hsm := Lib.hid hsm
              have hfin := (by assumption : MkS w (.slice a L cap) bs (.slice a2 28 cap2) c (.slice ao j capo) (msR bs j) wr.heap.size w3.heap.size false n1 n2 n3 w6)
              obtain ⟨_, z0, z1, z2, _, hfB, _, _, hfO⟩ := hfin
              rw [Hmsl.out] at hfO
              have hcs1 : ∀ u ∈ MarkD.cells ⟨n1, n2, n3⟩, u.oneCell' = true := by intro u hu; exact cells_one [⟨n1, n2, n3⟩] u (by simpa using hu)
              have hncell := news_new w6 (MarkD.cells ⟨n1, n2, n3⟩) 52 (0, 0)
              have Hncell := Lib.hid hncell
              have Hcs1 := Lib.hid hcs1
              have hbd1 : j + 1 ≤ maxLen := by show j + 1 ≤ 9223372036854775807; omega
              have hbd2 : (j + 1) * 24 ≤ 140737488355328 := by omega
              have hbd3 : w.heap.size ≤ (w6.alloc (.cells #[.int .i64 n1, .int .i64 n2, .int .i64 n3] 52)).heap.size := by have := hfB.size; simp; omega
              clear hsm hncell hcs1 hwr28
              go_wp2_with (at_builtin; go_must (refine wpList_append_own _ rfl _ _ 39 rfl w.heap.size 52 i0 _ 3 24 Tryz.underlying39 hi hz0 hz1 hz2 rfl (by decide) _ _ _ rfl (hfO.alloc _) ⟨w6.heap.size, 0, none⟩ 1 1 (MarkD.cells ⟨n1, n2, n3⟩) rfl rfl Hncell.out Hcs1.out hbd1 hbd2 hbd3 ?_); rintro v' w7 hown7 hg7 _)
              go_roundw
              case rel =>
                have hms := msR_succ Hsm.out
                refine ⟨j + 1, A + 28, by rw [HA.out]; omega, by omega, by omega, by simp, ?_, ?_, ?_, Below.grown (hfB.alloc hfB.size _) hg7 (by have := hfB.size; simp; omega) (fun k hk => own_base hfO k hk)⟩
                · intro k hk
                  rcases (by omega : k < j ∨ k = j) with h | rfl
                  · exact Hsome.out k h
                  · rw [Hsm.out]; rfl
                · rw [hms, List.length_append, Hmsl.out]; rfl
                · rw [hms, List.length_append, Hmsl.out, List.flatMap_append]; exact hown7
              case measure => simp [intOf] <;> omega
            · have hse := strB_ne heq
              have hse2 : ((strB kb).toList == (strB c).toList) = false := (Lib.bytes_beq_false_iff _ _).2 hse
              have Heq := Lib.hid heq
              clear heq hse
              go_wp2
              refine wp_region_noPanic ?_
              refine wp_region_held_drew (S := (fun w' => w'.cell? ⟨wr.heap.size, 1, none⟩ = some (.bool false) ∧ w'.cell? ⟨w3.heap.size, 0, none⟩ = some (.int .i64 n1) ∧ w'.cell? ⟨w3.heap.size, 1, none⟩ = some (.int .i64 n2) ∧ w'.cell? ⟨w3.heap.size, 2, none⟩ = some (.int .i64 n3) ∧ (convert 23 9 (.slice a2 28 cap2)).run Tryz.prog w' = .ok (.string (strB c)) w' ∧ MkRest w (.slice a L cap) bs (.slice a2 28 cap2) c (.slice ao j capo) (msR bs j) w')) (by kernel_rfl) (by first | with_reducible exact hS | with_reducible assumption | with_reducible exact MkS.go Hne (by assumption) (by assumption)) (fun hHeld => ?_)
              refine wpAnyH_take (i := 0) (oi := _) (v := ?_) (by simp only [List.getElem?_toArray, List.getElem?_cons_succ, List.getElem?_cons_zero]; rfl) (by kernel_rfl) (by kernel_rfl) (by kernel_rfl) (fun _ _ _ h => h) (Or.inl ⟨by rfl, ?_⟩) (by assumption) ?_
              rotate_left
              · intro w hSw; (try dsimp only at hSw); go_simp; (try with_reducible rfl)
              try simp only [Act.put, List.setIfInBounds_toArray, List.set_cons_zero, List.set_cons_succ]
              refine wpAnyH_take (i := 1) (oi := _) (v := ?_) (by simp only [List.getElem?_toArray, List.getElem?_cons_succ, List.getElem?_cons_zero]; rfl) (by kernel_rfl) (by kernel_rfl) (by kernel_rfl) (fun _ _ _ h => h) (Or.inl ⟨by rfl, ?_⟩) (by assumption) ?_
              rotate_left
              · intro w hSw; (try dsimp only at hSw); go_simp; (try with_reducible rfl)
              try simp only [Act.put, List.setIfInBounds_toArray, List.set_cons_zero, List.set_cons_succ]
              refine wpAnyH_take (i := 2) (oi := _) (v := ?_) (by simp only [List.getElem?_toArray, List.getElem?_cons_succ, List.getElem?_cons_zero]; rfl) (by kernel_rfl) (by kernel_rfl) (by kernel_rfl) (fun _ _ _ h => h) (Or.inl ⟨by rfl, ?_⟩) (by assumption) ?_
              rotate_left
              · intro w hSw; (try dsimp only at hSw); go_simp; (try with_reducible rfl)
              try simp only [Act.put, List.setIfInBounds_toArray, List.set_cons_zero, List.set_cons_succ]
              refine wpAnyH_take (i := 3) (oi := _) (v := ?_) (by simp only [List.getElem?_toArray, List.getElem?_cons_succ, List.getElem?_cons_zero]; rfl) (by kernel_rfl) (by kernel_rfl) (by kernel_rfl) (fun _ _ _ h => h) (Or.inl ⟨by rfl, ?_⟩) (by assumption) ?_
              rotate_left
              · intro w hSw; (try dsimp only at hSw); go_simp; (try with_reducible rfl)
              try simp only [Act.put, List.setIfInBounds_toArray, List.set_cons_zero, List.set_cons_succ]
              refine wpAnyH_take (i := 4) (oi := _) (v := ?_) (by simp only [List.getElem?_toArray, List.getElem?_cons_succ, List.getElem?_cons_zero]; rfl) (by kernel_rfl) (by kernel_rfl) (by kernel_rfl) (fun _ _ _ h => h) (Or.inl ⟨by rfl, ?_⟩) (by assumption) ?_
              rotate_left
              · intro w hSw; (try dsimp only at hSw); go_simp; (try with_reducible rfl)
              try simp only [Act.put, List.setIfInBounds_toArray, List.set_cons_zero, List.set_cons_succ]
              refine wpAnyH_take (i := 5) (oi := _) (v := ?_) (by simp only [List.getElem?_toArray, List.getElem?_cons_succ, List.getElem?_cons_zero]; rfl) (by kernel_rfl) (by kernel_rfl) (by kernel_rfl) (fun _ _ _ h => h) (Or.inl ⟨by rfl, ?_⟩) (by assumption) ?_
              rotate_left
              · intro w hSw; (try dsimp only at hSw); go_simp; (try with_reducible rfl)
              try simp only [Act.put, List.setIfInBounds_toArray, List.set_cons_zero, List.set_cons_succ]
              refine wpAnyH_ready (rs := [6]) (by kernel_rfl) (by simp) ?_
              refine AllReadyH.cons (o := _) (by simp only [List.getElem?_toArray, List.getElem?_cons_succ, List.getElem?_cons_zero]; rfl) (fun K hK => ?_) AllReadyH.nil
              go_simp
              (go_at_call 61; refine (Hmay.out _).mono ?_; rintro e w5 ⟨rfl, hb5⟩); go_wp2_with fail
              refine hK.out _ _ (by (try dsimp only); first | with_reducible exact hS | with_reducible assumption | with_reducible exact MkS.go Hne (by assumption) (by assumption)) (fun hHeld => ?_)
              clear hK K
              try simp only [Act.put, List.setIfInBounds_toArray, List.set_cons_zero, List.set_cons_succ]
              refine wpAnyH_take (i := 7) (oi := _) (v := ?_) (by simp only [List.getElem?_toArray, List.getElem?_cons_succ, List.getElem?_cons_zero]; rfl) (by kernel_rfl) (by kernel_rfl) (by kernel_rfl) (fun _ _ _ h => h) (Or.inl ⟨by rfl, ?_⟩) (by assumption) ?_
              rotate_left
              · intro w hSw; (try dsimp only at hSw); go_simp; (try with_reducible rfl)
              try simp only [Act.put, List.setIfInBounds_toArray, List.set_cons_zero, List.set_cons_succ]
              refine wpAnyH_take (i := 8) (oi := _) (v := ?_) (by simp only [List.getElem?_toArray, List.getElem?_cons_succ, List.getElem?_cons_zero]; rfl) (by kernel_rfl) (by kernel_rfl) (by kernel_rfl) (fun _ _ _ h => h) (Or.inl ⟨by rfl, ?_⟩) (by assumption) ?_
              rotate_left
              · intro w hSw; (try dsimp only at hSw); go_simp; (try with_reducible rfl)
              try simp only [Act.put, List.setIfInBounds_toArray, List.set_cons_zero, List.set_cons_succ]
              refine wpAnyH_take (i := 9) (oi := _) (v := ?_) (by simp only [List.getElem?_toArray, List.getElem?_cons_succ, List.getElem?_cons_zero]; rfl) (by kernel_rfl) (by kernel_rfl) (by kernel_rfl) (fun _ _ _ h => h) (Or.inl ⟨by rfl, ?_⟩) (by assumption) ?_
              rotate_left
              · intro w hSw; (try dsimp only at hSw); go_simp; (try with_reducible rfl)
              try simp only [Act.put, List.setIfInBounds_toArray, List.set_cons_zero, List.set_cons_succ]
              refine wpAnyH_take (i := 10) (oi := _) (v := ?_) (by simp only [List.getElem?_toArray, List.getElem?_cons_succ, List.getElem?_cons_zero]; rfl) (by kernel_rfl) (by kernel_rfl) (by kernel_rfl) (fun _ _ _ h => h) (Or.inl ⟨by rfl, ?_⟩) (by assumption) ?_
              rotate_left
              · intro w hSw; (try dsimp only at hSw); go_simp; (try with_reducible rfl)
              try simp only [Act.put, List.setIfInBounds_toArray, List.set_cons_zero, List.set_cons_succ]
              refine wpAnyH_take (i := 13) (oi := _) (v := ?_) (by simp only [List.getElem?_toArray, List.getElem?_cons_succ, List.getElem?_cons_zero]; rfl) (by kernel_rfl) (by kernel_rfl) (by kernel_rfl) (fun _ _ _ h => h) (Or.inl ⟨by rfl, ?_⟩) (by assumption) ?_
              rotate_left
              · intro w hSw; (try dsimp only at hSw); go_simp; (try with_reducible rfl)
              try simp only [Act.put, List.setIfInBounds_toArray, List.set_cons_zero, List.set_cons_succ]
              refine wpAnyH_take (i := 14) (oi := _) (v := ?_) (by simp only [List.getElem?_toArray, List.getElem?_cons_succ, List.getElem?_cons_zero]; rfl) (by kernel_rfl) (by kernel_rfl) (by kernel_rfl) (fun _ _ _ h => h) (Or.inl ⟨by rfl, ?_⟩) (by assumption) ?_
              rotate_left
              · intro w hSw; (try dsimp only at hSw); go_simp; (try with_reducible rfl)
              try simp only [Act.put, List.setIfInBounds_toArray, List.set_cons_zero, List.set_cons_succ]
              refine wpAnyH_take (i := 15) (oi := _) (v := ?_) (by simp only [List.getElem?_toArray, List.getElem?_cons_succ, List.getElem?_cons_zero]; rfl) (by kernel_rfl) (by kernel_rfl) (by kernel_rfl) (fun _ _ _ h => h) (Or.inl ⟨by rfl, ?_⟩) (by assumption) ?_
              rotate_left
              · intro w hSw; (try dsimp only at hSw); go_simp; (try with_reducible rfl)
              try simp only [Act.put, List.setIfInBounds_toArray, List.set_cons_zero, List.set_cons_succ]
              refine wpAnyH_take (i := 16) (oi := _) (v := ?_) (by simp only [List.getElem?_toArray, List.getElem?_cons_succ, List.getElem?_cons_zero]; rfl) (by kernel_rfl) (by kernel_rfl) (by kernel_rfl) (fun _ _ _ h => h) (Or.inl ⟨by rfl, ?_⟩) (by assumption) ?_
              rotate_left
              · intro w hSw; (try dsimp only at hSw); go_simp; (try with_reducible rfl)
              try simp only [Act.put, List.setIfInBounds_toArray, List.set_cons_zero, List.set_cons_succ]
              refine wpAnyH_take (i := 17) (oi := _) (v := ?_) (by simp only [List.getElem?_toArray, List.getElem?_cons_succ, List.getElem?_cons_zero]; rfl) (by kernel_rfl) (by kernel_rfl) (by kernel_rfl) (fun _ _ _ h => h) (Or.inl ⟨by rfl, ?_⟩) (by assumption) ?_
              rotate_left
              · intro w hSw; (try dsimp only at hSw); go_simp; (try with_reducible rfl)
              try simp only [Act.put, List.setIfInBounds_toArray, List.set_cons_zero, List.set_cons_succ]
              refine wpAnyH_take (i := 18) (oi := _) (v := ?_) (by simp only [List.getElem?_toArray, List.getElem?_cons_succ, List.getElem?_cons_zero]; rfl) (by kernel_rfl) (by kernel_rfl) (by kernel_rfl) (fun _ _ _ h => h) (Or.inl ⟨by rfl, ?_⟩) (by assumption) ?_
              rotate_left
              · intro w hSw; (try dsimp only at hSw); go_simp; (try with_reducible rfl)
              try simp only [Act.put, List.setIfInBounds_toArray, List.set_cons_zero, List.set_cons_succ]
              refine wpAnyH_ready (rs := [11]) (by kernel_rfl) (by simp) ?_
              refine AllReadyH.cons (o := _) (by simp only [List.getElem?_toArray, List.getElem?_cons_succ, List.getElem?_cons_zero]; rfl) (fun K hK => ?_) AllReadyH.nil
              go_simp
              (go_at_call 28; refine (Hmk.out _).mono ?_; rintro e w6 ⟨vk, rfl, hown6, hb6⟩; have hs6 := run_str (rdB_ofOwn hown6) Hkne.out); go_wp2_with fail
              refine hK.out _ _ (by (try dsimp only); first | with_reducible exact hS | with_reducible assumption | with_reducible exact MkS.go Hne (by assumption) (by assumption)) (fun hHeld => ?_)
              clear hK K
              try simp only [Act.put, List.setIfInBounds_toArray, List.set_cons_zero, List.set_cons_succ]
              refine wpAnyH_ready (rs := [12]) (by kernel_rfl) (by simp) ?_
              refine AllReadyH.cons (o := _) (by simp only [List.getElem?_toArray, List.getElem?_cons_succ, List.getElem?_cons_zero]; rfl) (fun K hK => ?_) AllReadyH.nil
              go_simp
              refine hK.out _ _ (by (try dsimp only); first | with_reducible exact hS | with_reducible assumption | with_reducible exact MkS.go Hne (by assumption) (by assumption)) (fun hHeld => ?_)
              clear hK K
              try simp only [Act.put, List.setIfInBounds_toArray, List.set_cons_zero, List.set_cons_succ]
              refine wpAnyH_take (i := 19) (oi := _) (v := ?_) (by simp only [List.getElem?_toArray, List.getElem?_cons_succ, List.getElem?_cons_zero]; rfl) (by kernel_rfl) (by kernel_rfl) (by kernel_rfl) (fun _ _ _ h => h) (Or.inl ⟨by rfl, ?_⟩) (by assumption) ?_
              rotate_left
              · intro w hSw; (try dsimp only at hSw); go_simp; (try with_reducible rfl)
              try simp only [Act.put, List.setIfInBounds_toArray, List.set_cons_zero, List.set_cons_succ]
              refine wpAnyH_take (i := 20) (oi := _) (v := ?_) (by simp only [List.getElem?_toArray, List.getElem?_cons_succ, List.getElem?_cons_zero]; rfl) (by kernel_rfl) (by kernel_rfl) (by kernel_rfl) (fun _ _ _ h => h) (Or.inl ⟨by rfl, ?_⟩) (by assumption) ?_
              rotate_left
              · intro w hSw; (try dsimp only at hSw); go_simp; (try with_reducible rfl)
              try simp only [Act.put, List.setIfInBounds_toArray, List.set_cons_zero, List.set_cons_succ]
              refine wpAnyH_done (by kernel_rfl) ?_ _
              refine NoPanic.normal ?_
              have hnone : chunkM bs j = none := by rw [Hchunk.out, Hparse.out]; simp [Heq.out]
              obtain ⟨hd1, hd2⟩ := Hstop.out (.inr hnone)
              have Hd1 := Lib.hid hd1
              have Hd2 := Lib.hid hd2
              have hfin := (by assumption : MkS w (.slice a L cap) bs (.slice a2 28 cap2) c (.slice ao j capo) (msR bs j) wr.heap.size w3.heap.size false n1 n2 n3 w6)
              obtain ⟨_, _, _, _, _, hfB, _, _, hfO⟩ := hfin
              rw [Hmsl.out] at hfO
              have HfB := Lib.hid hfB
              have HfO := Lib.hid hfO
              clear hd1 hd2 hnone hfB hfO
              go_wp2
              go_ret2
              refine ⟨_, by rw [Hd1.out, HA.out]; congr 4, by rw [Hd1.out, Hd2.out]; exact HfO.out, HfB.out⟩
        · go_wp2
          refine wp_region_noPanic ?_
          refine wp_region_held_drew (S := (fun w' => w'.cell? ⟨wr.heap.size, 1, none⟩ = some (.bool true) ∧ w'.cell? ⟨w3.heap.size, 0, none⟩ = some (.int .i64 n1) ∧ w'.cell? ⟨w3.heap.size, 1, none⟩ = some (.int .i64 n2) ∧ w'.cell? ⟨w3.heap.size, 2, none⟩ = some (.int .i64 n3) ∧ (convert 23 9 (.slice a2 28 cap2)).run Tryz.prog w' = .ok (.string (strB c)) w' ∧ MkRest w (.slice a L cap) bs (.slice a2 28 cap2) c (.slice ao j capo) (msR bs j) w')) (by kernel_rfl) (by first | with_reducible exact hS | with_reducible assumption | with_reducible exact MkS.go Hne (by assumption) (by assumption)) (fun hHeld => ?_)
          refine wpAnyH_take (i := 0) (oi := _) (v := ?_) (by simp only [List.getElem?_toArray, List.getElem?_cons_succ, List.getElem?_cons_zero]; rfl) (by kernel_rfl) (by kernel_rfl) (by kernel_rfl) (fun _ _ _ h => h) (Or.inl ⟨by rfl, ?_⟩) (by assumption) ?_
          rotate_left
          · intro w hSw; (try dsimp only at hSw); go_simp; (try with_reducible rfl)
          try simp only [Act.put, List.setIfInBounds_toArray, List.set_cons_zero, List.set_cons_succ]
          refine wpAnyH_take (i := 1) (oi := _) (v := ?_) (by simp only [List.getElem?_toArray, List.getElem?_cons_succ, List.getElem?_cons_zero]; rfl) (by kernel_rfl) (by kernel_rfl) (by kernel_rfl) (fun _ _ _ h => h) (Or.inl ⟨by rfl, ?_⟩) (by assumption) ?_
          rotate_left
          · intro w hSw; (try dsimp only at hSw); go_simp; (try with_reducible rfl)
          try simp only [Act.put, List.setIfInBounds_toArray, List.set_cons_zero, List.set_cons_succ]
          refine wpAnyH_take (i := 2) (oi := _) (v := ?_) (by simp only [List.getElem?_toArray, List.getElem?_cons_succ, List.getElem?_cons_zero]; rfl) (by kernel_rfl) (by kernel_rfl) (by kernel_rfl) (fun _ _ _ h => h) (Or.inl ⟨by rfl, ?_⟩) (by assumption) ?_
          rotate_left
          · intro w hSw; (try dsimp only at hSw); go_simp; (try with_reducible rfl)
          try simp only [Act.put, List.setIfInBounds_toArray, List.set_cons_zero, List.set_cons_succ]
          refine wpAnyH_take (i := 3) (oi := _) (v := ?_) (by simp only [List.getElem?_toArray, List.getElem?_cons_succ, List.getElem?_cons_zero]; rfl) (by kernel_rfl) (by kernel_rfl) (by kernel_rfl) (fun _ _ _ h => h) (Or.inl ⟨by rfl, ?_⟩) (by assumption) ?_
          rotate_left
          · intro w hSw; (try dsimp only at hSw); go_simp; (try with_reducible rfl)
          try simp only [Act.put, List.setIfInBounds_toArray, List.set_cons_zero, List.set_cons_succ]
          refine wpAnyH_take (i := 4) (oi := _) (v := ?_) (by simp only [List.getElem?_toArray, List.getElem?_cons_succ, List.getElem?_cons_zero]; rfl) (by kernel_rfl) (by kernel_rfl) (by kernel_rfl) (fun _ _ _ h => h) (Or.inl ⟨by rfl, ?_⟩) (by assumption) ?_
          rotate_left
          · intro w hSw; (try dsimp only at hSw); go_simp; (try with_reducible rfl)
          try simp only [Act.put, List.setIfInBounds_toArray, List.set_cons_zero, List.set_cons_succ]
          refine wpAnyH_take (i := 5) (oi := _) (v := undef) (by simp only [List.getElem?_toArray, List.getElem?_cons_succ, List.getElem?_cons_zero]; rfl) (by kernel_rfl) (by kernel_rfl) (by kernel_rfl) (fun _ _ _ h => h) (Or.inr ⟨by rfl, rfl⟩) (by assumption) ?_
          try simp only [Act.put, List.setIfInBounds_toArray, List.set_cons_zero, List.set_cons_succ]
          refine wpAnyH_take (i := 6) (oi := _) (v := undef) (by simp only [List.getElem?_toArray, List.getElem?_cons_succ, List.getElem?_cons_zero]; rfl) (by kernel_rfl) (by kernel_rfl) (by kernel_rfl) (fun _ _ _ h => h) (Or.inr ⟨by rfl, rfl⟩) (by assumption) ?_
          try simp only [Act.put, List.setIfInBounds_toArray, List.set_cons_zero, List.set_cons_succ]
          refine wpAnyH_take (i := 7) (oi := _) (v := undef) (by simp only [List.getElem?_toArray, List.getElem?_cons_succ, List.getElem?_cons_zero]; rfl) (by kernel_rfl) (by kernel_rfl) (by kernel_rfl) (fun _ _ _ h => h) (Or.inr ⟨by rfl, rfl⟩) (by assumption) ?_
          try simp only [Act.put, List.setIfInBounds_toArray, List.set_cons_zero, List.set_cons_succ]
          refine wpAnyH_take (i := 8) (oi := _) (v := ?_) (by simp only [List.getElem?_toArray, List.getElem?_cons_succ, List.getElem?_cons_zero]; rfl) (by kernel_rfl) (by kernel_rfl) (by kernel_rfl) (fun _ _ _ h => h) (Or.inl ⟨by rfl, ?_⟩) (by assumption) ?_
          rotate_left
          · intro w hSw; (try dsimp only at hSw); go_simp; (try with_reducible rfl)
          try simp only [Act.put, List.setIfInBounds_toArray, List.set_cons_zero, List.set_cons_succ]
          refine wpAnyH_take (i := 9) (oi := _) (v := ?_) (by simp only [List.getElem?_toArray, List.getElem?_cons_succ, List.getElem?_cons_zero]; rfl) (by kernel_rfl) (by kernel_rfl) (by kernel_rfl) (fun _ _ _ h => h) (Or.inl ⟨by rfl, ?_⟩) (by assumption) ?_
          rotate_left
          · intro w hSw; (try dsimp only at hSw); go_simp; (try with_reducible rfl)
          try simp only [Act.put, List.setIfInBounds_toArray, List.set_cons_zero, List.set_cons_succ]
          refine wpAnyH_take (i := 10) (oi := _) (v := undef) (by simp only [List.getElem?_toArray, List.getElem?_cons_succ, List.getElem?_cons_zero]; rfl) (by kernel_rfl) (by kernel_rfl) (by kernel_rfl) (fun _ _ _ h => h) (Or.inr ⟨by rfl, rfl⟩) (by assumption) ?_
          try simp only [Act.put, List.setIfInBounds_toArray, List.set_cons_zero, List.set_cons_succ]
          refine wpAnyH_take (i := 11) (oi := _) (v := undef) (by simp only [List.getElem?_toArray, List.getElem?_cons_succ, List.getElem?_cons_zero]; rfl) (by kernel_rfl) (by kernel_rfl) (by kernel_rfl) (fun _ _ _ h => h) (Or.inr ⟨by rfl, rfl⟩) (by assumption) ?_
          try simp only [Act.put, List.setIfInBounds_toArray, List.set_cons_zero, List.set_cons_succ]
          refine wpAnyH_take (i := 12) (oi := _) (v := undef) (by simp only [List.getElem?_toArray, List.getElem?_cons_succ, List.getElem?_cons_zero]; rfl) (by kernel_rfl) (by kernel_rfl) (by kernel_rfl) (fun _ _ _ h => h) (Or.inr ⟨by rfl, rfl⟩) (by assumption) ?_
          try simp only [Act.put, List.setIfInBounds_toArray, List.set_cons_zero, List.set_cons_succ]
          refine wpAnyH_take (i := 13) (oi := _) (v := undef) (by simp only [List.getElem?_toArray, List.getElem?_cons_succ, List.getElem?_cons_zero]; rfl) (by kernel_rfl) (by kernel_rfl) (by kernel_rfl) (fun _ _ _ h => h) (Or.inr ⟨by rfl, rfl⟩) (by assumption) ?_
          try simp only [Act.put, List.setIfInBounds_toArray, List.set_cons_zero, List.set_cons_succ]
          refine wpAnyH_take (i := 14) (oi := _) (v := undef) (by simp only [List.getElem?_toArray, List.getElem?_cons_succ, List.getElem?_cons_zero]; rfl) (by kernel_rfl) (by kernel_rfl) (by kernel_rfl) (fun _ _ _ h => h) (Or.inr ⟨by rfl, rfl⟩) (by assumption) ?_
          try simp only [Act.put, List.setIfInBounds_toArray, List.set_cons_zero, List.set_cons_succ]
          refine wpAnyH_take (i := 15) (oi := _) (v := undef) (by simp only [List.getElem?_toArray, List.getElem?_cons_succ, List.getElem?_cons_zero]; rfl) (by kernel_rfl) (by kernel_rfl) (by kernel_rfl) (fun _ _ _ h => h) (Or.inr ⟨by rfl, rfl⟩) (by assumption) ?_
          try simp only [Act.put, List.setIfInBounds_toArray, List.set_cons_zero, List.set_cons_succ]
          refine wpAnyH_take (i := 16) (oi := _) (v := undef) (by simp only [List.getElem?_toArray, List.getElem?_cons_succ, List.getElem?_cons_zero]; rfl) (by kernel_rfl) (by kernel_rfl) (by kernel_rfl) (fun _ _ _ h => h) (Or.inr ⟨by rfl, rfl⟩) (by assumption) ?_
          try simp only [Act.put, List.setIfInBounds_toArray, List.set_cons_zero, List.set_cons_succ]
          refine wpAnyH_take (i := 17) (oi := _) (v := undef) (by simp only [List.getElem?_toArray, List.getElem?_cons_succ, List.getElem?_cons_zero]; rfl) (by kernel_rfl) (by kernel_rfl) (by kernel_rfl) (fun _ _ _ h => h) (Or.inr ⟨by rfl, rfl⟩) (by assumption) ?_
          try simp only [Act.put, List.setIfInBounds_toArray, List.set_cons_zero, List.set_cons_succ]
          refine wpAnyH_take (i := 18) (oi := _) (v := undef) (by simp only [List.getElem?_toArray, List.getElem?_cons_succ, List.getElem?_cons_zero]; rfl) (by kernel_rfl) (by kernel_rfl) (by kernel_rfl) (fun _ _ _ h => h) (Or.inr ⟨by rfl, rfl⟩) (by assumption) ?_
          try simp only [Act.put, List.setIfInBounds_toArray, List.set_cons_zero, List.set_cons_succ]
          refine wpAnyH_take (i := 19) (oi := _) (v := undef) (by simp only [List.getElem?_toArray, List.getElem?_cons_succ, List.getElem?_cons_zero]; rfl) (by kernel_rfl) (by kernel_rfl) (by kernel_rfl) (fun _ _ _ h => h) (Or.inr ⟨by rfl, rfl⟩) (by assumption) ?_
          try simp only [Act.put, List.setIfInBounds_toArray, List.set_cons_zero, List.set_cons_succ]
          refine wpAnyH_take (i := 20) (oi := _) (v := ?_) (by simp only [List.getElem?_toArray, List.getElem?_cons_succ, List.getElem?_cons_zero]; rfl) (by kernel_rfl) (by kernel_rfl) (by kernel_rfl) (fun _ _ _ h => h) (Or.inl ⟨by rfl, ?_⟩) (by assumption) ?_
          rotate_left
          · intro w hSw; (try dsimp only at hSw); go_simp; (try with_reducible rfl)
          try simp only [Act.put, List.setIfInBounds_toArray, List.set_cons_zero, List.set_cons_succ]
          refine wpAnyH_done (by kernel_rfl) ?_ _
          refine NoPanic.normal ?_
          have hnone : chunkM bs j = none := by rw [Hchunk.out, Hparse.out]; simp
          obtain ⟨hd1, hd2⟩ := Hstop.out (.inr hnone)
          have Hd1 := Lib.hid hd1
          have Hd2 := Lib.hid hd2
          have hfin := (by assumption : MkS w (.slice a L cap) bs (.slice a2 28 cap2) c (.slice ao j capo) (msR bs j) wr.heap.size w3.heap.size true n1 n2 n3 (w3.alloc (.cells #[.int .i64 n1, .int .i64 n2, .int .i64 n3] 52)).drew)
          obtain ⟨_, _, _, _, _, hfB, _, _, hfO⟩ := hfin
          rw [Hmsl.out] at hfO
          have HfB := Lib.hid hfB
          have HfO := Lib.hid hfO
          clear hd1 hd2 hnone hfB hfO
          go_wp2
          go_ret2
          refine ⟨_, by rw [Hd1.out, HA.out]; congr 4, by rw [Hd1.out, Hd2.out]; exact HfO.out, HfB.out⟩
      · have hje : j = 4096 := by omega
        obtain ⟨hd1, hd2⟩ := hstop (.inl hje)
        rw [hmsl] at hown hvo
        have Hd1 := Lib.hid hd1
        have Hd2 := Lib.hid hd2
        have HA := Lib.hid hA
        subst hvo
        clear hstop hsome hmsl hd1 hd2 hA
        go_wp2
        go_ret2
        refine ⟨_, by rw [Hd1.out, HA.out]; congr 4, by rw [Hd1.out, Hd2.out]; exact hown, hbw⟩
    · have hnone : chunkM bs j = none := by
        unfold chunkM
        rw [if_pos]
        unfold chunkAt
        rw [List.length_take, List.length_drop, HL.out]; omega
      obtain ⟨hd1, hd2⟩ := hstop (.inr hnone)
      rw [hmsl] at hown
      have Hd1 := Lib.hid hd1
      have Hd2 := Lib.hid hd2
      have HA := Lib.hid hA
      clear hstop hsome hmsl hd1 hd2 hA hnone hvo
      go_wp2
      go_ret2
      refine ⟨_, by rw [Hd1.out, HA.out]; congr 4, by rw [Hd1.out, Hd2.out]; exact hown, hbw⟩
end Go.Proofs.YtjddicoigbidlaaGreatDoor
