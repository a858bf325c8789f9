/-
  The walk of fs: Append (printed by gen_fsapp.py).
-/
import Derived.Test.YtffnbkmigapmjaaGreatDoorT14
set_option linter.unusedSimpArgs false
set_option linter.unusedVariables false
set_option maxRecDepth 100000
namespace Go.Proofs.YtffnbkmigapmjaaGreatDoor
open Go.RowKit Go.Maps
/-- append of whatever slice to an own row; and where the new row lies. -/
theorem wpList_append_any_at {α : Type} {s : Nat} {f : α → List Value} (hf : ∀ x, (f x).length = s) (hs0 : 0 < s) {P : Program} {w : World} {ops : Array Oper} {rest : List Oper} {o : Oper} {a : Act} {Q : Exit → Act → World → Prop} (hgd : o.guard = none) (s1 x : Operand) (t : TypeId)
    (ho : o.op = .call { callee := .builtin .append, args := #[s1, x], argTypes := #[t, t] })
    (base : Nat) (e : TypeId) (i : TypeInfo) (z : Value) (bytes : Nat) (ht : P.underlying t = some (.slice e)) (hi : P.info? e = some i) (hz : i.zero = some z)
    (hsize : i.size = s) (hby : i.bytes = bytes) (hzs : z.cells.size = s)
    (v : Value) (n : Nat) (xs : List Value) (hs : a.eval s1 = v) (hown : w.ownsRow base e s v n xs)
    (u : Value) (ys : List α) (hx : a.eval x = u) (hr : RdL s f w u ys) (hn : NilOk u) (h1 : ∀ c ∈ ys.flatMap f, c.oneCell' = true)
    (h63 : n + ys.length ≤ maxLen) (hbytes : (n + ys.length) * bytes ≤ 140737488355328) (hbase : base ≤ w.heap.size)
    (h : ∀ v' w', w'.ownsRow base e s v' (n + ys.length) (xs ++ ys.flatMap f) → w.grownBy w' v.ownBlock → (v'.ownBlock = v.ownBlock ∨ v'.ownBlock = some w.heap.size) → wpList P ops Q rest (a.put o.dst v') w') : wpList P ops Q (o :: rest) a w := by
  obtain ⟨ad, cap, rfl, _, _⟩ := hr.form
  cases ad with
  | none =>
    obtain ⟨hl, hc⟩ := hn _ _ rfl
    have hy : ys = [] := List.length_eq_zero_iff.1 hl
    subst hy
    subst hc
    refine wpList_append_own_none hgd s1 x t ho base e i s ht hi v n xs hs hown hx (h v w (by simpa using hown) (World.grownBy.refl _ _) (.inl rfl))
  | some ad =>
    refine wpList_append_own_at w hgd s1 x t ho base e i z s bytes ht hi hz hsize hby hzs hs0 v n xs hs hown ad ys.length cap (ys.flatMap f) hx (flat_len hf ys) ?_ h1 h63 hbytes hbase (fun v' w' h2 h3 _ h4 => h v' w' h2 h3 h4)
    by_cases hy : ys = []
    · subst hy; intro j u hu; cases hu
    · obtain ⟨b, off, e⟩ := addr_some hr hy
      cases e
      exact hr.news hf hs0
def appendD (d : FsD) (n : Nm) (bs : List UInt8) (row : Value) : Int × FsD :=
  if (foundD d n []).2 = 0 then (if d.room - (usedD d : Int) < (bs.length : Int) then (3, d) else if (powerD d).1 = 0 then (0, (powerD d).2.upd n (fun c => ⟨c.bytes ++ bs, c.sure, row⟩)) else powerD d) else ((foundD d n []).2, d)
theorem len_le_used {d : FsD} {p : Nm × Nat} : ∀ {l : Dir}, p ∈ l → lenOf d p.2 ≤ (l.map (fun p => lenOf d p.2)).sum
  | q :: r, h => by
    rw [List.map_cons, List.sum_cons]
    rcases List.mem_cons.1 h with rfl | h
    · omega
    · have := len_le_used (d := d) h; omega
set_option maxHeartbeats 16000000 in
theorem append_calls (f : Nat) (d : FsD) (ρ : Rho) (n : Nm) (v : Value) (bs : List UInt8) (w : World) (h : FsAt w f d ρ) (hs : n.length ≤ maxLen) (hfu : -1 ≤ d.fuse ∧ d.fuse ≤ 9223372036854775807) (hl : d.now.length ≤ 256) (hroom : 0 ≤ d.room ∧ d.room ≤ 16777216) (hv : RdB w v bs) (hnv : NilOk v) (hfree : ∀ k, v.ownBlock = some k → ρ k = none) :
    Calls Tryz.prog 16 #[.pointer (some ⟨f, 0, none⟩), .string (strL n), v] w fun e w' => ∃ row ρ', e = .returned (.int .i64 (appendD d n bs row).1) ∧ FsAt w' f (appendD d n bs row).2 ρ' ∧ FsStep w ρ w' ρ' := by
  obtain ⟨i0, hi, hz0, hz1, hz2⟩ := info_parts infoU8
  obtain ⟨aB, cB, rfl, hlB, hcB⟩ := hv.form
  have hbi : (bs.length : Int) ≤ 9223372036854775807 := by omega
  obtain ⟨W2, hW2⟩ : ∃ W2, w.alloc (.cells #[.string (strL n)] 9) = W2 := ⟨_, rfl⟩
  have hb2 : Below w.heap.size w W2 := by rw [← hW2]; exact (Below.refl _ _).alloc (Nat.le_refl _) _
  have hnh3 : W2.heap[w.heap.size]? = some (.cells #[.string (strL n)] 9 (0, 0)) := by rw [← hW2]; exact heap_new_at _ rfl
  have h1 := found_calls f d ρ (.slice (some ⟨w.heap.size, 0, none⟩) 1 1) n [] W2 (h.below hb2) (rdS_one hnh3) (fun k hk => by rw [List.mem_singleton.1 hk]; exact hs)
  obtain ⟨e, he⟩ : ∃ e, (foundD d n []).2 = e := ⟨_, rfl⟩
  have Hd : Hid (∀ row, appendD d n bs row = if e = 0 then (if d.room - (usedD d : Int) < (bs.length : Int) then (3, d) else if (powerD d).1 = 0 then (0, (powerD d).2.upd n (fun c => ⟨c.bytes ++ bs, c.sure, row⟩)) else powerD d) else (e, d)) := fun row => by unfold appendD; rw [he]
  have H := Lib.hid h
  have Hb2 := Lib.hid hb2
  have Hv := Lib.hid hv
  have Hnv := Lib.hid hnv
  have Hfree := Lib.hid hfree
  clear hv hnv hfree
  by_cases h0 : e = 0
  · have hok := found_ok (he.trans h0)
    obtain ⟨x, hx⟩ := Option.isSome_iff_exists.1 hok.2.2.2
    rw [he, hok.2.2.1, hx] at h1
    have h1 : Calls Tryz.prog 53 #[.pointer (some ⟨f, 0, none⟩), .slice (some ⟨w.heap.size, 0, none⟩) 1 1] W2 fun e_1 w' => e_1 = .returned (.tuple #[.pointer (some ⟨x, 0, none⟩), .int .i64 e]) ∧ Below W2.heap.size W2 w' := h1
    obtain ⟨c, hc, hfc⟩ := h.rest.fileOf hx
    have hcu : c.bytes.length ≤ usedD d := by have := len_le_used (d := d) (look_mem hx); unfold lenOf at this; simp only [hc] at this; unfold usedD lenOf; exact this
    subst h0
    have Hp : Hid (∀ w', Below w.heap.size w w' → Calls Tryz.prog 54 #[.pointer (some ⟨f, 0, none⟩)] w' fun e w'' => e = .returned (.int .i64 (powerD d).1) ∧ FsAt w'' f (powerD d).2 ρ ∧ Keeps (fun k => k = f) w' w'') := fun w' hb => power_calls f d ρ w' (h.below hb) hfu
    have hnow : (powerD d).2.now = d.now := by unfold powerD; split <;> rfl
    have hfile : (powerD d).2.file = d.file := by unfold powerD; split <;> rfl
    have hupd : ∀ g, (powerD d).2.upd n g = (powerD d).2.setFile x (g c) := fun g => by unfold FsD.upd; rw [hnow, hx]; show (match (powerD d).2.file x with | some c => _ | none => _) = _; rw [hfile, hc]
    have hus := (used_calls f d ρ · · hl)
    have Hu : Hid (∀ w', Below w.heap.size w w' → Calls Tryz.prog 35 #[.pointer (some ⟨f, 0, none⟩)] w' fun e w'' => e = .returned (.int .i64 (usedD d)) ∧ Below w'.heap.size w' w'') := fun w' hb => used_calls f d ρ w' (h.below hb) hl
    have hub : usedD d ≤ 4294967296 := by
      have h3 := sumL_le (left := fun _ => true) (d := d) (B := 16777216) (fun x c hc => (h.rest.files x c hc).small) d.now
      rw [sumL_all (fun _ _ => rfl)] at h3
      have h2 : d.now.length * 16777216 ≤ 256 * 16777216 := Nat.mul_le_mul_right _ hl
      unfold usedD; omega
    obtain ⟨pe, hpe⟩ : ∃ pe, (powerD d).1 = pe := ⟨_, rfl⟩
    obtain ⟨d1, hd1⟩ : ∃ d1, (powerD d).2 = d1 := ⟨_, rfl⟩
    obtain ⟨U, hU⟩ : ∃ U, usedD d = U := ⟨_, rfl⟩
    obtain ⟨room, hroo⟩ : ∃ room, d.room = room := ⟨_, rfl⟩
    have hpd : powerD d = (pe, d1) := Prod.ext hpe hd1
    rw [hpe, hd1] at Hp
    rw [hd1] at hupd hfile
    rw [hU] at Hu hcu hub
    rw [hroo] at hroom
    rw [← hfile] at hc
    have Hd3 : Hid (∀ row, appendD d n bs row = if room - (U : Int) < (bs.length : Int) then (3, d) else if pe = 0 then (0, d1.setFile x ⟨c.bytes ++ bs, c.sure, row⟩) else (pe, d1)) := fun row => by have := Hd.out row; rw [this, if_pos rfl, hpe, hd1, hupd, hpd, hU, hroo]
    have H1 := Lib.hid h1
    have Hc := Lib.hid hc
    have Hroo := Lib.hid hroo
    have hui : (0 : Int) ≤ (U : Int) := by omega
    have hui2 : (U : Int) ≤ 4294967296 := by omega
    have hr0 : 0 ≤ room := hroom.1
    have hr1 : room ≤ 16777216 := hroom.2
    clear h1 he hok hx hc h Hd hnow hfile hupd hpe hd1 hpd hnh3 hb2 hs hU hroo hus hroom hfc
    subst hW2
    have Hs : Hid (∀ W, Below w.heap.size w W → (fun w' => w'.cell? ⟨f, 3, none⟩ = some (.int .i64 room) ∧ Hid (Below w.heap.size w w')) W) := fun W hb => by
      obtain ⟨⟨_, _, _, c3, _, _⟩, _⟩ := fsHd_cells (H.out.below hb).hd
      rw [Hroo.out] at c3
      exact ⟨c3, Lib.hid hb⟩
    by_cases hfit : room - (U : Int) < (bs.length : Int)
    · have Hd4 : Hid (∀ row, appendD d n bs row = (3, d)) := fun row => by have := Hd3.out row; rw [this, if_pos hfit]
      go_enter Tryz.func16, Tryz.ntmps16
      go_wp2_with fail
      refine (H1.out).mono ?_; rintro e w1 ⟨rfl, hb1⟩
      have hbw1 := Hb2.out.trans (hb1.mono Hb2.out.size)
      have hbd : Below w.heap.size w w1.drew := hbw1.drew
      have HS := Lib.hid (Hs.out _ hbd)
      have hwr : IntKind.i64.wrap (room - (U : Int)) = room - (U : Int) := IntWalk.i64_in _ (by omega)
      clear hb1 hbw1
      go_upto_region 4 with fail
      refine wp_region_noPanic ?_
      refine wp_region_held_drew (S := (fun w' => w'.cell? ⟨f, 3, none⟩ = some (.int .i64 room) ∧ Hid (Below w.heap.size w w'))) (by kernel_rfl) (by first | with_reducible exact HS.out | exact Hs.out _ (by with_reducible assumption)) (fun hHeld => ?_)
      refine wpAnyH_take (i := 0) (oi := _) (v := ?_) (by simp only [List.getElem?_toArray, List.getElem?_cons_succ, List.getElem?_cons_zero]; rfl) (by kernel_rfl) (by kernel_rfl) (by kernel_rfl) (fun _ _ _ h => h) (Or.inl ⟨by rfl, ?_⟩) (by assumption) ?_
      rotate_left
      · intro w hSw; (try dsimp only at hSw); go_simp; (try with_reducible rfl)
      try simp only [Act.put, List.setIfInBounds_toArray, List.set_cons_zero, List.set_cons_succ]
      refine wpAnyH_take (i := 1) (oi := _) (v := ?_) (by simp only [List.getElem?_toArray, List.getElem?_cons_succ, List.getElem?_cons_zero]; rfl) (by kernel_rfl) (by kernel_rfl) (by kernel_rfl) (fun _ _ _ h => h) (Or.inl ⟨by rfl, ?_⟩) (by assumption) ?_
      rotate_left
      · intro w hSw; (try dsimp only at hSw); go_simp; (try with_reducible rfl)
      try simp only [Act.put, List.setIfInBounds_toArray, List.set_cons_zero, List.set_cons_succ]
      refine wpAnyH_take (i := 2) (oi := _) (v := ?_) (by simp only [List.getElem?_toArray, List.getElem?_cons_succ, List.getElem?_cons_zero]; rfl) (by kernel_rfl) (by kernel_rfl) (by kernel_rfl) (fun _ _ _ h => h) (Or.inl ⟨by rfl, ?_⟩) (by assumption) ?_
      rotate_left
      · intro w hSw; (try dsimp only at hSw); go_simp; (try with_reducible rfl)
      try simp only [Act.put, List.setIfInBounds_toArray, List.set_cons_zero, List.set_cons_succ]
      refine wpAnyH_take (i := 3) (oi := _) (v := ?_) (by simp only [List.getElem?_toArray, List.getElem?_cons_succ, List.getElem?_cons_zero]; rfl) (by kernel_rfl) (by kernel_rfl) (by kernel_rfl) (fun _ _ _ h => h) (Or.inl ⟨by rfl, ?_⟩) (by assumption) ?_
      rotate_left
      · intro w hSw; (try dsimp only at hSw); go_simp; (try with_reducible rfl)
      try simp only [Act.put, List.setIfInBounds_toArray, List.set_cons_zero, List.set_cons_succ]
      refine wpAnyH_take (i := 4) (oi := _) (v := ?_) (by simp only [List.getElem?_toArray, List.getElem?_cons_succ, List.getElem?_cons_zero]; rfl) (by kernel_rfl) (by kernel_rfl) (by kernel_rfl) (fun _ _ _ h => h) (Or.inl ⟨by rfl, ?_⟩) (by assumption) ?_
      rotate_left
      · intro w hSw; (try dsimp only at hSw); go_simp; (try with_reducible rfl)
      try simp only [Act.put, List.setIfInBounds_toArray, List.set_cons_zero, List.set_cons_succ]
      refine wpAnyH_take (i := 5) (oi := _) (v := ?_) (by simp only [List.getElem?_toArray, List.getElem?_cons_succ, List.getElem?_cons_zero]; rfl) (by kernel_rfl) (by kernel_rfl) (by kernel_rfl) (fun _ _ _ h => h) (Or.inl ⟨by rfl, ?_⟩) (by assumption) ?_
      rotate_left
      · intro w hSw; (try dsimp only at hSw); go_simp; (try with_reducible rfl)
      try simp only [Act.put, List.setIfInBounds_toArray, List.set_cons_zero, List.set_cons_succ]
      refine wpAnyH_take (i := 6) (oi := _) (v := ?_) (by simp only [List.getElem?_toArray, List.getElem?_cons_succ, List.getElem?_cons_zero]; rfl) (by kernel_rfl) (by kernel_rfl) (by kernel_rfl) (fun _ _ _ h => h) (Or.inl ⟨by rfl, ?_⟩) (by assumption) ?_
      rotate_left
      · intro w hSw; (try dsimp only at hSw); go_simp; (try with_reducible rfl)
      try simp only [Act.put, List.setIfInBounds_toArray, List.set_cons_zero, List.set_cons_succ]
      refine wpAnyH_ready (rs := [7]) (by kernel_rfl) (by simp) ?_
      refine AllReadyH.cons (o := _) (by simp only [List.getElem?_toArray, List.getElem?_cons_succ, List.getElem?_cons_zero]; rfl) (fun K hK => ?_) AllReadyH.nil
      go_simp
      go_at_call 35; refine (Hu.out _ hbd).mono ?_; rintro e wu ⟨rfl, hbu⟩; have hbU := hbd.trans (hbu.mono hbd.size)
      refine hK.out _ _ (by (try dsimp only); first | with_reducible exact HS.out | exact Hs.out _ (by with_reducible assumption)) (fun hHeld => ?_)
      clear hK K
      try simp only [Act.put, List.setIfInBounds_toArray, List.set_cons_zero, List.set_cons_succ]
      refine wpAnyH_take (i := 8) (oi := _) (v := ?_) (by simp only [List.getElem?_toArray, List.getElem?_cons_succ, List.getElem?_cons_zero]; rfl) (by kernel_rfl) (by kernel_rfl) (by kernel_rfl) (fun _ _ _ h => h) (Or.inl ⟨by rfl, ?_⟩) (by assumption) ?_
      rotate_left
      · intro w hSw; (try dsimp only at hSw); go_simp; (try with_reducible rfl)
      try simp only [Act.put, List.setIfInBounds_toArray, List.set_cons_zero, List.set_cons_succ]
      refine wpAnyH_take (i := 9) (oi := _) (v := ?_) (by simp only [List.getElem?_toArray, List.getElem?_cons_succ, List.getElem?_cons_zero]; rfl) (by kernel_rfl) (by kernel_rfl) (by kernel_rfl) (fun _ _ _ h => h) (Or.inl ⟨by rfl, ?_⟩) (by assumption) ?_
      rotate_left
      · intro w hSw; (try dsimp only at hSw); go_simp; (try with_reducible rfl)
      try simp only [Act.put, List.setIfInBounds_toArray, List.set_cons_zero, List.set_cons_succ]
      refine wpAnyH_take (i := 10) (oi := _) (v := ?_) (by simp only [List.getElem?_toArray, List.getElem?_cons_succ, List.getElem?_cons_zero]; rfl) (by kernel_rfl) (by kernel_rfl) (by kernel_rfl) (fun _ _ _ h => h) (Or.inl ⟨by rfl, ?_⟩) (by assumption) ?_
      rotate_left
      · intro w hSw; (try dsimp only at hSw); go_simp; (try with_reducible rfl)
      try simp only [Act.put, List.setIfInBounds_toArray, List.set_cons_zero, List.set_cons_succ]
      refine wpAnyH_done (by kernel_rfl) ?_ _
      refine NoPanic.normal ?_
      clear HS Hs
      go_wp2
      go_ret
      refine ⟨d.lv, ρ, ?_⟩
      rw [Hd4.out]
      exact ⟨rfl, H.out.below hbU, FsStep.below hbU⟩
    · have hfit2 : ¬ (room - (U : Int) < (bs.length : Int)) := hfit
      have Hd4 : Hid (∀ row, appendD d n bs row = if pe = 0 then (0, d1.setFile x ⟨c.bytes ++ bs, c.sure, row⟩) else (pe, d1)) := fun row => by have := Hd3.out row; rw [this, if_neg hfit]
      by_cases hp0 : pe = 0
      · subst hp0
        have Hd5 : Hid (∀ row, appendD d n bs row = (0, d1.setFile x ⟨c.bytes ++ bs, c.sure, row⟩)) := fun row => by have := Hd4.out row; rw [this, if_pos rfl]
        have hcb : c.bytes.length + bs.length ≤ 16777216 := by omega
        have hm1 : c.bytes.length + bs.length ≤ maxLen := by unfold maxLen; omega
        have hm2 : (c.bytes.length + bs.length) * 1 ≤ 140737488355328 := by omega
        have Hone := Lib.hid (bb1_one bs)
        go_enter Tryz.func16, Tryz.ntmps16
        go_wp2_with fail
        refine (H1.out).mono ?_; rintro e w1 ⟨rfl, hb1⟩
        have hbw1 := Hb2.out.trans (hb1.mono Hb2.out.size)
        have hbd : Below w.heap.size w w1.drew := hbw1.drew
        have HS := Lib.hid (Hs.out _ hbd)
        have hwr : IntKind.i64.wrap (room - (U : Int)) = room - (U : Int) := IntWalk.i64_in _ (by omega)
        clear hb1 hbw1
        go_upto_region 4 with fail
        refine wp_region_noPanic ?_
        refine wp_region_held_drew (S := (fun w' => w'.cell? ⟨f, 3, none⟩ = some (.int .i64 room) ∧ Hid (Below w.heap.size w w'))) (by kernel_rfl) (by first | with_reducible exact HS.out | exact Hs.out _ (by with_reducible assumption)) (fun hHeld => ?_)
        refine wpAnyH_take (i := 0) (oi := _) (v := ?_) (by simp only [List.getElem?_toArray, List.getElem?_cons_succ, List.getElem?_cons_zero]; rfl) (by kernel_rfl) (by kernel_rfl) (by kernel_rfl) (fun _ _ _ h => h) (Or.inl ⟨by rfl, ?_⟩) (by assumption) ?_
        rotate_left
        · intro w hSw; (try dsimp only at hSw); go_simp; (try with_reducible rfl)
        try simp only [Act.put, List.setIfInBounds_toArray, List.set_cons_zero, List.set_cons_succ]
        refine wpAnyH_take (i := 1) (oi := _) (v := ?_) (by simp only [List.getElem?_toArray, List.getElem?_cons_succ, List.getElem?_cons_zero]; rfl) (by kernel_rfl) (by kernel_rfl) (by kernel_rfl) (fun _ _ _ h => h) (Or.inl ⟨by rfl, ?_⟩) (by assumption) ?_
        rotate_left
        · intro w hSw; (try dsimp only at hSw); go_simp; (try with_reducible rfl)
        try simp only [Act.put, List.setIfInBounds_toArray, List.set_cons_zero, List.set_cons_succ]
        refine wpAnyH_take (i := 2) (oi := _) (v := ?_) (by simp only [List.getElem?_toArray, List.getElem?_cons_succ, List.getElem?_cons_zero]; rfl) (by kernel_rfl) (by kernel_rfl) (by kernel_rfl) (fun _ _ _ h => h) (Or.inl ⟨by rfl, ?_⟩) (by assumption) ?_
        rotate_left
        · intro w hSw; (try dsimp only at hSw); go_simp; (try with_reducible rfl)
        try simp only [Act.put, List.setIfInBounds_toArray, List.set_cons_zero, List.set_cons_succ]
        refine wpAnyH_take (i := 3) (oi := _) (v := ?_) (by simp only [List.getElem?_toArray, List.getElem?_cons_succ, List.getElem?_cons_zero]; rfl) (by kernel_rfl) (by kernel_rfl) (by kernel_rfl) (fun _ _ _ h => h) (Or.inl ⟨by rfl, ?_⟩) (by assumption) ?_
        rotate_left
        · intro w hSw; (try dsimp only at hSw); go_simp; (try with_reducible rfl)
        try simp only [Act.put, List.setIfInBounds_toArray, List.set_cons_zero, List.set_cons_succ]
        refine wpAnyH_take (i := 4) (oi := _) (v := ?_) (by simp only [List.getElem?_toArray, List.getElem?_cons_succ, List.getElem?_cons_zero]; rfl) (by kernel_rfl) (by kernel_rfl) (by kernel_rfl) (fun _ _ _ h => h) (Or.inl ⟨by rfl, ?_⟩) (by assumption) ?_
        rotate_left
        · intro w hSw; (try dsimp only at hSw); go_simp; (try with_reducible rfl)
        try simp only [Act.put, List.setIfInBounds_toArray, List.set_cons_zero, List.set_cons_succ]
        refine wpAnyH_take (i := 5) (oi := _) (v := ?_) (by simp only [List.getElem?_toArray, List.getElem?_cons_succ, List.getElem?_cons_zero]; rfl) (by kernel_rfl) (by kernel_rfl) (by kernel_rfl) (fun _ _ _ h => h) (Or.inl ⟨by rfl, ?_⟩) (by assumption) ?_
        rotate_left
        · intro w hSw; (try dsimp only at hSw); go_simp; (try with_reducible rfl)
        try simp only [Act.put, List.setIfInBounds_toArray, List.set_cons_zero, List.set_cons_succ]
        refine wpAnyH_take (i := 6) (oi := _) (v := ?_) (by simp only [List.getElem?_toArray, List.getElem?_cons_succ, List.getElem?_cons_zero]; rfl) (by kernel_rfl) (by kernel_rfl) (by kernel_rfl) (fun _ _ _ h => h) (Or.inl ⟨by rfl, ?_⟩) (by assumption) ?_
        rotate_left
        · intro w hSw; (try dsimp only at hSw); go_simp; (try with_reducible rfl)
        try simp only [Act.put, List.setIfInBounds_toArray, List.set_cons_zero, List.set_cons_succ]
        refine wpAnyH_ready (rs := [7]) (by kernel_rfl) (by simp) ?_
        refine AllReadyH.cons (o := _) (by simp only [List.getElem?_toArray, List.getElem?_cons_succ, List.getElem?_cons_zero]; rfl) (fun K hK => ?_) AllReadyH.nil
        go_simp
        go_at_call 35; refine (Hu.out _ hbd).mono ?_; rintro e wu ⟨rfl, hbu⟩; have hbU := hbd.trans (hbu.mono hbd.size)
        refine hK.out _ _ (by (try dsimp only); first | with_reducible exact HS.out | exact Hs.out _ (by with_reducible assumption)) (fun hHeld => ?_)
        clear hK K
        try simp only [Act.put, List.setIfInBounds_toArray, List.set_cons_zero, List.set_cons_succ]
        refine wpAnyH_take (i := 8) (oi := _) (v := ?_) (by simp only [List.getElem?_toArray, List.getElem?_cons_succ, List.getElem?_cons_zero]; rfl) (by kernel_rfl) (by kernel_rfl) (by kernel_rfl) (fun _ _ _ h => h) (Or.inl ⟨by rfl, ?_⟩) (by assumption) ?_
        rotate_left
        · intro w hSw; (try dsimp only at hSw); go_simp; (try with_reducible rfl)
        try simp only [Act.put, List.setIfInBounds_toArray, List.set_cons_zero, List.set_cons_succ]
        refine wpAnyH_take (i := 9) (oi := _) (v := ?_) (by simp only [List.getElem?_toArray, List.getElem?_cons_succ, List.getElem?_cons_zero]; rfl) (by kernel_rfl) (by kernel_rfl) (by kernel_rfl) (fun _ _ _ h => h) (Or.inl ⟨by rfl, ?_⟩) (by assumption) ?_
        rotate_left
        · intro w hSw; (try dsimp only at hSw); go_simp; (try with_reducible rfl)
        try simp only [Act.put, List.setIfInBounds_toArray, List.set_cons_zero, List.set_cons_succ]
        refine wpAnyH_take (i := 10) (oi := _) (v := ?_) (by simp only [List.getElem?_toArray, List.getElem?_cons_succ, List.getElem?_cons_zero]; rfl) (by kernel_rfl) (by kernel_rfl) (by kernel_rfl) (fun _ _ _ h => h) (Or.inl ⟨by rfl, ?_⟩) (by assumption) ?_
        rotate_left
        · intro w hSw; (try dsimp only at hSw); go_simp; (try with_reducible rfl)
        try simp only [Act.put, List.setIfInBounds_toArray, List.set_cons_zero, List.set_cons_succ]
        refine wpAnyH_done (by kernel_rfl) ?_ _
        refine NoPanic.normal ?_
        clear HS Hs
        have hp := Hp.out wu hbU
        have Hp1 := Lib.hid hp
        have HbU := Lib.hid hbU
        clear hp hbU hbd hbu hwr
        go_wp2_with fail
        refine (Hp1.out).mono ?_; rintro e w2 ⟨rfl, hF2, hk2⟩
        have hfx := hF2.rest.files x c Hc.out
        obtain ⟨⟨x0, x1⟩, y0, y1⟩ := cells2 hfx.hd
        obtain ⟨aR, cR, hrow⟩ := own_form0 hfx.own
        rw [hrow] at x0
        have hown2 : w2.ownsRow 0 5 1 (.slice aR c.bytes.length cR) c.bytes.length (c.bytes.map u8v) := by rw [← hrow]; exact hfx.own
        have hst2 := (FsStep.below (ρ := ρ) HbU.out).trans (FsStep.one H.out.role hk2)
        have hvb : RdB w2 (.slice aB bs.length cB) bs := by
          exact Hv.out.keeps hst2.keeps (fun k e g => by have := Hfree.out k e; unfold Rho.has at g; rw [this] at g; cases g)
        have hsrc := rdLB hvb
        have hxr : ∀ k, c.row.ownBlock = some k → k ≠ x := fun k e => Rho.ne (hfx.rown k e) hfx.role (by intro q; cases q)
        have HF2 := Lib.hid hF2
        have Hfx := Lib.hid hfx
        have Hst2 := Lib.hid hst2
        have Hrow := Lib.hid hrow
        have Hxr := Lib.hid hxr
        have Hown2 := Lib.hid hown2
        have Hsrc := Lib.hid hsrc
        clear hF2 hfx hst2 hrow hxr hown2 hsrc hvb x1 y1
        go_wp2_with (at_builtin; go_loud (refine wpList_append_any_at bb1_len (by decide) rfl (.tmp 41) (.tmp 42) 22 rfl 0 5 i0 (.int .u8 0) 1 Tryz.underlying22 hi hz0 hz1 hz2 rfl _ _ _ rfl Hown2.out _ bs rfl Hsrc.out Hnv.out Hone.out hm1 hm2 (Nat.zero_le _) ?_; rintro v' w4 hown4 hg4 hloc4; have hh4 := (Keeps.grown hg4).heap Hfx.out.hd (fun e => Hxr.out x (by rw [Hrow.out]; exact e) rfl); have q2 := (cells2 hh4).1.1; have q3 := (cells2 hh4).2.1; have Hh4 := Lib.hid hh4; have Hown4 := Lib.hid hown4; have Hg4 := Lib.hid hg4; have Hloc4 := Lib.hid hloc4; obtain ⟨aN, cN, hvN⟩ := own_form0 hown4; subst hvN; clear hh4 hown4 hg4 hloc4 x0))
        go_ret
        obtain ⟨w5, hw5⟩ : ∃ w5, w4.setCell ⟨x, 0, none⟩ (.slice aN (c.bytes.length + bs.length) cN) = w5 := ⟨_, rfl⟩
        rw [hw5]
        obtain ⟨VL, hVL⟩ : ∃ VL, Value.slice aN (c.bytes.length + bs.length) cN = VL := ⟨_, rfl⟩
        have hkr : Keeps (fun k => k = x ∨ c.row.ownBlock = some k) w2 w5 := by
          have k2 : Keeps (fun k => k = x ∨ c.row.ownBlock = some k) w2 w4 := (Keeps.grown Hg4.out).mono (fun i _ e => .inr (by rw [Hrow.out]; exact e))
          have k3 := k2.go (Keeps.setCell (F := fun k => k = x) w4 ⟨x, 0, none⟩ (.slice aN (c.bytes.length + bs.length) cN) rfl) (fun i e => .inl (.inl e))
          rw [hw5] at k3; exact k3
        have hloc : VL.ownBlock = c.row.ownBlock ∨ ∃ k0, VL.ownBlock = some k0 ∧ w2.heap.size ≤ k0 := by
          rw [← hVL, Hrow.out]
          rcases Hloc4.out with h1 | h1
          · exact .inl h1
          · exact .inr ⟨_, h1, Nat.le_refl _⟩
        have hup := Rho.add_up (w := w2) HF2.out.rest.lt Hfx.out.rown hloc
        have hown5 : w5.ownsRow 0 5 1 VL (c.bytes ++ bs).length ((c.bytes ++ bs).map u8v) := by
          rw [← hw5, ← hVL, List.length_append, List.map_append, ← bb1_flat bs]
          refine own_keeps Hown4.out (Keeps.setCell (F := fun k => k = x) w4 _ _ rfl) (fun k e q => ?_)
          rw [hVL] at e
          rcases hloc with h1 | ⟨k0, h1, h2⟩
          · rw [h1] at e; exact Hxr.out k e q
          · rw [h1] at e; cases e
            have := HF2.out.rest.lt x (by rw [Hfx.out.role]; rfl)
            omega
        have hfx5 : FileAt' w5 (ρ.add VL (.bytes x)) x ⟨c.bytes ++ bs, c.sure, VL⟩ := by
          refine ⟨hup _ _ Hfx.out.role, ?_, hown5, ?_, ?_, ?_⟩
          · rw [← hw5, hVL]; exact heap_setCell_same _ _ 0 _ _ _ Hh4.out
          · intro k e; show (ρ.add VL (.bytes x)) k = _; unfold Rho.add; rw [if_pos e]
          · show (c.bytes ++ bs).length ≤ _; rw [List.length_append]; exact hcb
          · show c.sure ≤ (c.bytes ++ bs).length; rw [List.length_append]; have := Hfx.out.sure; omega
        have hlt5 : ∀ k, ((ρ.add VL (.bytes x)) k).isSome = true → k < w5.heap.size := by
          intro k e
          unfold Rho.add at e
          by_cases q : VL.ownBlock = some k
          · exact (hown5.lt k q).2
          · rw [if_neg q] at e; exact Nat.lt_of_lt_of_le (HF2.out.rest.lt k e) hkr.size
        have hr := HF2.out.rest.fileSet Hc.out hkr hfx5 hup hlt5
        have hxf : f ≠ x := Rho.ne HF2.out.role Hfx.out.role (by decide)
        have hh5 : FsHd w5 f d1 := hkr.heap HF2.out.hd (fun e => by
          rcases e with e | e
          · exact hxf e
          · have := Hfx.out.rown f e; rw [HF2.out.role] at this; cases this)
        refine ⟨VL, ρ.add VL (.bytes x), ?_, ?_, ?_⟩
        · rw [Hd5.out]; rfl
        · rw [Hd5.out]; exact ⟨hup _ _ HF2.out.role, hh5, hr⟩
        · refine ⟨Hst2.out.keeps.go hkr ?_, fun k hk => ?_⟩
          · rintro i (e | e)
            · rw [e]; exact .inl (Rho.has_of Hfx.out.role)
            · exact .inl (Rho.has_of (Hfx.out.rown i e))
          · rcases Rho.add_has (w := w2) Hfx.out.rown hloc k hk with e | e
            · exact .inl e
            · exact .inr (Nat.le_trans Hst2.out.keeps.size e)
      · have hpb : (pe == 0) = false := by simpa using hp0
        have Hd5 : Hid (∀ row, appendD d n bs row = (pe, d1)) := fun row => by have := Hd4.out row; rw [this, if_neg hp0]
        go_enter Tryz.func16, Tryz.ntmps16
        go_wp2_with fail
        refine (H1.out).mono ?_; rintro e w1 ⟨rfl, hb1⟩
        have hbw1 := Hb2.out.trans (hb1.mono Hb2.out.size)
        have hbd : Below w.heap.size w w1.drew := hbw1.drew
        have HS := Lib.hid (Hs.out _ hbd)
        have hwr : IntKind.i64.wrap (room - (U : Int)) = room - (U : Int) := IntWalk.i64_in _ (by omega)
        clear hb1 hbw1
        go_upto_region 4 with fail
        refine wp_region_noPanic ?_
        refine wp_region_held_drew (S := (fun w' => w'.cell? ⟨f, 3, none⟩ = some (.int .i64 room) ∧ Hid (Below w.heap.size w w'))) (by kernel_rfl) (by first | with_reducible exact HS.out | exact Hs.out _ (by with_reducible assumption)) (fun hHeld => ?_)
        refine wpAnyH_take (i := 0) (oi := _) (v := ?_) (by simp only [List.getElem?_toArray, List.getElem?_cons_succ, List.getElem?_cons_zero]; rfl) (by kernel_rfl) (by kernel_rfl) (by kernel_rfl) (fun _ _ _ h => h) (Or.inl ⟨by rfl, ?_⟩) (by assumption) ?_
        rotate_left
        · intro w hSw; (try dsimp only at hSw); go_simp; (try with_reducible rfl)
        try simp only [Act.put, List.setIfInBounds_toArray, List.set_cons_zero, List.set_cons_succ]
        refine wpAnyH_take (i := 1) (oi := _) (v := ?_) (by simp only [List.getElem?_toArray, List.getElem?_cons_succ, List.getElem?_cons_zero]; rfl) (by kernel_rfl) (by kernel_rfl) (by kernel_rfl) (fun _ _ _ h => h) (Or.inl ⟨by rfl, ?_⟩) (by assumption) ?_
        rotate_left
        · intro w hSw; (try dsimp only at hSw); go_simp; (try with_reducible rfl)
        try simp only [Act.put, List.setIfInBounds_toArray, List.set_cons_zero, List.set_cons_succ]
        refine wpAnyH_take (i := 2) (oi := _) (v := ?_) (by simp only [List.getElem?_toArray, List.getElem?_cons_succ, List.getElem?_cons_zero]; rfl) (by kernel_rfl) (by kernel_rfl) (by kernel_rfl) (fun _ _ _ h => h) (Or.inl ⟨by rfl, ?_⟩) (by assumption) ?_
        rotate_left
        · intro w hSw; (try dsimp only at hSw); go_simp; (try with_reducible rfl)
        try simp only [Act.put, List.setIfInBounds_toArray, List.set_cons_zero, List.set_cons_succ]
        refine wpAnyH_take (i := 3) (oi := _) (v := ?_) (by simp only [List.getElem?_toArray, List.getElem?_cons_succ, List.getElem?_cons_zero]; rfl) (by kernel_rfl) (by kernel_rfl) (by kernel_rfl) (fun _ _ _ h => h) (Or.inl ⟨by rfl, ?_⟩) (by assumption) ?_
        rotate_left
        · intro w hSw; (try dsimp only at hSw); go_simp; (try with_reducible rfl)
        try simp only [Act.put, List.setIfInBounds_toArray, List.set_cons_zero, List.set_cons_succ]
        refine wpAnyH_take (i := 4) (oi := _) (v := ?_) (by simp only [List.getElem?_toArray, List.getElem?_cons_succ, List.getElem?_cons_zero]; rfl) (by kernel_rfl) (by kernel_rfl) (by kernel_rfl) (fun _ _ _ h => h) (Or.inl ⟨by rfl, ?_⟩) (by assumption) ?_
        rotate_left
        · intro w hSw; (try dsimp only at hSw); go_simp; (try with_reducible rfl)
        try simp only [Act.put, List.setIfInBounds_toArray, List.set_cons_zero, List.set_cons_succ]
        refine wpAnyH_take (i := 5) (oi := _) (v := ?_) (by simp only [List.getElem?_toArray, List.getElem?_cons_succ, List.getElem?_cons_zero]; rfl) (by kernel_rfl) (by kernel_rfl) (by kernel_rfl) (fun _ _ _ h => h) (Or.inl ⟨by rfl, ?_⟩) (by assumption) ?_
        rotate_left
        · intro w hSw; (try dsimp only at hSw); go_simp; (try with_reducible rfl)
        try simp only [Act.put, List.setIfInBounds_toArray, List.set_cons_zero, List.set_cons_succ]
        refine wpAnyH_take (i := 6) (oi := _) (v := ?_) (by simp only [List.getElem?_toArray, List.getElem?_cons_succ, List.getElem?_cons_zero]; rfl) (by kernel_rfl) (by kernel_rfl) (by kernel_rfl) (fun _ _ _ h => h) (Or.inl ⟨by rfl, ?_⟩) (by assumption) ?_
        rotate_left
        · intro w hSw; (try dsimp only at hSw); go_simp; (try with_reducible rfl)
        try simp only [Act.put, List.setIfInBounds_toArray, List.set_cons_zero, List.set_cons_succ]
        refine wpAnyH_ready (rs := [7]) (by kernel_rfl) (by simp) ?_
        refine AllReadyH.cons (o := _) (by simp only [List.getElem?_toArray, List.getElem?_cons_succ, List.getElem?_cons_zero]; rfl) (fun K hK => ?_) AllReadyH.nil
        go_simp
        go_at_call 35; refine (Hu.out _ hbd).mono ?_; rintro e wu ⟨rfl, hbu⟩; have hbU := hbd.trans (hbu.mono hbd.size)
        refine hK.out _ _ (by (try dsimp only); first | with_reducible exact HS.out | exact Hs.out _ (by with_reducible assumption)) (fun hHeld => ?_)
        clear hK K
        try simp only [Act.put, List.setIfInBounds_toArray, List.set_cons_zero, List.set_cons_succ]
        refine wpAnyH_take (i := 8) (oi := _) (v := ?_) (by simp only [List.getElem?_toArray, List.getElem?_cons_succ, List.getElem?_cons_zero]; rfl) (by kernel_rfl) (by kernel_rfl) (by kernel_rfl) (fun _ _ _ h => h) (Or.inl ⟨by rfl, ?_⟩) (by assumption) ?_
        rotate_left
        · intro w hSw; (try dsimp only at hSw); go_simp; (try with_reducible rfl)
        try simp only [Act.put, List.setIfInBounds_toArray, List.set_cons_zero, List.set_cons_succ]
        refine wpAnyH_take (i := 9) (oi := _) (v := ?_) (by simp only [List.getElem?_toArray, List.getElem?_cons_succ, List.getElem?_cons_zero]; rfl) (by kernel_rfl) (by kernel_rfl) (by kernel_rfl) (fun _ _ _ h => h) (Or.inl ⟨by rfl, ?_⟩) (by assumption) ?_
        rotate_left
        · intro w hSw; (try dsimp only at hSw); go_simp; (try with_reducible rfl)
        try simp only [Act.put, List.setIfInBounds_toArray, List.set_cons_zero, List.set_cons_succ]
        refine wpAnyH_take (i := 10) (oi := _) (v := ?_) (by simp only [List.getElem?_toArray, List.getElem?_cons_succ, List.getElem?_cons_zero]; rfl) (by kernel_rfl) (by kernel_rfl) (by kernel_rfl) (fun _ _ _ h => h) (Or.inl ⟨by rfl, ?_⟩) (by assumption) ?_
        rotate_left
        · intro w hSw; (try dsimp only at hSw); go_simp; (try with_reducible rfl)
        try simp only [Act.put, List.setIfInBounds_toArray, List.set_cons_zero, List.set_cons_succ]
        refine wpAnyH_done (by kernel_rfl) ?_ _
        refine NoPanic.normal ?_
        clear HS Hs
        have hp := Hp.out wu hbU
        have Hp1 := Lib.hid hp
        have HbU := Lib.hid hbU
        clear hp hbU hbd hbu hwr
        go_wp2_with fail
        refine (Hp1.out).mono ?_; rintro e w2 ⟨rfl, hF2, hk2⟩
        go_wp2
        go_ret
        refine ⟨d.lv, ρ, ?_, ?_, (FsStep.below HbU.out).trans (FsStep.one H.out.role hk2)⟩
        · rw [Hd5.out]; rfl
        · rw [Hd5.out]; exact hF2
  · have h0' : (e == 0) = false := by simpa using h0
    obtain ⟨pv, hpv⟩ : ∃ pv, ptrOf (foundD d n []).1 = pv := ⟨_, rfl⟩
    rw [he, hpv] at h1
    have Hd2 : Hid (∀ row, appendD d n bs row = (e, d)) := fun row => by have := Hd.out row; rw [this, if_neg h0]
    have H1 := Lib.hid h1
    clear h1 he hpv hnh3 hb2
    subst hW2
    go_enter Tryz.func16, Tryz.ntmps16
    go_wp2_with fail
    refine (H1.out).mono ?_; rintro e w1 ⟨rfl, hb1⟩
    have hbw1 := Hb2.out.trans (hb1.mono Hb2.out.size)
    go_wp2
    go_ret
    refine ⟨d.lv, ρ, ?_⟩
    rw [Hd2.out]
    exact ⟨rfl, H.out.below hbw1, FsStep.below hbw1⟩
end Go.Proofs.YtffnbkmigapmjaaGreatDoor
